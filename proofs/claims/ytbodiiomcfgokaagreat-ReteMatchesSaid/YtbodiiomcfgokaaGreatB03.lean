import Derived.Test.YtbodiiomcfgokaaGreatB02
import Derived.LaidEqlPtr
open Array (getD_eq_getD_getElem? getElem?_eq_none replicate toList_inj)
open Bool (and_eq_true cond_eq_ite false_eq_true not_eq_true' or_eq_false_iff)
open List (all_eq_true getElem?_eq_getElem length_cons map_cons mem_append mem_append_left mem_cons mem_filter mem_filterMap mem_map mem_of_getElem? mem_singleton nodup_cons range')
open Nat (beq ble ble_eq blt le_refl le_trans lt_of_lt_of_le lt_or_ge not_lt)
open Go.Result (andThen_ok)
open Go.Sem (run_bind run_pure)
set_option linter.all false
namespace Go.aP
open Go.RowKit
def QW(C:Ctx)(fz ws:List Nat)(st:St)(Q:Exit->St->UW->Prop)(e:Exit)(a':Act)(GI:World):Prop:=
 ∃bV u' θ',Inv C a' GI bV u' θ'/\cD C.n fz ws st bV/\Q e bV u'
theorem getD_some{a:Array Value}{g n:Nat}(hs:a.size=n)(hg:g<n):a[g]?=some (a.getD g undef):=by
 rw[getD_eq_getD_getElem?,Array.getElem?_eq_getElem (by omega)];rfl
theorem uF{σ:Fr}{t:Nat}{v:Value}(h:σ t=v):iM σ t v=σ:=by
 funext i;by_cases e:i=t
 ·subst e;rw[eT,h]
 ·rw[cj _ _ e]
section
variable {P:Program} {ops:Array Oper} {Q:Exit->Act->World->Prop} {S:World->Prop}
def kt(P:Program)(ops:Array Oper)(Q:Exit->Act->World->Prop)(i:Nat)(K:Act->World->Prop)(a:Act)(w:World):Prop:=
 match ops[i]? with
 |none=>K a w
 |some o=>if Region.wanted o (yielded ops a.tmps)then o.uponIn Fence.wide 0 P a K Q ((execOp a.eval o).run P w)else K (a.put o.dst undef) w
theorem ng{o:Oper}{a:Act}{K K':Act->World->Prop}{r:Result Next}(h:∀a w,K a w->K' a w)(hh:o.uponIn Fence.wide 0 P a K Q r):o.uponIn Fence.wide 0 P a K' Q r:=by
 cases r with
 |halt x w=>cases x<;>exact hh
 |ok x w=>
  cases x<;>simp only[Oper.uponIn]at hh |-
  case value v=>exact h _ _ hh
  case skip=>exact h _ _ hh
  case defer d=>exact h _ _ hh
  case enter f args=>exact⟨hh.1,hh.2.mono λe w' he=>by cases e<;>first|exact h _ _ he|exact he⟩
  case row r args=>exact⟨hh.1,hh.2.mono λv w' he=>h _ _ he⟩
  case round l f t x y=>exact⟨hh.1,hh.2.mono λe w' he=>by cases e<;>first|exact h _ _ he|exact he⟩
theorem sH{i:Nat}{a:Act}{w:World}{K K':Act->World->Prop}(h:∀a w,K a w->K' a w)(hh:kt P ops Q i K a w):kt P ops Q i K' a w:=by
 unfold kt at*
 cases ho:ops[i]? with
 |none=>simp only[ho]at hh |-;exact h _ _ hh
 |some o=>
  simp only[ho]at hh |-;split<;>rename_i hw<;>simp only[hw,if_true,if_false,false_eq_true]at hh
  ·exact ng h hh
  ·exact h _ _ hh
theorem Ln{i:Nat}{o:Oper}{v:Value}{a:Act}{K:Act->World->Prop}{w:World}(hi:ops[i]?=some o)(hy:YieldsIf P ops S o v a)(hS:S w)(h:K (a.put o.dst v) w):kt P ops Q i K a w:=by
 unfold kt;simp only[hi];rcases hy with⟨hw,hv⟩|⟨hw,rfl⟩
 ·rw[if_pos hw,hv w hS];exact h
 ·rw[if_neg (by simp[hw])];exact h
theorem CX{j:Nat}{oi oj:Oper}{v:Value}{K:Act->World->Prop}{a:Act}{w:World}(hj:ops[j]?=some oj)(Pp:oi.apart ops oj=true)
  (hsi:∀cs b,oi.op≠ .select cs b) (hsj:∀cs b,oj.op≠ .select cs b) (hQ:∀c a w,Q (.panic c) (a.put oi.dst v) w->Q (.panic c) a w)
  (hy:YieldsIf P ops S oi v a) (h:kt P ops Q j K (a.put oi.dst v) w):kt P ops Q j (λa' w'=>YieldsIf P ops S oi v a'/\K (a'.put oi.dst v) w') a w:=by
 obtain⟨h1,h2,h3⟩:=Oper.apart_spec Pp;have st:∀(b:Act) (x:Value),YieldsIf P ops S oi v b->YieldsIf P ops S oi v (b.put oj.dst x):=λb x hb=>hb.of_same (execOp_put oi hsi b oj.dst x h3) (wanted_put oi b oj.dst x h3);have both:∀(x:Value) (w':World),K ((a.put oi.dst v).put oj.dst x) w'->YieldsIf P ops S oi v (a.put oj.dst x)/\K ((a.put oj.dst x).put oi.dst v) w':=
  λx w' hk=>⟨st a x hy,by rw[<- Act.put_comm a v x h2];exact hk⟩
 unfold kt at h |-;simp only[hj,wanted_put oj a oi.dst v h1,execOp_put oj hsj a oi.dst v h1]at h |-;split<;>rename_i hw<;>simp only[hw,if_true,if_false,false_eq_true]at h
 ·cases hr:(execOp a.eval oj).run P w with
  |halt x w'=>
   rw[hr]at h;cases x<;>simp only[Oper.uponIn]at h |-;exact hQ _ _ _ h
  |ok x w'=>
   rw[hr]at h;cases x<;>simp only[Oper.uponIn]at h |-
   case value x=>exact both x w' h
   case skip=>exact both undef w' h
   case defer d=>
    refine⟨st _ _ (hy.of_same rfl rfl),?_⟩;rw[<- Act.put_comm _ v undef h2,<- Act.put_defers];exact h
   case enter f args=>
    exact⟨h.1,h.2.mono λe w'' he=>by cases e<;>first|exact both _ _ he|exact hQ _ _ _ he|exact he⟩
   case row r args=>exact⟨h.1,h.2.mono λx w'' he=>both x w'' he⟩
   case round l f t x y=>
    exact⟨h.1,h.2.mono λe w'' he=>by cases e<;>first|exact both _ _ he|exact hQ _ _ _ he|exact he⟩
 ·exact both undef w h
def Fw(ro:Option (Nat×Loop)):Fence:={Fence.wide with round:=ro.map (·.1)}
theorem Jp(ro:Option (Nat×Loop)){o:Oper}{a:Act}{K:Act->World->Prop}{r:Result Next}(h:o.uponIn Fence.wide 0 P a K Q r):o.uponIn (Fw ro) 0 P a K Q r:=by
 cases r with
 |halt x w=>cases x<;>exact h
 |ok x w=>cases x<;>exact h
theorem uD(ro:Option (Nat×Loop)){o:Oper}{a:Act}{w:World}{K:Act->World->Prop}(hd:∀c,o.op≠ .defer c)(h:o.uponIn Fence.wide 0 P a K Q ((execOp a.eval o).run P w)):o.wpIn (Fw ro) 0 P a w K Q:=
 ⟨λ_ _=>trivial,by rw[Oper.semAt_eq _ _ _ hd];exact Jp ro h⟩
theorem GH(ro:Option (Nat×Loop)){i:Nat}{a:Act}{w:World}{K:Act->World->Prop}(hd:∀(j:Nat) (o:Oper) c,ops[j]?=some o->o.op≠ .defer c)(h:kt P ops Q i K a w):wpOpIn (Fw ro) 0 P ops Q i K a w:=by
 unfold kt at h;unfold wpOpIn;cases ho:ops[i]? with
 |none=>simp only[ho]at h |-;exact h
 |some o=>
  simp only[ho]at h |-;split<;>rename_i hw<;>simp only[hw,if_true,if_false,false_eq_true]at h
  ·exact uD ro (λc=>hd i o c ho) h
  ·exact⟨λ_ _=>trivial,h⟩
def wK(P:Program)(ops:Array Oper)(Q:Exit->Act->World->Prop)(S:World->Prop):Nat->Array Bool->Act->World->Prop
 |0,af,a,w=>Region.ready .any ops af=[]/\Q .normal a w
 |fuel+1,af,a,w=>
  (Region.ready .any ops af=[]->Q .normal a w)/\
  ∀i∈Region.ready .any ops af,kt P ops Q i (λa' w'=>(late ops i=true->S w->S w')/\wK P ops Q S fuel (af.setIfInBounds i true) a' w') a w
theorem sI(ro:Option (Nat×Loop))(hd:∀(j:Nat) (o:Oper) c,ops[j]?=some o->o.op≠ .defer c):∀(fuel:Nat) (af:Array Bool) (a:Act) (w:World),wK P ops Q S fuel af a w->wpAnyIn (Fw ro) 0 P .any ops Q fuel af a w
 |0,_,_,_,h=>h
 |fuel+1,_,_,_,h=>⟨h.1,λi hi=>wpOpIn_mono (λa' w' h'=>sI ro hd fuel _ a' w' h'.2) (GH ro hd (h.2 i hi))⟩
def Cl(ops:Array Oper)(af:Array Bool):Prop:=∀y oy,ops[y]?=some oy->af.getD y false=true->∀e∈oy.after,Region.binds .any e=true->af.getD e.on false=true
theorem Cl.none(ops:Array Oper)(n:Nat):Cl ops (replicate n false):=by
 intro y oy _ h;rw[getD_eq_getD_getElem?,Array.getElem?_replicate]at h;split at h<;>simp at h
theorem Cl.set{af:Array Bool}{i:Nat}(h:Cl ops af)(hi:i∈Region.ready .any ops af):Cl ops (af.setIfInBounds i true):=by
 have mono:∀x,af.getD x false=true->(af.setIfInBounds i true).getD x false=true:=by
  intro x hx;by_cases hix:i=x
  ·subst hix;have:i<af.size:=by
    rcases lt_or_ge i af.size with h'|h'
    ·exact h'
    ·rw[getD_eq_getD_getElem?,getElem?_eq_none h']at hx;cases hx
   simp[getD_eq_getD_getElem?,this]
  ·rw[getD_set_ne false hix];exact hx
 intro y oy hy hl e he hb;by_cases hiy:i=y
 ·subst hiy;obtain⟨_,oj,gM,fR⟩:=mem_ready.1 hi;rw[gM]at hy;cases hy;exact mono _ (fR e he hb)
 ·rw[getD_set_ne false hiy]at hl;exact mono _ (h y oy hy hl e he hb)
theorem Cl.sf{af:Array Bool}{j:Nat}(h:Cl ops af)(hl:af.getD j false=true):∀x∈sf ops j,af.getD x false=true:=by
 intro x hx;unfold aP.sf at hx;split at hx
 ·cases hx
 ·rename_i o ho;obtain⟨e,he,rfl⟩:=mem_map.1 hx;rw[mem_filter]at he;exact h j o ho hl e (by simpa using he.1) he.2
theorem Cl.yo{af:Array Bool}(h:Cl ops af):∀(n:Nat) (S:List Nat),(∀x∈S,af.getD x false=true)->∀x∈yo ops n S,af.getD x false=true
 |0,_,hS=>hS
 |n+1,S,hS=>by
  simp only[aP.yo]
  refine Cl.yo h n _ ?_
  cases hm:cM S n with
  |false=>exact hS
  |true=>
   intro x hx
   simp only[cond_true,mem_append]at hx
   exact hx.elim (h.sf (hS n (dR.1 hm)) x) (hS x)
theorem UM{i j:Nat}{oi:Oper}{af:Array Bool}(hY:Cl ops af)(hi:ops[i]?=some oi)(hti:reads oi=true)(hir:i∈Region.ready .any ops af)(hjr:j∈Region.ready .any ops af)(aQ:j≠i):late ops j=true:=by
 unfold late QM;rw[List.any_eq_true];refine⟨i,List.mem_range.2 (Array.getElem?_eq_some_iff.1 hi).1,?_⟩;simp only[Av,hi,hti,Bool.and_true,and_eq_true,not_eq_true'];refine⟨?_,?_⟩
 ·cases h:beq i j with
  |false=>rfl
  |true=>exact absurd (beq_iff.1 h).symm aQ
 ·cases hp:cM (Tf ops j) i with
  |false=>rfl
  |true=>
   exfalso;obtain⟨_,oj,gM,fR⟩:=mem_ready.1 hjr;have h0:=(mem_ready.1 hir).1;have hl:af.getD i false=true:=by
    refine hY.yo ops.size (sf ops j) (λx hx=>?_) i (dR.1 hp);unfold sf at hx;simp only[gM]at hx;obtain⟨e,he,rfl⟩:=mem_map.1 hx;rw[mem_filter]at he;exact fR e (by simpa using he.1) he.2
   rcases lt_or_ge i af.size with h'|h'
   ·simp[h']at h0 hl;rw[h0]at hl;cases hl
   ·rw[getD_eq_getD_getElem?,getElem?_eq_none h']at hl;cases hl
theorem uE{i:Nat}{oi:Oper}{v:Value}(hi:ops[i]?=some oi)(vn:∀(j:Nat) (o:Oper) cs b,ops[j]?=some o->o.op≠ .select cs b)
  (hQ:∀c a w,Q (.panic c) (a.put oi.dst v) w->Q (.panic c) a w):
  ∀(fuel:Nat) (af:Array Bool) (a:Act) (w:World),
   (∀j oj,ops[j]?=some oj->j≠i->af.getD j true=false->(∀e∈oj.after,Region.binds .any e=true->e.on≠i)->oi.apart ops oj=true)->
   Cl ops af->i∈Region.ready .any ops af->YieldsIf P ops (λw=>reads oi=true->S w) oi v a->(reads oi=true->S w)->
   wK P ops Q S fuel (af.setIfInBounds i true) (a.put oi.dst v) w->wK P ops Q S (fuel+1) af a w:=by
 intro fuel;induction fuel with
 |zero=>
  intro af a w _ _ hr hy hS H;refine⟨λh=>(by rw[h]at hr;cases hr),λj hj=>?_⟩;by_cases hji:j=i
  ·subst hji;exact Ln hi hy hS ⟨λ_ h=>h,H⟩
  ·have:=ready_mono hj hji;rw[H.1]at this;cases this
 |succ fuel ih=>
  intro af a w jP hY hr hy hS H;refine⟨λh=>(by rw[h]at hr;cases hr),λj hj=>?_⟩;by_cases hji:j=i
  ·subst hji;exact Ln hi hy hS ⟨λ_ h=>h,H⟩
  ·have h1:=H.2 j (ready_mono hj hji);obtain⟨Rv,oj,gM,fR⟩:=mem_ready.1 hj;have HN:∀e∈oj.after,Region.binds .any e=true->e.on≠i:=λe he hb heq=>by
    have h1:=fR e he hb;have h0:=(mem_ready.1 hr).1;rw[heq]at h1;rcases lt_or_ge i af.size with h'|h'
    ·simp[h']at h0 h1;rw[h0]at h1;cases h1
    ·simp[getElem?_eq_none h']at h1
   have h2:=CX gM (jP j oj gM hji Rv HN) (λcs b=>vn i oi cs b hi) (λcs b=>vn j oj cs b gM) hQ hy h1;have Fk:∀k ok,ops[k]?=some ok->k≠i->(af.setIfInBounds j true).getD k true=false->
     (∀e∈ok.after,Region.binds .any e=true->e.on≠i)->oi.apart ops ok=true:=λk ok hk hki hun cQ=>by
    refine jP k ok hk hki ?_ cQ;by_cases hjk:j=k
    ·subst hjk;exact Rv
    ·rw[getD_set_ne true hjk]at hun;exact hun
   refine sH (λa' w' h3=>⟨h3.2.1,ih (af.setIfInBounds j true) a' w' Fk (hY.set hj) (ready_mono hr (Ne.symm hji)) h3.1 (λdS=>h3.2.1 (UM hY hi dS hr hj hji) (hS dS)) ?_⟩) h2;rw[Array.setIfInBounds_comm _ _ hji];exact h3.2.2
end
section
variable {E:Env} {C:Ctx} {a:Act} {wa:World} {st:St} {u u0:UW} {θ:Nat->Nat} {fz:List Nat} {o:Oper} {K:St->UW->Prop}
structure kD(u0:UW)(st:St)(θ:Nat->Nat)(w:World):Prop where
 Cq:xT u0.toWorld w
 boxes:∀k m,(k,m)∈st.D->∃c T,w.heap[θ k]?=some (.cells c T (0,0))/\c.size=m/\∀j,j<m->R θ (st.σ (gx k j)) (c.getD j undef)
def Tk(E:Env)(a:Act)(o:Oper)(st:St)(u0:UW)(θ:Nat->Nat)(K:St->UW->Prop):Prop:=
 ∃v r,R θ v r/\(∀k o,v=dK k o->∃m,(k,m)∈st.D)/\K (fin o st v) u0/\∀w,(reads o=true->kD u0 st θ w)->(execOp a.eval o).run E.P w=.ok (.value r) w
theorem yX{v:Value}(hp:plain v=true)(hK:K (fin o st v) u0)(hr:∀w,(reads o=true->kD u0 st θ w)->(execOp a.eval o).run E.P w=.ok (.value v) w):Tk E a o st u0 θ K:=
 ⟨v,v,oJ hp,λk o e=>absurd e (jL hp k o),hK,hr⟩
theorem Ep{k off:Nat}(hm:∃m,(k,m)∈st.D)(hK:K (fin o st (dK k off)) u0)(hr:∀w,(reads o=true->kD u0 st θ w)->(execOp a.eval o).run E.P w=.ok (.value (.pointer (some ⟨θ k,off,none⟩))) w):Tk E a o st u0 θ K:=
 ⟨dK k off,_,rfl,λk' o' e=>(by simp only[Value.complex.injEq,true_and]at e;rw[<- e.1];exact hm),hK,hr⟩
theorem TW{t:TypeId}{x:Operand}{lo hi mx:Option Operand}
  (h:match E.P.underlying t,ev st.σ x with
   |some (.slice e),.slice b len cap=>(match dt (ev st.σ) lo 0,dt (ev st.σ) hi len,dt (ev st.σ) mx cap with
    |some l,some h,some m=>(bif (mx.isSome&&hi.isNone)||(E.P.info? e).isNone then False else(m.toNat=l.toNat\/gZ b)/\0<=l/\l<=h/\h<=m/\m<=cap/\K (fin o st (.slice (yY b l.toNat m.toNat (E.P.cellsOf e)) (h.toNat-l.toNat) (m.toNat-l.toNat))) u0)
    |_,_,_=>False)
   |some .string,.string s=>(match mx with
    |some _=>False
    |none=>match dt (ev st.σ) lo 0,dt (ev st.σ) hi s.size with
     |some l,some h=>0<=l/\l<=h/\h<=s.size/\K (fin o st (.string (s.extract l.toNat h.toNat))) u0
     |_,_=>False)
   |_,_=>False) (ho:o.op=.slice t x lo hi mx) (aI:br C.n o=true) (hI:Inv C a wa st u θ):Tk E a o st u0 θ K:=by
 have hx:cZ C.n x=true:=kY aI (by simp[ho,Op.operands]);have kQ:∀y k i,(lo=some y\/hi=some y\/mx=some y)->ev st.σ y=.int k i->a.eval y=.int k i:=by
  intro y k i hy he;refine bf hI (kY aI ?_) he rfl;rcases hy with rfl|rfl|rfl<;>simp[ho,Op.operands]
 split at h
 ·rename_i e b len cap hu he;split at h
  ·rename_i l h' m hl hh hm;cases vr:(mx.isSome&&hi.isNone)||(E.P.info? e).isNone with
   |true=>simp only[vr,cond_true]at h
   |false=>
    simp only[vr,cond_false]at h;simp only[or_eq_false_iff]at vr;obtain⟨RJ,CB⟩:=vr;obtain⟨i,tD⟩:∃i,E.P.info? e=some i:=by cases hq:E.P.info? e<;>simp_all
    obtain⟨hns,h0,h1,h2,h3,hK⟩:=h;refine yX rfl hK λw _=>?_;simp only[execOp,ho,bf hI hx he rfl,run_bind,Instr.sliceAt,aS hu,andThen_ok,Instr.slice,nZ kQ hl hh hm RJ h0 h1 h2 h3,cB tD,run_pure];congr 3;unfold yY;split
    ·rfl
    ·rename_i pG;cases b with
     |none=>rfl
     |some b=>
      simp only[Option.map_some,Option.some.injEq];unfold Addr.add;split
      ·rename_i Xs;obtain⟨bb,bo,bs⟩:=b;have:=(hns.resolve_left pG) _ rfl;simp only at this;subst this;simp[Xs]
      ·rfl
  ·exact h.elim
 ·rename_i s hu he;cases mx with
  |some _=>exact h.elim
  |none=>
   simp only at h;split at h
   ·rename_i l h' hl hh;obtain⟨h0,h1,h2,hK⟩:=h;refine yX rfl hK λw _=>?_;have hb:=nZ (P:=E.P) (w:=w) (isS:=false) (len:=s.size) (cap:=s.size) (mx:=none) (m:=s.size) (λy k i hy=>kQ y k i (by rcases hy with h|h|h;exact .inl h;exact .inr (.inl h);cases h)) hl hh rfl (by simp) h0 h1 h2 (by omega);simp only[execOp,ho,bf hI hx he rfl,run_bind,Instr.sliceAt,aS hu,andThen_ok,Instr.slice];simp only[Option.map_none]at hb;simp only[Option.map_none,Option.isSome_none,false_eq_true,if_false,run_bind,hb,andThen_ok,run_pure]
   ·exact h.elim
 ·exact h.elim
theorem abL{t:TypeId}{x:Operand}{f:Nat}
  (h:match ev st.σ x with
   | .agg cs=>(match CF E.P t f cs.toList with
     |some v=>bif plain v then K (fin o st v) u0 else False
     |none=>False)
   |_=>False) (ho:o.op=.field t x f) (aI:br C.n o=true) (hI:Inv C a wa st u θ):Tk E a o st u0 θ K:=by
 have hx:cZ C.n x=true:=kY aI (by simp[ho,Op.operands]);split at h
 ·rename_i cs he;cases hv:CF E.P t f cs.toList with
  |none=>simp only[hv]at h
  |some v=>
   simp only[hv]at h;obtain⟨kZ,h⟩:=aq h;refine yX kZ h λw _=>?_;unfold CF at hv;cases hu:E.P.underlying t with
   |none=>simp[hu]at hv
   |some D=>
    cases D<;>simp only[hu]at hv<;>try (cases hv;done)
    rename_i fs;cases hf:fs[f]? with
    |none=>simp[hf]at hv
    |some y=>
     simp only[hf,cond_eq_ite,and_eq_true,ble_eq]at hv;split at hv
     ·rename_i hc;obtain⟨hi,hle⟩:=hc;obtain⟨d,WR⟩:=Option.isSome_iff_exists.1 hi;simp only[execOp,ho,bf hI hx he rfl,Instr.field,run_bind,aS hu,andThen_ok,hf,asAgg,run_pure];split at hv
      ·rename_i mK;simp only[Option.some.injEq]at hv;rw[gp WR mK,<- hv];simp only[andThen_ok];congr 3;apply toList_inj.1;rw[Array.toList_extract,List.extract_eq_take_drop];simp
      ·rename_i mK;simp only[Bool.not_eq_true]at mK;rw[iA WR mK (v:=v) (by simpa using hv)];rfl
     ·cases hv
 ·exact h.elim
theorem afX{b:Builtin}{args:Array Operand}{ts:Array TypeId}(ht:bx o=true)(h:W1b E o st u0 b args.toList ts.toList K)(ho:o.op=.call ⟨.builtin b,args,ts⟩)(aI:br C.n o=true)(hI:Inv C a wa st u θ):Tk E a o st u0 θ K:=by
 have ka:∀x∈args.toList,cZ C.n x=true:=λx hx=>kY aI (by simp[ho,Op.operands,Call.operands];simpa using hx);obtain⟨args⟩:=args;obtain⟨ts⟩:=ts;simp only at h ka;unfold W1b at h;split at h
 ·rename_i x t;have kx:=ka x (by simp);split at h
  ·rename_i n c hu he;refine yX rfl h λw _=>?_;refine cG (s:=Builtin.len_ #[t] o.type #[a.eval x]) ho (λ_=>by simp[builtin]) ?_;simp[Builtin.len_,aS hu,bf hI kx he rfl,goInt]
  ·rename_i s hu he;refine yX rfl h λw _=>?_;refine cG (s:=Builtin.len_ #[t] o.type #[a.eval x]) ho (λ_=>by simp[builtin]) ?_;simp[Builtin.len_,aS hu,bf hI kx he rfl,goInt]
  ·rename_i n e hu;obtain⟨_,h⟩:=aq h;refine yX rfl h λw _=>?_;refine cG (s:=Builtin.len_ #[t] o.type #[a.eval x]) ho (λ_=>by simp[builtin]) ?_;simp[Builtin.len_,aS hu,goInt]
  ·exact h.elim
 ·rename_i x y t t';simp[bx,ho]at ht
 ·split at h
  ·rename_i k i is hi;refine yX rfl h λw _=>?_;obtain⟨he,_⟩:=vk hI ka hi;refine cG (s:=(is.map (Value.int k)).foldlM Builtin.min2 (.int k i)) ho (λ_=>?_) (ED is i);simp only[builtin,Builtin.min_,List.map_toArray,he,map_cons]
  ·exact h.elim
 ·split at h
  ·rename_i k i is hi;refine yX rfl h λw _=>?_;obtain⟨he,_⟩:=vk hI ka hi;refine cG (s:=(is.map (Value.int k)).foldlM Builtin.max2 (.int k i)) ho (λ_=>?_) (EE is i);simp only[builtin,Builtin.max_,List.map_toArray,he,map_cons]
  ·exact h.elim
 ·exact h.elim
theorem MV(ht:bx o=true)(aI:br C.n o=true)(hI:Inv C a wa st u θ)(h:W1 E fz o st u0 K):Tk E a o st u0 θ K:=by
 have Gu:∀{x:Operand},x∈o.op.operands->cZ C.n x=true:=λhx=>kY aI hx;cases ho:o.op with
 |move x=>
  simp only[W1,ho]at h;have hx:=Gu (x:=x) (by simp[ho,Op.operands]);exact⟨_,_,FD hI hx,λk o' e=>(kA hI hx e).2,h,λw _=>by simp[execOp,ho]⟩
 |assign x=>
  simp only[W1,ho]at h;have hx:=Gu (x:=x) (by simp[ho,Op.operands]);exact⟨_,_,FD hI hx,λk o' e=>(kA hI hx e).2,h,λw _=>by simp[execOp,ho]⟩
 |pick c x y=>
  simp only[W1,ho]at h;have hx:=Gu (x:=x) (by simp[ho,Op.operands]);have hy:=Gu (x:=y) (by simp[ho,Op.operands]);have hc:=Gu (x:=c) (by simp[ho,Op.operands]);split at h
  ·rename_i t hct;have hec:=bf hI hc hct rfl;cases t with
   |true=>exact⟨_,_,FD hI hx,λk o' e=>(kA hI hx e).2,h,λw _=>by simp[execOp,ho,hec,asBool]⟩
   |false=>exact⟨_,_,FD hI hy,λk o' e=>(kA hI hy e).2,h,λw _=>by simp[execOp,ho,hec,asBool]⟩
  ·exact h.elim
 |build t ps=>
  simp only[W1,ho]at h;obtain⟨hp,h⟩:=aq h;have hx:∀x∈ps.toList,cZ C.n x.2=true:=λx hx=>kY aI (by simp only[ho,Op.operands];simp only[List.mem_toArray,mem_map];exact⟨x,hx,rfl⟩);cases hb:Wa E.P t (ps.toList.map λp=>(p.1,ev st.σ p.2))with
  |none=>simp only[hb]at h
  |some vs=>
   simp only[hb]at h;refine yX rfl h λw _=>?_;have e:=uY hI hx hp;simp only[execOp,ho,e,run_bind];rw[run_build (r:=vs) (by simpa using hb)];rfl
 |load t x=>
  simp only[W1,ho]at h;have hx:=Gu (x:=x) (by simp[ho,Op.operands]);cases hk:kinds E.P t with
  |none=>simp only[hk]at h
  |some ks=>
   simp only[hk]at h;obtain⟨zb,⟨d,hu⟩,tB⟩:=lJ hk;split at h
   ·rename_i k off he;cases hb:eR st.D k with
    |none=>simp only[hb]at h
    |some m=>
     simp only[hb]at h;obtain⟨hc,h⟩:=aq h;simp only[and_eq_true,ble_eq]at hc;obtain⟨h1,h2⟩:=hc;have hp:=nL h2;have kQ:=(kA hI hx he).1;refine yX (nv hp (tB.imp id λh=>by rw[sX];exact h)) h λw hw=>?_;obtain⟨c,T,b1,b2,b3⟩:=(hw (by simp[reads,ho])).boxes k m (jQ hb);have Bl:=gV b2 b3 ks.length off h1 hp;simp only[execOp,ho,kQ,Instr.loadAt,Instr.sureAddr,run_bind,run_pure,andThen_ok];rw[ig hk b1 (by omega),Bl];rfl
   ·obtain⟨b,off,hv,h⟩:=gk h;obtain⟨vs,hlen,hp,dS,h⟩:=qC h;have kQ:=bf hI hx hv rfl;by_cases hz:ks.length=0
    ·have mK:di E.P t=true:=tB.resolve_right (by omega);have Fg:vs=[]:=List.eq_nil_of_length_eq_zero (by omega);subst Fg;obtain⟨i,hi⟩:=gL hu;refine yX (by rw[mK];rfl) h λw _=>?_;simp only[execOp,ho,kQ,Instr.loadAt,Instr.sureAddr,run_bind,run_pure,andThen_ok,loadVar,kX hu,mK,if_true,cB hi,<- zb,hz];rfl
    ·refine yX (nv hp (tB.imp id λh=>by omega)) h λw hw=>?_;obtain⟨c,T,f,c1,c2,c3⟩:=uT (hw (by simp[reads,ho])).Cq dS hz;simp only[execOp,ho,kQ,Instr.loadAt,Instr.sureAddr,run_bind,run_pure,andThen_ok];rw[ig hk c1 c2,<- c3];rfl
 |nilCheck x=>
  simp only[W1,ho]at h;have hx:=Gu (x:=x) (by simp[ho,Op.operands]);split at h
  ·rename_i k off he;obtain⟨kQ,hm⟩:=kA hI hx he;exact Ep hm h λw _=>by simp[execOp,ho,kQ]
  ·rename_i p he;have kQ:=bf hI hx he rfl;cases p with
   |none=>exact h.elim
   |some p=>exact yX rfl h λw _=>by simp[execOp,ho,kQ]
  ·rename_i f p q he;have kQ:=bf hI hx he rfl;cases f with
   |method n=>exact h.elim
   |_=>exact yX rfl h (λw _=>by simp[execOp,ho,kQ])
  ·exact h.elim
 |binOp op t x y t'=>
  simp only[W1,ho]at h;have hx:=Gu (x:=x) (by simp[ho,Op.operands]);have hy:=Gu (x:=y) (by simp[ho,Op.operands]);obtain⟨px,py,v,hp,hK,fR⟩:=BG h x y;refine yX hp hK λw _=>?_;simp only[execOp,ho];rw[nJ hI hx px,nJ hI hy py];rw[run_bind,fR w];rfl
 |unOp op t x=>
  simp only[W1,ho]at h;have hx:=Gu (x:=x) (by simp[ho,Op.operands]);split at h
  ·rename_i b he;exact yX rfl h λw _=>by simp[execOp,ho,bf hI hx he rfl,Op.unary]
  ·rename_i k n he;exact yX rfl h λw _=>by simp[execOp,ho,bf hI hx he rfl,Op.unary,Op.intArith]
  ·exact h.elim
 |convert s d x=>
  simp only[W1,ho]at h;have hx:=Gu (x:=x) (by simp[ho,Op.operands]);obtain⟨hp,h⟩:=aq h;cases hv:pv E.P (convert s d (ev st.σ x))with
  |none=>simp only[hv]at h
  |some v=>
   simp only[hv]at h;obtain⟨kZ,h⟩:=aq h;refine yX kZ h λw _=>?_;simp only[execOp,ho,nJ hI hx hp,run_bind,wZ hv w];rfl
 |makeInterface t x=>
  simp only[W1,ho]at h;have hx:=Gu (x:=x) (by simp[ho,Op.operands]);obtain⟨hp,h⟩:=aq h;cases hv:pv E.P (Instr.makeInterface t (ev st.σ x))with
  |none=>simp only[hv]at h
  |some v=>
   simp only[hv]at h;obtain⟨kZ,h⟩:=aq h;refine yX kZ h λw _=>?_;simp only[execOp,ho,nJ hI hx hp,run_bind,wZ hv w];rfl
 |makeFunc fn first captured=>
  simp only[W1,ho]at h;obtain⟨hc,h⟩:=aq h;simp only[and_eq_true]at hc;have h1:∀x∈first.toList,cZ C.n x=true:=λx hx=>kY aI (by simp[ho,Op.operands];left;simpa using hx);have h2:∀x∈captured.toList,cZ C.n x=true:=λx hx=>kY aI (by simp[ho,Op.operands];right;simpa using hx);refine yX rfl h λw _=>?_;simp only[execOp,ho,rv hI h1 hc.1,rv hI h2 hc.2,Instr.makeFunc];rfl
 |slice t x lo hi mx=>
  simp only[W1,ho]at h;exact TW h ho aI hI
 |fieldAddr t x f=>
  simp only[W1,ho]at h;have hx:=Gu (x:=x) (by simp[ho,Op.operands]);cases hd:CH E.P t f with
  |none=>simp only[hd]at h
  |some d=>
   simp only[hd]at h;split at h
   ·rename_i k off he;obtain⟨kQ,hm⟩:=kA hI hx he;exact Ep hm h λw _=>by simp only[execOp,ho,kQ,run_bind,mE hd];rfl
   ·obtain⟨b,off,hv,h⟩:=gk h;have kQ:=bf hI hx hv rfl;exact yX rfl h λw _=>by simp only[execOp,ho,kQ,run_bind,mE hd];rfl
 |field t x f=>simp only[W1,ho]at h;exact abL h ho aI hI
 |indexAddr t x i=>
  simp only[W1,ho]at h;have hx:=Gu (x:=x) (by simp[ho,Op.operands]);have hi:=Gu (x:=i) (by simp[ho,Op.operands]);split at h
  ·rename_i e b len c k j hu he Ko;obtain⟨fE,h⟩:=aq h;obtain⟨ie,CB⟩:=Option.isSome_iff_exists.1 fE;obtain⟨bb,off,rfl,h1,h2,h⟩:=fV h;refine yX rfl h λw _=>?_;simp only[execOp,ho,bf hI hx he rfl,bf hI hi Ko rfl,Instr.indexAt,asIntOf,run_bind,run_pure,andThen_ok,aS hu];rw[if_pos ⟨h1,h2⟩];simp only[run_bind,cB CB,andThen_ok,run_pure,jS]
  ·rename_i len e k off kk j hu he Ko;obtain⟨hc,h⟩:=aq h;simp only[and_eq_true,decide_eq_true_eq]at hc;obtain⟨⟨h1,h2⟩,fE⟩:=hc;obtain⟨ie,CB⟩:=Option.isSome_iff_exists.1 fE;obtain⟨kQ,hm⟩:=kA hI hx he;refine Ep hm h λw _=>?_;simp only[execOp,ho,kQ,bf hI hi Ko rfl,Instr.indexAt,asIntOf,run_bind,run_pure,andThen_ok,aS hu,Instr.sureAddr];rw[if_pos ⟨h1,h2⟩];simp only[run_bind,cB CB,andThen_ok,run_pure,jS]
  ·exact h.elim
 |index t x i=>
  simp only[W1,ho]at h;have hx:=Gu (x:=x) (by simp[ho,Op.operands]);have hi:=Gu (x:=i) (by simp[ho,Op.operands]);split at h
  ·rename_i s k j hu he Ko;obtain⟨h1,c,h2,h⟩:=h;refine yX rfl h λw _=>?_;simp only[execOp,ho,bf hI hx he rfl,bf hI hi Ko rfl,Instr.index,asIntOf,run_bind,run_pure,andThen_ok,aS hu,if_pos h1,h2]
  ·rename_i len e cs k j hu he Ko;obtain⟨h1,h2,fE,v,hv,kZ,h⟩:=h;obtain⟨ie,CB⟩:=Option.isSome_iff_exists.1 fE;refine yX kZ h λw _=>?_;simp only[execOp,ho,bf hI hx he rfl,bf hI hi Ko rfl,Instr.index,asIntOf,run_bind,run_pure,andThen_ok,aS hu,if_pos (show(0:Int)<=j/\j<len from⟨h1,h2⟩),cB CB];rw[LG hv];rfl
  ·exact h.elim
 |extract x i=>
  simp only[W1,ho]at h;have hx:=Gu (x:=x) (by simp[ho,Op.operands]);split at h
  ·rename_i vs he;cases hv:vs[i]? with
   |none=>simp only[hv]at h
   |some v=>
    simp only[hv]at h;obtain⟨kZ,h⟩:=aq h;exact yX kZ h λw _=>by simp[execOp,ho,bf hI hx he rfl,Instr.extract,hv]
  ·exact h.elim
 |call c=>
  simp only[W1,ho]at h;obtain⟨callee,args,ts⟩:=c;cases callee with
  |builtin b=>simp only at h;exact afX ht h ho aI hI
  |value f=>simp[bx,ho]at ht
  |invoke r m=>simp[bx,ho]at ht
 |_=>simp[bx,ho]at ht
theorem CG{ops:Array Oper}{af:Array Bool}{j:Nat}:∀l:List Nat,iG ops af l=some j->j∈l/\∃oj,ops[j]?=some oj/\bx oj=true/\Region.free .any ops af j=true:=by
 intro l;induction l with
 |nil=>intro h;simp[iG]at h
 |cons x l ih=>
  intro h;simp only[iG]at h;cases hx:ops[x]? with
  |none=>
   simp only[hx,Bool.false_and,cond_false]at h;obtain⟨h1,h2⟩:=ih h;exact⟨by simp[h1],h2⟩
  |some ox=>
   simp only[hx]at h;cases hc:bx ox&&Region.free .any ops af x with
   |true=>
    simp only[hc,cond_true,Option.some.injEq]at h;subst h;simp only[and_eq_true]at hc;exact⟨by simp,ox,hx,hc.1,hc.2⟩
   |false=>
    simp only[hc,cond_false]at h;obtain⟨h1,h2⟩:=ih h;exact⟨by simp[h1],h2⟩
inductive PS(ops:Array Oper)(af:Array Bool):Nat->iT->Prop
 |nil (f:Nat) (h:Region.ready .any ops af=[]):PS ops af f .nil
 |tk (f j:Nat) (p:iT) (oj:Oper) (ho:ops[j]?=some oj) (ht:bx oj=true) (hf:Region.free .any ops af j=true) (hr:j∈Region.ready .any ops af) (hp:eo ops f (af.setIfInBounds j true)=some p):PS ops af (f+1) (.tk j p)
 |ef (f i:Nat) (p:iT) (hr:Region.ready .any ops af=[i]) (h1:bK ops i p=true) (hp:eo ops f (af.setIfInBounds i true)=some p):PS ops af (f+1) (.ef i p)
 |Se (f i j:Nat) (p q:iT) (hr:Region.ready .any ops af=[i,j]) (h1:bK ops i p=true) (h2:bK ops j q=true) (hp:eo ops f (af.setIfInBounds i true)=some p) (hq:eo ops f (af.setIfInBounds j true)=some q):PS ops af (f+1) (.Se i p j q)
 |Sd (f i j k:Nat) (p q r:iT) (hr:Region.ready .any ops af=[i,j,k]) (h1:bK ops i p=true) (h2:bK ops j q=true) (h3:bK ops k r=true) (hp:eo ops f (af.setIfInBounds i true)=some p) (hq:eo ops f (af.setIfInBounds j true)=some q) (Tx:eo ops f (af.setIfInBounds k true)=some r):PS ops af (f+1) (.Sd i p j q k r)
theorem AD:∀(f:Nat) (af:Array Bool) (p:iT) (ops:Array Oper),eo ops f af=some p->PS ops af f p
 |0,af,p,ops,h=>by
  simp only[eo]at h
  cases hr:Region.ready .any ops af with
  |nil=>simp only[hr,Option.some.injEq]at h;subst h;exact .nil 0 hr
  |cons i rs=>simp[hr]at h
 |f+1,af,p,ops,h=>by
  simp only[eo]at h
  cases hr:Region.ready .any ops af with
  |nil=>simp only[hr,Option.some.injEq]at h;subst h;exact .nil _ hr
  |cons i rs=>
   simp only[hr]at h
   cases hf:iG ops af (i::rs)with
   |some j=>
    simp only[hf]at h
    obtain⟨eJ,oj,ho,gf,Vn⟩:=CG _ hf
    cases hp:eo ops f (af.setIfInBounds j true)with
    |none=>simp[hp]at h
    |some p'=>
     simp only[hp,Option.some.injEq]at h;subst h;exact .tk f j p' oj ho gf Vn (by rw[hr];exact eJ) hp
   |none=>
    simp only[hf]at h
    match rs,hr,h with
    |[],hr,h=>
     cases hp:eo ops f (af.setIfInBounds i true)with
     |none=>simp[hp]at h
     |some p'=>
      simp only[hp]at h;cases hc:bK ops i p' with
      |false=>simp[hc]at h
      |true=>simp only[hc,cond_true,Option.some.injEq]at h;subst h;exact .ef f i p' hr hc hp
    |[j],hr,h=>
     cases hp:eo ops f (af.setIfInBounds i true)with
     |none=>simp[hp]at h
     |some p'=>
      cases hq:eo ops f (af.setIfInBounds j true)with
      |none=>simp[hp,hq]at h
      |some q'=>
       simp only[hp,hq]at h;cases hc:bK ops i p'&&bK ops j q' with
       |false=>simp[hc]at h
       |true=>
        simp only[hc,cond_true,Option.some.injEq]at h;subst h;simp only[and_eq_true]at hc;exact .Se f i j p' q' hr hc.1 hc.2 hp hq
    |[j,k],hr,h=>
     cases hp:eo ops f (af.setIfInBounds i true)with
     |none=>simp[hp]at h
     |some p'=>
      cases hq:eo ops f (af.setIfInBounds j true)with
      |none=>simp[hp,hq]at h
      |some q'=>
       cases Tx:eo ops f (af.setIfInBounds k true)with
       |none=>simp[hp,hq,Tx]at h
       |some r'=>
        simp only[hp,hq,Tx]at h;cases hc:bK ops i p'&&bK ops j q'&&bK ops k r' with
        |false=>simp[hc]at h
        |true=>
         simp only[hc,cond_true,Option.some.injEq]at h;subst h;simp only[and_eq_true]at hc;exact .Sd f i j k p' q' r' hr hc.1.1 hc.1.2 hc.2 hp hq Tx
    |_::_::_::_,_,h=>simp at h
structure Syn(nj:St)(θ0:Nat->Nat)(st:St)(θ:Nat->Nat):Prop where
 D:st.D=nj.D
 θ:∀k m,(k,m)∈nj.D->θ k=θ0 k
 gh:∀k m,(k,m)∈nj.D->∀j,j<m->st.σ (gx k j)=nj.σ (gx k j)
theorem Tr{θ θ':Nat->Nat}{v r:Value}(hnf:∀k o,v≠dK k o):R θ v r->R θ' v r:=λh=>Ga h λk o e=>absurd e (hnf k o)
theorem re{nj st:St}{θ0 θ:Nat->Nat}(hs:Syn nj θ0 st θ)(hg:∀k m,(k,m)∈nj.D->∀j,j<m->∀k' o,nj.σ (gx k j)≠dK k' o)(w:World):kD u0 nj θ0 w↔kD u0 st θ w:=by
 constructor
 ·rintro⟨h1,h2⟩;refine⟨h1,λk m hk=>?_⟩;rw[hs.D]at hk;obtain⟨c,T,e1,e2,e3⟩:=h2 k m hk;exact⟨c,T,by rw[hs.θ k m hk];exact e1,e2,λj hj=>by rw[hs.gh k m hk j hj];exact Tr (hg k m hk j hj) (e3 j hj)⟩
 ·rintro⟨h1,h2⟩;refine⟨h1,λk m hk=>?_⟩;obtain⟨c,T,e1,e2,e3⟩:=h2 k m (hs.D▸hk);exact⟨c,T,by rw[<- hs.θ k m hk];exact e1,e2,λj hj=>Tr (hg k m hk j hj) (by rw[<- hs.gh k m hk j hj];exact e3 j hj)⟩
theorem Inv.LD(hI:Inv C a wa st u θ)(hs:rF u0 u):kD u0 st θ wa:=by
 refine⟨⟨hI.below.os.trans hs.os,hI.below.tape.trans hs.tape,hI.below.output.trans hs.output,le_trans hs.size hI.below.size,λb hb=>?_⟩,λk m hk=>?_⟩
 ·rw[<- hs.block b hb];exact hI.below.block b (lt_of_lt_of_le hb hs.size)
 ·obtain⟨_,c,T,h1,h2,h3,_⟩:=hI.boxes k m hk;exact⟨c,T,h1,h2,h3⟩
def QN(Q:Act->World->Prop):Exit->Act->World->Prop
 | .normal,a,w=>Q a w
 |_,_,_=>False
theorem pL{ops:Array Oper}{oj:Oper}{act skip:St->Prop}{G:Prop}(aI:∀o∈ops.toList,br C.n o=true)(hI:Inv C a wa st u θ)(h:guarded ops oj st act skip)
  (yes:Region.wanted oj (yielded ops a.tmps)=true->act st->G) (no:Region.wanted oj (yielded ops a.tmps)=false->skip st->G):G:=by
 unfold guarded at h;cases hg:oj.guard with
 |none=>
  simp only[hg]at h;exact yes (by simp[Region.wanted,hg]) h
 |some jb=>
  obtain⟨x,b⟩:=jb;simp only[hg]at h;cases xx:oV ops x with
  |none=>simp only[xx]at h
  |some g=>
   simp only[xx]at h;have hgn:g<C.n:=by
    unfold oV at xx;cases hj:ops[x]? with
    |none=>simp[hj]at xx
    |some ox=>
     simp only[hj,Option.bind_some]at xx
     exact ee (aI ox (by have:ops.toList[x]?=some ox:=by simpa using hj
                         exact mem_of_getElem? this)) g xx
   have NV:yielded ops a.tmps x=match a.tmps.getD g undef with| .bool x=>some x|_=>none:=by
    unfold yielded;unfold oV at xx;rw[xx,Option.bind_some,getD_some hI.size hgn];cases a.tmps.getD g undef<;>rfl
   have vm:=hI.iz g hgn;split at h
   ·rename_i c hc;rw[hc,iI rfl]at vm;rw[vm]at NV;have hw:Region.wanted oj (yielded ops a.tmps)=(c == b):=by
     simp only[Region.wanted,hg,NV];cases c<;>cases b<;>rfl
    cases c with
    |true=>
     simp only[ab]at h;rw[uF hc]at h;cases b with
     |true=>exact yes hw h
     |false=>exact no hw h
    |false=>
     simp only[ab]at h;rw[uF hc]at h;cases b with
     |true=>exact no hw h
     |false=>exact yes hw h
   ·rename_i vs hc;rw[hc,iI rfl]at vm;rw[vm]at NV;exact no (by simp[Region.wanted,hg,NV]) h
   ·exact h.elim
def Sy(ops:Array Oper)(u0:UW)(zw:St)(θ0:Nat->Nat)(p:iT)(st:St)(u:UW)(θ:Nat->Nat):Prop:=(rF u0 u/\Syn zw θ0 st θ)\/(dL ops p=false/\bM ops p=false)
theorem Syn.fin{zw:St}{θ0:Nat->Nat}{oj:Oper}(jN:Syn zw θ0 st θ)(gu:br C.n oj=true)(hI:Inv C a wa st u θ)(v:Value):Syn zw θ0 (fin oj st v) θ:=by
 refine⟨jN.D,jN.θ,λk m hk j hj=>?_⟩;rw[<- jN.gh k m hk j hj];simp only[Go.aP.fin];cases hd:oj.dst with
 |none=>rfl
 |some d=>
  simp only[put];have h1:=ee gu d hd;rw[cj _ _ (show gx k j≠d from λe=>absurd (lt_of_lt_of_le h1 hI.iO) (not_lt.2 (e▸jc k j)))]
theorem xO{a b c:World}(h:Below a.heap.size a b)(k:Below b.heap.size b c):Below a.heap.size a c:=
 ⟨k.os.trans h.os,k.tape.trans h.tape,k.output.trans h.output,le_trans h.size k.size,λi hi=>(k.block i (lt_of_lt_of_le hi h.size)).trans (h.block i hi)⟩
theorem aay{fz ZE:List Nat}{o:Oper}{st:St}{u:UW}{K:St->UW->Prop}(hn:qo o=true)(hp:gY E.eX o=false)(h:W1 E fz o st u K):W1 E ZE o st u λbV u'=>Below u.heap.size u.toWorld u'.toWorld/\K bV u':=by
 unfold qo at hn;unfold gY at hp;unfold W1 at h |-;split at hn
 ·rename_i t ho;simp only[ho]at h hp |-;cases hz:(E.P.info? t).bind (·.zero)with
  |none=>rw[hz]at h;exact h.elim
  |some z=>
   rw[hz]at h;simp only at h |-;cases hd:o.dst with
   |none=>rw[hd]at h;exact h.elim
   |some k=>
    rw[hd]at h hp;simp only at h hp |-;rw[hp]at h |-;exact λb w' hb=>⟨hb.below,h b w' hb⟩
 ·rename_i t x ho;simp only[ho]at h hp |-;obtain⟨h1,h⟩:=aq h;rw[h1];simp only[cond_true];cases hd:o.dst with
  |none=>rw[hd]at h;exact h.elim
  |some k=>
   rw[hd]at h hp;simp only at h hp |-;rw[hp]at h |-;exact λb w' hb=>⟨hb.below,h b w' hb⟩
 ·rename_i t len ps ho;simp only[ho]at h |-;obtain⟨h1,h⟩:=aq h;rw[h1];simp only[cond_true];cases he:vD E.P t with
  |none=>rw[he]at h;exact h.elim
  |some e=>
   rw[he]at h;simp only at h |-;cases hb:oG (E.P.cellsOf e) 0 (ps.toList.map λp=>(p.1,ev st.σ p.2))with
   |none=>rw[hb]at h;exact h.elim
   |some vs=>
    rw[hb]at h;simp only at h |-;obtain⟨h2,h⟩:=aq h;rw[h2];exact λb w' hb=>⟨hb.below,h b w' hb⟩
 ·cases hn
theorem LX{fz:List Nat}{o:Oper}{K:St->UW->Prop}(hn:qo o=true)(aI:br C.n o=true)(hI:Inv C a wa st u θ)(h:W1 E fz o st u K):∃v ob,(execOp a.eval o).run E.P wa=.ok (.value v) (wa.alloc ob):=by
 unfold qo at hn;unfold W1 at h;split at hn
 ·rename_i t ho;simp only[ho]at h;cases hz:(E.P.info? t).bind (·.zero)with
  |none=>rw[hz]at h;exact h.elim
  |some z=>
   refine⟨.pointer (some ⟨wa.heap.size,0,none⟩),.cells z.cells t (0,0),?_⟩;simp only[execOp,ho,run_bind,Dk hz,andThen_ok];rfl
 ·rename_i t x ho;simp only[ho]at h;obtain⟨h1,h⟩:=aq h;have hx:cZ C.n x=true:=kY aI (by simp[ho,Op.operands]);refine⟨.pointer (some ⟨wa.heap.size,0,none⟩),.cells (ev st.σ x).cells t (0,0),?_⟩;simp only[execOp,ho,bf hI hx rfl h1,run_bind,LH,andThen_ok];rfl
 ·rename_i t len ps ho;simp only[ho]at h;exact Uj ho aI hI h
 ·cases hn
theorem kD.alloc{zw:St}{θ0:Nat->Nat}{w:World}(h:kD u0 zw θ0 w)(ob:Obj):kD u0 zw θ0 (w.alloc ob):=by
 have hk:∀(b:Nat) (x:Obj),w.heap[b]?=some x->(w.alloc ob).heap[b]?=some x:=λb x hx=>by
  have bI:=(Array.getElem?_eq_some_iff.1 hx).1;simp only[World.alloc];rw[Array.getElem?_push,if_neg (by omega)];exact hx
 refine⟨⟨h.Cq.os,h.Cq.tape,h.Cq.output,?_,λb hb=>?_⟩,λk m hm=>?_⟩
 ·have:=h.Cq.size;simp only[World.alloc,Array.size_push];omega
 ·rcases h.Cq.block b hb with e|e
  ·left;have bI:b<w.heap.size:=lt_of_lt_of_le hb h.Cq.size;rw[e,hk b _ (Array.getElem?_eq_getElem bI),Array.getElem?_eq_getElem bI]
  ·exact .inr e
 ·obtain⟨c,T,h1,h2,h3⟩:=h.boxes k m hm;exact⟨c,T,hk _ _ h1,h2,h3⟩
theorem ic{ws:List Nat}{ops:Array Oper}{zw nj:St}{θ0:Nat->Nat}{i:Nat}{p:iT}{K:St->UW->Prop}{N:Act->World->Prop}{QQ:Act->World->Prop}(aI:∀o∈ops.toList,br C.n o=true)(Ff:∀o∈ops.toList,∀t,o.dst=some t->t∈ws)
  (HU:∀k m,(k,m)∈zw.D->∀j,j<m->∀k' o,zw.σ (gx k j)≠dK k' o) (hI:Inv C a wa st u θ) (hP:cD C.n fz ws nj st) (hS:(rF u0 u/\Syn zw θ0 st θ)\/(dL ops p=false/\bM ops p=false/\qx ops i=false)) (bI:bK ops i p=true)
  (hN:∀bV u' a' w' θ',Inv C a' w' bV u' θ'->cD C.n fz ws nj bV->Sy ops u0 zw θ0 p bV u' θ'->K bV u'->N a' w')
  (h:sa E fz ops u0 i st u K):kt E.P ops (QN QQ) i (λa' w'=>(late ops i=true->kD u0 zw θ0 wa->kD u0 zw θ0 w')/\N a' w') a wa:=by
 unfold sa at h;cases gM:ops[i]? with
 |none=>simp only[gM]at h
 |some oj=>
  simp only[gM]at h;cases kZ:gY E.eX oj with
  |true=>simp only[kZ,cond_true]at h
  |false=>
   simp only[kZ,cond_false]at h
   have eJ:oj∈ops.toList:=by have:ops.toList[i]?=some oj:=by simpa using gM
                             exact mem_of_getElem? this
   have gu:=aI oj eJ;have jk:∀{s s':St},cD C.n fz ws nj s->cD C.n fz oj.dst.toList s s'->cD C.n fz ws nj s':=by
    intro s s' h1 h2;refine(h1.trans h2).mono (λ_ h=>h) λx hx=>?_;rw[mem_append]at hx;rcases hx with hx|hx
    ·exact hx
    ·cases tF:oj.dst with
     |none=>simp[tF]at hx
     |some d=>simp only[tF,Option.toList,mem_singleton]at hx;exact Ff oj eJ x (by rw[tF,hx])
   unfold bK at bI;unfold kt;simp only[gM];refine pL (G:=if Region.wanted oj (yielded ops a.tmps)=true then _ else _) aI hI h (λhw h1=>?_) (λhw h1=>?_)
   ·rw[if_pos hw];cases HP:qx ops i with
    |true=>
     simp only[HP,cond_true]at h1;refine ng (λa' w' hp=>?_) (jU (Q:=QN _) gu hI h1);obtain⟨bV,u',θ',dG,kh,hθ,hDD,jO,hW⟩:=hp;have Kv:cD C.n fz oj.dst.toList st bV:=kh.mono (λ_ h=>mem_append_left _ h) (λ_ h=>h);have ZB:=hDD kZ;rcases hS with⟨_,jN⟩|⟨_,_,cQ⟩
     ·have WS:Syn zw θ0 bV θ':=by
       refine⟨ZB.trans jN.D,λk m hk=>?_,λk m hk j hj=>?_⟩
       ·rw[hθ k m (jN.D▸hk)];exact jN.θ k m hk
       ·rw[kh.fz k (List.mem_append_right _ (mem_map.2 ⟨_,jN.D▸hk,rfl⟩)) m (jN.D▸hk) j hj];exact jN.gh k m hk j hj
      exact⟨λ_ _=>(re WS HU w').2 (dG.LD jO),hN bV u' a' w' θ' dG (jk hP Kv) (.inl ⟨jO,WS⟩) hW⟩
     ·rw[HP]at cQ;cases cQ
    |false=>
     simp only[HP,cond_false]at h1;cases jq:ET ops i with
     |true=>
      have hnw:qo oj=true:=by unfold ET at jq;rw[gM]at jq;exact jq
      obtain⟨v,ob,iP⟩:=LX hnw gu hI h1;have UY:=jU (Q:=QN QQ) (fz:=fz++st.D.map (·.1)) gu hI (aay hnw kZ h1);unfold sB at UY;rw[iP]at UY |-;simp only[Oper.uponIn]at UY |-;obtain⟨bV,u',θ',dG,kh,hθ,hDD,hbl,hW⟩:=UY;have Kv:cD C.n fz oj.dst.toList st bV:=kh.mono (λ_ h=>mem_append_left _ h) (λ_ h=>h);have ZB:=hDD kZ;refine⟨λ_ hs=>hs.alloc ob,hN bV u' _ _ θ' dG (jk hP Kv) ?_ hW⟩;rcases hS with⟨sm,jN⟩|⟨n1,n2,_⟩
      ·refine .inl ⟨xO sm hbl,ZB.trans jN.D,λk m hk=>?_,λk m hk j hj=>?_⟩
       ·rw[hθ k m (jN.D▸hk)];exact jN.θ k m hk
       ·rw[kh.fz k (List.mem_append_right _ (mem_map.2 ⟨_,jN.D▸hk,rfl⟩)) m (jN.D▸hk) j hj];exact jN.gh k m hk j hj
      ·exact .inr ⟨n1,n2⟩
     |false=>
     simp only[HP,jq,Bool.false_or,and_eq_true,not_eq_true']at bI;refine ng (λa' w' hp=>?_) (jU (Q:=QN _) gu hI h1);obtain⟨bV,u',θ',dG,kh,hθ,hDD,hW⟩:=hp;exact⟨λhh _=>(by simp[qx,jq,hh]at HP),hN bV u' a' w' θ' dG (jk hP kh) (.inr bI) hW⟩
   ·rw[if_neg (by simp[hw])];have Rz:=hI.cN oj.dst (ee gu) (v:=undef) rfl;have hpf:=jk hP (cD.fin st oj.dst (ee gu) hI.iO undef);rcases hS with⟨sm,jN⟩|⟨Rm,agS,alu⟩
    ·exact⟨λ_ _=>(re jN HU wa).2 (hI.LD sm),hN _ u _ wa θ Rz hpf (.inl ⟨sm,jN.fin gu hI undef⟩) h1⟩
    ·exact⟨λ_ hs=>hs,hN _ u _ wa θ Rz hpf (.inr ⟨Rm,agS⟩) h1⟩
theorem Tj{ws:List Nat}{ops:Array Oper}{Q:Exit->St->UW->Prop}{nj zw:St}{θ0:Nat->Nat}(aI:∀o∈ops.toList,br C.n o=true)(Ff:∀o∈ops.toList,∀t,o.dst=some t->t∈ws)
  (vn:Region.noSelect ops=true) (HU:∀k m,(k,m)∈zw.D->∀j,j<m->∀k' o,zw.σ (gx k j)≠dK k' o):
  ∀(f:Nat) (p:iT) (af:Array Bool) (st:St) (u:UW) (a:Act) (wa:World) (θ:Nat->Nat),Cl ops af->eo ops f af=some p->Inv C a wa st u θ->cD C.n fz ws nj st->
   Sy ops u0 zw θ0 p st u θ->Wd E fz ops u0 (Q .normal) p st u->
   wK E.P ops (QN λa' w'=>∃bV u' θ',Inv C a' w' bV u' θ'/\cD C.n fz ws nj bV/\Q .normal bV u') (kD u0 zw θ0) f af a wa:=by
 intro f;induction f with
 |zero=>
  intro p af st u a wa θ hY hp hI hP hS h;cases AD 0 af p ops hp with
  |nil _ hr=>exact⟨hr,st,u,θ,hI,hP,h⟩
 |succ f ih=>
  intro p af st u a wa θ hY hp hI hP hS h;cases AD (f+1) af p ops hp with
  |nil _ hr=>
   refine⟨λ_=>⟨st,u,θ,hI,hP,h⟩,?_⟩;rw[hr];intro i hi;cases hi
  |tk _ j p' oj gM gf jP dS zE=>
   have eJ:oj∈ops.toList:=by have:ops.toList[j]?=some oj:=by simpa using gM
                             exact mem_of_getElem? this
   have gu:=aI oj eJ;have jk:∀(v:Value),cD C.n fz ws nj (fin oj st v):=by
    intro v;refine(hP.trans (cD.fin st oj.dst (ee gu) hI.iO v)).mono (λ_ h=>h) λx hx=>?_;rw[mem_append]at hx;rcases hx with hx|hx
    ·exact hx
    ·cases tF:oj.dst with
     |none=>simp[tF]at hx
     |some d=>simp only[tF,Option.toList,mem_singleton]at hx;exact Ff oj eJ x (by rw[tF,hx])
   have hS1:reads oj=true->∀w,kD u0 zw θ0 w↔kD u0 st θ w:=λdS=>by
    rcases hS with⟨_,jN⟩|hn
    ·exact re jN HU
    ·simp[dL,Av,gM,dS]at hn
   have hS2:reads oj=true->kD u0 zw θ0 wa:=λdS=>by
    rcases hS with⟨sm,jN⟩|hn
    ·exact(re jN HU wa).2 (hI.LD sm)
    ·simp[dL,Av,gM,dS]at hn
   have hS3:∀v,Sy ops u0 zw θ0 p' (fin oj st v) u θ:=λv=>by
    rcases hS with⟨sm,jN⟩|hn
    ·exact .inl ⟨sm,jN.fin gu hI v⟩
    ·simp only[dL,bM,or_eq_false_iff]at hn;exact .inr ⟨hn.1.2,hn.2⟩
   simp only[Wd,stepT,gM]at h;refine pL aI hI h (λhw h1=>?_) (λhw h1=>?_)
   ·obtain⟨v,r,hR,Vo,hK,iP⟩:=MV gf gu hI h1;refine uE gM (Region.noSelect_spec vn) (λc a w hq=>hq.elim) f af a wa (Region.free_spec gM jP) hY dS (v:=r) (.inl ⟨hw,λw UT=>iP w λBk=>(hS1 Bk w).1 (UT Bk)⟩) hS2 ?_;exact ih p' _ _ u _ wa θ (hY.set dS) zE (hI.fin oj.dst (ee gu) hR Vo) (jk v) (hS3 v) hK
   ·refine uE gM (Region.noSelect_spec vn) (λc a w hq=>hq.elim) f af a wa (Region.free_spec gM jP) hY dS (v:=undef) (.inr ⟨hw,rfl⟩) hS2 ?_;exact ih p' _ _ u _ wa θ (hY.set dS) zE (hI.cN oj.dst (ee gu) rfl) (jk undef) (hS3 undef) h1
  |ef _ i p' hr bI zE=>
   refine⟨λh0=>(by rw[hr]at h0;cases h0),λx hx=>?_⟩;rw[hr]at hx;simp only[mem_singleton]at hx;subst hx;refine ic (p:=p') aI Ff HU hI hP (hS.imp id λhh=>?_) bI (λbV u' a' w' θ' dG kh Ku hW=>ih p' _ bV u' a' w' θ' (hY.set (by rw[hr];simp)) zE dG kh Ku hW) h;simp only[dL,bM,or_eq_false_iff]at hh;exact⟨hh.1,hh.2.2,hh.2.1⟩
  |Se _ i j p' q' hr bI tA zE WW=>
   refine⟨λh0=>(by rw[hr]at h0;cases h0),λx hx=>?_⟩;rw[hr]at hx;simp only[mem_cons,List.not_mem_nil,or_false]at hx;rcases hx with rfl|rfl
   ·refine ic (p:=p') aI Ff HU hI hP (hS.imp id λhh=>?_) bI (λbV u' a' w' θ' dG kh Ku hW=>ih p' _ bV u' a' w' θ' (hY.set (by rw[hr];simp)) zE dG kh Ku hW) h.1;simp only[dL,bM,or_eq_false_iff]at hh;exact⟨hh.1.1,hh.2.1.2,hh.2.1.1⟩
   ·refine ic (p:=q') aI Ff HU hI hP (hS.imp id λhh=>?_) tA (λbV u' a' w' θ' dG kh Ku hW=>ih q' _ bV u' a' w' θ' (hY.set (by rw[hr];simp)) WW dG kh Ku hW) h.2;simp only[dL,bM,or_eq_false_iff]at hh;exact⟨hh.1.2,hh.2.2.2,hh.2.2.1⟩
  |Sd _ i j k p' q' r' hr bI tA hlt'' zE WW Bk=>
   refine⟨λh0=>(by rw[hr]at h0;cases h0),λx hx=>?_⟩;rw[hr]at hx;simp only[mem_cons,List.not_mem_nil,or_false]at hx;rcases hx with rfl|rfl|rfl
   ·refine ic (p:=p') aI Ff HU hI hP (hS.imp id λhh=>?_) bI (λbV u' a' w' θ' dG kh Ku hW=>ih p' _ bV u' a' w' θ' (hY.set (by rw[hr];simp)) zE dG kh Ku hW) h.1;simp only[dL,bM,or_eq_false_iff]at hh;exact⟨hh.1.1.1,hh.2.1.1.2,hh.2.1.1.1⟩
   ·refine ic (p:=q') aI Ff HU hI hP (hS.imp id λhh=>?_) tA (λbV u' a' w' θ' dG kh Ku hW=>ih q' _ bV u' a' w' θ' (hY.set (by rw[hr];simp)) WW dG kh Ku hW) h.2.1;simp only[dL,bM,or_eq_false_iff]at hh;exact⟨hh.1.1.2,hh.2.1.2.2,hh.2.1.2.1⟩
   ·refine ic (p:=r') aI Ff HU hI hP (hS.imp id λhh=>?_) hlt'' (λbV u' a' w' θ' dG kh Ku hW=>ih r' _ bV u' a' w' θ' (hY.set (by rw[hr];simp)) Bk dG kh Ku hW) h.2.2;simp only[dL,bM,or_eq_false_iff]at hh;exact⟨hh.1.2,hh.2.2.2,hh.2.2.1⟩
def lq(P:Program)(ops:Array Oper)(tot:Bool)(j:Nat)(K:Act->World->Prop)(a:Act)(w:World):Prop:=
 match ops[j]? with
 |none=>False
 |some o=>if Region.wanted o (yielded ops a.tmps)then
   (tot=true->∃v w',(execOp a.eval o).run P w=.ok (.value v) w'/\(w'=w\/∃ob,w'=w.alloc ob))/\
   ∀v w',(execOp a.eval o).run P w=.ok (.value v) w'->(w'=w\/∃ob,w'=w.alloc ob)->K (a.put o.dst v) w'
  else K (a.put o.dst undef) w
def TQ(P:Program)(ops:Array Oper)(QQ:Exit->Act->World->Prop):Nat->Array Bool->List Nat->Act->World->Prop
 |0,af,_,a,w=>Region.ready .any ops af=[]/\QQ .normal a w
 |f+1,af,de,a,w=>(Region.ready .any ops af=[]->QQ .normal a w)/\
  ∀j∈Region.ready .any ops af,cM de j=false->
   (kO ops j=true->lq P ops de.isEmpty j (TQ P ops QQ f (af.setIfInBounds j true) de) a w)/\
   (kO ops j=false->kt P ops QQ j (TQ P ops QQ f (af.setIfInBounds j true) []) a w)
theorem FX{P:Program}{ops:Array Oper}{QQ:Exit->Act->World->Prop}:∀(f:Nat) (af:Array Bool) (a:Act) (w:World),TQ P ops QQ f af [] a w->wK P ops QQ (λ_=>True) f af a w
 |0,_,_,_,h=>h
 |f+1,af,a,w,h=>by
  refine⟨h.1,λi hi=>?_⟩
  have hh:=h.2 i hi rfl
  cases hn:kO ops i with
  |false=>exact sH (λa' w' h'=>⟨λ_ _=>trivial,FX f _ _ _ h'⟩) (hh.2 hn)
  |true=>
   have h1:=hh.1 hn;unfold lq at h1;unfold kt;cases ho:ops[i]? with
   |none=>rw[ho]at h1;exact h1.elim
   |some o=>
    rw[ho]at h1;simp only at h1 |-;split<;>rename_i hw<;>simp only[hw,if_true,if_false,false_eq_true]at h1
    ·obtain⟨v,w',hr,hs⟩:=h1.1 rfl;rw[hr];exact⟨λ_ _=>trivial,FX f _ _ _ (h1.2 v w' hr hs)⟩
    ·exact⟨λ_ _=>trivial,FX f _ _ _ h1⟩
theorem Nl{P:Program}{ops:Array Oper}{j:Nat}{oi oj:Oper}{v:Value}{tot:Bool}{K:Act->World->Prop}{a:Act}{w:World}(hj:ops[j]?=some oj)(Pp:oi.apart ops oj=true)(hsj:∀cs b,oj.op≠ .select cs b)
  (h:lq P ops tot j K (a.put oi.dst v) w):lq P ops tot j (λa' w'=>K (a'.put oi.dst v) w') a w:=by
 obtain⟨h1,h2,h3⟩:=Oper.apart_spec Pp;unfold lq at h |-;simp only[hj,wanted_put oj a oi.dst v h1,execOp_put oj hsj a oi.dst v h1]at h |-;split<;>rename_i hw<;>simp only[hw,if_true,if_false,false_eq_true]at h
 ·refine⟨h.1,λx w' hr hs=>?_⟩;rw[<- Act.put_comm a v x h2];exact h.2 x w' hr hs
 ·rw[<- Act.put_comm a v undef h2];exact h
theorem Dc{P:Program}{ops:Array Oper}{j:Nat}{t1 t2:Bool}{K1 K2 K:Act->World->Prop}{a:Act}{w:World}(hk:∀(oj:Oper) (x:Value) (w':World),ops[j]?=some oj->(w'=w\/∃ob,w'=w.alloc ob)->K1 (a.put oj.dst x) w'->K2 (a.put oj.dst x) w'->K (a.put oj.dst x) w')
  (h1:lq P ops t1 j K1 a w) (h2:lq P ops t2 j K2 a w):lq P ops t1 j K a w:=by
 unfold lq at h1 h2 |-;cases ho:ops[j]? with
 |none=>rw[ho]at h1;exact h1.elim
 |some oj=>
  rw[ho]at h1 h2;simp only at h1 h2 |-;split<;>rename_i hw<;>simp only[hw,if_true,if_false,false_eq_true]at h1 h2
  ·exact⟨h1.1,λv w' hr hs=>hk oj v w' ho hs (h1.2 v w' hr hs) (h2.2 v w' hr hs)⟩
  ·exact hk oj undef w ho (.inl rfl) h1 h2
theorem Jy{P:Program}{ops:Array Oper}{j:Nat}{t:Bool}{K1 K:Act->World->Prop}{a:Act}{w:World}(hk:∀(oj:Oper) (x:Value) (w':World),ops[j]?=some oj->(w'=w\/∃ob,w'=w.alloc ob)->K1 (a.put oj.dst x) w'->K (a.put oj.dst x) w')
  (h1:lq P ops t j K1 a w):lq P ops t j K a w:=Dc (λoj x w' ho hs k1 _=>hk oj x w' ho hs k1) h1 h1
theorem BR{P:Program}{ops:Array Oper}{QQ:Exit->Act->World->Prop}{S:World->Prop}{i:Nat}{oi:Oper}{v:Value}(hi:ops[i]?=some oi)(Oa:kO ops i=true)(vn:∀(j:Nat) (o:Oper) cs b,ops[j]?=some o->o.op≠ .select cs b)
  (hQ:∀c a w,QQ (.panic c) (a.put oi.dst v) w->QQ (.panic c) a w) (hSc:∀w ob,S w->S (w.alloc ob)):
  ∀(f:Nat) (af:Array Bool) (de:List Nat) (a:Act) (w:World),
   (∀j oj,ops[j]?=some oj->j≠i->af.getD j true=false->(∀e∈oj.after,Region.binds .any e=true->e.on≠i)->oi.apart ops oj=true)->
   i∈Region.ready .any ops af->cM de i=false->YieldsIf P ops S oi v a->S w->
   TQ P ops QQ f (af.setIfInBounds i true) de (a.put oi.dst v) w->((∀w,S w)\/TQ P ops QQ (f+1) af (i::de) a w)->TQ P ops QQ (f+1) af de a w:=by
 have self:∀(f:Nat) (af:Array Bool) (de:List Nat) (a:Act) (w:World),YieldsIf P ops S oi v a->S w->TQ P ops QQ f (af.setIfInBounds i true) de (a.put oi.dst v) w->
   lq P ops de.isEmpty i (TQ P ops QQ f (af.setIfInBounds i true) de) a w:=by
  intro f af de a w hy hS hA;unfold lq;simp only[hi];rcases hy with⟨hw,hv⟩|⟨hw,rfl⟩
  ·rw[if_pos hw];refine⟨λ_=>⟨v,w,hv w hS,.inl rfl⟩,λx w' hr _=>?_⟩;rw[hv w hS]at hr;cases hr;exact hA
  ·rw[if_neg (by simp[hw])];exact hA
 intro f;induction f with
 |zero=>
  intro af de a w jP hr hb hy hS hA hB;refine⟨λh=>(by rw[h]at hr;cases hr),λj hj zG=>?_⟩;by_cases hji:j=i
  ·subst hji;exact⟨λ_=>self 0 af de a w hy hS hA,λh=>(by rw[Oa]at h;cases h)⟩
  ·have:=ready_mono hj hji;rw[hA.1]at this;cases this
 |succ f ih=>
  intro af de a w jP hr hb hy hS hA hB;refine⟨λh=>(by rw[h]at hr;cases hr),λj hj zG=>?_⟩;by_cases hji:j=i
  ·subst hji;exact⟨λ_=>self (f+1) af de a w hy hS hA,λh=>(by rw[Oa]at h;cases h)⟩
  ·have h1:=hA.2 j (ready_mono hj hji) zG;obtain⟨Rv,oj,gM,fR⟩:=mem_ready.1 hj;have HN:∀e∈oj.after,Region.binds .any e=true->e.on≠i:=λe he hb heq=>by
    have h1:=fR e he hb;have h0:=(mem_ready.1 hr).1;rw[heq]at h1;rcases lt_or_ge i af.size with h'|h'
    ·simp[h']at h0 h1;rw[h0]at h1;cases h1
    ·simp[getElem?_eq_none h']at h1
   have Pp:=jP j oj gM hji Rv HN;have Fk:∀k ok,ops[k]?=some ok->k≠i->(af.setIfInBounds j true).getD k true=false->
     (∀e∈ok.after,Region.binds .any e=true->e.on≠i)->oi.apart ops ok=true:=λk ok hk hki hun cQ=>by
    refine jP k ok hk hki ?_ cQ;by_cases hjk:j=k
    ·subst hjk;exact Rv
    ·rw[getD_set_ne true hjk]at hun;exact hun
   have Xj:(af.setIfInBounds i true).setIfInBounds j true=(af.setIfInBounds j true).setIfInBounds i true:=Array.setIfInBounds_comm _ _ (Ne.symm hji);have acz:∀(b:Act) (x:Value),YieldsIf P ops S oi v b->YieldsIf P ops S oi v (b.put oj.dst x):=λb x hb=>by
    obtain⟨_,_,h3⟩:=Oper.apart_spec Pp;exact hb.of_same (execOp_put oi (λcs b=>vn i oi cs b hi) b oj.dst x h3) (wanted_put oi b oj.dst x h3)
   refine⟨λhn=>?_,λhn=>?_⟩
   ·have k1:=Nl gM Pp (λcs b=>vn j oj cs b gM) (h1.1 hn);have go:∀(a':Act) (w':World),YieldsIf P ops S oi v a'->S w'->TQ P ops QQ f ((af.setIfInBounds i true).setIfInBounds j true) de (a'.put oi.dst v) w'->((∀w,S w)\/TQ P ops QQ (f+1) (af.setIfInBounds j true) (i::de) a' w')->TQ P ops QQ (f+1) (af.setIfInBounds j true) de a' w':=λa' w' y1 y2 y3 y4=>
     ih (af.setIfInBounds j true) de a' w' Fk (ready_mono hr (Ne.symm hji)) hb y1 y2 (by rw[Xj]at y3;exact y3) y4
    have hSn:∀w',(w'=w\/∃ob,w'=w.alloc ob)->S w':=λw' hs=>by
     rcases hs with rfl|⟨ob,rfl⟩
     ·exact hS
     ·exact hSc w ob hS
    rcases hB with hB|hB
    ·refine Jy (λoj' x w' Rl hs y1=>?_) k1;have:oj'=oj:=by rw[gM]at Rl;cases Rl;rfl
     subst this;exact go _ _ (acz a x hy) (hSn w' hs) y1 (.inl hB)
    ·have Zt:cM (i::de) j=false:=by
      cases hm:cM (i::de) j with
      |false=>rfl
      |true=>
       rcases mem_cons.1 (dR.1 hm)with h|h
       ·exact absurd h hji
       ·rw[dR.2 h]at zG;cases zG
     have k2:=(hB.2 j hj Zt).1 hn;refine Dc (λoj' x w' Rl hs y1 y2=>?_) k1 k2;have:oj'=oj:=by rw[gM]at Rl;cases Rl;rfl
     subst this;exact go _ _ (acz a x hy) (hSn w' hs) y1 (.inr y2)
   ·rcases hB with hB|hB
    ·have k1:=CX (S:=S) gM Pp (λcs b=>vn i oi cs b hi) (λcs b=>vn j oj cs b gM) hQ hy (h1.2 hn);refine sH (λa' w' y=>?_) k1;exact ih (af.setIfInBounds j true) [] a' w' Fk (ready_mono hr (Ne.symm hji)) rfl y.1 (hB w') (by have:=y.2;rw[Xj]at this;exact this) (.inl hB)
    ·have Zt:cM (i::de) j=false:=by
      cases hm:cM (i::de) j with
      |false=>rfl
      |true=>
       rcases mem_cons.1 (dR.1 hm)with h|h
       ·exact absurd h hji
       ·rw[dR.2 h]at zG;cases zG
     exact(hB.2 j hj Zt).2 hn
def oT(af:Array Bool):Nat:=(af.toList.filter (!·)).length
theorem Dv:∀(l:List Bool) (i:Nat),i<l.length->l[i]?=some false->((l.set i true).filter (!·)).length+1=(l.filter (!·)).length
 |[],i,h,_=>by simp at h
 |b::l,0,_,h=>by simp only[List.getElem?_cons_zero,Option.some.injEq]at h;subst h;simp
 |b::l,i+1,h,h2=>by
  simp only[List.getElem?_cons_succ]at h2
  simp only[length_cons]at h
  have:=Dv l i (by omega) h2
  show((b::l.set i true).filter (!·)).length+1=((b::l).filter (!·)).length;cases b<;>simp at this |- <;>omega
theorem rj{af:Array Bool}{i:Nat}{ops:Array Oper}(hi:i∈Region.ready .any ops af)(hs:af.size=ops.size):oT (af.setIfInBounds i true)+1=oT af:=by
 obtain⟨h0,oj,gM,_⟩:=mem_ready.1 hi;have bI:i<af.size:=by rw[hs];exact(Array.getElem?_eq_some_iff.1 gM).1
 unfold oT;rw[Array.toList_setIfInBounds];refine Dv _ i (by simpa using bI) ?_;rw[getD_eq_getD_getElem?,Array.getElem?_eq_getElem bI]at h0;rw[Array.getElem?_toList,Array.getElem?_eq_getElem bI];exact congrArg some h0
theorem Du{af:Array Bool}{i:Nat}{ops:Array Oper}(hi:i∈Region.ready .any ops af)(hs:af.size=ops.size):0<oT af:=by
 have:=rj hi hs;omega
theorem aaA{P:Program}{ops:Array Oper}{QQ:Exit->Act->World->Prop}:∀(f:Nat) (af:Array Bool) (de:List Nat) (a:Act) (w:World),af.size=ops.size->oT af<=f->Cl ops af->de≠[]->(∀x∈de,x∈Region.ready .any ops af)->Na ops af de=true->TQ P ops QQ f af de a w:=by
 intro f;induction f with
 |zero=>
  intro af de a w hs hn hY hb hr hv;cases de with
  |nil=>exact absurd rfl hb
  |cons x de=>have:=Du (hr x (by simp)) hs;omega
 |succ f ih=>
  intro af de a w hs hn hY hb hr hv;obtain⟨x,hx⟩:∃x,x∈de:=by
   cases de with
   |nil=>exact absurd rfl hb
   |cons x de=>exact⟨x,by simp⟩
  refine⟨λh=>(by have:=hr x hx;rw[h]at this;cases this),λj hj zG=>?_⟩;have av:∀a' w',TQ P ops QQ f (af.setIfInBounds j true) de a' w':=λa' w'=>by
   refine ih _ de a' w' (by simpa using hs) (by have:=rj hj hs;omega) (hY.set hj) hb (λy hy=>?_) ?_
   ·refine ready_mono (hr y hy) λe=>?_;subst e;rw[dR.2 hy]at zG;cases zG
   ·unfold Na at hv |-;rw[all_eq_true]at hv |-;intro h hh;have:=hv h hh;simp only[Bool.or_eq_true]at this |-;rcases this with h1|h1
    ·left;by_cases hjh:j=h
     ·subst hjh;have:=(mem_ready.1 hj).1;rw[this]at h1;cases h1
     ·rw[getD_set_ne true hjh];exact h1
    ·exact .inr h1
  refine⟨λWZ=>?_,λWZ=>?_⟩
  ·unfold lq;obtain⟨_,oj,gM,_⟩:=mem_ready.1 hj;simp only[gM]
   have ahf:de.isEmpty=false:=by cases de with
    |nil=>exact absurd rfl hb
    |cons _ _=>rfl
   rw[ahf];split
   ·exact⟨λh=>(by cases h),λv w' _ _=>av _ _⟩
   ·exact av _ _
  ·exfalso;obtain⟨hj0,oj,gM,fR⟩:=mem_ready.1 hj;unfold Na at hv;rw[all_eq_true]at hv;have:=hv j (List.mem_range.2 (Array.getElem?_eq_some_iff.1 gM).1);rw[hj0,WZ,Bool.false_or,Bool.false_or,List.any_eq_true]at this;obtain⟨y,Mf,Fc⟩:=this;have hyr:=(mem_ready.1 (hr y (dR.1 Fc))).1;have hl:af.getD y false=true:=by
    refine hY.yo ops.size (sf ops j) (λx hx=>?_) y Mf;unfold sf at hx;simp only[gM]at hx;obtain⟨e,he,rfl⟩:=mem_map.1 hx;rw[mem_filter]at he;exact fR e (by simpa using he.1) he.2
   rcases lt_or_ge y af.size with h'|h'
   ·simp[h']at hyr hl;rw[hyr]at hl;cases hl
   ·rw[getD_eq_getD_getElem?,getElem?_eq_none h']at hl;cases hl
theorem zS{ops:Array Oper}{af:Array Bool}{de:List Nat}{j:Nat}:∀l:List Nat,zT ops af de l=some j->j∈l/\∃oj,ops[j]?=some oj/\bx oj=true/\(reads oj=false\/Na ops af (j::de)=true)/\Region.free .any ops af j=true/\cM de j=false:=by
 intro l;induction l with
 |nil=>intro h;simp[zT]at h
 |cons x l ih=>
  intro h;simp only[zT]at h;cases hx:ops[x]? with
  |none=>
   simp only[hx,Bool.false_and,cond_false]at h;obtain⟨h1,h2⟩:=ih h;exact⟨by simp[h1],h2⟩
  |some ox=>
   simp only[hx]at h;cases hc:(bx ox&&(!reads ox||Na ops af (x::de)))&&(Region.free .any ops af x&& !cM de x)with
   |true=>
    simp only[hc,cond_true,Option.some.injEq]at h;subst h;simp only[and_eq_true,not_eq_true',Bool.or_eq_true]at hc;exact⟨by simp,ox,hx,hc.1.1,hc.1.2,hc.2.1,hc.2.2⟩
   |false=>
    simp only[hc,cond_false]at h;obtain⟨h1,h2⟩:=ih h;exact⟨by simp[h1],h2⟩
theorem AW{ops:Array Oper}{af:Array Bool}{de:List Nat}{j:Nat}:∀l:List Nat,AX ops af de l=some j->j∈l/\∃oj,ops[j]?=some oj/\bx oj=true/\Region.free .any ops af j=true/\cM de j=false:=by
 intro l;induction l with
 |nil=>intro h;simp[AX]at h
 |cons x l ih=>
  intro h;simp only[AX]at h;cases hx:ops[x]? with
  |none=>
   simp only[hx,Bool.false_and,cond_false]at h;obtain⟨h1,h2⟩:=ih h;exact⟨by simp[h1],h2⟩
  |some ox=>
   simp only[hx]at h;cases hc:bx ox&&(Region.free .any ops af x&& !cM de x)with
   |true=>
    simp only[hc,cond_true,Option.some.injEq]at h;subst h;simp only[and_eq_true,not_eq_true']at hc;exact⟨by simp,ox,hx,hc.1,hc.2.1,hc.2.2⟩
   |false=>
    simp only[hc,cond_false]at h;obtain⟨h1,h2⟩:=ih h;exact⟨by simp[h1],h2⟩
theorem tT{ops:Array Oper}{de:List Nat}{Q:St->UW->Prop}{fz:List Nat}{g:Nat->Option im}{st:St}{u:UW}:∀(l:List Nat) (q:im),yS ops de g l=some q->Wq E fz ops Q q st u->∀i∈l,cM de i=false->(∀o,ops[i]?=some o->bx o=false)/\∃q',g i=some q'/\LC E fz ops i st u λbV u'=>Wq E fz ops Q q' bV u'
 |[],_,_,_,i,hi,_=>by cases hi
 |j::l,q,h,hw,i,hi,hb=>by
  simp only[yS]at h
  cases zG:cM de j with
  |true=>
   rw[zG]at h
   simp only[cond_true]at h
   rcases mem_cons.1 hi with rfl|hi
   ·rw[hb]at zG;cases zG
   ·exact tT l q h hw i hi hb
  |false=>
   rw[zG]at h
   simp only[cond_false]at h
   cases ht:TV ops j true with
   |true=>rw[ht]at h;cases h
   |false=>
    rw[ht]at h
    simp only[cond_false]at h
    cases hj:g j with
    |none=>rw[hj]at h;cases h
    |some qj=>
     rw[hj]at h
     simp only at h
     cases hl:yS ops de g l with
     |none=>rw[hl]at h;cases h
     |some r=>
      rw[hl]at h
      cases h
      rcases mem_cons.1 hi with rfl|hi
      ·exact⟨λo ho=>(by unfold TV at ht;rw[ho]at ht;exact ht),qj,hj,hw.1⟩
      ·exact tT l r hl hw.2 i hi hb
theorem Ti{ws:List Nat}{ops:Array Oper}{Q:Exit->St->UW->Prop}{nj:St}(aI:∀o∈ops.toList,br C.n o=true)(Ff:∀o∈ops.toList,∀t,o.dst=some t->t∈ws)
  (vn:Region.noSelect ops=true):
  ∀(g:Nat) (p:im) (f:Nat) (af:Array Bool) (de:List Nat) (st:St) (u:UW) (a:Act) (wa:World) (θ:Nat->Nat),af.size=ops.size->oT af<=f->(∀x∈de,x∈Region.ready .any ops af)->Cl ops af->lA ops g af de=some p->Inv C a wa st u θ->cD C.n fz ws nj st->
   Wq E fz ops (Q .normal) p st u->
   TQ E.P ops (QN λa' w'=>∃bV u' θ',Inv C a' w' bV u' θ'/\cD C.n fz ws nj bV/\Q .normal bV u') f af de a wa:=by
 intro g;induction g with
 |zero=>intro p f af de st u a wa θ _ _ _ _ hp;simp[lA]at hp
 |succ g ih=>
  intro p f af de st u a wa θ fw Ml hbr hY hp hI hP h;simp only[lA]at hp;have AA:∀{oj:Oper},oj∈ops.toList->∀{s s':St},cD C.n fz ws nj s->cD C.n fz oj.dst.toList s s'->cD C.n fz ws nj s':=by
   intro oj eJ s s' h1 h2;refine(h1.trans h2).mono (λ_ h=>h) λx hx=>?_;rw[mem_append]at hx;rcases hx with hx|hx
   ·exact hx
   ·cases tF:oj.dst with
    |none=>simp[tF]at hx
    |some d=>simp only[tF,Option.toList,mem_singleton]at hx;exact Ff oj eJ x (by rw[tF,hx])
  have take:∀{j:Nat} {oj:Oper} {q:im} {f:Nat},oT af<=f+1->j∈Region.ready .any ops af->ops[j]?=some oj->bx oj=true->Region.free .any ops af j=true->cM de j=false->
    lA ops g (af.setIfInBounds j true) de=some q->stepT E fz ops u j st (λbV=>Wq E fz ops (Q .normal) q bV u)->
    (reads oj=false\/TQ E.P ops (QN λa' w'=>∃bV u' θ',Inv C a' w' bV u' θ'/\cD C.n fz ws nj bV/\Q .normal bV u') (f+1) af (j::de) a wa)->
    TQ E.P ops (QN λa' w'=>∃bV u' θ',Inv C a' w' bV u' θ'/\cD C.n fz ws nj bV/\Q .normal bV u') (f+1) af de a wa:=by
   intro j oj q f Ml dS gM gf jP zG Rg fC hB
   have eJ:oj∈ops.toList:=by have:ops.toList[j]?=some oj:=by simpa using gM
                             exact mem_of_getElem? this
   have gu:=aI oj eJ;have jk:∀(v:Value),cD C.n fz ws nj (fin oj st v):=λv=>AA eJ hP (cD.fin st oj.dst (ee gu) hI.iO v);have Oa:kO ops j=true:=by unfold kO;rw[gM];simp[gf]
   have Kg:oT (af.setIfInBounds j true)<=f:=by have:=rj dS fw;omega
   have RF:∀x∈de,x∈Region.ready .any ops (af.setIfInBounds j true):=λx hx=>ready_mono (hbr x hx) λe=>by subst e;rw[dR.2 hx]at zG;cases zG
   simp only[stepT,gM]at fC;refine pL aI hI fC (λhw h1=>?_) (λhw h1=>?_)
   ·obtain⟨v,r,hR,Vo,hK,iP⟩:=MV gf gu hI h1;have hA:=ih q f _ de _ u (a.put oj.dst r) wa θ (by simpa using fw) Kg RF (hY.set dS) Rg (hI.fin oj.dst (ee gu) hR Vo) (jk v) hK;cases hre:reads oj with
    |false=>exact BR (S:=λ_=>True) gM Oa (Region.noSelect_spec vn) (λc a w hq=>hq.elim) (λ_ _ _=>trivial) f af de a wa (Region.free_spec gM jP) dS zG (.inl ⟨hw,λw _=>iP w λBk=>(by rw[hre]at Bk;cases Bk)⟩) trivial hA (.inl λ_=>trivial)
    |true=>
     have hB':=hB.resolve_left (by rw[hre];simp);exact BR (S:=λw=>kD u st θ w) gM Oa (Region.noSelect_spec vn) (λc a w hq=>hq.elim) (λ_ ob hs=>hs.alloc ob) f af de a wa (Region.free_spec gM jP) dS zG (.inl ⟨hw,λw hs=>iP w λ_=>hs⟩) (hI.LD (Below.refl _ _)) hA (.inr hB')
   ·have hA:=ih q f _ de _ u (a.put oj.dst undef) wa θ (by simpa using fw) Kg RF (hY.set dS) Rg (hI.cN oj.dst (ee gu) rfl) (jk undef) h1;exact BR (S:=λ_=>True) gM Oa (Region.noSelect_spec vn) (λc a w hq=>hq.elim) (λ_ _ _=>trivial) f af de a wa (Region.free_spec gM jP) dS zG (.inr ⟨hw,rfl⟩) trivial hA (.inl λ_=>trivial)
  cases dS:Region.ready .any ops af with
  |nil=>
   rw[dS]at hp;cases hp;cases f with
   |zero=>exact⟨dS,st,u,θ,hI,hP,h⟩
   |succ f=>exact⟨λ_=>⟨st,u,θ,hI,hP,h⟩,λj hj=>(by rw[dS]at hj;cases hj)⟩
  |cons x0 l0=>
   have alg:0<oT af:=Du (i:=x0) (by rw[dS];simp) fw;obtain⟨f,rfl⟩:∃k,f=k+1:=⟨f-1,by omega⟩;rw[dS]at hp;simp only at hp;cases htq:zT ops af de (x0::l0)with
   |some j=>
    rw[htq]at hp;simp only at hp;obtain⟨Ch,oj,gM,gf,hor,jP,zG⟩:=zS _ htq;rw[<- dS]at Ch;cases Rg:lA ops g (af.setIfInBounds j true) de with
    |none=>rw[Rg]at hp;cases hp
    |some q=>
     rw[Rg]at hp;cases hp;refine take Ml Ch gM gf jP zG Rg h (hor.imp id λhv=>?_);exact aaA (f+1) af (j::de) a wa fw Ml hY (by simp) (λy hy=>(mem_cons.1 hy).elim (λe=>e▸Ch) (hbr y)) hv
   |none=>
    rw[htq]at hp;simp only at hp;cases hlq:AX ops af de (x0::l0)with
    |some j=>
     rw[hlq]at hp;simp only at hp;obtain⟨Ch,oj,gM,gf,jP,zG⟩:=AW _ hlq;rw[<- dS]at Ch;cases Rg:lA ops g (af.setIfInBounds j true) de with
     |none=>rw[Rg]at hp;cases hp
     |some q=>
      cases hpr:lA ops g af (j::de)with
      |none=>rw[Rg,hpr]at hp;cases hp
      |some r=>
       rw[Rg,hpr]at hp;cases hp;refine take Ml Ch gM gf jP zG Rg h.1 (.inr ?_);exact ih r (f+1) af (j::de) st u a wa θ fw Ml (λy hy=>(mem_cons.1 hy).elim (λe=>e▸Ch) (hbr y)) hY hpr hI hP h.2
    |none=>
     rw[hlq]at hp;simp only at hp;have alts:=tT _ _ hp h;refine⟨λh0=>(by rw[dS]at h0;cases h0),λi hi hbi=>?_⟩;have Kn:i∈x0::l0:=by rw[<- dS];exact hi
     obtain⟨Ve,q,hq,fC⟩:=alts i Kn hbi;unfold LC at fC;cases gM:ops[i]? with
     |none=>rw[gM]at fC;exact fC.elim
     |some oj=>
      rw[gM]at fC;simp only at fC
      have eJ:oj∈ops.toList:=by have:ops.toList[i]?=some oj:=by simpa using gM
                                exact mem_of_getElem? this
      have gu:=aI oj eJ;have Kg:oT (af.setIfInBounds i true)<=f:=by have:=rj hi fw;omega
      have RF:∀x∈de,x∈Region.ready .any ops (af.setIfInBounds i true):=λx hx=>ready_mono (hbr x hx) λe=>by subst e;rw[dR.2 hx]at hbi;cases hbi
      refine⟨λhn=>?_,λhn=>?_⟩
      ·rw[hn]at hq;simp only[cond_true]at hq;have hnw:qo oj=true:=by
        unfold kO at hn;rw[gM]at hn;simp only[Ve oj gM,Bool.false_or]at hn;exact hn
       unfold lq;simp only[gM];refine pL (G:=if Region.wanted oj (yielded ops a.tmps)=true then _ else _) aI hI fC (λhw h1=>?_) (λhw h1=>?_)
       ·rw[if_pos hw];obtain⟨v,ob,iP⟩:=LX hnw gu hI h1;refine⟨λ_=>⟨v,_,iP,.inr ⟨ob,rfl⟩⟩,λv' w' Bk _=>?_⟩;have UY:=jU (Q:=QN λ_ _=>True) gu hI h1;unfold sB at UY;rw[Bk]at UY;simp only[Oper.uponIn]at UY;obtain⟨bV,u',θ',dG,kh,_,_,hW⟩:=UY;exact ih q f _ de bV u' _ w' θ' (by simpa using fw) Kg RF (hY.set hi) hq dG (AA eJ hP kh) hW
       ·rw[if_neg (by simp[hw])];exact ih q f _ de _ u _ wa θ (by simpa using fw) Kg RF (hY.set hi) hq (hI.cN oj.dst (ee gu) (v:=undef) rfl) (AA eJ hP (cD.fin st oj.dst (ee gu) hI.iO undef)) h1
      ·rw[hn]at hq;simp only[cond_false]at hq;unfold kt;simp only[gM];refine pL (G:=if Region.wanted oj (yielded ops a.tmps)=true then _ else _) aI hI fC (λhw h1=>?_) (λhw h1=>?_)
       ·rw[if_pos hw];refine ng (λa' w' Mk=>?_) (jU (Q:=QN _) gu hI h1);obtain⟨bV,u',θ',dG,kh,_,_,hW⟩:=Mk;exact ih q f _ [] bV u' a' w' θ' (by simpa using fw) Kg (by simp) (hY.set hi) hq dG (AA eJ hP kh) hW
       ·rw[if_neg (by simp[hw])];exact ih q f _ [] _ u _ wa θ (by simpa using fw) Kg (by simp) (hY.set hi) hq (hI.cN oj.dst (ee gu) (v:=undef) rfl) (AA eJ hP (cD.fin st oj.dst (ee gu) hI.iO undef)) h1
theorem OT{ws:List Nat}{id:Nat}{ops:Array Oper}{Q:Exit->St->UW->Prop}{p:im}(hm:E.P.follows .mixedOrders=true)(aI:∀o∈ops.toList,br C.n o=true)(Ff:∀o∈ops.toList,∀t,o.dst=some t->t∈ws)
  (hp:oh ops=some p) (hI:Inv C a wa st u θ) (h:Wq E fz ops (Q .normal) p st u):(Code.region id ops true).wpIn (Fw C.ro) 0 E.P (QW C fz ws st Q) a wa:=by
 unfold oh at hp;cases hs:Region.noSelect ops with
 |false=>simp[hs]at hp
 |true=>
  simp only[hs,cond_true]at hp;have dG:=hI.drew;have Ml:oT (replicate ops.size false)<=ops.size:=by
   unfold oT;exact le_trans (List.length_filter_le _ _) (by simp)
  have key:=FX _ _ _ _ (Ti (E:=E) (fz:=fz) (Q:=Q) (nj:=st) aI Ff hs _ p ops.size _ [] st u a _ θ (by simp) Ml (by simp) (Cl.none ops _) hp dG (cD.refl _ _ _ _) h);have hdf:∀(j:Nat) (o:Oper) c,ops[j]?=some o->o.op≠ .defer c:=by
   intro j o c ho;have hj:ops.toList[j]?=some o:=by simpa using ho
   exact od (aI o (mem_of_getElem? hj)) c
  refine wpIn_mono (wpIn_region_any hm (sI C.ro hdf _ _ _ _ key)) λe a' w' hq=>?_;cases e with
  |normal=>exact hq
  |_=>exact hq.elim
theorem OU{ws:List Nat}{id:Nat}{ops:Array Oper}{Q:Exit->St->UW->Prop}{p:iT}(hm:E.P.follows .mixedOrders=true)(aI:∀o∈ops.toList,br C.n o=true)(Ff:∀o∈ops.toList,∀t,o.dst=some t->t∈ws)
  (hp:ti ops=some p) (hI:Inv C a wa st u θ) (h:Wd E fz ops u (Q .normal) p st u):(Code.region id ops true).wpIn (Fw C.ro) 0 E.P (QW C fz ws st Q) a wa:=by
 unfold ti at hp;cases hs:Region.noSelect ops with
 |false=>simp[hs]at hp
 |true=>
  simp only[hs,cond_true]at hp;have dG:=hI.drew;have key:=Tj (E:=E) (u0:=u) (fz:=fz) (Q:=Q) (nj:=st) (zw:=st) (θ0:=θ) aI Ff hs hI.gE ops.size p _ st u a _ θ (Cl.none ops _) hp dG (cD.refl _ _ _ _) (.inl ⟨Below.refl _ _,⟨rfl,λ_ _ _=>rfl,λ_ _ _ _ _=>rfl⟩⟩) h;have hdf:∀(j:Nat) (o:Oper) c,ops[j]?=some o->o.op≠ .defer c:=by
   intro j o c ho;have hj:ops.toList[j]?=some o:=by simpa using ho
   exact od (aI o (mem_of_getElem? hj)) c
  refine wpIn_mono (wpIn_region_any hm (sI C.ro hdf _ _ _ _ key)) λe a' w' hq=>?_;cases e with
  |normal=>exact hq
  |_=>exact hq.elim
end
section
variable {E:Env} {C:Ctx}
theorem DC{w w1:World}(hs:xT w w1){b:Nat}{c:Array Value}{T:TypeId}(h:w.heap[b]?=some (.cells c T (0,0)))(hc:c.size≠0):w1.heap[b]?=some (.cells c T (0,0)):=by
 rcases hs.block b (Array.getElem?_eq_some_iff.1 h).1 with e|e
 ·rw[<- e,h]
 ·rw[h]at e;simp only[cV,Option.some.injEq,Obj.cells.injEq]at e;rw[e.1]at hc;exact absurd rfl hc
theorem OV{fz:List Nat}{o:Oper}{st:St}{u:UW}{a:Act}{wa:World}{θ:Nat->Nat}{K:St->UW->Prop}{Q:Exit->Act->World->Prop}(aI:br C.n o=true)(hI:Inv C a wa st u θ)(h:Wk E fz o st u K):sB E C fz o st θ K Q a wa:=by
 unfold Wk at h;split at h
 ·rename_i t x y t' ho;cases hb:vN (ev st.σ x) (ev st.σ y)with
  |false=>rw[hb]at h;exact jU aI hI h
  |true=>
   rw[hb]at h;simp only[cond_true]at h;have hx:cZ C.n x=true:=kY aI (by simp[ho,Op.operands]);have hy:cZ C.n y=true:=kY aI (by simp[ho,Op.operands]);unfold JK at h;split at h
   ·rename_i b o1 b' o2 ex ey;split at h
    ·rename_i e hu;obtain⟨fw,h⟩:=aq h;obtain⟨⟨c,T,h1,GA⟩,⟨c',T',h2,Ms⟩,h⟩:=h;have g1:=DC hI.below h1 GA;have g2:=DC hI.below h2 Ms;have ahd:=bf hI hx ex rfl;have ahc:=bf hI hy ey rfl;unfold sized at fw;cases hi:E.P.info? e with
     |none=>rw[hi]at fw;cases fw
     |some i=>
      rw[hi]at fw;have NZ:i.size≠0:=by
       intro e0;simp only[e0]at fw;cases fw
      refine bc (r:=.bool (beq b b'&&beq o1 o2)) (wb:=wa) ?_ (aV aI hI rfl h);simp only[execOp,ho];rw[ahd,ahc,run_bind];have iP:(do eqGuard .eql t x y (.pointer (some ⟨b,o1,none⟩)) (.pointer (some ⟨b',o2,none⟩));binOp .eql t (.pointer (some ⟨b,o1,none⟩)) (.pointer (some ⟨b',o2,none⟩)):Sem Value).run E.P wa=.ok (.bool (beq b b'&&beq o1 o2)) wa:=by
       rw[run_bind,H_ x y wa (by simp) (by simp),andThen_ok];by_cases aQ:(⟨b,o1,none⟩:Addr)=⟨b',o2,none⟩
       ·simp only[Addr.mk.injEq,and_true]at aQ;obtain⟨rfl,rfl⟩:=aQ;rw[run_eql_ptr_same wa _ hu hi,Nat.beq_refl,Nat.beq_refl];rfl
       ·rw[run_eql_ptr_other wa hu hi NZ aQ g1 g2];have:(beq b b'&&beq o1 o2)=false:=by
         cases hq:(beq b b'&&beq o1 o2)with
         |false=>rfl
         |true=>
          simp only[and_eq_true,beq_iff]at hq;exact absurd (by rw[hq.1,hq.2]) aQ
        rw[this]
      rw[iP];rfl
    ·exact h.elim
   ·exact h.elim
 ·exact jU aI hI h
theorem BQ{fz ws:List Nat}{ops:Array Oper}{Q:Exit->St->UW->Prop}{nj:St}(aI:∀o∈ops.toList,br C.n o=true)(Ff:∀o∈ops.toList,∀t,o.dst=some t->t∈ws):
  ∀(l:List Oper) (i:Nat),ops.toList.drop i=l->∀(st:St) (u:UW) (a:Act) (wa:World) (θ:Nat->Nat),Inv C a wa st u θ->cD C.n fz ws nj st->Wl E fz ops (Q .normal) l st u->
   wpOpsIn (Fw C.ro) 0 E.P ops (QW C fz ws nj Q) (range' i l.length) a wa
 |[],i,_,st,u,a,wa,θ,hI,hP,h=>⟨st,u,θ,hI,hP,h⟩
 |o::l,i,hd,st,u,a,wa,θ,hI,hP,h=>by
  have hi:ops.toList[i]?=some o:=by
   have:=congrArg (·[0]?) hd;simpa using this
  have eJ:o∈ops.toList:=mem_of_getElem? hi;have hoi:ops[i]?=some o:=by simpa using hi
  have Zp:ops.toList.drop (i+1)=l:=by
   have:=congrArg (List.drop 1) hd;simpa[List.drop_drop,Nat.add_comm]using this
  have gu:=aI o eJ;have jk:∀{s s':St},cD C.n fz ws nj s->cD C.n fz o.dst.toList s s'->cD C.n fz ws nj s':=by
   intro s s' h1 h2;have:=h1.trans h2;refine this.mono (λ_ h=>h) λx hx=>?_;rw[mem_append]at hx;rcases hx with hx|hx
   ·exact hx
   ·cases tF:o.dst with
    |none=>simp[tF]at hx
    |some d=>simp only[tF,Option.toList,mem_singleton]at hx;exact Ff o eJ x (by rw[tF,hx])
  have go:∀{s:St},Inv C a wa s u θ->cD C.n fz ws nj s->(W1 E fz o s u (λbV w'=>Wl E fz ops (Q .normal) l bV w')\/Wk E fz o s u (λbV w'=>Wl E fz ops (Q .normal) l bV w'))->o.wpIn (Fw C.ro) 0 E.P a wa (wpOpsIn (Fw C.ro) 0 E.P ops (QW C fz ws nj Q) (range' (i+1) l.length)) (QW C fz ws nj Q):=by
   intro s hIs Zw h1;have:=h1.elim (jU (Q:=QW C fz ws nj Q) gu hIs) (OV (Q:=QW C fz ws nj Q) gu hIs);refine uD C.ro (od gu) (ng (λa' w' hp=>?_) this);obtain⟨bV,u',θ',dG,kh,_,_,hW⟩:=hp;exact BQ aI Ff l (i+1) Zp bV u' a' w' θ' dG (jk Zw kh) hW
  have skip:∀{s:St},Inv C a wa s u θ->cD C.n fz ws nj s->Wl E fz ops (Q .normal) l (fin o s undef) u->(∀f,o.about E.P wa a.eval=some f->(Fw C.ro).fn f)/\wpOpsIn (Fw C.ro) 0 E.P ops (QW C fz ws nj Q) (range' (i+1) l.length) (a.put o.dst undef) wa:=by
   intro s hIs Zw h1;exact⟨λ_ _=>trivial,BQ aI Ff l (i+1) Zp _ u _ wa θ (hIs.cN o.dst (ee gu) rfl) (jk Zw (cD.fin s o.dst (ee gu) hI.iO undef)) h1⟩
  simp only[length_cons,List.range'_succ,wpOpsIn,hoi];simp only[Wl]at h;cases hg:o.guard with
  |none=>
   simp only[hg]at h;have hw:Region.wanted o (yielded ops a.tmps)=true:=by simp[Region.wanted,hg]
   rw[if_pos hw];exact go hI hP (.inr h)
  |some jb=>
   obtain⟨j,b⟩:=jb;simp only[hg]at h;cases xx:oV ops j with
   |none=>simp only[xx]at h
   |some g=>
    simp only[xx]at h;have hgn:g<C.n:=by
     unfold oV at xx;cases hj:ops[j]? with
     |none=>simp[hj]at xx
     |some oj=>
      simp only[hj,Option.bind_some]at xx
      exact ee (aI oj (by have:ops.toList[j]?=some oj:=by simpa using hj
                          exact mem_of_getElem? this)) g xx
    have NV:yielded ops a.tmps j=match a.tmps.getD g undef with| .bool x=>some x|_=>none:=by
     unfold yielded;unfold oV at xx;rw[xx,Option.bind_some,getD_some hI.size hgn];cases a.tmps.getD g undef<;>rfl
    have vm:=hI.iz g hgn;split at h
    ·rename_i c hc;rw[hc,iI rfl]at vm;rw[vm]at NV;have hw:Region.wanted o (yielded ops a.tmps)=(c == b):=by
      simp only[Region.wanted,hg,NV];cases c<;>cases b<;>rfl
     rw[hw];cases c with
     |true=>
      simp only[ab]at h;rw[uF hc]at h;cases b with
      |true=>simp only at h;exact go hI hP (.inl h)
      |false=>simp only at h;exact skip hI hP h
     |false=>
      simp only[ab]at h;rw[uF hc]at h;cases b with
      |true=>simp only at h;exact skip hI hP h
      |false=>simp only at h;exact go hI hP (.inl h)
    ·rename_i vs hc;rw[hc,iI rfl]at vm;rw[vm]at NV;have hw:Region.wanted o (yielded ops a.tmps)=false:=by simp[Region.wanted,hg,NV]
     rw[hw];exact skip hI hP h
    ·exact h.elim
def fY(n:Nat):Code->Bool
 | .region _ ops _=>ops.toList.all (br n)
 | .seq a b=>fY n a&&fY n b
 | .cond c a b=>cZ n c&&fY n a&&fY n b
 | .block _ a=>fY n a
 | .loop a=>fY n a
 | .rangeFunc f ps a b=>cZ n f&&ps.toList.all (λp=>blt p n)&&fY n a&&fY n b
 |_=>true
theorem least{p:Nat->Prop}(h:∃n,p n):∃n,p n/\∀m,p m->n<=m:=by
 obtain⟨n,hn⟩:=h;induction n using Nat.strongRecOn with
 |_ n ih=>
  by_cases h:∃m,m<n/\p m
  ·obtain⟨m,h1,h2⟩:=h;exact ih m h1 h2
  ·exact⟨n,hn,λm hm=>Nat.le_of_not_lt λbI=>h ⟨m,bI,hm⟩⟩
theorem Px{F:Fence}{n0:Nat}{P:Program}{c:Code}{Q:Exit->Act->World->Prop}(I:Nat->Act->World->Prop)
  (round:∀n a w,I n a w->c.wpIn F n0 P (Exit.then (λa' w'=>∃m,m<n/\I m a' w') Q) a w):∀(n:Nat) (a:Act) (w:World),I n a w->(Code.loop c).wpIn F n0 P Q a w:=by
 classical
 intro n a w h0;let μ:Act->World->Nat:=λa w=>if h:∃n,I n a w then Classical.choose (least h)else 0;refine wpIn_loop (λa w=>∃n,I n a w) μ ⟨n,h0⟩ λa w hI=>?_;have hs:=Classical.choose_spec (least hI);have hμ:μ a w=Classical.choose (least hI):=by simp only[μ,dif_pos hI]
 refine wpIn_mono (round _ a w hs.1) λe a' w' hq=>?_;cases e with
 |normal=>
  obtain⟨m,hm,dG⟩:=hq;have hx:∃n,I n a' w':=⟨m,dG⟩;have Pg:=Classical.choose_spec (least hx);have hμ':μ a' w'=Classical.choose (least hx):=by simp only[μ,dif_pos hx]
  exact⟨⟨m,dG⟩,by rw[hμ,hμ'];exact Nat.lt_of_le_of_lt (Pg.2 m dG) hm⟩
 |_=>exact hq
theorem EI(n:Nat):range' 0 n=List.range n:=(List.range_eq_range').symm
def Sound(E:Env)(c:Code):Prop:=∀(C:Ctx),fY C.n c=true->∀(fz:List Nat) (Q:Exit->St->UW->Prop) (st:St) (u:UW) (a:Act) (wa:World) (θ:Nat->Nat),Inv C a wa st u θ->W E fz c Q st u->
    c.wpIn (Fw C.ro) 0 E.P (QW C fz (writes c) st Q) a wa
theorem Inv.Tg{a:Act}{wa:World}{st:St}{u:UW}{θ:Nat->Nat}(hI:Inv C a wa st u θ)(o:Obj)(ho:o.isCells=false):Inv C a (wa.alloc o) st u θ/\Hid u (wa.alloc o) wa.heap.size o:=by
 have hB:Below wa.heap.size wa (wa.alloc o):=(Below.refl _ _).alloc (le_refl _) o;refine⟨hI.world (u':=u) (F:=λ_=>False) (λ_ hf=>hf.elim) (Below.PD hB (le_refl _) _) ?_ (Mod.refl _ _) (λb h1 _ h3=>by omega) (λb hb=>lt_of_lt_of_le (hI.pb b hb) hB.size) (λ_ hb _=>hb),World.alloc_heap_new wa o,ho,λhp=>?_,λhl=>?_⟩
 ·refine⟨hI.below.os,hI.below.tape,hI.below.output,le_trans hI.below.size hB.size,λb hb=>?_⟩;rw[hB.block b (lt_of_lt_of_le hb hI.below.size)];exact hI.below.block b hb
 ·have:=hI.pb _ hp;omega
 ·have:=hI.below.size;omega
theorem ba{w:World}{l b:Nat}{o:Obj}(h:b≠l):(w.putObj l o).heap[b]?=w.heap[b]?:=World.putObj_heap_other h
theorem Inv.forget{a:Act}{wa:World}{st:St}{u:UW}{θ:Nat->Nat}{l:Nat}{o o1 o2:Obj}(hI:Inv C a wa st u θ)(hl:C.w1.heap.size<=l)(hu:u.heap[l]?=some o)(ho:JZ o=true)(hw:wa.heap[l]?=some o1)(ho1:JZ o1=true):
  Inv C a (wa.putObj l o2) st ⟨u.toWorld.putObj l cV,λb=>u.fW b/\b≠l⟩ θ:=by
 have hlu:l<u.heap.size:=(Array.getElem?_eq_some_iff.1 hu).1;have Vf:l<wa.heap.size:=(Array.getElem?_eq_some_iff.1 hw).1;have Jm:=hI.Jm;have cw:∀{b:Nat} {ob:Obj},b≠l->Hid u wa b ob->Hid ⟨u.toWorld.putObj l cV,λb=>u.fW b/\b≠l⟩ (wa.putObj l o2) b ob:=λ{b ob} aQ hh=>
  ⟨(ba aQ).trans hh.at_,hh.other,λhp=>hh.fW hp.1,λbI=>(ba aQ).trans (hh.mask (by simpa using bI))⟩
 refine⟨hI.size,hI.iO,⟨λd hd=>?_,hI.defers.nodup⟩,λl0 r e=>?_,hI.iz,?_,?_,hI.inj,hI.jd,hI.gE,?_,?_,?_,?_,hI.Jm,?_,hI.F0⟩
 ·obtain⟨r,e,hr,hh⟩:=hI.defers.each d hd;refine⟨r,e,hr,cw ?_ hh⟩;rintro rfl;have:=hh.at_;rw[hw]at this;cases this;cases ho1
 ·have hh:=hI.round l0 r e;refine cw ?_ hh;rintro rfl;have:=hh.mask hlu;rw[hu]at this;cases this;cases ho
 ·refine⟨hI.below.os,hI.below.tape,hI.below.output,by simpa using hI.below.size,λb hb=>?_⟩;by_cases e:b=l
  ·subst e;exact .inr (World.putObj_heap_same hlu)
  ·have:=hI.below.block b (by simpa using hb);show(u.toWorld.putObj l cV).heap[b]?=_\/(u.toWorld.putObj l cV).heap[b]?=_;rw[ba e,ba e];exact this
 ·intro k m hk;obtain⟨yB,c,T,h1,h2,h3,h4,h5,h6⟩:=hI.boxes k m hk;have aQ:θ k≠l:=by
   intro e;rw[e,hw]at h1;cases h1;cases ho1
  exact⟨yB,c,T,(ba aQ).trans h1,h2,h3,λhp=>h4 hp.1,h5,λbI=>(ba aQ).trans (h6 (by simpa using bI))⟩
 ·intro b hb;simpa using hI.pb b hb.1
 ·exact⟨hI.mod.os,hI.mod.tape,hI.mod.output,by simpa using hI.mod.size,λb hb hF=>(ba (by omega)).trans (hI.mod.cw b hb hF)⟩
 ·exact λb hb bI=>hI.pZ b hb.1 bI
 ·exact⟨hI.umod.os,hI.umod.tape,hI.umod.output,by simpa using hI.umod.size,λb hb hF=>(ba (by omega)).trans (hI.umod.cw b hb hF)⟩
 ·intro b h1 h2 h3;exact(ba (by omega)).trans (hI.Bn b h1 h2 (by simpa using h3))
theorem Inv.afW{a:Act}{wa:World}{st:St}{u:UW}{θ:Nat->Nat}{l:Nat}{r:Loop}(hI:Inv C a wa st u θ)(WU:C.ro=some (l,r))(r':Loop):
  Inv {C with w1:=C.w1.putObj l (.loop r'),ro:=some (l,r')} a (wa.putObj l (.loop r')) st u θ:=by
 have hl:=hI.round l r WU;have Vf:l<wa.heap.size:=(Array.getElem?_eq_some_iff.1 hl.at_).1;have cw:∀{b:Nat} {ob:Obj},b≠l->Hid u wa b ob->Hid u (wa.putObj l (.loop r')) b ob:=λ{b ob} aQ hh=>⟨(ba aQ).trans hh.at_,hh.other,hh.fW,hh.mask⟩;refine⟨hI.size,hI.iO,⟨λd hd=>?_,hI.defers.nodup⟩,λl0 r0 e=>?_,hI.iz,?_,?_,hI.inj,hI.jd,hI.gE,?_,?_,?_,hI.umod,by simpa using hI.Jm,?_,hI.F0⟩
 ·obtain⟨r0,e,hr,hh⟩:=hI.defers.each d hd;refine⟨r0,e,by simpa using hr,cw ?_ hh⟩;rintro rfl;have:=hh.at_;rw[hl.at_]at this;cases this
 ·simp only[Option.some.injEq,Prod.mk.injEq]at e;obtain⟨rfl,rfl⟩:=e;exact⟨World.putObj_heap_same Vf,rfl,hl.fW,hl.mask⟩
 ·refine⟨hI.below.os,hI.below.tape,hI.below.output,by simpa using hI.below.size,λb hb=>?_⟩;by_cases e:b=l
  ·subst e;exact .inr (hl.mask hb)
  ·rw[ba e];exact hI.below.block b hb
 ·intro k m hk;obtain⟨yB,c,T,h1,h2,h3,h4,h5,h6⟩:=hI.boxes k m hk;have aQ:θ k≠l:=by
   intro e;rw[e,hl.at_]at h1;cases h1
  exact⟨yB,c,T,(ba aQ).trans h1,h2,h3,h4,by simpa using h5,h6⟩
 ·intro b hb;simpa using hI.pb b hb
 ·refine⟨hI.mod.os,hI.mod.tape,hI.mod.output,by simpa using hI.mod.size,λb hb hF=>?_⟩;by_cases e:b=l
  ·subst e;show(wa.putObj b (.loop r')).heap[b]?=(C.w1.putObj b (.loop r')).heap[b]?;rw[World.putObj_heap_same Vf,World.putObj_heap_same (by simpa using hb)]
  ·show(wa.putObj l (.loop r')).heap[b]?=(C.w1.putObj l (.loop r')).heap[b]?;rw[ba e,ba e];exact hI.mod.cw b (by simpa using hb) hF
 ·exact λb hb bI=>hI.pZ b hb (by simpa using bI)
 ·intro b h1 h2 h3;exact hI.Bn b h1 (by simpa using h2) h3
def yw(r:Loop)(p:Option Code):Obj:=.loop {r with state:=if p.isNone then .ready else .done,pending:=p}
theorem Bx{P:Program}:∀{ts:List TypeId} {F:List Value->Prop},KB P ts F->∃vs,vs.length=ts.length/\(∀v∈vs,plain v=true)/\F vs
 |[],_,h=>⟨[],rfl,by simp,h⟩
 |t::ts,F,h=>by
  obtain⟨v,hp,h⟩:=By h
  obtain⟨vs,hl,xw,h⟩:=Bx h;exact⟨v::vs,by simp[hl],by simpa using⟨hp,xw⟩,h⟩
theorem Yg{θ θ':Nat->Nat}{σ:Fr}{t:Nat}{r:Value}(h:R θ (σ t) r):R θ' (yZ σ t) r:=by
 unfold yZ;split
 ·trivial
 ·rename_i v hv;have hp:plain (σ t)=true:=by
   cases hx:σ t<;>first|rfl|(exact absurd hx (hv _ _ _))
  rw[iI hp]at h |-;exact h
theorem Nu{σ:Fr}{t k o:Nat}:yZ σ t≠dK k o:=by
 unfold yZ;split
 ·intro h;cases h
 ·rename_i v hv;intro h;exact hv _ _ _ h
theorem yq{θ:Nat->Nat}{n:Nat}:∀(ps:List Nat) (vs:List Value) (σ:Fr) (tm:Array Value),ps.length=vs.length->tm.size=n->(∀p∈ps,p<n)->(∀v∈vs,plain v=true)->(∀t,t<n->R θ (σ t) (tm.getD t undef))->(∀t k o,σ t≠dK k o)->
  ((ps.zip vs).foldl (λt (x:Nat×Value)=>t.setIfInBounds x.1 x.2) tm).size=n/\(∀t,t<n->R θ (uL σ ps vs t) (((ps.zip vs).foldl (λt (x:Nat×Value)=>t.setIfInBounds x.1 x.2) tm).getD t undef))/\∀t k o,uL σ ps vs t≠dK k o
 |[],[],σ,tm,_,hs,_,_,h,hf=>⟨hs,h,hf⟩
 |p::ps,v::vs,σ,tm,hl,hs,xw,Fg,h,hf=>by
  have hp:p<tm.size:=by rw[hs];exact xw p (by simp)
  have oA:=Fg v (by simp);simp only[List.zip_cons_cons,List.foldl_cons,uL];refine yq ps vs (iM σ p v) (tm.setIfInBounds p v) (by simpa using hl) (by simpa using hs) (λq hq=>xw q (by simp[hq])) (λw hw=>Fg w (by simp[hw])) (λt ht=>?_) (λt k o e=>?_)
  ·rw[vw _ _ _ _ hp];by_cases e:t=p
   ·subst e;rw[if_pos rfl,eT];exact oJ oA
   ·rw[if_neg e,cj _ _ e];exact h t ht
  ·by_cases e':t=p
   ·subst e';rw[eT]at e;exact jL oA k o e
   ·rw[cj _ _ e']at e;exact hf t k o e
 |[],_::_,_,_,hl,_,_,_,_,_=>by simp at hl
 |_::_,[],_,_,hl,_,_,_,_,_=>by simp at hl
theorem Om(ps:Array Nat)(vs:List Value)(tm:Array Value):
  (ps.zip vs.toArray).foldl (λt (p,v)=>t.setIfInBounds p v) tm=(ps.toList.zip vs).foldl (λt (x:Nat×Value)=>t.setIfInBounds x.1 x.2) tm:=by
 rw[<- Array.foldl_toList,Array.toList_zip]
theorem GG{E:Env}{n:Nat}{x y:Code}{ps:Array Nat}{ts:List TypeId}{σ:Fr}{θ:Nat->Nat}{l:Nat}{r:Loop}(HH:Sound E x)(HG:Sound E y)(okx:fY n x=true)(oky:fY n y=true)
  (hn:n<=65536) (xw:∀p∈ps.toList,p<n) (y_:ts.length=ps.toList.length) (fw:r.tmps.size=n) (YQ:∀t,t<n->R θ (σ t) (r.tmps.getD t undef)) (hrp:r.params=ps) (hrx:r.assign=x) (hry:r.body=y)
  (vs:List Value) (w1:World) (F:Nat->Prop) (RR:Option Code->UW->Prop) (hl:w1.heap[l]?=some (yw r none)) (hF:∀b,F b->b<w1.heap.size/\b≠l)
  (h:KB E.P ts λoQ=>vs=oQ/\W E [] x (QC λeN u1=>W E [] y (JG RR) eN u1) ⟨uL (yZ σ) ps.toList oQ,[]⟩ ⟨w1.putObj l cV,F⟩):
  Lb E.P (.func (.yield l) #[] #[]) vs w1 (λb=>F b\/b=l) λv lo w2=>∃p fW w3,v=.bool p.isNone/\w2=w3.putObj l (yw r p)/\w3.heap[l]?=some cV/\(∀b,fW b->F b\/lo<=b)/\RR p ⟨w3,fW⟩:=by
 intro XR oU;obtain⟨oQ,hlen,oA,rfl,hW⟩:=Bx h;have Vf:l<w1.heap.size:=(Array.getElem?_eq_some_iff.1 hl).1;have zb:XR.heap[l]?=some (yw r none):=by
  rcases oU.block l Vf with e|e
  ·rw[<- e];exact hl
  ·rw[hl]at e;cases e
 refine⟨rfl,rfl,{r with state:=.ready,pending:=none},zb,by simp only[hrp];rw[hlen,y_];simp,roundIn_of_wpIn (F:=Fence.wide) trivial ?_⟩;simp only[hrp,hrx,hry];rw[Om];obtain⟨z1,z2,z3⟩:=yq (θ:=λ_=>0) ps.toList vs (yZ σ) r.tmps (by omega) fw xw oA (λt ht=>Yg (YQ t ht)) (λt k o=>Nu);have k_:Inv ⟨n,w1.putObj l cV,XR,F,some (l,{r with state:=.ready,pending:=none})⟩ {tmps:=(ps.toList.zip vs).foldl (λt (x:Nat×Value)=>t.setIfInBounds x.1 x.2) r.tmps,defers:=[]} XR ⟨uL (yZ σ) ps.toList vs,[]⟩ ⟨w1.putObj l cV,F⟩ (λ_=>0):=by
  refine⟨z1,hn,⟨by simp,List.nodup_nil⟩,λl0 r0 e=>?_,z2,?_,by simp,by simp,λt _ k o e=>absurd e (z3 t k o),by simp,λb hb=>lt_of_lt_of_le (hF b hb).1 oU.size,Mod.refl _ _,λb hb _=>hb,Mod.refl _ _,by simpa using oU.size,λb h1 _ h3=>absurd h3 (not_lt.2 h1),λb hb=>by simpa using(hF b hb).1⟩
  ·simp only[Option.some.injEq,Prod.mk.injEq]at e;obtain⟨rfl,rfl⟩:=e;exact⟨zb,rfl,λhp=>(hF _ hp).2 rfl,λ_=>World.putObj_heap_same Vf⟩
  ·refine⟨oU.os,oU.tape,oU.output,by simpa using oU.size,λb hb=>?_⟩;by_cases e:b=l
   ·subst e;exact .inr (World.putObj_heap_same Vf)
   ·show(w1.putObj l cV).heap[b]?=_\/(w1.putObj l cV).heap[b]?=_;rw[ba e];exact oU.block b (by simpa using hb)
 refine wpIn_mono (HH ⟨n,w1.putObj l cV,XR,F,some (l,{r with state:=.ready,pending:=none})⟩ okx [] _ _ _ _ _ _ k_ hW) λe a2 wa2 hq=>?_;obtain⟨Ud,u2,θ2,yH,_,hq⟩:=hq;cases e with
 |normal=>
  refine⟨_,run_beginRound (yH.round l _ rfl).at_ rfl,?_⟩;have RU:=yH.afW rfl {r with state:=.busy,pending:=none};refine wpIn_mono (HG _ oky [] _ _ _ _ _ _ RU hq) λe a3 wa3 hq=>?_;obtain⟨st3,u3,θ3,Cj,_,hq⟩:=hq;have hh:=Cj.round l _ rfl;have agY:l<wa3.heap.size:=(Array.getElem?_eq_some_iff.1 hh.at_).1;have NX:w1.heap.size<=u3.heap.size:=by simpa using Cj.umod.size
  have done:∀(p:Option Code),RR p u3->∃v w',(Instr.endRound l p).run E.P wa3=.ok v w'/\∃v' w'',Ending.returned v=.returned v'/\Out (λb=>F b\/b=l) w1 XR w'' w'/\∃p' fW w3,v'=.bool p'.isNone/\w''=w3.putObj l (yw r p')/\w3.heap[l]?=some cV/\(∀b,fW b->F b\/XR.heap.size<=b)/\RR p' ⟨w3,fW⟩:=by
   intro p hR;refine⟨_,_,run_endRound p hh.at_,_,u3.toWorld.putObj l (yw r p),rfl,⟨?_,?_,?_,?_⟩,p,u3.fW,u3.toWorld,rfl,rfl,hh.mask (by omega),λb hb=>?_,hR⟩
   ·refine⟨Cj.mod.os,Cj.mod.tape,Cj.mod.output,by simpa using Cj.mod.size,λb hb hnF=>?_⟩;have aQ:b≠l:=λe=>hnF (.inr e);rw[ba aQ,Cj.mod.cw b (by simpa using hb) (λhf=>hnF (.inl hf))];exact ba aQ
   ·refine⟨Cj.below.os,Cj.below.tape,Cj.below.output,by simpa using Cj.below.size,λb hb=>?_⟩;by_cases e:b=l
    ·subst e;left;rw[World.putObj_heap_same (by simpa using hb),World.putObj_heap_same agY];rfl
    ·rw[ba e,ba e];exact Cj.below.block b (by simpa using hb)
   ·refine⟨Cj.umod.os,Cj.umod.tape,Cj.umod.output,by simpa using NX,λb hb hnF=>?_⟩;have aQ:b≠l:=λe=>hnF (.inr e);rw[ba aQ,Cj.umod.cw b (by simpa using hb) (λhf=>hnF (.inl hf))];exact ba aQ
   ·intro b h1 h2 h3;rw[ba (by omega)];exact Cj.Bn b (by simpa using h1) (by simpa using h2) (by simpa using h3)
   ·by_cases bI:b<XR.heap.size
    ·exact .inl (Cj.pZ b hb (by simpa using bI))
    ·exact .inr (by omega)
  cases e with
  |normal=>exact done none hq
  |ret=>exact done (some .ret) hq
  |exit i=>exact done (some (.exit i)) hq
  |goto i=>exact hq.elim
  |panic c=>exact hq.elim
  |outgrown=>exact hq.elim
 |exit i=>exact hq.elim
 |goto i=>exact hq.elim
 |ret=>exact hq.elim
 |panic c=>exact hq.elim
 |outgrown=>exact hq.elim
theorem AV{Q:Nat->Prop}{i:Nat}:∀{l:List Nat},HA (l.map λj=>(j,Q j)) i->Q i
 |[],h=>h.elim
 |j::l,h=>by
  simp only[map_cons,HA,cond_eq_ite,beq_iff]at h
  split at h
  ·rename_i e;subst e;exact h
  ·exact AV h
theorem Hj{E:Env}{f:Operand}{ps:Array Nat}{x y:Code}(HH:Sound E x)(HG:Sound E y):Sound E (.rangeFunc f ps x y):=by
 intro C eb fz Q st u a wa θ hI h;simp only[fY,and_eq_true,all_eq_true]at eb;obtain⟨⟨⟨hof,xw⟩,hox⟩,hoy⟩:=eb;simp only[W]at h;cases y_:look E.rB (ps.toList.headD 0)with
 |none=>simp only[y_]at h
 |some ts=>
  simp only[y_]at h;obtain⟨hlen,⟨g,fa,fb,hfv⟩,h⟩:=aq h;have hlen:=beq_iff.1 hlen;have Zn:a.eval f=.func (.func g) fa fb:=bf hI hof hfv rfl;refine wpIn_rangeFunc λfn _=>?_;obtain⟨D,l,mark,pre,adr,hle,hIp⟩:∃(D l:Nat) (mark:List Deferred) (pre:World),(Instr.enterLoop fn a.tmps ps x y (Fw C.ro).round).run E.P wa=.ok (l,mark) (pre.alloc (.loop {state:=.ready,pending:=none,fn,tmps:=a.tmps,params:=ps,assign:=x,body:=y,defers:=D}))/\
    l=pre.heap.size/\Inv C {a with defers:=mark++a.defers} pre st u θ:=by
   cases WU:C.ro with
   |none=>
    obtain⟨k_,hh⟩:=hI.Tg (.deferred (some [])) rfl;refine⟨wa.heap.size,wa.heap.size+1,_,wa.alloc (.deferred (some [])),run_enterLoop_outer fn a.tmps ps x y,by simp,⟨k_.size,k_.iO,⟨λd hd=>?_,?_⟩,k_.round,k_.iz,k_.below,k_.boxes,k_.inj,k_.jd,k_.gE,k_.pb,k_.mod,k_.pZ,k_.umod,k_.Jm,k_.Bn,k_.F0⟩⟩
    ·simp only[List.cons_append,List.nil_append,mem_cons]at hd;rcases hd with rfl|hd
     ·exact⟨wa.heap.size,rfl,hI.mod.size,hh⟩
     ·exact k_.defers.each d hd
    ·simp only[List.cons_append,List.nil_append];refine nodup_cons.2 ⟨λhd=>?_,k_.defers.nodup⟩;obtain⟨r,e,_,hr⟩:=hI.defers.each _ hd;simp only[Deferred.mk.injEq,Target.collected.injEq]at e;have:=(Array.getElem?_eq_some_iff.1 hr.at_).1;omega
   |some lr=>
    obtain⟨l0,r0⟩:=lr;exact⟨r0.defers,wa.heap.size,[],wa,run_enterLoop_inner (hI.round l0 r0 WU).at_ fn a.tmps ps x y,rfl,hI⟩
  subst hle;obtain⟨r,hr⟩:∃r:Loop,r={state:=.ready,pending:=none,fn,tmps:=a.tmps,params:=ps,assign:=x,body:=y,defers:=D}:=⟨_,rfl⟩;rw[<- hr]at adr;obtain⟨w',adB,yH⟩:=hIp.born (.loop r);have hrn:yw r none=.loop r:=by rw[hr];rfl
  have dA:=h pre.heap.size (yw r) w' (λp=>rfl) (by rw[hrn];exact adB) (λvs w1 F RR hl hF hb=>
   GG (θ:=θ) HH HG hox hoy hI.iO (λp hp=>iH.1 (xw p hp)) hlen (by rw[hr];exact hI.size) (by rw[hr];exact hI.iz) (by rw[hr]) (by rw[hr]) (by rw[hr]) vs w1 F RR hl hF hb)
  obtain⟨F,hF,dA⟩:=jx.1 dA;have hc:=dA _ yH.below;rw[hfv]at hc;obtain⟨hY,hc⟩:=hc;refine⟨pre.heap.size,mark,pre.alloc (.loop r),{target:=.fn (.func g) fb,args:=fa++ #[.func (.yield pre.heap.size) #[] #[]]},pre.alloc (.loop r),g,fa++ #[.func (.yield pre.heap.size) #[] #[]]++fb,pre.alloc (.loop r),adr,?_,λ_ _=>trivial,?_,λh=>(by cases h),?_⟩
  ·simp[resolve,Zn,Deferred.ofValue];rfl
  ·simp only[invoke];exact nY hY
  ·have Xl:(fa++ #[Value.func (.yield pre.heap.size) #[] #[]]++fb)=(fa.toList++[Value.func (.yield pre.heap.size) #[] #[]]++fb.toList).toArray:=by
    apply toList_inj.1;simp
   rw[Xl];refine callsIn_wide.2 (hc.mono λe wr hp=>?_);obtain⟨v,w2,rfl,eZ,p,U_,hK⟩:=hp;have RU:=yH.ret hF eZ;have vp:wr.heap[pre.heap.size]?=some (yw r p):=by
    rcases RU.below.block _ (Array.getElem?_eq_some_iff.1 U_).1 with e|e
    ·rw[<- e];exact U_
    ·rw[U_]at e;cases e
   refine⟨p,_,run_endLoop vp (by cases p<;>simp),?_⟩;have Cj:=RU.forget (o2:=.loop {r with state:=.exhausted,pending:=p}) hIp.mod.size U_ rfl vp rfl;have hP:cD C.n fz (writes (.rangeFunc f ps x y)) st st:=cD.refl _ _ _ _;unfold PK at hK;split at hK
   ·exact⟨st,_,θ,Cj,hP,hK⟩
   ·refine wpIn_ret ⟨st,_,θ,Cj,hP,?_⟩;exact(aq hK).2
   ·refine wpIn_exit ⟨st,_,θ,Cj,hP,?_⟩;exact AV (Q:=λi=>Q (.exit i) st _) hK
   ·exact hK.elim
theorem Wj(c:Code):Sound E c:=by
 induction c with
 |skip=>intro C eb fz Q st u a wa θ hI h;exact wpIn_skip ⟨st,u,θ,hI,cD.refl _ _ _ _,h⟩
 |ret=>intro C eb fz Q st u a wa θ hI h;exact wpIn_ret ⟨st,u,θ,hI,cD.refl _ _ _ _,h⟩
 |exit i=>intro C eb fz Q st u a wa θ hI h;exact wpIn_exit ⟨st,u,θ,hI,cD.refl _ _ _ _,h⟩
 |region id ops draw=>
  intro C eb fz Q st u a wa θ hI h;simp only[fY,all_eq_true]at eb;cases draw with
  |true=>
   simp only[W]at h;obtain⟨hm,h⟩:=aq h;cases hiq:isQ E.eX id with
   |true=>
    rw[hiq]at h;simp only[cond_true]at h;cases hp:oh ops with
    |none=>simp only[hp]at h
    |some p=>
     simp only[hp]at h;exact OT hm eb (λo ho t ht=>by simp only[writes,mem_filterMap];exact⟨o,ho,ht⟩) hp hI h
   |false=>
   rw[hiq]at h;simp only[cond_false]at h;cases hp:ti ops with
   |none=>simp only[hp]at h
   |some p=>
    simp only[hp]at h;exact OU hm eb (λo ho t ht=>by simp only[writes,mem_filterMap];exact⟨o,ho,ht⟩) hp hI h
  |false=>
   simp only[W]at h;refine wpIn_region ?_;have:=BQ (E:=E) (Q:=Q) (nj:=st) (ws:=writes (.region id ops false)) eb (λo ho t ht=>by simp only[writes,mem_filterMap];exact⟨o,ho,ht⟩) ops.toList 0 rfl st u a wa θ hI (cD.refl _ _ _ _) h;rw[Array.length_toList,EI]at this;exact this
 |seq x y HH HG=>
  intro C eb fz Q st u a wa θ hI h;simp only[fY,and_eq_true]at eb;simp only[W]at h;refine wpIn_seq ?_;split at h
  ·refine wpIn_mono (HH C eb.1 fz _ st u a wa θ hI h) λe a' GI hq=>?_;obtain⟨bV,u',θ',dG,kh,hq⟩:=hq;cases e with
   |normal=>
    refine wpIn_mono (HG C eb.2 fz Q bV u' a' GI θ' dG hq) λe a'' abI hq=>?_;obtain⟨X_,TP,θ'',Zy,Kv,hq⟩:=hq;exact⟨X_,TP,θ'',Zy,kh.trans Kv,hq⟩
   |exit i=>exact⟨bV,u',θ',dG,kh.mono (λ_ h=>h) (λ_ h=>mem_append_left _ h),hq⟩
   |goto i=>exact⟨bV,u',θ',dG,kh.mono (λ_ h=>h) (λ_ h=>mem_append_left _ h),hq⟩
   |ret=>exact⟨bV,u',θ',dG,kh.mono (λ_ h=>h) (λ_ h=>mem_append_left _ h),hq⟩
   |panic i=>exact⟨bV,u',θ',dG,kh.mono (λ_ h=>h) (λ_ h=>mem_append_left _ h),hq⟩
   |outgrown=>exact⟨bV,u',θ',dG,kh.mono (λ_ h=>h) (λ_ h=>mem_append_left _ h),hq⟩
  ·rename_i cut _;obtain⟨hl,J,hA,hB⟩:=aq h;have Cp:∀{s:St},cD C.n (freeze fz st.D cut) (writes x) st s->cD C.n fz (writes x++writes y) st s:=λhp=>
    hp.mono (λz hz=>mem_append_left _ hz) (λz hz=>mem_append_left _ hz)
   refine wpIn_mono (HH C eb.1 (freeze fz st.D cut) _ st u a wa θ hI hA) λe a' GI hq=>?_;obtain⟨bV,u',θ',dG,kh,hq⟩:=hq;cases e with
   |normal=>
    simp only[r_,TT]at hq;obtain⟨hs,hq⟩:=aq hq;cases Vm:fP bV cut.live with
    |none=>simp only[Vm]at hq
    |some s=>
     simp only[Vm]at hq;obtain⟨hIm,hPm⟩:=JT hI dG kh hl hs Vm;refine wpIn_mono (HG C eb.2 fz Q _ u' a' GI θ' hIm (hB s u' hq)) λe a'' abI hq=>?_;obtain⟨X_,TP,θ'',Zy,Kv,hq⟩:=hq;exact⟨X_,TP,θ'',Zy,hPm.trans Kv,hq⟩
   |exit i=>exact⟨bV,u',θ',dG,Cp kh,hq⟩
   |goto i=>exact⟨bV,u',θ',dG,Cp kh,hq⟩
   |ret=>exact⟨bV,u',θ',dG,Cp kh,hq⟩
   |panic i=>exact⟨bV,u',θ',dG,Cp kh,hq⟩
   |outgrown=>exact⟨bV,u',θ',dG,Cp kh,hq⟩
 |cond c x y HH HG=>
  intro C eb fz Q st u a wa θ hI h;simp only[fY,and_eq_true]at eb;obtain⟨⟨hc,hx⟩,hy⟩:=eb;simp only[W]at h;split at h
  ·rename_i t ht;refine wpIn_cond (bf hI hc ht rfl) ?_;cases t with
   |true=>
    refine wpIn_mono (HH C hx fz Q st u a wa θ hI h) λe a' GI hq=>?_;obtain⟨bV,u',θ',dG,kh,hq⟩:=hq;exact⟨bV,u',θ',dG,kh.mono (λ_ h=>h) (λ_ h=>mem_append_left _ h),hq⟩
   |false=>
    refine wpIn_mono (HG C hy fz Q st u a wa θ hI h) λe a' GI hq=>?_;obtain⟨bV,u',θ',dG,kh,hq⟩:=hq;exact⟨bV,u',θ',dG,kh.mono (λ_ h=>h) (λ_ h=>List.mem_append_right _ h),hq⟩
  ·exact h.elim
 |block id x ih=>
  intro C eb fz Q st u a wa θ hI h;simp only[W]at h;refine wpIn_block (wpIn_mono (ih C eb fz _ st u a wa θ hI h) λe a' GI hq=>?_);obtain⟨bV,u',θ',dG,kh,hq⟩:=hq;cases e with
  |exit i=>
   simp only[xN,cond_eq_ite,beq_iff]at hq;simp only[Exit.inBlock];split at hq
   ·rename_i e;rw[if_pos e];exact⟨bV,u',θ',dG,kh,hq⟩
   ·rename_i e;rw[if_neg e];exact⟨bV,u',θ',dG,kh,hq⟩
  |normal=>exact⟨bV,u',θ',dG,kh,hq⟩
  |goto i=>exact⟨bV,u',θ',dG,kh,hq⟩
  |ret=>exact⟨bV,u',θ',dG,kh,hq⟩
  |panic i=>exact⟨bV,u',θ',dG,kh,hq⟩
  |outgrown=>exact⟨bV,u',θ',dG,kh,hq⟩
 |loop x ih=>
  intro C eb fz Q st u a wa θ hI h;simp only[W]at h;split at h
  ·exact h.elim
  ·rename_i cut _;obtain⟨hl,h⟩:=aq h;simp only[TT]at h;obtain⟨hs,h⟩:=aq h;cases Vm:fP st cut.live with
   |none=>simp only[Vm]at h
   |some s0=>
    simp only[Vm]at h;obtain⟨I,⟨n0,hI0⟩,Kc⟩:=h;have hP0:cD C.n (freeze fz st.D cut) (writes x) st st:=cD.refl _ _ _ _;obtain⟨hIm,hPm⟩:=JT hI hI hP0 hl hs Vm;refine Px (λn a' GI=>∃s u' θ',Inv C a' GI (mix st (writes x) cut s) u' θ'/\I n s u'/\cD C.n fz (writes x) st (mix st (writes x) cut s)) ?_ n0 a wa ⟨s0,u,θ,hIm,hI0,hPm⟩;intro n a' GI hh;obtain⟨s,u',θ',dG,hIs,Zw⟩:=hh;have hb:=Kc n s u' hIs;refine wpIn_mono (ih C eb _ _ _ u' a' GI θ' dG hb) λe a'' abI hq=>?_;obtain⟨Ud,u2,θ2,yH,hP2,hq⟩:=hq;have RO:cD C.n fz (writes x) st Ud:=by
     have:=Zw.trans (hP2.mono (ZE:=fz) (λz hz=>mem_append_left _ hz) (λz hz=>hz));exact this.mono (λ_ h=>h) (λz hz=>by rw[mem_append]at hz;exact hz.elim id id)
    cases e with
    |normal=>
     simp only[r_,TT]at hq;obtain⟨DK,hq⟩:=aq hq;cases Zl:fP Ud cut.live with
     |none=>simp only[Zl]at hq
     |some s2=>
      simp only[Zl]at hq;have Vn:cD C.n (freeze fz st.D cut) (writes x) st Ud:=by
       have h1:cD C.n (freeze fz st.D cut) (writes x) st (mix st (writes x) cut s):=⟨Zw.slot,Zw.D,λk hk m hm j hj=>?_⟩
       ·have:=h1.trans hP2;exact this.mono (λ_ h=>h) (λz hz=>by rw[mem_append]at hz;exact hz.elim id id)
       ·exact(UJ hI hl (writes x) s) k hk m hm j hj
      obtain⟨ahN,ahH⟩:=JT hI yH Vn hl DK Zl;obtain⟨m,hm,hq⟩:=hq;exact⟨m,hm,s2,u2,θ2,ahN,hq,ahH⟩
    |exit i=>exact⟨Ud,u2,θ2,yH,RO,hq⟩
    |goto i=>exact⟨Ud,u2,θ2,yH,RO,hq⟩
    |ret=>exact⟨Ud,u2,θ2,yH,RO,hq⟩
    |panic i=>exact⟨Ud,u2,θ2,yH,RO,hq⟩
    |outgrown=>exact⟨Ud,u2,θ2,yH,RO,hq⟩
 |rangeFunc f ps x y HH HG=>exact Hj HH HG
 |scope x ih=>intro C eb fz Q st u a wa θ hI h;exact h.elim
 |label l=>intro C eb fz Q st u a wa θ hI h;exact h.elim
 |goto l=>intro C eb fz Q st u a wa θ hI h;exact h.elim
 |refuse s=>intro C eb fz Q st u a wa θ hI h;exact h.elim
end
def Dw(n:Nat):ResultVar->Bool
 | .tmp t=>blt t n
 | .cell t _=>blt t n
def UA(n:Nat)(c:Code)(rs:List ResultVar)(args:List Value):Bool:=fY n c&&ble n 65536&&rs.all (Dw n)&&ble args.length n&&args.all plain
def EF(tmps:Array Value):ResultVar->Sem Value
 | .tmp t=>pure (tmps.getD t undef)
 | .cell x t=>do loadVar t (<- asAddr (tmps.getD x undef))
section
variable {C:Ctx} {a:Act} {wa:World} {st:St} {u:UW} {θ:Nat->Nat}
theorem wU{P:Program}{tmps:Array Value}{x:Nat}{t:TypeId}{ad:Addr}{v:Value}{w:World}(h:tmps.getD x undef=.pointer (some ad))(hl:(loadVar t ad).run P w=.ok v w):(EF tmps (.cell x t)).run P w=.ok v w:=by
 simp only[EF,run_bind,h,asAddr,run_pure,andThen_ok,hl]
theorem LL{P:Program}{tmps:Array Value}{r:ResultVar}{rs:List ResultVar}{v:Value}{vs:List Value}{w:World}(h:(EF tmps r).run P w=.ok v w)(hs:(rs.mapM (EF tmps)).run P w=.ok vs w):
  ((r::rs).mapM (EF tmps)).run P w=.ok (v::vs) w:=by
 simp only[List.mapM_cons,run_bind,h,andThen_ok,hs,run_pure]
theorem n_{P:Program}(hI:Inv C a wa st u θ):∀(rs:List ResultVar) (F:List Value->Prop),(∀r∈rs,Dw C.n r=true)->sW P st u rs F->
  ∃vs,(rs.mapM (EF a.tmps)).run P wa=.ok vs wa/\F vs
 |[],F,_,h=>⟨[],by simp,h⟩
 | .tmp t::rs,F,aI,h=>by
   simp only[sW]at h
   obtain⟨hp,h⟩:=aq h
   obtain⟨vs,hr,hF⟩:=n_ hI rs _ (λr hr=>aI r (by simp[hr])) h;have htn:Dw C.n (.tmp t)=true:=aI _ (by simp);have ht:=hI.iz t (iH.1 htn);rw[iI hp]at ht;exact⟨_,LL (by simp only[EF,run_pure,ht]) hr,hF⟩
 | .cell x t::rs,F,aI,h=>by
   simp only[sW]at h;have htn:Dw C.n (.cell x t)=true:=aI _ (by simp);have hx:x<C.n:=iH.1 htn;have hs:=hI.iz x hx;cases hk:kinds P t with
   |none=>simp only[hk]at h
   |some ks=>
    simp only[hk]at h;obtain⟨zb,⟨d,hu⟩,tB⟩:=lJ hk;split at h
    ·rename_i k off he;cases hb:eR st.D k with
     |none=>simp only[hb]at h
     |some m=>
      simp only[hb]at h;obtain⟨hc,h⟩:=aq h;simp only[and_eq_true,ble_eq]at hc;obtain⟨h1,h2⟩:=hc;obtain⟨_,c,T,b1,b2,b3,_⟩:=hI.boxes k m (jQ hb);have Bl:=gV b2 b3 ks.length off h1 (nL h2);obtain⟨vs,hr,hF⟩:=n_ hI rs _ (λr hr=>aI r (by simp[hr])) h;rw[he]at hs;have Pg:a.tmps.getD x undef=.pointer (some ⟨θ k,off,none⟩):=hs;exact⟨_,LL (wU Pg (by rw[ig hk b1 (show off+ks.length<=c.size by omega),Bl])) hr,hF⟩
    ·obtain⟨b,off,hv,h⟩:=gk h;obtain⟨us,hlen,hp,dS,h⟩:=qC h;obtain⟨vs,hr,hF⟩:=n_ hI rs _ (λr hr=>aI r (by simp[hr])) h;rw[hv,iI rfl]at hs;by_cases hz:ks.length=0
     ·have mK:di P t=true:=tB.resolve_right (by omega);have Fg:us=[]:=List.eq_nil_of_length_eq_zero (by omega);subst Fg;obtain⟨i,hi⟩:=gL hu;refine⟨_,LL (wU hs ?_) hr,hF⟩;simp only[loadVar,run_bind,kX hu,mK,if_true,cB hi,<- zb,hz,andThen_ok];rfl
     ·obtain⟨c,T,f,c1,c2,c3⟩:=uT hI.below dS hz;exact⟨_,LL (wU hs (by rw[ig hk c1 c2,<- c3])) hr,hF⟩
theorem Hh{P:Program}{fn:Func}{rs:List ResultVar}(Jc:fn.results.toList=rs){vs:List Value}(h:(rs.mapM (EF a.tmps)).run P wa=.ok vs wa):
  (results fn a.tmps).run P wa=.ok (match vs with|[v]=>v|vs=>.tuple vs.toArray) wa:=by
 have e:results fn a.tmps=(do let vs <- fn.results.mapM (EF a.tmps);pure (if h:vs.size=1 then vs[0]else .tuple vs):Sem Value):=by
  unfold results;congr 1
 rw[e,Array.mapM_eq_mapM_toList,Jc];simp only[run_bind,Sem.run_map,h,andThen_ok,run_pure]
 match vs with
 |[]=>rfl
 |[v]=>rfl
 |v::v'::vs=>simp
end
theorem Inv.XU{C:Ctx}{a:Act}{wa:World}{st:St}{u:UW}{θ:Nat->Nat}{d:Deferred}{ds:List Deferred}{r:Nat}(hI:Inv C a wa st u θ)(hd:a.defers=d::ds)(he:d={target:=.collected r,args:= #[]}):
  Inv C {a with defers:=ds} (wa.putObj r (.deferred none)) st u θ:=by
 obtain⟨r',e',hr,hh⟩:=hI.defers.each d (by rw[hd];simp);rw[he]at e';simp only[Deferred.mk.injEq,Target.collected.injEq,and_true]at e';subst e';have HO:(d::ds).Nodup:=hd▸hI.defers.nodup;have cw:∀{b:Nat} {ob:Obj},b≠r->Hid u wa b ob->Hid u (wa.putObj r (.deferred none)) b ob:=λ{b ob} aQ hh=>⟨(ba aQ).trans hh.at_,hh.other,hh.fW,hh.mask⟩;refine⟨hI.size,hI.iO,⟨λd' Zp=>?_,(nodup_cons.1 HO).2⟩,λl0 r0 e=>cw ?_ (hI.round l0 r0 e),hI.iz,?_,?_,hI.inj,hI.jd,hI.gE,?_,?_,hI.pZ,hI.umod,hI.Jm,hI.Bn,hI.F0⟩
 ·obtain⟨r1,e1,h1,hh1⟩:=hI.defers.each d' (by rw[hd];simp[Zp]);refine⟨r1,e1,h1,cw ?_ hh1⟩;rintro rfl;rw[<- he]at e1;subst e1;exact(nodup_cons.1 HO).1 Zp
 ·rintro rfl;have:=(hI.round l0 r0 e).at_;rw[hh.at_]at this;cases this
 ·refine⟨hI.below.os,hI.below.tape,hI.below.output,by simpa using hI.below.size,λb hb=>?_⟩;by_cases e:b=r
  ·subst e;exact .inr (hh.mask hb)
  ·rw[ba e];exact hI.below.block b hb
 ·intro k m hk;obtain⟨yB,c,T,h1,h2,h3,h4,h5,h6⟩:=hI.boxes k m hk;have aQ:θ k≠r:=by
   intro e;rw[e,hh.at_]at h1;cases h1
  exact⟨yB,c,T,(ba aQ).trans h1,h2,h3,h4,h5,h6⟩
 ·intro b hb;simpa using hI.pb b hb
 ·exact⟨hI.mod.os,hI.mod.tape,hI.mod.output,by simpa using hI.mod.size,λb hb hF=>(ba (by omega)).trans (hI.mod.cw b hb hF)⟩
theorem vh{P:Program}{fn:Func}{rs:List ResultVar}{R:Value->UW->Prop}{C:Ctx}{st:St}{u:UW}{θ:Nat->Nat}{G:Ending->World->Prop}(Jc:fn.results.toList=rs)(aI:∀r∈rs,Dw C.n r=true):
  ∀(ds:List Deferred) (a:Act) (wa:World),a.defers=ds->Inv C a wa st u θ->sW P st u rs (Nc R u)->(∀wr v,Out C.F C.w0 C.w1 u.toWorld wr->R v u->G (.returned v) wr)->LeavesInM Fence.wide 0 P fn a.tmps G ds .returning wa
 |[],a,wa,_,hI,hq,hG=>by
  obtain⟨vs,iP,hR⟩:=n_ hI rs _ aI hq
  refine⟨_,Hh Jc iP,hG _ _ ⟨hI.mod,hI.below,hI.umod,hI.Bn⟩ ?_⟩;unfold Nc at hR
  match vs,hR with
  |[],hR=>exact hR
  |[v],hR=>exact hR
  |v::v'::vs,hR=>exact hR
 |d::ds,a,wa,hd,hI,hq,hG=>by
  obtain⟨r,he,hr,hh⟩:=hI.defers.each d (by rw[hd];simp);refine⟨by simp,.inl ⟨r,_,by rw[he],run_takeDeferred hh.at_,?_⟩⟩;exact vh Jc aI ds {a with defers:=ds} _ rfl (hI.XU hd he) hq hG
theorem Tl{P:Program}{f:FuncId}{fn:Func}{c:Code}{n:Nat}{eX:List Nat}{loops i_:List (Nat×Cut)}{rB:List (Nat×List TypeId)}{rs:List ResultVar}{args:List Value}{w:World}{F:Nat->Prop}{R:Value->UW->Prop}
  (hf:P.funcs[f]?=some fn) (hb:fn.body=some c) (Ve:fn.ntmps=n) (Jc:fn.results.toList=rs) (aI:UA n c rs args=true) (hF:∀b,F b->b<w.heap.size)
  (h:WF P n eX loops i_ rB c rs args ⟨w,F⟩ R):FnB P f args.toArray w F λv lo w'=>∃fW,(∀b,fW b->F b\/lo<=b)/\R v ⟨w',fW⟩:=by
 simp only[UA,and_eq_true,ble_eq,all_eq_true]at aI;obtain⟨⟨⟨⟨hc,hn⟩,hr⟩,hal⟩,oA⟩:=aI;intro w1 oU;refine(callsIn_wide (n:=0)).1 (callsIn_of_wp_marks hf hb trivial ?_);have hI:Inv ⟨n,w,w1,F,none⟩ {tmps:=args.toArray++replicate (fn.ntmps-args.toArray.size) undef,defers:=[]} w1 ⟨IB args,[]⟩ ⟨w,F⟩ (λ_=>0):=by
  have adk:∀t,(args.toArray++replicate (fn.ntmps-args.toArray.size) undef).getD t undef=IB args t:=by
   intro t;rw[getD_eq_getD_getElem?];unfold IB;by_cases ht:t<args.length
   ·rw[Array.getElem?_append_left (by simpa using ht)];simp
   ·rw[Array.getElem?_append_right (by simp;omega),List.getElem?_eq_none (by omega),Array.getElem?_replicate];split<;>rfl
  have Rh:∀t,plain (IB args t)=true:=by
   intro t;unfold IB;cases hg:args[t]? with
   |none=>rfl
   |some v=>exact oA v (mem_of_getElem? hg)
  refine⟨by simp[Ve];omega,hn,⟨by simp,List.nodup_nil⟩,λl r e=>(by cases e),λt _=>?_,oU,by simp,by simp,λt _ k o e=>absurd e (jL (Rh t) k o),by simp,λb hb=>lt_of_lt_of_le (hF b hb) oU.size,Mod.refl _ _,λb hb _=>hb,Mod.refl _ _,oU.size,λb h1 _ h3=>absurd h3 (not_lt.2 h1),hF⟩;rw[adk];exact oJ (Rh t)
 refine wpIn_mono (Wj (E:=⟨P,n,eX,loops,i_,rB⟩) c ⟨n,w,w1,F,none⟩ hc [] _ _ _ _ _ _ hI h) λe a' GI hq=>?_;obtain⟨bV,u',θ',dG,_,hq⟩:=hq;have key:sW P bV u' rs (Nc R u')->LeavesInM Fence.wide 0 P fn a'.tmps (λe wr=>∃v w',e=.returned v/\Out F w w1 w' wr/\∃fW,(∀b,fW b->F b\/w1.heap.size<=b)/\R v ⟨w',fW⟩) a'.defers .returning GI:=by
  intro hq;refine vh Jc hr a'.defers a' GI rfl dG hq λwr v eZ hR=>⟨v,u'.toWorld,rfl,eZ,u'.fW,λb hb=>?_,hR⟩;by_cases bI:b<w1.heap.size
  ·exact .inl (dG.pZ b hb bI)
  ·exact .inr (by omega)
 cases e with
 |normal=>exact key hq
 |ret=>exact key hq
 |exit i=>exact hq.elim
 |goto i=>exact hq.elim
 |panic i=>exact hq.elim
 |outgrown=>exact hq.elim
theorem FnB.mono{P:Program}{f:FuncId}{args:Array Value}{w:World}{F:Nat->Prop}{K K':Value->Nat->World->Prop}(h:FnB P f args w F K)(hk:∀v lo w',Mod F w w'->w.heap.size<=lo->K v lo w'->K' v lo w'):
  FnB P f args w F K':=by
 intro w1 hs;refine(h w1 hs).mono λe wr hp=>?_;obtain⟨v,w',rfl,ho,hK⟩:=hp;exact⟨v,w',rfl,ho,hk v _ w' ho.umod hs.size hK⟩
theorem uU{H:IK}{b o n:Nat}{vs:List Value}(h:rd H b o n=some vs):∃c T f,H[b]?=some (.cells c T f)/\o+n<=c.size/\vs=(c.toList.drop o).take n:=by
 unfold rd at h;cases hb:H[b]? with
 |none=>simp[hb]at h
 |some ob=>
  cases ob<;>simp only[hb]at h<;>try (cases h;done)
  rename_i c T f;split at h
  ·rename_i hl;simp only[Option.some.injEq]at h;exact⟨c,T,f,rfl,hl,h.symm⟩
  ·cases h
theorem Aw{H:IK}{b o n:Nat}{c:Array Value}{T:TypeId}{f:Nat×Nat}(h:H[b]?=some (.cells c T f))(hl:o+n<=c.size):rd H b o n=some ((c.toList.drop o).take n):=by
 simp[rd,h,hl]
theorem Qg{H:IK}{b o n:Nat}{vs:List Value}(h:rd H b o n=some vs):vs.length=n:=by
 obtain⟨c,T,f,h1,h2,rfl⟩:=uU h;simp;omega
theorem Ii{sz:Nat}:∀{yP:List (List Value)},(∀x∈yP,x.length=sz)->yP.flatten.length=yP.length*sz
 |[],_=>by simp
 |x::yP,h=>by
  have ih:=Ii (yP:=yP) (λy hy=>h y (by simp[hy]))
  rw[List.flatten_cons,List.length_append,length_cons,h x (by simp),ih,Nat.add_mul,Nat.one_mul];omega
structure SlR(H:IK)(a:Option Addr)(n c sz:Nat)(yP:List (List Value)):Prop where
 len:yP.length=n
 cap:n<=c
 each:∀x∈yP,x.length=sz
 read:n≠0->∃b o,a=some ⟨b,o,none⟩/\rd H b o (n*sz)=some yP.flatten
theorem SlR.nil(H:IK)(sz:Nat):SlR H none 0 0 sz []:=⟨rfl,le_refl _,by simp,λh=>absurd rfl h⟩
theorem aD{x:Int}(h0: -9223372036854775808<=x)(h1:x<=9223372036854775807):IntKind.i64.wrap x=x:=IntWalk.i64_in x (by omega)
inductive Fl where
 |sh
 |nr
 |nil
 |nh (b c:Nat)
inductive PV where
 |raw (v:Value)
 |list (sz:Nat) (fl:Fl) (rows:List (List PV))
 |bj (row:List PV) (o:Nat)
 |fn (f:Fn) (first tP:List PV)
 |agg (cs:List PV)
 |az (vs:List PV)
 |iface (t:TypeId) (p:PV)
 |box (k o:Nat)
 |aY
@[reducible] def pI(i:Int):PV:=.raw (.int .i64 i)
@[reducible] def pB(b:Bool):PV:=.raw (.bool b)
@[reducible] def pS(s:ByteArray):PV:=.raw (.string s)
@[reducible] def pP(b o:Nat):PV:=.raw (.pointer (some ⟨b,o,none⟩))
def PV.cell:PV->Bool
 | .raw _| .list .. | .bj .. | .fn .. | .iface .. =>true
 |_=>false
def PV.ok:PV->Bool
 | .agg _=>true
 |p=>p.cell
abbrev Fz:=Nat->Option (List Value)
def Tu:Fl->Option Addr->Nat->Nat->Prop
 | .sh,_,_,_=>True
 | .nr,_,n,c=>c=n
 | .nil,a,n,c=>a=none/\n=0/\c=0
 | .nh b c',a,_,c=>a=some ⟨b,0,none⟩/\c=c'
inductive bR(Z:Fz):PV->Value->Prop where
 |raw (v:Value) (h:plain v=true) (h1:one v=true):bR Z (.raw v) v
 |list (sz:Nat) (fl:Fl) (rows:List (List PV)) (a:Option Addr) (n c b o:Nat) (C:List Value) (g:Nat->Nat->Value) (hn:rows.length=n) (hc:n<=c) (hs:c=0\/gZ a) (hr:∀r∈rows,r.length=sz)
   (ha:n≠0->a=some ⟨b,o,none⟩/\Z b=some C) (hg:∀i j:Nat,i<n->j<sz->C[o+i*sz+j]?=some (g i j))
   (hk:∀(i j:Nat) row p,rows[i]?=some row->row[j]?=some p->p.cell=true) (hp:∀(i j:Nat) row p,rows[i]?=some row->row[j]?=some p->bR Z p (g i j)) (hf:Tu fl a n c):bR Z (.list sz fl rows) (.slice a n c)
 |bj (row:List PV) (o b off:Nat) (C:List Value) (g:Nat->Value) (hz:Z b=some C) (hg:∀j:Nat,j<row.length->C[off+j]?=some (g j)) (hk:∀(j:Nat) p,row[j]?=some p->p.cell=true) (hp:∀(j:Nat) p,row[j]?=some p->bR Z p (g j)):bR Z (.bj row o) (.pointer (some ⟨b,off+o,none⟩))
 |fn (f:Fn) (first tP:List PV) (fv cv:List Value) (h1:fv.length=first.length) (h2:cv.length=tP.length) (kf:∀p∈first,p.ok=true) (kc:∀p∈tP,p.ok=true) (hf:∀(i:Nat) p v,first[i]?=some p->fv[i]?=some v->bR Z p v) (hc:∀(i:Nat) p v,tP[i]?=some p->cv[i]?=some v->bR Z p v):bR Z (.fn f first tP) (.func f fv.toArray cv.toArray)
 |agg (cs:List PV) (vs:List Value) (hl:vs.length=cs.length) (hk:∀p∈cs,p.cell=true) (h:∀(i:Nat) p v,cs[i]?=some p->vs[i]?=some v->bR Z p v):bR Z (.agg cs) (.agg vs.toArray)
 |az (ps:List PV) (vs:List Value) (hl:vs.length=ps.length) (hk:∀p∈ps,p.ok=true) (h:∀(i:Nat) p v,ps[i]?=some p->vs[i]?=some v->bR Z p v):bR Z (.az ps) (.tuple vs.toArray)
 |iface (t:TypeId) (p:PV) (v:Value) (hk:p.ok=true) (h:bR Z p v):bR Z (.iface t p) (.iface t v)
 |box (k o:Nat):bR Z (.box k o) (dK k o)
 |aY (v:Value):bR Z .aY v
def Fz.le(Z Z':Fz):Prop:=∀b C,Z b=some C->∃C',Z' b=some C'/\C <+: C'
theorem Fz.le.refl(Z:Fz):Z.le Z:=λ_ C h=>⟨C,h,List.prefix_refl C⟩
theorem Fz.le.trans{A B C:Fz}(h:A.le B)(k:B.le C):A.le C:=λb L hL=>by
 obtain⟨L',h1,h2⟩:=h b L hL;obtain⟨L'',h3,h4⟩:=k b L' h1;exact⟨L'',h3,h2.trans h4⟩
theorem AB{A B:List Value}(h:A <+: B){i:Nat}{v:Value}(hv:A[i]?=some v):B[i]?=some v:=by
 obtain⟨t,rfl⟩:=h;rw[List.getElem?_append_left (List.getElem?_eq_some_iff.1 hv).1];exact hv
theorem bR.mono{Z Z':Fz}(hz:Z.le Z'){p:PV}{v:Value}(h:bR Z p v):bR Z' p v:=by
 induction h with
 |raw v h h1=>exact .raw v h h1
 |list sz fl rows a n c b o C g hn hc hs hr ha hg hk hp hf ih=>
  by_cases h0:n=0
  ·exact .list sz fl rows a n c b o C g hn hc hs hr (λh=>absurd h0 h) hg hk ih hf
  ·obtain⟨C',h1,h2⟩:=hz b C (ha h0).2;exact .list sz fl rows a n c b o C' g hn hc hs hr (λ_=>⟨(ha h0).1,h1⟩) (λi j hi hj=>AB h2 (hg i j hi hj)) hk ih hf
 |bj row o b off C g hC hg hk hp ih=>
  obtain⟨C',h1,h2⟩:=hz b C hC;exact .bj row o b off C' g h1 (λj hj=>AB h2 (hg j hj)) hk ih
 |fn f first tP fv cv h1 h2 kf kc hf hc ih1 ih2=>exact .fn f first tP fv cv h1 h2 kf kc ih1 ih2
 |agg cs vs hl hk h ih=>exact .agg cs vs hl hk ih
 |az cs vs hl hk h ih=>exact .az cs vs hl hk ih
 |iface t p v hk _ ih=>exact .iface t p v hk ih
 |box k o=>exact .box k o
 |aY v=>exact .aY v
theorem bR.cell{Z:Fz}{p:PV}{v:Value}(h:bR Z p v)(hc:p.cell=true):plain v=true/\one v=true:=by
 cases h<;>first|(constructor<;>assumption)|exact⟨rfl,rfl⟩|(simp[PV.cell]at hc)
theorem bR.plain{Z:Fz}{p:PV}{v:Value}(h:bR Z p v)(hc:p.ok=true):plain v=true:=by
 cases h<;>first|assumption|rfl|(simp[PV.ok,PV.cell]at hc)
def bn(Z:Fz)(ps:List PV)(vs:List Value):Prop:=vs.length=ps.length/\∀(i:Nat) p v,ps[i]?=some p->vs[i]?=some v->p.ok=true/\bR Z p v
def bq(Z:Fz)(ps:List PV)(vs:List Value):Prop:=vs.length=ps.length/\∀(i:Nat) p v,ps[i]?=some p->vs[i]?=some v->p.cell=true/\bR Z p v
theorem bn.mono{Z Z':Fz}(hz:Z.le Z'){ps:List PV}{vs:List Value}(h:bn Z ps vs):bn Z' ps vs:=⟨h.1,λi p v a b=>⟨(h.2 i p v a b).1,(h.2 i p v a b).2.mono hz⟩⟩
theorem bq.mono{Z Z':Fz}(hz:Z.le Z'){ps:List PV}{vs:List Value}(h:bq Z ps vs):bq Z' ps vs:=⟨h.1,λi p v a b=>⟨(h.2 i p v a b).1,(h.2 i p v a b).2.mono hz⟩⟩
theorem PV.EO{p:PV}(h:p.cell=true):p.ok=true:=by cases p<;>simp_all [PV.ok,PV.cell]
theorem bn.nil(Z:Fz):bn Z [] []:=⟨rfl,by simp⟩
theorem bq.nil(Z:Fz):bq Z [] []:=⟨rfl,by simp⟩
theorem bn.cons{Z:Fz}{p:PV}{ps:List PV}{v:Value}{vs:List Value}(hk:p.ok=true)(h:bR Z p v)(hs:bn Z ps vs):bn Z (p::ps) (v::vs):=
 ⟨by simp[hs.1],λi q w a b=>by
  cases i with
  |zero=>simp only[List.getElem?_cons_zero,Option.some.injEq]at a b;subst a;subst b;exact⟨hk,h⟩
  |succ i=>simp only[List.getElem?_cons_succ]at a b;exact hs.2 i q w a b⟩
theorem bq.cons{Z:Fz}{p:PV}{ps:List PV}{v:Value}{vs:List Value}(hk:p.cell=true)(h:bR Z p v)(hs:bq Z ps vs):bq Z (p::ps) (v::vs):=
 ⟨by simp[hs.1],λi q w a b=>by
  cases i with
  |zero=>simp only[List.getElem?_cons_zero,Option.some.injEq]at a b;subst a;subst b;exact⟨hk,h⟩
  |succ i=>simp only[List.getElem?_cons_succ]at a b;exact hs.2 i q w a b⟩
theorem bn.inv{Z:Fz}{p:PV}{ps:List PV}{vs:List Value}(h:bn Z (p::ps) vs):∃v oQ,vs=v::oQ/\p.ok=true/\bR Z p v/\bn Z ps oQ:=by
 obtain⟨hl,h⟩:=h;cases vs with
 |nil=>simp at hl
 |cons v vs=>exact⟨v,vs,rfl,(h 0 p v rfl rfl).1,(h 0 p v rfl rfl).2,by simpa using hl,λi q w a b=>h (i+1) q w (by simpa using a) (by simpa using b)⟩
theorem bq.inv{Z:Fz}{p:PV}{ps:List PV}{vs:List Value}(h:bq Z (p::ps) vs):∃v oQ,vs=v::oQ/\p.cell=true/\bR Z p v/\bq Z ps oQ:=by
 obtain⟨hl,h⟩:=h;cases vs with
 |nil=>simp at hl
 |cons v vs=>exact⟨v,vs,rfl,(h 0 p v rfl rfl).1,(h 0 p v rfl rfl).2,by simpa using hl,λi q w a b=>h (i+1) q w (by simpa using a) (by simpa using b)⟩
theorem bn.mT{Z:Fz}{vs:List Value}(h:bn Z [] vs):vs=[]:=List.eq_nil_of_length_eq_zero h.1
theorem bq.mT{Z:Fz}{vs:List Value}(h:bq Z [] vs):vs=[]:=List.eq_nil_of_length_eq_zero h.1
theorem bn.append{Z:Fz}{ps qs:List PV}{vs ws:List Value}(h:bn Z ps vs)(k:bn Z qs ws):bn Z (ps++qs) (vs++ws):=by
 induction ps generalizing vs with
 |nil=>rw[h.mT];exact k
 |cons p ps ih=>obtain⟨v,oQ,rfl,h1,h2,h3⟩:=h.inv;exact bn.cons h1 h2 (ih h3)
theorem bq.append{Z:Fz}{ps qs:List PV}{vs ws:List Value}(h:bq Z ps vs)(k:bq Z qs ws):bq Z (ps++qs) (vs++ws):=by
 induction ps generalizing vs with
 |nil=>rw[h.mT];exact k
 |cons p ps ih=>obtain⟨v,oQ,rfl,h1,h2,h3⟩:=h.inv;exact bq.cons h1 h2 (ih h3)
theorem bq.take{Z:Fz}{ps:List PV}{vs:List Value}(h:bq Z ps vs)(n:Nat):bq Z (ps.take n) (vs.take n):=
 ⟨by simp[h.1],λi p v a b=>by
  rw[List.getElem?_take]at a b
  split at a
  ·rename_i hi;rw[if_pos hi]at b;exact h.2 i p v a b
  ·cases a⟩
theorem bq.drop{Z:Fz}{ps:List PV}{vs:List Value}(h:bq Z ps vs)(n:Nat):bq Z (ps.drop n) (vs.drop n):=
 ⟨by simp[h.1],λi p v a b=>by rw[List.getElem?_drop]at a b;exact h.2 _ p v a b⟩
theorem bq.get{Z:Fz}{ps:List PV}{vs:List Value}(h:bq Z ps vs){i:Nat}{p:PV}(hi:ps[i]?=some p):∃v,vs[i]?=some v/\p.cell=true/\bR Z p v:=by
 have bI:i<ps.length:=(List.getElem?_eq_some_iff.1 hi).1;have tA:i<vs.length:=by rw[h.1];exact bI
 exact⟨vs[i],getElem?_eq_getElem tA,h.2 i p _ hi (getElem?_eq_getElem tA)⟩
theorem bn.get{Z:Fz}{ps:List PV}{vs:List Value}(h:bn Z ps vs){i:Nat}{p:PV}(hi:ps[i]?=some p):∃v,vs[i]?=some v/\p.ok=true/\bR Z p v:=by
 have bI:i<ps.length:=(List.getElem?_eq_some_iff.1 hi).1;have tA:i<vs.length:=by rw[h.1];exact bI
 exact⟨vs[i],getElem?_eq_getElem tA,h.2 i p _ hi (getElem?_eq_getElem tA)⟩
theorem bq.xo{Z:Fz}{ps:List PV}{vs:List Value}(h:bq Z ps vs):∀v∈vs,aP.plain v=true/\one v=true:=by
 intro v hv;obtain⟨i,hi⟩:=List.mem_iff_getElem?.1 hv;have bI:i<ps.length:=by rw[<- h.1];exact(List.getElem?_eq_some_iff.1 hi).1
 have:=h.2 i ps[i] v (getElem?_eq_getElem bI) hi;exact this.2.cell this.1
theorem bn.xo{Z:Fz}{ps:List PV}{vs:List Value}(h:bn Z ps vs):∀v∈vs,aP.plain v=true:=by
 intro v hv;obtain⟨i,hi⟩:=List.mem_iff_getElem?.1 hv;have bI:i<ps.length:=by rw[<- h.1];exact(List.getElem?_eq_some_iff.1 hi).1
 have:=h.2 i ps[i] v (getElem?_eq_getElem bI) hi;exact this.2.plain this.1
def PV.cells:PV->List PV
 | .agg cs=>cs
 |p=>[p]
theorem bR.cells{Z:Fz}{p:PV}{v:Value}(h:bR Z p v)(hk:p.ok=true):bq Z p.cells v.cells.toList:=by
 have key:p.cell=true->v.cells= #[v]->p.cells=[p]->bq Z p.cells v.cells.toList:=λh1 h2 h3=>by rw[h2,h3];exact bq.cons h1 h (bq.nil Z)
 cases h with
 |agg cs vs hl eK h=>exact⟨hl,λi p v a b=>⟨eK p (mem_of_getElem? a),h i p v a b⟩⟩
 |raw v h1 h2=>exact key rfl (by cases v<;>first|rfl|(simp[one]at h2)) rfl
 |list=>exact key rfl rfl rfl
 |bj=>exact key rfl rfl rfl
 |fn=>exact key rfl rfl rfl
 |iface=>exact key rfl rfl rfl
 |az ps vs hl h=>simp[PV.ok,PV.cell]at hk
 |box k o=>simp[PV.ok,PV.cell]at hk
 |aY v=>simp[PV.ok,PV.cell]at hk
def cF(Z:Fz)(ps:List PV)(vs:List Value):Prop:=vs.length=ps.length/\∀(i:Nat) p v,ps[i]?=some p->vs[i]?=some v->bR Z p v
inductive Ob where
 |cells (T:TypeId) (cs:List PV)
 |nh (n m:Nat)
 |obj (o:Obj) (F:Nat->PV) (S:Nat->Value)
 |ro (T:TypeId) (cs:List PV)
def Ob.rw:Ob->Bool
 | .ro .. =>false
 |_=>true
abbrev Mem:=Nat->Option Ob
def M0:Mem:=λ_=>none
def Mem.set(μ:Mem)(b:Nat)(o:Option Ob):Mem:=λc=>if c=b then o else μ c
def Mem.or(μ ν:Mem):Mem:=λb=>match μ b with|some o=>some o|Option.none=>ν b
def Mem.sep(μ ν:Mem):Prop:=∀b,μ b=Option.none\/ν b=Option.none
@[simp] theorem Mem.ao(μ:Mem)(b:Nat)(o:Option Ob):μ.set b o b=o:=by simp[Mem.set]
theorem Mem.ax(μ:Mem){b c:Nat}(o:Option Ob)(h:c≠b):μ.set b o c=μ c:=by simp[Mem.set,h]
def ze(Z:Fz)(u:UW)(b:Nat):Ob->Prop
 | .cells T cs=>Z b=none/\∃A:Array Value,u.heap[b]?=some (.cells A T (0,0))/\cF Z cs A.toList
 | .nh n m=>(∃C,Z b=some C/\C.length=n)/\∃(A:Array Value) (T:TypeId),u.heap[b]?=some (.cells A T (0,0))/\m<=A.size
 | .obj o F S=>Z b=none/\u.heap[b]?=some o/\∀t,bR Z (F t) (S t)
 | .ro T cs=>Z b=none/\∃A:Array Value,u.heap[b]?=some (.cells A T (0,0))/\cF Z cs A.toList
structure Good(Z:Fz)(u:UW)(μ:Mem):Prop where
 Gq:∀b C,Z b=some C->∃A T f,u.heap[b]?=some (.cells A T f)/\C <+: A.toList
 mem:∀b o,μ b=some o->(o.rw=true->u.fW b)/\ze Z u b o
theorem ze.lt{Z:Fz}{u:UW}{b:Nat}{o:Ob}(h:ze Z u b o):b<u.heap.size:=by
 cases o with
 |cells T cs=>obtain⟨_,A,h,_⟩:=h;exact(Array.getElem?_eq_some_iff.1 h).1
 |nh n m=>obtain⟨_,A,T,h,_⟩:=h;exact(Array.getElem?_eq_some_iff.1 h).1
 |obj o F S=>exact(Array.getElem?_eq_some_iff.1 h.2.1).1
 |ro T cs=>obtain⟨_,A,h,_⟩:=h;exact(Array.getElem?_eq_some_iff.1 h).1
theorem Good.DB{Z:Fz}{u:UW}{μ:Mem}(h:Good Z u μ){b:Nat}(hb:Z b≠none):b<u.heap.size:=by
 cases hz:Z b with
 |none=>exact absurd hz hb
 |some C=>obtain⟨A,T,f,h,_⟩:=h.Gq b C hz;exact(Array.getElem?_eq_some_iff.1 h).1
theorem Good.Pd{Z:Fz}{u:UW}{μ:Mem}(h:Good Z u μ){b:Nat}(hb:μ b≠none):b<u.heap.size:=by
 cases hz:μ b with
 |none=>exact absurd hz hb
 |some o=>exact(h.mem b o hz).2.lt
structure Ext(Z:Fz)(μ:Mem)(N:Nat)(Z':Fz)(μ':Mem):Prop where
 le:Z.le Z'
 zs:∀b C,Z b=some C->μ b=none->Z' b=some C
 zn:∀b,Z' b≠none->Z b≠none\/μ b≠none\/N<=b
 mn:∀b,μ' b≠none->μ b≠none\/N<=b
 lt:∀b,Z b≠none->b<N
theorem Good.ext{Z:Fz}{u:UW}{μ:Mem}(h:Good Z u μ):Ext Z μ u.heap.size Z μ:=⟨Fz.le.refl _,λ_ _ h _=>h,λ_ h=>.inl h,λ_ h=>.inl h,λ_ h'=>h.DB h'⟩
theorem Ext.trans{Z Z' Z'':Fz}{μ μ' mR:Mem}{N N':Nat}(h:Ext Z μ N Z' μ')(k:Ext Z' μ' N' Z'' mR)(hN:N<=N'):Ext Z μ N Z'' mR:=by
 refine⟨h.le.trans k.le,λb C hz hm=>?_,λb hb=>?_,λb hb=>?_,h.lt⟩
 ·refine k.zs b C (h.zs b C hz hm) ?_;cases hx:μ' b with
  |none=>rfl
  |some o=>
   have hl:=h.lt b (by rw[hz];simp);rcases h.mn b (by rw[hx];simp)with h1|h1
   ·exact absurd hm h1
   ·omega
 ·rcases k.zn b hb with h1|h1|h1
  ·exact h.zn b h1
  ·exact .inr (h.mn b h1)
  ·exact .inr (.inr (by omega))
 ·rcases k.mn b hb with h1|h1
  ·exact h.mn b h1
  ·exact .inr (by omega)
def Mem.sub(μ' μ:Mem):Prop:=∀b o,μ' b=some o->μ b=some o
theorem Good.sub{Z:Fz}{u:UW}{μ μ':Mem}(h:Good Z u μ)(hs:μ'.sub μ):Good Z u μ':=⟨h.Gq,λb o e=>h.mem b o (hs b o e)⟩
abbrev Lq:=List (List PV)
abbrev Kq:=PV->Mem->Prop
end Go.aP
