import Derived.Test.YthaeiehophlooaaGreatB02
import Derived.LaidEqlPtr
open Array (getD_eq_getD_getElem? getElem?_eq_none replicate toList_inj)
open Bool (and_eq_true cond_eq_ite false_eq_true not_eq_true' or_eq_false_iff)
open Go.Result (andThen_ok)
open Go.Sem (run_bind run_pure)
open List (all_eq_true getElem?_eq_getElem length_cons map_cons mem_append mem_append_left mem_cons mem_filter mem_filterMap mem_map mem_of_getElem? mem_singleton nodup_cons range')
open Nat (beq ble ble_eq blt le_refl le_trans lt_of_lt_of_le lt_or_ge not_lt)
set_option linter.all false
namespace Go.aO
open Go.RowKit
def QW(C:Ctx)(fz ws:List Nat)(st:St)(Q:Exit->St->UW->Prop)(e:Exit)(a':Act)(GL:World):Prop:=
 ∃bT u' θ',Inv C a' GL bT u' θ'/\cB C.n fz ws st bT/\Q e bT u'
theorem getD_some{a:Array Value}{g n:Nat}(hs:a.size=n)(hg:g<n):a[g]?=some (a.getD g undef):=by
 rw[getD_eq_getD_getElem?,Array.getElem?_eq_getElem (by omega)];rfl
theorem uI{σ:Fr}{t:Nat}{v:Value}(h:σ t=v):i_ σ t v=σ:=by
 funext i;by_cases e:i=t
 ·subst e;rw[eY,h]
 ·rw[cf _ _ e]
section
variable {P:Program} {ops:Array Oper} {Q:Exit->Act->World->Prop} {S:World->Prop}
def kE(P:Program)(ops:Array Oper)(Q:Exit->Act->World->Prop)(i:Nat)(K:Act->World->Prop)(a:Act)(w:World):Prop:=
 match ops[i]? with
 |none=>K a w
 |some o=>if Region.wanted o (yielded ops a.tmps)then o.uponIn Fence.wide 0 P a K Q ((execOp a.eval o).run P w)else K (a.put o.dst undef) w
theorem nv{o:Oper}{a:Act}{K K':Act->World->Prop}{r:Result Next}(h:∀a w,K a w->K' a w)(hh:o.uponIn Fence.wide 0 P a K Q r):o.uponIn Fence.wide 0 P a K' Q r:=by
 cases r with
 |halt x w=>cases x<;>exact hh
 |ok x w=>
  cases x<;>simp only[Oper.uponIn]at hh |-
  case value v=>exact h _ _ hh
  case skip=>exact h _ _ hh
  case defer d=>exact h _ _ hh
  case enter f args=>exact⟨hh.1,hh.2.mono λe w' he=>by cases e<;>first|exact h _ _ he|exact he⟩
  case row r args=>exact⟨hh.1,hh.2.mono λv w' he=>h _ _ he⟩
  case round l f t x y=>exact⟨hh.1,hh.2.mono λe w' he=>by cases e<;>first|exact h _ _ he|exact he⟩
theorem sS{i:Nat}{a:Act}{w:World}{K K':Act->World->Prop}(h:∀a w,K a w->K' a w)(hh:kE P ops Q i K a w):kE P ops Q i K' a w:=by
 unfold kE at*
 cases ho:ops[i]? with
 |none=>simp only[ho]at hh |-;exact h _ _ hh
 |some o=>
  simp only[ho]at hh |-;split<;>rename_i hw<;>simp only[hw,if_true,if_false,false_eq_true]at hh
  ·exact nv h hh
  ·exact h _ _ hh
theorem Lu{i:Nat}{o:Oper}{v:Value}{a:Act}{K:Act->World->Prop}{w:World}(hi:ops[i]?=some o)(hy:YieldsIf P ops S o v a)(hS:S w)(h:K (a.put o.dst v) w):kE P ops Q i K a w:=by
 unfold kE;simp only[hi];rcases hy with⟨hw,hv⟩|⟨hw,rfl⟩
 ·rw[if_pos hw,hv w hS];exact h
 ·rw[if_neg (by simp[hw])];exact h
theorem Db{j:Nat}{oi oj:Oper}{v:Value}{K:Act->World->Prop}{a:Act}{w:World}(hj:ops[j]?=some oj)(PM:oi.apart ops oj=true)
  (hsi:∀cs b,oi.op≠ .select cs b) (hsj:∀cs b,oj.op≠ .select cs b) (hQ:∀c a w,Q (.panic c) (a.put oi.dst v) w->Q (.panic c) a w)
  (hy:YieldsIf P ops S oi v a) (h:kE P ops Q j K (a.put oi.dst v) w):kE P ops Q j (λa' w'=>YieldsIf P ops S oi v a'/\K (a'.put oi.dst v) w') a w:=by
 obtain⟨h1,h2,h3⟩:=Oper.apart_spec PM;have st:∀(b:Act) (x:Value),YieldsIf P ops S oi v b->YieldsIf P ops S oi v (b.put oj.dst x):=λb x hb=>hb.of_same (execOp_put oi hsi b oj.dst x h3) (wanted_put oi b oj.dst x h3);have both:∀(x:Value) (w':World),K ((a.put oi.dst v).put oj.dst x) w'->YieldsIf P ops S oi v (a.put oj.dst x)/\K ((a.put oj.dst x).put oi.dst v) w':=
  λx w' hk=>⟨st a x hy,by rw[<- Act.put_comm a v x h2];exact hk⟩
 unfold kE at h |-;simp only[hj,wanted_put oj a oi.dst v h1,execOp_put oj hsj a oi.dst v h1]at h |-;split<;>rename_i hw<;>simp only[hw,if_true,if_false,false_eq_true]at h
 ·cases hr:(execOp a.eval oj).run P w with
  |halt x w'=>
   rw[hr]at h;cases x<;>simp only[Oper.uponIn]at h |-;exact hQ _ _ _ h
  |ok x w'=>
   rw[hr]at h;cases x<;>simp only[Oper.uponIn]at h |-
   case value x=>exact both x w' h
   case skip=>exact both undef w' h
   case defer d=>
    refine⟨st _ _ (hy.of_same rfl rfl),?_⟩;rw[<- Act.put_comm _ v undef h2,<- Act.put_defers];exact h
   case enter f args=>
    exact⟨h.1,h.2.mono λe w'' he=>by cases e<;>first|exact both _ _ he|exact hQ _ _ _ he|exact he⟩
   case row r args=>exact⟨h.1,h.2.mono λx w'' he=>both x w'' he⟩
   case round l f t x y=>
    exact⟨h.1,h.2.mono λe w'' he=>by cases e<;>first|exact both _ _ he|exact hQ _ _ _ he|exact he⟩
 ·exact both undef w h
def Fw(ro:Option (Nat×Loop)):Fence:={Fence.wide with round:=ro.map (·.1)}
theorem Jx(ro:Option (Nat×Loop)){o:Oper}{a:Act}{K:Act->World->Prop}{r:Result Next}(h:o.uponIn Fence.wide 0 P a K Q r):o.uponIn (Fw ro) 0 P a K Q r:=by
 cases r with
 |halt x w=>cases x<;>exact h
 |ok x w=>cases x<;>exact h
theorem uG(ro:Option (Nat×Loop)){o:Oper}{a:Act}{w:World}{K:Act->World->Prop}(hd:∀c,o.op≠ .defer c)(h:o.uponIn Fence.wide 0 P a K Q ((execOp a.eval o).run P w)):o.wpIn (Fw ro) 0 P a w K Q:=
 ⟨λ_ _=>trivial,by rw[Oper.semAt_eq _ _ _ hd];exact Jx ro h⟩
theorem GK(ro:Option (Nat×Loop)){i:Nat}{a:Act}{w:World}{K:Act->World->Prop}(hd:∀(j:Nat) (o:Oper) c,ops[j]?=some o->o.op≠ .defer c)(h:kE P ops Q i K a w):wpOpIn (Fw ro) 0 P ops Q i K a w:=by
 unfold kE at h;unfold wpOpIn;cases ho:ops[i]? with
 |none=>simp only[ho]at h |-;exact h
 |some o=>
  simp only[ho]at h |-;split<;>rename_i hw<;>simp only[hw,if_true,if_false,false_eq_true]at h
  ·exact uG ro (λc=>hd i o c ho) h
  ·exact⟨λ_ _=>trivial,h⟩
def wF(P:Program)(ops:Array Oper)(Q:Exit->Act->World->Prop)(S:World->Prop):Nat->Array Bool->Act->World->Prop
 |0,af,a,w=>Region.ready .any ops af=[]/\Q .normal a w
 |fuel+1,af,a,w=>
  (Region.ready .any ops af=[]->Q .normal a w)/\
  ∀i∈Region.ready .any ops af,kE P ops Q i (λa' w'=>(late ops i=true->S w->S w')/\wF P ops Q S fuel (af.setIfInBounds i true) a' w') a w
theorem sT(ro:Option (Nat×Loop))(hd:∀(j:Nat) (o:Oper) c,ops[j]?=some o->o.op≠ .defer c):∀(fuel:Nat) (af:Array Bool) (a:Act) (w:World),wF P ops Q S fuel af a w->wpAnyIn (Fw ro) 0 P .any ops Q fuel af a w
 |0,_,_,_,h=>h
 |fuel+1,_,_,_,h=>⟨h.1,λi hi=>wpOpIn_mono (λa' w' h'=>sT ro hd fuel _ a' w' h'.2) (GK ro hd (h.2 i hi))⟩
def Cl(ops:Array Oper)(af:Array Bool):Prop:=∀y oy,ops[y]?=some oy->af.getD y false=true->∀e∈oy.after,Region.binds .any e=true->af.getD e.on false=true
theorem Cl.none(ops:Array Oper)(n:Nat):Cl ops (replicate n false):=by
 intro y oy _ h;rw[getD_eq_getD_getElem?,Array.getElem?_replicate]at h;split at h<;>simp at h
theorem Cl.set{af:Array Bool}{i:Nat}(h:Cl ops af)(hi:i∈Region.ready .any ops af):Cl ops (af.setIfInBounds i true):=by
 have mono:∀x,af.getD x false=true->(af.setIfInBounds i true).getD x false=true:=by
  intro x hx;by_cases hix:i=x
  ·subst hix;have:i<af.size:=by
    rcases lt_or_ge i af.size with h'|h'
    ·exact h'
    ·rw[getD_eq_getD_getElem?,getElem?_eq_none h']at hx;cases hx
   simp[getD_eq_getD_getElem?,this]
  ·rw[getD_set_ne false hix];exact hx
 intro y oy hy hl e he hb;by_cases hiy:i=y
 ·subst hiy;obtain⟨_,oj,gY,jC⟩:=mem_ready.1 hi;rw[gY]at hy;cases hy;exact mono _ (jC e he hb)
 ·rw[getD_set_ne false hiy]at hl;exact mono _ (h y oy hy hl e he hb)
theorem Cl.sy{af:Array Bool}{j:Nat}(h:Cl ops af)(hl:af.getD j false=true):∀x∈sy ops j,af.getD x false=true:=by
 intro x hx;unfold aO.sy at hx;split at hx
 ·cases hx
 ·rename_i o ho;obtain⟨e,he,rfl⟩:=mem_map.1 hx;rw[mem_filter]at he;exact h j o ho hl e (by simpa using he.1) he.2
theorem Cl.yp{af:Array Bool}(h:Cl ops af):∀(n:Nat) (S:List Nat),(∀x∈S,af.getD x false=true)->∀x∈yp ops n S,af.getD x false=true
 |0,_,hS=>hS
 |n+1,S,hS=>by
  simp only[aO.yp]
  refine Cl.yp h n _ ?_
  cases hm:cK S n with
  |false=>exact hS
  |true=>
   intro x hx
   simp only[cond_true,mem_append]at hx
   exact hx.elim (h.sy (hS n (dR.1 hm)) x) (hS x)
theorem Vm{i j:Nat}{oi:Oper}{af:Array Bool}(iA:Cl ops af)(hi:ops[i]?=some oi)(hti:reads oi=true)(hir:i∈Region.ready .any ops af)(hjr:j∈Region.ready .any ops af)(aZ:j≠i):late ops j=true:=by
 unfold late Rr;rw[List.any_eq_true];refine⟨i,List.mem_range.2 (Array.getElem?_eq_some_iff.1 hi).1,?_⟩;simp only[Av,hi,hti,Bool.and_true,and_eq_true,not_eq_true'];refine⟨?_,?_⟩
 ·cases h:beq i j with
  |false=>rfl
  |true=>exact absurd (beq_iff.1 h).symm aZ
 ·cases hp:cK (TD ops j) i with
  |false=>rfl
  |true=>
   exfalso;obtain⟨_,oj,gY,jC⟩:=mem_ready.1 hjr;have h0:=(mem_ready.1 hir).1;have hl:af.getD i false=true:=by
    refine iA.yp ops.size (sy ops j) (λx hx=>?_) i (dR.1 hp);unfold sy at hx;simp only[gY]at hx;obtain⟨e,he,rfl⟩:=mem_map.1 hx;rw[mem_filter]at he;exact jC e (by simpa using he.1) he.2
   rcases lt_or_ge i af.size with h'|h'
   ·simp[h']at h0 hl;rw[h0]at hl;cases hl
   ·rw[getD_eq_getD_getElem?,getElem?_eq_none h']at hl;cases hl
theorem uH{i:Nat}{oi:Oper}{v:Value}(hi:ops[i]?=some oi)(vq:∀(j:Nat) (o:Oper) cs b,ops[j]?=some o->o.op≠ .select cs b)
  (hQ:∀c a w,Q (.panic c) (a.put oi.dst v) w->Q (.panic c) a w):
  ∀(fuel:Nat) (af:Array Bool) (a:Act) (w:World),
   (∀j oj,ops[j]?=some oj->j≠i->af.getD j true=false->(∀e∈oj.after,Region.binds .any e=true->e.on≠i)->oi.apart ops oj=true)->
   Cl ops af->i∈Region.ready .any ops af->YieldsIf P ops (λw=>reads oi=true->S w) oi v a->(reads oi=true->S w)->
   wF P ops Q S fuel (af.setIfInBounds i true) (a.put oi.dst v) w->wF P ops Q S (fuel+1) af a w:=by
 intro fuel;induction fuel with
 |zero=>
  intro af a w _ _ hr hy hS H;refine⟨λh=>(by rw[h]at hr;cases hr),λj hj=>?_⟩;by_cases hji:j=i
  ·subst hji;exact Lu hi hy hS ⟨λ_ h=>h,H⟩
  ·have:=ready_mono hj hji;rw[H.1]at this;cases this
 |succ fuel ih=>
  intro af a w jZ iA hr hy hS H;refine⟨λh=>(by rw[h]at hr;cases hr),λj hj=>?_⟩;by_cases hji:j=i
  ·subst hji;exact Lu hi hy hS ⟨λ_ h=>h,H⟩
  ·have h1:=H.2 j (ready_mono hj hji);obtain⟨Sa,oj,gY,jC⟩:=mem_ready.1 hj;have HV:∀e∈oj.after,Region.binds .any e=true->e.on≠i:=λe he hb heq=>by
    have h1:=jC e he hb;have h0:=(mem_ready.1 hr).1;rw[heq]at h1;rcases lt_or_ge i af.size with h'|h'
    ·simp[h']at h0 h1;rw[h0]at h1;cases h1
    ·simp[getElem?_eq_none h']at h1
   have h2:=Db gY (jZ j oj gY hji Sa HV) (λcs b=>vq i oi cs b hi) (λcs b=>vq j oj cs b gY) hQ hy h1;have Fv:∀k ok,ops[k]?=some ok->k≠i->(af.setIfInBounds j true).getD k true=false->
     (∀e∈ok.after,Region.binds .any e=true->e.on≠i)->oi.apart ops ok=true:=λk ok hk hki hun dc=>by
    refine jZ k ok hk hki ?_ dc;by_cases hjk:j=k
    ·subst hjk;exact Sa
    ·rw[getD_set_ne true hjk]at hun;exact hun
   refine sS (λa' w' h3=>⟨h3.2.1,ih (af.setIfInBounds j true) a' w' Fv (iA.set hj) (ready_mono hr (Ne.symm hji)) h3.1 (λeR=>h3.2.1 (Vm iA hi eR hr hj hji) (hS eR)) ?_⟩) h2;rw[Array.setIfInBounds_comm _ _ hji];exact h3.2.2
end
section
variable {E:Env} {C:Ctx} {a:Act} {wa:World} {st:St} {u u0:UW} {θ:Nat->Nat} {fz:List Nat} {o:Oper} {K:St->UW->Prop}
structure kM(u0:UW)(st:St)(θ:Nat->Nat)(w:World):Prop where
 Cq:xT u0.toWorld w
 boxes:∀k m,(k,m)∈st.D->∃c T,w.heap[θ k]?=some (.cells c T (0,0))/\c.size=m/\∀j,j<m->R θ (st.σ (gx k j)) (c.getD j undef)
def Tk(E:Env)(a:Act)(o:Oper)(st:St)(u0:UW)(θ:Nat->Nat)(K:St->UW->Prop):Prop:=
 ∃v r,R θ v r/\(∀k o,v=dM k o->∃m,(k,m)∈st.D)/\K (fin o st v) u0/\∀w,(reads o=true->kM u0 st θ w)->(execOp a.eval o).run E.P w=.ok (.value r) w
theorem yY{v:Value}(hp:plain v=true)(hK:K (fin o st v) u0)(hr:∀w,(reads o=true->kM u0 st θ w)->(execOp a.eval o).run E.P w=.ok (.value v) w):Tk E a o st u0 θ K:=
 ⟨v,v,oT hp,λk o e=>absurd e (jS hp k o),hK,hr⟩
theorem Ey{k off:Nat}(hm:∃m,(k,m)∈st.D)(hK:K (fin o st (dM k off)) u0)(hr:∀w,(reads o=true->kM u0 st θ w)->(execOp a.eval o).run E.P w=.ok (.value (.pointer (some ⟨θ k,off,none⟩))) w):Tk E a o st u0 θ K:=
 ⟨dM k off,_,rfl,λk' o' e=>(by simp only[Value.complex.injEq,true_and]at e;rw[<- e.1];exact hm),hK,hr⟩
theorem Uq{t:TypeId}{x:Operand}{lo hi mx:Option Operand}
  (h:match E.P.underlying t,ev st.σ x with
   |some (.slice e),.slice b len cap=>(match dA (ev st.σ) lo 0,dA (ev st.σ) hi len,dA (ev st.σ) mx cap with
    |some l,some h,some m=>(bif (mx.isSome&&hi.isNone)||(E.P.info? e).isNone then False else(m.toNat=l.toNat\/iq b)/\0<=l/\l<=h/\h<=m/\m<=cap/\K (fin o st (.slice (yZ b l.toNat m.toNat (E.P.cellsOf e)) (h.toNat-l.toNat) (m.toNat-l.toNat))) u0)
    |_,_,_=>False)
   |some .string,.string s=>(match mx with
    |some _=>False
    |none=>match dA (ev st.σ) lo 0,dA (ev st.σ) hi s.size with
     |some l,some h=>0<=l/\l<=h/\h<=s.size/\K (fin o st (.string (s.extract l.toNat h.toNat))) u0
     |_,_=>False)
   |_,_=>False) (ho:o.op=.slice t x lo hi mx) (aG:br C.n o=true) (hI:Inv C a wa st u θ):Tk E a o st u0 θ K:=by
 have hx:cY C.n x=true:=lp aG (by simp[ho,Op.operands]);have kY:∀y k i,(lo=some y\/hi=some y\/mx=some y)->ev st.σ y=.int k i->a.eval y=.int k i:=by
  intro y k i hy he;refine bd hI (lp aG ?_) he rfl;rcases hy with rfl|rfl|rfl<;>simp[ho,Op.operands]
 split at h
 ·rename_i e b len cap hu he;split at h
  ·rename_i l h' m hl hh hm;cases vw:(mx.isSome&&hi.isNone)||(E.P.info? e).isNone with
   |true=>simp only[vw,cond_true]at h
   |false=>
    simp only[vw,cond_false]at h;simp only[or_eq_false_iff]at vw;obtain⟨Sk,CH⟩:=vw;obtain⟨i,xt⟩:∃i,E.P.info? e=some i:=by cases hq:E.P.info? e<;>simp_all
    obtain⟨hns,h0,h1,h2,h3,hK⟩:=h;refine yY rfl hK λw _=>?_;simp only[execOp,ho,bd hI hx he rfl,run_bind,Instr.sliceAt,aR hu,andThen_ok,Instr.slice,oq kY hl hh hm Sk h0 h1 h2 h3,cz xt,run_pure];congr 3;unfold yZ;split
    ·rfl
    ·rename_i oK;cases b with
     |none=>rfl
     |some b=>
      simp only[Option.map_some,Option.some.injEq];unfold Addr.add;split
      ·rename_i XM;obtain⟨bb,bo,bs⟩:=b;have:=(hns.resolve_left oK) _ rfl;simp only at this;subst this;simp[XM]
      ·rfl
  ·exact h.elim
 ·rename_i s hu he;cases mx with
  |some _=>exact h.elim
  |none=>
   simp only at h;split at h
   ·rename_i l h' hl hh;obtain⟨h0,h1,h2,hK⟩:=h;refine yY rfl hK λw _=>?_;have hb:=oq (P:=E.P) (w:=w) (isS:=false) (len:=s.size) (cap:=s.size) (mx:=none) (m:=s.size) (λy k i hy=>kY y k i (by rcases hy with h|h|h;exact .inl h;exact .inr (.inl h);cases h)) hl hh rfl (by simp) h0 h1 h2 (by omega);simp only[execOp,ho,bd hI hx he rfl,run_bind,Instr.sliceAt,aR hu,andThen_ok,Instr.slice];simp only[Option.map_none]at hb;simp only[Option.map_none,Option.isSome_none,false_eq_true,if_false,run_bind,hb,andThen_ok,run_pure]
   ·exact h.elim
 ·exact h.elim
theorem aca{t:TypeId}{x:Operand}{f:Nat}
  (h:match ev st.σ x with
   | .agg cs=>(match CM E.P t f cs.toList with
     |some v=>bif plain v then K (fin o st v) u0 else False
     |none=>False)
   |_=>False) (ho:o.op=.field t x f) (aG:br C.n o=true) (hI:Inv C a wa st u θ):Tk E a o st u0 θ K:=by
 have hx:cY C.n x=true:=lp aG (by simp[ho,Op.operands]);split at h
 ·rename_i cs he;cases hv:CM E.P t f cs.toList with
  |none=>simp only[hv]at h
  |some v=>
   simp only[hv]at h;obtain⟨lq,h⟩:=aq h;refine yY lq h λw _=>?_;unfold CM at hv;cases hu:E.P.underlying t with
   |none=>simp[hu]at hv
   |some D=>
    cases D<;>simp only[hu]at hv<;>try (cases hv;done)
    rename_i fs;cases hf:fs[f]? with
    |none=>simp[hf]at hv
    |some y=>
     simp only[hf,cond_eq_ite,and_eq_true,ble_eq]at hv;split at hv
     ·rename_i hc;obtain⟨hi,hle⟩:=hc;obtain⟨d,Xk⟩:=Option.isSome_iff_exists.1 hi;simp only[execOp,ho,bd hI hx he rfl,Instr.field,run_bind,aR hu,andThen_ok,hf,asAgg,run_pure];split at hv
      ·rename_i mR;simp only[Option.some.injEq]at hv;rw[gC Xk mR,<- hv];simp only[andThen_ok];congr 3;apply toList_inj.1;rw[Array.toList_extract,List.extract_eq_take_drop];simp
      ·rename_i mR;simp only[Bool.not_eq_true]at mR;rw[iO Xk mR (v:=v) (by simpa using hv)];rfl
     ·cases hv
 ·exact h.elim
theorem agc{b:Builtin}{args:Array Operand}{ts:Array TypeId}(ht:bw o=true)(h:W1b E o st u0 b args.toList ts.toList K)(ho:o.op=.call ⟨.builtin b,args,ts⟩)(aG:br C.n o=true)(hI:Inv C a wa st u θ):Tk E a o st u0 θ K:=by
 have ka:∀x∈args.toList,cY C.n x=true:=λx hx=>lp aG (by simp[ho,Op.operands,Call.operands];simpa using hx);obtain⟨args⟩:=args;obtain⟨ts⟩:=ts;simp only at h ka;unfold W1b at h;split at h
 ·rename_i x t;have kx:=ka x (by simp);split at h
  ·rename_i n c hu he;refine yY rfl h λw _=>?_;refine cF (s:=Builtin.len_ #[t] o.type #[a.eval x]) ho (λ_=>by simp[builtin]) ?_;simp[Builtin.len_,aR hu,bd hI kx he rfl,goInt]
  ·rename_i s hu he;refine yY rfl h λw _=>?_;refine cF (s:=Builtin.len_ #[t] o.type #[a.eval x]) ho (λ_=>by simp[builtin]) ?_;simp[Builtin.len_,aR hu,bd hI kx he rfl,goInt]
  ·rename_i n e hu;obtain⟨_,h⟩:=aq h;refine yY rfl h λw _=>?_;refine cF (s:=Builtin.len_ #[t] o.type #[a.eval x]) ho (λ_=>by simp[builtin]) ?_;simp[Builtin.len_,aR hu,goInt]
  ·exact h.elim
 ·rename_i x y t t';simp[bw,ho]at ht
 ·split at h
  ·rename_i k i is hi;refine yY rfl h λw _=>?_;obtain⟨he,_⟩:=vn hI ka hi;refine cF (s:=(is.map (Value.int k)).foldlM Builtin.min2 (.int k i)) ho (λ_=>?_) (EI is i);simp only[builtin,Builtin.min_,List.map_toArray,he,map_cons]
  ·exact h.elim
 ·split at h
  ·rename_i k i is hi;refine yY rfl h λw _=>?_;obtain⟨he,_⟩:=vn hI ka hi;refine cF (s:=(is.map (Value.int k)).foldlM Builtin.max2 (.int k i)) ho (λ_=>?_) (EJ is i);simp only[builtin,Builtin.max_,List.map_toArray,he,map_cons]
  ·exact h.elim
 ·exact h.elim
theorem Ng(ht:bw o=true)(aG:br C.n o=true)(hI:Inv C a wa st u θ)(h:W1 E fz o st u0 K):Tk E a o st u0 θ K:=by
 have Gx:∀{x:Operand},x∈o.op.operands->cY C.n x=true:=λhx=>lp aG hx;cases ho:o.op with
 |move x=>
  simp only[W1,ho]at h;have hx:=Gx (x:=x) (by simp[ho,Op.operands]);exact⟨_,_,FH hI hx,λk o' e=>(kJ hI hx e).2,h,λw _=>by simp[execOp,ho]⟩
 |assign x=>
  simp only[W1,ho]at h;have hx:=Gx (x:=x) (by simp[ho,Op.operands]);exact⟨_,_,FH hI hx,λk o' e=>(kJ hI hx e).2,h,λw _=>by simp[execOp,ho]⟩
 |pick c x y=>
  simp only[W1,ho]at h;have hx:=Gx (x:=x) (by simp[ho,Op.operands]);have hy:=Gx (x:=y) (by simp[ho,Op.operands]);have hc:=Gx (x:=c) (by simp[ho,Op.operands]);split at h
  ·rename_i t hct;have hec:=bd hI hc hct rfl;cases t with
   |true=>exact⟨_,_,FH hI hx,λk o' e=>(kJ hI hx e).2,h,λw _=>by simp[execOp,ho,hec,asBool]⟩
   |false=>exact⟨_,_,FH hI hy,λk o' e=>(kJ hI hy e).2,h,λw _=>by simp[execOp,ho,hec,asBool]⟩
  ·exact h.elim
 |build t ps=>
  simp only[W1,ho]at h;obtain⟨hp,h⟩:=aq h;have hx:∀x∈ps.toList,cY C.n x.2=true:=λx hx=>lp aG (by simp only[ho,Op.operands];simp only[List.mem_toArray,mem_map];exact⟨x,hx,rfl⟩);cases hb:Wx E.P t (ps.toList.map λp=>(p.1,ev st.σ p.2))with
  |none=>simp only[hb]at h
  |some vs=>
   simp only[hb]at h;refine yY rfl h λw _=>?_;have e:=va hI hx hp;simp only[execOp,ho,e,run_bind];rw[run_build (r:=vs) (by simpa using hb)];rfl
 |load t x=>
  simp only[W1,ho]at h;have hx:=Gx (x:=x) (by simp[ho,Op.operands]);cases hk:kinds E.P t with
  |none=>simp only[hk]at h
  |some ks=>
   simp only[hk]at h;obtain⟨zH,⟨d,hu⟩,tK⟩:=lO hk;split at h
   ·rename_i k off he;cases hb:eX st.D k with
    |none=>simp only[hb]at h
    |some m=>
     simp only[hb]at h;obtain⟨hc,h⟩:=aq h;simp only[and_eq_true,ble_eq]at hc;obtain⟨h1,h2⟩:=hc;have hp:=nV h2;have kY:=(kJ hI hx he).1;refine yY (nI hp (tK.imp id λh=>by rw[tg];exact h)) h λw hw=>?_;obtain⟨c,T,b1,b2,b3⟩:=(hw (by simp[reads,ho])).boxes k m (j_ hb);have Bh:=ik b2 b3 ks.length off h1 hp;simp only[execOp,ho,kY,Instr.loadAt,Instr.sureAddr,run_bind,run_pure,andThen_ok];rw[ix hk b1 (by omega),Bh];rfl
   ·obtain⟨b,off,hv,h⟩:=gy h;obtain⟨vs,hlen,hp,eR,h⟩:=qP h;have kY:=bd hI hx hv rfl;by_cases hz:ks.length=0
    ·have mR:dq E.P t=true:=tK.resolve_right (by omega);have Fp:vs=[]:=List.eq_nil_of_length_eq_zero (by omega);subst Fp;obtain⟨i,hi⟩:=gW hu;refine yY (by rw[mR];rfl) h λw _=>?_;simp only[execOp,ho,kY,Instr.loadAt,Instr.sureAddr,run_bind,run_pure,andThen_ok,loadVar,ll hu,mR,if_true,cz hi,<- zH,hz];rfl
    ·refine yY (nI hp (tK.imp id λh=>by omega)) h λw hw=>?_;obtain⟨c,T,f,c1,c2,c3⟩:=uW (hw (by simp[reads,ho])).Cq eR hz;simp only[execOp,ho,kY,Instr.loadAt,Instr.sureAddr,run_bind,run_pure,andThen_ok];rw[ix hk c1 c2,<- c3];rfl
 |nilCheck x=>
  simp only[W1,ho]at h;have hx:=Gx (x:=x) (by simp[ho,Op.operands]);split at h
  ·rename_i k off he;obtain⟨kY,hm⟩:=kJ hI hx he;exact Ey hm h λw _=>by simp[execOp,ho,kY]
  ·rename_i p he;have kY:=bd hI hx he rfl;cases p with
   |none=>exact h.elim
   |some p=>exact yY rfl h λw _=>by simp[execOp,ho,kY]
  ·rename_i f p q he;have kY:=bd hI hx he rfl;cases f with
   |method n=>exact h.elim
   |_=>exact yY rfl h (λw _=>by simp[execOp,ho,kY])
  ·exact h.elim
 |binOp op t x y t'=>
  simp only[W1,ho]at h;have hx:=Gx (x:=x) (by simp[ho,Op.operands]);have hy:=Gx (x:=y) (by simp[ho,Op.operands]);obtain⟨px,py,v,hp,hK,jC⟩:=BE h x y;refine yY hp hK λw _=>?_;simp only[execOp,ho];rw[nU hI hx px,nU hI hy py];rw[run_bind,jC w];rfl
 |unOp op t x=>
  simp only[W1,ho]at h;have hx:=Gx (x:=x) (by simp[ho,Op.operands]);split at h
  ·rename_i b he;exact yY rfl h λw _=>by simp[execOp,ho,bd hI hx he rfl,Op.unary]
  ·rename_i k n he;exact yY rfl h λw _=>by simp[execOp,ho,bd hI hx he rfl,Op.unary,Op.intArith]
  ·exact h.elim
 |convert s d x=>
  simp only[W1,ho]at h;have hx:=Gx (x:=x) (by simp[ho,Op.operands]);obtain⟨hp,h⟩:=aq h;cases hv:pv E.P (convert s d (ev st.σ x))with
  |none=>simp only[hv]at h
  |some v=>
   simp only[hv]at h;obtain⟨lq,h⟩:=aq h;refine yY lq h λw _=>?_;simp only[execOp,ho,nU hI hx hp,run_bind,wU hv w];rfl
 |makeInterface t x=>
  simp only[W1,ho]at h;have hx:=Gx (x:=x) (by simp[ho,Op.operands]);obtain⟨hp,h⟩:=aq h;cases hv:pv E.P (Instr.makeInterface t (ev st.σ x))with
  |none=>simp only[hv]at h
  |some v=>
   simp only[hv]at h;obtain⟨lq,h⟩:=aq h;refine yY lq h λw _=>?_;simp only[execOp,ho,nU hI hx hp,run_bind,wU hv w];rfl
 |makeFunc fn first captured=>
  simp only[W1,ho]at h;obtain⟨hc,h⟩:=aq h;simp only[and_eq_true]at hc;have h1:∀x∈first.toList,cY C.n x=true:=λx hx=>lp aG (by simp[ho,Op.operands];left;simpa using hx);have h2:∀x∈captured.toList,cY C.n x=true:=λx hx=>lp aG (by simp[ho,Op.operands];right;simpa using hx);refine yY rfl h λw _=>?_;simp only[execOp,ho,rO hI h1 hc.1,rO hI h2 hc.2,Instr.makeFunc];rfl
 |slice t x lo hi mx=>
  simp only[W1,ho]at h;exact Uq h ho aG hI
 |fieldAddr t x f=>
  simp only[W1,ho]at h;have hx:=Gx (x:=x) (by simp[ho,Op.operands]);cases hd:CO E.P t f with
  |none=>simp only[hd]at h
  |some d=>
   simp only[hd]at h;split at h
   ·rename_i k off he;obtain⟨kY,hm⟩:=kJ hI hx he;exact Ey hm h λw _=>by simp only[execOp,ho,kY,run_bind,mI hd];rfl
   ·obtain⟨b,off,hv,h⟩:=gy h;have kY:=bd hI hx hv rfl;exact yY rfl h λw _=>by simp only[execOp,ho,kY,run_bind,mI hd];rfl
 |field t x f=>simp only[W1,ho]at h;exact aca h ho aG hI
 |indexAddr t x i=>
  simp only[W1,ho]at h;have hx:=Gx (x:=x) (by simp[ho,Op.operands]);have hi:=Gx (x:=i) (by simp[ho,Op.operands]);split at h
  ·rename_i e b len c k j hu he Kz;obtain⟨fT,h⟩:=aq h;obtain⟨ie,CH⟩:=Option.isSome_iff_exists.1 fT;obtain⟨bb,off,rfl,h1,h2,h⟩:=gi h;refine yY rfl h λw _=>?_;simp only[execOp,ho,bd hI hx he rfl,bd hI hi Kz rfl,Instr.indexAt,asIntOf,run_bind,run_pure,andThen_ok,aR hu];rw[if_pos ⟨h1,h2⟩];simp only[run_bind,cz CH,andThen_ok,run_pure,kg]
  ·rename_i len e k off kk j hu he Kz;obtain⟨hc,h⟩:=aq h;simp only[and_eq_true,decide_eq_true_eq]at hc;obtain⟨⟨h1,h2⟩,fT⟩:=hc;obtain⟨ie,CH⟩:=Option.isSome_iff_exists.1 fT;obtain⟨kY,hm⟩:=kJ hI hx he;refine Ey hm h λw _=>?_;simp only[execOp,ho,kY,bd hI hi Kz rfl,Instr.indexAt,asIntOf,run_bind,run_pure,andThen_ok,aR hu,Instr.sureAddr];rw[if_pos ⟨h1,h2⟩];simp only[run_bind,cz CH,andThen_ok,run_pure,kg]
  ·exact h.elim
 |index t x i=>
  simp only[W1,ho]at h;have hx:=Gx (x:=x) (by simp[ho,Op.operands]);have hi:=Gx (x:=i) (by simp[ho,Op.operands]);split at h
  ·rename_i s k j hu he Kz;obtain⟨h1,c,h2,h⟩:=h;refine yY rfl h λw _=>?_;simp only[execOp,ho,bd hI hx he rfl,bd hI hi Kz rfl,Instr.index,asIntOf,run_bind,run_pure,andThen_ok,aR hu,if_pos h1,h2]
  ·rename_i len e cs k j hu he Kz;obtain⟨h1,h2,fT,v,hv,lq,h⟩:=h;obtain⟨ie,CH⟩:=Option.isSome_iff_exists.1 fT;refine yY lq h λw _=>?_;simp only[execOp,ho,bd hI hx he rfl,bd hI hi Kz rfl,Instr.index,asIntOf,run_bind,run_pure,andThen_ok,aR hu,if_pos (show(0:Int)<=j/\j<len from⟨h1,h2⟩),cz CH];rw[LL hv];rfl
  ·exact h.elim
 |extract x i=>
  simp only[W1,ho]at h;have hx:=Gx (x:=x) (by simp[ho,Op.operands]);split at h
  ·rename_i vs he;cases hv:vs[i]? with
   |none=>simp only[hv]at h
   |some v=>
    simp only[hv]at h;obtain⟨lq,h⟩:=aq h;exact yY lq h λw _=>by simp[execOp,ho,bd hI hx he rfl,Instr.extract,hv]
  ·exact h.elim
 |call c=>
  simp only[W1,ho]at h;obtain⟨callee,args,ts⟩:=c;cases callee with
  |builtin b=>simp only at h;exact agc ht h ho aG hI
  |value f=>simp[bw,ho]at ht
  |invoke r m=>simp[bw,ho]at ht
 |_=>simp[bw,ho]at ht
theorem CN{ops:Array Oper}{af:Array Bool}{j:Nat}:∀l:List Nat,iV ops af l=some j->j∈l/\∃oj,ops[j]?=some oj/\bw oj=true/\Region.free .any ops af j=true:=by
 intro l;induction l with
 |nil=>intro h;simp[iV]at h
 |cons x l ih=>
  intro h;simp only[iV]at h;cases hx:ops[x]? with
  |none=>
   simp only[hx,Bool.false_and,cond_false]at h;obtain⟨h1,h2⟩:=ih h;exact⟨by simp[h1],h2⟩
  |some ox=>
   simp only[hx]at h;cases hc:bw ox&&Region.free .any ops af x with
   |true=>
    simp only[hc,cond_true,Option.some.injEq]at h;subst h;simp only[and_eq_true]at hc;exact⟨by simp,ox,hx,hc.1,hc.2⟩
   |false=>
    simp only[hc,cond_false]at h;obtain⟨h1,h2⟩:=ih h;exact⟨by simp[h1],h2⟩
inductive PS(ops:Array Oper)(af:Array Bool):Nat->jg->Prop
 |nil (f:Nat) (h:Region.ready .any ops af=[]):PS ops af f .nil
 |tk (f j:Nat) (p:jg) (oj:Oper) (ho:ops[j]?=some oj) (ht:bw oj=true) (hf:Region.free .any ops af j=true) (hr:j∈Region.ready .any ops af) (hp:eE ops f (af.setIfInBounds j true)=some p):PS ops af (f+1) (.tk j p)
 |ef (f i:Nat) (p:jg) (hr:Region.ready .any ops af=[i]) (h1:bK ops i p=true) (hp:eE ops f (af.setIfInBounds i true)=some p):PS ops af (f+1) (.ef i p)
 |SG (f i j:Nat) (p q:jg) (hr:Region.ready .any ops af=[i,j]) (h1:bK ops i p=true) (h2:bK ops j q=true) (hp:eE ops f (af.setIfInBounds i true)=some p) (hq:eE ops f (af.setIfInBounds j true)=some q):PS ops af (f+1) (.SG i p j q)
 |SF (f i j k:Nat) (p q r:jg) (hr:Region.ready .any ops af=[i,j,k]) (h1:bK ops i p=true) (h2:bK ops j q=true) (h3:bK ops k r=true) (hp:eE ops f (af.setIfInBounds i true)=some p) (hq:eE ops f (af.setIfInBounds j true)=some q) (TX:eE ops f (af.setIfInBounds k true)=some r):PS ops af (f+1) (.SF i p j q k r)
theorem AA:∀(f:Nat) (af:Array Bool) (p:jg) (ops:Array Oper),eE ops f af=some p->PS ops af f p
 |0,af,p,ops,h=>by
  simp only[eE]at h
  cases hr:Region.ready .any ops af with
  |nil=>simp only[hr,Option.some.injEq]at h;subst h;exact .nil 0 hr
  |cons i rs=>simp[hr]at h
 |f+1,af,p,ops,h=>by
  simp only[eE]at h
  cases hr:Region.ready .any ops af with
  |nil=>simp only[hr,Option.some.injEq]at h;subst h;exact .nil _ hr
  |cons i rs=>
   simp only[hr]at h
   cases hf:iV ops af (i::rs)with
   |some j=>
    simp only[hf]at h
    obtain⟨fw,oj,ho,gX,VN⟩:=CN _ hf
    cases hp:eE ops f (af.setIfInBounds j true)with
    |none=>simp[hp]at h
    |some p'=>
     simp only[hp,Option.some.injEq]at h;subst h;exact .tk f j p' oj ho gX VN (by rw[hr];exact fw) hp
   |none=>
    simp only[hf]at h
    match rs,hr,h with
    |[],hr,h=>
     cases hp:eE ops f (af.setIfInBounds i true)with
     |none=>simp[hp]at h
     |some p'=>
      simp only[hp]at h;cases hc:bK ops i p' with
      |false=>simp[hc]at h
      |true=>simp only[hc,cond_true,Option.some.injEq]at h;subst h;exact .ef f i p' hr hc hp
    |[j],hr,h=>
     cases hp:eE ops f (af.setIfInBounds i true)with
     |none=>simp[hp]at h
     |some p'=>
      cases hq:eE ops f (af.setIfInBounds j true)with
      |none=>simp[hp,hq]at h
      |some q'=>
       simp only[hp,hq]at h;cases hc:bK ops i p'&&bK ops j q' with
       |false=>simp[hc]at h
       |true=>
        simp only[hc,cond_true,Option.some.injEq]at h;subst h;simp only[and_eq_true]at hc;exact .SG f i j p' q' hr hc.1 hc.2 hp hq
    |[j,k],hr,h=>
     cases hp:eE ops f (af.setIfInBounds i true)with
     |none=>simp[hp]at h
     |some p'=>
      cases hq:eE ops f (af.setIfInBounds j true)with
      |none=>simp[hp,hq]at h
      |some q'=>
       cases TX:eE ops f (af.setIfInBounds k true)with
       |none=>simp[hp,hq,TX]at h
       |some r'=>
        simp only[hp,hq,TX]at h;cases hc:bK ops i p'&&bK ops j q'&&bK ops k r' with
        |false=>simp[hc]at h
        |true=>
         simp only[hc,cond_true,Option.some.injEq]at h;subst h;simp only[and_eq_true]at hc;exact .SF f i j k p' q' r' hr hc.1.1 hc.1.2 hc.2 hp hq TX
    |_::_::_::_,_,h=>simp at h
structure Syn(nB:St)(θ0:Nat->Nat)(st:St)(θ:Nat->Nat):Prop where
 D:st.D=nB.D
 θ:∀k m,(k,m)∈nB.D->θ k=θ0 k
 gh:∀k m,(k,m)∈nB.D->∀j,j<m->st.σ (gx k j)=nB.σ (gx k j)
theorem TR{θ θ':Nat->Nat}{v r:Value}(hnf:∀k o,v≠dM k o):R θ v r->R θ' v r:=λh=>Gg h λk o e=>absurd e (hnf k o)
theorem rC{nB st:St}{θ0 θ:Nat->Nat}(hs:Syn nB θ0 st θ)(hg:∀k m,(k,m)∈nB.D->∀j,j<m->∀k' o,nB.σ (gx k j)≠dM k' o)(w:World):kM u0 nB θ0 w↔kM u0 st θ w:=by
 constructor
 ·rintro⟨h1,h2⟩;refine⟨h1,λk m hk=>?_⟩;rw[hs.D]at hk;obtain⟨c,T,e1,e2,e3⟩:=h2 k m hk;exact⟨c,T,by rw[hs.θ k m hk];exact e1,e2,λj hj=>by rw[hs.gh k m hk j hj];exact TR (hg k m hk j hj) (e3 j hj)⟩
 ·rintro⟨h1,h2⟩;refine⟨h1,λk m hk=>?_⟩;obtain⟨c,T,e1,e2,e3⟩:=h2 k m (hs.D▸hk);exact⟨c,T,by rw[<- hs.θ k m hk];exact e1,e2,λj hj=>TR (hg k m hk j hj) (by rw[<- hs.gh k m hk j hj];exact e3 j hj)⟩
theorem Inv.LJ(hI:Inv C a wa st u θ)(hs:rW u0 u):kM u0 st θ wa:=by
 refine⟨⟨hI.below.os.trans hs.os,hI.below.tape.trans hs.tape,hI.below.output.trans hs.output,le_trans hs.size hI.below.size,λb hb=>?_⟩,λk m hk=>?_⟩
 ·rw[<- hs.block b hb];exact hI.below.block b (lt_of_lt_of_le hb hs.size)
 ·obtain⟨_,c,T,h1,h2,h3,_⟩:=hI.boxes k m hk;exact⟨c,T,h1,h2,h3⟩
def QN(Q:Act->World->Prop):Exit->Act->World->Prop
 | .normal,a,w=>Q a w
 |_,_,_=>False
theorem p_{ops:Array Oper}{oj:Oper}{act skip:St->Prop}{G:Prop}(aG:∀o∈ops.toList,br C.n o=true)(hI:Inv C a wa st u θ)(h:guarded ops oj st act skip)
  (yes:Region.wanted oj (yielded ops a.tmps)=true->act st->G) (no:Region.wanted oj (yielded ops a.tmps)=false->skip st->G):G:=by
 unfold guarded at h;cases hg:oj.guard with
 |none=>
  simp only[hg]at h;exact yes (by simp[Region.wanted,hg]) h
 |some jb=>
  obtain⟨x,b⟩:=jb;simp only[hg]at h;cases xu:pn ops x with
  |none=>simp only[xu]at h
  |some g=>
   simp only[xu]at h;have hgn:g<C.n:=by
    unfold pn at xu;cases hj:ops[x]? with
    |none=>simp[hj]at xu
    |some ox=>
     simp only[hj,Option.bind_some]at xu
     exact eh (aG ox (by have:ops.toList[x]?=some ox:=by simpa using hj
                         exact mem_of_getElem? this)) g xu
   have Ou:yielded ops a.tmps x=match a.tmps.getD g undef with| .bool x=>some x|_=>none:=by
    unfold yielded;unfold pn at xu;rw[xu,Option.bind_some,getD_some hI.size hgn];cases a.tmps.getD g undef<;>rfl
   have vp:=hI.iN g hgn;split at h
   ·rename_i c hc;rw[hc,iX rfl]at vp;rw[vp]at Ou;have hw:Region.wanted oj (yielded ops a.tmps)=(c == b):=by
     simp only[Region.wanted,hg,Ou];cases c<;>cases b<;>rfl
    cases c with
    |true=>
     simp only[ab]at h;rw[uI hc]at h;cases b with
     |true=>exact yes hw h
     |false=>exact no hw h
    |false=>
     simp only[ab]at h;rw[uI hc]at h;cases b with
     |true=>exact no hw h
     |false=>exact yes hw h
   ·rename_i vs hc;rw[hc,iX rfl]at vp;rw[vp]at Ou;exact no (by simp[Region.wanted,hg,Ou]) h
   ·exact h.elim
def Sy(ops:Array Oper)(u0:UW)(zB:St)(θ0:Nat->Nat)(p:jg)(st:St)(u:UW)(θ:Nat->Nat):Prop:=(rW u0 u/\Syn zB θ0 st θ)\/(dN ops p=false/\bM ops p=false)
theorem Syn.fin{zB:St}{θ0:Nat->Nat}{oj:Oper}(jU:Syn zB θ0 st θ)(gD:br C.n oj=true)(hI:Inv C a wa st u θ)(v:Value):Syn zB θ0 (fin oj st v) θ:=by
 refine⟨jU.D,jU.θ,λk m hk j hj=>?_⟩;rw[<- jU.gh k m hk j hj];simp only[Go.aO.fin];cases hd:oj.dst with
 |none=>rfl
 |some d=>
  simp only[put];have h1:=eh gD d hd;rw[cf _ _ (show gx k j≠d from λe=>absurd (lt_of_lt_of_le h1 hI.jc) (not_lt.2 (e▸jn k j)))]
theorem xN{a b c:World}(h:Below a.heap.size a b)(k:Below b.heap.size b c):Below a.heap.size a c:=
 ⟨k.os.trans h.os,k.tape.trans h.tape,k.output.trans h.output,le_trans h.size k.size,λi hi=>(k.block i (lt_of_lt_of_le hi h.size)).trans (h.block i hi)⟩
theorem aaS{fz Z_:List Nat}{o:Oper}{st:St}{u:UW}{K:St->UW->Prop}(hn:qD o=true)(hp:im E.fj o=false)(h:W1 E fz o st u K):W1 E Z_ o st u λbT u'=>Below u.heap.size u.toWorld u'.toWorld/\K bT u':=by
 unfold qD at hn;unfold im at hp;unfold W1 at h |-;split at hn
 ·rename_i t ho;simp only[ho]at h hp |-;cases hz:(E.P.info? t).bind (·.zero)with
  |none=>rw[hz]at h;exact h.elim
  |some z=>
   rw[hz]at h;simp only at h |-;cases hd:o.dst with
   |none=>rw[hd]at h;exact h.elim
   |some k=>
    rw[hd]at h hp;simp only at h hp |-;rw[hp]at h |-;exact λb w' hb=>⟨hb.below,h b w' hb⟩
 ·rename_i t x ho;simp only[ho]at h hp |-;obtain⟨h1,h⟩:=aq h;rw[h1];simp only[cond_true];cases hd:o.dst with
  |none=>rw[hd]at h;exact h.elim
  |some k=>
   rw[hd]at h hp;simp only at h hp |-;rw[hp]at h |-;exact λb w' hb=>⟨hb.below,h b w' hb⟩
 ·rename_i t len ps ho;simp only[ho]at h |-;obtain⟨h1,h⟩:=aq h;rw[h1];simp only[cond_true];cases he:vH E.P t with
  |none=>rw[he]at h;exact h.elim
  |some e=>
   rw[he]at h;simp only at h |-;cases hb:oQ (E.P.cellsOf e) 0 (ps.toList.map λp=>(p.1,ev st.σ p.2))with
   |none=>rw[hb]at h;exact h.elim
   |some vs=>
    rw[hb]at h;simp only at h |-;obtain⟨h2,h⟩:=aq h;rw[h2];exact λb w' hb=>⟨hb.below,h b w' hb⟩
 ·cases hn
theorem Me{fz:List Nat}{o:Oper}{K:St->UW->Prop}(hn:qD o=true)(aG:br C.n o=true)(hI:Inv C a wa st u θ)(h:W1 E fz o st u K):∃v ob,(execOp a.eval o).run E.P wa=.ok (.value v) (wa.alloc ob):=by
 unfold qD at hn;unfold W1 at h;split at hn
 ·rename_i t ho;simp only[ho]at h;cases hz:(E.P.info? t).bind (·.zero)with
  |none=>rw[hz]at h;exact h.elim
  |some z=>
   refine⟨.pointer (some ⟨wa.heap.size,0,none⟩),.cells z.cells t (0,0),?_⟩;simp only[execOp,ho,run_bind,Ds hz,andThen_ok];rfl
 ·rename_i t x ho;simp only[ho]at h;obtain⟨h1,h⟩:=aq h;have hx:cY C.n x=true:=lp aG (by simp[ho,Op.operands]);refine⟨.pointer (some ⟨wa.heap.size,0,none⟩),.cells (ev st.σ x).cells t (0,0),?_⟩;simp only[execOp,ho,bd hI hx rfl h1,run_bind,LM,andThen_ok];rfl
 ·rename_i t len ps ho;simp only[ho]at h;exact UF ho aG hI h
 ·cases hn
theorem kM.alloc{zB:St}{θ0:Nat->Nat}{w:World}(h:kM u0 zB θ0 w)(ob:Obj):kM u0 zB θ0 (w.alloc ob):=by
 have hk:∀(b:Nat) (x:Obj),w.heap[b]?=some x->(w.alloc ob).heap[b]?=some x:=λb x hx=>by
  have bG:=(Array.getElem?_eq_some_iff.1 hx).1;simp only[World.alloc];rw[Array.getElem?_push,if_neg (by omega)];exact hx
 refine⟨⟨h.Cq.os,h.Cq.tape,h.Cq.output,?_,λb hb=>?_⟩,λk m hm=>?_⟩
 ·have:=h.Cq.size;simp only[World.alloc,Array.size_push];omega
 ·rcases h.Cq.block b hb with e|e
  ·left;have bG:b<w.heap.size:=lt_of_lt_of_le hb h.Cq.size;rw[e,hk b _ (Array.getElem?_eq_getElem bG),Array.getElem?_eq_getElem bG]
  ·exact .inr e
 ·obtain⟨c,T,h1,h2,h3⟩:=h.boxes k m hm;exact⟨c,T,hk _ _ h1,h2,h3⟩
theorem iw{ws:List Nat}{ops:Array Oper}{zB nB:St}{θ0:Nat->Nat}{i:Nat}{p:jg}{K:St->UW->Prop}{N:Act->World->Prop}{QQ:Act->World->Prop}(aG:∀o∈ops.toList,br C.n o=true)(Fo:∀o∈ops.toList,∀t,o.dst=some t->t∈ws)
  (Ic:∀k m,(k,m)∈zB.D->∀j,j<m->∀k' o,zB.σ (gx k j)≠dM k' o) (hI:Inv C a wa st u θ) (hP:cB C.n fz ws nB st) (hS:(rW u0 u/\Syn zB θ0 st θ)\/(dN ops p=false/\bM ops p=false/\qJ ops i=false)) (bG:bK ops i p=true)
  (hN:∀bT u' a' w' θ',Inv C a' w' bT u' θ'->cB C.n fz ws nB bT->Sy ops u0 zB θ0 p bT u' θ'->K bT u'->N a' w')
  (h:su E fz ops u0 i st u K):kE E.P ops (QN QQ) i (λa' w'=>(late ops i=true->kM u0 zB θ0 wa->kM u0 zB θ0 w')/\N a' w') a wa:=by
 unfold su at h;cases gY:ops[i]? with
 |none=>simp only[gY]at h
 |some oj=>
  simp only[gY]at h;cases lq:im E.fj oj with
  |true=>simp only[lq,cond_true]at h
  |false=>
   simp only[lq,cond_false]at h
   have fw:oj∈ops.toList:=by have:ops.toList[i]?=some oj:=by simpa using gY
                             exact mem_of_getElem? this
   have gD:=aG oj fw;have jw:∀{s s':St},cB C.n fz ws nB s->cB C.n fz oj.dst.toList s s'->cB C.n fz ws nB s':=by
    intro s s' h1 h2;refine(h1.trans h2).mono (λ_ h=>h) λx hx=>?_;rw[mem_append]at hx;rcases hx with hx|hx
    ·exact hx
    ·cases tN:oj.dst with
     |none=>simp[tN]at hx
     |some d=>simp only[tN,Option.toList,mem_singleton]at hx;exact Fo oj fw x (by rw[tN,hx])
   unfold bK at bG;unfold kE;simp only[gY];refine p_ (G:=if Region.wanted oj (yielded ops a.tmps)=true then _ else _) aG hI h (λhw h1=>?_) (λhw h1=>?_)
   ·rw[if_pos hw];cases HX:qJ ops i with
    |true=>
     simp only[HX,cond_true]at h1;refine nv (λa' w' hp=>?_) (kh (Q:=QN _) gD hI h1);obtain⟨bT,u',θ',dK,kr,hθ,hDD,jX,hW⟩:=hp;have KD:cB C.n fz oj.dst.toList st bT:=kr.mono (λ_ h=>mem_append_left _ h) (λ_ h=>h);have ZX:=hDD lq;rcases hS with⟨_,jU⟩|⟨_,_,dc⟩
     ·have Xl:Syn zB θ0 bT θ':=by
       refine⟨ZX.trans jU.D,λk m hk=>?_,λk m hk j hj=>?_⟩
       ·rw[hθ k m (jU.D▸hk)];exact jU.θ k m hk
       ·rw[kr.fz k (List.mem_append_right _ (mem_map.2 ⟨_,jU.D▸hk,rfl⟩)) m (jU.D▸hk) j hj];exact jU.gh k m hk j hj
      exact⟨λ_ _=>(rC Xl Ic w').2 (dK.LJ jX),hN bT u' a' w' θ' dK (jw hP KD) (.inl ⟨jX,Xl⟩) hW⟩
     ·rw[HX]at dc;cases dc
    |false=>
     simp only[HX,cond_false]at h1;cases jB:E_ ops i with
     |true=>
      have hnw:qD oj=true:=by unfold E_ at jB;rw[gY]at jB;exact jB
      obtain⟨v,ob,jd⟩:=Me hnw gD hI h1;have Vx:=kh (Q:=QN QQ) (fz:=fz++st.D.map (·.1)) gD hI (aaS hnw lq h1);unfold sM at Vx;rw[jd]at Vx |-;simp only[Oper.uponIn]at Vx |-;obtain⟨bT,u',θ',dK,kr,hθ,hDD,hbl,hW⟩:=Vx;have KD:cB C.n fz oj.dst.toList st bT:=kr.mono (λ_ h=>mem_append_left _ h) (λ_ h=>h);have ZX:=hDD lq;refine⟨λ_ hs=>hs.alloc ob,hN bT u' _ _ θ' dK (jw hP KD) ?_ hW⟩;rcases hS with⟨sC,jU⟩|⟨n1,n2,_⟩
      ·refine .inl ⟨xN sC hbl,ZX.trans jU.D,λk m hk=>?_,λk m hk j hj=>?_⟩
       ·rw[hθ k m (jU.D▸hk)];exact jU.θ k m hk
       ·rw[kr.fz k (List.mem_append_right _ (mem_map.2 ⟨_,jU.D▸hk,rfl⟩)) m (jU.D▸hk) j hj];exact jU.gh k m hk j hj
      ·exact .inr ⟨n1,n2⟩
     |false=>
     simp only[HX,jB,Bool.false_or,and_eq_true,not_eq_true']at bG;refine nv (λa' w' hp=>?_) (kh (Q:=QN _) gD hI h1);obtain⟨bT,u',θ',dK,kr,hθ,hDD,hW⟩:=hp;exact⟨λhh _=>(by simp[qJ,jB,hh]at HX),hN bT u' a' w' θ' dK (jw hP kr) (.inr bG) hW⟩
   ·rw[if_neg (by simp[hw])];have Sd:=hI.cM oj.dst (eh gD) (v:=undef) rfl;have hpf:=jw hP (cB.fin st oj.dst (eh gD) hI.jc undef);rcases hS with⟨sC,jU⟩|⟨RQ,ahe,alS⟩
    ·exact⟨λ_ _=>(rC jU Ic wa).2 (hI.LJ sC),hN _ u _ wa θ Sd hpf (.inl ⟨sC,jU.fin gD hI undef⟩) h1⟩
    ·exact⟨λ_ hs=>hs,hN _ u _ wa θ Sd hpf (.inr ⟨RQ,ahe⟩) h1⟩
theorem TH{ws:List Nat}{ops:Array Oper}{Q:Exit->St->UW->Prop}{nB zB:St}{θ0:Nat->Nat}(aG:∀o∈ops.toList,br C.n o=true)(Fo:∀o∈ops.toList,∀t,o.dst=some t->t∈ws)
  (vq:Region.noSelect ops=true) (Ic:∀k m,(k,m)∈zB.D->∀j,j<m->∀k' o,zB.σ (gx k j)≠dM k' o):
  ∀(f:Nat) (p:jg) (af:Array Bool) (st:St) (u:UW) (a:Act) (wa:World) (θ:Nat->Nat),Cl ops af->eE ops f af=some p->Inv C a wa st u θ->cB C.n fz ws nB st->
   Sy ops u0 zB θ0 p st u θ->Wd E fz ops u0 (Q .normal) p st u->
   wF E.P ops (QN λa' w'=>∃bT u' θ',Inv C a' w' bT u' θ'/\cB C.n fz ws nB bT/\Q .normal bT u') (kM u0 zB θ0) f af a wa:=by
 intro f;induction f with
 |zero=>
  intro p af st u a wa θ iA hp hI hP hS h;cases AA 0 af p ops hp with
  |nil _ hr=>exact⟨hr,st,u,θ,hI,hP,h⟩
 |succ f ih=>
  intro p af st u a wa θ iA hp hI hP hS h;cases AA (f+1) af p ops hp with
  |nil _ hr=>
   refine⟨λ_=>⟨st,u,θ,hI,hP,h⟩,?_⟩;rw[hr];intro i hi;cases hi
  |tk _ j p' oj gY gX jZ eR zG=>
   have fw:oj∈ops.toList:=by have:ops.toList[j]?=some oj:=by simpa using gY
                             exact mem_of_getElem? this
   have gD:=aG oj fw;have jw:∀(v:Value),cB C.n fz ws nB (fin oj st v):=by
    intro v;refine(hP.trans (cB.fin st oj.dst (eh gD) hI.jc v)).mono (λ_ h=>h) λx hx=>?_;rw[mem_append]at hx;rcases hx with hx|hx
    ·exact hx
    ·cases tN:oj.dst with
     |none=>simp[tN]at hx
     |some d=>simp only[tN,Option.toList,mem_singleton]at hx;exact Fo oj fw x (by rw[tN,hx])
   have hS1:reads oj=true->∀w,kM u0 zB θ0 w↔kM u0 st θ w:=λeR=>by
    rcases hS with⟨_,jU⟩|hn
    ·exact rC jU Ic
    ·simp[dN,Av,gY,eR]at hn
   have hS2:reads oj=true->kM u0 zB θ0 wa:=λeR=>by
    rcases hS with⟨sC,jU⟩|hn
    ·exact(rC jU Ic wa).2 (hI.LJ sC)
    ·simp[dN,Av,gY,eR]at hn
   have hS3:∀v,Sy ops u0 zB θ0 p' (fin oj st v) u θ:=λv=>by
    rcases hS with⟨sC,jU⟩|hn
    ·exact .inl ⟨sC,jU.fin gD hI v⟩
    ·simp only[dN,bM,or_eq_false_iff]at hn;exact .inr ⟨hn.1.2,hn.2⟩
   simp only[Wd,stepT,gY]at h;refine p_ aG hI h (λhw h1=>?_) (λhw h1=>?_)
   ·obtain⟨v,r,hR,VO,hK,jd⟩:=Ng gX gD hI h1;refine uH gY (Region.noSelect_spec vq) (λc a w hq=>hq.elim) f af a wa (Region.free_spec gY jZ) iA eR (v:=r) (.inl ⟨hw,λw Vu=>jd w λCD=>(hS1 CD w).1 (Vu CD)⟩) hS2 ?_;exact ih p' _ _ u _ wa θ (iA.set eR) zG (hI.fin oj.dst (eh gD) hR VO) (jw v) (hS3 v) hK
   ·refine uH gY (Region.noSelect_spec vq) (λc a w hq=>hq.elim) f af a wa (Region.free_spec gY jZ) iA eR (v:=undef) (.inr ⟨hw,rfl⟩) hS2 ?_;exact ih p' _ _ u _ wa θ (iA.set eR) zG (hI.cM oj.dst (eh gD) rfl) (jw undef) (hS3 undef) h1
  |ef _ i p' hr bG zG=>
   refine⟨λh0=>(by rw[hr]at h0;cases h0),λx hx=>?_⟩;rw[hr]at hx;simp only[mem_singleton]at hx;subst hx;refine iw (p:=p') aG Fo Ic hI hP (hS.imp id λhh=>?_) bG (λbT u' a' w' θ' dK kr KC hW=>ih p' _ bT u' a' w' θ' (iA.set (by rw[hr];simp)) zG dK kr KC hW) h;simp only[dN,bM,or_eq_false_iff]at hh;exact⟨hh.1,hh.2.2,hh.2.1⟩
  |SG _ i j p' q' hr bG tJ zG hq'=>
   refine⟨λh0=>(by rw[hr]at h0;cases h0),λx hx=>?_⟩;rw[hr]at hx;simp only[mem_cons,List.not_mem_nil,or_false]at hx;rcases hx with rfl|rfl
   ·refine iw (p:=p') aG Fo Ic hI hP (hS.imp id λhh=>?_) bG (λbT u' a' w' θ' dK kr KC hW=>ih p' _ bT u' a' w' θ' (iA.set (by rw[hr];simp)) zG dK kr KC hW) h.1;simp only[dN,bM,or_eq_false_iff]at hh;exact⟨hh.1.1,hh.2.1.2,hh.2.1.1⟩
   ·refine iw (p:=q') aG Fo Ic hI hP (hS.imp id λhh=>?_) tJ (λbT u' a' w' θ' dK kr KC hW=>ih q' _ bT u' a' w' θ' (iA.set (by rw[hr];simp)) hq' dK kr KC hW) h.2;simp only[dN,bM,or_eq_false_iff]at hh;exact⟨hh.1.2,hh.2.2.2,hh.2.2.1⟩
  |SF _ i j k p' q' r' hr bG tJ hlt'' zG hq' CD=>
   refine⟨λh0=>(by rw[hr]at h0;cases h0),λx hx=>?_⟩;rw[hr]at hx;simp only[mem_cons,List.not_mem_nil,or_false]at hx;rcases hx with rfl|rfl|rfl
   ·refine iw (p:=p') aG Fo Ic hI hP (hS.imp id λhh=>?_) bG (λbT u' a' w' θ' dK kr KC hW=>ih p' _ bT u' a' w' θ' (iA.set (by rw[hr];simp)) zG dK kr KC hW) h.1;simp only[dN,bM,or_eq_false_iff]at hh;exact⟨hh.1.1.1,hh.2.1.1.2,hh.2.1.1.1⟩
   ·refine iw (p:=q') aG Fo Ic hI hP (hS.imp id λhh=>?_) tJ (λbT u' a' w' θ' dK kr KC hW=>ih q' _ bT u' a' w' θ' (iA.set (by rw[hr];simp)) hq' dK kr KC hW) h.2.1;simp only[dN,bM,or_eq_false_iff]at hh;exact⟨hh.1.1.2,hh.2.1.2.2,hh.2.1.2.1⟩
   ·refine iw (p:=r') aG Fo Ic hI hP (hS.imp id λhh=>?_) hlt'' (λbT u' a' w' θ' dK kr KC hW=>ih r' _ bT u' a' w' θ' (iA.set (by rw[hr];simp)) CD dK kr KC hW) h.2.2;simp only[dN,bM,or_eq_false_iff]at hh;exact⟨hh.1.2,hh.2.2.2,hh.2.2.1⟩
def lD(P:Program)(ops:Array Oper)(tot:Bool)(j:Nat)(K:Act->World->Prop)(a:Act)(w:World):Prop:=
 match ops[j]? with
 |none=>False
 |some o=>if Region.wanted o (yielded ops a.tmps)then
   (tot=true->∃v w',(execOp a.eval o).run P w=.ok (.value v) w'/\(w'=w\/∃ob,w'=w.alloc ob))/\
   ∀v w',(execOp a.eval o).run P w=.ok (.value v) w'->(w'=w\/∃ob,w'=w.alloc ob)->K (a.put o.dst v) w'
  else K (a.put o.dst undef) w
def TQ(P:Program)(ops:Array Oper)(QQ:Exit->Act->World->Prop):Nat->Array Bool->List Nat->Act->World->Prop
 |0,af,_,a,w=>Region.ready .any ops af=[]/\QQ .normal a w
 |f+1,af,dh,a,w=>(Region.ready .any ops af=[]->QQ .normal a w)/\
  ∀j∈Region.ready .any ops af,cK dh j=false->
   (kX ops j=true->lD P ops dh.isEmpty j (TQ P ops QQ f (af.setIfInBounds j true) dh) a w)/\
   (kX ops j=false->kE P ops QQ j (TQ P ops QQ f (af.setIfInBounds j true) []) a w)
theorem Gc{P:Program}{ops:Array Oper}{QQ:Exit->Act->World->Prop}:∀(f:Nat) (af:Array Bool) (a:Act) (w:World),TQ P ops QQ f af [] a w->wF P ops QQ (λ_=>True) f af a w
 |0,_,_,_,h=>h
 |f+1,af,a,w,h=>by
  refine⟨h.1,λi hi=>?_⟩
  have hh:=h.2 i hi rfl
  cases hn:kX ops i with
  |false=>exact sS (λa' w' h'=>⟨λ_ _=>trivial,Gc f _ _ _ h'⟩) (hh.2 hn)
  |true=>
   have h1:=hh.1 hn;unfold lD at h1;unfold kE;cases ho:ops[i]? with
   |none=>rw[ho]at h1;exact h1.elim
   |some o=>
    rw[ho]at h1;simp only at h1 |-;split<;>rename_i hw<;>simp only[hw,if_true,if_false,false_eq_true]at h1
    ·obtain⟨v,w',hr,hs⟩:=h1.1 rfl;rw[hr];exact⟨λ_ _=>trivial,Gc f _ _ _ (h1.2 v w' hr hs)⟩
    ·exact⟨λ_ _=>trivial,Gc f _ _ _ h1⟩
theorem NA{P:Program}{ops:Array Oper}{j:Nat}{oi oj:Oper}{v:Value}{tot:Bool}{K:Act->World->Prop}{a:Act}{w:World}(hj:ops[j]?=some oj)(PM:oi.apart ops oj=true)(hsj:∀cs b,oj.op≠ .select cs b)
  (h:lD P ops tot j K (a.put oi.dst v) w):lD P ops tot j (λa' w'=>K (a'.put oi.dst v) w') a w:=by
 obtain⟨h1,h2,h3⟩:=Oper.apart_spec PM;unfold lD at h |-;simp only[hj,wanted_put oj a oi.dst v h1,execOp_put oj hsj a oi.dst v h1]at h |-;split<;>rename_i hw<;>simp only[hw,if_true,if_false,false_eq_true]at h
 ·refine⟨h.1,λx w' hr hs=>?_⟩;rw[<- Act.put_comm a v x h2];exact h.2 x w' hr hs
 ·rw[<- Act.put_comm a v undef h2];exact h
theorem Dk{P:Program}{ops:Array Oper}{j:Nat}{t1 t2:Bool}{K1 K2 K:Act->World->Prop}{a:Act}{w:World}(hk:∀(oj:Oper) (x:Value) (w':World),ops[j]?=some oj->(w'=w\/∃ob,w'=w.alloc ob)->K1 (a.put oj.dst x) w'->K2 (a.put oj.dst x) w'->K (a.put oj.dst x) w')
  (h1:lD P ops t1 j K1 a w) (h2:lD P ops t2 j K2 a w):lD P ops t1 j K a w:=by
 unfold lD at h1 h2 |-;cases ho:ops[j]? with
 |none=>rw[ho]at h1;exact h1.elim
 |some oj=>
  rw[ho]at h1 h2;simp only at h1 h2 |-;split<;>rename_i hw<;>simp only[hw,if_true,if_false,false_eq_true]at h1 h2
  ·exact⟨h1.1,λv w' hr hs=>hk oj v w' ho hs (h1.2 v w' hr hs) (h2.2 v w' hr hs)⟩
  ·exact hk oj undef w ho (.inl rfl) h1 h2
theorem JG{P:Program}{ops:Array Oper}{j:Nat}{t:Bool}{K1 K:Act->World->Prop}{a:Act}{w:World}(hk:∀(oj:Oper) (x:Value) (w':World),ops[j]?=some oj->(w'=w\/∃ob,w'=w.alloc ob)->K1 (a.put oj.dst x) w'->K (a.put oj.dst x) w')
  (h1:lD P ops t j K1 a w):lD P ops t j K a w:=Dk (λoj x w' ho hs k1 _=>hk oj x w' ho hs k1) h1 h1
theorem BN{P:Program}{ops:Array Oper}{QQ:Exit->Act->World->Prop}{S:World->Prop}{i:Nat}{oi:Oper}{v:Value}(hi:ops[i]?=some oi)(Oz:kX ops i=true)(vq:∀(j:Nat) (o:Oper) cs b,ops[j]?=some o->o.op≠ .select cs b)
  (hQ:∀c a w,QQ (.panic c) (a.put oi.dst v) w->QQ (.panic c) a w) (hSc:∀w ob,S w->S (w.alloc ob)):
  ∀(f:Nat) (af:Array Bool) (dh:List Nat) (a:Act) (w:World),
   (∀j oj,ops[j]?=some oj->j≠i->af.getD j true=false->(∀e∈oj.after,Region.binds .any e=true->e.on≠i)->oi.apart ops oj=true)->
   i∈Region.ready .any ops af->cK dh i=false->YieldsIf P ops S oi v a->S w->
   TQ P ops QQ f (af.setIfInBounds i true) dh (a.put oi.dst v) w->((∀w,S w)\/TQ P ops QQ (f+1) af (i::dh) a w)->TQ P ops QQ (f+1) af dh a w:=by
 have self:∀(f:Nat) (af:Array Bool) (dh:List Nat) (a:Act) (w:World),YieldsIf P ops S oi v a->S w->TQ P ops QQ f (af.setIfInBounds i true) dh (a.put oi.dst v) w->
   lD P ops dh.isEmpty i (TQ P ops QQ f (af.setIfInBounds i true) dh) a w:=by
  intro f af dh a w hy hS hA;unfold lD;simp only[hi];rcases hy with⟨hw,hv⟩|⟨hw,rfl⟩
  ·rw[if_pos hw];refine⟨λ_=>⟨v,w,hv w hS,.inl rfl⟩,λx w' hr _=>?_⟩;rw[hv w hS]at hr;cases hr;exact hA
  ·rw[if_neg (by simp[hw])];exact hA
 intro f;induction f with
 |zero=>
  intro af dh a w jZ hr hb hy hS hA hB;refine⟨λh=>(by rw[h]at hr;cases hr),λj hj zI=>?_⟩;by_cases hji:j=i
  ·subst hji;exact⟨λ_=>self 0 af dh a w hy hS hA,λh=>(by rw[Oz]at h;cases h)⟩
  ·have:=ready_mono hj hji;rw[hA.1]at this;cases this
 |succ f ih=>
  intro af dh a w jZ hr hb hy hS hA hB;refine⟨λh=>(by rw[h]at hr;cases hr),λj hj zI=>?_⟩;by_cases hji:j=i
  ·subst hji;exact⟨λ_=>self (f+1) af dh a w hy hS hA,λh=>(by rw[Oz]at h;cases h)⟩
  ·have h1:=hA.2 j (ready_mono hj hji) zI;obtain⟨Sa,oj,gY,jC⟩:=mem_ready.1 hj;have HV:∀e∈oj.after,Region.binds .any e=true->e.on≠i:=λe he hb heq=>by
    have h1:=jC e he hb;have h0:=(mem_ready.1 hr).1;rw[heq]at h1;rcases lt_or_ge i af.size with h'|h'
    ·simp[h']at h0 h1;rw[h0]at h1;cases h1
    ·simp[getElem?_eq_none h']at h1
   have PM:=jZ j oj gY hji Sa HV;have Fv:∀k ok,ops[k]?=some ok->k≠i->(af.setIfInBounds j true).getD k true=false->
     (∀e∈ok.after,Region.binds .any e=true->e.on≠i)->oi.apart ops ok=true:=λk ok hk hki hun dc=>by
    refine jZ k ok hk hki ?_ dc;by_cases hjk:j=k
    ·subst hjk;exact Sa
    ·rw[getD_set_ne true hjk]at hun;exact hun
   have XB:(af.setIfInBounds i true).setIfInBounds j true=(af.setIfInBounds j true).setIfInBounds i true:=Array.setIfInBounds_comm _ _ (Ne.symm hji);have acU:∀(b:Act) (x:Value),YieldsIf P ops S oi v b->YieldsIf P ops S oi v (b.put oj.dst x):=λb x hb=>by
    obtain⟨_,_,h3⟩:=Oper.apart_spec PM;exact hb.of_same (execOp_put oi (λcs b=>vq i oi cs b hi) b oj.dst x h3) (wanted_put oi b oj.dst x h3)
   refine⟨λhn=>?_,λhn=>?_⟩
   ·have k1:=NA gY PM (λcs b=>vq j oj cs b gY) (h1.1 hn);have go:∀(a':Act) (w':World),YieldsIf P ops S oi v a'->S w'->TQ P ops QQ f ((af.setIfInBounds i true).setIfInBounds j true) dh (a'.put oi.dst v) w'->((∀w,S w)\/TQ P ops QQ (f+1) (af.setIfInBounds j true) (i::dh) a' w')->TQ P ops QQ (f+1) (af.setIfInBounds j true) dh a' w':=λa' w' y1 y2 y3 y4=>
     ih (af.setIfInBounds j true) dh a' w' Fv (ready_mono hr (Ne.symm hji)) hb y1 y2 (by rw[XB]at y3;exact y3) y4
    have hSn:∀w',(w'=w\/∃ob,w'=w.alloc ob)->S w':=λw' hs=>by
     rcases hs with rfl|⟨ob,rfl⟩
     ·exact hS
     ·exact hSc w ob hS
    rcases hB with hB|hB
    ·refine JG (λoj' x w' RO hs y1=>?_) k1;have:oj'=oj:=by rw[gY]at RO;cases RO;rfl
     subst this;exact go _ _ (acU a x hy) (hSn w' hs) y1 (.inl hB)
    ·have ZO:cK (i::dh) j=false:=by
      cases hm:cK (i::dh) j with
      |false=>rfl
      |true=>
       rcases mem_cons.1 (dR.1 hm)with h|h
       ·exact absurd h hji
       ·rw[dR.2 h]at zI;cases zI
     have k2:=(hB.2 j hj ZO).1 hn;refine Dk (λoj' x w' RO hs y1 y2=>?_) k1 k2;have:oj'=oj:=by rw[gY]at RO;cases RO;rfl
     subst this;exact go _ _ (acU a x hy) (hSn w' hs) y1 (.inr y2)
   ·rcases hB with hB|hB
    ·have k1:=Db (S:=S) gY PM (λcs b=>vq i oi cs b hi) (λcs b=>vq j oj cs b gY) hQ hy (h1.2 hn);refine sS (λa' w' y=>?_) k1;exact ih (af.setIfInBounds j true) [] a' w' Fv (ready_mono hr (Ne.symm hji)) rfl y.1 (hB w') (by have:=y.2;rw[XB]at this;exact this) (.inl hB)
    ·have ZO:cK (i::dh) j=false:=by
      cases hm:cK (i::dh) j with
      |false=>rfl
      |true=>
       rcases mem_cons.1 (dR.1 hm)with h|h
       ·exact absurd h hji
       ·rw[dR.2 h]at zI;cases zI
     exact(hB.2 j hj ZO).2 hn
def pe(af:Array Bool):Nat:=(af.toList.filter (!·)).length
theorem DC:∀(l:List Bool) (i:Nat),i<l.length->l[i]?=some false->((l.set i true).filter (!·)).length+1=(l.filter (!·)).length
 |[],i,h,_=>by simp at h
 |b::l,0,_,h=>by simp only[List.getElem?_cons_zero,Option.some.injEq]at h;subst h;simp
 |b::l,i+1,h,h2=>by
  simp only[List.getElem?_cons_succ]at h2
  simp only[length_cons]at h
  have:=DC l i (by omega) h2
  show((b::l.set i true).filter (!·)).length+1=((b::l).filter (!·)).length;cases b<;>simp at this |- <;>omega
theorem rF{af:Array Bool}{i:Nat}{ops:Array Oper}(hi:i∈Region.ready .any ops af)(hs:af.size=ops.size):pe (af.setIfInBounds i true)+1=pe af:=by
 obtain⟨h0,oj,gY,_⟩:=mem_ready.1 hi;have bG:i<af.size:=by rw[hs];exact(Array.getElem?_eq_some_iff.1 gY).1
 unfold pe;rw[Array.toList_setIfInBounds];refine DC _ i (by simpa using bG) ?_;rw[getD_eq_getD_getElem?,Array.getElem?_eq_getElem bG]at h0;rw[Array.getElem?_toList,Array.getElem?_eq_getElem bG];exact congrArg some h0
theorem DB{af:Array Bool}{i:Nat}{ops:Array Oper}(hi:i∈Region.ready .any ops af)(hs:af.size=ops.size):0<pe af:=by
 have:=rF hi hs;omega
theorem aaU{P:Program}{ops:Array Oper}{QQ:Exit->Act->World->Prop}:∀(f:Nat) (af:Array Bool) (dh:List Nat) (a:Act) (w:World),af.size=ops.size->pe af<=f->Cl ops af->dh≠[]->(∀x∈dh,x∈Region.ready .any ops af)->Nl ops af dh=true->TQ P ops QQ f af dh a w:=by
 intro f;induction f with
 |zero=>
  intro af dh a w hs hn iA hb hr hv;cases dh with
  |nil=>exact absurd rfl hb
  |cons x dh=>have:=DB (hr x (by simp)) hs;omega
 |succ f ih=>
  intro af dh a w hs hn iA hb hr hv;obtain⟨x,hx⟩:∃x,x∈dh:=by
   cases dh with
   |nil=>exact absurd rfl hb
   |cons x dh=>exact⟨x,by simp⟩
  refine⟨λh=>(by have:=hr x hx;rw[h]at this;cases this),λj hj zI=>?_⟩;have aw:∀a' w',TQ P ops QQ f (af.setIfInBounds j true) dh a' w':=λa' w'=>by
   refine ih _ dh a' w' (by simpa using hs) (by have:=rF hj hs;omega) (iA.set hj) hb (λy hy=>?_) ?_
   ·refine ready_mono (hr y hy) λe=>?_;subst e;rw[dR.2 hy]at zI;cases zI
   ·unfold Nl at hv |-;rw[all_eq_true]at hv |-;intro h hh;have:=hv h hh;simp only[Bool.or_eq_true]at this |-;rcases this with h1|h1
    ·left;by_cases hjh:j=h
     ·subst hjh;have:=(mem_ready.1 hj).1;rw[this]at h1;cases h1
     ·rw[getD_set_ne true hjh];exact h1
    ·exact .inr h1
  refine⟨λXq=>?_,λXq=>?_⟩
  ·unfold lD;obtain⟨_,oj,gY,_⟩:=mem_ready.1 hj;simp only[gY]
   have ahC:dh.isEmpty=false:=by cases dh with
    |nil=>exact absurd rfl hb
    |cons _ _=>rfl
   rw[ahC];split
   ·exact⟨λh=>(by cases h),λv w' _ _=>aw _ _⟩
   ·exact aw _ _
  ·exfalso;obtain⟨hj0,oj,gY,jC⟩:=mem_ready.1 hj;unfold Nl at hv;rw[all_eq_true]at hv;have:=hv j (List.mem_range.2 (Array.getElem?_eq_some_iff.1 gY).1);rw[hj0,Xq,Bool.false_or,Bool.false_or,List.any_eq_true]at this;obtain⟨y,Mo,Fk⟩:=this;have hyr:=(mem_ready.1 (hr y (dR.1 Fk))).1;have hl:af.getD y false=true:=by
    refine iA.yp ops.size (sy ops j) (λx hx=>?_) y Mo;unfold sy at hx;simp only[gY]at hx;obtain⟨e,he,rfl⟩:=mem_map.1 hx;rw[mem_filter]at he;exact jC e (by simpa using he.1) he.2
   rcases lt_or_ge y af.size with h'|h'
   ·simp[h']at hyr hl;rw[hyr]at hl;cases hl
   ·rw[getD_eq_getD_getElem?,getElem?_eq_none h']at hl;cases hl
theorem zU{ops:Array Oper}{af:Array Bool}{dh:List Nat}{j:Nat}:∀l:List Nat,zW ops af dh l=some j->j∈l/\∃oj,ops[j]?=some oj/\bw oj=true/\(reads oj=false\/Nl ops af (j::dh)=true)/\Region.free .any ops af j=true/\cK dh j=false:=by
 intro l;induction l with
 |nil=>intro h;simp[zW]at h
 |cons x l ih=>
  intro h;simp only[zW]at h;cases hx:ops[x]? with
  |none=>
   simp only[hx,Bool.false_and,cond_false]at h;obtain⟨h1,h2⟩:=ih h;exact⟨by simp[h1],h2⟩
  |some ox=>
   simp only[hx]at h;cases hc:(bw ox&&(!reads ox||Nl ops af (x::dh)))&&(Region.free .any ops af x&& !cK dh x)with
   |true=>
    simp only[hc,cond_true,Option.some.injEq]at h;subst h;simp only[and_eq_true,not_eq_true',Bool.or_eq_true]at hc;exact⟨by simp,ox,hx,hc.1.1,hc.1.2,hc.2.1,hc.2.2⟩
   |false=>
    simp only[hc,cond_false]at h;obtain⟨h1,h2⟩:=ih h;exact⟨by simp[h1],h2⟩
theorem AS{ops:Array Oper}{af:Array Bool}{dh:List Nat}{j:Nat}:∀l:List Nat,AU ops af dh l=some j->j∈l/\∃oj,ops[j]?=some oj/\bw oj=true/\Region.free .any ops af j=true/\cK dh j=false:=by
 intro l;induction l with
 |nil=>intro h;simp[AU]at h
 |cons x l ih=>
  intro h;simp only[AU]at h;cases hx:ops[x]? with
  |none=>
   simp only[hx,Bool.false_and,cond_false]at h;obtain⟨h1,h2⟩:=ih h;exact⟨by simp[h1],h2⟩
  |some ox=>
   simp only[hx]at h;cases hc:bw ox&&(Region.free .any ops af x&& !cK dh x)with
   |true=>
    simp only[hc,cond_true,Option.some.injEq]at h;subst h;simp only[and_eq_true,not_eq_true']at hc;exact⟨by simp,ox,hx,hc.1,hc.2.1,hc.2.2⟩
   |false=>
    simp only[hc,cond_false]at h;obtain⟨h1,h2⟩:=ih h;exact⟨by simp[h1],h2⟩
theorem tZ{ops:Array Oper}{dh:List Nat}{Q:St->UW->Prop}{fz:List Nat}{g:Nat->Option iF}{st:St}{u:UW}:∀(l:List Nat) (q:iF),yT ops dh g l=some q->Wq E fz ops Q q st u->∀i∈l,cK dh i=false->(∀o,ops[i]?=some o->bw o=false)/\∃q',g i=some q'/\LI E fz ops i st u λbT u'=>Wq E fz ops Q q' bT u'
 |[],_,_,_,i,hi,_=>by cases hi
 |j::l,q,h,hw,i,hi,hb=>by
  simp only[yT]at h
  cases zI:cK dh j with
  |true=>
   rw[zI]at h
   simp only[cond_true]at h
   rcases mem_cons.1 hi with rfl|hi
   ·rw[hb]at zI;cases zI
   ·exact tZ l q h hw i hi hb
  |false=>
   rw[zI]at h
   simp only[cond_false]at h
   cases ht:Uo ops j true with
   |true=>rw[ht]at h;cases h
   |false=>
    rw[ht]at h
    simp only[cond_false]at h
    cases hj:g j with
    |none=>rw[hj]at h;cases h
    |some qj=>
     rw[hj]at h
     simp only at h
     cases hl:yT ops dh g l with
     |none=>rw[hl]at h;cases h
     |some r=>
      rw[hl]at h
      cases h
      rcases mem_cons.1 hi with rfl|hi
      ·exact⟨λo ho=>(by unfold Uo at ht;rw[ho]at ht;exact ht),qj,hj,hw.1⟩
      ·exact tZ l r hl hw.2 i hi hb
theorem TG{ws:List Nat}{ops:Array Oper}{Q:Exit->St->UW->Prop}{nB:St}(aG:∀o∈ops.toList,br C.n o=true)(Fo:∀o∈ops.toList,∀t,o.dst=some t->t∈ws)
  (vq:Region.noSelect ops=true):
  ∀(g:Nat) (p:iF) (f:Nat) (af:Array Bool) (dh:List Nat) (st:St) (u:UW) (a:Act) (wa:World) (θ:Nat->Nat),af.size=ops.size->pe af<=f->(∀x∈dh,x∈Region.ready .any ops af)->Cl ops af->lG ops g af dh=some p->Inv C a wa st u θ->cB C.n fz ws nB st->
   Wq E fz ops (Q .normal) p st u->
   TQ E.P ops (QN λa' w'=>∃bT u' θ',Inv C a' w' bT u' θ'/\cB C.n fz ws nB bT/\Q .normal bT u') f af dh a wa:=by
 intro g;induction g with
 |zero=>intro p f af dh st u a wa θ _ _ _ _ hp;simp[lG]at hp
 |succ g ih=>
  intro p f af dh st u a wa θ fH Ms hbr iA hp hI hP h;simp only[lG]at hp;have Ay:∀{oj:Oper},oj∈ops.toList->∀{s s':St},cB C.n fz ws nB s->cB C.n fz oj.dst.toList s s'->cB C.n fz ws nB s':=by
   intro oj fw s s' h1 h2;refine(h1.trans h2).mono (λ_ h=>h) λx hx=>?_;rw[mem_append]at hx;rcases hx with hx|hx
   ·exact hx
   ·cases tN:oj.dst with
    |none=>simp[tN]at hx
    |some d=>simp only[tN,Option.toList,mem_singleton]at hx;exact Fo oj fw x (by rw[tN,hx])
  have take:∀{j:Nat} {oj:Oper} {q:iF} {f:Nat},pe af<=f+1->j∈Region.ready .any ops af->ops[j]?=some oj->bw oj=true->Region.free .any ops af j=true->cK dh j=false->
    lG ops g (af.setIfInBounds j true) dh=some q->stepT E fz ops u j st (λbT=>Wq E fz ops (Q .normal) q bT u)->
    (reads oj=false\/TQ E.P ops (QN λa' w'=>∃bT u' θ',Inv C a' w' bT u' θ'/\cB C.n fz ws nB bT/\Q .normal bT u') (f+1) af (j::dh) a wa)->
    TQ E.P ops (QN λa' w'=>∃bT u' θ',Inv C a' w' bT u' θ'/\cB C.n fz ws nB bT/\Q .normal bT u') (f+1) af dh a wa:=by
   intro j oj q f Ms eR gY gX jZ zI RH fK hB
   have fw:oj∈ops.toList:=by have:ops.toList[j]?=some oj:=by simpa using gY
                             exact mem_of_getElem? this
   have gD:=aG oj fw;have jw:∀(v:Value),cB C.n fz ws nB (fin oj st v):=λv=>Ay fw hP (cB.fin st oj.dst (eh gD) hI.jc v);have Oz:kX ops j=true:=by unfold kX;rw[gY];simp[gX]
   have Ko:pe (af.setIfInBounds j true)<=f:=by have:=rF eR fH;omega
   have Si:∀x∈dh,x∈Region.ready .any ops (af.setIfInBounds j true):=λx hx=>ready_mono (hbr x hx) λe=>by subst e;rw[dR.2 hx]at zI;cases zI
   simp only[stepT,gY]at fK;refine p_ aG hI fK (λhw h1=>?_) (λhw h1=>?_)
   ·obtain⟨v,r,hR,VO,hK,jd⟩:=Ng gX gD hI h1;have hA:=ih q f _ dh _ u (a.put oj.dst r) wa θ (by simpa using fH) Ko Si (iA.set eR) RH (hI.fin oj.dst (eh gD) hR VO) (jw v) hK;cases hre:reads oj with
    |false=>exact BN (S:=λ_=>True) gY Oz (Region.noSelect_spec vq) (λc a w hq=>hq.elim) (λ_ _ _=>trivial) f af dh a wa (Region.free_spec gY jZ) eR zI (.inl ⟨hw,λw _=>jd w λCD=>(by rw[hre]at CD;cases CD)⟩) trivial hA (.inl λ_=>trivial)
    |true=>
     have hB':=hB.resolve_left (by rw[hre];simp);exact BN (S:=λw=>kM u st θ w) gY Oz (Region.noSelect_spec vq) (λc a w hq=>hq.elim) (λ_ ob hs=>hs.alloc ob) f af dh a wa (Region.free_spec gY jZ) eR zI (.inl ⟨hw,λw hs=>jd w λ_=>hs⟩) (hI.LJ (Below.refl _ _)) hA (.inr hB')
   ·have hA:=ih q f _ dh _ u (a.put oj.dst undef) wa θ (by simpa using fH) Ko Si (iA.set eR) RH (hI.cM oj.dst (eh gD) rfl) (jw undef) h1;exact BN (S:=λ_=>True) gY Oz (Region.noSelect_spec vq) (λc a w hq=>hq.elim) (λ_ _ _=>trivial) f af dh a wa (Region.free_spec gY jZ) eR zI (.inr ⟨hw,rfl⟩) trivial hA (.inl λ_=>trivial)
  cases eR:Region.ready .any ops af with
  |nil=>
   rw[eR]at hp;cases hp;cases f with
   |zero=>exact⟨eR,st,u,θ,hI,hP,h⟩
   |succ f=>exact⟨λ_=>⟨st,u,θ,hI,hP,h⟩,λj hj=>(by rw[eR]at hj;cases hj)⟩
  |cons x0 l0=>
   have alG:0<pe af:=DB (i:=x0) (by rw[eR];simp) fH;obtain⟨f,rfl⟩:∃k,f=k+1:=⟨f-1,by omega⟩;rw[eR]at hp;simp only at hp;cases htq:zW ops af dh (x0::l0)with
   |some j=>
    rw[htq]at hp;simp only at hp;obtain⟨Ce,oj,gY,gX,hor,jZ,zI⟩:=zU _ htq;rw[<- eR]at Ce;cases RH:lG ops g (af.setIfInBounds j true) dh with
    |none=>rw[RH]at hp;cases hp
    |some q=>
     rw[RH]at hp;cases hp;refine take Ms Ce gY gX jZ zI RH h (hor.imp id λhv=>?_);exact aaU (f+1) af (j::dh) a wa fH Ms iA (by simp) (λy hy=>(mem_cons.1 hy).elim (λe=>e▸Ce) (hbr y)) hv
   |none=>
    rw[htq]at hp;simp only at hp;cases hlq:AU ops af dh (x0::l0)with
    |some j=>
     rw[hlq]at hp;simp only at hp;obtain⟨Ce,oj,gY,gX,jZ,zI⟩:=AS _ hlq;rw[<- eR]at Ce;cases RH:lG ops g (af.setIfInBounds j true) dh with
     |none=>rw[RH]at hp;cases hp
     |some q=>
      cases hpr:lG ops g af (j::dh)with
      |none=>rw[RH,hpr]at hp;cases hp
      |some r=>
       rw[RH,hpr]at hp;cases hp;refine take Ms Ce gY gX jZ zI RH h.1 (.inr ?_);exact ih r (f+1) af (j::dh) st u a wa θ fH Ms (λy hy=>(mem_cons.1 hy).elim (λe=>e▸Ce) (hbr y)) iA hpr hI hP h.2
    |none=>
     rw[hlq]at hp;simp only at hp;have alts:=tZ _ _ hp h;refine⟨λh0=>(by rw[eR]at h0;cases h0),λi hi hbi=>?_⟩;have OB:i∈x0::l0:=by rw[<- eR];exact hi
     obtain⟨Zs,q,hq,fK⟩:=alts i OB hbi;unfold LI at fK;cases gY:ops[i]? with
     |none=>rw[gY]at fK;exact fK.elim
     |some oj=>
      rw[gY]at fK;simp only at fK
      have fw:oj∈ops.toList:=by have:ops.toList[i]?=some oj:=by simpa using gY
                                exact mem_of_getElem? this
      have gD:=aG oj fw;have Ko:pe (af.setIfInBounds i true)<=f:=by have:=rF hi fH;omega
      have Si:∀x∈dh,x∈Region.ready .any ops (af.setIfInBounds i true):=λx hx=>ready_mono (hbr x hx) λe=>by subst e;rw[dR.2 hx]at hbi;cases hbi
      refine⟨λhn=>?_,λhn=>?_⟩
      ·rw[hn]at hq;simp only[cond_true]at hq;have hnw:qD oj=true:=by
        unfold kX at hn;rw[gY]at hn;simp only[Zs oj gY,Bool.false_or]at hn;exact hn
       unfold lD;simp only[gY];refine p_ (G:=if Region.wanted oj (yielded ops a.tmps)=true then _ else _) aG hI fK (λhw h1=>?_) (λhw h1=>?_)
       ·rw[if_pos hw];obtain⟨v,ob,jd⟩:=Me hnw gD hI h1;refine⟨λ_=>⟨v,_,jd,.inr ⟨ob,rfl⟩⟩,λv' w' CD _=>?_⟩;have Vx:=kh (Q:=QN λ_ _=>True) gD hI h1;unfold sM at Vx;rw[CD]at Vx;simp only[Oper.uponIn]at Vx;obtain⟨bT,u',θ',dK,kr,_,_,hW⟩:=Vx;exact ih q f _ dh bT u' _ w' θ' (by simpa using fH) Ko Si (iA.set hi) hq dK (Ay fw hP kr) hW
       ·rw[if_neg (by simp[hw])];exact ih q f _ dh _ u _ wa θ (by simpa using fH) Ko Si (iA.set hi) hq (hI.cM oj.dst (eh gD) (v:=undef) rfl) (Ay fw hP (cB.fin st oj.dst (eh gD) hI.jc undef)) h1
      ·rw[hn]at hq;simp only[cond_false]at hq;unfold kE;simp only[gY];refine p_ (G:=if Region.wanted oj (yielded ops a.tmps)=true then _ else _) aG hI fK (λhw h1=>?_) (λhw h1=>?_)
       ·rw[if_pos hw];refine nv (λa' w' Mr=>?_) (kh (Q:=QN _) gD hI h1);obtain⟨bT,u',θ',dK,kr,_,_,hW⟩:=Mr;exact ih q f _ [] bT u' a' w' θ' (by simpa using fH) Ko (by simp) (iA.set hi) hq dK (Ay fw hP kr) hW
       ·rw[if_neg (by simp[hw])];exact ih q f _ [] _ u _ wa θ (by simpa using fH) Ko (by simp) (iA.set hi) hq (hI.cM oj.dst (eh gD) (v:=undef) rfl) (Ay fw hP (cB.fin st oj.dst (eh gD) hI.jc undef)) h1
theorem Pk{ws:List Nat}{id:Nat}{ops:Array Oper}{Q:Exit->St->UW->Prop}{p:iF}(hm:E.P.follows .mixedOrders=true)(aG:∀o∈ops.toList,br C.n o=true)(Fo:∀o∈ops.toList,∀t,o.dst=some t->t∈ws)
  (hp:oB ops=some p) (hI:Inv C a wa st u θ) (h:Wq E fz ops (Q .normal) p st u):(Code.region id ops true).wpIn (Fw C.ro) 0 E.P (QW C fz ws st Q) a wa:=by
 unfold oB at hp;cases hs:Region.noSelect ops with
 |false=>simp[hs]at hp
 |true=>
  simp only[hs,cond_true]at hp;have dK:=hI.drew;have Ms:pe (replicate ops.size false)<=ops.size:=by
   unfold pe;exact le_trans (List.length_filter_le _ _) (by simp)
  have key:=Gc _ _ _ _ (TG (E:=E) (fz:=fz) (Q:=Q) (nB:=st) aG Fo hs _ p ops.size _ [] st u a _ θ (by simp) Ms (by simp) (Cl.none ops _) hp dK (cB.refl _ _ _ _) h);have hdf:∀(j:Nat) (o:Oper) c,ops[j]?=some o->o.op≠ .defer c:=by
   intro j o c ho;have hj:ops.toList[j]?=some o:=by simpa using ho
   exact ow (aG o (mem_of_getElem? hj)) c
  refine wpIn_mono (wpIn_region_any hm (sT C.ro hdf _ _ _ _ key)) λe a' w' hq=>?_;cases e with
  |normal=>exact hq
  |_=>exact hq.elim
theorem Pl{ws:List Nat}{id:Nat}{ops:Array Oper}{Q:Exit->St->UW->Prop}{p:jg}(hm:E.P.follows .mixedOrders=true)(aG:∀o∈ops.toList,br C.n o=true)(Fo:∀o∈ops.toList,∀t,o.dst=some t->t∈ws)
  (hp:tw ops=some p) (hI:Inv C a wa st u θ) (h:Wd E fz ops u (Q .normal) p st u):(Code.region id ops true).wpIn (Fw C.ro) 0 E.P (QW C fz ws st Q) a wa:=by
 unfold tw at hp;cases hs:Region.noSelect ops with
 |false=>simp[hs]at hp
 |true=>
  simp only[hs,cond_true]at hp;have dK:=hI.drew;have key:=TH (E:=E) (u0:=u) (fz:=fz) (Q:=Q) (nB:=st) (zB:=st) (θ0:=θ) aG Fo hs hI.gN ops.size p _ st u a _ θ (Cl.none ops _) hp dK (cB.refl _ _ _ _) (.inl ⟨Below.refl _ _,⟨rfl,λ_ _ _=>rfl,λ_ _ _ _ _=>rfl⟩⟩) h;have hdf:∀(j:Nat) (o:Oper) c,ops[j]?=some o->o.op≠ .defer c:=by
   intro j o c ho;have hj:ops.toList[j]?=some o:=by simpa using ho
   exact ow (aG o (mem_of_getElem? hj)) c
  refine wpIn_mono (wpIn_region_any hm (sT C.ro hdf _ _ _ _ key)) λe a' w' hq=>?_;cases e with
  |normal=>exact hq
  |_=>exact hq.elim
end
section
variable {E:Env} {C:Ctx}
theorem DI{w w1:World}(hs:xT w w1){b:Nat}{c:Array Value}{T:TypeId}(h:w.heap[b]?=some (.cells c T (0,0)))(hc:c.size≠0):w1.heap[b]?=some (.cells c T (0,0)):=by
 rcases hs.block b (Array.getElem?_eq_some_iff.1 h).1 with e|e
 ·rw[<- e,h]
 ·rw[h]at e;simp only[cT,Option.some.injEq,Obj.cells.injEq]at e;rw[e.1]at hc;exact absurd rfl hc
theorem Pm{fz:List Nat}{o:Oper}{st:St}{u:UW}{a:Act}{wa:World}{θ:Nat->Nat}{K:St->UW->Prop}{Q:Exit->Act->World->Prop}(aG:br C.n o=true)(hI:Inv C a wa st u θ)(h:WJ E fz o st u K):sM E C fz o st θ K Q a wa:=by
 unfold WJ at h;split at h
 ·rename_i t x y t' ho;cases hb:vR (ev st.σ x) (ev st.σ y)with
  |false=>rw[hb]at h;exact kh aG hI h
  |true=>
   rw[hb]at h;simp only[cond_true]at h;have hx:cY C.n x=true:=lp aG (by simp[ho,Op.operands]);have hy:cY C.n y=true:=lp aG (by simp[ho,Op.operands]);unfold JT at h;split at h
   ·rename_i b o1 b' o2 ex ey;split at h
    ·rename_i e hu;obtain⟨fH,h⟩:=aq h;obtain⟨⟨c,T,h1,GF⟩,⟨c',T',h2,ME⟩,h⟩:=h;have g1:=DI hI.below h1 GF;have g2:=DI hI.below h2 ME;have ahA:=bd hI hx ex rfl;have ahz:=bd hI hy ey rfl;unfold sized at fH;cases hi:E.P.info? e with
     |none=>rw[hi]at fH;cases fH
     |some i=>
      rw[hi]at fH;have Oy:i.size≠0:=by
       intro e0;simp only[e0]at fH;cases fH
      refine bc (r:=.bool (beq b b'&&beq o1 o2)) (wb:=wa) ?_ (aS aG hI rfl h);simp only[execOp,ho];rw[ahA,ahz,run_bind];have jd:(do eqGuard .eql t x y (.pointer (some ⟨b,o1,none⟩)) (.pointer (some ⟨b',o2,none⟩));binOp .eql t (.pointer (some ⟨b,o1,none⟩)) (.pointer (some ⟨b',o2,none⟩)):Sem Value).run E.P wa=.ok (.bool (beq b b'&&beq o1 o2)) wa:=by
       rw[run_bind,Ik x y wa (by simp) (by simp),andThen_ok];by_cases aZ:(⟨b,o1,none⟩:Addr)=⟨b',o2,none⟩
       ·simp only[Addr.mk.injEq,and_true]at aZ;obtain⟨rfl,rfl⟩:=aZ;rw[run_eql_ptr_same wa _ hu hi,Nat.beq_refl,Nat.beq_refl];rfl
       ·rw[run_eql_ptr_other wa hu hi Oy aZ g1 g2];have:(beq b b'&&beq o1 o2)=false:=by
         cases hq:(beq b b'&&beq o1 o2)with
         |false=>rfl
         |true=>
          simp only[and_eq_true,beq_iff]at hq;exact absurd (by rw[hq.1,hq.2]) aZ
        rw[this]
      rw[jd];rfl
    ·exact h.elim
   ·exact h.elim
 ·exact kh aG hI h
theorem BM{fz ws:List Nat}{ops:Array Oper}{Q:Exit->St->UW->Prop}{nB:St}(aG:∀o∈ops.toList,br C.n o=true)(Fo:∀o∈ops.toList,∀t,o.dst=some t->t∈ws):
  ∀(l:List Oper) (i:Nat),ops.toList.drop i=l->∀(st:St) (u:UW) (a:Act) (wa:World) (θ:Nat->Nat),Inv C a wa st u θ->cB C.n fz ws nB st->Wl E fz ops (Q .normal) l st u->
   wpOpsIn (Fw C.ro) 0 E.P ops (QW C fz ws nB Q) (range' i l.length) a wa
 |[],i,_,st,u,a,wa,θ,hI,hP,h=>⟨st,u,θ,hI,hP,h⟩
 |o::l,i,hd,st,u,a,wa,θ,hI,hP,h=>by
  have hi:ops.toList[i]?=some o:=by
   have:=congrArg (·[0]?) hd;simpa using this
  have fw:o∈ops.toList:=mem_of_getElem? hi;have hoi:ops[i]?=some o:=by simpa using hi
  have PL:ops.toList.drop (i+1)=l:=by
   have:=congrArg (List.drop 1) hd;simpa[List.drop_drop,Nat.add_comm]using this
  have gD:=aG o fw;have jw:∀{s s':St},cB C.n fz ws nB s->cB C.n fz o.dst.toList s s'->cB C.n fz ws nB s':=by
   intro s s' h1 h2;have:=h1.trans h2;refine this.mono (λ_ h=>h) λx hx=>?_;rw[mem_append]at hx;rcases hx with hx|hx
   ·exact hx
   ·cases tN:o.dst with
    |none=>simp[tN]at hx
    |some d=>simp only[tN,Option.toList,mem_singleton]at hx;exact Fo o fw x (by rw[tN,hx])
  have go:∀{s:St},Inv C a wa s u θ->cB C.n fz ws nB s->(W1 E fz o s u (λbT w'=>Wl E fz ops (Q .normal) l bT w')\/WJ E fz o s u (λbT w'=>Wl E fz ops (Q .normal) l bT w'))->o.wpIn (Fw C.ro) 0 E.P a wa (wpOpsIn (Fw C.ro) 0 E.P ops (QW C fz ws nB Q) (range' (i+1) l.length)) (QW C fz ws nB Q):=by
   intro s hIs ZR h1;have:=h1.elim (kh (Q:=QW C fz ws nB Q) gD hIs) (Pm (Q:=QW C fz ws nB Q) gD hIs);refine uG C.ro (ow gD) (nv (λa' w' hp=>?_) this);obtain⟨bT,u',θ',dK,kr,_,_,hW⟩:=hp;exact BM aG Fo l (i+1) PL bT u' a' w' θ' dK (jw ZR kr) hW
  have skip:∀{s:St},Inv C a wa s u θ->cB C.n fz ws nB s->Wl E fz ops (Q .normal) l (fin o s undef) u->(∀f,o.about E.P wa a.eval=some f->(Fw C.ro).fn f)/\wpOpsIn (Fw C.ro) 0 E.P ops (QW C fz ws nB Q) (range' (i+1) l.length) (a.put o.dst undef) wa:=by
   intro s hIs ZR h1;exact⟨λ_ _=>trivial,BM aG Fo l (i+1) PL _ u _ wa θ (hIs.cM o.dst (eh gD) rfl) (jw ZR (cB.fin s o.dst (eh gD) hI.jc undef)) h1⟩
  simp only[length_cons,List.range'_succ,wpOpsIn,hoi];simp only[Wl]at h;cases hg:o.guard with
  |none=>
   simp only[hg]at h;have hw:Region.wanted o (yielded ops a.tmps)=true:=by simp[Region.wanted,hg]
   rw[if_pos hw];exact go hI hP (.inr h)
  |some jb=>
   obtain⟨j,b⟩:=jb;simp only[hg]at h;cases xu:pn ops j with
   |none=>simp only[xu]at h
   |some g=>
    simp only[xu]at h;have hgn:g<C.n:=by
     unfold pn at xu;cases hj:ops[j]? with
     |none=>simp[hj]at xu
     |some oj=>
      simp only[hj,Option.bind_some]at xu
      exact eh (aG oj (by have:ops.toList[j]?=some oj:=by simpa using hj
                          exact mem_of_getElem? this)) g xu
    have Ou:yielded ops a.tmps j=match a.tmps.getD g undef with| .bool x=>some x|_=>none:=by
     unfold yielded;unfold pn at xu;rw[xu,Option.bind_some,getD_some hI.size hgn];cases a.tmps.getD g undef<;>rfl
    have vp:=hI.iN g hgn;split at h
    ·rename_i c hc;rw[hc,iX rfl]at vp;rw[vp]at Ou;have hw:Region.wanted o (yielded ops a.tmps)=(c == b):=by
      simp only[Region.wanted,hg,Ou];cases c<;>cases b<;>rfl
     rw[hw];cases c with
     |true=>
      simp only[ab]at h;rw[uI hc]at h;cases b with
      |true=>simp only at h;exact go hI hP (.inl h)
      |false=>simp only at h;exact skip hI hP h
     |false=>
      simp only[ab]at h;rw[uI hc]at h;cases b with
      |true=>simp only at h;exact skip hI hP h
      |false=>simp only at h;exact go hI hP (.inl h)
    ·rename_i vs hc;rw[hc,iX rfl]at vp;rw[vp]at Ou;have hw:Region.wanted o (yielded ops a.tmps)=false:=by simp[Region.wanted,hg,Ou]
     rw[hw];exact skip hI hP h
    ·exact h.elim
def gl(n:Nat):Code->Bool
 | .region _ ops _=>ops.toList.all (br n)
 | .seq a b=>gl n a&&gl n b
 | .cond c a b=>cY n c&&gl n a&&gl n b
 | .block _ a=>gl n a
 | .loop a=>gl n a
 | .rangeFunc f ps a b=>cY n f&&ps.toList.all (λp=>blt p n)&&gl n a&&gl n b
 |_=>true
theorem least{p:Nat->Prop}(h:∃n,p n):∃n,p n/\∀m,p m->n<=m:=by
 obtain⟨n,hn⟩:=h;induction n using Nat.strongRecOn with
 |_ n ih=>
  by_cases h:∃m,m<n/\p m
  ·obtain⟨m,h1,h2⟩:=h;exact ih m h1 h2
  ·exact⟨n,hn,λm hm=>Nat.le_of_not_lt λbG=>h ⟨m,bG,hm⟩⟩
theorem PT{F:Fence}{n0:Nat}{P:Program}{c:Code}{Q:Exit->Act->World->Prop}(I:Nat->Act->World->Prop)
  (round:∀n a w,I n a w->c.wpIn F n0 P (Exit.then (λa' w'=>∃m,m<n/\I m a' w') Q) a w):∀(n:Nat) (a:Act) (w:World),I n a w->(Code.loop c).wpIn F n0 P Q a w:=by
 classical
 intro n a w h0;let μ:Act->World->Nat:=λa w=>if h:∃n,I n a w then Classical.choose (least h)else 0;refine wpIn_loop (λa w=>∃n,I n a w) μ ⟨n,h0⟩ λa w hI=>?_;have hs:=Classical.choose_spec (least hI);have hμ:μ a w=Classical.choose (least hI):=by simp only[μ,dif_pos hI]
 refine wpIn_mono (round _ a w hs.1) λe a' w' hq=>?_;cases e with
 |normal=>
  obtain⟨m,hm,dK⟩:=hq;have hx:∃n,I n a' w':=⟨m,dK⟩;have PB:=Classical.choose_spec (least hx);have hμ':μ a' w'=Classical.choose (least hx):=by simp only[μ,dif_pos hx]
  exact⟨⟨m,dK⟩,by rw[hμ,hμ'];exact Nat.lt_of_le_of_lt (PB.2 m dK) hm⟩
 |_=>exact hq
theorem EP(n:Nat):range' 0 n=List.range n:=(List.range_eq_range').symm
def Sound(E:Env)(c:Code):Prop:=∀(C:Ctx),gl C.n c=true->∀(fz:List Nat) (Q:Exit->St->UW->Prop) (st:St) (u:UW) (a:Act) (wa:World) (θ:Nat->Nat),Inv C a wa st u θ->W E fz c Q st u->
    c.wpIn (Fw C.ro) 0 E.P (QW C fz (writes c) st Q) a wa
theorem Inv.TF{a:Act}{wa:World}{st:St}{u:UW}{θ:Nat->Nat}(hI:Inv C a wa st u θ)(o:Obj)(ho:o.isCells=false):Inv C a (wa.alloc o) st u θ/\Hid u (wa.alloc o) wa.heap.size o:=by
 have hB:Below wa.heap.size wa (wa.alloc o):=(Below.refl _ _).alloc (le_refl _) o;refine⟨hI.world (u':=u) (F:=λ_=>False) (λ_ hf=>hf.elim) (Below.Qc hB (le_refl _) _) ?_ (Mod.refl _ _) (λb h1 _ h3=>by omega) (λb hb=>lt_of_lt_of_le (hI.pC b hb) hB.size) (λ_ hb _=>hb),World.alloc_heap_new wa o,ho,λhp=>?_,λhl=>?_⟩
 ·refine⟨hI.below.os,hI.below.tape,hI.below.output,le_trans hI.below.size hB.size,λb hb=>?_⟩;rw[hB.block b (lt_of_lt_of_le hb hI.below.size)];exact hI.below.block b hb
 ·have:=hI.pC _ hp;omega
 ·have:=hI.below.size;omega
theorem ba{w:World}{l b:Nat}{o:Obj}(h:b≠l):(w.putObj l o).heap[b]?=w.heap[b]?:=World.putObj_heap_other h
theorem Inv.forget{a:Act}{wa:World}{st:St}{u:UW}{θ:Nat->Nat}{l:Nat}{o o1 o2:Obj}(hI:Inv C a wa st u θ)(hl:C.w1.heap.size<=l)(hu:u.heap[l]?=some o)(ho:Kh o=true)(hw:wa.heap[l]?=some o1)(ho1:Kh o1=true):
  Inv C a (wa.putObj l o2) st ⟨u.toWorld.putObj l cT,λb=>u.gj b/\b≠l⟩ θ:=by
 have hlu:l<u.heap.size:=(Array.getElem?_eq_some_iff.1 hu).1;have VE:l<wa.heap.size:=(Array.getElem?_eq_some_iff.1 hw).1;have Jv:=hI.Jv;have cu:∀{b:Nat} {ob:Obj},b≠l->Hid u wa b ob->Hid ⟨u.toWorld.putObj l cT,λb=>u.gj b/\b≠l⟩ (wa.putObj l o2) b ob:=λ{b ob} aZ hh=>
  ⟨(ba aZ).trans hh.at_,hh.other,λhp=>hh.gj hp.1,λbG=>(ba aZ).trans (hh.mask (by simpa using bG))⟩
 refine⟨hI.size,hI.jc,⟨λd hd=>?_,hI.defers.nodup⟩,λl0 r e=>?_,hI.iN,?_,?_,hI.inj,hI.jo,hI.gN,?_,?_,?_,?_,hI.Jv,?_,hI.F0⟩
 ·obtain⟨r,e,hr,hh⟩:=hI.defers.each d hd;refine⟨r,e,hr,cu ?_ hh⟩;rintro rfl;have:=hh.at_;rw[hw]at this;cases this;cases ho1
 ·have hh:=hI.round l0 r e;refine cu ?_ hh;rintro rfl;have:=hh.mask hlu;rw[hu]at this;cases this;cases ho
 ·refine⟨hI.below.os,hI.below.tape,hI.below.output,by simpa using hI.below.size,λb hb=>?_⟩;by_cases e:b=l
  ·subst e;exact .inr (World.putObj_heap_same hlu)
  ·have:=hI.below.block b (by simpa using hb);show(u.toWorld.putObj l cT).heap[b]?=_\/(u.toWorld.putObj l cT).heap[b]?=_;rw[ba e,ba e];exact this
 ·intro k m hk;obtain⟨yB,c,T,h1,h2,h3,h4,h5,h6⟩:=hI.boxes k m hk;have aZ:θ k≠l:=by
   intro e;rw[e,hw]at h1;cases h1;cases ho1
  exact⟨yB,c,T,(ba aZ).trans h1,h2,h3,λhp=>h4 hp.1,h5,λbG=>(ba aZ).trans (h6 (by simpa using bG))⟩
 ·intro b hb;simpa using hI.pC b hb.1
 ·exact⟨hI.mod.os,hI.mod.tape,hI.mod.output,by simpa using hI.mod.size,λb hb hF=>(ba (by omega)).trans (hI.mod.cu b hb hF)⟩
 ·exact λb hb bG=>hI.qp b hb.1 bG
 ·exact⟨hI.umod.os,hI.umod.tape,hI.umod.output,by simpa using hI.umod.size,λb hb hF=>(ba (by omega)).trans (hI.umod.cu b hb hF)⟩
 ·intro b h1 h2 h3;exact(ba (by omega)).trans (hI.Bj b h1 h2 (by simpa using h3))
theorem Inv.agb{a:Act}{wa:World}{st:St}{u:UW}{θ:Nat->Nat}{l:Nat}{r:Loop}(hI:Inv C a wa st u θ)(Xn:C.ro=some (l,r))(r':Loop):
  Inv {C with w1:=C.w1.putObj l (.loop r'),ro:=some (l,r')} a (wa.putObj l (.loop r')) st u θ:=by
 have hl:=hI.round l r Xn;have VE:l<wa.heap.size:=(Array.getElem?_eq_some_iff.1 hl.at_).1;have cu:∀{b:Nat} {ob:Obj},b≠l->Hid u wa b ob->Hid u (wa.putObj l (.loop r')) b ob:=λ{b ob} aZ hh=>⟨(ba aZ).trans hh.at_,hh.other,hh.gj,hh.mask⟩;refine⟨hI.size,hI.jc,⟨λd hd=>?_,hI.defers.nodup⟩,λl0 r0 e=>?_,hI.iN,?_,?_,hI.inj,hI.jo,hI.gN,?_,?_,?_,hI.umod,by simpa using hI.Jv,?_,hI.F0⟩
 ·obtain⟨r0,e,hr,hh⟩:=hI.defers.each d hd;refine⟨r0,e,by simpa using hr,cu ?_ hh⟩;rintro rfl;have:=hh.at_;rw[hl.at_]at this;cases this
 ·simp only[Option.some.injEq,Prod.mk.injEq]at e;obtain⟨rfl,rfl⟩:=e;exact⟨World.putObj_heap_same VE,rfl,hl.gj,hl.mask⟩
 ·refine⟨hI.below.os,hI.below.tape,hI.below.output,by simpa using hI.below.size,λb hb=>?_⟩;by_cases e:b=l
  ·subst e;exact .inr (hl.mask hb)
  ·rw[ba e];exact hI.below.block b hb
 ·intro k m hk;obtain⟨yB,c,T,h1,h2,h3,h4,h5,h6⟩:=hI.boxes k m hk;have aZ:θ k≠l:=by
   intro e;rw[e,hl.at_]at h1;cases h1
  exact⟨yB,c,T,(ba aZ).trans h1,h2,h3,h4,by simpa using h5,h6⟩
 ·intro b hb;simpa using hI.pC b hb
 ·refine⟨hI.mod.os,hI.mod.tape,hI.mod.output,by simpa using hI.mod.size,λb hb hF=>?_⟩;by_cases e:b=l
  ·subst e;show(wa.putObj b (.loop r')).heap[b]?=(C.w1.putObj b (.loop r')).heap[b]?;rw[World.putObj_heap_same VE,World.putObj_heap_same (by simpa using hb)]
  ·show(wa.putObj l (.loop r')).heap[b]?=(C.w1.putObj l (.loop r')).heap[b]?;rw[ba e,ba e];exact hI.mod.cu b (by simpa using hb) hF
 ·exact λb hb bG=>hI.qp b hb (by simpa using bG)
 ·intro b h1 h2 h3;exact hI.Bj b h1 (by simpa using h2) h3
def yx(r:Loop)(p:Option Code):Obj:=.loop {r with state:=if p.isNone then .ready else .done,pending:=p}
theorem Bu{P:Program}:∀{ts:List TypeId} {F:List Value->Prop},KK P ts F->∃vs,vs.length=ts.length/\(∀v∈vs,plain v=true)/\F vs
 |[],_,h=>⟨[],rfl,by simp,h⟩
 |t::ts,F,h=>by
  obtain⟨v,hp,h⟩:=Bv h
  obtain⟨vs,hl,vu,h⟩:=Bu h;exact⟨v::vs,by simp[hl],by simpa using⟨hp,vu⟩,h⟩
theorem Yw{θ θ':Nat->Nat}{σ:Fr}{t:Nat}{r:Value}(h:R θ (σ t) r):R θ' (y_ σ t) r:=by
 unfold y_;split
 ·trivial
 ·rename_i v hv;have hp:plain (σ t)=true:=by
   cases hx:σ t<;>first|rfl|(exact absurd hx (hv _ _ _))
  rw[iX hp]at h |-;exact h
theorem NO{σ:Fr}{t k o:Nat}:y_ σ t≠dM k o:=by
 unfold y_;split
 ·intro h;cases h
 ·rename_i v hv;intro h;exact hv _ _ _ h
theorem yr{θ:Nat->Nat}{n:Nat}:∀(ps:List Nat) (vs:List Value) (σ:Fr) (tm:Array Value),ps.length=vs.length->tm.size=n->(∀p∈ps,p<n)->(∀v∈vs,plain v=true)->(∀t,t<n->R θ (σ t) (tm.getD t undef))->(∀t k o,σ t≠dM k o)->
  ((ps.zip vs).foldl (λt (x:Nat×Value)=>t.setIfInBounds x.1 x.2) tm).size=n/\(∀t,t<n->R θ (uP σ ps vs t) (((ps.zip vs).foldl (λt (x:Nat×Value)=>t.setIfInBounds x.1 x.2) tm).getD t undef))/\∀t k o,uP σ ps vs t≠dM k o
 |[],[],σ,tm,_,hs,_,_,h,hf=>⟨hs,h,hf⟩
 |p::ps,v::vs,σ,tm,hl,hs,vu,Fp,h,hf=>by
  have hp:p<tm.size:=by rw[hs];exact vu p (by simp)
  have pJ:=Fp v (by simp);simp only[List.zip_cons_cons,List.foldl_cons,uP];refine yr ps vs (i_ σ p v) (tm.setIfInBounds p v) (by simpa using hl) (by simpa using hs) (λq hq=>vu q (by simp[hq])) (λw hw=>Fp w (by simp[hw])) (λt ht=>?_) (λt k o e=>?_)
  ·rw[vC _ _ _ _ hp];by_cases e:t=p
   ·subst e;rw[if_pos rfl,eY];exact oT pJ
   ·rw[if_neg e,cf _ _ e];exact h t ht
  ·by_cases e':t=p
   ·subst e';rw[eY]at e;exact jS pJ k o e
   ·rw[cf _ _ e']at e;exact hf t k o e
 |[],_::_,_,_,hl,_,_,_,_,_=>by simp at hl
 |_::_,[],_,_,hl,_,_,_,_,_=>by simp at hl
theorem OJ(ps:Array Nat)(vs:List Value)(tm:Array Value):
  (ps.zip vs.toArray).foldl (λt (p,v)=>t.setIfInBounds p v) tm=(ps.toList.zip vs).foldl (λt (x:Nat×Value)=>t.setIfInBounds x.1 x.2) tm:=by
 rw[<- Array.foldl_toList,Array.toList_zip]
theorem GJ{E:Env}{n:Nat}{x y:Code}{ps:Array Nat}{ts:List TypeId}{σ:Fr}{θ:Nat->Nat}{l:Nat}{r:Loop}(HO:Sound E x)(HN:Sound E y)(okx:gl n x=true)(oky:gl n y=true)
  (hn:n<=65536) (vu:∀p∈ps.toList,p<n) (zc:ts.length=ps.toList.length) (fH:r.tmps.size=n) (Zg:∀t,t<n->R θ (σ t) (r.tmps.getD t undef)) (hrp:r.params=ps) (hrx:r.assign=x) (hry:r.body=y)
  (vs:List Value) (w1:World) (F:Nat->Prop) (RR:Option Code->UW->Prop) (hl:w1.heap[l]?=some (yx r none)) (hF:∀b,F b->b<w1.heap.size/\b≠l)
  (h:KK E.P ts λo_=>vs=o_/\W E [] x (Ra λeQ u1=>W E [] y (JN RR) eQ u1) ⟨uP (y_ σ) ps.toList o_,[]⟩ ⟨w1.putObj l cT,F⟩):
  Lh E.P (.func (.yield l) #[] #[]) vs w1 (λb=>F b\/b=l) λv lo w2=>∃p gj w3,v=.bool p.isNone/\w2=w3.putObj l (yx r p)/\w3.heap[l]?=some cT/\(∀b,gj b->F b\/lo<=b)/\RR p ⟨w3,gj⟩:=by
 intro Yf pf;obtain⟨o_,hlen,pJ,rfl,hW⟩:=Bu h;have VE:l<w1.heap.size:=(Array.getElem?_eq_some_iff.1 hl).1;have zH:Yf.heap[l]?=some (yx r none):=by
  rcases pf.block l VE with e|e
  ·rw[<- e];exact hl
  ·rw[hl]at e;cases e
 refine⟨rfl,rfl,{r with state:=.ready,pending:=none},zH,by simp only[hrp];rw[hlen,zc];simp,roundIn_of_wpIn (F:=Fence.wide) trivial ?_⟩;simp only[hrp,hrx,hry];rw[OJ];obtain⟨z1,z2,z3⟩:=yr (θ:=λ_=>0) ps.toList vs (y_ σ) r.tmps (by omega) fH vu pJ (λt ht=>Yw (Zg t ht)) (λt k o=>NO);have lu:Inv ⟨n,w1.putObj l cT,Yf,F,some (l,{r with state:=.ready,pending:=none})⟩ {tmps:=(ps.toList.zip vs).foldl (λt (x:Nat×Value)=>t.setIfInBounds x.1 x.2) r.tmps,defers:=[]} Yf ⟨uP (y_ σ) ps.toList vs,[]⟩ ⟨w1.putObj l cT,F⟩ (λ_=>0):=by
  refine⟨z1,hn,⟨by simp,List.nodup_nil⟩,λl0 r0 e=>?_,z2,?_,by simp,by simp,λt _ k o e=>absurd e (z3 t k o),by simp,λb hb=>lt_of_lt_of_le (hF b hb).1 pf.size,Mod.refl _ _,λb hb _=>hb,Mod.refl _ _,by simpa using pf.size,λb h1 _ h3=>absurd h3 (not_lt.2 h1),λb hb=>by simpa using(hF b hb).1⟩
  ·simp only[Option.some.injEq,Prod.mk.injEq]at e;obtain⟨rfl,rfl⟩:=e;exact⟨zH,rfl,λhp=>(hF _ hp).2 rfl,λ_=>World.putObj_heap_same VE⟩
  ·refine⟨pf.os,pf.tape,pf.output,by simpa using pf.size,λb hb=>?_⟩;by_cases e:b=l
   ·subst e;exact .inr (World.putObj_heap_same VE)
   ·show(w1.putObj l cT).heap[b]?=_\/(w1.putObj l cT).heap[b]?=_;rw[ba e];exact pf.block b (by simpa using hb)
 refine wpIn_mono (HO ⟨n,w1.putObj l cT,Yf,F,some (l,{r with state:=.ready,pending:=none})⟩ okx [] _ _ _ _ _ _ lu hW) λe a2 wa2 hq=>?_;obtain⟨Uy,u2,θ2,yG,_,hq⟩:=hq;cases e with
 |normal=>
  refine⟨_,run_beginRound (yG.round l _ rfl).at_ rfl,?_⟩;have Sq:=yG.agb rfl {r with state:=.busy,pending:=none};refine wpIn_mono (HN _ oky [] _ _ _ _ _ _ Sq hq) λe a3 wa3 hq=>?_;obtain⟨st3,u3,θ3,Cf,_,hq⟩:=hq;have hh:=Cf.round l _ rfl;have ahk:l<wa3.heap.size:=(Array.getElem?_eq_some_iff.1 hh.at_).1;have Ov:w1.heap.size<=u3.heap.size:=by simpa using Cf.umod.size
  have done:∀(p:Option Code),RR p u3->∃v w',(Instr.endRound l p).run E.P wa3=.ok v w'/\∃v' w'',Ending.returned v=.returned v'/\Out (λb=>F b\/b=l) w1 Yf w'' w'/\∃p' gj w3,v'=.bool p'.isNone/\w''=w3.putObj l (yx r p')/\w3.heap[l]?=some cT/\(∀b,gj b->F b\/Yf.heap.size<=b)/\RR p' ⟨w3,gj⟩:=by
   intro p hR;refine⟨_,_,run_endRound p hh.at_,_,u3.toWorld.putObj l (yx r p),rfl,⟨?_,?_,?_,?_⟩,p,u3.gj,u3.toWorld,rfl,rfl,hh.mask (by omega),λb hb=>?_,hR⟩
   ·refine⟨Cf.mod.os,Cf.mod.tape,Cf.mod.output,by simpa using Cf.mod.size,λb hb hnF=>?_⟩;have aZ:b≠l:=λe=>hnF (.inr e);rw[ba aZ,Cf.mod.cu b (by simpa using hb) (λhf=>hnF (.inl hf))];exact ba aZ
   ·refine⟨Cf.below.os,Cf.below.tape,Cf.below.output,by simpa using Cf.below.size,λb hb=>?_⟩;by_cases e:b=l
    ·subst e;left;rw[World.putObj_heap_same (by simpa using hb),World.putObj_heap_same ahk];rfl
    ·rw[ba e,ba e];exact Cf.below.block b (by simpa using hb)
   ·refine⟨Cf.umod.os,Cf.umod.tape,Cf.umod.output,by simpa using Ov,λb hb hnF=>?_⟩;have aZ:b≠l:=λe=>hnF (.inr e);rw[ba aZ,Cf.umod.cu b (by simpa using hb) (λhf=>hnF (.inl hf))];exact ba aZ
   ·intro b h1 h2 h3;rw[ba (by omega)];exact Cf.Bj b (by simpa using h1) (by simpa using h2) (by simpa using h3)
   ·by_cases bG:b<Yf.heap.size
    ·exact .inl (Cf.qp b hb (by simpa using bG))
    ·exact .inr (by omega)
  cases e with
  |normal=>exact done none hq
  |ret=>exact done (some .ret) hq
  |exit i=>exact done (some (.exit i)) hq
  |goto i=>exact hq.elim
  |panic c=>exact hq.elim
  |outgrown=>exact hq.elim
 |exit i=>exact hq.elim
 |goto i=>exact hq.elim
 |ret=>exact hq.elim
 |panic c=>exact hq.elim
 |outgrown=>exact hq.elim
theorem AR{Q:Nat->Prop}{i:Nat}:∀{l:List Nat},HI (l.map λj=>(j,Q j)) i->Q i
 |[],h=>h.elim
 |j::l,h=>by
  simp only[map_cons,HI,cond_eq_ite,beq_iff]at h
  split at h
  ·rename_i e;subst e;exact h
  ·exact AR h
theorem Hp{E:Env}{f:Operand}{ps:Array Nat}{x y:Code}(HO:Sound E x)(HN:Sound E y):Sound E (.rangeFunc f ps x y):=by
 intro C ee fz Q st u a wa θ hI h;simp only[gl,and_eq_true,all_eq_true]at ee;obtain⟨⟨⟨hof,vu⟩,hox⟩,hoy⟩:=ee;simp only[W]at h;cases zc:look E.rR (ps.toList.headD 0)with
 |none=>simp only[zc]at h
 |some ts=>
  simp only[zc]at h;obtain⟨hlen,⟨g,fa,fb,hfv⟩,h⟩:=aq h;have hlen:=beq_iff.1 hlen;have ZJ:a.eval f=.func (.func g) fa fb:=bd hI hof hfv rfl;refine wpIn_rangeFunc λfn _=>?_;obtain⟨D,l,mark,pre,adK,hle,hIp⟩:∃(D l:Nat) (mark:List Deferred) (pre:World),(Instr.enterLoop fn a.tmps ps x y (Fw C.ro).round).run E.P wa=.ok (l,mark) (pre.alloc (.loop {state:=.ready,pending:=none,fn,tmps:=a.tmps,params:=ps,assign:=x,body:=y,defers:=D}))/\
    l=pre.heap.size/\Inv C {a with defers:=mark++a.defers} pre st u θ:=by
   cases Xn:C.ro with
   |none=>
    obtain⟨lu,hh⟩:=hI.TF (.deferred (some [])) rfl;refine⟨wa.heap.size,wa.heap.size+1,_,wa.alloc (.deferred (some [])),run_enterLoop_outer fn a.tmps ps x y,by simp,⟨lu.size,lu.jc,⟨λd hd=>?_,?_⟩,lu.round,lu.iN,lu.below,lu.boxes,lu.inj,lu.jo,lu.gN,lu.pC,lu.mod,lu.qp,lu.umod,lu.Jv,lu.Bj,lu.F0⟩⟩
    ·simp only[List.cons_append,List.nil_append,mem_cons]at hd;rcases hd with rfl|hd
     ·exact⟨wa.heap.size,rfl,hI.mod.size,hh⟩
     ·exact lu.defers.each d hd
    ·simp only[List.cons_append,List.nil_append];refine nodup_cons.2 ⟨λhd=>?_,lu.defers.nodup⟩;obtain⟨r,e,_,hr⟩:=hI.defers.each _ hd;simp only[Deferred.mk.injEq,Target.collected.injEq]at e;have:=(Array.getElem?_eq_some_iff.1 hr.at_).1;omega
   |some lr=>
    obtain⟨l0,r0⟩:=lr;exact⟨r0.defers,wa.heap.size,[],wa,run_enterLoop_inner (hI.round l0 r0 Xn).at_ fn a.tmps ps x y,rfl,hI⟩
  subst hle;obtain⟨r,hr⟩:∃r:Loop,r={state:=.ready,pending:=none,fn,tmps:=a.tmps,params:=ps,assign:=x,body:=y,defers:=D}:=⟨_,rfl⟩;rw[<- hr]at adK;obtain⟨w',adS,yG⟩:=hIp.born (.loop r);have hrn:yx r none=.loop r:=by rw[hr];rfl
  have dr:=h pre.heap.size (yx r) w' (λp=>rfl) (by rw[hrn];exact adS) (λvs w1 F RR hl hF hb=>
   GJ (θ:=θ) HO HN hox hoy hI.jc (λp hp=>iW.1 (vu p hp)) hlen (by rw[hr];exact hI.size) (by rw[hr];exact hI.iN) (by rw[hr]) (by rw[hr]) (by rw[hr]) vs w1 F RR hl hF hb)
  obtain⟨F,hF,dr⟩:=jH.1 dr;have hc:=dr _ yG.below;rw[hfv]at hc;obtain⟨iA,hc⟩:=hc;refine⟨pre.heap.size,mark,pre.alloc (.loop r),{target:=.fn (.func g) fb,args:=fa++ #[.func (.yield pre.heap.size) #[] #[]]},pre.alloc (.loop r),g,fa++ #[.func (.yield pre.heap.size) #[] #[]]++fb,pre.alloc (.loop r),adK,?_,λ_ _=>trivial,?_,λh=>(by cases h),?_⟩
  ·simp[resolve,ZJ,Deferred.ofValue];rfl
  ·simp only[invoke];exact oo iA
  ·have XE:(fa++ #[Value.func (.yield pre.heap.size) #[] #[]]++fb)=(fa.toList++[Value.func (.yield pre.heap.size) #[] #[]]++fb.toList).toArray:=by
    apply toList_inj.1;simp
   rw[XE];refine callsIn_wide.2 (hc.mono λe wr hp=>?_);obtain⟨v,w2,rfl,fL,p,Vz,hK⟩:=hp;have Sq:=yG.ret hF fL;have Cd:wr.heap[pre.heap.size]?=some (yx r p):=by
    rcases Sq.below.block _ (Array.getElem?_eq_some_iff.1 Vz).1 with e|e
    ·rw[<- e];exact Vz
    ·rw[Vz]at e;cases e
   refine⟨p,_,run_endLoop Cd (by cases p<;>simp),?_⟩;have Cf:=Sq.forget (o2:=.loop {r with state:=.exhausted,pending:=p}) hIp.mod.size Vz rfl Cd rfl;have hP:cB C.n fz (writes (.rangeFunc f ps x y)) st st:=cB.refl _ _ _ _;unfold PK at hK;split at hK
   ·exact⟨st,_,θ,Cf,hP,hK⟩
   ·refine wpIn_ret ⟨st,_,θ,Cf,hP,?_⟩;exact(aq hK).2
   ·refine wpIn_exit ⟨st,_,θ,Cf,hP,?_⟩;exact AR (Q:=λi=>Q (.exit i) st _) hK
   ·exact hK.elim
theorem WI(c:Code):Sound E c:=by
 induction c with
 |skip=>intro C ee fz Q st u a wa θ hI h;exact wpIn_skip ⟨st,u,θ,hI,cB.refl _ _ _ _,h⟩
 |ret=>intro C ee fz Q st u a wa θ hI h;exact wpIn_ret ⟨st,u,θ,hI,cB.refl _ _ _ _,h⟩
 |exit i=>intro C ee fz Q st u a wa θ hI h;exact wpIn_exit ⟨st,u,θ,hI,cB.refl _ _ _ _,h⟩
 |region id ops draw=>
  intro C ee fz Q st u a wa θ hI h;simp only[gl,all_eq_true]at ee;cases draw with
  |true=>
   simp only[W]at h;obtain⟨hm,h⟩:=aq h;cases hiq:isQ E.fj id with
   |true=>
    rw[hiq]at h;simp only[cond_true]at h;cases hp:oB ops with
    |none=>simp only[hp]at h
    |some p=>
     simp only[hp]at h;exact Pk hm ee (λo ho t ht=>by simp only[writes,mem_filterMap];exact⟨o,ho,ht⟩) hp hI h
   |false=>
   rw[hiq]at h;simp only[cond_false]at h;cases hp:tw ops with
   |none=>simp only[hp]at h
   |some p=>
    simp only[hp]at h;exact Pl hm ee (λo ho t ht=>by simp only[writes,mem_filterMap];exact⟨o,ho,ht⟩) hp hI h
  |false=>
   simp only[W]at h;refine wpIn_region ?_;have:=BM (E:=E) (Q:=Q) (nB:=st) (ws:=writes (.region id ops false)) ee (λo ho t ht=>by simp only[writes,mem_filterMap];exact⟨o,ho,ht⟩) ops.toList 0 rfl st u a wa θ hI (cB.refl _ _ _ _) h;rw[Array.length_toList,EP]at this;exact this
 |seq x y HO HN=>
  intro C ee fz Q st u a wa θ hI h;simp only[gl,and_eq_true]at ee;simp only[W]at h;refine wpIn_seq ?_;split at h
  ·refine wpIn_mono (HO C ee.1 fz _ st u a wa θ hI h) λe a' GL hq=>?_;obtain⟨bT,u',θ',dK,kr,hq⟩:=hq;cases e with
   |normal=>
    refine wpIn_mono (HN C ee.2 fz Q bT u' a' GL θ' dK hq) λe a'' ab8 hq=>?_;obtain⟨Yq,Uk,θ'',ZT,KD,hq⟩:=hq;exact⟨Yq,Uk,θ'',ZT,kr.trans KD,hq⟩
   |exit i=>exact⟨bT,u',θ',dK,kr.mono (λ_ h=>h) (λ_ h=>mem_append_left _ h),hq⟩
   |goto i=>exact⟨bT,u',θ',dK,kr.mono (λ_ h=>h) (λ_ h=>mem_append_left _ h),hq⟩
   |ret=>exact⟨bT,u',θ',dK,kr.mono (λ_ h=>h) (λ_ h=>mem_append_left _ h),hq⟩
   |panic i=>exact⟨bT,u',θ',dK,kr.mono (λ_ h=>h) (λ_ h=>mem_append_left _ h),hq⟩
   |outgrown=>exact⟨bT,u',θ',dK,kr.mono (λ_ h=>h) (λ_ h=>mem_append_left _ h),hq⟩
  ·rename_i cut _;obtain⟨hl,J,hA,hB⟩:=aq h;have Cn:∀{s:St},cB C.n (freeze fz st.D cut) (writes x) st s->cB C.n fz (writes x++writes y) st s:=λhp=>
    hp.mono (λz hz=>mem_append_left _ hz) (λz hz=>mem_append_left _ hz)
   refine wpIn_mono (HO C ee.1 (freeze fz st.D cut) _ st u a wa θ hI hA) λe a' GL hq=>?_;obtain⟨bT,u',θ',dK,kr,hq⟩:=hq;cases e with
   |normal=>
    simp only[ss,Um]at hq;obtain⟨hs,hq⟩:=aq hq;cases VM:fZ bT cut.live with
    |none=>simp only[VM]at hq
    |some s=>
     simp only[VM]at hq;obtain⟨hIm,hPm⟩:=Ka hI dK kr hl hs VM;refine wpIn_mono (HN C ee.2 fz Q _ u' a' GL θ' hIm (hB s u' hq)) λe a'' ab8 hq=>?_;obtain⟨Yq,Uk,θ'',ZT,KD,hq⟩:=hq;exact⟨Yq,Uk,θ'',ZT,hPm.trans KD,hq⟩
   |exit i=>exact⟨bT,u',θ',dK,Cn kr,hq⟩
   |goto i=>exact⟨bT,u',θ',dK,Cn kr,hq⟩
   |ret=>exact⟨bT,u',θ',dK,Cn kr,hq⟩
   |panic i=>exact⟨bT,u',θ',dK,Cn kr,hq⟩
   |outgrown=>exact⟨bT,u',θ',dK,Cn kr,hq⟩
 |cond c x y HO HN=>
  intro C ee fz Q st u a wa θ hI h;simp only[gl,and_eq_true]at ee;obtain⟨⟨hc,hx⟩,hy⟩:=ee;simp only[W]at h;split at h
  ·rename_i t ht;refine wpIn_cond (bd hI hc ht rfl) ?_;cases t with
   |true=>
    refine wpIn_mono (HO C hx fz Q st u a wa θ hI h) λe a' GL hq=>?_;obtain⟨bT,u',θ',dK,kr,hq⟩:=hq;exact⟨bT,u',θ',dK,kr.mono (λ_ h=>h) (λ_ h=>mem_append_left _ h),hq⟩
   |false=>
    refine wpIn_mono (HN C hy fz Q st u a wa θ hI h) λe a' GL hq=>?_;obtain⟨bT,u',θ',dK,kr,hq⟩:=hq;exact⟨bT,u',θ',dK,kr.mono (λ_ h=>h) (λ_ h=>List.mem_append_right _ h),hq⟩
  ·exact h.elim
 |block id x ih=>
  intro C ee fz Q st u a wa θ hI h;simp only[W]at h;refine wpIn_block (wpIn_mono (ih C ee fz _ st u a wa θ hI h) λe a' GL hq=>?_);obtain⟨bT,u',θ',dK,kr,hq⟩:=hq;cases e with
  |exit i=>
   simp only[xM,cond_eq_ite,beq_iff]at hq;simp only[Exit.inBlock];split at hq
   ·rename_i e;rw[if_pos e];exact⟨bT,u',θ',dK,kr,hq⟩
   ·rename_i e;rw[if_neg e];exact⟨bT,u',θ',dK,kr,hq⟩
  |normal=>exact⟨bT,u',θ',dK,kr,hq⟩
  |goto i=>exact⟨bT,u',θ',dK,kr,hq⟩
  |ret=>exact⟨bT,u',θ',dK,kr,hq⟩
  |panic i=>exact⟨bT,u',θ',dK,kr,hq⟩
  |outgrown=>exact⟨bT,u',θ',dK,kr,hq⟩
 |loop x ih=>
  intro C ee fz Q st u a wa θ hI h;simp only[W]at h;split at h
  ·exact h.elim
  ·rename_i cut _;obtain⟨hl,h⟩:=aq h;simp only[Um]at h;obtain⟨hs,h⟩:=aq h;cases VM:fZ st cut.live with
   |none=>simp only[VM]at h
   |some s0=>
    simp only[VM]at h;obtain⟨I,⟨n0,hI0⟩,Km⟩:=h;have hP0:cB C.n (freeze fz st.D cut) (writes x) st st:=cB.refl _ _ _ _;obtain⟨hIm,hPm⟩:=Ka hI hI hP0 hl hs VM;refine PT (λn a' GL=>∃s u' θ',Inv C a' GL (mix st (writes x) cut s) u' θ'/\I n s u'/\cB C.n fz (writes x) st (mix st (writes x) cut s)) ?_ n0 a wa ⟨s0,u,θ,hIm,hI0,hPm⟩;intro n a' GL hh;obtain⟨s,u',θ',dK,hIs,ZR⟩:=hh;have hb:=Km n s u' hIs;refine wpIn_mono (ih C ee _ _ _ u' a' GL θ' dK hb) λe a'' ab8 hq=>?_;obtain⟨Uy,u2,θ2,yG,hP2,hq⟩:=hq;have Sn:cB C.n fz (writes x) st Uy:=by
     have:=ZR.trans (hP2.mono (Z_:=fz) (λz hz=>mem_append_left _ hz) (λz hz=>hz));exact this.mono (λ_ h=>h) (λz hz=>by rw[mem_append]at hz;exact hz.elim id id)
    cases e with
    |normal=>
     simp only[ss,Um]at hq;obtain⟨Cc,hq⟩:=aq hq;cases ZG:fZ Uy cut.live with
     |none=>simp only[ZG]at hq
     |some s2=>
      simp only[ZG]at hq;have VN:cB C.n (freeze fz st.D cut) (writes x) st Uy:=by
       have h1:cB C.n (freeze fz st.D cut) (writes x) st (mix st (writes x) cut s):=⟨ZR.slot,ZR.D,λk hk m hm j hj=>?_⟩
       ·have:=h1.trans hP2;exact this.mono (λ_ h=>h) (λz hz=>by rw[mem_append]at hz;exact hz.elim id id)
       ·exact(Vj hI hl (writes x) s) k hk m hm j hj
      obtain⟨aia,ah5⟩:=Ka hI yG VN hl Cc ZG;obtain⟨m,hm,hq⟩:=hq;exact⟨m,hm,s2,u2,θ2,aia,hq,ah5⟩
    |exit i=>exact⟨Uy,u2,θ2,yG,Sn,hq⟩
    |goto i=>exact⟨Uy,u2,θ2,yG,Sn,hq⟩
    |ret=>exact⟨Uy,u2,θ2,yG,Sn,hq⟩
    |panic i=>exact⟨Uy,u2,θ2,yG,Sn,hq⟩
    |outgrown=>exact⟨Uy,u2,θ2,yG,Sn,hq⟩
 |rangeFunc f ps x y HO HN=>exact Hp HO HN
 |scope x ih=>intro C ee fz Q st u a wa θ hI h;exact h.elim
 |label l=>intro C ee fz Q st u a wa θ hI h;exact h.elim
 |goto l=>intro C ee fz Q st u a wa θ hI h;exact h.elim
 |refuse s=>intro C ee fz Q st u a wa θ hI h;exact h.elim
end
def DD(n:Nat):ResultVar->Bool
 | .tmp t=>blt t n
 | .cell t _=>blt t n
def UU(n:Nat)(c:Code)(rs:List ResultVar)(args:List Value):Bool:=gl n c&&ble n 65536&&rs.all (DD n)&&ble args.length n&&args.all plain
def EL(tmps:Array Value):ResultVar->Sem Value
 | .tmp t=>pure (tmps.getD t undef)
 | .cell x t=>do loadVar t (<- asAddr (tmps.getD x undef))
section
variable {C:Ctx} {a:Act} {wa:World} {st:St} {u:UW} {θ:Nat->Nat}
theorem wP{P:Program}{tmps:Array Value}{x:Nat}{t:TypeId}{ad:Addr}{v:Value}{w:World}(h:tmps.getD x undef=.pointer (some ad))(hl:(loadVar t ad).run P w=.ok v w):(EL tmps (.cell x t)).run P w=.ok v w:=by
 simp only[EL,run_bind,h,asAddr,run_pure,andThen_ok,hl]
theorem LR{P:Program}{tmps:Array Value}{r:ResultVar}{rs:List ResultVar}{v:Value}{vs:List Value}{w:World}(h:(EL tmps r).run P w=.ok v w)(hs:(rs.mapM (EL tmps)).run P w=.ok vs w):
  ((r::rs).mapM (EL tmps)).run P w=.ok (v::vs) w:=by
 simp only[List.mapM_cons,run_bind,h,andThen_ok,hs,run_pure]
theorem ot{P:Program}(hI:Inv C a wa st u θ):∀(rs:List ResultVar) (F:List Value->Prop),(∀r∈rs,DD C.n r=true)->te P st u rs F->
  ∃vs,(rs.mapM (EL a.tmps)).run P wa=.ok vs wa/\F vs
 |[],F,_,h=>⟨[],by simp,h⟩
 | .tmp t::rs,F,aG,h=>by
   simp only[te]at h
   obtain⟨hp,h⟩:=aq h
   obtain⟨vs,hr,hF⟩:=ot hI rs _ (λr hr=>aG r (by simp[hr])) h;have htn:DD C.n (.tmp t)=true:=aG _ (by simp);have ht:=hI.iN t (iW.1 htn);rw[iX hp]at ht;exact⟨_,LR (by simp only[EL,run_pure,ht]) hr,hF⟩
 | .cell x t::rs,F,aG,h=>by
   simp only[te]at h;have htn:DD C.n (.cell x t)=true:=aG _ (by simp);have hx:x<C.n:=iW.1 htn;have hs:=hI.iN x hx;cases hk:kinds P t with
   |none=>simp only[hk]at h
   |some ks=>
    simp only[hk]at h;obtain⟨zH,⟨d,hu⟩,tK⟩:=lO hk;split at h
    ·rename_i k off he;cases hb:eX st.D k with
     |none=>simp only[hb]at h
     |some m=>
      simp only[hb]at h;obtain⟨hc,h⟩:=aq h;simp only[and_eq_true,ble_eq]at hc;obtain⟨h1,h2⟩:=hc;obtain⟨_,c,T,b1,b2,b3,_⟩:=hI.boxes k m (j_ hb);have Bh:=ik b2 b3 ks.length off h1 (nV h2);obtain⟨vs,hr,hF⟩:=ot hI rs _ (λr hr=>aG r (by simp[hr])) h;rw[he]at hs;have PB:a.tmps.getD x undef=.pointer (some ⟨θ k,off,none⟩):=hs;exact⟨_,LR (wP PB (by rw[ix hk b1 (show off+ks.length<=c.size by omega),Bh])) hr,hF⟩
    ·obtain⟨b,off,hv,h⟩:=gy h;obtain⟨us,hlen,hp,eR,h⟩:=qP h;obtain⟨vs,hr,hF⟩:=ot hI rs _ (λr hr=>aG r (by simp[hr])) h;rw[hv,iX rfl]at hs;by_cases hz:ks.length=0
     ·have mR:dq P t=true:=tK.resolve_right (by omega);have Fp:us=[]:=List.eq_nil_of_length_eq_zero (by omega);subst Fp;obtain⟨i,hi⟩:=gW hu;refine⟨_,LR (wP hs ?_) hr,hF⟩;simp only[loadVar,run_bind,ll hu,mR,if_true,cz hi,<- zH,hz,andThen_ok];rfl
     ·obtain⟨c,T,f,c1,c2,c3⟩:=uW hI.below eR hz;exact⟨_,LR (wP hs (by rw[ix hk c1 c2,<- c3])) hr,hF⟩
theorem Hm{P:Program}{fn:Func}{rs:List ResultVar}(Jm:fn.results.toList=rs){vs:List Value}(h:(rs.mapM (EL a.tmps)).run P wa=.ok vs wa):
  (results fn a.tmps).run P wa=.ok (match vs with|[v]=>v|vs=>.tuple vs.toArray) wa:=by
 have e:results fn a.tmps=(do let vs <- fn.results.mapM (EL a.tmps);pure (if h:vs.size=1 then vs[0]else .tuple vs):Sem Value):=by
  unfold results;congr 1
 rw[e,Array.mapM_eq_mapM_toList,Jm];simp only[run_bind,Sem.run_map,h,andThen_ok,run_pure]
 match vs with
 |[]=>rfl
 |[v]=>rfl
 |v::v'::vs=>simp
end
theorem Inv.Yi{C:Ctx}{a:Act}{wa:World}{st:St}{u:UW}{θ:Nat->Nat}{d:Deferred}{ds:List Deferred}{r:Nat}(hI:Inv C a wa st u θ)(hd:a.defers=d::ds)(he:d={target:=.collected r,args:= #[]}):
  Inv C {a with defers:=ds} (wa.putObj r (.deferred none)) st u θ:=by
 obtain⟨r',e',hr,hh⟩:=hI.defers.each d (by rw[hd];simp);rw[he]at e';simp only[Deferred.mk.injEq,Target.collected.injEq,and_true]at e';subst e';have HW:(d::ds).Nodup:=hd▸hI.defers.nodup;have cu:∀{b:Nat} {ob:Obj},b≠r->Hid u wa b ob->Hid u (wa.putObj r (.deferred none)) b ob:=λ{b ob} aZ hh=>⟨(ba aZ).trans hh.at_,hh.other,hh.gj,hh.mask⟩;refine⟨hI.size,hI.jc,⟨λd' PL=>?_,(nodup_cons.1 HW).2⟩,λl0 r0 e=>cu ?_ (hI.round l0 r0 e),hI.iN,?_,?_,hI.inj,hI.jo,hI.gN,?_,?_,hI.qp,hI.umod,hI.Jv,hI.Bj,hI.F0⟩
 ·obtain⟨r1,e1,h1,hh1⟩:=hI.defers.each d' (by rw[hd];simp[PL]);refine⟨r1,e1,h1,cu ?_ hh1⟩;rintro rfl;rw[<- he]at e1;subst e1;exact(nodup_cons.1 HW).1 PL
 ·rintro rfl;have:=(hI.round l0 r0 e).at_;rw[hh.at_]at this;cases this
 ·refine⟨hI.below.os,hI.below.tape,hI.below.output,by simpa using hI.below.size,λb hb=>?_⟩;by_cases e:b=r
  ·subst e;exact .inr (hh.mask hb)
  ·rw[ba e];exact hI.below.block b hb
 ·intro k m hk;obtain⟨yB,c,T,h1,h2,h3,h4,h5,h6⟩:=hI.boxes k m hk;have aZ:θ k≠r:=by
   intro e;rw[e,hh.at_]at h1;cases h1
  exact⟨yB,c,T,(ba aZ).trans h1,h2,h3,h4,h5,h6⟩
 ·intro b hb;simpa using hI.pC b hb
 ·exact⟨hI.mod.os,hI.mod.tape,hI.mod.output,by simpa using hI.mod.size,λb hb hF=>(ba (by omega)).trans (hI.mod.cu b hb hF)⟩
theorem vk{P:Program}{fn:Func}{rs:List ResultVar}{R:Value->UW->Prop}{C:Ctx}{st:St}{u:UW}{θ:Nat->Nat}{G:Ending->World->Prop}(Jm:fn.results.toList=rs)(aG:∀r∈rs,DD C.n r=true):
  ∀(ds:List Deferred) (a:Act) (wa:World),a.defers=ds->Inv C a wa st u θ->te P st u rs (Nq R u)->(∀wr v,Out C.F C.w0 C.w1 u.toWorld wr->R v u->G (.returned v) wr)->LeavesInM Fence.wide 0 P fn a.tmps G ds .returning wa
 |[],a,wa,_,hI,hq,hG=>by
  obtain⟨vs,jd,hR⟩:=ot hI rs _ aG hq
  refine⟨_,Hm Jm jd,hG _ _ ⟨hI.mod,hI.below,hI.umod,hI.Bj⟩ ?_⟩;unfold Nq at hR
  match vs,hR with
  |[],hR=>exact hR
  |[v],hR=>exact hR
  |v::v'::vs,hR=>exact hR
 |d::ds,a,wa,hd,hI,hq,hG=>by
  obtain⟨r,he,hr,hh⟩:=hI.defers.each d (by rw[hd];simp);refine⟨by simp,.inl ⟨r,_,by rw[he],run_takeDeferred hh.at_,?_⟩⟩;exact vk Jm aG ds {a with defers:=ds} _ rfl (hI.Yi hd he) hq hG
theorem TI{P:Program}{f:FuncId}{fn:Func}{c:Code}{n:Nat}{fj:List Nat}{loops jl:List (Nat×Cut)}{rR:List (Nat×List TypeId)}{rs:List ResultVar}{args:List Value}{w:World}{F:Nat->Prop}{R:Value->UW->Prop}
  (hf:P.funcs[f]?=some fn) (hb:fn.body=some c) (Zs:fn.ntmps=n) (Jm:fn.results.toList=rs) (aG:UU n c rs args=true) (hF:∀b,F b->b<w.heap.size)
  (h:WF P n fj loops jl rR c rs args ⟨w,F⟩ R):FnB P f args.toArray w F λv lo w'=>∃gj,(∀b,gj b->F b\/lo<=b)/\R v ⟨w',gj⟩:=by
 simp only[UU,and_eq_true,ble_eq,all_eq_true]at aG;obtain⟨⟨⟨⟨hc,hn⟩,hr⟩,hal⟩,pJ⟩:=aG;intro w1 pf;refine(callsIn_wide (n:=0)).1 (callsIn_of_wp_marks hf hb trivial ?_);have hI:Inv ⟨n,w,w1,F,none⟩ {tmps:=args.toArray++replicate (fn.ntmps-args.toArray.size) undef,defers:=[]} w1 ⟨II args,[]⟩ ⟨w,F⟩ (λ_=>0):=by
  have adD:∀t,(args.toArray++replicate (fn.ntmps-args.toArray.size) undef).getD t undef=II args t:=by
   intro t;rw[getD_eq_getD_getElem?];unfold II;by_cases ht:t<args.length
   ·rw[Array.getElem?_append_left (by simpa using ht)];simp
   ·rw[Array.getElem?_append_right (by simp;omega),List.getElem?_eq_none (by omega),Array.getElem?_replicate];split<;>rfl
  have RJ:∀t,plain (II args t)=true:=by
   intro t;unfold II;cases hg:args[t]? with
   |none=>rfl
   |some v=>exact pJ v (mem_of_getElem? hg)
  refine⟨by simp[Zs];omega,hn,⟨by simp,List.nodup_nil⟩,λl r e=>(by cases e),λt _=>?_,pf,by simp,by simp,λt _ k o e=>absurd e (jS (RJ t) k o),by simp,λb hb=>lt_of_lt_of_le (hF b hb) pf.size,Mod.refl _ _,λb hb _=>hb,Mod.refl _ _,pf.size,λb h1 _ h3=>absurd h3 (not_lt.2 h1),hF⟩;rw[adD];exact oT (RJ t)
 refine wpIn_mono (WI (E:=⟨P,n,fj,loops,jl,rR⟩) c ⟨n,w,w1,F,none⟩ hc [] _ _ _ _ _ _ hI h) λe a' GL hq=>?_;obtain⟨bT,u',θ',dK,_,hq⟩:=hq;have key:te P bT u' rs (Nq R u')->LeavesInM Fence.wide 0 P fn a'.tmps (λe wr=>∃v w',e=.returned v/\Out F w w1 w' wr/\∃gj,(∀b,gj b->F b\/w1.heap.size<=b)/\R v ⟨w',gj⟩) a'.defers .returning GL:=by
  intro hq;refine vk Jm hr a'.defers a' GL rfl dK hq λwr v fL hR=>⟨v,u'.toWorld,rfl,fL,u'.gj,λb hb=>?_,hR⟩;by_cases bG:b<w1.heap.size
  ·exact .inl (dK.qp b hb bG)
  ·exact .inr (by omega)
 cases e with
 |normal=>exact key hq
 |ret=>exact key hq
 |exit i=>exact hq.elim
 |goto i=>exact hq.elim
 |panic i=>exact hq.elim
 |outgrown=>exact hq.elim
theorem FnB.mono{P:Program}{f:FuncId}{args:Array Value}{w:World}{F:Nat->Prop}{K K':Value->Nat->World->Prop}(h:FnB P f args w F K)(hk:∀v lo w',Mod F w w'->w.heap.size<=lo->K v lo w'->K' v lo w'):
  FnB P f args w F K':=by
 intro w1 hs;refine(h w1 hs).mono λe wr hp=>?_;obtain⟨v,w',rfl,ho,hK⟩:=hp;exact⟨v,w',rfl,ho,hk v _ w' ho.umod hs.size hK⟩
theorem uX{H:IU}{b o n:Nat}{vs:List Value}(h:rd H b o n=some vs):∃c T f,H[b]?=some (.cells c T f)/\o+n<=c.size/\vs=(c.toList.drop o).take n:=by
 unfold rd at h;cases hb:H[b]? with
 |none=>simp[hb]at h
 |some ob=>
  cases ob<;>simp only[hb]at h<;>try (cases h;done)
  rename_i c T f;split at h
  ·rename_i hl;simp only[Option.some.injEq]at h;exact⟨c,T,f,rfl,hl,h.symm⟩
  ·cases h
theorem Aw{H:IU}{b o n:Nat}{c:Array Value}{T:TypeId}{f:Nat×Nat}(h:H[b]?=some (.cells c T f))(hl:o+n<=c.size):rd H b o n=some ((c.toList.drop o).take n):=by
 simp[rd,h,hl]
theorem QC{H:IU}{b o n:Nat}{vs:List Value}(h:rd H b o n=some vs):vs.length=n:=by
 obtain⟨c,T,f,h1,h2,rfl⟩:=uX h;simp;omega
theorem Is{sz:Nat}:∀{yP:List (List Value)},(∀x∈yP,x.length=sz)->yP.flatten.length=yP.length*sz
 |[],_=>by simp
 |x::yP,h=>by
  have ih:=Is (yP:=yP) (λy hy=>h y (by simp[hy]))
  rw[List.flatten_cons,List.length_append,length_cons,h x (by simp),ih,Nat.add_mul,Nat.one_mul];omega
structure SlR(H:IU)(a:Option Addr)(n c sz:Nat)(yP:List (List Value)):Prop where
 len:yP.length=n
 cap:n<=c
 each:∀x∈yP,x.length=sz
 read:n≠0->∃b o,a=some ⟨b,o,none⟩/\rd H b o (n*sz)=some yP.flatten
theorem SlR.nil(H:IU)(sz:Nat):SlR H none 0 0 sz []:=⟨rfl,le_refl _,by simp,λh=>absurd rfl h⟩
theorem aC{x:Int}(h0: -9223372036854775808<=x)(h1:x<=9223372036854775807):IntKind.i64.wrap x=x:=IntWalk.i64_in x (by omega)
inductive Fl where
 |sh
 |nr
 |nil
 |nz (b c:Nat)
inductive PV where
 |raw (v:Value)
 |list (sz:Nat) (fl:Fl) (rows:List (List PV))
 |bk (row:List PV) (o:Nat)
 |fn (f:Fn) (first tW:List PV)
 |agg (cs:List PV)
 |aA (vs:List PV)
 |iface (t:TypeId) (p:PV)
 |box (k o:Nat)
 |aV
@[reducible] def pI(i:Int):PV:=.raw (.int .i64 i)
@[reducible] def pB(b:Bool):PV:=.raw (.bool b)
@[reducible] def pS(s:ByteArray):PV:=.raw (.string s)
@[reducible] def pP(b o:Nat):PV:=.raw (.pointer (some ⟨b,o,none⟩))
def PV.cell:PV->Bool
 | .raw _| .list .. | .bk .. | .fn .. | .iface .. =>true
 |_=>false
def PV.ok:PV->Bool
 | .agg _=>true
 |p=>p.cell
abbrev Fz:=Nat->Option (List Value)
def TU:Fl->Option Addr->Nat->Nat->Prop
 | .sh,_,_,_=>True
 | .nr,_,n,c=>c=n
 | .nil,a,n,c=>a=none/\n=0/\c=0
 | .nz b c',a,_,c=>a=some ⟨b,0,none⟩/\c=c'
inductive bS(Z:Fz):PV->Value->Prop where
 |raw (v:Value) (h:plain v=true) (h1:one v=true):bS Z (.raw v) v
 |list (sz:Nat) (fl:Fl) (rows:List (List PV)) (a:Option Addr) (n c b o:Nat) (C:List Value) (g:Nat->Nat->Value) (hn:rows.length=n) (hc:n<=c) (hs:c=0\/iq a) (hr:∀r∈rows,r.length=sz)
   (ha:n≠0->a=some ⟨b,o,none⟩/\Z b=some C) (hg:∀i j:Nat,i<n->j<sz->C[o+i*sz+j]?=some (g i j))
   (hk:∀(i j:Nat) row p,rows[i]?=some row->row[j]?=some p->p.cell=true) (hp:∀(i j:Nat) row p,rows[i]?=some row->row[j]?=some p->bS Z p (g i j)) (hf:TU fl a n c):bS Z (.list sz fl rows) (.slice a n c)
 |bk (row:List PV) (o b off:Nat) (C:List Value) (g:Nat->Value) (hz:Z b=some C) (hg:∀j:Nat,j<row.length->C[off+j]?=some (g j)) (hk:∀(j:Nat) p,row[j]?=some p->p.cell=true) (hp:∀(j:Nat) p,row[j]?=some p->bS Z p (g j)):bS Z (.bk row o) (.pointer (some ⟨b,off+o,none⟩))
 |fn (f:Fn) (first tW:List PV) (fv cv:List Value) (h1:fv.length=first.length) (h2:cv.length=tW.length) (kf:∀p∈first,p.ok=true) (kc:∀p∈tW,p.ok=true) (hf:∀(i:Nat) p v,first[i]?=some p->fv[i]?=some v->bS Z p v) (hc:∀(i:Nat) p v,tW[i]?=some p->cv[i]?=some v->bS Z p v):bS Z (.fn f first tW) (.func f fv.toArray cv.toArray)
 |agg (cs:List PV) (vs:List Value) (hl:vs.length=cs.length) (hk:∀p∈cs,p.cell=true) (h:∀(i:Nat) p v,cs[i]?=some p->vs[i]?=some v->bS Z p v):bS Z (.agg cs) (.agg vs.toArray)
 |aA (ps:List PV) (vs:List Value) (hl:vs.length=ps.length) (hk:∀p∈ps,p.ok=true) (h:∀(i:Nat) p v,ps[i]?=some p->vs[i]?=some v->bS Z p v):bS Z (.aA ps) (.tuple vs.toArray)
 |iface (t:TypeId) (p:PV) (v:Value) (hk:p.ok=true) (h:bS Z p v):bS Z (.iface t p) (.iface t v)
 |box (k o:Nat):bS Z (.box k o) (dM k o)
 |aV (v:Value):bS Z .aV v
def Fz.le(Z Z':Fz):Prop:=∀b C,Z b=some C->∃C',Z' b=some C'/\C <+: C'
theorem Fz.le.refl(Z:Fz):Z.le Z:=λ_ C h=>⟨C,h,List.prefix_refl C⟩
theorem Fz.le.trans{A B C:Fz}(h:A.le B)(k:B.le C):A.le C:=λb L hL=>by
 obtain⟨L',h1,h2⟩:=h b L hL;obtain⟨L'',h3,h4⟩:=k b L' h1;exact⟨L'',h3,h2.trans h4⟩
theorem Az{A B:List Value}(h:A <+: B){i:Nat}{v:Value}(hv:A[i]?=some v):B[i]?=some v:=by
 obtain⟨t,rfl⟩:=h;rw[List.getElem?_append_left (List.getElem?_eq_some_iff.1 hv).1];exact hv
theorem bS.mono{Z Z':Fz}(hz:Z.le Z'){p:PV}{v:Value}(h:bS Z p v):bS Z' p v:=by
 induction h with
 |raw v h h1=>exact .raw v h h1
 |list sz fl rows a n c b o C g hn hc hs hr ha hg hk hp hf ih=>
  by_cases h0:n=0
  ·exact .list sz fl rows a n c b o C g hn hc hs hr (λh=>absurd h0 h) hg hk ih hf
  ·obtain⟨C',h1,h2⟩:=hz b C (ha h0).2;exact .list sz fl rows a n c b o C' g hn hc hs hr (λ_=>⟨(ha h0).1,h1⟩) (λi j hi hj=>Az h2 (hg i j hi hj)) hk ih hf
 |bk row o b off C g hC hg hk hp ih=>
  obtain⟨C',h1,h2⟩:=hz b C hC;exact .bk row o b off C' g h1 (λj hj=>Az h2 (hg j hj)) hk ih
 |fn f first tW fv cv h1 h2 kf kc hf hc ih1 ih2=>exact .fn f first tW fv cv h1 h2 kf kc ih1 ih2
 |agg cs vs hl hk h ih=>exact .agg cs vs hl hk ih
 |aA cs vs hl hk h ih=>exact .aA cs vs hl hk ih
 |iface t p v hk _ ih=>exact .iface t p v hk ih
 |box k o=>exact .box k o
 |aV v=>exact .aV v
theorem bS.cell{Z:Fz}{p:PV}{v:Value}(h:bS Z p v)(hc:p.cell=true):plain v=true/\one v=true:=by
 cases h<;>first|(constructor<;>assumption)|exact⟨rfl,rfl⟩|(simp[PV.cell]at hc)
theorem bS.plain{Z:Fz}{p:PV}{v:Value}(h:bS Z p v)(hc:p.ok=true):plain v=true:=by
 cases h<;>first|assumption|rfl|(simp[PV.ok,PV.cell]at hc)
def bp(Z:Fz)(ps:List PV)(vs:List Value):Prop:=vs.length=ps.length/\∀(i:Nat) p v,ps[i]?=some p->vs[i]?=some v->p.ok=true/\bS Z p v
def bq(Z:Fz)(ps:List PV)(vs:List Value):Prop:=vs.length=ps.length/\∀(i:Nat) p v,ps[i]?=some p->vs[i]?=some v->p.cell=true/\bS Z p v
theorem bp.mono{Z Z':Fz}(hz:Z.le Z'){ps:List PV}{vs:List Value}(h:bp Z ps vs):bp Z' ps vs:=⟨h.1,λi p v a b=>⟨(h.2 i p v a b).1,(h.2 i p v a b).2.mono hz⟩⟩
theorem bq.mono{Z Z':Fz}(hz:Z.le Z'){ps:List PV}{vs:List Value}(h:bq Z ps vs):bq Z' ps vs:=⟨h.1,λi p v a b=>⟨(h.2 i p v a b).1,(h.2 i p v a b).2.mono hz⟩⟩
theorem PV.EW{p:PV}(h:p.cell=true):p.ok=true:=by cases p<;>simp_all [PV.ok,PV.cell]
theorem bp.nil(Z:Fz):bp Z [] []:=⟨rfl,by simp⟩
theorem bq.nil(Z:Fz):bq Z [] []:=⟨rfl,by simp⟩
theorem bp.cons{Z:Fz}{p:PV}{ps:List PV}{v:Value}{vs:List Value}(hk:p.ok=true)(h:bS Z p v)(hs:bp Z ps vs):bp Z (p::ps) (v::vs):=
 ⟨by simp[hs.1],λi q w a b=>by
  cases i with
  |zero=>simp only[List.getElem?_cons_zero,Option.some.injEq]at a b;subst a;subst b;exact⟨hk,h⟩
  |succ i=>simp only[List.getElem?_cons_succ]at a b;exact hs.2 i q w a b⟩
theorem bq.cons{Z:Fz}{p:PV}{ps:List PV}{v:Value}{vs:List Value}(hk:p.cell=true)(h:bS Z p v)(hs:bq Z ps vs):bq Z (p::ps) (v::vs):=
 ⟨by simp[hs.1],λi q w a b=>by
  cases i with
  |zero=>simp only[List.getElem?_cons_zero,Option.some.injEq]at a b;subst a;subst b;exact⟨hk,h⟩
  |succ i=>simp only[List.getElem?_cons_succ]at a b;exact hs.2 i q w a b⟩
theorem bp.inv{Z:Fz}{p:PV}{ps:List PV}{vs:List Value}(h:bp Z (p::ps) vs):∃v o_,vs=v::o_/\p.ok=true/\bS Z p v/\bp Z ps o_:=by
 obtain⟨hl,h⟩:=h;cases vs with
 |nil=>simp at hl
 |cons v vs=>exact⟨v,vs,rfl,(h 0 p v rfl rfl).1,(h 0 p v rfl rfl).2,by simpa using hl,λi q w a b=>h (i+1) q w (by simpa using a) (by simpa using b)⟩
theorem bq.inv{Z:Fz}{p:PV}{ps:List PV}{vs:List Value}(h:bq Z (p::ps) vs):∃v o_,vs=v::o_/\p.cell=true/\bS Z p v/\bq Z ps o_:=by
 obtain⟨hl,h⟩:=h;cases vs with
 |nil=>simp at hl
 |cons v vs=>exact⟨v,vs,rfl,(h 0 p v rfl rfl).1,(h 0 p v rfl rfl).2,by simpa using hl,λi q w a b=>h (i+1) q w (by simpa using a) (by simpa using b)⟩
theorem bp.m_{Z:Fz}{vs:List Value}(h:bp Z [] vs):vs=[]:=List.eq_nil_of_length_eq_zero h.1
theorem bq.m_{Z:Fz}{vs:List Value}(h:bq Z [] vs):vs=[]:=List.eq_nil_of_length_eq_zero h.1
theorem bp.append{Z:Fz}{ps qs:List PV}{vs ws:List Value}(h:bp Z ps vs)(k:bp Z qs ws):bp Z (ps++qs) (vs++ws):=by
 induction ps generalizing vs with
 |nil=>rw[h.m_];exact k
 |cons p ps ih=>obtain⟨v,o_,rfl,h1,h2,h3⟩:=h.inv;exact bp.cons h1 h2 (ih h3)
theorem bq.append{Z:Fz}{ps qs:List PV}{vs ws:List Value}(h:bq Z ps vs)(k:bq Z qs ws):bq Z (ps++qs) (vs++ws):=by
 induction ps generalizing vs with
 |nil=>rw[h.m_];exact k
 |cons p ps ih=>obtain⟨v,o_,rfl,h1,h2,h3⟩:=h.inv;exact bq.cons h1 h2 (ih h3)
theorem bq.take{Z:Fz}{ps:List PV}{vs:List Value}(h:bq Z ps vs)(n:Nat):bq Z (ps.take n) (vs.take n):=
 ⟨by simp[h.1],λi p v a b=>by
  rw[List.getElem?_take]at a b
  split at a
  ·rename_i hi;rw[if_pos hi]at b;exact h.2 i p v a b
  ·cases a⟩
theorem bq.drop{Z:Fz}{ps:List PV}{vs:List Value}(h:bq Z ps vs)(n:Nat):bq Z (ps.drop n) (vs.drop n):=
 ⟨by simp[h.1],λi p v a b=>by rw[List.getElem?_drop]at a b;exact h.2 _ p v a b⟩
theorem bq.get{Z:Fz}{ps:List PV}{vs:List Value}(h:bq Z ps vs){i:Nat}{p:PV}(hi:ps[i]?=some p):∃v,vs[i]?=some v/\p.cell=true/\bS Z p v:=by
 have bG:i<ps.length:=(List.getElem?_eq_some_iff.1 hi).1;have tJ:i<vs.length:=by rw[h.1];exact bG
 exact⟨vs[i],getElem?_eq_getElem tJ,h.2 i p _ hi (getElem?_eq_getElem tJ)⟩
theorem bp.get{Z:Fz}{ps:List PV}{vs:List Value}(h:bp Z ps vs){i:Nat}{p:PV}(hi:ps[i]?=some p):∃v,vs[i]?=some v/\p.ok=true/\bS Z p v:=by
 have bG:i<ps.length:=(List.getElem?_eq_some_iff.1 hi).1;have tJ:i<vs.length:=by rw[h.1];exact bG
 exact⟨vs[i],getElem?_eq_getElem tJ,h.2 i p _ hi (getElem?_eq_getElem tJ)⟩
theorem bq.wX{Z:Fz}{ps:List PV}{vs:List Value}(h:bq Z ps vs):∀v∈vs,aO.plain v=true/\one v=true:=by
 intro v hv;obtain⟨i,hi⟩:=List.mem_iff_getElem?.1 hv;have bG:i<ps.length:=by rw[<- h.1];exact(List.getElem?_eq_some_iff.1 hi).1
 have:=h.2 i ps[i] v (getElem?_eq_getElem bG) hi;exact this.2.cell this.1
theorem bp.wX{Z:Fz}{ps:List PV}{vs:List Value}(h:bp Z ps vs):∀v∈vs,aO.plain v=true:=by
 intro v hv;obtain⟨i,hi⟩:=List.mem_iff_getElem?.1 hv;have bG:i<ps.length:=by rw[<- h.1];exact(List.getElem?_eq_some_iff.1 hi).1
 have:=h.2 i ps[i] v (getElem?_eq_getElem bG) hi;exact this.2.plain this.1
def PV.cells:PV->List PV
 | .agg cs=>cs
 |p=>[p]
theorem bS.cells{Z:Fz}{p:PV}{v:Value}(h:bS Z p v)(hk:p.ok=true):bq Z p.cells v.cells.toList:=by
 have key:p.cell=true->v.cells= #[v]->p.cells=[p]->bq Z p.cells v.cells.toList:=λh1 h2 h3=>by rw[h2,h3];exact bq.cons h1 h (bq.nil Z)
 cases h with
 |agg cs vs hl eT h=>exact⟨hl,λi p v a b=>⟨eT p (mem_of_getElem? a),h i p v a b⟩⟩
 |raw v h1 h2=>exact key rfl (by cases v<;>first|rfl|(simp[one]at h2)) rfl
 |list=>exact key rfl rfl rfl
 |bk=>exact key rfl rfl rfl
 |fn=>exact key rfl rfl rfl
 |iface=>exact key rfl rfl rfl
 |aA ps vs hl h=>simp[PV.ok,PV.cell]at hk
 |box k o=>simp[PV.ok,PV.cell]at hk
 |aV v=>simp[PV.ok,PV.cell]at hk
def cD(Z:Fz)(ps:List PV)(vs:List Value):Prop:=vs.length=ps.length/\∀(i:Nat) p v,ps[i]?=some p->vs[i]?=some v->bS Z p v
inductive Ob where
 |cells (T:TypeId) (cs:List PV)
 |nz (n m:Nat)
 |obj (o:Obj) (F:Nat->PV) (S:Nat->Value)
 |ro (T:TypeId) (cs:List PV)
def Ob.rw:Ob->Bool
 | .ro .. =>false
 |_=>true
abbrev Mem:=Nat->Option Ob
def M0:Mem:=λ_=>none
def Mem.set(μ:Mem)(b:Nat)(o:Option Ob):Mem:=λc=>if c=b then o else μ c
def Mem.or(μ ν:Mem):Mem:=λb=>match μ b with|some o=>some o|Option.none=>ν b
def Mem.sep(μ ν:Mem):Prop:=∀b,μ b=Option.none\/ν b=Option.none
@[simp] theorem Mem.an(μ:Mem)(b:Nat)(o:Option Ob):μ.set b o b=o:=by simp[Mem.set]
theorem Mem.ax(μ:Mem){b c:Nat}(o:Option Ob)(h:c≠b):μ.set b o c=μ c:=by simp[Mem.set,h]
def zg(Z:Fz)(u:UW)(b:Nat):Ob->Prop
 | .cells T cs=>Z b=none/\∃A:Array Value,u.heap[b]?=some (.cells A T (0,0))/\cD Z cs A.toList
 | .nz n m=>(∃C,Z b=some C/\C.length=n)/\∃(A:Array Value) (T:TypeId),u.heap[b]?=some (.cells A T (0,0))/\m<=A.size
 | .obj o F S=>Z b=none/\u.heap[b]?=some o/\∀t,bS Z (F t) (S t)
 | .ro T cs=>Z b=none/\∃A:Array Value,u.heap[b]?=some (.cells A T (0,0))/\cD Z cs A.toList
structure Good(Z:Fz)(u:UW)(μ:Mem):Prop where
 Es:∀b C,Z b=some C->∃A T f,u.heap[b]?=some (.cells A T f)/\C <+: A.toList
 mem:∀b o,μ b=some o->(o.rw=true->u.gj b)/\zg Z u b o
theorem zg.lt{Z:Fz}{u:UW}{b:Nat}{o:Ob}(h:zg Z u b o):b<u.heap.size:=by
 cases o with
 |cells T cs=>obtain⟨_,A,h,_⟩:=h;exact(Array.getElem?_eq_some_iff.1 h).1
 |nz n m=>obtain⟨_,A,T,h,_⟩:=h;exact(Array.getElem?_eq_some_iff.1 h).1
 |obj o F S=>exact(Array.getElem?_eq_some_iff.1 h.2.1).1
 |ro T cs=>obtain⟨_,A,h,_⟩:=h;exact(Array.getElem?_eq_some_iff.1 h).1
theorem Good.Cy{Z:Fz}{u:UW}{μ:Mem}(h:Good Z u μ){b:Nat}(hb:Z b≠none):b<u.heap.size:=by
 cases hz:Z b with
 |none=>exact absurd hz hb
 |some C=>obtain⟨A,T,f,h,_⟩:=h.Es b C hz;exact(Array.getElem?_eq_some_iff.1 h).1
theorem Good.Px{Z:Fz}{u:UW}{μ:Mem}(h:Good Z u μ){b:Nat}(hb:μ b≠none):b<u.heap.size:=by
 cases hz:μ b with
 |none=>exact absurd hz hb
 |some o=>exact(h.mem b o hz).2.lt
structure Ext(Z:Fz)(μ:Mem)(N:Nat)(Z':Fz)(μ':Mem):Prop where
 le:Z.le Z'
 zs:∀b C,Z b=some C->μ b=none->Z' b=some C
 zn:∀b,Z' b≠none->Z b≠none\/μ b≠none\/N<=b
 mn:∀b,μ' b≠none->μ b≠none\/N<=b
 lt:∀b,Z b≠none->b<N
theorem Good.ext{Z:Fz}{u:UW}{μ:Mem}(h:Good Z u μ):Ext Z μ u.heap.size Z μ:=⟨Fz.le.refl _,λ_ _ h _=>h,λ_ h=>.inl h,λ_ h=>.inl h,λ_ h'=>h.Cy h'⟩
theorem Ext.trans{Z Z' Z'':Fz}{μ μ' mZ:Mem}{N N':Nat}(h:Ext Z μ N Z' μ')(k:Ext Z' μ' N' Z'' mZ)(hN:N<=N'):Ext Z μ N Z'' mZ:=by
 refine⟨h.le.trans k.le,λb C hz hm=>?_,λb hb=>?_,λb hb=>?_,h.lt⟩
 ·refine k.zs b C (h.zs b C hz hm) ?_;cases hx:μ' b with
  |none=>rfl
  |some o=>
   have hl:=h.lt b (by rw[hz];simp);rcases h.mn b (by rw[hx];simp)with h1|h1
   ·exact absurd hm h1
   ·omega
 ·rcases k.zn b hb with h1|h1|h1
  ·exact h.zn b h1
  ·exact .inr (h.mn b h1)
  ·exact .inr (.inr (by omega))
 ·rcases k.mn b hb with h1|h1
  ·exact h.mn b h1
  ·exact .inr (by omega)
def Mem.sub(μ' μ:Mem):Prop:=∀b o,μ' b=some o->μ b=some o
theorem Good.sub{Z:Fz}{u:UW}{μ μ':Mem}(h:Good Z u μ)(hs:μ'.sub μ):Good Z u μ':=⟨h.Es,λb o e=>h.mem b o (hs b o e)⟩
abbrev Lq:=List (List PV)
abbrev Kq:=PV->Mem->Prop
end Go.aO
