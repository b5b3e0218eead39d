import Derived.Test.YtbkejjmjopgpoaaGreatB02
import Derived.LaidEqlPtr
import Derived.Laws.BytesString
import Derived.IntWalk
set_option linter.all false
namespace Go.az
open Go.RowKit
def QW(C:Ctx)(fz ws:List Nat)(st:St)(Q:Exit->St->UW->Prop)(e:Exit)(a':Act)(DS:World):Prop:=
 ∃bu u' θ',Inv C a' DS bu u' θ'/\bQ C.n fz ws st bu/\Q e bu u'
theorem getD_some{a:Array Value}{g n:Nat}(hs:a.size=n)(hg:g<n):a[g]?=some (a.getD g undef):=by
 rw[Array.getD_eq_getD_getElem?,Array.getElem?_eq_getElem (by omega)];rfl
theorem sS{σ:Fr}{t:Nat}{v:Value}(h:σ t=v):iz σ t v=σ:=by
 funext i
 by_cases e:i=t
 ·subst e;rw[dL,h]
 ·rw[bH _ _ e]
section
variable {P:Program} {ops:Array Oper} {Q:Exit->Act->World->Prop} {S:World->Prop}
def jc(P:Program)(ops:Array Oper)(Q:Exit->Act->World->Prop)(i:Nat)(K:Act->World->Prop)(a:Act)(w:World):Prop:=
 match ops[i]? with
 |none=>K a w
 |some o=>if Region.wanted o (yielded ops a.tmps)then o.uponIn Fence.wide 0 P a K Q ((execOp a.eval o).run P w)else K (a.put o.dst undef) w
theorem lF{o:Oper}{a:Act}{K K':Act->World->Prop}{r:Result Next}(h:∀a w,K a w->K' a w)(hh:o.uponIn Fence.wide 0 P a K Q r):o.uponIn Fence.wide 0 P a K' Q r:=by
 cases r with
 |halt x w=>cases x<;>exact hh
 |ok x w=>
  cases x<;>simp only[Oper.uponIn]at hh |-
  case value v=>exact h _ _ hh
  case skip=>exact h _ _ hh
  case defer d=>exact h _ _ hh
  case enter f args=>exact⟨hh.1,hh.2.mono λe w' he=>by cases e<;>first|exact h _ _ he|exact he⟩
  case row r args=>exact⟨hh.1,hh.2.mono λv w' he=>h _ _ he⟩
  case round l f t x y=>exact⟨hh.1,hh.2.mono λe w' he=>by cases e<;>first|exact h _ _ he|exact he⟩
theorem rn{i:Nat}{a:Act}{w:World}{K K':Act->World->Prop}(h:∀a w,K a w->K' a w)(hh:jc P ops Q i K a w):jc P ops Q i K' a w:=by
 unfold jc at*
 cases ho:ops[i]? with
 |none=>simp only[ho]at hh |-;exact h _ _ hh
 |some o=>
  simp only[ho]at hh |-
  split<;>rename_i hw<;>simp only[hw,if_true,if_false,Bool.false_eq_true]at hh
  ·exact lF h hh
  ·exact h _ _ hh
theorem Js{i:Nat}{o:Oper}{v:Value}{a:Act}{K:Act->World->Prop}{w:World}(hi:ops[i]?=some o)(hy:YieldsIf P ops S o v a)(hS:S w)(h:K (a.put o.dst v) w):jc P ops Q i K a w:=by
 unfold jc
 simp only[hi]
 rcases hy with⟨hw,hv⟩|⟨hw,rfl⟩
 ·rw[if_pos hw,hv w hS];exact h
 ·rw[if_neg (by simp[hw])];exact h
theorem AH{j:Nat}{oi oj:Oper}{v:Value}{K:Act->World->Prop}{a:Act}{w:World}(hj:ops[j]?=some oj)(Ux:oi.apart ops oj=true)
  (hsi:∀cs b,oi.op≠ .select cs b) (hsj:∀cs b,oj.op≠ .select cs b) (hQ:∀c a w,Q (.panic c) (a.put oi.dst v) w->Q (.panic c) a w)
  (hy:YieldsIf P ops S oi v a) (h:jc P ops Q j K (a.put oi.dst v) w):jc P ops Q j (λa' w'=>YieldsIf P ops S oi v a'/\K (a'.put oi.dst v) w') a w:=by
 obtain⟨h1,h2,h3⟩:=Oper.apart_spec Ux
 have st:∀(b:Act) (x:Value),YieldsIf P ops S oi v b->YieldsIf P ops S oi v (b.put oj.dst x):=λb x hb=>hb.of_same (execOp_put oi hsi b oj.dst x h3) (wanted_put oi b oj.dst x h3)
 have both:∀(x:Value) (w':World),K ((a.put oi.dst v).put oj.dst x) w'->YieldsIf P ops S oi v (a.put oj.dst x)/\K ((a.put oj.dst x).put oi.dst v) w':=
  λx w' hk=>⟨st a x hy,by rw[<- Act.put_comm a v x h2];exact hk⟩
 unfold jc at h |-
 simp only[hj,wanted_put oj a oi.dst v h1,execOp_put oj hsj a oi.dst v h1]at h |-
 split<;>rename_i hw<;>simp only[hw,if_true,if_false,Bool.false_eq_true]at h
 ·cases hr:(execOp a.eval oj).run P w with
  |halt x w'=>
   rw[hr]at h
   cases x<;>simp only[Oper.uponIn]at h |-
   exact hQ _ _ _ h
  |ok x w'=>
   rw[hr]at h
   cases x<;>simp only[Oper.uponIn]at h |-
   case value x=>exact both x w' h
   case skip=>exact both undef w' h
   case defer d=>
    refine⟨st _ _ (hy.of_same rfl rfl),?_⟩
    rw[<- Act.put_comm _ v undef h2,<- Act.put_defers];exact h
   case enter f args=>
    exact⟨h.1,h.2.mono λe w'' he=>by cases e<;>first|exact both _ _ he|exact hQ _ _ _ he|exact he⟩
   case row r args=>exact⟨h.1,h.2.mono λx w'' he=>both x w'' he⟩
   case round l f t x y=>
    exact⟨h.1,h.2.mono λe w'' he=>by cases e<;>first|exact both _ _ he|exact hQ _ _ _ he|exact he⟩
 ·exact both undef w h
def Fw(ro:Option (Nat×Loop)):Fence:={Fence.wide with round:=ro.map (·.1)}
theorem GN(ro:Option (Nat×Loop)){o:Oper}{a:Act}{K:Act->World->Prop}{r:Result Next}(h:o.uponIn Fence.wide 0 P a K Q r):o.uponIn (Fw ro) 0 P a K Q r:=by
 cases r with
 |halt x w=>cases x<;>exact h
 |ok x w=>cases x<;>exact h
theorem sQ(ro:Option (Nat×Loop)){o:Oper}{a:Act}{w:World}{K:Act->World->Prop}(hd:∀c,o.op≠ .defer c)(h:o.uponIn Fence.wide 0 P a K Q ((execOp a.eval o).run P w)):o.wpIn (Fw ro) 0 P a w K Q:=
 ⟨λ_ _=>trivial,by rw[Oper.semAt_eq _ _ _ hd];exact GN ro h⟩
theorem DQ(ro:Option (Nat×Loop)){i:Nat}{a:Act}{w:World}{K:Act->World->Prop}(hd:∀(j:Nat) (o:Oper) c,ops[j]?=some o->o.op≠ .defer c)(h:jc P ops Q i K a w):wpOpIn (Fw ro) 0 P ops Q i K a w:=by
 unfold jc at h
 unfold wpOpIn
 cases ho:ops[i]? with
 |none=>simp only[ho]at h |-;exact h
 |some o=>
  simp only[ho]at h |-
  split<;>rename_i hw<;>simp only[hw,if_true,if_false,Bool.false_eq_true]at h
  ·exact sQ ro (λc=>hd i o c ho) h
  ·exact⟨λ_ _=>trivial,h⟩
def uH(P:Program)(ops:Array Oper)(Q:Exit->Act->World->Prop)(S:World->Prop):Nat->Array Bool->Act->World->Prop
 |0,af,a,w=>Region.ready .any ops af=[]/\Q .normal a w
 |fuel+1,af,a,w=>
  (Region.ready .any ops af=[]->Q .normal a w)/\
  ∀i∈Region.ready .any ops af,jc P ops Q i (λa' w'=>(late ops i=true->S w->S w')/\uH P ops Q S fuel (af.setIfInBounds i true) a' w') a w
theorem rp(ro:Option (Nat×Loop))(hd:∀(j:Nat) (o:Oper) c,ops[j]?=some o->o.op≠ .defer c):∀(fuel:Nat) (af:Array Bool) (a:Act) (w:World),uH P ops Q S fuel af a w->wpAnyIn (Fw ro) 0 P .any ops Q fuel af a w
 |0,_,_,_,h=>h
 |fuel+1,_,_,_,h=>⟨h.1,λi hi=>wpOpIn_mono (λa' w' h'=>rp ro hd fuel _ a' w' h'.2) (DQ ro hd (h.2 i hi))⟩
def Cl(ops:Array Oper)(af:Array Bool):Prop:=∀y oy,ops[y]?=some oy->af.getD y false=true->∀e∈oy.after,Region.binds .any e=true->af.getD e.on false=true
theorem Cl.none(ops:Array Oper)(n:Nat):Cl ops (Array.replicate n false):=by
 intro y oy _ h
 rw[Array.getD_eq_getD_getElem?,Array.getElem?_replicate]at h
 split at h<;>simp at h
theorem Cl.set{af:Array Bool}{i:Nat}(h:Cl ops af)(hi:i∈Region.ready .any ops af):Cl ops (af.setIfInBounds i true):=by
 have mono:∀x,af.getD x false=true->(af.setIfInBounds i true).getD x false=true:=by
  intro x hx
  by_cases hix:i=x
  ·subst hix
   have:i<af.size:=by
    rcases Nat.lt_or_ge i af.size with h'|h'
    ·exact h'
    ·rw[Array.getD_eq_getD_getElem?,Array.getElem?_eq_none h']at hx;cases hx
   simp[Array.getD_eq_getD_getElem?,this]
  ·rw[getD_set_ne false hix];exact hx
 intro y oy hy hl e he hb
 by_cases hiy:i=y
 ·subst hiy
  obtain⟨_,oj,fL,d_⟩:=mem_ready.1 hi
  rw[fL]at hy
  cases hy
  exact mono _ (d_ e he hb)
 ·rw[getD_set_ne false hiy]at hl
  exact mono _ (h y oy hy hl e he hb)
theorem Cl.qY{af:Array Bool}{j:Nat}(h:Cl ops af)(hl:af.getD j false=true):∀x∈qY ops j,af.getD x false=true:=by
 intro x hx
 unfold az.qY at hx
 split at hx
 ·cases hx
 ·rename_i o ho
  obtain⟨e,he,rfl⟩:=List.mem_map.1 hx
  rw[List.mem_filter]at he
  exact h j o ho hl e (by simpa using he.1) he.2
theorem Cl.vN{af:Array Bool}(h:Cl ops af):∀(n:Nat) (S:List Nat),(∀x∈S,af.getD x false=true)->∀x∈vN ops n S,af.getD x false=true
 |0,_,hS=>hS
 |n+1,S,hS=>by
  simp only[az.vN]
  refine Cl.vN h n _ ?_
  cases hm:bA S n with
  |false=>exact hS
  |true=>
   intro x hx
   simp only[cond_true,List.mem_append]at hx
   exact hx.elim (h.qY (hS n (cV.1 hm)) x) (hS x)
theorem Ua{i j:Nat}{oi:Oper}{af:Array Bool}(gu:Cl ops af)(hi:ops[i]?=some oi)(hti:reads oi=true)(hir:i∈Region.ready .any ops af)(hjr:j∈Region.ready .any ops af)(bm:j≠i):late ops j=true:=by
 unfold late PN
 rw[List.any_eq_true]
 refine⟨i,List.mem_range.2 (Array.getElem?_eq_some_iff.1 hi).1,?_⟩
 simp only[xU,hi,hti,Bool.and_true,Bool.and_eq_true,Bool.not_eq_true']
 refine⟨?_,?_⟩
 ·cases h:Nat.beq i j with
  |false=>rfl
  |true=>exact absurd (beq_iff.1 h).symm bm
 ·cases hp:bA (RQ ops j) i with
  |false=>rfl
  |true=>
   exfalso
   obtain⟨_,oj,fL,d_⟩:=mem_ready.1 hjr
   have h0:=(mem_ready.1 hir).1
   have hl:af.getD i false=true:=by
    refine gu.vN ops.size (qY ops j) (λx hx=>?_) i (cV.1 hp)
    unfold qY at hx
    simp only[fL]at hx
    obtain⟨e,he,rfl⟩:=List.mem_map.1 hx
    rw[List.mem_filter]at he
    exact d_ e (by simpa using he.1) he.2
   rcases Nat.lt_or_ge i af.size with h'|h'
   ·simp[h']at h0 hl;rw[h0]at hl;cases hl
   ·rw[Array.getD_eq_getD_getElem?,Array.getElem?_eq_none h']at hl;cases hl
theorem sR{i:Nat}{oi:Oper}{v:Value}(hi:ops[i]?=some oi)(tK:∀(j:Nat) (o:Oper) cs b,ops[j]?=some o->o.op≠ .select cs b)
  (hQ:∀c a w,Q (.panic c) (a.put oi.dst v) w->Q (.panic c) a w):
  ∀(fuel:Nat) (af:Array Bool) (a:Act) (w:World),
   (∀j oj,ops[j]?=some oj->j≠i->af.getD j true=false->(∀e∈oj.after,Region.binds .any e=true->e.on≠i)->oi.apart ops oj=true)->
   Cl ops af->i∈Region.ready .any ops af->YieldsIf P ops (λw=>reads oi=true->S w) oi v a->(reads oi=true->S w)->
   uH P ops Q S fuel (af.setIfInBounds i true) (a.put oi.dst v) w->uH P ops Q S (fuel+1) af a w:=by
 intro fuel
 induction fuel with
 |zero=>
  intro af a w _ _ hr hy hS H
  refine⟨λh=>(by rw[h]at hr;cases hr),λj hj=>?_⟩
  by_cases yK:j=i
  ·subst yK;exact Js hi hy hS ⟨λ_ h=>h,H⟩
  ·have:=ready_mono hj yK
   rw[H.1]at this
   cases this
 |succ fuel ih=>
  intro af a w fM gu hr hy hS H
  refine⟨λh=>(by rw[h]at hr;cases hr),λj hj=>?_⟩
  by_cases yK:j=i
  ·subst yK;exact Js hi hy hS ⟨λ_ h=>h,H⟩
  ·have h1:=H.2 j (ready_mono hj yK)
   obtain⟨Qv,oj,fL,d_⟩:=mem_ready.1 hj
   have Mu:∀e∈oj.after,Region.binds .any e=true->e.on≠i:=λe he hb heq=>by
    have h1:=d_ e he hb
    have h0:=(mem_ready.1 hr).1
    rw[heq]at h1
    rcases Nat.lt_or_ge i af.size with h'|h'
    ·simp[h']at h0 h1;rw[h0]at h1;cases h1
    ·simp[Array.getElem?_eq_none h']at h1
   have h2:=AH fL (fM j oj fL yK Qv Mu) (λcs b=>tK i oi cs b hi) (λcs b=>tK j oj cs b fL) hQ hy h1
   have CR:∀k ok,ops[k]?=some ok->k≠i->(af.setIfInBounds j true).getD k true=false->
     (∀e∈ok.after,Region.binds .any e=true->e.on≠i)->oi.apart ops ok=true:=λk ok hk hki hun iA=>by
    refine fM k ok hk hki ?_ iA
    by_cases Wx:j=k
    ·subst Wx;exact Qv
    ·rw[getD_set_ne true Wx]at hun;exact hun
   refine rn (λa' w' h3=>⟨h3.2.1,ih (af.setIfInBounds j true) a' w' CR (gu.set hj) (ready_mono hr (Ne.symm yK)) h3.1 (λeF=>h3.2.1 (Ua gu hi eF hr hj yK) (hS eF)) ?_⟩) h2
   rw[Array.setIfInBounds_comm _ _ yK]
   exact h3.2.2
end
section
variable {E:Env} {C:Ctx} {a:Act} {wa:World} {st:St} {u u0:UW} {θ:Nat->Nat} {fz:List Nat} {o:Oper} {K:St->UW->Prop}
structure jk(u0:UW)(st:St)(θ:Nat->Nat)(w:World):Prop where
 zY:vC u0.toWorld w
 boxes:∀k m,(k,m)∈st.D->∃c T,w.heap[θ k]?=some (.cells c T (0,0))/\c.size=m/\∀j,j<m->R θ (st.σ (gx k j)) (c.getD j undef)
def Tk(E:Env)(a:Act)(o:Oper)(st:St)(u0:UW)(θ:Nat->Nat)(K:St->UW->Prop):Prop:=
 ∃v r,R θ v r/\(∀k o,v=cY k o->∃m,(k,m)∈st.D)/\K (fin o st v) u0/\∀w,(reads o=true->jk u0 st θ w)->(execOp a.eval o).run E.P w=.ok (.value r) w
theorem wJ{v:Value}(hp:plain v=true)(hK:K (fin o st v) u0)(hr:∀w,(reads o=true->jk u0 st θ w)->(execOp a.eval o).run E.P w=.ok (.value v) w):Tk E a o st u0 θ K:=
 ⟨v,v,mK hp,λk o e=>absurd e (iI hp k o),hK,hr⟩
theorem BV{k off:Nat}(hm:∃m,(k,m)∈st.D)(hK:K (fin o st (cY k off)) u0)(hr:∀w,(reads o=true->jk u0 st θ w)->(execOp a.eval o).run E.P w=.ok (.value (.pointer (some ⟨θ k,off,none⟩))) w):Tk E a o st u0 θ K:=
 ⟨cY k off,_,rfl,λk' o' e=>(by simp only[Value.complex.injEq,true_and]at e;rw[<- e.1];exact hm),hK,hr⟩
theorem Tb{t:TypeId}{x:Operand}{lo hi mx:Option Operand}
  (h:match E.P.underlying t,ev st.σ x with
   |some (.slice e),.slice b len cap=>(match cE (ev st.σ) lo 0,cE (ev st.σ) hi len,cE (ev st.σ) mx cap with
    |some l,some h,some m=>(bif (mx.isSome&&hi.isNone)||(E.P.info? e).isNone then False else(m.toNat=l.toNat\/fW b)/\0<=l/\l<=h/\h<=m/\m<=cap/\K (fin o st (.slice (sX b l.toNat m.toNat (E.P.cellsOf e)) (h.toNat-l.toNat) (m.toNat-l.toNat))) u0)
    |_,_,_=>False)
   |some .string,.string s=>(match mx with
    |some _=>False
    |none=>match cE (ev st.σ) lo 0,cE (ev st.σ) hi s.size with
     |some l,some h=>0<=l/\l<=h/\h<=s.size/\K (fin o st (.string (s.extract l.toNat h.toNat))) u0
     |_,_=>False)
   |_,_=>False) (ho:o.op=.slice t x lo hi mx) (aD:bh C.n o=true) (hI:Inv C a wa st u θ):Tk E a o st u0 θ K:=by
 have hx:cn C.n x=true:=jt aD (by simp[ho,Op.operands])
 have iV:∀y k i,(lo=some y\/hi=some y\/mx=some y)->ev st.σ y=.int k i->a.eval y=.int k i:=by
  intro y k i hy he
  refine aR hI (jt aD ?_) he rfl
  rcases hy with rfl|rfl|rfl<;>simp[ho,Op.operands]
 split at h
 ·rename_i e b len cap hu he
  split at h
  ·rename_i l h' m hl hh hm
   cases tN:(mx.isSome&&hi.isNone)||(E.P.info? e).isNone with
   |true=>simp only[tN,cond_true]at h
   |false=>
    simp only[tN,cond_false]at h
    simp only[Bool.or_eq_false_iff]at tN
    obtain⟨QB,Ai⟩:=tN
    obtain⟨i,wQ⟩:∃i,E.P.info? e=some i:=by cases hq:E.P.info? e<;>simp_all
    obtain⟨NB,h0,h1,h2,h3,hK⟩:=h
    refine wJ rfl hK λw _=>?_
    simp only[execOp,ho,aR hI hx he rfl,Sem.run_bind,Instr.sliceAt,aL hu,Result.andThen_ok,Instr.slice,mo iV hl hh hm QB h0 h1 h2 h3,bO wQ,Sem.run_pure]
    congr 3
    unfold sX
    split
    ·rfl
    ·rename_i uE
     cases b with
     |none=>rfl
     |some b=>
      simp only[Option.map_some,Option.some.injEq]
      unfold Addr.add
      split
      ·rename_i Al
       obtain⟨bb,bo,bs⟩:=b
       have:=(NB.resolve_left uE) _ rfl
       simp only at this
       subst this
       simp[Al]
      ·rfl
  ·exact h.elim
 ·rename_i s hu he
  cases mx with
  |some _=>exact h.elim
  |none=>
   simp only at h
   split at h
   ·rename_i l h' hl hh
    obtain⟨h0,h1,h2,hK⟩:=h
    refine wJ rfl hK λw _=>?_
    have hb:=mo (P:=E.P) (w:=w) (isS:=false) (len:=s.size) (cap:=s.size) (mx:=none) (m:=s.size) (λy k i hy=>iV y k i (by rcases hy with h|h|h;exact .inl h;exact .inr (.inl h);cases h)) hl hh rfl (by simp) h0 h1 h2 (by omega)
    simp only[execOp,ho,aR hI hx he rfl,Sem.run_bind,Instr.sliceAt,aL hu,Result.andThen_ok,Instr.slice]
    simp only[Option.map_none]at hb
    simp only[Option.map_none,Option.isSome_none,Bool.false_eq_true,if_false,Sem.run_bind,hb,Result.andThen_ok,Sem.run_pure]
   ·exact h.elim
 ·exact h.elim
theorem acn{t:TypeId}{x:Operand}{f:Nat}
  (h:match ev st.σ x with
   | .agg cs=>(match Am E.P t f cs.toList with
     |some v=>bif plain v then K (fin o st v) u0 else False
     |none=>False)
   |_=>False) (ho:o.op=.field t x f) (aD:bh C.n o=true) (hI:Inv C a wa st u θ):Tk E a o st u0 θ K:=by
 have hx:cn C.n x=true:=jt aD (by simp[ho,Op.operands])
 split at h
 ·rename_i cs he
  cases hv:Am E.P t f cs.toList with
  |none=>simp only[hv]at h
  |some v=>
   simp only[hv]at h
   obtain⟨lC,h⟩:=ak h
   refine wJ lC h λw _=>?_
   unfold Am at hv
   cases hu:E.P.underlying t with
   |none=>simp[hu]at hv
   |some D=>
    cases D<;>simp only[hu]at hv<;>try (cases hv;done)
    rename_i fs
    cases hf:fs[f]? with
    |none=>simp[hf]at hv
    |some y=>
     simp only[hf,Bool.cond_eq_ite,Bool.and_eq_true,Nat.ble_eq]at hv
     split at hv
     ·rename_i hc
      obtain⟨hi,hle⟩:=hc
      obtain⟨d,Wj⟩:=Option.isSome_iff_exists.1 hi
      simp only[execOp,ho,aR hI hx he rfl,Instr.field,Sem.run_bind,aL hu,Result.andThen_ok,hf,asAgg,Sem.run_pure]
      split at hv
      ·rename_i kL
       simp only[Option.some.injEq]at hv
       rw[eZ Wj kL,<- hv]
       simp only[Result.andThen_ok]
       congr 3
       apply Array.toList_inj.1
       rw[Array.toList_extract,List.extract_eq_take_drop]
       simp
      ·rename_i kL
       simp only[Bool.not_eq_true]at kL
       rw[gE Wj kL (v:=v) (by simpa using hv)]
       rfl
     ·cases hv
 ·exact h.elim
theorem agA{b:Builtin}{args:Array Operand}{ts:Array TypeId}(ht:aV o=true)(h:W1b E o st u0 b args.toList ts.toList K)(ho:o.op=.call ⟨.builtin b,args,ts⟩)(aD:bh C.n o=true)(hI:Inv C a wa st u θ):Tk E a o st u0 θ K:=by
 have ka:∀x∈args.toList,cn C.n x=true:=λx hx=>jt aD (by simp[ho,Op.operands,Call.operands];simpa using hx)
 obtain⟨args⟩:=args
 obtain⟨ts⟩:=ts
 simp only at h ka
 unfold W1b at h
 split at h
 ·rename_i x t
  have kx:=ka x (by simp)
  split at h
  ·rename_i n c hu he
   refine wJ rfl h λw _=>?_
   refine bS (s:=Builtin.len_ #[t] o.type #[a.eval x]) ho (λ_=>by simp[builtin]) ?_
   simp[Builtin.len_,aL hu,aR hI kx he rfl,goInt]
  ·rename_i s hu he
   refine wJ rfl h λw _=>?_
   refine bS (s:=Builtin.len_ #[t] o.type #[a.eval x]) ho (λ_=>by simp[builtin]) ?_
   simp[Builtin.len_,aL hu,aR hI kx he rfl,goInt]
  ·rename_i n e hu
   obtain⟨_,h⟩:=ak h
   refine wJ rfl h λw _=>?_
   refine bS (s:=Builtin.len_ #[t] o.type #[a.eval x]) ho (λ_=>by simp[builtin]) ?_
   simp[Builtin.len_,aL hu,goInt]
  ·exact h.elim
 ·rename_i x y t t'
  simp[aV,ho]at ht
 ·split at h
  ·rename_i k i is hi
   refine wJ rfl h λw _=>?_
   obtain⟨he,_⟩:=tI hI ka hi
   refine bS (s:=(is.map (Value.int k)).foldlM Builtin.min2 (.int k i)) ho (λ_=>?_) (Cf is i)
   simp only[builtin,Builtin.min_,List.map_toArray,he,List.map_cons]
  ·exact h.elim
 ·split at h
  ·rename_i k i is hi
   refine wJ rfl h λw _=>?_
   obtain⟨he,_⟩:=tI hI ka hi
   refine bS (s:=(is.map (Value.int k)).foldlM Builtin.max2 (.int k i)) ho (λ_=>?_) (Cg is i)
   simp only[builtin,Builtin.max_,List.map_toArray,he,List.map_cons]
  ·exact h.elim
 ·exact h.elim
theorem Lg(ht:aV o=true)(aD:bh C.n o=true)(hI:Inv C a wa st u θ)(h:W1 E fz o st u0 K):Tk E a o st u0 θ K:=by
 have DG:∀{x:Operand},x∈o.op.operands->cn C.n x=true:=λhx=>jt aD hx
 cases ho:o.op with
 |move x=>
  simp only[W1,ho]at h
  have hx:=DG (x:=x) (by simp[ho,Op.operands])
  exact⟨_,_,CY hI hx,λk o' e=>(jg hI hx e).2,h,λw _=>by simp[execOp,ho]⟩
 |assign x=>
  simp only[W1,ho]at h
  have hx:=DG (x:=x) (by simp[ho,Op.operands])
  exact⟨_,_,CY hI hx,λk o' e=>(jg hI hx e).2,h,λw _=>by simp[execOp,ho]⟩
 |pick c x y=>
  simp only[W1,ho]at h
  have hx:=DG (x:=x) (by simp[ho,Op.operands])
  have hy:=DG (x:=y) (by simp[ho,Op.operands])
  have hc:=DG (x:=c) (by simp[ho,Op.operands])
  split at h
  ·rename_i t hct
   have hec:=aR hI hc hct rfl
   cases t with
   |true=>exact⟨_,_,CY hI hx,λk o' e=>(jg hI hx e).2,h,λw _=>by simp[execOp,ho,hec,asBool]⟩
   |false=>exact⟨_,_,CY hI hy,λk o' e=>(jg hI hy e).2,h,λw _=>by simp[execOp,ho,hec,asBool]⟩
  ·exact h.elim
 |build t ps=>
  simp only[W1,ho]at h
  obtain⟨hp,h⟩:=ak h
  have hx:∀x∈ps.toList,cn C.n x.2=true:=λx hx=>jt aD (by simp only[ho,Op.operands];simp only[List.mem_toArray,List.mem_map];exact⟨x,hx,rfl⟩)
  cases hb:Vr E.P t (ps.toList.map λp=>(p.1,ev st.σ p.2))with
  |none=>simp only[hb]at h
  |some vs=>
   simp only[hb]at h
   refine wJ rfl h λw _=>?_
   have e:=tt hI hx hp
   simp only[execOp,ho,e,Sem.run_bind]
   rw[run_build (r:=vs) (by simpa using hb)]
   rfl
 |load t x=>
  simp only[W1,ho]at h
  have hx:=DG (x:=x) (by simp[ho,Op.operands])
  cases hk:kinds E.P t with
  |none=>simp only[hk]at h
  |some ks=>
   simp only[hk]at h
   obtain⟨Fm,⟨d,hu⟩,uF⟩:=jK hk
   split at h
   ·rename_i k off he
    cases hb:bY st.D k with
    |none=>simp only[hb]at h
    |some m=>
     simp only[hb]at h
     obtain⟨hc,h⟩:=ak h
     simp only[Bool.and_eq_true,Nat.ble_eq]at hc
     obtain⟨h1,h2⟩:=hc
     have hp:=lY h2
     have iV:=(jg hI hx he).1
     refine wJ (lO hp (uF.imp id λh=>by rw[rI];exact h)) h λw hw=>?_
     obtain⟨c,T,b1,b2,b3⟩:=(hw (by simp[reads,ho])).boxes k m (iO hb)
     have yJ:=fS b2 b3 ks.length off h1 hp
     simp only[execOp,ho,iV,Instr.loadAt,Instr.sureAddr,Sem.run_bind,Sem.run_pure,Result.andThen_ok]
     rw[gm hk b1 (by omega),yJ]
     rfl
   ·obtain⟨b,off,hv,h⟩:=eV h
    obtain⟨vs,hlen,hp,eF,h⟩:=oV h
    have iV:=aR hI hx hv rfl
    by_cases hz:ks.length=0
    ·have kL:bG E.P t=true:=uF.resolve_right (by omega)
     have vc:vs=[]:=List.eq_nil_of_length_eq_zero (by omega)
     subst vc
     obtain⟨i,hi⟩:=fJ hu
     refine wJ (by rw[kL];rfl) h λw _=>?_
     simp only[execOp,ho,iV,Instr.loadAt,Instr.sureAddr,Sem.run_bind,Sem.run_pure,Result.andThen_ok,loadVar,jB hu,kL,if_true,bO hi,<- Fm,hz]
     rfl
    ·refine wJ (lO hp (uF.imp id λh=>by omega)) h λw hw=>?_
     obtain⟨c,T,f,c1,c2,c3⟩:=pU (hw (by simp[reads,ho])).zY eF hz
     simp only[execOp,ho,iV,Instr.loadAt,Instr.sureAddr,Sem.run_bind,Sem.run_pure,Result.andThen_ok]
     rw[gm hk c1 c2,<- c3]
     rfl
 |nilCheck x=>
  simp only[W1,ho]at h
  have hx:=DG (x:=x) (by simp[ho,Op.operands])
  split at h
  ·rename_i k off he
   obtain⟨iV,hm⟩:=jg hI hx he
   exact BV hm h λw _=>by simp[execOp,ho,iV]
  ·rename_i p he
   have iV:=aR hI hx he rfl
   cases p with
   |none=>exact h.elim
   |some p=>exact wJ rfl h λw _=>by simp[execOp,ho,iV]
  ·rename_i f p q he
   have iV:=aR hI hx he rfl
   cases f with
   |method n=>exact h.elim
   |_=>exact wJ rfl h (λw _=>by simp[execOp,ho,iV])
  ·exact h.elim
 |binOp op t x y t'=>
  simp only[W1,ho]at h
  have hx:=DG (x:=x) (by simp[ho,Op.operands])
  have hy:=DG (x:=y) (by simp[ho,Op.operands])
  obtain⟨px,py,v,hp,hK,d_⟩:=zi h x y
  refine wJ hp hK λw _=>?_
  simp only[execOp,ho]
  rw[lV hI hx px,lV hI hy py]
  rw[Sem.run_bind,d_ w]
  rfl
 |unOp op t x=>
  simp only[W1,ho]at h
  have hx:=DG (x:=x) (by simp[ho,Op.operands])
  split at h
  ·rename_i b he
   exact wJ rfl h λw _=>by simp[execOp,ho,aR hI hx he rfl,Op.unary]
  ·rename_i k n he
   exact wJ rfl h λw _=>by simp[execOp,ho,aR hI hx he rfl,Op.unary,Op.intArith]
  ·exact h.elim
 |convert s d x=>
  simp only[W1,ho]at h
  have hx:=DG (x:=x) (by simp[ho,Op.operands])
  obtain⟨hp,h⟩:=ak h
  cases hv:pv E.P (convert s d (ev st.σ x))with
  |none=>simp only[hv]at h
  |some v=>
   simp only[hv]at h
   obtain⟨lC,h⟩:=ak h
   refine wJ lC h λw _=>?_
   simp only[execOp,ho,lV hI hx hp,Sem.run_bind,uR hv w]
   rfl
 |makeInterface t x=>
  simp only[W1,ho]at h
  have hx:=DG (x:=x) (by simp[ho,Op.operands])
  obtain⟨hp,h⟩:=ak h
  cases hv:pv E.P (Instr.makeInterface t (ev st.σ x))with
  |none=>simp only[hv]at h
  |some v=>
   simp only[hv]at h
   obtain⟨lC,h⟩:=ak h
   refine wJ lC h λw _=>?_
   simp only[execOp,ho,lV hI hx hp,Sem.run_bind,uR hv w]
   rfl
 |makeFunc fn first captured=>
  simp only[W1,ho]at h
  obtain⟨hc,h⟩:=ak h
  simp only[Bool.and_eq_true]at hc
  have h1:∀x∈first.toList,cn C.n x=true:=λx hx=>jt aD (by simp[ho,Op.operands];left;simpa using hx)
  have h2:∀x∈captured.toList,cn C.n x=true:=λx hx=>jt aD (by simp[ho,Op.operands];right;simpa using hx)
  refine wJ rfl h λw _=>?_
  simp only[execOp,ho,qm hI h1 hc.1,qm hI h2 hc.2,Instr.makeFunc]
  rfl
 |slice t x lo hi mx=>
  simp only[W1,ho]at h
  exact Tb h ho aD hI
 |fieldAddr t x f=>
  simp only[W1,ho]at h
  have hx:=DG (x:=x) (by simp[ho,Op.operands])
  cases hd:vl E.P t f with
  |none=>simp only[hd]at h
  |some d=>
   simp only[hd]at h
   split at h
   ·rename_i k off he
    obtain⟨iV,hm⟩:=jg hI hx he
    exact BV hm h λw _=>by simp only[execOp,ho,iV,Sem.run_bind,kD hd];rfl
   ·obtain⟨b,off,hv,h⟩:=eV h
    have iV:=aR hI hx hv rfl
    exact wJ rfl h λw _=>by simp only[execOp,ho,iV,Sem.run_bind,kD hd];rfl
 |field t x f=>simp only[W1,ho]at h;exact acn h ho aD hI
 |indexAddr t x i=>
  simp only[W1,ho]at h
  have hx:=DG (x:=x) (by simp[ho,Op.operands])
  have hi:=DG (x:=i) (by simp[ho,Op.operands])
  split at h
  ·rename_i e b len c k j hu he Ih
   obtain⟨gp,h⟩:=ak h
   obtain⟨ie,Ai⟩:=Option.isSome_iff_exists.1 gp
   obtain⟨bb,off,rfl,h1,h2,h⟩:=eM h
   refine wJ rfl h λw _=>?_
   simp only[execOp,ho,aR hI hx he rfl,aR hI hi Ih rfl,Instr.indexAt,asIntOf,Sem.run_bind,Sem.run_pure,Result.andThen_ok,aL hu]
   rw[if_pos ⟨h1,h2⟩]
   simp only[Sem.run_bind,bO Ai,Result.andThen_ok,Sem.run_pure,iQ]
  ·rename_i len e k off kk j hu he Ih
   obtain⟨hc,h⟩:=ak h
   simp only[Bool.and_eq_true,decide_eq_true_eq]at hc
   obtain⟨⟨h1,h2⟩,gp⟩:=hc
   obtain⟨ie,Ai⟩:=Option.isSome_iff_exists.1 gp
   obtain⟨iV,hm⟩:=jg hI hx he
   refine BV hm h λw _=>?_
   simp only[execOp,ho,iV,aR hI hi Ih rfl,Instr.indexAt,asIntOf,Sem.run_bind,Sem.run_pure,Result.andThen_ok,aL hu,Instr.sureAddr]
   rw[if_pos ⟨h1,h2⟩]
   simp only[Sem.run_bind,bO Ai,Result.andThen_ok,Sem.run_pure,iQ]
  ·exact h.elim
 |index t x i=>
  simp only[W1,ho]at h
  have hx:=DG (x:=x) (by simp[ho,Op.operands])
  have hi:=DG (x:=i) (by simp[ho,Op.operands])
  split at h
  ·rename_i s k j hu he Ih
   obtain⟨h1,c,h2,h⟩:=h
   refine wJ rfl h λw _=>?_
   simp only[execOp,ho,aR hI hx he rfl,aR hI hi Ih rfl,Instr.index,asIntOf,Sem.run_bind,Sem.run_pure,Result.andThen_ok,aL hu,if_pos h1,h2]
  ·rename_i len e cs k j hu he Ih
   obtain⟨h1,h2,gp,v,hv,lC,h⟩:=h
   obtain⟨ie,Ai⟩:=Option.isSome_iff_exists.1 gp
   refine wJ lC h λw _=>?_
   simp only[execOp,ho,aR hI hx he rfl,aR hI hi Ih rfl,Instr.index,asIntOf,Sem.run_bind,Sem.run_pure,Result.andThen_ok,aL hu,if_pos (show(0:Int)<=j/\j<len from⟨h1,h2⟩),bO Ai]
   rw[JN hv];rfl
  ·exact h.elim
 |extract x i=>
  simp only[W1,ho]at h
  have hx:=DG (x:=x) (by simp[ho,Op.operands])
  split at h
  ·rename_i vs he
   cases hv:vs[i]? with
   |none=>simp only[hv]at h
   |some v=>
    simp only[hv]at h
    obtain⟨lC,h⟩:=ak h
    exact wJ lC h λw _=>by simp[execOp,ho,aR hI hx he rfl,Instr.extract,hv]
  ·exact h.elim
 |call c=>
  simp only[W1,ho]at h
  obtain⟨callee,args,ts⟩:=c
  cases callee with
  |builtin b=>simp only at h;exact agA ht h ho aD hI
  |value f=>simp[aV,ho]at ht
  |invoke r m=>simp[aV,ho]at ht
 |_=>simp[aV,ho]at ht
theorem An{ops:Array Oper}{af:Array Bool}{j:Nat}:∀l:List Nat,gK ops af l=some j->j∈l/\∃oj,ops[j]?=some oj/\aV oj=true/\Region.free .any ops af j=true:=by
 intro l
 induction l with
 |nil=>intro h;simp[gK]at h
 |cons x l ih=>
  intro h
  simp only[gK]at h
  cases hx:ops[x]? with
  |none=>
   simp only[hx,Bool.false_and,cond_false]at h
   obtain⟨h1,h2⟩:=ih h;exact⟨by simp[h1],h2⟩
  |some ox=>
   simp only[hx]at h
   cases hc:aV ox&&Region.free .any ops af x with
   |true=>
    simp only[hc,cond_true,Option.some.injEq]at h
    subst h
    simp only[Bool.and_eq_true]at hc
    exact⟨by simp,ox,hx,hc.1,hc.2⟩
   |false=>
    simp only[hc,cond_false]at h
    obtain⟨h1,h2⟩:=ih h;exact⟨by simp[h1],h2⟩
inductive PS(ops:Array Oper)(af:Array Bool):Nat->gY->Prop
 |nil (f:Nat) (h:Region.ready .any ops af=[]):PS ops af f .nil
 |tk (f j:Nat) (p:gY) (oj:Oper) (ho:ops[j]?=some oj) (ht:aV oj=true) (hf:Region.free .any ops af j=true) (hr:j∈Region.ready .any ops af) (hp:dt ops f (af.setIfInBounds j true)=some p):PS ops af (f+1) (.tk j p)
 |ef (f i:Nat) (p:gY) (hr:Region.ready .any ops af=[i]) (h1:br ops i p=true) (hp:dt ops f (af.setIfInBounds i true)=some p):PS ops af (f+1) (.ef i p)
 |QR (f i j:Nat) (p q:gY) (hr:Region.ready .any ops af=[i,j]) (h1:br ops i p=true) (h2:br ops j q=true) (hp:dt ops f (af.setIfInBounds i true)=some p) (hq:dt ops f (af.setIfInBounds j true)=some q):PS ops af (f+1) (.QR i p j q)
 |QO (f i j k:Nat) (p q r:gY) (hr:Region.ready .any ops af=[i,j,k]) (h1:br ops i p=true) (h2:br ops j q=true) (h3:br ops k r=true) (hp:dt ops f (af.setIfInBounds i true)=some p) (hq:dt ops f (af.setIfInBounds j true)=some q) (Ms:dt ops f (af.setIfInBounds k true)=some r):PS ops af (f+1) (.QO i p j q k r)
theorem x_:∀(f:Nat) (af:Array Bool) (p:gY) (ops:Array Oper),dt ops f af=some p->PS ops af f p
 |0,af,p,ops,h=>by
  simp only[dt]at h
  cases hr:Region.ready .any ops af with
  |nil=>simp only[hr,Option.some.injEq]at h;subst h;exact .nil 0 hr
  |cons i rs=>simp[hr]at h
 |f+1,af,p,ops,h=>by
  simp only[dt]at h
  cases hr:Region.ready .any ops af with
  |nil=>simp only[hr,Option.some.injEq]at h;subst h;exact .nil _ hr
  |cons i rs=>
   simp only[hr]at h
   cases hf:gK ops af (i::rs)with
   |some j=>
    simp only[hf]at h
    obtain⟨dv,oj,ho,ir,hfr⟩:=An _ hf
    cases hp:dt ops f (af.setIfInBounds j true)with
    |none=>simp[hp]at h
    |some p'=>
     simp only[hp,Option.some.injEq]at h
     subst h
     exact .tk f j p' oj ho ir hfr (by rw[hr];exact dv) hp
   |none=>
    simp only[hf]at h
    match rs,hr,h with
    |[],hr,h=>
     cases hp:dt ops f (af.setIfInBounds i true)with
     |none=>simp[hp]at h
     |some p'=>
      simp only[hp]at h
      cases hc:br ops i p' with
      |false=>simp[hc]at h
      |true=>simp only[hc,cond_true,Option.some.injEq]at h;subst h;exact .ef f i p' hr hc hp
    |[j],hr,h=>
     cases hp:dt ops f (af.setIfInBounds i true)with
     |none=>simp[hp]at h
     |some p'=>
      cases hq:dt ops f (af.setIfInBounds j true)with
      |none=>simp[hp,hq]at h
      |some q'=>
       simp only[hp,hq]at h
       cases hc:br ops i p'&&br ops j q' with
       |false=>simp[hc]at h
       |true=>
        simp only[hc,cond_true,Option.some.injEq]at h;subst h
        simp only[Bool.and_eq_true]at hc
        exact .QR f i j p' q' hr hc.1 hc.2 hp hq
    |[j,k],hr,h=>
     cases hp:dt ops f (af.setIfInBounds i true)with
     |none=>simp[hp]at h
     |some p'=>
      cases hq:dt ops f (af.setIfInBounds j true)with
      |none=>simp[hp,hq]at h
      |some q'=>
       cases Ms:dt ops f (af.setIfInBounds k true)with
       |none=>simp[hp,hq,Ms]at h
       |some r'=>
        simp only[hp,hq,Ms]at h
        cases hc:br ops i p'&&br ops j q'&&br ops k r' with
        |false=>simp[hc]at h
        |true=>
         simp only[hc,cond_true,Option.some.injEq]at h;subst h
         simp only[Bool.and_eq_true]at hc
         exact .QO f i j k p' q' r' hr hc.1.1 hc.1.2 hc.2 hp hq Ms
    |_::_::_::_,_,h=>simp at h
structure Syn(lI:St)(θ0:Nat->Nat)(st:St)(θ:Nat->Nat):Prop where
 D:st.D=lI.D
 θ:∀k m,(k,m)∈lI.D->θ k=θ0 k
 gh:∀k m,(k,m)∈lI.D->∀j,j<m->st.σ (gx k j)=lI.σ (gx k j)
theorem Se{θ θ':Nat->Nat}{v r:Value}(hnf:∀k o,v≠cY k o):R θ v r->R θ' v r:=λh=>Dr h λk o e=>absurd e (hnf k o)
theorem pO{lI st:St}{θ0 θ:Nat->Nat}(hs:Syn lI θ0 st θ)(hg:∀k m,(k,m)∈lI.D->∀j,j<m->∀k' o,lI.σ (gx k j)≠cY k' o)(w:World):jk u0 lI θ0 w↔jk u0 st θ w:=by
 constructor
 ·rintro⟨h1,h2⟩
  refine⟨h1,λk m hk=>?_⟩
  rw[hs.D]at hk
  obtain⟨c,T,e1,e2,e3⟩:=h2 k m hk
  exact⟨c,T,by rw[hs.θ k m hk];exact e1,e2,λj hj=>by rw[hs.gh k m hk j hj];exact Se (hg k m hk j hj) (e3 j hj)⟩
 ·rintro⟨h1,h2⟩
  refine⟨h1,λk m hk=>?_⟩
  obtain⟨c,T,e1,e2,e3⟩:=h2 k m (hs.D▸hk)
  exact⟨c,T,by rw[<- hs.θ k m hk];exact e1,e2,λj hj=>Se (hg k m hk j hj) (by rw[<- hs.gh k m hk j hj];exact e3 j hj)⟩
theorem Inv.JK(hI:Inv C a wa st u θ)(hs:qz u0 u):jk u0 st θ wa:=by
 refine⟨⟨hI.below.os.trans hs.os,hI.below.tape.trans hs.tape,hI.below.output.trans hs.output,Nat.le_trans hs.size hI.below.size,λb hb=>?_⟩,λk m hk=>?_⟩
 ·rw[<- hs.block b hb]
  exact hI.below.block b (Nat.lt_of_lt_of_le hb hs.size)
 ·obtain⟨_,c,T,h1,h2,h3,_⟩:=hI.boxes k m hk
  exact⟨c,T,h1,h2,h3⟩
def QN(Q:Act->World->Prop):Exit->Act->World->Prop
 | .normal,a,w=>Q a w
 |_,_,_=>False
theorem nK{ops:Array Oper}{oj:Oper}{act skip:St->Prop}{G:Prop}(aD:∀o∈ops.toList,bh C.n o=true)(hI:Inv C a wa st u θ)(h:guarded ops oj st act skip)
  (yes:Region.wanted oj (yielded ops a.tmps)=true->act st->G) (no:Region.wanted oj (yielded ops a.tmps)=false->skip st->G):G:=by
 unfold guarded at h
 cases hg:oj.guard with
 |none=>
  simp only[hg]at h
  exact yes (by simp[Region.wanted,hg]) h
 |some jb=>
  obtain⟨x,b⟩:=jb
  simp only[hg]at h
  cases vd:kO ops x with
  |none=>simp only[vd]at h
  |some g=>
   simp only[vd]at h
   have hgn:g<C.n:=by
    unfold kO at vd
    cases hj:ops[x]? with
    |none=>simp[hj]at vd
    |some ox=>
     simp only[hj,Option.bind_some]at vd
     exact dk (aD ox (by have:ops.toList[x]?=some ox:=by simpa using hj
                         exact List.mem_of_getElem? this)) g vd
   have Ui:yielded ops a.tmps x=match a.tmps.getD g undef with| .bool x=>some x|_=>none:=by
    unfold yielded
    unfold kO at vd
    rw[vd,Option.bind_some,getD_some hI.size hgn]
    cases a.tmps.getD g undef<;>rfl
   have tJ:=hI.gC g hgn
   split at h
   ·rename_i c hc
    rw[hc,gP rfl]at tJ
    rw[tJ]at Ui
    have hw:Region.wanted oj (yielded ops a.tmps)=(c == b):=by
     simp only[Region.wanted,hg,Ui]
     cases c<;>cases b<;>rfl
    cases c with
    |true=>
     simp only[ae]at h
     rw[sS hc]at h
     cases b with
     |true=>exact yes hw h
     |false=>exact no hw h
    |false=>
     simp only[ae]at h
     rw[sS hc]at h
     cases b with
     |true=>exact no hw h
     |false=>exact yes hw h
   ·rename_i vs hc
    rw[hc,gP rfl]at tJ
    rw[tJ]at Ui
    exact no (by simp[Region.wanted,hg,Ui]) h
   ·exact h.elim
def Sy(ops:Array Oper)(u0:UW)(w_:St)(θ0:Nat->Nat)(p:gY)(st:St)(u:UW)(θ:Nat->Nat):Prop:=(qz u0 u/\Syn w_ θ0 st θ)\/(cZ ops p=false/\bt ops p=false)
theorem Syn.fin{w_:St}{θ0:Nat->Nat}{oj:Oper}(iM:Syn w_ θ0 st θ)(fh:bh C.n oj=true)(hI:Inv C a wa st u θ)(v:Value):Syn w_ θ0 (fin oj st v) θ:=by
 refine⟨iM.D,iM.θ,λk m hk j hj=>?_⟩
 rw[<- iM.gh k m hk j hj]
 simp only[Go.az.fin]
 cases hd:oj.dst with
 |none=>rfl
 |some d=>
  simp only[put]
  have h1:=dk fh d hd
  rw[bH _ _ (show gx k j≠d from λe=>absurd (Nat.lt_of_lt_of_le h1 hI.gV) (Nat.not_lt.2 (e▸h_ k j)))]
theorem vv{a b c:World}(h:Below a.heap.size a b)(k:Below b.heap.size b c):Below a.heap.size a c:=
 ⟨k.os.trans h.os,k.tape.trans h.tape,k.output.trans h.output,Nat.le_trans h.size k.size,λi hi=>(k.block i (Nat.lt_of_lt_of_le hi h.size)).trans (h.block i hi)⟩
theorem aaX{fz ZO:List Nat}{o:Oper}{st:St}{u:UW}{K:St->UW->Prop}(hn:oI o=true)(hp:fV E.cU o=false)(h:W1 E fz o st u K):W1 E ZO o st u λbu u'=>Below u.heap.size u.toWorld u'.toWorld/\K bu u':=by
 unfold oI at hn
 unfold fV at hp
 unfold W1 at h |-
 split at hn
 ·rename_i t ho
  simp only[ho]at h hp |-
  cases hz:(E.P.info? t).bind (·.zero)with
  |none=>rw[hz]at h;exact h.elim
  |some z=>
   rw[hz]at h
   simp only at h |-
   cases hd:o.dst with
   |none=>rw[hd]at h;exact h.elim
   |some k=>
    rw[hd]at h hp
    simp only at h hp |-
    rw[hp]at h |-
    exact λb w' hb=>⟨hb.below,h b w' hb⟩
 ·rename_i t x ho
  simp only[ho]at h hp |-
  obtain⟨h1,h⟩:=ak h
  rw[h1]
  simp only[cond_true]
  cases hd:o.dst with
  |none=>rw[hd]at h;exact h.elim
  |some k=>
   rw[hd]at h hp
   simp only at h hp |-
   rw[hp]at h |-
   exact λb w' hb=>⟨hb.below,h b w' hb⟩
 ·rename_i t len ps ho
  simp only[ho]at h |-
  obtain⟨h1,h⟩:=ak h
  rw[h1]
  simp only[cond_true]
  cases he:oW E.P t with
  |none=>rw[he]at h;exact h.elim
  |some e=>
   rw[he]at h
   simp only at h |-
   cases hb:mJ (E.P.cellsOf e) 0 (ps.toList.map λp=>(p.1,ev st.σ p.2))with
   |none=>rw[hb]at h;exact h.elim
   |some vs=>
    rw[hb]at h
    simp only at h |-
    obtain⟨h2,h⟩:=ak h
    rw[h2]
    exact λb w' hb=>⟨hb.below,h b w' hb⟩
 ·cases hn
theorem Kc{fz:List Nat}{o:Oper}{K:St->UW->Prop}(hn:oI o=true)(aD:bh C.n o=true)(hI:Inv C a wa st u θ)(h:W1 E fz o st u K):∃v ob,(execOp a.eval o).run E.P wa=.ok (.value v) (wa.alloc ob):=by
 unfold oI at hn
 unfold W1 at h
 split at hn
 ·rename_i t ho
  simp only[ho]at h
  cases hz:(E.P.info? t).bind (·.zero)with
  |none=>rw[hz]at h;exact h.elim
  |some z=>
   refine⟨.pointer (some ⟨wa.heap.size,0,none⟩),.cells z.cells t (0,0),?_⟩
   simp only[execOp,ho,Sem.run_bind,AU hz,Result.andThen_ok];rfl
 ·rename_i t x ho
  simp only[ho]at h
  obtain⟨h1,h⟩:=ak h
  have hx:cn C.n x=true:=jt aD (by simp[ho,Op.operands])
  refine⟨.pointer (some ⟨wa.heap.size,0,none⟩),.cells (ev st.σ x).cells t (0,0),?_⟩
  simp only[execOp,ho,aR hI hx rfl h1,Sem.run_bind,JO,Result.andThen_ok];rfl
 ·rename_i t len ps ho
  simp only[ho]at h
  exact Tn ho aD hI h
 ·cases hn
theorem jk.alloc{w_:St}{θ0:Nat->Nat}{w:World}(h:jk u0 w_ θ0 w)(ob:Obj):jk u0 w_ θ0 (w.alloc ob):=by
 have hk:∀(b:Nat) (x:Obj),w.heap[b]?=some x->(w.alloc ob).heap[b]?=some x:=λb x hx=>by
  have bB:=(Array.getElem?_eq_some_iff.1 hx).1
  simp only[World.alloc]
  rw[Array.getElem?_push,if_neg (by omega)]
  exact hx
 refine⟨⟨h.zY.os,h.zY.tape,h.zY.output,?_,λb hb=>?_⟩,λk m hm=>?_⟩
 ·have:=h.zY.size
  simp only[World.alloc,Array.size_push];omega
 ·rcases h.zY.block b hb with e|e
  ·left
   have bB:b<w.heap.size:=Nat.lt_of_lt_of_le hb h.zY.size
   rw[e,hk b _ (Array.getElem?_eq_getElem bB),Array.getElem?_eq_getElem bB]
  ·exact .inr e
 ·obtain⟨c,T,h1,h2,h3⟩:=h.boxes k m hm
  exact⟨c,T,hk _ _ h1,h2,h3⟩
theorem gg{ws:List Nat}{ops:Array Oper}{w_ lI:St}{θ0:Nat->Nat}{i:Nat}{p:gY}{K:St->UW->Prop}{N:Act->World->Prop}{QQ:Act->World->Prop}(aD:∀o∈ops.toList,bh C.n o=true)(CN:∀o∈ops.toList,∀t,o.dst=some t->t∈ws)
  (Ft:∀k m,(k,m)∈w_.D->∀j,j<m->∀k' o,w_.σ (gx k j)≠cY k' o) (hI:Inv C a wa st u θ) (hP:bQ C.n fz ws lI st) (hS:(qz u0 u/\Syn w_ θ0 st θ)\/(cZ ops p=false/\bt ops p=false/\oP ops i=false)) (bB:br ops i p=true)
  (hN:∀bu u' a' w' θ',Inv C a' w' bu u' θ'->bQ C.n fz ws lI bu->Sy ops u0 w_ θ0 p bu u' θ'->K bu u'->N a' w')
  (h:qS E fz ops u0 i st u K):jc E.P ops (QN QQ) i (λa' w'=>(late ops i=true->jk u0 w_ θ0 wa->jk u0 w_ θ0 w')/\N a' w') a wa:=by
 unfold qS at h
 cases fL:ops[i]? with
 |none=>simp only[fL]at h
 |some oj=>
  simp only[fL]at h
  cases lC:fV E.cU oj with
  |true=>simp only[lC,cond_true]at h
  |false=>
   simp only[lC,cond_false]at h
   have dv:oj∈ops.toList:=by have:ops.toList[i]?=some oj:=by simpa using fL
                             exact List.mem_of_getElem? this
   have fh:=aD oj dv
   have ij:∀{s s':St},bQ C.n fz ws lI s->bQ C.n fz oj.dst.toList s s'->bQ C.n fz ws lI s':=by
    intro s s' h1 h2
    refine(h1.trans h2).mono (λ_ h=>h) λx hx=>?_
    rw[List.mem_append]at hx
    rcases hx with hx|hx
    ·exact hx
    ·cases rW:oj.dst with
     |none=>simp[rW]at hx
     |some d=>simp only[rW,Option.toList,List.mem_singleton]at hx;exact CN oj dv x (by rw[rW,hx])
   unfold br at bB
   unfold jc
   simp only[fL]
   refine nK (G:=if Region.wanted oj (yielded ops a.tmps)=true then _ else _) aD hI h (λhw h1=>?_) (λhw h1=>?_)
   ·rw[if_pos hw]
    cases Fk:oP ops i with
    |true=>
     simp only[Fk,cond_true]at h1
     refine lF (λa' w' hp=>?_) (gO (Q:=QN _) fh hI h1)
     obtain⟨bu,u',θ',dC,iC,hθ,hDD,oN,hW⟩:=hp
     have Ij:bQ C.n fz oj.dst.toList st bu:=iC.mono (λ_ h=>List.mem_append_left _ h) (λ_ h=>h)
     have ZF:=hDD lC
     rcases hS with⟨_,iM⟩|⟨_,_,iA⟩
     ·have Wm:Syn w_ θ0 bu θ':=by
       refine⟨ZF.trans iM.D,λk m hk=>?_,λk m hk j hj=>?_⟩
       ·rw[hθ k m (iM.D▸hk)];exact iM.θ k m hk
       ·rw[iC.fz k (List.mem_append_right _ (List.mem_map.2 ⟨_,iM.D▸hk,rfl⟩)) m (iM.D▸hk) j hj]
        exact iM.gh k m hk j hj
      exact⟨λ_ _=>(pO Wm Ft w').2 (dC.JK oN),hN bu u' a' w' θ' dC (ij hP Ij) (.inl ⟨oN,Wm⟩) hW⟩
     ·rw[Fk]at iA;cases iA
    |false=>
     simp only[Fk,cond_false]at h1
     cases lR:Cz ops i with
     |true=>
      have hnw:oI oj=true:=by unfold Cz at lR;rw[fL]at lR;exact lR
      obtain⟨v,ob,fK⟩:=Kc hnw fh hI h1
      have Um:=gO (Q:=QN QQ) (fz:=fz++st.D.map (·.1)) fh hI (aaX hnw lC h1)
      unfold rh at Um
      rw[fK]at Um |-
      simp only[Oper.uponIn]at Um |-
      obtain⟨bu,u',θ',dC,iC,hθ,hDD,hbl,hW⟩:=Um
      have Ij:bQ C.n fz oj.dst.toList st bu:=iC.mono (λ_ h=>List.mem_append_left _ h) (λ_ h=>h)
      have ZF:=hDD lC
      refine⟨λ_ hs=>hs.alloc ob,hN bu u' _ _ θ' dC (ij hP Ij) ?_ hW⟩
      rcases hS with⟨wo,iM⟩|⟨n1,n2,_⟩
      ·refine .inl ⟨vv wo hbl,ZF.trans iM.D,λk m hk=>?_,λk m hk j hj=>?_⟩
       ·rw[hθ k m (iM.D▸hk)];exact iM.θ k m hk
       ·rw[iC.fz k (List.mem_append_right _ (List.mem_map.2 ⟨_,iM.D▸hk,rfl⟩)) m (iM.D▸hk) j hj]
        exact iM.gh k m hk j hj
      ·exact .inr ⟨n1,n2⟩
     |false=>
     simp only[Fk,lR,Bool.false_or,Bool.and_eq_true,Bool.not_eq_true']at bB
     refine lF (λa' w' hp=>?_) (gO (Q:=QN _) fh hI h1)
     obtain⟨bu,u',θ',dC,iC,hθ,hDD,hW⟩:=hp
     exact⟨λhh _=>(by simp[oP,lR,hh]at Fk),hN bu u' a' w' θ' dC (ij hP iC) (.inr bB) hW⟩
   ·rw[if_neg (by simp[hw])]
    have Qx:=hI.aZ oj.dst (dk fh) (v:=undef) rfl
    have hpf:=ij hP (bQ.fin st oj.dst (dk fh) hI.gV undef)
    rcases hS with⟨wo,iM⟩|⟨akP,akO,apv⟩
    ·exact⟨λ_ _=>(pO iM Ft wa).2 (hI.JK wo),hN _ u _ wa θ Qx hpf (.inl ⟨wo,iM.fin fh hI undef⟩) h1⟩
    ·exact⟨λ_ hs=>hs,hN _ u _ wa θ Qx hpf (.inr ⟨akP,akO⟩) h1⟩
theorem RZ{ws:List Nat}{ops:Array Oper}{Q:Exit->St->UW->Prop}{lI w_:St}{θ0:Nat->Nat}(aD:∀o∈ops.toList,bh C.n o=true)(CN:∀o∈ops.toList,∀t,o.dst=some t->t∈ws)
  (tK:Region.noSelect ops=true) (Ft:∀k m,(k,m)∈w_.D->∀j,j<m->∀k' o,w_.σ (gx k j)≠cY k' o):
  ∀(f:Nat) (p:gY) (af:Array Bool) (st:St) (u:UW) (a:Act) (wa:World) (θ:Nat->Nat),Cl ops af->dt ops f af=some p->Inv C a wa st u θ->bQ C.n fz ws lI st->
   Sy ops u0 w_ θ0 p st u θ->Wd E fz ops u0 (Q .normal) p st u->
   uH E.P ops (QN λa' w'=>∃bu u' θ',Inv C a' w' bu u' θ'/\bQ C.n fz ws lI bu/\Q .normal bu u') (jk u0 w_ θ0) f af a wa:=by
 intro f
 induction f with
 |zero=>
  intro p af st u a wa θ gu hp hI hP hS h
  cases x_ 0 af p ops hp with
  |nil _ hr=>exact⟨hr,st,u,θ,hI,hP,h⟩
 |succ f ih=>
  intro p af st u a wa θ gu hp hI hP hS h
  cases x_ (f+1) af p ops hp with
  |nil _ hr=>
   refine⟨λ_=>⟨st,u,θ,hI,hP,h⟩,?_⟩
   rw[hr];intro i hi;cases hi
  |tk _ j p' oj fL ir fM eF wt=>
   have dv:oj∈ops.toList:=by have:ops.toList[j]?=some oj:=by simpa using fL
                             exact List.mem_of_getElem? this
   have fh:=aD oj dv
   have ij:∀(v:Value),bQ C.n fz ws lI (fin oj st v):=by
    intro v
    refine(hP.trans (bQ.fin st oj.dst (dk fh) hI.gV v)).mono (λ_ h=>h) λx hx=>?_
    rw[List.mem_append]at hx
    rcases hx with hx|hx
    ·exact hx
    ·cases rW:oj.dst with
     |none=>simp[rW]at hx
     |some d=>simp only[rW,Option.toList,List.mem_singleton]at hx;exact CN oj dv x (by rw[rW,hx])
   have hS1:reads oj=true->∀w,jk u0 w_ θ0 w↔jk u0 st θ w:=λeF=>by
    rcases hS with⟨_,iM⟩|hn
    ·exact pO iM Ft
    ·simp[cZ,xU,fL,eF]at hn
   have hS2:reads oj=true->jk u0 w_ θ0 wa:=λeF=>by
    rcases hS with⟨wo,iM⟩|hn
    ·exact(pO iM Ft wa).2 (hI.JK wo)
    ·simp[cZ,xU,fL,eF]at hn
   have hS3:∀v,Sy ops u0 w_ θ0 p' (fin oj st v) u θ:=λv=>by
    rcases hS with⟨wo,iM⟩|hn
    ·exact .inl ⟨wo,iM.fin fh hI v⟩
    ·simp only[cZ,bt,Bool.or_eq_false_iff]at hn;exact .inr ⟨hn.1.2,hn.2⟩
   simp only[Wd,stepT,fL]at h
   refine nK aD hI h (λhw h1=>?_) (λhw h1=>?_)
   ·obtain⟨v,r,hR,Us,hK,fK⟩:=Lg ir fh hI h1
    refine sR fL (Region.noSelect_spec tK) (λc a w hq=>hq.elim) f af a wa (Region.free_spec fL fM) gu eF (v:=r) (.inl ⟨hw,λw Uj=>fK w λzN=>(hS1 zN w).1 (Uj zN)⟩) hS2 ?_
    exact ih p' _ _ u _ wa θ (gu.set eF) wt (hI.fin oj.dst (dk fh) hR Us) (ij v) (hS3 v) hK
   ·refine sR fL (Region.noSelect_spec tK) (λc a w hq=>hq.elim) f af a wa (Region.free_spec fL fM) gu eF (v:=undef) (.inr ⟨hw,rfl⟩) hS2 ?_
    exact ih p' _ _ u _ wa θ (gu.set eF) wt (hI.aZ oj.dst (dk fh) rfl) (ij undef) (hS3 undef) h1
  |ef _ i p' hr bB wt=>
   refine⟨λh0=>(by rw[hr]at h0;cases h0),λx hx=>?_⟩
   rw[hr]at hx
   simp only[List.mem_singleton]at hx
   subst hx
   refine gg (p:=p') aD CN Ft hI hP (hS.imp id λhh=>?_) bB (λbu u' a' w' θ' dC iC QC hW=>ih p' _ bu u' a' w' θ' (gu.set (by rw[hr];simp)) wt dC iC QC hW) h
   simp only[cZ,bt,Bool.or_eq_false_iff]at hh
   exact⟨hh.1,hh.2.2,hh.2.1⟩
  |QR _ i j p' q' hr bB rV wt hq'=>
   refine⟨λh0=>(by rw[hr]at h0;cases h0),λx hx=>?_⟩
   rw[hr]at hx
   simp only[List.mem_cons,List.not_mem_nil,or_false]at hx
   rcases hx with rfl|rfl
   ·refine gg (p:=p') aD CN Ft hI hP (hS.imp id λhh=>?_) bB (λbu u' a' w' θ' dC iC QC hW=>ih p' _ bu u' a' w' θ' (gu.set (by rw[hr];simp)) wt dC iC QC hW) h.1
    simp only[cZ,bt,Bool.or_eq_false_iff]at hh
    exact⟨hh.1.1,hh.2.1.2,hh.2.1.1⟩
   ·refine gg (p:=q') aD CN Ft hI hP (hS.imp id λhh=>?_) rV (λbu u' a' w' θ' dC iC QC hW=>ih q' _ bu u' a' w' θ' (gu.set (by rw[hr];simp)) hq' dC iC QC hW) h.2
    simp only[cZ,bt,Bool.or_eq_false_iff]at hh
    exact⟨hh.1.2,hh.2.2.2,hh.2.2.1⟩
  |QO _ i j k p' q' r' hr bB rV hlt'' wt hq' zN=>
   refine⟨λh0=>(by rw[hr]at h0;cases h0),λx hx=>?_⟩
   rw[hr]at hx
   simp only[List.mem_cons,List.not_mem_nil,or_false]at hx
   rcases hx with rfl|rfl|rfl
   ·refine gg (p:=p') aD CN Ft hI hP (hS.imp id λhh=>?_) bB (λbu u' a' w' θ' dC iC QC hW=>ih p' _ bu u' a' w' θ' (gu.set (by rw[hr];simp)) wt dC iC QC hW) h.1
    simp only[cZ,bt,Bool.or_eq_false_iff]at hh
    exact⟨hh.1.1.1,hh.2.1.1.2,hh.2.1.1.1⟩
   ·refine gg (p:=q') aD CN Ft hI hP (hS.imp id λhh=>?_) rV (λbu u' a' w' θ' dC iC QC hW=>ih q' _ bu u' a' w' θ' (gu.set (by rw[hr];simp)) hq' dC iC QC hW) h.2.1
    simp only[cZ,bt,Bool.or_eq_false_iff]at hh
    exact⟨hh.1.1.2,hh.2.1.2.2,hh.2.1.2.1⟩
   ·refine gg (p:=r') aD CN Ft hI hP (hS.imp id λhh=>?_) hlt'' (λbu u' a' w' θ' dC iC QC hW=>ih r' _ bu u' a' w' θ' (gu.set (by rw[hr];simp)) zN dC iC QC hW) h.2.2
    simp only[cZ,bt,Bool.or_eq_false_iff]at hh
    exact⟨hh.1.2,hh.2.2.2,hh.2.2.1⟩
def jG(P:Program)(ops:Array Oper)(tot:Bool)(j:Nat)(K:Act->World->Prop)(a:Act)(w:World):Prop:=
 match ops[j]? with
 |none=>False
 |some o=>if Region.wanted o (yielded ops a.tmps)then
   (tot=true->∃v w',(execOp a.eval o).run P w=.ok (.value v) w'/\(w'=w\/∃ob,w'=w.alloc ob))/\
   ∀v w',(execOp a.eval o).run P w=.ok (.value v) w'->(w'=w\/∃ob,w'=w.alloc ob)->K (a.put o.dst v) w'
  else K (a.put o.dst undef) w
def TQ(P:Program)(ops:Array Oper)(QQ:Exit->Act->World->Prop):Nat->Array Bool->List Nat->Act->World->Prop
 |0,af,_,a,w=>Region.ready .any ops af=[]/\QQ .normal a w
 |f+1,af,cy,a,w=>(Region.ready .any ops af=[]->QQ .normal a w)/\
  ∀j∈Region.ready .any ops af,bA cy j=false->
   (ju ops j=true->jG P ops cy.isEmpty j (TQ P ops QQ f (af.setIfInBounds j true) cy) a w)/\
   (ju ops j=false->jc P ops QQ j (TQ P ops QQ f (af.setIfInBounds j true) []) a w)
theorem Dn{P:Program}{ops:Array Oper}{QQ:Exit->Act->World->Prop}:∀(f:Nat) (af:Array Bool) (a:Act) (w:World),TQ P ops QQ f af [] a w->uH P ops QQ (λ_=>True) f af a w
 |0,_,_,_,h=>h
 |f+1,af,a,w,h=>by
  refine⟨h.1,λi hi=>?_⟩
  have hh:=h.2 i hi rfl
  cases hn:ju ops i with
  |false=>exact rn (λa' w' h'=>⟨λ_ _=>trivial,Dn f _ _ _ h'⟩) (hh.2 hn)
  |true=>
   have h1:=hh.1 hn
   unfold jG at h1
   unfold jc
   cases ho:ops[i]? with
   |none=>rw[ho]at h1;exact h1.elim
   |some o=>
    rw[ho]at h1
    simp only at h1 |-
    split<;>rename_i hw<;>simp only[hw,if_true,if_false,Bool.false_eq_true]at h1
    ·obtain⟨v,w',hr,hs⟩:=h1.1 rfl
     rw[hr]
     exact⟨λ_ _=>trivial,Dn f _ _ _ (h1.2 v w' hr hs)⟩
    ·exact⟨λ_ _=>trivial,Dn f _ _ _ h1⟩
theorem Ly{P:Program}{ops:Array Oper}{j:Nat}{oi oj:Oper}{v:Value}{tot:Bool}{K:Act->World->Prop}{a:Act}{w:World}(hj:ops[j]?=some oj)(Ux:oi.apart ops oj=true)(hsj:∀cs b,oj.op≠ .select cs b)
  (h:jG P ops tot j K (a.put oi.dst v) w):jG P ops tot j (λa' w'=>K (a'.put oi.dst v) w') a w:=by
 obtain⟨h1,h2,h3⟩:=Oper.apart_spec Ux
 unfold jG at h |-
 simp only[hj,wanted_put oj a oi.dst v h1,execOp_put oj hsj a oi.dst v h1]at h |-
 split<;>rename_i hw<;>simp only[hw,if_true,if_false,Bool.false_eq_true]at h
 ·refine⟨h.1,λx w' hr hs=>?_⟩
  rw[<- Act.put_comm a v x h2];exact h.2 x w' hr hs
 ·rw[<- Act.put_comm a v undef h2];exact h
theorem AO{P:Program}{ops:Array Oper}{j:Nat}{t1 t2:Bool}{K1 K2 K:Act->World->Prop}{a:Act}{w:World}(hk:∀(oj:Oper) (x:Value) (w':World),ops[j]?=some oj->(w'=w\/∃ob,w'=w.alloc ob)->K1 (a.put oj.dst x) w'->K2 (a.put oj.dst x) w'->K (a.put oj.dst x) w')
  (h1:jG P ops t1 j K1 a w) (h2:jG P ops t2 j K2 a w):jG P ops t1 j K a w:=by
 unfold jG at h1 h2 |-
 cases ho:ops[j]? with
 |none=>rw[ho]at h1;exact h1.elim
 |some oj=>
  rw[ho]at h1 h2
  simp only at h1 h2 |-
  split<;>rename_i hw<;>simp only[hw,if_true,if_false,Bool.false_eq_true]at h1 h2
  ·exact⟨h1.1,λv w' hr hs=>hk oj v w' ho hs (h1.2 v w' hr hs) (h2.2 v w' hr hs)⟩
  ·exact hk oj undef w ho (.inl rfl) h1 h2
theorem GY{P:Program}{ops:Array Oper}{j:Nat}{t:Bool}{K1 K:Act->World->Prop}{a:Act}{w:World}(hk:∀(oj:Oper) (x:Value) (w':World),ops[j]?=some oj->(w'=w\/∃ob,w'=w.alloc ob)->K1 (a.put oj.dst x) w'->K (a.put oj.dst x) w')
  (h1:jG P ops t j K1 a w):jG P ops t j K a w:=AO (λoj x w' ho hs k1 _=>hk oj x w' ho hs k1) h1 h1
theorem zD{P:Program}{ops:Array Oper}{QQ:Exit->Act->World->Prop}{S:World->Prop}{i:Nat}{oi:Oper}{v:Value}(hi:ops[i]?=some oi)(Mw:ju ops i=true)(tK:∀(j:Nat) (o:Oper) cs b,ops[j]?=some o->o.op≠ .select cs b)
  (hQ:∀c a w,QQ (.panic c) (a.put oi.dst v) w->QQ (.panic c) a w) (hSc:∀w ob,S w->S (w.alloc ob)):
  ∀(f:Nat) (af:Array Bool) (cy:List Nat) (a:Act) (w:World),
   (∀j oj,ops[j]?=some oj->j≠i->af.getD j true=false->(∀e∈oj.after,Region.binds .any e=true->e.on≠i)->oi.apart ops oj=true)->
   i∈Region.ready .any ops af->bA cy i=false->YieldsIf P ops S oi v a->S w->
   TQ P ops QQ f (af.setIfInBounds i true) cy (a.put oi.dst v) w->((∀w,S w)\/TQ P ops QQ (f+1) af (i::cy) a w)->TQ P ops QQ (f+1) af cy a w:=by
 have self:∀(f:Nat) (af:Array Bool) (cy:List Nat) (a:Act) (w:World),YieldsIf P ops S oi v a->S w->TQ P ops QQ f (af.setIfInBounds i true) cy (a.put oi.dst v) w->
   jG P ops cy.isEmpty i (TQ P ops QQ f (af.setIfInBounds i true) cy) a w:=by
  intro f af cy a w hy hS hA
  unfold jG
  simp only[hi]
  rcases hy with⟨hw,hv⟩|⟨hw,rfl⟩
  ·rw[if_pos hw]
   refine⟨λ_=>⟨v,w,hv w hS,.inl rfl⟩,λx w' hr _=>?_⟩
   rw[hv w hS]at hr
   cases hr
   exact hA
  ·rw[if_neg (by simp[hw])];exact hA
 intro f
 induction f with
 |zero=>
  intro af cy a w fM hr hb hy hS hA hB
  refine⟨λh=>(by rw[h]at hr;cases hr),λj hj xw=>?_⟩
  by_cases yK:j=i
  ·subst yK
   exact⟨λ_=>self 0 af cy a w hy hS hA,λh=>(by rw[Mw]at h;cases h)⟩
  ·have:=ready_mono hj yK
   rw[hA.1]at this
   cases this
 |succ f ih=>
  intro af cy a w fM hr hb hy hS hA hB
  refine⟨λh=>(by rw[h]at hr;cases hr),λj hj xw=>?_⟩
  by_cases yK:j=i
  ·subst yK
   exact⟨λ_=>self (f+1) af cy a w hy hS hA,λh=>(by rw[Mw]at h;cases h)⟩
  ·have h1:=hA.2 j (ready_mono hj yK) xw
   obtain⟨Qv,oj,fL,d_⟩:=mem_ready.1 hj
   have Mu:∀e∈oj.after,Region.binds .any e=true->e.on≠i:=λe he hb heq=>by
    have h1:=d_ e he hb
    have h0:=(mem_ready.1 hr).1
    rw[heq]at h1
    rcases Nat.lt_or_ge i af.size with h'|h'
    ·simp[h']at h0 h1;rw[h0]at h1;cases h1
    ·simp[Array.getElem?_eq_none h']at h1
   have Ux:=fM j oj fL yK Qv Mu
   have CR:∀k ok,ops[k]?=some ok->k≠i->(af.setIfInBounds j true).getD k true=false->
     (∀e∈ok.after,Region.binds .any e=true->e.on≠i)->oi.apart ops ok=true:=λk ok hk hki hun iA=>by
    refine fM k ok hk hki ?_ iA
    by_cases Wx:j=k
    ·subst Wx;exact Qv
    ·rw[getD_set_ne true Wx]at hun;exact hun
   have WC:(af.setIfInBounds i true).setIfInBounds j true=(af.setIfInBounds j true).setIfInBounds i true:=Array.setIfInBounds_comm _ _ (Ne.symm yK)
   have adD:∀(b:Act) (x:Value),YieldsIf P ops S oi v b->YieldsIf P ops S oi v (b.put oj.dst x):=λb x hb=>by
    obtain⟨_,_,h3⟩:=Oper.apart_spec Ux
    exact hb.of_same (execOp_put oi (λcs b=>tK i oi cs b hi) b oj.dst x h3) (wanted_put oi b oj.dst x h3)
   refine⟨λhn=>?_,λhn=>?_⟩
   ·have k1:=Ly fL Ux (λcs b=>tK j oj cs b fL) (h1.1 hn)
    have go:∀(a':Act) (w':World),YieldsIf P ops S oi v a'->S w'->TQ P ops QQ f ((af.setIfInBounds i true).setIfInBounds j true) cy (a'.put oi.dst v) w'->((∀w,S w)\/TQ P ops QQ (f+1) (af.setIfInBounds j true) (i::cy) a' w')->TQ P ops QQ (f+1) (af.setIfInBounds j true) cy a' w':=λa' w' y1 y2 y3 y4=>
     ih (af.setIfInBounds j true) cy a' w' CR (ready_mono hr (Ne.symm yK)) hb y1 y2 (by rw[WC]at y3;exact y3) y4
    have hSn:∀w',(w'=w\/∃ob,w'=w.alloc ob)->S w':=λw' hs=>by
     rcases hs with rfl|⟨ob,rfl⟩
     ·exact hS
     ·exact hSc w ob hS
    rcases hB with hB|hB
    ·refine GY (λoj' x w' Ql hs y1=>?_) k1
     have:oj'=oj:=by rw[fL]at Ql;cases Ql;rfl
     subst this
     exact go _ _ (adD a x hy) (hSn w' hs) y1 (.inl hB)
    ·have Zy:bA (i::cy) j=false:=by
      cases hm:bA (i::cy) j with
      |false=>rfl
      |true=>
       rcases List.mem_cons.1 (cV.1 hm)with h|h
       ·exact absurd h yK
       ·rw[cV.2 h]at xw;cases xw
     have k2:=(hB.2 j hj Zy).1 hn
     refine AO (λoj' x w' Ql hs y1 y2=>?_) k1 k2
     have:oj'=oj:=by rw[fL]at Ql;cases Ql;rfl
     subst this
     exact go _ _ (adD a x hy) (hSn w' hs) y1 (.inr y2)
   ·rcases hB with hB|hB
    ·have k1:=AH (S:=S) fL Ux (λcs b=>tK i oi cs b hi) (λcs b=>tK j oj cs b fL) hQ hy (h1.2 hn)
     refine rn (λa' w' y=>?_) k1
     exact ih (af.setIfInBounds j true) [] a' w' CR (ready_mono hr (Ne.symm yK)) rfl y.1 (hB w') (by have:=y.2;rw[WC]at this;exact this) (.inl hB)
    ·have Zy:bA (i::cy) j=false:=by
      cases hm:bA (i::cy) j with
      |false=>rfl
      |true=>
       rcases List.mem_cons.1 (cV.1 hm)with h|h
       ·exact absurd h yK
       ·rw[cV.2 h]at xw;cases xw
     exact(hB.2 j hj Zy).2 hn
def mW(af:Array Bool):Nat:=(af.toList.filter (!·)).length
theorem Ba:∀(l:List Bool) (i:Nat),i<l.length->l[i]?=some false->((l.set i true).filter (!·)).length+1=(l.filter (!·)).length
 |[],i,h,_=>by simp at h
 |b::l,0,_,h=>by simp only[List.getElem?_cons_zero,Option.some.injEq]at h;subst h;simp
 |b::l,i+1,h,h2=>by
  simp only[List.getElem?_cons_succ]at h2
  simp only[List.length_cons]at h
  have:=Ba l i (by omega) h2
  show((b::l.set i true).filter (!·)).length+1=((b::l).filter (!·)).length
  cases b<;>simp at this |- <;>omega
theorem pZ{af:Array Bool}{i:Nat}{ops:Array Oper}(hi:i∈Region.ready .any ops af)(hs:af.size=ops.size):mW (af.setIfInBounds i true)+1=mW af:=by
 obtain⟨h0,oj,fL,_⟩:=mem_ready.1 hi
 have bB:i<af.size:=by rw[hs];exact(Array.getElem?_eq_some_iff.1 fL).1
 unfold mW
 rw[Array.toList_setIfInBounds]
 refine Ba _ i (by simpa using bB) ?_
 rw[Array.getD_eq_getD_getElem?,Array.getElem?_eq_getElem bB]at h0
 rw[Array.getElem?_toList,Array.getElem?_eq_getElem bB]
 exact congrArg some h0
theorem A_{af:Array Bool}{i:Nat}{ops:Array Oper}(hi:i∈Region.ready .any ops af)(hs:af.size=ops.size):0<mW af:=by
 have:=pZ hi hs;omega
theorem aaZ{P:Program}{ops:Array Oper}{QQ:Exit->Act->World->Prop}:∀(f:Nat) (af:Array Bool) (cy:List Nat) (a:Act) (w:World),af.size=ops.size->mW af<=f->Cl ops af->cy≠[]->(∀x∈cy,x∈Region.ready .any ops af)->Ln ops af cy=true->TQ P ops QQ f af cy a w:=by
 intro f
 induction f with
 |zero=>
  intro af cy a w hs hn gu hb hr hv
  cases cy with
  |nil=>exact absurd rfl hb
  |cons x cy=>have:=A_ (hr x (by simp)) hs;omega
 |succ f ih=>
  intro af cy a w hs hn gu hb hr hv
  obtain⟨x,hx⟩:∃x,x∈cy:=by
   cases cy with
   |nil=>exact absurd rfl hb
   |cons x cy=>exact⟨x,by simp⟩
  refine⟨λh=>(by have:=hr x hx;rw[h]at this;cases this),λj hj xw=>?_⟩
  have ar:∀a' w',TQ P ops QQ f (af.setIfInBounds j true) cy a' w':=λa' w'=>by
   refine ih _ cy a' w' (by simpa using hs) (by have:=pZ hj hs;omega) (gu.set hj) hb (λy hy=>?_) ?_
   ·refine ready_mono (hr y hy) λe=>?_
    subst e
    rw[cV.2 hy]at xw;cases xw
   ·unfold Ln at hv |-
    rw[List.all_eq_true]at hv |-
    intro h hh
    have:=hv h hh
    simp only[Bool.or_eq_true]at this |-
    rcases this with h1|h1
    ·left
     by_cases hjh:j=h
     ·subst hjh
      have:=(mem_ready.1 hj).1
      rw[this]at h1;cases h1
     ·rw[getD_set_ne true hjh];exact h1
    ·exact .inr h1
  refine⟨λhn'=>?_,λhn'=>?_⟩
  ·unfold jG
   obtain⟨_,oj,fL,_⟩:=mem_ready.1 hj
   simp only[fL]
   have alf:cy.isEmpty=false:=by cases cy with
    |nil=>exact absurd rfl hb
    |cons _ _=>rfl
   rw[alf]
   split
   ·exact⟨λh=>(by cases h),λv w' _ _=>ar _ _⟩
   ·exact ar _ _
  ·exfalso
   obtain⟨hj0,oj,fL,d_⟩:=mem_ready.1 hj
   unfold Ln at hv
   rw[List.all_eq_true]at hv
   have:=hv j (List.mem_range.2 (Array.getElem?_eq_some_iff.1 fL).1)
   rw[hj0,hn',Bool.false_or,Bool.false_or,List.any_eq_true]at this
   obtain⟨y,Kt,Qd⟩:=this
   have hyr:=(mem_ready.1 (hr y (cV.1 Qd))).1
   have hl:af.getD y false=true:=by
    refine gu.vN ops.size (qY ops j) (λx hx=>?_) y Kt
    unfold qY at hx
    simp only[fL]at hx
    obtain⟨e,he,rfl⟩:=List.mem_map.1 hx
    rw[List.mem_filter]at he
    exact d_ e (by simpa using he.1) he.2
   rcases Nat.lt_or_ge y af.size with h'|h'
   ·simp[h']at hyr hl;rw[hyr]at hl;cases hl
   ·rw[Array.getD_eq_getD_getElem?,Array.getElem?_eq_none h']at hl;cases hl
theorem xD{ops:Array Oper}{af:Array Bool}{cy:List Nat}{j:Nat}:∀l:List Nat,xE ops af cy l=some j->j∈l/\∃oj,ops[j]?=some oj/\aV oj=true/\(reads oj=false\/Ln ops af (j::cy)=true)/\Region.free .any ops af j=true/\bA cy j=false:=by
 intro l
 induction l with
 |nil=>intro h;simp[xE]at h
 |cons x l ih=>
  intro h
  simp only[xE]at h
  cases hx:ops[x]? with
  |none=>
   simp only[hx,Bool.false_and,cond_false]at h
   obtain⟨h1,h2⟩:=ih h;exact⟨by simp[h1],h2⟩
  |some ox=>
   simp only[hx]at h
   cases hc:(aV ox&&(!reads ox||Ln ops af (x::cy)))&&(Region.free .any ops af x&& !bA cy x)with
   |true=>
    simp only[hc,cond_true,Option.some.injEq]at h
    subst h
    simp only[Bool.and_eq_true,Bool.not_eq_true',Bool.or_eq_true]at hc
    exact⟨by simp,ox,hx,hc.1.1,hc.1.2,hc.2.1,hc.2.2⟩
   |false=>
    simp only[hc,cond_false]at h
    obtain⟨h1,h2⟩:=ih h;exact⟨by simp[h1],h2⟩
theorem yx{ops:Array Oper}{af:Array Bool}{cy:List Nat}{j:Nat}:∀l:List Nat,yy ops af cy l=some j->j∈l/\∃oj,ops[j]?=some oj/\aV oj=true/\Region.free .any ops af j=true/\bA cy j=false:=by
 intro l
 induction l with
 |nil=>intro h;simp[yy]at h
 |cons x l ih=>
  intro h
  simp only[yy]at h
  cases hx:ops[x]? with
  |none=>
   simp only[hx,Bool.false_and,cond_false]at h
   obtain⟨h1,h2⟩:=ih h;exact⟨by simp[h1],h2⟩
  |some ox=>
   simp only[hx]at h
   cases hc:aV ox&&(Region.free .any ops af x&& !bA cy x)with
   |true=>
    simp only[hc,cond_true,Option.some.injEq]at h
    subst h
    simp only[Bool.and_eq_true,Bool.not_eq_true']at hc
    exact⟨by simp,ox,hx,hc.1,hc.2.1,hc.2.2⟩
   |false=>
    simp only[hc,cond_false]at h
    obtain⟨h1,h2⟩:=ih h;exact⟨by simp[h1],h2⟩
theorem sf{ops:Array Oper}{cy:List Nat}{Q:St->UW->Prop}{fz:List Nat}{g:Nat->Option cK}{st:St}{u:UW}:∀(l:List Nat) (q:cK),wF ops cy g l=some q->Wq E fz ops Q q st u->∀i∈l,bA cy i=false->(∀o,ops[i]?=some o->aV o=false)/\∃q',g i=some q'/\JJ E fz ops i st u λbu u'=>Wq E fz ops Q q' bu u'
 |[],_,_,_,i,hi,_=>by cases hi
 |j::l,q,h,hw,i,hi,hb=>by
  simp only[wF]at h
  cases xw:bA cy j with
  |true=>
   rw[xw]at h
   simp only[cond_true]at h
   rcases List.mem_cons.1 hi with rfl|hi
   ·rw[hb]at xw;cases xw
   ·exact sf l q h hw i hi hb
  |false=>
   rw[xw]at h
   simp only[cond_false]at h
   cases ht:Ta ops j true with
   |true=>rw[ht]at h;cases h
   |false=>
    rw[ht]at h
    simp only[cond_false]at h
    cases hj:g j with
    |none=>rw[hj]at h;cases h
    |some qj=>
     rw[hj]at h
     simp only at h
     cases hl:wF ops cy g l with
     |none=>rw[hl]at h;cases h
     |some r=>
      rw[hl]at h
      cases h
      rcases List.mem_cons.1 hi with rfl|hi
      ·exact⟨λo ho=>(by unfold Ta at ht;rw[ho]at ht;exact ht),qj,hj,hw.1⟩
      ·exact sf l r hl hw.2 i hi hb
theorem RY{ws:List Nat}{ops:Array Oper}{Q:Exit->St->UW->Prop}{lI:St}(aD:∀o∈ops.toList,bh C.n o=true)(CN:∀o∈ops.toList,∀t,o.dst=some t->t∈ws)
  (tK:Region.noSelect ops=true):
  ∀(g:Nat) (p:cK) (f:Nat) (af:Array Bool) (cy:List Nat) (st:St) (u:UW) (a:Act) (wa:World) (θ:Nat->Nat),af.size=ops.size->mW af<=f->(∀x∈cy,x∈Region.ready .any ops af)->Cl ops af->jI ops g af cy=some p->Inv C a wa st u θ->bQ C.n fz ws lI st->
   Wq E fz ops (Q .normal) p st u->
   TQ E.P ops (QN λa' w'=>∃bu u' θ',Inv C a' w' bu u' θ'/\bQ C.n fz ws lI bu/\Q .normal bu u') f af cy a wa:=by
 intro g
 induction g with
 |zero=>intro p f af cy st u a wa θ _ _ _ _ hp;simp[jI]at hp
 |succ g ih=>
  intro p f af cy st u a wa θ eg zO hbr gu hp hI hP h
  simp only[jI]at hp
  have xY:∀{oj:Oper},oj∈ops.toList->∀{s s':St},bQ C.n fz ws lI s->bQ C.n fz oj.dst.toList s s'->bQ C.n fz ws lI s':=by
   intro oj dv s s' h1 h2
   refine(h1.trans h2).mono (λ_ h=>h) λx hx=>?_
   rw[List.mem_append]at hx
   rcases hx with hx|hx
   ·exact hx
   ·cases rW:oj.dst with
    |none=>simp[rW]at hx
    |some d=>simp only[rW,Option.toList,List.mem_singleton]at hx;exact CN oj dv x (by rw[rW,hx])
  have take:∀{j:Nat} {oj:Oper} {q:cK} {f:Nat},mW af<=f+1->j∈Region.ready .any ops af->ops[j]?=some oj->aV oj=true->Region.free .any ops af j=true->bA cy j=false->
    jI ops g (af.setIfInBounds j true) cy=some q->stepT E fz ops u j st (λbu=>Wq E fz ops (Q .normal) q bu u)->
    (reads oj=false\/TQ E.P ops (QN λa' w'=>∃bu u' θ',Inv C a' w' bu u' θ'/\bQ C.n fz ws lI bu/\Q .normal bu u') (f+1) af (j::cy) a wa)->
    TQ E.P ops (QN λa' w'=>∃bu u' θ',Inv C a' w' bu u' θ'/\bQ C.n fz ws lI bu/\Q .normal bu u') (f+1) af cy a wa:=by
   intro j oj q f zO eF fL ir fM xw Qi iu hB
   have dv:oj∈ops.toList:=by have:ops.toList[j]?=some oj:=by simpa using fL
                             exact List.mem_of_getElem? this
   have fh:=aD oj dv
   have ij:∀(v:Value),bQ C.n fz ws lI (fin oj st v):=λv=>xY dv hP (bQ.fin st oj.dst (dk fh) hI.gV v)
   have Mw:ju ops j=true:=by unfold ju;rw[fL];simp[ir]
   have Ic:mW (af.setIfInBounds j true)<=f:=by have:=pZ eF eg;omega
   have Qz:∀x∈cy,x∈Region.ready .any ops (af.setIfInBounds j true):=λx hx=>ready_mono (hbr x hx) λe=>by subst e;rw[cV.2 hx]at xw;cases xw
   simp only[stepT,fL]at iu
   refine nK aD hI iu (λhw h1=>?_) (λhw h1=>?_)
   ·obtain⟨v,r,hR,Us,hK,fK⟩:=Lg ir fh hI h1
    have hA:=ih q f _ cy _ u (a.put oj.dst r) wa θ (by simpa using eg) Ic Qz (gu.set eF) Qi (hI.fin oj.dst (dk fh) hR Us) (ij v) hK
    cases hre:reads oj with
    |false=>exact zD (S:=λ_=>True) fL Mw (Region.noSelect_spec tK) (λc a w hq=>hq.elim) (λ_ _ _=>trivial) f af cy a wa (Region.free_spec fL fM) eF xw (.inl ⟨hw,λw _=>fK w λzN=>(by rw[hre]at zN;cases zN)⟩) trivial hA (.inl λ_=>trivial)
    |true=>
     have hB':=hB.resolve_left (by rw[hre];simp)
     exact zD (S:=λw=>jk u st θ w) fL Mw (Region.noSelect_spec tK) (λc a w hq=>hq.elim) (λ_ ob hs=>hs.alloc ob) f af cy a wa (Region.free_spec fL fM) eF xw (.inl ⟨hw,λw hs=>fK w λ_=>hs⟩) (hI.JK (Below.refl _ _)) hA (.inr hB')
   ·have hA:=ih q f _ cy _ u (a.put oj.dst undef) wa θ (by simpa using eg) Ic Qz (gu.set eF) Qi (hI.aZ oj.dst (dk fh) rfl) (ij undef) h1
    exact zD (S:=λ_=>True) fL Mw (Region.noSelect_spec tK) (λc a w hq=>hq.elim) (λ_ _ _=>trivial) f af cy a wa (Region.free_spec fL fM) eF xw (.inr ⟨hw,rfl⟩) trivial hA (.inl λ_=>trivial)
  cases eF:Region.ready .any ops af with
  |nil=>
   rw[eF]at hp
   cases hp
   cases f with
   |zero=>exact⟨eF,st,u,θ,hI,hP,h⟩
   |succ f=>exact⟨λ_=>⟨st,u,θ,hI,hP,h⟩,λj hj=>(by rw[eF]at hj;cases hj)⟩
  |cons x0 l0=>
   have qu:0<mW af:=A_ (i:=x0) (by rw[eF];simp) eg
   obtain⟨f,rfl⟩:∃k,f=k+1:=⟨f-1,by omega⟩
   rw[eF]at hp
   simp only at hp
   cases htq:xE ops af cy (x0::l0)with
   |some j=>
    rw[htq]at hp
    simp only at hp
    obtain⟨Kw,oj,fL,ir,hor,fM,xw⟩:=xD _ htq
    rw[<- eF]at Kw
    cases Qi:jI ops g (af.setIfInBounds j true) cy with
    |none=>rw[Qi]at hp;cases hp
    |some q=>
     rw[Qi]at hp
     cases hp
     refine take zO Kw fL ir fM xw Qi h (hor.imp id λhv=>?_)
     exact aaZ (f+1) af (j::cy) a wa eg zO gu (by simp) (λy hy=>(List.mem_cons.1 hy).elim (λe=>e▸Kw) (hbr y)) hv
   |none=>
    rw[htq]at hp
    simp only at hp
    cases hlq:yy ops af cy (x0::l0)with
    |some j=>
     rw[hlq]at hp
     simp only at hp
     obtain⟨Kw,oj,fL,ir,fM,xw⟩:=yx _ hlq
     rw[<- eF]at Kw
     cases Qi:jI ops g (af.setIfInBounds j true) cy with
     |none=>rw[Qi]at hp;cases hp
     |some q=>
      cases hpr:jI ops g af (j::cy)with
      |none=>rw[Qi,hpr]at hp;cases hp
      |some r=>
       rw[Qi,hpr]at hp
       cases hp
       refine take zO Kw fL ir fM xw Qi h.1 (.inr ?_)
       exact ih r (f+1) af (j::cy) st u a wa θ eg zO (λy hy=>(List.mem_cons.1 hy).elim (λe=>e▸Kw) (hbr y)) gu hpr hI hP h.2
    |none=>
     rw[hlq]at hp
     simp only at hp
     have alts:=sf _ _ hp h
     refine⟨λh0=>(by rw[eF]at h0;cases h0),λi hi hbi=>?_⟩
     have hi2:i∈x0::l0:=by rw[<- eF];exact hi
     obtain⟨Qm,q,hq,iu⟩:=alts i hi2 hbi
     unfold JJ at iu
     cases fL:ops[i]? with
     |none=>rw[fL]at iu;exact iu.elim
     |some oj=>
      rw[fL]at iu
      simp only at iu
      have dv:oj∈ops.toList:=by have:ops.toList[i]?=some oj:=by simpa using fL
                                exact List.mem_of_getElem? this
      have fh:=aD oj dv
      have Ic:mW (af.setIfInBounds i true)<=f:=by have:=pZ hi eg;omega
      have Qz:∀x∈cy,x∈Region.ready .any ops (af.setIfInBounds i true):=λx hx=>ready_mono (hbr x hx) λe=>by subst e;rw[cV.2 hx]at hbi;cases hbi
      refine⟨λhn=>?_,λhn=>?_⟩
      ·rw[hn]at hq
       simp only[cond_true]at hq
       have hnw:oI oj=true:=by
        unfold ju at hn
        rw[fL]at hn
        simp only[Qm oj fL,Bool.false_or]at hn
        exact hn
       unfold jG
       simp only[fL]
       refine nK (G:=if Region.wanted oj (yielded ops a.tmps)=true then _ else _) aD hI iu (λhw h1=>?_) (λhw h1=>?_)
       ·rw[if_pos hw]
        obtain⟨v,ob,fK⟩:=Kc hnw fh hI h1
        refine⟨λ_=>⟨v,_,fK,.inr ⟨ob,rfl⟩⟩,λv' w' zN _=>?_⟩
        have Um:=gO (Q:=QN λ_ _=>True) fh hI h1
        unfold rh at Um
        rw[zN]at Um
        simp only[Oper.uponIn]at Um
        obtain⟨bu,u',θ',dC,iC,_,_,hW⟩:=Um
        exact ih q f _ cy bu u' _ w' θ' (by simpa using eg) Ic Qz (gu.set hi) hq dC (xY dv hP iC) hW
       ·rw[if_neg (by simp[hw])]
        exact ih q f _ cy _ u _ wa θ (by simpa using eg) Ic Qz (gu.set hi) hq (hI.aZ oj.dst (dk fh) (v:=undef) rfl) (xY dv hP (bQ.fin st oj.dst (dk fh) hI.gV undef)) h1
      ·rw[hn]at hq
       simp only[cond_false]at hq
       unfold jc
       simp only[fL]
       refine nK (G:=if Region.wanted oj (yielded ops a.tmps)=true then _ else _) aD hI iu (λhw h1=>?_) (λhw h1=>?_)
       ·rw[if_pos hw]
        refine lF (λa' w' GD=>?_) (gO (Q:=QN _) fh hI h1)
        obtain⟨bu,u',θ',dC,iC,_,_,hW⟩:=GD
        exact ih q f _ [] bu u' a' w' θ' (by simpa using eg) Ic (by simp) (gu.set hi) hq dC (xY dv hP iC) hW
       ·rw[if_neg (by simp[hw])]
        exact ih q f _ [] _ u _ wa θ (by simpa using eg) Ic (by simp) (gu.set hi) hq (hI.aZ oj.dst (dk fh) (v:=undef) rfl) (xY dv hP (bQ.fin st oj.dst (dk fh) hI.gV undef)) h1
theorem Np{ws:List Nat}{id:Nat}{ops:Array Oper}{Q:Exit->St->UW->Prop}{p:cK}(hm:E.P.follows .mixedOrders=true)(aD:∀o∈ops.toList,bh C.n o=true)(CN:∀o∈ops.toList,∀t,o.dst=some t->t∈ws)
  (hp:eI ops=some p) (hI:Inv C a wa st u θ) (h:Wq E fz ops (Q .normal) p st u):(Code.region id ops true).wpIn (Fw C.ro) 0 E.P (QW C fz ws st Q) a wa:=by
 unfold eI at hp
 cases hs:Region.noSelect ops with
 |false=>simp[hs]at hp
 |true=>
  simp only[hs,cond_true]at hp
  have dC:=hI.drew
  have zO:mW (Array.replicate ops.size false)<=ops.size:=by
   unfold mW
   exact Nat.le_trans (List.length_filter_le _ _) (by simp)
  have key:=Dn _ _ _ _ (RY (E:=E) (fz:=fz) (Q:=Q) (lI:=st) aD CN hs _ p ops.size _ [] st u a _ θ (by simp) zO (by simp) (Cl.none ops _) hp dC (bQ.refl _ _ _ _) h)
  have hdf:∀(j:Nat) (o:Oper) c,ops[j]?=some o->o.op≠ .defer c:=by
   intro j o c ho
   have hj:ops.toList[j]?=some o:=by simpa using ho
   exact mr (aD o (List.mem_of_getElem? hj)) c
  refine wpIn_mono (wpIn_region_any hm (rp C.ro hdf _ _ _ _ key)) λe a' w' hq=>?_
  cases e with
  |normal=>exact hq
  |_=>exact hq.elim
theorem Nq{ws:List Nat}{id:Nat}{ops:Array Oper}{Q:Exit->St->UW->Prop}{p:gY}(hm:E.P.follows .mixedOrders=true)(aD:∀o∈ops.toList,bh C.n o=true)(CN:∀o∈ops.toList,∀t,o.dst=some t->t∈ws)
  (hp:oD ops=some p) (hI:Inv C a wa st u θ) (h:Wd E fz ops u (Q .normal) p st u):(Code.region id ops true).wpIn (Fw C.ro) 0 E.P (QW C fz ws st Q) a wa:=by
 unfold oD at hp
 cases hs:Region.noSelect ops with
 |false=>simp[hs]at hp
 |true=>
  simp only[hs,cond_true]at hp
  have dC:=hI.drew
  have key:=RZ (E:=E) (u0:=u) (fz:=fz) (Q:=Q) (lI:=st) (w_:=st) (θ0:=θ) aD CN hs hI.fA ops.size p _ st u a _ θ (Cl.none ops _) hp dC (bQ.refl _ _ _ _) (.inl ⟨Below.refl _ _,⟨rfl,λ_ _ _=>rfl,λ_ _ _ _ _=>rfl⟩⟩) h
  have hdf:∀(j:Nat) (o:Oper) c,ops[j]?=some o->o.op≠ .defer c:=by
   intro j o c ho
   have hj:ops.toList[j]?=some o:=by simpa using ho
   exact mr (aD o (List.mem_of_getElem? hj)) c
  refine wpIn_mono (wpIn_region_any hm (rp C.ro hdf _ _ _ _ key)) λe a' w' hq=>?_
  cases e with
  |normal=>exact hq
  |_=>exact hq.elim
end
section
variable {E:Env} {C:Ctx}
theorem Bi{w w1:World}(hs:vC w w1){b:Nat}{c:Array Value}{T:TypeId}(h:w.heap[b]?=some (.cells c T (0,0)))(hc:c.size≠0):w1.heap[b]?=some (.cells c T (0,0)):=by
 rcases hs.block b (Array.getElem?_eq_some_iff.1 h).1 with e|e
 ·rw[<- e,h]
 ·rw[h]at e
  simp only[cj,Option.some.injEq,Obj.cells.injEq]at e
  rw[e.1]at hc;exact absurd rfl hc
theorem CJ{P:Program}{src dst:TypeId}(h:tH P src dst=true):∃e,P.underlying src=some (.slice e)/\P.underlying e=some (.int .u8)/\P.underlying dst=some .string:=by
 unfold tH at h
 split at h
 ·rename_i e h1 h2
  split at h
  ·rename_i h3;exact⟨e,h1,h3,h2⟩
  ·cases h
 ·cases h
theorem Nr{fz:List Nat}{o:Oper}{st:St}{u:UW}{a:Act}{wa:World}{θ:Nat->Nat}{K:St->UW->Prop}{Q:Exit->Act->World->Prop}(aD:bh C.n o=true)(hI:Inv C a wa st u θ)(h:Sa E fz o st u K):rh E C fz o st θ K Q a wa:=by
 unfold Sa at h
 split at h
 ·rename_i t x y t' ho
  cases hb:tX (ev st.σ x) (ev st.σ y)with
  |false=>rw[hb]at h;exact gO aD hI h
  |true=>
   rw[hb]at h
   simp only[cond_true]at h
   have hx:cn C.n x=true:=jt aD (by simp[ho,Op.operands])
   have hy:cn C.n y=true:=jt aD (by simp[ho,Op.operands])
   unfold Hj at h
   split at h
   ·rename_i b o1 b' o2 ex ey
    split at h
    ·rename_i e hu
     obtain⟨eg,h⟩:=ak h
     obtain⟨⟨c,T,h1,Ik⟩,⟨c',T',h2,GH⟩,h⟩:=h
     have g1:=Bi hI.below h1 Ik
     have g2:=Bi hI.below h2 GH
     have ald:=aR hI hx ex rfl
     have alc:=aR hI hy ey rfl
     unfold sized at eg
     cases hi:E.P.info? e with
     |none=>rw[hi]at eg;cases eg
     |some i=>
      rw[hi]at eg
      have Mq:i.size≠0:=by
       intro e0
       simp only[e0]at eg
       cases eg
      refine aO (r:=.bool (Nat.beq b b'&&Nat.beq o1 o2)) (wb:=wa) ?_ (aM aD hI rfl h)
      simp only[execOp,ho]
      rw[ald,alc,Sem.run_bind]
      have fK:(do eqGuard .eql t x y (.pointer (some ⟨b,o1,none⟩)) (.pointer (some ⟨b',o2,none⟩));binOp .eql t (.pointer (some ⟨b,o1,none⟩)) (.pointer (some ⟨b',o2,none⟩)):Sem Value).run E.P wa=.ok (.bool (Nat.beq b b'&&Nat.beq o1 o2)) wa:=by
       rw[Sem.run_bind,Fy x y wa (by simp) (by simp),Result.andThen_ok]
       by_cases bm:(⟨b,o1,none⟩:Addr)=⟨b',o2,none⟩
       ·simp only[Addr.mk.injEq,and_true]at bm
        obtain⟨rfl,rfl⟩:=bm
        rw[run_eql_ptr_same wa _ hu hi,Nat.beq_refl,Nat.beq_refl];rfl
       ·rw[run_eql_ptr_other wa hu hi Mq bm g1 g2]
        have:(Nat.beq b b'&&Nat.beq o1 o2)=false:=by
         cases hq:(Nat.beq b b'&&Nat.beq o1 o2)with
         |false=>rfl
         |true=>
          simp only[Bool.and_eq_true,beq_iff]at hq
          exact absurd (by rw[hq.1,hq.2]) bm
        rw[this]
      rw[fK]
      rfl
    ·exact h.elim
   ·exact h.elim
 ·rename_i src dst x ho
  rcases h with h|h
  ·exact gO aD hI h
  ·unfold OH at h
   split at h
   ·rename_i b o1 n c ex
    obtain⟨hb,hn,ns,eF,h⟩:=h
    have hx:cn C.n x=true:=jt aD (by simp[ho,Op.operands])
    have iV:=aR hI hx ex rfl
    obtain⟨cc,T,f,c1,c2,c3⟩:=pU hI.below eF hn
    obtain⟨e,h1,h2,h3⟩:=CJ hb
    refine aO (r:=.string (ofBytes ns)) (wb:=wa) ?_ (aM aD hI rfl h)
    have fK:(convert src dst (.slice (some ⟨b,o1,none⟩) n c)).run E.P wa=.ok (.string (ofBytes ns)) wa:=by
     rw[run_convert_bytes_string _ _ _ _ _ _ _ h1 h2 h3,run_bytesToString _ _ _ _ ns ?_]
     ·rfl
     ·rw[kX c1 c2,<- c3]
    simp only[execOp,ho,iV,Sem.run_bind,fK]
    rfl
   ·exact h.elim
 ·exact gO aD hI h
theorem zB{fz ws:List Nat}{ops:Array Oper}{Q:Exit->St->UW->Prop}{lI:St}(aD:∀o∈ops.toList,bh C.n o=true)(CN:∀o∈ops.toList,∀t,o.dst=some t->t∈ws):
  ∀(l:List Oper) (i:Nat),ops.toList.drop i=l->∀(st:St) (u:UW) (a:Act) (wa:World) (θ:Nat->Nat),Inv C a wa st u θ->bQ C.n fz ws lI st->Wl E fz ops (Q .normal) l st u->
   wpOpsIn (Fw C.ro) 0 E.P ops (QW C fz ws lI Q) (List.range' i l.length) a wa
 |[],i,_,st,u,a,wa,θ,hI,hP,h=>⟨st,u,θ,hI,hP,h⟩
 |o::l,i,hd,st,u,a,wa,θ,hI,hP,h=>by
  have hi:ops.toList[i]?=some o:=by
   have:=congrArg (·[0]?) hd
   simpa using this
  have dv:o∈ops.toList:=List.mem_of_getElem? hi
  have hoi:ops[i]?=some o:=by simpa using hi
  have Ut:ops.toList.drop (i+1)=l:=by
   have:=congrArg (List.drop 1) hd
   simpa[List.drop_drop,Nat.add_comm]using this
  have fh:=aD o dv
  have ij:∀{s s':St},bQ C.n fz ws lI s->bQ C.n fz o.dst.toList s s'->bQ C.n fz ws lI s':=by
   intro s s' h1 h2
   have:=h1.trans h2
   refine this.mono (λ_ h=>h) λx hx=>?_
   rw[List.mem_append]at hx
   rcases hx with hx|hx
   ·exact hx
   ·cases rW:o.dst with
    |none=>simp[rW]at hx
    |some d=>simp only[rW,Option.toList,List.mem_singleton]at hx;exact CN o dv x (by rw[rW,hx])
  have go:∀{s:St},Inv C a wa s u θ->bQ C.n fz ws lI s->(W1 E fz o s u (λbu w'=>Wl E fz ops (Q .normal) l bu w')\/Sa E fz o s u (λbu w'=>Wl E fz ops (Q .normal) l bu w'))->o.wpIn (Fw C.ro) 0 E.P a wa (wpOpsIn (Fw C.ro) 0 E.P ops (QW C fz ws lI Q) (List.range' (i+1) l.length)) (QW C fz ws lI Q):=by
   intro s hIs ZC h1
   have:=h1.elim (gO (Q:=QW C fz ws lI Q) fh hIs) (Nr (Q:=QW C fz ws lI Q) fh hIs)
   refine sQ C.ro (mr fh) (lF (λa' w' hp=>?_) this)
   obtain⟨bu,u',θ',dC,iC,_,_,hW⟩:=hp
   exact zB aD CN l (i+1) Ut bu u' a' w' θ' dC (ij ZC iC) hW
  have skip:∀{s:St},Inv C a wa s u θ->bQ C.n fz ws lI s->Wl E fz ops (Q .normal) l (fin o s undef) u->(∀f,o.about E.P wa a.eval=some f->(Fw C.ro).fn f)/\wpOpsIn (Fw C.ro) 0 E.P ops (QW C fz ws lI Q) (List.range' (i+1) l.length) (a.put o.dst undef) wa:=by
   intro s hIs ZC h1
   exact⟨λ_ _=>trivial,zB aD CN l (i+1) Ut _ u _ wa θ (hIs.aZ o.dst (dk fh) rfl) (ij ZC (bQ.fin s o.dst (dk fh) hI.gV undef)) h1⟩
  simp only[List.length_cons,List.range'_succ,wpOpsIn,hoi]
  simp only[Wl]at h
  cases hg:o.guard with
  |none=>
   simp only[hg]at h
   have hw:Region.wanted o (yielded ops a.tmps)=true:=by simp[Region.wanted,hg]
   rw[if_pos hw]
   exact go hI hP (.inr h)
  |some jb=>
   obtain⟨j,b⟩:=jb
   simp only[hg]at h
   cases vd:kO ops j with
   |none=>simp only[vd]at h
   |some g=>
    simp only[vd]at h
    have hgn:g<C.n:=by
     unfold kO at vd
     cases hj:ops[j]? with
     |none=>simp[hj]at vd
     |some oj=>
      simp only[hj,Option.bind_some]at vd
      exact dk (aD oj (by have:ops.toList[j]?=some oj:=by simpa using hj
                          exact List.mem_of_getElem? this)) g vd
    have Ui:yielded ops a.tmps j=match a.tmps.getD g undef with| .bool x=>some x|_=>none:=by
     unfold yielded
     unfold kO at vd
     rw[vd,Option.bind_some,getD_some hI.size hgn]
     cases a.tmps.getD g undef<;>rfl
    have tJ:=hI.gC g hgn
    split at h
    ·rename_i c hc
     rw[hc,gP rfl]at tJ
     rw[tJ]at Ui
     have hw:Region.wanted o (yielded ops a.tmps)=(c == b):=by
      simp only[Region.wanted,hg,Ui]
      cases c<;>cases b<;>rfl
     rw[hw]
     cases c with
     |true=>
      simp only[ae]at h
      rw[sS hc]at h
      cases b with
      |true=>simp only at h;exact go hI hP (.inl h)
      |false=>simp only at h;exact skip hI hP h
     |false=>
      simp only[ae]at h
      rw[sS hc]at h
      cases b with
      |true=>simp only at h;exact skip hI hP h
      |false=>simp only at h;exact go hI hP (.inl h)
    ·rename_i vs hc
     rw[hc,gP rfl]at tJ
     rw[tJ]at Ui
     have hw:Region.wanted o (yielded ops a.tmps)=false:=by simp[Region.wanted,hg,Ui]
     rw[hw]
     exact skip hI hP h
    ·exact h.elim
def eP(n:Nat):Code->Bool
 | .region _ ops _=>ops.toList.all (bh n)
 | .seq a b=>eP n a&&eP n b
 | .cond c a b=>cn n c&&eP n a&&eP n b
 | .block _ a=>eP n a
 | .loop a=>eP n a
 | .rangeFunc f ps a b=>cn n f&&ps.toList.all (λp=>Nat.blt p n)&&eP n a&&eP n b
 |_=>true
theorem least{p:Nat->Prop}(h:∃n,p n):∃n,p n/\∀m,p m->n<=m:=by
 obtain⟨n,hn⟩:=h
 induction n using Nat.strongRecOn with
 |_ n ih=>
  by_cases h:∃m,m<n/\p m
  ·obtain⟨m,h1,h2⟩:=h;exact ih m h1 h2
  ·exact⟨n,hn,λm hm=>Nat.le_of_not_lt λbB=>h ⟨m,bB,hm⟩⟩
theorem Od{F:Fence}{n0:Nat}{P:Program}{c:Code}{Q:Exit->Act->World->Prop}(I:Nat->Act->World->Prop)
  (round:∀n a w,I n a w->c.wpIn F n0 P (Exit.then (λa' w'=>∃m,m<n/\I m a' w') Q) a w):∀(n:Nat) (a:Act) (w:World),I n a w->(Code.loop c).wpIn F n0 P Q a w:=by
 classical
 intro n a w h0
 let μ:Act->World->Nat:=λa w=>if h:∃n,I n a w then Classical.choose (least h)else 0
 refine wpIn_loop (λa w=>∃n,I n a w) μ ⟨n,h0⟩ λa w hI=>?_
 have hs:=Classical.choose_spec (least hI)
 have hμ:μ a w=Classical.choose (least hI):=by simp only[μ,dif_pos hI]
 refine wpIn_mono (round _ a w hs.1) λe a' w' hq=>?_
 cases e with
 |normal=>
  obtain⟨m,hm,dC⟩:=hq
  have hx:∃n,I n a' w':=⟨m,dC⟩
  have Af:=Classical.choose_spec (least hx)
  have hμ':μ a' w'=Classical.choose (least hx):=by simp only[μ,dif_pos hx]
  exact⟨⟨m,dC⟩,by rw[hμ,hμ'];exact Nat.lt_of_le_of_lt (Af.2 m dC) hm⟩
 |_=>exact hq
theorem Ck(n:Nat):List.range' 0 n=List.range n:=(List.range_eq_range').symm
def Sound(E:Env)(c:Code):Prop:=∀(C:Ctx),eP C.n c=true->∀(fz:List Nat) (Q:Exit->St->UW->Prop) (st:St) (u:UW) (a:Act) (wa:World) (θ:Nat->Nat),Inv C a wa st u θ->W E fz c Q st u->
    c.wpIn (Fw C.ro) 0 E.P (QW C fz (writes c) st Q) a wa
theorem Inv.RS{a:Act}{wa:World}{st:St}{u:UW}{θ:Nat->Nat}(hI:Inv C a wa st u θ)(o:Obj)(ho:o.isCells=false):Inv C a (wa.alloc o) st u θ/\Hid u (wa.alloc o) wa.heap.size o:=by
 have hB:Below wa.heap.size wa (wa.alloc o):=(Below.refl _ _).alloc (Nat.le_refl _) o
 refine⟨hI.world (u':=u) (F:=λ_=>False) (λ_ hf=>hf.elim) (Below.Oj hB (Nat.le_refl _) _) ?_ (Mod.refl _ _) (λb h1 _ h3=>by omega) (λb hb=>Nat.lt_of_lt_of_le (hI.nh b hb) hB.size) (λ_ hb _=>hb),World.alloc_heap_new wa o,ho,λhp=>?_,λhl=>?_⟩
 ·refine⟨hI.below.os,hI.below.tape,hI.below.output,Nat.le_trans hI.below.size hB.size,λb hb=>?_⟩
  rw[hB.block b (Nat.lt_of_lt_of_le hb hI.below.size)]
  exact hI.below.block b hb
 ·have:=hI.nh _ hp;omega
 ·have:=hI.below.size;omega
theorem aP{w:World}{l b:Nat}{o:Obj}(h:b≠l):(w.putObj l o).heap[b]?=w.heap[b]?:=World.putObj_heap_other h
theorem Inv.forget{a:Act}{wa:World}{st:St}{u:UW}{θ:Nat->Nat}{l:Nat}{o o1 o2:Obj}(hI:Inv C a wa st u θ)(hl:C.w1.heap.size<=l)(hu:u.heap[l]?=some o)(ho:HU o=true)(hw:wa.heap[l]?=some o1)(ho1:HU o1=true):
  Inv C a (wa.putObj l o2) st ⟨u.toWorld.putObj l cj,λb=>u.eN b/\b≠l⟩ θ:=by
 have hlu:l<u.heap.size:=(Array.getElem?_eq_some_iff.1 hu).1
 have Uo:l<wa.heap.size:=(Array.getElem?_eq_some_iff.1 hw).1
 have GM:=hI.GM
 have bV:∀{b:Nat} {ob:Obj},b≠l->Hid u wa b ob->Hid ⟨u.toWorld.putObj l cj,λb=>u.eN b/\b≠l⟩ (wa.putObj l o2) b ob:=λ{b ob} bm hh=>
  ⟨(aP bm).trans hh.at_,hh.other,λhp=>hh.eN hp.1,λbB=>(aP bm).trans (hh.mask (by simpa using bB))⟩
 refine⟨hI.size,hI.gV,⟨λd hd=>?_,hI.defers.nodup⟩,λl0 r e=>?_,hI.gC,?_,?_,hI.inj,hI.ia,hI.fA,?_,?_,?_,?_,hI.GM,?_,hI.F0⟩
 ·obtain⟨r,e,hr,hh⟩:=hI.defers.each d hd
  refine⟨r,e,hr,bV ?_ hh⟩
  rintro rfl
  have:=hh.at_;rw[hw]at this;cases this;cases ho1
 ·have hh:=hI.round l0 r e
  refine bV ?_ hh
  rintro rfl
  have:=hh.mask hlu;rw[hu]at this;cases this;cases ho
 ·refine⟨hI.below.os,hI.below.tape,hI.below.output,by simpa using hI.below.size,λb hb=>?_⟩
  by_cases e:b=l
  ·subst e;exact .inr (World.putObj_heap_same hlu)
  ·have:=hI.below.block b (by simpa using hb)
   show(u.toWorld.putObj l cj).heap[b]?=_\/(u.toWorld.putObj l cj).heap[b]?=_
   rw[aP e,aP e];exact this
 ·intro k m hk
  obtain⟨zP,c,T,h1,h2,h3,h4,h5,h6⟩:=hI.boxes k m hk
  have bm:θ k≠l:=by
   intro e;rw[e,hw]at h1;cases h1;cases ho1
  exact⟨zP,c,T,(aP bm).trans h1,h2,h3,λhp=>h4 hp.1,h5,λbB=>(aP bm).trans (h6 (by simpa using bB))⟩
 ·intro b hb;simpa using hI.nh b hb.1
 ·exact⟨hI.mod.os,hI.mod.tape,hI.mod.output,by simpa using hI.mod.size,λb hb hF=>(aP (by omega)).trans (hI.mod.bV b hb hF)⟩
 ·exact λb hb bB=>hI.od b hb.1 bB
 ·exact⟨hI.umod.os,hI.umod.tape,hI.umod.output,by simpa using hI.umod.size,λb hb hF=>(aP (by omega)).trans (hI.umod.bV b hb hF)⟩
 ·intro b h1 h2 h3
  exact(aP (by omega)).trans (hI.xv b h1 h2 (by simpa using h3))
theorem Inv.GO{a:Act}{wa:World}{st:St}{u:UW}{θ:Nat->Nat}{l:Nat}{r:Loop}(hI:Inv C a wa st u θ)(hro:C.ro=some (l,r))(r':Loop):
  Inv {C with w1:=C.w1.putObj l (.loop r'),ro:=some (l,r')} a (wa.putObj l (.loop r')) st u θ:=by
 have hl:=hI.round l r hro
 have Uo:l<wa.heap.size:=(Array.getElem?_eq_some_iff.1 hl.at_).1
 have bV:∀{b:Nat} {ob:Obj},b≠l->Hid u wa b ob->Hid u (wa.putObj l (.loop r')) b ob:=λ{b ob} bm hh=>⟨(aP bm).trans hh.at_,hh.other,hh.eN,hh.mask⟩
 refine⟨hI.size,hI.gV,⟨λd hd=>?_,hI.defers.nodup⟩,λl0 r0 e=>?_,hI.gC,?_,?_,hI.inj,hI.ia,hI.fA,?_,?_,?_,hI.umod,by simpa using hI.GM,?_,hI.F0⟩
 ·obtain⟨r0,e,hr,hh⟩:=hI.defers.each d hd
  refine⟨r0,e,by simpa using hr,bV ?_ hh⟩
  rintro rfl
  have:=hh.at_;rw[hl.at_]at this;cases this
 ·simp only[Option.some.injEq,Prod.mk.injEq]at e
  obtain⟨rfl,rfl⟩:=e
  exact⟨World.putObj_heap_same Uo,rfl,hl.eN,hl.mask⟩
 ·refine⟨hI.below.os,hI.below.tape,hI.below.output,by simpa using hI.below.size,λb hb=>?_⟩
  by_cases e:b=l
  ·subst e;exact .inr (hl.mask hb)
  ·rw[aP e];exact hI.below.block b hb
 ·intro k m hk
  obtain⟨zP,c,T,h1,h2,h3,h4,h5,h6⟩:=hI.boxes k m hk
  have bm:θ k≠l:=by
   intro e;rw[e,hl.at_]at h1;cases h1
  exact⟨zP,c,T,(aP bm).trans h1,h2,h3,h4,by simpa using h5,h6⟩
 ·intro b hb;simpa using hI.nh b hb
 ·refine⟨hI.mod.os,hI.mod.tape,hI.mod.output,by simpa using hI.mod.size,λb hb hF=>?_⟩
  by_cases e:b=l
  ·subst e
   show(wa.putObj b (.loop r')).heap[b]?=(C.w1.putObj b (.loop r')).heap[b]?
   rw[World.putObj_heap_same Uo,World.putObj_heap_same (by simpa using hb)]
  ·show(wa.putObj l (.loop r')).heap[b]?=(C.w1.putObj l (.loop r')).heap[b]?
   rw[aP e,aP e];exact hI.mod.bV b (by simpa using hb) hF
 ·exact λb hb bB=>hI.od b hb (by simpa using bB)
 ·intro b h1 h2 h3;exact hI.xv b h1 (by simpa using h2) h3
def vW(r:Loop)(p:Option Code):Obj:=.loop {r with state:=if p.isNone then .ready else .done,pending:=p}
theorem yR{P:Program}:∀{ts:List TypeId} {F:List Value->Prop},Iw P ts F->∃vs,vs.length=ts.length/\(∀v∈vs,plain v=true)/\F vs
 |[],_,h=>⟨[],rfl,by simp,h⟩
 |t::ts,F,h=>by
  obtain⟨v,hp,h⟩:=yS h
  obtain⟨vs,hl,tM,h⟩:=yR h
  exact⟨v::vs,by simp[hl],by simpa using⟨hp,tM⟩,h⟩
theorem Yg{θ θ':Nat->Nat}{σ:Fr}{t:Nat}{r:Value}(h:R θ (σ t) r):R θ' (wL σ t) r:=by
 unfold wL
 split
 ·trivial
 ·rename_i v hv
  have hp:plain (σ t)=true:=by
   cases hx:σ t<;>first|rfl|(exact absurd hx (hv _ _ _))
  rw[gP hp]at h |-
  exact h
theorem LP{σ:Fr}{t k o:Nat}:wL σ t≠cY k o:=by
 unfold wL
 split
 ·intro h;cases h
 ·rename_i v hv
  intro h
  exact hv _ _ _ h
theorem vQ{θ:Nat->Nat}{n:Nat}:∀(ps:List Nat) (vs:List Value) (σ:Fr) (tm:Array Value),ps.length=vs.length->tm.size=n->(∀p∈ps,p<n)->(∀v∈vs,plain v=true)->(∀t,t<n->R θ (σ t) (tm.getD t undef))->(∀t k o,σ t≠cY k o)->
  ((ps.zip vs).foldl (λt (x:Nat×Value)=>t.setIfInBounds x.1 x.2) tm).size=n/\(∀t,t<n->R θ (tb σ ps vs t) (((ps.zip vs).foldl (λt (x:Nat×Value)=>t.setIfInBounds x.1 x.2) tm).getD t undef))/\∀t k o,tb σ ps vs t≠cY k o
 |[],[],σ,tm,_,hs,_,_,h,hf=>⟨hs,h,hf⟩
 |p::ps,v::vs,σ,tm,hl,hs,tM,vc,h,hf=>by
  have hp:p<tm.size:=by rw[hs];exact tM p (by simp)
  have q_:=vc v (by simp)
  simp only[List.zip_cons_cons,List.foldl_cons,tb]
  refine vQ ps vs (iz σ p v) (tm.setIfInBounds p v) (by simpa using hl) (by simpa using hs) (λq hq=>tM q (by simp[hq])) (λw hw=>vc w (by simp[hw])) (λt ht=>?_) (λt k o e=>?_)
  ·rw[tO _ _ _ _ hp]
   by_cases e:t=p
   ·subst e;rw[if_pos rfl,dL];exact mK q_
   ·rw[if_neg e,bH _ _ e];exact h t ht
  ·by_cases e':t=p
   ·subst e';rw[dL]at e;exact iI q_ k o e
   ·rw[bH _ _ e']at e;exact hf t k o e
 |[],_::_,_,_,hl,_,_,_,_,_=>by simp at hl
 |_::_,[],_,_,hl,_,_,_,_,_=>by simp at hl
theorem MN(ps:Array Nat)(vs:List Value)(tm:Array Value):
  (ps.zip vs.toArray).foldl (λt (p,v)=>t.setIfInBounds p v) tm=(ps.toList.zip vs).foldl (λt (x:Nat×Value)=>t.setIfInBounds x.1 x.2) tm:=by
 rw[<- Array.foldl_toList,Array.toList_zip]
theorem DO{E:Env}{n:Nat}{x y:Code}{ps:Array Nat}{ts:List TypeId}{σ:Fr}{θ:Nat->Nat}{l:Nat}{r:Loop}(Fb:Sound E x)(Fa:Sound E y)(okx:eP n x=true)(oky:eP n y=true)
  (hn:n<=65536) (tM:∀p∈ps.toList,p<n) (wO:ts.length=ps.toList.length) (eg:r.tmps.size=n) (DI:∀t,t<n->R θ (σ t) (r.tmps.getD t undef)) (hrp:r.params=ps) (hrx:r.assign=x) (hry:r.body=y)
  (vs:List Value) (w1:World) (F:Nat->Prop) (RR:Option Code->UW->Prop) (hl:w1.heap[l]?=some (vW r none)) (hF:∀b,F b->b<w1.heap.size/\b≠l)
  (h:Iw E.P ts λfu=>vs=fu/\W E [] x (PA λdb u1=>W E [] y (Hd RR) db u1) ⟨tb (wL σ) ps.toList fu,[]⟩ ⟨w1.putObj l cj,F⟩):
  Jc E.P (.func (.yield l) #[] #[]) vs w1 (λb=>F b\/b=l) λv lo w2=>∃p eN w3,v=.bool p.isNone/\w2=w3.putObj l (vW r p)/\w3.heap[l]?=some cj/\(∀b,eN b->F b\/lo<=b)/\RR p ⟨w3,eN⟩:=by
 intro XB mY
 obtain⟨fu,hlen,q_,rfl,hW⟩:=yR h
 have Uo:l<w1.heap.size:=(Array.getElem?_eq_some_iff.1 hl).1
 have Fm:XB.heap[l]?=some (vW r none):=by
  rcases mY.block l Uo with e|e
  ·rw[<- e];exact hl
  ·rw[hl]at e;cases e
 refine⟨rfl,rfl,{r with state:=.ready,pending:=none},Fm,by simp only[hrp];rw[hlen,wO];simp,roundIn_of_wpIn (F:=Fence.wide) trivial ?_⟩
 simp only[hrp,hrx,hry]
 rw[MN]
 obtain⟨z1,z2,z3⟩:=vQ (θ:=λ_=>0) ps.toList vs (wL σ) r.tmps (by omega) eg tM q_ (λt ht=>Yg (DI t ht)) (λt k o=>LP)
 have lD:Inv ⟨n,w1.putObj l cj,XB,F,some (l,{r with state:=.ready,pending:=none})⟩ {tmps:=(ps.toList.zip vs).foldl (λt (x:Nat×Value)=>t.setIfInBounds x.1 x.2) r.tmps,defers:=[]} XB ⟨tb (wL σ) ps.toList vs,[]⟩ ⟨w1.putObj l cj,F⟩ (λ_=>0):=by
  refine⟨z1,hn,⟨by simp,List.nodup_nil⟩,λl0 r0 e=>?_,z2,?_,by simp,by simp,λt _ k o e=>absurd e (z3 t k o),by simp,λb hb=>Nat.lt_of_lt_of_le (hF b hb).1 mY.size,Mod.refl _ _,λb hb _=>hb,Mod.refl _ _,by simpa using mY.size,λb h1 _ h3=>absurd h3 (Nat.not_lt.2 h1),λb hb=>by simpa using(hF b hb).1⟩
  ·simp only[Option.some.injEq,Prod.mk.injEq]at e
   obtain⟨rfl,rfl⟩:=e
   exact⟨Fm,rfl,λhp=>(hF _ hp).2 rfl,λ_=>World.putObj_heap_same Uo⟩
  ·refine⟨mY.os,mY.tape,mY.output,by simpa using mY.size,λb hb=>?_⟩
   by_cases e:b=l
   ·subst e;exact .inr (World.putObj_heap_same Uo)
   ·show(w1.putObj l cj).heap[b]?=_\/(w1.putObj l cj).heap[b]?=_
    rw[aP e];exact mY.block b (by simpa using hb)
 refine wpIn_mono (Fb ⟨n,w1.putObj l cj,XB,F,some (l,{r with state:=.ready,pending:=none})⟩ okx [] _ _ _ _ _ _ lD hW) λe a2 wa2 hq=>?_
 obtain⟨Ti,u2,θ2,Ak,_,hq⟩:=hq
 cases e with
 |normal=>
  refine⟨_,run_beginRound (Ak.round l _ rfl).at_ rfl,?_⟩
  have hI3:=Ak.GO rfl {r with state:=.busy,pending:=none}
  refine wpIn_mono (Fa _ oky [] _ _ _ _ _ _ hI3 hq) λe a3 wa3 hq=>?_
  obtain⟨st3,u3,θ3,zS,_,hq⟩:=hq
  have hh:=zS.round l _ rfl
  have akX:l<wa3.heap.size:=(Array.getElem?_eq_some_iff.1 hh.at_).1
  have Uk:w1.heap.size<=u3.heap.size:=by simpa using zS.umod.size
  have done:∀(p:Option Code),RR p u3->∃v w',(Instr.endRound l p).run E.P wa3=.ok v w'/\∃v' w'',Ending.returned v=.returned v'/\Out (λb=>F b\/b=l) w1 XB w'' w'/\∃p' eN w3,v'=.bool p'.isNone/\w''=w3.putObj l (vW r p')/\w3.heap[l]?=some cj/\(∀b,eN b->F b\/XB.heap.size<=b)/\RR p' ⟨w3,eN⟩:=by
   intro p hR
   refine⟨_,_,run_endRound p hh.at_,_,u3.toWorld.putObj l (vW r p),rfl,⟨?_,?_,?_,?_⟩,p,u3.eN,u3.toWorld,rfl,rfl,hh.mask (by omega),λb hb=>?_,hR⟩
   ·refine⟨zS.mod.os,zS.mod.tape,zS.mod.output,by simpa using zS.mod.size,λb hb hnF=>?_⟩
    have bm:b≠l:=λe=>hnF (.inr e)
    rw[aP bm,zS.mod.bV b (by simpa using hb) (λhf=>hnF (.inl hf))]
    exact aP bm
   ·refine⟨zS.below.os,zS.below.tape,zS.below.output,by simpa using zS.below.size,λb hb=>?_⟩
    by_cases e:b=l
    ·subst e
     left
     rw[World.putObj_heap_same (by simpa using hb),World.putObj_heap_same akX]
     rfl
    ·rw[aP e,aP e];exact zS.below.block b (by simpa using hb)
   ·refine⟨zS.umod.os,zS.umod.tape,zS.umod.output,by simpa using Uk,λb hb hnF=>?_⟩
    have bm:b≠l:=λe=>hnF (.inr e)
    rw[aP bm,zS.umod.bV b (by simpa using hb) (λhf=>hnF (.inl hf))]
    exact aP bm
   ·intro b h1 h2 h3
    rw[aP (by omega)]
    exact zS.xv b (by simpa using h1) (by simpa using h2) (by simpa using h3)
   ·by_cases bB:b<XB.heap.size
    ·exact .inl (zS.od b hb (by simpa using bB))
    ·exact .inr (by omega)
  cases e with
  |normal=>exact done none hq
  |ret=>exact done (some .ret) hq
  |exit i=>exact done (some (.exit i)) hq
  |goto i=>exact hq.elim
  |panic c=>exact hq.elim
  |outgrown=>exact hq.elim
 |exit i=>exact hq.elim
 |goto i=>exact hq.elim
 |ret=>exact hq.elim
 |panic c=>exact hq.elim
 |outgrown=>exact hq.elim
theorem yu{Q:Nat->Prop}{i:Nat}:∀{l:List Nat},yw (l.map λj=>(j,Q j)) i->Q i
 |[],h=>h.elim
 |j::l,h=>by
  simp only[List.map_cons,yw,Bool.cond_eq_ite,beq_iff]at h
  split at h
  ·rename_i e;subst e;exact h
  ·exact yu h
theorem Es{E:Env}{f:Operand}{ps:Array Nat}{x y:Code}(Fb:Sound E x)(Fa:Sound E y):Sound E (.rangeFunc f ps x y):=by
 intro C fw fz Q st u a wa θ hI h
 simp only[eP,Bool.and_eq_true,List.all_eq_true]at fw
 obtain⟨⟨⟨hof,tM⟩,hox⟩,hoy⟩:=fw
 simp only[W]at h
 cases wO:look E.kU (ps.toList.headD 0)with
 |none=>simp only[wO]at h
 |some ts=>
  simp only[wO]at h
  obtain⟨hlen,⟨g,fa,fb,hfv⟩,h⟩:=ak h
  have hlen:=beq_iff.1 hlen
  have Zu:a.eval f=.func (.func g) fa fb:=aR hI hof hfv rfl
  refine wpIn_rangeFunc λfn _=>?_
  obtain⟨D,l,mark,pre,aed,hle,hIp⟩:∃(D l:Nat) (mark:List Deferred) (pre:World),(Instr.enterLoop fn a.tmps ps x y (Fw C.ro).round).run E.P wa=.ok (l,mark) (pre.alloc (.loop {state:=.ready,pending:=none,fn,tmps:=a.tmps,params:=ps,assign:=x,body:=y,defers:=D}))/\
    l=pre.heap.size/\Inv C {a with defers:=mark++a.defers} pre st u θ:=by
   cases hro:C.ro with
   |none=>
    obtain⟨lD,hh⟩:=hI.RS (.deferred (some [])) rfl
    refine⟨wa.heap.size,wa.heap.size+1,_,wa.alloc (.deferred (some [])),run_enterLoop_outer fn a.tmps ps x y,by simp,⟨lD.size,lD.gV,⟨λd hd=>?_,?_⟩,lD.round,lD.gC,lD.below,lD.boxes,lD.inj,lD.ia,lD.fA,lD.nh,lD.mod,lD.od,lD.umod,lD.GM,lD.xv,lD.F0⟩⟩
    ·simp only[List.cons_append,List.nil_append,List.mem_cons]at hd
     rcases hd with rfl|hd
     ·exact⟨wa.heap.size,rfl,hI.mod.size,hh⟩
     ·exact lD.defers.each d hd
    ·simp only[List.cons_append,List.nil_append]
     refine List.nodup_cons.2 ⟨λhd=>?_,lD.defers.nodup⟩
     obtain⟨r,e,_,hr⟩:=hI.defers.each _ hd
     simp only[Deferred.mk.injEq,Target.collected.injEq]at e
     have:=(Array.getElem?_eq_some_iff.1 hr.at_).1
     omega
   |some lr=>
    obtain⟨l0,r0⟩:=lr
    exact⟨r0.defers,wa.heap.size,[],wa,run_enterLoop_inner (hI.round l0 r0 hro).at_ fn a.tmps ps x y,rfl,hI⟩
  subst hle
  obtain⟨r,hr⟩:∃r:Loop,r={state:=.ready,pending:=none,fn,tmps:=a.tmps,params:=ps,assign:=x,body:=y,defers:=D}:=⟨_,rfl⟩
  rw[<- hr]at aed
  obtain⟨w',aek,Ak⟩:=hIp.born (.loop r)
  have hrn:vW r none=.loop r:=by rw[hr];rfl
  have dG:=h pre.heap.size (vW r) w' (λp=>rfl) (by rw[hrn];exact aek) (λvs w1 F RR hl hF hb=>
   DO (θ:=θ) Fb Fa hox hoy hI.gV (λp hp=>gM.1 (tM p hp)) hlen (by rw[hr];exact hI.size) (by rw[hr];exact hI.gC) (by rw[hr]) (by rw[hr]) (by rw[hr]) vs w1 F RR hl hF hb)
  obtain⟨F,hF,dG⟩:=iy.1 dG
  have hc:=dG _ Ak.below
  rw[hfv]at hc
  obtain⟨gu,hc⟩:=hc
  refine⟨pre.heap.size,mark,pre.alloc (.loop r),{target:=.fn (.func g) fb,args:=fa++ #[.func (.yield pre.heap.size) #[] #[]]},pre.alloc (.loop r),g,fa++ #[.func (.yield pre.heap.size) #[] #[]]++fb,pre.alloc (.loop r),aed,?_,λ_ _=>trivial,?_,λh=>(by cases h),?_⟩
  ·simp[resolve,Zu,Deferred.ofValue];rfl
  ·simp only[invoke]
   exact mm gu
  ·have jP:(fa++ #[Value.func (.yield pre.heap.size) #[] #[]]++fb)=(fa.toList++[Value.func (.yield pre.heap.size) #[] #[]]++fb.toList).toArray:=by
    apply Array.toList_inj.1;simp
   rw[jP]
   refine callsIn_wide.2 (hc.mono λe wr hp=>?_)
   obtain⟨v,w2,rfl,dH,p,Un,hK⟩:=hp
   have hI3:=Ak.ret hF dH
   have Ag:wr.heap[pre.heap.size]?=some (vW r p):=by
    rcases hI3.below.block _ (Array.getElem?_eq_some_iff.1 Un).1 with e|e
    ·rw[<- e];exact Un
    ·rw[Un]at e;cases e
   refine⟨p,_,run_endLoop Ag (by cases p<;>simp),?_⟩
   have zS:=hI3.forget (o2:=.loop {r with state:=.exhausted,pending:=p}) hIp.mod.size Un rfl Ag rfl
   have hP:bQ C.n fz (writes (.rangeFunc f ps x y)) st st:=bQ.refl _ _ _ _
   unfold PK at hK
   split at hK
   ·exact⟨st,_,θ,zS,hP,hK⟩
   ·refine wpIn_ret ⟨st,_,θ,zS,hP,?_⟩
    exact(ak hK).2
   ·refine wpIn_exit ⟨st,_,θ,zS,hP,?_⟩
    exact yu (Q:=λi=>Q (.exit i) st _) hK
   ·exact hK.elim
theorem VD(c:Code):Sound E c:=by
 induction c with
 |skip=>intro C fw fz Q st u a wa θ hI h;exact wpIn_skip ⟨st,u,θ,hI,bQ.refl _ _ _ _,h⟩
 |ret=>intro C fw fz Q st u a wa θ hI h;exact wpIn_ret ⟨st,u,θ,hI,bQ.refl _ _ _ _,h⟩
 |exit i=>intro C fw fz Q st u a wa θ hI h;exact wpIn_exit ⟨st,u,θ,hI,bQ.refl _ _ _ _,h⟩
 |region id ops draw=>
  intro C fw fz Q st u a wa θ hI h
  simp only[eP,List.all_eq_true]at fw
  cases draw with
  |true=>
   simp only[W]at h
   obtain⟨hm,h⟩:=ak h
   cases hiq:Ue E.cU id with
   |true=>
    rw[hiq]at h
    simp only[cond_true]at h
    cases hp:eI ops with
    |none=>simp only[hp]at h
    |some p=>
     simp only[hp]at h
     exact Np hm fw (λo ho t ht=>by simp only[writes,List.mem_filterMap];exact⟨o,ho,ht⟩) hp hI h
   |false=>
   rw[hiq]at h
   simp only[cond_false]at h
   cases hp:oD ops with
   |none=>simp only[hp]at h
   |some p=>
    simp only[hp]at h
    exact Nq hm fw (λo ho t ht=>by simp only[writes,List.mem_filterMap];exact⟨o,ho,ht⟩) hp hI h
  |false=>
   simp only[W]at h
   refine wpIn_region ?_
   have:=zB (E:=E) (Q:=Q) (lI:=st) (ws:=writes (.region id ops false)) fw (λo ho t ht=>by simp only[writes,List.mem_filterMap];exact⟨o,ho,ht⟩) ops.toList 0 rfl st u a wa θ hI (bQ.refl _ _ _ _) h
   rw[Array.length_toList,Ck]at this
   exact this
 |seq x y Fb Fa=>
  intro C fw fz Q st u a wa θ hI h
  simp only[eP,Bool.and_eq_true]at fw
  simp only[W]at h
  refine wpIn_seq ?_
  split at h
  ·refine wpIn_mono (Fb C fw.1 fz _ st u a wa θ hI h) λe a' DS hq=>?_
   obtain⟨bu,u',θ',dC,iC,hq⟩:=hq
   cases e with
   |normal=>
    refine wpIn_mono (Fa C fw.2 fz Q bu u' a' DS θ' dC hq) λe a'' ace hq=>?_
    obtain⟨XY,u'',θ'',ZE,Ij,hq⟩:=hq
    exact⟨XY,u'',θ'',ZE,iC.trans Ij,hq⟩
   |exit i=>exact⟨bu,u',θ',dC,iC.mono (λ_ h=>h) (λ_ h=>List.mem_append_left _ h),hq⟩
   |goto i=>exact⟨bu,u',θ',dC,iC.mono (λ_ h=>h) (λ_ h=>List.mem_append_left _ h),hq⟩
   |ret=>exact⟨bu,u',θ',dC,iC.mono (λ_ h=>h) (λ_ h=>List.mem_append_left _ h),hq⟩
   |panic i=>exact⟨bu,u',θ',dC,iC.mono (λ_ h=>h) (λ_ h=>List.mem_append_left _ h),hq⟩
   |outgrown=>exact⟨bu,u',θ',dC,iC.mono (λ_ h=>h) (λ_ h=>List.mem_append_left _ h),hq⟩
  ·rename_i cut _
   obtain⟨hl,J,hA,hB⟩:=ak h
   have zU:∀{s:St},bQ C.n (freeze fz st.D cut) (writes x) st s->bQ C.n fz (writes x++writes y) st s:=λhp=>
    hp.mono (λz hz=>List.mem_append_left _ hz) (λz hz=>List.mem_append_left _ hz)
   refine wpIn_mono (Fb C fw.1 (freeze fz st.D cut) _ st u a wa θ hI hA) λe a' DS hq=>?_
   obtain⟨bu,u',θ',dC,iC,hq⟩:=hq
   cases e with
   |normal=>
    simp only[qR,SZ]at hq
    obtain⟨hs,hq⟩:=ak hq
    cases ME:eJ bu cut.live with
    |none=>simp only[ME]at hq
    |some s=>
     simp only[ME]at hq
     obtain⟨hIm,hPm⟩:=HN hI dC iC hl hs ME
     refine wpIn_mono (Fa C fw.2 fz Q _ u' a' DS θ' hIm (hB s u' hq)) λe a'' ace hq=>?_
     obtain⟨XY,u'',θ'',ZE,Ij,hq⟩:=hq
     exact⟨XY,u'',θ'',ZE,hPm.trans Ij,hq⟩
   |exit i=>exact⟨bu,u',θ',dC,zU iC,hq⟩
   |goto i=>exact⟨bu,u',θ',dC,zU iC,hq⟩
   |ret=>exact⟨bu,u',θ',dC,zU iC,hq⟩
   |panic i=>exact⟨bu,u',θ',dC,zU iC,hq⟩
   |outgrown=>exact⟨bu,u',θ',dC,zU iC,hq⟩
 |cond c x y Fb Fa=>
  intro C fw fz Q st u a wa θ hI h
  simp only[eP,Bool.and_eq_true]at fw
  obtain⟨⟨hc,hx⟩,hy⟩:=fw
  simp only[W]at h
  split at h
  ·rename_i t ht
   refine wpIn_cond (aR hI hc ht rfl) ?_
   cases t with
   |true=>
    refine wpIn_mono (Fb C hx fz Q st u a wa θ hI h) λe a' DS hq=>?_
    obtain⟨bu,u',θ',dC,iC,hq⟩:=hq
    exact⟨bu,u',θ',dC,iC.mono (λ_ h=>h) (λ_ h=>List.mem_append_left _ h),hq⟩
   |false=>
    refine wpIn_mono (Fa C hy fz Q st u a wa θ hI h) λe a' DS hq=>?_
    obtain⟨bu,u',θ',dC,iC,hq⟩:=hq
    exact⟨bu,u',θ',dC,iC.mono (λ_ h=>h) (λ_ h=>List.mem_append_right _ h),hq⟩
  ·exact h.elim
 |block id x ih=>
  intro C fw fz Q st u a wa θ hI h
  simp only[W]at h
  refine wpIn_block (wpIn_mono (ih C fw fz _ st u a wa θ hI h) λe a' DS hq=>?_)
  obtain⟨bu,u',θ',dC,iC,hq⟩:=hq
  cases e with
  |exit i=>
   simp only[vu,Bool.cond_eq_ite,beq_iff]at hq
   simp only[Exit.inBlock]
   split at hq
   ·rename_i e;rw[if_pos e];exact⟨bu,u',θ',dC,iC,hq⟩
   ·rename_i e;rw[if_neg e];exact⟨bu,u',θ',dC,iC,hq⟩
  |normal=>exact⟨bu,u',θ',dC,iC,hq⟩
  |goto i=>exact⟨bu,u',θ',dC,iC,hq⟩
  |ret=>exact⟨bu,u',θ',dC,iC,hq⟩
  |panic i=>exact⟨bu,u',θ',dC,iC,hq⟩
  |outgrown=>exact⟨bu,u',θ',dC,iC,hq⟩
 |loop x ih=>
  intro C fw fz Q st u a wa θ hI h
  simp only[W]at h
  split at h
  ·exact h.elim
  ·rename_i cut _
   obtain⟨hl,h⟩:=ak h
   simp only[SZ]at h
   obtain⟨hs,h⟩:=ak h
   cases ME:eJ st cut.live with
   |none=>simp only[ME]at h
   |some s0=>
    simp only[ME]at h
    obtain⟨I,⟨n0,hI0⟩,H_⟩:=h
    have hP0:bQ C.n (freeze fz st.D cut) (writes x) st st:=bQ.refl _ _ _ _
    obtain⟨hIm,hPm⟩:=HN hI hI hP0 hl hs ME
    refine Od (λn a' DS=>∃s u' θ',Inv C a' DS (mix st (writes x) cut s) u' θ'/\I n s u'/\bQ C.n fz (writes x) st (mix st (writes x) cut s)) ?_ n0 a wa ⟨s0,u,θ,hIm,hI0,hPm⟩
    intro n a' DS hh
    obtain⟨s,u',θ',dC,hIs,ZC⟩:=hh
    have hb:=H_ n s u' hIs
    refine wpIn_mono (ih C fw _ _ _ u' a' DS θ' dC hb) λe a'' ace hq=>?_
    obtain⟨Ti,u2,θ2,Ak,hP2,hq⟩:=hq
    have QD:bQ C.n fz (writes x) st Ti:=by
     have:=ZC.trans (hP2.mono (ZO:=fz) (λz hz=>List.mem_append_left _ hz) (λz hz=>hz))
     exact this.mono (λ_ h=>h) (λz hz=>by rw[List.mem_append]at hz;exact hz.elim id id)
    cases e with
    |normal=>
     simp only[qR,SZ]at hq
     obtain⟨HZ,hq⟩:=ak hq
     cases Zs:eJ Ti cut.live with
     |none=>simp only[Zs]at hq
     |some s2=>
      simp only[Zs]at hq
      have hfr:bQ C.n (freeze fz st.D cut) (writes x) st Ti:=by
       have h1:bQ C.n (freeze fz st.D cut) (writes x) st (mix st (writes x) cut s):=⟨ZC.slot,ZC.D,λk hk m hm j hj=>?_⟩
       ·have:=h1.trans hP2
        exact this.mono (λ_ h=>h) (λz hz=>by rw[List.mem_append]at hz;exact hz.elim id id)
       ·exact(TV hI hl (writes x) s) k hk m hm j hj
      obtain⟨alC,alx⟩:=HN hI Ak hfr hl HZ Zs
      obtain⟨m,hm,hq⟩:=hq
      exact⟨m,hm,s2,u2,θ2,alC,hq,alx⟩
    |exit i=>exact⟨Ti,u2,θ2,Ak,QD,hq⟩
    |goto i=>exact⟨Ti,u2,θ2,Ak,QD,hq⟩
    |ret=>exact⟨Ti,u2,θ2,Ak,QD,hq⟩
    |panic i=>exact⟨Ti,u2,θ2,Ak,QD,hq⟩
    |outgrown=>exact⟨Ti,u2,θ2,Ak,QD,hq⟩
 |rangeFunc f ps x y Fb Fa=>exact Es Fb Fa
 |scope x ih=>intro C fw fz Q st u a wa θ hI h;exact h.elim
 |label l=>intro C fw fz Q st u a wa θ hI h;exact h.elim
 |goto l=>intro C fw fz Q st u a wa θ hI h;exact h.elim
 |refuse s=>intro C fw fz Q st u a wa θ hI h;exact h.elim
end
def Bc(n:Nat):ResultVar->Bool
 | .tmp t=>Nat.blt t n
 | .cell t _=>Nat.blt t n
def TI(n:Nat)(c:Code)(rs:List ResultVar)(args:List Value):Bool:=eP n c&&Nat.ble n 65536&&rs.all (Bc n)&&Nat.ble args.length n&&args.all plain
def Ch(tmps:Array Value):ResultVar->Sem Value
 | .tmp t=>pure (tmps.getD t undef)
 | .cell x t=>do loadVar t (<- asAddr (tmps.getD x undef))
section
variable {C:Ctx} {a:Act} {wa:World} {st:St} {u:UW} {θ:Nat->Nat}
theorem uO{P:Program}{tmps:Array Value}{x:Nat}{t:TypeId}{ad:Addr}{v:Value}{w:World}(h:tmps.getD x undef=.pointer (some ad))(hl:(loadVar t ad).run P w=.ok v w):(Ch tmps (.cell x t)).run P w=.ok v w:=by
 simp only[Ch,Sem.run_bind,h,asAddr,Sem.run_pure,Result.andThen_ok,hl]
theorem JV{P:Program}{tmps:Array Value}{r:ResultVar}{rs:List ResultVar}{v:Value}{vs:List Value}{w:World}(h:(Ch tmps r).run P w=.ok v w)(hs:(rs.mapM (Ch tmps)).run P w=.ok vs w):
  ((r::rs).mapM (Ch tmps)).run P w=.ok (v::vs) w:=by
 simp only[List.mapM_cons,Sem.run_bind,h,Result.andThen_ok,hs,Sem.run_pure]
theorem mq{P:Program}(hI:Inv C a wa st u θ):∀(rs:List ResultVar) (F:List Value->Prop),(∀r∈rs,Bc C.n r=true)->rH P st u rs F->
  ∃vs,(rs.mapM (Ch a.tmps)).run P wa=.ok vs wa/\F vs
 |[],F,_,h=>⟨[],by simp,h⟩
 | .tmp t::rs,F,aD,h=>by
   simp only[rH]at h
   obtain⟨hp,h⟩:=ak h
   obtain⟨vs,hr,hF⟩:=mq hI rs _ (λr hr=>aD r (by simp[hr])) h
   have htn:Bc C.n (.tmp t)=true:=aD _ (by simp)
   have ht:=hI.gC t (gM.1 htn)
   rw[gP hp]at ht
   exact⟨_,JV (by simp only[Ch,Sem.run_pure,ht]) hr,hF⟩
 | .cell x t::rs,F,aD,h=>by
   simp only[rH]at h
   have htn:Bc C.n (.cell x t)=true:=aD _ (by simp)
   have hx:x<C.n:=gM.1 htn
   have hs:=hI.gC x hx
   cases hk:kinds P t with
   |none=>simp only[hk]at h
   |some ks=>
    simp only[hk]at h
    obtain⟨Fm,⟨d,hu⟩,uF⟩:=jK hk
    split at h
    ·rename_i k off he
     cases hb:bY st.D k with
     |none=>simp only[hb]at h
     |some m=>
      simp only[hb]at h
      obtain⟨hc,h⟩:=ak h
      simp only[Bool.and_eq_true,Nat.ble_eq]at hc
      obtain⟨h1,h2⟩:=hc
      obtain⟨_,c,T,b1,b2,b3,_⟩:=hI.boxes k m (iO hb)
      have yJ:=fS b2 b3 ks.length off h1 (lY h2)
      obtain⟨vs,hr,hF⟩:=mq hI rs _ (λr hr=>aD r (by simp[hr])) h
      rw[he]at hs
      have Af:a.tmps.getD x undef=.pointer (some ⟨θ k,off,none⟩):=hs
      exact⟨_,JV (uO Af (by rw[gm hk b1 (show off+ks.length<=c.size by omega),yJ])) hr,hF⟩
    ·obtain⟨b,off,hv,h⟩:=eV h
     obtain⟨us,hlen,hp,eF,h⟩:=oV h
     obtain⟨vs,hr,hF⟩:=mq hI rs _ (λr hr=>aD r (by simp[hr])) h
     rw[hv,gP rfl]at hs
     by_cases hz:ks.length=0
     ·have kL:bG P t=true:=uF.resolve_right (by omega)
      have vc:us=[]:=List.eq_nil_of_length_eq_zero (by omega)
      subst vc
      obtain⟨i,hi⟩:=fJ hu
      refine⟨_,JV (uO hs ?_) hr,hF⟩
      simp only[loadVar,Sem.run_bind,jB hu,kL,if_true,bO hi,<- Fm,hz,Result.andThen_ok]
      rfl
     ·obtain⟨c,T,f,c1,c2,c3⟩:=pU hI.below eF hz
      exact⟨_,JV (uO hs (by rw[gm hk c1 c2,<- c3])) hr,hF⟩
theorem En{P:Program}{fn:Func}{rs:List ResultVar}(GB:fn.results.toList=rs){vs:List Value}(h:(rs.mapM (Ch a.tmps)).run P wa=.ok vs wa):
  (results fn a.tmps).run P wa=.ok (match vs with|[v]=>v|vs=>.tuple vs.toArray) wa:=by
 have e:results fn a.tmps=(do let vs <- fn.results.mapM (Ch a.tmps);pure (if h:vs.size=1 then vs[0]else .tuple vs):Sem Value):=by
  unfold results
  congr 1
 rw[e,Array.mapM_eq_mapM_toList,GB]
 simp only[Sem.run_bind,Sem.run_map,h,Result.andThen_ok,Sem.run_pure]
 match vs with
 |[]=>rfl
 |[v]=>rfl
 |v::v'::vs=>simp
end
theorem Inv.XM{C:Ctx}{a:Act}{wa:World}{st:St}{u:UW}{θ:Nat->Nat}{d:Deferred}{ds:List Deferred}{r:Nat}(hI:Inv C a wa st u θ)(hd:a.defers=d::ds)(he:d={target:=.collected r,args:= #[]}):
  Inv C {a with defers:=ds} (wa.putObj r (.deferred none)) st u θ:=by
 obtain⟨r',e',hr,hh⟩:=hI.defers.each d (by rw[hd];simp)
 rw[he]at e'
 simp only[Deferred.mk.injEq,Target.collected.injEq,and_true]at e'
 subst e'
 have My:(d::ds).Nodup:=hd▸hI.defers.nodup
 have bV:∀{b:Nat} {ob:Obj},b≠r->Hid u wa b ob->Hid u (wa.putObj r (.deferred none)) b ob:=λ{b ob} bm hh=>⟨(aP bm).trans hh.at_,hh.other,hh.eN,hh.mask⟩
 refine⟨hI.size,hI.gV,⟨λd' Ut=>?_,(List.nodup_cons.1 My).2⟩,λl0 r0 e=>bV ?_ (hI.round l0 r0 e),hI.gC,?_,?_,hI.inj,hI.ia,hI.fA,?_,?_,hI.od,hI.umod,hI.GM,hI.xv,hI.F0⟩
 ·obtain⟨r1,e1,h1,hh1⟩:=hI.defers.each d' (by rw[hd];simp[Ut])
  refine⟨r1,e1,h1,bV ?_ hh1⟩
  rintro rfl
  rw[<- he]at e1
  subst e1
  exact(List.nodup_cons.1 My).1 Ut
 ·rintro rfl
  have:=(hI.round l0 r0 e).at_;rw[hh.at_]at this;cases this
 ·refine⟨hI.below.os,hI.below.tape,hI.below.output,by simpa using hI.below.size,λb hb=>?_⟩
  by_cases e:b=r
  ·subst e;exact .inr (hh.mask hb)
  ·rw[aP e];exact hI.below.block b hb
 ·intro k m hk
  obtain⟨zP,c,T,h1,h2,h3,h4,h5,h6⟩:=hI.boxes k m hk
  have bm:θ k≠r:=by
   intro e;rw[e,hh.at_]at h1;cases h1
  exact⟨zP,c,T,(aP bm).trans h1,h2,h3,h4,h5,h6⟩
 ·intro b hb;simpa using hI.nh b hb
 ·exact⟨hI.mod.os,hI.mod.tape,hI.mod.output,by simpa using hI.mod.size,λb hb hF=>(aP (by omega)).trans (hI.mod.bV b hb hF)⟩
theorem tE{P:Program}{fn:Func}{rs:List ResultVar}{R:Value->UW->Prop}{C:Ctx}{st:St}{u:UW}{θ:Nat->Nat}{G:Ending->World->Prop}(GB:fn.results.toList=rs)(aD:∀r∈rs,Bc C.n r=true):
  ∀(ds:List Deferred) (a:Act) (wa:World),a.defers=ds->Inv C a wa st u θ->rH P st u rs (Lt R u)->(∀wr v,Out C.F C.w0 C.w1 u.toWorld wr->R v u->G (.returned v) wr)->LeavesInM Fence.wide 0 P fn a.tmps G ds .returning wa
 |[],a,wa,_,hI,hq,hG=>by
  obtain⟨vs,fK,hR⟩:=mq hI rs _ aD hq
  refine⟨_,En GB fK,hG _ _ ⟨hI.mod,hI.below,hI.umod,hI.xv⟩ ?_⟩
  unfold Lt at hR
  match vs,hR with
  |[],hR=>exact hR
  |[v],hR=>exact hR
  |v::v'::vs,hR=>exact hR
 |d::ds,a,wa,hd,hI,hq,hG=>by
  obtain⟨r,he,hr,hh⟩:=hI.defers.each d (by rw[hd];simp)
  refine⟨by simp,.inl ⟨r,_,by rw[he],run_takeDeferred hh.at_,?_⟩⟩
  exact tE GB aD ds {a with defers:=ds} _ rfl (hI.XM hd he) hq hG
theorem R_{P:Program}{f:FuncId}{fn:Func}{c:Code}{n:Nat}{cU:List Nat}{loops gH:List (Nat×Cut)}{kU:List (Nat×List TypeId)}{rs:List ResultVar}{args:List Value}{w:World}{F:Nat->Prop}{R:Value->UW->Prop}
  (hf:P.funcs[f]?=some fn) (hb:fn.body=some c) (Qm:fn.ntmps=n) (GB:fn.results.toList=rs) (aD:TI n c rs args=true) (hF:∀b,F b->b<w.heap.size)
  (h:WF P n cU loops gH kU c rs args ⟨w,F⟩ R):FnB P f args.toArray w F λv lo w'=>∃eN,(∀b,eN b->F b\/lo<=b)/\R v ⟨w',eN⟩:=by
 simp only[TI,Bool.and_eq_true,Nat.ble_eq,List.all_eq_true]at aD
 obtain⟨⟨⟨⟨hc,hn⟩,hr⟩,hal⟩,q_⟩:=aD
 intro w1 mY
 refine(callsIn_wide (n:=0)).1 (callsIn_of_wp_marks hf hb trivial ?_)
 have hI:Inv ⟨n,w,w1,F,none⟩ {tmps:=args.toArray++Array.replicate (fn.ntmps-args.toArray.size) undef,defers:=[]} w1 ⟨Gh args,[]⟩ ⟨w,F⟩ (λ_=>0):=by
  have ad_:∀t,(args.toArray++Array.replicate (fn.ntmps-args.toArray.size) undef).getD t undef=Gh args t:=by
   intro t
   rw[Array.getD_eq_getD_getElem?]
   unfold Gh
   by_cases ht:t<args.length
   ·rw[Array.getElem?_append_left (by simpa using ht)]
    simp
   ·rw[Array.getElem?_append_right (by simp;omega),List.getElem?_eq_none (by omega),Array.getElem?_replicate]
    split<;>rfl
  have Qj:∀t,plain (Gh args t)=true:=by
   intro t
   unfold Gh
   cases hg:args[t]? with
   |none=>rfl
   |some v=>exact q_ v (List.mem_of_getElem? hg)
  refine⟨by simp[Qm];omega,hn,⟨by simp,List.nodup_nil⟩,λl r e=>(by cases e),λt _=>?_,mY,by simp,by simp,λt _ k o e=>absurd e (iI (Qj t) k o),by simp,λb hb=>Nat.lt_of_lt_of_le (hF b hb) mY.size,Mod.refl _ _,λb hb _=>hb,Mod.refl _ _,mY.size,λb h1 _ h3=>absurd h3 (Nat.not_lt.2 h1),hF⟩
  rw[ad_]
  exact mK (Qj t)
 refine wpIn_mono (VD (E:=⟨P,n,cU,loops,gH,kU⟩) c ⟨n,w,w1,F,none⟩ hc [] _ _ _ _ _ _ hI h) λe a' DS hq=>?_
 obtain⟨bu,u',θ',dC,_,hq⟩:=hq
 have key:rH P bu u' rs (Lt R u')->LeavesInM Fence.wide 0 P fn a'.tmps (λe wr=>∃v w',e=.returned v/\Out F w w1 w' wr/\∃eN,(∀b,eN b->F b\/w1.heap.size<=b)/\R v ⟨w',eN⟩) a'.defers .returning DS:=by
  intro hq
  refine tE GB hr a'.defers a' DS rfl dC hq λwr v dH hR=>⟨v,u'.toWorld,rfl,dH,u'.eN,λb hb=>?_,hR⟩
  by_cases bB:b<w1.heap.size
  ·exact .inl (dC.od b hb bB)
  ·exact .inr (by omega)
 cases e with
 |normal=>exact key hq
 |ret=>exact key hq
 |exit i=>exact hq.elim
 |goto i=>exact hq.elim
 |panic i=>exact hq.elim
 |outgrown=>exact hq.elim
theorem FnB.mono{P:Program}{f:FuncId}{args:Array Value}{w:World}{F:Nat->Prop}{K K':Value->Nat->World->Prop}(h:FnB P f args w F K)(hk:∀v lo w',Mod F w w'->w.heap.size<=lo->K v lo w'->K' v lo w'):
  FnB P f args w F K':=by
 intro w1 hs
 refine(h w1 hs).mono λe wr hp=>?_
 obtain⟨v,w',rfl,ho,hK⟩:=hp
 exact⟨v,w',rfl,ho,hk v _ w' ho.umod hs.size hK⟩
theorem ti{H:Gn}{b o n:Nat}{vs:List Value}(h:rd H b o n=some vs):∃c T f,H[b]?=some (.cells c T f)/\o+n<=c.size/\vs=(c.toList.drop o).take n:=by
 unfold rd at h
 cases hb:H[b]? with
 |none=>simp[hb]at h
 |some ob=>
  cases ob<;>simp only[hb]at h<;>try (cases h;done)
  rename_i c T f
  split at h
  ·rename_i hl;simp only[Option.some.injEq]at h;exact⟨c,T,f,rfl,hl,h.symm⟩
  ·cases h
theorem xV{H:Gn}{b o n:Nat}{c:Array Value}{T:TypeId}{f:Nat×Nat}(h:H[b]?=some (.cells c T f))(hl:o+n<=c.size):rd H b o n=some ((c.toList.drop o).take n):=by
 simp[rd,h,hl]
theorem Hf{H:Gn}{b o n:Nat}{vs:List Value}(h:rd H b o n=some vs):vs.length=n:=by
 obtain⟨c,T,f,h1,h2,rfl⟩:=ti h
 simp;omega
theorem FG{sz:Nat}:∀{wD:List (List Value)},(∀x∈wD,x.length=sz)->wD.flatten.length=wD.length*sz
 |[],_=>by simp
 |x::wD,h=>by
  have ih:=FG (wD:=wD) (λy hy=>h y (by simp[hy]))
  rw[List.flatten_cons,List.length_append,List.length_cons,h x (by simp),ih,Nat.add_mul,Nat.one_mul];omega
structure SlR(H:Gn)(a:Option Addr)(n c sz:Nat)(wD:List (List Value)):Prop where
 len:wD.length=n
 cap:n<=c
 each:∀x∈wD,x.length=sz
 read:n≠0->∃b o,a=some ⟨b,o,none⟩/\rd H b o (n*sz)=some wD.flatten
theorem SlR.nil(H:Gn)(sz:Nat):SlR H none 0 0 sz []:=⟨rfl,Nat.le_refl _,by simp,λh=>absurd rfl h⟩
theorem aB{x:Int}(h0: -9223372036854775808<=x)(h1:x<=9223372036854775807):IntKind.i64.wrap x=x:=IntWalk.i64_in x (by omega)
inductive Fl where
 |sh
 |nr
 |nil
 |mS (b c:Nat)
inductive PV where
 |raw (v:Value)
 |list (sz:Nat) (fl:Fl) (rows:List (List PV))
 |bl (row:List PV) (o:Nat)
 |fn (f:Fn) (first iW:List PV)
 |agg (cs:List PV)
 |aC (vs:List PV)
 |iface (t:TypeId) (p:PV)
 |box (k o:Nat)
 |au
@[reducible] def pI(i:Int):PV:=.raw (.int .i64 i)
@[reducible] def pB(b:Bool):PV:=.raw (.bool b)
@[reducible] def pS(s:ByteArray):PV:=.raw (.string s)
@[reducible] def pP(b o:Nat):PV:=.raw (.pointer (some ⟨b,o,none⟩))
def PV.cell:PV->Bool
 | .raw _| .list .. | .bl .. | .fn .. | .iface .. =>true
 |_=>false
def PV.ok:PV->Bool
 | .agg _=>true
 |p=>p.cell
abbrev Fz:=Nat->Option (List Value)
def Si:Fl->Option Addr->Nat->Nat->Prop
 | .sh,_,_,_=>True
 | .nr,_,n,c=>c=n
 | .nil,a,n,c=>a=none/\n=0/\c=0
 | .mS b c',a,_,c=>a=some ⟨b,0,none⟩/\c=c'
inductive bw(Z:Fz):PV->Value->Prop where
 |raw (v:Value) (h:plain v=true) (h1:one v=true):bw Z (.raw v) v
 |list (sz:Nat) (fl:Fl) (rows:List (List PV)) (a:Option Addr) (n c b o:Nat) (C:List Value) (g:Nat->Nat->Value) (hn:rows.length=n) (hc:n<=c) (hs:c=0\/fW a) (hr:∀r∈rows,r.length=sz)
   (ha:n≠0->a=some ⟨b,o,none⟩/\Z b=some C) (hg:∀i j:Nat,i<n->j<sz->C[o+i*sz+j]?=some (g i j))
   (hk:∀(i j:Nat) row p,rows[i]?=some row->row[j]?=some p->p.cell=true) (hp:∀(i j:Nat) row p,rows[i]?=some row->row[j]?=some p->bw Z p (g i j)) (hf:Si fl a n c):bw Z (.list sz fl rows) (.slice a n c)
 |bl (row:List PV) (o b off:Nat) (C:List Value) (g:Nat->Value) (hz:Z b=some C) (hg:∀j:Nat,j<row.length->C[off+j]?=some (g j)) (hk:∀(j:Nat) p,row[j]?=some p->p.cell=true) (hp:∀(j:Nat) p,row[j]?=some p->bw Z p (g j)):bw Z (.bl row o) (.pointer (some ⟨b,off+o,none⟩))
 |fn (f:Fn) (first iW:List PV) (fv cv:List Value) (h1:fv.length=first.length) (h2:cv.length=iW.length) (kf:∀p∈first,p.ok=true) (kc:∀p∈iW,p.ok=true) (hf:∀(i:Nat) p v,first[i]?=some p->fv[i]?=some v->bw Z p v) (hc:∀(i:Nat) p v,iW[i]?=some p->cv[i]?=some v->bw Z p v):bw Z (.fn f first iW) (.func f fv.toArray cv.toArray)
 |agg (cs:List PV) (vs:List Value) (hl:vs.length=cs.length) (hk:∀p∈cs,p.cell=true) (h:∀(i:Nat) p v,cs[i]?=some p->vs[i]?=some v->bw Z p v):bw Z (.agg cs) (.agg vs.toArray)
 |aC (ps:List PV) (vs:List Value) (hl:vs.length=ps.length) (hk:∀p∈ps,p.ok=true) (h:∀(i:Nat) p v,ps[i]?=some p->vs[i]?=some v->bw Z p v):bw Z (.aC ps) (.tuple vs.toArray)
 |iface (t:TypeId) (p:PV) (v:Value) (hk:p.ok=true) (h:bw Z p v):bw Z (.iface t p) (.iface t v)
 |box (k o:Nat):bw Z (.box k o) (cY k o)
 |au (v:Value):bw Z .au v
def Fz.le(Z Z':Fz):Prop:=∀b C,Z b=some C->∃C',Z' b=some C'/\C <+: C'
theorem Fz.le.refl(Z:Fz):Z.le Z:=λ_ C h=>⟨C,h,List.prefix_refl C⟩
theorem Fz.le.trans{A B C:Fz}(h:A.le B)(k:B.le C):A.le C:=λb L hL=>by
 obtain⟨L',h1,h2⟩:=h b L hL
 obtain⟨L'',h3,h4⟩:=k b L' h1
 exact⟨L'',h3,h2.trans h4⟩
theorem rJ{A B:List Value}(h:A <+: B){i:Nat}{v:Value}(hv:A[i]?=some v):B[i]?=some v:=by
 obtain⟨t,rfl⟩:=h
 rw[List.getElem?_append_left (List.getElem?_eq_some_iff.1 hv).1];exact hv
theorem bw.mono{Z Z':Fz}(hz:Z.le Z'){p:PV}{v:Value}(h:bw Z p v):bw Z' p v:=by
 induction h with
 |raw v h h1=>exact .raw v h h1
 |list sz fl rows a n c b o C g hn hc hs hr ha hg hk hp hf ih=>
  by_cases h0:n=0
  ·exact .list sz fl rows a n c b o C g hn hc hs hr (λh=>absurd h0 h) hg hk ih hf
  ·obtain⟨C',h1,h2⟩:=hz b C (ha h0).2
   exact .list sz fl rows a n c b o C' g hn hc hs hr (λ_=>⟨(ha h0).1,h1⟩) (λi j hi hj=>rJ h2 (hg i j hi hj)) hk ih hf
 |bl row o b off C g hC hg hk hp ih=>
  obtain⟨C',h1,h2⟩:=hz b C hC
  exact .bl row o b off C' g h1 (λj hj=>rJ h2 (hg j hj)) hk ih
 |fn f first iW fv cv h1 h2 kf kc hf hc ih1 ih2=>exact .fn f first iW fv cv h1 h2 kf kc ih1 ih2
 |agg cs vs hl hk h ih=>exact .agg cs vs hl hk ih
 |aC cs vs hl hk h ih=>exact .aC cs vs hl hk ih
 |iface t p v hk _ ih=>exact .iface t p v hk ih
 |box k o=>exact .box k o
 |au v=>exact .au v
theorem bw.cell{Z:Fz}{p:PV}{v:Value}(h:bw Z p v)(hc:p.cell=true):plain v=true/\one v=true:=by
 cases h<;>first|(constructor<;>assumption)|exact⟨rfl,rfl⟩|(simp[PV.cell]at hc)
theorem bw.plain{Z:Fz}{p:PV}{v:Value}(h:bw Z p v)(hc:p.ok=true):plain v=true:=by
 cases h<;>first|assumption|rfl|(simp[PV.ok,PV.cell]at hc)
def bj(Z:Fz)(ps:List PV)(vs:List Value):Prop:=vs.length=ps.length/\∀(i:Nat) p v,ps[i]?=some p->vs[i]?=some v->p.ok=true/\bw Z p v
def aY(Z:Fz)(ps:List PV)(vs:List Value):Prop:=vs.length=ps.length/\∀(i:Nat) p v,ps[i]?=some p->vs[i]?=some v->p.cell=true/\bw Z p v
theorem bj.mono{Z Z':Fz}(hz:Z.le Z'){ps:List PV}{vs:List Value}(h:bj Z ps vs):bj Z' ps vs:=⟨h.1,λi p v a b=>⟨(h.2 i p v a b).1,(h.2 i p v a b).2.mono hz⟩⟩
theorem aY.mono{Z Z':Fz}(hz:Z.le Z'){ps:List PV}{vs:List Value}(h:aY Z ps vs):aY Z' ps vs:=⟨h.1,λi p v a b=>⟨(h.2 i p v a b).1,(h.2 i p v a b).2.mono hz⟩⟩
theorem PV.Cs{p:PV}(h:p.cell=true):p.ok=true:=by cases p<;>simp_all [PV.ok,PV.cell]
theorem bj.nil(Z:Fz):bj Z [] []:=⟨rfl,by simp⟩
theorem aY.nil(Z:Fz):aY Z [] []:=⟨rfl,by simp⟩
theorem bj.cons{Z:Fz}{p:PV}{ps:List PV}{v:Value}{vs:List Value}(hk:p.ok=true)(h:bw Z p v)(hs:bj Z ps vs):bj Z (p::ps) (v::vs):=
 ⟨by simp[hs.1],λi q w a b=>by
  cases i with
  |zero=>simp only[List.getElem?_cons_zero,Option.some.injEq]at a b;subst a;subst b;exact⟨hk,h⟩
  |succ i=>simp only[List.getElem?_cons_succ]at a b;exact hs.2 i q w a b⟩
theorem aY.cons{Z:Fz}{p:PV}{ps:List PV}{v:Value}{vs:List Value}(hk:p.cell=true)(h:bw Z p v)(hs:aY Z ps vs):aY Z (p::ps) (v::vs):=
 ⟨by simp[hs.1],λi q w a b=>by
  cases i with
  |zero=>simp only[List.getElem?_cons_zero,Option.some.injEq]at a b;subst a;subst b;exact⟨hk,h⟩
  |succ i=>simp only[List.getElem?_cons_succ]at a b;exact hs.2 i q w a b⟩
theorem bj.inv{Z:Fz}{p:PV}{ps:List PV}{vs:List Value}(h:bj Z (p::ps) vs):∃v fu,vs=v::fu/\p.ok=true/\bw Z p v/\bj Z ps fu:=by
 obtain⟨hl,h⟩:=h
 cases vs with
 |nil=>simp at hl
 |cons v vs=>exact⟨v,vs,rfl,(h 0 p v rfl rfl).1,(h 0 p v rfl rfl).2,by simpa using hl,λi q w a b=>h (i+1) q w (by simpa using a) (by simpa using b)⟩
theorem aY.inv{Z:Fz}{p:PV}{ps:List PV}{vs:List Value}(h:aY Z (p::ps) vs):∃v fu,vs=v::fu/\p.cell=true/\bw Z p v/\aY Z ps fu:=by
 obtain⟨hl,h⟩:=h
 cases vs with
 |nil=>simp at hl
 |cons v vs=>exact⟨v,vs,rfl,(h 0 p v rfl rfl).1,(h 0 p v rfl rfl).2,by simpa using hl,λi q w a b=>h (i+1) q w (by simpa using a) (by simpa using b)⟩
theorem bj.cW{Z:Fz}{vs:List Value}(h:bj Z [] vs):vs=[]:=List.eq_nil_of_length_eq_zero h.1
theorem aY.cW{Z:Fz}{vs:List Value}(h:aY Z [] vs):vs=[]:=List.eq_nil_of_length_eq_zero h.1
theorem bj.append{Z:Fz}{ps qs:List PV}{vs ws:List Value}(h:bj Z ps vs)(k:bj Z qs ws):bj Z (ps++qs) (vs++ws):=by
 induction ps generalizing vs with
 |nil=>rw[h.cW];exact k
 |cons p ps ih=>obtain⟨v,fu,rfl,h1,h2,h3⟩:=h.inv;exact bj.cons h1 h2 (ih h3)
theorem aY.append{Z:Fz}{ps qs:List PV}{vs ws:List Value}(h:aY Z ps vs)(k:aY Z qs ws):aY Z (ps++qs) (vs++ws):=by
 induction ps generalizing vs with
 |nil=>rw[h.cW];exact k
 |cons p ps ih=>obtain⟨v,fu,rfl,h1,h2,h3⟩:=h.inv;exact aY.cons h1 h2 (ih h3)
theorem aY.take{Z:Fz}{ps:List PV}{vs:List Value}(h:aY Z ps vs)(n:Nat):aY Z (ps.take n) (vs.take n):=
 ⟨by simp[h.1],λi p v a b=>by
  rw[List.getElem?_take]at a b
  split at a
  ·rename_i hi;rw[if_pos hi]at b;exact h.2 i p v a b
  ·cases a⟩
theorem aY.drop{Z:Fz}{ps:List PV}{vs:List Value}(h:aY Z ps vs)(n:Nat):aY Z (ps.drop n) (vs.drop n):=
 ⟨by simp[h.1],λi p v a b=>by rw[List.getElem?_drop]at a b;exact h.2 _ p v a b⟩
theorem aY.get{Z:Fz}{ps:List PV}{vs:List Value}(h:aY Z ps vs){i:Nat}{p:PV}(hi:ps[i]?=some p):∃v,vs[i]?=some v/\p.cell=true/\bw Z p v:=by
 have bB:i<ps.length:=(List.getElem?_eq_some_iff.1 hi).1
 have rV:i<vs.length:=by rw[h.1];exact bB
 exact⟨vs[i],List.getElem?_eq_getElem rV,h.2 i p _ hi (List.getElem?_eq_getElem rV)⟩
theorem bj.get{Z:Fz}{ps:List PV}{vs:List Value}(h:bj Z ps vs){i:Nat}{p:PV}(hi:ps[i]?=some p):∃v,vs[i]?=some v/\p.ok=true/\bw Z p v:=by
 have bB:i<ps.length:=(List.getElem?_eq_some_iff.1 hi).1
 have rV:i<vs.length:=by rw[h.1];exact bB
 exact⟨vs[i],List.getElem?_eq_getElem rV,h.2 i p _ hi (List.getElem?_eq_getElem rV)⟩
theorem aY.uU{Z:Fz}{ps:List PV}{vs:List Value}(h:aY Z ps vs):∀v∈vs,az.plain v=true/\one v=true:=by
 intro v hv
 obtain⟨i,hi⟩:=List.mem_iff_getElem?.1 hv
 have bB:i<ps.length:=by rw[<- h.1];exact(List.getElem?_eq_some_iff.1 hi).1
 have:=h.2 i ps[i] v (List.getElem?_eq_getElem bB) hi
 exact this.2.cell this.1
theorem bj.uU{Z:Fz}{ps:List PV}{vs:List Value}(h:bj Z ps vs):∀v∈vs,az.plain v=true:=by
 intro v hv
 obtain⟨i,hi⟩:=List.mem_iff_getElem?.1 hv
 have bB:i<ps.length:=by rw[<- h.1];exact(List.getElem?_eq_some_iff.1 hi).1
 have:=h.2 i ps[i] v (List.getElem?_eq_getElem bB) hi
 exact this.2.plain this.1
def PV.cells:PV->List PV
 | .agg cs=>cs
 |p=>[p]
theorem bw.cells{Z:Fz}{p:PV}{v:Value}(h:bw Z p v)(hk:p.ok=true):aY Z p.cells v.cells.toList:=by
 have key:p.cell=true->v.cells= #[v]->p.cells=[p]->aY Z p.cells v.cells.toList:=λh1 h2 h3=>by rw[h2,h3];exact aY.cons h1 h (aY.nil Z)
 cases h with
 |agg cs vs hl qw h=>exact⟨hl,λi p v a b=>⟨qw p (List.mem_of_getElem? a),h i p v a b⟩⟩
 |raw v h1 h2=>exact key rfl (by cases v<;>first|rfl|(simp[one]at h2)) rfl
 |list=>exact key rfl rfl rfl
 |bl=>exact key rfl rfl rfl
 |fn=>exact key rfl rfl rfl
 |iface=>exact key rfl rfl rfl
 |aC ps vs hl h=>simp[PV.ok,PV.cell]at hk
 |box k o=>simp[PV.ok,PV.cell]at hk
 |au v=>simp[PV.ok,PV.cell]at hk
def bK(Z:Fz)(ps:List PV)(vs:List Value):Prop:=vs.length=ps.length/\∀(i:Nat) p v,ps[i]?=some p->vs[i]?=some v->bw Z p v
inductive Ob where
 |cells (T:TypeId) (cs:List PV)
 |mS (n m:Nat)
 |obj (o:Obj) (F:Nat->PV) (S:Nat->Value)
 |ro (T:TypeId) (cs:List PV)
def Ob.rw:Ob->Bool
 | .ro .. =>false
 |_=>true
abbrev Mem:=Nat->Option Ob
def M0:Mem:=λ_=>none
def Mem.set(μ:Mem)(b:Nat)(o:Option Ob):Mem:=λc=>if c=b then o else μ c
def Mem.or(μ ν:Mem):Mem:=λb=>match μ b with|some o=>some o|Option.none=>ν b
def Mem.sep(μ ν:Mem):Prop:=∀b,μ b=Option.none\/ν b=Option.none
@[simp] theorem Mem.ai(μ:Mem)(b:Nat)(o:Option Ob):μ.set b o b=o:=by simp[Mem.set]
theorem Mem.aw(μ:Mem){b c:Nat}(o:Option Ob)(h:c≠b):μ.set b o c=μ c:=by simp[Mem.set,h]
def zE(Z:Fz)(u:UW)(b:Nat):Ob->Prop
 | .cells T cs=>Z b=none/\∃A:Array Value,u.heap[b]?=some (.cells A T (0,0))/\bK Z cs A.toList
 | .mS n m=>(∃C,Z b=some C/\C.length=n)/\∃(A:Array Value) (T:TypeId),u.heap[b]?=some (.cells A T (0,0))/\m<=A.size
 | .obj o F S=>Z b=none/\u.heap[b]?=some o/\∀t,bw Z (F t) (S t)
 | .ro T cs=>Z b=none/\∃A:Array Value,u.heap[b]?=some (.cells A T (0,0))/\bK Z cs A.toList
structure Good(Z:Fz)(u:UW)(μ:Mem):Prop where
 DN:∀b C,Z b=some C->∃A T f,u.heap[b]?=some (.cells A T f)/\C <+: A.toList
 mem:∀b o,μ b=some o->(o.rw=true->u.eN b)/\zE Z u b o
theorem zE.lt{Z:Fz}{u:UW}{b:Nat}{o:Ob}(h:zE Z u b o):b<u.heap.size:=by
 cases o with
 |cells T cs=>obtain⟨_,A,h,_⟩:=h;exact(Array.getElem?_eq_some_iff.1 h).1
 |mS n m=>obtain⟨_,A,T,h,_⟩:=h;exact(Array.getElem?_eq_some_iff.1 h).1
 |obj o F S=>exact(Array.getElem?_eq_some_iff.1 h.2.1).1
 |ro T cs=>obtain⟨_,A,h,_⟩:=h;exact(Array.getElem?_eq_some_iff.1 h).1
theorem Good.CF{Z:Fz}{u:UW}{μ:Mem}(h:Good Z u μ){b:Nat}(hb:Z b≠none):b<u.heap.size:=by
 cases hz:Z b with
 |none=>exact absurd hz hb
 |some C=>obtain⟨A,T,f,h,_⟩:=h.DN b C hz;exact(Array.getElem?_eq_some_iff.1 h).1
theorem Good.qa{Z:Fz}{u:UW}{μ:Mem}(h:Good Z u μ){b:Nat}(hb:μ b≠none):b<u.heap.size:=by
 cases hz:μ b with
 |none=>exact absurd hz hb
 |some o=>exact(h.mem b o hz).2.lt
structure Ext(Z:Fz)(μ:Mem)(N:Nat)(Z':Fz)(μ':Mem):Prop where
 le:Z.le Z'
 zs:∀b C,Z b=some C->μ b=none->Z' b=some C
 zn:∀b,Z' b≠none->Z b≠none\/μ b≠none\/N<=b
 mn:∀b,μ' b≠none->μ b≠none\/N<=b
 lt:∀b,Z b≠none->b<N
theorem Good.ext{Z:Fz}{u:UW}{μ:Mem}(h:Good Z u μ):Ext Z μ u.heap.size Z μ:=⟨Fz.le.refl _,λ_ _ h _=>h,λ_ h=>.inl h,λ_ h=>.inl h,λ_ h'=>h.CF h'⟩
theorem Ext.trans{Z Z' Z'':Fz}{μ μ' mQ:Mem}{N N':Nat}(h:Ext Z μ N Z' μ')(k:Ext Z' μ' N' Z'' mQ)(hN:N<=N'):Ext Z μ N Z'' mQ:=by
 refine⟨h.le.trans k.le,λb C hz hm=>?_,λb hb=>?_,λb hb=>?_,h.lt⟩
 ·refine k.zs b C (h.zs b C hz hm) ?_
  cases hx:μ' b with
  |none=>rfl
  |some o=>
   have hl:=h.lt b (by rw[hz];simp)
   rcases h.mn b (by rw[hx];simp)with h1|h1
   ·exact absurd hm h1
   ·omega
 ·rcases k.zn b hb with h1|h1|h1
  ·exact h.zn b h1
  ·exact .inr (h.mn b h1)
  ·exact .inr (.inr (by omega))
 ·rcases k.mn b hb with h1|h1
  ·exact h.mn b h1
  ·exact .inr (by omega)
def Mem.sub(μ' μ:Mem):Prop:=∀b o,μ' b=some o->μ b=some o
theorem Good.sub{Z:Fz}{u:UW}{μ μ':Mem}(h:Good Z u μ)(hs:μ'.sub μ):Good Z u μ':=⟨h.DN,λb o e=>h.mem b o (hs b o e)⟩
abbrev Lq:=List (List PV)
abbrev Kq:=PV->Mem->Prop
end Go.az
