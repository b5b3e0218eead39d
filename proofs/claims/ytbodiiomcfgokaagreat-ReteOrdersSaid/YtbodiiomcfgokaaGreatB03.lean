import Derived.Test.YtbodiiomcfgokaaGreatB02
import Derived.LaidEqlPtr
set_option linter.all false
namespace Go.aK
open Go.RowKit
def QW(C:Ctx)(fz ws:List Nat)(st:St)(Q:Exit->St->UW->Prop)(e:Exit)(a':Act)(Jd:World):Prop:=
 ∃cJ u' θ',Inv C a' Jd cJ u' θ'/\dn C.n fz ws st cJ/\Q e cJ u'
theorem getD_some{a:Array Value}{g n:Nat}(hs:a.size=n)(hg:g<n):a[g]?=some (a.getD g undef):=by
 rw[Array.getD_eq_getD_getElem?,Array.getElem?_eq_getElem (by omega)];rfl
theorem xz{σ:Fr}{t:Nat}{v:Value}(h:σ t=v):kB σ t v=σ:=by
 funext i
 by_cases e:i=t
 ·subst e;rw[gl,h]
 ·rw[cX _ _ e]
section
variable {P:Program} {ops:Array Oper} {Q:Exit->Act->World->Prop} {S:World->Prop}
def mq(P:Program)(ops:Array Oper)(Q:Exit->Act->World->Prop)(i:Nat)(K:Act->World->Prop)(a:Act)(w:World):Prop:=
 match ops[i]? with
 |none=>K a w
 |some o=>if Region.wanted o (yielded ops a.tmps)then o.uponIn Fence.wide 0 P a K Q ((execOp a.eval o).run P w)else K (a.put o.dst undef) w
theorem pN{o:Oper}{a:Act}{K K':Act->World->Prop}{r:Result Next}(h:∀a w,K a w->K' a w)(hh:o.uponIn Fence.wide 0 P a K Q r):o.uponIn Fence.wide 0 P a K' Q r:=by
 cases r with
 |halt x w=>cases x<;>exact hh
 |ok x w=>
  cases x<;>simp only[Oper.uponIn]at hh |-
  case value v=>exact h _ _ hh
  case skip=>exact h _ _ hh
  case defer d=>exact h _ _ hh
  case enter f args=>exact⟨hh.1,hh.2.mono λe w' he=>by cases e<;>first|exact h _ _ he|exact he⟩
  case row r args=>exact⟨hh.1,hh.2.mono λv w' he=>h _ _ he⟩
  case round l f t x y=>exact⟨hh.1,hh.2.mono λe w' he=>by cases e<;>first|exact h _ _ he|exact he⟩
theorem vi{i:Nat}{a:Act}{w:World}{K K':Act->World->Prop}(h:∀a w,K a w->K' a w)(hh:mq P ops Q i K a w):mq P ops Q i K' a w:=by
 unfold mq at*
 cases ho:ops[i]? with
 |none=>simp only[ho]at hh |-;exact h _ _ hh
 |some o=>
  simp only[ho]at hh |-
  split<;>rename_i hw<;>simp only[hw,if_true,if_false,Bool.false_eq_true]at hh
  ·exact pN h hh
  ·exact h _ _ hh
theorem NQ{i:Nat}{o:Oper}{v:Value}{a:Act}{K:Act->World->Prop}{w:World}(hi:ops[i]?=some o)(hy:YieldsIf P ops S o v a)(hS:S w)(h:K (a.put o.dst v) w):mq P ops Q i K a w:=by
 unfold mq
 simp only[hi]
 rcases hy with⟨hw,hv⟩|⟨hw,rfl⟩
 ·rw[if_pos hw,hv w hS];exact h
 ·rw[if_neg (by simp[hw])];exact h
theorem FB{j:Nat}{oi oj:Oper}{v:Value}{K:Act->World->Prop}{a:Act}{w:World}(hj:ops[j]?=some oj)(RV:oi.apart ops oj=true)
  (hsi:∀cs b,oi.op≠ .select cs b) (hsj:∀cs b,oj.op≠ .select cs b) (hQ:∀c a w,Q (.panic c) (a.put oi.dst v) w->Q (.panic c) a w)
  (hy:YieldsIf P ops S oi v a) (h:mq P ops Q j K (a.put oi.dst v) w):mq P ops Q j (λa' w'=>YieldsIf P ops S oi v a'/\K (a'.put oi.dst v) w') a w:=by
 obtain⟨h1,h2,h3⟩:=Oper.apart_spec RV
 have st:∀(b:Act) (x:Value),YieldsIf P ops S oi v b->YieldsIf P ops S oi v (b.put oj.dst x):=λb x hb=>hb.of_same (execOp_put oi hsi b oj.dst x h3) (wanted_put oi b oj.dst x h3)
 have both:∀(x:Value) (w':World),K ((a.put oi.dst v).put oj.dst x) w'->YieldsIf P ops S oi v (a.put oj.dst x)/\K ((a.put oj.dst x).put oi.dst v) w':=
  λx w' hk=>⟨st a x hy,by rw[<- Act.put_comm a v x h2];exact hk⟩
 unfold mq at h |-
 simp only[hj,wanted_put oj a oi.dst v h1,execOp_put oj hsj a oi.dst v h1]at h |-
 split<;>rename_i hw<;>simp only[hw,if_true,if_false,Bool.false_eq_true]at h
 ·cases hr:(execOp a.eval oj).run P w with
  |halt x w'=>
   rw[hr]at h
   cases x<;>simp only[Oper.uponIn]at h |-
   exact hQ _ _ _ h
  |ok x w'=>
   rw[hr]at h
   cases x<;>simp only[Oper.uponIn]at h |-
   case value x=>exact both x w' h
   case skip=>exact both undef w' h
   case defer d=>
    refine⟨st _ _ (hy.of_same rfl rfl),?_⟩
    rw[<- Act.put_comm _ v undef h2,<- Act.put_defers];exact h
   case enter f args=>
    exact⟨h.1,h.2.mono λe w'' he=>by cases e<;>first|exact both _ _ he|exact hQ _ _ _ he|exact he⟩
   case row r args=>exact⟨h.1,h.2.mono λx w'' he=>both x w'' he⟩
   case round l f t x y=>
    exact⟨h.1,h.2.mono λe w'' he=>by cases e<;>first|exact both _ _ he|exact hQ _ _ _ he|exact he⟩
 ·exact both undef w h
def Fw(ro:Option (Nat×Loop)):Fence:={Fence.wide with round:=ro.map (·.1)}
theorem LS(ro:Option (Nat×Loop)){o:Oper}{a:Act}{K:Act->World->Prop}{r:Result Next}(h:o.uponIn Fence.wide 0 P a K Q r):o.uponIn (Fw ro) 0 P a K Q r:=by
 cases r with
 |halt x w=>cases x<;>exact h
 |ok x w=>cases x<;>exact h
theorem xx(ro:Option (Nat×Loop)){o:Oper}{a:Act}{w:World}{K:Act->World->Prop}(hd:∀c,o.op≠ .defer c)(h:o.uponIn Fence.wide 0 P a K Q ((execOp a.eval o).run P w)):o.wpIn (Fw ro) 0 P a w K Q:=
 ⟨λ_ _=>trivial,by rw[Oper.semAt_eq _ _ _ hd];exact LS ro h⟩
theorem Jc(ro:Option (Nat×Loop)){i:Nat}{a:Act}{w:World}{K:Act->World->Prop}(hd:∀(j:Nat) (o:Oper) c,ops[j]?=some o->o.op≠ .defer c)(h:mq P ops Q i K a w):wpOpIn (Fw ro) 0 P ops Q i K a w:=by
 unfold mq at h
 unfold wpOpIn
 cases ho:ops[i]? with
 |none=>simp only[ho]at h |-;exact h
 |some o=>
  simp only[ho]at h |-
  split<;>rename_i hw<;>simp only[hw,if_true,if_false,Bool.false_eq_true]at h
  ·exact xx ro (λc=>hd i o c ho) h
  ·exact⟨λ_ _=>trivial,h⟩
def za(P:Program)(ops:Array Oper)(Q:Exit->Act->World->Prop)(S:World->Prop):Nat->Array Bool->Act->World->Prop
 |0,ah,a,w=>Region.ready .any ops ah=[]/\Q .normal a w
 |fuel+1,ah,a,w=>
  (Region.ready .any ops ah=[]->Q .normal a w)/\
  ∀i∈Region.ready .any ops ah,mq P ops Q i (λa' w'=>(late ops i=true->S w->S w')/\za P ops Q S fuel (ah.setIfInBounds i true) a' w') a w
theorem vj(ro:Option (Nat×Loop))(hd:∀(j:Nat) (o:Oper) c,ops[j]?=some o->o.op≠ .defer c):∀(fuel:Nat) (ah:Array Bool) (a:Act) (w:World),za P ops Q S fuel ah a w->wpAnyIn (Fw ro) 0 P .any ops Q fuel ah a w
 |0,_,_,_,h=>h
 |fuel+1,_,_,_,h=>⟨h.1,λi hi=>wpOpIn_mono (λa' w' h'=>vj ro hd fuel _ a' w' h'.2) (Jc ro hd (h.2 i hi))⟩
def Cl(ops:Array Oper)(ah:Array Bool):Prop:=∀y oy,ops[y]?=some oy->ah.getD y false=true->∀e∈oy.after,Region.binds .any e=true->ah.getD e.on false=true
theorem Cl.none(ops:Array Oper)(n:Nat):Cl ops (Array.replicate n false):=by
 intro y oy _ h
 rw[Array.getD_eq_getD_getElem?,Array.getElem?_replicate]at h
 split at h<;>simp at h
theorem Cl.set{ah:Array Bool}{i:Nat}(h:Cl ops ah)(hi:i∈Region.ready .any ops ah):Cl ops (ah.setIfInBounds i true):=by
 have mono:∀x,ah.getD x false=true->(ah.setIfInBounds i true).getD x false=true:=by
  intro x hx
  by_cases hix:i=x
  ·subst hix
   have:i<ah.size:=by
    rcases Nat.lt_or_ge i ah.size with h'|h'
    ·exact h'
    ·rw[Array.getD_eq_getD_getElem?,Array.getElem?_eq_none h']at hx;cases hx
   simp[Array.getD_eq_getD_getElem?,this]
  ·rw[getD_set_ne false hix];exact hx
 intro y oy hy hl e he hb
 by_cases hiy:i=y
 ·subst hiy
  obtain⟨_,oj,jc,iP⟩:=mem_ready.1 hi
  rw[jc]at hy
  cases hy
  exact mono _ (iP e he hb)
 ·rw[getD_set_ne false hiy]at hl
  exact mono _ (h y oy hy hl e he hb)
theorem Cl.uS{ah:Array Bool}{j:Nat}(h:Cl ops ah)(hl:ah.getD j false=true):∀x∈uS ops j,ah.getD x false=true:=by
 intro x hx
 unfold aK.uS at hx
 split at hx
 ·cases hx
 ·rename_i o ho
  obtain⟨e,he,rfl⟩:=List.mem_map.1 hx
  rw[List.mem_filter]at he
  exact h j o ho hl e (by simpa using he.1) he.2
theorem Cl.AA{ah:Array Bool}(h:Cl ops ah):∀(n:Nat) (S:List Nat),(∀x∈S,ah.getD x false=true)->∀x∈AA ops n S,ah.getD x false=true
 |0,_,hS=>hS
 |n+1,S,hS=>by
  simp only[aK.AA]
  refine Cl.AA h n _ ?_
  cases hm:dw S n with
  |false=>exact hS
  |true=>
   intro x hx
   simp only[cond_true,List.mem_append]at hx
   exact hx.elim (h.uS (hS n (fD.1 hm)) x) (hS x)
theorem Xx{i j:Nat}{oi:Oper}{ah:Array Bool}(iV:Cl ops ah)(hi:ops[i]?=some oi)(hti:reads oi=true)(hir:i∈Region.ready .any ops ah)(hjr:j∈Region.ready .any ops ah)(aT:j≠i):late ops j=true:=by
 unfold late Tt
 rw[List.any_eq_true]
 refine⟨i,List.mem_range.2 (Array.getElem?_eq_some_iff.1 hi).1,?_⟩
 simp only[CJ,hi,hti,Bool.and_true,Bool.and_eq_true,Bool.not_eq_true']
 refine⟨?_,?_⟩
 ·cases h:Nat.beq i j with
  |false=>rfl
  |true=>exact absurd (beq_iff.1 h).symm aT
 ·cases hp:dw (VP ops j) i with
  |false=>rfl
  |true=>
   exfalso
   obtain⟨_,oj,jc,iP⟩:=mem_ready.1 hjr
   have h0:=(mem_ready.1 hir).1
   have hl:ah.getD i false=true:=by
    refine iV.AA ops.size (uS ops j) (λx hx=>?_) i (fD.1 hp)
    unfold uS at hx
    simp only[jc]at hx
    obtain⟨e,he,rfl⟩:=List.mem_map.1 hx
    rw[List.mem_filter]at he
    exact iP e (by simpa using he.1) he.2
   rcases Nat.lt_or_ge i ah.size with h'|h'
   ·simp[h']at h0 hl;rw[h0]at hl;cases hl
   ·rw[Array.getD_eq_getD_getElem?,Array.getElem?_eq_none h']at hl;cases hl
theorem xy{i:Nat}{oi:Oper}{v:Value}(hi:ops[i]?=some oi)(yj:∀(j:Nat) (o:Oper) cs b,ops[j]?=some o->o.op≠ .select cs b)
  (hQ:∀c a w,Q (.panic c) (a.put oi.dst v) w->Q (.panic c) a w):
  ∀(fuel:Nat) (ah:Array Bool) (a:Act) (w:World),
   (∀j oj,ops[j]?=some oj->j≠i->ah.getD j true=false->(∀e∈oj.after,Region.binds .any e=true->e.on≠i)->oi.apart ops oj=true)->
   Cl ops ah->i∈Region.ready .any ops ah->YieldsIf P ops (λw=>reads oi=true->S w) oi v a->(reads oi=true->S w)->
   za P ops Q S fuel (ah.setIfInBounds i true) (a.put oi.dst v) w->za P ops Q S (fuel+1) ah a w:=by
 intro fuel
 induction fuel with
 |zero=>
  intro ah a w _ _ hr hy hS H
  refine⟨λh=>(by rw[h]at hr;cases hr),λj hj=>?_⟩
  by_cases hji:j=i
  ·subst hji;exact NQ hi hy hS ⟨λ_ h=>h,H⟩
  ·have:=ready_mono hj hji
   rw[H.1]at this
   cases this
 |succ fuel ih=>
  intro ah a w lN iV hr hy hS H
  refine⟨λh=>(by rw[h]at hr;cases hr),λj hj=>?_⟩
  by_cases hji:j=i
  ·subst hji;exact NQ hi hy hS ⟨λ_ h=>h,H⟩
  ·have h1:=H.2 j (ready_mono hj hji)
   obtain⟨Ud,oj,jc,iP⟩:=mem_ready.1 hj
   have Kj:∀e∈oj.after,Region.binds .any e=true->e.on≠i:=λe he hb heq=>by
    have h1:=iP e he hb
    have h0:=(mem_ready.1 hr).1
    rw[heq]at h1
    rcases Nat.lt_or_ge i ah.size with h'|h'
    ·simp[h']at h0 h1;rw[h0]at h1;cases h1
    ·simp[Array.getElem?_eq_none h']at h1
   have h2:=FB jc (lN j oj jc hji Ud Kj) (λcs b=>yj i oi cs b hi) (λcs b=>yj j oj cs b jc) hQ hy h1
   have HO:∀k ok,ops[k]?=some ok->k≠i->(ah.setIfInBounds j true).getD k true=false->
     (∀e∈ok.after,Region.binds .any e=true->e.on≠i)->oi.apart ops ok=true:=λk ok hk hki hun cm=>by
    refine lN k ok hk hki ?_ cm
    by_cases hjk:j=k
    ·subst hjk;exact Ud
    ·rw[getD_set_ne true hjk]at hun;exact hun
   refine vi (λa' w' h3=>⟨h3.2.1,ih (ah.setIfInBounds j true) a' w' HO (iV.set hj) (ready_mono hr (Ne.symm hji)) h3.1 (λfB=>h3.2.1 (Xx iV hi fB hr hj hji) (hS fB)) ?_⟩) h2
   rw[Array.setIfInBounds_comm _ _ hji]
   exact h3.2.2
end
section
variable {E:Env} {C:Ctx} {a:Act} {wa:World} {st:St} {u u0:UW} {θ:Nat->Nat} {fz:List Nat} {o:Oper} {K:St->UW->Prop}
structure mB(u0:UW)(st:St)(θ:Nat->Nat)(w:World):Prop where
 ER:Ah u0.toWorld w
 boxes:∀k m,(k,m)∈st.D->∃c T,w.heap[θ k]?=some (.cells c T (0,0))/\c.size=m/\∀j,j<m->R θ (st.σ (gx k j)) (c.getD j undef)
def Tk(E:Env)(a:Act)(o:Oper)(st:St)(u0:UW)(θ:Nat->Nat)(K:St->UW->Prop):Prop:=
 ∃v r,R θ v r/\(∀k o,v=e_ k o->∃m,(k,m)∈st.D)/\K (fin o st v) u0/\∀w,(reads o=true->mB u0 st θ w)->(execOp a.eval o).run E.P w=.ok (.value r) w
theorem Bq{v:Value}(hp:plain v=true)(hK:K (fin o st v) u0)(hr:∀w,(reads o=true->mB u0 st θ w)->(execOp a.eval o).run E.P w=.ok (.value v) w):Tk E a o st u0 θ K:=
 ⟨v,v,rn hp,λk o e=>absurd e (lK hp k o),hK,hr⟩
theorem GY{k off:Nat}(hm:∃m,(k,m)∈st.D)(hK:K (fin o st (e_ k off)) u0)(hr:∀w,(reads o=true->mB u0 st θ w)->(execOp a.eval o).run E.P w=.ok (.value (.pointer (some ⟨θ k,off,none⟩))) w):Tk E a o st u0 θ K:=
 ⟨e_ k off,_,rfl,λk' o' e=>(by simp only[Value.complex.injEq,true_and]at e;rw[<- e.1];exact hm),hK,hr⟩
theorem WJ{t:TypeId}{x:Operand}{lo hi mx:Option Operand}
  (h:match E.P.underlying t,ev st.σ x with
   |some (.slice e),.slice b len cap=>(match eE (ev st.σ) lo 0,eE (ev st.σ) hi len,eE (ev st.σ) mx cap with
    |some l,some h,some m=>(bif (mx.isSome&&hi.isNone)||(E.P.info? e).isNone then False else(m.toNat=l.toNat\/ju b)/\0<=l/\l<=h/\h<=m/\m<=cap/\K (fin o st (.slice (Br b l.toNat m.toNat (E.P.cellsOf e)) (h.toNat-l.toNat) (m.toNat-l.toNat))) u0)
    |_,_,_=>False)
   |some .string,.string s=>(match mx with
    |some _=>False
    |none=>match eE (ev st.σ) lo 0,eE (ev st.σ) hi s.size with
     |some l,some h=>0<=l/\l<=h/\h<=s.size/\K (fin o st (.string (s.extract l.toNat h.toNat))) u0
     |_,_=>False)
   |_,_=>False) (ho:o.op=.slice t x lo hi mx) (aO:bN C.n o=true) (hI:Inv C a wa st u θ):Tk E a o st u0 θ K:=by
 have hx:dJ C.n x=true:=m_ aO (by simp[ho,Op.operands])
 have mQ:∀y k i,(lo=some y\/hi=some y\/mx=some y)->ev st.σ y=.int k i->a.eval y=.int k i:=by
  intro y k i hy he
  refine bt hI (m_ aO ?_) he rfl
  rcases hy with rfl|rfl|rfl<;>simp[ho,Op.operands]
 split at h
 ·rename_i e b len cap hu he
  split at h
  ·rename_i l h' m hl hh hm
   cases yn:(mx.isSome&&hi.isNone)||(E.P.info? e).isNone with
   |true=>simp only[yn,cond_true]at h
   |false=>
    simp only[yn,cond_false]at h
    simp only[Bool.or_eq_false_iff]at yn
    obtain⟨Un,Fb⟩:=yn
    obtain⟨i,vX⟩:∃i,E.P.info? e=some i:=by cases hq:E.P.info? e<;>simp_all
    obtain⟨hns,h0,h1,h2,h3,hK⟩:=h
    refine Bq rfl hK λw _=>?_
    simp only[execOp,ho,bt hI hx he rfl,Sem.run_bind,Instr.sliceAt,a_ hu,Result.andThen_ok,Instr.slice,qH mQ hl hh hm Un h0 h1 h2 h3,di vX,Sem.run_pure]
    congr 3
    unfold Br
    split
    ·rfl
    ·rename_i nR
     cases b with
     |none=>rfl
     |some b=>
      simp only[Option.map_some,Option.some.injEq]
      unfold Addr.add
      split
      ·rename_i h0'
       obtain⟨bb,bo,bs⟩:=b
       have:=(hns.resolve_left nR) _ rfl
       simp only at this
       subst this
       simp[h0']
      ·rfl
  ·exact h.elim
 ·rename_i s hu he
  cases mx with
  |some _=>exact h.elim
  |none=>
   simp only at h
   split at h
   ·rename_i l h' hl hh
    obtain⟨h0,h1,h2,hK⟩:=h
    refine Bq rfl hK λw _=>?_
    have hb:=qH (P:=E.P) (w:=w) (isS:=false) (len:=s.size) (cap:=s.size) (mx:=none) (m:=s.size) (λy k i hy=>mQ y k i (by rcases hy with h|h|h;exact .inl h;exact .inr (.inl h);cases h)) hl hh rfl (by simp) h0 h1 h2 (by omega)
    simp only[execOp,ho,bt hI hx he rfl,Sem.run_bind,Instr.sliceAt,a_ hu,Result.andThen_ok,Instr.slice]
    simp only[Option.map_none]at hb
    simp only[Option.map_none,Option.isSome_none,Bool.false_eq_true,if_false,Sem.run_bind,hb,Result.andThen_ok,Sem.run_pure]
   ·exact h.elim
 ·exact h.elim
theorem adZ{t:TypeId}{x:Operand}{f:Nat}
  (h:match ev st.σ x with
   | .agg cs=>(match Ff E.P t f cs.toList with
     |some v=>bif plain v then K (fin o st v) u0 else False
     |none=>False)
   |_=>False) (ho:o.op=.field t x f) (aO:bN C.n o=true) (hI:Inv C a wa st u θ):Tk E a o st u0 θ K:=by
 have hx:dJ C.n x=true:=m_ aO (by simp[ho,Op.operands])
 split at h
 ·rename_i cs he
  cases hv:Ff E.P t f cs.toList with
  |none=>simp only[hv]at h
  |some v=>
   simp only[hv]at h
   obtain⟨ng,h⟩:=av h
   refine Bq ng h λw _=>?_
   unfold Ff at hv
   cases hu:E.P.underlying t with
   |none=>simp[hu]at hv
   |some D=>
    cases D<;>simp only[hu]at hv<;>try (cases hv;done)
    rename_i fs
    cases hf:fs[f]? with
    |none=>simp[hf]at hv
    |some y=>
     simp only[hf,Bool.cond_eq_ite,Bool.and_eq_true,Nat.ble_eq]at hv
     split at hv
     ·rename_i hc
      obtain⟨hi,hle⟩:=hc
      obtain⟨d,Zs⟩:=Option.isSome_iff_exists.1 hi
      simp only[execOp,ho,bt hI hx he rfl,Instr.field,Sem.run_bind,a_ hu,Result.andThen_ok,hf,asAgg,Sem.run_pure]
      split at hv
      ·rename_i oW
       simp only[Option.some.injEq]at hv
       rw[iF Zs oW,<- hv]
       simp only[Result.andThen_ok]
       congr 3
       apply Array.toList_inj.1
       rw[Array.toList_extract,List.extract_eq_take_drop]
       simp
      ·rename_i oW
       simp only[Bool.not_eq_true]at oW
       rw[jW Zs oW (v:=v) (by simpa using hv)]
       rfl
     ·cases hv
 ·exact h.elim
theorem ahI{b:Builtin}{args:Array Operand}{ts:Array TypeId}(ht:bS o=true)(h:W1b E o st u0 b args.toList ts.toList K)(ho:o.op=.call ⟨.builtin b,args,ts⟩)(aO:bN C.n o=true)(hI:Inv C a wa st u θ):Tk E a o st u0 θ K:=by
 have ka:∀x∈args.toList,dJ C.n x=true:=λx hx=>m_ aO (by simp[ho,Op.operands,Call.operands];simpa using hx)
 obtain⟨args⟩:=args
 obtain⟨ts⟩:=ts
 simp only at h ka
 unfold W1b at h
 split at h
 ·rename_i x t
  have kx:=ka x (by simp)
  split at h
  ·rename_i n c hu he
   refine Bq rfl h λw _=>?_
   refine dt (s:=Builtin.len_ #[t] o.type #[a.eval x]) ho (λ_=>by simp[builtin]) ?_
   simp[Builtin.len_,a_ hu,bt hI kx he rfl,goInt]
  ·rename_i s hu he
   refine Bq rfl h λw _=>?_
   refine dt (s:=Builtin.len_ #[t] o.type #[a.eval x]) ho (λ_=>by simp[builtin]) ?_
   simp[Builtin.len_,a_ hu,bt hI kx he rfl,goInt]
  ·rename_i n e hu
   obtain⟨_,h⟩:=av h
   refine Bq rfl h λw _=>?_
   refine dt (s:=Builtin.len_ #[t] o.type #[a.eval x]) ho (λ_=>by simp[builtin]) ?_
   simp[Builtin.len_,a_ hu,goInt]
  ·exact h.elim
 ·rename_i x y t t'
  simp[bS,ho]at ht
 ·split at h
  ·rename_i k i is hi
   refine Bq rfl h λw _=>?_
   obtain⟨he,_⟩:=yg hI ka hi
   refine dt (s:=(is.map (Value.int k)).foldlM Builtin.min2 (.int k i)) ho (λ_=>?_) (Hg is i)
   simp only[builtin,Builtin.min_,List.map_toArray,he,List.map_cons]
  ·exact h.elim
 ·split at h
  ·rename_i k i is hi
   refine Bq rfl h λw _=>?_
   obtain⟨he,_⟩:=yg hI ka hi
   refine dt (s:=(is.map (Value.int k)).foldlM Builtin.max2 (.int k i)) ho (λ_=>?_) (Hh is i)
   simp only[builtin,Builtin.max_,List.map_toArray,he,List.map_cons]
  ·exact h.elim
 ·exact h.elim
theorem Pr(ht:bS o=true)(aO:bN C.n o=true)(hI:Inv C a wa st u θ)(h:W1 E fz o st u0 K):Tk E a o st u0 θ K:=by
 have IS:∀{x:Operand},x∈o.op.operands->dJ C.n x=true:=λhx=>m_ aO hx
 cases ho:o.op with
 |move x=>
  simp only[W1,ho]at h
  have hx:=IS (x:=x) (by simp[ho,Op.operands])
  exact⟨_,_,H_ hI hx,λk o' e=>(my hI hx e).2,h,λw _=>by simp[execOp,ho]⟩
 |assign x=>
  simp only[W1,ho]at h
  have hx:=IS (x:=x) (by simp[ho,Op.operands])
  exact⟨_,_,H_ hI hx,λk o' e=>(my hI hx e).2,h,λw _=>by simp[execOp,ho]⟩
 |pick c x y=>
  simp only[W1,ho]at h
  have hx:=IS (x:=x) (by simp[ho,Op.operands])
  have hy:=IS (x:=y) (by simp[ho,Op.operands])
  have hc:=IS (x:=c) (by simp[ho,Op.operands])
  split at h
  ·rename_i t XZ
   have hec:=bt hI hc XZ rfl
   cases t with
   |true=>exact⟨_,_,H_ hI hx,λk o' e=>(my hI hx e).2,h,λw _=>by simp[execOp,ho,hec,asBool]⟩
   |false=>exact⟨_,_,H_ hI hy,λk o' e=>(my hI hy e).2,h,λw _=>by simp[execOp,ho,hec,asBool]⟩
  ·exact h.elim
 |build t ps=>
  simp only[W1,ho]at h
  obtain⟨hp,h⟩:=av h
  have hx:∀x∈ps.toList,dJ C.n x.2=true:=λx hx=>m_ aO (by simp only[ho,Op.operands];simp only[List.mem_toArray,List.mem_map];exact⟨x,hx,rfl⟩)
  cases hb:YE E.P t (ps.toList.map λp=>(p.1,ev st.σ p.2))with
  |none=>simp only[hb]at h
  |some vs=>
   simp only[hb]at h
   refine Bq rfl h λw _=>?_
   have e:=xT hI hx hp
   simp only[execOp,ho,e,Sem.run_bind]
   rw[run_build (r:=vs) (by simpa using hb)]
   rfl
 |load t x=>
  simp only[W1,ho]at h
  have hx:=IS (x:=x) (by simp[ho,Op.operands])
  cases hk:kinds E.P t with
  |none=>simp only[hk]at h
  |some ks=>
   simp only[hk]at h
   obtain⟨zE,⟨d,hu⟩,rS⟩:=nN hk
   split at h
   ·rename_i k off he
    cases hb:gk st.D k with
    |none=>simp only[hb]at h
    |some m=>
     simp only[hb]at h
     obtain⟨hc,h⟩:=av h
     simp only[Bool.and_eq_true,Nat.ble_eq]at hc
     obtain⟨h1,h2⟩:=hc
     have hp:=qq h2
     have mQ:=(my hI hx he).1
     refine Bq (qd hp (rS.imp id λh=>by rw[vw];exact h)) h λw hw=>?_
     obtain⟨c,T,b1,b2,b3⟩:=(hw (by simp[reads,ho])).boxes k m (lO hb)
     have Dx:=jm b2 b3 ks.length off h1 hp
     simp only[execOp,ho,mQ,Instr.loadAt,Instr.sureAddr,Sem.run_bind,Sem.run_pure,Result.andThen_ok]
     rw[jF hk b1 (by omega),Dx]
     rfl
   ·obtain⟨b,off,hv,h⟩:=iC h
    obtain⟨vs,hlen,hp,fB,h⟩:=sV h
    have mQ:=bt hI hx hv rfl
    by_cases hz:ks.length=0
    ·have oW:d_ E.P t=true:=rS.resolve_right (by omega)
     have HL:vs=[]:=List.eq_nil_of_length_eq_zero (by omega)
     subst HL
     obtain⟨i,hi⟩:=ja hu
     refine Bq (by rw[oW];rfl) h λw _=>?_
     simp only[execOp,ho,mQ,Instr.loadAt,Instr.sureAddr,Sem.run_bind,Sem.run_pure,Result.andThen_ok,loadVar,mZ hu,oW,if_true,di hi,<- zE,hz]
     rfl
    ·refine Bq (qd hp (rS.imp id λh=>by omega)) h λw hw=>?_
     obtain⟨c,T,f,c1,c2,c3⟩:=xN (hw (by simp[reads,ho])).ER fB hz
     simp only[execOp,ho,mQ,Instr.loadAt,Instr.sureAddr,Sem.run_bind,Sem.run_pure,Result.andThen_ok]
     rw[jF hk c1 c2,<- c3]
     rfl
 |nilCheck x=>
  simp only[W1,ho]at h
  have hx:=IS (x:=x) (by simp[ho,Op.operands])
  split at h
  ·rename_i k off he
   obtain⟨mQ,hm⟩:=my hI hx he
   exact GY hm h λw _=>by simp[execOp,ho,mQ]
  ·rename_i p he
   have mQ:=bt hI hx he rfl
   cases p with
   |none=>exact h.elim
   |some p=>exact Bq rfl h λw _=>by simp[execOp,ho,mQ]
  ·rename_i f p q he
   have mQ:=bt hI hx he rfl
   cases f with
   |method n=>exact h.elim
   |_=>exact Bq rfl h (λw _=>by simp[execOp,ho,mQ])
  ·exact h.elim
 |binOp op t x y t'=>
  simp only[W1,ho]at h
  have hx:=IS (x:=x) (by simp[ho,Op.operands])
  have hy:=IS (x:=y) (by simp[ho,Op.operands])
  obtain⟨px,py,v,hp,hK,iP⟩:=DY h x y
  refine Bq hp hK λw _=>?_
  simp only[execOp,ho]
  rw[qo hI hx px,qo hI hy py]
  rw[Sem.run_bind,iP w]
  rfl
 |unOp op t x=>
  simp only[W1,ho]at h
  have hx:=IS (x:=x) (by simp[ho,Op.operands])
  split at h
  ·rename_i b he
   exact Bq rfl h λw _=>by simp[execOp,ho,bt hI hx he rfl,Op.unary]
  ·rename_i k n he
   exact Bq rfl h λw _=>by simp[execOp,ho,bt hI hx he rfl,Op.unary,Op.intArith]
  ·exact h.elim
 |convert s d x=>
  simp only[W1,ho]at h
  have hx:=IS (x:=x) (by simp[ho,Op.operands])
  obtain⟨hp,h⟩:=av h
  cases hv:pv E.P (convert s d (ev st.σ x))with
  |none=>simp only[hv]at h
  |some v=>
   simp only[hv]at h
   obtain⟨ng,h⟩:=av h
   refine Bq ng h λw _=>?_
   simp only[execOp,ho,qo hI hx hp,Sem.run_bind,zp hv w]
   rfl
 |makeInterface t x=>
  simp only[W1,ho]at h
  have hx:=IS (x:=x) (by simp[ho,Op.operands])
  obtain⟨hp,h⟩:=av h
  cases hv:pv E.P (Instr.makeInterface t (ev st.σ x))with
  |none=>simp only[hv]at h
  |some v=>
   simp only[hv]at h
   obtain⟨ng,h⟩:=av h
   refine Bq ng h λw _=>?_
   simp only[execOp,ho,qo hI hx hp,Sem.run_bind,zp hv w]
   rfl
 |makeFunc fn first captured=>
  simp only[W1,ho]at h
  obtain⟨hc,h⟩:=av h
  simp only[Bool.and_eq_true]at hc
  have h1:∀x∈first.toList,dJ C.n x=true:=λx hx=>m_ aO (by simp[ho,Op.operands];left;simpa using hx)
  have h2:∀x∈captured.toList,dJ C.n x=true:=λx hx=>m_ aO (by simp[ho,Op.operands];right;simpa using hx)
  refine Bq rfl h λw _=>?_
  simp only[execOp,ho,tZ hI h1 hc.1,tZ hI h2 hc.2,Instr.makeFunc]
  rfl
 |slice t x lo hi mx=>
  simp only[W1,ho]at h
  exact WJ h ho aO hI
 |fieldAddr t x f=>
  simp only[W1,ho]at h
  have hx:=IS (x:=x) (by simp[ho,Op.operands])
  cases hd:Fh E.P t f with
  |none=>simp only[hd]at h
  |some d=>
   simp only[hd]at h
   split at h
   ·rename_i k off he
    obtain⟨mQ,hm⟩:=my hI hx he
    exact GY hm h λw _=>by simp only[execOp,ho,mQ,Sem.run_bind,oL hd];rfl
   ·obtain⟨b,off,hv,h⟩:=iC h
    have mQ:=bt hI hx hv rfl
    exact Bq rfl h λw _=>by simp only[execOp,ho,mQ,Sem.run_bind,oL hd];rfl
 |field t x f=>simp only[W1,ho]at h;exact adZ h ho aO hI
 |indexAddr t x i=>
  simp only[W1,ho]at h
  have hx:=IS (x:=x) (by simp[ho,Op.operands])
  have hi:=IS (x:=i) (by simp[ho,Op.operands])
  split at h
  ·rename_i e b len c k j hu he MW
   obtain⟨gG,h⟩:=av h
   obtain⟨ie,Fb⟩:=Option.isSome_iff_exists.1 gG
   obtain⟨bb,off,rfl,h1,h2,h⟩:=ig h
   refine Bq rfl h λw _=>?_
   simp only[execOp,ho,bt hI hx he rfl,bt hI hi MW rfl,Instr.indexAt,asIntOf,Sem.run_bind,Sem.run_pure,Result.andThen_ok,a_ hu]
   rw[if_pos ⟨h1,h2⟩]
   simp only[Sem.run_bind,di Fb,Result.andThen_ok,Sem.run_pure,lQ]
  ·rename_i len e k off kk j hu he MW
   obtain⟨hc,h⟩:=av h
   simp only[Bool.and_eq_true,decide_eq_true_eq]at hc
   obtain⟨⟨h1,h2⟩,gG⟩:=hc
   obtain⟨ie,Fb⟩:=Option.isSome_iff_exists.1 gG
   obtain⟨mQ,hm⟩:=my hI hx he
   refine GY hm h λw _=>?_
   simp only[execOp,ho,mQ,bt hI hi MW rfl,Instr.indexAt,asIntOf,Sem.run_bind,Sem.run_pure,Result.andThen_ok,a_ hu,Instr.sureAddr]
   rw[if_pos ⟨h1,h2⟩]
   simp only[Sem.run_bind,di Fb,Result.andThen_ok,Sem.run_pure,lQ]
  ·exact h.elim
 |index t x i=>
  simp only[W1,ho]at h
  have hx:=IS (x:=x) (by simp[ho,Op.operands])
  have hi:=IS (x:=i) (by simp[ho,Op.operands])
  split at h
  ·rename_i s k j hu he MW
   obtain⟨h1,c,h2,h⟩:=h
   refine Bq rfl h λw _=>?_
   simp only[execOp,ho,bt hI hx he rfl,bt hI hi MW rfl,Instr.index,asIntOf,Sem.run_bind,Sem.run_pure,Result.andThen_ok,a_ hu,if_pos h1,h2]
  ·rename_i len e cs k j hu he MW
   obtain⟨h1,h2,gG,v,hv,ng,h⟩:=h
   obtain⟨ie,Fb⟩:=Option.isSome_iff_exists.1 gG
   refine Bq ng h λw _=>?_
   simp only[execOp,ho,bt hI hx he rfl,bt hI hi MW rfl,Instr.index,asIntOf,Sem.run_bind,Sem.run_pure,Result.andThen_ok,a_ hu,if_pos (show(0:Int)<=j/\j<len from⟨h1,h2⟩),di Fb]
   rw[Od hv];rfl
  ·exact h.elim
 |extract x i=>
  simp only[W1,ho]at h
  have hx:=IS (x:=x) (by simp[ho,Op.operands])
  split at h
  ·rename_i vs he
   cases hv:vs[i]? with
   |none=>simp only[hv]at h
   |some v=>
    simp only[hv]at h
    obtain⟨ng,h⟩:=av h
    exact Bq ng h λw _=>by simp[execOp,ho,bt hI hx he rfl,Instr.extract,hv]
  ·exact h.elim
 |call c=>
  simp only[W1,ho]at h
  obtain⟨callee,args,ts⟩:=c
  cases callee with
  |builtin b=>simp only at h;exact ahI ht h ho aO hI
  |value f=>simp[bS,ho]at ht
  |invoke r m=>simp[bS,ho]at ht
 |_=>simp[bS,ho]at ht
theorem Fg{ops:Array Oper}{ah:Array Bool}{j:Nat}:∀l:List Nat,ki ops ah l=some j->j∈l/\∃oj,ops[j]?=some oj/\bS oj=true/\Region.free .any ops ah j=true:=by
 intro l
 induction l with
 |nil=>intro h;simp[ki]at h
 |cons x l ih=>
  intro h
  simp only[ki]at h
  cases hx:ops[x]? with
  |none=>
   simp only[hx,Bool.false_and,cond_false]at h
   obtain⟨h1,h2⟩:=ih h;exact⟨by simp[h1],h2⟩
  |some ox=>
   simp only[hx]at h
   cases hc:bS ox&&Region.free .any ops ah x with
   |true=>
    simp only[hc,cond_true,Option.some.injEq]at h
    subst h
    simp only[Bool.and_eq_true]at hc
    exact⟨by simp,ox,hx,hc.1,hc.2⟩
   |false=>
    simp only[hc,cond_false]at h
    obtain⟨h1,h2⟩:=ih h;exact⟨by simp[h1],h2⟩
inductive PS(ops:Array Oper)(ah:Array Bool):Nat->kH->Prop
 |nil (f:Nat) (h:Region.ready .any ops ah=[]):PS ops ah f .nil
 |tk (f j:Nat) (p:kH) (oj:Oper) (ho:ops[j]?=some oj) (ht:bS oj=true) (hf:Region.free .any ops ah j=true) (hr:j∈Region.ready .any ops ah) (hp:fR ops f (ah.setIfInBounds j true)=some p):PS ops ah (f+1) (.tk j p)
 |ef (f i:Nat) (p:kH) (hr:Region.ready .any ops ah=[i]) (h1:cu ops i p=true) (hp:fR ops f (ah.setIfInBounds i true)=some p):PS ops ah (f+1) (.ef i p)
 |UH (f i j:Nat) (p q:kH) (hr:Region.ready .any ops ah=[i,j]) (h1:cu ops i p=true) (h2:cu ops j q=true) (hp:fR ops f (ah.setIfInBounds i true)=some p) (hq:fR ops f (ah.setIfInBounds j true)=some q):PS ops ah (f+1) (.UH i p j q)
 |UG (f i j k:Nat) (p q r:kH) (hr:Region.ready .any ops ah=[i,j,k]) (h1:cu ops i p=true) (h2:cu ops j q=true) (h3:cu ops k r=true) (hp:fR ops f (ah.setIfInBounds i true)=some p) (hq:fR ops f (ah.setIfInBounds j true)=some q) (Wi:fR ops f (ah.setIfInBounds k true)=some r):PS ops ah (f+1) (.UG i p j q k r)
theorem CP:∀(f:Nat) (ah:Array Bool) (p:kH) (ops:Array Oper),fR ops f ah=some p->PS ops ah f p
 |0,ah,p,ops,h=>by
  simp only[fR]at h
  cases hr:Region.ready .any ops ah with
  |nil=>simp only[hr,Option.some.injEq]at h;subst h;exact .nil 0 hr
  |cons i rs=>simp[hr]at h
 |f+1,ah,p,ops,h=>by
  simp only[fR]at h
  cases hr:Region.ready .any ops ah with
  |nil=>simp only[hr,Option.some.injEq]at h;subst h;exact .nil _ hr
  |cons i rs=>
   simp only[hr]at h
   cases hf:ki ops ah (i::rs)with
   |some j=>
    simp only[hf]at h
    obtain⟨gw,oj,ho,iB,XX⟩:=Fg _ hf
    cases hp:fR ops f (ah.setIfInBounds j true)with
    |none=>simp[hp]at h
    |some p'=>
     simp only[hp,Option.some.injEq]at h
     subst h
     exact .tk f j p' oj ho iB XX (by rw[hr];exact gw) hp
   |none=>
    simp only[hf]at h
    match rs,hr,h with
    |[],hr,h=>
     cases hp:fR ops f (ah.setIfInBounds i true)with
     |none=>simp[hp]at h
     |some p'=>
      simp only[hp]at h
      cases hc:cu ops i p' with
      |false=>simp[hc]at h
      |true=>simp only[hc,cond_true,Option.some.injEq]at h;subst h;exact .ef f i p' hr hc hp
    |[j],hr,h=>
     cases hp:fR ops f (ah.setIfInBounds i true)with
     |none=>simp[hp]at h
     |some p'=>
      cases hq:fR ops f (ah.setIfInBounds j true)with
      |none=>simp[hp,hq]at h
      |some q'=>
       simp only[hp,hq]at h
       cases hc:cu ops i p'&&cu ops j q' with
       |false=>simp[hc]at h
       |true=>
        simp only[hc,cond_true,Option.some.injEq]at h;subst h
        simp only[Bool.and_eq_true]at hc
        exact .UH f i j p' q' hr hc.1 hc.2 hp hq
    |[j,k],hr,h=>
     cases hp:fR ops f (ah.setIfInBounds i true)with
     |none=>simp[hp]at h
     |some p'=>
      cases hq:fR ops f (ah.setIfInBounds j true)with
      |none=>simp[hp,hq]at h
      |some q'=>
       cases Wi:fR ops f (ah.setIfInBounds k true)with
       |none=>simp[hp,hq,Wi]at h
       |some r'=>
        simp only[hp,hq,Wi]at h
        cases hc:cu ops i p'&&cu ops j q'&&cu ops k r' with
        |false=>simp[hc]at h
        |true=>
         simp only[hc,cond_true,Option.some.injEq]at h;subst h
         simp only[Bool.and_eq_true]at hc
         exact .UG f i j k p' q' r' hr hc.1.1 hc.1.2 hc.2 hp hq Wi
    |_::_::_::_,_,h=>simp at h
structure Syn(pY:St)(θ0:Nat->Nat)(st:St)(θ:Nat->Nat):Prop where
 D:st.D=pY.D
 θ:∀k m,(k,m)∈pY.D->θ k=θ0 k
 gh:∀k m,(k,m)∈pY.D->∀j,j<m->st.σ (gx k j)=pY.σ (gx k j)
theorem Wa{θ θ':Nat->Nat}{v r:Value}(hnf:∀k o,v≠e_ k o):R θ v r->R θ' v r:=λh=>IA h λk o e=>absurd e (hnf k o)
theorem tH{pY st:St}{θ0 θ:Nat->Nat}(hs:Syn pY θ0 st θ)(hg:∀k m,(k,m)∈pY.D->∀j,j<m->∀k' o,pY.σ (gx k j)≠e_ k' o)(w:World):mB u0 pY θ0 w↔mB u0 st θ w:=by
 constructor
 ·rintro⟨h1,h2⟩
  refine⟨h1,λk m hk=>?_⟩
  rw[hs.D]at hk
  obtain⟨c,T,e1,e2,e3⟩:=h2 k m hk
  exact⟨c,T,by rw[hs.θ k m hk];exact e1,e2,λj hj=>by rw[hs.gh k m hk j hj];exact Wa (hg k m hk j hj) (e3 j hj)⟩
 ·rintro⟨h1,h2⟩
  refine⟨h1,λk m hk=>?_⟩
  obtain⟨c,T,e1,e2,e3⟩:=h2 k m (hs.D▸hk)
  exact⟨c,T,by rw[<- hs.θ k m hk];exact e1,e2,λj hj=>Wa (hg k m hk j hj) (by rw[<- hs.gh k m hk j hj];exact e3 j hj)⟩
theorem Inv.Oa(hI:Inv C a wa st u θ)(hs:uq u0 u):mB u0 st θ wa:=by
 refine⟨⟨hI.below.os.trans hs.os,hI.below.tape.trans hs.tape,hI.below.output.trans hs.output,Nat.le_trans hs.size hI.below.size,λb hb=>?_⟩,λk m hk=>?_⟩
 ·rw[<- hs.block b hb]
  exact hI.below.block b (Nat.lt_of_lt_of_le hb hs.size)
 ·obtain⟨_,c,T,h1,h2,h3,_⟩:=hI.boxes k m hk
  exact⟨c,T,h1,h2,h3⟩
def QN(Q:Act->World->Prop):Exit->Act->World->Prop
 | .normal,a,w=>Q a w
 |_,_,_=>False
theorem sf{ops:Array Oper}{oj:Oper}{act skip:St->Prop}{G:Prop}(aO:∀o∈ops.toList,bN C.n o=true)(hI:Inv C a wa st u θ)(h:guarded ops oj st act skip)
  (yes:Region.wanted oj (yielded ops a.tmps)=true->act st->G) (no:Region.wanted oj (yielded ops a.tmps)=false->skip st->G):G:=by
 unfold guarded at h
 cases hg:oj.guard with
 |none=>
  simp only[hg]at h
  exact yes (by simp[Region.wanted,hg]) h
 |some jb=>
  obtain⟨x,b⟩:=jb
  simp only[hg]at h
  cases zF:rK ops x with
  |none=>simp only[zF]at h
  |some g=>
   simp only[zF]at h
   have hgn:g<C.n:=by
    unfold rK at zF
    cases hj:ops[x]? with
    |none=>simp[hj]at zF
    |some ox=>
     simp only[hj,Option.bind_some]at zF
     exact fP (aO ox (by have:ops.toList[x]?=some ox:=by simpa using hj
                         exact List.mem_of_getElem? this)) g zF
   have OF:yielded ops a.tmps x=match a.tmps.getD g undef with| .bool x=>some x|_=>none:=by
    unfold yielded
    unfold rK at zF
    rw[zF,Option.bind_some,getD_some hI.size hgn]
    cases a.tmps.getD g undef<;>rfl
   have yi:=hI.jV g hgn
   split at h
   ·rename_i c hc
    rw[hc,kp rfl]at yi
    rw[yi]at OF
    have hw:Region.wanted oj (yielded ops a.tmps)=(c == b):=by
     simp only[Region.wanted,hg,OF]
     cases c<;>cases b<;>rfl
    cases c with
    |true=>
     simp only[ab]at h
     rw[xz hc]at h
     cases b with
     |true=>exact yes hw h
     |false=>exact no hw h
    |false=>
     simp only[ab]at h
     rw[xz hc]at h
     cases b with
     |true=>exact no hw h
     |false=>exact yes hw h
   ·rename_i vs hc
    rw[hc,kp rfl]at yi
    rw[yi]at OF
    exact no (by simp[Region.wanted,hg,OF]) h
   ·exact h.elim
def Sy(ops:Array Oper)(u0:UW)(BO:St)(θ0:Nat->Nat)(p:kH)(st:St)(u:UW)(θ:Nat->Nat):Prop:=(uq u0 u/\Syn BO θ0 st θ)\/(fh ops p=false/\cx ops p=false)
theorem Syn.fin{BO:St}{θ0:Nat->Nat}{oj:Oper}(lL:Syn BO θ0 st θ)(iG:bN C.n oj=true)(hI:Inv C a wa st u θ)(v:Value):Syn BO θ0 (fin oj st v) θ:=by
 refine⟨lL.D,lL.θ,λk m hk j hj=>?_⟩
 rw[<- lL.gh k m hk j hj]
 simp only[Go.aK.fin]
 cases hd:oj.dst with
 |none=>rfl
 |some d=>
  simp only[put]
  have h1:=fP iG d hd
  rw[cX _ _ (show gx k j≠d from λe=>absurd (Nat.lt_of_lt_of_le h1 hI.kE) (Nat.not_lt.2 (e▸kS k j)))]
theorem Aa{a b c:World}(h:Below a.heap.size a b)(k:Below b.heap.size b c):Below a.heap.size a c:=
 ⟨k.os.trans h.os,k.tape.trans h.tape,k.output.trans h.output,Nat.le_trans h.size k.size,λi hi=>(k.block i (Nat.lt_of_lt_of_le hi h.size)).trans (h.block i hi)⟩
theorem acJ{fz fz':List Nat}{o:Oper}{st:St}{u:UW}{K:St->UW->Prop}(hn:sJ o=true)(hp:jt E.gp o=false)(h:W1 E fz o st u K):W1 E fz' o st u λcJ u'=>Below u.heap.size u.toWorld u'.toWorld/\K cJ u':=by
 unfold sJ at hn
 unfold jt at hp
 unfold W1 at h |-
 split at hn
 ·rename_i t ho
  simp only[ho]at h hp |-
  cases hz:(E.P.info? t).bind (·.zero)with
  |none=>rw[hz]at h;exact h.elim
  |some z=>
   rw[hz]at h
   simp only at h |-
   cases hd:o.dst with
   |none=>rw[hd]at h;exact h.elim
   |some k=>
    rw[hd]at h hp
    simp only at h hp |-
    rw[hp]at h |-
    exact λb w' hb=>⟨hb.below,h b w' hb⟩
 ·rename_i t x ho
  simp only[ho]at h hp |-
  obtain⟨h1,h⟩:=av h
  rw[h1]
  simp only[cond_true]
  cases hd:o.dst with
  |none=>rw[hd]at h;exact h.elim
  |some k=>
   rw[hd]at h hp
   simp only at h hp |-
   rw[hp]at h |-
   exact λb w' hb=>⟨hb.below,h b w' hb⟩
 ·rename_i t len ps ho
  simp only[ho]at h |-
  obtain⟨h1,h⟩:=av h
  rw[h1]
  simp only[cond_true]
  cases he:yw E.P t with
  |none=>rw[he]at h;exact h.elim
  |some e=>
   rw[he]at h
   simp only at h |-
   cases hb:rj (E.P.cellsOf e) 0 (ps.toList.map λp=>(p.1,ev st.σ p.2))with
   |none=>rw[hb]at h;exact h.elim
   |some vs=>
    rw[hb]at h
    simp only at h |-
    obtain⟨h2,h⟩:=av h
    rw[h2]
    exact λb w' hb=>⟨hb.below,h b w' hb⟩
 ·cases hn
theorem Ox{fz:List Nat}{o:Oper}{K:St->UW->Prop}(hn:sJ o=true)(aO:bN C.n o=true)(hI:Inv C a wa st u θ)(h:W1 E fz o st u K):∃v ob,(execOp a.eval o).run E.P wa=.ok (.value v) (wa.alloc ob):=by
 unfold sJ at hn
 unfold W1 at h
 split at hn
 ·rename_i t ho
  simp only[ho]at h
  cases hz:(E.P.info? t).bind (·.zero)with
  |none=>rw[hz]at h;exact h.elim
  |some z=>
   refine⟨.pointer (some ⟨wa.heap.size,0,none⟩),.cells z.cells t (0,0),?_⟩
   simp only[execOp,ho,Sem.run_bind,FQ hz,Result.andThen_ok];rfl
 ·rename_i t x ho
  simp only[ho]at h
  obtain⟨h1,h⟩:=av h
  have hx:dJ C.n x=true:=m_ aO (by simp[ho,Op.operands])
  refine⟨.pointer (some ⟨wa.heap.size,0,none⟩),.cells (ev st.σ x).cells t (0,0),?_⟩
  simp only[execOp,ho,bt hI hx rfl h1,Sem.run_bind,Oe,Result.andThen_ok];rfl
 ·rename_i t len ps ho
  simp only[ho]at h
  exact WY ho aO hI h
 ·cases hn
theorem mB.alloc{BO:St}{θ0:Nat->Nat}{w:World}(h:mB u0 BO θ0 w)(ob:Obj):mB u0 BO θ0 (w.alloc ob):=by
 have hk:∀(b:Nat) (x:Obj),w.heap[b]?=some x->(w.alloc ob).heap[b]?=some x:=λb x hx=>by
  have cz:=(Array.getElem?_eq_some_iff.1 hx).1
  simp only[World.alloc]
  rw[Array.getElem?_push,if_neg (by omega)]
  exact hx
 refine⟨⟨h.ER.os,h.ER.tape,h.ER.output,?_,λb hb=>?_⟩,λk m hm=>?_⟩
 ·have:=h.ER.size
  simp only[World.alloc,Array.size_push];omega
 ·rcases h.ER.block b hb with e|e
  ·left
   have cz:b<w.heap.size:=Nat.lt_of_lt_of_le hb h.ER.size
   rw[e,hk b _ (Array.getElem?_eq_getElem cz),Array.getElem?_eq_getElem cz]
  ·exact .inr e
 ·obtain⟨c,T,h1,h2,h3⟩:=h.boxes k m hm
  exact⟨c,T,hk _ _ h1,h2,h3⟩
theorem jD{ws:List Nat}{ops:Array Oper}{BO pY:St}{θ0:Nat->Nat}{i:Nat}{p:kH}{K:St->UW->Prop}{N:Act->World->Prop}{QQ:Act->World->Prop}(aO:∀o∈ops.toList,bN C.n o=true)(HK:∀o∈ops.toList,∀t,o.dst=some t->t∈ws)
  (Ks:∀k m,(k,m)∈BO.D->∀j,j<m->∀k' o,BO.σ (gx k j)≠e_ k' o) (hI:Inv C a wa st u θ) (hP:dn C.n fz ws pY st) (hS:(uq u0 u/\Syn BO θ0 st θ)\/(fh ops p=false/\cx ops p=false/\sQ ops i=false)) (cz:cu ops i p=true)
  (hN:∀cJ u' a' w' θ',Inv C a' w' cJ u' θ'->dn C.n fz ws pY cJ->Sy ops u0 BO θ0 p cJ u' θ'->K cJ u'->N a' w')
  (h:uN E fz ops u0 i st u K):mq E.P ops (QN QQ) i (λa' w'=>(late ops i=true->mB u0 BO θ0 wa->mB u0 BO θ0 w')/\N a' w') a wa:=by
 unfold uN at h
 cases jc:ops[i]? with
 |none=>simp only[jc]at h
 |some oj=>
  simp only[jc]at h
  cases ng:jt E.gp oj with
  |true=>simp only[ng,cond_true]at h
  |false=>
   simp only[ng,cond_false]at h
   have gw:oj∈ops.toList:=by have:ops.toList[i]?=some oj:=by simpa using jc
                             exact List.mem_of_getElem? this
   have iG:=aO oj gw
   have kZ:∀{s s':St},dn C.n fz ws pY s->dn C.n fz oj.dst.toList s s'->dn C.n fz ws pY s':=by
    intro s s' h1 h2
    refine(h1.trans h2).mono (λ_ h=>h) λx hx=>?_
    rw[List.mem_append]at hx
    rcases hx with hx|hx
    ·exact hx
    ·cases v_:oj.dst with
     |none=>simp[v_]at hx
     |some d=>simp only[v_,Option.toList,List.mem_singleton]at hx;exact HK oj gw x (by rw[v_,hx])
   unfold cu at cz
   unfold mq
   simp only[jc]
   refine sf (G:=if Region.wanted oj (yielded ops a.tmps)=true then _ else _) aO hI h (λhw h1=>?_) (λhw h1=>?_)
   ·rw[if_pos hw]
    cases Kk:sQ ops i with
    |true=>
     simp only[Kk,cond_true]at h1
     refine pN (λa' w' hp=>?_) (lR (Q:=QN _) iG hI h1)
     obtain⟨cJ,u',θ',eU,lX,hθ,hDD,lM,hW⟩:=hp
     have M_:dn C.n fz oj.dst.toList st cJ:=lX.mono (λ_ h=>List.mem_append_left _ h) (λ_ h=>h)
     have abV:=hDD ng
     rcases hS with⟨_,lL⟩|⟨_,_,cm⟩
     ·have Zt:Syn BO θ0 cJ θ':=by
       refine⟨abV.trans lL.D,λk m hk=>?_,λk m hk j hj=>?_⟩
       ·rw[hθ k m (lL.D▸hk)];exact lL.θ k m hk
       ·rw[lX.fz k (List.mem_append_right _ (List.mem_map.2 ⟨_,lL.D▸hk,rfl⟩)) m (lL.D▸hk) j hj]
        exact lL.gh k m hk j hj
      exact⟨λ_ _=>(tH Zt Ks w').2 (eU.Oa lM),hN cJ u' a' w' θ' eU (kZ hP M_) (.inl ⟨lM,Zt⟩) hW⟩
     ·rw[Kk]at cm;cases cm
    |false=>
     simp only[Kk,cond_false]at h1
     cases ll:Hx ops i with
     |true=>
      have hnw:sJ oj=true:=by unfold Hx at ll;rw[jc]at ll;exact ll
      obtain⟨v,ob,kF⟩:=Ox hnw iG hI h1
      have XI:=lR (Q:=QN QQ) (fz:=fz++st.D.map (·.1)) iG hI (acJ hnw ng h1)
      unfold vc at XI
      rw[kF]at XI |-
      simp only[Oper.uponIn]at XI |-
      obtain⟨cJ,u',θ',eU,lX,hθ,hDD,ZR,hW⟩:=XI
      have M_:dn C.n fz oj.dst.toList st cJ:=lX.mono (λ_ h=>List.mem_append_left _ h) (λ_ h=>h)
      have abV:=hDD ng
      refine⟨λ_ hs=>hs.alloc ob,hN cJ u' _ _ θ' eU (kZ hP M_) ?_ hW⟩
      rcases hS with⟨uW,lL⟩|⟨n1,n2,_⟩
      ·refine .inl ⟨Aa uW ZR,abV.trans lL.D,λk m hk=>?_,λk m hk j hj=>?_⟩
       ·rw[hθ k m (lL.D▸hk)];exact lL.θ k m hk
       ·rw[lX.fz k (List.mem_append_right _ (List.mem_map.2 ⟨_,lL.D▸hk,rfl⟩)) m (lL.D▸hk) j hj]
        exact lL.gh k m hk j hj
      ·exact .inr ⟨n1,n2⟩
     |false=>
     simp only[Kk,ll,Bool.false_or,Bool.and_eq_true,Bool.not_eq_true']at cz
     refine pN (λa' w' hp=>?_) (lR (Q:=QN _) iG hI h1)
     obtain⟨cJ,u',θ',eU,lX,hθ,hDD,hW⟩:=hp
     exact⟨λhh _=>(by simp[sQ,ll,hh]at Kk),hN cJ u' a' w' θ' eU (kZ hP lX) (.inr cz) hW⟩
   ·rw[if_neg (by simp[hw])]
    have Uf:=hI.dx oj.dst (fP iG) (v:=undef) rfl
    have hpf:=kZ hP (dn.fin st oj.dst (fP iG) hI.kE undef)
    rcases hS with⟨uW,lL⟩|⟨TT,aiP,anm⟩
    ·exact⟨λ_ _=>(tH lL Ks wa).2 (hI.Oa uW),hN _ u _ wa θ Uf hpf (.inl ⟨uW,lL.fin iG hI undef⟩) h1⟩
    ·exact⟨λ_ hs=>hs,hN _ u _ wa θ Uf hpf (.inr ⟨TT,aiP⟩) h1⟩
theorem VU{ws:List Nat}{ops:Array Oper}{Q:Exit->St->UW->Prop}{pY BO:St}{θ0:Nat->Nat}(aO:∀o∈ops.toList,bN C.n o=true)(HK:∀o∈ops.toList,∀t,o.dst=some t->t∈ws)
  (yj:Region.noSelect ops=true) (Ks:∀k m,(k,m)∈BO.D->∀j,j<m->∀k' o,BO.σ (gx k j)≠e_ k' o):
  ∀(f:Nat) (p:kH) (ah:Array Bool) (st:St) (u:UW) (a:Act) (wa:World) (θ:Nat->Nat),Cl ops ah->fR ops f ah=some p->Inv C a wa st u θ->dn C.n fz ws pY st->
   Sy ops u0 BO θ0 p st u θ->Wd E fz ops u0 (Q .normal) p st u->
   za E.P ops (QN λa' w'=>∃cJ u' θ',Inv C a' w' cJ u' θ'/\dn C.n fz ws pY cJ/\Q .normal cJ u') (mB u0 BO θ0) f ah a wa:=by
 intro f
 induction f with
 |zero=>
  intro p ah st u a wa θ iV hp hI hP hS h
  cases CP 0 ah p ops hp with
  |nil _ hr=>exact⟨hr,st,u,θ,hI,hP,h⟩
 |succ f ih=>
  intro p ah st u a wa θ iV hp hI hP hS h
  cases CP (f+1) ah p ops hp with
  |nil _ hr=>
   refine⟨λ_=>⟨st,u,θ,hI,hP,h⟩,?_⟩
   rw[hr];intro i hi;cases hi
  |tk _ j p' oj jc iB lN fB AQ=>
   have gw:oj∈ops.toList:=by have:ops.toList[j]?=some oj:=by simpa using jc
                             exact List.mem_of_getElem? this
   have iG:=aO oj gw
   have kZ:∀(v:Value),dn C.n fz ws pY (fin oj st v):=by
    intro v
    refine(hP.trans (dn.fin st oj.dst (fP iG) hI.kE v)).mono (λ_ h=>h) λx hx=>?_
    rw[List.mem_append]at hx
    rcases hx with hx|hx
    ·exact hx
    ·cases v_:oj.dst with
     |none=>simp[v_]at hx
     |some d=>simp only[v_,Option.toList,List.mem_singleton]at hx;exact HK oj gw x (by rw[v_,hx])
   have hS1:reads oj=true->∀w,mB u0 BO θ0 w↔mB u0 st θ w:=λfB=>by
    rcases hS with⟨_,lL⟩|hn
    ·exact tH lL Ks
    ·simp[fh,CJ,jc,fB]at hn
   have hS2:reads oj=true->mB u0 BO θ0 wa:=λfB=>by
    rcases hS with⟨uW,lL⟩|hn
    ·exact(tH lL Ks wa).2 (hI.Oa uW)
    ·simp[fh,CJ,jc,fB]at hn
   have hS3:∀v,Sy ops u0 BO θ0 p' (fin oj st v) u θ:=λv=>by
    rcases hS with⟨uW,lL⟩|hn
    ·exact .inl ⟨uW,lL.fin iG hI v⟩
    ·simp only[fh,cx,Bool.or_eq_false_iff]at hn;exact .inr ⟨hn.1.2,hn.2⟩
   simp only[Wd,stepT,jc]at h
   refine sf aO hI h (λhw h1=>?_) (λhw h1=>?_)
   ·obtain⟨v,r,hR,XY,hK,kF⟩:=Pr iB iG hI h1
    refine xy jc (Region.noSelect_spec yj) (λc a w hq=>hq.elim) f ah a wa (Region.free_spec jc lN) iV fB (v:=r) (.inl ⟨hw,λw XE=>kF w λEZ=>(hS1 EZ w).1 (XE EZ)⟩) hS2 ?_
    exact ih p' _ _ u _ wa θ (iV.set fB) AQ (hI.fin oj.dst (fP iG) hR XY) (kZ v) (hS3 v) hK
   ·refine xy jc (Region.noSelect_spec yj) (λc a w hq=>hq.elim) f ah a wa (Region.free_spec jc lN) iV fB (v:=undef) (.inr ⟨hw,rfl⟩) hS2 ?_
    exact ih p' _ _ u _ wa θ (iV.set fB) AQ (hI.dx oj.dst (fP iG) rfl) (kZ undef) (hS3 undef) h1
  |ef _ i p' hr cz AQ=>
   refine⟨λh0=>(by rw[hr]at h0;cases h0),λx hx=>?_⟩
   rw[hr]at hx
   simp only[List.mem_singleton]at hx
   subst hx
   refine jD (p:=p') aO HK Ks hI hP (hS.imp id λhh=>?_) cz (λcJ u' a' w' θ' eU lX MZ hW=>ih p' _ cJ u' a' w' θ' (iV.set (by rw[hr];simp)) AQ eU lX MZ hW) h
   simp only[fh,cx,Bool.or_eq_false_iff]at hh
   exact⟨hh.1,hh.2.2,hh.2.1⟩
  |UH _ i j p' q' hr cz vW AQ LH=>
   refine⟨λh0=>(by rw[hr]at h0;cases h0),λx hx=>?_⟩
   rw[hr]at hx
   simp only[List.mem_cons,List.not_mem_nil,or_false]at hx
   rcases hx with rfl|rfl
   ·refine jD (p:=p') aO HK Ks hI hP (hS.imp id λhh=>?_) cz (λcJ u' a' w' θ' eU lX MZ hW=>ih p' _ cJ u' a' w' θ' (iV.set (by rw[hr];simp)) AQ eU lX MZ hW) h.1
    simp only[fh,cx,Bool.or_eq_false_iff]at hh
    exact⟨hh.1.1,hh.2.1.2,hh.2.1.1⟩
   ·refine jD (p:=q') aO HK Ks hI hP (hS.imp id λhh=>?_) vW (λcJ u' a' w' θ' eU lX MZ hW=>ih q' _ cJ u' a' w' θ' (iV.set (by rw[hr];simp)) LH eU lX MZ hW) h.2
    simp only[fh,cx,Bool.or_eq_false_iff]at hh
    exact⟨hh.1.2,hh.2.2.2,hh.2.2.1⟩
  |UG _ i j k p' q' r' hr cz vW hlt'' AQ LH EZ=>
   refine⟨λh0=>(by rw[hr]at h0;cases h0),λx hx=>?_⟩
   rw[hr]at hx
   simp only[List.mem_cons,List.not_mem_nil,or_false]at hx
   rcases hx with rfl|rfl|rfl
   ·refine jD (p:=p') aO HK Ks hI hP (hS.imp id λhh=>?_) cz (λcJ u' a' w' θ' eU lX MZ hW=>ih p' _ cJ u' a' w' θ' (iV.set (by rw[hr];simp)) AQ eU lX MZ hW) h.1
    simp only[fh,cx,Bool.or_eq_false_iff]at hh
    exact⟨hh.1.1.1,hh.2.1.1.2,hh.2.1.1.1⟩
   ·refine jD (p:=q') aO HK Ks hI hP (hS.imp id λhh=>?_) vW (λcJ u' a' w' θ' eU lX MZ hW=>ih q' _ cJ u' a' w' θ' (iV.set (by rw[hr];simp)) LH eU lX MZ hW) h.2.1
    simp only[fh,cx,Bool.or_eq_false_iff]at hh
    exact⟨hh.1.1.2,hh.2.1.2.2,hh.2.1.2.1⟩
   ·refine jD (p:=r') aO HK Ks hI hP (hS.imp id λhh=>?_) hlt'' (λcJ u' a' w' θ' eU lX MZ hW=>ih r' _ cJ u' a' w' θ' (iV.set (by rw[hr];simp)) EZ eU lX MZ hW) h.2.2
    simp only[fh,cx,Bool.or_eq_false_iff]at hh
    exact⟨hh.1.2,hh.2.2.2,hh.2.2.1⟩
def nv(P:Program)(ops:Array Oper)(tot:Bool)(j:Nat)(K:Act->World->Prop)(a:Act)(w:World):Prop:=
 match ops[j]? with
 |none=>False
 |some o=>if Region.wanted o (yielded ops a.tmps)then
   (tot=true->∃v w',(execOp a.eval o).run P w=.ok (.value v) w'/\(w'=w\/∃ob,w'=w.alloc ob))/\
   ∀v w',(execOp a.eval o).run P w=.ok (.value v) w'->(w'=w\/∃ob,w'=w.alloc ob)->K (a.put o.dst v) w'
  else K (a.put o.dst undef) w
def TQ(P:Program)(ops:Array Oper)(QQ:Exit->Act->World->Prop):Nat->Array Bool->List Nat->Act->World->Prop
 |0,ah,_,a,w=>Region.ready .any ops ah=[]/\QQ .normal a w
 |f+1,ah,dV,a,w=>(Region.ready .any ops ah=[]->QQ .normal a w)/\
  ∀j∈Region.ready .any ops ah,dw dV j=false->
   (mP ops j=true->nv P ops dV.isEmpty j (TQ P ops QQ f (ah.setIfInBounds j true) dV) a w)/\
   (mP ops j=false->mq P ops QQ j (TQ P ops QQ f (ah.setIfInBounds j true) []) a w)
theorem Ix{P:Program}{ops:Array Oper}{QQ:Exit->Act->World->Prop}:∀(f:Nat) (ah:Array Bool) (a:Act) (w:World),TQ P ops QQ f ah [] a w->za P ops QQ (λ_=>True) f ah a w
 |0,_,_,_,h=>h
 |f+1,ah,a,w,h=>by
  refine⟨h.1,λi hi=>?_⟩
  have hh:=h.2 i hi rfl
  cases hn:mP ops i with
  |false=>exact vi (λa' w' h'=>⟨λ_ _=>trivial,Ix f _ _ _ h'⟩) (hh.2 hn)
  |true=>
   have h1:=hh.1 hn
   unfold nv at h1
   unfold mq
   cases ho:ops[i]? with
   |none=>rw[ho]at h1;exact h1.elim
   |some o=>
    rw[ho]at h1
    simp only at h1 |-
    split<;>rename_i hw<;>simp only[hw,if_true,if_false,Bool.false_eq_true]at h1
    ·obtain⟨v,w',hr,hs⟩:=h1.1 rfl
     rw[hr]
     exact⟨λ_ _=>trivial,Ix f _ _ _ (h1.2 v w' hr hs)⟩
    ·exact⟨λ_ _=>trivial,Ix f _ _ _ h1⟩
theorem PJ{P:Program}{ops:Array Oper}{j:Nat}{oi oj:Oper}{v:Value}{tot:Bool}{K:Act->World->Prop}{a:Act}{w:World}(hj:ops[j]?=some oj)(RV:oi.apart ops oj=true)(hsj:∀cs b,oj.op≠ .select cs b)
  (h:nv P ops tot j K (a.put oi.dst v) w):nv P ops tot j (λa' w'=>K (a'.put oi.dst v) w') a w:=by
 obtain⟨h1,h2,h3⟩:=Oper.apart_spec RV
 unfold nv at h |-
 simp only[hj,wanted_put oj a oi.dst v h1,execOp_put oj hsj a oi.dst v h1]at h |-
 split<;>rename_i hw<;>simp only[hw,if_true,if_false,Bool.false_eq_true]at h
 ·refine⟨h.1,λx w' hr hs=>?_⟩
  rw[<- Act.put_comm a v x h2];exact h.2 x w' hr hs
 ·rw[<- Act.put_comm a v undef h2];exact h
theorem FH{P:Program}{ops:Array Oper}{j:Nat}{t1 t2:Bool}{K1 K2 K:Act->World->Prop}{a:Act}{w:World}(hk:∀(oj:Oper) (x:Value) (w':World),ops[j]?=some oj->(w'=w\/∃ob,w'=w.alloc ob)->K1 (a.put oj.dst x) w'->K2 (a.put oj.dst x) w'->K (a.put oj.dst x) w')
  (h1:nv P ops t1 j K1 a w) (h2:nv P ops t2 j K2 a w):nv P ops t1 j K a w:=by
 unfold nv at h1 h2 |-
 cases ho:ops[j]? with
 |none=>rw[ho]at h1;exact h1.elim
 |some oj=>
  rw[ho]at h1 h2
  simp only at h1 h2 |-
  split<;>rename_i hw<;>simp only[hw,if_true,if_false,Bool.false_eq_true]at h1 h2
  ·exact⟨h1.1,λv w' hr hs=>hk oj v w' ho hs (h1.2 v w' hr hs) (h2.2 v w' hr hs)⟩
  ·exact hk oj undef w ho (.inl rfl) h1 h2
theorem Md{P:Program}{ops:Array Oper}{j:Nat}{t:Bool}{K1 K:Act->World->Prop}{a:Act}{w:World}(hk:∀(oj:Oper) (x:Value) (w':World),ops[j]?=some oj->(w'=w\/∃ob,w'=w.alloc ob)->K1 (a.put oj.dst x) w'->K (a.put oj.dst x) w')
  (h1:nv P ops t j K1 a w):nv P ops t j K a w:=FH (λoj x w' ho hs k1 _=>hk oj x w' ho hs k1) h1 h1
theorem Ek{P:Program}{ops:Array Oper}{QQ:Exit->Act->World->Prop}{S:World->Prop}{i:Nat}{oi:Oper}{v:Value}(hi:ops[i]?=some oi)(QA:mP ops i=true)(yj:∀(j:Nat) (o:Oper) cs b,ops[j]?=some o->o.op≠ .select cs b)
  (hQ:∀c a w,QQ (.panic c) (a.put oi.dst v) w->QQ (.panic c) a w) (hSc:∀w ob,S w->S (w.alloc ob)):
  ∀(f:Nat) (ah:Array Bool) (dV:List Nat) (a:Act) (w:World),
   (∀j oj,ops[j]?=some oj->j≠i->ah.getD j true=false->(∀e∈oj.after,Region.binds .any e=true->e.on≠i)->oi.apart ops oj=true)->
   i∈Region.ready .any ops ah->dw dV i=false->YieldsIf P ops S oi v a->S w->
   TQ P ops QQ f (ah.setIfInBounds i true) dV (a.put oi.dst v) w->((∀w,S w)\/TQ P ops QQ (f+1) ah (i::dV) a w)->TQ P ops QQ (f+1) ah dV a w:=by
 have self:∀(f:Nat) (ah:Array Bool) (dV:List Nat) (a:Act) (w:World),YieldsIf P ops S oi v a->S w->TQ P ops QQ f (ah.setIfInBounds i true) dV (a.put oi.dst v) w->
   nv P ops dV.isEmpty i (TQ P ops QQ f (ah.setIfInBounds i true) dV) a w:=by
  intro f ah dV a w hy hS hA
  unfold nv
  simp only[hi]
  rcases hy with⟨hw,hv⟩|⟨hw,rfl⟩
  ·rw[if_pos hw]
   refine⟨λ_=>⟨v,w,hv w hS,.inl rfl⟩,λx w' hr _=>?_⟩
   rw[hv w hS]at hr
   cases hr
   exact hA
  ·rw[if_neg (by simp[hw])];exact hA
 intro f
 induction f with
 |zero=>
  intro ah dV a w lN hr hb hy hS hA hB
  refine⟨λh=>(by rw[h]at hr;cases hr),λj hj BX=>?_⟩
  by_cases hji:j=i
  ·subst hji
   exact⟨λ_=>self 0 ah dV a w hy hS hA,λh=>(by rw[QA]at h;cases h)⟩
  ·have:=ready_mono hj hji
   rw[hA.1]at this
   cases this
 |succ f ih=>
  intro ah dV a w lN hr hb hy hS hA hB
  refine⟨λh=>(by rw[h]at hr;cases hr),λj hj BX=>?_⟩
  by_cases hji:j=i
  ·subst hji
   exact⟨λ_=>self (f+1) ah dV a w hy hS hA,λh=>(by rw[QA]at h;cases h)⟩
  ·have h1:=hA.2 j (ready_mono hj hji) BX
   obtain⟨Ud,oj,jc,iP⟩:=mem_ready.1 hj
   have Kj:∀e∈oj.after,Region.binds .any e=true->e.on≠i:=λe he hb heq=>by
    have h1:=iP e he hb
    have h0:=(mem_ready.1 hr).1
    rw[heq]at h1
    rcases Nat.lt_or_ge i ah.size with h'|h'
    ·simp[h']at h0 h1;rw[h0]at h1;cases h1
    ·simp[Array.getElem?_eq_none h']at h1
   have RV:=lN j oj jc hji Ud Kj
   have HO:∀k ok,ops[k]?=some ok->k≠i->(ah.setIfInBounds j true).getD k true=false->
     (∀e∈ok.after,Region.binds .any e=true->e.on≠i)->oi.apart ops ok=true:=λk ok hk hki hun cm=>by
    refine lN k ok hk hki ?_ cm
    by_cases hjk:j=k
    ·subst hjk;exact Ud
    ·rw[getD_set_ne true hjk]at hun;exact hun
   have ZP:(ah.setIfInBounds i true).setIfInBounds j true=(ah.setIfInBounds j true).setIfInBounds i true:=Array.setIfInBounds_comm _ _ (Ne.symm hji)
   have aeF:∀(b:Act) (x:Value),YieldsIf P ops S oi v b->YieldsIf P ops S oi v (b.put oj.dst x):=λb x hb=>by
    obtain⟨_,_,h3⟩:=Oper.apart_spec RV
    exact hb.of_same (execOp_put oi (λcs b=>yj i oi cs b hi) b oj.dst x h3) (wanted_put oi b oj.dst x h3)
   refine⟨λhn=>?_,λhn=>?_⟩
   ·have k1:=PJ jc RV (λcs b=>yj j oj cs b jc) (h1.1 hn)
    have go:∀(a':Act) (w':World),YieldsIf P ops S oi v a'->S w'->TQ P ops QQ f ((ah.setIfInBounds i true).setIfInBounds j true) dV (a'.put oi.dst v) w'->((∀w,S w)\/TQ P ops QQ (f+1) (ah.setIfInBounds j true) (i::dV) a' w')->TQ P ops QQ (f+1) (ah.setIfInBounds j true) dV a' w':=λa' w' y1 y2 y3 y4=>
     ih (ah.setIfInBounds j true) dV a' w' HO (ready_mono hr (Ne.symm hji)) hb y1 y2 (by rw[ZP]at y3;exact y3) y4
    have hSn:∀w',(w'=w\/∃ob,w'=w.alloc ob)->S w':=λw' hs=>by
     rcases hs with rfl|⟨ob,rfl⟩
     ·exact hS
     ·exact hSc w ob hS
    rcases hB with hB|hB
    ·refine Md (λoj' x w' TR hs y1=>?_) k1
     have:oj'=oj:=by rw[jc]at TR;cases TR;rfl
     subst this
     exact go _ _ (aeF a x hy) (hSn w' hs) y1 (.inl hB)
    ·have abL:dw (i::dV) j=false:=by
      cases hm:dw (i::dV) j with
      |false=>rfl
      |true=>
       rcases List.mem_cons.1 (fD.1 hm)with h|h
       ·exact absurd h hji
       ·rw[fD.2 h]at BX;cases BX
     have k2:=(hB.2 j hj abL).1 hn
     refine FH (λoj' x w' TR hs y1 y2=>?_) k1 k2
     have:oj'=oj:=by rw[jc]at TR;cases TR;rfl
     subst this
     exact go _ _ (aeF a x hy) (hSn w' hs) y1 (.inr y2)
   ·rcases hB with hB|hB
    ·have k1:=FB (S:=S) jc RV (λcs b=>yj i oi cs b hi) (λcs b=>yj j oj cs b jc) hQ hy (h1.2 hn)
     refine vi (λa' w' y=>?_) k1
     exact ih (ah.setIfInBounds j true) [] a' w' HO (ready_mono hr (Ne.symm hji)) rfl y.1 (hB w') (by have:=y.2;rw[ZP]at this;exact this) (.inl hB)
    ·have abL:dw (i::dV) j=false:=by
      cases hm:dw (i::dV) j with
      |false=>rfl
      |true=>
       rcases List.mem_cons.1 (fD.1 hm)with h|h
       ·exact absurd h hji
       ·rw[fD.2 h]at BX;cases BX
     exact(hB.2 j hj abL).2 hn
def rG(ah:Array Bool):Nat:=(ah.toList.filter (!·)).length
theorem Gc:∀(l:List Bool) (i:Nat),i<l.length->l[i]?=some false->((l.set i true).filter (!·)).length+1=(l.filter (!·)).length
 |[],i,h,_=>by simp at h
 |b::l,0,_,h=>by simp only[List.getElem?_cons_zero,Option.some.injEq]at h;subst h;simp
 |b::l,i+1,h,h2=>by
  simp only[List.getElem?_cons_succ]at h2
  simp only[List.length_cons]at h
  have:=Gc l i (by omega) h2
  show((b::l.set i true).filter (!·)).length+1=((b::l).filter (!·)).length
  cases b<;>simp at this |- <;>omega
theorem tK{ah:Array Bool}{i:Nat}{ops:Array Oper}(hi:i∈Region.ready .any ops ah)(hs:ah.size=ops.size):rG (ah.setIfInBounds i true)+1=rG ah:=by
 obtain⟨h0,oj,jc,_⟩:=mem_ready.1 hi
 have cz:i<ah.size:=by rw[hs];exact(Array.getElem?_eq_some_iff.1 jc).1
 unfold rG
 rw[Array.toList_setIfInBounds]
 refine Gc _ i (by simpa using cz) ?_
 rw[Array.getD_eq_getD_getElem?,Array.getElem?_eq_getElem cz]at h0
 rw[Array.getElem?_toList,Array.getElem?_eq_getElem cz]
 exact congrArg some h0
theorem Gb{ah:Array Bool}{i:Nat}{ops:Array Oper}(hi:i∈Region.ready .any ops ah)(hs:ah.size=ops.size):0<rG ah:=by
 have:=tK hi hs;omega
theorem acL{P:Program}{ops:Array Oper}{QQ:Exit->Act->World->Prop}:∀(f:Nat) (ah:Array Bool) (dV:List Nat) (a:Act) (w:World),ah.size=ops.size->rG ah<=f->Cl ops ah->dV≠[]->(∀x∈dV,x∈Region.ready .any ops ah)->Px ops ah dV=true->TQ P ops QQ f ah dV a w:=by
 intro f
 induction f with
 |zero=>
  intro ah dV a w hs hn iV hb hr hv
  cases dV with
  |nil=>exact absurd rfl hb
  |cons x dV=>have:=Gb (hr x (by simp)) hs;omega
 |succ f ih=>
  intro ah dV a w hs hn iV hb hr hv
  obtain⟨x,hx⟩:∃x,x∈dV:=by
   cases dV with
   |nil=>exact absurd rfl hb
   |cons x dV=>exact⟨x,by simp⟩
  refine⟨λh=>(by have:=hr x hx;rw[h]at this;cases this),λj hj BX=>?_⟩
  have ar:∀a' w',TQ P ops QQ f (ah.setIfInBounds j true) dV a' w':=λa' w'=>by
   refine ih _ dV a' w' (by simpa using hs) (by have:=tK hj hs;omega) (iV.set hj) hb (λy hy=>?_) ?_
   ·refine ready_mono (hr y hy) λe=>?_
    subst e
    rw[fD.2 hy]at BX;cases BX
   ·unfold Px at hv |-
    rw[List.all_eq_true]at hv |-
    intro h hh
    have:=hv h hh
    simp only[Bool.or_eq_true]at this |-
    rcases this with h1|h1
    ·left
     by_cases hjh:j=h
     ·subst hjh
      have:=(mem_ready.1 hj).1
      rw[this]at h1;cases h1
     ·rw[getD_set_ne true hjh];exact h1
    ·exact .inr h1
  refine⟨λZA=>?_,λZA=>?_⟩
  ·unfold nv
   obtain⟨_,oj,jc,_⟩:=mem_ready.1 hj
   simp only[jc]
   have Ug:dV.isEmpty=false:=by cases dV with
    |nil=>exact absurd rfl hb
    |cons _ _=>rfl
   rw[Ug]
   split
   ·exact⟨λh=>(by cases h),λv w' _ _=>ar _ _⟩
   ·exact ar _ _
  ·exfalso
   obtain⟨hj0,oj,jc,iP⟩:=mem_ready.1 hj
   unfold Px at hv
   rw[List.all_eq_true]at hv
   have:=hv j (List.mem_range.2 (Array.getElem?_eq_some_iff.1 jc).1)
   rw[hj0,ZA,Bool.false_or,Bool.false_or,List.any_eq_true]at this
   obtain⟨y,OG,HI⟩:=this
   have hyr:=(mem_ready.1 (hr y (fD.1 HI))).1
   have hl:ah.getD y false=true:=by
    refine iV.AA ops.size (uS ops j) (λx hx=>?_) y OG
    unfold uS at hx
    simp only[jc]at hx
    obtain⟨e,he,rfl⟩:=List.mem_map.1 hx
    rw[List.mem_filter]at he
    exact iP e (by simpa using he.1) he.2
   rcases Nat.lt_or_ge y ah.size with h'|h'
   ·simp[h']at hyr hl;rw[hyr]at hl;cases hl
   ·rw[Array.getD_eq_getD_getElem?,Array.getElem?_eq_none h']at hl;cases hl
theorem Ch{ops:Array Oper}{ah:Array Bool}{dV:List Nat}{j:Nat}:∀l:List Nat,Cj ops ah dV l=some j->j∈l/\∃oj,ops[j]?=some oj/\bS oj=true/\(reads oj=false\/Px ops ah (j::dV)=true)/\Region.free .any ops ah j=true/\dw dV j=false:=by
 intro l
 induction l with
 |nil=>intro h;simp[Cj]at h
 |cons x l ih=>
  intro h
  simp only[Cj]at h
  cases hx:ops[x]? with
  |none=>
   simp only[hx,Bool.false_and,cond_false]at h
   obtain⟨h1,h2⟩:=ih h;exact⟨by simp[h1],h2⟩
  |some ox=>
   simp only[hx]at h
   cases hc:(bS ox&&(!reads ox||Px ops ah (x::dV)))&&(Region.free .any ops ah x&& !dw dV x)with
   |true=>
    simp only[hc,cond_true,Option.some.injEq]at h
    subst h
    simp only[Bool.and_eq_true,Bool.not_eq_true',Bool.or_eq_true]at hc
    exact⟨by simp,ox,hx,hc.1.1,hc.1.2,hc.2.1,hc.2.2⟩
   |false=>
    simp only[hc,cond_false]at h
    obtain⟨h1,h2⟩:=ih h;exact⟨by simp[h1],h2⟩
theorem De{ops:Array Oper}{ah:Array Bool}{dV:List Nat}{j:Nat}:∀l:List Nat,Df ops ah dV l=some j->j∈l/\∃oj,ops[j]?=some oj/\bS oj=true/\Region.free .any ops ah j=true/\dw dV j=false:=by
 intro l
 induction l with
 |nil=>intro h;simp[Df]at h
 |cons x l ih=>
  intro h
  simp only[Df]at h
  cases hx:ops[x]? with
  |none=>
   simp only[hx,Bool.false_and,cond_false]at h
   obtain⟨h1,h2⟩:=ih h;exact⟨by simp[h1],h2⟩
  |some ox=>
   simp only[hx]at h
   cases hc:bS ox&&(Region.free .any ops ah x&& !dw dV x)with
   |true=>
    simp only[hc,cond_true,Option.some.injEq]at h
    subst h
    simp only[Bool.and_eq_true,Bool.not_eq_true']at hc
    exact⟨by simp,ox,hx,hc.1,hc.2.1,hc.2.2⟩
   |false=>
    simp only[hc,cond_false]at h
    obtain⟨h1,h2⟩:=ih h;exact⟨by simp[h1],h2⟩
theorem wF{ops:Array Oper}{dV:List Nat}{Q:St->UW->Prop}{fz:List Nat}{g:Nat->Option jL}{st:St}{u:UW}:∀(l:List Nat) (q:jL),Bl ops dV g l=some q->Wq E fz ops Q q st u->∀i∈l,dw dV i=false->(∀o,ops[i]?=some o->bS o=false)/\∃q',g i=some q'/\N_ E fz ops i st u λcJ u'=>Wq E fz ops Q q' cJ u'
 |[],_,_,_,i,hi,_=>by cases hi
 |j::l,q,h,hw,i,hi,hb=>by
  simp only[Bl]at h
  cases BX:dw dV j with
  |true=>
   rw[BX]at h
   simp only[cond_true]at h
   rcases List.mem_cons.1 hi with rfl|hi
   ·rw[hb]at BX;cases BX
   ·exact wF l q h hw i hi hb
  |false=>
   rw[BX]at h
   simp only[cond_false]at h
   cases ht:WI ops j true with
   |true=>rw[ht]at h;cases h
   |false=>
    rw[ht]at h
    simp only[cond_false]at h
    cases hj:g j with
    |none=>rw[hj]at h;cases h
    |some qj=>
     rw[hj]at h
     simp only at h
     cases hl:Bl ops dV g l with
     |none=>rw[hl]at h;cases h
     |some r=>
      rw[hl]at h
      cases h
      rcases List.mem_cons.1 hi with rfl|hi
      ·exact⟨λo ho=>(by unfold WI at ht;rw[ho]at ht;exact ht),qj,hj,hw.1⟩
      ·exact wF l r hl hw.2 i hi hb
theorem VT{ws:List Nat}{ops:Array Oper}{Q:Exit->St->UW->Prop}{pY:St}(aO:∀o∈ops.toList,bN C.n o=true)(HK:∀o∈ops.toList,∀t,o.dst=some t->t∈ws)
  (yj:Region.noSelect ops=true):
  ∀(g:Nat) (p:jL) (f:Nat) (ah:Array Bool) (dV:List Nat) (st:St) (u:UW) (a:Act) (wa:World) (θ:Nat->Nat),ah.size=ops.size->rG ah<=f->(∀x∈dV,x∈Region.ready .any ops ah)->Cl ops ah->nD ops g ah dV=some p->Inv C a wa st u θ->dn C.n fz ws pY st->
   Wq E fz ops (Q .normal) p st u->
   TQ E.P ops (QN λa' w'=>∃cJ u' θ',Inv C a' w' cJ u' θ'/\dn C.n fz ws pY cJ/\Q .normal cJ u') f ah dV a wa:=by
 intro g
 induction g with
 |zero=>intro p f ah dV st u a wa θ _ _ _ _ hp;simp[nD]at hp
 |succ g ih=>
  intro p f ah dV st u a wa θ gD OJ hbr iV hp hI hP h
  simp only[nD]at hp
  have CN:∀{oj:Oper},oj∈ops.toList->∀{s s':St},dn C.n fz ws pY s->dn C.n fz oj.dst.toList s s'->dn C.n fz ws pY s':=by
   intro oj gw s s' h1 h2
   refine(h1.trans h2).mono (λ_ h=>h) λx hx=>?_
   rw[List.mem_append]at hx
   rcases hx with hx|hx
   ·exact hx
   ·cases v_:oj.dst with
    |none=>simp[v_]at hx
    |some d=>simp only[v_,Option.toList,List.mem_singleton]at hx;exact HK oj gw x (by rw[v_,hx])
  have take:∀{j:Nat} {oj:Oper} {q:jL} {f:Nat},rG ah<=f+1->j∈Region.ready .any ops ah->ops[j]?=some oj->bS oj=true->Region.free .any ops ah j=true->dw dV j=false->
    nD ops g (ah.setIfInBounds j true) dV=some q->stepT E fz ops u j st (λcJ=>Wq E fz ops (Q .normal) q cJ u)->
    (reads oj=false\/TQ E.P ops (QN λa' w'=>∃cJ u' θ',Inv C a' w' cJ u' θ'/\dn C.n fz ws pY cJ/\Q .normal cJ u') (f+1) ah (j::dV) a wa)->
    TQ E.P ops (QN λa' w'=>∃cJ u' θ',Inv C a' w' cJ u' θ'/\dn C.n fz ws pY cJ/\Q .normal cJ u') (f+1) ah dV a wa:=by
   intro j oj q f OJ fB jc iB lN BX TJ gV hB
   have gw:oj∈ops.toList:=by have:ops.toList[j]?=some oj:=by simpa using jc
                             exact List.mem_of_getElem? this
   have iG:=aO oj gw
   have kZ:∀(v:Value),dn C.n fz ws pY (fin oj st v):=λv=>CN gw hP (dn.fin st oj.dst (fP iG) hI.kE v)
   have QA:mP ops j=true:=by unfold mP;rw[jc];simp[iB]
   have MQ:rG (ah.setIfInBounds j true)<=f:=by have:=tK fB gD;omega
   have Ul:∀x∈dV,x∈Region.ready .any ops (ah.setIfInBounds j true):=λx hx=>ready_mono (hbr x hx) λe=>by subst e;rw[fD.2 hx]at BX;cases BX
   simp only[stepT,jc]at gV
   refine sf aO hI gV (λhw h1=>?_) (λhw h1=>?_)
   ·obtain⟨v,r,hR,XY,hK,kF⟩:=Pr iB iG hI h1
    have hA:=ih q f _ dV _ u (a.put oj.dst r) wa θ (by simpa using gD) MQ Ul (iV.set fB) TJ (hI.fin oj.dst (fP iG) hR XY) (kZ v) hK
    cases hre:reads oj with
    |false=>exact Ek (S:=λ_=>True) jc QA (Region.noSelect_spec yj) (λc a w hq=>hq.elim) (λ_ _ _=>trivial) f ah dV a wa (Region.free_spec jc lN) fB BX (.inl ⟨hw,λw _=>kF w λEZ=>(by rw[hre]at EZ;cases EZ)⟩) trivial hA (.inl λ_=>trivial)
    |true=>
     have hB':=hB.resolve_left (by rw[hre];simp)
     exact Ek (S:=λw=>mB u st θ w) jc QA (Region.noSelect_spec yj) (λc a w hq=>hq.elim) (λ_ ob hs=>hs.alloc ob) f ah dV a wa (Region.free_spec jc lN) fB BX (.inl ⟨hw,λw hs=>kF w λ_=>hs⟩) (hI.Oa (Below.refl _ _)) hA (.inr hB')
   ·have hA:=ih q f _ dV _ u (a.put oj.dst undef) wa θ (by simpa using gD) MQ Ul (iV.set fB) TJ (hI.dx oj.dst (fP iG) rfl) (kZ undef) h1
    exact Ek (S:=λ_=>True) jc QA (Region.noSelect_spec yj) (λc a w hq=>hq.elim) (λ_ _ _=>trivial) f ah dV a wa (Region.free_spec jc lN) fB BX (.inr ⟨hw,rfl⟩) trivial hA (.inl λ_=>trivial)
  cases fB:Region.ready .any ops ah with
  |nil=>
   rw[fB]at hp
   cases hp
   cases f with
   |zero=>exact⟨fB,st,u,θ,hI,hP,h⟩
   |succ f=>exact⟨λ_=>⟨st,u,θ,hI,hP,h⟩,λj hj=>(by rw[fB]at hj;cases hj)⟩
  |cons x0 l0=>
   have TK:0<rG ah:=Gb (i:=x0) (by rw[fB];simp) gD
   obtain⟨f,rfl⟩:∃k,f=k+1:=⟨f-1,by omega⟩
   rw[fB]at hp
   simp only at hp
   cases htq:Cj ops ah dV (x0::l0)with
   |some j=>
    rw[htq]at hp
    simp only at hp
    obtain⟨EF,oj,jc,iB,hor,lN,BX⟩:=Ch _ htq
    rw[<- fB]at EF
    cases TJ:nD ops g (ah.setIfInBounds j true) dV with
    |none=>rw[TJ]at hp;cases hp
    |some q=>
     rw[TJ]at hp
     cases hp
     refine take OJ EF jc iB lN BX TJ h (hor.imp id λhv=>?_)
     exact acL (f+1) ah (j::dV) a wa gD OJ iV (by simp) (λy hy=>(List.mem_cons.1 hy).elim (λe=>e▸EF) (hbr y)) hv
   |none=>
    rw[htq]at hp
    simp only at hp
    cases Ua:Df ops ah dV (x0::l0)with
    |some j=>
     rw[Ua]at hp
     simp only at hp
     obtain⟨EF,oj,jc,iB,lN,BX⟩:=De _ Ua
     rw[<- fB]at EF
     cases TJ:nD ops g (ah.setIfInBounds j true) dV with
     |none=>rw[TJ]at hp;cases hp
     |some q=>
      cases hpr:nD ops g ah (j::dV)with
      |none=>rw[TJ,hpr]at hp;cases hp
      |some r=>
       rw[TJ,hpr]at hp
       cases hp
       refine take OJ EF jc iB lN BX TJ h.1 (.inr ?_)
       exact ih r (f+1) ah (j::dV) st u a wa θ gD OJ (λy hy=>(List.mem_cons.1 hy).elim (λe=>e▸EF) (hbr y)) iV hpr hI hP h.2
    |none=>
     rw[Ua]at hp
     simp only at hp
     have alts:=wF _ _ hp h
     refine⟨λh0=>(by rw[fB]at h0;cases h0),λi hi hbi=>?_⟩
     have QD:i∈x0::l0:=by rw[<- fB];exact hi
     obtain⟨hnt,q,hq,gV⟩:=alts i QD hbi
     unfold N_ at gV
     cases jc:ops[i]? with
     |none=>rw[jc]at gV;exact gV.elim
     |some oj=>
      rw[jc]at gV
      simp only at gV
      have gw:oj∈ops.toList:=by have:ops.toList[i]?=some oj:=by simpa using jc
                                exact List.mem_of_getElem? this
      have iG:=aO oj gw
      have MQ:rG (ah.setIfInBounds i true)<=f:=by have:=tK hi gD;omega
      have Ul:∀x∈dV,x∈Region.ready .any ops (ah.setIfInBounds i true):=λx hx=>ready_mono (hbr x hx) λe=>by subst e;rw[fD.2 hx]at hbi;cases hbi
      refine⟨λhn=>?_,λhn=>?_⟩
      ·rw[hn]at hq
       simp only[cond_true]at hq
       have hnw:sJ oj=true:=by
        unfold mP at hn
        rw[jc]at hn
        simp only[hnt oj jc,Bool.false_or]at hn
        exact hn
       unfold nv
       simp only[jc]
       refine sf (G:=if Region.wanted oj (yielded ops a.tmps)=true then _ else _) aO hI gV (λhw h1=>?_) (λhw h1=>?_)
       ·rw[if_pos hw]
        obtain⟨v,ob,kF⟩:=Ox hnw iG hI h1
        refine⟨λ_=>⟨v,_,kF,.inr ⟨ob,rfl⟩⟩,λv' w' EZ _=>?_⟩
        have XI:=lR (Q:=QN λ_ _=>True) iG hI h1
        unfold vc at XI
        rw[EZ]at XI
        simp only[Oper.uponIn]at XI
        obtain⟨cJ,u',θ',eU,lX,_,_,hW⟩:=XI
        exact ih q f _ dV cJ u' _ w' θ' (by simpa using gD) MQ Ul (iV.set hi) hq eU (CN gw hP lX) hW
       ·rw[if_neg (by simp[hw])]
        exact ih q f _ dV _ u _ wa θ (by simpa using gD) MQ Ul (iV.set hi) hq (hI.dx oj.dst (fP iG) (v:=undef) rfl) (CN gw hP (dn.fin st oj.dst (fP iG) hI.kE undef)) h1
      ·rw[hn]at hq
       simp only[cond_false]at hq
       unfold mq
       simp only[jc]
       refine sf (G:=if Region.wanted oj (yielded ops a.tmps)=true then _ else _) aO hI gV (λhw h1=>?_) (λhw h1=>?_)
       ·rw[if_pos hw]
        refine pN (λa' w' OI=>?_) (lR (Q:=QN _) iG hI h1)
        obtain⟨cJ,u',θ',eU,lX,_,_,hW⟩:=OI
        exact ih q f _ [] cJ u' a' w' θ' (by simpa using gD) MQ (by simp) (iV.set hi) hq eU (CN gw hP lX) hW
       ·rw[if_neg (by simp[hw])]
        exact ih q f _ [] _ u _ wa θ (by simpa using gD) MQ (by simp) (iV.set hi) hq (hI.dx oj.dst (fP iG) (v:=undef) rfl) (CN gw hP (dn.fin st oj.dst (fP iG) hI.kE undef)) h1
theorem Rt{ws:List Nat}{id:Nat}{ops:Array Oper}{Q:Exit->St->UW->Prop}{p:jL}(hm:E.P.follows .mixedOrders=true)(aO:∀o∈ops.toList,bN C.n o=true)(HK:∀o∈ops.toList,∀t,o.dst=some t->t∈ws)
  (hp:qQ ops=some p) (hI:Inv C a wa st u θ) (h:Wq E fz ops (Q .normal) p st u):(Code.region id ops true).wpIn (Fw C.ro) 0 E.P (QW C fz ws st Q) a wa:=by
 unfold qQ at hp
 cases hs:Region.noSelect ops with
 |false=>simp[hs]at hp
 |true=>
  simp only[hs,cond_true]at hp
  have eU:=hI.drew
  have OJ:rG (Array.replicate ops.size false)<=ops.size:=by
   unfold rG
   exact Nat.le_trans (List.length_filter_le _ _) (by simp)
  have key:=Ix _ _ _ _ (VT (E:=E) (fz:=fz) (Q:=Q) (pY:=st) aO HK hs _ p ops.size _ [] st u a _ θ (by simp) OJ (by simp) (Cl.none ops _) hp eU (dn.refl _ _ _ _) h)
  have hdf:∀(j:Nat) (o:Oper) c,ops[j]?=some o->o.op≠ .defer c:=by
   intro j o c ho
   have hj:ops.toList[j]?=some o:=by simpa using ho
   exact qN (aO o (List.mem_of_getElem? hj)) c
  refine wpIn_mono (wpIn_region_any hm (vj C.ro hdf _ _ _ _ key)) λe a' w' hq=>?_
  cases e with
  |normal=>exact hq
  |_=>exact hq.elim
theorem Ru{ws:List Nat}{id:Nat}{ops:Array Oper}{Q:Exit->St->UW->Prop}{p:kH}(hm:E.P.follows .mixedOrders=true)(aO:∀o∈ops.toList,bN C.n o=true)(HK:∀o∈ops.toList,∀t,o.dst=some t->t∈ws)
  (hp:vJ ops=some p) (hI:Inv C a wa st u θ) (h:Wd E fz ops u (Q .normal) p st u):(Code.region id ops true).wpIn (Fw C.ro) 0 E.P (QW C fz ws st Q) a wa:=by
 unfold vJ at hp
 cases hs:Region.noSelect ops with
 |false=>simp[hs]at hp
 |true=>
  simp only[hs,cond_true]at hp
  have eU:=hI.drew
  have key:=VU (E:=E) (u0:=u) (fz:=fz) (Q:=Q) (pY:=st) (BO:=st) (θ0:=θ) aO HK hs hI.iR ops.size p _ st u a _ θ (Cl.none ops _) hp eU (dn.refl _ _ _ _) (.inl ⟨Below.refl _ _,⟨rfl,λ_ _ _=>rfl,λ_ _ _ _ _=>rfl⟩⟩) h
  have hdf:∀(j:Nat) (o:Oper) c,ops[j]?=some o->o.op≠ .defer c:=by
   intro j o c ho
   have hj:ops.toList[j]?=some o:=by simpa using ho
   exact qN (aO o (List.mem_of_getElem? hj)) c
  refine wpIn_mono (wpIn_region_any hm (vj C.ro hdf _ _ _ _ key)) λe a' w' hq=>?_
  cases e with
  |normal=>exact hq
  |_=>exact hq.elim
end
section
variable {E:Env} {C:Ctx}
theorem Gi{w w1:World}(hs:Ah w w1){b:Nat}{c:Array Value}{T:TypeId}(h:w.heap[b]?=some (.cells c T (0,0)))(hc:c.size≠0):w1.heap[b]?=some (.cells c T (0,0)):=by
 rcases hs.block b (Array.getElem?_eq_some_iff.1 h).1 with e|e
 ·rw[<- e,h]
 ·rw[h]at e
  simp only[dG,Option.some.injEq,Obj.cells.injEq]at e
  rw[e.1]at hc;exact absurd rfl hc
theorem Rv{fz:List Nat}{o:Oper}{st:St}{u:UW}{a:Act}{wa:World}{θ:Nat->Nat}{K:St->UW->Prop}{Q:Exit->Act->World->Prop}(aO:bN C.n o=true)(hI:Inv C a wa st u θ)(h:YQ E fz o st u K):vc E C fz o st θ K Q a wa:=by
 unfold YQ at h
 split at h
 ·rename_i t x y t' ho
  cases hb:yD (ev st.σ x) (ev st.σ y)with
  |false=>rw[hb]at h;exact lR aO hI h
  |true=>
   rw[hb]at h
   simp only[cond_true]at h
   have hx:dJ C.n x=true:=m_ aO (by simp[ho,Op.operands])
   have hy:dJ C.n y=true:=m_ aO (by simp[ho,Op.operands])
   unfold Mw at h
   split at h
   ·rename_i b o1 b' o2 ex ey
    split at h
    ·rename_i e hu
     obtain⟨gD,h⟩:=av h
     obtain⟨⟨c,T,h1,Gw⟩,⟨c',T',h2,OQ⟩,h⟩:=h
     have g1:=Gi hI.below h1 Gw
     have g2:=Gi hI.below h2 OQ
     have aja:=bt hI hx ex rfl
     have ai_:=bt hI hy ey rfl
     unfold sized at gD
     cases hi:E.P.info? e with
     |none=>rw[hi]at gD;cases gD
     |some i=>
      rw[hi]at gD
      have Qx:i.size≠0:=by
       intro e0
       simp only[e0]at gD
       cases gD
      refine bh (r:=.bool (Nat.beq b b'&&Nat.beq o1 o2)) (wb:=wa) ?_ (ba aO hI rfl h)
      simp only[execOp,ho]
      rw[aja,ai_,Sem.run_bind]
      have kF:(do eqGuard .eql t x y (.pointer (some ⟨b,o1,none⟩)) (.pointer (some ⟨b',o2,none⟩));binOp .eql t (.pointer (some ⟨b,o1,none⟩)) (.pointer (some ⟨b',o2,none⟩)):Sem Value).run E.P wa=.ok (.bool (Nat.beq b b'&&Nat.beq o1 o2)) wa:=by
       rw[Sem.run_bind,Ky x y wa (by simp) (by simp),Result.andThen_ok]
       by_cases aT:(⟨b,o1,none⟩:Addr)=⟨b',o2,none⟩
       ·simp only[Addr.mk.injEq,and_true]at aT
        obtain⟨rfl,rfl⟩:=aT
        rw[run_eql_ptr_same wa _ hu hi,Nat.beq_refl,Nat.beq_refl];rfl
       ·rw[run_eql_ptr_other wa hu hi Qx aT g1 g2]
        have:(Nat.beq b b'&&Nat.beq o1 o2)=false:=by
         cases hq:(Nat.beq b b'&&Nat.beq o1 o2)with
         |false=>rfl
         |true=>
          simp only[Bool.and_eq_true,beq_iff]at hq
          exact absurd (by rw[hq.1,hq.2]) aT
        rw[this]
      rw[kF]
      rfl
    ·exact h.elim
   ·exact h.elim
 ·exact lR aO hI h
theorem Ej{fz ws:List Nat}{ops:Array Oper}{Q:Exit->St->UW->Prop}{pY:St}(aO:∀o∈ops.toList,bN C.n o=true)(HK:∀o∈ops.toList,∀t,o.dst=some t->t∈ws):
  ∀(l:List Oper) (i:Nat),ops.toList.drop i=l->∀(st:St) (u:UW) (a:Act) (wa:World) (θ:Nat->Nat),Inv C a wa st u θ->dn C.n fz ws pY st->Wl E fz ops (Q .normal) l st u->
   wpOpsIn (Fw C.ro) 0 E.P ops (QW C fz ws pY Q) (List.range' i l.length) a wa
 |[],i,_,st,u,a,wa,θ,hI,hP,h=>⟨st,u,θ,hI,hP,h⟩
 |o::l,i,hd,st,u,a,wa,θ,hI,hP,h=>by
  have hi:ops.toList[i]?=some o:=by
   have:=congrArg (·[0]?) hd
   simpa using this
  have gw:o∈ops.toList:=List.mem_of_getElem? hi
  have hoi:ops[i]?=some o:=by simpa using hi
  have hd':ops.toList.drop (i+1)=l:=by
   have:=congrArg (List.drop 1) hd
   simpa[List.drop_drop,Nat.add_comm]using this
  have iG:=aO o gw
  have kZ:∀{s s':St},dn C.n fz ws pY s->dn C.n fz o.dst.toList s s'->dn C.n fz ws pY s':=by
   intro s s' h1 h2
   have:=h1.trans h2
   refine this.mono (λ_ h=>h) λx hx=>?_
   rw[List.mem_append]at hx
   rcases hx with hx|hx
   ·exact hx
   ·cases v_:o.dst with
    |none=>simp[v_]at hx
    |some d=>simp only[v_,Option.toList,List.mem_singleton]at hx;exact HK o gw x (by rw[v_,hx])
  have go:∀{s:St},Inv C a wa s u θ->dn C.n fz ws pY s->(W1 E fz o s u (λcJ w'=>Wl E fz ops (Q .normal) l cJ w')\/YQ E fz o s u (λcJ w'=>Wl E fz ops (Q .normal) l cJ w'))->o.wpIn (Fw C.ro) 0 E.P a wa (wpOpsIn (Fw C.ro) 0 E.P ops (QW C fz ws pY Q) (List.range' (i+1) l.length)) (QW C fz ws pY Q):=by
   intro s hIs hPs h1
   have:=h1.elim (lR (Q:=QW C fz ws pY Q) iG hIs) (Rv (Q:=QW C fz ws pY Q) iG hIs)
   refine xx C.ro (qN iG) (pN (λa' w' hp=>?_) this)
   obtain⟨cJ,u',θ',eU,lX,_,_,hW⟩:=hp
   exact Ej aO HK l (i+1) hd' cJ u' a' w' θ' eU (kZ hPs lX) hW
  have skip:∀{s:St},Inv C a wa s u θ->dn C.n fz ws pY s->Wl E fz ops (Q .normal) l (fin o s undef) u->(∀f,o.about E.P wa a.eval=some f->(Fw C.ro).fn f)/\wpOpsIn (Fw C.ro) 0 E.P ops (QW C fz ws pY Q) (List.range' (i+1) l.length) (a.put o.dst undef) wa:=by
   intro s hIs hPs h1
   exact⟨λ_ _=>trivial,Ej aO HK l (i+1) hd' _ u _ wa θ (hIs.dx o.dst (fP iG) rfl) (kZ hPs (dn.fin s o.dst (fP iG) hI.kE undef)) h1⟩
  simp only[List.length_cons,List.range'_succ,wpOpsIn,hoi]
  simp only[Wl]at h
  cases hg:o.guard with
  |none=>
   simp only[hg]at h
   have hw:Region.wanted o (yielded ops a.tmps)=true:=by simp[Region.wanted,hg]
   rw[if_pos hw]
   exact go hI hP (.inr h)
  |some jb=>
   obtain⟨j,b⟩:=jb
   simp only[hg]at h
   cases zF:rK ops j with
   |none=>simp only[zF]at h
   |some g=>
    simp only[zF]at h
    have hgn:g<C.n:=by
     unfold rK at zF
     cases hj:ops[j]? with
     |none=>simp[hj]at zF
     |some oj=>
      simp only[hj,Option.bind_some]at zF
      exact fP (aO oj (by have:ops.toList[j]?=some oj:=by simpa using hj
                          exact List.mem_of_getElem? this)) g zF
    have OF:yielded ops a.tmps j=match a.tmps.getD g undef with| .bool x=>some x|_=>none:=by
     unfold yielded
     unfold rK at zF
     rw[zF,Option.bind_some,getD_some hI.size hgn]
     cases a.tmps.getD g undef<;>rfl
    have yi:=hI.jV g hgn
    split at h
    ·rename_i c hc
     rw[hc,kp rfl]at yi
     rw[yi]at OF
     have hw:Region.wanted o (yielded ops a.tmps)=(c == b):=by
      simp only[Region.wanted,hg,OF]
      cases c<;>cases b<;>rfl
     rw[hw]
     cases c with
     |true=>
      simp only[ab]at h
      rw[xz hc]at h
      cases b with
      |true=>simp only at h;exact go hI hP (.inl h)
      |false=>simp only at h;exact skip hI hP h
     |false=>
      simp only[ab]at h
      rw[xz hc]at h
      cases b with
      |true=>simp only at h;exact skip hI hP h
      |false=>simp only at h;exact go hI hP (.inl h)
    ·rename_i vs hc
     rw[hc,kp rfl]at yi
     rw[yi]at OF
     have hw:Region.wanted o (yielded ops a.tmps)=false:=by simp[Region.wanted,hg,OF]
     rw[hw]
     exact skip hI hP h
    ·exact h.elim
def il(n:Nat):Code->Bool
 | .region _ ops _=>ops.toList.all (bN n)
 | .seq a b=>il n a&&il n b
 | .cond c a b=>dJ n c&&il n a&&il n b
 | .block _ a=>il n a
 | .loop a=>il n a
 | .rangeFunc f ps a b=>dJ n f&&ps.toList.all (λp=>Nat.blt p n)&&il n a&&il n b
 |_=>true
theorem least{p:Nat->Prop}(h:∃n,p n):∃n,p n/\∀m,p m->n<=m:=by
 obtain⟨n,hn⟩:=h
 induction n using Nat.strongRecOn with
 |_ n ih=>
  by_cases h:∃m,m<n/\p m
  ·obtain⟨m,h1,h2⟩:=h;exact ih m h1 h2
  ·exact⟨n,hn,λm hm=>Nat.le_of_not_lt λcz=>h ⟨m,cz,hm⟩⟩
theorem Sa{F:Fence}{n0:Nat}{P:Program}{c:Code}{Q:Exit->Act->World->Prop}(I:Nat->Act->World->Prop)
  (round:∀n a w,I n a w->c.wpIn F n0 P (Exit.then (λa' w'=>∃m,m<n/\I m a' w') Q) a w):∀(n:Nat) (a:Act) (w:World),I n a w->(Code.loop c).wpIn F n0 P Q a w:=by
 classical
 intro n a w h0
 let μ:Act->World->Nat:=λa w=>if h:∃n,I n a w then Classical.choose (least h)else 0
 refine wpIn_loop (λa w=>∃n,I n a w) μ ⟨n,h0⟩ λa w hI=>?_
 have hs:=Classical.choose_spec (least hI)
 have hμ:μ a w=Classical.choose (least hI):=by simp only[μ,dif_pos hI]
 refine wpIn_mono (round _ a w hs.1) λe a' w' hq=>?_
 cases e with
 |normal=>
  obtain⟨m,hm,eU⟩:=hq
  have hx:∃n,I n a' w':=⟨m,eU⟩
  have RJ:=Classical.choose_spec (least hx)
  have hμ':μ a' w'=Classical.choose (least hx):=by simp only[μ,dif_pos hx]
  exact⟨⟨m,eU⟩,by rw[hμ,hμ'];exact Nat.lt_of_le_of_lt (RJ.2 m eU) hm⟩
 |_=>exact hq
theorem Hl(n:Nat):List.range' 0 n=List.range n:=(List.range_eq_range').symm
def Sound(E:Env)(c:Code):Prop:=∀(C:Ctx),il C.n c=true->∀(fz:List Nat) (Q:Exit->St->UW->Prop) (st:St) (u:UW) (a:Act) (wa:World) (θ:Nat->Nat),Inv C a wa st u θ->W E fz c Q st u->
    c.wpIn (Fw C.ro) 0 E.P (QW C fz (writes c) st Q) a wa
theorem Inv.VQ{a:Act}{wa:World}{st:St}{u:UW}{θ:Nat->Nat}(hI:Inv C a wa st u θ)(o:Obj)(ho:o.isCells=false):Inv C a (wa.alloc o) st u θ/\Hid u (wa.alloc o) wa.heap.size o:=by
 have hB:Below wa.heap.size wa (wa.alloc o):=(Below.refl _ _).alloc (Nat.le_refl _) o
 refine⟨hI.world (u':=u) (F:=λ_=>False) (λ_ hf=>hf.elim) (Below.Sh hB (Nat.le_refl _) _) ?_ (Mod.refl _ _) (λb h1 _ h3=>by omega) (λb hb=>Nat.lt_of_lt_of_le (hI.rO b hb) hB.size) (λ_ hb _=>hb),World.alloc_heap_new wa o,ho,λhp=>?_,λhl=>?_⟩
 ·refine⟨hI.below.os,hI.below.tape,hI.below.output,Nat.le_trans hI.below.size hB.size,λb hb=>?_⟩
  rw[hB.block b (Nat.lt_of_lt_of_le hb hI.below.size)]
  exact hI.below.block b hb
 ·have:=hI.rO _ hp;omega
 ·have:=hI.below.size;omega
theorem bg{w:World}{l b:Nat}{o:Obj}(h:b≠l):(w.putObj l o).heap[b]?=w.heap[b]?:=World.putObj_heap_other h
theorem Inv.forget{a:Act}{wa:World}{st:St}{u:UW}{θ:Nat->Nat}{l:Nat}{o o1 o2:Obj}(hI:Inv C a wa st u θ)(hl:C.w1.heap.size<=l)(hu:u.heap[l]?=some o)(ho:MJ o=true)(hw:wa.heap[l]?=some o1)(ho1:MJ o1=true):
  Inv C a (wa.putObj l o2) st ⟨u.toWorld.putObj l dG,λb=>u.ij b/\b≠l⟩ θ:=by
 have hlu:l<u.heap.size:=(Array.getElem?_eq_some_iff.1 hu).1
 have XO:l<wa.heap.size:=(Array.getElem?_eq_some_iff.1 hw).1
 have LQ:=hI.LQ
 have de:∀{b:Nat} {ob:Obj},b≠l->Hid u wa b ob->Hid ⟨u.toWorld.putObj l dG,λb=>u.ij b/\b≠l⟩ (wa.putObj l o2) b ob:=λ{b ob} aT hh=>
  ⟨(bg aT).trans hh.at_,hh.other,λhp=>hh.ij hp.1,λcz=>(bg aT).trans (hh.mask (by simpa using cz))⟩
 refine⟨hI.size,hI.kE,⟨λd hd=>?_,hI.defers.nodup⟩,λl0 r e=>?_,hI.jV,?_,?_,hI.inj,hI.kT,hI.iR,?_,?_,?_,?_,hI.LQ,?_,hI.F0⟩
 ·obtain⟨r,e,hr,hh⟩:=hI.defers.each d hd
  refine⟨r,e,hr,de ?_ hh⟩
  rintro rfl
  have:=hh.at_;rw[hw]at this;cases this;cases ho1
 ·have hh:=hI.round l0 r e
  refine de ?_ hh
  rintro rfl
  have:=hh.mask hlu;rw[hu]at this;cases this;cases ho
 ·refine⟨hI.below.os,hI.below.tape,hI.below.output,by simpa using hI.below.size,λb hb=>?_⟩
  by_cases e:b=l
  ·subst e;exact .inr (World.putObj_heap_same hlu)
  ·have:=hI.below.block b (by simpa using hb)
   show(u.toWorld.putObj l dG).heap[b]?=_\/(u.toWorld.putObj l dG).heap[b]?=_
   rw[bg e,bg e];exact this
 ·intro k m hk
  obtain⟨BW,c,T,h1,h2,h3,h4,h5,h6⟩:=hI.boxes k m hk
  have aT:θ k≠l:=by
   intro e;rw[e,hw]at h1;cases h1;cases ho1
  exact⟨BW,c,T,(bg aT).trans h1,h2,h3,λhp=>h4 hp.1,h5,λcz=>(bg aT).trans (h6 (by simpa using cz))⟩
 ·intro b hb;simpa using hI.rO b hb.1
 ·exact⟨hI.mod.os,hI.mod.tape,hI.mod.output,by simpa using hI.mod.size,λb hb hF=>(bg (by omega)).trans (hI.mod.de b hb hF)⟩
 ·exact λb hb cz=>hI.sx b hb.1 cz
 ·exact⟨hI.umod.os,hI.umod.tape,hI.umod.output,by simpa using hI.umod.size,λb hb hF=>(bg (by omega)).trans (hI.umod.de b hb hF)⟩
 ·intro b h1 h2 h3
  exact(bg (by omega)).trans (hI.Dz b h1 h2 (by simpa using h3))
theorem Inv.GW{a:Act}{wa:World}{st:St}{u:UW}{θ:Nat->Nat}{l:Nat}{r:Loop}(hI:Inv C a wa st u θ)(Zv:C.ro=some (l,r))(r':Loop):
  Inv {C with w1:=C.w1.putObj l (.loop r'),ro:=some (l,r')} a (wa.putObj l (.loop r')) st u θ:=by
 have hl:=hI.round l r Zv
 have XO:l<wa.heap.size:=(Array.getElem?_eq_some_iff.1 hl.at_).1
 have de:∀{b:Nat} {ob:Obj},b≠l->Hid u wa b ob->Hid u (wa.putObj l (.loop r')) b ob:=λ{b ob} aT hh=>⟨(bg aT).trans hh.at_,hh.other,hh.ij,hh.mask⟩
 refine⟨hI.size,hI.kE,⟨λd hd=>?_,hI.defers.nodup⟩,λl0 r0 e=>?_,hI.jV,?_,?_,hI.inj,hI.kT,hI.iR,?_,?_,?_,hI.umod,by simpa using hI.LQ,?_,hI.F0⟩
 ·obtain⟨r0,e,hr,hh⟩:=hI.defers.each d hd
  refine⟨r0,e,by simpa using hr,de ?_ hh⟩
  rintro rfl
  have:=hh.at_;rw[hl.at_]at this;cases this
 ·simp only[Option.some.injEq,Prod.mk.injEq]at e
  obtain⟨rfl,rfl⟩:=e
  exact⟨World.putObj_heap_same XO,rfl,hl.ij,hl.mask⟩
 ·refine⟨hI.below.os,hI.below.tape,hI.below.output,by simpa using hI.below.size,λb hb=>?_⟩
  by_cases e:b=l
  ·subst e;exact .inr (hl.mask hb)
  ·rw[bg e];exact hI.below.block b hb
 ·intro k m hk
  obtain⟨BW,c,T,h1,h2,h3,h4,h5,h6⟩:=hI.boxes k m hk
  have aT:θ k≠l:=by
   intro e;rw[e,hl.at_]at h1;cases h1
  exact⟨BW,c,T,(bg aT).trans h1,h2,h3,h4,by simpa using h5,h6⟩
 ·intro b hb;simpa using hI.rO b hb
 ·refine⟨hI.mod.os,hI.mod.tape,hI.mod.output,by simpa using hI.mod.size,λb hb hF=>?_⟩
  by_cases e:b=l
  ·subst e
   show(wa.putObj b (.loop r')).heap[b]?=(C.w1.putObj b (.loop r')).heap[b]?
   rw[World.putObj_heap_same XO,World.putObj_heap_same (by simpa using hb)]
  ·show(wa.putObj l (.loop r')).heap[b]?=(C.w1.putObj l (.loop r')).heap[b]?
   rw[bg e,bg e];exact hI.mod.de b (by simpa using hb) hF
 ·exact λb hb cz=>hI.sx b hb (by simpa using cz)
 ·intro b h1 h2 h3;exact hI.Dz b h1 (by simpa using h2) h3
def AJ(r:Loop)(p:Option Code):Obj:=.loop {r with state:=if p.isNone then .ready else .done,pending:=p}
theorem DM{P:Program}:∀{ts:List TypeId} {F:List Value->Prop},Nf P ts F->∃vs,vs.length=ts.length/\(∀v∈vs,plain v=true)/\F vs
 |[],_,h=>⟨[],rfl,by simp,h⟩
 |t::ts,F,h=>by
  obtain⟨v,hp,h⟩:=DN h
  obtain⟨vs,hl,uh,h⟩:=DM h
  exact⟨v::vs,by simp[hl],by simpa using⟨hp,uh⟩,h⟩
theorem aaH{θ θ':Nat->Nat}{σ:Fr}{t:Nat}{r:Value}(h:R θ (σ t) r):R θ' (Bs σ t) r:=by
 unfold Bs
 split
 ·trivial
 ·rename_i v hv
  have hp:plain (σ t)=true:=by
   cases hx:σ t<;>first|rfl|(exact absurd hx (hv _ _ _))
  rw[kp hp]at h |-
  exact h
theorem PX{σ:Fr}{t k o:Nat}:Bs σ t≠e_ k o:=by
 unfold Bs
 split
 ·intro h;cases h
 ·rename_i v hv
  intro h
  exact hv _ _ _ h
theorem AD{θ:Nat->Nat}{n:Nat}:∀(ps:List Nat) (vs:List Value) (σ:Fr) (tm:Array Value),ps.length=vs.length->tm.size=n->(∀p∈ps,p<n)->(∀v∈vs,plain v=true)->(∀t,t<n->R θ (σ t) (tm.getD t undef))->(∀t k o,σ t≠e_ k o)->
  ((ps.zip vs).foldl (λt (x:Nat×Value)=>t.setIfInBounds x.1 x.2) tm).size=n/\(∀t,t<n->R θ (xG σ ps vs t) (((ps.zip vs).foldl (λt (x:Nat×Value)=>t.setIfInBounds x.1 x.2) tm).getD t undef))/\∀t k o,xG σ ps vs t≠e_ k o
 |[],[],σ,tm,_,hs,_,_,h,hf=>⟨hs,h,hf⟩
 |p::ps,v::vs,σ,tm,hl,hs,uh,HL,h,hf=>by
  have hp:p<tm.size:=by rw[hs];exact uh p (by simp)
  have ow:=HL v (by simp)
  simp only[List.zip_cons_cons,List.foldl_cons,xG]
  refine AD ps vs (kB σ p v) (tm.setIfInBounds p v) (by simpa using hl) (by simpa using hs) (λq hq=>uh q (by simp[hq])) (λw hw=>HL w (by simp[hw])) (λt ht=>?_) (λt k o e=>?_)
  ·rw[yq _ _ _ _ hp]
   by_cases e:t=p
   ·subst e;rw[if_pos rfl,gl];exact rn ow
   ·rw[if_neg e,cX _ _ e];exact h t ht
  ·by_cases e':t=p
   ·subst e';rw[gl]at e;exact lK ow k o e
   ·rw[cX _ _ e']at e;exact hf t k o e
 |[],_::_,_,_,hl,_,_,_,_,_=>by simp at hl
 |_::_,[],_,_,hl,_,_,_,_,_=>by simp at hl
theorem QO(ps:Array Nat)(vs:List Value)(tm:Array Value):
  (ps.zip vs.toArray).foldl (λt (p,v)=>t.setIfInBounds p v) tm=(ps.toList.zip vs).foldl (λt (x:Nat×Value)=>t.setIfInBounds x.1 x.2) tm:=by
 rw[<- Array.foldl_toList,Array.toList_zip]
theorem Jb{E:Env}{n:Nat}{x y:Code}{ps:Array Nat}{ts:List TypeId}{σ:Fr}{θ:Nat->Nat}{l:Nat}{r:Loop}(Ka:Sound E x)(J_:Sound E y)(okx:il n x=true)(oky:il n y=true)
  (hn:n<=65536) (uh:∀p∈ps.toList,p<n) (Bu:ts.length=ps.toList.length) (gD:r.tmps.size=n) (hsl:∀t,t<n->R θ (σ t) (r.tmps.getD t undef)) (hrp:r.params=ps) (hrx:r.assign=x) (hry:r.body=y)
  (vs:List Value) (w1:World) (F:Nat->Prop) (RR:Option Code->UW->Prop) (hl:w1.heap[l]?=some (AJ r none)) (hF:∀b,F b->b<w1.heap.size/\b≠l)
  (h:Nf E.P ts λrC=>vs=rC/\W E [] x (Td λgg u1=>W E [] y (Mm RR) gg u1) ⟨xG (Bs σ) ps.toList rC,[]⟩ ⟨w1.putObj l dG,F⟩):
  NB E.P (.func (.yield l) #[] #[]) vs w1 (λb=>F b\/b=l) λv lo w2=>∃p ij w3,v=.bool p.isNone/\w2=w3.putObj l (AJ r p)/\w3.heap[l]?=some dG/\(∀b,ij b->F b\/lo<=b)/\RR p ⟨w3,ij⟩:=by
 intro wr1 rH
 obtain⟨rC,hlen,ow,rfl,hW⟩:=DM h
 have XO:l<w1.heap.size:=(Array.getElem?_eq_some_iff.1 hl).1
 have zE:wr1.heap[l]?=some (AJ r none):=by
  rcases rH.block l XO with e|e
  ·rw[<- e];exact hl
  ·rw[hl]at e;cases e
 refine⟨rfl,rfl,{r with state:=.ready,pending:=none},zE,by simp only[hrp];rw[hlen,Bu];simp,roundIn_of_wpIn (F:=Fence.wide) trivial ?_⟩
 simp only[hrp,hrx,hry]
 rw[QO]
 obtain⟨z1,z2,z3⟩:=AD (θ:=λ_=>0) ps.toList vs (Bs σ) r.tmps (by omega) gD uh ow (λt ht=>aaH (hsl t ht)) (λt k o=>PX)
 have nh:Inv ⟨n,w1.putObj l dG,wr1,F,some (l,{r with state:=.ready,pending:=none})⟩ {tmps:=(ps.toList.zip vs).foldl (λt (x:Nat×Value)=>t.setIfInBounds x.1 x.2) r.tmps,defers:=[]} wr1 ⟨xG (Bs σ) ps.toList vs,[]⟩ ⟨w1.putObj l dG,F⟩ (λ_=>0):=by
  refine⟨z1,hn,⟨by simp,List.nodup_nil⟩,λl0 r0 e=>?_,z2,?_,by simp,by simp,λt _ k o e=>absurd e (z3 t k o),by simp,λb hb=>Nat.lt_of_lt_of_le (hF b hb).1 rH.size,Mod.refl _ _,λb hb _=>hb,Mod.refl _ _,by simpa using rH.size,λb h1 _ h3=>absurd h3 (Nat.not_lt.2 h1),λb hb=>by simpa using(hF b hb).1⟩
  ·simp only[Option.some.injEq,Prod.mk.injEq]at e
   obtain⟨rfl,rfl⟩:=e
   exact⟨zE,rfl,λhp=>(hF _ hp).2 rfl,λ_=>World.putObj_heap_same XO⟩
  ·refine⟨rH.os,rH.tape,rH.output,by simpa using rH.size,λb hb=>?_⟩
   by_cases e:b=l
   ·subst e;exact .inr (World.putObj_heap_same XO)
   ·show(w1.putObj l dG).heap[b]?=_\/(w1.putObj l dG).heap[b]?=_
    rw[bg e];exact rH.block b (by simpa using hb)
 refine wpIn_mono (Ka ⟨n,w1.putObj l dG,wr1,F,some (l,{r with state:=.ready,pending:=none})⟩ okx [] _ _ _ _ _ _ nh hW) λe a2 wa2 hq=>?_
 obtain⟨WR,u2,θ2,AY,_,hq⟩:=hq
 cases e with
 |normal=>
  refine⟨_,run_beginRound (AY.round l _ rfl).at_ rfl,?_⟩
  have Uv:=AY.GW rfl {r with state:=.busy,pending:=none}
  refine wpIn_mono (J_ _ oky [] _ _ _ _ _ _ Uv hq) λe a3 wa3 hq=>?_
  obtain⟨st3,u3,θ3,EG,_,hq⟩:=hq
  have hh:=EG.round l _ rfl
  have aiV:l<wa3.heap.size:=(Array.getElem?_eq_some_iff.1 hh.at_).1
  have Qw:w1.heap.size<=u3.heap.size:=by simpa using EG.umod.size
  have done:∀(p:Option Code),RR p u3->∃v w',(Instr.endRound l p).run E.P wa3=.ok v w'/\∃v' w'',Ending.returned v=.returned v'/\Out (λb=>F b\/b=l) w1 wr1 w'' w'/\∃p' ij w3,v'=.bool p'.isNone/\w''=w3.putObj l (AJ r p')/\w3.heap[l]?=some dG/\(∀b,ij b->F b\/wr1.heap.size<=b)/\RR p' ⟨w3,ij⟩:=by
   intro p hR
   refine⟨_,_,run_endRound p hh.at_,_,u3.toWorld.putObj l (AJ r p),rfl,⟨?_,?_,?_,?_⟩,p,u3.ij,u3.toWorld,rfl,rfl,hh.mask (by omega),λb hb=>?_,hR⟩
   ·refine⟨EG.mod.os,EG.mod.tape,EG.mod.output,by simpa using EG.mod.size,λb hb hnF=>?_⟩
    have aT:b≠l:=λe=>hnF (.inr e)
    rw[bg aT,EG.mod.de b (by simpa using hb) (λhf=>hnF (.inl hf))]
    exact bg aT
   ·refine⟨EG.below.os,EG.below.tape,EG.below.output,by simpa using EG.below.size,λb hb=>?_⟩
    by_cases e:b=l
    ·subst e
     left
     rw[World.putObj_heap_same (by simpa using hb),World.putObj_heap_same aiV]
     rfl
    ·rw[bg e,bg e];exact EG.below.block b (by simpa using hb)
   ·refine⟨EG.umod.os,EG.umod.tape,EG.umod.output,by simpa using Qw,λb hb hnF=>?_⟩
    have aT:b≠l:=λe=>hnF (.inr e)
    rw[bg aT,EG.umod.de b (by simpa using hb) (λhf=>hnF (.inl hf))]
    exact bg aT
   ·intro b h1 h2 h3
    rw[bg (by omega)]
    exact EG.Dz b (by simpa using h1) (by simpa using h2) (by simpa using h3)
   ·by_cases cz:b<wr1.heap.size
    ·exact .inl (EG.sx b hb (by simpa using cz))
    ·exact .inr (by omega)
  cases e with
  |normal=>exact done none hq
  |ret=>exact done (some .ret) hq
  |exit i=>exact done (some (.exit i)) hq
  |goto i=>exact hq.elim
  |panic c=>exact hq.elim
  |outgrown=>exact hq.elim
 |exit i=>exact hq.elim
 |goto i=>exact hq.elim
 |ret=>exact hq.elim
 |panic c=>exact hq.elim
 |outgrown=>exact hq.elim
theorem Dd{Q:Nat->Prop}{i:Nat}:∀{l:List Nat},JW (l.map λj=>(j,Q j)) i->Q i
 |[],h=>h.elim
 |j::l,h=>by
  simp only[List.map_cons,JW,Bool.cond_eq_ite,beq_iff]at h
  split at h
  ·rename_i e;subst e;exact h
  ·exact Dd h
theorem JF{E:Env}{f:Operand}{ps:Array Nat}{x y:Code}(Ka:Sound E x)(J_:Sound E y):Sound E (.rangeFunc f ps x y):=by
 intro C fO fz Q st u a wa θ hI h
 simp only[il,Bool.and_eq_true,List.all_eq_true]at fO
 obtain⟨⟨⟨hof,uh⟩,hox⟩,hoy⟩:=fO
 simp only[W]at h
 cases Bu:look E.uc (ps.toList.headD 0)with
 |none=>simp only[Bu]at h
 |some ts=>
  simp only[Bu]at h
  obtain⟨hlen,⟨g,fa,fb,hfv⟩,h⟩:=av h
  have hlen:=beq_iff.1 hlen
  have hef:a.eval f=.func (.func g) fa fb:=bt hI hof hfv rfl
  refine wpIn_rangeFunc λfn _=>?_
  obtain⟨D,l,mark,pre,afn,hle,hIp⟩:∃(D l:Nat) (mark:List Deferred) (pre:World),(Instr.enterLoop fn a.tmps ps x y (Fw C.ro).round).run E.P wa=.ok (l,mark) (pre.alloc (.loop {state:=.ready,pending:=none,fn,tmps:=a.tmps,params:=ps,assign:=x,body:=y,defers:=D}))/\
    l=pre.heap.size/\Inv C {a with defers:=mark++a.defers} pre st u θ:=by
   cases Zv:C.ro with
   |none=>
    obtain⟨nh,hh⟩:=hI.VQ (.deferred (some [])) rfl
    refine⟨wa.heap.size,wa.heap.size+1,_,wa.alloc (.deferred (some [])),run_enterLoop_outer fn a.tmps ps x y,by simp,⟨nh.size,nh.kE,⟨λd hd=>?_,?_⟩,nh.round,nh.jV,nh.below,nh.boxes,nh.inj,nh.kT,nh.iR,nh.rO,nh.mod,nh.sx,nh.umod,nh.LQ,nh.Dz,nh.F0⟩⟩
    ·simp only[List.cons_append,List.nil_append,List.mem_cons]at hd
     rcases hd with rfl|hd
     ·exact⟨wa.heap.size,rfl,hI.mod.size,hh⟩
     ·exact nh.defers.each d hd
    ·simp only[List.cons_append,List.nil_append]
     refine List.nodup_cons.2 ⟨λhd=>?_,nh.defers.nodup⟩
     obtain⟨r,e,_,hr⟩:=hI.defers.each _ hd
     simp only[Deferred.mk.injEq,Target.collected.injEq]at e
     have:=(Array.getElem?_eq_some_iff.1 hr.at_).1
     omega
   |some lr=>
    obtain⟨l0,r0⟩:=lr
    exact⟨r0.defers,wa.heap.size,[],wa,run_enterLoop_inner (hI.round l0 r0 Zv).at_ fn a.tmps ps x y,rfl,hI⟩
  subst hle
  obtain⟨r,hr⟩:∃r:Loop,r={state:=.ready,pending:=none,fn,tmps:=a.tmps,params:=ps,assign:=x,body:=y,defers:=D}:=⟨_,rfl⟩
  rw[<- hr]at afn
  obtain⟨w',aft,AY⟩:=hIp.born (.loop r)
  have hrn:AJ r none=.loop r:=by rw[hr];rfl
  have fu:=h pre.heap.size (AJ r) w' (λp=>rfl) (by rw[hrn];exact aft) (λvs w1 F RR hl hF hb=>
   Jb (θ:=θ) Ka J_ hox hoy hI.kE (λp hp=>km.1 (uh p hp)) hlen (by rw[hr];exact hI.size) (by rw[hr];exact hI.jV) (by rw[hr]) (by rw[hr]) (by rw[hr]) vs w1 F RR hl hF hb)
  obtain⟨F,hF,fu⟩:=lB.1 fu
  have hc:=fu _ AY.below
  rw[hfv]at hc
  obtain⟨iV,hc⟩:=hc
  refine⟨pre.heap.size,mark,pre.alloc (.loop r),{target:=.fn (.func g) fb,args:=fa++ #[.func (.yield pre.heap.size) #[] #[]]},pre.alloc (.loop r),g,fa++ #[.func (.yield pre.heap.size) #[] #[]]++fb,pre.alloc (.loop r),afn,?_,λ_ _=>trivial,?_,λh=>(by cases h),?_⟩
  ·simp[resolve,hef,Deferred.ofValue];rfl
  ·simp only[invoke]
   exact qG iV
  ·have AW:(fa++ #[Value.func (.yield pre.heap.size) #[] #[]]++fb)=(fa.toList++[Value.func (.yield pre.heap.size) #[] #[]]++fb.toList).toArray:=by
    apply Array.toList_inj.1;simp
   rw[AW]
   refine callsIn_wide.2 (hc.mono λe wr hp=>?_)
   obtain⟨v,w2,rfl,gM,p,XJ,hK⟩:=hp
   have Uv:=AY.ret hF gM
   have EC:wr.heap[pre.heap.size]?=some (AJ r p):=by
    rcases Uv.below.block _ (Array.getElem?_eq_some_iff.1 XJ).1 with e|e
    ·rw[<- e];exact XJ
    ·rw[XJ]at e;cases e
   refine⟨p,_,run_endLoop EC (by cases p<;>simp),?_⟩
   have EG:=Uv.forget (o2:=.loop {r with state:=.exhausted,pending:=p}) hIp.mod.size XJ rfl EC rfl
   have hP:dn C.n fz (writes (.rangeFunc f ps x y)) st st:=dn.refl _ _ _ _
   unfold PK at hK
   split at hK
   ·exact⟨st,_,θ,EG,hP,hK⟩
   ·refine wpIn_ret ⟨st,_,θ,EG,hP,?_⟩
    exact(av hK).2
   ·refine wpIn_exit ⟨st,_,θ,EG,hP,?_⟩
    exact Dd (Q:=λi=>Q (.exit i) st _) hK
   ·exact hK.elim
theorem YP(c:Code):Sound E c:=by
 induction c with
 |skip=>intro C fO fz Q st u a wa θ hI h;exact wpIn_skip ⟨st,u,θ,hI,dn.refl _ _ _ _,h⟩
 |ret=>intro C fO fz Q st u a wa θ hI h;exact wpIn_ret ⟨st,u,θ,hI,dn.refl _ _ _ _,h⟩
 |exit i=>intro C fO fz Q st u a wa θ hI h;exact wpIn_exit ⟨st,u,θ,hI,dn.refl _ _ _ _,h⟩
 |region id ops draw=>
  intro C fO fz Q st u a wa θ hI h
  simp only[il,List.all_eq_true]at fO
  cases draw with
  |true=>
   simp only[W]at h
   obtain⟨hm,h⟩:=av h
   cases hiq:isQ E.gp id with
   |true=>
    rw[hiq]at h
    simp only[cond_true]at h
    cases hp:qQ ops with
    |none=>simp only[hp]at h
    |some p=>
     simp only[hp]at h
     exact Rt hm fO (λo ho t ht=>by simp only[writes,List.mem_filterMap];exact⟨o,ho,ht⟩) hp hI h
   |false=>
   rw[hiq]at h
   simp only[cond_false]at h
   cases hp:vJ ops with
   |none=>simp only[hp]at h
   |some p=>
    simp only[hp]at h
    exact Ru hm fO (λo ho t ht=>by simp only[writes,List.mem_filterMap];exact⟨o,ho,ht⟩) hp hI h
  |false=>
   simp only[W]at h
   refine wpIn_region ?_
   have:=Ej (E:=E) (Q:=Q) (pY:=st) (ws:=writes (.region id ops false)) fO (λo ho t ht=>by simp only[writes,List.mem_filterMap];exact⟨o,ho,ht⟩) ops.toList 0 rfl st u a wa θ hI (dn.refl _ _ _ _) h
   rw[Array.length_toList,Hl]at this
   exact this
 |seq x y Ka J_=>
  intro C fO fz Q st u a wa θ hI h
  simp only[il,Bool.and_eq_true]at fO
  simp only[W]at h
  refine wpIn_seq ?_
  split at h
  ·refine wpIn_mono (Ka C fO.1 fz _ st u a wa θ hI h) λe a' Jd hq=>?_
   obtain⟨cJ,u',θ',eU,lX,hq⟩:=hq
   cases e with
   |normal=>
    refine wpIn_mono (J_ C fO.2 fz Q cJ u' a' Jd θ' eU hq) λe a'' adT hq=>?_
    obtain⟨aaB,WD,θ'',abR,M_,hq⟩:=hq
    exact⟨aaB,WD,θ'',abR,lX.trans M_,hq⟩
   |exit i=>exact⟨cJ,u',θ',eU,lX.mono (λ_ h=>h) (λ_ h=>List.mem_append_left _ h),hq⟩
   |goto i=>exact⟨cJ,u',θ',eU,lX.mono (λ_ h=>h) (λ_ h=>List.mem_append_left _ h),hq⟩
   |ret=>exact⟨cJ,u',θ',eU,lX.mono (λ_ h=>h) (λ_ h=>List.mem_append_left _ h),hq⟩
   |panic i=>exact⟨cJ,u',θ',eU,lX.mono (λ_ h=>h) (λ_ h=>List.mem_append_left _ h),hq⟩
   |outgrown=>exact⟨cJ,u',θ',eU,lX.mono (λ_ h=>h) (λ_ h=>List.mem_append_left _ h),hq⟩
  ·rename_i cut _
   obtain⟨hl,J,hA,hB⟩:=av h
   have EN:∀{s:St},dn C.n (freeze fz st.D cut) (writes x) st s->dn C.n fz (writes x++writes y) st s:=λhp=>
    hp.mono (λz hz=>List.mem_append_left _ hz) (λz hz=>List.mem_append_left _ hz)
   refine wpIn_mono (Ka C fO.1 (freeze fz st.D cut) _ st u a wa θ hI hA) λe a' Jd hq=>?_
   obtain⟨cJ,u',θ',eU,lX,hq⟩:=hq
   cases e with
   |normal=>
    simp only[uM,WG]at hq
    obtain⟨hs,hq⟩:=av hq
    cases hgl:h_ cJ cut.live with
    |none=>simp only[hgl]at hq
    |some s=>
     simp only[hgl]at hq
     obtain⟨hIm,hPm⟩:=MG hI eU lX hl hs hgl
     refine wpIn_mono (J_ C fO.2 fz Q _ u' a' Jd θ' hIm (hB s u' hq)) λe a'' adT hq=>?_
     obtain⟨aaB,WD,θ'',abR,M_,hq⟩:=hq
     exact⟨aaB,WD,θ'',abR,hPm.trans M_,hq⟩
   |exit i=>exact⟨cJ,u',θ',eU,EN lX,hq⟩
   |goto i=>exact⟨cJ,u',θ',eU,EN lX,hq⟩
   |ret=>exact⟨cJ,u',θ',eU,EN lX,hq⟩
   |panic i=>exact⟨cJ,u',θ',eU,EN lX,hq⟩
   |outgrown=>exact⟨cJ,u',θ',eU,EN lX,hq⟩
 |cond c x y Ka J_=>
  intro C fO fz Q st u a wa θ hI h
  simp only[il,Bool.and_eq_true]at fO
  obtain⟨⟨hc,hx⟩,hy⟩:=fO
  simp only[W]at h
  split at h
  ·rename_i t ht
   refine wpIn_cond (bt hI hc ht rfl) ?_
   cases t with
   |true=>
    refine wpIn_mono (Ka C hx fz Q st u a wa θ hI h) λe a' Jd hq=>?_
    obtain⟨cJ,u',θ',eU,lX,hq⟩:=hq
    exact⟨cJ,u',θ',eU,lX.mono (λ_ h=>h) (λ_ h=>List.mem_append_left _ h),hq⟩
   |false=>
    refine wpIn_mono (J_ C hy fz Q st u a wa θ hI h) λe a' Jd hq=>?_
    obtain⟨cJ,u',θ',eU,lX,hq⟩:=hq
    exact⟨cJ,u',θ',eU,lX.mono (λ_ h=>h) (λ_ h=>List.mem_append_right _ h),hq⟩
  ·exact h.elim
 |block id x ih=>
  intro C fO fz Q st u a wa θ hI h
  simp only[W]at h
  refine wpIn_block (wpIn_mono (ih C fO fz _ st u a wa θ hI h) λe a' Jd hq=>?_)
  obtain⟨cJ,u',θ',eU,lX,hq⟩:=hq
  cases e with
  |exit i=>
   simp only[z_,Bool.cond_eq_ite,beq_iff]at hq
   simp only[Exit.inBlock]
   split at hq
   ·rename_i e;rw[if_pos e];exact⟨cJ,u',θ',eU,lX,hq⟩
   ·rename_i e;rw[if_neg e];exact⟨cJ,u',θ',eU,lX,hq⟩
  |normal=>exact⟨cJ,u',θ',eU,lX,hq⟩
  |goto i=>exact⟨cJ,u',θ',eU,lX,hq⟩
  |ret=>exact⟨cJ,u',θ',eU,lX,hq⟩
  |panic i=>exact⟨cJ,u',θ',eU,lX,hq⟩
  |outgrown=>exact⟨cJ,u',θ',eU,lX,hq⟩
 |loop x ih=>
  intro C fO fz Q st u a wa θ hI h
  simp only[W]at h
  split at h
  ·exact h.elim
  ·rename_i cut _
   obtain⟨hl,h⟩:=av h
   simp only[WG]at h
   obtain⟨hs,h⟩:=av h
   cases hgl:h_ st cut.live with
   |none=>simp only[hgl]at h
   |some s0=>
    simp only[hgl]at h
    obtain⟨I,⟨n0,hI0⟩,MO⟩:=h
    have hP0:dn C.n (freeze fz st.D cut) (writes x) st st:=dn.refl _ _ _ _
    obtain⟨hIm,hPm⟩:=MG hI hI hP0 hl hs hgl
    refine Sa (λn a' Jd=>∃s u' θ',Inv C a' Jd (mix st (writes x) cut s) u' θ'/\I n s u'/\dn C.n fz (writes x) st (mix st (writes x) cut s)) ?_ n0 a wa ⟨s0,u,θ,hIm,hI0,hPm⟩
    intro n a' Jd hh
    obtain⟨s,u',θ',eU,hIs,hPs⟩:=hh
    have hb:=MO n s u' hIs
    refine wpIn_mono (ih C fO _ _ _ u' a' Jd θ' eU hb) λe a'' adT hq=>?_
    obtain⟨WR,u2,θ2,AY,hP2,hq⟩:=hq
    have Us:dn C.n fz (writes x) st WR:=by
     have:=hPs.trans (hP2.mono (fz':=fz) (λz hz=>List.mem_append_left _ hz) (λz hz=>hz))
     exact this.mono (λ_ h=>h) (λz hz=>by rw[List.mem_append]at hz;exact hz.elim id id)
    cases e with
    |normal=>
     simp only[uM,WG]at hq
     obtain⟨Du,hq⟩:=av hq
     cases abA:h_ WR cut.live with
     |none=>simp only[abA]at hq
     |some s2=>
      simp only[abA]at hq
      have XX:dn C.n (freeze fz st.D cut) (writes x) st WR:=by
       have h1:dn C.n (freeze fz st.D cut) (writes x) st (mix st (writes x) cut s):=⟨hPs.slot,hPs.D,λk hk m hm j hj=>?_⟩
       ·have:=h1.trans hP2
        exact this.mono (λ_ h=>h) (λz hz=>by rw[List.mem_append]at hz;exact hz.elim id id)
       ·exact(Xv hI hl (writes x) s) k hk m hm j hj
      obtain⟨ajK,ajE⟩:=MG hI AY XX hl Du abA
      obtain⟨m,hm,hq⟩:=hq
      exact⟨m,hm,s2,u2,θ2,ajK,hq,ajE⟩
    |exit i=>exact⟨WR,u2,θ2,AY,Us,hq⟩
    |goto i=>exact⟨WR,u2,θ2,AY,Us,hq⟩
    |ret=>exact⟨WR,u2,θ2,AY,Us,hq⟩
    |panic i=>exact⟨WR,u2,θ2,AY,Us,hq⟩
    |outgrown=>exact⟨WR,u2,θ2,AY,Us,hq⟩
 |rangeFunc f ps x y Ka J_=>exact JF Ka J_
 |scope x ih=>intro C fO fz Q st u a wa θ hI h;exact h.elim
 |label l=>intro C fO fz Q st u a wa θ hI h;exact h.elim
 |goto l=>intro C fO fz Q st u a wa θ hI h;exact h.elim
 |refuse s=>intro C fO fz Q st u a wa θ hI h;exact h.elim
end
def Gd(n:Nat):ResultVar->Bool
 | .tmp t=>Nat.blt t n
 | .cell t _=>Nat.blt t n
def Xl(n:Nat)(c:Code)(rs:List ResultVar)(args:List Value):Bool:=il n c&&Nat.ble n 65536&&rs.all (Gd n)&&Nat.ble args.length n&&args.all plain
def Hi(tmps:Array Value):ResultVar->Sem Value
 | .tmp t=>pure (tmps.getD t undef)
 | .cell x t=>do loadVar t (<- asAddr (tmps.getD x undef))
section
variable {C:Ctx} {a:Act} {wa:World} {st:St} {u:UW} {θ:Nat->Nat}
theorem zj{P:Program}{tmps:Array Value}{x:Nat}{t:TypeId}{ad:Addr}{v:Value}{w:World}(h:tmps.getD x undef=.pointer (some ad))(hl:(loadVar t ad).run P w=.ok v w):(Hi tmps (.cell x t)).run P w=.ok v w:=by
 simp only[Hi,Sem.run_bind,h,asAddr,Sem.run_pure,Result.andThen_ok,hl]
theorem Oi{P:Program}{tmps:Array Value}{r:ResultVar}{rs:List ResultVar}{v:Value}{vs:List Value}{w:World}(h:(Hi tmps r).run P w=.ok v w)(hs:(rs.mapM (Hi tmps)).run P w=.ok vs w):
  ((r::rs).mapM (Hi tmps)).run P w=.ok (v::vs) w:=by
 simp only[List.mapM_cons,Sem.run_bind,h,Result.andThen_ok,hs,Sem.run_pure]
theorem qI{P:Program}(hI:Inv C a wa st u θ):∀(rs:List ResultVar) (F:List Value->Prop),(∀r∈rs,Gd C.n r=true)->vu P st u rs F->
  ∃vs,(rs.mapM (Hi a.tmps)).run P wa=.ok vs wa/\F vs
 |[],F,_,h=>⟨[],by simp,h⟩
 | .tmp t::rs,F,aO,h=>by
   simp only[vu]at h
   obtain⟨hp,h⟩:=av h
   obtain⟨vs,hr,hF⟩:=qI hI rs _ (λr hr=>aO r (by simp[hr])) h
   have htn:Gd C.n (.tmp t)=true:=aO _ (by simp)
   have ht:=hI.jV t (km.1 htn)
   rw[kp hp]at ht
   exact⟨_,Oi (by simp only[Hi,Sem.run_pure,ht]) hr,hF⟩
 | .cell x t::rs,F,aO,h=>by
   simp only[vu]at h
   have htn:Gd C.n (.cell x t)=true:=aO _ (by simp)
   have hx:x<C.n:=km.1 htn
   have hs:=hI.jV x hx
   cases hk:kinds P t with
   |none=>simp only[hk]at h
   |some ks=>
    simp only[hk]at h
    obtain⟨zE,⟨d,hu⟩,rS⟩:=nN hk
    split at h
    ·rename_i k off he
     cases hb:gk st.D k with
     |none=>simp only[hb]at h
     |some m=>
      simp only[hb]at h
      obtain⟨hc,h⟩:=av h
      simp only[Bool.and_eq_true,Nat.ble_eq]at hc
      obtain⟨h1,h2⟩:=hc
      obtain⟨_,c,T,b1,b2,b3,_⟩:=hI.boxes k m (lO hb)
      have Dx:=jm b2 b3 ks.length off h1 (qq h2)
      obtain⟨vs,hr,hF⟩:=qI hI rs _ (λr hr=>aO r (by simp[hr])) h
      rw[he]at hs
      have RJ:a.tmps.getD x undef=.pointer (some ⟨θ k,off,none⟩):=hs
      exact⟨_,Oi (zj RJ (by rw[jF hk b1 (show off+ks.length<=c.size by omega),Dx])) hr,hF⟩
    ·obtain⟨b,off,hv,h⟩:=iC h
     obtain⟨us,hlen,hp,fB,h⟩:=sV h
     obtain⟨vs,hr,hF⟩:=qI hI rs _ (λr hr=>aO r (by simp[hr])) h
     rw[hv,kp rfl]at hs
     by_cases hz:ks.length=0
     ·have oW:d_ P t=true:=rS.resolve_right (by omega)
      have HL:us=[]:=List.eq_nil_of_length_eq_zero (by omega)
      subst HL
      obtain⟨i,hi⟩:=ja hu
      refine⟨_,Oi (zj hs ?_) hr,hF⟩
      simp only[loadVar,Sem.run_bind,mZ hu,oW,if_true,di hi,<- zE,hz,Result.andThen_ok]
      rfl
     ·obtain⟨c,T,f,c1,c2,c3⟩:=xN hI.below fB hz
      exact⟨_,Oi (zj hs (by rw[jF hk c1 c2,<- c3])) hr,hF⟩
theorem JC{P:Program}{fn:Func}{rs:List ResultVar}(LG:fn.results.toList=rs){vs:List Value}(h:(rs.mapM (Hi a.tmps)).run P wa=.ok vs wa):
  (results fn a.tmps).run P wa=.ok (match vs with|[v]=>v|vs=>.tuple vs.toArray) wa:=by
 have e:results fn a.tmps=(do let vs <- fn.results.mapM (Hi a.tmps);pure (if h:vs.size=1 then vs[0]else .tuple vs):Sem Value):=by
  unfold results
  congr 1
 rw[e,Array.mapM_eq_mapM_toList,LG]
 simp only[Sem.run_bind,Sem.run_map,h,Result.andThen_ok,Sem.run_pure]
 match vs with
 |[]=>rfl
 |[v]=>rfl
 |v::v'::vs=>simp
end
theorem Inv.aaw{C:Ctx}{a:Act}{wa:World}{st:St}{u:UW}{θ:Nat->Nat}{d:Deferred}{ds:List Deferred}{r:Nat}(hI:Inv C a wa st u θ)(hd:a.defers=d::ds)(he:d={target:=.collected r,args:= #[]}):
  Inv C {a with defers:=ds} (wa.putObj r (.deferred none)) st u θ:=by
 obtain⟨r',e',hr,hh⟩:=hI.defers.each d (by rw[hd];simp)
 rw[he]at e'
 simp only[Deferred.mk.injEq,Target.collected.injEq,and_true]at e'
 subst e'
 have Bv:(d::ds).Nodup:=hd▸hI.defers.nodup
 have de:∀{b:Nat} {ob:Obj},b≠r->Hid u wa b ob->Hid u (wa.putObj r (.deferred none)) b ob:=λ{b ob} aT hh=>⟨(bg aT).trans hh.at_,hh.other,hh.ij,hh.mask⟩
 refine⟨hI.size,hI.kE,⟨λd' hd'=>?_,(List.nodup_cons.1 Bv).2⟩,λl0 r0 e=>de ?_ (hI.round l0 r0 e),hI.jV,?_,?_,hI.inj,hI.kT,hI.iR,?_,?_,hI.sx,hI.umod,hI.LQ,hI.Dz,hI.F0⟩
 ·obtain⟨r1,e1,h1,hh1⟩:=hI.defers.each d' (by rw[hd];simp[hd'])
  refine⟨r1,e1,h1,de ?_ hh1⟩
  rintro rfl
  rw[<- he]at e1
  subst e1
  exact(List.nodup_cons.1 Bv).1 hd'
 ·rintro rfl
  have:=(hI.round l0 r0 e).at_;rw[hh.at_]at this;cases this
 ·refine⟨hI.below.os,hI.below.tape,hI.below.output,by simpa using hI.below.size,λb hb=>?_⟩
  by_cases e:b=r
  ·subst e;exact .inr (hh.mask hb)
  ·rw[bg e];exact hI.below.block b hb
 ·intro k m hk
  obtain⟨BW,c,T,h1,h2,h3,h4,h5,h6⟩:=hI.boxes k m hk
  have aT:θ k≠r:=by
   intro e;rw[e,hh.at_]at h1;cases h1
  exact⟨BW,c,T,(bg aT).trans h1,h2,h3,h4,h5,h6⟩
 ·intro b hb;simpa using hI.rO b hb
 ·exact⟨hI.mod.os,hI.mod.tape,hI.mod.output,by simpa using hI.mod.size,λb hb hF=>(bg (by omega)).trans (hI.mod.de b hb hF)⟩
theorem yd{P:Program}{fn:Func}{rs:List ResultVar}{R:Value->UW->Prop}{C:Ctx}{st:St}{u:UW}{θ:Nat->Nat}{G:Ending->World->Prop}(LG:fn.results.toList=rs)(aO:∀r∈rs,Gd C.n r=true):
  ∀(ds:List Deferred) (a:Act) (wa:World),a.defers=ds->Inv C a wa st u θ->vu P st u rs (Pz R u)->(∀wr v,Out C.F C.w0 C.w1 u.toWorld wr->R v u->G (.returned v) wr)->LeavesInM Fence.wide 0 P fn a.tmps G ds .returning wa
 |[],a,wa,_,hI,hq,hG=>by
  obtain⟨vs,kF,hR⟩:=qI hI rs _ aO hq
  refine⟨_,JC LG kF,hG _ _ ⟨hI.mod,hI.below,hI.umod,hI.Dz⟩ ?_⟩
  unfold Pz at hR
  match vs,hR with
  |[],hR=>exact hR
  |[v],hR=>exact hR
  |v::v'::vs,hR=>exact hR
 |d::ds,a,wa,hd,hI,hq,hG=>by
  obtain⟨r,he,hr,hh⟩:=hI.defers.each d (by rw[hd];simp)
  refine⟨by simp,.inl ⟨r,_,by rw[he],run_takeDeferred hh.at_,?_⟩⟩
  exact yd LG aO ds {a with defers:=ds} _ rfl (hI.aaw hd he) hq hG
theorem VV{P:Program}{f:FuncId}{fn:Func}{c:Code}{n:Nat}{gp:List Nat}{loops kP:List (Nat×Cut)}{uc:List (Nat×List TypeId)}{rs:List ResultVar}{args:List Value}{w:World}{F:Nat->Prop}{R:Value->UW->Prop}
  (hf:P.funcs[f]?=some fn) (hb:fn.body=some c) (hnt:fn.ntmps=n) (LG:fn.results.toList=rs) (aO:Xl n c rs args=true) (hF:∀b,F b->b<w.heap.size)
  (h:WF P n gp loops kP uc c rs args ⟨w,F⟩ R):FnB P f args.toArray w F λv lo w'=>∃ij,(∀b,ij b->F b\/lo<=b)/\R v ⟨w',ij⟩:=by
 simp only[Xl,Bool.and_eq_true,Nat.ble_eq,List.all_eq_true]at aO
 obtain⟨⟨⟨⟨hc,hn⟩,hr⟩,hal⟩,ow⟩:=aO
 intro w1 rH
 refine(callsIn_wide (n:=0)).1 (callsIn_of_wp_marks hf hb trivial ?_)
 have hI:Inv ⟨n,w,w1,F,none⟩ {tmps:=args.toArray++Array.replicate (fn.ntmps-args.toArray.size) undef,defers:=[]} w1 ⟨Le args,[]⟩ ⟨w,F⟩ (λ_=>0):=by
  have afh:∀t,(args.toArray++Array.replicate (fn.ntmps-args.toArray.size) undef).getD t undef=Le args t:=by
   intro t
   rw[Array.getD_eq_getD_getElem?]
   unfold Le
   by_cases ht:t<args.length
   ·rw[Array.getElem?_append_left (by simpa using ht)]
    simp
   ·rw[Array.getElem?_append_right (by simp;omega),List.getElem?_eq_none (by omega),Array.getElem?_replicate]
    split<;>rfl
  have TO:∀t,plain (Le args t)=true:=by
   intro t
   unfold Le
   cases hg:args[t]? with
   |none=>rfl
   |some v=>exact ow v (List.mem_of_getElem? hg)
  refine⟨by simp[hnt];omega,hn,⟨by simp,List.nodup_nil⟩,λl r e=>(by cases e),λt _=>?_,rH,by simp,by simp,λt _ k o e=>absurd e (lK (TO t) k o),by simp,λb hb=>Nat.lt_of_lt_of_le (hF b hb) rH.size,Mod.refl _ _,λb hb _=>hb,Mod.refl _ _,rH.size,λb h1 _ h3=>absurd h3 (Nat.not_lt.2 h1),hF⟩
  rw[afh]
  exact rn (TO t)
 refine wpIn_mono (YP (E:=⟨P,n,gp,loops,kP,uc⟩) c ⟨n,w,w1,F,none⟩ hc [] _ _ _ _ _ _ hI h) λe a' Jd hq=>?_
 obtain⟨cJ,u',θ',eU,_,hq⟩:=hq
 have key:vu P cJ u' rs (Pz R u')->LeavesInM Fence.wide 0 P fn a'.tmps (λe wr=>∃v w',e=.returned v/\Out F w w1 w' wr/\∃ij,(∀b,ij b->F b\/w1.heap.size<=b)/\R v ⟨w',ij⟩) a'.defers .returning Jd:=by
  intro hq
  refine yd LG hr a'.defers a' Jd rfl eU hq λwr v gM hR=>⟨v,u'.toWorld,rfl,gM,u'.ij,λb hb=>?_,hR⟩
  by_cases cz:b<w1.heap.size
  ·exact .inl (eU.sx b hb cz)
  ·exact .inr (by omega)
 cases e with
 |normal=>exact key hq
 |ret=>exact key hq
 |exit i=>exact hq.elim
 |goto i=>exact hq.elim
 |panic i=>exact hq.elim
 |outgrown=>exact hq.elim
theorem FnB.mono{P:Program}{f:FuncId}{args:Array Value}{w:World}{F:Nat->Prop}{K K':Value->Nat->World->Prop}(h:FnB P f args w F K)(hk:∀v lo w',Mod F w w'->w.heap.size<=lo->K v lo w'->K' v lo w'):
  FnB P f args w F K':=by
 intro w1 hs
 refine(h w1 hs).mono λe wr hp=>?_
 obtain⟨v,w',rfl,ho,hK⟩:=hp
 exact⟨v,w',rfl,ho,hk v _ w' ho.umod hs.size hK⟩
theorem xO{H:Ln}{b o n:Nat}{vs:List Value}(h:rd H b o n=some vs):∃c T f,H[b]?=some (.cells c T f)/\o+n<=c.size/\vs=(c.toList.drop o).take n:=by
 unfold rd at h
 cases hb:H[b]? with
 |none=>simp[hb]at h
 |some ob=>
  cases ob<;>simp only[hb]at h<;>try (cases h;done)
  rename_i c T f
  split at h
  ·rename_i hl;simp only[Option.some.injEq]at h;exact⟨c,T,f,rfl,hl,h.symm⟩
  ·cases h
theorem CK{H:Ln}{b o n:Nat}{c:Array Value}{T:TypeId}{f:Nat×Nat}(h:H[b]?=some (.cells c T f))(hl:o+n<=c.size):rd H b o n=some ((c.toList.drop o).take n):=by
 simp[rd,h,hl]
theorem SK{H:Ln}{b o n:Nat}{vs:List Value}(h:rd H b o n=some vs):vs.length=n:=by
 obtain⟨c,T,f,h1,h2,rfl⟩:=xO h
 simp;omega
theorem KH{sz:Nat}:∀{Bi:List (List Value)},(∀x∈Bi,x.length=sz)->Bi.flatten.length=Bi.length*sz
 |[],_=>by simp
 |x::Bi,h=>by
  have ih:=KH (Bi:=Bi) (λy hy=>h y (by simp[hy]))
  rw[List.flatten_cons,List.length_append,List.length_cons,h x (by simp),ih,Nat.add_mul,Nat.one_mul];omega
structure SlR(H:Ln)(a:Option Addr)(n c sz:Nat)(Bi:List (List Value)):Prop where
 len:Bi.length=n
 cap:n<=c
 each:∀x∈Bi,x.length=sz
 read:n≠0->∃b o,a=some ⟨b,o,none⟩/\rd H b o (n*sz)=some Bi.flatten
theorem SlR.nil(H:Ln)(sz:Nat):SlR H none 0 0 sz []:=⟨rfl,Nat.le_refl _,by simp,λh=>absurd rfl h⟩
theorem az{x:Int}(h0: -9223372036854775808<=x)(h1:x<=9223372036854775807):IntKind.i64.wrap x=x:=IntWalk.i64_in x (by omega)
inductive Fl where
 |sh
 |nr
 |nil
 |pU (b c:Nat)
inductive PV where
 |raw (v:Value)
 |list (sz:Nat) (fl:Fl) (rows:List (List PV))
 |bn (row:List PV) (o:Nat)
 |fn (f:Fn) (first wv:List PV)
 |agg (cs:List PV)
 |aD (vs:List PV)
 |iface (t:TypeId) (p:PV)
 |box (k o:Nat)
 |bd
@[reducible] def pI(i:Int):PV:=.raw (.int .i64 i)
@[reducible] def pB(b:Bool):PV:=.raw (.bool b)
@[reducible] def pS(s:ByteArray):PV:=.raw (.string s)
@[reducible] def pP(b o:Nat):PV:=.raw (.pointer (some ⟨b,o,none⟩))
def PV.cell:PV->Bool
 | .raw _| .list .. | .bn .. | .fn .. | .iface .. =>true
 |_=>false
def PV.ok:PV->Bool
 | .agg _=>true
 |p=>p.cell
abbrev Fz:=Nat->Option (List Value)
def Wc:Fl->Option Addr->Nat->Nat->Prop
 | .sh,_,_,_=>True
 | .nr,_,n,c=>c=n
 | .nil,a,n,c=>a=none/\n=0/\c=0
 | .pU b c',a,_,c=>a=some ⟨b,0,none⟩/\c=c'
inductive cy(Z:Fz):PV->Value->Prop where
 |raw (v:Value) (h:plain v=true) (h1:one v=true):cy Z (.raw v) v
 |list (sz:Nat) (fl:Fl) (rows:List (List PV)) (a:Option Addr) (n c b o:Nat) (C:List Value) (g:Nat->Nat->Value) (hn:rows.length=n) (hc:n<=c) (hs:c=0\/ju a) (hr:∀r∈rows,r.length=sz)
   (ha:n≠0->a=some ⟨b,o,none⟩/\Z b=some C) (hg:∀i j:Nat,i<n->j<sz->C[o+i*sz+j]?=some (g i j))
   (hk:∀(i j:Nat) row p,rows[i]?=some row->row[j]?=some p->p.cell=true) (hp:∀(i j:Nat) row p,rows[i]?=some row->row[j]?=some p->cy Z p (g i j)) (hf:Wc fl a n c):cy Z (.list sz fl rows) (.slice a n c)
 |bn (row:List PV) (o b off:Nat) (C:List Value) (g:Nat->Value) (hz:Z b=some C) (hg:∀j:Nat,j<row.length->C[off+j]?=some (g j)) (hk:∀(j:Nat) p,row[j]?=some p->p.cell=true) (hp:∀(j:Nat) p,row[j]?=some p->cy Z p (g j)):cy Z (.bn row o) (.pointer (some ⟨b,off+o,none⟩))
 |fn (f:Fn) (first wv:List PV) (fv cv:List Value) (h1:fv.length=first.length) (h2:cv.length=wv.length) (kf:∀p∈first,p.ok=true) (kc:∀p∈wv,p.ok=true) (hf:∀(i:Nat) p v,first[i]?=some p->fv[i]?=some v->cy Z p v) (hc:∀(i:Nat) p v,wv[i]?=some p->cv[i]?=some v->cy Z p v):cy Z (.fn f first wv) (.func f fv.toArray cv.toArray)
 |agg (cs:List PV) (vs:List Value) (hl:vs.length=cs.length) (hk:∀p∈cs,p.cell=true) (h:∀(i:Nat) p v,cs[i]?=some p->vs[i]?=some v->cy Z p v):cy Z (.agg cs) (.agg vs.toArray)
 |aD (ps:List PV) (vs:List Value) (hl:vs.length=ps.length) (hk:∀p∈ps,p.ok=true) (h:∀(i:Nat) p v,ps[i]?=some p->vs[i]?=some v->cy Z p v):cy Z (.aD ps) (.tuple vs.toArray)
 |iface (t:TypeId) (p:PV) (v:Value) (hk:p.ok=true) (h:cy Z p v):cy Z (.iface t p) (.iface t v)
 |box (k o:Nat):cy Z (.box k o) (e_ k o)
 |bd (v:Value):cy Z .bd v
def Fz.le(Z Z':Fz):Prop:=∀b C,Z b=some C->∃C',Z' b=some C'/\C <+: C'
theorem Fz.le.refl(Z:Fz):Z.le Z:=λ_ C h=>⟨C,h,List.prefix_refl C⟩
theorem Fz.le.trans{A B C:Fz}(h:A.le B)(k:B.le C):A.le C:=λb L hL=>by
 obtain⟨L',h1,h2⟩:=h b L hL
 obtain⟨L'',h3,h4⟩:=k b L' h1
 exact⟨L'',h3,h2.trans h4⟩
theorem CO{A B:List Value}(h:A <+: B){i:Nat}{v:Value}(hv:A[i]?=some v):B[i]?=some v:=by
 obtain⟨t,rfl⟩:=h
 rw[List.getElem?_append_left (List.getElem?_eq_some_iff.1 hv).1];exact hv
theorem cy.mono{Z Z':Fz}(hz:Z.le Z'){p:PV}{v:Value}(h:cy Z p v):cy Z' p v:=by
 induction h with
 |raw v h h1=>exact .raw v h h1
 |list sz fl rows a n c b o C g hn hc hs hr ha hg hk hp hf ih=>
  by_cases h0:n=0
  ·exact .list sz fl rows a n c b o C g hn hc hs hr (λh=>absurd h0 h) hg hk ih hf
  ·obtain⟨C',h1,h2⟩:=hz b C (ha h0).2
   exact .list sz fl rows a n c b o C' g hn hc hs hr (λ_=>⟨(ha h0).1,h1⟩) (λi j hi hj=>CO h2 (hg i j hi hj)) hk ih hf
 |bn row o b off C g hC hg hk hp ih=>
  obtain⟨C',h1,h2⟩:=hz b C hC
  exact .bn row o b off C' g h1 (λj hj=>CO h2 (hg j hj)) hk ih
 |fn f first wv fv cv h1 h2 kf kc hf hc ih1 ih2=>exact .fn f first wv fv cv h1 h2 kf kc ih1 ih2
 |agg cs vs hl hk h ih=>exact .agg cs vs hl hk ih
 |aD cs vs hl hk h ih=>exact .aD cs vs hl hk ih
 |iface t p v hk _ ih=>exact .iface t p v hk ih
 |box k o=>exact .box k o
 |bd v=>exact .bd v
theorem cy.cell{Z:Fz}{p:PV}{v:Value}(h:cy Z p v)(hc:p.cell=true):plain v=true/\one v=true:=by
 cases h<;>first|(constructor<;>assumption)|exact⟨rfl,rfl⟩|(simp[PV.cell]at hc)
theorem cy.plain{Z:Fz}{p:PV}{v:Value}(h:cy Z p v)(hc:p.ok=true):plain v=true:=by
 cases h<;>first|assumption|rfl|(simp[PV.ok,PV.cell]at hc)
def bf(Z:Fz)(ps:List PV)(vs:List Value):Prop:=vs.length=ps.length/\∀(i:Nat) p v,ps[i]?=some p->vs[i]?=some v->p.ok=true/\cy Z p v
def bF(Z:Fz)(ps:List PV)(vs:List Value):Prop:=vs.length=ps.length/\∀(i:Nat) p v,ps[i]?=some p->vs[i]?=some v->p.cell=true/\cy Z p v
theorem bf.mono{Z Z':Fz}(hz:Z.le Z'){ps:List PV}{vs:List Value}(h:bf Z ps vs):bf Z' ps vs:=⟨h.1,λi p v a b=>⟨(h.2 i p v a b).1,(h.2 i p v a b).2.mono hz⟩⟩
theorem bF.mono{Z Z':Fz}(hz:Z.le Z'){ps:List PV}{vs:List Value}(h:bF Z ps vs):bF Z' ps vs:=⟨h.1,λi p v a b=>⟨(h.2 i p v a b).1,(h.2 i p v a b).2.mono hz⟩⟩
theorem PV.Ht{p:PV}(h:p.cell=true):p.ok=true:=by cases p<;>simp_all [PV.ok,PV.cell]
theorem bf.nil(Z:Fz):bf Z [] []:=⟨rfl,by simp⟩
theorem bF.nil(Z:Fz):bF Z [] []:=⟨rfl,by simp⟩
theorem bf.cons{Z:Fz}{p:PV}{ps:List PV}{v:Value}{vs:List Value}(hk:p.ok=true)(h:cy Z p v)(hs:bf Z ps vs):bf Z (p::ps) (v::vs):=
 ⟨by simp[hs.1],λi q w a b=>by
  cases i with
  |zero=>simp only[List.getElem?_cons_zero,Option.some.injEq]at a b;subst a;subst b;exact⟨hk,h⟩
  |succ i=>simp only[List.getElem?_cons_succ]at a b;exact hs.2 i q w a b⟩
theorem bF.cons{Z:Fz}{p:PV}{ps:List PV}{v:Value}{vs:List Value}(hk:p.cell=true)(h:cy Z p v)(hs:bF Z ps vs):bF Z (p::ps) (v::vs):=
 ⟨by simp[hs.1],λi q w a b=>by
  cases i with
  |zero=>simp only[List.getElem?_cons_zero,Option.some.injEq]at a b;subst a;subst b;exact⟨hk,h⟩
  |succ i=>simp only[List.getElem?_cons_succ]at a b;exact hs.2 i q w a b⟩
theorem bf.inv{Z:Fz}{p:PV}{ps:List PV}{vs:List Value}(h:bf Z (p::ps) vs):∃v rC,vs=v::rC/\p.ok=true/\cy Z p v/\bf Z ps rC:=by
 obtain⟨hl,h⟩:=h
 cases vs with
 |nil=>simp at hl
 |cons v vs=>exact⟨v,vs,rfl,(h 0 p v rfl rfl).1,(h 0 p v rfl rfl).2,by simpa using hl,λi q w a b=>h (i+1) q w (by simpa using a) (by simpa using b)⟩
theorem bF.inv{Z:Fz}{p:PV}{ps:List PV}{vs:List Value}(h:bF Z (p::ps) vs):∃v rC,vs=v::rC/\p.cell=true/\cy Z p v/\bF Z ps rC:=by
 obtain⟨hl,h⟩:=h
 cases vs with
 |nil=>simp at hl
 |cons v vs=>exact⟨v,vs,rfl,(h 0 p v rfl rfl).1,(h 0 p v rfl rfl).2,by simpa using hl,λi q w a b=>h (i+1) q w (by simpa using a) (by simpa using b)⟩
theorem bf.pj{Z:Fz}{vs:List Value}(h:bf Z [] vs):vs=[]:=List.eq_nil_of_length_eq_zero h.1
theorem bF.pj{Z:Fz}{vs:List Value}(h:bF Z [] vs):vs=[]:=List.eq_nil_of_length_eq_zero h.1
theorem bf.append{Z:Fz}{ps qs:List PV}{vs ws:List Value}(h:bf Z ps vs)(k:bf Z qs ws):bf Z (ps++qs) (vs++ws):=by
 induction ps generalizing vs with
 |nil=>rw[h.pj];exact k
 |cons p ps ih=>obtain⟨v,rC,rfl,h1,h2,h3⟩:=h.inv;exact bf.cons h1 h2 (ih h3)
theorem bF.append{Z:Fz}{ps qs:List PV}{vs ws:List Value}(h:bF Z ps vs)(k:bF Z qs ws):bF Z (ps++qs) (vs++ws):=by
 induction ps generalizing vs with
 |nil=>rw[h.pj];exact k
 |cons p ps ih=>obtain⟨v,rC,rfl,h1,h2,h3⟩:=h.inv;exact bF.cons h1 h2 (ih h3)
theorem bF.take{Z:Fz}{ps:List PV}{vs:List Value}(h:bF Z ps vs)(n:Nat):bF Z (ps.take n) (vs.take n):=
 ⟨by simp[h.1],λi p v a b=>by
  rw[List.getElem?_take]at a b
  split at a
  ·rename_i hi;rw[if_pos hi]at b;exact h.2 i p v a b
  ·cases a⟩
theorem bF.drop{Z:Fz}{ps:List PV}{vs:List Value}(h:bF Z ps vs)(n:Nat):bF Z (ps.drop n) (vs.drop n):=
 ⟨by simp[h.1],λi p v a b=>by rw[List.getElem?_drop]at a b;exact h.2 _ p v a b⟩
theorem bF.get{Z:Fz}{ps:List PV}{vs:List Value}(h:bF Z ps vs){i:Nat}{p:PV}(hi:ps[i]?=some p):∃v,vs[i]?=some v/\p.cell=true/\cy Z p v:=by
 have cz:i<ps.length:=(List.getElem?_eq_some_iff.1 hi).1
 have vW:i<vs.length:=by rw[h.1];exact cz
 exact⟨vs[i],List.getElem?_eq_getElem vW,h.2 i p _ hi (List.getElem?_eq_getElem vW)⟩
theorem bf.get{Z:Fz}{ps:List PV}{vs:List Value}(h:bf Z ps vs){i:Nat}{p:PV}(hi:ps[i]?=some p):∃v,vs[i]?=some v/\p.ok=true/\cy Z p v:=by
 have cz:i<ps.length:=(List.getElem?_eq_some_iff.1 hi).1
 have vW:i<vs.length:=by rw[h.1];exact cz
 exact⟨vs[i],List.getElem?_eq_getElem vW,h.2 i p _ hi (List.getElem?_eq_getElem vW)⟩
theorem bF.zt{Z:Fz}{ps:List PV}{vs:List Value}(h:bF Z ps vs):∀v∈vs,aK.plain v=true/\one v=true:=by
 intro v hv
 obtain⟨i,hi⟩:=List.mem_iff_getElem?.1 hv
 have cz:i<ps.length:=by rw[<- h.1];exact(List.getElem?_eq_some_iff.1 hi).1
 have:=h.2 i ps[i] v (List.getElem?_eq_getElem cz) hi
 exact this.2.cell this.1
theorem bf.zt{Z:Fz}{ps:List PV}{vs:List Value}(h:bf Z ps vs):∀v∈vs,aK.plain v=true:=by
 intro v hv
 obtain⟨i,hi⟩:=List.mem_iff_getElem?.1 hv
 have cz:i<ps.length:=by rw[<- h.1];exact(List.getElem?_eq_some_iff.1 hi).1
 have:=h.2 i ps[i] v (List.getElem?_eq_getElem cz) hi
 exact this.2.plain this.1
def PV.cells:PV->List PV
 | .agg cs=>cs
 |p=>[p]
theorem cy.cells{Z:Fz}{p:PV}{v:Value}(h:cy Z p v)(hk:p.ok=true):bF Z p.cells v.cells.toList:=by
 have key:p.cell=true->v.cells= #[v]->p.cells=[p]->bF Z p.cells v.cells.toList:=λh1 h2 h3=>by rw[h2,h3];exact bF.cons h1 h (bF.nil Z)
 cases h with
 |agg cs vs hl fH h=>exact⟨hl,λi p v a b=>⟨fH p (List.mem_of_getElem? a),h i p v a b⟩⟩
 |raw v h1 h2=>exact key rfl (by cases v<;>first|rfl|(simp[one]at h2)) rfl
 |list=>exact key rfl rfl rfl
 |bn=>exact key rfl rfl rfl
 |fn=>exact key rfl rfl rfl
 |iface=>exact key rfl rfl rfl
 |aD ps vs hl h=>simp[PV.ok,PV.cell]at hk
 |box k o=>simp[PV.ok,PV.cell]at hk
 |bd v=>simp[PV.ok,PV.cell]at hk
def dq(Z:Fz)(ps:List PV)(vs:List Value):Prop:=vs.length=ps.length/\∀(i:Nat) p v,ps[i]?=some p->vs[i]?=some v->cy Z p v
inductive Ob where
 |cells (T:TypeId) (cs:List PV)
 |pU (n m:Nat)
 |obj (o:Obj) (F:Nat->PV) (S:Nat->Value)
 |ro (T:TypeId) (cs:List PV)
def Ob.rw:Ob->Bool
 | .ro .. =>false
 |_=>true
abbrev Mem:=Nat->Option Ob
def M0:Mem:=λ_=>none
def Mem.set(μ:Mem)(b:Nat)(o:Option Ob):Mem:=λc=>if c=b then o else μ c
def Mem.or(μ ν:Mem):Mem:=λb=>match μ b with|some o=>some o|Option.none=>ν b
def Mem.sep(μ ν:Mem):Prop:=∀b,μ b=Option.none\/ν b=Option.none
@[simp] theorem Mem.aq(μ:Mem)(b:Nat)(o:Option Ob):μ.set b o b=o:=by simp[Mem.set]
theorem Mem.aC(μ:Mem){b c:Nat}(o:Option Ob)(h:c≠b):μ.set b o c=μ c:=by simp[Mem.set,h]
def BA(Z:Fz)(u:UW)(b:Nat):Ob->Prop
 | .cells T cs=>Z b=none/\∃A:Array Value,u.heap[b]?=some (.cells A T (0,0))/\dq Z cs A.toList
 | .pU n m=>(∃C,Z b=some C/\C.length=n)/\∃(A:Array Value) (T:TypeId),u.heap[b]?=some (.cells A T (0,0))/\m<=A.size
 | .obj o F S=>Z b=none/\u.heap[b]?=some o/\∀t,cy Z (F t) (S t)
 | .ro T cs=>Z b=none/\∃A:Array Value,u.heap[b]?=some (.cells A T (0,0))/\dq Z cs A.toList
structure Good(Z:Fz)(u:UW)(μ:Mem):Prop where
 IP:∀b C,Z b=some C->∃A T f,u.heap[b]?=some (.cells A T f)/\C <+: A.toList
 mem:∀b o,μ b=some o->(o.rw=true->u.ij b)/\BA Z u b o
theorem BA.lt{Z:Fz}{u:UW}{b:Nat}{o:Ob}(h:BA Z u b o):b<u.heap.size:=by
 cases o with
 |cells T cs=>obtain⟨_,A,h,_⟩:=h;exact(Array.getElem?_eq_some_iff.1 h).1
 |pU n m=>obtain⟨_,A,T,h,_⟩:=h;exact(Array.getElem?_eq_some_iff.1 h).1
 |obj o F S=>exact(Array.getElem?_eq_some_iff.1 h.2.1).1
 |ro T cs=>obtain⟨_,A,h,_⟩:=h;exact(Array.getElem?_eq_some_iff.1 h).1
theorem Good.HD{Z:Fz}{u:UW}{μ:Mem}(h:Good Z u μ){b:Nat}(hb:Z b≠none):b<u.heap.size:=by
 cases hz:Z b with
 |none=>exact absurd hz hb
 |some C=>obtain⟨A,T,f,h,_⟩:=h.IP b C hz;exact(Array.getElem?_eq_some_iff.1 h).1
theorem Good.Tl{Z:Fz}{u:UW}{μ:Mem}(h:Good Z u μ){b:Nat}(hb:μ b≠none):b<u.heap.size:=by
 cases hz:μ b with
 |none=>exact absurd hz hb
 |some o=>exact(h.mem b o hz).2.lt
structure Ext(Z:Fz)(μ:Mem)(N:Nat)(Z':Fz)(μ':Mem):Prop where
 le:Z.le Z'
 zs:∀b C,Z b=some C->μ b=none->Z' b=some C
 zn:∀b,Z' b≠none->Z b≠none\/μ b≠none\/N<=b
 mn:∀b,μ' b≠none->μ b≠none\/N<=b
 lt:∀b,Z b≠none->b<N
theorem Good.ext{Z:Fz}{u:UW}{μ:Mem}(h:Good Z u μ):Ext Z μ u.heap.size Z μ:=⟨Fz.le.refl _,λ_ _ h _=>h,λ_ h=>.inl h,λ_ h=>.inl h,λ_ h'=>h.HD h'⟩
theorem Ext.trans{Z Z' Z'':Fz}{μ μ' pf:Mem}{N N':Nat}(h:Ext Z μ N Z' μ')(k:Ext Z' μ' N' Z'' pf)(hN:N<=N'):Ext Z μ N Z'' pf:=by
 refine⟨h.le.trans k.le,λb C hz hm=>?_,λb hb=>?_,λb hb=>?_,h.lt⟩
 ·refine k.zs b C (h.zs b C hz hm) ?_
  cases hx:μ' b with
  |none=>rfl
  |some o=>
   have hl:=h.lt b (by rw[hz];simp)
   rcases h.mn b (by rw[hx];simp)with h1|h1
   ·exact absurd hm h1
   ·omega
 ·rcases k.zn b hb with h1|h1|h1
  ·exact h.zn b h1
  ·exact .inr (h.mn b h1)
  ·exact .inr (.inr (by omega))
 ·rcases k.mn b hb with h1|h1
  ·exact h.mn b h1
  ·exact .inr (by omega)
def Mem.sub(μ' μ:Mem):Prop:=∀b o,μ' b=some o->μ b=some o
theorem Good.sub{Z:Fz}{u:UW}{μ μ':Mem}(h:Good Z u μ)(hs:μ'.sub μ):Good Z u μ':=⟨h.IP,λb o e=>h.mem b o (hs b o e)⟩
abbrev Lq:=List (List PV)
abbrev Kq:=PV->Mem->Prop
end Go.aK
