import Derived.Test.YtbkejjmjopgpoaaGreatB01
import Derived.IntWalk
set_option linter.all false
namespace Go.az
open Go.RowKit
section
variable {E:Env} {C:Ctx} {a:Act} {wa:World} {st:St} {u:UW} {θ:Nat->Nat} {fz:List Nat} {o:Oper} {K:St->UW->Prop} {Q:Exit->Act->World->Prop}
theorem agD{op:UnOp}{t:TypeId}{x:Operand}
  (h:match op,ev st.σ x with
   | .not,.bool b=>K (fin o st (.bool (!b))) u
   | .neg,.int k n=>K (fin o st (.int k (k.wrap (0-n)))) u
   |_,_=>False) (ho:o.op=.unOp op t x) (aD:bh C.n o=true) (hI:Inv C a wa st u θ):rh E C fz o st θ K Q a wa:=by
 have hx:cn C.n x=true:=jt aD (by simp[ho,Op.operands])
 split at h
 ·rename_i b he
  refine aO (r:=.bool (!b)) (wb:=wa) ?_ (aM aD hI rfl h)
  simp[execOp,ho,aR hI hx he rfl,Op.unary]
 ·rename_i k n he
  refine aO (r:=.int k (k.wrap (0-n))) (wb:=wa) ?_ (aM aD hI rfl h)
  simp[execOp,ho,aR hI hx he rfl,Op.unary,Op.intArith]
 ·exact h.elim
theorem Yc{s d:TypeId}{x:Operand}(ho:o.op=.convert s d x)(aD:bh C.n o=true)(hI:Inv C a wa st u θ)
  (h:bif plain (ev st.σ x)then(match pv E.P (convert s d (ev st.σ x))with
   |some v=>bif plain v then K (fin o st v) u else False
   |none=>False)else False):rh E C fz o st θ K Q a wa:=by
 have hx:cn C.n x=true:=jt aD (by simp[ho,Op.operands])
 obtain⟨hp,h⟩:=ak h
 cases hv:pv E.P (convert s d (ev st.σ x))with
 |none=>simp only[hv]at h
 |some v=>
  simp only[hv]at h
  obtain⟨lC,h⟩:=ak h
  refine aO (r:=v) (wb:=wa) ?_ (aM aD hI lC h)
  simp only[execOp,ho,lV hI hx hp,Sem.run_bind,uR hv wa]
  rfl
theorem QJ(hI:Inv C a wa st u θ):∀{xs:List Operand},(∀x∈xs,cn C.n x=true)->(xs.all λx=>plain (ev st.σ x))=true->xs.map a.eval=xs.map (ev st.σ)
 |[],_,_=>rfl
 |x::xs,h,hp=>by
  simp only[List.all_cons,Bool.and_eq_true]at hp
  simp only[List.map_cons]
  rw[lV hI (h x (by simp)) hp.1,QJ hI (λy hy=>h y (by simp[hy])) hp.2]
theorem qm(hI:Inv C a wa st u θ){xs:Array Operand}(h:∀x∈xs.toList,cn C.n x=true)(hp:(xs.toList.all λx=>plain (ev st.σ x))=true):xs.map a.eval=(xs.toList.map (ev st.σ)).toArray:=by
 rw[<- QJ hI h hp]
 apply Array.toList_inj.1
 simp
theorem acG{fn:Fn}{first captured:Array Operand}(ho:o.op=.makeFunc fn first captured)(aD:bh C.n o=true)(hI:Inv C a wa st u θ)
  (h:bif first.toList.all (λx=>plain (ev st.σ x))&&captured.toList.all (λx=>plain (ev st.σ x))then
   K (fin o st (.func fn (first.toList.map (ev st.σ)).toArray (captured.toList.map (ev st.σ)).toArray)) u else False):rh E C fz o st θ K Q a wa:=by
 obtain⟨hc,h⟩:=ak h
 simp only[Bool.and_eq_true]at hc
 have h1:∀x∈first.toList,cn C.n x=true:=λx hx=>jt aD (by simp[ho,Op.operands];left;simpa using hx)
 have h2:∀x∈captured.toList,cn C.n x=true:=λx hx=>jt aD (by simp[ho,Op.operands];right;simpa using hx)
 refine aO (wb:=wa) ?_ (aM aD hI rfl h)
 simp only[execOp,ho,qm hI h1 hc.1,qm hI h2 hc.2,Instr.makeFunc]
 rfl
theorem acK{x:Operand}{i:Nat}(ho:o.op=.extract x i)(aD:bh C.n o=true)(hI:Inv C a wa st u θ)
  (h:match ev st.σ x with
   | .tuple vs=>(match vs[i]? with
     |some v=>bif plain v then K (fin o st v) u else False
     |none=>False)
   |_=>False):rh E C fz o st θ K Q a wa:=by
 have hx:cn C.n x=true:=jt aD (by simp[ho,Op.operands])
 split at h
 ·rename_i vs he
  cases hv:vs[i]? with
  |none=>simp only[hv]at h
  |some v=>
   simp only[hv]at h
   obtain⟨lC,h⟩:=ak h
   refine aO (r:=v) (wb:=wa) ?_ (aM aD hI lC h)
   simp[execOp,ho,aR hI hx he rfl,Instr.extract,hv]
 ·exact h.elim
theorem acD{x:Operand}(ho:o.op=.nilCheck x)(aD:bh C.n o=true)(hI:Inv C a wa st u θ)
  (h:match ev st.σ x with
   | .complex .f64 k off=>K (fin o st (cY k off)) u
   | .pointer p=>nn p (K (fin o st (.pointer p)) u)
   | .func f p q=>qy f (K (fin o st (.func f p q)) u)
   |_=>False):rh E C fz o st θ K Q a wa:=by
 have hx:cn C.n x=true:=jt aD (by simp[ho,Op.operands])
 split at h
 ·rename_i k off he
  obtain⟨iV,hm⟩:=jg hI hx he
  refine aO (r:=.pointer (some ⟨θ k,off,none⟩)) (wb:=wa) (by simp[execOp,ho,iV]) ?_
  exact jH aD hI (v:=cY k off) rfl (λk' o' e=>by simp only[Value.complex.injEq,true_and]at e;rw[<- e.1];exact hm) h
 ·rename_i p he
  have iV:=aR hI hx he rfl
  cases p with
  |none=>exact h.elim
  |some p=>exact aO (r:=.pointer (some p)) (wb:=wa) (by simp[execOp,ho,iV]) (aM aD hI rfl h)
 ·rename_i f p q he
  have iV:=aR hI hx he rfl
  cases f with
  |method n=>exact h.elim
  |_=>exact aO (wb:=wa) (by simp[execOp,ho,iV]) (aM aD hI rfl h)
 ·exact h.elim
theorem MO{P:Program}{t:TypeId}{f d:Nat}(h:vl P t f=some d):∃fs x,P.underlying t=some (.struct fs)/\fs[f]?=some x/\x.offset=d/\P.cellsOf x.type≠0:=by
 unfold vl at h
 cases hu:P.underlying t with
 |none=>simp[hu]at h
 |some D=>
  cases D<;>simp only[hu]at h<;>try (cases h;done)
  rename_i fs
  cases hf:fs[f]? with
  |none=>simp[hf]at h
  |some x=>
   simp only[hf,Bool.cond_eq_ite,beq_iff]at h
   split at h
   ·cases h
   ·rename_i hz
    simp only[Option.some.injEq]at h
    exact⟨fs,x,rfl,hf,h,hz⟩
theorem kD{P:Program}{w:World}{t:TypeId}{f d b off:Nat}(h:vl P t f=some d):(Instr.fieldAt t (.pointer (some ⟨b,off,none⟩)) f).run P w=.ok (.pointer (some ⟨b,off+d,none⟩)) w:=by
 obtain⟨fs,x,hu,hf,rfl,hz⟩:=MO h
 have hi:∃i,P.info? x.type=some i:=by
  cases hi:P.info? x.type with
  |none=>simp[Program.cellsOf,hi]at hz
  |some i=>exact⟨i,rfl⟩
 obtain⟨i,hi⟩:=hi
 simp only[Instr.fieldAt,Sem.run_bind,aL hu,Result.andThen_ok,hf,Instr.sureAddr,Sem.run_pure,fieldPlace,bO hi,if_neg hz,iQ]
theorem agF{t:TypeId}{x:Operand}{f d:Nat}(ho:o.op=.fieldAddr t x f)(aD:bh C.n o=true)(hI:Inv C a wa st u θ)(hd:vl E.P t f=some d)
  (h:match ev st.σ x with
   | .complex .f64 k off=>K (fin o st (cY k (off+d))) u
   |v=>cX v λb off=>K (fin o st (.pointer (some ⟨b,off+d,none⟩))) u):rh E C fz o st θ K Q a wa:=by
 have hx:cn C.n x=true:=jt aD (by simp[ho,Op.operands])
 split at h
 ·rename_i k off he
  obtain⟨iV,hm⟩:=jg hI hx he
  refine aO (r:=.pointer (some ⟨θ k,off+d,none⟩)) (wb:=wa) ?_ ?_
  ·simp only[execOp,ho,iV,Sem.run_bind,kD hd];rfl
  ·exact jH aD hI (v:=cY k (off+d)) rfl (λk' o' e=>by simp only[Value.complex.injEq,true_and]at e;rw[<- e.1];exact hm) h
 ·obtain⟨b,off,hv,h⟩:=eV h
  have iV:=aR hI hx hv rfl
  refine aO (r:=.pointer (some ⟨b,off+d,none⟩)) (wb:=wa) ?_ (aM aD hI rfl h)
  simp only[execOp,ho,iV,Sem.run_bind,kD hd];rfl
theorem acJ{t:TypeId}{x:Operand}{f:Nat}(ho:o.op=.field t x f)(aD:bh C.n o=true)(hI:Inv C a wa st u θ)
  (h:match ev st.σ x with
   | .agg cs=>(match Am E.P t f cs.toList with
     |some v=>bif plain v then K (fin o st v) u else False
     |none=>False)
   |_=>False):rh E C fz o st θ K Q a wa:=by
 have hx:cn C.n x=true:=jt aD (by simp[ho,Op.operands])
 split at h
 ·rename_i cs he
  cases hv:Am E.P t f cs.toList with
  |none=>simp only[hv]at h
  |some v=>
   simp only[hv]at h
   obtain⟨lC,h⟩:=ak h
   refine aO (r:=v) (wb:=wa) ?_ (aM aD hI lC h)
   unfold Am at hv
   cases hu:E.P.underlying t with
   |none=>simp[hu]at hv
   |some D=>
    cases D<;>simp only[hu]at hv<;>try (cases hv;done)
    rename_i fs
    cases hf:fs[f]? with
    |none=>simp[hf]at hv
    |some y=>
     simp only[hf,Bool.cond_eq_ite,Bool.and_eq_true,Nat.ble_eq]at hv
     split at hv
     ·rename_i hc
      obtain⟨hi,hle⟩:=hc
      obtain⟨d,Wj⟩:=Option.isSome_iff_exists.1 hi
      simp only[execOp,ho,aR hI hx he rfl,Instr.field,Sem.run_bind,aL hu,Result.andThen_ok,hf,asAgg,Sem.run_pure]
      split at hv
      ·rename_i kL
       simp only[Option.some.injEq]at hv
       rw[eZ Wj kL,<- hv]
       simp only[Result.andThen_ok]
       congr 3
       apply Array.toList_inj.1
       rw[Array.toList_extract,List.extract_eq_take_drop]
       simp
      ·rename_i kL
       simp only[Bool.not_eq_true]at kL
       rw[gE Wj kL (v:=v) (by simpa using hv)]
       rfl
     ·cases hv
 ·exact h.elim
theorem pT{P:Program}{w:World}{k:IntKind}{i:Int}{y:Nat}{code:BoundsCode}(h1:0<=i)(h2:i<=y):(Instr.sliceBound (.int k i) y code).run P w=.ok i.toNat w:=by
 simp only[Instr.sliceBound,asIntOf,Sem.run_bind,Sem.run_pure,Result.andThen_ok]
 rw[if_pos ⟨h1,h2⟩];rfl
theorem ot{ρ:Operand->Value}{d i:Int}(h:cE ρ none d=some i):i=d:=by simp only[cE,Option.some.injEq]at h;exact h.symm
theorem kF{ρ:Operand->Value}{x:Operand}{d i:Int}(h:cE ρ (some x) d=some i):∃k,ρ x=.int k i:=by
 simp only[cE]at h
 split at h
 ·rename_i k j he;simp only[Option.some.injEq]at h;subst h;exact⟨k,he⟩
 ·cases h
theorem mo{P:Program}{w:World}{isS:Bool}{len cap:Nat}{lo hi mx:Option Operand}{ρ ρr:Operand->Value}{l h m:Int}(iV:∀x k i,(lo=some x\/hi=some x\/mx=some x)->ρ x=.int k i->ρr x=.int k i)
  (hl:cE ρ lo 0=some l) (hh:cE ρ hi len=some h) (hm:cE ρ mx cap=some m) (QB:(mx.isSome&&hi.isNone)=false)
  (h0:0<=l) (h1:l<=h) (h2:h<=m) (h3:m<=cap):(Instr.sliceBounds isS len cap (lo.map ρr) (hi.map ρr) (mx.map ρr)).run P w=.ok (l.toNat,h.toNat,m.toNat) w:=by
 have fin:∀(H M:Nat) (code:BoundsCode),l<=(H:Int)->∀(X:Option Value),X=lo.map ρr->
   (match X with|some v=>(do let l <- Instr.sliceBound v H code;pure (l,H,M):Sem (Nat×Nat×Nat))|none=>(do let l <- pure 0;pure (l,H,M):Sem (Nat×Nat×Nat))).run P w=.ok (l.toNat,H,M) w:=by
  rintro H M code hH X rfl
  cases lo with
  |none=>rw[ot hl];simp
  |some x=>
   obtain⟨k,hk⟩:=kF hl
   simp only[Option.map_some,iV x k l (by simp) hk,Sem.run_bind,pT h0 hH,Result.andThen_ok,Sem.run_pure]
 cases mx with
 |none=>
  obtain rfl:=ot hm
  cases hi with
  |none=>
   obtain rfl:=ot hh
   simp only[Instr.sliceBounds,Option.map_none,Sem.run_bind,Sem.run_pure,Result.andThen_ok,Int.toNat_natCast]
   exact fin len cap _ h1 _ rfl
  |some y=>
   obtain⟨k,hk⟩:=kF hh
   simp only[Instr.sliceBounds,Option.map_none,Option.map_some,Sem.run_bind,Sem.run_pure,Result.andThen_ok,Int.toNat_natCast,iV y k h (by simp) hk,pT (by omega) h2]
   exact fin h.toNat cap _ (by omega) _ rfl
 |some z=>
  obtain⟨kz,hkz⟩:=kF hm
  cases hi with
  |none=>simp at QB
  |some y=>
   obtain⟨k,hk⟩:=kF hh
   simp only[Instr.sliceBounds,Option.map_some,Sem.run_bind,Result.andThen_ok,iV z kz m (by simp) hkz,pT (show 0<=m by omega) h3,iV y k h (by simp) hk,
    pT (show 0<=h by omega) (show h<=((m.toNat:Nat):Int) by omega)]
   exact fin h.toNat m.toNat _ (by omega) _ rfl
theorem Tl{t:TypeId}{x:Operand}{lo hi mx:Option Operand}
  (h:match E.P.underlying t,ev st.σ x with
   |some (.slice e),.slice b len cap=>(match cE (ev st.σ) lo 0,cE (ev st.σ) hi len,cE (ev st.σ) mx cap with
    |some l,some h,some m=>(bif (mx.isSome&&hi.isNone)||(E.P.info? e).isNone then False else(m.toNat=l.toNat\/fW b)/\0<=l/\l<=h/\h<=m/\m<=cap/\K (fin o st (.slice (sX b l.toNat m.toNat (E.P.cellsOf e)) (h.toNat-l.toNat) (m.toNat-l.toNat))) u)
    |_,_,_=>False)
   |some .string,.string s=>(match mx with
    |some _=>False
    |none=>match cE (ev st.σ) lo 0,cE (ev st.σ) hi s.size with
     |some l,some h=>0<=l/\l<=h/\h<=s.size/\K (fin o st (.string (s.extract l.toNat h.toNat))) u
     |_,_=>False)
   |_,_=>False) (ho:o.op=.slice t x lo hi mx) (aD:bh C.n o=true) (hI:Inv C a wa st u θ):rh E C fz o st θ K Q a wa:=by
 have hx:cn C.n x=true:=jt aD (by simp[ho,Op.operands])
 have iV:∀y k i,(lo=some y\/hi=some y\/mx=some y)->ev st.σ y=.int k i->a.eval y=.int k i:=by
  intro y k i hy he
  refine aR hI (jt aD ?_) he rfl
  rcases hy with rfl|rfl|rfl<;>simp[ho,Op.operands]
 split at h
 ·rename_i e b len cap hu he
  split at h
  ·rename_i l h' m hl hh hm
   cases tN:(mx.isSome&&hi.isNone)||(E.P.info? e).isNone with
   |true=>simp only[tN,cond_true]at h
   |false=>
    simp only[tN,cond_false]at h
    simp only[Bool.or_eq_false_iff]at tN
    obtain⟨QB,Ai⟩:=tN
    obtain⟨i,wQ⟩:∃i,E.P.info? e=some i:=by cases hq:E.P.info? e<;>simp_all
    obtain⟨NB,h0,h1,h2,h3,hK⟩:=h
    refine aO (r:=.slice (sX b l.toNat m.toNat (E.P.cellsOf e)) (h'.toNat-l.toNat) (m.toNat-l.toNat)) (wb:=wa) ?_ (aM aD hI rfl hK)
    simp only[execOp,ho,aR hI hx he rfl,Sem.run_bind,Instr.sliceAt,aL hu,Result.andThen_ok,Instr.slice,mo iV hl hh hm QB h0 h1 h2 h3,bO wQ,Sem.run_pure]
    congr 3
    unfold sX
    split
    ·rfl
    ·rename_i uE
     cases b with
     |none=>rfl
     |some b=>
      simp only[Option.map_some,Option.some.injEq]
      unfold Addr.add
      split
      ·rename_i Al
       obtain⟨bb,bo,bs⟩:=b
       have:=(NB.resolve_left uE) _ rfl
       simp only at this
       subst this
       simp[Al]
      ·rfl
  ·exact h.elim
 ·rename_i s hu he
  cases mx with
  |some _=>exact h.elim
  |none=>
   simp only at h
   split at h
   ·rename_i l h' hl hh
    obtain⟨h0,h1,h2,hK⟩:=h
    refine aO (r:=.string (s.extract l.toNat h'.toNat)) (wb:=wa) ?_ (aM aD hI rfl hK)
    have hb:=mo (P:=E.P) (w:=wa) (isS:=false) (len:=s.size) (cap:=s.size) (mx:=none) (m:=s.size) (λy k i hy=>iV y k i (by rcases hy with h|h|h;exact .inl h;exact .inr (.inl h);cases h)) hl hh rfl (by simp) h0 h1 h2 (by omega)
    simp only[execOp,ho,aR hI hx he rfl,Sem.run_bind,Instr.sliceAt,aL hu,Result.andThen_ok,Instr.slice]
    simp only[Option.map_none]at hb
    simp only[Option.map_none,Option.isSome_none,Bool.false_eq_true,if_false,Sem.run_bind,hb,Result.andThen_ok,Sem.run_pure]
   ·exact h.elim
 ·exact h.elim
end
section
variable {E:Env} {C:Ctx} {a:Act} {wa:World} {st:St} {u:UW} {θ:Nat->Nat} {fz:List Nat} {o:Oper} {K:St->UW->Prop} {Q:Exit->Act->World->Prop}
theorem tU{P:Program}{t:TypeId}(h:P.cellsOf t≠0):∃i,P.info? t=some i:=by
 cases hi:P.info? t with
 |none=>simp[Program.cellsOf,hi]at h
 |some i=>exact⟨i,rfl⟩
theorem agE{t:TypeId}{x i:Operand}(ho:o.op=.indexAddr t x i)(aD:bh C.n o=true)(hI:Inv C a wa st u θ)
  (h:match E.P.underlying t,ev st.σ x,ev st.σ i with
   |some (.slice e),.slice b len _,.int _ j=>(bif (E.P.info? e).isSome then bR b λb off=>0<=j/\j<len/\K (fin o st (.pointer (some ⟨b,off+j.toNat*E.P.cellsOf e,none⟩))) u else False)
   |some (.array len e),.complex .f64 k off,.int _ j=>(bif decide (0<=j)&&decide (j<len)&&(E.P.info? e).isSome then K (fin o st (cY k (off+j.toNat*E.P.cellsOf e))) u else False)
   |_,_,_=>False):rh E C fz o st θ K Q a wa:=by
 have hx:cn C.n x=true:=jt aD (by simp[ho,Op.operands])
 have hi:cn C.n i=true:=jt aD (by simp[ho,Op.operands])
 split at h
 ·rename_i e b len c k j hu he Ih
  obtain⟨gp,h⟩:=ak h
  obtain⟨ie,Ai⟩:=Option.isSome_iff_exists.1 gp
  obtain⟨bb,off,rfl,h1,h2,h⟩:=eM h
  refine aO (r:=.pointer (some ⟨bb,off+j.toNat*E.P.cellsOf e,none⟩)) (wb:=wa) ?_ (aM aD hI rfl h)
  simp only[execOp,ho,aR hI hx he rfl,aR hI hi Ih rfl,Instr.indexAt,asIntOf,Sem.run_bind,Sem.run_pure,Result.andThen_ok,aL hu]
  rw[if_pos ⟨h1,h2⟩]
  simp only[Sem.run_bind,bO Ai,Result.andThen_ok,Sem.run_pure,iQ]
 ·rename_i len e k off kk j hu he Ih
  obtain⟨hc,h⟩:=ak h
  simp only[Bool.and_eq_true,decide_eq_true_eq]at hc
  obtain⟨⟨h1,h2⟩,gp⟩:=hc
  obtain⟨ie,Ai⟩:=Option.isSome_iff_exists.1 gp
  obtain⟨iV,hm⟩:=jg hI hx he
  refine aO (r:=.pointer (some ⟨θ k,off+j.toNat*E.P.cellsOf e,none⟩)) (wb:=wa) ?_ ?_
  ·simp only[execOp,ho,iV,aR hI hi Ih rfl,Instr.indexAt,asIntOf,Sem.run_bind,Sem.run_pure,Result.andThen_ok,aL hu,Instr.sureAddr]
   rw[if_pos ⟨h1,h2⟩]
   simp only[Sem.run_bind,bO Ai,Result.andThen_ok,Sem.run_pure,iQ]
  ·exact jH aD hI (v:=cY k _) rfl (λk' o' e=>by simp only[Value.complex.injEq,true_and]at e;rw[<- e.1];exact hm) h
 ·exact h.elim
theorem acI{t:TypeId}{x i:Operand}(ho:o.op=.index t x i)(aD:bh C.n o=true)(hI:Inv C a wa st u θ)
  (h:match E.P.underlying t,ev st.σ x,ev st.σ i with
   |some .string,.string s,.int _ j=>0<=j/\∃c:UInt8,s[j.toNat]?=some c/\K (fin o st (.int .u8 c.toNat)) u
   |some (.array len e),.agg cs,.int _ j=>0<=j/\j<len/\(E.P.info? e).isSome=true/\∃v,MT E.P e (j.toNat*E.P.cellsOf e) cs.toList=some v/\plain v=true/\K (fin o st v) u
   |_,_,_=>False):rh E C fz o st θ K Q a wa:=by
 have hx:cn C.n x=true:=jt aD (by simp[ho,Op.operands])
 have hi:cn C.n i=true:=jt aD (by simp[ho,Op.operands])
 split at h
 ·rename_i s k j hu he Ih
  obtain⟨h1,c,h2,h⟩:=h
  refine aO (r:=.int .u8 c.toNat) (wb:=wa) ?_ (aM aD hI rfl h)
  simp only[execOp,ho,aR hI hx he rfl,aR hI hi Ih rfl,Instr.index,asIntOf,Sem.run_bind,Sem.run_pure,Result.andThen_ok,aL hu,if_pos h1,h2]
 ·rename_i len e cs k j hu he Ih
  obtain⟨h1,h2,gp,v,hv,lC,h⟩:=h
  obtain⟨ie,Ai⟩:=Option.isSome_iff_exists.1 gp
  refine aO (r:=v) (wb:=wa) ?_ (aM aD hI lC h)
  simp only[execOp,ho,aR hI hx he rfl,aR hI hi Ih rfl,Instr.index,asIntOf,Sem.run_bind,Sem.run_pure,Result.andThen_ok,aL hu,if_pos (show(0:Int)<=j/\j<len from⟨h1,h2⟩),bO Ai]
  rw[JN hv];rfl
 ·exact h.elim
theorem tt(hI:Inv C a wa st u θ){ps:Array (Nat×Operand)}(h:∀x∈ps.toList,cn C.n x.2=true)(hp:(ps.toList.all λp=>plain (ev st.σ p.2))=true):
  (ps.map λp=>(p.1,a.eval p.2))=(ps.toList.map λp=>(p.1,ev st.σ p.2)).toArray:=by
 apply Array.toList_inj.1
 simp only[Array.toList_map]
 apply List.map_congr_left
 intro p hpm
 rw[lV hI (h p hpm) (List.all_eq_true.1 hp p hpm)]
theorem acM{t:TypeId}{ps:Array (Nat×Operand)}(ho:o.op=.build t ps)(aD:bh C.n o=true)(hI:Inv C a wa st u θ)
  (h:bif ps.toList.all λp=>plain (ev st.σ p.2)then(match Vr E.P t (ps.toList.map λp=>(p.1,ev st.σ p.2))with
   |some vs=>K (fin o st (.agg vs.toArray)) u
   |none=>False)else False):rh E C fz o st θ K Q a wa:=by
 obtain⟨hp,h⟩:=ak h
 have hx:∀x∈ps.toList,cn C.n x.2=true:=λx hx=>jt aD (by simp only[ho,Op.operands];simp only[List.mem_toArray,List.mem_map];exact⟨x,hx,rfl⟩)
 cases hb:Vr E.P t (ps.toList.map λp=>(p.1,ev st.σ p.2))with
 |none=>simp only[hb]at h
 |some vs=>
  simp only[hb]at h
  refine aO (r:=.agg vs.toArray) (wb:=wa) ?_ (aM aD hI rfl h)
  have e:=tt hI hx hp
  simp only[execOp,ho,e,Sem.run_bind]
  rw[run_build (r:=vs) (by simpa using hb)]
  rfl
theorem acL{t:TypeId}{len:Nat}{ps:Array (Nat×Operand)}(ho:o.op=.buildSlice t len ps)(aD:bh C.n o=true)(hI:Inv C a wa st u θ)
  (h:bif (ps.toList.all λp=>plain (ev st.σ p.2))&&Nat.beq ps.toList.length len then(match oW E.P t with
   |none=>False
   |some e=>match mJ (E.P.cellsOf e) 0 (ps.toList.map λp=>(p.1,ev st.σ p.2))with
    |some vs=>bif Nat.ble vs.length 65536&&((E.P.info? e).bind (·.zero)).isSome&& !Nat.beq (E.P.cellsOf e) 0 then
      ∀(b:Nat) (w':World),pG u.toWorld w' b (.cells vs.toArray e (0,0))->K (fin o st (.slice (some ⟨b,0,none⟩) len len)) (u.born b w')else False
    |none=>False)else False):rh E C fz o st θ K Q a wa:=by
 obtain⟨hc,h⟩:=ak h
 simp only[Bool.and_eq_true,beq_iff]at hc
 obtain⟨hp,hlen⟩:=hc
 have hx:∀x∈ps.toList,cn C.n x.2=true:=λx hx=>jt aD (by simp only[ho,Op.operands];simp only[List.mem_toArray,List.mem_map];exact⟨x,hx,rfl⟩)
 unfold oW at h
 cases hu:E.P.underlying t with
 |none=>simp only[hu]at h
 |some d=>
  cases d<;>simp only[hu]at h
  rename_i e
  cases hb:mJ (E.P.cellsOf e) 0 (ps.toList.map λp=>(p.1,ev st.σ p.2))with
  |none=>simp only[hb]at h
  |some vs=>
   simp only[hb]at h
   obtain⟨hc,h⟩:=ak h
   simp only[Bool.and_eq_true,Nat.ble_eq,Bool.not_eq_true']at hc
   obtain⟨⟨h1,h2⟩,h3⟩:=hc
   obtain⟨z,hz⟩:=Option.isSome_iff_exists.1 h2
   have hnz:E.P.cellsOf e≠0:=λe0=>by rw[beq_iff.2 e0]at h3;cases h3
   obtain⟨ie,Ai⟩:=tU hnz
   have DH:=zp hb
   simp only[List.length_map,hlen]at DH
   obtain⟨w',jO,dC⟩:=hI.born (.cells vs.toArray e (0,0))
   refine aO (r:=.slice (some ⟨wa.heap.size,0,none⟩) len len) (wb:=wa.alloc (.cells vs.toArray e (0,0))) ?_ (aM aD dC rfl (h _ _ jO))
   have e0:=tt hI hx hp
   simp only[execOp,ho,e0,Sem.run_bind,Instr.buildSlice,aL hu,Result.andThen_ok,bO Ai]
   rw[if_neg (by rw[<- DH];omega)]
   have Fv:∀cs:Array Value,cs.size=len*E.P.cellsOf e->Instr.fill (λi=>some (i*E.P.cellsOf e,E.P.cellsOf e)) cs (ps.toList.map λp=>(p.1,ev st.σ p.2))=some vs.toArray:=by
    intro cs qx
    rw[qk _ 0 vs cs hb (by simp only[List.length_map,hlen,Nat.zero_add];exact qx)]
    simp
   have hzr:(if len*E.P.cellsOf e=0 then(pure #[]:Sem (Array Value))else do pure (<- zeroValue e).cells).run E.P wa=.ok (if len*E.P.cellsOf e=0 then #[]else z.cells) wa:=by
    split
    ·rfl
    ·simp only[Sem.run_bind,iG hz,Result.andThen_ok,Sem.run_pure]
   split
   ·rename_i hl0
    simp only[Sem.run_bind,Sem.run_pure,Result.andThen_ok]
    rw[Fv _ (by simp)]
    simp only[newRow,Sem.run_bind,run_newObj,Result.andThen_ok,Sem.run_pure]
    rfl
   ·simp only[Sem.run_bind,iG hz,Sem.run_pure,Result.andThen_ok]
    rw[Fv _ (by simp)]
    simp only[newRow,Sem.run_bind,run_newObj,Result.andThen_ok,Sem.run_pure]
    rfl
theorem Tn{t:TypeId}{len:Nat}{ps:Array (Nat×Operand)}(ho:o.op=.buildSlice t len ps)(aD:bh C.n o=true)(hI:Inv C a wa st u θ)
  (h:bif (ps.toList.all λp=>plain (ev st.σ p.2))&&Nat.beq ps.toList.length len then(match oW E.P t with
   |none=>False
   |some e=>match mJ (E.P.cellsOf e) 0 (ps.toList.map λp=>(p.1,ev st.σ p.2))with
    |some vs=>bif Nat.ble vs.length 65536&&((E.P.info? e).bind (·.zero)).isSome&& !Nat.beq (E.P.cellsOf e) 0 then
      ∀(b:Nat) (w':World),pG u.toWorld w' b (.cells vs.toArray e (0,0))->K (fin o st (.slice (some ⟨b,0,none⟩) len len)) (u.born b w')else False
    |none=>False)else False):∃v ob,(execOp a.eval o).run E.P wa=.ok (.value v) (wa.alloc ob):=by
 obtain⟨hc,h⟩:=ak h
 simp only[Bool.and_eq_true,beq_iff]at hc
 obtain⟨hp,hlen⟩:=hc
 have hx:∀x∈ps.toList,cn C.n x.2=true:=λx hx=>jt aD (by simp only[ho,Op.operands];simp only[List.mem_toArray,List.mem_map];exact⟨x,hx,rfl⟩)
 unfold oW at h
 cases hu:E.P.underlying t with
 |none=>simp only[hu]at h
 |some d=>
  cases d<;>simp only[hu]at h
  rename_i e
  cases hb:mJ (E.P.cellsOf e) 0 (ps.toList.map λp=>(p.1,ev st.σ p.2))with
  |none=>simp only[hb]at h
  |some vs=>
   simp only[hb]at h
   obtain⟨hc,h⟩:=ak h
   simp only[Bool.and_eq_true,Nat.ble_eq,Bool.not_eq_true']at hc
   obtain⟨⟨h1,h2⟩,h3⟩:=hc
   obtain⟨z,hz⟩:=Option.isSome_iff_exists.1 h2
   have hnz:E.P.cellsOf e≠0:=λe0=>by rw[beq_iff.2 e0]at h3;cases h3
   obtain⟨ie,Ai⟩:=tU hnz
   have DH:=zp hb
   simp only[List.length_map,hlen]at DH
   refine⟨.slice (some ⟨wa.heap.size,0,none⟩) len len,.cells vs.toArray e (0,0),?_⟩
   have e0:=tt hI hx hp
   simp only[execOp,ho,e0,Sem.run_bind,Instr.buildSlice,aL hu,Result.andThen_ok,bO Ai]
   rw[if_neg (by rw[<- DH];omega)]
   have Fv:∀cs:Array Value,cs.size=len*E.P.cellsOf e->Instr.fill (λi=>some (i*E.P.cellsOf e,E.P.cellsOf e)) cs (ps.toList.map λp=>(p.1,ev st.σ p.2))=some vs.toArray:=by
    intro cs qx
    rw[qk _ 0 vs cs hb (by simp only[List.length_map,hlen,Nat.zero_add];exact qx)]
    simp
   have hzr:(if len*E.P.cellsOf e=0 then(pure #[]:Sem (Array Value))else do pure (<- zeroValue e).cells).run E.P wa=.ok (if len*E.P.cellsOf e=0 then #[]else z.cells) wa:=by
    split
    ·rfl
    ·simp only[Sem.run_bind,iG hz,Result.andThen_ok,Sem.run_pure]
   split
   ·rename_i hl0
    simp only[Sem.run_bind,Sem.run_pure,Result.andThen_ok]
    rw[Fv _ (by simp)]
    simp only[newRow,Sem.run_bind,run_newObj,Result.andThen_ok,Sem.run_pure]
    rfl
   ·simp only[Sem.run_bind,iG hz,Sem.run_pure,Result.andThen_ok]
    rw[Fv _ (by simp)]
    simp only[newRow,Sem.run_bind,run_newObj,Result.andThen_ok,Sem.run_pure]
    rfl
theorem bS{P:Program}{b:Builtin}{args:Array Operand}{ts:Array TypeId}{w:World}{s:Sem Value}{v:Value}{w':World}(ho:o.op=.call ⟨.builtin b,args,ts⟩)
  (hb:∀consts,builtin b ts o.type consts (args.map a.eval)=(do pure (.value (<- s)):Sem Next)) (hs:s.run P w=.ok v w'):
  (execOp a.eval o).run P w=.ok (.value v) w':=by
 simp only[execOp,ho,resolve,Sem.run_bind,Sem.run_pure,Result.andThen_ok,invoke]
 rw[hb]
 simp only[Sem.run_bind,hs,Result.andThen_ok,Sem.run_pure]
theorem tI(hI:Inv C a wa st u θ):∀{xs:List Operand} {k:IntKind} {is:List Int},(∀x∈xs,cn C.n x=true)->kY (ev st.σ) xs=some (k,is)->xs.map a.eval=is.map (Value.int k)/\is≠[]
 |[],_,_,_,h=>by simp[kY]at h
 |[x],k,is,aD,h=>by
  simp only[kY]at h
  split at h
  ·rename_i k' i he
   simp only[Option.some.injEq,Prod.mk.injEq]at h
   obtain⟨rfl,rfl⟩:=h
   simp[aR hI (aD x (by simp)) he rfl]
  ·cases h
 |x::y::l,k,is,aD,h=>by
  simp only[kY]at h
  split at h
  ·rename_i k1 i k2 js he hr
   simp only[Bool.cond_eq_ite]at h
   split at h
   ·rename_i hk
    simp only[decide_eq_true_eq]at hk
    simp only[Option.some.injEq,Prod.mk.injEq]at h
    obtain⟨rfl,rfl⟩:=h
    subst hk
    obtain⟨h1,_⟩:=tI hI (xs:=y::l) (λz hz=>aD z (by simp[hz])) hr
    refine⟨?_,by simp⟩
    rw[List.map_cons,h1,aR hI (aD x (by simp)) he rfl];rfl
   ·cases h
  ·cases h
theorem Cf{P:Program}{w:World}{k:IntKind}:∀(is:List Int) (i:Int),((is.map (Value.int k)).foldlM Builtin.min2 (.int k i)).run P w=.ok (.int k (is.foldl (λx y=>if y<x then y else x) i)) w
 |[],i=>by simp
 |j::is,i=>by simp only[List.map_cons,List.foldlM_cons,Builtin.min2,Sem.run_bind,Sem.run_pure,Result.andThen_ok,List.foldl_cons];exact Cf is _
theorem Cg{P:Program}{w:World}{k:IntKind}:∀(is:List Int) (i:Int),((is.map (Value.int k)).foldlM Builtin.max2 (.int k i)).run P w=.ok (.int k (is.foldl (λx y=>if y>x then y else x) i)) w
 |[],i=>by simp
 |j::is,i=>by simp only[List.map_cons,List.foldlM_cons,Builtin.max2,Sem.run_bind,Sem.run_pure,Result.andThen_ok,List.foldl_cons];exact Cg is _
theorem AT{P:Program}{w:World}{size m c:Nat}{xb:Option Addr}{new:List Value}(h0:m=0->new=[])(h1:m≠0->∃b off C T f,xb=some ⟨b,off,none⟩/\w.heap[b]?=some (.cells C T f)/\off+m*size<=C.size/\new=(C.toList.drop off).take (m*size)):
  (Builtin.firstCells size m (.slice xb m c)).run P w=.ok new.toArray w:=by
 by_cases hm:m=0
 ·subst hm
  rw[h0 rfl]
  cases xb<;>simp[Builtin.firstCells,loadCells,loadCellsFrom]
 ·obtain⟨b,off,C,T,f,rfl,hb,hl,rfl⟩:=h1 hm
  simp only[Builtin.firstCells]
  exact kX hb hl
theorem acO{x y:Operand}{t t' e e':TypeId}{base xb:Option Addr}{n cap m c':Nat}(ho:o.op=.call ⟨.builtin .append,#[x,y],#[t,t']⟩)(aD:bh C.n o=true)(hI:Inv C a wa st u θ)
  (hu:E.P.underlying t=some (.slice e)) (dZ:E.P.underlying t'=some (.slice e')) (hx:ev st.σ x=.slice base n cap) (hy:ev st.σ y=.slice xb m c')
  (h:Nd E.P e base n cap xb m u λp q r w'=>K (fin o st (.slice p q r)) w'):rh E C fz o st θ K Q a wa:=by
 have kx:cn C.n x=true:=jt aD (by simp[ho,Op.operands,Call.operands])
 have ky:cn C.n y=true:=jt aD (by simp[ho,Op.operands,Call.operands])
 have hex:=aR hI kx hx rfl
 have WA:=aR hI ky hy rfl
 obtain⟨size,bytes,zero,qZ,new,Fq,wu,NC,ho0,ho1,ap8,Uu,nH,Fc,Ie,tL,ad8⟩:=h
 cases hi:E.P.info? e with
 |none=>simp[hi]at Fq
 |some i=>
  simp only[hi,Option.map_some,Option.some.injEq,Prod.mk.injEq]at Fq
  obtain⟨rfl,rfl,hz⟩:=Fq
  cases hzz:i.zero with
  |none=>simp[hzz]at hz
  |some z=>
   simp only[hzz,Option.map_some,Option.some.injEq]at hz
   subst hz
   have hzr:(E.P.info? e).bind (·.zero)=some z:=by simp[hi,hzz]
   have rdw:∀{A:Option Addr} {k:Nat} {vs:List Value},(k*i.size≠0)->(bR A λb o=>rd u.heap b o (k*i.size)=some vs)->∃b off C T f,A=some ⟨b,off,none⟩/\wa.heap[b]?=some (.cells C T f)/\off+k*i.size<=C.size/\vs=(C.toList.drop off).take (k*i.size):=by
    intro A k vs hk hw
    obtain⟨b,off,rfl,eF⟩:=eM hw
    obtain⟨C,T,f,c1,c2,c3⟩:=pU hI.below eF hk
    exact⟨b,off,C,T,f,rfl,c1,c2,c3⟩
   have rd0:∀{A:Option Addr} {k:Nat} {vs:List Value},(k*i.size=0)->(bR A λb o=>rd u.heap b o (k*i.size)=some vs)->vs=[]:=by
    intro A k vs hk hw
    obtain⟨b,off,rfl,eF⟩:=eM hw
    rw[hk]at eF
    obtain⟨_,_,_,h|h⟩:=OY hI.below eF
    ·exact List.eq_nil_of_length_eq_zero h.2
    ·exact h.2
   have first:∀{A:Option Addr} {k c:Nat} {vs:List Value} (w:World),w.heap=wa.heap->(k=0->vs=[])->(k≠0->bR A λb o=>rd u.heap b o (k*i.size)=some vs)->(Builtin.firstCells i.size k (.slice A k c)).run E.P w=.ok vs.toArray w:=by
    intro A k c vs w hw h0 h1
    by_cases hk:k=0
    ·exact AT h0 (λh=>absurd hk h)
    ·by_cases kq:k*i.size=0
     ·have vc:=rd0 kq (h1 hk)
      subst vc
      obtain⟨b,off,rfl,_⟩:=eM (h1 hk)
      simp[Builtin.firstCells,loadCells,kq,loadCellsFrom]
     ·exact AT h0 (λ_=>by rw[hw];exact rdw kq (h1 hk))
   by_cases hr:n+m<=cap
   ·rcases tL hr with⟨hm,hK⟩|⟨hm,iu⟩
    ·subst hm
     refine aO (r:=.slice base n cap) (wb:=wa) ?_ (aM aD hI rfl hK)
     refine bS (s:=Builtin.append_ #[t,t'] o.type #[.slice base n cap,.slice xb 0 c']) ho (λ_=>by simp only[builtin,List.map_toArray,List.map_cons,List.map_nil,hex,WA]) ?_
     have hf:=first (A:=xb) (k:=0) (c:=c') wa rfl wu (λh=>absurd rfl h)
     have hnn:new=[]:=wu rfl
     subst hnn
     simp only[Nat.add_zero]at hr
     simp[Builtin.append_,aL hu,aL dZ,sizeOf,typeInfo,hi,Builtin.lenOf,hr,hf,storeCells]
     cases base<;>simp
    ·obtain⟨b,off,rfl,iu⟩:=eM iu
     have hf:=first (A:=xb) (k:=m) (c:=c') wa rfl wu NC
     by_cases bm:new=[]
     ·subst bm
      obtain⟨cc,T,q1,q2,q3,q4⟩:=iu
      have hS:Sto u.toWorld u.toWorld b (.cells cc T (0,0)):=⟨rfl,rfl,rfl,Nat.le_refl _,q1,λ_ _ _=>rfl⟩
      refine aO (r:=.slice (some ⟨b,off,none⟩) (n+m) cap) (wb:=wa) ?_ (aM aD (u':=u.Gz u.toWorld) (θ:=θ) hI rfl (q4 _ hS))
      refine bS (s:=Builtin.append_ #[t,t'] o.type #[.slice (some ⟨b,off,none⟩) n cap,.slice xb m c']) ho (λ_=>by simp only[builtin,List.map_toArray,List.map_cons,List.map_nil,hex,WA]) ?_
      simp[Builtin.append_,aL hu,aL dZ,sizeOf,typeInfo,hi,Builtin.lenOf,hr,hf,storeCells]
     ·obtain⟨cc,T,w',c1,c2,dC,hK⟩:=AX hI iu bm
      refine aO (r:=.slice (some ⟨b,off,none⟩) (n+m) cap) (wb:=gU wa b (.cells (sN cc (off+n*i.size) new) T (0,0))) ?_ (aM aD dC rfl hK)
      refine bS (s:=Builtin.append_ #[t,t'] o.type #[.slice (some ⟨b,off,none⟩) n cap,.slice xb m c']) ho (λ_=>by simp only[builtin,List.map_toArray,List.map_cons,List.map_nil,hex,WA]) ?_
      have hsr:=jF (P:=E.P) (b:=b) (o:=off+n*i.size) (T:=T) new 0 wa cc c1 (by omega) Ie
      simp only[Nat.add_zero]at hsr
      simp[Builtin.append_,aL hu,aL dZ,sizeOf,typeInfo,hi,Builtin.lenOf,hr,hf,iQ,hsr]
   ·have bB:cap<n+m:=by omega
    have lD:=hI.drew
    have GF:n+m<=grownCap wa (n+m) cap e:=grownCap_ge wa (n+m) cap e
    obtain⟨w',hb,dC⟩:=lD.born (.cells (qZ++new++(Builtin.zeroCells z.cells (grownCap wa (n+m) cap e-(n+m))).toList).toArray e (0,0))
    have hK:=ad8 bB (grownCap wa (n+m) cap e) wa.heap.size (Builtin.zeroCells z.cells (grownCap wa (n+m) cap e-(n+m))).toList w' GF (by simp only[Array.length_toList,size_zeroCells];rw[<- Fc];simp) hb
    refine aO (r:=.slice (some ⟨wa.heap.size,0,none⟩) (n+m) (grownCap wa (n+m) cap e)) ?_ (aM aD dC rfl hK)
    refine bS (s:=Builtin.append_ #[t,t'] o.type #[.slice base n cap,.slice xb m c']) ho (λ_=>by simp only[builtin,List.map_toArray,List.map_cons,List.map_nil,hex,WA]) ?_
    have apZ:=growslice_fits bB Uu
    have alF:¬(9223372036854775807<((n:Int)+(m:Int))):=by omega
    have alG:¬(281474976710656<Builtin.nextslicecap (n+m) cap*i.bytes):=by omega
    have hf:=first (A:=xb) (k:=m) (c:=c') wa.drew rfl wu NC
    have hfo:=first (A:=base) (k:=n) (c:=cap) wa.drew rfl ho0 ho1
    simp[Builtin.append_,aL hu,aL dZ,sizeOf,typeInfo,zeroValue,hi,hzz,Builtin.lenOf,hr,alF,alG,Question.forced,hf,hfo,newRow,grownCap]
    congr 2
    apply Array.ext'
    simp
end
section
variable {E:Env} {C:Ctx} {fz:List Nat} {o:Oper} {st:St} {u:UW} {θ:Nat->Nat} {K:St->UW->Prop} {Q:Exit->Act->World->Prop} {a:Act} {wa:World}
theorem acF{t:TypeId}{x:Operand}(ho:o.op=.makeInterface t x)(aD:bh C.n o=true)(hI:Inv C a wa st u θ)
  (h:bif plain (ev st.σ x)then(match pv E.P (Instr.makeInterface t (ev st.σ x))with
   |some v=>bif plain v then K (fin o st v) u else False
   |none=>False)else False):rh E C fz o st θ K Q a wa:=by
 have hx:cn C.n x=true:=jt aD (by simp[ho,Op.operands])
 obtain⟨hp,h⟩:=ak h
 cases hv:pv E.P (Instr.makeInterface t (ev st.σ x))with
 |none=>simp only[hv]at h
 |some v=>
  simp only[hv]at h
  obtain⟨lC,h⟩:=ak h
  refine aO (r:=v) (wb:=wa) ?_ (aM aD hI lC h)
  simp only[execOp,ho,lV hI hx hp,Sem.run_bind,uR hv wa]
  rfl
theorem LO(k:IntKind)(i:Int)(P:Program)(w:World):(asInt (.int k i)).run P w=.ok i w:=by simp[asInt,asIntOf]
theorem NM(z:Array Value)(j:Nat):(Array.range (j*z.size)).map (λi=>z[i % z.size]!)=(List.replicate j z.toList).flatten.toArray:=by
 apply Array.toList_inj.1
 simp only[Array.toList_map,Array.toList_range]
 induction j with
 |zero=>simp
 |succ j ih=>
  rw[Nat.succ_mul,List.range_add,List.map_append,ih,List.replicate_succ',List.flatten_append]
  congr 1
  simp only[List.map_map,List.flatten_cons,List.flatten_nil,List.append_nil]
  refine List.ext_getElem (by simp) λi h1 h2=>?_
  simp only[List.length_map,List.length_range]at h1
  simp[Nat.mul_add_mod_self_right,Nat.mod_eq_of_lt h1,h1]
theorem acE{t:TypeId}{x y:Operand}(ho:o.op=.makeSlice t x y)(aD:bh C.n o=true)(hI:Inv C a wa st u θ)
  (h:match E.P.underlying t,ev st.σ x,ev st.σ y with
  |some (.slice e),.int _ i,.int _ j=>(match(E.P.info? e).map (λi=>(i.size,i.bytes,i.zero.map λz=>z.cells.toList))with
   |some (size,bytes,some zero)=>bif Nat.beq zero.length size&& !Nat.beq size 0 then
     0<=i/\i<=j/\j<4611686018427387904/\j.toNat*bytes<=140737488355328/\
     ∀(b:Nat) (w':World),pG u.toWorld w' b (.cells (List.replicate j.toNat zero).flatten.toArray e (0,0))->K (fin o st (.slice (some ⟨b,0,none⟩) i.toNat j.toNat)) (u.born b w')else False
   |_=>False)
  |_,_,_=>False):rh E C fz o st θ K Q a wa:=by
 have hx:cn C.n x=true:=jt aD (by simp[ho,Op.operands])
 have hy:cn C.n y=true:=jt aD (by simp[ho,Op.operands])
 split at h
 ·rename_i e k i k' j hu ex ey
  cases hi:E.P.info? e with
  |none=>simp[hi]at h
  |some inf=>
   simp only[hi,Option.map_some]at h
   cases hz:inf.zero with
   |none=>simp[hz]at h
   |some z=>
    simp only[hz,Option.map_some]at h
    obtain⟨hc,h1,h2,h3,h4,h⟩:=ak h
    simp only[Bool.and_eq_true,beq_iff,Bool.not_eq_true']at hc
    obtain⟨eg,hnz⟩:=hc
    have hzs:z.cells.size=inf.size:=by simpa using eg
    have wu:inf.size≠0:=λe0=>by rw[beq_iff.2 e0]at hnz;cases hnz
    obtain⟨w',jO,dC⟩:=hI.born (.cells (List.replicate j.toNat z.cells.toList).flatten.toArray e (0,0))
    refine aO (r:=.slice (some ⟨wa.heap.size,0,none⟩) i.toNat j.toNat) (wb:=wa.alloc (.cells (List.replicate j.toNat z.cells.toList).flatten.toArray e (0,0))) ?_ (aM aD dC rfl (h _ _ jO))
    have wi:IntKind.i64.wrap i=i:=IntWalk.i64_in i (by omega)
    have wj:IntKind.i64.wrap j=j:=IntWalk.i64_in j (by omega)
    have ak0:¬((inf.bytes:Int)*j>2 ^ 48):=by
     have:((j.toNat*inf.bytes:Nat):Int)<=140737488355328:=Int.ofNat_le.2 h4
     have e1:((j.toNat:Nat):Int)=j:=Int.toNat_of_nonneg (by omega)
     rw[Int.natCast_mul,e1,Int.mul_comm]at this
     omega
    have lT:E.P.cellsOf e=inf.size:=by simp[Program.cellsOf,hi]
    have hzr:=NM z.cells j.toNat
    rw[hzs]at hzr
    have aei:((decide (j<0)||decide ((inf.bytes:Int)*j>2 ^ 48))||decide (i<0)||decide (i>j))=false:=by
     simp only[decide_eq_false (show ¬j<0 by omega),decide_eq_false ak0,decide_eq_false (show ¬i<0 by omega),decide_eq_false (show ¬i>j by omega),Bool.or_false]
    have hzz:(E.P.info? e).bind (·.zero)=some z:=by simp[hi,hz]
    simp only[execOp,ho,aR hI hx ex rfl,aR hI hy ey rfl,Sem.run_bind,Instr.makeSlice,aL hu,Result.andThen_ok,LO,xP hi,wi,wj]
    rw[if_neg (by rw[aei];simp)]
    by_cases hn:j.toNat*inf.size=0
    ·have hj:j.toNat=0:=(Nat.mul_eq_zero.1 hn).resolve_right wu
     simp[bO hi,lT,hj,newRow]
     congr 2;apply Array.ext';simp
    ·simp[bO hi,lT,hn,iG hzz,newRow,hzr,hzs]
 ·exact h.elim
end
section
variable {E:Env} {C:Ctx} {a:Act} {wa:World} {st:St} {u:UW} {θ:Nat->Nat} {fz:List Nat} {o:Oper} {K:St->UW->Prop} {Q:Exit->Act->World->Prop}
theorem mm{P:Program}{g:FuncId}{args:Array Value}{w:World}(h:ct P g=true):(callFunc g args).run P w=.ok (.enter g args) w:=by
 unfold ct at h
 cases hf:P.funcs[g]? with
 |none=>simp[hf]at h
 |some fn=>
  simp only[hf,Bool.and_eq_true,Bool.not_eq_true']at h
  obtain⟨h1,h2⟩:=h
  cases hb:fn.body with
  |none=>simp[hb]at h2
  |some c=>
   simp only[callFunc,Sem.run_bind,run_program,Result.andThen_ok,hf,h1,hb,Bool.false_eq_true,if_false,Option.isNone_some,Sem.run_pure]
theorem yS{P:Program}{t:TypeId}{F:Value->Prop}(h:exV P t F):∃v,plain v=true/\F v:=by
 unfold exV at h
 cases hk:kinds P t with
 |none=>simp only[hk]at h
 |some ks=>
  simp only[hk]at h
  obtain⟨vs,hl,hp,h⟩:=oV h
  obtain⟨_,_,h2⟩:=jK hk
  exact⟨_,lO hp (h2.imp id λh=>by omega),h⟩
theorem Bz{P:Program}:∀{ts:List TypeId} {F:List Value->Prop},Iw P ts F->∃vs,F vs
 |[],_,h=>⟨[],h⟩
 |t::ts,F,h=>by
  obtain⟨v,_,h⟩:=yS h
  obtain⟨vs,h⟩:=Bz h
  exact⟨_,h⟩
theorem FN{P:Program}{t:TypeId}{F:Value->Prop}(h:NH P t F):∃v,plain v=true/\F v:=by
 unfold NH at h
 split at h
 ·obtain⟨vs,h⟩:=Bz h
  exact⟨_,rfl,h⟩
 ·exact yS h
theorem Inv.ret{F:Nat->Prop}{w' wr:World}(hI:Inv C a wa st u θ)(hF:∀b,F b->u.eN b)(dH:Out F u.toWorld wa w' wr):Inv C a wr st (u.ret wa.heap.size w') θ:=by
 refine hI.world hF dH.mod dH.zY dH.umod dH.xv ?_ ?_
 ·intro b hb
  rcases hb with hb|⟨_,hb⟩
  ·exact Nat.lt_of_lt_of_le (hI.nh b hb) dH.mod.size
  ·exact Nat.lt_of_lt_of_le hb dH.zY.size
 ·intro b hb bB
  rcases hb with hb|⟨hb,_⟩
  ·exact hb
  ·omega
theorem iy{P:Program}{f:Value}{args:List Value}{u:UW}{K:Value->UW->Prop}:
  ng P f args u K↔∃F:Nat->Prop,(∀b,F b->u.eN b)/\Jc P f args u.toWorld F λv lo w'=>K v (u.ret lo w'):=by
 unfold ng
 split
 ·rename_i g first captured
  constructor
  ·intro h
   obtain⟨hc,F,hF,h⟩:=ak h
   exact⟨F,hF,λw1 hs=>⟨hc,h w1 hs⟩⟩
  ·rintro⟨F,hF,h⟩
   have hc:ct P g=true:=(h u.toWorld (vC.refl _)).1
   rw[hc]
   exact⟨F,hF,λw1 hs=>(h w1 hs).2⟩
 ·exact Iff.rfl
theorem Yd{f:Operand}{args:Array Operand}{ts:Array TypeId}(ho:o.op=.call ⟨.value f,args,ts⟩)(aD:bh C.n o=true)(hI:Inv C a wa st u θ)
  (h:bif args.toList.all (λx=>plain (ev st.σ x))then
    ng E.P (ev st.σ f) (args.toList.map (ev st.σ)) u λv w'=>NH E.P o.type λv'=>v=v'/\K (fin o st v') w' else False):rh E C fz o st θ K Q a wa:=by
 obtain⟨hp,h⟩:=ak h
 have kf:cn C.n f=true:=jt aD (by simp[ho,Op.operands,Call.operands])
 have ka:∀x∈args.toList,cn C.n x=true:=λx hx=>jt aD (by simp[ho,Op.operands,Call.operands];right;simpa using hx)
 obtain⟨F,hF,h⟩:=iy.1 h
 have h:=h wa hI.below
 have hea:=qm hI ka hp
 have done:∀(e:Ending) (wr:World),(∃v w',e=.returned v/\Out F u.toWorld wa w' wr/\NH E.P o.type λv'=>v=v'/\K (fin o st v') (u.ret wa.heap.size w'))->
   match e with
   | .returned v=>Lh C fz o st θ (fV E.cU o) K (a.put o.dst v) wr
   | .panicked chain=>Q (.panic chain) a wr
   | .outgrown=>LetsOut Q:=by
  rintro e wr ⟨v,w',rfl,dH,hK⟩
  obtain⟨v',lC,rfl,hK⟩:=FN hK
  exact aM aD (hI.ret hF dH) lC hK
 unfold vB at h
 split at h
 ·rename_i g first captured hf
  obtain⟨hc,h⟩:=h
  have Zu:=aR hI kf hf rfl
  have fK:(execOp a.eval o).run E.P wa=.ok (.enter g (first.toList++args.toList.map (ev st.σ)++captured.toList).toArray) wa:=by
   simp only[execOp,ho,resolve,Zu,hea,Deferred.ofValue,Sem.run_bind,Sem.run_pure,Result.andThen_ok,invoke]
   rw[mm hc]
   congr 2
   apply Array.toList_inj.1
   simp
  unfold rh
  rw[fK]
  refine⟨λh=>(by cases h),callsIn_wide.2 (h.mono λe wr Fh=>?_)⟩
  have:=done e wr Fh
  cases e<;>exact this
 ·rename_i l first captured hf
  obtain⟨rfl,rfl,r,hr,hlen,h⟩:=h
  have Zu:=aR hI kf hf rfl
  have fK:(execOp a.eval o).run E.P wa=.ok (.round l r.fn ((r.params.zip (args.toList.map (ev st.σ)).toArray).foldl (λt (p,v)=>t.setIfInBounds p v) r.tmps) r.assign r.body) wa:=by
   simp only[execOp,ho,resolve,Zu,hea,Deferred.ofValue,Sem.run_bind,Sem.run_pure,Result.andThen_ok,invoke]
   rw[show(#[]++(args.toList.map (ev st.σ)).toArray)=(args.toList.map (ev st.σ)).toArray by simp]
   exact run_yield hr (by simpa using hlen)
  unfold rh
  rw[fK]
  refine⟨λh=>(by cases h),h.mono λe wr Fh=>?_⟩
  have:=done e wr Fh
  cases e<;>exact this
 ·exact h.elim
theorem acH{x:Operand}{name:String}{args:Array Operand}{ts:Array TypeId}(ho:o.op=.call ⟨.invoke x name,args,ts⟩)(aD:bh C.n o=true)(hI:Inv C a wa st u θ)
  (h:bif args.toList.all (λx=>plain (ev st.σ x))then(match ev st.σ x with
    | .iface t r=>(match pv E.P (method (E.P.types.size+Made.depth) t r name)with
      |some (g,r')=>bif ct E.P g then mg E.P g (r'::args.toList.map (ev st.σ)).toArray u λv w'=>NH E.P o.type λv'=>v=v'/\K (fin o st v') w' else False
      |none=>False)
    |_=>False)else False):rh E C fz o st θ K Q a wa:=by
 obtain⟨hp,h⟩:=ak h
 have kx:cn C.n x=true:=jt aD (by simp[ho,Op.operands,Call.operands])
 have ka:∀x∈args.toList,cn C.n x=true:=λx hx=>jt aD (by simp[ho,Op.operands,Call.operands];right;simpa using hx)
 split at h
 ·rename_i t r hf
  cases hm:pv E.P (method (E.P.types.size+Made.depth) t r name)with
  |none=>simp only[hm]at h
  |some gr=>
   obtain⟨g,r'⟩:=gr
   simp only[hm]at h
   obtain⟨hc,F,hF,h⟩:=ak h
   have Zu:=aR hI kx hf rfl
   have hea:=qm hI ka hp
   have fK:(execOp a.eval o).run E.P wa=.ok (.enter g (r'::args.toList.map (ev st.σ)).toArray) wa:=by
    simp only[execOp,ho,resolve,Zu,hea,Sem.run_bind,Sem.run_pure,Result.andThen_ok,invoke]
    simp[callMethod,uR hm wa,mm hc]
    exact List.take_of_length_le (by simp)
   unfold rh
   rw[fK]
   refine⟨λh=>(by cases h),callsIn_wide.2 ((h wa hI.below).mono λe wr Fh=>?_)⟩
   obtain⟨v,w',rfl,dH,hK⟩:=Fh
   obtain⟨v',lC,rfl,hK⟩:=FN hK
   exact aM aD (hI.ret hF dH) lC hK
 ·exact h.elim
theorem agG{b:Builtin}{args:Array Operand}{ts:Array TypeId}(ho:o.op=.call ⟨.builtin b,args,ts⟩)(aD:bh C.n o=true)(hI:Inv C a wa st u θ)
  (h:W1b E o st u b args.toList ts.toList K):rh E C fz o st θ K Q a wa:=by
 have ka:∀x∈args.toList,cn C.n x=true:=λx hx=>jt aD (by simp[ho,Op.operands,Call.operands];simpa using hx)
 obtain⟨args⟩:=args
 obtain⟨ts⟩:=ts
 simp only at h ka
 unfold W1b at h
 split at h
 ·rename_i x t
  have kx:=ka x (by simp)
  split at h
  ·rename_i n c hu he
   refine aO (r:=.int .i64 n) (wb:=wa) ?_ (aM aD hI rfl h)
   refine bS (s:=Builtin.len_ #[t] o.type #[a.eval x]) ho (λ_=>by simp[builtin]) ?_
   simp[Builtin.len_,aL hu,aR hI kx he rfl,goInt]
  ·rename_i s hu he
   refine aO (r:=.int .i64 s.size) (wb:=wa) ?_ (aM aD hI rfl h)
   refine bS (s:=Builtin.len_ #[t] o.type #[a.eval x]) ho (λ_=>by simp[builtin]) ?_
   simp[Builtin.len_,aL hu,aR hI kx he rfl,goInt]
  ·rename_i n e hu
   obtain⟨_,h⟩:=ak h
   refine aO (r:=.int .i64 n) (wb:=wa) ?_ (aM aD hI rfl h)
   refine bS (s:=Builtin.len_ #[t] o.type #[a.eval x]) ho (λ_=>by simp[builtin]) ?_
   simp[Builtin.len_,aL hu,goInt]
  ·exact h.elim
 ·rename_i x y t t'
  split at h
  ·rename_i e e' base n cap xb m c hu dZ hx hy
   exact acO ho aD hI hu dZ hx hy h
  ·exact h.elim
 ·split at h
  ·rename_i k i is hi
   refine aO (r:=.int k (is.foldl (λx y=>if y<x then y else x) i)) (wb:=wa) ?_ (aM aD hI rfl h)
   obtain⟨he,_⟩:=tI hI ka hi
   refine bS (s:=(is.map (Value.int k)).foldlM Builtin.min2 (.int k i)) ho (λ_=>?_) (Cf is i)
   simp only[builtin,Builtin.min_,List.map_toArray,he,List.map_cons]
  ·exact h.elim
 ·split at h
  ·rename_i k i is hi
   refine aO (r:=.int k (is.foldl (λx y=>if y>x then y else x) i)) (wb:=wa) ?_ (aM aD hI rfl h)
   obtain⟨he,_⟩:=tI hI ka hi
   refine bS (s:=(is.map (Value.int k)).foldlM Builtin.max2 (.int k i)) ho (λ_=>?_) (Cg is i)
   simp only[builtin,Builtin.max_,List.map_toArray,he,List.map_cons]
  ·exact h.elim
 ·exact h.elim
theorem gO(aD:bh C.n o=true)(hI:Inv C a wa st u θ)(h:W1 E fz o st u K):rh E C fz o st θ K Q a wa:=by
 cases ho:o.op with
 |move x=>simp only[W1,ho]at h;exact OU (.inl ho) aD hI h
 |assign x=>simp only[W1,ho]at h;exact OU (.inr ho) aD hI h
 |pick c x y=>
  simp only[W1,ho]at h
  split at h
  ·rename_i t hc;exact Ya ho aD hI hc h
  ·exact h.elim
 |alloc t=>
  simp only[W1,ho]at h
  cases hz:(E.P.info? t).bind (·.zero)with
  |none=>simp only[hz]at h
  |some z=>
   simp only[hz]at h
   have fK:(execOp a.eval o).run E.P wa=.ok (.value (.pointer (some ⟨wa.heap.size,0,none⟩))) (wa.alloc (.cells z.cells t (0,0))):=by
    simp only[execOp,ho,Sem.run_bind,AU hz];rfl
   cases hd:o.dst with
   |none=>simp only[hd]at h
   |some k=>
    simp only[hd]at h
    cases hm:bA E.cU k with
    |true=>simp only[hm,cond_true]at h;exact Ej (by simp[fV,ho,hd,hm]) aD hI hd fK h
    |false=>simp only[hm,cond_false]at h;exact Ei aD hI fK h
 |box t x=>
  simp only[W1,ho]at h
  obtain⟨hp,h⟩:=ak h
  have kx:cn C.n x=true:=jt aD (by simp[ho,Op.operands])
  have fK:(execOp a.eval o).run E.P wa=.ok (.value (.pointer (some ⟨wa.heap.size,0,none⟩))) (wa.alloc (.cells (ev st.σ x).cells t (0,0))):=by
   simp only[execOp,ho,Sem.run_bind,JO,lV hI kx hp];rfl
  cases hd:o.dst with
  |none=>simp only[hd]at h
  |some k=>
   simp only[hd]at h
   cases hm:bA E.cU k with
   |true=>simp only[hm,cond_true]at h;exact Ej (by simp[fV,ho,hd,hm]) aD hI hd fK h
   |false=>simp only[hm,cond_false]at h;exact Ei aD hI fK h
 |build t ps=>simp only[W1,ho]at h;exact acM ho aD hI h
 |buildSlice t len ps=>simp only[W1,ho]at h;exact acL ho aD hI h
 |load t x=>
  simp only[W1,ho]at h
  cases hk:kinds E.P t with
  |none=>simp only[hk]at h
  |some ks=>simp only[hk]at h;exact Yb ho aD hI hk h
 |store t x y=>simp only[W1,ho]at h;exact Tj ho aD hI h
 |nilCheck x=>simp only[W1,ho]at h;exact acD ho aD hI h
 |binOp op t x y t'=>simp only[W1,ho]at h;exact acN ho aD hI h
 |unOp op t x=>simp only[W1,ho]at h;exact agD h ho aD hI
 |convert s d x=>simp only[W1,ho]at h;exact Yc ho aD hI h
 |makeInterface t x=>simp only[W1,ho]at h;exact acF ho aD hI h
 |makeSlice t x y=>simp only[W1,ho]at h;exact acE ho aD hI h
 |makeFunc fn p q=>simp only[W1,ho]at h;exact acG ho aD hI h
 |slice t x lo hi mx=>simp only[W1,ho]at h;exact Tl h ho aD hI
 |fieldAddr t x f=>
  simp only[W1,ho]at h
  cases hd:vl E.P t f with
  |none=>simp only[hd]at h
  |some d=>simp only[hd]at h;exact agF ho aD hI hd h
 |field t x f=>simp only[W1,ho]at h;exact acJ ho aD hI h
 |indexAddr t x i=>simp only[W1,ho]at h;exact agE ho aD hI h
 |index t x i=>simp only[W1,ho]at h;exact acI ho aD hI h
 |extract x i=>simp only[W1,ho]at h;exact acK ho aD hI h
 |call c=>
  simp only[W1,ho]at h
  obtain⟨callee,args,ts⟩:=c
  cases callee with
  |builtin b=>simp only at h;exact agG ho aD hI h
  |value f=>simp only at h;exact Yd ho aD hI h
  |invoke r m=>simp only at h;exact acH ho aD hI h
 |_=>simp only[W1,ho]at h
end
structure Mx(n:Nat)(fz ws:List Nat)(agQ:Nat->Prop)(st db s:St):Prop where
 slot:∀i,i<n->s.σ i=au\/s.σ i=db.σ i
 dD:∀k m,(k,m)∈s.D->(k,m)∈db.D/\(¬agQ k->∀j,j<m->s.σ (gx k j)=au\/s.σ (gx k j)=db.σ (gx k j))
 fk:∀i,i<n->∀k o,s.σ i=cY k o->∃m,(k,m)∈s.D
 bV:∀i,i<n->i∉ws->s.σ i=st.σ i
 aa5:∀x,x∈st.D->x∈s.D
 frz:∀k,k∈fz->∀m,(k,m)∈st.D->∀j,j<m->s.σ (gx k j)=st.σ (gx k j)
def oY(l:Live)(k:Nat):Prop:=∃ks,(k,Kd.box ks)∈l
theorem rL(σ:Fr)(ws:List Nat)(k j:Nat):qq σ ws (gx k j)=σ (gx k j):=by
 have:Nat.blt (gx k j) 65536=false:=by
  cases h:Nat.blt (gx k j) 65536 with
  |false=>rfl
  |true=>have:=gM.1 h;have:=h_ k j;omega
 simp only[qq,this,Bool.false_and,cond_false]
open Classical in
theorem LW(σ:Fr)(ws:List Nat)(i:Nat)(hi:i<65536):qq σ ws i=if i∈ws then au else σ i:=by
 have e1:Nat.blt i 65536=true:=gM.2 hi
 by_cases hw:i∈ws
 ·simp only[qq,e1,cV.2 hw,Bool.and_true,cond_true,if_pos hw]
 ·have:bA ws i=false:=by cases hm:bA ws i with|false=>rfl|true=>exact absurd (cV.1 hm) hw
  simp only[qq,this,Bool.and_false,cond_false,if_neg hw]
open Classical in
theorem vU:∀(l:List (Nat×Nat)) (σ:Fr) (i:Nat),i<65536->dO σ l i=if(∃m,(i,m)∈l)then cY i 0 else σ i
 |[],σ,i,_=>by simp[dO]
 |(k,m)::l,σ,i,hi=>by
  simp only[dO]
  rw[vU l _ i hi]
  by_cases h:∃m,(i,m)∈l
  ·rw[if_pos h,if_pos (by obtain⟨m',h⟩:=h;exact⟨m',by simp[h]⟩)]
  ·rw[if_neg h,fD _ _ _ hi]
   by_cases e:i=k
   ·subst e;rw[dL,if_pos ⟨m,by simp⟩]
   ·rw[bH _ _ e,if_neg]
    rintro⟨m',hm⟩
    simp only[List.mem_cons,Prod.mk.injEq]at hm
    rcases hm with⟨e',_⟩|hm
    ·exact e e'
    ·exact h ⟨m',hm⟩
theorem ml:∀(l:List (Nat×Nat)) (σ:Fr) (k j:Nat),j<65536->k<65536->(∀x∈l,x.1<65536/\x.2<=65536)->
  (dO σ l (gx k j)=au/\∃m,(k,m)∈l)\/dO σ l (gx k j)=σ (gx k j)
 |[],σ,k,j,_,_,_=>.inr rfl
 |(k',m)::l,σ,k,j,hj,hk,hl=>by
  simp only[dO]
  have hb:=hl (k',m) (by simp)
  rcases ml l (pH (iz σ k' (cY k' 0)) k' 0 (List.replicate m au)) k j hj hk (λx hx=>hl x (by simp[hx]))with⟨h,m',nv⟩|h
  ·exact .inl ⟨h,m',by simp[nv]⟩
  ·rw[h]
   by_cases e:k=k'
   ·subst e
    by_cases Kw:j<m
    ·have:=rm (σ:=iz σ k (cY k 0)) (k:=k) (List.replicate m au) 0 j (by simpa using Kw) (by simpa using hb.2)
     rw[Nat.zero_add]at this
     rw[this]
     refine .inl ⟨?_,m,by simp⟩
     simp[List.getD_eq_getElem?_getD,Kw]
    ·right
     rw[cO,bH]
     ·have:=h_ k j;omega
     ·intro i _ hi e
      have:=(gI hj (by simp at hi;omega) e).2
      simp at hi;omega
   ·right
    rw[cO,bH]
    ·have:=h_ k j;omega
    ·intro i _ hi e'
     exact e (gI hj (by simp at hi;omega) e').1
theorem mU:∀(l:List (Nat×Nat)) (σ:Fr) (k m j:Nat),(k,m)∈l->j<m->(∀x∈l,x.1<65536/\x.2<=65536)->dO σ l (gx k j)=au
 |[],_,_,_,_,h,_,_=>by simp at h
 |(k',m')::l,σ,k,m,j,h,hj,hl=>by
  simp only[dO]
  by_cases gp:∃m'',(k,m'')∈l/\j<m''
  ·obtain⟨m'',hm,MB⟩:=gp
   exact mU l _ k m'' j hm MB (λx hx=>hl x (by simp[hx]))
  ·simp only[List.mem_cons,Prod.mk.injEq]at h
   rcases h with⟨rfl,rfl⟩|h
   ·have hb:=hl (k,m) (by simp)
    rcases ml l (pH (iz σ k (cY k 0)) k 0 (List.replicate m au)) k j (by omega) hb.1 (λx hx=>hl x (by simp[hx]))with⟨h,_⟩|h
    ·exact h
    ·rw[h]
     have:=rm (σ:=iz σ k (cY k 0)) (k:=k) (List.replicate m au) 0 j (by simpa using hj) (by simpa using hb.2)
     rw[Nat.zero_add]at this
     rw[this]
     simp[List.getD_eq_getElem?_getD,hj]
   ·exact absurd ⟨m,h,hj⟩ gp
theorem te{st:St}:∀{l:List (Nat×Nat)},jo st l=true->∀k m,(k,m)∈l->(k,m)∈st.D/\st.σ k=cY k 0
 |[],_,_,_,h=>by simp at h
 |(k',m')::l,h,k,m,hm=>by
  simp only[jo,Bool.and_eq_true,mF]at h
  simp only[List.mem_cons,Prod.mk.injEq]at hm
  rcases hm with⟨rfl,rfl⟩|hm
  ·refine⟨h.1.1,?_⟩
   have:=h.1.2
   unfold P_ at this
   split at this
   ·rename_i k2 o he
    simp only[Bool.and_eq_true,beq_iff]at this
    obtain⟨rfl,rfl⟩:=this
    exact he
   ·cases this
  ·exact te h.2 k m hm
theorem oE{fz:List Nat}{D:List (Nat×Nat)}{c:Cut}(h:jJ fz D c=true):
  (∀t ks,(t,Kd.box ks)∈c.live->t∉fz/\t<65536/\ks.length<=65536)/\(∀x∈c.live,x.1<65536)/\(∀k m,(k,m)∈c.cB->k∉fz/\k<65536/\(k,m)∈D):=by
 simp only[jJ,Bool.and_eq_true,List.all_eq_true]at h
 obtain⟨h1,h2⟩:=h
 refine⟨λt ks ht=>?_,λx hx=>?_,λk m hk=>?_⟩
 ·have:=h1 _ ht
  simp only[Bool.and_eq_true,Bool.not_eq_true',gM,Nat.ble_eq]at this
  exact⟨λhf=>(by rw[cV.2 hf]at this;cases this.1.1),this.1.2,this.2⟩
 ·obtain⟨t,kd⟩:=x
  have:=h1 _ hx
  cases kd<;>simp only[Bool.and_eq_true,gM]at this
  ·exact this.1
  ·exact this.1
  ·exact this.1.2
 ·obtain⟨⟨h3,h4⟩,h5⟩:=h2 _ hk
  exact⟨λhf=>(by rw[cV.2 hf]at h3;cases h3),gM.1 h4,mF.1 h5⟩
theorem HO{fz:List Nat}{D:List (Nat×Nat)}{c:Cut}{k m:Nat}(hk:(k,m)∈D)(h1:¬oY c.live k)(h2:∀m,(k,m)∉c.cB):k∈freeze fz D c:=by
 unfold freeze
 rw[List.mem_append]
 right
 rw[List.mem_filter,List.mem_map]
 refine⟨⟨_,hk,rfl⟩,?_⟩
 simp only[Bool.not_eq_true',IA,Bool.or_eq_false_iff,List.any_eq_false]
 refine⟨λx hx=>?_,λx hx=>?_⟩
 ·obtain⟨t,kd⟩:=x
  cases kd<;>simp only[Bool.false_eq_true,not_false_eq_true,beq_iff]
  rintro rfl
  exact h1 ⟨_,hx⟩
 ·obtain⟨t,m'⟩:=x
  simp only[beq_iff]
  rintro rfl
  exact h2 _ hx
section
variable {C:Ctx} {a a1:Act} {wa wa1:World} {st db:St} {u u1:UW} {θ θ1:Nat->Nat} {fz ws:List Nat} {c:Cut}
open Classical in
theorem Mx.base(hI:Inv C a wa st u θ)(hP:bQ C.n (freeze fz st.D c) ws st db)(hl:jJ fz st.D c=true)(hs:jo db c.cB=true):
  Mx C.n fz ws (oY c.live) st db {st with σ:=dO (qq st.σ ws) c.cB}:=by
 obtain⟨l1,l2,l3⟩:=oE hl
 have NA:=te hs
 have hn:=hI.gV
 have hb:∀x∈c.cB,x.1<65536/\x.2<=65536:=λx hx=>⟨(l3 x.1 x.2 hx).2.1,(hI.boxes x.1 x.2 (l3 x.1 x.2 hx).2.2).1⟩
 have slot:∀i,i<C.n->dO (qq st.σ ws) c.cB i=if(∃m,(i,m)∈c.cB)then cY i 0 else if i∈ws then au else st.σ i:=by
  intro i hi
  rw[vU _ _ _ (by omega)]
  by_cases h:∃m,(i,m)∈c.cB
  ·rw[if_pos h,if_pos h]
  ·rw[if_neg h,if_neg h,LW _ _ _ (by omega)]
 refine⟨?_,?_,?_,?_,λx hx=>hx,?_⟩
 ·intro i hi
  simp only
  rw[slot i hi]
  split
  ·rename_i h;obtain⟨m,h⟩:=h;exact .inr (NA i m h).2.symm
  ·split
   ·exact .inl rfl
   ·rename_i hw;exact .inr (hP.slot i hi hw).symm
 ·intro k m hk
  refine⟨hP.D _ hk,λhp j hj=>?_⟩
  have hm:=(hI.boxes k m hk).1
  have hgx:(qq st.σ ws) (gx k j)=st.σ (gx k j):=rL _ _ _ _
  by_cases Sq:∃m',(k,m')∈c.cB
  ·obtain⟨m',Sq⟩:=Sq
   have hD:=(l3 k m' Sq).2.2
   obtain rfl:m'=m:=(hI.inj _ _ _ _ hD hk rfl).2
   exact .inl (mU _ _ k m' j Sq hj hb)
  ·right
   have h1:=hP.fz k (HO hk hp (λm hm=>Sq ⟨m,hm⟩)) m hk j hj
   simp only
   by_cases hk6:k<65536
   ·rcases ml c.cB (qq st.σ ws) k j (by omega) hk6 hb with⟨_,h⟩|h
    ·exact absurd h Sq
    ·rw[h,hgx,h1]
   ·have key:∀(l:List (Nat×Nat)) (σ:Fr),(∀x∈l,x.1<65536/\x.2<=65536)->dO σ l (gx k j)=σ (gx k j):=by
     intro l
     induction l with
     |nil=>intro σ _;rfl
     |cons x l ih=>
      intro σ hx
      obtain⟨k',m'⟩:=x
      have yH:=hx (k',m') (by simp)
      simp only[dO]
      rw[ih _ (λy hy=>hx y (by simp[hy])),cO,bH]
      ·have:=h_ k j;have:=yH.1;omega
      ·intro i _ hi e
       have:=(gI (by omega) (by simp at hi;have:=yH.2;omega) e).1
       have:=yH.1;omega
    rw[key _ _ hb,hgx,h1]
 ·intro i hi k o e
  simp only at e
  rw[slot i hi]at e
  split at e
  ·rename_i h
   obtain⟨m,h⟩:=h
   simp only[Value.complex.injEq,true_and]at e
   exact⟨m,by rw[<- e.1];exact(l3 i m h).2.2⟩
  ·split at e
   ·cases e
   ·exact hI.ia i hi k o e
 ·intro i hi hw
  simp only
  rw[slot i hi]
  split
  ·rename_i h;obtain⟨m,h⟩:=h
   rw[<- hP.slot i hi hw];exact(NA i m h).2.symm
  ·rfl
 ·intro k hk m hm j hj
  have zP:=(hI.boxes k m hm).1
  have hgx:(qq st.σ ws) (gx k j)=st.σ (gx k j):=rL _ _ _ _
  have key:∀(l:List (Nat×Nat)) (σ:Fr),(∀x∈l,x.1≠k/\x.1<65536/\x.2<=65536)->dO σ l (gx k j)=σ (gx k j):=by
   intro l
   induction l with
   |nil=>intro σ _;rfl
   |cons x l ih=>
    intro σ hx
    obtain⟨k',m'⟩:=x
    have yH:=hx (k',m') (by simp)
    simp only[dO]
    rw[ih _ (λy hy=>hx y (by simp[hy])),cO,bH]
    ·have:=h_ k j;have:=yH.2.1;omega
    ·intro i _ hi e
     exact yH.1 (gI (by omega) (by simp at hi;have:=yH.2.2;omega) e).1.symm
  simp only
  rw[key _ _ (λx hx=>⟨λe=>(l3 x.1 x.2 hx).1 (e▸hk),hb x hx⟩),hgx]
theorem Mx.set{s:St}{x:Nat×Kd}{l:Live}{v:x.2.T}(h:Mx C.n fz ws (oY (x::l)) st db s)(lD:Inv C a1 wa1 db u1 θ1)(hg:wy db x=some v)(hx:x.1<65536)(hfz:∀ks,x.2=.box ks->x.1∉fz)
  (hI:Inv C a wa st u θ) (hP:bQ C.n (freeze fz st.D c) ws st db):
  Mx C.n fz ws (oY l) st db (je s x v):=by
 obtain⟨t,kd⟩:=x
 have hn:=lD.gV
 have AZ:∀(w:Value),plain w=true->db.σ t=w->(∀k,oY ((t,kd)::l) k->oY l k)->Mx C.n fz ws (oY l) st db {s with σ:=iz s.σ t w}:=by
  intro w hp hw hbx
  refine⟨?_,?_,?_,?_,h.aa5,?_⟩
  ·intro i hi
   simp only
   by_cases e:i=t
   ·subst e;rw[dL];exact .inr hw.symm
   ·rw[bH _ _ e];exact h.slot i hi
  ·intro k m hk
   refine⟨(h.dD k m hk).1,λwt j hj=>?_⟩
   simp only
   have:=h_ k j
   rw[bH _ _ (by simp only at hx;omega)]
   exact(h.dD k m hk).2 (λhb=>wt (hbx k hb)) j hj
  ·intro i hi k o e
   simp only at e
   by_cases e':i=t
   ·subst e';rw[dL]at e;exact absurd e (iI hp k o)
   ·rw[bH _ _ e']at e;exact h.fk i hi k o e
  ·intro i hi Uj
   simp only
   by_cases e:i=t
   ·subst e;rw[dL,<- hw];exact hP.slot i hi Uj
   ·rw[bH _ _ e];exact h.bV i hi Uj
  ·intro k hk m hm j hj
   simp only
   have:=h_ k j
   rw[bH _ _ (by simp only at hx;omega)]
   exact h.frz k hk m hm j hj
 cases kd with
 |one k=>
  simp only[wy]at hg
  exact AZ _ (K1.Tz k v) (K1.yO hg) (by rintro k' ⟨ks,hk⟩;simp only[List.mem_cons,Prod.mk.injEq,reduceCtorEq,and_false,false_or]at hk;exact⟨ks,hk⟩)
 |agg ks=>
  simp only[wy]at hg
  split at hg
  ·rename_i arr he
   refine AZ _ rfl ?_ (by rintro k' ⟨ks,hk⟩;simp only[List.mem_cons,Prod.mk.injEq,reduceCtorEq,and_false,false_or]at hk;exact⟨ks,hk⟩)
   rw[he]
   have:=Dp hg
   congr 1
   apply Array.toList_inj.1
   simpa using this
  ·cases hg
 |box ks=>
  simp only[wy]at hg
  split at hg
  ·rename_i k o he
   simp only[Bool.cond_eq_ite]at hg
   split at hg
   ·rename_i hc
    simp only[Bool.and_eq_true,beq_iff,mF]at hc
    obtain⟨⟨rfl,rfl⟩,hD⟩:=hc
    have yJ:=Dp hg
    have hlen:(Jd ks v).length=ks.length:=si ks v
    have apC:=(lD.boxes k ks.length hD).1
    have nG:∀(σ:Fr) (j:Nat),j<ks.length->pH σ k 0 (Jd ks v) (gx k j)=db.σ (gx k j):=by
     intro σ j hj
     have h1:=rm (σ:=σ) (k:=k) (Jd ks v) 0 j (by omega) (by omega)
     rw[Nat.zero_add]at h1
     rw[h1,List.getD_eq_getElem?_getD,<- yJ,tj _ _ _ _ _ hj]
     simp
    have adP:∀(σ:Fr) (k' j:Nat),k'≠k->j<65536->pH σ k 0 (Jd ks v) (gx k' j)=σ (gx k' j):=by
     intro σ k' j bm hj
     rw[cO]
     intro i _ hi e
     exact bm (gI hj (by omega) e).1
    have hDs:∀y,y∈(je s (k,.box ks) v).D↔y∈s.D\/y=(k,ks.length):=by
     intro y
     simp only[je,Bool.cond_eq_ite,mF]
     split
     ·rename_i gp
      exact⟨λh=>.inl h,λh=>h.elim id λe=>e▸gp⟩
     ·simp only[List.mem_cons];exact⟨λh=>h.symm,λh=>h.symm⟩
    simp only at hx
    refine⟨?_,?_,?_,?_,?_,?_⟩
    ·intro i hi
     simp only[je]
     rw[fD _ _ _ (by omega)]
     by_cases e:i=k
     ·subst e;rw[dL];exact .inr he.symm
     ·rw[bH _ _ e];exact h.slot i hi
    ·intro k' m hk
     rw[hDs]at hk
     rcases hk with hk|hk
     ·refine⟨(h.dD k' m hk).1,λhp j hj=>?_⟩
      have hm6:=(lD.boxes k' m (h.dD k' m hk).1).1
      simp only[je]
      by_cases e:k'=k
      ·subst e
       obtain rfl:m=ks.length:=(lD.inj _ _ _ _ (h.dD k' m hk).1 hD rfl).2
       exact .inr (nG _ j hj)
      ·have:=h_ k' j
       rw[adP _ _ _ e (by omega),bH _ _ (by omega)]
       refine(h.dD k' m hk).2 (λhb=>hp ?_) j hj
       obtain⟨Ub,hb⟩:=hb
       simp only[List.mem_cons,Prod.mk.injEq]at hb
       rcases hb with⟨e',_⟩|hb
       ·exact absurd e' e
       ·exact⟨Ub,hb⟩
     ·simp only[Prod.mk.injEq]at hk
      obtain⟨rfl,rfl⟩:=hk
      exact⟨hD,λ_ j hj=>.inr (by simp only[je];exact nG _ j hj)⟩
    ·intro i hi k' o e
     simp only[je]at e
     rw[fD _ _ _ (by omega)]at e
     by_cases e':i=k
     ·subst e';rw[dL]at e
      simp only[Value.complex.injEq,true_and]at e
      exact⟨ks.length,(hDs _).2 (.inr (by rw[e.1]))⟩
     ·rw[bH _ _ e']at e
      obtain⟨m,hm⟩:=h.fk i hi k' o e
      exact⟨m,(hDs _).2 (.inl hm)⟩
    ·intro i hi hw
     simp only[je]
     rw[fD _ _ _ (by omega)]
     by_cases e:i=k
     ·subst e;rw[dL,<- hP.slot i hi hw];exact he.symm
     ·rw[bH _ _ e];exact h.bV i hi hw
    ·intro y hy
     exact(hDs y).2 (.inl (h.aa5 y hy))
    ·intro k' eQ m hm j hj
     have bm:k'≠k:=λe=>hfz ks rfl (e▸eQ)
     have hm6:=(hI.boxes k' m hm).1
     have:=h_ k' j
     simp only[je]
     rw[adP _ _ _ bm (by omega),bH _ _ (by omega)]
     exact h.frz k' eQ m hm j hj
   ·cases hg
  ·cases hg
theorem Mx.acC:∀{l:Live} {s:St} {v:Tup l},Mx C.n fz ws (oY l) st db s->Inv C a1 wa1 db u1 θ1->eJ db l=some v->(∀x∈l,x.1<65536)->(∀t ks,(t,Kd.box ks)∈l->t∉fz)->
  Inv C a wa st u θ->bQ C.n (freeze fz st.D c) ws st db->Mx C.n fz ws (oY []) st db (pQ s l v)
 |[],s,v,h,_,_,_,_,_,_=>h
 |[x],s,v,h,lD,hg,hx,hf,hI,hP=>by
  simp only[eJ]at hg
  exact h.set (l:=[]) lD hg (hx x (by simp)) (λks e=>hf x.1 ks (by rw[<- e];simp)) hI hP
 |x::y::l,s,v,h,lD,hg,hx,hf,hI,hP=>by
  simp only[eJ]at hg
  split at hg
  ·rename_i p q hp hq
   simp only[Option.some.injEq]at hg
   subst hg
   have h1:=h.set (l:=y::l) lD hp (hx x (by simp)) (λks e=>hf x.1 ks (by rw[<- e];simp)) hI hP
   exact Mx.acC (l:=y::l) h1 lD hq (λz hz=>hx z (by simp[hz])) (λt ks hz=>hf t ks (by simp[hz])) hI hP
  ·cases hg
theorem HN{v:Tup c.live}(hI:Inv C a wa st u θ)(lD:Inv C a1 wa1 db u1 θ1)(hP:bQ C.n (freeze fz st.D c) ws st db)(hl:jJ fz st.D c=true)(hs:jo db c.cB=true)
  (hg:eJ db c.live=some v):Inv C a1 wa1 (mix st ws c v) u1 θ1/\bQ C.n fz ws st (mix st ws c v):=by
 obtain⟨l1,l2,l3⟩:=oE hl
 have h:=Mx.acC (Mx.base hI hP hl hs) lD hg l2 (λt ks ht=>(l1 t ks ht).1) hI hP
 refine⟨lD.zU ⟨h.slot,λk m hk=>⟨(h.dD k m hk).1,(h.dD k m hk).2 (by rintro⟨ks,hk⟩;simp at hk)⟩,λi hi k o e _=>h.fk i hi k o e⟩,⟨h.bV,h.aa5,h.frz⟩⟩
theorem vS{s:St}{x:Nat×Kd}{v:x.2.T}{k j:Nat}(hk:∀ks,x≠(k,.box ks))(hj:j<65536)(hx:x.1<65536)(kq:∀ks,x.2=.box ks->ks.length<=65536):(je s x v).σ (gx k j)=s.σ (gx k j):=by
 obtain⟨t,kd⟩:=x
 have:=h_ k j
 simp only at hx
 cases kd with
 |one k1=>simp only[je];rw[bH _ _ (by omega)]
 |agg ks=>simp only[je];rw[bH _ _ (by omega)]
 |box ks=>
  simp only[je]
  have hl:=kq ks rfl
  rw[cO,bH _ _ (by omega)]
  intro i _ hi e
  rw[si]at hi
  have:=(gI hj (by omega) e).1
  exact hk ks (by rw[this])
theorem qU:∀{l:Live} {s:St} {v:Tup l} {k j:Nat},¬oY l k->j<65536->(∀x∈l,x.1<65536)->(∀t ks,(t,Kd.box ks)∈l->ks.length<=65536)->(pQ s l v).σ (gx k j)=s.σ (gx k j)
 |[],_,_,_,_,_,_,_,_=>rfl
 |[x],s,v,k,j,hb,hj,hx,kq=>vS (λks e=>hb ⟨ks,by simp[e]⟩) hj (hx x (by simp)) (λks e=>kq x.1 ks (by rw[<- e];simp))
 |x::y::l,s,v,k,j,hb,hj,hx,kq=>by
  simp only[pQ]
  rw[qU (l:=y::l) (λ⟨ks,h⟩=>hb ⟨ks,by simp only[List.mem_cons]at h |-;exact .inr h⟩) hj (λz hz=>hx z (by simp only[List.mem_cons]at hz |-;exact .inr hz)) (λt ks hz=>kq t ks (by simp only[List.mem_cons]at hz |-;exact .inr hz))]
  exact vS (λks e=>hb ⟨ks,by simp[e]⟩) hj (hx x (by simp)) (λks e=>kq x.1 ks (by rw[<- e];simp))
theorem TV(hI:Inv C a wa st u θ)(hl:jJ fz st.D c=true)(ws:List Nat)(v:Tup c.live):∀k,k∈freeze fz st.D c->∀m,(k,m)∈st.D->∀j,j<m->(mix st ws c v).σ (gx k j)=st.σ (gx k j):=by
 intro k hk m hm j hj
 obtain⟨l1,l2,l3⟩:=oE hl
 have zP:=(hI.boxes k m hm).1
 have hb:∀x∈c.cB,x.1<65536/\x.2<=65536:=λx hx=>⟨(l3 x.1 x.2 hx).2.1,(hI.boxes x.1 x.2 (l3 x.1 x.2 hx).2.2).1⟩
 have Mu:¬oY c.live k/\∀m,(k,m)∉c.cB:=by
  unfold freeze at hk
  rw[List.mem_append]at hk
  rcases hk with hk|hk
  ·exact⟨λ⟨ks,h⟩=>(l1 k ks h).1 hk,λm h=>(l3 k m h).1 hk⟩
  ·rw[List.mem_filter]at hk
   have h2:=hk.2
   simp only[Bool.not_eq_true',IA,Bool.or_eq_false_iff,List.any_eq_false]at h2
   refine⟨λ⟨ks,h⟩=>?_,λm h=>?_⟩
   ·exact h2.1 _ h (beq_iff.2 rfl)
   ·exact h2.2 _ h (beq_iff.2 rfl)
 have key:∀(l:List (Nat×Nat)) (σ:Fr),(∀x∈l,x.1≠k/\x.1<65536/\x.2<=65536)->dO σ l (gx k j)=σ (gx k j):=by
  intro l
  induction l with
  |nil=>intro σ _;rfl
  |cons x l ih=>
   intro σ hx
   obtain⟨k',m'⟩:=x
   have yH:=hx (k',m') (by simp)
   simp only[dO]
   rw[ih _ (λy hy=>hx y (by simp[hy])),cO,bH]
   ·have:=h_ k j;have:=yH.2.1;omega
   ·intro i _ hi e
    exact yH.1 (gI (by omega) (by simp at hi;have:=yH.2.2;omega) e).1.symm
 unfold mix
 rw[qU Mu.1 (by omega) l2 (λt ks h=>(l1 t ks h).2.2)]
 simp only
 rw[key _ _ (λx hx=>⟨λe=>Mu.2 x.2 (by rw[<- e];exact hx),hb x hx⟩),rL]
end
end Go.az
