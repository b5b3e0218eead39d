import Derived.Test.YtbodiiomcfgokaaGreatB01
import Derived.IntWalk
set_option linter.all false
namespace Go.aK
open Go.RowKit
section
variable {E:Env} {C:Ctx} {a:Act} {wa:World} {st:St} {u:UW} {θ:Nat->Nat} {fz:List Nat} {o:Oper} {K:St->UW->Prop} {Q:Exit->Act->World->Prop}
theorem ahJ{op:UnOp}{t:TypeId}{x:Operand}
  (h:match op,ev st.σ x with
   | .not,.bool b=>K (fin o st (.bool (!b))) u
   | .neg,.int k n=>K (fin o st (.int k (k.wrap (0-n)))) u
   |_,_=>False) (ho:o.op=.unOp op t x) (aO:bN C.n o=true) (hI:Inv C a wa st u θ):vc E C fz o st θ K Q a wa:=by
 have hx:dJ C.n x=true:=m_ aO (by simp[ho,Op.operands])
 split at h
 ·rename_i b he
  refine bh (r:=.bool (!b)) (wb:=wa) ?_ (ba aO hI rfl h)
  simp[execOp,ho,bt hI hx he rfl,Op.unary]
 ·rename_i k n he
  refine bh (r:=.int k (k.wrap (0-n))) (wb:=wa) ?_ (ba aO hI rfl h)
  simp[execOp,ho,bt hI hx he rfl,Op.unary,Op.intArith]
 ·exact h.elim
theorem aaE{s d:TypeId}{x:Operand}(ho:o.op=.convert s d x)(aO:bN C.n o=true)(hI:Inv C a wa st u θ)
  (h:bif plain (ev st.σ x)then(match pv E.P (convert s d (ev st.σ x))with
   |some v=>bif plain v then K (fin o st v) u else False
   |none=>False)else False):vc E C fz o st θ K Q a wa:=by
 have hx:dJ C.n x=true:=m_ aO (by simp[ho,Op.operands])
 obtain⟨hp,h⟩:=av h
 cases hv:pv E.P (convert s d (ev st.σ x))with
 |none=>simp only[hv]at h
 |some v=>
  simp only[hv]at h
  obtain⟨ng,h⟩:=av h
  refine bh (r:=v) (wb:=wa) ?_ (ba aO hI ng h)
  simp only[execOp,ho,qo hI hx hp,Sem.run_bind,zp hv wa]
  rfl
theorem UD(hI:Inv C a wa st u θ):∀{xs:List Operand},(∀x∈xs,dJ C.n x=true)->(xs.all λx=>plain (ev st.σ x))=true->xs.map a.eval=xs.map (ev st.σ)
 |[],_,_=>rfl
 |x::xs,h,hp=>by
  simp only[List.all_cons,Bool.and_eq_true]at hp
  simp only[List.map_cons]
  rw[qo hI (h x (by simp)) hp.1,UD hI (λy hy=>h y (by simp[hy])) hp.2]
theorem tZ(hI:Inv C a wa st u θ){xs:Array Operand}(h:∀x∈xs.toList,dJ C.n x=true)(hp:(xs.toList.all λx=>plain (ev st.σ x))=true):xs.map a.eval=(xs.toList.map (ev st.σ)).toArray:=by
 rw[<- UD hI h hp]
 apply Array.toList_inj.1
 simp
theorem ad9{fn:Fn}{first captured:Array Operand}(ho:o.op=.makeFunc fn first captured)(aO:bN C.n o=true)(hI:Inv C a wa st u θ)
  (h:bif first.toList.all (λx=>plain (ev st.σ x))&&captured.toList.all (λx=>plain (ev st.σ x))then
   K (fin o st (.func fn (first.toList.map (ev st.σ)).toArray (captured.toList.map (ev st.σ)).toArray)) u else False):vc E C fz o st θ K Q a wa:=by
 obtain⟨hc,h⟩:=av h
 simp only[Bool.and_eq_true]at hc
 have h1:∀x∈first.toList,dJ C.n x=true:=λx hx=>m_ aO (by simp[ho,Op.operands];left;simpa using hx)
 have h2:∀x∈captured.toList,dJ C.n x=true:=λx hx=>m_ aO (by simp[ho,Op.operands];right;simpa using hx)
 refine bh (wb:=wa) ?_ (ba aO hI rfl h)
 simp only[execOp,ho,tZ hI h1 hc.1,tZ hI h2 hc.2,Instr.makeFunc]
 rfl
theorem aec{x:Operand}{i:Nat}(ho:o.op=.extract x i)(aO:bN C.n o=true)(hI:Inv C a wa st u θ)
  (h:match ev st.σ x with
   | .tuple vs=>(match vs[i]? with
     |some v=>bif plain v then K (fin o st v) u else False
     |none=>False)
   |_=>False):vc E C fz o st θ K Q a wa:=by
 have hx:dJ C.n x=true:=m_ aO (by simp[ho,Op.operands])
 split at h
 ·rename_i vs he
  cases hv:vs[i]? with
  |none=>simp only[hv]at h
  |some v=>
   simp only[hv]at h
   obtain⟨ng,h⟩:=av h
   refine bh (r:=v) (wb:=wa) ?_ (ba aO hI ng h)
   simp[execOp,ho,bt hI hx he rfl,Instr.extract,hv]
 ·exact h.elim
theorem ad6{x:Operand}(ho:o.op=.nilCheck x)(aO:bN C.n o=true)(hI:Inv C a wa st u θ)
  (h:match ev st.σ x with
   | .complex .f64 k off=>K (fin o st (e_ k off)) u
   | .pointer p=>nn p (K (fin o st (.pointer p)) u)
   | .func f p q=>DI f (K (fin o st (.func f p q)) u)
   |_=>False):vc E C fz o st θ K Q a wa:=by
 have hx:dJ C.n x=true:=m_ aO (by simp[ho,Op.operands])
 split at h
 ·rename_i k off he
  obtain⟨mQ,hm⟩:=my hI hx he
  refine bh (r:=.pointer (some ⟨θ k,off,none⟩)) (wb:=wa) (by simp[execOp,ho,mQ]) ?_
  exact nC aO hI (v:=e_ k off) rfl (λk' o' e=>by simp only[Value.complex.injEq,true_and]at e;rw[<- e.1];exact hm) h
 ·rename_i p he
  have mQ:=bt hI hx he rfl
  cases p with
  |none=>exact h.elim
  |some p=>exact bh (r:=.pointer (some p)) (wb:=wa) (by simp[execOp,ho,mQ]) (ba aO hI rfl h)
 ·rename_i f p q he
  have mQ:=bt hI hx he rfl
  cases f with
  |method n=>exact h.elim
  |_=>exact bh (wb:=wa) (by simp[execOp,ho,mQ]) (ba aO hI rfl h)
 ·exact h.elim
theorem QS{P:Program}{t:TypeId}{f d:Nat}(h:Fh P t f=some d):∃fs x,P.underlying t=some (.struct fs)/\fs[f]?=some x/\x.offset=d/\P.cellsOf x.type≠0:=by
 unfold Fh at h
 cases hu:P.underlying t with
 |none=>simp[hu]at h
 |some D=>
  cases D<;>simp only[hu]at h<;>try (cases h;done)
  rename_i fs
  cases hf:fs[f]? with
  |none=>simp[hf]at h
  |some x=>
   simp only[hf,Bool.cond_eq_ite,beq_iff]at h
   split at h
   ·cases h
   ·rename_i hz
    simp only[Option.some.injEq]at h
    exact⟨fs,x,rfl,hf,h,hz⟩
theorem oL{P:Program}{w:World}{t:TypeId}{f d b off:Nat}(h:Fh P t f=some d):(Instr.fieldAt t (.pointer (some ⟨b,off,none⟩)) f).run P w=.ok (.pointer (some ⟨b,off+d,none⟩)) w:=by
 obtain⟨fs,x,hu,hf,rfl,hz⟩:=QS h
 have hi:∃i,P.info? x.type=some i:=by
  cases hi:P.info? x.type with
  |none=>simp[Program.cellsOf,hi]at hz
  |some i=>exact⟨i,rfl⟩
 obtain⟨i,hi⟩:=hi
 simp only[Instr.fieldAt,Sem.run_bind,a_ hu,Result.andThen_ok,hf,Instr.sureAddr,Sem.run_pure,fieldPlace,di hi,if_neg hz,lQ]
theorem ahL{t:TypeId}{x:Operand}{f d:Nat}(ho:o.op=.fieldAddr t x f)(aO:bN C.n o=true)(hI:Inv C a wa st u θ)(hd:Fh E.P t f=some d)
  (h:match ev st.σ x with
   | .complex .f64 k off=>K (fin o st (e_ k (off+d))) u
   |v=>eY v λb off=>K (fin o st (.pointer (some ⟨b,off+d,none⟩))) u):vc E C fz o st θ K Q a wa:=by
 have hx:dJ C.n x=true:=m_ aO (by simp[ho,Op.operands])
 split at h
 ·rename_i k off he
  obtain⟨mQ,hm⟩:=my hI hx he
  refine bh (r:=.pointer (some ⟨θ k,off+d,none⟩)) (wb:=wa) ?_ ?_
  ·simp only[execOp,ho,mQ,Sem.run_bind,oL hd];rfl
  ·exact nC aO hI (v:=e_ k (off+d)) rfl (λk' o' e=>by simp only[Value.complex.injEq,true_and]at e;rw[<- e.1];exact hm) h
 ·obtain⟨b,off,hv,h⟩:=iC h
  have mQ:=bt hI hx hv rfl
  refine bh (r:=.pointer (some ⟨b,off+d,none⟩)) (wb:=wa) ?_ (ba aO hI rfl h)
  simp only[execOp,ho,mQ,Sem.run_bind,oL hd];rfl
theorem aeb{t:TypeId}{x:Operand}{f:Nat}(ho:o.op=.field t x f)(aO:bN C.n o=true)(hI:Inv C a wa st u θ)
  (h:match ev st.σ x with
   | .agg cs=>(match Ff E.P t f cs.toList with
     |some v=>bif plain v then K (fin o st v) u else False
     |none=>False)
   |_=>False):vc E C fz o st θ K Q a wa:=by
 have hx:dJ C.n x=true:=m_ aO (by simp[ho,Op.operands])
 split at h
 ·rename_i cs he
  cases hv:Ff E.P t f cs.toList with
  |none=>simp only[hv]at h
  |some v=>
   simp only[hv]at h
   obtain⟨ng,h⟩:=av h
   refine bh (r:=v) (wb:=wa) ?_ (ba aO hI ng h)
   unfold Ff at hv
   cases hu:E.P.underlying t with
   |none=>simp[hu]at hv
   |some D=>
    cases D<;>simp only[hu]at hv<;>try (cases hv;done)
    rename_i fs
    cases hf:fs[f]? with
    |none=>simp[hf]at hv
    |some y=>
     simp only[hf,Bool.cond_eq_ite,Bool.and_eq_true,Nat.ble_eq]at hv
     split at hv
     ·rename_i hc
      obtain⟨hi,hle⟩:=hc
      obtain⟨d,Zs⟩:=Option.isSome_iff_exists.1 hi
      simp only[execOp,ho,bt hI hx he rfl,Instr.field,Sem.run_bind,a_ hu,Result.andThen_ok,hf,asAgg,Sem.run_pure]
      split at hv
      ·rename_i oW
       simp only[Option.some.injEq]at hv
       rw[iF Zs oW,<- hv]
       simp only[Result.andThen_ok]
       congr 3
       apply Array.toList_inj.1
       rw[Array.toList_extract,List.extract_eq_take_drop]
       simp
      ·rename_i oW
       simp only[Bool.not_eq_true]at oW
       rw[jW Zs oW (v:=v) (by simpa using hv)]
       rfl
     ·cases hv
 ·exact h.elim
theorem tJ{P:Program}{w:World}{k:IntKind}{i:Int}{y:Nat}{code:BoundsCode}(h1:0<=i)(h2:i<=y):(Instr.sliceBound (.int k i) y code).run P w=.ok i.toNat w:=by
 simp only[Instr.sliceBound,asIntOf,Sem.run_bind,Sem.run_pure,Result.andThen_ok]
 rw[if_pos ⟨h1,h2⟩];rfl
theorem sC{ρ:Operand->Value}{d i:Int}(h:eE ρ none d=some i):i=d:=by simp only[eE,Option.some.injEq]at h;exact h.symm
theorem oN{ρ:Operand->Value}{x:Operand}{d i:Int}(h:eE ρ (some x) d=some i):∃k,ρ x=.int k i:=by
 simp only[eE]at h
 split at h
 ·rename_i k j he;simp only[Option.some.injEq]at h;subst h;exact⟨k,he⟩
 ·cases h
theorem qH{P:Program}{w:World}{isS:Bool}{len cap:Nat}{lo hi mx:Option Operand}{ρ ρr:Operand->Value}{l h m:Int}(mQ:∀x k i,(lo=some x\/hi=some x\/mx=some x)->ρ x=.int k i->ρr x=.int k i)
  (hl:eE ρ lo 0=some l) (hh:eE ρ hi len=some h) (hm:eE ρ mx cap=some m) (Un:(mx.isSome&&hi.isNone)=false)
  (h0:0<=l) (h1:l<=h) (h2:h<=m) (h3:m<=cap):(Instr.sliceBounds isS len cap (lo.map ρr) (hi.map ρr) (mx.map ρr)).run P w=.ok (l.toNat,h.toNat,m.toNat) w:=by
 have fin:∀(H M:Nat) (code:BoundsCode),l<=(H:Int)->∀(X:Option Value),X=lo.map ρr->
   (match X with|some v=>(do let l <- Instr.sliceBound v H code;pure (l,H,M):Sem (Nat×Nat×Nat))|none=>(do let l <- pure 0;pure (l,H,M):Sem (Nat×Nat×Nat))).run P w=.ok (l.toNat,H,M) w:=by
  rintro H M code hH X rfl
  cases lo with
  |none=>rw[sC hl];simp
  |some x=>
   obtain⟨k,hk⟩:=oN hl
   simp only[Option.map_some,mQ x k l (by simp) hk,Sem.run_bind,tJ h0 hH,Result.andThen_ok,Sem.run_pure]
 cases mx with
 |none=>
  obtain rfl:=sC hm
  cases hi with
  |none=>
   obtain rfl:=sC hh
   simp only[Instr.sliceBounds,Option.map_none,Sem.run_bind,Sem.run_pure,Result.andThen_ok,Int.toNat_natCast]
   exact fin len cap _ h1 _ rfl
  |some y=>
   obtain⟨k,hk⟩:=oN hh
   simp only[Instr.sliceBounds,Option.map_none,Option.map_some,Sem.run_bind,Sem.run_pure,Result.andThen_ok,Int.toNat_natCast,mQ y k h (by simp) hk,tJ (by omega) h2]
   exact fin h.toNat cap _ (by omega) _ rfl
 |some z=>
  obtain⟨kz,hkz⟩:=oN hm
  cases hi with
  |none=>simp at Un
  |some y=>
   obtain⟨k,hk⟩:=oN hh
   simp only[Instr.sliceBounds,Option.map_some,Sem.run_bind,Result.andThen_ok,mQ z kz m (by simp) hkz,tJ (show 0<=m by omega) h3,mQ y k h (by simp) hk,
    tJ (show 0<=h by omega) (show h<=((m.toNat:Nat):Int) by omega)]
   exact fin h.toNat m.toNat _ (by omega) _ rfl
theorem WW{t:TypeId}{x:Operand}{lo hi mx:Option Operand}
  (h:match E.P.underlying t,ev st.σ x with
   |some (.slice e),.slice b len cap=>(match eE (ev st.σ) lo 0,eE (ev st.σ) hi len,eE (ev st.σ) mx cap with
    |some l,some h,some m=>(bif (mx.isSome&&hi.isNone)||(E.P.info? e).isNone then False else(m.toNat=l.toNat\/ju b)/\0<=l/\l<=h/\h<=m/\m<=cap/\K (fin o st (.slice (Br b l.toNat m.toNat (E.P.cellsOf e)) (h.toNat-l.toNat) (m.toNat-l.toNat))) u)
    |_,_,_=>False)
   |some .string,.string s=>(match mx with
    |some _=>False
    |none=>match eE (ev st.σ) lo 0,eE (ev st.σ) hi s.size with
     |some l,some h=>0<=l/\l<=h/\h<=s.size/\K (fin o st (.string (s.extract l.toNat h.toNat))) u
     |_,_=>False)
   |_,_=>False) (ho:o.op=.slice t x lo hi mx) (aO:bN C.n o=true) (hI:Inv C a wa st u θ):vc E C fz o st θ K Q a wa:=by
 have hx:dJ C.n x=true:=m_ aO (by simp[ho,Op.operands])
 have mQ:∀y k i,(lo=some y\/hi=some y\/mx=some y)->ev st.σ y=.int k i->a.eval y=.int k i:=by
  intro y k i hy he
  refine bt hI (m_ aO ?_) he rfl
  rcases hy with rfl|rfl|rfl<;>simp[ho,Op.operands]
 split at h
 ·rename_i e b len cap hu he
  split at h
  ·rename_i l h' m hl hh hm
   cases yn:(mx.isSome&&hi.isNone)||(E.P.info? e).isNone with
   |true=>simp only[yn,cond_true]at h
   |false=>
    simp only[yn,cond_false]at h
    simp only[Bool.or_eq_false_iff]at yn
    obtain⟨Un,Fb⟩:=yn
    obtain⟨i,vX⟩:∃i,E.P.info? e=some i:=by cases hq:E.P.info? e<;>simp_all
    obtain⟨hns,h0,h1,h2,h3,hK⟩:=h
    refine bh (r:=.slice (Br b l.toNat m.toNat (E.P.cellsOf e)) (h'.toNat-l.toNat) (m.toNat-l.toNat)) (wb:=wa) ?_ (ba aO hI rfl hK)
    simp only[execOp,ho,bt hI hx he rfl,Sem.run_bind,Instr.sliceAt,a_ hu,Result.andThen_ok,Instr.slice,qH mQ hl hh hm Un h0 h1 h2 h3,di vX,Sem.run_pure]
    congr 3
    unfold Br
    split
    ·rfl
    ·rename_i nR
     cases b with
     |none=>rfl
     |some b=>
      simp only[Option.map_some,Option.some.injEq]
      unfold Addr.add
      split
      ·rename_i h0'
       obtain⟨bb,bo,bs⟩:=b
       have:=(hns.resolve_left nR) _ rfl
       simp only at this
       subst this
       simp[h0']
      ·rfl
  ·exact h.elim
 ·rename_i s hu he
  cases mx with
  |some _=>exact h.elim
  |none=>
   simp only at h
   split at h
   ·rename_i l h' hl hh
    obtain⟨h0,h1,h2,hK⟩:=h
    refine bh (r:=.string (s.extract l.toNat h'.toNat)) (wb:=wa) ?_ (ba aO hI rfl hK)
    have hb:=qH (P:=E.P) (w:=wa) (isS:=false) (len:=s.size) (cap:=s.size) (mx:=none) (m:=s.size) (λy k i hy=>mQ y k i (by rcases hy with h|h|h;exact .inl h;exact .inr (.inl h);cases h)) hl hh rfl (by simp) h0 h1 h2 (by omega)
    simp only[execOp,ho,bt hI hx he rfl,Sem.run_bind,Instr.sliceAt,a_ hu,Result.andThen_ok,Instr.slice]
    simp only[Option.map_none]at hb
    simp only[Option.map_none,Option.isSome_none,Bool.false_eq_true,if_false,Sem.run_bind,hb,Result.andThen_ok,Sem.run_pure]
   ·exact h.elim
 ·exact h.elim
end
section
variable {E:Env} {C:Ctx} {a:Act} {wa:World} {st:St} {u:UW} {θ:Nat->Nat} {fz:List Nat} {o:Oper} {K:St->UW->Prop} {Q:Exit->Act->World->Prop}
theorem yz{P:Program}{t:TypeId}(h:P.cellsOf t≠0):∃i,P.info? t=some i:=by
 cases hi:P.info? t with
 |none=>simp[Program.cellsOf,hi]at h
 |some i=>exact⟨i,rfl⟩
theorem ahK{t:TypeId}{x i:Operand}(ho:o.op=.indexAddr t x i)(aO:bN C.n o=true)(hI:Inv C a wa st u θ)
  (h:match E.P.underlying t,ev st.σ x,ev st.σ i with
   |some (.slice e),.slice b len _,.int _ j=>(bif (E.P.info? e).isSome then cK b λb off=>0<=j/\j<len/\K (fin o st (.pointer (some ⟨b,off+j.toNat*E.P.cellsOf e,none⟩))) u else False)
   |some (.array len e),.complex .f64 k off,.int _ j=>(bif decide (0<=j)&&decide (j<len)&&(E.P.info? e).isSome then K (fin o st (e_ k (off+j.toNat*E.P.cellsOf e))) u else False)
   |_,_,_=>False):vc E C fz o st θ K Q a wa:=by
 have hx:dJ C.n x=true:=m_ aO (by simp[ho,Op.operands])
 have hi:dJ C.n i=true:=m_ aO (by simp[ho,Op.operands])
 split at h
 ·rename_i e b len c k j hu he MW
  obtain⟨gG,h⟩:=av h
  obtain⟨ie,Fb⟩:=Option.isSome_iff_exists.1 gG
  obtain⟨bb,off,rfl,h1,h2,h⟩:=ig h
  refine bh (r:=.pointer (some ⟨bb,off+j.toNat*E.P.cellsOf e,none⟩)) (wb:=wa) ?_ (ba aO hI rfl h)
  simp only[execOp,ho,bt hI hx he rfl,bt hI hi MW rfl,Instr.indexAt,asIntOf,Sem.run_bind,Sem.run_pure,Result.andThen_ok,a_ hu]
  rw[if_pos ⟨h1,h2⟩]
  simp only[Sem.run_bind,di Fb,Result.andThen_ok,Sem.run_pure,lQ]
 ·rename_i len e k off kk j hu he MW
  obtain⟨hc,h⟩:=av h
  simp only[Bool.and_eq_true,decide_eq_true_eq]at hc
  obtain⟨⟨h1,h2⟩,gG⟩:=hc
  obtain⟨ie,Fb⟩:=Option.isSome_iff_exists.1 gG
  obtain⟨mQ,hm⟩:=my hI hx he
  refine bh (r:=.pointer (some ⟨θ k,off+j.toNat*E.P.cellsOf e,none⟩)) (wb:=wa) ?_ ?_
  ·simp only[execOp,ho,mQ,bt hI hi MW rfl,Instr.indexAt,asIntOf,Sem.run_bind,Sem.run_pure,Result.andThen_ok,a_ hu,Instr.sureAddr]
   rw[if_pos ⟨h1,h2⟩]
   simp only[Sem.run_bind,di Fb,Result.andThen_ok,Sem.run_pure,lQ]
  ·exact nC aO hI (v:=e_ k _) rfl (λk' o' e=>by simp only[Value.complex.injEq,true_and]at e;rw[<- e.1];exact hm) h
 ·exact h.elim
theorem aea{t:TypeId}{x i:Operand}(ho:o.op=.index t x i)(aO:bN C.n o=true)(hI:Inv C a wa st u θ)
  (h:match E.P.underlying t,ev st.σ x,ev st.σ i with
   |some .string,.string s,.int _ j=>0<=j/\∃c:UInt8,s[j.toNat]?=some c/\K (fin o st (.int .u8 c.toNat)) u
   |some (.array len e),.agg cs,.int _ j=>0<=j/\j<len/\(E.P.info? e).isSome=true/\∃v,QZ E.P e (j.toNat*E.P.cellsOf e) cs.toList=some v/\plain v=true/\K (fin o st v) u
   |_,_,_=>False):vc E C fz o st θ K Q a wa:=by
 have hx:dJ C.n x=true:=m_ aO (by simp[ho,Op.operands])
 have hi:dJ C.n i=true:=m_ aO (by simp[ho,Op.operands])
 split at h
 ·rename_i s k j hu he MW
  obtain⟨h1,c,h2,h⟩:=h
  refine bh (r:=.int .u8 c.toNat) (wb:=wa) ?_ (ba aO hI rfl h)
  simp only[execOp,ho,bt hI hx he rfl,bt hI hi MW rfl,Instr.index,asIntOf,Sem.run_bind,Sem.run_pure,Result.andThen_ok,a_ hu,if_pos h1,h2]
 ·rename_i len e cs k j hu he MW
  obtain⟨h1,h2,gG,v,hv,ng,h⟩:=h
  obtain⟨ie,Fb⟩:=Option.isSome_iff_exists.1 gG
  refine bh (r:=v) (wb:=wa) ?_ (ba aO hI ng h)
  simp only[execOp,ho,bt hI hx he rfl,bt hI hi MW rfl,Instr.index,asIntOf,Sem.run_bind,Sem.run_pure,Result.andThen_ok,a_ hu,if_pos (show(0:Int)<=j/\j<len from⟨h1,h2⟩),di Fb]
  rw[Od hv];rfl
 ·exact h.elim
theorem xT(hI:Inv C a wa st u θ){ps:Array (Nat×Operand)}(h:∀x∈ps.toList,dJ C.n x.2=true)(hp:(ps.toList.all λp=>plain (ev st.σ p.2))=true):
  (ps.map λp=>(p.1,a.eval p.2))=(ps.toList.map λp=>(p.1,ev st.σ p.2)).toArray:=by
 apply Array.toList_inj.1
 simp only[Array.toList_map]
 apply List.map_congr_left
 intro p hpm
 rw[qo hI (h p hpm) (List.all_eq_true.1 hp p hpm)]
theorem aee{t:TypeId}{ps:Array (Nat×Operand)}(ho:o.op=.build t ps)(aO:bN C.n o=true)(hI:Inv C a wa st u θ)
  (h:bif ps.toList.all λp=>plain (ev st.σ p.2)then(match YE E.P t (ps.toList.map λp=>(p.1,ev st.σ p.2))with
   |some vs=>K (fin o st (.agg vs.toArray)) u
   |none=>False)else False):vc E C fz o st θ K Q a wa:=by
 obtain⟨hp,h⟩:=av h
 have hx:∀x∈ps.toList,dJ C.n x.2=true:=λx hx=>m_ aO (by simp only[ho,Op.operands];simp only[List.mem_toArray,List.mem_map];exact⟨x,hx,rfl⟩)
 cases hb:YE E.P t (ps.toList.map λp=>(p.1,ev st.σ p.2))with
 |none=>simp only[hb]at h
 |some vs=>
  simp only[hb]at h
  refine bh (r:=.agg vs.toArray) (wb:=wa) ?_ (ba aO hI rfl h)
  have e:=xT hI hx hp
  simp only[execOp,ho,e,Sem.run_bind]
  rw[run_build (r:=vs) (by simpa using hb)]
  rfl
theorem aed{t:TypeId}{len:Nat}{ps:Array (Nat×Operand)}(ho:o.op=.buildSlice t len ps)(aO:bN C.n o=true)(hI:Inv C a wa st u θ)
  (h:bif (ps.toList.all λp=>plain (ev st.σ p.2))&&Nat.beq ps.toList.length len then(match yw E.P t with
   |none=>False
   |some e=>match rj (E.P.cellsOf e) 0 (ps.toList.map λp=>(p.1,ev st.σ p.2))with
    |some vs=>bif Nat.ble vs.length 65536&&((E.P.info? e).bind (·.zero)).isSome&& !Nat.beq (E.P.cellsOf e) 0 then
      ∀(b:Nat) (w':World),tA u.toWorld w' b (.cells vs.toArray e (0,0))->K (fin o st (.slice (some ⟨b,0,none⟩) len len)) (u.born b w')else False
    |none=>False)else False):vc E C fz o st θ K Q a wa:=by
 obtain⟨hc,h⟩:=av h
 simp only[Bool.and_eq_true,beq_iff]at hc
 obtain⟨hp,hlen⟩:=hc
 have hx:∀x∈ps.toList,dJ C.n x.2=true:=λx hx=>m_ aO (by simp only[ho,Op.operands];simp only[List.mem_toArray,List.mem_map];exact⟨x,hx,rfl⟩)
 unfold yw at h
 cases hu:E.P.underlying t with
 |none=>simp only[hu]at h
 |some d=>
  cases d<;>simp only[hu]at h
  rename_i e
  cases hb:rj (E.P.cellsOf e) 0 (ps.toList.map λp=>(p.1,ev st.σ p.2))with
  |none=>simp only[hb]at h
  |some vs=>
   simp only[hb]at h
   obtain⟨hc,h⟩:=av h
   simp only[Bool.and_eq_true,Nat.ble_eq,Bool.not_eq_true']at hc
   obtain⟨⟨h1,h2⟩,h3⟩:=hc
   obtain⟨z,hz⟩:=Option.isSome_iff_exists.1 h2
   have hnz:E.P.cellsOf e≠0:=λe0=>by rw[beq_iff.2 e0]at h3;cases h3
   obtain⟨ie,Fb⟩:=yz hnz
   have Kc:=D_ hb
   simp only[List.length_map,hlen]at Kc
   obtain⟨w',iK,eU⟩:=hI.born (.cells vs.toArray e (0,0))
   refine bh (r:=.slice (some ⟨wa.heap.size,0,none⟩) len len) (wb:=wa.alloc (.cells vs.toArray e (0,0))) ?_ (ba aO eU rfl (h _ _ iK))
   have e0:=xT hI hx hp
   simp only[execOp,ho,e0,Sem.run_bind,Instr.buildSlice,a_ hu,Result.andThen_ok,di Fb]
   rw[if_neg (by rw[<- Kc];omega)]
   have Kt:∀cs:Array Value,cs.size=len*E.P.cellsOf e->Instr.fill (λi=>some (i*E.P.cellsOf e,E.P.cellsOf e)) cs (ps.toList.map λp=>(p.1,ev st.σ p.2))=some vs.toArray:=by
    intro cs mR
    rw[tX _ 0 vs cs hb (by simp only[List.length_map,hlen,Nat.zero_add];exact mR)]
    simp
   have hzr:(if len*E.P.cellsOf e=0 then(pure #[]:Sem (Array Value))else do pure (<- zeroValue e).cells).run E.P wa=.ok (if len*E.P.cellsOf e=0 then #[]else z.cells) wa:=by
    split
    ·rfl
    ·simp only[Sem.run_bind,lI hz,Result.andThen_ok,Sem.run_pure]
   split
   ·rename_i hl0
    simp only[Sem.run_bind,Sem.run_pure,Result.andThen_ok]
    rw[Kt _ (by simp)]
    simp only[newRow,Sem.run_bind,run_newObj,Result.andThen_ok,Sem.run_pure]
    rfl
   ·simp only[Sem.run_bind,lI hz,Sem.run_pure,Result.andThen_ok]
    rw[Kt _ (by simp)]
    simp only[newRow,Sem.run_bind,run_newObj,Result.andThen_ok,Sem.run_pure]
    rfl
theorem WY{t:TypeId}{len:Nat}{ps:Array (Nat×Operand)}(ho:o.op=.buildSlice t len ps)(aO:bN C.n o=true)(hI:Inv C a wa st u θ)
  (h:bif (ps.toList.all λp=>plain (ev st.σ p.2))&&Nat.beq ps.toList.length len then(match yw E.P t with
   |none=>False
   |some e=>match rj (E.P.cellsOf e) 0 (ps.toList.map λp=>(p.1,ev st.σ p.2))with
    |some vs=>bif Nat.ble vs.length 65536&&((E.P.info? e).bind (·.zero)).isSome&& !Nat.beq (E.P.cellsOf e) 0 then
      ∀(b:Nat) (w':World),tA u.toWorld w' b (.cells vs.toArray e (0,0))->K (fin o st (.slice (some ⟨b,0,none⟩) len len)) (u.born b w')else False
    |none=>False)else False):∃v ob,(execOp a.eval o).run E.P wa=.ok (.value v) (wa.alloc ob):=by
 obtain⟨hc,h⟩:=av h
 simp only[Bool.and_eq_true,beq_iff]at hc
 obtain⟨hp,hlen⟩:=hc
 have hx:∀x∈ps.toList,dJ C.n x.2=true:=λx hx=>m_ aO (by simp only[ho,Op.operands];simp only[List.mem_toArray,List.mem_map];exact⟨x,hx,rfl⟩)
 unfold yw at h
 cases hu:E.P.underlying t with
 |none=>simp only[hu]at h
 |some d=>
  cases d<;>simp only[hu]at h
  rename_i e
  cases hb:rj (E.P.cellsOf e) 0 (ps.toList.map λp=>(p.1,ev st.σ p.2))with
  |none=>simp only[hb]at h
  |some vs=>
   simp only[hb]at h
   obtain⟨hc,h⟩:=av h
   simp only[Bool.and_eq_true,Nat.ble_eq,Bool.not_eq_true']at hc
   obtain⟨⟨h1,h2⟩,h3⟩:=hc
   obtain⟨z,hz⟩:=Option.isSome_iff_exists.1 h2
   have hnz:E.P.cellsOf e≠0:=λe0=>by rw[beq_iff.2 e0]at h3;cases h3
   obtain⟨ie,Fb⟩:=yz hnz
   have Kc:=D_ hb
   simp only[List.length_map,hlen]at Kc
   refine⟨.slice (some ⟨wa.heap.size,0,none⟩) len len,.cells vs.toArray e (0,0),?_⟩
   have e0:=xT hI hx hp
   simp only[execOp,ho,e0,Sem.run_bind,Instr.buildSlice,a_ hu,Result.andThen_ok,di Fb]
   rw[if_neg (by rw[<- Kc];omega)]
   have Kt:∀cs:Array Value,cs.size=len*E.P.cellsOf e->Instr.fill (λi=>some (i*E.P.cellsOf e,E.P.cellsOf e)) cs (ps.toList.map λp=>(p.1,ev st.σ p.2))=some vs.toArray:=by
    intro cs mR
    rw[tX _ 0 vs cs hb (by simp only[List.length_map,hlen,Nat.zero_add];exact mR)]
    simp
   have hzr:(if len*E.P.cellsOf e=0 then(pure #[]:Sem (Array Value))else do pure (<- zeroValue e).cells).run E.P wa=.ok (if len*E.P.cellsOf e=0 then #[]else z.cells) wa:=by
    split
    ·rfl
    ·simp only[Sem.run_bind,lI hz,Result.andThen_ok,Sem.run_pure]
   split
   ·rename_i hl0
    simp only[Sem.run_bind,Sem.run_pure,Result.andThen_ok]
    rw[Kt _ (by simp)]
    simp only[newRow,Sem.run_bind,run_newObj,Result.andThen_ok,Sem.run_pure]
    rfl
   ·simp only[Sem.run_bind,lI hz,Sem.run_pure,Result.andThen_ok]
    rw[Kt _ (by simp)]
    simp only[newRow,Sem.run_bind,run_newObj,Result.andThen_ok,Sem.run_pure]
    rfl
theorem dt{P:Program}{b:Builtin}{args:Array Operand}{ts:Array TypeId}{w:World}{s:Sem Value}{v:Value}{w':World}(ho:o.op=.call ⟨.builtin b,args,ts⟩)
  (hb:∀consts,builtin b ts o.type consts (args.map a.eval)=(do pure (.value (<- s)):Sem Next)) (hs:s.run P w=.ok v w'):
  (execOp a.eval o).run P w=.ok (.value v) w':=by
 simp only[execOp,ho,resolve,Sem.run_bind,Sem.run_pure,Result.andThen_ok,invoke]
 rw[hb]
 simp only[Sem.run_bind,hs,Result.andThen_ok,Sem.run_pure]
theorem yg(hI:Inv C a wa st u θ):∀{xs:List Operand} {k:IntKind} {is:List Int},(∀x∈xs,dJ C.n x=true)->pn (ev st.σ) xs=some (k,is)->xs.map a.eval=is.map (Value.int k)/\is≠[]
 |[],_,_,_,h=>by simp[pn]at h
 |[x],k,is,aO,h=>by
  simp only[pn]at h
  split at h
  ·rename_i k' i he
   simp only[Option.some.injEq,Prod.mk.injEq]at h
   obtain⟨rfl,rfl⟩:=h
   simp[bt hI (aO x (by simp)) he rfl]
  ·cases h
 |x::y::l,k,is,aO,h=>by
  simp only[pn]at h
  split at h
  ·rename_i k1 i k2 js he hr
   simp only[Bool.cond_eq_ite]at h
   split at h
   ·rename_i hk
    simp only[decide_eq_true_eq]at hk
    simp only[Option.some.injEq,Prod.mk.injEq]at h
    obtain⟨rfl,rfl⟩:=h
    subst hk
    obtain⟨h1,_⟩:=yg hI (xs:=y::l) (λz hz=>aO z (by simp[hz])) hr
    refine⟨?_,by simp⟩
    rw[List.map_cons,h1,bt hI (aO x (by simp)) he rfl];rfl
   ·cases h
  ·cases h
theorem Hg{P:Program}{w:World}{k:IntKind}:∀(is:List Int) (i:Int),((is.map (Value.int k)).foldlM Builtin.min2 (.int k i)).run P w=.ok (.int k (is.foldl (λx y=>if y<x then y else x) i)) w
 |[],i=>by simp
 |j::is,i=>by simp only[List.map_cons,List.foldlM_cons,Builtin.min2,Sem.run_bind,Sem.run_pure,Result.andThen_ok,List.foldl_cons];exact Hg is _
theorem Hh{P:Program}{w:World}{k:IntKind}:∀(is:List Int) (i:Int),((is.map (Value.int k)).foldlM Builtin.max2 (.int k i)).run P w=.ok (.int k (is.foldl (λx y=>if y>x then y else x) i)) w
 |[],i=>by simp
 |j::is,i=>by simp only[List.map_cons,List.foldlM_cons,Builtin.max2,Sem.run_bind,Sem.run_pure,Result.andThen_ok,List.foldl_cons];exact Hh is _
theorem FO{P:Program}{w:World}{size m c:Nat}{xb:Option Addr}{new:List Value}(h0:m=0->new=[])(h1:m≠0->∃b off C T f,xb=some ⟨b,off,none⟩/\w.heap[b]?=some (.cells C T f)/\off+m*size<=C.size/\new=(C.toList.drop off).take (m*size)):
  (Builtin.firstCells size m (.slice xb m c)).run P w=.ok new.toArray w:=by
 by_cases hm:m=0
 ·subst hm
  rw[h0 rfl]
  cases xb<;>simp[Builtin.firstCells,loadCells,loadCellsFrom]
 ·obtain⟨b,off,C,T,f,rfl,hb,hl,rfl⟩:=h1 hm
  simp only[Builtin.firstCells]
  exact uV hb hl
theorem aeg{x y:Operand}{t t' e e':TypeId}{base xb:Option Addr}{n cap m c':Nat}(ho:o.op=.call ⟨.builtin .append,#[x,y],#[t,t']⟩)(aO:bN C.n o=true)(hI:Inv C a wa st u θ)
  (hu:E.P.underlying t=some (.slice e)) (iu:E.P.underlying t'=some (.slice e')) (hx:ev st.σ x=.slice base n cap) (hy:ev st.σ y=.slice xb m c')
  (h:Rn E.P e base n cap xb m u λp q r w'=>K (fin o st (.slice p q r)) w'):vc E C fz o st θ K Q a wa:=by
 have kx:dJ C.n x=true:=m_ aO (by simp[ho,Op.operands,Call.operands])
 have ky:dJ C.n y=true:=m_ aO (by simp[ho,Op.operands,Call.operands])
 have hex:=bt hI kx hx rfl
 have ZO:=bt hI ky hy rfl
 obtain⟨size,bytes,zero,ET,new,Ko,RM,Zz,ho0,ho1,anX,Ya,tN,Gn,MR,yl,afe⟩:=h
 cases hi:E.P.info? e with
 |none=>simp[hi]at Ko
 |some i=>
  simp only[hi,Option.map_some,Option.some.injEq,Prod.mk.injEq]at Ko
  obtain⟨rfl,rfl,hz⟩:=Ko
  cases hzz:i.zero with
  |none=>simp[hzz]at hz
  |some z=>
   simp only[hzz,Option.map_some,Option.some.injEq]at hz
   subst hz
   have hzr:(E.P.info? e).bind (·.zero)=some z:=by simp[hi,hzz]
   have rdw:∀{A:Option Addr} {k:Nat} {vs:List Value},(k*i.size≠0)->(cK A λb o=>rd u.heap b o (k*i.size)=some vs)->∃b off C T f,A=some ⟨b,off,none⟩/\wa.heap[b]?=some (.cells C T f)/\off+k*i.size<=C.size/\vs=(C.toList.drop off).take (k*i.size):=by
    intro A k vs hk hw
    obtain⟨b,off,rfl,fB⟩:=ig hw
    obtain⟨C,T,f,c1,c2,c3⟩:=xN hI.below fB hk
    exact⟨b,off,C,T,f,rfl,c1,c2,c3⟩
   have rd0:∀{A:Option Addr} {k:Nat} {vs:List Value},(k*i.size=0)->(cK A λb o=>rd u.heap b o (k*i.size)=some vs)->vs=[]:=by
    intro A k vs hk hw
    obtain⟨b,off,rfl,fB⟩:=ig hw
    rw[hk]at fB
    obtain⟨_,_,_,h|h⟩:=SJ hI.below fB
    ·exact List.eq_nil_of_length_eq_zero h.2
    ·exact h.2
   have first:∀{A:Option Addr} {k c:Nat} {vs:List Value} (w:World),w.heap=wa.heap->(k=0->vs=[])->(k≠0->cK A λb o=>rd u.heap b o (k*i.size)=some vs)->(Builtin.firstCells i.size k (.slice A k c)).run E.P w=.ok vs.toArray w:=by
    intro A k c vs w hw h0 h1
    by_cases hk:k=0
    ·exact FO h0 (λh=>absurd hk h)
    ·by_cases sN:k*i.size=0
     ·have HL:=rd0 sN (h1 hk)
      subst HL
      obtain⟨b,off,rfl,_⟩:=ig (h1 hk)
      simp[Builtin.firstCells,loadCells,sN,loadCellsFrom]
     ·exact FO h0 (λ_=>by rw[hw];exact rdw sN (h1 hk))
   by_cases hr:n+m<=cap
   ·rcases yl hr with⟨hm,hK⟩|⟨hm,gV⟩
    ·subst hm
     refine bh (r:=.slice base n cap) (wb:=wa) ?_ (ba aO hI rfl hK)
     refine dt (s:=Builtin.append_ #[t,t'] o.type #[.slice base n cap,.slice xb 0 c']) ho (λ_=>by simp only[builtin,List.map_toArray,List.map_cons,List.map_nil,hex,ZO]) ?_
     have hf:=first (A:=xb) (k:=0) (c:=c') wa rfl RM (λh=>absurd rfl h)
     have hnn:new=[]:=RM rfl
     subst hnn
     simp only[Nat.add_zero]at hr
     simp[Builtin.append_,a_ hu,a_ iu,sizeOf,typeInfo,hi,Builtin.lenOf,hr,hf,storeCells]
     cases base<;>simp
    ·obtain⟨b,off,rfl,gV⟩:=ig gV
     have hf:=first (A:=xb) (k:=m) (c:=c') wa rfl RM Zz
     by_cases aT:new=[]
     ·subst aT
      obtain⟨cc,T,q1,q2,q3,q4⟩:=gV
      have hS:Sto u.toWorld u.toWorld b (.cells cc T (0,0)):=⟨rfl,rfl,rfl,Nat.le_refl _,q1,λ_ _ _=>rfl⟩
      refine bh (r:=.slice (some ⟨b,off,none⟩) (n+m) cap) (wb:=wa) ?_ (ba aO (u':=u.LA u.toWorld) (θ:=θ) hI rfl (q4 _ hS))
      refine dt (s:=Builtin.append_ #[t,t'] o.type #[.slice (some ⟨b,off,none⟩) n cap,.slice xb m c']) ho (λ_=>by simp only[builtin,List.map_toArray,List.map_cons,List.map_nil,hex,ZO]) ?_
      simp[Builtin.append_,a_ hu,a_ iu,sizeOf,typeInfo,hi,Builtin.lenOf,hr,hf,storeCells]
     ·obtain⟨cc,T,w',c1,c2,eU,hK⟩:=FV hI gV aT
      refine bh (r:=.slice (some ⟨b,off,none⟩) (n+m) cap) (wb:=kC wa b (.cells (xp cc (off+n*i.size) new) T (0,0))) ?_ (ba aO eU rfl hK)
      refine dt (s:=Builtin.append_ #[t,t'] o.type #[.slice (some ⟨b,off,none⟩) n cap,.slice xb m c']) ho (λ_=>by simp only[builtin,List.map_toArray,List.map_cons,List.map_nil,hex,ZO]) ?_
      have hsr:=nu (P:=E.P) (b:=b) (o:=off+n*i.size) (T:=T) new 0 wa cc c1 (by omega) MR
      simp only[Nat.add_zero]at hsr
      simp[Builtin.append_,a_ hu,a_ iu,sizeOf,typeInfo,hi,Builtin.lenOf,hr,hf,lQ,hsr]
   ·have cz:cap<n+m:=by omega
    have nh:=hI.drew
    have vY:n+m<=grownCap wa (n+m) cap e:=grownCap_ge wa (n+m) cap e
    obtain⟨w',hb,eU⟩:=nh.born (.cells (ET++new++(Builtin.zeroCells z.cells (grownCap wa (n+m) cap e-(n+m))).toList).toArray e (0,0))
    have hK:=afe cz (grownCap wa (n+m) cap e) wa.heap.size (Builtin.zeroCells z.cells (grownCap wa (n+m) cap e-(n+m))).toList w' vY (by simp only[Array.length_toList,size_zeroCells];rw[<- Gn];simp) hb
    refine bh (r:=.slice (some ⟨wa.heap.size,0,none⟩) (n+m) (grownCap wa (n+m) cap e)) ?_ (ba aO eU rfl hK)
    refine dt (s:=Builtin.append_ #[t,t'] o.type #[.slice base n cap,.slice xb m c']) ho (λ_=>by simp only[builtin,List.map_toArray,List.map_cons,List.map_nil,hex,ZO]) ?_
    have vZ:=growslice_fits cz Ya
    have ajR:¬(9223372036854775807<((n:Int)+(m:Int))):=by omega
    have ajS:¬(281474976710656<Builtin.nextslicecap (n+m) cap*i.bytes):=by omega
    have hf:=first (A:=xb) (k:=m) (c:=c') wa.drew rfl RM Zz
    have hfo:=first (A:=base) (k:=n) (c:=cap) wa.drew rfl ho0 ho1
    simp[Builtin.append_,a_ hu,a_ iu,sizeOf,typeInfo,zeroValue,hi,hzz,Builtin.lenOf,hr,ajR,ajS,Question.forced,hf,hfo,newRow,grownCap]
    congr 2
    apply Array.ext'
    simp
end
section
variable {E:Env} {C:Ctx} {fz:List Nat} {o:Oper} {st:St} {u:UW} {θ:Nat->Nat} {K:St->UW->Prop} {Q:Exit->Act->World->Prop} {a:Act} {wa:World}
theorem ad8{t:TypeId}{x:Operand}(ho:o.op=.makeInterface t x)(aO:bN C.n o=true)(hI:Inv C a wa st u θ)
  (h:bif plain (ev st.σ x)then(match pv E.P (Instr.makeInterface t (ev st.σ x))with
   |some v=>bif plain v then K (fin o st v) u else False
   |none=>False)else False):vc E C fz o st θ K Q a wa:=by
 have hx:dJ C.n x=true:=m_ aO (by simp[ho,Op.operands])
 obtain⟨hp,h⟩:=av h
 cases hv:pv E.P (Instr.makeInterface t (ev st.σ x))with
 |none=>simp only[hv]at h
 |some v=>
  simp only[hv]at h
  obtain⟨ng,h⟩:=av h
  refine bh (r:=v) (wb:=wa) ?_ (ba aO hI ng h)
  simp only[execOp,ho,qo hI hx hp,Sem.run_bind,zp hv wa]
  rfl
theorem PW(k:IntKind)(i:Int)(P:Program)(w:World):(asInt (.int k i)).run P w=.ok i w:=by simp[asInt,asIntOf]
theorem RZ(z:Array Value)(j:Nat):(Array.range (j*z.size)).map (λi=>z[i % z.size]!)=(List.replicate j z.toList).flatten.toArray:=by
 apply Array.toList_inj.1
 simp only[Array.toList_map,Array.toList_range]
 induction j with
 |zero=>simp
 |succ j ih=>
  rw[Nat.succ_mul,List.range_add,List.map_append,ih,List.replicate_succ',List.flatten_append]
  congr 1
  simp only[List.map_map,List.flatten_cons,List.flatten_nil,List.append_nil]
  refine List.ext_getElem (by simp) λi h1 h2=>?_
  simp only[List.length_map,List.length_range]at h1
  simp[Nat.mul_add_mod_self_right,Nat.mod_eq_of_lt h1,h1]
theorem ad7{t:TypeId}{x y:Operand}(ho:o.op=.makeSlice t x y)(aO:bN C.n o=true)(hI:Inv C a wa st u θ)
  (h:match E.P.underlying t,ev st.σ x,ev st.σ y with
  |some (.slice e),.int _ i,.int _ j=>(match(E.P.info? e).map (λi=>(i.size,i.bytes,i.zero.map λz=>z.cells.toList))with
   |some (size,bytes,some zero)=>bif Nat.beq zero.length size&& !Nat.beq size 0 then
     0<=i/\i<=j/\j<4611686018427387904/\j.toNat*bytes<=140737488355328/\
     ∀(b:Nat) (w':World),tA u.toWorld w' b (.cells (List.replicate j.toNat zero).flatten.toArray e (0,0))->K (fin o st (.slice (some ⟨b,0,none⟩) i.toNat j.toNat)) (u.born b w')else False
   |_=>False)
  |_,_,_=>False):vc E C fz o st θ K Q a wa:=by
 have hx:dJ C.n x=true:=m_ aO (by simp[ho,Op.operands])
 have hy:dJ C.n y=true:=m_ aO (by simp[ho,Op.operands])
 split at h
 ·rename_i e k i k' j hu ex ey
  cases hi:E.P.info? e with
  |none=>simp[hi]at h
  |some inf=>
   simp only[hi,Option.map_some]at h
   cases hz:inf.zero with
   |none=>simp[hz]at h
   |some z=>
    simp only[hz,Option.map_some]at h
    obtain⟨hc,h1,h2,h3,h4,h⟩:=av h
    simp only[Bool.and_eq_true,beq_iff,Bool.not_eq_true']at hc
    obtain⟨gD,hnz⟩:=hc
    have hzs:z.cells.size=inf.size:=by simpa using gD
    have RM:inf.size≠0:=λe0=>by rw[beq_iff.2 e0]at hnz;cases hnz
    obtain⟨w',iK,eU⟩:=hI.born (.cells (List.replicate j.toNat z.cells.toList).flatten.toArray e (0,0))
    refine bh (r:=.slice (some ⟨wa.heap.size,0,none⟩) i.toNat j.toNat) (wb:=wa.alloc (.cells (List.replicate j.toNat z.cells.toList).flatten.toArray e (0,0))) ?_ (ba aO eU rfl (h _ _ iK))
    have wi:IntKind.i64.wrap i=i:=IntWalk.i64_in i (by omega)
    have wj:IntKind.i64.wrap j=j:=IntWalk.i64_in j (by omega)
    have aiY:¬((inf.bytes:Int)*j>2 ^ 48):=by
     have:((j.toNat*inf.bytes:Nat):Int)<=140737488355328:=Int.ofNat_le.2 h4
     have e1:((j.toNat:Nat):Int)=j:=Int.toNat_of_nonneg (by omega)
     rw[Int.natCast_mul,e1,Int.mul_comm]at this
     omega
    have Gt:E.P.cellsOf e=inf.size:=by simp[Program.cellsOf,hi]
    have hzr:=RZ z.cells j.toNat
    rw[hzs]at hzr
    have afr:((decide (j<0)||decide ((inf.bytes:Int)*j>2 ^ 48))||decide (i<0)||decide (i>j))=false:=by
     simp only[decide_eq_false (show ¬j<0 by omega),decide_eq_false aiY,decide_eq_false (show ¬i<0 by omega),decide_eq_false (show ¬i>j by omega),Bool.or_false]
    have hzz:(E.P.info? e).bind (·.zero)=some z:=by simp[hi,hz]
    simp only[execOp,ho,bt hI hx ex rfl,bt hI hy ey rfl,Sem.run_bind,Instr.makeSlice,a_ hu,Result.andThen_ok,PW,CG hi,wi,wj]
    rw[if_neg (by rw[afr];simp)]
    by_cases hn:j.toNat*inf.size=0
    ·have hj:j.toNat=0:=(Nat.mul_eq_zero.1 hn).resolve_right RM
     simp[di hi,Gt,hj,newRow]
     congr 2;apply Array.ext';simp
    ·simp[di hi,Gt,hn,lI hzz,newRow,hzr,hzs]
 ·exact h.elim
end
section
variable {E:Env} {C:Ctx} {a:Act} {wa:World} {st:St} {u:UW} {θ:Nat->Nat} {fz:List Nat} {o:Oper} {K:St->UW->Prop} {Q:Exit->Act->World->Prop}
theorem qG{P:Program}{g:FuncId}{args:Array Value}{w:World}(h:eG P g=true):(callFunc g args).run P w=.ok (.enter g args) w:=by
 unfold eG at h
 cases hf:P.funcs[g]? with
 |none=>simp[hf]at h
 |some fn=>
  simp only[hf,Bool.and_eq_true,Bool.not_eq_true']at h
  obtain⟨h1,h2⟩:=h
  cases hb:fn.body with
  |none=>simp[hb]at h2
  |some c=>
   simp only[callFunc,Sem.run_bind,run_program,Result.andThen_ok,hf,h1,hb,Bool.false_eq_true,if_false,Option.isNone_some,Sem.run_pure]
theorem DN{P:Program}{t:TypeId}{F:Value->Prop}(h:exV P t F):∃v,plain v=true/\F v:=by
 unfold exV at h
 cases hk:kinds P t with
 |none=>simp only[hk]at h
 |some ks=>
  simp only[hk]at h
  obtain⟨vs,hl,hp,h⟩:=sV h
  obtain⟨_,_,h2⟩:=nN hk
  exact⟨_,qd hp (h2.imp id λh=>by omega),h⟩
theorem GB{P:Program}:∀{ts:List TypeId} {F:List Value->Prop},Nf P ts F->∃vs,F vs
 |[],_,h=>⟨[],h⟩
 |t::ts,F,h=>by
  obtain⟨v,_,h⟩:=DN h
  obtain⟨vs,h⟩:=GB h
  exact⟨_,h⟩
theorem KM{P:Program}{t:TypeId}{F:Value->Prop}(h:RX P t F):∃v,plain v=true/\F v:=by
 unfold RX at h
 split at h
 ·obtain⟨vs,h⟩:=GB h
  exact⟨_,rfl,h⟩
 ·exact DN h
theorem Inv.ret{F:Nat->Prop}{w' wr:World}(hI:Inv C a wa st u θ)(hF:∀b,F b->u.ij b)(gM:Out F u.toWorld wa w' wr):Inv C a wr st (u.ret wa.heap.size w') θ:=by
 refine hI.world hF gM.mod gM.ER gM.umod gM.Dz ?_ ?_
 ·intro b hb
  rcases hb with hb|⟨_,hb⟩
  ·exact Nat.lt_of_lt_of_le (hI.rO b hb) gM.mod.size
  ·exact Nat.lt_of_lt_of_le hb gM.ER.size
 ·intro b hb cz
  rcases hb with hb|⟨hb,_⟩
  ·exact hb
  ·omega
theorem lB{P:Program}{f:Value}{args:List Value}{u:UW}{K:Value->UW->Prop}:
  rN P f args u K↔∃F:Nat->Prop,(∀b,F b->u.ij b)/\NB P f args u.toWorld F λv lo w'=>K v (u.ret lo w'):=by
 unfold rN
 split
 ·rename_i g first captured
  constructor
  ·intro h
   obtain⟨hc,F,hF,h⟩:=av h
   exact⟨F,hF,λw1 hs=>⟨hc,h w1 hs⟩⟩
  ·rintro⟨F,hF,h⟩
   have hc:eG P g=true:=(h u.toWorld (Ah.refl _)).1
   rw[hc]
   exact⟨F,hF,λw1 hs=>(h w1 hs).2⟩
 ·exact Iff.rfl
theorem aaF{f:Operand}{args:Array Operand}{ts:Array TypeId}(ho:o.op=.call ⟨.value f,args,ts⟩)(aO:bN C.n o=true)(hI:Inv C a wa st u θ)
  (h:bif args.toList.all (λx=>plain (ev st.σ x))then
    rN E.P (ev st.σ f) (args.toList.map (ev st.σ)) u λv w'=>RX E.P o.type λv'=>v=v'/\K (fin o st v') w' else False):vc E C fz o st θ K Q a wa:=by
 obtain⟨hp,h⟩:=av h
 have kf:dJ C.n f=true:=m_ aO (by simp[ho,Op.operands,Call.operands])
 have ka:∀x∈args.toList,dJ C.n x=true:=λx hx=>m_ aO (by simp[ho,Op.operands,Call.operands];right;simpa using hx)
 obtain⟨F,hF,h⟩:=lB.1 h
 have h:=h wa hI.below
 have hea:=tZ hI ka hp
 have done:∀(e:Ending) (wr:World),(∃v w',e=.returned v/\Out F u.toWorld wa w' wr/\RX E.P o.type λv'=>v=v'/\K (fin o st v') (u.ret wa.heap.size w'))->
   match e with
   | .returned v=>Pu C fz o st θ (jt E.gp o) K (a.put o.dst v) wr
   | .panicked chain=>Q (.panic chain) a wr
   | .outgrown=>LetsOut Q:=by
  rintro e wr ⟨v,w',rfl,gM,hK⟩
  obtain⟨v',ng,rfl,hK⟩:=KM hK
  exact ba aO (hI.ret hF gM) ng hK
 unfold Af at h
 split at h
 ·rename_i g first captured hf
  obtain⟨hc,h⟩:=h
  have hef:=bt hI kf hf rfl
  have kF:(execOp a.eval o).run E.P wa=.ok (.enter g (first.toList++args.toList.map (ev st.σ)++captured.toList).toArray) wa:=by
   simp only[execOp,ho,resolve,hef,hea,Deferred.ofValue,Sem.run_bind,Sem.run_pure,Result.andThen_ok,invoke]
   rw[qG hc]
   congr 2
   apply Array.toList_inj.1
   simp
  unfold vc
  rw[kF]
  refine⟨λh=>(by cases h),callsIn_wide.2 (h.mono λe wr Kf=>?_)⟩
  have:=done e wr Kf
  cases e<;>exact this
 ·rename_i l first captured hf
  obtain⟨rfl,rfl,r,hr,hlen,h⟩:=h
  have hef:=bt hI kf hf rfl
  have kF:(execOp a.eval o).run E.P wa=.ok (.round l r.fn ((r.params.zip (args.toList.map (ev st.σ)).toArray).foldl (λt (p,v)=>t.setIfInBounds p v) r.tmps) r.assign r.body) wa:=by
   simp only[execOp,ho,resolve,hef,hea,Deferred.ofValue,Sem.run_bind,Sem.run_pure,Result.andThen_ok,invoke]
   rw[show(#[]++(args.toList.map (ev st.σ)).toArray)=(args.toList.map (ev st.σ)).toArray by simp]
   exact run_yield hr (by simpa using hlen)
  unfold vc
  rw[kF]
  refine⟨λh=>(by cases h),h.mono λe wr Kf=>?_⟩
  have:=done e wr Kf
  cases e<;>exact this
 ·exact h.elim
theorem ad_{x:Operand}{name:String}{args:Array Operand}{ts:Array TypeId}(ho:o.op=.call ⟨.invoke x name,args,ts⟩)(aO:bN C.n o=true)(hI:Inv C a wa st u θ)
  (h:bif args.toList.all (λx=>plain (ev st.σ x))then(match ev st.σ x with
    | .iface t r=>(match pv E.P (method (E.P.types.size+Made.depth) t r name)with
      |some (g,r')=>bif eG E.P g then qy E.P g (r'::args.toList.map (ev st.σ)).toArray u λv w'=>RX E.P o.type λv'=>v=v'/\K (fin o st v') w' else False
      |none=>False)
    |_=>False)else False):vc E C fz o st θ K Q a wa:=by
 obtain⟨hp,h⟩:=av h
 have kx:dJ C.n x=true:=m_ aO (by simp[ho,Op.operands,Call.operands])
 have ka:∀x∈args.toList,dJ C.n x=true:=λx hx=>m_ aO (by simp[ho,Op.operands,Call.operands];right;simpa using hx)
 split at h
 ·rename_i t r hf
  cases hm:pv E.P (method (E.P.types.size+Made.depth) t r name)with
  |none=>simp only[hm]at h
  |some gr=>
   obtain⟨g,r'⟩:=gr
   simp only[hm]at h
   obtain⟨hc,F,hF,h⟩:=av h
   have hef:=bt hI kx hf rfl
   have hea:=tZ hI ka hp
   have kF:(execOp a.eval o).run E.P wa=.ok (.enter g (r'::args.toList.map (ev st.σ)).toArray) wa:=by
    simp only[execOp,ho,resolve,hef,hea,Sem.run_bind,Sem.run_pure,Result.andThen_ok,invoke]
    simp[callMethod,zp hm wa,qG hc]
    exact List.take_of_length_le (by simp)
   unfold vc
   rw[kF]
   refine⟨λh=>(by cases h),callsIn_wide.2 ((h wa hI.below).mono λe wr Kf=>?_)⟩
   obtain⟨v,w',rfl,gM,hK⟩:=Kf
   obtain⟨v',ng,rfl,hK⟩:=KM hK
   exact ba aO (hI.ret hF gM) ng hK
 ·exact h.elim
theorem ahM{b:Builtin}{args:Array Operand}{ts:Array TypeId}(ho:o.op=.call ⟨.builtin b,args,ts⟩)(aO:bN C.n o=true)(hI:Inv C a wa st u θ)
  (h:W1b E o st u b args.toList ts.toList K):vc E C fz o st θ K Q a wa:=by
 have ka:∀x∈args.toList,dJ C.n x=true:=λx hx=>m_ aO (by simp[ho,Op.operands,Call.operands];simpa using hx)
 obtain⟨args⟩:=args
 obtain⟨ts⟩:=ts
 simp only at h ka
 unfold W1b at h
 split at h
 ·rename_i x t
  have kx:=ka x (by simp)
  split at h
  ·rename_i n c hu he
   refine bh (r:=.int .i64 n) (wb:=wa) ?_ (ba aO hI rfl h)
   refine dt (s:=Builtin.len_ #[t] o.type #[a.eval x]) ho (λ_=>by simp[builtin]) ?_
   simp[Builtin.len_,a_ hu,bt hI kx he rfl,goInt]
  ·rename_i s hu he
   refine bh (r:=.int .i64 s.size) (wb:=wa) ?_ (ba aO hI rfl h)
   refine dt (s:=Builtin.len_ #[t] o.type #[a.eval x]) ho (λ_=>by simp[builtin]) ?_
   simp[Builtin.len_,a_ hu,bt hI kx he rfl,goInt]
  ·rename_i n e hu
   obtain⟨_,h⟩:=av h
   refine bh (r:=.int .i64 n) (wb:=wa) ?_ (ba aO hI rfl h)
   refine dt (s:=Builtin.len_ #[t] o.type #[a.eval x]) ho (λ_=>by simp[builtin]) ?_
   simp[Builtin.len_,a_ hu,goInt]
  ·exact h.elim
 ·rename_i x y t t'
  split at h
  ·rename_i e e' base n cap xb m c hu iu hx hy
   exact aeg ho aO hI hu iu hx hy h
  ·exact h.elim
 ·split at h
  ·rename_i k i is hi
   refine bh (r:=.int k (is.foldl (λx y=>if y<x then y else x) i)) (wb:=wa) ?_ (ba aO hI rfl h)
   obtain⟨he,_⟩:=yg hI ka hi
   refine dt (s:=(is.map (Value.int k)).foldlM Builtin.min2 (.int k i)) ho (λ_=>?_) (Hg is i)
   simp only[builtin,Builtin.min_,List.map_toArray,he,List.map_cons]
  ·exact h.elim
 ·split at h
  ·rename_i k i is hi
   refine bh (r:=.int k (is.foldl (λx y=>if y>x then y else x) i)) (wb:=wa) ?_ (ba aO hI rfl h)
   obtain⟨he,_⟩:=yg hI ka hi
   refine dt (s:=(is.map (Value.int k)).foldlM Builtin.max2 (.int k i)) ho (λ_=>?_) (Hh is i)
   simp only[builtin,Builtin.max_,List.map_toArray,he,List.map_cons]
  ·exact h.elim
 ·exact h.elim
theorem lR(aO:bN C.n o=true)(hI:Inv C a wa st u θ)(h:W1 E fz o st u K):vc E C fz o st θ K Q a wa:=by
 cases ho:o.op with
 |move x=>simp only[W1,ho]at h;exact SE (.inl ho) aO hI h
 |assign x=>simp only[W1,ho]at h;exact SE (.inr ho) aO hI h
 |pick c x y=>
  simp only[W1,ho]at h
  split at h
  ·rename_i t hc;exact aaC ho aO hI hc h
  ·exact h.elim
 |alloc t=>
  simp only[W1,ho]at h
  cases hz:(E.P.info? t).bind (·.zero)with
  |none=>simp only[hz]at h
  |some z=>
   simp only[hz]at h
   have kF:(execOp a.eval o).run E.P wa=.ok (.value (.pointer (some ⟨wa.heap.size,0,none⟩))) (wa.alloc (.cells z.cells t (0,0))):=by
    simp only[execOp,ho,Sem.run_bind,FQ hz];rfl
   cases hd:o.dst with
   |none=>simp only[hd]at h
   |some k=>
    simp only[hd]at h
    cases hm:dw E.gp k with
    |true=>simp only[hm,cond_true]at h;exact Jz (by simp[jt,ho,hd,hm]) aO hI hd kF h
    |false=>simp only[hm,cond_false]at h;exact Jy aO hI kF h
 |box t x=>
  simp only[W1,ho]at h
  obtain⟨hp,h⟩:=av h
  have kx:dJ C.n x=true:=m_ aO (by simp[ho,Op.operands])
  have kF:(execOp a.eval o).run E.P wa=.ok (.value (.pointer (some ⟨wa.heap.size,0,none⟩))) (wa.alloc (.cells (ev st.σ x).cells t (0,0))):=by
   simp only[execOp,ho,Sem.run_bind,Oe,qo hI kx hp];rfl
  cases hd:o.dst with
  |none=>simp only[hd]at h
  |some k=>
   simp only[hd]at h
   cases hm:dw E.gp k with
   |true=>simp only[hm,cond_true]at h;exact Jz (by simp[jt,ho,hd,hm]) aO hI hd kF h
   |false=>simp only[hm,cond_false]at h;exact Jy aO hI kF h
 |build t ps=>simp only[W1,ho]at h;exact aee ho aO hI h
 |buildSlice t len ps=>simp only[W1,ho]at h;exact aed ho aO hI h
 |load t x=>
  simp only[W1,ho]at h
  cases hk:kinds E.P t with
  |none=>simp only[hk]at h
  |some ks=>simp only[hk]at h;exact aaD ho aO hI hk h
 |store t x y=>simp only[W1,ho]at h;exact WU ho aO hI h
 |nilCheck x=>simp only[W1,ho]at h;exact ad6 ho aO hI h
 |binOp op t x y t'=>simp only[W1,ho]at h;exact aef ho aO hI h
 |unOp op t x=>simp only[W1,ho]at h;exact ahJ h ho aO hI
 |convert s d x=>simp only[W1,ho]at h;exact aaE ho aO hI h
 |makeInterface t x=>simp only[W1,ho]at h;exact ad8 ho aO hI h
 |makeSlice t x y=>simp only[W1,ho]at h;exact ad7 ho aO hI h
 |makeFunc fn p q=>simp only[W1,ho]at h;exact ad9 ho aO hI h
 |slice t x lo hi mx=>simp only[W1,ho]at h;exact WW h ho aO hI
 |fieldAddr t x f=>
  simp only[W1,ho]at h
  cases hd:Fh E.P t f with
  |none=>simp only[hd]at h
  |some d=>simp only[hd]at h;exact ahL ho aO hI hd h
 |field t x f=>simp only[W1,ho]at h;exact aeb ho aO hI h
 |indexAddr t x i=>simp only[W1,ho]at h;exact ahK ho aO hI h
 |index t x i=>simp only[W1,ho]at h;exact aea ho aO hI h
 |extract x i=>simp only[W1,ho]at h;exact aec ho aO hI h
 |call c=>
  simp only[W1,ho]at h
  obtain⟨callee,args,ts⟩:=c
  cases callee with
  |builtin b=>simp only at h;exact ahM ho aO hI h
  |value f=>simp only at h;exact aaF ho aO hI h
  |invoke r m=>simp only at h;exact ad_ ho aO hI h
 |_=>simp only[W1,ho]at h
end
structure Mx(n:Nat)(fz ws:List Nat)(ahV:Nat->Prop)(st gg s:St):Prop where
 slot:∀i,i<n->s.σ i=bd\/s.σ i=gg.σ i
 dD:∀k m,(k,m)∈s.D->(k,m)∈gg.D/\(¬ahV k->∀j,j<m->s.σ (gx k j)=bd\/s.σ (gx k j)=gg.σ (gx k j))
 fk:∀i,i<n->∀k o,s.σ i=e_ k o->∃m,(k,m)∈s.D
 de:∀i,i<n->i∉ws->s.σ i=st.σ i
 acQ:∀x,x∈st.D->x∈s.D
 frz:∀k,k∈fz->∀m,(k,m)∈st.D->∀j,j<m->s.σ (gx k j)=st.σ (gx k j)
def ti(l:Live)(k:Nat):Prop:=∃ks,(k,Kd.box ks)∈l
theorem vB(σ:Fr)(ws:List Nat)(k j:Nat):xS σ ws (gx k j)=σ (gx k j):=by
 have:Nat.blt (gx k j) 65536=false:=by
  cases h:Nat.blt (gx k j) 65536 with
  |false=>rfl
  |true=>have:=km.1 h;have:=kS k j;omega
 simp only[xS,this,Bool.false_and,cond_false]
open Classical in
theorem Qc(σ:Fr)(ws:List Nat)(i:Nat)(hi:i<65536):xS σ ws i=if i∈ws then bd else σ i:=by
 have e1:Nat.blt i 65536=true:=km.2 hi
 by_cases hw:i∈ws
 ·simp only[xS,e1,fD.2 hw,Bool.and_true,cond_true,if_pos hw]
 ·have:dw ws i=false:=by cases hm:dw ws i with|false=>rfl|true=>exact absurd (fD.1 hm) hw
  simp only[xS,this,Bool.and_false,cond_false,if_neg hw]
open Classical in
theorem AI:∀(l:List (Nat×Nat)) (σ:Fr) (i:Nat),i<65536->gn σ l i=if(∃m,(i,m)∈l)then e_ i 0 else σ i
 |[],σ,i,_=>by simp[gn]
 |(k,m)::l,σ,i,hi=>by
  simp only[gn]
  rw[AI l _ i hi]
  by_cases h:∃m,(i,m)∈l
  ·rw[if_pos h,if_pos (by obtain⟨m',h⟩:=h;exact⟨m',by simp[h]⟩)]
  ·rw[if_neg h,iX _ _ _ hi]
   by_cases e:i=k
   ·subst e;rw[gl,if_pos ⟨m,by simp⟩]
   ·rw[cX _ _ e,if_neg]
    rintro⟨m',hm⟩
    simp only[List.mem_cons,Prod.mk.injEq]at hm
    rcases hm with⟨e',_⟩|hm
    ·exact e e'
    ·exact h ⟨m',hm⟩
theorem qF:∀(l:List (Nat×Nat)) (σ:Fr) (k j:Nat),j<65536->k<65536->(∀x∈l,x.1<65536/\x.2<=65536)->
  (gn σ l (gx k j)=bd/\∃m,(k,m)∈l)\/gn σ l (gx k j)=σ (gx k j)
 |[],σ,k,j,_,_,_=>.inr rfl
 |(k',m)::l,σ,k,j,hj,hk,hl=>by
  simp only[gn]
  have hb:=hl (k',m) (by simp)
  rcases qF l (tB (kB σ k' (e_ k' 0)) k' 0 (List.replicate m bd)) k j hj hk (λx hx=>hl x (by simp[hx]))with⟨h,m',uY⟩|h
  ·exact .inl ⟨h,m',by simp[uY]⟩
  ·rw[h]
   by_cases e:k=k'
   ·subst e
    by_cases EF:j<m
    ·have:=vh (σ:=kB σ k (e_ k 0)) (k:=k) (List.replicate m bd) 0 j (by simpa using EF) (by simpa using hb.2)
     rw[Nat.zero_add]at this
     rw[this]
     refine .inl ⟨?_,m,by simp⟩
     simp[List.getD_eq_getElem?_getD,EF]
    ·right
     rw[eL,cX]
     ·have:=kS k j;omega
     ·intro i _ hi e
      have:=(kh hj (by simp at hi;omega) e).2
      simp at hi;omega
   ·right
    rw[eL,cX]
    ·have:=kS k j;omega
    ·intro i _ hi e'
     exact e (kh hj (by simp at hi;omega) e').1
theorem rD:∀(l:List (Nat×Nat)) (σ:Fr) (k m j:Nat),(k,m)∈l->j<m->(∀x∈l,x.1<65536/\x.2<=65536)->gn σ l (gx k j)=bd
 |[],_,_,_,_,h,_,_=>by simp at h
 |(k',m')::l,σ,k,m,j,h,hj,hl=>by
  simp only[gn]
  by_cases gG:∃m'',(k,m'')∈l/\j<m''
  ·obtain⟨m'',hm,Kl⟩:=gG
   exact rD l _ k m'' j hm Kl (λx hx=>hl x (by simp[hx]))
  ·simp only[List.mem_cons,Prod.mk.injEq]at h
   rcases h with⟨rfl,rfl⟩|h
   ·have hb:=hl (k,m) (by simp)
    rcases qF l (tB (kB σ k (e_ k 0)) k 0 (List.replicate m bd)) k j (by omega) hb.1 (λx hx=>hl x (by simp[hx]))with⟨h,_⟩|h
    ·exact h
    ·rw[h]
     have:=vh (σ:=kB σ k (e_ k 0)) (k:=k) (List.replicate m bd) 0 j (by simpa using hj) (by simpa using hb.2)
     rw[Nat.zero_add]at this
     rw[this]
     simp[List.getD_eq_getElem?_getD,hj]
   ·exact absurd ⟨m,h,hj⟩ gG
theorem xI{st:St}:∀{l:List (Nat×Nat)},mJ st l=true->∀k m,(k,m)∈l->(k,m)∈st.D/\st.σ k=e_ k 0
 |[],_,_,_,h=>by simp at h
 |(k',m')::l,h,k,m,hm=>by
  simp only[mJ,Bool.and_eq_true,qZ]at h
  simp only[List.mem_cons,Prod.mk.injEq]at hm
  rcases hm with⟨rfl,rfl⟩|hm
  ·refine⟨h.1.1,?_⟩
   have:=h.1.2
   unfold Tw at this
   split at this
   ·rename_i k2 o he
    simp only[Bool.and_eq_true,beq_iff]at this
    obtain⟨rfl,rfl⟩:=this
    exact he
   ·cases this
  ·exact xI h.2 k m hm
theorem sG{fz:List Nat}{D:List (Nat×Nat)}{c:Cut}(h:qR fz D c=true):
  (∀t ks,(t,Kd.box ks)∈c.live->t∉fz/\t<65536/\ks.length<=65536)/\(∀x∈c.live,x.1<65536)/\(∀k m,(k,m)∈c.gL->k∉fz/\k<65536/\(k,m)∈D):=by
 simp only[qR,Bool.and_eq_true,List.all_eq_true]at h
 obtain⟨h1,h2⟩:=h
 refine⟨λt ks ht=>?_,λx hx=>?_,λk m hk=>?_⟩
 ·have:=h1 _ ht
  simp only[Bool.and_eq_true,Bool.not_eq_true',km,Nat.ble_eq]at this
  exact⟨λhf=>(by rw[fD.2 hf]at this;cases this.1.1),this.1.2,this.2⟩
 ·obtain⟨t,kd⟩:=x
  have:=h1 _ hx
  cases kd<;>simp only[Bool.and_eq_true,km]at this
  ·exact this.1
  ·exact this.1
  ·exact this.1.2
 ·obtain⟨⟨h3,h4⟩,h5⟩:=h2 _ hk
  exact⟨λhf=>(by rw[fD.2 hf]at h3;cases h3),km.1 h4,qZ.1 h5⟩
theorem MH{fz:List Nat}{D:List (Nat×Nat)}{c:Cut}{k m:Nat}(hk:(k,m)∈D)(h1:¬ti c.live k)(h2:∀m,(k,m)∉c.gL):k∈freeze fz D c:=by
 unfold freeze
 rw[List.mem_append]
 right
 rw[List.mem_filter,List.mem_map]
 refine⟨⟨_,hk,rfl⟩,?_⟩
 simp only[Bool.not_eq_true',Nh,Bool.or_eq_false_iff,List.any_eq_false]
 refine⟨λx hx=>?_,λx hx=>?_⟩
 ·obtain⟨t,kd⟩:=x
  cases kd<;>simp only[Bool.false_eq_true,not_false_eq_true,beq_iff]
  rintro rfl
  exact h1 ⟨_,hx⟩
 ·obtain⟨t,m'⟩:=x
  simp only[beq_iff]
  rintro rfl
  exact h2 _ hx
section
variable {C:Ctx} {a a1:Act} {wa wa1:World} {st gg:St} {u u1:UW} {θ θ1:Nat->Nat} {fz ws:List Nat} {c:Cut}
open Classical in
theorem Mx.base(hI:Inv C a wa st u θ)(hP:dn C.n (freeze fz st.D c) ws st gg)(hl:qR fz st.D c=true)(hs:mJ gg c.gL=true):
  Mx C.n fz ws (ti c.live) st gg {st with σ:=gn (xS st.σ ws) c.gL}:=by
 obtain⟨l1,l2,l3⟩:=sG hl
 have Gq:=xI hs
 have hn:=hI.kE
 have hb:∀x∈c.gL,x.1<65536/\x.2<=65536:=λx hx=>⟨(l3 x.1 x.2 hx).2.1,(hI.boxes x.1 x.2 (l3 x.1 x.2 hx).2.2).1⟩
 have slot:∀i,i<C.n->gn (xS st.σ ws) c.gL i=if(∃m,(i,m)∈c.gL)then e_ i 0 else if i∈ws then bd else st.σ i:=by
  intro i hi
  rw[AI _ _ _ (by omega)]
  by_cases h:∃m,(i,m)∈c.gL
  ·rw[if_pos h,if_pos h]
  ·rw[if_neg h,if_neg h,Qc _ _ _ (by omega)]
 refine⟨?_,?_,?_,?_,λx hx=>hx,?_⟩
 ·intro i hi
  simp only
  rw[slot i hi]
  split
  ·rename_i h;obtain⟨m,h⟩:=h;exact .inr (Gq i m h).2.symm
  ·split
   ·exact .inl rfl
   ·rename_i hw;exact .inr (hP.slot i hi hw).symm
 ·intro k m hk
  refine⟨hP.D _ hk,λhp j hj=>?_⟩
  have hm:=(hI.boxes k m hk).1
  have hgx:(xS st.σ ws) (gx k j)=st.σ (gx k j):=vB _ _ _ _
  by_cases Ke:∃m',(k,m')∈c.gL
  ·obtain⟨m',Ke⟩:=Ke
   have hD:=(l3 k m' Ke).2.2
   obtain rfl:m'=m:=(hI.inj _ _ _ _ hD hk rfl).2
   exact .inl (rD _ _ k m' j Ke hj hb)
  ·right
   have h1:=hP.fz k (MH hk hp (λm hm=>Ke ⟨m,hm⟩)) m hk j hj
   simp only
   by_cases hk6:k<65536
   ·rcases qF c.gL (xS st.σ ws) k j (by omega) hk6 hb with⟨_,h⟩|h
    ·exact absurd h Ke
    ·rw[h,hgx,h1]
   ·have key:∀(l:List (Nat×Nat)) (σ:Fr),(∀x∈l,x.1<65536/\x.2<=65536)->gn σ l (gx k j)=σ (gx k j):=by
     intro l
     induction l with
     |nil=>intro σ _;rfl
     |cons x l ih=>
      intro σ hx
      obtain⟨k',m'⟩:=x
      have HJ:=hx (k',m') (by simp)
      simp only[gn]
      rw[ih _ (λy hy=>hx y (by simp[hy])),eL,cX]
      ·have:=kS k j;have:=HJ.1;omega
      ·intro i _ hi e
       have:=(kh (by omega) (by simp at hi;have:=HJ.2;omega) e).1
       have:=HJ.1;omega
    rw[key _ _ hb,hgx,h1]
 ·intro i hi k o e
  simp only at e
  rw[slot i hi]at e
  split at e
  ·rename_i h
   obtain⟨m,h⟩:=h
   simp only[Value.complex.injEq,true_and]at e
   exact⟨m,by rw[<- e.1];exact(l3 i m h).2.2⟩
  ·split at e
   ·cases e
   ·exact hI.kT i hi k o e
 ·intro i hi hw
  simp only
  rw[slot i hi]
  split
  ·rename_i h;obtain⟨m,h⟩:=h
   rw[<- hP.slot i hi hw];exact(Gq i m h).2.symm
  ·rfl
 ·intro k hk m hm j hj
  have BW:=(hI.boxes k m hm).1
  have hgx:(xS st.σ ws) (gx k j)=st.σ (gx k j):=vB _ _ _ _
  have key:∀(l:List (Nat×Nat)) (σ:Fr),(∀x∈l,x.1≠k/\x.1<65536/\x.2<=65536)->gn σ l (gx k j)=σ (gx k j):=by
   intro l
   induction l with
   |nil=>intro σ _;rfl
   |cons x l ih=>
    intro σ hx
    obtain⟨k',m'⟩:=x
    have HJ:=hx (k',m') (by simp)
    simp only[gn]
    rw[ih _ (λy hy=>hx y (by simp[hy])),eL,cX]
    ·have:=kS k j;have:=HJ.2.1;omega
    ·intro i _ hi e
     exact HJ.1 (kh (by omega) (by simp at hi;have:=HJ.2.2;omega) e).1.symm
  simp only
  rw[key _ _ (λx hx=>⟨λe=>(l3 x.1 x.2 hx).1 (e▸hk),hb x hx⟩),hgx]
theorem Mx.set{s:St}{x:Nat×Kd}{l:Live}{v:x.2.T}(h:Mx C.n fz ws (ti (x::l)) st gg s)(nh:Inv C a1 wa1 gg u1 θ1)(hg:Bb gg x=some v)(hx:x.1<65536)(ZM:∀ks,x.2=.box ks->x.1∉fz)
  (hI:Inv C a wa st u θ) (hP:dn C.n (freeze fz st.D c) ws st gg):
  Mx C.n fz ws (ti l) st gg (mr s x v):=by
 obtain⟨t,kd⟩:=x
 have hn:=nh.kE
 have FZ:∀(w:Value),plain w=true->gg.σ t=w->(∀k,ti ((t,kd)::l) k->ti l k)->Mx C.n fz ws (ti l) st gg {s with σ:=kB s.σ t w}:=by
  intro w hp hw hbx
  refine⟨?_,?_,?_,?_,h.acQ,?_⟩
  ·intro i hi
   simp only
   by_cases e:i=t
   ·subst e;rw[gl];exact .inr hw.symm
   ·rw[cX _ _ e];exact h.slot i hi
  ·intro k m hk
   refine⟨(h.dD k m hk).1,λAQ j hj=>?_⟩
   simp only
   have:=kS k j
   rw[cX _ _ (by simp only at hx;omega)]
   exact(h.dD k m hk).2 (λhb=>AQ (hbx k hb)) j hj
  ·intro i hi k o e
   simp only at e
   by_cases e':i=t
   ·subst e';rw[gl]at e;exact absurd e (lK hp k o)
   ·rw[cX _ _ e']at e;exact h.fk i hi k o e
  ·intro i hi XE
   simp only
   by_cases e:i=t
   ·subst e;rw[gl,<- hw];exact hP.slot i hi XE
   ·rw[cX _ _ e];exact h.de i hi XE
  ·intro k hk m hm j hj
   simp only
   have:=kS k j
   rw[cX _ _ (by simp only at hx;omega)]
   exact h.frz k hk m hm j hj
 cases kd with
 |one k=>
  simp only[Bb]at hg
  exact FZ _ (K1.Xf k v) (K1.OT hg) (by rintro k' ⟨ks,hk⟩;simp only[List.mem_cons,Prod.mk.injEq,reduceCtorEq,and_false,false_or]at hk;exact⟨ks,hk⟩)
 |agg ks=>
  simp only[Bb]at hg
  split at hg
  ·rename_i arr he
   refine FZ _ rfl ?_ (by rintro k' ⟨ks,hk⟩;simp only[List.mem_cons,Prod.mk.injEq,reduceCtorEq,and_false,false_or]at hk;exact⟨ks,hk⟩)
   rw[he]
   have:=Iy hg
   congr 1
   apply Array.toList_inj.1
   simpa using this
  ·cases hg
 |box ks=>
  simp only[Bb]at hg
  split at hg
  ·rename_i k o he
   simp only[Bool.cond_eq_ite]at hg
   split at hg
   ·rename_i hc
    simp only[Bool.and_eq_true,beq_iff,qZ]at hc
    obtain⟨⟨rfl,rfl⟩,hD⟩:=hc
    have Dx:=Iy hg
    have hlen:(ND ks v).length=ks.length:=wH ks v
    have ant:=(nh.boxes k ks.length hD).1
    have rJ:∀(σ:Fr) (j:Nat),j<ks.length->tB σ k 0 (ND ks v) (gx k j)=gg.σ (gx k j):=by
     intro σ j hj
     have h1:=vh (σ:=σ) (k:=k) (ND ks v) 0 j (by omega) (by omega)
     rw[Nat.zero_add]at h1
     rw[h1,List.getD_eq_getElem?_getD,<- Dx,xQ _ _ _ _ _ hj]
     simp
    have ae2:∀(σ:Fr) (k' j:Nat),k'≠k->j<65536->tB σ k 0 (ND ks v) (gx k' j)=σ (gx k' j):=by
     intro σ k' j aT hj
     rw[eL]
     intro i _ hi e
     exact aT (kh hj (by omega) e).1
    have hDs:∀y,y∈(mr s (k,.box ks) v).D↔y∈s.D\/y=(k,ks.length):=by
     intro y
     simp only[mr,Bool.cond_eq_ite,qZ]
     split
     ·rename_i gG
      exact⟨λh=>.inl h,λh=>h.elim id λe=>e▸gG⟩
     ·simp only[List.mem_cons];exact⟨λh=>h.symm,λh=>h.symm⟩
    simp only at hx
    refine⟨?_,?_,?_,?_,?_,?_⟩
    ·intro i hi
     simp only[mr]
     rw[iX _ _ _ (by omega)]
     by_cases e:i=k
     ·subst e;rw[gl];exact .inr he.symm
     ·rw[cX _ _ e];exact h.slot i hi
    ·intro k' m hk
     rw[hDs]at hk
     rcases hk with hk|hk
     ·refine⟨(h.dD k' m hk).1,λhp j hj=>?_⟩
      have hm6:=(nh.boxes k' m (h.dD k' m hk).1).1
      simp only[mr]
      by_cases e:k'=k
      ·subst e
       obtain rfl:m=ks.length:=(nh.inj _ _ _ _ (h.dD k' m hk).1 hD rfl).2
       exact .inr (rJ _ j hj)
      ·have:=kS k' j
       rw[ae2 _ _ _ e (by omega),cX _ _ (by omega)]
       refine(h.dD k' m hk).2 (λhb=>hp ?_) j hj
       obtain⟨Xy,hb⟩:=hb
       simp only[List.mem_cons,Prod.mk.injEq]at hb
       rcases hb with⟨e',_⟩|hb
       ·exact absurd e' e
       ·exact⟨Xy,hb⟩
     ·simp only[Prod.mk.injEq]at hk
      obtain⟨rfl,rfl⟩:=hk
      exact⟨hD,λ_ j hj=>.inr (by simp only[mr];exact rJ _ j hj)⟩
    ·intro i hi k' o e
     simp only[mr]at e
     rw[iX _ _ _ (by omega)]at e
     by_cases e':i=k
     ·subst e';rw[gl]at e
      simp only[Value.complex.injEq,true_and]at e
      exact⟨ks.length,(hDs _).2 (.inr (by rw[e.1]))⟩
     ·rw[cX _ _ e']at e
      obtain⟨m,hm⟩:=h.fk i hi k' o e
      exact⟨m,(hDs _).2 (.inl hm)⟩
    ·intro i hi hw
     simp only[mr]
     rw[iX _ _ _ (by omega)]
     by_cases e:i=k
     ·subst e;rw[gl,<- hP.slot i hi hw];exact he.symm
     ·rw[cX _ _ e];exact h.de i hi hw
    ·intro y hy
     exact(hDs y).2 (.inl (h.acQ y hy))
    ·intro k' bW m hm j hj
     have aT:k'≠k:=λe=>ZM ks rfl (e▸bW)
     have hm6:=(hI.boxes k' m hm).1
     have:=kS k' j
     simp only[mr]
     rw[ae2 _ _ _ aT (by omega),cX _ _ (by omega)]
     exact h.frz k' bW m hm j hj
   ·cases hg
  ·cases hg
theorem Mx.ad3:∀{l:Live} {s:St} {v:Tup l},Mx C.n fz ws (ti l) st gg s->Inv C a1 wa1 gg u1 θ1->h_ gg l=some v->(∀x∈l,x.1<65536)->(∀t ks,(t,Kd.box ks)∈l->t∉fz)->
  Inv C a wa st u θ->dn C.n (freeze fz st.D c) ws st gg->Mx C.n fz ws (ti []) st gg (tI s l v)
 |[],s,v,h,_,_,_,_,_,_=>h
 |[x],s,v,h,nh,hg,hx,hf,hI,hP=>by
  simp only[h_]at hg
  exact h.set (l:=[]) nh hg (hx x (by simp)) (λks e=>hf x.1 ks (by rw[<- e];simp)) hI hP
 |x::y::l,s,v,h,nh,hg,hx,hf,hI,hP=>by
  simp only[h_]at hg
  split at hg
  ·rename_i p q hp hq
   simp only[Option.some.injEq]at hg
   subst hg
   have h1:=h.set (l:=y::l) nh hp (hx x (by simp)) (λks e=>hf x.1 ks (by rw[<- e];simp)) hI hP
   exact Mx.ad3 (l:=y::l) h1 nh hq (λz hz=>hx z (by simp[hz])) (λt ks hz=>hf t ks (by simp[hz])) hI hP
  ·cases hg
theorem MG{v:Tup c.live}(hI:Inv C a wa st u θ)(nh:Inv C a1 wa1 gg u1 θ1)(hP:dn C.n (freeze fz st.D c) ws st gg)(hl:qR fz st.D c=true)(hs:mJ gg c.gL=true)
  (hg:h_ gg c.live=some v):Inv C a1 wa1 (mix st ws c v) u1 θ1/\dn C.n fz ws st (mix st ws c v):=by
 obtain⟨l1,l2,l3⟩:=sG hl
 have h:=Mx.ad3 (Mx.base hI hP hl hs) nh hg l2 (λt ks ht=>(l1 t ks ht).1) hI hP
 refine⟨nh.EN ⟨h.slot,λk m hk=>⟨(h.dD k m hk).1,(h.dD k m hk).2 (by rintro⟨ks,hk⟩;simp at hk)⟩,λi hi k o e _=>h.fk i hi k o e⟩,⟨h.de,h.acQ,h.frz⟩⟩
theorem AG{s:St}{x:Nat×Kd}{v:x.2.T}{k j:Nat}(hk:∀ks,x≠(k,.box ks))(hj:j<65536)(hx:x.1<65536)(sN:∀ks,x.2=.box ks->ks.length<=65536):(mr s x v).σ (gx k j)=s.σ (gx k j):=by
 obtain⟨t,kd⟩:=x
 have:=kS k j
 simp only at hx
 cases kd with
 |one k1=>simp only[mr];rw[cX _ _ (by omega)]
 |agg ks=>simp only[mr];rw[cX _ _ (by omega)]
 |box ks=>
  simp only[mr]
  have hl:=sN ks rfl
  rw[eL,cX _ _ (by omega)]
  intro i _ hi e
  rw[wH]at hi
  have:=(kh hj (by omega) e).1
  exact hk ks (by rw[this])
theorem uP:∀{l:Live} {s:St} {v:Tup l} {k j:Nat},¬ti l k->j<65536->(∀x∈l,x.1<65536)->(∀t ks,(t,Kd.box ks)∈l->ks.length<=65536)->(tI s l v).σ (gx k j)=s.σ (gx k j)
 |[],_,_,_,_,_,_,_,_=>rfl
 |[x],s,v,k,j,hb,hj,hx,sN=>AG (λks e=>hb ⟨ks,by simp[e]⟩) hj (hx x (by simp)) (λks e=>sN x.1 ks (by rw[<- e];simp))
 |x::y::l,s,v,k,j,hb,hj,hx,sN=>by
  simp only[tI]
  rw[uP (l:=y::l) (λ⟨ks,h⟩=>hb ⟨ks,by simp only[List.mem_cons]at h |-;exact .inr h⟩) hj (λz hz=>hx z (by simp only[List.mem_cons]at hz |-;exact .inr hz)) (λt ks hz=>sN t ks (by simp only[List.mem_cons]at hz |-;exact .inr hz))]
  exact AG (λks e=>hb ⟨ks,by simp[e]⟩) hj (hx x (by simp)) (λks e=>sN x.1 ks (by rw[<- e];simp))
theorem Xv(hI:Inv C a wa st u θ)(hl:qR fz st.D c=true)(ws:List Nat)(v:Tup c.live):∀k,k∈freeze fz st.D c->∀m,(k,m)∈st.D->∀j,j<m->(mix st ws c v).σ (gx k j)=st.σ (gx k j):=by
 intro k hk m hm j hj
 obtain⟨l1,l2,l3⟩:=sG hl
 have BW:=(hI.boxes k m hm).1
 have hb:∀x∈c.gL,x.1<65536/\x.2<=65536:=λx hx=>⟨(l3 x.1 x.2 hx).2.1,(hI.boxes x.1 x.2 (l3 x.1 x.2 hx).2.2).1⟩
 have Kj:¬ti c.live k/\∀m,(k,m)∉c.gL:=by
  unfold freeze at hk
  rw[List.mem_append]at hk
  rcases hk with hk|hk
  ·exact⟨λ⟨ks,h⟩=>(l1 k ks h).1 hk,λm h=>(l3 k m h).1 hk⟩
  ·rw[List.mem_filter]at hk
   have h2:=hk.2
   simp only[Bool.not_eq_true',Nh,Bool.or_eq_false_iff,List.any_eq_false]at h2
   refine⟨λ⟨ks,h⟩=>?_,λm h=>?_⟩
   ·exact h2.1 _ h (beq_iff.2 rfl)
   ·exact h2.2 _ h (beq_iff.2 rfl)
 have key:∀(l:List (Nat×Nat)) (σ:Fr),(∀x∈l,x.1≠k/\x.1<65536/\x.2<=65536)->gn σ l (gx k j)=σ (gx k j):=by
  intro l
  induction l with
  |nil=>intro σ _;rfl
  |cons x l ih=>
   intro σ hx
   obtain⟨k',m'⟩:=x
   have HJ:=hx (k',m') (by simp)
   simp only[gn]
   rw[ih _ (λy hy=>hx y (by simp[hy])),eL,cX]
   ·have:=kS k j;have:=HJ.2.1;omega
   ·intro i _ hi e
    exact HJ.1 (kh (by omega) (by simp at hi;have:=HJ.2.2;omega) e).1.symm
 unfold mix
 rw[uP Kj.1 (by omega) l2 (λt ks h=>(l1 t ks h).2.2)]
 simp only
 rw[key _ _ (λx hx=>⟨λe=>Kj.2 x.2 (by rw[<- e];exact hx),hb x hx⟩),vB]
end
end Go.aK
