import Derived.Test.YthaeiehophlooaaGreatB01
import Derived.IntWalk
open Array (ext' toList_inj toList_map)
open Bool (and_eq_true cond_eq_ite false_eq_true not_eq_true')
open Go.Result (andThen_ok)
open Go.Sem (run_bind run_pure)
open List (length_map map_cons map_nil map_toArray mem_cons mem_map mem_toArray replicate)
open Nat (beq ble ble_eq blt zero_add)
open Option (isSome_iff_exists map_some)
set_option linter.all false
namespace Go.aO
open Go.RowKit
section
variable {E:Env} {C:Ctx} {a:Act} {wa:World} {st:St} {u:UW} {θ:Nat->Nat} {fz:List Nat} {o:Oper} {K:St->UW->Prop} {Q:Exit->Act->World->Prop}
theorem agd{op:UnOp}{t:TypeId}{x:Operand}
  (h:match op,ev st.σ x with
   | .not,.bool b=>K (fin o st (.bool (!b))) u
   | .neg,.int k n=>K (fin o st (.int k (k.wrap (0-n)))) u
   |_,_=>False) (ho:o.op=.unOp op t x) (aG:br C.n o=true) (hI:Inv C a wa st u θ):sM E C fz o st θ K Q a wa:=by
 have hx:cY C.n x=true:=lp aG (by simp[ho,Op.operands]);split at h
 ·rename_i b he;refine bc (r:=.bool (!b)) (wb:=wa) ?_ (aS aG hI rfl h);simp[execOp,ho,bd hI hx he rfl,Op.unary]
 ·rename_i k n he;refine bc (r:=.int k (k.wrap (0-n))) (wb:=wa) ?_ (aS aG hI rfl h);simp[execOp,ho,bd hI hx he rfl,Op.unary,Op.intArith]
 ·exact h.elim
theorem Yt{s d:TypeId}{x:Operand}(ho:o.op=.convert s d x)(aG:br C.n o=true)(hI:Inv C a wa st u θ)
  (h:bif plain (ev st.σ x)then(match pv E.P (convert s d (ev st.σ x))with
   |some v=>bif plain v then K (fin o st v) u else False
   |none=>False)else False):sM E C fz o st θ K Q a wa:=by
 have hx:cY C.n x=true:=lp aG (by simp[ho,Op.operands]);obtain⟨hp,h⟩:=aq h;cases hv:pv E.P (convert s d (ev st.σ x))with
 |none=>simp only[hv]at h
 |some v=>
  simp only[hv]at h;obtain⟨lq,h⟩:=aq h;refine bc (r:=v) (wb:=wa) ?_ (aS aG hI lq h);simp only[execOp,ho,nU hI hx hp,run_bind,wU hv wa];rfl
theorem SC(hI:Inv C a wa st u θ):∀{xs:List Operand},(∀x∈xs,cY C.n x=true)->(xs.all λx=>plain (ev st.σ x))=true->xs.map a.eval=xs.map (ev st.σ)
 |[],_,_=>rfl
 |x::xs,h,hp=>by
  simp only[List.all_cons,and_eq_true]at hp
  simp only[map_cons]
  rw[nU hI (h x (by simp)) hp.1,SC hI (λy hy=>h y (by simp[hy])) hp.2]
theorem rO(hI:Inv C a wa st u θ){xs:Array Operand}(h:∀x∈xs.toList,cY C.n x=true)(hp:(xs.toList.all λx=>plain (ev st.σ x))=true):xs.map a.eval=(xs.toList.map (ev st.σ)).toArray:=by
 rw[<- SC hI h hp];apply toList_inj.1;simp
theorem acm{fn:Fn}{first captured:Array Operand}(ho:o.op=.makeFunc fn first captured)(aG:br C.n o=true)(hI:Inv C a wa st u θ)
  (h:bif first.toList.all (λx=>plain (ev st.σ x))&&captured.toList.all (λx=>plain (ev st.σ x))then
   K (fin o st (.func fn (first.toList.map (ev st.σ)).toArray (captured.toList.map (ev st.σ)).toArray)) u else False):sM E C fz o st θ K Q a wa:=by
 obtain⟨hc,h⟩:=aq h;simp only[and_eq_true]at hc;have h1:∀x∈first.toList,cY C.n x=true:=λx hx=>lp aG (by simp[ho,Op.operands];left;simpa using hx);have h2:∀x∈captured.toList,cY C.n x=true:=λx hx=>lp aG (by simp[ho,Op.operands];right;simpa using hx);refine bc (wb:=wa) ?_ (aS aG hI rfl h);simp only[execOp,ho,rO hI h1 hc.1,rO hI h2 hc.2,Instr.makeFunc];rfl
theorem acq{x:Operand}{i:Nat}(ho:o.op=.extract x i)(aG:br C.n o=true)(hI:Inv C a wa st u θ)
  (h:match ev st.σ x with
   | .tuple vs=>(match vs[i]? with
     |some v=>bif plain v then K (fin o st v) u else False
     |none=>False)
   |_=>False):sM E C fz o st θ K Q a wa:=by
 have hx:cY C.n x=true:=lp aG (by simp[ho,Op.operands]);split at h
 ·rename_i vs he;cases hv:vs[i]? with
  |none=>simp only[hv]at h
  |some v=>
   simp only[hv]at h;obtain⟨lq,h⟩:=aq h;refine bc (r:=v) (wb:=wa) ?_ (aS aG hI lq h);simp[execOp,ho,bd hI hx he rfl,Instr.extract,hv]
 ·exact h.elim
theorem aci{x:Operand}(ho:o.op=.nilCheck x)(aG:br C.n o=true)(hI:Inv C a wa st u θ)
  (h:match ev st.σ x with
   | .complex .f64 k off=>K (fin o st (dM k off)) u
   | .pointer p=>nn p (K (fin o st (.pointer p)) u)
   | .func f p q=>Bq f (K (fin o st (.func f p q)) u)
   |_=>False):sM E C fz o st θ K Q a wa:=by
 have hx:cY C.n x=true:=lp aG (by simp[ho,Op.operands]);split at h
 ·rename_i k off he;obtain⟨kY,hm⟩:=kJ hI hx he;refine bc (r:=.pointer (some ⟨θ k,off,none⟩)) (wb:=wa) (by simp[execOp,ho,kY]) ?_;exact lF aG hI (v:=dM k off) rfl (λk' o' e=>by simp only[Value.complex.injEq,true_and]at e;rw[<- e.1];exact hm) h
 ·rename_i p he;have kY:=bd hI hx he rfl;cases p with
  |none=>exact h.elim
  |some p=>exact bc (r:=.pointer (some p)) (wb:=wa) (by simp[execOp,ho,kY]) (aS aG hI rfl h)
 ·rename_i f p q he;have kY:=bd hI hx he rfl;cases f with
  |method n=>exact h.elim
  |_=>exact bc (wb:=wa) (by simp[execOp,ho,kY]) (aS aG hI rfl h)
 ·exact h.elim
theorem OK{P:Program}{t:TypeId}{f d:Nat}(h:CO P t f=some d):∃fs x,P.underlying t=some (.struct fs)/\fs[f]?=some x/\x.offset=d/\P.cellsOf x.type≠0:=by
 unfold CO at h;cases hu:P.underlying t with
 |none=>simp[hu]at h
 |some D=>
  cases D<;>simp only[hu]at h<;>try (cases h;done)
  rename_i fs;cases hf:fs[f]? with
  |none=>simp[hf]at h
  |some x=>
   simp only[hf,cond_eq_ite,beq_iff]at h;split at h
   ·cases h
   ·rename_i hz;simp only[Option.some.injEq]at h;exact⟨fs,x,rfl,hf,h,hz⟩
theorem mI{P:Program}{w:World}{t:TypeId}{f d b off:Nat}(h:CO P t f=some d):(Instr.fieldAt t (.pointer (some ⟨b,off,none⟩)) f).run P w=.ok (.pointer (some ⟨b,off+d,none⟩)) w:=by
 obtain⟨fs,x,hu,hf,rfl,hz⟩:=OK h;have hi:∃i,P.info? x.type=some i:=by
  cases hi:P.info? x.type with
  |none=>simp[Program.cellsOf,hi]at hz
  |some i=>exact⟨i,rfl⟩
 obtain⟨i,hi⟩:=hi;simp only[Instr.fieldAt,run_bind,aR hu,andThen_ok,hf,Instr.sureAddr,run_pure,fieldPlace,cz hi,if_neg hz,kg]
theorem agf{t:TypeId}{x:Operand}{f d:Nat}(ho:o.op=.fieldAddr t x f)(aG:br C.n o=true)(hI:Inv C a wa st u θ)(hd:CO E.P t f=some d)
  (h:match ev st.σ x with
   | .complex .f64 k off=>K (fin o st (dM k (off+d))) u
   |v=>dL v λb off=>K (fin o st (.pointer (some ⟨b,off+d,none⟩))) u):sM E C fz o st θ K Q a wa:=by
 have hx:cY C.n x=true:=lp aG (by simp[ho,Op.operands]);split at h
 ·rename_i k off he;obtain⟨kY,hm⟩:=kJ hI hx he;refine bc (r:=.pointer (some ⟨θ k,off+d,none⟩)) (wb:=wa) ?_ ?_
  ·simp only[execOp,ho,kY,run_bind,mI hd];rfl
  ·exact lF aG hI (v:=dM k (off+d)) rfl (λk' o' e=>by simp only[Value.complex.injEq,true_and]at e;rw[<- e.1];exact hm) h
 ·obtain⟨b,off,hv,h⟩:=gy h;have kY:=bd hI hx hv rfl;refine bc (r:=.pointer (some ⟨b,off+d,none⟩)) (wb:=wa) ?_ (aS aG hI rfl h);simp only[execOp,ho,kY,run_bind,mI hd];rfl
theorem acp{t:TypeId}{x:Operand}{f:Nat}(ho:o.op=.field t x f)(aG:br C.n o=true)(hI:Inv C a wa st u θ)
  (h:match ev st.σ x with
   | .agg cs=>(match CM E.P t f cs.toList with
     |some v=>bif plain v then K (fin o st v) u else False
     |none=>False)
   |_=>False):sM E C fz o st θ K Q a wa:=by
 have hx:cY C.n x=true:=lp aG (by simp[ho,Op.operands]);split at h
 ·rename_i cs he;cases hv:CM E.P t f cs.toList with
  |none=>simp only[hv]at h
  |some v=>
   simp only[hv]at h;obtain⟨lq,h⟩:=aq h;refine bc (r:=v) (wb:=wa) ?_ (aS aG hI lq h);unfold CM at hv;cases hu:E.P.underlying t with
   |none=>simp[hu]at hv
   |some D=>
    cases D<;>simp only[hu]at hv<;>try (cases hv;done)
    rename_i fs;cases hf:fs[f]? with
    |none=>simp[hf]at hv
    |some y=>
     simp only[hf,cond_eq_ite,and_eq_true,ble_eq]at hv;split at hv
     ·rename_i hc;obtain⟨hi,hle⟩:=hc;obtain⟨d,Xk⟩:=isSome_iff_exists.1 hi;simp only[execOp,ho,bd hI hx he rfl,Instr.field,run_bind,aR hu,andThen_ok,hf,asAgg,run_pure];split at hv
      ·rename_i mR;simp only[Option.some.injEq]at hv;rw[gC Xk mR,<- hv];simp only[andThen_ok];congr 3;apply toList_inj.1;rw[Array.toList_extract,List.extract_eq_take_drop];simp
      ·rename_i mR;simp only[Bool.not_eq_true]at mR;rw[iO Xk mR (v:=v) (by simpa using hv)];rfl
     ·cases hv
 ·exact h.elim
theorem rE{P:Program}{w:World}{k:IntKind}{i:Int}{y:Nat}{code:BoundsCode}(h1:0<=i)(h2:i<=y):(Instr.sliceBound (.int k i) y code).run P w=.ok i.toNat w:=by
 simp only[Instr.sliceBound,asIntOf,run_bind,run_pure,andThen_ok];rw[if_pos ⟨h1,h2⟩];rfl
theorem qu{ρ:Operand->Value}{d i:Int}(h:dA ρ none d=some i):i=d:=by simp only[dA,Option.some.injEq]at h;exact h.symm
theorem mK{ρ:Operand->Value}{x:Operand}{d i:Int}(h:dA ρ (some x) d=some i):∃k,ρ x=.int k i:=by
 simp only[dA]at h;split at h
 ·rename_i k j he;simp only[Option.some.injEq]at h;subst h;exact⟨k,he⟩
 ·cases h
theorem oq{P:Program}{w:World}{isS:Bool}{len cap:Nat}{lo hi mx:Option Operand}{ρ ρr:Operand->Value}{l h m:Int}(kY:∀x k i,(lo=some x\/hi=some x\/mx=some x)->ρ x=.int k i->ρr x=.int k i)
  (hl:dA ρ lo 0=some l) (hh:dA ρ hi len=some h) (hm:dA ρ mx cap=some m) (Sk:(mx.isSome&&hi.isNone)=false)
  (h0:0<=l) (h1:l<=h) (h2:h<=m) (h3:m<=cap):(Instr.sliceBounds isS len cap (lo.map ρr) (hi.map ρr) (mx.map ρr)).run P w=.ok (l.toNat,h.toNat,m.toNat) w:=by
 have fin:∀(H M:Nat) (code:BoundsCode),l<=(H:Int)->∀(X:Option Value),X=lo.map ρr->
   (match X with|some v=>(do let l <- Instr.sliceBound v H code;pure (l,H,M):Sem (Nat×Nat×Nat))|none=>(do let l <- pure 0;pure (l,H,M):Sem (Nat×Nat×Nat))).run P w=.ok (l.toNat,H,M) w:=by
  rintro H M code hH X rfl;cases lo with
  |none=>rw[qu hl];simp
  |some x=>
   obtain⟨k,hk⟩:=mK hl;simp only[map_some,kY x k l (by simp) hk,run_bind,rE h0 hH,andThen_ok,run_pure]
 cases mx with
 |none=>
  obtain rfl:=qu hm;cases hi with
  |none=>
   obtain rfl:=qu hh;simp only[Instr.sliceBounds,Option.map_none,run_bind,run_pure,andThen_ok,Int.toNat_natCast];exact fin len cap _ h1 _ rfl
  |some y=>
   obtain⟨k,hk⟩:=mK hh;simp only[Instr.sliceBounds,Option.map_none,map_some,run_bind,run_pure,andThen_ok,Int.toNat_natCast,kY y k h (by simp) hk,rE (by omega) h2];exact fin h.toNat cap _ (by omega) _ rfl
 |some z=>
  obtain⟨kz,hkz⟩:=mK hm;cases hi with
  |none=>simp at Sk
  |some y=>
   obtain⟨k,hk⟩:=mK hh
   simp only[Instr.sliceBounds,map_some,run_bind,andThen_ok,kY z kz m (by simp) hkz,rE (show 0<=m by omega) h3,kY y k h (by simp) hk,
    rE (show 0<=h by omega) (show h<=((m.toNat:Nat):Int) by omega)]
   exact fin h.toNat m.toNat _ (by omega) _ rfl
theorem UD{t:TypeId}{x:Operand}{lo hi mx:Option Operand}
  (h:match E.P.underlying t,ev st.σ x with
   |some (.slice e),.slice b len cap=>(match dA (ev st.σ) lo 0,dA (ev st.σ) hi len,dA (ev st.σ) mx cap with
    |some l,some h,some m=>(bif (mx.isSome&&hi.isNone)||(E.P.info? e).isNone then False else(m.toNat=l.toNat\/iq b)/\0<=l/\l<=h/\h<=m/\m<=cap/\K (fin o st (.slice (yZ b l.toNat m.toNat (E.P.cellsOf e)) (h.toNat-l.toNat) (m.toNat-l.toNat))) u)
    |_,_,_=>False)
   |some .string,.string s=>(match mx with
    |some _=>False
    |none=>match dA (ev st.σ) lo 0,dA (ev st.σ) hi s.size with
     |some l,some h=>0<=l/\l<=h/\h<=s.size/\K (fin o st (.string (s.extract l.toNat h.toNat))) u
     |_,_=>False)
   |_,_=>False) (ho:o.op=.slice t x lo hi mx) (aG:br C.n o=true) (hI:Inv C a wa st u θ):sM E C fz o st θ K Q a wa:=by
 have hx:cY C.n x=true:=lp aG (by simp[ho,Op.operands]);have kY:∀y k i,(lo=some y\/hi=some y\/mx=some y)->ev st.σ y=.int k i->a.eval y=.int k i:=by
  intro y k i hy he;refine bd hI (lp aG ?_) he rfl;rcases hy with rfl|rfl|rfl<;>simp[ho,Op.operands]
 split at h
 ·rename_i e b len cap hu he;split at h
  ·rename_i l h' m hl hh hm;cases vw:(mx.isSome&&hi.isNone)||(E.P.info? e).isNone with
   |true=>simp only[vw,cond_true]at h
   |false=>
    simp only[vw,cond_false]at h;simp only[Bool.or_eq_false_iff]at vw;obtain⟨Sk,CH⟩:=vw;obtain⟨i,xt⟩:∃i,E.P.info? e=some i:=by cases hq:E.P.info? e<;>simp_all
    obtain⟨hns,h0,h1,h2,h3,hK⟩:=h;refine bc (r:=.slice (yZ b l.toNat m.toNat (E.P.cellsOf e)) (h'.toNat-l.toNat) (m.toNat-l.toNat)) (wb:=wa) ?_ (aS aG hI rfl hK);simp only[execOp,ho,bd hI hx he rfl,run_bind,Instr.sliceAt,aR hu,andThen_ok,Instr.slice,oq kY hl hh hm Sk h0 h1 h2 h3,cz xt,run_pure];congr 3;unfold yZ;split
    ·rfl
    ·rename_i oK;cases b with
     |none=>rfl
     |some b=>
      simp only[map_some,Option.some.injEq];unfold Addr.add;split
      ·rename_i XM;obtain⟨bb,bo,bs⟩:=b;have:=(hns.resolve_left oK) _ rfl;simp only at this;subst this;simp[XM]
      ·rfl
  ·exact h.elim
 ·rename_i s hu he;cases mx with
  |some _=>exact h.elim
  |none=>
   simp only at h;split at h
   ·rename_i l h' hl hh;obtain⟨h0,h1,h2,hK⟩:=h;refine bc (r:=.string (s.extract l.toNat h'.toNat)) (wb:=wa) ?_ (aS aG hI rfl hK);have hb:=oq (P:=E.P) (w:=wa) (isS:=false) (len:=s.size) (cap:=s.size) (mx:=none) (m:=s.size) (λy k i hy=>kY y k i (by rcases hy with h|h|h;exact .inl h;exact .inr (.inl h);cases h)) hl hh rfl (by simp) h0 h1 h2 (by omega);simp only[execOp,ho,bd hI hx he rfl,run_bind,Instr.sliceAt,aR hu,andThen_ok,Instr.slice];simp only[Option.map_none]at hb;simp only[Option.map_none,Option.isSome_none,false_eq_true,if_false,run_bind,hb,andThen_ok,run_pure]
   ·exact h.elim
 ·exact h.elim
end
section
variable {E:Env} {C:Ctx} {a:Act} {wa:World} {st:St} {u:UW} {θ:Nat->Nat} {fz:List Nat} {o:Oper} {K:St->UW->Prop} {Q:Exit->Act->World->Prop}
theorem vL{P:Program}{t:TypeId}(h:P.cellsOf t≠0):∃i,P.info? t=some i:=by
 cases hi:P.info? t with
 |none=>simp[Program.cellsOf,hi]at h
 |some i=>exact⟨i,rfl⟩
theorem age{t:TypeId}{x i:Operand}(ho:o.op=.indexAddr t x i)(aG:br C.n o=true)(hI:Inv C a wa st u θ)
  (h:match E.P.underlying t,ev st.σ x,ev st.σ i with
   |some (.slice e),.slice b len _,.int _ j=>(bif (E.P.info? e).isSome then bH b λb off=>0<=j/\j<len/\K (fin o st (.pointer (some ⟨b,off+j.toNat*E.P.cellsOf e,none⟩))) u else False)
   |some (.array len e),.complex .f64 k off,.int _ j=>(bif decide (0<=j)&&decide (j<len)&&(E.P.info? e).isSome then K (fin o st (dM k (off+j.toNat*E.P.cellsOf e))) u else False)
   |_,_,_=>False):sM E C fz o st θ K Q a wa:=by
 have hx:cY C.n x=true:=lp aG (by simp[ho,Op.operands]);have hi:cY C.n i=true:=lp aG (by simp[ho,Op.operands]);split at h
 ·rename_i e b len c k j hu he Kz;obtain⟨fT,h⟩:=aq h;obtain⟨ie,CH⟩:=isSome_iff_exists.1 fT;obtain⟨bb,off,rfl,h1,h2,h⟩:=gi h;refine bc (r:=.pointer (some ⟨bb,off+j.toNat*E.P.cellsOf e,none⟩)) (wb:=wa) ?_ (aS aG hI rfl h);simp only[execOp,ho,bd hI hx he rfl,bd hI hi Kz rfl,Instr.indexAt,asIntOf,run_bind,run_pure,andThen_ok,aR hu];rw[if_pos ⟨h1,h2⟩];simp only[run_bind,cz CH,andThen_ok,run_pure,kg]
 ·rename_i len e k off kk j hu he Kz;obtain⟨hc,h⟩:=aq h;simp only[and_eq_true,decide_eq_true_eq]at hc;obtain⟨⟨h1,h2⟩,fT⟩:=hc;obtain⟨ie,CH⟩:=isSome_iff_exists.1 fT;obtain⟨kY,hm⟩:=kJ hI hx he;refine bc (r:=.pointer (some ⟨θ k,off+j.toNat*E.P.cellsOf e,none⟩)) (wb:=wa) ?_ ?_
  ·simp only[execOp,ho,kY,bd hI hi Kz rfl,Instr.indexAt,asIntOf,run_bind,run_pure,andThen_ok,aR hu,Instr.sureAddr];rw[if_pos ⟨h1,h2⟩];simp only[run_bind,cz CH,andThen_ok,run_pure,kg]
  ·exact lF aG hI (v:=dM k _) rfl (λk' o' e=>by simp only[Value.complex.injEq,true_and]at e;rw[<- e.1];exact hm) h
 ·exact h.elim
theorem aco{t:TypeId}{x i:Operand}(ho:o.op=.index t x i)(aG:br C.n o=true)(hI:Inv C a wa st u θ)
  (h:match E.P.underlying t,ev st.σ x,ev st.σ i with
   |some .string,.string s,.int _ j=>0<=j/\∃c:UInt8,s[j.toNat]?=some c/\K (fin o st (.int .u8 c.toNat)) u
   |some (.array len e),.agg cs,.int _ j=>0<=j/\j<len/\(E.P.info? e).isSome=true/\∃v,OQ E.P e (j.toNat*E.P.cellsOf e) cs.toList=some v/\plain v=true/\K (fin o st v) u
   |_,_,_=>False):sM E C fz o st θ K Q a wa:=by
 have hx:cY C.n x=true:=lp aG (by simp[ho,Op.operands]);have hi:cY C.n i=true:=lp aG (by simp[ho,Op.operands]);split at h
 ·rename_i s k j hu he Kz;obtain⟨h1,c,h2,h⟩:=h;refine bc (r:=.int .u8 c.toNat) (wb:=wa) ?_ (aS aG hI rfl h);simp only[execOp,ho,bd hI hx he rfl,bd hI hi Kz rfl,Instr.index,asIntOf,run_bind,run_pure,andThen_ok,aR hu,if_pos h1,h2]
 ·rename_i len e cs k j hu he Kz;obtain⟨h1,h2,fT,v,hv,lq,h⟩:=h;obtain⟨ie,CH⟩:=isSome_iff_exists.1 fT;refine bc (r:=v) (wb:=wa) ?_ (aS aG hI lq h);simp only[execOp,ho,bd hI hx he rfl,bd hI hi Kz rfl,Instr.index,asIntOf,run_bind,run_pure,andThen_ok,aR hu,if_pos (show(0:Int)<=j/\j<len from⟨h1,h2⟩),cz CH];rw[LL hv];rfl
 ·exact h.elim
theorem va(hI:Inv C a wa st u θ){ps:Array (Nat×Operand)}(h:∀x∈ps.toList,cY C.n x.2=true)(hp:(ps.toList.all λp=>plain (ev st.σ p.2))=true):
  (ps.map λp=>(p.1,a.eval p.2))=(ps.toList.map λp=>(p.1,ev st.σ p.2)).toArray:=by
 apply toList_inj.1;simp only[toList_map];apply List.map_congr_left;intro p hpm;rw[nU hI (h p hpm) (List.all_eq_true.1 hp p hpm)]
theorem acs{t:TypeId}{ps:Array (Nat×Operand)}(ho:o.op=.build t ps)(aG:br C.n o=true)(hI:Inv C a wa st u θ)
  (h:bif ps.toList.all λp=>plain (ev st.σ p.2)then(match Wx E.P t (ps.toList.map λp=>(p.1,ev st.σ p.2))with
   |some vs=>K (fin o st (.agg vs.toArray)) u
   |none=>False)else False):sM E C fz o st θ K Q a wa:=by
 obtain⟨hp,h⟩:=aq h;have hx:∀x∈ps.toList,cY C.n x.2=true:=λx hx=>lp aG (by simp only[ho,Op.operands];simp only[mem_toArray,mem_map];exact⟨x,hx,rfl⟩);cases hb:Wx E.P t (ps.toList.map λp=>(p.1,ev st.σ p.2))with
 |none=>simp only[hb]at h
 |some vs=>
  simp only[hb]at h;refine bc (r:=.agg vs.toArray) (wb:=wa) ?_ (aS aG hI rfl h);have e:=va hI hx hp;simp only[execOp,ho,e,run_bind];rw[run_build (r:=vs) (by simpa using hb)];rfl
theorem acr{t:TypeId}{len:Nat}{ps:Array (Nat×Operand)}(ho:o.op=.buildSlice t len ps)(aG:br C.n o=true)(hI:Inv C a wa st u θ)
  (h:bif (ps.toList.all λp=>plain (ev st.σ p.2))&&beq ps.toList.length len then(match vH E.P t with
   |none=>False
   |some e=>match oQ (E.P.cellsOf e) 0 (ps.toList.map λp=>(p.1,ev st.σ p.2))with
    |some vs=>bif ble vs.length 65536&&((E.P.info? e).bind (·.zero)).isSome&& !Nat.beq (E.P.cellsOf e) 0 then
      ∀(b:Nat) (w':World),rl u.toWorld w' b (.cells vs.toArray e (0,0))->K (fin o st (.slice (some ⟨b,0,none⟩) len len)) (u.born b w')else False
    |none=>False)else False):sM E C fz o st θ K Q a wa:=by
 obtain⟨hc,h⟩:=aq h;simp only[and_eq_true,beq_iff]at hc;obtain⟨hp,hlen⟩:=hc;have hx:∀x∈ps.toList,cY C.n x.2=true:=λx hx=>lp aG (by simp only[ho,Op.operands];simp only[mem_toArray,mem_map];exact⟨x,hx,rfl⟩);unfold vH at h;cases hu:E.P.underlying t with
 |none=>simp only[hu]at h
 |some d=>
  cases d<;>simp only[hu]at h;rename_i e;cases hb:oQ (E.P.cellsOf e) 0 (ps.toList.map λp=>(p.1,ev st.σ p.2))with
  |none=>simp only[hb]at h
  |some vs=>
   simp only[hb]at h;obtain⟨hc,h⟩:=aq h;simp only[and_eq_true,ble_eq,not_eq_true']at hc;obtain⟨⟨h1,h2⟩,h3⟩:=hc;obtain⟨z,hz⟩:=isSome_iff_exists.1 h2;have hnz:E.P.cellsOf e≠0:=λe0=>by rw[beq_iff.2 e0]at h3;cases h3
   obtain⟨ie,CH⟩:=vL hnz;have HQ:=BG hb;simp only[length_map,hlen]at HQ;obtain⟨w',je,dK⟩:=hI.born (.cells vs.toArray e (0,0));refine bc (r:=.slice (some ⟨wa.heap.size,0,none⟩) len len) (wb:=wa.alloc (.cells vs.toArray e (0,0))) ?_ (aS aG dK rfl (h _ _ je));have e0:=va hI hx hp;simp only[execOp,ho,e0,run_bind,Instr.buildSlice,aR hu,andThen_ok,cz CH];rw[if_neg (by rw[<- HQ];omega)];have Ie:∀cs:Array Value,cs.size=len*E.P.cellsOf e->Instr.fill (λi=>some (i*E.P.cellsOf e,E.P.cellsOf e)) cs (ps.toList.map λp=>(p.1,ev st.σ p.2))=some vs.toArray:=by
    intro cs nN;rw[rM _ 0 vs cs hb (by simp only[length_map,hlen,zero_add];exact nN)];simp
   have hzr:(if len*E.P.cellsOf e=0 then(pure #[]:Sem (Array Value))else do pure (<- zeroValue e).cells).run E.P wa=.ok (if len*E.P.cellsOf e=0 then #[]else z.cells) wa:=by
    split
    ·rfl
    ·simp only[run_bind,jP hz,andThen_ok,run_pure]
   split
   ·rename_i ZA;simp only[run_bind,run_pure,andThen_ok];rw[Ie _ (by simp)];simp only[newRow,run_bind,run_newObj,andThen_ok,run_pure];rfl
   ·simp only[run_bind,jP hz,run_pure,andThen_ok];rw[Ie _ (by simp)];simp only[newRow,run_bind,run_newObj,andThen_ok,run_pure];rfl
theorem UF{t:TypeId}{len:Nat}{ps:Array (Nat×Operand)}(ho:o.op=.buildSlice t len ps)(aG:br C.n o=true)(hI:Inv C a wa st u θ)
  (h:bif (ps.toList.all λp=>plain (ev st.σ p.2))&&beq ps.toList.length len then(match vH E.P t with
   |none=>False
   |some e=>match oQ (E.P.cellsOf e) 0 (ps.toList.map λp=>(p.1,ev st.σ p.2))with
    |some vs=>bif ble vs.length 65536&&((E.P.info? e).bind (·.zero)).isSome&& !Nat.beq (E.P.cellsOf e) 0 then
      ∀(b:Nat) (w':World),rl u.toWorld w' b (.cells vs.toArray e (0,0))->K (fin o st (.slice (some ⟨b,0,none⟩) len len)) (u.born b w')else False
    |none=>False)else False):∃v ob,(execOp a.eval o).run E.P wa=.ok (.value v) (wa.alloc ob):=by
 obtain⟨hc,h⟩:=aq h;simp only[and_eq_true,beq_iff]at hc;obtain⟨hp,hlen⟩:=hc;have hx:∀x∈ps.toList,cY C.n x.2=true:=λx hx=>lp aG (by simp only[ho,Op.operands];simp only[mem_toArray,mem_map];exact⟨x,hx,rfl⟩);unfold vH at h;cases hu:E.P.underlying t with
 |none=>simp only[hu]at h
 |some d=>
  cases d<;>simp only[hu]at h;rename_i e;cases hb:oQ (E.P.cellsOf e) 0 (ps.toList.map λp=>(p.1,ev st.σ p.2))with
  |none=>simp only[hb]at h
  |some vs=>
   simp only[hb]at h;obtain⟨hc,h⟩:=aq h;simp only[and_eq_true,ble_eq,not_eq_true']at hc;obtain⟨⟨h1,h2⟩,h3⟩:=hc;obtain⟨z,hz⟩:=isSome_iff_exists.1 h2;have hnz:E.P.cellsOf e≠0:=λe0=>by rw[beq_iff.2 e0]at h3;cases h3
   obtain⟨ie,CH⟩:=vL hnz;have HQ:=BG hb;simp only[length_map,hlen]at HQ;refine⟨.slice (some ⟨wa.heap.size,0,none⟩) len len,.cells vs.toArray e (0,0),?_⟩;have e0:=va hI hx hp;simp only[execOp,ho,e0,run_bind,Instr.buildSlice,aR hu,andThen_ok,cz CH];rw[if_neg (by rw[<- HQ];omega)];have Ie:∀cs:Array Value,cs.size=len*E.P.cellsOf e->Instr.fill (λi=>some (i*E.P.cellsOf e,E.P.cellsOf e)) cs (ps.toList.map λp=>(p.1,ev st.σ p.2))=some vs.toArray:=by
    intro cs nN;rw[rM _ 0 vs cs hb (by simp only[length_map,hlen,zero_add];exact nN)];simp
   have hzr:(if len*E.P.cellsOf e=0 then(pure #[]:Sem (Array Value))else do pure (<- zeroValue e).cells).run E.P wa=.ok (if len*E.P.cellsOf e=0 then #[]else z.cells) wa:=by
    split
    ·rfl
    ·simp only[run_bind,jP hz,andThen_ok,run_pure]
   split
   ·rename_i ZA;simp only[run_bind,run_pure,andThen_ok];rw[Ie _ (by simp)];simp only[newRow,run_bind,run_newObj,andThen_ok,run_pure];rfl
   ·simp only[run_bind,jP hz,run_pure,andThen_ok];rw[Ie _ (by simp)];simp only[newRow,run_bind,run_newObj,andThen_ok,run_pure];rfl
theorem cF{P:Program}{b:Builtin}{args:Array Operand}{ts:Array TypeId}{w:World}{s:Sem Value}{v:Value}{w':World}(ho:o.op=.call ⟨.builtin b,args,ts⟩)
  (hb:∀consts,builtin b ts o.type consts (args.map a.eval)=(do pure (.value (<- s)):Sem Next)) (hs:s.run P w=.ok v w'):
  (execOp a.eval o).run P w=.ok (.value v) w':=by
 simp only[execOp,ho,resolve,run_bind,run_pure,andThen_ok,invoke];rw[hb];simp only[run_bind,hs,andThen_ok,run_pure]
theorem vn(hI:Inv C a wa st u θ):∀{xs:List Operand} {k:IntKind} {is:List Int},(∀x∈xs,cY C.n x=true)->nc (ev st.σ) xs=some (k,is)->xs.map a.eval=is.map (Value.int k)/\is≠[]
 |[],_,_,_,h=>by simp[nc]at h
 |[x],k,is,aG,h=>by
  simp only[nc]at h
  split at h
  ·rename_i k' i he
   simp only[Option.some.injEq,Prod.mk.injEq]at h
   obtain⟨rfl,rfl⟩:=h
   simp[bd hI (aG x (by simp)) he rfl]
  ·cases h
 |x::y::l,k,is,aG,h=>by
  simp only[nc]at h;split at h
  ·rename_i k1 i k2 js he hr;simp only[cond_eq_ite]at h;split at h
   ·rename_i hk;simp only[decide_eq_true_eq]at hk;simp only[Option.some.injEq,Prod.mk.injEq]at h;obtain⟨rfl,rfl⟩:=h;subst hk;obtain⟨h1,_⟩:=vn hI (xs:=y::l) (λz hz=>aG z (by simp[hz])) hr;refine⟨?_,by simp⟩;rw[map_cons,h1,bd hI (aG x (by simp)) he rfl];rfl
   ·cases h
  ·cases h
theorem EI{P:Program}{w:World}{k:IntKind}:∀(is:List Int) (i:Int),((is.map (Value.int k)).foldlM Builtin.min2 (.int k i)).run P w=.ok (.int k (is.foldl (λx y=>if y<x then y else x) i)) w
 |[],i=>by simp
 |j::is,i=>by simp only[map_cons,List.foldlM_cons,Builtin.min2,run_bind,run_pure,andThen_ok,List.foldl_cons];exact EI is _
theorem EJ{P:Program}{w:World}{k:IntKind}:∀(is:List Int) (i:Int),((is.map (Value.int k)).foldlM Builtin.max2 (.int k i)).run P w=.ok (.int k (is.foldl (λx y=>if y>x then y else x) i)) w
 |[],i=>by simp
 |j::is,i=>by simp only[map_cons,List.foldlM_cons,Builtin.max2,run_bind,run_pure,andThen_ok,List.foldl_cons];exact EJ is _
theorem Dr{P:Program}{w:World}{size m c:Nat}{xb:Option Addr}{new:List Value}(h0:m=0->new=[])(h1:m≠0->∃b off C T f,xb=some ⟨b,off,none⟩/\w.heap[b]?=some (.cells C T f)/\off+m*size<=C.size/\new=(C.toList.drop off).take (m*size)):
  (Builtin.firstCells size m (.slice xb m c)).run P w=.ok new.toArray w:=by
 by_cases hm:m=0
 ·subst hm;rw[h0 rfl];cases xb<;>simp[Builtin.firstCells,loadCells,loadCellsFrom]
 ·obtain⟨b,off,C,T,f,rfl,hb,hl,rfl⟩:=h1 hm;simp only[Builtin.firstCells];exact sB hb hl
theorem acv{x y:Operand}{t t' e e':TypeId}{base xb:Option Addr}{n cap m c':Nat}(ho:o.op=.call ⟨.builtin .append,#[x,y],#[t,t']⟩)(aG:br C.n o=true)(hI:Inv C a wa st u θ)
  (hu:E.P.underlying t=some (.slice e)) (gp:E.P.underlying t'=some (.slice e')) (hx:ev st.σ x=.slice base n cap) (hy:ev st.σ y=.slice xb m c')
  (h:Pb E.P e base n cap xb m u λp q r w'=>K (fin o st (.slice p q r)) w'):sM E C fz o st θ K Q a wa:=by
 have kx:cY C.n x=true:=lp aG (by simp[ho,Op.operands,Call.operands]);have ky:cY C.n y=true:=lp aG (by simp[ho,Op.operands,Call.operands]);have hex:=bd hI kx hx rfl;have XA:=bd hI ky hy rfl;obtain⟨size,bytes,zero,Cw,new,Ia,PE,hn1,ho0,ho1,amo,VQ,pY,DN,Kr,vr,adA⟩:=h;cases hi:E.P.info? e with
 |none=>simp[hi]at Ia
 |some i=>
  simp only[hi,map_some,Option.some.injEq,Prod.mk.injEq]at Ia;obtain⟨rfl,rfl,hz⟩:=Ia;cases hzz:i.zero with
  |none=>simp[hzz]at hz
  |some z=>
   simp only[hzz,map_some,Option.some.injEq]at hz;subst hz;have hzr:(E.P.info? e).bind (·.zero)=some z:=by simp[hi,hzz]
   have rdw:∀{A:Option Addr} {k:Nat} {vs:List Value},(k*i.size≠0)->(bH A λb o=>rd u.heap b o (k*i.size)=some vs)->∃b off C T f,A=some ⟨b,off,none⟩/\wa.heap[b]?=some (.cells C T f)/\off+k*i.size<=C.size/\vs=(C.toList.drop off).take (k*i.size):=by
    intro A k vs hk hw;obtain⟨b,off,rfl,eR⟩:=gi hw;obtain⟨C,T,f,c1,c2,c3⟩:=uW hI.below eR hk;exact⟨b,off,C,T,f,rfl,c1,c2,c3⟩
   have rd0:∀{A:Option Addr} {k:Nat} {vs:List Value},(k*i.size=0)->(bH A λb o=>rd u.heap b o (k*i.size)=some vs)->vs=[]:=by
    intro A k vs hk hw;obtain⟨b,off,rfl,eR⟩:=gi hw;rw[hk]at eR;obtain⟨_,_,_,h|h⟩:=QB hI.below eR
    ·exact List.eq_nil_of_length_eq_zero h.2
    ·exact h.2
   have first:∀{A:Option Addr} {k c:Nat} {vs:List Value} (w:World),w.heap=wa.heap->(k=0->vs=[])->(k≠0->bH A λb o=>rd u.heap b o (k*i.size)=some vs)->(Builtin.firstCells i.size k (.slice A k c)).run E.P w=.ok vs.toArray w:=by
    intro A k c vs w hw h0 h1;by_cases hk:k=0
    ·exact Dr h0 (λh=>absurd hk h)
    ·by_cases qG:k*i.size=0
     ·have Fp:=rd0 qG (h1 hk);subst Fp;obtain⟨b,off,rfl,_⟩:=gi (h1 hk);simp[Builtin.firstCells,loadCells,qG,loadCellsFrom]
     ·exact Dr h0 (λ_=>by rw[hw];exact rdw qG (h1 hk))
   by_cases hr:n+m<=cap
   ·rcases vr hr with⟨hm,hK⟩|⟨hm,fK⟩
    ·subst hm;refine bc (r:=.slice base n cap) (wb:=wa) ?_ (aS aG hI rfl hK);refine cF (s:=Builtin.append_ #[t,t'] o.type #[.slice base n cap,.slice xb 0 c']) ho (λ_=>by simp only[builtin,map_toArray,map_cons,map_nil,hex,XA]) ?_;have hf:=first (A:=xb) (k:=0) (c:=c') wa rfl PE (λh=>absurd rfl h)
     have hnn:new=[]:=PE rfl;subst hnn;simp only[Nat.add_zero]at hr;simp[Builtin.append_,aR hu,aR gp,sizeOf,typeInfo,hi,Builtin.lenOf,hr,hf,storeCells];cases base<;>simp
    ·obtain⟨b,off,rfl,fK⟩:=gi fK;have hf:=first (A:=xb) (k:=m) (c:=c') wa rfl PE hn1
     by_cases aZ:new=[]
     ·subst aZ;obtain⟨cc,T,q1,q2,q3,q4⟩:=fK;have hS:Sto u.toWorld u.toWorld b (.cells cc T (0,0)):=⟨rfl,rfl,rfl,Nat.le_refl _,q1,λ_ _ _=>rfl⟩;refine bc (r:=.slice (some ⟨b,off,none⟩) (n+m) cap) (wb:=wa) ?_ (aS aG (u':=u.Jh u.toWorld) (θ:=θ) hI rfl (q4 _ hS));refine cF (s:=Builtin.append_ #[t,t'] o.type #[.slice (some ⟨b,off,none⟩) n cap,.slice xb m c']) ho (λ_=>by simp only[builtin,map_toArray,map_cons,map_nil,hex,XA]) ?_;simp[Builtin.append_,aR hu,aR gp,sizeOf,typeInfo,hi,Builtin.lenOf,hr,hf,storeCells]
     ·obtain⟨cc,T,w',c1,c2,dK,hK⟩:=Dw hI fK aZ;refine bc (r:=.slice (some ⟨b,off,none⟩) (n+m) cap) (wb:=ja wa b (.cells (uC cc (off+n*i.size) new) T (0,0))) ?_ (aS aG dK rfl hK);refine cF (s:=Builtin.append_ #[t,t'] o.type #[.slice (some ⟨b,off,none⟩) n cap,.slice xb m c']) ho (λ_=>by simp only[builtin,map_toArray,map_cons,map_nil,hex,XA]) ?_;have hsr:=lC (P:=E.P) (b:=b) (o:=off+n*i.size) (T:=T) new 0 wa cc c1 (by omega) Kr;simp only[Nat.add_zero]at hsr;simp[Builtin.append_,aR hu,aR gp,sizeOf,typeInfo,hi,Builtin.lenOf,hr,hf,kg,hsr]
   ·have bG:cap<n+m:=by omega
    have lu:=hI.drew;have wD:n+m<=grownCap wa (n+m) cap e:=grownCap_ge wa (n+m) cap e;obtain⟨w',hb,dK⟩:=lu.born (.cells (Cw++new++(Builtin.zeroCells z.cells (grownCap wa (n+m) cap e-(n+m))).toList).toArray e (0,0));have hK:=adA bG (grownCap wa (n+m) cap e) wa.heap.size (Builtin.zeroCells z.cells (grownCap wa (n+m) cap e-(n+m))).toList w' wD (by simp only[Array.length_toList,size_zeroCells];rw[<- DN];simp) hb;refine bc (r:=.slice (some ⟨wa.heap.size,0,none⟩) (n+m) (grownCap wa (n+m) cap e)) ?_ (aS aG dK rfl hK);refine cF (s:=Builtin.append_ #[t,t'] o.type #[.slice base n cap,.slice xb m c']) ho (λ_=>by simp only[builtin,map_toArray,map_cons,map_nil,hex,XA]) ?_;have tM:=growslice_fits bG VQ;have aik:¬(9223372036854775807<((n:Int)+(m:Int))):=by omega
    have ail:¬(281474976710656<Builtin.nextslicecap (n+m) cap*i.bytes):=by omega
    have hf:=first (A:=xb) (k:=m) (c:=c') wa.drew rfl PE hn1
    have hfo:=first (A:=base) (k:=n) (c:=cap) wa.drew rfl ho0 ho1
    simp[Builtin.append_,aR hu,aR gp,sizeOf,typeInfo,zeroValue,hi,hzz,Builtin.lenOf,hr,aik,ail,Question.forced,hf,hfo,newRow,grownCap];congr 2;apply ext';simp
end
section
variable {E:Env} {C:Ctx} {fz:List Nat} {o:Oper} {st:St} {u:UW} {θ:Nat->Nat} {K:St->UW->Prop} {Q:Exit->Act->World->Prop} {a:Act} {wa:World}
theorem ack{t:TypeId}{x:Operand}(ho:o.op=.makeInterface t x)(aG:br C.n o=true)(hI:Inv C a wa st u θ)
  (h:bif plain (ev st.σ x)then(match pv E.P (Instr.makeInterface t (ev st.σ x))with
   |some v=>bif plain v then K (fin o st v) u else False
   |none=>False)else False):sM E C fz o st θ K Q a wa:=by
 have hx:cY C.n x=true:=lp aG (by simp[ho,Op.operands]);obtain⟨hp,h⟩:=aq h;cases hv:pv E.P (Instr.makeInterface t (ev st.σ x))with
 |none=>simp only[hv]at h
 |some v=>
  simp only[hv]at h;obtain⟨lq,h⟩:=aq h;refine bc (r:=v) (wb:=wa) ?_ (aS aG hI lq h);simp only[execOp,ho,nU hI hx hp,run_bind,wU hv wa];rfl
theorem NN(k:IntKind)(i:Int)(P:Program)(w:World):(asInt (.int k i)).run P w=.ok i w:=by simp[asInt,asIntOf]
theorem PQ(z:Array Value)(j:Nat):(Array.range (j*z.size)).map (λi=>z[i % z.size]!)=(replicate j z.toList).flatten.toArray:=by
 apply toList_inj.1;simp only[toList_map,Array.toList_range];induction j with
 |zero=>simp
 |succ j ih=>
  rw[Nat.succ_mul,List.range_add,List.map_append,ih,List.replicate_succ',List.flatten_append];congr 1;simp only[List.map_map,List.flatten_cons,List.flatten_nil,List.append_nil];refine List.ext_getElem (by simp) λi h1 h2=>?_;simp only[length_map,List.length_range]at h1;simp[Nat.mul_add_mod_self_right,Nat.mod_eq_of_lt h1,h1]
theorem acj{t:TypeId}{x y:Operand}(ho:o.op=.makeSlice t x y)(aG:br C.n o=true)(hI:Inv C a wa st u θ)
  (h:match E.P.underlying t,ev st.σ x,ev st.σ y with
  |some (.slice e),.int _ i,.int _ j=>(match(E.P.info? e).map (λi=>(i.size,i.bytes,i.zero.map λz=>z.cells.toList))with
   |some (size,bytes,some zero)=>bif beq zero.length size&& !Nat.beq size 0 then
     0<=i/\i<=j/\j<4611686018427387904/\j.toNat*bytes<=140737488355328/\
     ∀(b:Nat) (w':World),rl u.toWorld w' b (.cells (replicate j.toNat zero).flatten.toArray e (0,0))->K (fin o st (.slice (some ⟨b,0,none⟩) i.toNat j.toNat)) (u.born b w')else False
   |_=>False)
  |_,_,_=>False):sM E C fz o st θ K Q a wa:=by
 have hx:cY C.n x=true:=lp aG (by simp[ho,Op.operands]);have hy:cY C.n y=true:=lp aG (by simp[ho,Op.operands]);split at h
 ·rename_i e k i k' j hu ex ey;cases hi:E.P.info? e with
  |none=>simp[hi]at h
  |some inf=>
   simp only[hi,map_some]at h;cases hz:inf.zero with
   |none=>simp[hz]at h
   |some z=>
    simp only[hz,map_some]at h;obtain⟨hc,h1,h2,h3,h4,h⟩:=aq h;simp only[and_eq_true,beq_iff,not_eq_true']at hc;obtain⟨fH,hnz⟩:=hc;have hzs:z.cells.size=inf.size:=by simpa using fH
    have PE:inf.size≠0:=λe0=>by rw[beq_iff.2 e0]at hnz;cases hnz
    obtain⟨w',je,dK⟩:=hI.born (.cells (replicate j.toNat z.cells.toList).flatten.toArray e (0,0));refine bc (r:=.slice (some ⟨wa.heap.size,0,none⟩) i.toNat j.toNat) (wb:=wa.alloc (.cells (replicate j.toNat z.cells.toList).flatten.toArray e (0,0))) ?_ (aS aG dK rfl (h _ _ je));have wi:IntKind.i64.wrap i=i:=IntWalk.i64_in i (by omega);have wj:IntKind.i64.wrap j=j:=IntWalk.i64_in j (by omega);have ahm:¬((inf.bytes:Int)*j>2 ^ 48):=by
     have:((j.toNat*inf.bytes:Nat):Int)<=140737488355328:=Int.ofNat_le.2 h4;have e1:((j.toNat:Nat):Int)=j:=Int.toNat_of_nonneg (by omega);rw[Int.natCast_mul,e1,Int.mul_comm]at this;omega
    have DT:E.P.cellsOf e=inf.size:=by simp[Program.cellsOf,hi]
    have hzr:=PQ z.cells j.toNat;rw[hzs]at hzr;have adP:((decide (j<0)||decide ((inf.bytes:Int)*j>2 ^ 48))||decide (i<0)||decide (i>j))=false:=by
     simp only[decide_eq_false (show ¬j<0 by omega),decide_eq_false ahm,decide_eq_false (show ¬i<0 by omega),decide_eq_false (show ¬i>j by omega),Bool.or_false]
    have hzz:(E.P.info? e).bind (·.zero)=some z:=by simp[hi,hz]
    simp only[execOp,ho,bd hI hx ex rfl,bd hI hy ey rfl,run_bind,Instr.makeSlice,aR hu,andThen_ok,NN,Aq hi,wi,wj];rw[if_neg (by rw[adP];simp)];by_cases hn:j.toNat*inf.size=0
    ·have hj:j.toNat=0:=(Nat.mul_eq_zero.1 hn).resolve_right PE;simp[cz hi,DT,hj,newRow];congr 2;apply ext';simp
    ·simp[cz hi,DT,hn,jP hzz,newRow,hzr,hzs]
 ·exact h.elim
end
section
variable {E:Env} {C:Ctx} {a:Act} {wa:World} {st:St} {u:UW} {θ:Nat->Nat} {fz:List Nat} {o:Oper} {K:St->UW->Prop} {Q:Exit->Act->World->Prop}
theorem oo{P:Program}{g:FuncId}{args:Array Value}{w:World}(h:dg P g=true):(callFunc g args).run P w=.ok (.enter g args) w:=by
 unfold dg at h;cases hf:P.funcs[g]? with
 |none=>simp[hf]at h
 |some fn=>
  simp only[hf,and_eq_true,not_eq_true']at h;obtain⟨h1,h2⟩:=h;cases hb:fn.body with
  |none=>simp[hb]at h2
  |some c=>
   simp only[callFunc,run_bind,run_program,andThen_ok,hf,h1,hb,false_eq_true,if_false,Option.isNone_some,run_pure]
theorem Bv{P:Program}{t:TypeId}{F:Value->Prop}(h:exV P t F):∃v,plain v=true/\F v:=by
 unfold exV at h;cases hk:kinds P t with
 |none=>simp only[hk]at h
 |some ks=>
  simp only[hk]at h;obtain⟨vs,hl,hp,h⟩:=qP h;obtain⟨_,_,h2⟩:=lO hk;exact⟨_,nI hp (h2.imp id λh=>by omega),h⟩
theorem D_{P:Program}:∀{ts:List TypeId} {F:List Value->Prop},KK P ts F->∃vs,F vs
 |[],_,h=>⟨[],h⟩
 |t::ts,F,h=>by
  obtain⟨v,_,h⟩:=Bv h
  obtain⟨vs,h⟩:=D_ h;exact⟨_,h⟩
theorem Iy{P:Program}{t:TypeId}{F:Value->Prop}(h:PO P t F):∃v,plain v=true/\F v:=by
 unfold PO at h;split at h
 ·obtain⟨vs,h⟩:=D_ h;exact⟨_,rfl,h⟩
 ·exact Bv h
theorem Inv.ret{F:Nat->Prop}{w' wr:World}(hI:Inv C a wa st u θ)(hF:∀b,F b->u.gj b)(fL:Out F u.toWorld wa w' wr):Inv C a wr st (u.ret wa.heap.size w') θ:=by
 refine hI.world hF fL.mod fL.Cq fL.umod fL.Bj ?_ ?_
 ·intro b hb;rcases hb with hb|⟨_,hb⟩
  ·exact Nat.lt_of_lt_of_le (hI.pC b hb) fL.mod.size
  ·exact Nat.lt_of_lt_of_le hb fL.Cq.size
 ·intro b hb bG;rcases hb with hb|⟨hb,_⟩
  ·exact hb
  ·omega
theorem jH{P:Program}{f:Value}{args:List Value}{u:UW}{K:Value->UW->Prop}:
  pz P f args u K↔∃F:Nat->Prop,(∀b,F b->u.gj b)/\Lh P f args u.toWorld F λv lo w'=>K v (u.ret lo w'):=by
 unfold pz;split
 ·rename_i g first captured
  constructor
  ·intro h;obtain⟨hc,F,hF,h⟩:=aq h;exact⟨F,hF,λw1 hs=>⟨hc,h w1 hs⟩⟩
  ·rintro⟨F,hF,h⟩;have hc:dg P g=true:=(h u.toWorld (xT.refl _)).1;rw[hc];exact⟨F,hF,λw1 hs=>(h w1 hs).2⟩
 ·exact Iff.rfl
theorem Yu{f:Operand}{args:Array Operand}{ts:Array TypeId}(ho:o.op=.call ⟨.value f,args,ts⟩)(aG:br C.n o=true)(hI:Inv C a wa st u θ)
  (h:bif args.toList.all (λx=>plain (ev st.σ x))then
    pz E.P (ev st.σ f) (args.toList.map (ev st.σ)) u λv w'=>PO E.P o.type λv'=>v=v'/\K (fin o st v') w' else False):sM E C fz o st θ K Q a wa:=by
 obtain⟨hp,h⟩:=aq h;have kf:cY C.n f=true:=lp aG (by simp[ho,Op.operands,Call.operands]);have ka:∀x∈args.toList,cY C.n x=true:=λx hx=>lp aG (by simp[ho,Op.operands,Call.operands];right;simpa using hx);obtain⟨F,hF,h⟩:=jH.1 h;have h:=h wa hI.below;have hea:=rO hI ka hp;have done:∀(e:Ending) (wr:World),(∃v w',e=.returned v/\Out F u.toWorld wa w' wr/\PO E.P o.type λv'=>v=v'/\K (fin o st v') (u.ret wa.heap.size w'))->
   match e with
   | .returned v=>Ni C fz o st θ (im E.fj o) K (a.put o.dst v) wr
   | .panicked chain=>Q (.panic chain) a wr
   | .outgrown=>LetsOut Q:=by
  rintro e wr ⟨v,w',rfl,fL,hK⟩;obtain⟨v',lq,rfl,hK⟩:=Iy hK;exact aS aG (hI.ret hF fL) lq hK
 unfold xS at h;split at h
 ·rename_i g first captured hf
  obtain⟨hc,h⟩:=h;have ZJ:=bd hI kf hf rfl;have jd:(execOp a.eval o).run E.P wa=.ok (.enter g (first.toList++args.toList.map (ev st.σ)++captured.toList).toArray) wa:=by
   simp only[execOp,ho,resolve,ZJ,hea,Deferred.ofValue,run_bind,run_pure,andThen_ok,invoke];rw[oo hc];congr 2;apply toList_inj.1;simp
  unfold sM;rw[jd];refine⟨λh=>(by cases h),callsIn_wide.2 (h.mono λe wr HT=>?_)⟩;have:=done e wr HT;cases e<;>exact this
 ·rename_i l first captured hf
  obtain⟨rfl,rfl,r,hr,hlen,h⟩:=h;have ZJ:=bd hI kf hf rfl;have jd:(execOp a.eval o).run E.P wa=.ok (.round l r.fn ((r.params.zip (args.toList.map (ev st.σ)).toArray).foldl (λt (p,v)=>t.setIfInBounds p v) r.tmps) r.assign r.body) wa:=by
   simp only[execOp,ho,resolve,ZJ,hea,Deferred.ofValue,run_bind,run_pure,andThen_ok,invoke];rw[show(#[]++(args.toList.map (ev st.σ)).toArray)=(args.toList.map (ev st.σ)).toArray by simp];exact run_yield hr (by simpa using hlen)
  unfold sM;rw[jd];refine⟨λh=>(by cases h),h.mono λe wr HT=>?_⟩;have:=done e wr HT;cases e<;>exact this
 ·exact h.elim
theorem acn{x:Operand}{name:String}{args:Array Operand}{ts:Array TypeId}(ho:o.op=.call ⟨.invoke x name,args,ts⟩)(aG:br C.n o=true)(hI:Inv C a wa st u θ)
  (h:bif args.toList.all (λx=>plain (ev st.σ x))then(match ev st.σ x with
    | .iface t r=>(match pv E.P (method (E.P.types.size+Made.depth) t r name)with
      |some (g,r')=>bif dg E.P g then oc E.P g (r'::args.toList.map (ev st.σ)).toArray u λv w'=>PO E.P o.type λv'=>v=v'/\K (fin o st v') w' else False
      |none=>False)
    |_=>False)else False):sM E C fz o st θ K Q a wa:=by
 obtain⟨hp,h⟩:=aq h;have kx:cY C.n x=true:=lp aG (by simp[ho,Op.operands,Call.operands]);have ka:∀x∈args.toList,cY C.n x=true:=λx hx=>lp aG (by simp[ho,Op.operands,Call.operands];right;simpa using hx);split at h
 ·rename_i t r hf;cases hm:pv E.P (method (E.P.types.size+Made.depth) t r name)with
  |none=>simp only[hm]at h
  |some gr=>
   obtain⟨g,r'⟩:=gr;simp only[hm]at h;obtain⟨hc,F,hF,h⟩:=aq h;have ZJ:=bd hI kx hf rfl;have hea:=rO hI ka hp;have jd:(execOp a.eval o).run E.P wa=.ok (.enter g (r'::args.toList.map (ev st.σ)).toArray) wa:=by
    simp only[execOp,ho,resolve,ZJ,hea,run_bind,run_pure,andThen_ok,invoke];simp[callMethod,wU hm wa,oo hc];exact List.take_of_length_le (by simp)
   unfold sM;rw[jd];refine⟨λh=>(by cases h),callsIn_wide.2 ((h wa hI.below).mono λe wr HT=>?_)⟩;obtain⟨v,w',rfl,fL,hK⟩:=HT;obtain⟨v',lq,rfl,hK⟩:=Iy hK;exact aS aG (hI.ret hF fL) lq hK
 ·exact h.elim
theorem agh{b:Builtin}{args:Array Operand}{ts:Array TypeId}(ho:o.op=.call ⟨.builtin b,args,ts⟩)(aG:br C.n o=true)(hI:Inv C a wa st u θ)
  (h:W1b E o st u b args.toList ts.toList K):sM E C fz o st θ K Q a wa:=by
 have ka:∀x∈args.toList,cY C.n x=true:=λx hx=>lp aG (by simp[ho,Op.operands,Call.operands];simpa using hx);obtain⟨args⟩:=args;obtain⟨ts⟩:=ts;simp only at h ka;unfold W1b at h;split at h
 ·rename_i x t;have kx:=ka x (by simp);split at h
  ·rename_i n c hu he;refine bc (r:=.int .i64 n) (wb:=wa) ?_ (aS aG hI rfl h);refine cF (s:=Builtin.len_ #[t] o.type #[a.eval x]) ho (λ_=>by simp[builtin]) ?_;simp[Builtin.len_,aR hu,bd hI kx he rfl,goInt]
  ·rename_i s hu he;refine bc (r:=.int .i64 s.size) (wb:=wa) ?_ (aS aG hI rfl h);refine cF (s:=Builtin.len_ #[t] o.type #[a.eval x]) ho (λ_=>by simp[builtin]) ?_;simp[Builtin.len_,aR hu,bd hI kx he rfl,goInt]
  ·rename_i n e hu;obtain⟨_,h⟩:=aq h;refine bc (r:=.int .i64 n) (wb:=wa) ?_ (aS aG hI rfl h);refine cF (s:=Builtin.len_ #[t] o.type #[a.eval x]) ho (λ_=>by simp[builtin]) ?_;simp[Builtin.len_,aR hu,goInt]
  ·exact h.elim
 ·rename_i x y t t';split at h
  ·rename_i e e' base n cap xb m c hu gp hx hy;exact acv ho aG hI hu gp hx hy h
  ·exact h.elim
 ·split at h
  ·rename_i k i is hi;refine bc (r:=.int k (is.foldl (λx y=>if y<x then y else x) i)) (wb:=wa) ?_ (aS aG hI rfl h);obtain⟨he,_⟩:=vn hI ka hi;refine cF (s:=(is.map (Value.int k)).foldlM Builtin.min2 (.int k i)) ho (λ_=>?_) (EI is i);simp only[builtin,Builtin.min_,map_toArray,he,map_cons]
  ·exact h.elim
 ·split at h
  ·rename_i k i is hi;refine bc (r:=.int k (is.foldl (λx y=>if y>x then y else x) i)) (wb:=wa) ?_ (aS aG hI rfl h);obtain⟨he,_⟩:=vn hI ka hi;refine cF (s:=(is.map (Value.int k)).foldlM Builtin.max2 (.int k i)) ho (λ_=>?_) (EJ is i);simp only[builtin,Builtin.max_,map_toArray,he,map_cons]
  ·exact h.elim
 ·exact h.elim
theorem kh(aG:br C.n o=true)(hI:Inv C a wa st u θ)(h:W1 E fz o st u K):sM E C fz o st θ K Q a wa:=by
 cases ho:o.op with
 |move x=>simp only[W1,ho]at h;exact Qx (.inl ho) aG hI h
 |assign x=>simp only[W1,ho]at h;exact Qx (.inr ho) aG hI h
 |pick c x y=>
  simp only[W1,ho]at h;split at h
  ·rename_i t hc;exact Yr ho aG hI hc h
  ·exact h.elim
 |alloc t=>
  simp only[W1,ho]at h;cases hz:(E.P.info? t).bind (·.zero)with
  |none=>simp only[hz]at h
  |some z=>
   simp only[hz]at h;have jd:(execOp a.eval o).run E.P wa=.ok (.value (.pointer (some ⟨wa.heap.size,0,none⟩))) (wa.alloc (.cells z.cells t (0,0))):=by
    simp only[execOp,ho,run_bind,Ds hz];rfl
   cases hd:o.dst with
   |none=>simp only[hd]at h
   |some k=>
    simp only[hd]at h;cases hm:cK E.fj k with
    |true=>simp only[hm,cond_true]at h;exact Hj (by simp[im,ho,hd,hm]) aG hI hd jd h
    |false=>simp only[hm,cond_false]at h;exact Hi aG hI jd h
 |box t x=>
  simp only[W1,ho]at h;obtain⟨hp,h⟩:=aq h;have kx:cY C.n x=true:=lp aG (by simp[ho,Op.operands]);have jd:(execOp a.eval o).run E.P wa=.ok (.value (.pointer (some ⟨wa.heap.size,0,none⟩))) (wa.alloc (.cells (ev st.σ x).cells t (0,0))):=by
   simp only[execOp,ho,run_bind,LM,nU hI kx hp];rfl
  cases hd:o.dst with
  |none=>simp only[hd]at h
  |some k=>
   simp only[hd]at h;cases hm:cK E.fj k with
   |true=>simp only[hm,cond_true]at h;exact Hj (by simp[im,ho,hd,hm]) aG hI hd jd h
   |false=>simp only[hm,cond_false]at h;exact Hi aG hI jd h
 |build t ps=>simp only[W1,ho]at h;exact acs ho aG hI h
 |buildSlice t len ps=>simp only[W1,ho]at h;exact acr ho aG hI h
 |load t x=>
  simp only[W1,ho]at h;cases hk:kinds E.P t with
  |none=>simp only[hk]at h
  |some ks=>simp only[hk]at h;exact Ys ho aG hI hk h
 |store t x y=>simp only[W1,ho]at h;exact UC ho aG hI h
 |nilCheck x=>simp only[W1,ho]at h;exact aci ho aG hI h
 |binOp op t x y t'=>simp only[W1,ho]at h;exact acu ho aG hI h
 |unOp op t x=>simp only[W1,ho]at h;exact agd h ho aG hI
 |convert s d x=>simp only[W1,ho]at h;exact Yt ho aG hI h
 |makeInterface t x=>simp only[W1,ho]at h;exact ack ho aG hI h
 |makeSlice t x y=>simp only[W1,ho]at h;exact acj ho aG hI h
 |makeFunc fn p q=>simp only[W1,ho]at h;exact acm ho aG hI h
 |slice t x lo hi mx=>simp only[W1,ho]at h;exact UD h ho aG hI
 |fieldAddr t x f=>
  simp only[W1,ho]at h;cases hd:CO E.P t f with
  |none=>simp only[hd]at h
  |some d=>simp only[hd]at h;exact agf ho aG hI hd h
 |field t x f=>simp only[W1,ho]at h;exact acp ho aG hI h
 |indexAddr t x i=>simp only[W1,ho]at h;exact age ho aG hI h
 |index t x i=>simp only[W1,ho]at h;exact aco ho aG hI h
 |extract x i=>simp only[W1,ho]at h;exact acq ho aG hI h
 |call c=>
  simp only[W1,ho]at h;obtain⟨callee,args,ts⟩:=c;cases callee with
  |builtin b=>simp only at h;exact agh ho aG hI h
  |value f=>simp only at h;exact Yu ho aG hI h
  |invoke r m=>simp only at h;exact acn ho aG hI h
 |_=>simp only[W1,ho]at h
end
structure Mx(n:Nat)(fz ws:List Nat)(agn:Nat->Prop)(st eQ s:St):Prop where
 slot:∀i,i<n->s.σ i=aV\/s.σ i=eQ.σ i
 dD:∀k m,(k,m)∈s.D->(k,m)∈eQ.D/\(¬agn k->∀j,j<m->s.σ (gx k j)=aV\/s.σ (gx k j)=eQ.σ (gx k j))
 fk:∀i,i<n->∀k o,s.σ i=dM k o->∃m,(k,m)∈s.D
 cu:∀i,i<n->i∉ws->s.σ i=st.σ i
 aa0:∀x,x∈st.D->x∈s.D
 frz:∀k,k∈fz->∀m,(k,m)∈st.D->∀j,j<m->s.σ (gx k j)=st.σ (gx k j)
def qW(l:Live)(k:Nat):Prop:=∃ks,(k,Kd.box ks)∈l
theorem ti(σ:Fr)(ws:List Nat)(k j:Nat):u_ σ ws (gx k j)=σ (gx k j):=by
 have:blt (gx k j) 65536=false:=by
  cases h:blt (gx k j) 65536 with
  |false=>rfl
  |true=>have:=iW.1 h;have:=jn k j;omega
 simp only[u_,this,Bool.false_and,cond_false]
open Classical in
theorem NW(σ:Fr)(ws:List Nat)(i:Nat)(hi:i<65536):u_ σ ws i=if i∈ws then aV else σ i:=by
 have e1:blt i 65536=true:=iW.2 hi;by_cases hw:i∈ws
 ·simp only[u_,e1,dR.2 hw,Bool.and_true,cond_true,if_pos hw]
 ·have:cK ws i=false:=by cases hm:cK ws i with|false=>rfl|true=>exact absurd (dR.1 hm) hw
  simp only[u_,this,Bool.and_false,cond_false,if_neg hw]
open Classical in
theorem yw:∀(l:List (Nat×Nat)) (σ:Fr) (i:Nat),i<65536->fh σ l i=if(∃m,(i,m)∈l)then dM i 0 else σ i
 |[],σ,i,_=>by simp[fh]
 |(k,m)::l,σ,i,hi=>by
  simp only[fh]
  rw[yw l _ i hi]
  by_cases h:∃m,(i,m)∈l
  ·rw[if_pos h,if_pos (by obtain⟨m',h⟩:=h;exact⟨m',by simp[h]⟩)]
  ·rw[if_neg h,gS _ _ _ hi]
   by_cases e:i=k
   ·subst e;rw[eY,if_pos ⟨m,by simp⟩]
   ·rw[cf _ _ e,if_neg]
    rintro⟨m',hm⟩
    simp only[mem_cons,Prod.mk.injEq]at hm
    rcases hm with⟨e',_⟩|hm
    ·exact e e'
    ·exact h ⟨m',hm⟩
theorem om:∀(l:List (Nat×Nat)) (σ:Fr) (k j:Nat),j<65536->k<65536->(∀x∈l,x.1<65536/\x.2<=65536)->
  (fh σ l (gx k j)=aV/\∃m,(k,m)∈l)\/fh σ l (gx k j)=σ (gx k j)
 |[],σ,k,j,_,_,_=>.inr rfl
 |(k',m)::l,σ,k,j,hj,hk,hl=>by
  simp only[fh]
  have hb:=hl (k',m) (by simp)
  rcases om l (rn (i_ σ k' (dM k' 0)) k' 0 (replicate m aV)) k j hj hk (λx hx=>hl x (by simp[hx]))with⟨h,m',sE⟩|h
  ·exact .inl ⟨h,m',by simp[sE]⟩
  ·rw[h];by_cases e:k=k'
   ·subst e;by_cases Ce:j<m
    ·have:=sR (σ:=i_ σ k (dM k 0)) (k:=k) (replicate m aV) 0 j (by simpa using Ce) (by simpa using hb.2);rw[zero_add]at this;rw[this];refine .inl ⟨?_,m,by simp⟩;simp[List.getD_eq_getElem?_getD,Ce]
    ·right;rw[dE,cf]
     ·have:=jn k j;omega
     ·intro i _ hi e;have:=(iU hj (by simp at hi;omega) e).2;simp at hi;omega
   ·right;rw[dE,cf]
    ·have:=jn k j;omega
    ·intro i _ hi e';exact e (iU hj (by simp at hi;omega) e').1
theorem pb:∀(l:List (Nat×Nat)) (σ:Fr) (k m j:Nat),(k,m)∈l->j<m->(∀x∈l,x.1<65536/\x.2<=65536)->fh σ l (gx k j)=aV
 |[],_,_,_,_,h,_,_=>by simp at h
 |(k',m')::l,σ,k,m,j,h,hj,hl=>by
  simp only[fh]
  by_cases fT:∃m'',(k,m'')∈l/\j<m''
  ·obtain⟨m'',hm,Jn⟩:=fT
   exact pb l _ k m'' j hm Jn (λx hx=>hl x (by simp[hx]))
  ·simp only[mem_cons,Prod.mk.injEq]at h;rcases h with⟨rfl,rfl⟩|h
   ·have hb:=hl (k,m) (by simp);rcases om l (rn (i_ σ k (dM k 0)) k 0 (replicate m aV)) k j (by omega) hb.1 (λx hx=>hl x (by simp[hx]))with⟨h,_⟩|h
    ·exact h
    ·rw[h];have:=sR (σ:=i_ σ k (dM k 0)) (k:=k) (replicate m aV) 0 j (by simpa using hj) (by simpa using hb.2);rw[zero_add]at this;rw[this];simp[List.getD_eq_getElem?_getD,hj]
   ·exact absurd ⟨m,h,hj⟩ fT
theorem uR{st:St}:∀{l:List (Nat×Nat)},kU st l=true->∀k m,(k,m)∈l->(k,m)∈st.D/\st.σ k=dM k 0
 |[],_,_,_,h=>by simp at h
 |(k',m')::l,h,k,m,hm=>by
  simp only[kU,and_eq_true,oL]at h
  simp only[mem_cons,Prod.mk.injEq]at hm
  rcases hm with⟨rfl,rfl⟩|hm
  ·refine⟨h.1.1,?_⟩
   have:=h.1.2
   unfold Rx at this;split at this
   ·rename_i k2 o he;simp only[and_eq_true,beq_iff]at this;obtain⟨rfl,rfl⟩:=this;exact he
   ·cases this
  ·exact uR h.2 k m hm
theorem qB{fz:List Nat}{D:List (Nat×Nat)}{c:Cut}(h:oC fz D c=true):
  (∀t ks,(t,Kd.box ks)∈c.live->t∉fz/\t<65536/\ks.length<=65536)/\(∀x∈c.live,x.1<65536)/\(∀k m,(k,m)∈c.fJ->k∉fz/\k<65536/\(k,m)∈D):=by
 simp only[oC,and_eq_true,List.all_eq_true]at h;obtain⟨h1,h2⟩:=h;refine⟨λt ks ht=>?_,λx hx=>?_,λk m hk=>?_⟩
 ·have:=h1 _ ht;simp only[and_eq_true,not_eq_true',iW,ble_eq]at this;exact⟨λhf=>(by rw[dR.2 hf]at this;cases this.1.1),this.1.2,this.2⟩
 ·obtain⟨t,kd⟩:=x;have:=h1 _ hx;cases kd<;>simp only[and_eq_true,iW]at this
  ·exact this.1
  ·exact this.1
  ·exact this.1.2
 ·obtain⟨⟨h3,h4⟩,h5⟩:=h2 _ hk;exact⟨λhf=>(by rw[dR.2 hf]at h3;cases h3),iW.1 h4,oL.1 h5⟩
theorem Kb{fz:List Nat}{D:List (Nat×Nat)}{c:Cut}{k m:Nat}(hk:(k,m)∈D)(h1:¬qW c.live k)(h2:∀m,(k,m)∉c.fJ):k∈freeze fz D c:=by
 unfold freeze;rw[List.mem_append];right;rw[List.mem_filter,mem_map];refine⟨⟨_,hk,rfl⟩,?_⟩;simp only[not_eq_true',KM,Bool.or_eq_false_iff,List.any_eq_false];refine⟨λx hx=>?_,λx hx=>?_⟩
 ·obtain⟨t,kd⟩:=x;cases kd<;>simp only[false_eq_true,not_false_eq_true,beq_iff];rintro rfl;exact h1 ⟨_,hx⟩
 ·obtain⟨t,m'⟩:=x;simp only[beq_iff];rintro rfl;exact h2 _ hx
section
variable {C:Ctx} {a a1:Act} {wa wa1:World} {st eQ:St} {u u1:UW} {θ θ1:Nat->Nat} {fz ws:List Nat} {c:Cut}
open Classical in
theorem Mx.base(hI:Inv C a wa st u θ)(hP:cB C.n (freeze fz st.D c) ws st eQ)(hl:oC fz st.D c=true)(hs:kU eQ c.fJ=true):
  Mx C.n fz ws (qW c.live) st eQ {st with σ:=fh (u_ st.σ ws) c.fJ}:=by
 obtain⟨l1,l2,l3⟩:=qB hl;have DQ:=uR hs;have hn:=hI.jc;have hb:∀x∈c.fJ,x.1<65536/\x.2<=65536:=λx hx=>⟨(l3 x.1 x.2 hx).2.1,(hI.boxes x.1 x.2 (l3 x.1 x.2 hx).2.2).1⟩;have slot:∀i,i<C.n->fh (u_ st.σ ws) c.fJ i=if(∃m,(i,m)∈c.fJ)then dM i 0 else if i∈ws then aV else st.σ i:=by
  intro i hi;rw[yw _ _ _ (by omega)];by_cases h:∃m,(i,m)∈c.fJ
  ·rw[if_pos h,if_pos h]
  ·rw[if_neg h,if_neg h,NW _ _ _ (by omega)]
 refine⟨?_,?_,?_,?_,λx hx=>hx,?_⟩
 ·intro i hi;simp only;rw[slot i hi];split
  ·rename_i h;obtain⟨m,h⟩:=h;exact .inr (DQ i m h).2.symm
  ·split
   ·exact .inl rfl
   ·rename_i hw;exact .inr (hP.slot i hi hw).symm
 ·intro k m hk;refine⟨hP.D _ hk,λhp j hj=>?_⟩;have hm:=(hI.boxes k m hk).1;have hgx:(u_ st.σ ws) (gx k j)=st.σ (gx k j):=ti _ _ _ _;by_cases Vy:∃m',(k,m')∈c.fJ
  ·obtain⟨m',Vy⟩:=Vy;have hD:=(l3 k m' Vy).2.2;obtain rfl:m'=m:=(hI.inj _ _ _ _ hD hk rfl).2;exact .inl (pb _ _ k m' j Vy hj hb)
  ·right;have h1:=hP.fz k (Kb hk hp (λm hm=>Vy ⟨m,hm⟩)) m hk j hj;simp only;by_cases hk6:k<65536
   ·rcases om c.fJ (u_ st.σ ws) k j (by omega) hk6 hb with⟨_,h⟩|h
    ·exact absurd h Vy
    ·rw[h,hgx,h1]
   ·have key:∀(l:List (Nat×Nat)) (σ:Fr),(∀x∈l,x.1<65536/\x.2<=65536)->fh σ l (gx k j)=σ (gx k j):=by
     intro l;induction l with
     |nil=>intro σ _;rfl
     |cons x l ih=>
      intro σ hx;obtain⟨k',m'⟩:=x;have Fm:=hx (k',m') (by simp);simp only[fh];rw[ih _ (λy hy=>hx y (by simp[hy])),dE,cf]
      ·have:=jn k j;have:=Fm.1;omega
      ·intro i _ hi e;have:=(iU (by omega) (by simp at hi;have:=Fm.2;omega) e).1;have:=Fm.1;omega
    rw[key _ _ hb,hgx,h1]
 ·intro i hi k o e;simp only at e;rw[slot i hi]at e;split at e
  ·rename_i h;obtain⟨m,h⟩:=h;simp only[Value.complex.injEq,true_and]at e;exact⟨m,by rw[<- e.1];exact(l3 i m h).2.2⟩
  ·split at e
   ·cases e
   ·exact hI.jo i hi k o e
 ·intro i hi hw;simp only;rw[slot i hi];split
  ·rename_i h;obtain⟨m,h⟩:=h;rw[<- hP.slot i hi hw];exact(DQ i m h).2.symm
  ·rfl
 ·intro k hk m hm j hj;have yB:=(hI.boxes k m hm).1;have hgx:(u_ st.σ ws) (gx k j)=st.σ (gx k j):=ti _ _ _ _;have key:∀(l:List (Nat×Nat)) (σ:Fr),(∀x∈l,x.1≠k/\x.1<65536/\x.2<=65536)->fh σ l (gx k j)=σ (gx k j):=by
   intro l;induction l with
   |nil=>intro σ _;rfl
   |cons x l ih=>
    intro σ hx;obtain⟨k',m'⟩:=x;have Fm:=hx (k',m') (by simp);simp only[fh];rw[ih _ (λy hy=>hx y (by simp[hy])),dE,cf]
    ·have:=jn k j;have:=Fm.2.1;omega
    ·intro i _ hi e;exact Fm.1 (iU (by omega) (by simp at hi;have:=Fm.2.2;omega) e).1.symm
  simp only;rw[key _ _ (λx hx=>⟨λe=>(l3 x.1 x.2 hx).1 (e▸hk),hb x hx⟩),hgx]
theorem Mx.set{s:St}{x:Nat×Kd}{l:Live}{v:x.2.T}(h:Mx C.n fz ws (qW (x::l)) st eQ s)(lu:Inv C a1 wa1 eQ u1 θ1)(hg:yK eQ x=some v)(hx:x.1<65536)(hfz:∀ks,x.2=.box ks->x.1∉fz)
  (hI:Inv C a wa st u θ) (hP:cB C.n (freeze fz st.D c) ws st eQ):
  Mx C.n fz ws (qW l) st eQ (kH s x v):=by
 obtain⟨t,kd⟩:=x;have hn:=lu.jc;have Dz:∀(w:Value),plain w=true->eQ.σ t=w->(∀k,qW ((t,kd)::l) k->qW l k)->Mx C.n fz ws (qW l) st eQ {s with σ:=i_ s.σ t w}:=by
  intro w hp hw hbx;refine⟨?_,?_,?_,?_,h.aa0,?_⟩
  ·intro i hi;simp only;by_cases e:i=t
   ·subst e;rw[eY];exact .inr hw.symm
   ·rw[cf _ _ e];exact h.slot i hi
  ·intro k m hk;refine⟨(h.dD k m hk).1,λzG j hj=>?_⟩;simp only;have:=jn k j;rw[cf _ _ (by simp only at hx;omega)];exact(h.dD k m hk).2 (λhb=>zG (hbx k hb)) j hj
  ·intro i hi k o e;simp only at e;by_cases e':i=t
   ·subst e';rw[eY]at e;exact absurd e (jS hp k o)
   ·rw[cf _ _ e']at e;exact h.fk i hi k o e
  ·intro i hi Vu;simp only;by_cases e:i=t
   ·subst e;rw[eY,<- hw];exact hP.slot i hi Vu
   ·rw[cf _ _ e];exact h.cu i hi Vu
  ·intro k hk m hm j hj;simp only;have:=jn k j;rw[cf _ _ (by simp only at hx;omega)];exact h.frz k hk m hm j hj
 cases kd with
 |one k=>
  simp only[yK]at hg;exact Dz _ (K1.UO k v) (K1.MH hg) (by rintro k' ⟨ks,hk⟩;simp only[mem_cons,Prod.mk.injEq,reduceCtorEq,and_false,false_or]at hk;exact⟨ks,hk⟩)
 |agg ks=>
  simp only[yK]at hg;split at hg
  ·rename_i arr he;refine Dz _ rfl ?_ (by rintro k' ⟨ks,hk⟩;simp only[mem_cons,Prod.mk.injEq,reduceCtorEq,and_false,false_or]at hk;exact⟨ks,hk⟩);rw[he];have:=Gd hg;congr 1;apply toList_inj.1;simpa using this
  ·cases hg
 |box ks=>
  simp only[yK]at hg;split at hg
  ·rename_i k o he;simp only[cond_eq_ite]at hg;split at hg
   ·rename_i hc;simp only[and_eq_true,beq_iff,oL]at hc;obtain⟨⟨rfl,rfl⟩,hD⟩:=hc;have Bh:=Gd hg;have hlen:(Li ks v).length=ks.length:=ua ks v;have alZ:=(lu.boxes k ks.length hD).1;have pj:∀(σ:Fr) (j:Nat),j<ks.length->rn σ k 0 (Li ks v) (gx k j)=eQ.σ (gx k j):=by
     intro σ j hj;have h1:=sR (σ:=σ) (k:=k) (Li ks v) 0 j (by omega) (by omega);rw[zero_add]at h1;rw[h1,List.getD_eq_getElem?_getD,<- Bh,uZ _ _ _ _ _ hj];simp
    have adk:∀(σ:Fr) (k' j:Nat),k'≠k->j<65536->rn σ k 0 (Li ks v) (gx k' j)=σ (gx k' j):=by
     intro σ k' j aZ hj;rw[dE];intro i _ hi e;exact aZ (iU hj (by omega) e).1
    have hDs:∀y,y∈(kH s (k,.box ks) v).D↔y∈s.D\/y=(k,ks.length):=by
     intro y;simp only[kH,cond_eq_ite,oL];split
     ·rename_i fT;exact⟨λh=>.inl h,λh=>h.elim id λe=>e▸fT⟩
     ·simp only[mem_cons];exact⟨λh=>h.symm,λh=>h.symm⟩
    simp only at hx;refine⟨?_,?_,?_,?_,?_,?_⟩
    ·intro i hi;simp only[kH];rw[gS _ _ _ (by omega)];by_cases e:i=k
     ·subst e;rw[eY];exact .inr he.symm
     ·rw[cf _ _ e];exact h.slot i hi
    ·intro k' m hk;rw[hDs]at hk;rcases hk with hk|hk
     ·refine⟨(h.dD k' m hk).1,λhp j hj=>?_⟩;have hm6:=(lu.boxes k' m (h.dD k' m hk).1).1;simp only[kH];by_cases e:k'=k
      ·subst e;obtain rfl:m=ks.length:=(lu.inj _ _ _ _ (h.dD k' m hk).1 hD rfl).2;exact .inr (pj _ j hj)
      ·have:=jn k' j;rw[adk _ _ _ e (by omega),cf _ _ (by omega)];refine(h.dD k' m hk).2 (λhb=>hp ?_) j hj;obtain⟨Vn,hb⟩:=hb;simp only[mem_cons,Prod.mk.injEq]at hb;rcases hb with⟨e',_⟩|hb
       ·exact absurd e' e
       ·exact⟨Vn,hb⟩
     ·simp only[Prod.mk.injEq]at hk;obtain⟨rfl,rfl⟩:=hk;exact⟨hD,λ_ j hj=>.inr (by simp only[kH];exact pj _ j hj)⟩
    ·intro i hi k' o e;simp only[kH]at e;rw[gS _ _ _ (by omega)]at e;by_cases e':i=k
     ·subst e';rw[eY]at e;simp only[Value.complex.injEq,true_and]at e;exact⟨ks.length,(hDs _).2 (.inr (by rw[e.1]))⟩
     ·rw[cf _ _ e']at e;obtain⟨m,hm⟩:=h.fk i hi k' o e;exact⟨m,(hDs _).2 (.inl hm)⟩
    ·intro i hi hw;simp only[kH];rw[gS _ _ _ (by omega)];by_cases e:i=k
     ·subst e;rw[eY,<- hP.slot i hi hw];exact he.symm
     ·rw[cf _ _ e];exact h.cu i hi hw
    ·intro y hy;exact(hDs y).2 (.inl (h.aa0 y hy))
    ·intro k' cj m hm j hj;have aZ:k'≠k:=λe=>hfz ks rfl (e▸cj);have hm6:=(hI.boxes k' m hm).1;have:=jn k' j;simp only[kH];rw[adk _ _ _ aZ (by omega),cf _ _ (by omega)];exact h.frz k' cj m hm j hj
   ·cases hg
  ·cases hg
theorem Mx.acf:∀{l:Live} {s:St} {v:Tup l},Mx C.n fz ws (qW l) st eQ s->Inv C a1 wa1 eQ u1 θ1->fZ eQ l=some v->(∀x∈l,x.1<65536)->(∀t ks,(t,Kd.box ks)∈l->t∉fz)->
  Inv C a wa st u θ->cB C.n (freeze fz st.D c) ws st eQ->Mx C.n fz ws (qW []) st eQ (rD s l v)
 |[],s,v,h,_,_,_,_,_,_=>h
 |[x],s,v,h,lu,hg,hx,hf,hI,hP=>by
  simp only[fZ]at hg
  exact h.set (l:=[]) lu hg (hx x (by simp)) (λks e=>hf x.1 ks (by rw[<- e];simp)) hI hP
 |x::y::l,s,v,h,lu,hg,hx,hf,hI,hP=>by
  simp only[fZ]at hg
  split at hg
  ·rename_i p q hp hq
   simp only[Option.some.injEq]at hg
   subst hg
   have h1:=h.set (l:=y::l) lu hp (hx x (by simp)) (λks e=>hf x.1 ks (by rw[<- e];simp)) hI hP
   exact Mx.acf (l:=y::l) h1 lu hq (λz hz=>hx z (by simp[hz])) (λt ks hz=>hf t ks (by simp[hz])) hI hP
  ·cases hg
theorem Ka{v:Tup c.live}(hI:Inv C a wa st u θ)(lu:Inv C a1 wa1 eQ u1 θ1)(hP:cB C.n (freeze fz st.D c) ws st eQ)(hl:oC fz st.D c=true)(hs:kU eQ c.fJ=true)
  (hg:fZ eQ c.live=some v):Inv C a1 wa1 (mix st ws c v) u1 θ1/\cB C.n fz ws st (mix st ws c v):=by
 obtain⟨l1,l2,l3⟩:=qB hl;have h:=Mx.acf (Mx.base hI hP hl hs) lu hg l2 (λt ks ht=>(l1 t ks ht).1) hI hP;refine⟨lu.Cn ⟨h.slot,λk m hk=>⟨(h.dD k m hk).1,(h.dD k m hk).2 (by rintro⟨ks,hk⟩;simp at hk)⟩,λi hi k o e _=>h.fk i hi k o e⟩,⟨h.cu,h.aa0,h.frz⟩⟩
theorem yu{s:St}{x:Nat×Kd}{v:x.2.T}{k j:Nat}(hk:∀ks,x≠(k,.box ks))(hj:j<65536)(hx:x.1<65536)(qG:∀ks,x.2=.box ks->ks.length<=65536):(kH s x v).σ (gx k j)=s.σ (gx k j):=by
 obtain⟨t,kd⟩:=x;have:=jn k j;simp only at hx;cases kd with
 |one k1=>simp only[kH];rw[cf _ _ (by omega)]
 |agg ks=>simp only[kH];rw[cf _ _ (by omega)]
 |box ks=>
  simp only[kH];have hl:=qG ks rfl;rw[dE,cf _ _ (by omega)];intro i _ hi e;rw[ua]at hi;have:=(iU hj (by omega) e).1;exact hk ks (by rw[this])
theorem sv:∀{l:Live} {s:St} {v:Tup l} {k j:Nat},¬qW l k->j<65536->(∀x∈l,x.1<65536)->(∀t ks,(t,Kd.box ks)∈l->ks.length<=65536)->(rD s l v).σ (gx k j)=s.σ (gx k j)
 |[],_,_,_,_,_,_,_,_=>rfl
 |[x],s,v,k,j,hb,hj,hx,qG=>yu (λks e=>hb ⟨ks,by simp[e]⟩) hj (hx x (by simp)) (λks e=>qG x.1 ks (by rw[<- e];simp))
 |x::y::l,s,v,k,j,hb,hj,hx,qG=>by
  simp only[rD]
  rw[sv (l:=y::l) (λ⟨ks,h⟩=>hb ⟨ks,by simp only[mem_cons]at h |-;exact .inr h⟩) hj (λz hz=>hx z (by simp only[mem_cons]at hz |-;exact .inr hz)) (λt ks hz=>qG t ks (by simp only[mem_cons]at hz |-;exact .inr hz))]
  exact yu (λks e=>hb ⟨ks,by simp[e]⟩) hj (hx x (by simp)) (λks e=>qG x.1 ks (by rw[<- e];simp))
theorem Vj(hI:Inv C a wa st u θ)(hl:oC fz st.D c=true)(ws:List Nat)(v:Tup c.live):∀k,k∈freeze fz st.D c->∀m,(k,m)∈st.D->∀j,j<m->(mix st ws c v).σ (gx k j)=st.σ (gx k j):=by
 intro k hk m hm j hj;obtain⟨l1,l2,l3⟩:=qB hl;have yB:=(hI.boxes k m hm).1;have hb:∀x∈c.fJ,x.1<65536/\x.2<=65536:=λx hx=>⟨(l3 x.1 x.2 hx).2.1,(hI.boxes x.1 x.2 (l3 x.1 x.2 hx).2.2).1⟩;have HV:¬qW c.live k/\∀m,(k,m)∉c.fJ:=by
  unfold freeze at hk;rw[List.mem_append]at hk;rcases hk with hk|hk
  ·exact⟨λ⟨ks,h⟩=>(l1 k ks h).1 hk,λm h=>(l3 k m h).1 hk⟩
  ·rw[List.mem_filter]at hk;have h2:=hk.2;simp only[not_eq_true',KM,Bool.or_eq_false_iff,List.any_eq_false]at h2;refine⟨λ⟨ks,h⟩=>?_,λm h=>?_⟩
   ·exact h2.1 _ h (beq_iff.2 rfl)
   ·exact h2.2 _ h (beq_iff.2 rfl)
 have key:∀(l:List (Nat×Nat)) (σ:Fr),(∀x∈l,x.1≠k/\x.1<65536/\x.2<=65536)->fh σ l (gx k j)=σ (gx k j):=by
  intro l;induction l with
  |nil=>intro σ _;rfl
  |cons x l ih=>
   intro σ hx;obtain⟨k',m'⟩:=x;have Fm:=hx (k',m') (by simp);simp only[fh];rw[ih _ (λy hy=>hx y (by simp[hy])),dE,cf]
   ·have:=jn k j;have:=Fm.2.1;omega
   ·intro i _ hi e;exact Fm.1 (iU (by omega) (by simp at hi;have:=Fm.2.2;omega) e).1.symm
 unfold mix;rw[sv HV.1 (by omega) l2 (λt ks h=>(l1 t ks h).2.2)];simp only;rw[key _ _ (λx hx=>⟨λe=>HV.2 x.2 (by rw[<- e];exact hx),hb x hx⟩),ti]
end
end Go.aO
