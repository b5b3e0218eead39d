import Derived.Test.YtbodiiomcfgokaaGreatB01
import Derived.IntWalk
open Array (ext' toList_inj toList_map)
open Bool (and_eq_true cond_eq_ite false_eq_true not_eq_true')
open List (length_map map_cons map_nil map_toArray mem_cons mem_map mem_toArray replicate)
open Nat (beq ble ble_eq blt zero_add)
open Option (isSome_iff_exists map_some)
open Go.Result (andThen_ok)
open Go.Sem (run_bind run_pure)
set_option linter.all false
namespace Go.aP
open Go.RowKit
section
variable {E:Env} {C:Ctx} {a:Act} {wa:World} {st:St} {u:UW} {θ:Nat->Nat} {fz:List Nat} {o:Oper} {K:St->UW->Prop} {Q:Exit->Act->World->Prop}
theorem afY{op:UnOp}{t:TypeId}{x:Operand}
  (h:match op,ev st.σ x with
   | .not,.bool b=>K (fin o st (.bool (!b))) u
   | .neg,.int k n=>K (fin o st (.int k (k.wrap (0-n)))) u
   |_,_=>False) (ho:o.op=.unOp op t x) (aI:br C.n o=true) (hI:Inv C a wa st u θ):sB E C fz o st θ K Q a wa:=by
 have hx:cZ C.n x=true:=kY aI (by simp[ho,Op.operands]);split at h
 ·rename_i b he;refine bc (r:=.bool (!b)) (wb:=wa) ?_ (aV aI hI rfl h);simp[execOp,ho,bf hI hx he rfl,Op.unary]
 ·rename_i k n he;refine bc (r:=.int k (k.wrap (0-n))) (wb:=wa) ?_ (aV aI hI rfl h);simp[execOp,ho,bf hI hx he rfl,Op.unary,Op.intArith]
 ·exact h.elim
theorem Yd{s d:TypeId}{x:Operand}(ho:o.op=.convert s d x)(aI:br C.n o=true)(hI:Inv C a wa st u θ)
  (h:bif plain (ev st.σ x)then(match pv E.P (convert s d (ev st.σ x))with
   |some v=>bif plain v then K (fin o st v) u else False
   |none=>False)else False):sB E C fz o st θ K Q a wa:=by
 have hx:cZ C.n x=true:=kY aI (by simp[ho,Op.operands]);obtain⟨hp,h⟩:=aq h;cases hv:pv E.P (convert s d (ev st.σ x))with
 |none=>simp only[hv]at h
 |some v=>
  simp only[hv]at h;obtain⟨kZ,h⟩:=aq h;refine bc (r:=v) (wb:=wa) ?_ (aV aI hI kZ h);simp only[execOp,ho,nJ hI hx hp,run_bind,wZ hv wa];rfl
theorem Sb(hI:Inv C a wa st u θ):∀{xs:List Operand},(∀x∈xs,cZ C.n x=true)->(xs.all λx=>plain (ev st.σ x))=true->xs.map a.eval=xs.map (ev st.σ)
 |[],_,_=>rfl
 |x::xs,h,hp=>by
  simp only[List.all_cons,and_eq_true]at hp
  simp only[map_cons]
  rw[nJ hI (h x (by simp)) hp.1,Sb hI (λy hy=>h y (by simp[hy])) hp.2]
theorem rv(hI:Inv C a wa st u θ){xs:Array Operand}(h:∀x∈xs.toList,cZ C.n x=true)(hp:(xs.toList.all λx=>plain (ev st.σ x))=true):xs.map a.eval=(xs.toList.map (ev st.σ)).toArray:=by
 rw[<- Sb hI h hp];apply toList_inj.1;simp
theorem abV{fn:Fn}{first captured:Array Operand}(ho:o.op=.makeFunc fn first captured)(aI:br C.n o=true)(hI:Inv C a wa st u θ)
  (h:bif first.toList.all (λx=>plain (ev st.σ x))&&captured.toList.all (λx=>plain (ev st.σ x))then
   K (fin o st (.func fn (first.toList.map (ev st.σ)).toArray (captured.toList.map (ev st.σ)).toArray)) u else False):sB E C fz o st θ K Q a wa:=by
 obtain⟨hc,h⟩:=aq h;simp only[and_eq_true]at hc;have h1:∀x∈first.toList,cZ C.n x=true:=λx hx=>kY aI (by simp[ho,Op.operands];left;simpa using hx);have h2:∀x∈captured.toList,cZ C.n x=true:=λx hx=>kY aI (by simp[ho,Op.operands];right;simpa using hx);refine bc (wb:=wa) ?_ (aV aI hI rfl h);simp only[execOp,ho,rv hI h1 hc.1,rv hI h2 hc.2,Instr.makeFunc];rfl
theorem abZ{x:Operand}{i:Nat}(ho:o.op=.extract x i)(aI:br C.n o=true)(hI:Inv C a wa st u θ)
  (h:match ev st.σ x with
   | .tuple vs=>(match vs[i]? with
     |some v=>bif plain v then K (fin o st v) u else False
     |none=>False)
   |_=>False):sB E C fz o st θ K Q a wa:=by
 have hx:cZ C.n x=true:=kY aI (by simp[ho,Op.operands]);split at h
 ·rename_i vs he;cases hv:vs[i]? with
  |none=>simp only[hv]at h
  |some v=>
   simp only[hv]at h;obtain⟨kZ,h⟩:=aq h;refine bc (r:=v) (wb:=wa) ?_ (aV aI hI kZ h);simp[execOp,ho,bf hI hx he rfl,Instr.extract,hv]
 ·exact h.elim
theorem abS{x:Operand}(ho:o.op=.nilCheck x)(aI:br C.n o=true)(hI:Inv C a wa st u θ)
  (h:match ev st.σ x with
   | .complex .f64 k off=>K (fin o st (dK k off)) u
   | .pointer p=>nn p (K (fin o st (.pointer p)) u)
   | .func f p q=>Bu f (K (fin o st (.func f p q)) u)
   |_=>False):sB E C fz o st θ K Q a wa:=by
 have hx:cZ C.n x=true:=kY aI (by simp[ho,Op.operands]);split at h
 ·rename_i k off he;obtain⟨kQ,hm⟩:=kA hI hx he;refine bc (r:=.pointer (some ⟨θ k,off,none⟩)) (wb:=wa) (by simp[execOp,ho,kQ]) ?_;exact lz aI hI (v:=dK k off) rfl (λk' o' e=>by simp only[Value.complex.injEq,true_and]at e;rw[<- e.1];exact hm) h
 ·rename_i p he;have kQ:=bf hI hx he rfl;cases p with
  |none=>exact h.elim
  |some p=>exact bc (r:=.pointer (some p)) (wb:=wa) (by simp[execOp,ho,kQ]) (aV aI hI rfl h)
 ·rename_i f p q he;have kQ:=bf hI hx he rfl;cases f with
  |method n=>exact h.elim
  |_=>exact bc (wb:=wa) (by simp[execOp,ho,kQ]) (aV aI hI rfl h)
 ·exact h.elim
theorem On{P:Program}{t:TypeId}{f d:Nat}(h:CH P t f=some d):∃fs x,P.underlying t=some (.struct fs)/\fs[f]?=some x/\x.offset=d/\P.cellsOf x.type≠0:=by
 unfold CH at h;cases hu:P.underlying t with
 |none=>simp[hu]at h
 |some D=>
  cases D<;>simp only[hu]at h<;>try (cases h;done)
  rename_i fs;cases hf:fs[f]? with
  |none=>simp[hf]at h
  |some x=>
   simp only[hf,cond_eq_ite,beq_iff]at h;split at h
   ·cases h
   ·rename_i hz;simp only[Option.some.injEq]at h;exact⟨fs,x,rfl,hf,h,hz⟩
theorem mE{P:Program}{w:World}{t:TypeId}{f d b off:Nat}(h:CH P t f=some d):(Instr.fieldAt t (.pointer (some ⟨b,off,none⟩)) f).run P w=.ok (.pointer (some ⟨b,off+d,none⟩)) w:=by
 obtain⟨fs,x,hu,hf,rfl,hz⟩:=On h;have hi:∃i,P.info? x.type=some i:=by
  cases hi:P.info? x.type with
  |none=>simp[Program.cellsOf,hi]at hz
  |some i=>exact⟨i,rfl⟩
 obtain⟨i,hi⟩:=hi;simp only[Instr.fieldAt,run_bind,aS hu,andThen_ok,hf,Instr.sureAddr,run_pure,fieldPlace,cB hi,if_neg hz,jS]
theorem af0{t:TypeId}{x:Operand}{f d:Nat}(ho:o.op=.fieldAddr t x f)(aI:br C.n o=true)(hI:Inv C a wa st u θ)(hd:CH E.P t f=some d)
  (h:match ev st.σ x with
   | .complex .f64 k off=>K (fin o st (dK k (off+d))) u
   |v=>dI v λb off=>K (fin o st (.pointer (some ⟨b,off+d,none⟩))) u):sB E C fz o st θ K Q a wa:=by
 have hx:cZ C.n x=true:=kY aI (by simp[ho,Op.operands]);split at h
 ·rename_i k off he;obtain⟨kQ,hm⟩:=kA hI hx he;refine bc (r:=.pointer (some ⟨θ k,off+d,none⟩)) (wb:=wa) ?_ ?_
  ·simp only[execOp,ho,kQ,run_bind,mE hd];rfl
  ·exact lz aI hI (v:=dK k (off+d)) rfl (λk' o' e=>by simp only[Value.complex.injEq,true_and]at e;rw[<- e.1];exact hm) h
 ·obtain⟨b,off,hv,h⟩:=gk h;have kQ:=bf hI hx hv rfl;refine bc (r:=.pointer (some ⟨b,off+d,none⟩)) (wb:=wa) ?_ (aV aI hI rfl h);simp only[execOp,ho,kQ,run_bind,mE hd];rfl
theorem abY{t:TypeId}{x:Operand}{f:Nat}(ho:o.op=.field t x f)(aI:br C.n o=true)(hI:Inv C a wa st u θ)
  (h:match ev st.σ x with
   | .agg cs=>(match CF E.P t f cs.toList with
     |some v=>bif plain v then K (fin o st v) u else False
     |none=>False)
   |_=>False):sB E C fz o st θ K Q a wa:=by
 have hx:cZ C.n x=true:=kY aI (by simp[ho,Op.operands]);split at h
 ·rename_i cs he;cases hv:CF E.P t f cs.toList with
  |none=>simp only[hv]at h
  |some v=>
   simp only[hv]at h;obtain⟨kZ,h⟩:=aq h;refine bc (r:=v) (wb:=wa) ?_ (aV aI hI kZ h);unfold CF at hv;cases hu:E.P.underlying t with
   |none=>simp[hu]at hv
   |some D=>
    cases D<;>simp only[hu]at hv<;>try (cases hv;done)
    rename_i fs;cases hf:fs[f]? with
    |none=>simp[hf]at hv
    |some y=>
     simp only[hf,cond_eq_ite,and_eq_true,ble_eq]at hv;split at hv
     ·rename_i hc;obtain⟨hi,hle⟩:=hc;obtain⟨d,WR⟩:=isSome_iff_exists.1 hi;simp only[execOp,ho,bf hI hx he rfl,Instr.field,run_bind,aS hu,andThen_ok,hf,asAgg,run_pure];split at hv
      ·rename_i mK;simp only[Option.some.injEq]at hv;rw[gp WR mK,<- hv];simp only[andThen_ok];congr 3;apply toList_inj.1;rw[Array.toList_extract,List.extract_eq_take_drop];simp
      ·rename_i mK;simp only[Bool.not_eq_true]at mK;rw[iA WR mK (v:=v) (by simpa using hv)];rfl
     ·cases hv
 ·exact h.elim
theorem rh{P:Program}{w:World}{k:IntKind}{i:Int}{y:Nat}{code:BoundsCode}(h1:0<=i)(h2:i<=y):(Instr.sliceBound (.int k i) y code).run P w=.ok i.toNat w:=by
 simp only[Instr.sliceBound,asIntOf,run_bind,run_pure,andThen_ok];rw[if_pos ⟨h1,h2⟩];rfl
theorem qc{ρ:Operand->Value}{d i:Int}(h:dt ρ none d=some i):i=d:=by simp only[dt,Option.some.injEq]at h;exact h.symm
theorem mF{ρ:Operand->Value}{x:Operand}{d i:Int}(h:dt ρ (some x) d=some i):∃k,ρ x=.int k i:=by
 simp only[dt]at h;split at h
 ·rename_i k j he;simp only[Option.some.injEq]at h;subst h;exact⟨k,he⟩
 ·cases h
theorem nZ{P:Program}{w:World}{isS:Bool}{len cap:Nat}{lo hi mx:Option Operand}{ρ ρr:Operand->Value}{l h m:Int}(kQ:∀x k i,(lo=some x\/hi=some x\/mx=some x)->ρ x=.int k i->ρr x=.int k i)
  (hl:dt ρ lo 0=some l) (hh:dt ρ hi len=some h) (hm:dt ρ mx cap=some m) (RJ:(mx.isSome&&hi.isNone)=false)
  (h0:0<=l) (h1:l<=h) (h2:h<=m) (h3:m<=cap):(Instr.sliceBounds isS len cap (lo.map ρr) (hi.map ρr) (mx.map ρr)).run P w=.ok (l.toNat,h.toNat,m.toNat) w:=by
 have fin:∀(H M:Nat) (code:BoundsCode),l<=(H:Int)->∀(X:Option Value),X=lo.map ρr->
   (match X with|some v=>(do let l <- Instr.sliceBound v H code;pure (l,H,M):Sem (Nat×Nat×Nat))|none=>(do let l <- pure 0;pure (l,H,M):Sem (Nat×Nat×Nat))).run P w=.ok (l.toNat,H,M) w:=by
  rintro H M code hH X rfl;cases lo with
  |none=>rw[qc hl];simp
  |some x=>
   obtain⟨k,hk⟩:=mF hl;simp only[map_some,kQ x k l (by simp) hk,run_bind,rh h0 hH,andThen_ok,run_pure]
 cases mx with
 |none=>
  obtain rfl:=qc hm;cases hi with
  |none=>
   obtain rfl:=qc hh;simp only[Instr.sliceBounds,Option.map_none,run_bind,run_pure,andThen_ok,Int.toNat_natCast];exact fin len cap _ h1 _ rfl
  |some y=>
   obtain⟨k,hk⟩:=mF hh;simp only[Instr.sliceBounds,Option.map_none,map_some,run_bind,run_pure,andThen_ok,Int.toNat_natCast,kQ y k h (by simp) hk,rh (by omega) h2];exact fin h.toNat cap _ (by omega) _ rfl
 |some z=>
  obtain⟨kz,hkz⟩:=mF hm;cases hi with
  |none=>simp at RJ
  |some y=>
   obtain⟨k,hk⟩:=mF hh
   simp only[Instr.sliceBounds,map_some,run_bind,andThen_ok,kQ z kz m (by simp) hkz,rh (show 0<=m by omega) h3,kQ y k h (by simp) hk,
    rh (show 0<=h by omega) (show h<=((m.toNat:Nat):Int) by omega)]
   exact fin h.toNat m.toNat _ (by omega) _ rfl
theorem Uh{t:TypeId}{x:Operand}{lo hi mx:Option Operand}
  (h:match E.P.underlying t,ev st.σ x with
   |some (.slice e),.slice b len cap=>(match dt (ev st.σ) lo 0,dt (ev st.σ) hi len,dt (ev st.σ) mx cap with
    |some l,some h,some m=>(bif (mx.isSome&&hi.isNone)||(E.P.info? e).isNone then False else(m.toNat=l.toNat\/gZ b)/\0<=l/\l<=h/\h<=m/\m<=cap/\K (fin o st (.slice (yY b l.toNat m.toNat (E.P.cellsOf e)) (h.toNat-l.toNat) (m.toNat-l.toNat))) u)
    |_,_,_=>False)
   |some .string,.string s=>(match mx with
    |some _=>False
    |none=>match dt (ev st.σ) lo 0,dt (ev st.σ) hi s.size with
     |some l,some h=>0<=l/\l<=h/\h<=s.size/\K (fin o st (.string (s.extract l.toNat h.toNat))) u
     |_,_=>False)
   |_,_=>False) (ho:o.op=.slice t x lo hi mx) (aI:br C.n o=true) (hI:Inv C a wa st u θ):sB E C fz o st θ K Q a wa:=by
 have hx:cZ C.n x=true:=kY aI (by simp[ho,Op.operands]);have kQ:∀y k i,(lo=some y\/hi=some y\/mx=some y)->ev st.σ y=.int k i->a.eval y=.int k i:=by
  intro y k i hy he;refine bf hI (kY aI ?_) he rfl;rcases hy with rfl|rfl|rfl<;>simp[ho,Op.operands]
 split at h
 ·rename_i e b len cap hu he;split at h
  ·rename_i l h' m hl hh hm;cases vr:(mx.isSome&&hi.isNone)||(E.P.info? e).isNone with
   |true=>simp only[vr,cond_true]at h
   |false=>
    simp only[vr,cond_false]at h;simp only[Bool.or_eq_false_iff]at vr;obtain⟨RJ,CB⟩:=vr;obtain⟨i,tD⟩:∃i,E.P.info? e=some i:=by cases hq:E.P.info? e<;>simp_all
    obtain⟨hns,h0,h1,h2,h3,hK⟩:=h;refine bc (r:=.slice (yY b l.toNat m.toNat (E.P.cellsOf e)) (h'.toNat-l.toNat) (m.toNat-l.toNat)) (wb:=wa) ?_ (aV aI hI rfl hK);simp only[execOp,ho,bf hI hx he rfl,run_bind,Instr.sliceAt,aS hu,andThen_ok,Instr.slice,nZ kQ hl hh hm RJ h0 h1 h2 h3,cB tD,run_pure];congr 3;unfold yY;split
    ·rfl
    ·rename_i pG;cases b with
     |none=>rfl
     |some b=>
      simp only[map_some,Option.some.injEq];unfold Addr.add;split
      ·rename_i Xs;obtain⟨bb,bo,bs⟩:=b;have:=(hns.resolve_left pG) _ rfl;simp only at this;subst this;simp[Xs]
      ·rfl
  ·exact h.elim
 ·rename_i s hu he;cases mx with
  |some _=>exact h.elim
  |none=>
   simp only at h;split at h
   ·rename_i l h' hl hh;obtain⟨h0,h1,h2,hK⟩:=h;refine bc (r:=.string (s.extract l.toNat h'.toNat)) (wb:=wa) ?_ (aV aI hI rfl hK);have hb:=nZ (P:=E.P) (w:=wa) (isS:=false) (len:=s.size) (cap:=s.size) (mx:=none) (m:=s.size) (λy k i hy=>kQ y k i (by rcases hy with h|h|h;exact .inl h;exact .inr (.inl h);cases h)) hl hh rfl (by simp) h0 h1 h2 (by omega);simp only[execOp,ho,bf hI hx he rfl,run_bind,Instr.sliceAt,aS hu,andThen_ok,Instr.slice];simp only[Option.map_none]at hb;simp only[Option.map_none,Option.isSome_none,false_eq_true,if_false,run_bind,hb,andThen_ok,run_pure]
   ·exact h.elim
 ·exact h.elim
end
section
variable {E:Env} {C:Ctx} {a:Act} {wa:World} {st:St} {u:UW} {θ:Nat->Nat} {fz:List Nat} {o:Oper} {K:St->UW->Prop} {Q:Exit->Act->World->Prop}
theorem vH{P:Program}{t:TypeId}(h:P.cellsOf t≠0):∃i,P.info? t=some i:=by
 cases hi:P.info? t with
 |none=>simp[Program.cellsOf,hi]at h
 |some i=>exact⟨i,rfl⟩
theorem afZ{t:TypeId}{x i:Operand}(ho:o.op=.indexAddr t x i)(aI:br C.n o=true)(hI:Inv C a wa st u θ)
  (h:match E.P.underlying t,ev st.σ x,ev st.σ i with
   |some (.slice e),.slice b len _,.int _ j=>(bif (E.P.info? e).isSome then bp b λb off=>0<=j/\j<len/\K (fin o st (.pointer (some ⟨b,off+j.toNat*E.P.cellsOf e,none⟩))) u else False)
   |some (.array len e),.complex .f64 k off,.int _ j=>(bif decide (0<=j)&&decide (j<len)&&(E.P.info? e).isSome then K (fin o st (dK k (off+j.toNat*E.P.cellsOf e))) u else False)
   |_,_,_=>False):sB E C fz o st θ K Q a wa:=by
 have hx:cZ C.n x=true:=kY aI (by simp[ho,Op.operands]);have hi:cZ C.n i=true:=kY aI (by simp[ho,Op.operands]);split at h
 ·rename_i e b len c k j hu he Ko;obtain⟨fE,h⟩:=aq h;obtain⟨ie,CB⟩:=isSome_iff_exists.1 fE;obtain⟨bb,off,rfl,h1,h2,h⟩:=fV h;refine bc (r:=.pointer (some ⟨bb,off+j.toNat*E.P.cellsOf e,none⟩)) (wb:=wa) ?_ (aV aI hI rfl h);simp only[execOp,ho,bf hI hx he rfl,bf hI hi Ko rfl,Instr.indexAt,asIntOf,run_bind,run_pure,andThen_ok,aS hu];rw[if_pos ⟨h1,h2⟩];simp only[run_bind,cB CB,andThen_ok,run_pure,jS]
 ·rename_i len e k off kk j hu he Ko;obtain⟨hc,h⟩:=aq h;simp only[and_eq_true,decide_eq_true_eq]at hc;obtain⟨⟨h1,h2⟩,fE⟩:=hc;obtain⟨ie,CB⟩:=isSome_iff_exists.1 fE;obtain⟨kQ,hm⟩:=kA hI hx he;refine bc (r:=.pointer (some ⟨θ k,off+j.toNat*E.P.cellsOf e,none⟩)) (wb:=wa) ?_ ?_
  ·simp only[execOp,ho,kQ,bf hI hi Ko rfl,Instr.indexAt,asIntOf,run_bind,run_pure,andThen_ok,aS hu,Instr.sureAddr];rw[if_pos ⟨h1,h2⟩];simp only[run_bind,cB CB,andThen_ok,run_pure,jS]
  ·exact lz aI hI (v:=dK k _) rfl (λk' o' e=>by simp only[Value.complex.injEq,true_and]at e;rw[<- e.1];exact hm) h
 ·exact h.elim
theorem abX{t:TypeId}{x i:Operand}(ho:o.op=.index t x i)(aI:br C.n o=true)(hI:Inv C a wa st u θ)
  (h:match E.P.underlying t,ev st.σ x,ev st.σ i with
   |some .string,.string s,.int _ j=>0<=j/\∃c:UInt8,s[j.toNat]?=some c/\K (fin o st (.int .u8 c.toNat)) u
   |some (.array len e),.agg cs,.int _ j=>0<=j/\j<len/\(E.P.info? e).isSome=true/\∃v,Ox E.P e (j.toNat*E.P.cellsOf e) cs.toList=some v/\plain v=true/\K (fin o st v) u
   |_,_,_=>False):sB E C fz o st θ K Q a wa:=by
 have hx:cZ C.n x=true:=kY aI (by simp[ho,Op.operands]);have hi:cZ C.n i=true:=kY aI (by simp[ho,Op.operands]);split at h
 ·rename_i s k j hu he Ko;obtain⟨h1,c,h2,h⟩:=h;refine bc (r:=.int .u8 c.toNat) (wb:=wa) ?_ (aV aI hI rfl h);simp only[execOp,ho,bf hI hx he rfl,bf hI hi Ko rfl,Instr.index,asIntOf,run_bind,run_pure,andThen_ok,aS hu,if_pos h1,h2]
 ·rename_i len e cs k j hu he Ko;obtain⟨h1,h2,fE,v,hv,kZ,h⟩:=h;obtain⟨ie,CB⟩:=isSome_iff_exists.1 fE;refine bc (r:=v) (wb:=wa) ?_ (aV aI hI kZ h);simp only[execOp,ho,bf hI hx he rfl,bf hI hi Ko rfl,Instr.index,asIntOf,run_bind,run_pure,andThen_ok,aS hu,if_pos (show(0:Int)<=j/\j<len from⟨h1,h2⟩),cB CB];rw[LG hv];rfl
 ·exact h.elim
theorem uY(hI:Inv C a wa st u θ){ps:Array (Nat×Operand)}(h:∀x∈ps.toList,cZ C.n x.2=true)(hp:(ps.toList.all λp=>plain (ev st.σ p.2))=true):
  (ps.map λp=>(p.1,a.eval p.2))=(ps.toList.map λp=>(p.1,ev st.σ p.2)).toArray:=by
 apply toList_inj.1;simp only[toList_map];apply List.map_congr_left;intro p hpm;rw[nJ hI (h p hpm) (List.all_eq_true.1 hp p hpm)]
theorem ab1{t:TypeId}{ps:Array (Nat×Operand)}(ho:o.op=.build t ps)(aI:br C.n o=true)(hI:Inv C a wa st u θ)
  (h:bif ps.toList.all λp=>plain (ev st.σ p.2)then(match Wa E.P t (ps.toList.map λp=>(p.1,ev st.σ p.2))with
   |some vs=>K (fin o st (.agg vs.toArray)) u
   |none=>False)else False):sB E C fz o st θ K Q a wa:=by
 obtain⟨hp,h⟩:=aq h;have hx:∀x∈ps.toList,cZ C.n x.2=true:=λx hx=>kY aI (by simp only[ho,Op.operands];simp only[mem_toArray,mem_map];exact⟨x,hx,rfl⟩);cases hb:Wa E.P t (ps.toList.map λp=>(p.1,ev st.σ p.2))with
 |none=>simp only[hb]at h
 |some vs=>
  simp only[hb]at h;refine bc (r:=.agg vs.toArray) (wb:=wa) ?_ (aV aI hI rfl h);have e:=uY hI hx hp;simp only[execOp,ho,e,run_bind];rw[run_build (r:=vs) (by simpa using hb)];rfl
theorem ab0{t:TypeId}{len:Nat}{ps:Array (Nat×Operand)}(ho:o.op=.buildSlice t len ps)(aI:br C.n o=true)(hI:Inv C a wa st u θ)
  (h:bif (ps.toList.all λp=>plain (ev st.σ p.2))&&beq ps.toList.length len then(match vD E.P t with
   |none=>False
   |some e=>match oG (E.P.cellsOf e) 0 (ps.toList.map λp=>(p.1,ev st.σ p.2))with
    |some vs=>bif ble vs.length 65536&&((E.P.info? e).bind (·.zero)).isSome&& !Nat.beq (E.P.cellsOf e) 0 then
      ∀(b:Nat) (w':World),qV u.toWorld w' b (.cells vs.toArray e (0,0))->K (fin o st (.slice (some ⟨b,0,none⟩) len len)) (u.born b w')else False
    |none=>False)else False):sB E C fz o st θ K Q a wa:=by
 obtain⟨hc,h⟩:=aq h;simp only[and_eq_true,beq_iff]at hc;obtain⟨hp,hlen⟩:=hc;have hx:∀x∈ps.toList,cZ C.n x.2=true:=λx hx=>kY aI (by simp only[ho,Op.operands];simp only[mem_toArray,mem_map];exact⟨x,hx,rfl⟩);unfold vD at h;cases hu:E.P.underlying t with
 |none=>simp only[hu]at h
 |some d=>
  cases d<;>simp only[hu]at h;rename_i e;cases hb:oG (E.P.cellsOf e) 0 (ps.toList.map λp=>(p.1,ev st.σ p.2))with
  |none=>simp only[hb]at h
  |some vs=>
   simp only[hb]at h;obtain⟨hc,h⟩:=aq h;simp only[and_eq_true,ble_eq,not_eq_true']at hc;obtain⟨⟨h1,h2⟩,h3⟩:=hc;obtain⟨z,hz⟩:=isSome_iff_exists.1 h2;have hnz:E.P.cellsOf e≠0:=λe0=>by rw[beq_iff.2 e0]at h3;cases h3
   obtain⟨ie,CB⟩:=vH hnz;have HJ:=BI hb;simp only[length_map,hlen]at HJ;obtain⟨w',jY,dG⟩:=hI.born (.cells vs.toArray e (0,0));refine bc (r:=.slice (some ⟨wa.heap.size,0,none⟩) len len) (wb:=wa.alloc (.cells vs.toArray e (0,0))) ?_ (aV aI dG rfl (h _ _ jY));have e0:=uY hI hx hp;simp only[execOp,ho,e0,run_bind,Instr.buildSlice,aS hu,andThen_ok,cB CB];rw[if_neg (by rw[<- HJ];omega)];have HV:∀cs:Array Value,cs.size=len*E.P.cellsOf e->Instr.fill (λi=>some (i*E.P.cellsOf e,E.P.cellsOf e)) cs (ps.toList.map λp=>(p.1,ev st.σ p.2))=some vs.toArray:=by
    intro cs oB;rw[rr _ 0 vs cs hb (by simp only[length_map,hlen,zero_add];exact oB)];simp
   have hzr:(if len*E.P.cellsOf e=0 then(pure #[]:Sem (Array Value))else do pure (<- zeroValue e).cells).run E.P wa=.ok (if len*E.P.cellsOf e=0 then #[]else z.cells) wa:=by
    split
    ·rfl
    ·simp only[run_bind,jI hz,andThen_ok,run_pure]
   split
   ·rename_i Xc;simp only[run_bind,run_pure,andThen_ok];rw[HV _ (by simp)];simp only[newRow,run_bind,run_newObj,andThen_ok,run_pure];rfl
   ·simp only[run_bind,jI hz,run_pure,andThen_ok];rw[HV _ (by simp)];simp only[newRow,run_bind,run_newObj,andThen_ok,run_pure];rfl
theorem Uj{t:TypeId}{len:Nat}{ps:Array (Nat×Operand)}(ho:o.op=.buildSlice t len ps)(aI:br C.n o=true)(hI:Inv C a wa st u θ)
  (h:bif (ps.toList.all λp=>plain (ev st.σ p.2))&&beq ps.toList.length len then(match vD E.P t with
   |none=>False
   |some e=>match oG (E.P.cellsOf e) 0 (ps.toList.map λp=>(p.1,ev st.σ p.2))with
    |some vs=>bif ble vs.length 65536&&((E.P.info? e).bind (·.zero)).isSome&& !Nat.beq (E.P.cellsOf e) 0 then
      ∀(b:Nat) (w':World),qV u.toWorld w' b (.cells vs.toArray e (0,0))->K (fin o st (.slice (some ⟨b,0,none⟩) len len)) (u.born b w')else False
    |none=>False)else False):∃v ob,(execOp a.eval o).run E.P wa=.ok (.value v) (wa.alloc ob):=by
 obtain⟨hc,h⟩:=aq h;simp only[and_eq_true,beq_iff]at hc;obtain⟨hp,hlen⟩:=hc;have hx:∀x∈ps.toList,cZ C.n x.2=true:=λx hx=>kY aI (by simp only[ho,Op.operands];simp only[mem_toArray,mem_map];exact⟨x,hx,rfl⟩);unfold vD at h;cases hu:E.P.underlying t with
 |none=>simp only[hu]at h
 |some d=>
  cases d<;>simp only[hu]at h;rename_i e;cases hb:oG (E.P.cellsOf e) 0 (ps.toList.map λp=>(p.1,ev st.σ p.2))with
  |none=>simp only[hb]at h
  |some vs=>
   simp only[hb]at h;obtain⟨hc,h⟩:=aq h;simp only[and_eq_true,ble_eq,not_eq_true']at hc;obtain⟨⟨h1,h2⟩,h3⟩:=hc;obtain⟨z,hz⟩:=isSome_iff_exists.1 h2;have hnz:E.P.cellsOf e≠0:=λe0=>by rw[beq_iff.2 e0]at h3;cases h3
   obtain⟨ie,CB⟩:=vH hnz;have HJ:=BI hb;simp only[length_map,hlen]at HJ;refine⟨.slice (some ⟨wa.heap.size,0,none⟩) len len,.cells vs.toArray e (0,0),?_⟩;have e0:=uY hI hx hp;simp only[execOp,ho,e0,run_bind,Instr.buildSlice,aS hu,andThen_ok,cB CB];rw[if_neg (by rw[<- HJ];omega)];have HV:∀cs:Array Value,cs.size=len*E.P.cellsOf e->Instr.fill (λi=>some (i*E.P.cellsOf e,E.P.cellsOf e)) cs (ps.toList.map λp=>(p.1,ev st.σ p.2))=some vs.toArray:=by
    intro cs oB;rw[rr _ 0 vs cs hb (by simp only[length_map,hlen,zero_add];exact oB)];simp
   have hzr:(if len*E.P.cellsOf e=0 then(pure #[]:Sem (Array Value))else do pure (<- zeroValue e).cells).run E.P wa=.ok (if len*E.P.cellsOf e=0 then #[]else z.cells) wa:=by
    split
    ·rfl
    ·simp only[run_bind,jI hz,andThen_ok,run_pure]
   split
   ·rename_i Xc;simp only[run_bind,run_pure,andThen_ok];rw[HV _ (by simp)];simp only[newRow,run_bind,run_newObj,andThen_ok,run_pure];rfl
   ·simp only[run_bind,jI hz,run_pure,andThen_ok];rw[HV _ (by simp)];simp only[newRow,run_bind,run_newObj,andThen_ok,run_pure];rfl
theorem cG{P:Program}{b:Builtin}{args:Array Operand}{ts:Array TypeId}{w:World}{s:Sem Value}{v:Value}{w':World}(ho:o.op=.call ⟨.builtin b,args,ts⟩)
  (hb:∀consts,builtin b ts o.type consts (args.map a.eval)=(do pure (.value (<- s)):Sem Next)) (hs:s.run P w=.ok v w'):
  (execOp a.eval o).run P w=.ok (.value v) w':=by
 simp only[execOp,ho,resolve,run_bind,run_pure,andThen_ok,invoke];rw[hb];simp only[run_bind,hs,andThen_ok,run_pure]
theorem vk(hI:Inv C a wa st u θ):∀{xs:List Operand} {k:IntKind} {is:List Int},(∀x∈xs,cZ C.n x=true)->mU (ev st.σ) xs=some (k,is)->xs.map a.eval=is.map (Value.int k)/\is≠[]
 |[],_,_,_,h=>by simp[mU]at h
 |[x],k,is,aI,h=>by
  simp only[mU]at h
  split at h
  ·rename_i k' i he
   simp only[Option.some.injEq,Prod.mk.injEq]at h
   obtain⟨rfl,rfl⟩:=h
   simp[bf hI (aI x (by simp)) he rfl]
  ·cases h
 |x::y::l,k,is,aI,h=>by
  simp only[mU]at h;split at h
  ·rename_i k1 i k2 js he hr;simp only[cond_eq_ite]at h;split at h
   ·rename_i hk;simp only[decide_eq_true_eq]at hk;simp only[Option.some.injEq,Prod.mk.injEq]at h;obtain⟨rfl,rfl⟩:=h;subst hk;obtain⟨h1,_⟩:=vk hI (xs:=y::l) (λz hz=>aI z (by simp[hz])) hr;refine⟨?_,by simp⟩;rw[map_cons,h1,bf hI (aI x (by simp)) he rfl];rfl
   ·cases h
  ·cases h
theorem ED{P:Program}{w:World}{k:IntKind}:∀(is:List Int) (i:Int),((is.map (Value.int k)).foldlM Builtin.min2 (.int k i)).run P w=.ok (.int k (is.foldl (λx y=>if y<x then y else x) i)) w
 |[],i=>by simp
 |j::is,i=>by simp only[map_cons,List.foldlM_cons,Builtin.min2,run_bind,run_pure,andThen_ok,List.foldl_cons];exact ED is _
theorem EE{P:Program}{w:World}{k:IntKind}:∀(is:List Int) (i:Int),((is.map (Value.int k)).foldlM Builtin.max2 (.int k i)).run P w=.ok (.int k (is.foldl (λx y=>if y>x then y else x) i)) w
 |[],i=>by simp
 |j::is,i=>by simp only[map_cons,List.foldlM_cons,Builtin.max2,run_bind,run_pure,andThen_ok,List.foldl_cons];exact EE is _
theorem Dj{P:Program}{w:World}{size m c:Nat}{xb:Option Addr}{new:List Value}(h0:m=0->new=[])(h1:m≠0->∃b off C T f,xb=some ⟨b,off,none⟩/\w.heap[b]?=some (.cells C T f)/\off+m*size<=C.size/\new=(C.toList.drop off).take (m*size)):
  (Builtin.firstCells size m (.slice xb m c)).run P w=.ok new.toArray w:=by
 by_cases hm:m=0
 ·subst hm;rw[h0 rfl];cases xb<;>simp[Builtin.firstCells,loadCells,loadCellsFrom]
 ·obtain⟨b,off,C,T,f,rfl,hb,hl,rfl⟩:=h1 hm;simp only[Builtin.firstCells];exact sj hb hl
theorem ab3{x y:Operand}{t t' e e':TypeId}{base xb:Option Addr}{n cap m c':Nat}(ho:o.op=.call ⟨.builtin .append,#[x,y],#[t,t']⟩)(aI:br C.n o=true)(hI:Inv C a wa st u θ)
  (hu:E.P.underlying t=some (.slice e)) (gd:E.P.underlying t'=some (.slice e')) (hx:ev st.σ x=.slice base n cap) (hy:ev st.σ y=.slice xb m c')
  (h:OK E.P e base n cap xb m u λp q r w'=>K (fin o st (.slice p q r)) w'):sB E C fz o st θ K Q a wa:=by
 have kx:cZ C.n x=true:=kY aI (by simp[ho,Op.operands,Call.operands]);have ky:cZ C.n y=true:=kY aI (by simp[ho,Op.operands,Call.operands]);have hex:=bf hI kx hx rfl;have Xi:=bf hI ky hy rfl;obtain⟨size,bytes,zero,Ct,new,HS,Pk,hn1,ho0,ho1,al3,Vr,pJ,DH,Kh,vo,adh⟩:=h;cases hi:E.P.info? e with
 |none=>simp[hi]at HS
 |some i=>
  simp only[hi,map_some,Option.some.injEq,Prod.mk.injEq]at HS;obtain⟨rfl,rfl,hz⟩:=HS;cases hzz:i.zero with
  |none=>simp[hzz]at hz
  |some z=>
   simp only[hzz,map_some,Option.some.injEq]at hz;subst hz;have hzr:(E.P.info? e).bind (·.zero)=some z:=by simp[hi,hzz]
   have rdw:∀{A:Option Addr} {k:Nat} {vs:List Value},(k*i.size≠0)->(bp A λb o=>rd u.heap b o (k*i.size)=some vs)->∃b off C T f,A=some ⟨b,off,none⟩/\wa.heap[b]?=some (.cells C T f)/\off+k*i.size<=C.size/\vs=(C.toList.drop off).take (k*i.size):=by
    intro A k vs hk hw;obtain⟨b,off,rfl,dS⟩:=fV hw;obtain⟨C,T,f,c1,c2,c3⟩:=uT hI.below dS hk;exact⟨b,off,C,T,f,rfl,c1,c2,c3⟩
   have rd0:∀{A:Option Addr} {k:Nat} {vs:List Value},(k*i.size=0)->(bp A λb o=>rd u.heap b o (k*i.size)=some vs)->vs=[]:=by
    intro A k vs hk hw;obtain⟨b,off,rfl,dS⟩:=fV hw;rw[hk]at dS;obtain⟨_,_,_,h|h⟩:=Qf hI.below dS
    ·exact List.eq_nil_of_length_eq_zero h.2
    ·exact h.2
   have first:∀{A:Option Addr} {k c:Nat} {vs:List Value} (w:World),w.heap=wa.heap->(k=0->vs=[])->(k≠0->bp A λb o=>rd u.heap b o (k*i.size)=some vs)->(Builtin.firstCells i.size k (.slice A k c)).run E.P w=.ok vs.toArray w:=by
    intro A k c vs w hw h0 h1;by_cases hk:k=0
    ·exact Dj h0 (λh=>absurd hk h)
    ·by_cases qt:k*i.size=0
     ·have Fg:=rd0 qt (h1 hk);subst Fg;obtain⟨b,off,rfl,_⟩:=fV (h1 hk);simp[Builtin.firstCells,loadCells,qt,loadCellsFrom]
     ·exact Dj h0 (λ_=>by rw[hw];exact rdw qt (h1 hk))
   by_cases hr:n+m<=cap
   ·rcases vo hr with⟨hm,hK⟩|⟨hm,fC⟩
    ·subst hm;refine bc (r:=.slice base n cap) (wb:=wa) ?_ (aV aI hI rfl hK);refine cG (s:=Builtin.append_ #[t,t'] o.type #[.slice base n cap,.slice xb 0 c']) ho (λ_=>by simp only[builtin,map_toArray,map_cons,map_nil,hex,Xi]) ?_;have hf:=first (A:=xb) (k:=0) (c:=c') wa rfl Pk (λh=>absurd rfl h)
     have hnn:new=[]:=Pk rfl;subst hnn;simp only[Nat.add_zero]at hr;simp[Builtin.append_,aS hu,aS gd,sizeOf,typeInfo,hi,Builtin.lenOf,hr,hf,storeCells];cases base<;>simp
    ·obtain⟨b,off,rfl,fC⟩:=fV fC;have hf:=first (A:=xb) (k:=m) (c:=c') wa rfl Pk hn1
     by_cases aQ:new=[]
     ·subst aQ;obtain⟨cc,T,q1,q2,q3,q4⟩:=fC;have hS:Sto u.toWorld u.toWorld b (.cells cc T (0,0)):=⟨rfl,rfl,rfl,Nat.le_refl _,q1,λ_ _ _=>rfl⟩;refine bc (r:=.slice (some ⟨b,off,none⟩) (n+m) cap) (wb:=wa) ?_ (aV aI (u':=u.IZ u.toWorld) (θ:=θ) hI rfl (q4 _ hS));refine cG (s:=Builtin.append_ #[t,t'] o.type #[.slice (some ⟨b,off,none⟩) n cap,.slice xb m c']) ho (λ_=>by simp only[builtin,map_toArray,map_cons,map_nil,hex,Xi]) ?_;simp[Builtin.append_,aS hu,aS gd,sizeOf,typeInfo,hi,Builtin.lenOf,hr,hf,storeCells]
     ·obtain⟨cc,T,w',c1,c2,dG,hK⟩:=Dp hI fC aQ;refine bc (r:=.slice (some ⟨b,off,none⟩) (n+m) cap) (wb:=iN wa b (.cells (uy cc (off+n*i.size) new) T (0,0))) ?_ (aV aI dG rfl hK);refine cG (s:=Builtin.append_ #[t,t'] o.type #[.slice (some ⟨b,off,none⟩) n cap,.slice xb m c']) ho (λ_=>by simp only[builtin,map_toArray,map_cons,map_nil,hex,Xi]) ?_;have hsr:=lp (P:=E.P) (b:=b) (o:=off+n*i.size) (T:=T) new 0 wa cc c1 (by omega) Kh;simp only[Nat.add_zero]at hsr;simp[Builtin.append_,aS hu,aS gd,sizeOf,typeInfo,hi,Builtin.lenOf,hr,hf,jS,hsr]
   ·have bI:cap<n+m:=by omega
    have k_:=hI.drew;have wH:n+m<=grownCap wa (n+m) cap e:=grownCap_ge wa (n+m) cap e;obtain⟨w',hb,dG⟩:=k_.born (.cells (Ct++new++(Builtin.zeroCells z.cells (grownCap wa (n+m) cap e-(n+m))).toList).toArray e (0,0));have hK:=adh bI (grownCap wa (n+m) cap e) wa.heap.size (Builtin.zeroCells z.cells (grownCap wa (n+m) cap e-(n+m))).toList w' wH (by simp only[Array.length_toList,size_zeroCells];rw[<- DH];simp) hb;refine bc (r:=.slice (some ⟨wa.heap.size,0,none⟩) (n+m) (grownCap wa (n+m) cap e)) ?_ (aV aI dG rfl hK);refine cG (s:=Builtin.append_ #[t,t'] o.type #[.slice base n cap,.slice xb m c']) ho (λ_=>by simp only[builtin,map_toArray,map_cons,map_nil,hex,Xi]) ?_;have tE:=growslice_fits bI Vr;have ahW:¬(9223372036854775807<((n:Int)+(m:Int))):=by omega
    have ahX:¬(281474976710656<Builtin.nextslicecap (n+m) cap*i.bytes):=by omega
    have hf:=first (A:=xb) (k:=m) (c:=c') wa.drew rfl Pk hn1
    have hfo:=first (A:=base) (k:=n) (c:=cap) wa.drew rfl ho0 ho1
    simp[Builtin.append_,aS hu,aS gd,sizeOf,typeInfo,zeroValue,hi,hzz,Builtin.lenOf,hr,ahW,ahX,Question.forced,hf,hfo,newRow,grownCap];congr 2;apply ext';simp
end
section
variable {E:Env} {C:Ctx} {fz:List Nat} {o:Oper} {st:St} {u:UW} {θ:Nat->Nat} {K:St->UW->Prop} {Q:Exit->Act->World->Prop} {a:Act} {wa:World}
theorem abU{t:TypeId}{x:Operand}(ho:o.op=.makeInterface t x)(aI:br C.n o=true)(hI:Inv C a wa st u θ)
  (h:bif plain (ev st.σ x)then(match pv E.P (Instr.makeInterface t (ev st.σ x))with
   |some v=>bif plain v then K (fin o st v) u else False
   |none=>False)else False):sB E C fz o st θ K Q a wa:=by
 have hx:cZ C.n x=true:=kY aI (by simp[ho,Op.operands]);obtain⟨hp,h⟩:=aq h;cases hv:pv E.P (Instr.makeInterface t (ev st.σ x))with
 |none=>simp only[hv]at h
 |some v=>
  simp only[hv]at h;obtain⟨kZ,h⟩:=aq h;refine bc (r:=v) (wb:=wa) ?_ (aV aI hI kZ h);simp only[execOp,ho,nJ hI hx hp,run_bind,wZ hv wa];rfl
theorem Nt(k:IntKind)(i:Int)(P:Program)(w:World):(asInt (.int k i)).run P w=.ok i w:=by simp[asInt,asIntOf]
theorem Ps(z:Array Value)(j:Nat):(Array.range (j*z.size)).map (λi=>z[i % z.size]!)=(replicate j z.toList).flatten.toArray:=by
 apply toList_inj.1;simp only[toList_map,Array.toList_range];induction j with
 |zero=>simp
 |succ j ih=>
  rw[Nat.succ_mul,List.range_add,List.map_append,ih,List.replicate_succ',List.flatten_append];congr 1;simp only[List.map_map,List.flatten_cons,List.flatten_nil,List.append_nil];refine List.ext_getElem (by simp) λi h1 h2=>?_;simp only[length_map,List.length_range]at h1;simp[Nat.mul_add_mod_self_right,Nat.mod_eq_of_lt h1,h1]
theorem abT{t:TypeId}{x y:Operand}(ho:o.op=.makeSlice t x y)(aI:br C.n o=true)(hI:Inv C a wa st u θ)
  (h:match E.P.underlying t,ev st.σ x,ev st.σ y with
  |some (.slice e),.int _ i,.int _ j=>(match(E.P.info? e).map (λi=>(i.size,i.bytes,i.zero.map λz=>z.cells.toList))with
   |some (size,bytes,some zero)=>bif beq zero.length size&& !Nat.beq size 0 then
     0<=i/\i<=j/\j<4611686018427387904/\j.toNat*bytes<=140737488355328/\
     ∀(b:Nat) (w':World),qV u.toWorld w' b (.cells (replicate j.toNat zero).flatten.toArray e (0,0))->K (fin o st (.slice (some ⟨b,0,none⟩) i.toNat j.toNat)) (u.born b w')else False
   |_=>False)
  |_,_,_=>False):sB E C fz o st θ K Q a wa:=by
 have hx:cZ C.n x=true:=kY aI (by simp[ho,Op.operands]);have hy:cZ C.n y=true:=kY aI (by simp[ho,Op.operands]);split at h
 ·rename_i e k i k' j hu ex ey;cases hi:E.P.info? e with
  |none=>simp[hi]at h
  |some inf=>
   simp only[hi,map_some]at h;cases hz:inf.zero with
   |none=>simp[hz]at h
   |some z=>
    simp only[hz,map_some]at h;obtain⟨hc,h1,h2,h3,h4,h⟩:=aq h;simp only[and_eq_true,beq_iff,not_eq_true']at hc;obtain⟨fw,hnz⟩:=hc;have hzs:z.cells.size=inf.size:=by simpa using fw
    have Pk:inf.size≠0:=λe0=>by rw[beq_iff.2 e0]at hnz;cases hnz
    obtain⟨w',jY,dG⟩:=hI.born (.cells (replicate j.toNat z.cells.toList).flatten.toArray e (0,0));refine bc (r:=.slice (some ⟨wa.heap.size,0,none⟩) i.toNat j.toNat) (wb:=wa.alloc (.cells (replicate j.toNat z.cells.toList).flatten.toArray e (0,0))) ?_ (aV aI dG rfl (h _ _ jY));have wi:IntKind.i64.wrap i=i:=IntWalk.i64_in i (by omega);have wj:IntKind.i64.wrap j=j:=IntWalk.i64_in j (by omega);have ag0:¬((inf.bytes:Int)*j>2 ^ 48):=by
     have:((j.toNat*inf.bytes:Nat):Int)<=140737488355328:=Int.ofNat_le.2 h4;have e1:((j.toNat:Nat):Int)=j:=Int.toNat_of_nonneg (by omega);rw[Int.natCast_mul,e1,Int.mul_comm]at this;omega
    have DN:E.P.cellsOf e=inf.size:=by simp[Program.cellsOf,hi]
    have hzr:=Ps z.cells j.toNat;rw[hzs]at hzr;have ady:((decide (j<0)||decide ((inf.bytes:Int)*j>2 ^ 48))||decide (i<0)||decide (i>j))=false:=by
     simp only[decide_eq_false (show ¬j<0 by omega),decide_eq_false ag0,decide_eq_false (show ¬i<0 by omega),decide_eq_false (show ¬i>j by omega),Bool.or_false]
    have hzz:(E.P.info? e).bind (·.zero)=some z:=by simp[hi,hz]
    simp only[execOp,ho,bf hI hx ex rfl,bf hI hy ey rfl,run_bind,Instr.makeSlice,aS hu,andThen_ok,Nt,Aq hi,wi,wj];rw[if_neg (by rw[ady];simp)];by_cases hn:j.toNat*inf.size=0
    ·have hj:j.toNat=0:=(Nat.mul_eq_zero.1 hn).resolve_right Pk;simp[cB hi,DN,hj,newRow];congr 2;apply ext';simp
    ·simp[cB hi,DN,hn,jI hzz,newRow,hzr,hzs]
 ·exact h.elim
end
section
variable {E:Env} {C:Ctx} {a:Act} {wa:World} {st:St} {u:UW} {θ:Nat->Nat} {fz:List Nat} {o:Oper} {K:St->UW->Prop} {Q:Exit->Act->World->Prop}
theorem nY{P:Program}{g:FuncId}{args:Array Value}{w:World}(h:dv P g=true):(callFunc g args).run P w=.ok (.enter g args) w:=by
 unfold dv at h;cases hf:P.funcs[g]? with
 |none=>simp[hf]at h
 |some fn=>
  simp only[hf,and_eq_true,not_eq_true']at h;obtain⟨h1,h2⟩:=h;cases hb:fn.body with
  |none=>simp[hb]at h2
  |some c=>
   simp only[callFunc,run_bind,run_program,andThen_ok,hf,h1,hb,false_eq_true,if_false,Option.isNone_some,run_pure]
theorem By{P:Program}{t:TypeId}{F:Value->Prop}(h:exV P t F):∃v,plain v=true/\F v:=by
 unfold exV at h;cases hk:kinds P t with
 |none=>simp only[hk]at h
 |some ks=>
  simp only[hk]at h;obtain⟨vs,hl,hp,h⟩:=qC h;obtain⟨_,_,h2⟩:=lJ hk;exact⟨_,nv hp (h2.imp id λh=>by omega),h⟩
theorem DT{P:Program}:∀{ts:List TypeId} {F:List Value->Prop},KB P ts F->∃vs,F vs
 |[],_,h=>⟨[],h⟩
 |t::ts,F,h=>by
  obtain⟨v,_,h⟩:=By h
  obtain⟨vs,h⟩:=DT h;exact⟨_,h⟩
theorem Io{P:Program}{t:TypeId}{F:Value->Prop}(h:Pr P t F):∃v,plain v=true/\F v:=by
 unfold Pr at h;split at h
 ·obtain⟨vs,h⟩:=DT h;exact⟨_,rfl,h⟩
 ·exact By h
theorem Inv.ret{F:Nat->Prop}{w' wr:World}(hI:Inv C a wa st u θ)(hF:∀b,F b->u.fW b)(eZ:Out F u.toWorld wa w' wr):Inv C a wr st (u.ret wa.heap.size w') θ:=by
 refine hI.world hF eZ.mod eZ.Cq eZ.umod eZ.Bn ?_ ?_
 ·intro b hb;rcases hb with hb|⟨_,hb⟩
  ·exact Nat.lt_of_lt_of_le (hI.pb b hb) eZ.mod.size
  ·exact Nat.lt_of_lt_of_le hb eZ.Cq.size
 ·intro b hb bI;rcases hb with hb|⟨hb,_⟩
  ·exact hb
  ·omega
theorem jx{P:Program}{f:Value}{args:List Value}{u:UW}{K:Value->UW->Prop}:
  oZ P f args u K↔∃F:Nat->Prop,(∀b,F b->u.fW b)/\Lb P f args u.toWorld F λv lo w'=>K v (u.ret lo w'):=by
 unfold oZ;split
 ·rename_i g first captured
  constructor
  ·intro h;obtain⟨hc,F,hF,h⟩:=aq h;exact⟨F,hF,λw1 hs=>⟨hc,h w1 hs⟩⟩
  ·rintro⟨F,hF,h⟩;have hc:dv P g=true:=(h u.toWorld (xT.refl _)).1;rw[hc];exact⟨F,hF,λw1 hs=>(h w1 hs).2⟩
 ·exact Iff.rfl
theorem Ye{f:Operand}{args:Array Operand}{ts:Array TypeId}(ho:o.op=.call ⟨.value f,args,ts⟩)(aI:br C.n o=true)(hI:Inv C a wa st u θ)
  (h:bif args.toList.all (λx=>plain (ev st.σ x))then
    oZ E.P (ev st.σ f) (args.toList.map (ev st.σ)) u λv w'=>Pr E.P o.type λv'=>v=v'/\K (fin o st v') w' else False):sB E C fz o st θ K Q a wa:=by
 obtain⟨hp,h⟩:=aq h;have kf:cZ C.n f=true:=kY aI (by simp[ho,Op.operands,Call.operands]);have ka:∀x∈args.toList,cZ C.n x=true:=λx hx=>kY aI (by simp[ho,Op.operands,Call.operands];right;simpa using hx);obtain⟨F,hF,h⟩:=jx.1 h;have h:=h wa hI.below;have hea:=rv hI ka hp;have done:∀(e:Ending) (wr:World),(∃v w',e=.returned v/\Out F u.toWorld wa w' wr/\Pr E.P o.type λv'=>v=v'/\K (fin o st v') (u.ret wa.heap.size w'))->
   match e with
   | .returned v=>MY C fz o st θ (gY E.eX o) K (a.put o.dst v) wr
   | .panicked chain=>Q (.panic chain) a wr
   | .outgrown=>LetsOut Q:=by
  rintro e wr ⟨v,w',rfl,eZ,hK⟩;obtain⟨v',kZ,rfl,hK⟩:=Io hK;exact aV aI (hI.ret hF eZ) kZ hK
 unfold xS at h;split at h
 ·rename_i g first captured hf
  obtain⟨hc,h⟩:=h;have Zn:=bf hI kf hf rfl;have iP:(execOp a.eval o).run E.P wa=.ok (.enter g (first.toList++args.toList.map (ev st.σ)++captured.toList).toArray) wa:=by
   simp only[execOp,ho,resolve,Zn,hea,Deferred.ofValue,run_bind,run_pure,andThen_ok,invoke];rw[nY hc];congr 2;apply toList_inj.1;simp
  unfold sB;rw[iP];refine⟨λh=>(by cases h),callsIn_wide.2 (h.mono λe wr HL=>?_)⟩;have:=done e wr HL;cases e<;>exact this
 ·rename_i l first captured hf
  obtain⟨rfl,rfl,r,hr,hlen,h⟩:=h;have Zn:=bf hI kf hf rfl;have iP:(execOp a.eval o).run E.P wa=.ok (.round l r.fn ((r.params.zip (args.toList.map (ev st.σ)).toArray).foldl (λt (p,v)=>t.setIfInBounds p v) r.tmps) r.assign r.body) wa:=by
   simp only[execOp,ho,resolve,Zn,hea,Deferred.ofValue,run_bind,run_pure,andThen_ok,invoke];rw[show(#[]++(args.toList.map (ev st.σ)).toArray)=(args.toList.map (ev st.σ)).toArray by simp];exact run_yield hr (by simpa using hlen)
  unfold sB;rw[iP];refine⟨λh=>(by cases h),h.mono λe wr HL=>?_⟩;have:=done e wr HL;cases e<;>exact this
 ·exact h.elim
theorem abW{x:Operand}{name:String}{args:Array Operand}{ts:Array TypeId}(ho:o.op=.call ⟨.invoke x name,args,ts⟩)(aI:br C.n o=true)(hI:Inv C a wa st u θ)
  (h:bif args.toList.all (λx=>plain (ev st.σ x))then(match ev st.σ x with
    | .iface t r=>(match pv E.P (method (E.P.types.size+Made.depth) t r name)with
      |some (g,r')=>bif dv E.P g then nR E.P g (r'::args.toList.map (ev st.σ)).toArray u λv w'=>Pr E.P o.type λv'=>v=v'/\K (fin o st v') w' else False
      |none=>False)
    |_=>False)else False):sB E C fz o st θ K Q a wa:=by
 obtain⟨hp,h⟩:=aq h;have kx:cZ C.n x=true:=kY aI (by simp[ho,Op.operands,Call.operands]);have ka:∀x∈args.toList,cZ C.n x=true:=λx hx=>kY aI (by simp[ho,Op.operands,Call.operands];right;simpa using hx);split at h
 ·rename_i t r hf;cases hm:pv E.P (method (E.P.types.size+Made.depth) t r name)with
  |none=>simp only[hm]at h
  |some gr=>
   obtain⟨g,r'⟩:=gr;simp only[hm]at h;obtain⟨hc,F,hF,h⟩:=aq h;have Zn:=bf hI kx hf rfl;have hea:=rv hI ka hp;have iP:(execOp a.eval o).run E.P wa=.ok (.enter g (r'::args.toList.map (ev st.σ)).toArray) wa:=by
    simp only[execOp,ho,resolve,Zn,hea,run_bind,run_pure,andThen_ok,invoke];simp[callMethod,wZ hm wa,nY hc];exact List.take_of_length_le (by simp)
   unfold sB;rw[iP];refine⟨λh=>(by cases h),callsIn_wide.2 ((h wa hI.below).mono λe wr HL=>?_)⟩;obtain⟨v,w',rfl,eZ,hK⟩:=HL;obtain⟨v',kZ,rfl,hK⟩:=Io hK;exact aV aI (hI.ret hF eZ) kZ hK
 ·exact h.elim
theorem af1{b:Builtin}{args:Array Operand}{ts:Array TypeId}(ho:o.op=.call ⟨.builtin b,args,ts⟩)(aI:br C.n o=true)(hI:Inv C a wa st u θ)
  (h:W1b E o st u b args.toList ts.toList K):sB E C fz o st θ K Q a wa:=by
 have ka:∀x∈args.toList,cZ C.n x=true:=λx hx=>kY aI (by simp[ho,Op.operands,Call.operands];simpa using hx);obtain⟨args⟩:=args;obtain⟨ts⟩:=ts;simp only at h ka;unfold W1b at h;split at h
 ·rename_i x t;have kx:=ka x (by simp);split at h
  ·rename_i n c hu he;refine bc (r:=.int .i64 n) (wb:=wa) ?_ (aV aI hI rfl h);refine cG (s:=Builtin.len_ #[t] o.type #[a.eval x]) ho (λ_=>by simp[builtin]) ?_;simp[Builtin.len_,aS hu,bf hI kx he rfl,goInt]
  ·rename_i s hu he;refine bc (r:=.int .i64 s.size) (wb:=wa) ?_ (aV aI hI rfl h);refine cG (s:=Builtin.len_ #[t] o.type #[a.eval x]) ho (λ_=>by simp[builtin]) ?_;simp[Builtin.len_,aS hu,bf hI kx he rfl,goInt]
  ·rename_i n e hu;obtain⟨_,h⟩:=aq h;refine bc (r:=.int .i64 n) (wb:=wa) ?_ (aV aI hI rfl h);refine cG (s:=Builtin.len_ #[t] o.type #[a.eval x]) ho (λ_=>by simp[builtin]) ?_;simp[Builtin.len_,aS hu,goInt]
  ·exact h.elim
 ·rename_i x y t t';split at h
  ·rename_i e e' base n cap xb m c hu gd hx hy;exact ab3 ho aI hI hu gd hx hy h
  ·exact h.elim
 ·split at h
  ·rename_i k i is hi;refine bc (r:=.int k (is.foldl (λx y=>if y<x then y else x) i)) (wb:=wa) ?_ (aV aI hI rfl h);obtain⟨he,_⟩:=vk hI ka hi;refine cG (s:=(is.map (Value.int k)).foldlM Builtin.min2 (.int k i)) ho (λ_=>?_) (ED is i);simp only[builtin,Builtin.min_,map_toArray,he,map_cons]
  ·exact h.elim
 ·split at h
  ·rename_i k i is hi;refine bc (r:=.int k (is.foldl (λx y=>if y>x then y else x) i)) (wb:=wa) ?_ (aV aI hI rfl h);obtain⟨he,_⟩:=vk hI ka hi;refine cG (s:=(is.map (Value.int k)).foldlM Builtin.max2 (.int k i)) ho (λ_=>?_) (EE is i);simp only[builtin,Builtin.max_,map_toArray,he,map_cons]
  ·exact h.elim
 ·exact h.elim
theorem jU(aI:br C.n o=true)(hI:Inv C a wa st u θ)(h:W1 E fz o st u K):sB E C fz o st θ K Q a wa:=by
 cases ho:o.op with
 |move x=>simp only[W1,ho]at h;exact Qb (.inl ho) aI hI h
 |assign x=>simp only[W1,ho]at h;exact Qb (.inr ho) aI hI h
 |pick c x y=>
  simp only[W1,ho]at h;split at h
  ·rename_i t hc;exact Yb ho aI hI hc h
  ·exact h.elim
 |alloc t=>
  simp only[W1,ho]at h;cases hz:(E.P.info? t).bind (·.zero)with
  |none=>simp only[hz]at h
  |some z=>
   simp only[hz]at h;have iP:(execOp a.eval o).run E.P wa=.ok (.value (.pointer (some ⟨wa.heap.size,0,none⟩))) (wa.alloc (.cells z.cells t (0,0))):=by
    simp only[execOp,ho,run_bind,Dk hz];rfl
   cases hd:o.dst with
   |none=>simp only[hd]at h
   |some k=>
    simp only[hd]at h;cases hm:cM E.eX k with
    |true=>simp only[hm,cond_true]at h;exact He (by simp[gY,ho,hd,hm]) aI hI hd iP h
    |false=>simp only[hm,cond_false]at h;exact Hd aI hI iP h
 |box t x=>
  simp only[W1,ho]at h;obtain⟨hp,h⟩:=aq h;have kx:cZ C.n x=true:=kY aI (by simp[ho,Op.operands]);have iP:(execOp a.eval o).run E.P wa=.ok (.value (.pointer (some ⟨wa.heap.size,0,none⟩))) (wa.alloc (.cells (ev st.σ x).cells t (0,0))):=by
   simp only[execOp,ho,run_bind,LH,nJ hI kx hp];rfl
  cases hd:o.dst with
  |none=>simp only[hd]at h
  |some k=>
   simp only[hd]at h;cases hm:cM E.eX k with
   |true=>simp only[hm,cond_true]at h;exact He (by simp[gY,ho,hd,hm]) aI hI hd iP h
   |false=>simp only[hm,cond_false]at h;exact Hd aI hI iP h
 |build t ps=>simp only[W1,ho]at h;exact ab1 ho aI hI h
 |buildSlice t len ps=>simp only[W1,ho]at h;exact ab0 ho aI hI h
 |load t x=>
  simp only[W1,ho]at h;cases hk:kinds E.P t with
  |none=>simp only[hk]at h
  |some ks=>simp only[hk]at h;exact Yc ho aI hI hk h
 |store t x y=>simp only[W1,ho]at h;exact Ug ho aI hI h
 |nilCheck x=>simp only[W1,ho]at h;exact abS ho aI hI h
 |binOp op t x y t'=>simp only[W1,ho]at h;exact ab2 ho aI hI h
 |unOp op t x=>simp only[W1,ho]at h;exact afY h ho aI hI
 |convert s d x=>simp only[W1,ho]at h;exact Yd ho aI hI h
 |makeInterface t x=>simp only[W1,ho]at h;exact abU ho aI hI h
 |makeSlice t x y=>simp only[W1,ho]at h;exact abT ho aI hI h
 |makeFunc fn p q=>simp only[W1,ho]at h;exact abV ho aI hI h
 |slice t x lo hi mx=>simp only[W1,ho]at h;exact Uh h ho aI hI
 |fieldAddr t x f=>
  simp only[W1,ho]at h;cases hd:CH E.P t f with
  |none=>simp only[hd]at h
  |some d=>simp only[hd]at h;exact af0 ho aI hI hd h
 |field t x f=>simp only[W1,ho]at h;exact abY ho aI hI h
 |indexAddr t x i=>simp only[W1,ho]at h;exact afZ ho aI hI h
 |index t x i=>simp only[W1,ho]at h;exact abX ho aI hI h
 |extract x i=>simp only[W1,ho]at h;exact abZ ho aI hI h
 |call c=>
  simp only[W1,ho]at h;obtain⟨callee,args,ts⟩:=c;cases callee with
  |builtin b=>simp only at h;exact af1 ho aI hI h
  |value f=>simp only at h;exact Ye ho aI hI h
  |invoke r m=>simp only at h;exact abW ho aI hI h
 |_=>simp only[W1,ho]at h
end
structure Mx(n:Nat)(fz ws:List Nat)(af7:Nat->Prop)(st eN s:St):Prop where
 slot:∀i,i<n->s.σ i=aY\/s.σ i=eN.σ i
 dD:∀k m,(k,m)∈s.D->(k,m)∈eN.D/\(¬af7 k->∀j,j<m->s.σ (gx k j)=aY\/s.σ (gx k j)=eN.σ (gx k j))
 fk:∀i,i<n->∀k o,s.σ i=dK k o->∃m,(k,m)∈s.D
 cw:∀i,i<n->i∉ws->s.σ i=st.σ i
 aaG:∀x,x∈st.D->x∈s.D
 frz:∀k,k∈fz->∀m,(k,m)∈st.D->∀j,j<m->s.σ (gx k j)=st.σ (gx k j)
def qI(l:Live)(k:Nat):Prop:=∃ks,(k,Kd.box ks)∈l
theorem sZ(σ:Fr)(ws:List Nat)(k j:Nat):uX σ ws (gx k j)=σ (gx k j):=by
 have:blt (gx k j) 65536=false:=by
  cases h:blt (gx k j) 65536 with
  |false=>rfl
  |true=>have:=iH.1 h;have:=jc k j;omega
 simp only[uX,this,Bool.false_and,cond_false]
open Classical in
theorem NA(σ:Fr)(ws:List Nat)(i:Nat)(hi:i<65536):uX σ ws i=if i∈ws then aY else σ i:=by
 have e1:blt i 65536=true:=iH.2 hi;by_cases hw:i∈ws
 ·simp only[uX,e1,dR.2 hw,Bool.and_true,cond_true,if_pos hw]
 ·have:cM ws i=false:=by cases hm:cM ws i with|false=>rfl|true=>exact absurd (dR.1 hm) hw
  simp only[uX,this,Bool.and_false,cond_false,if_neg hw]
open Classical in
theorem yv:∀(l:List (Nat×Nat)) (σ:Fr) (i:Nat),i<65536->eW σ l i=if(∃m,(i,m)∈l)then dK i 0 else σ i
 |[],σ,i,_=>by simp[eW]
 |(k,m)::l,σ,i,hi=>by
  simp only[eW]
  rw[yv l _ i hi]
  by_cases h:∃m,(i,m)∈l
  ·rw[if_pos h,if_pos (by obtain⟨m',h⟩:=h;exact⟨m',by simp[h]⟩)]
  ·rw[if_neg h,gI _ _ _ hi]
   by_cases e:i=k
   ·subst e;rw[eT,if_pos ⟨m,by simp⟩]
   ·rw[cj _ _ e,if_neg]
    rintro⟨m',hm⟩
    simp only[mem_cons,Prod.mk.injEq]at hm
    rcases hm with⟨e',_⟩|hm
    ·exact e e'
    ·exact h ⟨m',hm⟩
theorem nX:∀(l:List (Nat×Nat)) (σ:Fr) (k j:Nat),j<65536->k<65536->(∀x∈l,x.1<65536/\x.2<=65536)->
  (eW σ l (gx k j)=aY/\∃m,(k,m)∈l)\/eW σ l (gx k j)=σ (gx k j)
 |[],σ,k,j,_,_,_=>.inr rfl
 |(k',m)::l,σ,k,j,hj,hk,hl=>by
  simp only[eW]
  have hb:=hl (k',m) (by simp)
  rcases nX l (qX (iM σ k' (dK k' 0)) k' 0 (replicate m aY)) k j hj hk (λx hx=>hl x (by simp[hx]))with⟨h,m',sr⟩|h
  ·exact .inl ⟨h,m',by simp[sr]⟩
  ·rw[h];by_cases e:k=k'
   ·subst e;by_cases Ch:j<m
    ·have:=sG (σ:=iM σ k (dK k 0)) (k:=k) (replicate m aY) 0 j (by simpa using Ch) (by simpa using hb.2);rw[zero_add]at this;rw[this];refine .inl ⟨?_,m,by simp⟩;simp[List.getD_eq_getElem?_getD,Ch]
    ·right;rw[dy,cj]
     ·have:=jc k j;omega
     ·intro i _ hi e;have:=(iF hj (by simp at hi;omega) e).2;simp at hi;omega
   ·right;rw[dy,cj]
    ·have:=jc k j;omega
    ·intro i _ hi e';exact e (iF hj (by simp at hi;omega) e').1
theorem oR:∀(l:List (Nat×Nat)) (σ:Fr) (k m j:Nat),(k,m)∈l->j<m->(∀x∈l,x.1<65536/\x.2<=65536)->eW σ l (gx k j)=aY
 |[],_,_,_,_,h,_,_=>by simp at h
 |(k',m')::l,σ,k,m,j,h,hj,hl=>by
  simp only[eW]
  by_cases fE:∃m'',(k,m'')∈l/\j<m''
  ·obtain⟨m'',hm,Jd⟩:=fE
   exact oR l _ k m'' j hm Jd (λx hx=>hl x (by simp[hx]))
  ·simp only[mem_cons,Prod.mk.injEq]at h;rcases h with⟨rfl,rfl⟩|h
   ·have hb:=hl (k,m) (by simp);rcases nX l (qX (iM σ k (dK k 0)) k 0 (replicate m aY)) k j (by omega) hb.1 (λx hx=>hl x (by simp[hx]))with⟨h,_⟩|h
    ·exact h
    ·rw[h];have:=sG (σ:=iM σ k (dK k 0)) (k:=k) (replicate m aY) 0 j (by simpa using hj) (by simpa using hb.2);rw[zero_add]at this;rw[this];simp[List.getD_eq_getElem?_getD,hj]
   ·exact absurd ⟨m,h,hj⟩ fE
theorem uN{st:St}:∀{l:List (Nat×Nat)},kL st l=true->∀k m,(k,m)∈l->(k,m)∈st.D/\st.σ k=dK k 0
 |[],_,_,_,h=>by simp at h
 |(k',m')::l,h,k,m,hm=>by
  simp only[kL,and_eq_true,oC]at h
  simp only[mem_cons,Prod.mk.injEq]at hm
  rcases hm with⟨rfl,rfl⟩|hm
  ·refine⟨h.1.1,?_⟩
   have:=h.1.2
   unfold QU at this;split at this
   ·rename_i k2 o he;simp only[and_eq_true,beq_iff]at this;obtain⟨rfl,rfl⟩:=this;exact he
   ·cases this
  ·exact uN h.2 k m hm
theorem qm{fz:List Nat}{D:List (Nat×Nat)}{c:Cut}(h:om fz D c=true):
  (∀t ks,(t,Kd.box ks)∈c.live->t∉fz/\t<65536/\ks.length<=65536)/\(∀x∈c.live,x.1<65536)/\(∀k m,(k,m)∈c.fD->k∉fz/\k<65536/\(k,m)∈D):=by
 simp only[om,and_eq_true,List.all_eq_true]at h;obtain⟨h1,h2⟩:=h;refine⟨λt ks ht=>?_,λx hx=>?_,λk m hk=>?_⟩
 ·have:=h1 _ ht;simp only[and_eq_true,not_eq_true',iH,ble_eq]at this;exact⟨λhf=>(by rw[dR.2 hf]at this;cases this.1.1),this.1.2,this.2⟩
 ·obtain⟨t,kd⟩:=x;have:=h1 _ hx;cases kd<;>simp only[and_eq_true,iH]at this
  ·exact this.1
  ·exact this.1
  ·exact this.1.2
 ·obtain⟨⟨h3,h4⟩,h5⟩:=h2 _ hk;exact⟨λhf=>(by rw[dR.2 hf]at h3;cases h3),iH.1 h4,oC.1 h5⟩
theorem JU{fz:List Nat}{D:List (Nat×Nat)}{c:Cut}{k m:Nat}(hk:(k,m)∈D)(h1:¬qI c.live k)(h2:∀m,(k,m)∉c.fD):k∈freeze fz D c:=by
 unfold freeze;rw[List.mem_append];right;rw[List.mem_filter,mem_map];refine⟨⟨_,hk,rfl⟩,?_⟩;simp only[not_eq_true',KD,Bool.or_eq_false_iff,List.any_eq_false];refine⟨λx hx=>?_,λx hx=>?_⟩
 ·obtain⟨t,kd⟩:=x;cases kd<;>simp only[false_eq_true,not_false_eq_true,beq_iff];rintro rfl;exact h1 ⟨_,hx⟩
 ·obtain⟨t,m'⟩:=x;simp only[beq_iff];rintro rfl;exact h2 _ hx
section
variable {C:Ctx} {a a1:Act} {wa wa1:World} {st eN:St} {u u1:UW} {θ θ1:Nat->Nat} {fz ws:List Nat} {c:Cut}
open Classical in
theorem Mx.base(hI:Inv C a wa st u θ)(hP:cD C.n (freeze fz st.D c) ws st eN)(hl:om fz st.D c=true)(hs:kL eN c.fD=true):
  Mx C.n fz ws (qI c.live) st eN {st with σ:=eW (uX st.σ ws) c.fD}:=by
 obtain⟨l1,l2,l3⟩:=qm hl;have DJ:=uN hs;have hn:=hI.iO;have hb:∀x∈c.fD,x.1<65536/\x.2<=65536:=λx hx=>⟨(l3 x.1 x.2 hx).2.1,(hI.boxes x.1 x.2 (l3 x.1 x.2 hx).2.2).1⟩;have slot:∀i,i<C.n->eW (uX st.σ ws) c.fD i=if(∃m,(i,m)∈c.fD)then dK i 0 else if i∈ws then aY else st.σ i:=by
  intro i hi;rw[yv _ _ _ (by omega)];by_cases h:∃m,(i,m)∈c.fD
  ·rw[if_pos h,if_pos h]
  ·rw[if_neg h,if_neg h,NA _ _ _ (by omega)]
 refine⟨?_,?_,?_,?_,λx hx=>hx,?_⟩
 ·intro i hi;simp only;rw[slot i hi];split
  ·rename_i h;obtain⟨m,h⟩:=h;exact .inr (DJ i m h).2.symm
  ·split
   ·exact .inl rfl
   ·rename_i hw;exact .inr (hP.slot i hi hw).symm
 ·intro k m hk;refine⟨hP.D _ hk,λhp j hj=>?_⟩;have hm:=(hI.boxes k m hk).1;have hgx:(uX st.σ ws) (gx k j)=st.σ (gx k j):=sZ _ _ _ _;by_cases UZ:∃m',(k,m')∈c.fD
  ·obtain⟨m',UZ⟩:=UZ;have hD:=(l3 k m' UZ).2.2;obtain rfl:m'=m:=(hI.inj _ _ _ _ hD hk rfl).2;exact .inl (oR _ _ k m' j UZ hj hb)
  ·right;have h1:=hP.fz k (JU hk hp (λm hm=>UZ ⟨m,hm⟩)) m hk j hj;simp only;by_cases hk6:k<65536
   ·rcases nX c.fD (uX st.σ ws) k j (by omega) hk6 hb with⟨_,h⟩|h
    ·exact absurd h UZ
    ·rw[h,hgx,h1]
   ·have key:∀(l:List (Nat×Nat)) (σ:Fr),(∀x∈l,x.1<65536/\x.2<=65536)->eW σ l (gx k j)=σ (gx k j):=by
     intro l;induction l with
     |nil=>intro σ _;rfl
     |cons x l ih=>
      intro σ hx;obtain⟨k',m'⟩:=x;have Fe:=hx (k',m') (by simp);simp only[eW];rw[ih _ (λy hy=>hx y (by simp[hy])),dy,cj]
      ·have:=jc k j;have:=Fe.1;omega
      ·intro i _ hi e;have:=(iF (by omega) (by simp at hi;have:=Fe.2;omega) e).1;have:=Fe.1;omega
    rw[key _ _ hb,hgx,h1]
 ·intro i hi k o e;simp only at e;rw[slot i hi]at e;split at e
  ·rename_i h;obtain⟨m,h⟩:=h;simp only[Value.complex.injEq,true_and]at e;exact⟨m,by rw[<- e.1];exact(l3 i m h).2.2⟩
  ·split at e
   ·cases e
   ·exact hI.jd i hi k o e
 ·intro i hi hw;simp only;rw[slot i hi];split
  ·rename_i h;obtain⟨m,h⟩:=h;rw[<- hP.slot i hi hw];exact(DJ i m h).2.symm
  ·rfl
 ·intro k hk m hm j hj;have yB:=(hI.boxes k m hm).1;have hgx:(uX st.σ ws) (gx k j)=st.σ (gx k j):=sZ _ _ _ _;have key:∀(l:List (Nat×Nat)) (σ:Fr),(∀x∈l,x.1≠k/\x.1<65536/\x.2<=65536)->eW σ l (gx k j)=σ (gx k j):=by
   intro l;induction l with
   |nil=>intro σ _;rfl
   |cons x l ih=>
    intro σ hx;obtain⟨k',m'⟩:=x;have Fe:=hx (k',m') (by simp);simp only[eW];rw[ih _ (λy hy=>hx y (by simp[hy])),dy,cj]
    ·have:=jc k j;have:=Fe.2.1;omega
    ·intro i _ hi e;exact Fe.1 (iF (by omega) (by simp at hi;have:=Fe.2.2;omega) e).1.symm
  simp only;rw[key _ _ (λx hx=>⟨λe=>(l3 x.1 x.2 hx).1 (e▸hk),hb x hx⟩),hgx]
theorem Mx.set{s:St}{x:Nat×Kd}{l:Live}{v:x.2.T}(h:Mx C.n fz ws (qI (x::l)) st eN s)(k_:Inv C a1 wa1 eN u1 θ1)(hg:yK eN x=some v)(hx:x.1<65536)(hfz:∀ks,x.2=.box ks->x.1∉fz)
  (hI:Inv C a wa st u θ) (hP:cD C.n (freeze fz st.D c) ws st eN):
  Mx C.n fz ws (qI l) st eN (ku s x v):=by
 obtain⟨t,kd⟩:=x;have hn:=k_.iO;have Ds:∀(w:Value),plain w=true->eN.σ t=w->(∀k,qI ((t,kd)::l) k->qI l k)->Mx C.n fz ws (qI l) st eN {s with σ:=iM s.σ t w}:=by
  intro w hp hw hbx;refine⟨?_,?_,?_,?_,h.aaG,?_⟩
  ·intro i hi;simp only;by_cases e:i=t
   ·subst e;rw[eT];exact .inr hw.symm
   ·rw[cj _ _ e];exact h.slot i hi
  ·intro k m hk;refine⟨(h.dD k m hk).1,λzE j hj=>?_⟩;simp only;have:=jc k j;rw[cj _ _ (by simp only at hx;omega)];exact(h.dD k m hk).2 (λhb=>zE (hbx k hb)) j hj
  ·intro i hi k o e;simp only at e;by_cases e':i=t
   ·subst e';rw[eT]at e;exact absurd e (jL hp k o)
   ·rw[cj _ _ e']at e;exact h.fk i hi k o e
  ·intro i hi UT;simp only;by_cases e:i=t
   ·subst e;rw[eT,<- hw];exact hP.slot i hi UT
   ·rw[cj _ _ e];exact h.cw i hi UT
  ·intro k hk m hm j hj;simp only;have:=jc k j;rw[cj _ _ (by simp only at hx;omega)];exact h.frz k hk m hm j hj
 cases kd with
 |one k=>
  simp only[yK]at hg;exact Ds _ (K1.Uu k v) (K1.Mw hg) (by rintro k' ⟨ks,hk⟩;simp only[mem_cons,Prod.mk.injEq,reduceCtorEq,and_false,false_or]at hk;exact⟨ks,hk⟩)
 |agg ks=>
  simp only[yK]at hg;split at hg
  ·rename_i arr he;refine Ds _ rfl ?_ (by rintro k' ⟨ks,hk⟩;simp only[mem_cons,Prod.mk.injEq,reduceCtorEq,and_false,false_or]at hk;exact⟨ks,hk⟩);rw[he];have:=FY hg;congr 1;apply toList_inj.1;simpa using this
  ·cases hg
 |box ks=>
  simp only[yK]at hg;split at hg
  ·rename_i k o he;simp only[cond_eq_ite]at hg;split at hg
   ·rename_i hc;simp only[and_eq_true,beq_iff,oC]at hc;obtain⟨⟨rfl,rfl⟩,hD⟩:=hc;have Bl:=FY hg;have hlen:(Lc ks v).length=ks.length:=tV ks v;have alB:=(k_.boxes k ks.length hD).1;have nE:∀(σ:Fr) (j:Nat),j<ks.length->qX σ k 0 (Lc ks v) (gx k j)=eN.σ (gx k j):=by
     intro σ j hj;have h1:=sG (σ:=σ) (k:=k) (Lc ks v) 0 j (by omega) (by omega);rw[zero_add]at h1;rw[h1,List.getD_eq_getElem?_getD,<- Bl,uW _ _ _ _ _ hj];simp
    have acZ:∀(σ:Fr) (k' j:Nat),k'≠k->j<65536->qX σ k 0 (Lc ks v) (gx k' j)=σ (gx k' j):=by
     intro σ k' j aQ hj;rw[dy];intro i _ hi e;exact aQ (iF hj (by omega) e).1
    have hDs:∀y,y∈(ku s (k,.box ks) v).D↔y∈s.D\/y=(k,ks.length):=by
     intro y;simp only[ku,cond_eq_ite,oC];split
     ·rename_i fE;exact⟨λh=>.inl h,λh=>h.elim id λe=>e▸fE⟩
     ·simp only[mem_cons];exact⟨λh=>h.symm,λh=>h.symm⟩
    simp only at hx;refine⟨?_,?_,?_,?_,?_,?_⟩
    ·intro i hi;simp only[ku];rw[gI _ _ _ (by omega)];by_cases e:i=k
     ·subst e;rw[eT];exact .inr he.symm
     ·rw[cj _ _ e];exact h.slot i hi
    ·intro k' m hk;rw[hDs]at hk;rcases hk with hk|hk
     ·refine⟨(h.dD k' m hk).1,λhp j hj=>?_⟩;have hm6:=(k_.boxes k' m (h.dD k' m hk).1).1;simp only[ku];by_cases e:k'=k
      ·subst e;obtain rfl:m=ks.length:=(k_.inj _ _ _ _ (h.dD k' m hk).1 hD rfl).2;exact .inr (nE _ j hj)
      ·have:=jc k' j;rw[acZ _ _ _ e (by omega),cj _ _ (by omega)];refine(h.dD k' m hk).2 (λhb=>hp ?_) j hj;obtain⟨UN,hb⟩:=hb;simp only[mem_cons,Prod.mk.injEq]at hb;rcases hb with⟨e',_⟩|hb
       ·exact absurd e' e
       ·exact⟨UN,hb⟩
     ·simp only[Prod.mk.injEq]at hk;obtain⟨rfl,rfl⟩:=hk;exact⟨hD,λ_ j hj=>.inr (by simp only[ku];exact nE _ j hj)⟩
    ·intro i hi k' o e;simp only[ku]at e;rw[gI _ _ _ (by omega)]at e;by_cases e':i=k
     ·subst e';rw[eT]at e;simp only[Value.complex.injEq,true_and]at e;exact⟨ks.length,(hDs _).2 (.inr (by rw[e.1]))⟩
     ·rw[cj _ _ e']at e;obtain⟨m,hm⟩:=h.fk i hi k' o e;exact⟨m,(hDs _).2 (.inl hm)⟩
    ·intro i hi hw;simp only[ku];rw[gI _ _ _ (by omega)];by_cases e:i=k
     ·subst e;rw[eT,<- hP.slot i hi hw];exact he.symm
     ·rw[cj _ _ e];exact h.cw i hi hw
    ·intro y hy;exact(hDs y).2 (.inl (h.aaG y hy))
    ·intro k' bZ m hm j hj;have aQ:k'≠k:=λe=>hfz ks rfl (e▸bZ);have hm6:=(hI.boxes k' m hm).1;have:=jc k' j;simp only[ku];rw[acZ _ _ _ aQ (by omega),cj _ _ (by omega)];exact h.frz k' bZ m hm j hj
   ·cases hg
  ·cases hg
theorem Mx.abP:∀{l:Live} {s:St} {v:Tup l},Mx C.n fz ws (qI l) st eN s->Inv C a1 wa1 eN u1 θ1->fP eN l=some v->(∀x∈l,x.1<65536)->(∀t ks,(t,Kd.box ks)∈l->t∉fz)->
  Inv C a wa st u θ->cD C.n (freeze fz st.D c) ws st eN->Mx C.n fz ws (qI []) st eN (rf s l v)
 |[],s,v,h,_,_,_,_,_,_=>h
 |[x],s,v,h,k_,hg,hx,hf,hI,hP=>by
  simp only[fP]at hg
  exact h.set (l:=[]) k_ hg (hx x (by simp)) (λks e=>hf x.1 ks (by rw[<- e];simp)) hI hP
 |x::y::l,s,v,h,k_,hg,hx,hf,hI,hP=>by
  simp only[fP]at hg
  split at hg
  ·rename_i p q hp hq
   simp only[Option.some.injEq]at hg
   subst hg
   have h1:=h.set (l:=y::l) k_ hp (hx x (by simp)) (λks e=>hf x.1 ks (by rw[<- e];simp)) hI hP
   exact Mx.abP (l:=y::l) h1 k_ hq (λz hz=>hx z (by simp[hz])) (λt ks hz=>hf t ks (by simp[hz])) hI hP
  ·cases hg
theorem JT{v:Tup c.live}(hI:Inv C a wa st u θ)(k_:Inv C a1 wa1 eN u1 θ1)(hP:cD C.n (freeze fz st.D c) ws st eN)(hl:om fz st.D c=true)(hs:kL eN c.fD=true)
  (hg:fP eN c.live=some v):Inv C a1 wa1 (mix st ws c v) u1 θ1/\cD C.n fz ws st (mix st ws c v):=by
 obtain⟨l1,l2,l3⟩:=qm hl;have h:=Mx.abP (Mx.base hI hP hl hs) k_ hg l2 (λt ks ht=>(l1 t ks ht).1) hI hP;refine⟨k_.Cp ⟨h.slot,λk m hk=>⟨(h.dD k m hk).1,(h.dD k m hk).2 (by rintro⟨ks,hk⟩;simp at hk)⟩,λi hi k o e _=>h.fk i hi k o e⟩,⟨h.cw,h.aaG,h.frz⟩⟩
theorem yt{s:St}{x:Nat×Kd}{v:x.2.T}{k j:Nat}(hk:∀ks,x≠(k,.box ks))(hj:j<65536)(hx:x.1<65536)(qt:∀ks,x.2=.box ks->ks.length<=65536):(ku s x v).σ (gx k j)=s.σ (gx k j):=by
 obtain⟨t,kd⟩:=x;have:=jc k j;simp only at hx;cases kd with
 |one k1=>simp only[ku];rw[cj _ _ (by omega)]
 |agg ks=>simp only[ku];rw[cj _ _ (by omega)]
 |box ks=>
  simp only[ku];have hl:=qt ks rfl;rw[dy,cj _ _ (by omega)];intro i _ hi e;rw[tV]at hi;have:=(iF hj (by omega) e).1;exact hk ks (by rw[this])
theorem sb:∀{l:Live} {s:St} {v:Tup l} {k j:Nat},¬qI l k->j<65536->(∀x∈l,x.1<65536)->(∀t ks,(t,Kd.box ks)∈l->ks.length<=65536)->(rf s l v).σ (gx k j)=s.σ (gx k j)
 |[],_,_,_,_,_,_,_,_=>rfl
 |[x],s,v,k,j,hb,hj,hx,qt=>yt (λks e=>hb ⟨ks,by simp[e]⟩) hj (hx x (by simp)) (λks e=>qt x.1 ks (by rw[<- e];simp))
 |x::y::l,s,v,k,j,hb,hj,hx,qt=>by
  simp only[rf]
  rw[sb (l:=y::l) (λ⟨ks,h⟩=>hb ⟨ks,by simp only[mem_cons]at h |-;exact .inr h⟩) hj (λz hz=>hx z (by simp only[mem_cons]at hz |-;exact .inr hz)) (λt ks hz=>qt t ks (by simp only[mem_cons]at hz |-;exact .inr hz))]
  exact yt (λks e=>hb ⟨ks,by simp[e]⟩) hj (hx x (by simp)) (λks e=>qt x.1 ks (by rw[<- e];simp))
theorem UJ(hI:Inv C a wa st u θ)(hl:om fz st.D c=true)(ws:List Nat)(v:Tup c.live):∀k,k∈freeze fz st.D c->∀m,(k,m)∈st.D->∀j,j<m->(mix st ws c v).σ (gx k j)=st.σ (gx k j):=by
 intro k hk m hm j hj;obtain⟨l1,l2,l3⟩:=qm hl;have yB:=(hI.boxes k m hm).1;have hb:∀x∈c.fD,x.1<65536/\x.2<=65536:=λx hx=>⟨(l3 x.1 x.2 hx).2.1,(hI.boxes x.1 x.2 (l3 x.1 x.2 hx).2.2).1⟩;have HN:¬qI c.live k/\∀m,(k,m)∉c.fD:=by
  unfold freeze at hk;rw[List.mem_append]at hk;rcases hk with hk|hk
  ·exact⟨λ⟨ks,h⟩=>(l1 k ks h).1 hk,λm h=>(l3 k m h).1 hk⟩
  ·rw[List.mem_filter]at hk;have h2:=hk.2;simp only[not_eq_true',KD,Bool.or_eq_false_iff,List.any_eq_false]at h2;refine⟨λ⟨ks,h⟩=>?_,λm h=>?_⟩
   ·exact h2.1 _ h (beq_iff.2 rfl)
   ·exact h2.2 _ h (beq_iff.2 rfl)
 have key:∀(l:List (Nat×Nat)) (σ:Fr),(∀x∈l,x.1≠k/\x.1<65536/\x.2<=65536)->eW σ l (gx k j)=σ (gx k j):=by
  intro l;induction l with
  |nil=>intro σ _;rfl
  |cons x l ih=>
   intro σ hx;obtain⟨k',m'⟩:=x;have Fe:=hx (k',m') (by simp);simp only[eW];rw[ih _ (λy hy=>hx y (by simp[hy])),dy,cj]
   ·have:=jc k j;have:=Fe.2.1;omega
   ·intro i _ hi e;exact Fe.1 (iF (by omega) (by simp at hi;have:=Fe.2.2;omega) e).1.symm
 unfold mix;rw[sb HN.1 (by omega) l2 (λt ks h=>(l1 t ks h).2.2)];simp only;rw[key _ _ (λx hx=>⟨λe=>HN.2 x.2 (by rw[<- e];exact hx),hb x hx⟩),sZ]
end
end Go.aP
