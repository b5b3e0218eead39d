import Derived.Test.YthaeiehophlooaaGreatB01
import Derived.IntWalk
open Array (ext' toList_inj toList_map)
open Bool (and_eq_true cond_eq_ite false_eq_true not_eq_true')
open Go.Result (andThen_ok)
open Go.Sem (run_bind run_pure)
open List (length_map map_cons map_nil map_toArray mem_cons mem_map mem_toArray replicate)
open Nat (beq ble ble_eq blt zero_add)
open Option (isSome_iff_exists map_some)
set_option linter.all false
namespace Go.aP
open Go.RowKit
section
variable {E:Env} {C:Ctx} {a:Act} {wa:World} {st:St} {u:UW} {θ:Nat->Nat} {fz:List Nat} {o:Oper} {K:St->UW->Prop} {Q:Exit->Act->World->Prop}
def ahk{op:UnOp}{t:TypeId}{x:Operand}
  (h:match op,ev st.σ x with
   | .not,.bool b=>K (fin o st (.bool (!b))) u
   | .neg,.int k n=>K (fin o st (.int k (k.wrap (0-n)))) u
   |_,_=>False) (g:o.op=.unOp op t x) (j:bC C.n o=true) (e:Inv C a wa st u θ):sZ E C fz o st θ K Q a wa:=by
 have w:df C.n x=true:=lE j (by simp[g,Op.operands]);split at h
 .rename_i b i;refine ba (r:=.bool (!b)) (wb:=wa) ?_ (aX j e rfl h);simp[execOp,g,bg e w i rfl,Op.unary]
 .rename_i k n i;refine ba (r:=.int k (k.wrap (0-n))) (wb:=wa) ?_ (aX j e rfl h);simp[execOp,g,bg e w i rfl,Op.unary,Op.intArith]
 .exact h.elim
def Zj{s d:TypeId}{x:Operand}(g:o.op=.convert s d x)(j:bC C.n o=true)(i:Inv C a wa st u θ)
  (h:bif plain (ev st.σ x)then(match pv E.P (convert s d (ev st.σ x))with
   |some v=>bif plain v then K (fin o st v) u else False
   |none=>False)else False):sZ E C fz o st θ K Q a wa:=by
 have y:df C.n x=true:=lE j (by simp[g,Op.operands]);obtain⟨hp,h⟩:=aq h;cases e:pv E.P (convert s d (ev st.σ x))with
 |none=>simp only[e]at h
 |some v=>
  simp only[e]at h;obtain⟨w,h⟩:=aq h;refine ba (r:=v) (wb:=wa) ?_ (aX j i w h);simp only[execOp,g,oe i y hp,run_bind,xS e wa];rfl
def Tj(e:Inv C a wa st u θ):∀{xs:List Operand},(∀x∈xs,df C.n x=true)->(xs.all λx=>plain (ev st.σ x))=true->xs.map a.eval=xs.map (ev st.σ)
 |[],_,_=>rfl
 |x::xs,h,hp=>by
  simp only[List.all_cons,and_eq_true]at hp
  simp only[map_cons]
  rw[oe e (h x (by simp)) hp.1,Tj e (λy g=>h y (by simp[g])) hp.2]
def rY(e:Inv C a wa st u θ){xs:Array Operand}(h:∀x∈xs.toList,df C.n x=true)(hp:(xs.toList.all λx=>plain (ev st.σ x))=true):xs.map a.eval=(xs.toList.map (ev st.σ)).toArray:=by
 rw[<- Tj e h hp];apply toList_inj.1;simp
def ac2{fn:Fn}{first e:Array Operand}(i:o.op=.makeFunc fn first e)(r:bC C.n o=true)(j:Inv C a wa st u θ)
  (h:bif first.toList.all (λx=>plain (ev st.σ x))&&e.toList.all (λx=>plain (ev st.σ x))then
   K (fin o st (.func fn (first.toList.map (ev st.σ)).toArray (e.toList.map (ev st.σ)).toArray)) u else False):sZ E C fz o st θ K Q a wa:=by
 obtain⟨hc,h⟩:=aq h;simp only[and_eq_true]at hc;have y:∀x∈first.toList,df C.n x=true:=λx g=>lE r (by simp[i,Op.operands];left;simpa using g);have w:∀x∈e.toList,df C.n x=true:=λx g=>lE r (by simp[i,Op.operands];right;simpa using g);refine ba (wb:=wa) ?_ (aX r j rfl h);simp only[execOp,i,rY j y hc.1,rY j w hc.2,Instr.makeFunc];rfl
def ac6{x:Operand}{i:Nat}(j:o.op=.extract x i)(y:bC C.n o=true)(w:Inv C a wa st u θ)
  (h:match ev st.σ x with
   | .tuple e=>(match e[i]? with
     |some v=>bif plain v then K (fin o st v) u else False
     |none=>False)
   |_=>False):sZ E C fz o st θ K Q a wa:=by
 have G:df C.n x=true:=lE y (by simp[j,Op.operands]);split at h
 .rename_i e H;cases g:e[i]? with
  |none=>simp only[g]at h
  |some v=>
   simp only[g]at h;obtain⟨A,h⟩:=aq h;refine ba (r:=v) (wb:=wa) ?_ (aX y w A h);simp[execOp,j,bg w G H rfl,Instr.extract,g]
 .exact h.elim
def acZ{x:Operand}(y:o.op=.nilCheck x)(A:bC C.n o=true)(i:Inv C a wa st u θ)
  (h:match ev st.σ x with
   | .complex .f64 k g=>K (fin o st (dU k g)) u
   | .pointer p=>nn p (K (fin o st (.pointer p)) u)
   | .func f p q=>Cb f (K (fin o st (.func f p q)) u)
   |_=>False):sZ E C fz o st θ K Q a wa:=by
 have G:df C.n x=true:=lE A (by simp[y,Op.operands]);split at h
 .rename_i k g w;obtain⟨j,H⟩:=kQ i G w;refine ba (r:=.pointer (some ⟨θ k,g,none⟩)) (wb:=wa) (by simp[execOp,y,j]) ?_;exact lN A i (v:=dU k g) rfl (λJ I e=>by simp only[Value.complex.injEq,true_and]at e;rw[<- e.1];exact H) h
 .rename_i p w;have j:=bg i G w rfl;cases p with
  |none=>exact h.elim
  |some p=>exact ba (r:=.pointer (some p)) (wb:=wa) (by simp[execOp,y,j]) (aX A i rfl h)
 .rename_i f p q w;have j:=bg i G w rfl;cases f with
  |method n=>exact h.elim
  |_=>exact ba (wb:=wa) (by simp[execOp,y,j]) (aX A i rfl h)
 .exact h.elim
def Pu{P:Program}{t:TypeId}{f d:Nat}(h:Dv P t f=some d):∃e x,P.underlying t=some (.struct e)/\e[f]?=some x/\x.offset=d/\P.cellsOf x.type≠0:=by
 unfold Dv at h;cases hu:P.underlying t with
 |none=>simp[hu]at h
 |some D=>
  cases D<;>simp only[hu]at h<;>try (cases h;done)
  rename_i e;cases g:e[f]? with
  |none=>simp[g]at h
  |some x=>
   simp only[g,cond_eq_ite,beq_iff]at h;split at h
   .cases h
   .rename_i hz;simp only[Option.some.injEq]at h;exact⟨e,x,rfl,g,h,hz⟩
def mR{P:Program}{w:World}{t:TypeId}{f d b e:Nat}(h:Dv P t f=some d):(Instr.fieldAt t (.pointer (some ⟨b,e,none⟩)) f).run P w=.ok (.pointer (some ⟨b,e+d,none⟩)) w:=by
 obtain⟨y,x,j,r,rfl,hz⟩:=Pu h;have g:∃i,P.info? x.type=some i:=by
  cases g:P.info? x.type with
  |none=>simp[Program.cellsOf,g]at hz
  |some i=>exact⟨i,rfl⟩
 obtain⟨i,g⟩:=g;simp only[Instr.fieldAt,run_bind,aT j,andThen_ok,r,Instr.sureAddr,run_pure,fieldPlace,cK g,if_neg hz,kr]
def ahm{t:TypeId}{x:Operand}{f d:Nat}(w:o.op=.fieldAddr t x f)(y:bC C.n o=true)(i:Inv C a wa st u θ)(G:Dv E.P t f=some d)
  (h:match ev st.σ x with
   | .complex .f64 k g=>K (fin o st (dU k (g+d))) u
   |v=>dT v λb g=>K (fin o st (.pointer (some ⟨b,g+d,none⟩))) u):sZ E C fz o st θ K Q a wa:=by
 have A:df C.n x=true:=lE y (by simp[w,Op.operands]);split at h
 .rename_i k g J;obtain⟨j,I⟩:=kQ i A J;refine ba (r:=.pointer (some ⟨θ k,g+d,none⟩)) (wb:=wa) ?_ ?_
  .simp only[execOp,w,j,run_bind,mR G];rfl
  .exact lN y i (v:=dU k (g+d)) rfl (λO L e=>by simp only[Value.complex.injEq,true_and]at e;rw[<- e.1];exact I) h
 .obtain⟨b,g,H,h⟩:=gG h;have j:=bg i A H rfl;refine ba (r:=.pointer (some ⟨b,g+d,none⟩)) (wb:=wa) ?_ (aX y i rfl h);simp only[execOp,w,j,run_bind,mR G];rfl
def ac5{t:TypeId}{x:Operand}{f:Nat}(j:o.op=.field t x f)(A:bC C.n o=true)(w:Inv C a wa st u θ)
  (h:match ev st.σ x with
   | .agg cs=>(match Dt E.P t f cs.toList with
     |some v=>bif plain v then K (fin o st v) u else False
     |none=>False)
   |_=>False):sZ E C fz o st θ K Q a wa:=by
 have I:df C.n x=true:=lE A (by simp[j,Op.operands]);split at h
 .rename_i cs O;cases e:Dt E.P t f cs.toList with
  |none=>simp only[e]at h
  |some v=>
   simp only[e]at h;obtain⟨H,h⟩:=aq h;refine ba (r:=v) (wb:=wa) ?_ (aX A w H h);unfold Dt at e;cases hu:E.P.underlying t with
   |none=>simp[hu]at e
   |some D=>
    cases D<;>simp only[hu]at e<;>try (cases e;done)
    rename_i U;cases i:U[f]? with
    |none=>simp[i]at e
    |some y=>
     simp only[i,cond_eq_ite,and_eq_true,ble_eq]at e;split at e
     .rename_i hc;obtain⟨L,J⟩:=hc;obtain⟨d,G⟩:=isSome_iff_exists.1 L;simp only[execOp,j,bg w I O rfl,Instr.field,run_bind,aT hu,andThen_ok,i,asAgg,run_pure];split at e
      .rename_i g;simp only[Option.some.injEq]at e;rw[gJ G g,<- e];simp only[andThen_ok];congr 3;apply toList_inj.1;rw[Array.toList_extract,List.extract_eq_take_drop];simp
      .rename_i g;simp only[Bool.not_eq_true]at g;rw[iM G g (v:=v) (by simpa using e)];rfl
     .cases e
 .exact h.elim
def rM{P:Program}{w:World}{k:IntKind}{i:Int}{y:Nat}{e:BoundsCode}(h:0<=i)(g:i<=y):(Instr.sliceBound (.int k i) y e).run P w=.ok i.toNat w:=by
 simp only[Instr.sliceBound,asIntOf,run_bind,run_pure,andThen_ok];rw[if_pos ⟨h,g⟩];rfl
def qI{e:Operand->Value}{d i:Int}(h:dH e none d=some i):i=d:=by simp only[dH,Option.some.injEq]at h;exact h.symm
def mS{e:Operand->Value}{x:Operand}{d i:Int}(h:dH e (some x) d=some i):∃k,e x=.int k i:=by
 simp only[dH]at h;split at h
 .rename_i k j g;simp only[Option.some.injEq]at h;subst h;exact⟨k,g⟩
 .cases h
def oL{P:Program}{w:World}{isS:Bool}{len cap:Nat}{r j mx:Option Operand}{G e:Operand->Value}{l h m:Int}(I:∀x k i,(r=some x\/j=some x\/mx=some x)->G x=.int k i->e x=.int k i)
  (U:dH G r 0=some l) (L:dH G j len=some h) (O:dH G mx cap=some m) (SW:(mx.isSome&&j.isNone)=false)
  (h0:0<=l) (h1:l<=h) (h2:h<=m) (h3:m<=cap):(Instr.sliceBounds isS len cap (r.map e) (j.map e) (mx.map e)).run P w=.ok (l.toNat,h.toNat,m.toNat) w:=by
 have fin:∀(H M:Nat) (g:BoundsCode),l<=(H:Int)->∀(X:Option Value),X=r.map e->
   (match X with|some v=>(do let l <- Instr.sliceBound v H g;pure (l,H,M):Sem (Nat×Nat×Nat))|none=>(do let l <- pure 0;pure (l,H,M):Sem (Nat×Nat×Nat))).run P w=.ok (l.toNat,H,M) w:=by
  rintro H M g hH X rfl;cases r with
  |none=>rw[qI U];simp
  |some x=>
   obtain⟨k,A⟩:=mS U;simp only[map_some,I x k l (by simp) A,run_bind,rM h0 hH,andThen_ok,run_pure]
 cases mx with
 |none=>
  obtain rfl:=qI O;cases j with
  |none=>
   obtain rfl:=qI L;simp only[Instr.sliceBounds,Option.map_none,run_bind,run_pure,andThen_ok,Int.toNat_natCast];exact fin len cap _ h1 _ rfl
  |some y=>
   obtain⟨k,A⟩:=mS L;simp only[Instr.sliceBounds,Option.map_none,map_some,run_bind,run_pure,andThen_ok,Int.toNat_natCast,I y k h (by simp) A,rM (by omega) h2];exact fin h.toNat cap _ (by omega) _ rfl
 |some z=>
  obtain⟨Y,J⟩:=mS O;cases j with
  |none=>simp at SW
  |some y=>
   obtain⟨k,A⟩:=mS L
   simp only[Instr.sliceBounds,map_some,run_bind,andThen_ok,I z Y m (by simp) J,rM (show 0<=m by omega) h3,I y k h (by simp) A,
    rM (show 0<=h by omega) (show h<=((m.toNat:Nat):Int) by omega)]
   exact fin h.toNat m.toNat _ (by omega) _ rfl
def Vt{t:TypeId}{x:Operand}{H g mx:Option Operand}
  (h:match E.P.underlying t,ev st.σ x with
   |some (.slice e),.slice b len cap=>(match dH (ev st.σ) H 0,dH (ev st.σ) g len,dH (ev st.σ) mx cap with
    |some l,some h,some m=>(bif (mx.isSome&&g.isNone)||(E.P.info? e).isNone then False else(m.toNat=l.toNat\/gq b)/\0<=l/\l<=h/\h<=m/\m<=cap/\K (fin o st (.slice (zI b l.toNat m.toNat (E.P.cellsOf e)) (h.toNat-l.toNat) (m.toNat-l.toNat))) u)
    |_,_,_=>False)
   |some .string,.string s=>(match mx with
    |some _=>False
    |none=>match dH (ev st.σ) H 0,dH (ev st.σ) g s.size with
     |some l,some h=>0<=l/\l<=h/\h<=s.size/\K (fin o st (.string (s.extract l.toNat h.toNat))) u
     |_,_=>False)
   |_,_=>False) (I:o.op=.slice t x H g mx) (J:bC C.n o=true) (A:Inv C a wa st u θ):sZ E C fz o st θ K Q a wa:=by
 have hx:df C.n x=true:=lE J (by simp[I,Op.operands]);have ll:∀y k i,(H=some y\/g=some y\/mx=some y)->ev st.σ y=.int k i->a.eval y=.int k i:=by
  intro y k i L j;refine bg A (lE J ?_) j rfl;rcases L with rfl|rfl|rfl<;>simp[I,Op.operands]
 split at h
 .rename_i e b len cap O j;split at h
  .rename_i l h' m Y hh hm;cases G:(mx.isSome&&g.isNone)||(E.P.info? e).isNone with
   |true=>simp only[G,cond_true]at h
   |false=>
    simp only[G,cond_false]at h;simp only[Bool.or_eq_false_iff]at G;obtain⟨SW,Ds⟩:=G;obtain⟨i,tX⟩:∃i,E.P.info? e=some i:=by cases hq:E.P.info? e<;>simp_all
    obtain⟨U,h0,h1,h2,h3,hK⟩:=h;refine ba (r:=.slice (zI b l.toNat m.toNat (E.P.cellsOf e)) (h'.toNat-l.toNat) (m.toNat-l.toNat)) (wb:=wa) ?_ (aX J A rfl hK);simp only[execOp,I,bg A hx j rfl,run_bind,Instr.sliceAt,aT O,andThen_ok,Instr.slice,oL ll Y hh hm SW h0 h1 h2 h3,cK tX,run_pure];congr 3;unfold zI;split
    .rfl
    .rename_i n_;cases b with
     |none=>rfl
     |some b=>
      simp only[map_some,Option.some.injEq];unfold Addr.add;split
      .rename_i YF;obtain⟨bb,bo,bs⟩:=b;have:=(U.resolve_left n_) _ rfl;simp only at this;subst this;simp[YF]
      .rfl
  .exact h.elim
 .rename_i s O j;cases mx with
  |some _=>exact h.elim
  |none=>
   simp only at h;split at h
   .rename_i l h' Y hh;obtain⟨h0,h1,h2,hK⟩:=h;refine ba (r:=.string (s.extract l.toNat h'.toNat)) (wb:=wa) ?_ (aX J A rfl hK);have hb:=oL (P:=E.P) (w:=wa) (isS:=false) (len:=s.size) (cap:=s.size) (mx:=none) (m:=s.size) (λy k i L=>ll y k i (by rcases L with h|h|h;exact .inl h;exact .inr (.inl h);cases h)) Y hh rfl (by simp) h0 h1 h2 (by omega);simp only[execOp,I,bg A hx j rfl,run_bind,Instr.sliceAt,aT O,andThen_ok,Instr.slice];simp only[Option.map_none]at hb;simp only[Option.map_none,Option.isSome_none,false_eq_true,if_false,run_bind,hb,andThen_ok,run_pure]
   .exact h.elim
 .exact h.elim
end
section
variable {E:Env} {C:Ctx} {a:Act} {wa:World} {st:St} {u:UW} {θ:Nat->Nat} {fz:List Nat} {o:Oper} {K:St->UW->Prop} {Q:Exit->Act->World->Prop}
def wv{P:Program}{t:TypeId}(h:P.cellsOf t≠0):∃i,P.info? t=some i:=by
 cases e:P.info? t with
 |none=>simp[Program.cellsOf,e]at h
 |some i=>exact⟨i,rfl⟩
def ahl{t:TypeId}{x i:Operand}(y:o.op=.indexAddr t x i)(A:bC C.n o=true)(w:Inv C a wa st u θ)
  (h:match E.P.underlying t,ev st.σ x,ev st.σ i with
   |some (.slice e),.slice b len _,.int _ j=>(bif (E.P.info? e).isSome then bh b λb g=>0<=j/\j<len/\K (fin o st (.pointer (some ⟨b,g+j.toNat*E.P.cellsOf e,none⟩))) u else False)
   |some (.array len e),.complex .f64 k g,.int _ j=>(bif decide (0<=j)&&decide (j<len)&&(E.P.info? e).isSome then K (fin o st (dU k (g+j.toNat*E.P.cellsOf e))) u else False)
   |_,_,_=>False):sZ E C fz o st θ K Q a wa:=by
 have Y:df C.n x=true:=lE A (by simp[y,Op.operands]);have hi:df C.n i=true:=lE A (by simp[y,Op.operands]);split at h
 .rename_i e b len c k j G H O;obtain⟨L,h⟩:=aq h;obtain⟨ie,U⟩:=isSome_iff_exists.1 L;obtain⟨bb,g,rfl,J,I,h⟩:=gj h;refine ba (r:=.pointer (some ⟨bb,g+j.toNat*E.P.cellsOf e,none⟩)) (wb:=wa) ?_ (aX A w rfl h);simp only[execOp,y,bg w Y H rfl,bg w hi O rfl,Instr.indexAt,asIntOf,run_bind,run_pure,andThen_ok,aT G];rw[if_pos ⟨J,I⟩];simp only[run_bind,cK U,andThen_ok,run_pure,kr]
 .rename_i len e k g kk j G H O;obtain⟨hc,h⟩:=aq h;simp only[and_eq_true,decide_eq_true_eq]at hc;obtain⟨⟨J,I⟩,L⟩:=hc;obtain⟨ie,U⟩:=isSome_iff_exists.1 L;obtain⟨ll,hm⟩:=kQ w Y H;refine ba (r:=.pointer (some ⟨θ k,g+j.toNat*E.P.cellsOf e,none⟩)) (wb:=wa) ?_ ?_
  .simp only[execOp,y,ll,bg w hi O rfl,Instr.indexAt,asIntOf,run_bind,run_pure,andThen_ok,aT G,Instr.sureAddr];rw[if_pos ⟨J,I⟩];simp only[run_bind,cK U,andThen_ok,run_pure,kr]
  .exact lN A w (v:=dU k _) rfl (λk' o' e=>by simp only[Value.complex.injEq,true_and]at e;rw[<- e.1];exact hm) h
 .exact h.elim
def ac4{t:TypeId}{x i:Operand}(w:o.op=.index t x i)(y:bC C.n o=true)(g:Inv C a wa st u θ)
  (h:match E.P.underlying t,ev st.σ x,ev st.σ i with
   |some .string,.string s,.int _ j=>0<=j/\∃c:UInt8,s[j.toNat]?=some c/\K (fin o st (.int .u8 c.toNat)) u
   |some (.array len e),.agg cs,.int _ j=>0<=j/\j<len/\(E.P.info? e).isSome=true/\∃v,PA E.P e (j.toNat*E.P.cellsOf e) cs.toList=some v/\plain v=true/\K (fin o st v) u
   |_,_,_=>False):sZ E C fz o st θ K Q a wa:=by
 have L:df C.n x=true:=lE y (by simp[w,Op.operands]);have O:df C.n i=true:=lE y (by simp[w,Op.operands]);split at h
 .rename_i s k j A G J;obtain⟨I,c,H,h⟩:=h;refine ba (r:=.int .u8 c.toNat) (wb:=wa) ?_ (aX y g rfl h);simp only[execOp,w,bg g L G rfl,bg g O J rfl,Instr.index,asIntOf,run_bind,run_pure,andThen_ok,aT A,if_pos I,H]
 .rename_i len e cs k j A G J;obtain⟨I,H,fL,v,Y,U,h⟩:=h;obtain⟨ie,Ds⟩:=isSome_iff_exists.1 fL;refine ba (r:=v) (wb:=wa) ?_ (aX y g U h);simp only[execOp,w,bg g L G rfl,bg g O J rfl,Instr.index,asIntOf,run_bind,run_pure,andThen_ok,aT A,if_pos (show(0:Int)<=j/\j<len from⟨I,H⟩),cK Ds];rw[ML Y];rfl
 .exact h.elim
def vE(g:Inv C a wa st u θ){ps:Array (Nat×Operand)}(h:∀x∈ps.toList,df C.n x.2=true)(hp:(ps.toList.all λp=>plain (ev st.σ p.2))=true):
  (ps.map λp=>(p.1,a.eval p.2))=(ps.toList.map λp=>(p.1,ev st.σ p.2)).toArray:=by
 apply toList_inj.1;simp only[toList_map];apply List.map_congr_left;intro p e;rw[oe g (h p e) (List.all_eq_true.1 hp p e)]
def ac8{t:TypeId}{ps:Array (Nat×Operand)}(w:o.op=.build t ps)(A:bC C.n o=true)(y:Inv C a wa st u θ)
  (h:bif ps.toList.all λp=>plain (ev st.σ p.2)then(match Xq E.P t (ps.toList.map λp=>(p.1,ev st.σ p.2))with
   |some g=>K (fin o st (.agg g.toArray)) u
   |none=>False)else False):sZ E C fz o st θ K Q a wa:=by
 obtain⟨hp,h⟩:=aq h;have i:∀x∈ps.toList,df C.n x.2=true:=λx i=>lE A (by simp only[w,Op.operands];simp only[mem_toArray,mem_map];exact⟨x,i,rfl⟩);cases j:Xq E.P t (ps.toList.map λp=>(p.1,ev st.σ p.2))with
 |none=>simp only[j]at h
 |some g=>
  simp only[j]at h;refine ba (r:=.agg g.toArray) (wb:=wa) ?_ (aX A y rfl h);have e:=vE y i hp;simp only[execOp,w,e,run_bind];rw[run_build (r:=g) (by simpa using j)];rfl
def ac7{t:TypeId}{len:Nat}{ps:Array (Nat×Operand)}(I:o.op=.buildSlice t len ps)(O:bC C.n o=true)(J:Inv C a wa st u θ)
  (h:bif (ps.toList.all λp=>plain (ev st.σ p.2))&&beq ps.toList.length len then(match wm E.P t with
   |none=>False
   |some e=>match pf (E.P.cellsOf e) 0 (ps.toList.map λp=>(p.1,ev st.σ p.2))with
    |some j=>bif ble j.length 65536&&((E.P.info? e).bind (·.zero)).isSome&& !Nat.beq (E.P.cellsOf e) 0 then
      ∀(b:Nat) (w':World),rF u.toWorld w' b (.cells j.toArray e (0,0))->K (fin o st (.slice (some ⟨b,0,none⟩) len len)) (u.born b w')else False
    |none=>False)else False):sZ E C fz o st θ K Q a wa:=by
 obtain⟨hc,h⟩:=aq h;simp only[and_eq_true,beq_iff]at hc;obtain⟨hp,g⟩:=hc;have A:∀x∈ps.toList,df C.n x.2=true:=λx A=>lE O (by simp only[I,Op.operands];simp only[mem_toArray,mem_map];exact⟨x,A,rfl⟩);unfold wm at h;cases hu:E.P.underlying t with
 |none=>simp only[hu]at h
 |some d=>
  cases d<;>simp only[hu]at h;rename_i e;cases w:pf (E.P.cellsOf e) 0 (ps.toList.map λp=>(p.1,ev st.σ p.2))with
  |none=>simp only[w]at h
  |some j=>
   simp only[w]at h;obtain⟨hc,h⟩:=aq h;simp only[and_eq_true,ble_eq,not_eq_true']at hc;obtain⟨⟨h1,h2⟩,L⟩:=hc;obtain⟨z,hz⟩:=isSome_iff_exists.1 h2;have G:E.P.cellsOf e≠0:=λH=>by rw[beq_iff.2 H]at L;cases L
   obtain⟨ie,Ds⟩:=wv G;have Y:=Cu w;simp only[length_map,g]at Y;obtain⟨w',jh,dP⟩:=J.born (.cells j.toArray e (0,0));refine ba (r:=.slice (some ⟨wa.heap.size,0,none⟩) len len) (wb:=wa.alloc (.cells j.toArray e (0,0))) ?_ (aX O dP rfl (h _ _ jh));have H:=vE J A hp;simp only[execOp,I,H,run_bind,Instr.buildSlice,aT hu,andThen_ok,cK Ds];rw[if_neg (by rw[<- Y];omega)];have U:∀y:Array Value,y.size=len*E.P.cellsOf e->Instr.fill (λi=>some (i*E.P.cellsOf e,E.P.cellsOf e)) y (ps.toList.map λp=>(p.1,ev st.σ p.2))=some j.toArray:=by
    intro y nu;rw[rW _ 0 j y w (by simp only[length_map,g,zero_add];exact nu)];simp
   have hzr:(if len*E.P.cellsOf e=0 then(pure #[]:Sem (Array Value))else do pure (<- zeroValue e).cells).run E.P wa=.ok (if len*E.P.cellsOf e=0 then #[]else z.cells) wa:=by
    split
    .rfl
    .simp only[run_bind,jZ hz,andThen_ok,run_pure]
   split
   .rename_i UL;simp only[run_bind,run_pure,andThen_ok];rw[U _ (by simp)];simp only[newRow,run_bind,run_newObj,andThen_ok,run_pure];rfl
   .simp only[run_bind,jZ hz,run_pure,andThen_ok];rw[U _ (by simp)];simp only[newRow,run_bind,run_newObj,andThen_ok,run_pure];rfl
def Vv{t:TypeId}{len:Nat}{ps:Array (Nat×Operand)}(H:o.op=.buildSlice t len ps)(aJ:bC C.n o=true)(hI:Inv C a wa st u θ)
  (h:bif (ps.toList.all λp=>plain (ev st.σ p.2))&&beq ps.toList.length len then(match wm E.P t with
   |none=>False
   |some e=>match pf (E.P.cellsOf e) 0 (ps.toList.map λp=>(p.1,ev st.σ p.2))with
    |some j=>bif ble j.length 65536&&((E.P.info? e).bind (·.zero)).isSome&& !Nat.beq (E.P.cellsOf e) 0 then
      ∀(b:Nat) (w':World),rF u.toWorld w' b (.cells j.toArray e (0,0))->K (fin o st (.slice (some ⟨b,0,none⟩) len len)) (u.born b w')else False
    |none=>False)else False):∃v O,(execOp a.eval o).run E.P wa=.ok (.value v) (wa.alloc O):=by
 obtain⟨hc,h⟩:=aq h;simp only[and_eq_true,beq_iff]at hc;obtain⟨hp,g⟩:=hc;have y:∀x∈ps.toList,df C.n x.2=true:=λx y=>lE aJ (by simp only[H,Op.operands];simp only[mem_toArray,mem_map];exact⟨x,y,rfl⟩);unfold wm at h;cases hu:E.P.underlying t with
 |none=>simp only[hu]at h
 |some d=>
  cases d<;>simp only[hu]at h;rename_i e;cases r:pf (E.P.cellsOf e) 0 (ps.toList.map λp=>(p.1,ev st.σ p.2))with
  |none=>simp only[r]at h
  |some j=>
   simp only[r]at h;obtain⟨hc,h⟩:=aq h;simp only[and_eq_true,ble_eq,not_eq_true']at hc;obtain⟨⟨h1,h2⟩,I⟩:=hc;obtain⟨z,hz⟩:=isSome_iff_exists.1 h2;have A:E.P.cellsOf e≠0:=λG=>by rw[beq_iff.2 G]at I;cases I
   obtain⟨ie,Ds⟩:=wv A;have L:=Cu r;simp only[length_map,g]at L;refine⟨.slice (some ⟨wa.heap.size,0,none⟩) len len,.cells j.toArray e (0,0),?_⟩;have G:=vE hI y hp;simp only[execOp,H,G,run_bind,Instr.buildSlice,aT hu,andThen_ok,cK Ds];rw[if_neg (by rw[<- L];omega)];have J:∀w:Array Value,w.size=len*E.P.cellsOf e->Instr.fill (λi=>some (i*E.P.cellsOf e,E.P.cellsOf e)) w (ps.toList.map λp=>(p.1,ev st.σ p.2))=some j.toArray:=by
    intro w U;rw[rW _ 0 j w r (by simp only[length_map,g,zero_add];exact U)];simp
   have Y:(if len*E.P.cellsOf e=0 then(pure #[]:Sem (Array Value))else do pure (<- zeroValue e).cells).run E.P wa=.ok (if len*E.P.cellsOf e=0 then #[]else z.cells) wa:=by
    split
    .rfl
    .simp only[run_bind,jZ hz,andThen_ok,run_pure]
   split
   .rename_i UL;simp only[run_bind,run_pure,andThen_ok];rw[J _ (by simp)];simp only[newRow,run_bind,run_newObj,andThen_ok,run_pure];rfl
   .simp only[run_bind,jZ hz,run_pure,andThen_ok];rw[J _ (by simp)];simp only[newRow,run_bind,run_newObj,andThen_ok,run_pure];rfl
def cR{P:Program}{b:Builtin}{g:Array Operand}{ts:Array TypeId}{w:World}{s:Sem Value}{v:Value}{w':World}(i:o.op=.call ⟨.builtin b,g,ts⟩)
  (j:∀e,builtin b ts o.type e (g.map a.eval)=(do pure (.value (<- s)):Sem Next)) (h:s.run P w=.ok v w'):
  (execOp a.eval o).run P w=.ok (.value v) w':=by
 simp only[execOp,i,resolve,run_bind,run_pure,andThen_ok,invoke];rw[j];simp only[run_bind,h,andThen_ok,run_pure]
def vR(r:Inv C a wa st u θ):∀{xs:List Operand} {k:IntKind} {e:List Int},(∀x∈xs,df C.n x=true)->ns (ev st.σ) xs=some (k,e)->xs.map a.eval=e.map (Value.int k)/\e≠[]
 |[],_,_,_,h=>by simp[ns]at h
 |[x],k,e,g,h=>by
  simp only[ns]at h
  split at h
  .rename_i J i j
   simp only[Option.some.injEq,Prod.mk.injEq]at h
   obtain⟨rfl,rfl⟩:=h
   simp[bg r (g x (by simp)) j rfl]
  .cases h
 |x::y::l,k,e,g,h=>by
  simp only[ns]at h;split at h
  .rename_i I i H L j A;simp only[cond_eq_ite]at h;split at h
   .rename_i w;simp only[decide_eq_true_eq]at w;simp only[Option.some.injEq,Prod.mk.injEq]at h;obtain⟨rfl,rfl⟩:=h;subst w;obtain⟨G,_⟩:=vR r (xs:=y::l) (λz hz=>g z (by simp[hz])) A;refine⟨?_,by simp⟩;rw[map_cons,G,bg r (g x (by simp)) j rfl];rfl
   .cases h
  .cases h
def FC{P:Program}{w:World}{k:IntKind}:∀(e:List Int) (i:Int),((e.map (Value.int k)).foldlM Builtin.min2 (.int k i)).run P w=.ok (.int k (e.foldl (λx y=>if y<x then y else x) i)) w
 |[],i=>by simp
 |j::e,i=>by simp only[map_cons,List.foldlM_cons,Builtin.min2,run_bind,run_pure,andThen_ok,List.foldl_cons];exact FC e _
def FD{P:Program}{w:World}{k:IntKind}:∀(e:List Int) (i:Int),((e.map (Value.int k)).foldlM Builtin.max2 (.int k i)).run P w=.ok (.int k (e.foldl (λx y=>if y>x then y else x) i)) w
 |[],i=>by simp
 |j::e,i=>by simp only[map_cons,List.foldlM_cons,Builtin.max2,run_bind,run_pure,andThen_ok,List.foldl_cons];exact FD e _
def DX{P:Program}{w:World}{size m c:Nat}{xb:Option Addr}{new:List Value}(r:m=0->new=[])(j:m≠0->∃b e C T f,xb=some ⟨b,e,none⟩/\w.heap[b]?=some (.cells C T f)/\e+m*size<=C.size/\new=(C.toList.drop e).take (m*size)):
  (Builtin.firstCells size m (.slice xb m c)).run P w=.ok new.toArray w:=by
 by_cases g:m=0
 .subst g;rw[r rfl];cases xb<;>simp[Builtin.firstCells,loadCells,loadCellsFrom]
 .obtain⟨b,e,C,T,f,rfl,i,h,rfl⟩:=j g;simp only[Builtin.firstCells];exact sQ i h
def ac_{x y:Operand}{t U e e':TypeId}{base xb:Option Addr}{n cap m L:Nat}(ho:o.op=.call ⟨.builtin .append,#[x,y],#[t,U]⟩)(aJ:bC C.n o=true)(J:Inv C a wa st u θ)
  (hu:E.P.underlying t=some (.slice e)) (gw:E.P.underlying U=some (.slice e')) (hx:ev st.σ x=.slice base n cap) (hy:ev st.σ y=.slice xb m L)
  (h:PN E.P e base n cap xb m u λp q r w'=>K (fin o st (.slice p q r)) w'):sZ E C fz o st θ K Q a wa:=by
 have kx:df C.n x=true:=lE aJ (by simp[ho,Op.operands,Call.operands]);have ky:df C.n y=true:=lE aJ (by simp[ho,Op.operands,Call.operands]);have H:=bg J kx hx rfl;have Yt:=bg J ky hy rfl;obtain⟨size,bytes,zero,Dh,new,IT,Qp,hn1,ho0,ho1,ano,WJ,qp,Ev,Lp,vV,aew⟩:=h;cases O:E.P.info? e with
 |none=>simp[O]at IT
 |some i=>
  simp only[O,map_some,Option.some.injEq,Prod.mk.injEq]at IT;obtain⟨rfl,rfl,hz⟩:=IT;cases G:i.zero with
  |none=>simp[G]at hz
  |some z=>
   simp only[G,map_some,Option.some.injEq]at hz;subst hz;have hzr:(E.P.info? e).bind (·.zero)=some z:=by simp[O,G]
   have rdw:∀{A:Option Addr} {k:Nat} {j:List Value},(k*i.size≠0)->(bh A λb o=>rd u.heap b o (k*i.size)=some j)->∃b g C T f,A=some ⟨b,g,none⟩/\wa.heap[b]?=some (.cells C T f)/\g+k*i.size<=C.size/\j=(C.toList.drop g).take (k*i.size):=by
    intro A k j I hw;obtain⟨b,g,rfl,dF⟩:=gj hw;obtain⟨C,T,f,c1,c2,c3⟩:=vz J.below dF I;exact⟨b,g,C,T,f,rfl,c1,c2,c3⟩
   have rd0:∀{A:Option Addr} {k:Nat} {j:List Value},(k*i.size=0)->(bh A λb o=>rd u.heap b o (k*i.size)=some j)->j=[]:=by
    intro A k j I hw;obtain⟨b,g,rfl,dF⟩:=gj hw;rw[I]at dF;obtain⟨_,_,_,h|h⟩:=Rl J.below dF
    .exact List.eq_nil_of_length_eq_zero h.2
    .exact h.2
   have first:∀{A:Option Addr} {k c:Nat} {j:List Value} (w:World),w.heap=wa.heap->(k=0->j=[])->(k≠0->bh A λb o=>rd u.heap b o (k*i.size)=some j)->(Builtin.firstCells i.size k (.slice A k c)).run E.P w=.ok j.toArray w:=by
    intro A k c j w hw h0 h1;by_cases I:k=0
    .exact DX h0 (λh=>absurd I h)
    .by_cases qV:k*i.size=0
     .have Gf:=rd0 qV (h1 I);subst Gf;obtain⟨b,g,rfl,_⟩:=gj (h1 I);simp[Builtin.firstCells,loadCells,qV,loadCellsFrom]
     .exact DX h0 (λ_=>by rw[hw];exact rdw qV (h1 I))
   by_cases Y:n+m<=cap
   .rcases vV Y with⟨hm,hK⟩|⟨hm,fF⟩
    .subst hm;refine ba (r:=.slice base n cap) (wb:=wa) ?_ (aX aJ J rfl hK);refine cR (s:=Builtin.append_ #[t,U] o.type #[.slice base n cap,.slice xb 0 L]) ho (λ_=>by simp only[builtin,map_toArray,map_cons,map_nil,H,Yt]) ?_;have hf:=first (A:=xb) (k:=0) (c:=L) wa rfl Qp (λh=>absurd rfl h)
     have hnn:new=[]:=Qp rfl;subst hnn;simp only[Nat.add_zero]at Y;simp[Builtin.append_,aT hu,aT gw,sizeOf,typeInfo,O,Builtin.lenOf,Y,hf,storeCells];cases base<;>simp
    .obtain⟨b,g,rfl,fF⟩:=gj fF;have hf:=first (A:=xb) (k:=m) (c:=L) wa rfl Qp hn1
     by_cases aW:new=[]
     .subst aW;obtain⟨cc,T,q1,q2,q3,q4⟩:=fF;have hS:Sto u.toWorld u.toWorld b (.cells cc T (0,0)):=⟨rfl,rfl,rfl,Nat.le_refl _,q1,λ_ _ _=>rfl⟩;refine ba (r:=.slice (some ⟨b,g,none⟩) (n+m) cap) (wb:=wa) ?_ (aX aJ (u':=u.Ka u.toWorld) (θ:=θ) J rfl (q4 _ hS));refine cR (s:=Builtin.append_ #[t,U] o.type #[.slice (some ⟨b,g,none⟩) n cap,.slice xb m L]) ho (λ_=>by simp only[builtin,map_toArray,map_cons,map_nil,H,Yt]) ?_;simp[Builtin.append_,aT hu,aT gw,sizeOf,typeInfo,O,Builtin.lenOf,Y,hf,storeCells]
     .obtain⟨cc,T,w',c1,c2,dP,hK⟩:=Eb J fF aW;refine ba (r:=.slice (some ⟨b,g,none⟩) (n+m) cap) (wb:=je wa b (.cells (vc cc (g+n*i.size) new) T (0,0))) ?_ (aX aJ dP rfl hK);refine cR (s:=Builtin.append_ #[t,U] o.type #[.slice (some ⟨b,g,none⟩) n cap,.slice xb m L]) ho (λ_=>by simp only[builtin,map_toArray,map_cons,map_nil,H,Yt]) ?_;have hsr:=lK (P:=E.P) (b:=b) (o:=g+n*i.size) (T:=T) new 0 wa cc c1 (by omega) Lp;simp only[Nat.add_zero]at hsr;simp[Builtin.append_,aT hu,aT gw,sizeOf,typeInfo,O,Builtin.lenOf,Y,hf,kr,hsr]
   .have bK:cap<n+m:=by omega
    have kP:=J.drew;have xx:n+m<=grownCap wa (n+m) cap e:=grownCap_ge wa (n+m) cap e;obtain⟨w',hb,dP⟩:=kP.born (.cells (Dh++new++(Builtin.zeroCells z.cells (grownCap wa (n+m) cap e-(n+m))).toList).toArray e (0,0));have hK:=aew bK (grownCap wa (n+m) cap e) wa.heap.size (Builtin.zeroCells z.cells (grownCap wa (n+m) cap e-(n+m))).toList w' xx (by simp only[Array.length_toList,size_zeroCells];rw[<- Ev];simp) hb;refine ba (r:=.slice (some ⟨wa.heap.size,0,none⟩) (n+m) (grownCap wa (n+m) cap e)) ?_ (aX aJ dP rfl hK);refine cR (s:=Builtin.append_ #[t,U] o.type #[.slice base n cap,.slice xb m L]) ho (λ_=>by simp only[builtin,map_toArray,map_cons,map_nil,H,Yt]) ?_;have tY:=growslice_fits bK WJ;have ajm:¬(9223372036854775807<((n:Int)+(m:Int))):=by omega
    have ajn:¬(281474976710656<Builtin.nextslicecap (n+m) cap*i.bytes):=by omega
    have hf:=first (A:=xb) (k:=m) (c:=L) wa.drew rfl Qp hn1
    have hfo:=first (A:=base) (k:=n) (c:=cap) wa.drew rfl ho0 ho1
    simp[Builtin.append_,aT hu,aT gw,sizeOf,typeInfo,zeroValue,O,G,Builtin.lenOf,Y,ajm,ajn,Question.forced,hf,hfo,newRow,grownCap];congr 2;apply ext';simp
end
section
variable {E:Env} {C:Ctx} {fz:List Nat} {o:Oper} {st:St} {u:UW} {θ:Nat->Nat} {K:St->UW->Prop} {Q:Exit->Act->World->Prop} {a:Act} {wa:World}
def ac1{t:TypeId}{x:Operand}(g:o.op=.makeInterface t x)(j:bC C.n o=true)(i:Inv C a wa st u θ)
  (h:bif plain (ev st.σ x)then(match pv E.P (Instr.makeInterface t (ev st.σ x))with
   |some v=>bif plain v then K (fin o st v) u else False
   |none=>False)else False):sZ E C fz o st θ K Q a wa:=by
 have y:df C.n x=true:=lE j (by simp[g,Op.operands]);obtain⟨hp,h⟩:=aq h;cases e:pv E.P (Instr.makeInterface t (ev st.σ x))with
 |none=>simp only[e]at h
 |some v=>
  simp only[e]at h;obtain⟨w,h⟩:=aq h;refine ba (r:=v) (wb:=wa) ?_ (aX j i w h);simp only[execOp,g,oe i y hp,run_bind,xS e wa];rfl
def Oz(k:IntKind)(i:Int)(P:Program)(w:World):(asInt (.int k i)).run P w=.ok i w:=by simp[asInt,asIntOf]
def Qv(z:Array Value)(j:Nat):(Array.range (j*z.size)).map (λi=>z[i % z.size]!)=(replicate j z.toList).flatten.toArray:=by
 apply toList_inj.1;simp only[toList_map,Array.toList_range];induction j with
 |zero=>simp
 |succ j g=>
  rw[Nat.succ_mul,List.range_add,List.map_append,g,List.replicate_succ',List.flatten_append];congr 1;simp only[List.map_map,List.flatten_cons,List.flatten_nil,List.append_nil];refine List.ext_getElem (by simp) λi e h=>?_;simp only[length_map,List.length_range]at e;simp[Nat.mul_add_mod_self_right,Nat.mod_eq_of_lt e,e]
def ac0{t:TypeId}{x y:Operand}(I:o.op=.makeSlice t x y)(U:bC C.n o=true)(J:Inv C a wa st u θ)
  (h:match E.P.underlying t,ev st.σ x,ev st.σ y with
  |some (.slice e),.int _ i,.int _ j=>(match(E.P.info? e).map (λi=>(i.size,i.bytes,i.zero.map λz=>z.cells.toList))with
   |some (size,bytes,some zero)=>bif beq zero.length size&& !Nat.beq size 0 then
     0<=i/\i<=j/\j<4611686018427387904/\j.toNat*bytes<=140737488355328/\
     ∀(b:Nat) (w':World),rF u.toWorld w' b (.cells (replicate j.toNat zero).flatten.toArray e (0,0))->K (fin o st (.slice (some ⟨b,0,none⟩) i.toNat j.toNat)) (u.born b w')else False
   |_=>False)
  |_,_,_=>False):sZ E C fz o st θ K Q a wa:=by
 have hx:df C.n x=true:=lE U (by simp[I,Op.operands]);have hy:df C.n y=true:=lE U (by simp[I,Op.operands]);split at h
 .rename_i e k i k' j hu ex ey;cases g:E.P.info? e with
  |none=>simp[g]at h
  |some inf=>
   simp only[g,map_some]at h;cases hz:inf.zero with
   |none=>simp[hz]at h
   |some z=>
    simp only[hz,map_some]at h;obtain⟨hc,h1,h2,h3,h4,h⟩:=aq h;simp only[and_eq_true,beq_iff,not_eq_true']at hc;obtain⟨fK,G⟩:=hc;have w:z.cells.size=inf.size:=by simpa using fK
    have Qp:inf.size≠0:=λe0=>by rw[beq_iff.2 e0]at G;cases G
    obtain⟨w',jh,dP⟩:=J.born (.cells (replicate j.toNat z.cells.toList).flatten.toArray e (0,0));refine ba (r:=.slice (some ⟨wa.heap.size,0,none⟩) i.toNat j.toNat) (wb:=wa.alloc (.cells (replicate j.toNat z.cells.toList).flatten.toArray e (0,0))) ?_ (aX U dP rfl (h _ _ jh));have wi:IntKind.i64.wrap i=i:=IntWalk.i64_in i (by omega);have wj:IntKind.i64.wrap j=j:=IntWalk.i64_in j (by omega);have L:¬((inf.bytes:Int)*j>2 ^ 48):=by
     have:((j.toNat*inf.bytes:Nat):Int)<=140737488355328:=Int.ofNat_le.2 h4;have e1:((j.toNat:Nat):Int)=j:=Int.toNat_of_nonneg (by omega);rw[Int.natCast_mul,e1,Int.mul_comm]at this;omega
    have Ez:E.P.cellsOf e=inf.size:=by simp[Program.cellsOf,g]
    have A:=Qv z.cells j.toNat;rw[w]at A;have O:((decide (j<0)||decide ((inf.bytes:Int)*j>2 ^ 48))||decide (i<0)||decide (i>j))=false:=by
     simp only[decide_eq_false (show ¬j<0 by omega),decide_eq_false L,decide_eq_false (show ¬i<0 by omega),decide_eq_false (show ¬i>j by omega),Bool.or_false]
    have H:(E.P.info? e).bind (·.zero)=some z:=by simp[g,hz]
    simp only[execOp,I,bg J hx ex rfl,bg J hy ey rfl,run_bind,Instr.makeSlice,aT hu,andThen_ok,Oz,Bf g,wi,wj];rw[if_neg (by rw[O];simp)];by_cases Y:j.toNat*inf.size=0
    .have hj:j.toNat=0:=(Nat.mul_eq_zero.1 Y).resolve_right Qp;simp[cK g,Ez,hj,newRow];congr 2;apply ext';simp
    .simp[cK g,Ez,Y,jZ H,newRow,A,w]
 .exact h.elim
end
section
variable {E:Env} {C:Ctx} {a:Act} {wa:World} {st:St} {u:UW} {θ:Nat->Nat} {fz:List Nat} {o:Oper} {K:St->UW->Prop} {Q:Exit->Act->World->Prop}
def oK{P:Program}{g:FuncId}{e:Array Value}{w:World}(h:dJ P g=true):(callFunc g e).run P w=.ok (.enter g e) w:=by
 unfold dJ at h;cases i:P.funcs[g]? with
 |none=>simp[i]at h
 |some fn=>
  simp only[i,and_eq_true,not_eq_true']at h;obtain⟨x,r⟩:=h;cases j:fn.body with
  |none=>simp[j]at r
  |some c=>
   simp only[callFunc,run_bind,run_program,andThen_ok,i,x,j,false_eq_true,if_false,Option.isNone_some,run_pure]
def Cg{P:Program}{t:TypeId}{F:Value->Prop}(h:exV P t F):∃v,plain v=true/\F v:=by
 unfold exV at h;cases e:kinds P t with
 |none=>simp only[e]at h
 |some j=>
  simp only[e]at h;obtain⟨i,r,hp,h⟩:=re h;obtain⟨_,_,g⟩:=lY e;exact⟨_,nV hp (g.imp id λh=>by omega),h⟩
def EH{P:Program}:∀{ts:List TypeId} {F:List Value->Prop},LF P ts F->∃e,F e
 |[],_,h=>⟨[],h⟩
 |t::ts,F,h=>by
  obtain⟨v,_,h⟩:=Cg h
  obtain⟨e,h⟩:=EH h;exact⟨_,h⟩
def Jn{P:Program}{t:TypeId}{F:Value->Prop}(h:Qu P t F):∃v,plain v=true/\F v:=by
 unfold Qu at h;split at h
 .obtain⟨e,h⟩:=EH h;exact⟨_,rfl,h⟩
 .exact Cg h
def Inv.ret{F:Nat->Prop}{w' h:World}(i:Inv C a wa st u θ)(j:∀b,F b->u.gk b)(g:Out F u.toWorld wa w' h):Inv C a h st (u.ret wa.heap.size w') θ:=by
 refine i.world j g.mod g.De g.umod g.BU ?_ ?_
 .intro b e;rcases e with e|⟨_,e⟩
  .exact Nat.lt_of_lt_of_le (i.pY b e) g.mod.size
  .exact Nat.lt_of_lt_of_le e g.De.size
 .intro b e r;rcases e with e|⟨e,_⟩
  .exact e
  .omega
def jP{P:Program}{f:Value}{e:List Value}{u:UW}{K:Value->UW->Prop}:
  pX P f e u K↔∃F:Nat->Prop,(∀b,F b->u.gk b)/\Me P f e u.toWorld F λv w w'=>K v (u.ret w w'):=by
 unfold pX;split
 .rename_i g first i
  constructor
  .intro h;obtain⟨hc,F,r,h⟩:=aq h;exact⟨F,r,λw1 j=>⟨hc,h w1 j⟩⟩
  .rintro⟨F,r,h⟩;have hc:dJ P g=true:=(h u.toWorld (yG.refl _)).1;rw[hc];exact⟨F,r,λw1 j=>(h w1 j).2⟩
 .exact Iff.rfl
def Zk{f:Operand}{i:Array Operand}{ts:Array TypeId}(J:o.op=.call ⟨.value f,i,ts⟩)(U:bC C.n o=true)(I:Inv C a wa st u θ)
  (h:bif i.toList.all (λx=>plain (ev st.σ x))then
    pX E.P (ev st.σ f) (i.toList.map (ev st.σ)) u λv w'=>Qu E.P o.type λA=>v=A/\K (fin o st A) w' else False):sZ E C fz o st θ K Q a wa:=by
 obtain⟨hp,h⟩:=aq h;have kf:df C.n f=true:=lE U (by simp[J,Op.operands,Call.operands]);have ka:∀x∈i.toList,df C.n x=true:=λx hx=>lE U (by simp[J,Op.operands,Call.operands];right;simpa using hx);obtain⟨F,hF,h⟩:=jP.1 h;have h:=h wa I.below;have H:=rY I ka hp;have done:∀(e:Ending) (w:World),(∃v w',e=.returned v/\Out F u.toWorld wa w' w/\Qu E.P o.type λA=>v=A/\K (fin o st A) (u.ret wa.heap.size w'))->
   match e with
   | .returned v=>NX C fz o st θ (il E.fA o) K (a.put o.dst v) w
   | .panicked chain=>Q (.panic chain) a w
   | .outgrown=>LetsOut Q:=by
  rintro e w ⟨v,w',rfl,fP,hK⟩;obtain⟨A,lF,rfl,hK⟩:=Jn hK;exact aX U (I.ret hF fP) lF hK
 unfold yF at h;split at h
 .rename_i g first j O
  obtain⟨hc,h⟩:=h;have y:=bg I kf O rfl;have L:(execOp a.eval o).run E.P wa=.ok (.enter g (first.toList++i.toList.map (ev st.σ)++j.toList).toArray) wa:=by
   simp only[execOp,J,resolve,y,H,Deferred.ofValue,run_bind,run_pure,andThen_ok,invoke];rw[oK hc];congr 2;apply toList_inj.1;simp
  unfold sZ;rw[L];refine⟨λh=>(by cases h),callsIn_wide.2 (h.mono λe w Y=>?_)⟩;have:=done e w Y;cases e<;>exact this
 .rename_i l first j O
  obtain⟨rfl,rfl,r,hr,G,h⟩:=h;have y:=bg I kf O rfl;have L:(execOp a.eval o).run E.P wa=.ok (.round l r.fn ((r.params.zip (i.toList.map (ev st.σ)).toArray).foldl (λt (p,v)=>t.setIfInBounds p v) r.tmps) r.assign r.body) wa:=by
   simp only[execOp,J,resolve,y,H,Deferred.ofValue,run_bind,run_pure,andThen_ok,invoke];rw[show(#[]++(i.toList.map (ev st.σ)).toArray)=(i.toList.map (ev st.σ)).toArray by simp];exact run_yield hr (by simpa using G)
  unfold sZ;rw[L];refine⟨λh=>(by cases h),h.mono λe w Y=>?_⟩;have:=done e w Y;cases e<;>exact this
 .exact h.elim
def ac3{x:Operand}{name:String}{i:Array Operand}{ts:Array TypeId}(A:o.op=.call ⟨.invoke x name,i,ts⟩)(I:bC C.n o=true)(j:Inv C a wa st u θ)
  (h:bif i.toList.all (λx=>plain (ev st.σ x))then(match ev st.σ x with
    | .iface t r=>(match pv E.P (method (E.P.types.size+Made.depth) t r name)with
      |some (g,y)=>bif dJ E.P g then oB E.P g (y::i.toList.map (ev st.σ)).toArray u λv w'=>Qu E.P o.type λw=>v=w/\K (fin o st w) w' else False
      |none=>False)
    |_=>False)else False):sZ E C fz o st θ K Q a wa:=by
 obtain⟨hp,h⟩:=aq h;have L:df C.n x=true:=lE I (by simp[A,Op.operands,Call.operands]);have ka:∀x∈i.toList,df C.n x=true:=λx U=>lE I (by simp[A,Op.operands,Call.operands];right;simpa using U);split at h
 .rename_i t r Y;cases hm:pv E.P (method (E.P.types.size+Made.depth) t r name)with
  |none=>simp only[hm]at h
  |some gr=>
   obtain⟨g,y⟩:=gr;simp only[hm]at h;obtain⟨hc,F,hF,h⟩:=aq h;have G:=bg j L Y rfl;have H:=rY j ka hp;have O:(execOp a.eval o).run E.P wa=.ok (.enter g (y::i.toList.map (ev st.σ)).toArray) wa:=by
    simp only[execOp,A,resolve,G,H,run_bind,run_pure,andThen_ok,invoke];simp[callMethod,xS hm wa,oK hc];exact List.take_of_length_le (by simp)
   unfold sZ;rw[O];refine⟨λh=>(by cases h),callsIn_wide.2 ((h wa j.below).mono λe wr IK=>?_)⟩;obtain⟨v,w',rfl,fP,hK⟩:=IK;obtain⟨w,J,rfl,hK⟩:=Jn hK;exact aX I (j.ret hF fP) J hK
 .exact h.elim
def ahn{b:Builtin}{g:Array Operand}{ts:Array TypeId}(G:o.op=.call ⟨.builtin b,g,ts⟩)(I:bC C.n o=true)(j:Inv C a wa st u θ)
  (h:W1b E o st u b g.toList ts.toList K):sZ E C fz o st θ K Q a wa:=by
 have ka:∀x∈g.toList,df C.n x=true:=λx J=>lE I (by simp[G,Op.operands,Call.operands];simpa using J);obtain⟨g⟩:=g;obtain⟨ts⟩:=ts;simp only at h ka;unfold W1b at h;split at h
 .rename_i x t;have O:=ka x (by simp);split at h
  .rename_i n c A H;refine ba (r:=.int .i64 n) (wb:=wa) ?_ (aX I j rfl h);refine cR (s:=Builtin.len_ #[t] o.type #[a.eval x]) G (λ_=>by simp[builtin]) ?_;simp[Builtin.len_,aT A,bg j O H rfl,goInt]
  .rename_i s A H;refine ba (r:=.int .i64 s.size) (wb:=wa) ?_ (aX I j rfl h);refine cR (s:=Builtin.len_ #[t] o.type #[a.eval x]) G (λ_=>by simp[builtin]) ?_;simp[Builtin.len_,aT A,bg j O H rfl,goInt]
  .rename_i n e A;obtain⟨_,h⟩:=aq h;refine ba (r:=.int .i64 n) (wb:=wa) ?_ (aX I j rfl h);refine cR (s:=Builtin.len_ #[t] o.type #[a.eval x]) G (λ_=>by simp[builtin]) ?_;simp[Builtin.len_,aT A,goInt]
  .exact h.elim
 .rename_i x y t t';split at h
  .rename_i e e' base n cap xb m c A Y J U;exact ac_ G I j A Y J U h
  .exact h.elim
 .split at h
  .rename_i k i w L;refine ba (r:=.int k (w.foldl (λx y=>if y<x then y else x) i)) (wb:=wa) ?_ (aX I j rfl h);obtain⟨H,_⟩:=vR j ka L;refine cR (s:=(w.map (Value.int k)).foldlM Builtin.min2 (.int k i)) G (λ_=>?_) (FC w i);simp only[builtin,Builtin.min_,map_toArray,H,map_cons]
  .exact h.elim
 .split at h
  .rename_i k i w L;refine ba (r:=.int k (w.foldl (λx y=>if y>x then y else x) i)) (wb:=wa) ?_ (aX I j rfl h);obtain⟨H,_⟩:=vR j ka L;refine cR (s:=(w.map (Value.int k)).foldlM Builtin.max2 (.int k i)) G (λ_=>?_) (FD w i);simp only[builtin,Builtin.max_,map_toArray,H,map_cons]
  .exact h.elim
 .exact h.elim
def kt(j:bC C.n o=true)(g:Inv C a wa st u θ)(h:W1 E fz o st u K):sZ E C fz o st θ K Q a wa:=by
 cases e:o.op with
 |move x=>simp only[W1,e]at h;exact Rg (.inl e) j g h
 |assign x=>simp only[W1,e]at h;exact Rg (.inr e) j g h
 |pick c x y=>
  simp only[W1,e]at h;split at h
  .rename_i t hc;exact Zh e j g hc h
  .exact h.elim
 |alloc t=>
  simp only[W1,e]at h;cases hz:(E.P.info? t).bind (·.zero)with
  |none=>simp only[hz]at h
  |some z=>
   simp only[hz]at h;have G:(execOp a.eval o).run E.P wa=.ok (.value (.pointer (some ⟨wa.heap.size,0,none⟩))) (wa.alloc (.cells z.cells t (0,0))):=by
    simp only[execOp,e,run_bind,DY hz];rfl
   cases w:o.dst with
   |none=>simp only[w]at h
   |some k=>
    simp only[w]at h;cases hm:cT E.fA k with
    |true=>simp only[hm,cond_true]at h;exact Ia (by simp[il,e,w,hm]) j g w G h
    |false=>simp only[hm,cond_false]at h;exact H_ j g G h
 |box t x=>
  simp only[W1,e]at h;obtain⟨hp,h⟩:=aq h;have J:df C.n x=true:=lE j (by simp[e,Op.operands]);have G:(execOp a.eval o).run E.P wa=.ok (.value (.pointer (some ⟨wa.heap.size,0,none⟩))) (wa.alloc (.cells (ev st.σ x).cells t (0,0))):=by
   simp only[execOp,e,run_bind,MM,oe g J hp];rfl
  cases w:o.dst with
  |none=>simp only[w]at h
  |some k=>
   simp only[w]at h;cases hm:cT E.fA k with
   |true=>simp only[hm,cond_true]at h;exact Ia (by simp[il,e,w,hm]) j g w G h
   |false=>simp only[hm,cond_false]at h;exact H_ j g G h
 |build t ps=>simp only[W1,e]at h;exact ac8 e j g h
 |buildSlice t len ps=>simp only[W1,e]at h;exact ac7 e j g h
 |load t x=>
  simp only[W1,e]at h;cases H:kinds E.P t with
  |none=>simp only[H]at h
  |some ks=>simp only[H]at h;exact Zi e j g H h
 |store t x y=>simp only[W1,e]at h;exact Vs e j g h
 |nilCheck x=>simp only[W1,e]at h;exact acZ e j g h
 |binOp op t x y O=>simp only[W1,e]at h;exact ac9 e j g h
 |unOp op t x=>simp only[W1,e]at h;exact ahk h e j g
 |convert s d x=>simp only[W1,e]at h;exact Zj e j g h
 |makeInterface t x=>simp only[W1,e]at h;exact ac1 e j g h
 |makeSlice t x y=>simp only[W1,e]at h;exact ac0 e j g h
 |makeFunc fn p q=>simp only[W1,e]at h;exact ac2 e j g h
 |slice t x Y hi U=>simp only[W1,e]at h;exact Vt h e j g
 |fieldAddr t x f=>
  simp only[W1,e]at h;cases w:Dv E.P t f with
  |none=>simp only[w]at h
  |some d=>simp only[w]at h;exact ahm e j g w h
 |field t x f=>simp only[W1,e]at h;exact ac5 e j g h
 |indexAddr t x i=>simp only[W1,e]at h;exact ahl e j g h
 |index t x i=>simp only[W1,e]at h;exact ac4 e j g h
 |extract x i=>simp only[W1,e]at h;exact ac6 e j g h
 |call c=>
  simp only[W1,e]at h;obtain⟨A,I,L⟩:=c;cases A with
  |builtin b=>simp only at h;exact ahn e j g h
  |value f=>simp only at h;exact Zk e j g h
  |invoke r m=>simp only at h;exact ac3 e j g h
 |_=>simp only[W1,e]at h
end
structure Mx(n:Nat)(fz ws:List Nat)(aht:Nat->Prop)(st eV s:St):Prop where
 slot:∀i,i<n->s.σ i=aU\/s.σ i=eV.σ i
 dD:∀k m,(k,m)∈s.D->(k,m)∈eV.D/\(¬aht k->∀j,j<m->s.σ (gx k j)=aU\/s.σ (gx k j)=eV.σ (gx k j))
 fk:∀i,i<n->∀k o,s.σ i=dU k o->∃m,(k,m)∈s.D
 cu:∀i,i<n->i∉ws->s.σ i=st.σ i
 abL:∀x,x∈st.D->x∈s.D
 frz:∀k,k∈fz->∀m,(k,m)∈st.D->∀j,j<m->s.σ (gx k j)=st.σ (gx k j)
def rn(l:Live)(k:Nat):Prop:=∃e,(k,Kd.box e)∈l
def tB(σ:Fr)(ws:List Nat)(k j:Nat):vD σ ws (gx k j)=σ (gx k j):=by
 have:blt (gx k j) 65536=false:=by
  cases h:blt (gx k j) 65536 with
  |false=>rfl
  |true=>have:=iY.1 h;have:=jv k j;omega
 simp only[vD,this,Bool.false_and,cond_false]
open Classical in
def OH(σ:Fr)(ws:List Nat)(i:Nat)(g:i<65536):vD σ ws i=if i∈ws then aU else σ i:=by
 have h:blt i 65536=true:=iY.2 g;by_cases e:i∈ws
 .simp only[vD,h,eg.2 e,Bool.and_true,cond_true,if_pos e]
 .have:cT ws i=false:=by cases hm:cT ws i with|false=>rfl|true=>exact absurd (eg.1 hm) e
  simp only[vD,this,Bool.and_false,cond_false,if_neg e]
open Classical in
def za:∀(l:List (Nat×Nat)) (σ:Fr) (i:Nat),i<65536->fx σ l i=if(∃m,(i,m)∈l)then dU i 0 else σ i
 |[],σ,i,_=>by simp[fx]
 |(k,m)::l,σ,i,r=>by
  simp only[fx]
  rw[za l _ i r]
  by_cases h:∃m,(i,m)∈l
  .rw[if_pos h,if_pos (by obtain⟨j,h⟩:=h;exact⟨j,by simp[h]⟩)]
  .rw[if_neg h,gU _ _ _ r]
   by_cases e:i=k
   .subst e;rw[fj,if_pos ⟨m,by simp⟩]
   .rw[cw _ _ e,if_neg]
    rintro⟨j,g⟩
    simp only[mem_cons,Prod.mk.injEq]at g
    rcases g with⟨w,_⟩|g
    .exact e w
    .exact h ⟨j,g⟩
def oJ:∀(l:List (Nat×Nat)) (σ:Fr) (k j:Nat),j<65536->k<65536->(∀x∈l,x.1<65536/\x.2<=65536)->
  (fx σ l (gx k j)=aU/\∃m,(k,m)∈l)\/fx σ l (gx k j)=σ (gx k j)
 |[],σ,k,j,_,_,_=>.inr rfl
 |(g,m)::l,σ,k,j,w,J,y=>by
  simp only[fx]
  have L:=y (g,m) (by simp)
  rcases oJ l (rG (jd σ g (dU g 0)) g 0 (replicate m aU)) k j w J (λx I=>y x (by simp[I]))with⟨h,H,G⟩|h
  .exact .inl ⟨h,H,by simp[G]⟩
  .rw[h];by_cases e:k=g
   .subst e;by_cases A:j<m
    .have:=te (σ:=jd σ k (dU k 0)) (k:=k) (replicate m aU) 0 j (by simpa using A) (by simpa using L.2);rw[zero_add]at this;rw[this];refine .inl ⟨?_,m,by simp⟩;simp[List.getD_eq_getElem?_getD,A]
    .right;rw[dM,cw]
     .have:=jv k j;omega
     .intro i _ r e;have:=(iU w (by simp at r;omega) e).2;simp at r;omega
   .right;rw[dM,cw]
    .have:=jv k j;omega
    .intro i _ r O;exact e (iU w (by simp at r;omega) O).1
def pH:∀(l:List (Nat×Nat)) (σ:Fr) (k m j:Nat),(k,m)∈l->j<m->(∀x∈l,x.1<65536/\x.2<=65536)->fx σ l (gx k j)=aU
 |[],_,_,_,_,h,_,_=>by simp at h
 |(I,H)::l,σ,k,m,j,h,r,i=>by
  simp only[fx]
  by_cases y:∃e,(k,e)∈l/\j<e
  .obtain⟨e,A,G⟩:=y
   exact pH l _ k e j A G (λx g=>i x (by simp[g]))
  .simp only[mem_cons,Prod.mk.injEq]at h;rcases h with⟨rfl,rfl⟩|h
   .have w:=i (k,m) (by simp);rcases oJ l (rG (jd σ k (dU k 0)) k 0 (replicate m aU)) k j (by omega) w.1 (λx g=>i x (by simp[g]))with⟨h,_⟩|h
    .exact h
    .rw[h];have:=te (σ:=jd σ k (dU k 0)) (k:=k) (replicate m aU) 0 j (by simpa using r) (by simpa using w.2);rw[zero_add]at this;rw[this];simp[List.getD_eq_getElem?_getD,r]
   .exact absurd ⟨m,h,r⟩ y
def vr{st:St}:∀{l:List (Nat×Nat)},k_ st l=true->∀k m,(k,m)∈l->(k,m)∈st.D/\st.σ k=dU k 0
 |[],_,_,_,h=>by simp at h
 |(r,i)::l,h,k,m,e=>by
  simp only[k_,and_eq_true,pb]at h
  simp only[mem_cons,Prod.mk.injEq]at e
  rcases e with⟨rfl,rfl⟩|e
  .refine⟨h.1.1,?_⟩
   have:=h.1.2
   unfold Sj at this;split at this
   .rename_i j o g;simp only[and_eq_true,beq_iff]at this;obtain⟨rfl,rfl⟩:=this;exact g
   .cases this
  .exact vr h.2 k m e
def qQ{fz:List Nat}{D:List (Nat×Nat)}{c:Cut}(h:oU fz D c=true):
  (∀t e,(t,Kd.box e)∈c.live->t∉fz/\t<65536/\e.length<=65536)/\(∀x∈c.live,x.1<65536)/\(∀k m,(k,m)∈c.fN->k∉fz/\k<65536/\(k,m)∈D):=by
 simp only[oU,and_eq_true,List.all_eq_true]at h;obtain⟨j,I⟩:=h;refine⟨λt e y=>?_,λx w=>?_,λk m A=>?_⟩
 .have:=j _ y;simp only[and_eq_true,not_eq_true',iY,ble_eq]at this;exact⟨λg=>(by rw[eg.2 g]at this;cases this.1.1),this.1.2,this.2⟩
 .obtain⟨t,r⟩:=x;have:=j _ w;cases r<;>simp only[and_eq_true,iY]at this
  .exact this.1
  .exact this.1
  .exact this.1.2
 .obtain⟨⟨i,H⟩,G⟩:=I _ A;exact⟨λg=>(by rw[eg.2 g]at i;cases i),iY.1 H,pb.1 G⟩
def Ld{fz:List Nat}{D:List (Nat×Nat)}{c:Cut}{k m:Nat}(h:(k,m)∈D)(j:¬rn c.live k)(i:∀m,(k,m)∉c.fN):k∈freeze fz D c:=by
 unfold freeze;rw[List.mem_append];right;rw[List.mem_filter,mem_map];refine⟨⟨_,h,rfl⟩,?_⟩;simp only[not_eq_true',LH,Bool.or_eq_false_iff,List.any_eq_false];refine⟨λx e=>?_,λx e=>?_⟩
 .obtain⟨t,g⟩:=x;cases g<;>simp only[false_eq_true,not_false_eq_true,beq_iff];rintro rfl;exact j ⟨_,e⟩
 .obtain⟨t,r⟩:=x;simp only[beq_iff];rintro rfl;exact i _ e
section
variable {C:Ctx} {a a1:Act} {wa wa1:World} {st eV:St} {u u1:UW} {θ θ1:Nat->Nat} {fz ws:List Nat} {c:Cut}
open Classical in
def Mx.base(I:Inv C a wa st u θ)(Y:cN C.n (freeze fz st.D c) ws st eV)(hl:oU fz st.D c=true)(hs:k_ eV c.fN=true):
  Mx C.n fz ws (rn c.live) st eV {st with σ:=fx (vD st.σ ws) c.fN}:=by
 obtain⟨l1,l2,L⟩:=qQ hl;have Gg:=vr hs;have hn:=I.jf;have U:∀x∈c.fN,x.1<65536/\x.2<=65536:=λx g=>⟨(L x.1 x.2 g).2.1,(I.boxes x.1 x.2 (L x.1 x.2 g).2.2).1⟩;have slot:∀i,i<C.n->fx (vD st.σ ws) c.fN i=if(∃m,(i,m)∈c.fN)then dU i 0 else if i∈ws then aU else st.σ i:=by
  intro i r;rw[za _ _ _ (by omega)];by_cases h:∃m,(i,m)∈c.fN
  .rw[if_pos h,if_pos h]
  .rw[if_neg h,if_neg h,OH _ _ _ (by omega)]
 refine⟨?_,?_,?_,?_,λx g=>g,?_⟩
 .intro i r;simp only;rw[slot i r];split
  .rename_i h;obtain⟨m,h⟩:=h;exact .inr (Gg i m h).2.symm
  .split
   .exact .inl rfl
   .rename_i hw;exact .inr (Y.slot i r hw).symm
 .intro k m G;refine⟨Y.D _ G,λhp j hj=>?_⟩;have O:=(I.boxes k m G).1;have A:(vD st.σ ws) (gx k j)=st.σ (gx k j):=tB _ _ _ _;by_cases J:∃w,(k,w)∈c.fN
  .obtain⟨w,J⟩:=J;have hD:=(L k w J).2.2;obtain rfl:w=m:=(I.inj _ _ _ _ hD G rfl).2;exact .inl (pH _ _ k w j J hj U)
  .right;have h1:=Y.fz k (Ld G hp (λm O=>J ⟨m,O⟩)) m G j hj;simp only;by_cases hk6:k<65536
   .rcases oJ c.fN (vD st.σ ws) k j (by omega) hk6 U with⟨_,h⟩|h
    .exact absurd h J
    .rw[h,A,h1]
   .have key:∀(l:List (Nat×Nat)) (σ:Fr),(∀x∈l,x.1<65536/\x.2<=65536)->fx σ l (gx k j)=σ (gx k j):=by
     intro l;induction l with
     |nil=>intro σ _;rfl
     |cons x l ih=>
      intro σ g;obtain⟨k',w⟩:=x;have H:=g (k',w) (by simp);simp only[fx];rw[ih _ (λy hy=>g y (by simp[hy])),dM,cw]
      .have:=jv k j;have:=H.1;omega
      .intro i _ r e;have:=(iU (by omega) (by simp at r;have:=H.2;omega) e).1;have:=H.1;omega
    rw[key _ _ U,A,h1]
 .intro i r k o e;simp only at e;rw[slot i r]at e;split at e
  .rename_i h;obtain⟨m,h⟩:=h;simp only[Value.complex.injEq,true_and]at e;exact⟨m,by rw[<- e.1];exact(L i m h).2.2⟩
  .split at e
   .cases e
   .exact I.jw i r k o e
 .intro i r hw;simp only;rw[slot i r];split
  .rename_i h;obtain⟨m,h⟩:=h;rw[<- Y.slot i r hw];exact(Gg i m h).2.symm
  .rfl
 .intro k G m O j hj;have zh:=(I.boxes k m O).1;have A:(vD st.σ ws) (gx k j)=st.σ (gx k j):=tB _ _ _ _;have key:∀(l:List (Nat×Nat)) (σ:Fr),(∀x∈l,x.1≠k/\x.1<65536/\x.2<=65536)->fx σ l (gx k j)=σ (gx k j):=by
   intro l;induction l with
   |nil=>intro σ _;rfl
   |cons x l ih=>
    intro σ g;obtain⟨k',w⟩:=x;have H:=g (k',w) (by simp);simp only[fx];rw[ih _ (λy hy=>g y (by simp[hy])),dM,cw]
    .have:=jv k j;have:=H.2.1;omega
    .intro i _ r e;exact H.1 (iU (by omega) (by simp at r;have:=H.2.2;omega) e).1.symm
  simp only;rw[key _ _ (λx g=>⟨λe=>(L x.1 x.2 g).1 (e▸G),U x g⟩),A]
def Mx.set{s:St}{x:Nat×Kd}{l:Live}{v:x.2.T}(h:Mx C.n fz ws (rn (x::l)) st eV s)(kP:Inv C a1 wa1 eV u1 θ1)(I:zr eV x=some v)(hx:x.1<65536)(hfz:∀A,x.2=.box A->x.1∉fz)
  (hI:Inv C a wa st u θ) (hP:cN C.n (freeze fz st.D c) ws st eV):
  Mx C.n fz ws (rn l) st eV (kO s x v):=by
 obtain⟨t,kd⟩:=x;have hn:=kP.jf;have Ef:∀(w:Value),plain w=true->eV.σ t=w->(∀k,rn ((t,kd)::l) k->rn l k)->Mx C.n fz ws (rn l) st eV {s with σ:=jd s.σ t w}:=by
  intro w hp Y hbx;refine⟨?_,?_,?_,?_,h.abL,?_⟩
  .intro i H;simp only;by_cases e:i=t
   .subst e;rw[fj];exact .inr Y.symm
   .rw[cw _ _ e];exact h.slot i H
  .intro k m r;refine⟨(h.dD k m r).1,λAp j G=>?_⟩;simp only;have:=jv k j;rw[cw _ _ (by simp only at hx;omega)];exact(h.dD k m r).2 (λL=>Ap (hbx k L)) j G
  .intro i H k o e;simp only at e;by_cases O:i=t
   .subst O;rw[fj]at e;exact absurd e (kg hp k o)
   .rw[cw _ _ O]at e;exact h.fk i H k o e
  .intro i H Wk;simp only;by_cases e:i=t
   .subst e;rw[fj,<- Y];exact hP.slot i H Wk
   .rw[cw _ _ e];exact h.cu i H Wk
  .intro k r m U j G;simp only;have:=jv k j;rw[cw _ _ (by simp only at hx;omega)];exact h.frz k r m U j G
 cases kd with
 |one k=>
  simp only[zr]at I;exact Ef _ (K1.VI k v) (K1.Nu I) (by rintro g ⟨A,r⟩;simp only[mem_cons,Prod.mk.injEq,reduceCtorEq,and_false,false_or]at r;exact⟨A,r⟩)
 |agg A=>
  simp only[zr]at I;split at I
  .rename_i arr he;refine Ef _ rfl ?_ (by rintro g ⟨A,r⟩;simp only[mem_cons,Prod.mk.injEq,reduceCtorEq,and_false,false_or]at r;exact⟨A,r⟩);rw[he];have:=GX I;congr 1;apply toList_inj.1;simpa using this
  .cases I
 |box A=>
  simp only[zr]at I;split at I
  .rename_i k o he;simp only[cond_eq_ite]at I;split at I
   .rename_i hc;simp only[and_eq_true,beq_iff,pb]at hc;obtain⟨⟨rfl,rfl⟩,hD⟩:=hc;have BS:=GX I;have hlen:(Mf A v).length=A.length:=uy A v;have amY:=(kP.boxes k A.length hD).1;have pR:∀(σ:Fr) (j:Nat),j<A.length->rG σ k 0 (Mf A v) (gx k j)=eV.σ (gx k j):=by
     intro σ j G;have h1:=te (σ:=σ) (k:=k) (Mf A v) 0 j (by omega) (by omega);rw[zero_add]at h1;rw[h1,List.getD_eq_getElem?_getD,<- BS,vC _ _ _ _ _ G];simp
    have aed:∀(σ:Fr) (g j:Nat),g≠k->j<65536->rG σ k 0 (Mf A v) (gx g j)=σ (gx g j):=by
     intro σ g j aW G;rw[dM];intro i _ H e;exact aW (iU G (by omega) e).1
    have J:∀y,y∈(kO s (k,.box A) v).D↔y∈s.D\/y=(k,A.length):=by
     intro y;simp only[kO,cond_eq_ite,pb];split
     .rename_i fL;exact⟨λh=>.inl h,λh=>h.elim id λe=>e▸fL⟩
     .simp only[mem_cons];exact⟨λh=>h.symm,λh=>h.symm⟩
    simp only at hx;refine⟨?_,?_,?_,?_,?_,?_⟩
    .intro i H;simp only[kO];rw[gU _ _ _ (by omega)];by_cases e:i=k
     .subst e;rw[fj];exact .inr he.symm
     .rw[cw _ _ e];exact h.slot i H
    .intro g m r;rw[J]at r;rcases r with r|r
     .refine⟨(h.dD g m r).1,λhp j G=>?_⟩;have hm6:=(kP.boxes g m (h.dD g m r).1).1;simp only[kO];by_cases e:g=k
      .subst e;obtain rfl:m=A.length:=(kP.inj _ _ _ _ (h.dD g m r).1 hD rfl).2;exact .inr (pR _ j G)
      .have:=jv g j;rw[aed _ _ _ e (by omega),cw _ _ (by omega)];refine(h.dD g m r).2 (λL=>hp ?_) j G;obtain⟨Wb,L⟩:=L;simp only[mem_cons,Prod.mk.injEq]at L;rcases L with⟨O,_⟩|L
       .exact absurd O e
       .exact⟨Wb,L⟩
     .simp only[Prod.mk.injEq]at r;obtain⟨rfl,rfl⟩:=r;exact⟨hD,λ_ j G=>.inr (by simp only[kO];exact pR _ j G)⟩
    .intro i H g o e;simp only[kO]at e;rw[gU _ _ _ (by omega)]at e;by_cases O:i=k
     .subst O;rw[fj]at e;simp only[Value.complex.injEq,true_and]at e;exact⟨A.length,(J _).2 (.inr (by rw[e.1]))⟩
     .rw[cw _ _ O]at e;obtain⟨m,U⟩:=h.fk i H g o e;exact⟨m,(J _).2 (.inl U)⟩
    .intro i H Y;simp only[kO];rw[gU _ _ _ (by omega)];by_cases e:i=k
     .subst e;rw[fj,<- hP.slot i H Y];exact he.symm
     .rw[cw _ _ e];exact h.cu i H Y
    .intro y hy;exact(J y).2 (.inl (h.abL y hy))
    .intro g bZ m U j G;have aW:g≠k:=λe=>hfz A rfl (e▸bZ);have hm6:=(hI.boxes g m U).1;have:=jv g j;simp only[kO];rw[aed _ _ _ aW (by omega),cw _ _ (by omega)];exact h.frz g bZ m U j G
   .cases I
  .cases I
def Mx.acW:∀{l:Live} {s:St} {v:Tup l},Mx C.n fz ws (rn l) st eV s->Inv C a1 wa1 eV u1 θ1->gd eV l=some v->(∀x∈l,x.1<65536)->(∀t i,(t,Kd.box i)∈l->t∉fz)->
  Inv C a wa st u θ->cN C.n (freeze fz st.D c) ws st eV->Mx C.n fz ws (rn []) st eV (rL s l v)
 |[],s,v,h,_,_,_,_,_,_=>h
 |[x],s,v,h,j,g,r,w,G,A=>by
  simp only[gd]at g
  exact h.set (l:=[]) j g (r x (by simp)) (λi e=>w x.1 i (by rw[<- e];simp)) G A
 |x::y::l,s,v,h,j,g,r,w,G,A=>by
  simp only[gd]at g
  split at g
  .rename_i p q hp H
   simp only[Option.some.injEq]at g
   subst g
   have I:=h.set (l:=y::l) j hp (r x (by simp)) (λi e=>w x.1 i (by rw[<- e];simp)) G A
   exact Mx.acW (l:=y::l) I j H (λz hz=>r z (by simp[hz])) (λt i hz=>w t i (by simp[hz])) G A
  .cases g
def Lc{v:Tup c.live}(y:Inv C a wa st u θ)(r:Inv C a1 wa1 eV u1 θ1)(x:cN C.n (freeze fz st.D c) ws st eV)(w:oU fz st.D c=true)(I:k_ eV c.fN=true)
  (L:gd eV c.live=some v):Inv C a1 wa1 (mix st ws c v) u1 θ1/\cN C.n fz ws st (mix st ws c v):=by
 obtain⟨G,A,O⟩:=qQ w;have h:=Mx.acW (Mx.base y x w I) r L A (λt j H=>(G t j H).1) y x;refine⟨r.Db ⟨h.slot,λk m g=>⟨(h.dD k m g).1,(h.dD k m g).2 (by rintro⟨j,g⟩;simp at g)⟩,λi J k o e _=>h.fk i J k o e⟩,⟨h.cu,h.abL,h.frz⟩⟩
def yZ{s:St}{x:Nat×Kd}{v:x.2.T}{k j:Nat}(y:∀g,x≠(k,.box g))(A:j<65536)(w:x.1<65536)(h:∀g,x.2=.box g->g.length<=65536):(kO s x v).σ (gx k j)=s.σ (gx k j):=by
 obtain⟨t,r⟩:=x;have:=jv k j;simp only at w;cases r with
 |one H=>simp only[kO];rw[cw _ _ (by omega)]
 |agg g=>simp only[kO];rw[cw _ _ (by omega)]
 |box g=>
  simp only[kO];have I:=h g rfl;rw[dM,cw _ _ (by omega)];intro i _ G e;rw[uy]at G;have:=(iU A (by omega) e).1;exact y g (by rw[this])
def sL:∀{l:Live} {s:St} {v:Tup l} {k j:Nat},¬rn l k->j<65536->(∀x∈l,x.1<65536)->(∀t g,(t,Kd.box g)∈l->g.length<=65536)->(rL s l v).σ (gx k j)=s.σ (gx k j)
 |[],_,_,_,_,_,_,_,_=>rfl
 |[x],s,v,k,j,A,w,r,i=>yZ (λg e=>A ⟨g,by simp[e]⟩) w (r x (by simp)) (λg e=>i x.1 g (by rw[<- e];simp))
 |x::y::l,s,v,k,j,A,w,r,i=>by
  simp only[rL]
  rw[sL (l:=y::l) (λ⟨g,h⟩=>A ⟨g,by simp only[mem_cons]at h |-;exact .inr h⟩) w (λz hz=>r z (by simp only[mem_cons]at hz |-;exact .inr hz)) (λt g hz=>i t g (by simp only[mem_cons]at hz |-;exact .inr hz))]
  exact yZ (λg e=>A ⟨g,by simp[e]⟩) w (r x (by simp)) (λg e=>i x.1 g (by rw[<- e];simp))
def VX(J:Inv C a wa st u θ)(hl:oU fz st.D c=true)(ws:List Nat)(v:Tup c.live):∀k,k∈freeze fz st.D c->∀m,(k,m)∈st.D->∀j,j<m->(mix st ws c v).σ (gx k j)=st.σ (gx k j):=by
 intro k g m hm j hj;obtain⟨I,U,A⟩:=qQ hl;have zh:=(J.boxes k m hm).1;have hb:∀x∈c.fN,x.1<65536/\x.2<=65536:=λx r=>⟨(A x.1 x.2 r).2.1,(J.boxes x.1 x.2 (A x.1 x.2 r).2.2).1⟩;have L:¬rn c.live k/\∀m,(k,m)∉c.fN:=by
  unfold freeze at g;rw[List.mem_append]at g;rcases g with g|g
  .exact⟨λ⟨w,h⟩=>(I k w h).1 g,λm h=>(A k m h).1 g⟩
  .rw[List.mem_filter]at g;have G:=g.2;simp only[not_eq_true',LH,Bool.or_eq_false_iff,List.any_eq_false]at G;refine⟨λ⟨w,h⟩=>?_,λm h=>?_⟩
   .exact G.1 _ h (beq_iff.2 rfl)
   .exact G.2 _ h (beq_iff.2 rfl)
 have key:∀(l:List (Nat×Nat)) (σ:Fr),(∀x∈l,x.1≠k/\x.1<65536/\x.2<=65536)->fx σ l (gx k j)=σ (gx k j):=by
  intro l;induction l with
  |nil=>intro σ _;rfl
  |cons x l ih=>
   intro σ r;obtain⟨Y,O⟩:=x;have H:=r (Y,O) (by simp);simp only[fx];rw[ih _ (λy hy=>r y (by simp[hy])),dM,cw]
   .have:=jv k j;have:=H.2.1;omega
   .intro i _ hi e;exact H.1 (iU (by omega) (by simp at hi;have:=H.2.2;omega) e).1.symm
 unfold mix;rw[sL L.1 (by omega) U (λt w h=>(I t w h).2.2)];simp only;rw[key _ _ (λx r=>⟨λe=>L.2 x.2 (by rw[<- e];exact r),hb x r⟩),tB]
end
end Go.aP
