import Derived.OrdersHeld
import Derived.OrdersIn
import Derived.RangeFuncNested
open Array (getElem?_eq_getElem length_toList replicate)
open Bool (and_eq_true cond_eq_ite false_eq_true not_eq_true' or_eq_true)
open List (all_eq_true drop_eq_getElem_cons drop_zero length_cons length_nil mem_cons range take_of_length_le)
open Nat (beq ble ble_eq blt le_refl le_trans lt_of_lt_of_le zero_add)
open Go.Result (andThen_ok)
open Go.Sem (run_bind run_pure)
set_option linter.all false
namespace Go.aP
open Go.RowKit
abbrev Fr:=Nat->Value
abbrev IK:=Array Obj
@[reducible] def dK(k o:Nat):Value:=.complex .f64 k o
@[reducible] def aY:Value:=.complex .f32 0 0
def plain:Value->Bool
 | .complex _ _ _=>false
 |_=>true
def one:Value->Bool
 | .agg _| .tuple _=>false
 |_=>true
def R(θ:Nat->Nat)(v r:Value):Prop:=
 match v with
 | .complex .f64 k o=>r=.pointer (some ⟨θ k,o,none⟩)
 | .complex .f32 _ _=>True
 |v=>r=v
theorem iI{θ:Nat->Nat}{v r:Value}(h:plain v=true):R θ v r↔r=v:=by
 cases v<;>simp_all [R,plain]
theorem oJ{θ:Nat->Nat}{v:Value}(h:plain v=true):R θ v v:=(iI h).2 rfl
def iM(σ:Fr)(t:Nat)(v:Value):Fr:=λi=>bif beq i t then v else σ i
@[simp] theorem eT(σ:Fr)(t:Nat)(v:Value):iM σ t v t=v:=by simp[iM]
theorem cj(σ:Fr){t i:Nat}(v:Value)(h:i≠t):iM σ t v i=σ i:=by
 have:beq i t=false:=by
  cases hb:beq i t with
  |false=>rfl
  |true=>exact absurd (Nat.eq_of_beq_eq_true hb) h
 simp[iM,this]
def put(σ:Fr)(d:Option Nat)(v:Value):Fr:=match d with|some t=>iM σ t v|none=>σ
def gx(k j:Nat):Nat:=(k+1)*65536+j
def qX(σ:Fr)(k:Nat):Nat->List Value->Fr
 |_,[]=>σ
 |j,v::vs=>qX (iM σ (gx k j) v) k (j+1) vs
def wW(σ:Fr)(k:Nat):Nat->Nat->List Value
 |_,0=>[]
 |j,m+1=>σ (gx k j)::wW σ k (j+1) m
theorem sX(σ:Fr)(k:Nat):∀(m j:Nat),(wW σ k j m).length=m
 |0,_=>rfl
 |m+1,j=>by simp[wW,sX σ k m (j+1)]
theorem uW(σ:Fr)(k:Nat):∀(m j i:Nat),i<m->(wW σ k j m)[i]?=some (σ (gx k (j+i)))
 |m+1,j,0,_=>by simp[wW]
 |m+1,j,i+1,h=>by
  simp only[wW,List.getElem?_cons_succ]
  rw[uW σ k m (j+1) i (by omega)]
  congr 3;omega
def ev(σ:Fr):Operand->Value
 | .tmp t=>σ t
 | .const v=>v
 | .global g=>.pointer (some ⟨g,0,none⟩)
 | .func f=>.func (.func f) #[] #[]
def rd(H:IK)(b o n:Nat):Option (List Value):=
 match H[b]? with
 |some (.cells c _ _)=>if o+n<=c.size then some ((c.toList.drop o).take n)else none
 |_=>none
inductive K1 where
 |int (k:IntKind)|bool|str|slice|ptr|fn|map|val
 deriving DecidableEq,Inhabited
@[reducible] def K1.T:K1->Type
 | .int _=>Int
 | .bool=>Bool
 | .str=>ByteArray
 | .slice=>Option Addr×Nat×Nat
 | .ptr=>Option Addr
 | .fn=>Fn×Array Value×Array Value
 | .map=>Option Nat
 | .val=>Empty
def K1.v:(k:K1)->k.T->Value
 | .int k,x=>.int k x
 | .bool,x=>.bool x
 | .str,x=>.string x
 | .slice,x=>.slice x.1 x.2.1 x.2.2
 | .ptr,x=>.pointer x
 | .fn,x=>.func x.1 x.2.1 x.2.2
 | .map,x=>.map x
 | .val,x=>Empty.elim x
def K1.get:(k:K1)->Value->Option k.T
 | .int k,.int k' x=>if k=k' then some x else none
 | .bool,.bool x=>some x
 | .str,.string x=>some x
 | .slice,.slice a n c=>some (a,n,c)
 | .ptr,.pointer x=>some x
 | .fn,.func f a b=>some (f,a,b)
 | .map,.map x=>some x
 |_,_=>none
theorem K1.Mw{k:K1}{v:Value}{x:k.T}(h:k.get v=some x):v=k.v x:=by
 cases k<;>cases v<;>simp_all [K1.get,K1.v]
 all_goals (first|exact h.2|(subst h;exact⟨rfl,rfl,rfl⟩))
theorem K1.Uu(k:K1)(x:k.T):plain (k.v x)=true:=by cases k<;>first|rfl|exact Empty.elim x
def exK:K1->(Value->Prop)->Prop
 | .int k,F=>∃x:Int,F (.int k x)
 | .bool,F=>∃x:Bool,F (.bool x)
 | .str,F=>∃x:ByteArray,F (.string x)
 | .slice,F=>∃(a:Option Addr) (n c:Nat),F (.slice a n c)
 | .ptr,F=>∃a:Option Addr,F (.pointer a)
 | .fn,F=>∃(f:Fn) (a b:Array Value),F (.func f a b)
 | .map,F=>∃a:Option Nat,F (.map a)
 | .val,_=>False
def ZJ:List K1->(List Value->Prop)->Prop
 |[],F=>F []
 |k::ks,F=>exK k λv=>ZJ ks λvs=>F (v::vs)
theorem Sa{k:K1}{F:Value->Prop}(h:exK k F):∃v,plain v=true/\one v=true/\F v:=by
 cases k<;>simp only[exK]at h
 case int=>obtain⟨x,h⟩:=h;exact⟨_,rfl,rfl,h⟩
 case bool=>obtain⟨x,h⟩:=h;exact⟨_,rfl,rfl,h⟩
 case str=>obtain⟨x,h⟩:=h;exact⟨_,rfl,rfl,h⟩
 case slice=>obtain⟨a,n,c,h⟩:=h;exact⟨_,rfl,rfl,h⟩
 case ptr=>obtain⟨x,h⟩:=h;exact⟨_,rfl,rfl,h⟩
 case fn=>obtain⟨f,a,b,h⟩:=h;exact⟨_,rfl,rfl,h⟩
 case map=>obtain⟨x,h⟩:=h;exact⟨_,rfl,rfl,h⟩
theorem qC:∀{ks:List K1} {F:List Value->Prop},ZJ ks F->∃vs,vs.length=ks.length/\(∀v∈vs,plain v=true/\one v=true)/\F vs
 |[],_,h=>⟨[],rfl,by simp,h⟩
 |k::ks,F,h=>by
  obtain⟨v,hp,h1,h⟩:=Sa h
  obtain⟨vs,hl,xw,h⟩:=qC h;exact⟨v::vs,by simp[hl],by simpa using⟨⟨hp,h1⟩,xw⟩,h⟩
inductive Kd where
 |one (k:K1)
 |agg (ks:List K1)
 |box (ks:List K1)
 deriving DecidableEq,Inhabited
@[reducible] def TL:List K1->Type
 |[]=>Unit
 |[k]=>k.T
 |k::k'::ks=>k.T×TL (k'::ks)
def Lc:(ks:List K1)->TL ks->List Value
 |[],_=>[]
 |[k],x=>[k.v x]
 |k::k'::ks,x=>k.v x.1::Lc (k'::ks) x.2
def kC:(ks:List K1)->List Value->Option (TL ks)
 |[],[]=>some ()
 |[k],[v]=>k.get v
 |k::k'::ks,v::vs=>match k.get v,kC (k'::ks) vs with
  |some x,some y=>some (x,y)
  |_,_=>none
 |_,_=>none
theorem FY:∀{ks:List K1} {vs:List Value} {x:TL ks},kC ks vs=some x->vs=Lc ks x
 |[],[],_,_=>rfl
 |[],_::_,_,h=>by simp[kC]at h
 |[k],[],_,h=>by simp[kC]at h
 |[k],[v],x,h=>by simp only[kC]at h;simp[Lc,K1.Mw h]
 |[k],v::v'::vs,_,h=>by simp[kC]at h
 |k::k'::ks,[],_,h=>by simp[kC]at h
 |k::k'::ks,v::vs,x,h=>by
  simp only[kC]at h
  split at h
  ·rename_i a b ha hb
   simp only[Option.some.injEq]at h
   subst h
   simp[Lc,K1.Mw ha,FY hb]
  ·cases h
theorem tV:∀(ks:List K1) (x:TL ks),(Lc ks x).length=ks.length
 |[],_=>rfl
 |[k],x=>rfl
 |k::k'::ks,x=>by simp[Lc,tV (k'::ks) x.2]
@[reducible] def Kd.T:Kd->Type
 | .one k=>k.T
 | .agg ks=>TL ks
 | .box ks=>TL ks
abbrev Live:=List (Nat×Kd)
@[reducible] def Tup:Live->Type
 |[]=>Unit
 |[x]=>x.2.T
 |x::y::l=>x.2.T×Tup (y::l)
structure St where
 σ:Fr
 D:List (Nat×Nat)
structure UW extends World where
 fW:Nat->Prop
def UW.born(u:UW)(b:Nat)(w':World):UW:=⟨w',λc=>u.fW c\/c=b⟩
def UW.IZ(u:UW)(w':World):UW:=⟨w',u.fW⟩
def UW.ret(u:UW)(lo:Nat)(w':World):UW:=⟨w',λc=>u.fW c\/(lo<=c/\c<w'.heap.size)⟩
def h_:List (Nat×Nat)->Nat->Nat->Bool
 |[],_,_=>false
 |(k,m)::D,k',m'=>(beq k k'&&beq m m')||h_ D k' m'
theorem beq_iff{a b:Nat}:beq a b=true↔a=b:=⟨Nat.eq_of_beq_eq_true,λh=>by subst h;exact Nat.beq_refl a⟩
theorem oC{D:List (Nat×Nat)}{k m:Nat}:h_ D k m=true↔(k,m)∈D:=by
 induction D with
 |nil=>simp[h_]
 |cons x D ih=>
  obtain⟨a,b⟩:=x;simp only[h_,or_eq_true,and_eq_true,beq_iff,ih,mem_cons,Prod.mk.injEq];constructor
  ·rintro(⟨rfl,rfl⟩|h)
   ·exact .inl ⟨rfl,rfl⟩
   ·exact .inr h
  ·rintro(⟨rfl,rfl⟩|h)
   ·exact .inl ⟨rfl,rfl⟩
   ·exact .inr h
def nC:List (Nat×Nat)->Nat->Bool
 |[],_=>false
 |(k,_)::D,k'=>beq k k'||nC D k'
theorem NR{D:List (Nat×Nat)}{k:Nat}:nC D k=true↔∃m,(k,m)∈D:=by
 induction D with
 |nil=>simp[nC]
 |cons x D ih=>
  obtain⟨a,b⟩:=x;simp only[nC,or_eq_true,beq_iff,ih,mem_cons,Prod.mk.injEq];constructor
  ·rintro(h|⟨m,h⟩)
   ·exact⟨b,.inl ⟨h.symm,rfl⟩⟩
   ·exact⟨m,.inr h⟩
  ·rintro⟨m,⟨rfl,_⟩|h⟩
   ·exact .inl rfl
   ·exact .inr ⟨m,h⟩
def yK(st:St):(x:Nat×Kd)->Option x.2.T
 |(t,.one k)=>k.get (st.σ t)
 |(t,.agg ks)=>match st.σ t with
  | .agg a=>kC ks a.toList
  |_=>none
 |(t,.box ks)=>match st.σ t with
  | .complex .f64 k o=>bif (beq k t&&beq o 0)&&h_ st.D t ks.length then kC ks (wW st.σ t 0 ks.length)else none
  |_=>none
def fP(st:St):(l:Live)->Option (Tup l)
 |[]=>some ()
 |[x]=>yK st x
 |x::y::l=>match yK st x,fP st (y::l)with
  |some a,some b=>some (a,b)
  |_,_=>none
def ku(st:St):(x:Nat×Kd)->x.2.T->St
 |(t,.one k),v=>{st with σ:=iM st.σ t (k.v v)}
 |(t,.agg ks),v=>{st with σ:=iM st.σ t (.agg (Lc ks v).toArray)}
 |(t,.box ks),v=>{st with σ:=qX (iM st.σ t (dK t 0)) t 0 (Lc ks v),D:=bif h_ st.D t ks.length then st.D else(t,ks.length)::st.D}
def rf(st:St):(l:Live)->Tup l->St
 |[],_=>st
 |[x],v=>ku st x v
 |x::y::l,v=>rf (ku st x v.1) (y::l) v.2
def cM:List Nat->Nat->Bool
 |[],_=>false
 |x::l,y=>beq x y||cM l y
theorem dR{l:List Nat}{y:Nat}:cM l y=true↔y∈l:=by
 induction l with
 |nil=>simp[cM]
 |cons x l ih=>
  simp only[cM,or_eq_true,beq_iff,ih,mem_cons];exact⟨λh=>h.imp Eq.symm id,λh=>h.imp Eq.symm id⟩
structure Cut where
 live:Live
 fD:List (Nat×Nat)
def eW(σ:Fr):List (Nat×Nat)->Fr
 |[]=>σ
 |(k,m)::l=>eW (qX (iM σ k (dK k 0)) k 0 (List.replicate m aY)) l
def QU(v:Value)(k:Nat):Bool:=
 match v with
 | .complex .f64 k' o=>beq k' k&&beq o 0
 |_=>false
def kL(st:St):List (Nat×Nat)->Bool
 |[]=>true
 |(k,m)::l=>h_ st.D k m&&QU (st.σ k) k&&kL st l
def uX(σ:Fr)(ws:List Nat):Fr:=λt=>bif blt t 65536&&cM ws t then aY else σ t
def mix(st:St)(ws:List Nat)(c:Cut)(x:Tup c.live):St:=
 rf {st with σ:=eW (uX st.σ ws) c.fD} c.live x
def ab(c:Bool)(A B:Prop):Prop:=match c with|true=>A|false=>B
theorem Wr{c:Bool}{A B:Prop}:ab c A B↔(c=true->A)/\(c=false->B):=by cases c<;>simp[ab]
def cf{α β:Type}(A:(α->β->Prop)->Prop)(B:α->β->Prop):Prop:=∃J:α->β->Prop,A J/\∀s w,J s w->B s w
def ak{α β:Type}(body:(α->β->Prop)->α->β->Prop)(s:α)(w:β):Prop:=
 ∃I:Nat->α->β->Prop,(∃n,I n s w)/\∀n s w,I n s w->body (λs' w'=>∃m,m<n/\I m s' w') s w
def pv{α:Type}(P:Program):Sem α->Option α
 | .pure a=>some a
 | .program k=>pv P (k P)
 |_=>none
theorem wZ{α:Type}{P:Program}:∀{s:Sem α} {a:α},pv P s=some a->∀w,s.run P w=.ok a w
 | .pure a,b,h,w=>by simp only[pv,Option.some.injEq]at h;subst h;rfl
 | .program k,b,h,w=>by simp only[pv]at h;simp only[Sem.run];exact wZ h w
 | .load ..,_,h,_=>by simp[pv]at h
 | .store ..,_,h,_=>by simp[pv]at h
 | .new ..,_,h,_=>by simp[pv]at h
 | .shape ..,_,h,_=>by simp[pv]at h
 | .freeze ..,_,h,_=>by simp[pv]at h
 | .frozen ..,_,h,_=>by simp[pv]at h
 | .getObj ..,_,h,_=>by simp[pv]at h
 | .setObj ..,_,h,_=>by simp[pv]at h
 | .choose ..,_,h,_=>by simp[pv]at h
 | .sys ..,_,h,_=>by simp[pv]at h
 | .mark ..,_,h,_=>by simp[pv]at h
 | .halt ..,_,h,_=>by simp[pv]at h
structure Env where
 P:Program
 n:Nat
 eX:List Nat
 loops:List (Nat×Cut)
 i_:List (Nat×Cut)
 rB:List (Nat×List TypeId):=[]
def look{α:Type}:List (Nat×α)->Nat->Option α
 |[],_=>none
 |(k,x)::l,i=>bif beq k i then some x else look l i
def tw(P:Program):Nat->TypeId->Option (List K1)
 |0,_=>none
 |f+1,t=>match P.underlying t with
  |some (.int k)=>some [.int k]
  |some .bool=>some [.bool]
  |some .string=>some [.str]
  |some (.slice _)=>some [.slice]
  |some (.pointer _)=>some [.ptr]
  |some (.func ..)=>some [.fn]
  |some (.map ..)=>some [.map]
  |some (.struct fs)=>fs.toList.foldr (λx acc=>match tw P f x.type,acc with|some a,some b=>some (a++b)|_,_=>none) (some [])
  |some (.array n e)=>match tw P f e with
   |some ks=>some ((List.replicate n ks).flatten)
   |none=>none
  |_=>none
def di(P:Program)(t:TypeId):Bool:=
 match P.underlying t with
 |some (.struct _)|some (.array _ _)=>true
 |_=>false
def kinds(P:Program)(t:TypeId):Option (List K1):=
 match tw P 8 t with
 |some ks=>bif beq ks.length (P.cellsOf t)then(bif di P t||beq ks.length 1 then some ks else none)else none
 |none=>none
def EW:Bool->List Value->Value
 |true,vs=>.agg vs.toArray
 |false,[v]=>v
 |_,_=>aY
def exV(P:Program)(t:TypeId)(F:Value->Prop):Prop:=
 match kinds P t with
 |some ks=>ZJ ks λvs=>F (EW (di P t) vs)
 |none=>False
def KB(P:Program):List TypeId->(List Value->Prop)->Prop
 |[],F=>F []
 |t::ts,F=>exV P t λv=>KB P ts λvs=>F (v::vs)
def Pr(P:Program)(t:TypeId)(F:Value->Prop):Prop:=
 match P.underlying t with
 |some (.tuple ts)=>KB P ts.toList λvs=>F (.tuple vs.toArray)
 |_=>exV P t F
def CH(P:Program)(t:TypeId)(f:Nat):Option Nat:=
 match P.underlying t with
 |some (.struct fs)=>match fs[f]? with
  |some x=>bif beq (P.cellsOf x.type) 0 then none else some x.offset
  |none=>none
 |_=>none
def vD(P:Program)(t:TypeId):Option TypeId:=
 match P.underlying t with
 |some (.slice e)=>some e
 |_=>none
def dI(v:Value)(F:Nat->Nat->Prop):Prop:=
 match v with
 | .pointer (some ⟨b,o,none⟩)=>F b o
 |_=>False
def bp(a:Option Addr)(F:Nat->Nat->Prop):Prop:=
 match a with
 |some ⟨b,o,none⟩=>F b o
 |_=>False
def nn(a:Option Addr)(A:Prop):Prop:=
 match a with
 |some _=>A
 |none=>False
def aF(a b:ByteArray):Bool:=a.toList == b.toList
theorem bF{a b:ByteArray}:aF a b=true↔a=b:=by
 unfold aF;rw[beq_iff_eq];constructor
 ·intro h;obtain⟨⟨a⟩⟩:=a;obtain⟨⟨b⟩⟩:=b;have ha:∀(l:List UInt8),(ByteArray.mk ⟨l⟩).toList=l:=by
   intro l;have:∀(n i:Nat) (r:List UInt8),n=(ByteArray.mk ⟨l⟩).size-i->ByteArray.toList.loop (ByteArray.mk ⟨l⟩) i r=r.reverse++l.drop i:=by
    intro n;induction n with
    |zero=>
     intro i r h;rw[ByteArray.toList.loop.eq_def];have:¬i<(ByteArray.mk ⟨l⟩).size:=by omega
     rw[if_neg this];have hs:(ByteArray.mk ⟨l⟩).size=l.length:=rfl;rw[List.drop_of_length_le (by omega)];simp
    |succ n ih=>
     intro i r h;rw[ByteArray.toList.loop.eq_def];have hs:(ByteArray.mk ⟨l⟩).size=l.length:=rfl;have hi:i<(ByteArray.mk ⟨l⟩).size:=by omega
     rw[if_pos hi,ih (i+1) _ (by omega)];have tD:i<l.length:=by omega
     have hg:(ByteArray.mk ⟨l⟩).get! i=l[i]:=by
      simp[ByteArray.get!,tD]
     rw[hg,drop_eq_getElem_cons tD];simp
   have h0:=this _ 0 [] rfl;simpa[ByteArray.toList]using h0
  rw[ha,ha]at h;subst h;rfl
 ·rintro rfl;rfl
def eqs:List K1->List Value->List Value->Option Bool
 |[],[],[]=>some true
 | .int _::ks,.int k a::xs,.int k' b::ys=>bif decide (k=k')then(match eqs ks xs ys with|some r=>some ((a == b)&&r)|none=>none)else none
 | .bool::ks,.bool a::xs,.bool b::ys=>match eqs ks xs ys with|some r=>some ((a == b)&&r)|none=>none
 | .str::ks,.string a::xs,.string b::ys=>match eqs ks xs ys with|some r=>some (aF a b&&r)|none=>none
 |_,_,_=>none
def Iq(g:TypeId->Option (List K1)):Nat->List Field->Option (List K1)
 |_,[]=>some []
 |a,x::fs=>match g x.type with
  |some l=>bif decide (x.name≠ "_")&&beq x.offset a then(match Iq g (a+l.length) fs with|some r=>some (l++r)|none=>none)else none
  |none=>none
def CJ(P:Program):Nat->TypeId->Option (List K1)
 |0,_=>none
 |f+1,t=>match P.underlying t with
  |some (.int k)=>some [.int k]
  |some .bool=>some [.bool]
  |some .string=>some [.str]
  |some (.struct fs)=>bif P.stoodInHeld t then none else match Iq (CJ P f) 0 fs.toList with
   |some l=>bif beq l.length (P.cellsOf t)then some l else none
   |none=>none
  |_=>none
def xv(op:BinOp)(k:IntKind)(a b:Int)(K:Value->Prop):Prop:=
 match op with
 | .add=>K (.int k (k.wrap (a+b)))
 | .sub=>K (.int k (k.wrap (a-b)))
 | .mul=>K (.int k (k.wrap (a*b)))
 | .quo=>b≠0/\K (.int k (k.wrap (a.tdiv b)))
 | .rem=>b≠0/\K (.int k (a.tmod b))
 | .eql=>K (.bool (a == b))
 | .neq=>K (.bool (a != b))
 | .lss=>K (.bool (decide (a<b)))
 | .leq=>K (.bool (decide (a<=b)))
 | .gtr=>K (.bool (decide (a>b)))
 | .geq=>K (.bool (decide (a>=b)))
 |_=>False
def Aa(op:BinOp)(a b:ByteArray)(K:Value->Prop):Prop:=
 match op with
 | .add=>a.size+b.size<9223372036854775808/\K (.string (a++b))
 | .eql=>K (.bool (aF a b))
 | .neq=>K (.bool (!aF a b))
 | .lss=>K (.bool (Op.bytesLess a.toList b.toList))
 | .leq=>K (.bool (Op.bytesLess a.toList b.toList||aF a b))
 | .gtr=>K (.bool (!(Op.bytesLess a.toList b.toList||aF a b)))
 | .geq=>K (.bool (!Op.bytesLess a.toList b.toList))
 |_=>False
def pj(P:Program)(op:BinOp)(t:TypeId)(x y:Value)(K:Value->Prop):Prop:=
 match x,y with
 | .int k a,.int k' b=>bif decide (k=k')then xv op k a b K else False
 | .string a,.string b=>Aa op a b K
 | .bool a,.bool b=>match P.underlying t with
   |some .bool=>match op with
    | .eql=>K (.bool (a == b))
    | .neq=>K (.bool (!(a == b)))
    |_=>False
   |_=>False
 | .agg a,.agg b=>match CJ P 8 t with
   |none=>False
   |some ks=>bif (beq ks.length a.size&&beq ks.length b.size)&& !P.eqGuardType P.depth t&&di P t then
    (match eqs ks a.toList b.toList with
    |some r=>match op with
     | .eql=>K (.bool r)
     | .neq=>K (.bool (!r))
     |_=>False
    |none=>False)else False
 | .pointer a,.pointer none=>match P.underlying t with
   |some (.pointer _)=>match op with
    | .eql=>K (.bool a.isNone)
    | .neq=>K (.bool (!a.isNone))
    |_=>False
   |_=>False
 | .slice a _ _,.slice none _ _=>match P.underlying t with
   |some (.slice _)=>match op with
    | .eql=>K (.bool a.isNone)
    | .neq=>K (.bool (!a.isNone))
    |_=>False
   |_=>False
 | .func _ _ _,.nilFunc=>match P.underlying t with
   |some (.func ..)=>match op with
    | .eql=>K (.bool false)
    | .neq=>K (.bool true)
    |_=>False
   |_=>False
 |_,_=>False
structure qV(w w':World)(b:Nat)(o:Obj):Prop where
 below:Below w.heap.size w w'
 at_:w'.heap[b]?=some o
 ge:w.heap.size<=b
structure Sto(w w':World)(b:Nat)(o:Obj):Prop where
 os:w'.os=w.os
 tape:w'.tape=w.tape
 output:w'.output=w.output
 size:w.heap.size<=w'.heap.size
 at_:w'.heap[b]?=some o
 ne:∀c,c≠b->c<w.heap.size->w'.heap[c]?=w.heap[c]?
structure Mod(F:Nat->Prop)(w w':World):Prop where
 os:w'.os=w.os
 tape:w'.tape=w.tape
 output:w'.output=w.output
 size:w.heap.size<=w'.heap.size
 cw:∀b,b<w.heap.size->¬F b->w'.heap[b]?=w.heap[b]?
@[reducible] def cV:Obj:=.cells #[] 0 (0,0)
structure xT(w w1:World):Prop where
 os:w1.os=w.os
 tape:w1.tape=w.tape
 output:w1.output=w.output
 size:w.heap.size<=w1.heap.size
 block:∀b,b<w.heap.size->w.heap[b]?=w1.heap[b]?\/w.heap[b]?=some cV
structure Out(F:Nat->Prop)(w w1 w' wr:World):Prop where
 mod:Mod F w1 wr
 Cq:xT w' wr
 umod:Mod F w w'
 Bn:∀b,w.heap.size<=b->b<w1.heap.size->b<w'.heap.size->w'.heap[b]?=some cV
def FnB(P:Program)(f:FuncId)(args:Array Value)(w:World)(F:Nat->Prop)(K:Value->Nat->World->Prop):Prop:=
 ∀w1,xT w w1->Calls P f args w1 λe wr=>∃v w',e=.returned v/\Out F w w1 w' wr/\K v w1.heap.size w'
def nR(P:Program)(f:FuncId)(args:Array Value)(u:UW)(K:Value->UW->Prop):Prop:=
 ∃F:Nat->Prop,(∀b,F b->u.fW b)/\FnB P f args u.toWorld F λv lo w'=>K v (u.ret lo w')
def dv(P:Program)(f:FuncId):Bool:=
 match P.funcs[f]? with
 |some fn=> !(fn.name == "runtime.NumGoroutine")&&fn.body.isSome
 |none=>false
def aaw(P:Program)(l:Nat)(args:List Value)(w:World)(R:Ending->World->Prop):Prop:=
 ∃r:Loop,w.heap[l]?=some (.loop r)/\args.length=r.params.size/\RoundIn Fence.wide 0 P l r.fn ((r.params.zip args.toArray).foldl (λt (p,v)=>t.setIfInBounds p v) r.tmps) r.assign r.body w R
def xS(P:Program)(f:Value)(args:List Value)(w:World)(R:Ending->World->Prop):Prop:=
 match f with
 | .func (.func g) first captured=>dv P g=true/\Calls P g (first.toList++args++captured.toList).toArray w R
 | .func (.yield l) first captured=>first= #[]/\captured= #[]/\aaw P l args w R
 |_=>False
def Lb(P:Program)(f:Value)(args:List Value)(w:World)(F:Nat->Prop)(K:Value->Nat->World->Prop):Prop:=
 ∀w1,xT w w1->xS P f args w1 λe wr=>∃v w',e=.returned v/\Out F w w1 w' wr/\K v w1.heap.size w'
def oZ(P:Program)(f:Value)(args:List Value)(u:UW)(K:Value->UW->Prop):Prop:=
 match f with
 | .func (.func g) first captured=>bif dv P g then nR P g (first.toList++args++captured.toList).toArray u K else False
 |f=>∃F:Nat->Prop,(∀b,F b->u.fW b)/\Lb P f args u.toWorld F λv lo w'=>K v (u.ret lo w')
def Bu(f:Fn)(A:Prop):Prop:=match f with| .method _=>False|_=>A
def JZ:Obj->Bool| .loop _=>true|_=>false
def Tq(P:Program)(f:Value)(body:List Value->(Option Code->UW->Prop)->UW->Prop)(K:Option Code->UW->Prop)(u:UW):Prop:=
 (∃g a b,f=.func (.func g) a b)/\∀(l:Nat) (rec:Option Code->Obj) (w':World),(∀p,JZ (rec p)=true)->qV u.toWorld w' l (rec none)->
  (∀(vs:List Value) (w1:World) (F:Nat->Prop) (R:Option Code->UW->Prop),w1.heap[l]?=some (rec none)->(∀b,F b->b<w1.heap.size/\b≠l)->body vs R ⟨w1.putObj l cV,F⟩->
   Lb P (.func (.yield l) #[] #[]) vs w1 (λb=>F b\/b=l) λv lo w2=>∃p fW w3,v=.bool p.isNone/\w2=w3.putObj l (rec p)/\w3.heap[l]?=some cV/\(∀b,fW b->F b\/lo<=b)/\R p ⟨w3,fW⟩)->
  oZ P f [.func (.yield l) #[] #[]] (u.born l w') λ_ u'=>∃p,u'.heap[l]?=some (rec p)/\K p ⟨u'.toWorld.putObj l cV,λb=>u'.fW b/\b≠l⟩
def uy(c:Array Value):Nat->List Value->Array Value
 |_,[]=>c
 |o,v::vs=>uy (c.setIfInBounds o v) (o+1) vs
def tQ(b o:Nat)(vs:List Value)(u:UW)(K:UW->Prop):Prop:=
 ∃(c:Array Value) (T:TypeId),u.heap[b]?=some (.cells c T (0,0))/\o+vs.length<=c.size/\u.fW b/\
  ∀w',Sto u.toWorld w' b (.cells (uy c o vs) T (0,0))->K (u.IZ w')
def fin(o:Oper)(st:St)(v:Value):St:={st with σ:=put st.σ o.dst v}
def eR:List (Nat×Nat)->Nat->Option Nat
 |[],_=>none
 |(k,m)::D,k'=>bif beq k k' then some m else eR D k'
def eB(vs:List Value):Bool:=vs.all λv=>plain v&&one v
def yY(a:Option Addr)(l m size:Nat):Option Addr:=if m=l then a else a.map λx=>⟨x.block,x.off+l*size,none⟩
def dt(ρ:Operand->Value)(x:Option Operand)(d:Int):Option Int:=
 match x with
 |none=>some d
 |some x=>match ρ x with
  | .int _ i=>some i
  |_=>none
def gZ(a:Option Addr):Prop:=∀x,a=some x->x.spot=none
def OK(P:Program)(e:TypeId)(base:Option Addr)(n cap:Nat)(xb:Option Addr)(m:Nat)(u:UW)(K:Option Addr->Nat->Nat->UW->Prop):Prop:=
 ∃(size bytes:Nat) (zero:List Value) (Ct new:List Value),
  (P.info? e).map (λi=>(i.size,i.bytes,i.zero.map λz=>z.cells.toList))=some (size,bytes,some zero)/\
  (m=0->new=[])/\(m≠0->bp xb λb o=>rd u.heap b o (m*size)=some new)/\
  (n=0->Ct=[])/\(n≠0->bp base λb o=>rd u.heap b o (n*size)=some Ct)/\
  n<=cap/\(n+m)*bytes<=140737488355328/\n+m<4611686018427387904/\zero.length=size/\(∀v∈new,one v=true)/\
  (n+m<=cap->(m=0/\K base n cap u)\/(m≠0/\bp base λb o=>tQ b (o+n*size) new u λu'=>K base (n+m) cap u'))/\
  (cap<n+m->∀(c b:Nat) (rest:List Value) (w':World),n+m<=c->rest.length=(c-(n+m))*size->qV u.toWorld w' b (.cells (Ct++new++rest).toArray e (0,0))->
   K (some ⟨b,0,none⟩) (n+m) c (u.born b w'))
def mU(ρ:Operand->Value):List Operand->Option (IntKind×List Int)
 |[]=>none
 |[x]=>match ρ x with| .int k i=>some (k,[i])|_=>none
 |x::l=>match ρ x,mU ρ l with
  | .int k i,some (k',is)=>bif decide (k=k')then some (k,i::is)else none
  |_,_=>none
def KU(P:Program)(fs:Array Field):List (Nat×Value)->List Value->Option (List Value)
 |[],cs=>some cs
 |(i,v)::ps,cs=>match fs[i]? with
  |some f=>bif beq v.cells.size (P.cellsOf f.type)&&ble (f.offset+v.cells.size) cs.length&&(P.info? f.type).isSome then
    KU P fs ps (cs.take f.offset++v.cells.toList++cs.drop (f.offset+v.cells.size))else none
  |none=>none
def oG(size:Nat):Nat->List (Nat×Value)->Option (List Value)
 |_,[]=>some []
 |i,(j,v)::ps=>bif beq i j&&beq v.cells.size size then(match oG size (i+1) ps with|some l=>some (v.cells.toList++l)|none=>none)else none
def Wa(P:Program)(t:TypeId)(ps:List (Nat×Value)):Option (List Value):=
 match(P.info? t).bind (·.zero),P.underlying t with
 |some z,some (.struct fs)=>bif fs.toList.all λf=>(P.info? f.type).isSome then KU P fs ps z.cells.toList else none
 |some z,some (.array len e)=>bif (P.info? e).isSome&&beq ps.length len&&beq z.cells.size (len*P.cellsOf e)then oG (P.cellsOf e) 0 ps else none
 |_,_=>none
def Ox(P:Program)(e:TypeId)(off:Nat)(cs:List Value):Option Value:=
 bif (P.underlying e).isSome&&ble (off+P.cellsOf e) cs.length then(bif di P e then some (.agg ((cs.drop off).take (P.cellsOf e)).toArray)else cs[off]?)else none
def CF(P:Program)(t:TypeId)(f:Nat)(cs:List Value):Option Value:=
 match P.underlying t with
 |some (.struct fs)=>match fs[f]? with
  |some x=>bif (P.underlying x.type).isSome&&ble (x.offset+P.cellsOf x.type) cs.length then
    (bif di P x.type then some (.agg ((cs.drop x.offset).take (P.cellsOf x.type)).toArray)else cs[x.offset]?)else none
  |none=>none
 |_=>none
def W1b(E:Env)(o:Oper)(st:St)(w:UW)(b:Builtin)(args:List Operand)(ts:List TypeId)(K:St->UW->Prop):Prop:=
 match b,args,ts with
 | .len,[x],[t]=>match E.P.underlying t,ev st.σ x with
   |some (.slice _),.slice _ n _=>K (fin o st (.int .i64 n)) w
   |some .string,.string s=>K (fin o st (.int .i64 s.size)) w
   |some (.array n _),v=>bif plain v then K (fin o st (.int .i64 n)) w else False
   |_,_=>False
 | .append,[x,y],[t,t']=>match E.P.underlying t,E.P.underlying t',ev st.σ x,ev st.σ y with
   |some (.slice e),some (.slice _),.slice base n cap,.slice xb m _=>OK E.P e base n cap xb m w λa n' c' w'=>K (fin o st (.slice a n' c')) w'
   |_,_,_,_=>False
 | .min,xs,_=>match mU (ev st.σ) xs with
   |some (k,i::is)=>K (fin o st (.int k (is.foldl (λx y=>if y<x then y else x) i))) w
   |_=>False
 | .max,xs,_=>match mU (ev st.σ) xs with
   |some (k,i::is)=>K (fin o st (.int k (is.foldl (λx y=>if y>x then y else x) i))) w
   |_=>False
 |_,_,_=>False
def W1(E:Env)(fz:List Nat)(o:Oper)(st:St)(w:UW)(K:St->UW->Prop):Prop:=
 let ρ:=ev st.σ
 match o.op with
 | .move x| .assign x=>K (fin o st (ρ x)) w
 | .pick c a b=>match ρ c with
   | .bool t=>ab t (K (fin o st (ρ a)) w) (K (fin o st (ρ b)) w)
   |_=>False
 | .alloc t=>match(E.P.info? t).bind (·.zero)with
   |none=>False
   |some z=>match o.dst with
    |none=>False
    |some k=>bif cM E.eX k then
      (bif !nC st.D k&& !cM fz k&&eB z.cells.toList&&ble z.cells.size 65536 then
       K {st with σ:=qX (iM st.σ k (dK k 0)) k 0 z.cells.toList,D:=(k,z.cells.size)::st.D} w else False)
     else ∀(b:Nat) (w':World),qV w.toWorld w' b (.cells z.cells t (0,0))->K (fin o st (.pointer (some ⟨b,0,none⟩))) (w.born b w')
 | .box t x=>bif plain (ρ x)then match o.dst with
   |none=>False
   |some k=>bif cM E.eX k then
     (bif !nC st.D k&& !cM fz k&&eB (ρ x).cells.toList&&ble (ρ x).cells.size 65536 then
      K {st with σ:=qX (iM st.σ k (dK k 0)) k 0 (ρ x).cells.toList,D:=(k,(ρ x).cells.size)::st.D} w else False)
    else ∀(b:Nat) (w':World),qV w.toWorld w' b (.cells (ρ x).cells t (0,0))->K (fin o st (.pointer (some ⟨b,0,none⟩))) (w.born b w')
   else False
 | .build t ps=>bif ps.toList.all λp=>plain (ρ p.2)then match Wa E.P t (ps.toList.map λp=>(p.1,ρ p.2))with
   |some vs=>K (fin o st (.agg vs.toArray)) w
   |none=>False else False
 | .buildSlice t len ps=>bif (ps.toList.all λp=>plain (ρ p.2))&&beq ps.toList.length len then match vD E.P t with
   |none=>False
   |some e=>match oG (E.P.cellsOf e) 0 (ps.toList.map λp=>(p.1,ρ p.2))with
    |some vs=>bif ble vs.length 65536&&((E.P.info? e).bind (·.zero)).isSome&& !Nat.beq (E.P.cellsOf e) 0 then
      ∀(b:Nat) (w':World),qV w.toWorld w' b (.cells vs.toArray e (0,0))->K (fin o st (.slice (some ⟨b,0,none⟩) len len)) (w.born b w')else False
    |none=>False else False
 | .load t x=>match kinds E.P t with
   |none=>False
   |some ks=>match ρ x with
    | .complex .f64 k off=>match eR st.D k with
      |some m=>bif ble (off+ks.length) m&&eB (wW st.σ k off ks.length)then K (fin o st (EW (di E.P t) (wW st.σ k off ks.length))) w else False
      |none=>False
    |v=>dI v λb off=>ZJ ks λvs=>rd w.heap b off ks.length=some vs/\K (fin o st (EW (di E.P t) vs)) w
 | .store t x y=>bif plain (ρ y)&&beq (ρ y).cells.size (E.P.cellsOf t)&&eB (ρ y).cells.toList&&(E.P.info? t).isSome then match ρ x with
   | .complex .f64 k off=>match eR st.D k with
     |some m=>bif ble (off+(ρ y).cells.size) m&& !cM fz k then K {st with σ:=put (qX st.σ k off (ρ y).cells.toList) o.dst undef} w else False
     |none=>False
   |v=>dI v λb off=>tQ b off (ρ y).cells.toList w λw'=>K (fin o st undef) w'
   else False
 | .nilCheck x=>match ρ x with
   | .complex .f64 k off=>K (fin o st (dK k off)) w
   | .pointer a=>nn a (K (fin o st (.pointer a)) w)
   | .func f a b=>Bu f (K (fin o st (.func f a b)) w)
   |_=>False
 | .binOp op t x y _=>pj E.P op t (ρ x) (ρ y) λv=>K (fin o st v) w
 | .unOp op _ x=>match op,ρ x with
   | .not,.bool b=>K (fin o st (.bool (!b))) w
   | .neg,.int k n=>K (fin o st (.int k (k.wrap (0-n)))) w
   |_,_=>False
 | .convert src dst x=>bif plain (ρ x)then match pv E.P (convert src dst (ρ x))with
   |some v=>bif plain v then K (fin o st v) w else False
   |none=>False else False
 | .makeInterface t x=>bif plain (ρ x)then match pv E.P (Instr.makeInterface t (ρ x))with
   |some v=>bif plain v then K (fin o st v) w else False
   |none=>False else False
 | .makeSlice t x y=>match E.P.underlying t,ρ x,ρ y with
   |some (.slice e),.int _ i,.int _ j=>match(E.P.info? e).map (λi=>(i.size,i.bytes,i.zero.map λz=>z.cells.toList))with
    |some (size,bytes,some zero)=>bif beq zero.length size&& !Nat.beq size 0 then
      0<=i/\i<=j/\j<4611686018427387904/\j.toNat*bytes<=140737488355328/\
      ∀(b:Nat) (w':World),qV w.toWorld w' b (.cells (List.replicate j.toNat zero).flatten.toArray e (0,0))->K (fin o st (.slice (some ⟨b,0,none⟩) i.toNat j.toNat)) (w.born b w')else False
    |_=>False
   |_,_,_=>False
 | .makeFunc fn first captured=>bif first.toList.all (λx=>plain (ρ x))&&captured.toList.all (λx=>plain (ρ x))then
   K (fin o st (.func fn (first.toList.map ρ).toArray (captured.toList.map ρ).toArray)) w else False
 | .slice t x lo hi mx=>match E.P.underlying t,ρ x with
   |some (.slice e),.slice a len cap=>match dt ρ lo 0,dt ρ hi len,dt ρ mx cap with
    |some l,some h,some m=>(bif (mx.isSome&&hi.isNone)||(E.P.info? e).isNone then False else(m.toNat=l.toNat\/gZ a)/\0<=l/\l<=h/\h<=m/\m<=cap/\K (fin o st (.slice (yY a l.toNat m.toNat (E.P.cellsOf e)) (h.toNat-l.toNat) (m.toNat-l.toNat))) w)
    |_,_,_=>False
   |some .string,.string s=>match mx with
    |some _=>False
    |none=>match dt ρ lo 0,dt ρ hi s.size with
     |some l,some h=>0<=l/\l<=h/\h<=s.size/\K (fin o st (.string (s.extract l.toNat h.toNat))) w
     |_,_=>False
   |_,_=>False
 | .fieldAddr t x f=>match CH E.P t f with
   |none=>False
   |some d=>match ρ x with
    | .complex .f64 k off=>K (fin o st (dK k (off+d))) w
    |v=>dI v λb off=>K (fin o st (.pointer (some ⟨b,off+d,none⟩))) w
 | .field t x f=>match ρ x with
   | .agg cs=>match CF E.P t f cs.toList with
     |some v=>bif plain v then K (fin o st v) w else False
     |none=>False
   |_=>False
 | .indexAddr t x i=>match E.P.underlying t,ρ x,ρ i with
   |some (.slice e),.slice a len _,.int _ j=>bif (E.P.info? e).isSome then bp a λb off=>0<=j/\j<len/\K (fin o st (.pointer (some ⟨b,off+j.toNat*E.P.cellsOf e,none⟩))) w else False
   |some (.array len e),.complex .f64 k off,.int _ j=>bif decide (0<=j)&&decide (j<len)&&(E.P.info? e).isSome then K (fin o st (dK k (off+j.toNat*E.P.cellsOf e))) w else False
   |_,_,_=>False
 | .index t x i=>match E.P.underlying t,ρ x,ρ i with
   |some .string,.string s,.int _ j=>0<=j/\∃c:UInt8,s[j.toNat]?=some c/\K (fin o st (.int .u8 c.toNat)) w
   |some (.array len e),.agg cs,.int _ j=>0<=j/\j<len/\(E.P.info? e).isSome=true/\∃v,Ox E.P e (j.toNat*E.P.cellsOf e) cs.toList=some v/\plain v=true/\K (fin o st v) w
   |_,_,_=>False
 | .extract x i=>match ρ x with
   | .tuple vs=>match vs[i]? with
     |some v=>bif plain v then K (fin o st v) w else False
     |none=>False
   |_=>False
 | .call c=>match c.callee with
   | .builtin b=>W1b E o st w b c.args.toList c.argTypes.toList K
   | .value f=>bif c.args.toList.all (λx=>plain (ρ x))then
     oZ E.P (ρ f) (c.args.toList.map ρ) w λv w'=>Pr E.P o.type λv'=>v=v'/\K (fin o st v') w' else False
   | .invoke x name=>bif c.args.toList.all (λx=>plain (ρ x))then match ρ x with
     | .iface t r=>match pv E.P (method (E.P.types.size+Made.depth) t r name)with
       |some (g,r')=>bif dv E.P g then nR E.P g (r'::c.args.toList.map ρ).toArray w λv w'=>Pr E.P o.type λv'=>v=v'/\K (fin o st v') w' else False
       |none=>False
     |_=>False else False
 |_=>False
def sized(P:Program)(e:TypeId):Bool:=match P.info? e with|some i=> !Nat.beq i.size 0|none=>false
def JK(P:Program)(t:TypeId)(x y:Value)(w:UW)(K:Bool->Prop):Prop:=
 match x,y with
 | .pointer (some ⟨b,o,none⟩),.pointer (some ⟨b',o',none⟩)=>match P.underlying t with
   |some (.pointer e)=>bif sized P e then
     (∃(c:Array Value) (T:TypeId),w.heap[b]?=some (.cells c T (0,0))/\c.size≠0)/\(∃(c:Array Value) (T:TypeId),w.heap[b']?=some (.cells c T (0,0))/\c.size≠0)/\K (beq b b'&&beq o o')else False
   |_=>False
 |_,_=>False
def vN(x y:Value):Bool:=match x,y with| .pointer (some _),.pointer (some _)=>true|_,_=>false
def Wk(E:Env)(fz:List Nat)(o:Oper)(st:St)(w:UW)(K:St->UW->Prop):Prop:=
 match o.op with
 | .binOp .eql t x y _=>bif vN (ev st.σ x) (ev st.σ y)then JK E.P t (ev st.σ x) (ev st.σ y) w λr=>K (fin o st (.bool r)) w else W1 E fz o st w K
 |_=>W1 E fz o st w K
def oV(ops:Array Oper)(j:Nat):Option Nat:=(ops[j]?).bind (·.dst)
def Wl(E:Env)(fz:List Nat)(ops:Array Oper)(Q:St->UW->Prop):List Oper->St->UW->Prop
 |[],st,w=>Q st w
 |o::l,st,w=>match o.guard with
  |none=>Wk E fz o st w λbV w'=>Wl E fz ops Q l bV w'
  |some (j,b)=>match oV ops j with
   |none=>False
   |some g=>match st.σ g with
    | .bool c=>ab c
      ((λeN=>ab b (W1 E fz o eN w λbV w'=>Wl E fz ops Q l bV w') (Wl E fz ops Q l (fin o eN undef) w)) {st with σ:=iM st.σ g (.bool true)})
      ((λeN=>ab b (Wl E fz ops Q l (fin o eN undef) w) (W1 E fz o eN w λbV w'=>Wl E fz ops Q l bV w')) {st with σ:=iM st.σ g (.bool false)})
    | .tuple _=>Wl E fz ops Q l (fin o st undef) w
    |_=>False
def bx(o:Oper):Bool:=
 match o.op with
 | .move _| .assign _| .pick .. | .build .. | .load .. | .binOp .. | .unOp .. | .convert .. | .makeInterface .. | .makeFunc .. | .slice .. | .fieldAddr .. | .field .. | .indexAddr .. | .index .. | .extract .. | .nilCheck _=>true
 | .call ⟨.builtin .len,_,_⟩| .call ⟨.builtin .min,_,_⟩| .call ⟨.builtin .max,_,_⟩=>true
 |_=>false
def reads(o:Oper):Bool:=
 match o.op with
 | .load _ _=>true
 |_=>false
def Av(ops:Array Oper)(i:Nat):Bool:=match ops[i]? with|some o=>reads o|none=>false
def sf(ops:Array Oper)(j:Nat):List Nat:=
 match ops[j]? with
 |none=>[]
 |some o=>(o.after.toList.filter λe=>Region.binds .any e).map (·.on)
def yo(ops:Array Oper):Nat->List Nat->List Nat
 |0,S=>S
 |i+1,S=>yo ops i (bif cM S i then sf ops i++S else S)
def Tf(ops:Array Oper)(j:Nat):List Nat:=yo ops ops.size (sf ops j)
def QM(ops:Array Oper)(j:Nat)(S:List Nat):Bool:=
 (range ops.size).any λx=> !Nat.beq x j&&Av ops x&& !cM S x
def late(ops:Array Oper)(j:Nat):Bool:=QM ops j (Tf ops j)
def qo(o:Oper):Bool:=match o.op with| .alloc _| .box _ _| .buildSlice _ _ _=>true|_=>false
def ET(ops:Array Oper)(i:Nat):Bool:=match ops[i]? with|some o=>qo o|none=>false
def qx(ops:Array Oper)(j:Nat):Bool:=late ops j&& !ET ops j
inductive iT where
 |nil
 |tk (i:Nat) (p:iT)
 |ef (i:Nat) (p:iT)
 |Se (i:Nat) (p:iT) (j:Nat) (q:iT)
 |Sd (i:Nat) (p:iT) (j:Nat) (q:iT) (k:Nat) (r:iT)
def dL(ops:Array Oper):iT->Bool
 | .nil=>false
 | .tk i p=>Av ops i||dL ops p
 | .ef _ p=>dL ops p
 | .Se _ p _ q=>dL ops p||dL ops q
 | .Sd _ p _ q _ r=>dL ops p||dL ops q||dL ops r
def bM(ops:Array Oper):iT->Bool
 | .nil=>false
 | .tk _ p=>bM ops p
 | .ef i p=>qx ops i||bM ops p
 | .Se i p j q=>(qx ops i||bM ops p)||(qx ops j||bM ops q)
 | .Sd i p j q k r=>(qx ops i||bM ops p)||(qx ops j||bM ops q)||(qx ops k||bM ops r)
def iG(ops:Array Oper)(af:Array Bool):List Nat->Option Nat
 |[]=>none
 |i::l=>bif (match ops[i]? with|some o=>bx o|none=>false)&&Region.free .any ops af i then some i else iG ops af l
def bK(ops:Array Oper)(i:Nat)(p:iT):Bool:=qx ops i||(ET ops i||(!dL ops p&& !bM ops p))
def eo(ops:Array Oper):Nat->Array Bool->Option iT
 |0,af=>match Region.ready .any ops af with
  |[]=>some .nil
  |_=>none
 |f+1,af=>match Region.ready .any ops af with
  |[]=>some .nil
  |i::rs=>match iG ops af (i::rs)with
   |some j=>match eo ops f (af.setIfInBounds j true)with
    |some p=>some (.tk j p)
    |none=>none
   |none=>match rs with
    |[]=>match eo ops f (af.setIfInBounds i true)with
     |some p=>bif bK ops i p then some (.ef i p)else none
     |none=>none
    |[j]=>match eo ops f (af.setIfInBounds i true),eo ops f (af.setIfInBounds j true)with
     |some p,some q=>bif bK ops i p&&bK ops j q then some (.Se i p j q)else none
     |_,_=>none
    |[j,k]=>match eo ops f (af.setIfInBounds i true),eo ops f (af.setIfInBounds j true),eo ops f (af.setIfInBounds k true)with
     |some p,some q,some r=>bif bK ops i p&&bK ops j q&&bK ops k r then some (.Sd i p j q k r)else none
     |_,_,_=>none
    |_=>none
def gY(eX:List Nat)(o:Oper):Bool:=
 match o.op,o.dst with
 | .alloc _,some k| .box _ _,some k=>cM eX k
 |_,_=>false
def ti(ops:Array Oper):Option iT:=
 bif Region.noSelect ops then eo ops ops.size (replicate ops.size false)else none
def kO(ops:Array Oper)(j:Nat):Bool:=match ops[j]? with|some o=>bx o||qo o|none=>false
def Na(ops:Array Oper)(af:Array Bool)(de:List Nat):Bool:=
 (range ops.size).all λh=>af.getD h true||(kO ops h||(Tf ops h).any λx=>cM de x)
inductive im where
 |nil
 |tk (i:Nat) (q:im)
 |ld (i:Nat) (q r:im)
 |alt (i:Nat) (q r:im)
 |done
def TV(ops:Array Oper)(i:Nat)(d:Bool):Bool:=match ops[i]? with|some o=>bx o|none=>d
def zT(ops:Array Oper)(af:Array Bool)(de:List Nat):List Nat->Option Nat
 |[]=>none
 |i::l=>bif (match ops[i]? with|some o=>bx o&&(!reads o||Na ops af (i::de))|none=>false)&&(Region.free .any ops af i&& !cM de i)then some i else zT ops af de l
def AX(ops:Array Oper)(af:Array Bool)(de:List Nat):List Nat->Option Nat
 |[]=>none
 |i::l=>bif (match ops[i]? with|some o=>bx o|none=>false)&&(Region.free .any ops af i&& !cM de i)then some i else AX ops af de l
def yS(ops:Array Oper)(de:List Nat)(f:Nat->Option im):List Nat->Option im
 |[]=>some .done
 |i::l=>bif cM de i then yS ops de f l else
  bif TV ops i true then none else match f i with
  |none=>none
  |some q=>match yS ops de f l with
   |none=>none
   |some r=>some (.alt i q r)
def lA(ops:Array Oper):Nat->Array Bool->List Nat->Option im
 |0,_,_=>none
 |g+1,af,de=>match Region.ready .any ops af with
  |[]=>some .nil
  |l=>match zT ops af de l with
   |some j=>match lA ops g (af.setIfInBounds j true) de with
    |some q=>some (.tk j q)
    |none=>none
   |none=>match AX ops af de l with
    |some j=>match lA ops g (af.setIfInBounds j true) de,lA ops g af (j::de)with
     |some q,some r=>some (.ld j q r)
     |_,_=>none
    |none=>yS ops de (λi=>lA ops g (af.setIfInBounds i true) (bif kO ops i then de else[])) l
def oh(ops:Array Oper):Option im:=
 bif Region.noSelect ops then lA ops (2*(ops.size*ops.size)+2) (replicate ops.size false) []else none
def isQ(eX:List Nat)(id:Nat):Bool:=cM eX (1000000+id)
def rF(u0 u:UW):Prop:=Below u0.heap.size u0.toWorld u.toWorld
def guarded(ops:Array Oper)(o:Oper)(st:St)(act skip:St->Prop):Prop:=
 match o.guard with
 |none=>act st
 |some (j,b)=>match oV ops j with
  |none=>False
  |some g=>match st.σ g with
   | .bool c=>ab c
     ((λeN=>ab b (act eN) (skip eN)) {st with σ:=iM st.σ g (.bool true)})
     ((λeN=>ab b (skip eN) (act eN)) {st with σ:=iM st.σ g (.bool false)})
   | .tuple _=>skip st
   |_=>False
def stepT(E:Env)(fz:List Nat)(ops:Array Oper)(u0:UW)(i:Nat)(st:St)(K:St->Prop):Prop:=
 match ops[i]? with
 |none=>False
 |some o=>guarded ops o st (λeN=>W1 E fz o eN u0 λbV _=>K bV) (λeN=>K (fin o eN undef))
def sa(E:Env)(fz:List Nat)(ops:Array Oper)(u0:UW)(i:Nat)(st:St)(u:UW)(K:St->UW->Prop):Prop:=
 match ops[i]? with
 |none=>False
 |some o=>bif gY E.eX o then False else guarded ops o st
   (λeN=>bif qx ops i then W1 E (fz++eN.D.map (·.1)) o eN u (λbV u'=>rF u0 u'/\K bV u')else W1 E fz o eN u K)
   (λeN=>K (fin o eN undef) u)
def Wd(E:Env)(fz:List Nat)(ops:Array Oper)(u0:UW)(Q:St->UW->Prop):iT->St->UW->Prop
 | .nil,st,u=>Q st u
 | .tk i p,st,u=>stepT E fz ops u0 i st λbV=>Wd E fz ops u0 Q p bV u
 | .ef i p,st,u=>sa E fz ops u0 i st u λbV u'=>Wd E fz ops u0 Q p bV u'
 | .Se i p j q,st,u=>(sa E fz ops u0 i st u λbV u'=>Wd E fz ops u0 Q p bV u')/\(sa E fz ops u0 j st u λbV u'=>Wd E fz ops u0 Q q bV u')
 | .Sd i p j q k r,st,u=>(sa E fz ops u0 i st u λbV u'=>Wd E fz ops u0 Q p bV u')/\(sa E fz ops u0 j st u λbV u'=>Wd E fz ops u0 Q q bV u')/\(sa E fz ops u0 k st u λbV u'=>Wd E fz ops u0 Q r bV u')
def LC(E:Env)(fz:List Nat)(ops:Array Oper)(i:Nat)(st:St)(u:UW)(K:St->UW->Prop):Prop:=
 match ops[i]? with
 |none=>False
 |some o=>guarded ops o st (λeN=>W1 E fz o eN u K) (λeN=>K (fin o eN undef) u)
def Wq(E:Env)(fz:List Nat)(ops:Array Oper)(Q:St->UW->Prop):im->St->UW->Prop
 | .nil,st,u=>Q st u
 | .tk i q,st,u=>stepT E fz ops u i st λbV=>Wq E fz ops Q q bV u
 | .ld i q r,st,u=>(stepT E fz ops u i st λbV=>Wq E fz ops Q q bV u)/\Wq E fz ops Q r st u
 | .alt i q r,st,u=>(LC E fz ops i st u λbV u'=>Wq E fz ops Q q bV u')/\Wq E fz ops Q r st u
 | .done,_,_=>True
def fx:Code->Option Nat
 | .region id _ _=>some id
 | .seq a b=>match fx a with|some i=>some i|none=>fx b
 | .cond _ a b=>match fx a with|some i=>some i|none=>fx b
 | .block _ a=>fx a
 | .loop a=>fx a
 | .scope a=>fx a
 | .rangeFunc _ _ a b=>match fx a with|some i=>some i|none=>fx b
 |_=>none
def writes:Code->List Nat
 | .region _ ops _=>ops.toList.filterMap (·.dst)
 | .seq a b=>writes a++writes b
 | .cond _ a b=>writes a++writes b
 | .block _ a=>writes a
 | .loop a=>writes a
 | .scope a=>writes a
 |_=>[]
def TT(c:Cut)(J:Tup c.live->UW->Prop)(st:St)(w:UW):Prop:=
 bif kL st c.fD then(match fP st c.live with
  |some s=>J s w
  |none=>False)else False
def KD(c:Cut)(k:Nat):Bool:=
 (c.live.any λx=>match x with|(t,.box _)=>beq t k|_=>false)||c.fD.any λx=>beq x.1 k
def freeze(fz:List Nat)(D:List (Nat×Nat))(c:Cut):List Nat:=
 fz++(D.map (·.1)).filter λk=> !KD c k
def r_(next:St->UW->Prop)(Q:Exit->St->UW->Prop):Exit->St->UW->Prop
 | .normal,st,w=>next st w
 |e,st,w=>Q e st w
def xN(id:Nat)(Q:Exit->St->UW->Prop):Exit->St->UW->Prop
 | .exit i,st,w=>bif beq i id then Q .normal st w else Q (.exit i) st w
 |e,st,w=>Q e st w
def om(fz:List Nat)(D:List (Nat×Nat))(c:Cut):Bool:=
 (c.live.all λx=>match x with|(t,.box ks)=> !cM fz t&&blt t 65536&&ble ks.length 65536|(t,_)=>blt t 65536&& !nC D t)&&c.fD.all λx=> !cM fz x.1&&blt x.1 65536&&h_ D x.1 x.2
def jC:Code->List Nat
 | .exit i=>[i]
 | .seq a b=>jC a++jC b
 | .cond _ a b=>jC a++jC b
 | .block id a=>(jC a).filter λi=> !Nat.beq i id
 | .loop a=>jC a
 | .scope a=>jC a
 | .rangeFunc _ _ _ b=>jC b
 |_=>[]
def lN:Code->Bool
 | .ret=>true
 | .seq a b=>lN a||lN b
 | .cond _ a b=>lN a||lN b
 | .block _ a=>lN a
 | .loop a=>lN a
 | .scope a=>lN a
 | .rangeFunc _ _ _ b=>lN b
 |_=>false
def Lt:List Nat->List Nat
 |[]=>[]
 |x::l=>bif cM l x then Lt l else x::Lt l
def HA:List (Nat×Prop)->Nat->Prop
 |[],_=>False
 |(k,A)::l,i=>bif beq k i then A else HA l i
def PK(p:Option Code)(A B:Prop)(l:List (Nat×Prop)):Prop:=
 match p with
 |none=>A
 |some .ret=>B
 |some (.exit i)=>HA l i
 |_=>False
def QC(K:St->UW->Prop):Exit->St->UW->Prop
 | .normal,st,u=>K st u
 |_,_,_=>False
def JG(R:Option Code->UW->Prop):Exit->St->UW->Prop
 | .normal,_,u=>R none u
 | .ret,_,u=>R (some .ret) u
 | .exit i,_,u=>R (some (.exit i)) u
 |_,_,_=>False
def yZ(σ:Fr):Fr:=λt=>match σ t with| .complex _ _ _=>aY|v=>v
def uL(σ:Fr):List Nat->List Value->Fr
 |p::ps,v::vs=>uL (iM σ p v) ps vs
 |_,_=>σ
def W(E:Env):List Nat->Code->(Exit->St->UW->Prop)->St->UW->Prop
 |_,.skip,Q,st,w=>Q .normal st w
 |_,.ret,Q,st,w=>Q .ret st w
 |_,.exit i,Q,st,w=>Q (.exit i) st w
 |fz,.region _ ops false,Q,st,w=>Wl E fz ops (Q .normal) ops.toList st w
 |fz,.region id ops true,Q,st,w=>bif E.P.follows .mixedOrders then(bif isQ E.eX id then(match oh ops with
  |some p=>Wq E fz ops (Q .normal) p st w
  |none=>False)else match ti ops with
  |some p=>Wd E fz ops w (Q .normal) p st w
  |none=>False)else False
 |fz,.seq a b,Q,st,w=>match(fx b).bind (look E.i_)with
  |none=>W E fz a (r_ (λbV w'=>W E fz b Q bV w') Q) st w
  |some l=>bif om fz st.D l then cf (λJ=>W E (freeze fz st.D l) a (r_ (TT l J) Q) st w) (λs w'=>W E fz b Q (mix st (writes a) l s) w')else False
 |fz,.cond c a b,Q,st,w=>match ev st.σ c with
  | .bool t=>ab t (W E fz a Q st w) (W E fz b Q st w)
  |_=>False
 |fz,.block id a,Q,st,w=>W E fz a (xN id Q) st w
 |fz,.loop a,Q,st,w=>match(fx a).bind (look E.loops)with
  |none=>False
  |some l=>bif om fz st.D l then TT l (ak λnext s w'=>W E (freeze fz st.D l) a (r_ (TT l next) Q) (mix st (writes a) l s) w') st w else False
 |_,.rangeFunc f ps assign body,Q,st,w=>match look E.rB (ps.toList.headD 0)with
  |none=>False
  |some ts=>bif beq ts.length ps.toList.length then
    Tq E.P (ev st.σ f) (λvs R u=>KB E.P ts λoQ=>vs=oQ/\W E [] assign (QC λeN u1=>W E [] body (JG R) eN u1) ⟨uL (yZ st.σ) ps.toList oQ,[]⟩ u)
     (λp u=>PK p (Q .normal st u) (bif lN body then Q .ret st u else False) ((Lt (jC body)).map λi=>(i,Q (.exit i) st u))) w
   else False
 |_,_,_,_,_=>False
def IB(args:List Value):Fr:=λt=>(args[t]?).getD undef
def sW(P:Program)(st:St)(w:UW):List ResultVar->(List Value->Prop)->Prop
 |[],F=>F []
 | .tmp t::l,F=>bif plain (st.σ t)then sW P st w l λvs=>F (st.σ t::vs)else False
 | .cell a t::l,F=>match kinds P t with
   |none=>False
   |some ks=>match st.σ a with
    | .complex .f64 k off=>match eR st.D k with
      |some m=>bif ble (off+ks.length) m&&eB (wW st.σ k off ks.length)then sW P st w l λvs=>F (EW (di P t) (wW st.σ k off ks.length)::vs)else False
      |none=>False
    |v=>dI v λb off=>ZJ ks λus=>rd w.heap b off ks.length=some us/\sW P st w l λvs=>F (EW (di P t) us::vs)
def Nc(R:Value->UW->Prop)(w:UW):List Value->Prop
 |[v]=>R v w
 |vs=>R (.tuple vs.toArray) w
def af6(P:Program)(rs:List ResultVar)(R:Value->UW->Prop):Exit->St->UW->Prop
 | .ret,st,w=>sW P st w rs (Nc R w)
 | .normal,st,w=>sW P st w rs (Nc R w)
 |_,_,_=>False
def WF(P:Program)(n:Nat)(eX:List Nat)(loops i_:List (Nat×Cut))(rB:List (Nat×List TypeId))(c:Code)(rs:List ResultVar)(args:List Value)(w:UW)(R:Value->UW->Prop):Prop:=
 W ⟨P,n,eX,loops,i_,rB⟩ [] c (af6 P rs R) ⟨IB args,[]⟩ w
theorem Below.PD{B:Nat}{w w':World}(h:Below B w w')(hB:w.heap.size<=B)(F:Nat->Prop):Mod F w w':=
 ⟨h.os,h.tape,h.output,h.size,λb hb _=>h.block b (by omega)⟩
theorem Mod.trans{F:Nat->Prop}{a b c:World}(h:Mod F a b)(k:Mod F b c):Mod F a c:=
 ⟨k.os.trans h.os,k.tape.trans h.tape,k.output.trans h.output,le_trans h.size k.size,
  λi hi hn=>(k.cw i (lt_of_lt_of_le hi h.size) hn).trans (h.cw i hi hn)⟩
structure Ctx where
 n:Nat
 w0:World
 w1:World
 F:Nat->Prop
 ro:Option (Nat×Loop):=none
structure Hid(u:UW)(wa:World)(b:Nat)(o:Obj):Prop where
 at_:wa.heap[b]?=some o
 other:o.isCells=false
 fW:¬u.fW b
 mask:b<u.heap.size->u.heap[b]?=some cV
theorem Hid.world{u u':UW}{wa wb:World}{F:Nat->Prop}{b:Nat}{o:Obj}(h:Hid u wa b o)(hF:∀b,F b->u.fW b)(hm:Mod F wa wb)(Q_:Mod F u.toWorld u'.toWorld)
  (Od:∀b,u.heap.size<=b->b<wa.heap.size->b<u'.heap.size->u'.heap[b]?=some cV) (hold:∀b,u'.fW b->b<wa.heap.size->u.fW b):Hid u' wb b o:=by
 have bI:b<wa.heap.size:=(Array.getElem?_eq_some_iff.1 h.at_).1;refine⟨(hm.cw _ bI (λhf=>h.fW (hF _ hf))).trans h.at_,h.other,λhp=>h.fW (hold _ hp bI),λhl=>?_⟩;by_cases hu:b<u.heap.size
 ·rw[Q_.cw _ hu (λhf=>h.fW (hF _ hf))];exact h.mask hu
 ·exact Od _ (by omega) bI hl
structure Marks(C:Ctx)(ds:List Deferred)(wa:World)(u:UW):Prop where
 each:∀d∈ds,∃r,d={target:=.collected r,args:= #[]}/\C.w1.heap.size<=r/\Hid u wa r (.deferred (some []))
 nodup:ds.Nodup
structure Inv(C:Ctx)(a:Act)(wa:World)(st:St)(u:UW)(θ:Nat->Nat):Prop where
 size:a.tmps.size=C.n
 iO:C.n<=65536
 defers:Marks C a.defers wa u
 round:∀l r,C.ro=some (l,r)->Hid u wa l (.loop r)
 iz:∀t,t<C.n->R θ (st.σ t) (a.tmps.getD t undef)
 below:xT u.toWorld wa
 boxes:∀k m,(k,m)∈st.D->m<=65536/\∃c T,wa.heap[θ k]?=some (.cells c T (0,0))/\c.size=m/\(∀j,j<m->R θ (st.σ (gx k j)) (c.getD j undef))/\¬u.fW (θ k)/\C.w1.heap.size<=θ k/\(θ k<u.heap.size->u.heap[θ k]?=some cV)
 inj:∀k m k' m',(k,m)∈st.D->(k',m')∈st.D->θ k=θ k'->k=k'/\m=m'
 jd:∀t,t<C.n->∀k o,st.σ t=dK k o->∃m,(k,m)∈st.D
 gE:∀k m,(k,m)∈st.D->∀j,j<m->∀k' o,st.σ (gx k j)≠dK k' o
 pb:∀b,u.fW b->b<wa.heap.size
 mod:Mod C.F C.w1 wa
 pZ:∀b,u.fW b->b<C.w1.heap.size->C.F b
 umod:Mod C.F C.w0 u.toWorld
 Jm:C.w0.heap.size<=C.w1.heap.size
 Bn:∀b,C.w0.heap.size<=b->b<C.w1.heap.size->b<u.heap.size->u.heap[b]?=some cV
 F0:∀b,C.F b->b<C.w0.heap.size
theorem iF{k j k' j':Nat}(hj:j<65536)(Jd:j'<65536)(h:gx k j=gx k' j'):k=k'/\j=j':=by
 unfold gx at h;omega
theorem jc(k j:Nat):65536<=gx k j:=by unfold gx;omega
theorem gI{σ:Fr}{k:Nat}:∀(vs:List Value) (o t:Nat),t<65536->qX σ k o vs t=σ t:=by
 intro vs;induction vs generalizing σ with
 |nil=>intro o t _;rfl
 |cons v vs ih=>
  intro o t ht;simp only[qX];rw[ih _ _ ht,cj];have:=jc k o;omega
theorem dy{σ:Fr}{k:Nat}:∀(vs:List Value) (o i:Nat),(∀j,o<=j->j<o+vs.length->i≠gx k j)->qX σ k o vs i=σ i:=by
 intro vs;induction vs generalizing σ with
 |nil=>intro o i _;rfl
 |cons v vs ih=>
  intro o i h;simp only[qX];rw[ih _ _ (λj h1 h2=>h j (by omega) (by simp;omega)),cj];exact h o (by omega) (by simp)
theorem sG{σ:Fr}{k:Nat}:∀(vs:List Value) (o j:Nat),j<vs.length->o+vs.length<=65536->qX σ k o vs (gx k (o+j))=vs.getD j undef:=by
 intro vs;induction vs generalizing σ with
 |nil=>intro o j h;simp at h
 |cons v vs ih=>
  intro o j h hl;simp only[qX];simp only[length_cons]at h hl;cases j with
  |zero=>
   rw[dy]
   ·simp
   ·intro i h1 h2 he;have:=(iF (by omega) (by omega) he).2;omega
  |succ j=>
   have:=ih (σ:=iM σ (gx k o) v) (o+1) j (by omega) (by omega);rw[show o+(j+1)=o+1+j from by omega,this];simp
structure aip(n:Nat)(s t:St):Prop where
 slot:∀i,i<n->s.σ i=aY\/s.σ i=t.σ i
 D:∀k m,(k,m)∈s.D->(k,m)∈t.D/\∀j,j<m->s.σ (gx k j)=aY\/s.σ (gx k j)=t.σ (gx k j)
 jd:∀i,i<n->∀k o,s.σ i=dK k o->(∃m,(k,m)∈t.D)->∃m,(k,m)∈s.D
theorem IJ(θ:Nat->Nat)(r:Value):R θ aY r:=trivial
theorem Inv.Cp{C:Ctx}{a:Act}{wa:World}{s t:St}{u:UW}{θ:Nat->Nat}(h:Inv C a wa t u θ)(hw:aip C.n s t):Inv C a wa s u θ where
 size:=h.size
 iO:=h.iO
 defers:=h.defers
 round:=h.round
 iz:=λi hi=>by
  rcases hw.slot i hi with e|e
  ·rw[e];exact IJ _ _
  ·rw[e];exact h.iz i hi
 below:=h.below
 boxes:=λk m hk=>by
  obtain⟨bZ,hg⟩:=hw.D k m hk
  obtain⟨hm,c,T,h1,h2,h3,h4,h5⟩:=h.boxes k m bZ
  refine⟨hm,c,T,h1,h2,λj hj=>?_,h4,h5⟩
  rcases hg j hj with e|e
  ·rw[e];exact IJ _ _
  ·rw[e];exact h3 j hj
 inj:=λk m k' m' h1 h2=>h.inj k m k' m' (hw.D k m h1).1 (hw.D k' m' h2).1
 jd:=λi hi k o e=>by
  refine hw.jd i hi k o e ?_
  rcases hw.slot i hi with e'|e'
  ·rw[e]at e';cases e'
  ·exact h.jd i hi k o (e'▸e)
 gE:=λk m hk j hj k' o e=>by
  rcases(hw.D k m hk).2 j hj with e'|e'
  ·rw[e]at e';cases e'
  ·exact h.gE k m (hw.D k m hk).1 j hj k' o (e'▸e)
 pb:=h.pb
 mod:=h.mod
 pZ:=h.pZ
 umod:=h.umod
 Jm:=h.Jm
 Bn:=h.Bn
 F0:=h.F0
theorem vw(a:Array Value)(d t:Nat)(r:Value)(h:d<a.size):(a.setIfInBounds d r).getD t undef=if t=d then r else a.getD t undef:=by
 by_cases e:t=d
 ·subst e;simp[h]
 ·rw[if_neg e];simp[Ne.symm e]
theorem se(a:Act)(d:Option Nat)(r:Value):(a.put d r).tmps.size=a.tmps.size:=by cases d<;>simp[Act.put]
theorem put_defers(a:Act)(d:Option Nat)(r:Value):(a.put d r).defers=a.defers:=by cases d<;>rfl
theorem Inv.fin{C:Ctx}{a:Act}{wa:World}{st:St}{u:UW}{θ:Nat->Nat}(h:Inv C a wa st u θ)(d:Option Nat)(hd:∀t,d=some t->t<C.n){v r:Value}(hr:R θ v r)
  (hf:∀k o,v=dK k o->∃m,(k,m)∈st.D):Inv C (a.put d r) wa {st with σ:=put st.σ d v} u θ where
 size:=by rw[se];exact h.size
 iO:=h.iO
 defers:=by rw[put_defers];exact h.defers
 round:=h.round
 iz:=λt ht=>by
  cases d with
  |none=>exact h.iz t ht
  |some d=>
   simp only[Act.put,put]
   rw[vw _ _ _ _ (by rw[h.size];exact hd d rfl)]
   by_cases e:t=d
   ·subst e;simp[hr]
   ·rw[if_neg e,cj _ _ e];exact h.iz t ht
 below:=h.below
 boxes:=λk m hk=>by
  obtain⟨hm,c,T,h1,h2,h3,h4,h5⟩:=h.boxes k m hk
  refine⟨hm,c,T,h1,h2,λj hj=>?_,h4,h5⟩
  cases d with
  |none=>exact h3 j hj
  |some d=>
   simp only[put]
   have:=hd d rfl;have:=h.iO;have:=jc k j
   rw[cj _ _ (by omega)]
   exact h3 j hj
 inj:=h.inj
 jd:=λt ht k o e=>by
  cases d with
  |none=>exact h.jd t ht k o e
  |some d=>
   simp only[put]at e
   by_cases e':t=d
   ·subst e';rw[eT]at e;exact hf k o e
   ·rw[cj _ _ e']at e;exact h.jd t ht k o e
 gE:=λk m hk j hj k' o e=>by
  cases d with
  |none=>exact h.gE k m hk j hj k' o e
  |some d=>
   simp only[put]at e
   have:=hd d rfl;have:=h.iO;have:=jc k j
   rw[cj _ _ (by omega)]at e
   exact h.gE k m hk j hj k' o e
 pb:=h.pb
 mod:=h.mod
 pZ:=h.pZ
 umod:=h.umod
 Jm:=h.Jm
 Bn:=h.Bn
 F0:=h.F0
theorem jL{v:Value}(h:plain v=true)(k o:Nat):v≠dK k o:=by rintro rfl;simp[plain]at h
theorem Inv.cN{C:Ctx}{a:Act}{wa:World}{st:St}{u:UW}{θ:Nat->Nat}(h:Inv C a wa st u θ)(d:Option Nat)(hd:∀t,d=some t->t<C.n){v:Value}(hp:plain v=true):
  Inv C (a.put d v) wa {st with σ:=put st.σ d v} u θ:=
 h.fin d hd (oJ hp) (λk o e=>absurd e (jL hp k o))
theorem Inv.world{C:Ctx}{a:Act}{wa:World}{st:St}{u:UW}{θ:Nat->Nat}(h:Inv C a wa st u θ){wb:World}{u':UW}{F:Nat->Prop}(hF:∀b,F b->u.fW b)
  (hm:Mod F wa wb) (hb:xT u'.toWorld wb) (Q_:Mod F u.toWorld u'.toWorld)
  (Od:∀b,u.heap.size<=b->b<wa.heap.size->b<u'.heap.size->u'.heap[b]?=some cV)
  (hp:∀b,u'.fW b->b<wb.heap.size) (hold:∀b,u'.fW b->b<wa.heap.size->u.fW b):Inv C a wb st u' θ where
 size:=h.size
 iO:=h.iO
 defers:=⟨λd hd=>let ⟨r,e,hr,hh⟩:=h.defers.each d hd;⟨r,e,hr,hh.world hF hm Q_ Od hold⟩,h.defers.nodup⟩
 round:=λl r e=>(h.round l r e).world hF hm Q_ Od hold
 iz:=h.iz
 below:=hb
 boxes:=λk m hk=>by
  obtain⟨yB,c,T,h1,h2,h3,h4,h5,h6⟩:=h.boxes k m hk
  have bI:θ k<wa.heap.size:=(Array.getElem?_eq_some_iff.1 h1).1
  refine⟨yB,c,T,(hm.cw _ bI (λhf=>h4 (hF _ hf))).trans h1,h2,h3,λKf=>h4 (hold _ Kf bI),h5,λhl=>?_⟩
  by_cases hu:θ k<u.heap.size
  ·rw[Q_.cw _ hu (λhf=>h4 (hF _ hf))];exact h6 hu
  ·exact Od _ (by omega) bI hl
 inj:=h.inj
 jd:=h.jd
 gE:=h.gE
 pb:=hp
 mod:=by
  refine⟨hm.os.trans h.mod.os,hm.tape.trans h.mod.tape,hm.output.trans h.mod.output,le_trans h.mod.size hm.size,λb hb hn=>?_⟩
  have bI:b<wa.heap.size:=lt_of_lt_of_le hb h.mod.size
  rw[hm.cw b bI (λhf=>hn (h.pZ b (hF _ hf) hb))]
  exact h.mod.cw b hb hn
 pZ:=λb hb bI=>h.pZ b (hold b hb (lt_of_lt_of_le bI h.mod.size)) bI
 umod:=by
  refine⟨Q_.os.trans h.umod.os,Q_.tape.trans h.umod.tape,Q_.output.trans h.umod.output,le_trans h.umod.size Q_.size,λb hb hn=>?_⟩
  have bI:b<u.heap.size:=lt_of_lt_of_le hb h.umod.size
  rw[Q_.cw b bI (λhf=>hn (h.pZ b (hF _ hf) (lt_of_lt_of_le hb h.Jm)))]
  exact h.umod.cw b hb hn
 Jm:=h.Jm
 Bn:=λb h1 h2 h3=>by
  by_cases hu:b<u.heap.size
  ·by_cases hf:F b
   ·have:=h.Bn b h1 h2 hu
    have hFb:=h.pZ b (hF _ hf) h2
    exact absurd (h.F0 b hFb) (by omega)
   ·rw[Q_.cw b hu hf];exact h.Bn b h1 h2 hu
  ·exact Od b (by omega) (lt_of_lt_of_le h2 h.mod.size) h3
 F0:=h.F0
theorem Mod.refl(F:Nat->Prop)(w:World):Mod F w w:=⟨rfl,rfl,rfl,le_refl _,λ_ _ _=>rfl⟩
theorem xT.refl(w:World):xT w w:=⟨rfl,rfl,rfl,le_refl _,λ_ _=>.inl rfl⟩
theorem Inv.drew{C:Ctx}{a:Act}{wa:World}{st:St}{u:UW}{θ:Nat->Nat}(h:Inv C a wa st u θ):Inv C a {wa with drawn:=wa.drawn+1} st u θ:=
 h.world (u':=u) (F:=λ_=>False) (λ_ hf=>hf.elim) ⟨rfl,rfl,rfl,le_refl _,λ_ _ _=>rfl⟩ ⟨h.below.os,h.below.tape,h.below.output,h.below.size,h.below.block⟩ (Mod.refl _ _)
  (λb h1 _ h3=>by omega) h.pb (λ_ hb _=>hb)
def grow(u:World)(wa:World)(o:Obj):World:={wa with heap:=u.heap++replicate (wa.heap.size-u.heap.size) cV++ #[o]}
theorem rm{u wa:World}{o:Obj}(h:u.heap.size<=wa.heap.size):(grow u wa o).heap.size=wa.heap.size+1:=by simp[grow];omega
theorem Br{u wa:World}{o:Obj}{b:Nat}(h:b<u.heap.size):(grow u wa o).heap[b]?=u.heap[b]?:=by
 simp only[grow];rw[Array.getElem?_append_left (by simp;omega),Array.getElem?_append_left h]
theorem Ib{u wa:World}{o:Obj}{b:Nat}(h1:u.heap.size<=b)(h2:b<wa.heap.size):(grow u wa o).heap[b]?=some cV:=by
 simp only[grow];rw[Array.getElem?_append_left (by simp;omega),Array.getElem?_append_right h1,Array.getElem?_replicate,if_pos (by omega)]
theorem Ia{u wa:World}{o:Obj}(h:u.heap.size<=wa.heap.size):(grow u wa o).heap[wa.heap.size]?=some o:=by
 simp only[grow];rw[Array.getElem?_append_right (by simp;omega)];have e:wa.heap.size-(u.heap++replicate (wa.heap.size-u.heap.size) cV).size=0:=by simp;omega
 rw[e];rfl
theorem Inv.born{C:Ctx}{a:Act}{wa:World}{st:St}{u:UW}{θ:Nat->Nat}(h:Inv C a wa st u θ)(o:Obj):
  ∃w',qV u.toWorld w' wa.heap.size o/\Inv C a (wa.alloc o) st (u.born wa.heap.size w') θ:=by
 have hB:Below wa.heap.size wa (wa.alloc o):=(Below.refl _ _).alloc (le_refl _) o;have nE:(wa.alloc o).heap[wa.heap.size]?=some o:=by
  show(wa.heap.push o)[wa.heap.size]?=_;simp
 have NX:=h.below.size;have fw:(wa.alloc o).heap.size=wa.heap.size+1:=by simp
 refine⟨grow u.toWorld wa o,⟨⟨h.below.os,h.below.tape,h.below.output,by rw[rm NX];omega,λk hk=>Br hk⟩,Ia NX,NX⟩,?_⟩;refine h.world (F:=λ_=>False) (λ_ hf=>hf.elim) (Below.PD hB (le_refl _) _) ?_ ?_ ?_ ?_ ?_
 ·refine⟨rfl,rfl,rfl,?_,λb hb=>?_⟩
  ·show(grow u.toWorld wa o).heap.size<=_;rw[rm NX,fw];omega
  ·have jY:b<(grow u.toWorld wa o).heap.size:=hb;rw[rm NX]at jY;show(grow u.toWorld wa o).heap[b]?=_\/(grow u.toWorld wa o).heap[b]?=_;by_cases h1:b<u.heap.size
   ·rw[Br h1,hB.block b (by omega)];exact h.below.block b h1
   ·by_cases h2:b<wa.heap.size
    ·exact .inr (Ib (by omega) h2)
    ·obtain rfl:b=wa.heap.size:=by omega
     exact .inl (by rw[Ia NX,nE])
 ·exact⟨h.below.os,h.below.tape,h.below.output,by show _<=(grow u.toWorld wa o).heap.size;rw[rm NX];omega,λb hb _=>Br hb⟩
 ·intro b h1 h2 _;exact Ib h1 h2
 ·intro b hb;rcases hb with hb|rfl
  ·exact lt_of_lt_of_le (h.pb b hb) hB.size
  ·omega
 ·intro b hb bI;rcases hb with hb|rfl
  ·exact hb
  ·omega
structure cD(n:Nat)(fz ws:List Nat)(s t:St):Prop where
 slot:∀i,i<n->i∉ws->t.σ i=s.σ i
 D:∀x,x∈s.D->x∈t.D
 fz:∀k,k∈fz->∀m,(k,m)∈s.D->∀j,j<m->t.σ (gx k j)=s.σ (gx k j)
theorem cD.refl(n:Nat)(fz ws:List Nat)(s:St):cD n fz ws s s:=⟨λ_ _ _=>rfl,λ_ h=>h,λ_ _ _ _ _ _=>rfl⟩
theorem cD.trans{n:Nat}{fz ws ws':List Nat}{a b c:St}(h:cD n fz ws a b)(k:cD n fz ws' b c):cD n fz (ws++ws') a c where
 slot:=λi hi hn=>by
  simp only[List.mem_append,not_or]at hn
  rw[k.slot i hi hn.2,h.slot i hi hn.1]
 D:=λx hx=>k.D x (h.D x hx)
 fz:=λx hx m hm j hj=>by rw[k.fz x hx m (h.D _ hm) j hj,h.fz x hx m hm j hj]
theorem cD.mono{n:Nat}{fz ws ZE ws':List Nat}{a b:St}(h:cD n fz ws a b)(h1:∀x,x∈ZE->x∈fz)(h2:∀x,x∈ws->x∈ws'):cD n ZE ws' a b:=
 ⟨λi hi hn=>h.slot i hi (λhx=>hn (h2 _ hx)),h.D,λk hk=>h.fz k (h1 _ hk)⟩
theorem cD.fin{n:Nat}{fz:List Nat}(st:St)(d:Option Nat)(hd:∀t,d=some t->t<n)(hn:n<=65536)(v:Value):cD n fz d.toList st {st with σ:=put st.σ d v} where
 slot:=λi _ Oa=>by
  cases d with
  |none=>rfl
  |some d=>simp only[Option.toList,List.mem_singleton]at Oa;simp only[put];rw[cj _ _ Oa]
 D:=λ_ h=>h
 fz:=λk _ m _ j _=>by
  cases d with
  |none=>rfl
  |some d=>
   simp only[put]
   have:=hd d rfl;have:=jc k j
   rw[cj _ _ (by omega)]
theorem jS(b o i:Nat):(⟨b,o,none⟩:Addr).add i=⟨b,o+i,none⟩:=by
 unfold Addr.add;split
 ·subst_vars;rfl
 ·rfl
theorem Ga{θ θ':Nat->Nat}{v r:Value}(h:R θ v r)(hf:∀k o,v=dK k o->θ' k=θ k):R θ' v r:=by
 unfold R at*
 split
 ·rename_i k o;rw[hf k o rfl];exact h
 ·trivial
 ·rename_i h1 h2;split at h
  ·exact absurd rfl (h1 _ _)
  ·exact absurd rfl (h2 _ _)
  ·exact h
def iN(w:World)(b:Nat)(o:Obj):World:={w with heap:=w.heap.setIfInBounds b o}
theorem uM{w:World}{b:Nat}{o:Obj}(h:b<w.heap.size):(iN w b o).heap[b]?=some o:=by simp[iN,h]
theorem kK{w:World}{b c:Nat}{o:Obj}(h:c≠b):(iN w b o).heap[c]?=w.heap[c]?:=by simp[iN,Ne.symm h]
theorem eV{w:World}{b:Nat}{o:Obj}:(iN w b o).heap.size=w.heap.size:=by simp[iN]
theorem uC:∀(vs:List Value) (c:Array Value) (o:Nat),(uy c o vs).size=c.size
 |[],_,_=>rfl
 |v::vs,c,o=>by simp[uy,uC vs]
theorem Lo:∀(vs:List Value) (c:Array Value) (o j:Nat),o+vs.length<=c.size->(uy c o vs).getD j undef=if o<=j/\j<o+vs.length then vs.getD (j-o) undef else c.getD j undef
 |[],c,o,j,_=>by
  rw[if_neg (by simp only[length_nil];omega)];rfl
 |v::vs,c,o,j,h=>by
  simp only[length_cons]at h
  simp only[uy]
  rw[Lo vs _ (o+1) j (by simp;omega),vw _ _ _ _ (by omega)]
  by_cases h1:j=o
  ·subst h1
   rw[if_neg (by omega),if_pos rfl,if_pos (by simp)]
   simp
  ·rw[if_neg h1]
   by_cases h2:o+1<=j/\j<o+1+vs.length
   ·rw[if_pos h2,if_pos (by simp;omega)]
    obtain⟨i,hi⟩:∃i,j-o=i+1:=⟨j-o-1,by omega⟩
    rw[hi,show j-(o+1)=i from by omega];simp
   ·rw[if_neg h2,if_neg (by simp;omega)]
theorem cell_of{w:World}{b o:Nat}{c:Array Value}{T:TypeId}{f:Nat×Nat}(h:w.heap[b]?=some (.cells c T f)):w.cell? ⟨b,o,none⟩=c[o]?:=by
 simp[World.cell?,h]
theorem mH{P:Program}{w:World}{b o:Nat}{c:Array Value}{T:TypeId}{f:Nat×Nat}(h:w.heap[b]?=some (.cells c T f)):
  ∀(n i:Nat) (acc:Array Value),o+i+n<=c.size->(loadCellsFrom ⟨b,o,none⟩ i n acc).run P w=.ok (acc++((c.toList.drop (o+i)).take n).toArray) w
 |0,i,acc,_=>by simp[loadCellsFrom]
 |n+1,i,acc,hl=>by
  have bI:o+i<c.size:=by omega
  simp only[loadCellsFrom,run_bind,run_load,jS,cell_of h,getElem?_eq_getElem bI,andThen_ok];rw[mH h n (i+1) _ (by omega)];have tA:o+i<c.toList.length:=by simpa using bI
  rw[drop_eq_getElem_cons tA];simp[Nat.add_assoc]
theorem sj{P:Program}{w:World}{b o n:Nat}{c:Array Value}{T:TypeId}{f:Nat×Nat}(h:w.heap[b]?=some (.cells c T f))(hl:o+n<=c.size):
  (loadCells ⟨b,o,none⟩ n).run P w=.ok ((c.toList.drop o).take n).toArray w:=by
 unfold loadCells;rw[mH h n 0 #[] (by omega)];simp
theorem NB{v:Value}(h:one v=true):v.oneCell'=true:=by cases v<;>simp_all [one,Value.oneCell']
theorem Ns{w:World}{b:Nat}{o:Obj}(h:w.heap[b]?=some o):iN w b o=w:=by
 obtain⟨heap,tape,drawn,os,output⟩:=w;simp only[iN];congr 1;apply Array.ext_getElem?;intro k;rw[Array.getElem?_setIfInBounds];split
 ·rename_i e;subst e;have hb:=(Array.getElem?_eq_some_iff.1 h).1;rw[if_pos hb];exact h.symm
 ·rfl
theorem EB{w:World}{b o:Nat}{c:Array Value}{T:TypeId}{f:Nat×Nat}(v:Value)(h:w.heap[b]?=some (.cells c T f)):
  w.setCell ⟨b,o,none⟩ v=iN w b (.cells (c.setIfInBounds o v) T f):=by
 obtain⟨heap,tape,drawn,os,output⟩:=w;simp only[iN,World.setCell];congr 1;apply Array.ext_getElem?;intro k;rw[Array.getElem?_setIfInBounds,Array.getElem?_modify];split
 ·rename_i e;subst e;have h':heap[b]?=some (.cells c T f):=h;have hb:=(Array.getElem?_eq_some_iff.1 h').1;rw[h'];simp[hb]
 ·rfl
theorem lp{P:Program}{b o:Nat}{T:TypeId}:∀(vs:List Value) (i:Nat) (w:World) (c:Array Value),w.heap[b]?=some (.cells c T (0,0))->o+i+vs.length<=c.size->(∀v∈vs,one v=true)->
  (storeCells ⟨b,o,none⟩ vs i).run P w=.ok () (iN w b (.cells (uy c (o+i) vs) T (0,0)))
 |[],i,w,c,h,_,_=>by
  simp only[storeCells,uy,run_pure]
  rw[Ns h]
 |v::vs,i,w,c,h,hl,ho=>by
  have hb:b<w.heap.size:=(Array.getElem?_eq_some_iff.1 h).1
  simp only[length_cons]at hl;have bI:o+i<c.size:=by omega
  have Vn:w.frozen? ⟨b,o+i,none⟩=false:=by simp[World.frozen?,h]
  have DN:w.cell? ⟨b,o+i,none⟩=some c[o+i]:=by rw[cell_of h,getElem?_eq_getElem bI]
  simp only[storeCells,run_bind,jS,run_store _ _ _ _ _ (NB (ho v (by simp))),DN,Vn];simp only[false_eq_true,if_false,andThen_ok];rw[EB v h];rw[lp vs (i+1) _ (c.setIfInBounds (o+i) v) (uM hb) (by simp;omega) (λx hx=>ho x (by simp[hx]))];congr 1;simp only[iN,uy,Array.setIfInBounds_setIfInBounds];rfl
end Go.aP
namespace Go.aP
open Go.RowKit
theorem nL{vs:List Value}(h:eB vs=true):∀v∈vs,plain v=true/\one v=true:=by
 intro v hv;have:=all_eq_true.1 h v hv;simpa using this
theorem Inv.YF{C:Ctx}{a:Act}{wa:World}{st:St}{u:UW}{θ:Nat->Nat}(h:Inv C a wa st u θ){k:Nat}{cs:Array Value}{T:TypeId}(hk:k<C.n)(ahn:∀m,(k,m)∉st.D)
  (hp:∀v∈cs.toList,plain v=true) (fw:cs.size<=65536):
  Inv C (a.put (some k) (.pointer (some ⟨wa.heap.size,0,none⟩))) (wa.alloc (.cells cs T (0,0))) {st with σ:=qX (iM st.σ k (dK k 0)) k 0 cs.toList,D:=(k,cs.size)::st.D} u
   (λi=>if i=k then wa.heap.size else θ i):=by
 have hB:Below wa.heap.size wa (wa.alloc (.cells cs T (0,0))):=(Below.refl _ _).alloc (le_refl _) _;have nE:(wa.alloc (.cells cs T (0,0))).heap[wa.heap.size]?=some (.cells cs T (0,0)):=by
  show(wa.heap.push _)[wa.heap.size]?=_;simp
 have hn:=h.iO;have hold:∀k' m,(k',m)∈st.D->k'≠k:=λk' m hm e=>ahn m (e▸hm);have bI:∀k' m,(k',m)∈st.D->θ k'<wa.heap.size:=λk' m hm=>by
  obtain⟨_,c,T',h1,_⟩:=h.boxes k' m hm;exact(Array.getElem?_eq_some_iff.1 h1).1
 have HU:∀k' m,(k',m)∈st.D->∀j,j<m->qX (iM st.σ k (dK k 0)) k 0 cs.toList (gx k' j)=st.σ (gx k' j):=λk' m hm j hj=>by
  have sr:=(h.boxes k' m hm).1;rw[dy,cj]
  ·have:=jc k' j;omega
  ·intro i _ hi e;have:=(iF (by omega) (by simp at hi;omega) e).1;exact hold k' m hm this
 have yD:∀{b:Nat} {o:Obj},Hid u wa b o->Hid u (wa.alloc (.cells cs T (0,0))) b o:=λhh=>
  ⟨(hB.block _ (Array.getElem?_eq_some_iff.1 hh.at_).1).trans hh.at_,hh.other,hh.fW,hh.mask⟩
 refine⟨?_,hn,?_,?_,?_,?_,?_,?_,?_,?_,?_,?_,h.pZ,h.umod,h.Jm,h.Bn,h.F0⟩
 ·rw[se];exact h.size
 ·rw[put_defers];exact⟨λd hd=>let ⟨r,e,hr,hh⟩:=h.defers.each d hd;⟨r,e,hr,yD hh⟩,h.defers.nodup⟩
 ·exact λl r e=>yD (h.round l r e)
 ·intro t ht;simp only[Act.put];rw[vw _ _ _ _ (by rw[h.size];exact hk),gI _ _ _ (by omega)];by_cases e:t=k
  ·subst e;rw[if_pos rfl,eT];simp[R]
  ·rw[if_neg e,cj _ _ e];refine Ga (h.iz t ht) λk' o e'=>?_;obtain⟨m,hm⟩:=h.jd t ht k' o e';simp[hold k' m hm]
 ·refine⟨h.below.os,h.below.tape,h.below.output,le_trans h.below.size hB.size,λb hb=>?_⟩;rw[hB.block b (lt_of_lt_of_le hb h.below.size)];exact h.below.block b hb
 ·intro k' m hm;simp only[mem_cons,Prod.mk.injEq]at hm;rcases hm with⟨rfl,rfl⟩|hm
  ·refine⟨fw,cs,T,by simpa using nE,rfl,λj hj=>?_,?_,?_,?_⟩
   ·have hw:=sG (σ:=iM st.σ k' (dK k' 0)) (k:=k') cs.toList 0 j (by simpa using hj) (by simpa using fw);simp only[zero_add]at hw;simp only;rw[hw];have eJ:cs.toList.getD j undef∈cs.toList:=by
     rw[List.getD_eq_getElem?_getD,List.getElem?_eq_getElem (by simpa using hj)];simp
    rw[iI (hp _ eJ)];simp
   ·simp only[if_true];intro Kf;have:=h.pb _ Kf;omega
   ·simp only[if_true];exact h.mod.size
   ·simp only[if_true];intro hl;have:=h.below.size;omega
  ·obtain⟨yB,c,T',h1,h2,h3,h4,h5,h6⟩:=h.boxes k' m hm;simp only[if_neg (hold k' m hm)];refine⟨yB,c,T',(hB.block _ (bI k' m hm)).trans h1,h2,λj hj=>?_,h4,h5,h6⟩;simp only[HU k' m hm j hj];exact Ga (h3 j hj) λk'' o e=>absurd e (h.gE k' m hm j hj k'' o)
 ·intro k1 m1 k2 m2 h1 h2 e;simp only[mem_cons,Prod.mk.injEq]at h1 h2;rcases h1 with⟨rfl,rfl⟩|h1<;>rcases h2 with⟨rfl,rfl⟩|h2
  ·exact⟨rfl,rfl⟩
  ·simp only[if_true,if_neg (hold _ _ h2)]at e;have:=bI _ _ h2;omega
  ·simp only[if_true,if_neg (hold _ _ h1)]at e;have:=bI _ _ h1;omega
  ·simp only[if_neg (hold _ _ h1),if_neg (hold _ _ h2)]at e;exact h.inj _ _ _ _ h1 h2 e
 ·intro t ht k' o e;simp only at e;rw[gI _ _ _ (by omega)]at e;by_cases e':t=k
  ·subst e';rw[eT]at e;simp only[Value.complex.injEq,true_and]at e;exact⟨cs.size,by simp[e.1]⟩
  ·rw[cj _ _ e']at e;obtain⟨m,hm⟩:=h.jd t ht k' o e;exact⟨m,by simp[hm]⟩
 ·intro k1 m1 h1 j hj k' o e;simp only[mem_cons,Prod.mk.injEq]at h1;rcases h1 with⟨rfl,rfl⟩|h1
  ·have hw:=sG (σ:=iM st.σ k1 (dK k1 0)) (k:=k1) cs.toList 0 j (by simpa using hj) (by simpa using fw);simp only[zero_add]at hw;simp only at e;rw[hw]at e;have eJ:cs.toList.getD j undef∈cs.toList:=by
    rw[List.getD_eq_getElem?_getD,List.getElem?_eq_getElem (by simpa using hj)];simp
   exact jL (hp _ eJ) k' o e
  ·simp only[HU k1 m1 h1 j hj]at e;exact h.gE k1 m1 h1 j hj k' o e
 ·intro b hb;exact lt_of_lt_of_le (h.pb b hb) hB.size
 ·exact h.mod.trans (Below.PD hB (le_refl _) _)
theorem Inv.abN{C:Ctx}{a:Act}{wa:World}{st:St}{u:UW}{θ:Nat->Nat}(h:Inv C a wa st u θ){k m o:Nat}{vs:List Value}(hk:(k,m)∈st.D)(hl:o+vs.length<=m)
  (hp:∀v∈vs,plain v=true):∃c T,wa.heap[θ k]?=some (.cells c T (0,0))/\c.size=m/\
   Inv C a (iN wa (θ k) (.cells (uy c o vs) T (0,0))) {st with σ:=qX st.σ k o vs} u θ:=by
 obtain⟨yB,c,T,h1,h2,h3,h4,h5,h6⟩:=h.boxes k m hk;have bI:θ k<wa.heap.size:=(Array.getElem?_eq_some_iff.1 h1).1;have hn:=h.iO;have HU:∀k' m',(k',m')∈st.D->k'≠k->∀j,j<m'->qX st.σ k o vs (gx k' j)=st.σ (gx k' j):=λk' m' hm aQ j hj=>by
  have sr:=(h.boxes k' m' hm).1;rw[dy];intro i _ hi e;exact aQ (iF (by omega) (by omega) e).1
 have yD:∀{b:Nat} {ob:Obj},Hid u wa b ob->Hid u (iN wa (θ k) (.cells (uy c o vs) T (0,0))) b ob:=λ{b ob} hh=>by
  refine⟨?_,hh.other,hh.fW,hh.mask⟩;rw[kK]
  ·exact hh.at_
  ·rintro rfl;have:=hh.at_;rw[h1]at this;cases this;have:=hh.other;simp[Obj.isCells]at this
 refine⟨c,T,h1,h2,h.size,hn,⟨λd hd=>let ⟨r,e,hr,hh⟩:=h.defers.each d hd;⟨r,e,hr,yD hh⟩,h.defers.nodup⟩,λl r e=>yD (h.round l r e),?_,?_,?_,h.inj,?_,?_,?_,?_,h.pZ,h.umod,h.Jm,h.Bn,h.F0⟩
 ·intro t ht;simp only;rw[gI _ _ _ (by omega)];exact h.iz t ht
 ·refine⟨h.below.os,h.below.tape,h.below.output,by rw[eV];exact h.below.size,λb hb=>?_⟩;by_cases e:b=θ k
  ·subst e;exact .inr (h6 hb)
  ·rw[kK e];exact h.below.block b hb
 ·intro k' m' hm;by_cases e:k'=k
  ·subst e;obtain rfl:m'=m:=(h.inj _ _ _ _ hm hk rfl).2;refine⟨yB,uy c o vs,T,uM bI,by rw[uC,h2],λj hj=>?_,h4,h5,h6⟩;rw[Lo _ _ _ _ (by omega)];simp only;by_cases hr:o<=j/\j<o+vs.length
   ·rw[if_pos hr];have hw:=sG (σ:=st.σ) (k:=k') vs o (j-o) (by omega) (by omega);rw[show o+(j-o)=j from by omega]at hw;rw[hw];have eJ:vs.getD (j-o) undef∈vs:=by
     rw[List.getD_eq_getElem?_getD,List.getElem?_eq_getElem (by omega)];simp
    exact oJ (hp _ eJ)
   ·rw[if_neg hr,dy]
    ·exact h3 j hj
    ·intro i h1 h2 e;have:=(iF (by omega) (by omega) e).2;omega
  ·obtain⟨agV,c',T',GA,Ms,Xr,h4',h5',h6'⟩:=h.boxes k' m' hm;have aQ:θ k'≠θ k:=λe'=>e (h.inj _ _ _ _ hm hk e').1;refine⟨agV,c',T',(kK aQ).trans GA,Ms,λj hj=>?_,h4',h5',h6'⟩;simp only[HU k' m' hm e j hj];exact Xr j hj
 ·intro t ht k' o' e;simp only at e;rw[gI _ _ _ (by omega)]at e;exact h.jd t ht k' o' e
 ·intro k1 m1 hm j hj k' o' e;by_cases ek:k1=k
  ·subst ek;obtain rfl:m1=m:=(h.inj _ _ _ _ hm hk rfl).2;simp only at e;by_cases hr:o<=j/\j<o+vs.length
   ·have hw:=sG (σ:=st.σ) (k:=k1) vs o (j-o) (by omega) (by omega);rw[show o+(j-o)=j from by omega]at hw;rw[hw]at e;have eJ:vs.getD (j-o) undef∈vs:=by
     rw[List.getD_eq_getElem?_getD,List.getElem?_eq_getElem (by omega)];simp
    exact jL (hp _ eJ) k' o' e
   ·rw[dy]at e
    ·exact h.gE k1 m1 hm j hj k' o' e
    ·intro i h1 h2 e;have:=(iF (by omega) (by omega) e).2;omega
  ·simp only[HU k1 m1 hm ek j hj]at e;exact h.gE k1 m1 hm j hj k' o' e
 ·intro b hb;rw[eV];exact h.pb b hb
 ·refine⟨h.mod.os,h.mod.tape,h.mod.output,by rw[eV];exact h.mod.size,λb hb hF=>?_⟩;rw[kK (by omega)];exact h.mod.cw b hb hF
def cZ(n:Nat)(x:Operand):Bool:=
 match x with
 | .tmp t=>blt t n
 | .const v=>plain v
 |_=>true
def LW(o:Oper):Bool:=match o.op with| .defer _=>false|_=>true
def br(n:Nat)(o:Oper):Bool:=o.op.operands.toList.all (cZ n)&&(match o.dst with|some d=>blt d n|none=>true)&&LW o
theorem od{n:Nat}{o:Oper}(aI:br n o=true)(c:Call):o.op≠ .defer c:=by
 intro e;simp[br,LW,e]at aI
theorem iH{a b:Nat}:blt a b=true↔a<b:=by simp[Nat.blt_eq]
variable {C:Ctx} {a:Act} {wa:World} {st:St} {u:UW} {θ:Nat->Nat}
theorem FD(hI:Inv C a wa st u θ){x:Operand}(hx:cZ C.n x=true):R θ (ev st.σ x) (a.eval x):=by
 cases x with
 |tmp t=>exact hI.iz t (iH.1 hx)
 |const v=>exact oJ hx
 |global g=>exact oJ rfl
 |func f=>exact oJ rfl
theorem nJ(hI:Inv C a wa st u θ){x:Operand}(hx:cZ C.n x=true)(hp:plain (ev st.σ x)=true):a.eval x=ev st.σ x:=(iI hp).1 (FD hI hx)
theorem bf(hI:Inv C a wa st u θ){x:Operand}(hx:cZ C.n x=true){v:Value}(he:ev st.σ x=v)(hp:plain v=true):a.eval x=v:=by
 subst he;exact nJ hI hx hp
theorem kA(hI:Inv C a wa st u θ){x:Operand}(hx:cZ C.n x=true){k o:Nat}(he:ev st.σ x=dK k o):a.eval x=.pointer (some ⟨θ k,o,none⟩)/\∃m,(k,m)∈st.D:=by
 have h:=FD hI hx;rw[he]at h;refine⟨h,?_⟩;cases x with
 |tmp t=>exact hI.jd t (iH.1 hx) k o he
 |const v=>simp only[ev]at he;subst he;simp[cZ,plain]at hx
 |global g=>simp[ev]at he
 |func f=>simp[ev]at he
def MY(C:Ctx)(fz:List Nat)(o:Oper)(st:St)(θ:Nat->Nat)(nd:Bool)(K:St->UW->Prop)(a':Act)(GI:World):Prop:=
 ∃bV u' θ',Inv C a' GI bV u' θ'/\cD C.n fz o.dst.toList st bV/\(∀k m,(k,m)∈st.D->θ' k=θ k)/\(nd=false->bV.D=st.D)/\K bV u'
theorem ee{n:Nat}{o:Oper}(aI:br n o=true):∀t,o.dst=some t->t<n:=by
 intro t ht;simp only[br,and_eq_true]at aI;have:=aI.1.2;rw[ht]at this;exact iH.1 this
theorem kY{n:Nat}{o:Oper}(aI:br n o=true){x:Operand}(hx:x∈o.op.operands):cZ n x=true:=by
 simp only[br,and_eq_true,all_eq_true]at aI;exact aI.1.1 x (by simpa using hx)
theorem lz{nd:Bool}{wb:World}{u':UW}{fz:List Nat}{o:Oper}{K:St->UW->Prop}(aI:br C.n o=true)(hI:Inv C a wb st u' θ){v r:Value}(hr:R θ v r)
  (hf:∀k o,v=dK k o->∃m,(k,m)∈st.D) (hK:K (fin o st v) u'):MY C fz o st θ nd K (a.put o.dst r) wb:=
 ⟨_,_,_,hI.fin o.dst (ee aI) hr hf,cD.fin st o.dst (ee aI) hI.iO v,λ_ _ _=>rfl,λ_=>rfl,hK⟩
theorem aV{nd:Bool}{wb:World}{u':UW}{fz:List Nat}{o:Oper}{K:St->UW->Prop}(aI:br C.n o=true)(hI:Inv C a wb st u' θ){v:Value}(hp:plain v=true)
  (hK:K (fin o st v) u'):MY C fz o st θ nd K (a.put o.dst v) wb:=
 lz aI hI (oJ hp) (λk o e=>absurd e (jL hp k o)) hK
theorem gL{P:Program}{t:TypeId}{d:TypeDesc}(h:P.underlying t=some d):∃i,P.info? t=some i:=by
 unfold Program.underlying at h;cases hi:P.info? t with
 |none=>simp[hi]at h
 |some i=>exact⟨i,rfl⟩
theorem aS{P:Program}{t:TypeId}{d:TypeDesc}{w:World}(h:P.underlying t=some d):(underlying t).run P w=.ok d w:=by
 simp[underlying,h]
theorem Aq{P:Program}{t:TypeId}{i:TypeInfo}{w:World}(h:P.info? t=some i):(typeInfo t).run P w=.ok i w:=by
 simp[typeInfo,h]
theorem cB{P:Program}{t:TypeId}{i:TypeInfo}{w:World}(h:P.info? t=some i):(sizeOf t).run P w=.ok (P.cellsOf t) w:=by
 simp[sizeOf,Aq h,Program.cellsOf,h]
theorem jI{P:Program}{t:TypeId}{z:Value}{w:World}(h:(P.info? t).bind (·.zero)=some z):(zeroValue t).run P w=.ok z w:=by
 cases hi:P.info? t with
 |none=>simp[hi]at h
 |some i=>simp only[hi,Option.bind_some]at h;simp[zeroValue,Aq hi,h]
theorem kX{P:Program}{t:TypeId}{d:TypeDesc}{w:World}(h:P.underlying t=some d):(isAgg t).run P w=.ok (di P t) w:=by
 simp only[isAgg,run_bind,aS h,andThen_ok,di,h];cases d<;>rfl
theorem lJ{P:Program}{t:TypeId}{ks:List K1}(h:kinds P t=some ks):ks.length=P.cellsOf t/\(∃d,P.underlying t=some d)/\(di P t=true\/ks.length=1):=by
 unfold kinds at h;cases hk:tw P 8 t with
 |none=>simp[hk]at h
 |some UN=>
  simp only[hk,cond_eq_ite,beq_iff]at h;split at h
  ·rename_i h1;split at h
   ·rename_i h2;simp only[Option.some.injEq]at h;subst h;refine⟨h1,?_,?_⟩
    ·unfold tw at hk;cases hu:P.underlying t with
     |none=>simp[hu]at hk
     |some d=>exact⟨d,rfl⟩
    ·simpa[beq_iff]using h2
   ·cases h
  ·cases h
theorem ig{P:Program}{w:World}{t:TypeId}{ks:List K1}{b o:Nat}{c:Array Value}{T:TypeId}{f:Nat×Nat}(hk:kinds P t=some ks)(h:w.heap[b]?=some (.cells c T f))(hl:o+ks.length<=c.size):
  (loadVar t ⟨b,o,none⟩).run P w=.ok (EW (di P t) ((c.toList.drop o).take ks.length)) w:=by
 obtain⟨h1,⟨d,hd⟩,h2⟩:=lJ hk;obtain⟨i,hi⟩:=gL hd;simp only[loadVar,run_bind,kX hd,andThen_ok];cases mK:di P t with
 |true=>
  simp only[if_true,run_bind,cB hi,andThen_ok];rw[<- h1,sj h hl];rfl
 |false=>
  have Kh:ks.length=1:=by rcases h2 with h2|h2;(rw[mK]at h2;cases h2);exact h2
  simp only[false_eq_true,if_false,run_load,cell_of h];have bI:o<c.size:=by omega
  rw[getElem?_eq_getElem bI,Kh];have tA:o<c.toList.length:=by simpa using bI
  rw[drop_eq_getElem_cons tA];simp[EW]
theorem uP{P:Program}{w:World}{t:TypeId}{i:TypeInfo}{b o:Nat}{c:Array Value}{T:TypeId}{v:Value}(hi:P.info? t=some i)(hs:v.cells.size=P.cellsOf t)(h:w.heap[b]?=some (.cells c T (0,0)))
  (hl:o+v.cells.size<=c.size) (ho:∀x∈v.cells.toList,one x=true):(storeVar t ⟨b,o,none⟩ v).run P w=.ok () (iN w b (.cells (uy c o v.cells.toList) T (0,0))):=by
 simp only[storeVar,run_bind,cB hi,andThen_ok];rw[if_neg (by simp[hs])];rw[lp _ 0 w c h (by simpa using hl) ho];rfl
theorem uT{w w1:World}(hs:xT w w1){b o n:Nat}{vs:List Value}(h:rd w.heap b o n=some vs)(hn:n≠0):∃c T f,w1.heap[b]?=some (.cells c T f)/\o+n<=c.size/\vs=(c.toList.drop o).take n:=by
 unfold rd at h;cases hb:w.heap[b]? with
 |none=>simp[hb]at h
 |some ob=>
  have bI:b<w.heap.size:=(Array.getElem?_eq_some_iff.1 hb).1;cases ob<;>simp only[hb]at h<;>try (cases h;done)
  rename_i c T f;split at h
  ·rename_i hl;simp only[Option.some.injEq]at h;rcases hs.block b bI with e|e
   ·exact⟨c,T,f,by rw[<- e,hb],hl,h.symm⟩
   ·rw[hb]at e;simp only[Option.some.injEq,Obj.cells.injEq]at e;obtain⟨rfl,_,_⟩:=e;simp at hl;omega
  ·cases h
theorem Qf{w w1:World}(hs:xT w w1){b o n:Nat}{vs:List Value}(h:rd w.heap b o n=some vs):∃c T f,w1.heap[b]?=some (.cells c T f)/\vs.length=n\/n=0/\vs=[]:=by
 by_cases hn:n=0
 ·subst hn;unfold rd at h;refine⟨#[],0,(0,0),.inr ⟨rfl,?_⟩⟩;cases hb:w.heap[b]? with
  |none=>simp[hb]at h
  |some ob=>
   cases ob<;>simp only[hb]at h<;>try (cases h;done)
   split at h
   ·simp at h;exact h
   ·cases h
 ·obtain⟨c,T,f,h1,h2,h3⟩:=uT hs h hn;exact⟨c,T,f,.inl ⟨h1,by subst h3;simp;omega⟩⟩
theorem gk{v:Value}{F:Nat->Nat->Prop}(h:dI v F):∃b o,v=.pointer (some ⟨b,o,none⟩)/\F b o:=by
 unfold dI at h;split at h
 ·exact⟨_,_,rfl,h⟩
 ·exact h.elim
theorem fV{v:Option Addr}{F:Nat->Nat->Prop}(h:bp v F):∃b o,v=some ⟨b,o,none⟩/\F b o:=by
 unfold bp at h;split at h
 ·exact⟨_,_,rfl,h⟩
 ·exact h.elim
theorem nv{ag:Bool}{vs:List Value}(h:∀v∈vs,plain v=true/\one v=true)(hl:ag=true\/vs.length=1):plain (EW ag vs)=true:=by
 cases ag with
 |true=>rfl
 |false=>
  rcases hl with hl|hl
  ·cases hl
  ·match vs,hl with
   |[v],_=>exact(h v (by simp)).1
theorem jQ:∀{D:List (Nat×Nat)} {k m:Nat},eR D k=some m->(k,m)∈D
 |[],_,_,h=>by simp[eR]at h
 |(k',m')::D,k,m,h=>by
  simp only[eR,cond_eq_ite,beq_iff]at h
  split at h
  ·rename_i e;simp only[Option.some.injEq]at h;subst e h;simp
  ·exact List.mem_cons_of_mem _ (jQ h)
theorem gV{σ:Fr}{θ:Nat->Nat}{c:Array Value}{k m:Nat}(hc:c.size=m)(hr:∀j,j<m->R θ (σ (gx k j)) (c.getD j undef)):
  ∀(n o:Nat),o+n<=m->(∀v∈wW σ k o n,plain v=true/\one v=true)->(c.toList.drop o).take n=wW σ k o n
 |0,o,_,_=>by simp[wW]
 |n+1,o,hl,hp=>by
  have bI:o<c.toList.length:=by simp;omega
  rw[drop_eq_getElem_cons bI,List.take_succ_cons];simp only[wW];have hpo:plain (σ (gx k o))=true:=(hp _ (by simp[wW])).1;have h1:=(iI hpo).1 (hr o (by omega));have h2:c.toList[o]=σ (gx k o):=by
   rw[<- h1];simp only[Array.getElem_toList];rw[Array.getD_eq_getD_getElem?,getElem?_eq_getElem (by omega)];rfl
  rw[h2,gV hc hr n (o+1) (by omega) (λv hv=>hp v (by simp[wW,hv]))]
theorem pK:∀(vs:List Value) (c:Array Value) (o:Nat),o+vs.length<=c.size->(uy c o vs).toList=c.toList.take o++vs++c.toList.drop (o+vs.length)
 |[],c,o,_=>by simp[uy]
 |v::vs,c,o,h=>by
  simp only[length_cons]at h
  simp only[uy]
  rw[pK vs _ (o+1) (by simp;omega)]
  have ho:o<c.toList.length:=by simp;omega
  simp only[Array.toList_setIfInBounds];have h1:(c.toList.set o v).take (o+1)=c.toList.take o++[v]:=by
   rw[List.take_set];rw[List.take_succ_eq_append_getElem ho,List.set_append_right _ _ (by simp;omega)];have e:o-(c.toList.take o).length=0:=by simp;omega
   rw[e];rfl
  have h2:(c.toList.set o v).drop (o+1+vs.length)=c.toList.drop (o+1+vs.length):=by
   rw[List.drop_set_of_lt (by omega)]
  rw[h1,h2];simp[Nat.add_assoc,Nat.add_comm 1]
theorem Ig:∀(l:List (Value×Nat)) (vs:List Value) (i off:Nat) (c:Array Value),l=vs.zipIdx i->l.foldl (λcs p=>cs.setIfInBounds (off+p.2) p.1) c=uy c (off+i) vs
 |[],vs,i,off,c,h=>by
  cases vs with
  |nil=>rfl
  |cons v vs=>simp at h
 |p::l,vs,i,off,c,h=>by
  cases vs with
  |nil=>simp at h
  |cons v vs=>
   simp only[List.zipIdx_cons,List.cons.injEq]at h
   obtain⟨rfl,rfl⟩:=h
   simp only[List.foldl_cons,uy];rw[Ig _ vs (i+1) off _ rfl];rfl
theorem DS(vs:Array Value)(off:Nat)(cs:Array Value):
  (vs.zipIdx.foldl (λcs (x:Value×Nat)=>match x with|(c,j)=>cs.setIfInBounds (off+j) c) cs)=uy cs off vs.toList:=by
 rw[<- Array.foldl_toList,Array.toList_zipIdx];exact Ig _ vs.toList 0 off cs rfl
theorem sd{P:Program}{w:World}{α β:Type}(g:α->Sem β)(k:α->β):∀(l:List α),(∀x∈l,(g x).run P w=.ok (k x) w)->(l.mapM g).run P w=.ok (l.map k) w
 |[],_=>by simp
 |x::l,h=>by
  simp only[List.mapM_cons,run_bind,h x (by simp),andThen_ok,sd g k l (λy hy=>h y (by simp[hy])),run_pure,List.map_cons]
theorem Qc{P:Program}{w:World}{α β:Type}(g:α->Sem β)(k:α->β)(l:Array α)(h:∀x∈l.toList,(g x).run P w=.ok (k x) w):(l.mapM g).run P w=.ok (l.toList.map k).toArray w:=by
 rw[Array.mapM_eq_mapM_toList];simp only[Sem.run_map,sd g k l.toList h,andThen_ok]
theorem Ed{P:Program}{fs:Array Field}{pl:Nat->Option (Nat×Nat)}(oA:∀(i:Nat) f,fs[i]?=some f->pl i=some (f.offset,P.cellsOf f.type)):
  ∀(ps:List (Nat×Value)) (cs:Array Value) (r:List Value),KU P fs ps cs.toList=some r->Instr.fill pl cs ps=some r.toArray
 |[],cs,r,h=>by simp only[KU,Option.some.injEq]at h;subst h;simp[Instr.fill]
 |(i,v)::ps,cs,r,h=>by
  simp only[KU]at h
  cases hf:fs[i]? with
  |none=>simp[hf]at h
  |some f=>
   simp only[hf,cond_eq_ite,and_eq_true,beq_iff,ble_eq]at h
   split at h
   ·rename_i hc
    obtain⟨⟨h1,h2⟩,_⟩:=hc
    simp only[length_toList]at h2;simp only[Instr.fill,oA i f hf];rw[if_neg (by simp[h1];omega)];rw[DS];have hlen:v.cells.toList.length=v.cells.size:=by simp
    refine Ed oA ps _ r ?_;rw[pK _ _ _ (by rw[hlen];omega),hlen];exact h
   ·cases h
theorem BI{size:Nat}:∀{ps:List (Nat×Value)} {i:Nat} {r:List Value},oG size i ps=some r->r.length=ps.length*size
 |[],_,r,h=>by simp only[oG,Option.some.injEq]at h;subst h;simp
 |(j,v)::ps,i,r,h=>by
  simp only[oG,cond_eq_ite,and_eq_true,beq_iff]at h
  split at h
  ·rename_i hc
   cases hb:oG size (i+1) ps with
   |none=>simp[hb]at h
   |some l=>
    simp only[hb,Option.some.injEq]at h
    subst h
    have:=BI hb
    simp only[List.length_append,length_cons,length_toList,this,hc.2,Nat.add_mul,Nat.one_mul];omega
  ·cases h
theorem rr{size:Nat}:∀(ps:List (Nat×Value)) (i:Nat) (r:List Value) (cs:Array Value),oG size i ps=some r->cs.size=(i+ps.length)*size->
  Instr.fill (λi=>some (i*size,size)) cs ps=some (cs.toList.take (i*size)++r).toArray
 |[],i,r,cs,h,hs=>by
  simp only[oG,Option.some.injEq]at h;subst h
  simp only[length_nil,Nat.add_zero]at hs
  simp only[Instr.fill,<- hs,List.append_nil,Option.some.injEq]
  rw[take_of_length_le (by simp)]
 |(j,v)::ps,i,r,cs,h,hs=>by
  simp only[oG,cond_eq_ite,and_eq_true,beq_iff]at h
  split at h
  ·rename_i hc
   obtain⟨rfl,hv⟩:=hc
   cases hb:oG size (i+1) ps with
   |none=>simp[hb]at h
   |some l=>
    simp only[hb,Option.some.injEq]at h;subst h;simp only[length_cons]at hs;have hle:i*size+v.cells.size<=cs.size:=by
     rw[hs,hv,<- Nat.succ_mul];exact Nat.mul_le_mul_right _ (by omega)
    simp only[Instr.fill];rw[if_neg (by simp[hv];omega),DS];have hlen:v.cells.toList.length=v.cells.size:=by simp
    rw[rr ps (i+1) l _ hb (by rw[uC,hs];congr 1;omega)];rw[pK _ _ _ (by rw[hlen];exact hle)];have e1:(i+1)*size=i*size+v.cells.size:=by rw[Nat.succ_mul,hv]
    rw[e1,List.take_append_of_le_length (by simp;omega),take_of_length_le (by simp;omega)];simp
  ·cases h
theorem run_build{P:Program}{w:World}{t:TypeId}{ps:Array (Nat×Value)}{r:List Value}(h:Wa P t ps.toList=some r):(Instr.build t ps).run P w=.ok (.agg r.toArray) w:=by
 unfold Wa at h;cases hz:(P.info? t).bind (·.zero)with
 |none=>simp[hz]at h
 |some z=>
  cases hu:P.underlying t with
  |none=>simp[hz,hu]at h
  |some d=>
   cases d<;>simp only[hz,hu]at h<;>try (cases h;done)
   case array len e=>
    simp only[cond_eq_ite,and_eq_true,beq_iff]at h;split at h
    ·rename_i hc;obtain⟨⟨CB,hl⟩,fw⟩:=hc;obtain⟨ie,CB⟩:=Option.isSome_iff_exists.1 CB;simp only[Instr.build,run_bind,jI hz,andThen_ok,aS hu,cB CB];have hf:=rr ps.toList 0 r z.cells h (by rw[fw,zero_add,hl]);simp only[Nat.zero_mul,List.take_zero,List.nil_append]at hf;rw[hf];rfl
    ·cases h
   rename_i fs;simp only[cond_eq_ite,all_eq_true]at h;split at h
   ·rename_i fR;have Rr:∀w:World,(fs.mapM λf=>(do pure (f.offset,<- sizeOf f.type):Sem (Nat×Nat))).run P w=.ok (fs.toList.map λf=>(f.offset,P.cellsOf f.type)).toArray w:=by
     intro w;refine Qc _ _ _ λf hf=>?_;obtain⟨i,hi⟩:=Option.isSome_iff_exists.1 (fR f hf);simp[cB hi]
    simp only[Instr.build,run_bind,jI hz,andThen_ok,aS hu,Rr];rw[Ed (fs:=fs) ?_ ps.toList z.cells r h]
    ·rfl
    ·intro i f hf;simp[hf]
   ·cases h
end Go.aP
namespace Go.aP
open Go.RowKit
variable {C:Ctx} {a:Act} {wa:World} {st:St} {u:UW} {θ:Nat->Nat}
theorem aq{c:Bool}{A:Prop}(h:(bif c then A else False)):c=true/\A:=by cases c<;>simp_all
theorem bc{P:Program}{o:Oper}{r:Value}{wb:World}{next:Act->World->Prop}{Q:Exit->Act->World->Prop}(h:(execOp a.eval o).run P wa=.ok (.value r) wb)(hn:next (a.put o.dst r) wb):
  o.uponIn Fence.wide 0 P a next Q ((execOp a.eval o).run P wa):=by rw[h];exact hn
theorem Em{P:Program}{o:Oper}{wb:World}{next:Act->World->Prop}{Q:Exit->Act->World->Prop}(h:(execOp a.eval o).run P wa=.ok .skip wb)(hn:next (a.put o.dst undef) wb):
  o.uponIn Fence.wide 0 P a next Q ((execOp a.eval o).run P wa):=by rw[h];exact hn
theorem Bz:∀{k1 k2:List K1} {x1 x2 y1 y2:List Value} {r:Bool},x1.length=k1.length->y1.length=k1.length->eqs (k1++k2) (x1++x2) (y1++y2)=some r->
  ∃r1 r2,eqs k1 x1 y1=some r1/\eqs k2 x2 y2=some r2/\r=(r1&&r2)
 |[],k2,[],x2,[],y2,r,_,_,h=>⟨true,r,rfl,h,by simp⟩
 |k::k1,k2,x::x1,x2,y::y1,y2,r,hx,hy,h=>by
  simp only[length_cons,Nat.add_right_cancel_iff]at hx hy
  have key:∀(b:Bool) (r':Bool),(match eqs (k1++k2) (x1++x2) (y1++y2)with|some r=>some (b&&r)|none=>none)=some r'->
    ∃r1 r2,eqs k1 x1 y1=some r1/\eqs k2 x2 y2=some r2/\r'=(b&&r1&&r2):=by
   intro b r' h;cases he:eqs (k1++k2) (x1++x2) (y1++y2)with
   |none=>simp[he]at h
   |some r0=>
    obtain⟨r1,r2,e1,e2,e3⟩:=Bz hx hy he;simp only[he,Option.some.injEq]at h;exact⟨r1,r2,e1,e2,by rw[<- h,e3,Bool.and_assoc]⟩
  simp only[List.cons_append]at h;cases k with
  |int kk=>
   cases x<;>first|(simp[eqs]at h;done)|skip
   cases y<;>first|(simp[eqs]at h;done)|skip
   rename_i ka a kb b;simp only[eqs,cond_eq_ite]at h;split at h
   ·rename_i hk;obtain⟨r1,r2,e1,e2,e3⟩:=key _ _ h;exact⟨(a == b)&&r1,r2,by simp only[eqs,hk,cond_true,e1],e2,e3⟩
   ·cases h
  |bool=>
   cases x<;>first|(simp[eqs]at h;done)|skip
   cases y<;>first|(simp[eqs]at h;done)|skip
   rename_i a b;simp only[eqs]at h;obtain⟨r1,r2,e1,e2,e3⟩:=key _ _ h;exact⟨(a == b)&&r1,r2,by simp only[eqs,e1],e2,e3⟩
  |str=>
   cases x<;>first|(simp[eqs]at h;done)|skip
   cases y<;>first|(simp[eqs]at h;done)|skip
   rename_i a b;simp only[eqs]at h;obtain⟨r1,r2,e1,e2,e3⟩:=key _ _ h;exact⟨aF a b&&r1,r2,by simp only[eqs,e1],e2,e3⟩
  |slice=>simp[eqs]at h
  |ptr=>simp[eqs]at h
  |fn=>simp[eqs]at h
  |map=>simp[eqs]at h
  |val=>simp[eqs]at h
 |_::_,_,[],_,_,_,_,hx,_,_=>by simp at hx
 |_::_,_,_::_,_,[],_,_,_,hy,_=>by simp at hy
 |[],_,_::_,_,_,_,_,hx,_,_=>by simp at hx
 |[],_,[],_,_::_,_,_,_,hy,_=>by simp at hy
theorem gp{P:Program}{w:World}{t:TypeId}{d:TypeDesc}{cs:Array Value}{o:Nat}(hd:P.underlying t=some d)(mK:di P t=true):
  (part t cs o).run P w=.ok (.agg (cs.extract o (o+P.cellsOf t))) w:=by
 obtain⟨i,hi⟩:=gL hd;simp only[part,run_bind,kX hd,mK,if_true,andThen_ok,cB hi,run_pure]
theorem iA{P:Program}{w:World}{t:TypeId}{d:TypeDesc}{cs:Array Value}{o:Nat}{v:Value}(hd:P.underlying t=some d)(mK:di P t=false)(hv:cs[o]?=some v):
  (part t cs o).run P w=.ok v w:=by
 simp only[part,run_bind,kX hd,mK,false_eq_true,if_false,andThen_ok,hv,run_pure]
theorem LG{P:Program}{w:World}{e:TypeId}{cs:Array Value}{off:Nat}{v:Value}(hv:Ox P e off cs.toList=some v):(part e cs off).run P w=.ok v w:=by
 unfold Ox at hv;simp only[cond_eq_ite,and_eq_true,ble_eq]at hv;split at hv
 ·rename_i hc;obtain⟨hi,hle⟩:=hc;obtain⟨d,WR⟩:=Option.isSome_iff_exists.1 hi;split at hv
  ·rename_i mK;simp only[Option.some.injEq]at hv;rw[gp WR mK,<- hv];congr 2;apply Array.toList_inj.1;rw[Array.toList_extract,List.extract_eq_take_drop];simp
  ·rename_i mK;simp only[Bool.not_eq_true]at mK;exact iA WR mK (v:=v) (by simpa using hv)
 ·cases hv
theorem BA{l:List Value}{o n:Nat}(h:o+(n+1)<=l.length):(l.drop o).take (n+1)=l[o]'(by omega)::(l.drop (o+1)).take n:=by
 rw[drop_eq_getElem_cons (by omega),List.take_succ_cons]
theorem Ho{xs:Array Value}{o:Nat}(h:o+1<=xs.size):(xs.toList.drop o).take 1=[xs[o]'(by omega)]:=by
 rw[BA (n:=0) (by simpa using h)];simp
theorem Mz{P:Program}{w:World}:∀(f:Nat) (t:TypeId) (ks:List K1),CJ P f t=some ks->∀(d:Nat),f<=d->∀(xs ys:Array Value) (o:Nat) (r:Bool),o+ks.length<=xs.size->o+ks.length<=ys.size->
  eqs ks ((xs.toList.drop o).take ks.length) ((ys.toList.drop o).take ks.length)=some r->
  ∃x y,(part t xs o).run P w=.ok x w/\(part t ys o).run P w=.ok y w/\(Op.equalIn d t x y).run P w=.ok r w
 |0,t,ks,h,_,_,_,_,_,_,_,_,_=>by simp[CJ]at h
 |f+1,t,ks,h,d,hd,xs,ys,o,r,hx,hy,hr=>by
  obtain⟨d,rfl⟩:∃d',d=d'+1:=⟨d-1,by omega⟩
  simp only[CJ]at h;cases hu:P.underlying t with
  |none=>simp[hu]at h
  |some D=>
   have Kh:∀k:K1,ks=[k]->di P t=false->(∀x y,eqs [k] [x] [y]=some r->(Op.equalIn (d+1) t x y).run P w=.ok r w)->
     ∃x y,(part t xs o).run P w=.ok x w/\(part t ys o).run P w=.ok y w/\(Op.equalIn (d+1) t x y).run P w=.ok r w:=by
    rintro k rfl mK hk;simp only[List.length_singleton]at hx hy hr;rw[Ho hx,Ho hy]at hr;exact⟨xs[o],ys[o],iA hu mK (getElem?_eq_getElem (by omega)),iA hu mK (getElem?_eq_getElem (by omega)),hk _ _ hr⟩
   cases D<;>simp only[hu]at h<;>try (cases h;done)
   ·simp only[Option.some.injEq]at h;refine Kh _ h.symm (by simp[di,hu]) λx y DI=>?_;cases x<;>first|(simp[eqs]at DI;done)|skip
    cases y<;>first|(simp[eqs]at DI;done)|skip
    simp only[eqs]at DI;simp only[Option.some.injEq,Bool.and_true]at DI;rw[run_equalIn_bool' w d t _ _ hu,DI]
   ·rename_i k;simp only[Option.some.injEq]at h;refine Kh _ h.symm (by simp[di,hu]) λx y DI=>?_;cases x<;>first|(simp[eqs]at DI;done)|skip
    cases y<;>first|(simp[eqs]at DI;done)|skip
    simp only[eqs]at DI;rename_i ka a kb b;simp only[cond_eq_ite]at DI;split at DI
    ·rename_i hk;simp only[decide_eq_true_eq]at hk;subst hk;simp only[Option.some.injEq,Bool.and_true]at DI;rw[run_equalIn_int w d t _ _ _ _ hu,DI]
    ·cases DI
   ·simp only[Option.some.injEq]at h;refine Kh _ h.symm (by simp[di,hu]) λx y DI=>?_;cases x<;>first|(simp[eqs]at DI;done)|skip
    cases y<;>first|(simp[eqs]at DI;done)|skip
    simp only[eqs]at DI;simp only[Option.some.injEq,Bool.and_true]at DI;rw[run_equalIn_string w d t _ _ hu,<- DI];rfl
   ·rename_i fs;simp only[cond_eq_ite]at h;split at h
    ·cases h
    ·rename_i fC;simp only[Bool.not_eq_true]at fC;cases y_:Iq (CJ P f) 0 fs.toList with
     |none=>simp[y_]at h
     |some l=>
      simp only[y_,beq_iff]at h;split at h
      ·rename_i hlen;simp only[Option.some.injEq]at h;subst h;have mK:di P t=true:=by simp[di,hu]
       have hfo:P.fieldsOf t=fs:=by simp[Program.fieldsOf,hu]
       have gd:P.underlying t=some (.struct (P.fieldsOf t)):=by rw[hfo];exact hu
       refine⟨_,_,gp hu mK,gp hu mK,?_⟩;rw[run_equalIn_struct w d t _ _ gd fC,hfo];have hX:∀zs:Array Value,o+l.length<=zs.size->(zs.extract o (o+P.cellsOf t)).toList=(zs.toList.drop o).take l.length:=by
        intro zs hz;rw[Array.toList_extract,hlen];simp[List.extract_eq_take_drop]
       have key:∀(gs:List Field) (a:Nat) (l':List K1) (X Y:Array Value) (r:Bool),Iq (CJ P f) a gs=some l'->a+l'.length=X.size->a+l'.length=Y.size->
         eqs l' (X.toList.drop a) (Y.toList.drop a)=some r->(Op.eqFields d X Y gs).run P w=.ok r w:=by
        intro gs;induction gs with
        |nil=>
         intro a l' X Y r h1 h2 h3 h4;simp only[Iq,Option.some.injEq]at h1;subst h1;simp only[length_nil,Nat.add_zero]at h2 h3;rw[List.drop_of_length_le (by simp;omega),List.drop_of_length_le (by simp;omega)]at h4;simp only[eqs,Option.some.injEq]at h4;subst h4;simp[Op.eqFields]
        |cons g gs ih=>
         intro a l' X Y r h1 h2 h3 h4;simp only[Iq]at h1;cases hg:CJ P f g.type with
         |none=>simp[hg]at h1
         |some lg=>
          simp only[hg,cond_eq_ite,and_eq_true,decide_eq_true_eq,beq_iff]at h1;split at h1
          ·rename_i Rq;obtain⟨Rq,agQ⟩:=Rq;cases xx:Iq (CJ P f) (a+lg.length) gs with
           |none=>simp[xx]at h1
           |some lr=>
            simp only[xx,Option.some.injEq]at h1;subst h1;simp only[List.length_append]at h2 h3;have sp:∀Z:Array Value,a+(lg.length+lr.length)=Z.size->Z.toList.drop a=(Z.toList.drop a).take lg.length++Z.toList.drop (a+lg.length):=by
             intro Z hZ;rw[<- List.drop_drop];exact(List.take_append_drop _ _).symm
            rw[sp X h2,sp Y h3]at h4;obtain⟨r1,r2,e1,e2,e3⟩:=Bz (by simp;omega) (by simp;omega) h4;obtain⟨x,y,p1,p2,p3⟩:=Mz (w:=w) f g.type lg hg d (by omega) X Y a r1 (by omega) (by omega) e1;have ja:=ih (a+lg.length) lr X Y r2 xx (by omega) (by omega) e2;simp only[Op.eqFields];rw[if_pos Rq];rw[agQ];simp only[run_bind,p1,andThen_ok,p2,p3];cases r1
            ·simp[e3]
            ·simp[e3,ja]
          ·cases h1
       refine key fs.toList 0 l _ _ r y_ ?_ ?_ ?_
       ·simp;omega
       ·simp;omega
       ·rw[drop_zero,drop_zero,hX xs hx,hX ys hy];exact hr
      ·cases h
theorem H_{P:Program}{op:BinOp}{t:TypeId}{x y:Value}(X Y:Operand)(w:World)(h1:x≠ .nilIface)(h2:∀c,x≠ .agg c):(eqGuard op t X Y x y).run P w=.ok () w:=by
 cases x<;>first|exact absurd rfl h1|exact absurd rfl (h2 _)|(cases op<;>rfl)
theorem E_{P:Program}{op:BinOp}{t:TypeId}{k:IntKind}{i j:Int}{K:Value->Prop}(h:xv op k i j K):
  ∃v,plain v=true/\K v/\∀w,(binOp op t (.int k i) (.int k j)).run P w=.ok v w:=by
 cases op<;>simp only[xv]at h<;>try (exact h.elim)
 case quo=>exact⟨_,rfl,h.2,λw=>by simp[binOp,Op.intDiv,h.1]⟩
 case rem=>exact⟨_,rfl,h.2,λw=>by simp[binOp,Op.intDiv,h.1]⟩
 all_goals exact⟨_,rfl,h,λw=>by simp[binOp,Op.intArith,Op.intCmp]⟩
theorem Ey{P:Program}{op:BinOp}{t:TypeId}{i j:ByteArray}{K:Value->Prop}(h:Aa op i j K):
  ∃v,plain v=true/\K v/\∀w,(binOp op t (.string i) (.string j)).run P w=.ok v w:=by
 cases op<;>simp only[Aa]at h<;>try (exact h.elim)
 case add=>
  have hm:¬(((i.size+j.size:Nat):Int)>IntKind.i64.max):=by
   have:IntKind.i64.max=9223372036854775807:=by decide
   rw[this];omega
  exact⟨_,rfl,h.2,λw=>by simp only[binOp,Op.stringOp];rw[if_neg hm];rfl⟩
 all_goals exact⟨_,rfl,h,λ_=>rfl⟩
theorem Ui{P:Program}{t:TypeId}{x y:Value}{r:Bool}{w:World}(hx:∀k i,x≠ .int k i)(hf:∀k i,x≠ .float k i)(hc:∀k i j,x≠ .complex k i j)(hs:∀s,x≠ .string s)
  (h:(Op.equalIn 10000 t x y).run P w=.ok r w):(binOp .eql t x y).run P w=.ok (.bool r) w/\(binOp .neq t x y).run P w=.ok (.bool (!r)) w:=by
 have h':(Op.equal t x y).run P w=.ok r w:=h;cases x<;>first|exact absurd rfl (hx _ _)|exact absurd rfl (hf _ _)|exact absurd rfl (hc _ _ _)|exact absurd rfl (hs _)|
  exact⟨by simp only[binOp,run_bind,h',andThen_ok,run_pure],by simp only[binOp,run_bind,h',andThen_ok,run_pure]⟩
theorem Ip{P:Program}{t e:TypeId}(hu:P.underlying t=some (.pointer e))(d:Nat)(a:Option Addr)(w:World):(Op.equalIn (d+1) t (.pointer a) (.pointer none)).run P w=.ok a.isNone w:=by
 cases a<;>simp[Op.equalIn,aS hu]
theorem CI{P:Program}{t e:TypeId}(hu:P.underlying t=some (.slice e))(d:Nat)(a:Option Addr)(n c n' c':Nat)(w:World):(Op.equalIn (d+1) t (.slice a n c) (.slice none n' c')).run P w=.ok a.isNone w:=by
 cases a<;>simp[Op.equalIn,aS hu]
theorem FE{P:Program}{t:TypeId}{p r:Array TypeId}{v:Bool}(hu:P.underlying t=some (.func p r v))(d:Nat)(f:Fn)(a b:Array Value)(w:World):(Op.equalIn (d+1) t (.func f a b) .nilFunc).run P w=.ok false w:=by
 simp[Op.equalIn,aS hu]
theorem VA{P:Program}{f:Nat}{t:TypeId}{ks:List K1}(qt:CJ P (f+1) t=some ks)(mK:di P t=true):ks.length=P.cellsOf t:=by
 simp only[CJ]at qt;cases hu:P.underlying t with
 |none=>simp[hu]at qt
 |some d=>
  cases d<;>simp only[hu]at qt<;>simp only[di,hu]at mK<;>try (cases mK;done)
  ·cases qt
  ·rename_i fs;simp only[cond_eq_ite]at qt;split at qt
   ·cases qt
   ·cases y_:Iq (CJ P f) 0 fs.toList with
    |none=>simp[y_]at qt
    |some l=>
     simp only[y_,beq_iff]at qt;split at qt
     ·rename_i hl;simp only[Option.some.injEq]at qt;subst qt;exact hl
     ·cases qt
def Xu(op:BinOp)(K:Value->Prop)(r:Bool):Prop:=
 match op with
 | .eql=>K (.bool r)
 | .neq=>K (.bool (!r))
 |_=>False
theorem KT{P:Program}{op:BinOp}{t:TypeId}{x y:Value}{K:Value->Prop}(h:pj P op t x y K):
  (∃k a b,x=.int k a/\y=.int k b/\xv op k a b K)\/(∃a b,x=.string a/\y=.string b/\Aa op a b K)\/
  (∃a b,x=.bool a/\y=.bool b/\P.underlying t=some .bool/\Xu op K (a == b))\/
  (∃a b ks r,x=.agg a/\y=.agg b/\CJ P 8 t=some ks/\ks.length=a.size/\ks.length=b.size/\P.eqGuardType P.depth t=false/\di P t=true/\eqs ks a.toList b.toList=some r/\Xu op K r)\/
  (∃a e,x=.pointer a/\y=.pointer none/\P.underlying t=some (.pointer e)/\Xu op K a.isNone)\/
  (∃a n c n' c' e,x=.slice a n c/\y=.slice none n' c'/\P.underlying t=some (.slice e)/\Xu op K a.isNone)\/
  (∃f a b p r v,x=.func f a b/\y=.nilFunc/\P.underlying t=some (.func p r v)/\Xu op K false):=by
 cases x with
 |int k i=>
  cases y<;>first|exact(show False from h).elim|skip
  obtain⟨hk,h'⟩:=aq (show(bif decide (_=_)then xv op _ _ _ K else False)from h);simp only[decide_eq_true_eq]at hk;subst hk;exact .inl ⟨_,_,_,rfl,rfl,h'⟩
 |string s=>
  cases y<;>first|exact(show False from h).elim|skip
  exact .inr (.inl ⟨_,_,rfl,rfl,h⟩)
 |bool i=>
  cases y<;>first|exact(show False from h).elim|skip
  simp only[pj]at h;cases hu:P.underlying t with
  |none=>simp only[hu]at h
  |some d=>
   cases d<;>simp only[hu]at h;exact .inr (.inr (.inl ⟨_,_,rfl,rfl,rfl,h⟩))
 |agg i=>
  cases y<;>first|exact(show False from h).elim|skip
  rename_i j;simp only[pj]at h;cases qt:CJ P 8 t with
  |none=>simp only[qt]at h
  |some ks=>
   simp only[qt]at h;obtain⟨hc,h⟩:=aq h;simp only[and_eq_true,beq_iff,not_eq_true']at hc;obtain⟨⟨⟨ha,hb⟩,hg⟩,mK⟩:=hc;cases hr:eqs ks i.toList j.toList with
   |none=>simp only[hr]at h
   |some r=>
    simp only[hr]at h;exact .inr (.inr (.inr (.inl ⟨_,_,_,_,rfl,rfl,rfl,ha,hb,hg,mK,hr,h⟩)))
 |pointer i=>
  cases y<;>first|exact(show False from h).elim|skip
  rename_i j;cases j with
  |some j=>exact(show False from h).elim
  |none=>
   simp only[pj]at h;cases hu:P.underlying t with
   |none=>simp only[hu]at h
   |some d=>
    cases d<;>simp only[hu]at h;exact .inr (.inr (.inr (.inr (.inl ⟨_,_,rfl,rfl,rfl,h⟩))))
 |slice i n c=>
  cases y<;>first|exact(show False from h).elim|skip
  rename_i j n' c';cases j with
  |some j=>exact(show False from h).elim
  |none=>
   simp only[pj]at h;cases hu:P.underlying t with
   |none=>simp only[hu]at h
   |some d=>
    cases d<;>simp only[hu]at h;exact .inr (.inr (.inr (.inr (.inr (.inl ⟨_,_,_,_,_,_,rfl,rfl,rfl,h⟩)))))
 |func f i j=>
  cases y<;>first|exact(show False from h).elim|skip
  simp only[pj]at h;cases hu:P.underlying t with
  |none=>simp only[hu]at h
  |some d=>
   cases d<;>simp only[hu]at h;exact .inr (.inr (.inr (.inr (.inr (.inr ⟨_,_,_,_,_,_,rfl,rfl,rfl,h⟩)))))
 |_=>exact(show False from h).elim
theorem BG{P:Program}{op:BinOp}{t:TypeId}{x y:Value}{K:Value->Prop}(h:pj P op t x y K)(X Y:Operand):
  plain x=true/\plain y=true/\∃v,plain v=true/\K v/\∀w,(do eqGuard op t X Y x y;binOp op t x y:Sem Value).run P w=.ok v w:=by
 have close:∀{v:Value},x≠ .nilIface->(∀c,x≠ .agg c)->plain v=true->K v->(∀w,(binOp op t x y).run P w=.ok v w)->
   ∃v,plain v=true/\K v/\∀w,(do eqGuard op t X Y x y;binOp op t x y:Sem Value).run P w=.ok v w:=by
  intro v h1 h2 hp hK hr;exact⟨v,hp,hK,λw=>by simp only[run_bind,H_ X Y w h1 h2,andThen_ok,hr]⟩
 have two:∀{r:Bool},x≠ .nilIface->(∀c,x≠ .agg c)->(∀k i,x≠ .int k i)->(∀k i,x≠ .float k i)->(∀k i j,x≠ .complex k i j)->(∀s,x≠ .string s)->(∀w,(Op.equalIn 10000 t x y).run P w=.ok r w)->
   Xu op K r->∃v,plain v=true/\K v/\∀w,(do eqGuard op t X Y x y;binOp op t x y:Sem Value).run P w=.ok v w:=by
  intro r h1 h2 h3 h4 h5 h6 hr hK;have hh:=λw=>Ui h3 h4 h5 h6 (hr w);cases op<;>simp only[Xu]at hK
  ·exact close h1 h2 rfl hK λw=>(hh w).1
  ·exact close h1 h2 rfl hK λw=>(hh w).2
 have hc:=KT h;clear h;rcases hc with⟨k,a,b,rfl,rfl,h⟩|⟨a,b,rfl,rfl,h⟩|⟨a,b,rfl,rfl,hu,h⟩|⟨a,b,ks,r,rfl,rfl,qt,ha,hb,hg,mK,hr,h⟩|⟨a,e,rfl,rfl,hu,h⟩|⟨a,n,c,n',c',e,rfl,rfl,hu,h⟩|⟨f,a,b,p,r,v,rfl,rfl,hu,h⟩
 ·obtain⟨v,hp,hK,hr⟩:=E_ (P:=P) (t:=t) h;exact⟨rfl,rfl,close (by simp) (by simp) hp hK hr⟩
 ·obtain⟨v,hp,hK,hr⟩:=Ey (P:=P) (t:=t) h;exact⟨rfl,rfl,close (by simp) (by simp) hp hK hr⟩
 ·exact⟨rfl,rfl,two (by simp) (by simp) (by simp) (by simp) (by simp) (by simp) (λw=>run_equalIn_bool' w 9999 t a b hu) h⟩
 ·refine⟨rfl,rfl,?_⟩;have Bk:eqs ks ((a.toList.drop 0).take ks.length) ((b.toList.drop 0).take ks.length)=some r:=by
   rw[drop_zero,drop_zero,take_of_length_le (by simp;omega),take_of_length_le (by simp;omega)];exact hr
  have p3:∀w,(Op.equalIn 10000 t (.agg a) (.agg b)).run P w=.ok r w:=by
   intro w;obtain⟨x,y,p1,p2,p3⟩:=Mz (w:=w) 8 t ks qt 10000 (by omega) a b 0 r (by omega) (by omega) Bk;have hu:∃d,P.underlying t=some d:=by
    unfold di at mK;cases hu:P.underlying t with
    |none=>simp[hu]at mK
    |some d=>exact⟨d,rfl⟩
   obtain⟨d,hu⟩:=hu;have ag2:ks.length=P.cellsOf t:=VA qt mK;rw[gp hu mK]at p1 p2;simp only[Result.ok.injEq,and_true]at p1 p2;subst p1 p2;rw[<- ag2,zero_add]at p3;have hA:a.extract 0 ks.length=a:=by rw[ha];simp
   have hB:b.extract 0 ks.length=b:=by rw[hb];simp
   rw[hA,hB]at p3;exact p3
  cases op<;>simp only[Xu]at h
  ·exact⟨_,rfl,h,λw=>by simp only[run_bind,run_eqGuard_agg w _ t X Y a b hg,andThen_ok,run_eql_struct,p3]⟩
  ·exact⟨_,rfl,h,λw=>by simp only[run_bind,run_eqGuard_agg w _ t X Y a b hg,andThen_ok,run_neq_struct,p3]⟩
 ·exact⟨rfl,rfl,two (r:=a.isNone) (by simp) (by simp) (by simp) (by simp) (by simp) (by simp) (λw=>Ip hu 9999 a w) h⟩
 ·exact⟨rfl,rfl,two (r:=a.isNone) (by simp) (by simp) (by simp) (by simp) (by simp) (by simp) (λw=>CI hu 9999 a n c n' c' w) h⟩
 ·exact⟨rfl,rfl,two (r:=false) (by simp) (by simp) (by simp) (by simp) (by simp) (by simp) (λw=>FE hu 9999 f a b w) h⟩
end Go.aP
namespace Go.aP
open Go.RowKit
section
variable {E:Env} {C:Ctx} {a:Act} {wa:World} {st:St} {u:UW} {θ:Nat->Nat} {fz:List Nat} {o:Oper} {K:St->UW->Prop} {Q:Exit->Act->World->Prop}
def sB(E:Env)(C:Ctx)(fz:List Nat)(o:Oper)(st:St)(θ:Nat->Nat)(K:St->UW->Prop)(Q:Exit->Act->World->Prop)(a:Act)(wa:World):Prop:=
 o.uponIn Fence.wide 0 E.P a (MY C fz o st θ (gY E.eX o) K) Q ((execOp a.eval o).run E.P wa)
theorem Qb{x:Operand}(ho:o.op=.move x\/o.op=.assign x)(aI:br C.n o=true)(hI:Inv C a wa st u θ)(h:K (fin o st (ev st.σ x)) u):sB E C fz o st θ K Q a wa:=by
 have hx:cZ C.n x=true:=kY aI (by rcases ho with ho|ho<;>simp[ho,Op.operands]);refine bc (r:=a.eval x) (wb:=wa) (by rcases ho with ho|ho<;>simp[execOp,ho]) ?_;exact lz aI hI (FD hI hx) (λk o' e=>(kA hI hx e).2) h
theorem Yb{c x y:Operand}(ho:o.op=.pick c x y)(aI:br C.n o=true)(hI:Inv C a wa st u θ){t:Bool}(hc:ev st.σ c=.bool t)(h:ab t (K (fin o st (ev st.σ x)) u) (K (fin o st (ev st.σ y)) u)):
  sB E C fz o st θ K Q a wa:=by
 have hxc:cZ C.n c=true:=kY aI (by simp[ho,Op.operands]);have hx:cZ C.n x=true:=kY aI (by simp[ho,Op.operands]);have hy:cZ C.n y=true:=kY aI (by simp[ho,Op.operands]);have hec:=bf hI hxc hc rfl;cases t with
 |true=>
  refine bc (r:=a.eval x) (wb:=wa) (by simp[execOp,ho,hec,asBool]) ?_;exact lz aI hI (FD hI hx) (λk o' e=>(kA hI hx e).2) h
 |false=>
  refine bc (r:=a.eval y) (wb:=wa) (by simp[execOp,ho,hec,asBool]) ?_;exact lz aI hI (FD hI hy) (λk o' e=>(kA hI hy e).2) h
theorem qp{D:List (Nat×Nat)}{k:Nat}(h:nC D k=false):∀m,(k,m)∉D:=by
 intro m hm;have:=NR.2 ⟨m,hm⟩;rw[h]at this;cases this
theorem Qo{k:Nat}{cs:List Value}(hk:k<C.n)(hn:C.n<=65536)(hd:o.dst=some k)(hb:nC st.D k=false)(fw:∀k m,(k,m)∈st.D->m<=65536)(oB:cs.length<=65536)(m':Nat):
  cD C.n fz o.dst.toList st {st with σ:=qX (iM st.σ k (dK k 0)) k 0 cs,D:=(k,m')::st.D} where
 slot:=λi hi Oa=>by
  rw[hd]at Oa
  simp only[Option.toList,List.mem_singleton]at Oa
  simp only
  rw[gI _ _ _ (by omega),cj _ _ Oa]
 D:=λx hx=>by simp[hx]
 fz:=λk' bZ m hm j hj=>by
  have aQ:k'≠k:=λe=>qp hb m (e▸hm)
  have:=fw k' m hm
  simp only
  rw[dy,cj]
  ·have:=jc k' j;omega
  ·intro i _ hi e
   exact aQ (iF (by omega) (by omega) e).1
theorem He{k:Nat}{cs:Array Value}{T:TypeId}(kZ:gY E.eX o=true)(aI:br C.n o=true)(hI:Inv C a wa st u θ)(hd:o.dst=some k)
  (iP:(execOp a.eval o).run E.P wa=.ok (.value (.pointer (some ⟨wa.heap.size,0,none⟩))) (wa.alloc (.cells cs T (0,0))))
  (h:(bif !nC st.D k&& !cM fz k&&eB cs.toList&&ble cs.size 65536 then K {st with σ:=qX (iM st.σ k (dK k 0)) k 0 cs.toList,D:=(k,cs.size)::st.D} u else False)):
  sB E C fz o st θ K Q a wa:=by
 obtain⟨hc,h⟩:=aq h;simp only[and_eq_true,not_eq_true',ble_eq]at hc;obtain⟨⟨⟨h1,h2⟩,h3⟩,h4⟩:=hc;have hk:=ee aI k hd;refine bc iP ?_;rw[hd];exact⟨_,_,_,hI.YF hk (qp h1) (λv hv=>(nL h3 v hv).1) h4,Qo hk hI.iO hd h1 (λk m hm=>(hI.boxes k m hm).1) (by simpa using h4) _,λk' m hm=>by(have aQ:k'≠k:=λe=>qp h1 m (e▸hm));exact if_neg aQ,λhn=>(by rw[kZ]at hn;cases hn),h⟩
theorem Hd{cs:Array Value}{T:TypeId}(aI:br C.n o=true)(hI:Inv C a wa st u θ)
  (iP:(execOp a.eval o).run E.P wa=.ok (.value (.pointer (some ⟨wa.heap.size,0,none⟩))) (wa.alloc (.cells cs T (0,0))))
  (h:∀(b:Nat) (w':World),qV u.toWorld w' b (.cells cs T (0,0))->K (fin o st (.pointer (some ⟨b,0,none⟩))) (u.born b w')):sB E C fz o st θ K Q a wa:=by
 obtain⟨w',hb,dG⟩:=hI.born (.cells cs T (0,0));exact bc iP (aV aI dG rfl (h _ _ hb))
theorem Dk{t:TypeId}{z:Value}{P:Program}{w:World}(hz:(P.info? t).bind (·.zero)=some z):(Instr.alloc t true (.tuple #[])).run P w=.ok (.pointer (some ⟨w.heap.size,0,none⟩)) (w.alloc (.cells z.cells t (0,0))):=by
 simp only[Instr.alloc,run_bind,jI hz,andThen_ok,newVar,newRow,run_newObj,run_pure];rfl
theorem LH{t:TypeId}{v:Value}{P:Program}{w:World}:(Instr.box t v).run P w=.ok (.pointer (some ⟨w.heap.size,0,none⟩)) (w.alloc (.cells v.cells t (0,0))):=by
 simp only[Instr.box,run_bind,andThen_ok,newVar,newRow,run_newObj,run_pure];rfl
theorem Yc{t:TypeId}{x:Operand}{ks:List K1}(ho:o.op=.load t x)(aI:br C.n o=true)(hI:Inv C a wa st u θ)(hk:kinds E.P t=some ks)
  (h:match ev st.σ x with
   | .complex .f64 k off=>match eR st.D k with
     |some m=>bif ble (off+ks.length) m&&eB (wW st.σ k off ks.length)then K (fin o st (EW (di E.P t) (wW st.σ k off ks.length))) u else False
     |none=>False
   |v=>dI v λb off=>ZJ ks λvs=>rd u.heap b off ks.length=some vs/\K (fin o st (EW (di E.P t) vs)) u):sB E C fz o st θ K Q a wa:=by
 have hx:cZ C.n x=true:=kY aI (by simp[ho,Op.operands]);obtain⟨zb,⟨d,hu⟩,tB⟩:=lJ hk;split at h
 ·rename_i k off he;cases hb:eR st.D k with
  |none=>simp only[hb]at h
  |some m=>
   simp only[hb]at h;obtain⟨hc,h⟩:=aq h;simp only[and_eq_true,ble_eq]at hc;obtain⟨h1,h2⟩:=hc;obtain⟨_,c,T,b1,b2,b3,_⟩:=hI.boxes k m (jQ hb);have hp:=nL h2;have kQ:=(kA hI hx he).1;have Bl:=gV b2 b3 ks.length off h1 hp;refine bc (r:=EW (di E.P t) (wW st.σ k off ks.length)) (wb:=wa) ?_ (aV aI hI (nv hp (tB.imp id λh=>by rw[sX];exact h)) h);simp only[execOp,ho,kQ,Instr.loadAt,Instr.sureAddr,run_bind,run_pure,andThen_ok];rw[ig hk b1 (by omega),Bl];rfl
 ·obtain⟨b,off,hv,h⟩:=gk h;obtain⟨vs,hlen,hp,dS,h⟩:=qC h;have kQ:=bf hI hx hv rfl;by_cases hz:ks.length=0
  ·have mK:di E.P t=true:=tB.resolve_right (by omega);have Fg:vs=[]:=List.eq_nil_of_length_eq_zero (by omega);subst Fg;obtain⟨i,hi⟩:=gL hu;refine bc (r:=EW (di E.P t) []) (wb:=wa) ?_ (aV aI hI (by rw[mK];rfl) h);simp only[execOp,ho,kQ,Instr.loadAt,Instr.sureAddr,run_bind,run_pure,andThen_ok,loadVar,kX hu,mK,if_true,cB hi,<- zb,hz];rfl
  ·obtain⟨c,T,f,c1,c2,c3⟩:=uT hI.below dS hz;refine bc (r:=EW (di E.P t) vs) (wb:=wa) ?_ (aV aI hI (nv hp (tB.imp id λh=>by omega)) h);simp only[execOp,ho,kQ,Instr.loadAt,Instr.sureAddr,run_bind,run_pure,andThen_ok];rw[ig hk c1 c2,<- c3];rfl
theorem Dp{b off:Nat}{vs:List Value}{K':UW->Prop}(hI:Inv C a wa st u θ)(h:tQ b off vs u K')(aQ:vs≠[]):
  ∃c T w',wa.heap[b]?=some (.cells c T (0,0))/\off+vs.length<=c.size/\Inv C a (iN wa b (.cells (uy c off vs) T (0,0))) st (u.IZ w') θ/\K' (u.IZ w'):=by
 obtain⟨c,T,h1,h2,h3,h4⟩:=h;have bI:b<u.heap.size:=(Array.getElem?_eq_some_iff.1 h1).1;have hwa:wa.heap[b]?=some (.cells c T (0,0)):=by
  rcases hI.below.block b bI with e|e
  ·rw[<- e];exact h1
  ·rw[h1]at e;simp only[Option.some.injEq,Obj.cells.injEq]at e;obtain⟨rfl,_,_⟩:=e;have:vs.length≠0:=λe=>aQ (List.eq_nil_of_length_eq_zero e);rw[Array.size_empty]at h2;omega
 have tA:b<wa.heap.size:=(Array.getElem?_eq_some_iff.1 hwa).1;refine⟨c,T,iN u.toWorld b (.cells (uy c off vs) T (0,0)),hwa,h2,?_,h4 _ ⟨rfl,rfl,rfl,by rw[eV];exact le_refl _,uM bI,λc hc _=>kK hc⟩⟩;refine hI.world (F:=λx=>x=b) (λ_ e=>e▸h3) ⟨rfl,rfl,rfl,by rw[eV];exact le_refl _,λc _ hc=>kK hc⟩ ?_ ⟨rfl,rfl,rfl,by show _<=(iN u.toWorld b _).heap.size;rw[eV];exact le_refl _,λc _ hc=>kK hc⟩ ?_ ?_ ?_
 ·refine⟨hI.below.os,hI.below.tape,hI.below.output,?_,λi hc=>?_⟩
  ·show(iN u.toWorld b _).heap.size<=(iN wa b _).heap.size;rw[eV,eV];exact hI.below.size
  ·have su:i<u.heap.size:=by
    have hh:i<(iN u.toWorld b (.cells (uy c off vs) T (0,0))).heap.size:=hc;rw[eV]at hh;exact hh
   show(iN u.toWorld b _).heap[i]?=(iN wa b _).heap[i]?\/(iN u.toWorld b _).heap[i]?=_;by_cases e:i=b
   ·subst e;rw[uM bI,uM tA];exact .inl rfl
   ·rw[kK e,kK e];exact hI.below.block i su
 ·intro i h1 h2 h3;have hh:i<(iN u.toWorld b (.cells (uy c off vs) T (0,0))).heap.size:=h3;rw[eV]at hh;omega
 ·intro i hc;rw[eV];exact hI.pb i hc
 ·intro i hc _;exact hc
theorem Ug{t:TypeId}{x y:Operand}(ho:o.op=.store t x y)(aI:br C.n o=true)(hI:Inv C a wa st u θ)
  (h:(bif plain (ev st.σ y)&&beq (ev st.σ y).cells.size (E.P.cellsOf t)&&eB (ev st.σ y).cells.toList&&(E.P.info? t).isSome then match ev st.σ x with
   | .complex .f64 k off=>match eR st.D k with
     |some m=>bif ble (off+(ev st.σ y).cells.size) m&& !cM fz k then K {st with σ:=put (qX st.σ k off (ev st.σ y).cells.toList) o.dst undef} u else False
     |none=>False
   |v=>dI v λb off=>tQ b off (ev st.σ y).cells.toList u λw'=>K (fin o st undef) w'
   else False)):sB E C fz o st θ K Q a wa:=by
 have hx:cZ C.n x=true:=kY aI (by simp[ho,Op.operands]);have hy:cZ C.n y=true:=kY aI (by simp[ho,Op.operands]);obtain⟨hc,h⟩:=aq h;simp only[and_eq_true,beq_iff]at hc;obtain⟨⟨⟨hpy,fw⟩,fR⟩,HS⟩:=hc;obtain⟨i,hi⟩:=Option.isSome_iff_exists.1 HS;have hp:=nL fR;have Xi:=nJ hI hy hpy;generalize hvy:ev st.σ y=vy at*
 split at h
 ·rename_i k off he;cases hb:eR st.D k with
  |none=>simp only[hb]at h
  |some m=>
   simp only[hb]at h;obtain⟨hc,h⟩:=aq h;simp only[and_eq_true,ble_eq,not_eq_true']at hc;obtain⟨h1,h2⟩:=hc;have hkm:=jQ hb;obtain⟨c,T,b1,b2,dG⟩:=hI.abN (o:=off) (vs:=vy.cells.toList) hkm (by simpa using h1) (λv hv=>(hp v hv).1);have kQ:=(kA hI hx he).1;refine Em (wb:=iN wa (θ k) (.cells (uy c off vy.cells.toList) T (0,0))) ?_ ⟨_,_,_,dG.cN o.dst (ee aI) (v:=undef) rfl,?_,λ_ _ _=>rfl,λ_=>rfl,h⟩
   ·simp only[execOp,ho,kQ,Xi,Instr.storeAt,Instr.sureAddr,run_bind,run_pure,andThen_ok];rw[uP hi fw b1 (by omega) (λv hv=>(hp v hv).2)];rfl
   ·have hP1:cD C.n fz [] st {st with σ:=qX st.σ k off vy.cells.toList}:=by
     refine⟨λi hi _=>?_,λ_ h=>h,λk' bZ m' sr j hj=>?_⟩
     ·simp only;rw[gI _ _ _ (lt_of_lt_of_le hi hI.iO)]
     ·have aQ:k'≠k:=λe=>by
       have:=dR.2 (e▸bZ);rw[h2]at this;cases this
      simp only;rw[dy];intro i _ hi e;have:=(hI.boxes k' m' sr).1;have:=(hI.boxes k m hkm).1;simp only[length_toList]at hi;exact aQ (iF (by omega) (by omega) e).1
    have hP2:=cD.fin (n:=C.n) (fz:=fz) {st with σ:=qX st.σ k off vy.cells.toList} o.dst (ee aI) hI.iO undef;have:=hP1.trans hP2;simpa using this
 ·obtain⟨b,off,hv,h⟩:=gk h;have kQ:=bf hI hx hv rfl;by_cases hz:vy.cells.toList=[]
  ·obtain⟨c,T,h1,h2,h3,h4⟩:=h;rw[hz]at h4;simp only[uy]at h4;have N_:vy.cells.size=0:=by have:=congrArg List.length hz;simpa using this
   have hS:Sto u.toWorld u.toWorld b (.cells c T (0,0)):=⟨rfl,rfl,rfl,le_refl _,h1,λ_ _ _=>rfl⟩;refine Em (wb:=wa) ?_ (aV aI (u':=u.IZ u.toWorld) (θ:=θ) ?_ rfl (h4 _ hS))
   ·simp only[execOp,ho,kQ,Xi,Instr.storeAt,Instr.sureAddr,run_bind,run_pure,andThen_ok,storeVar,cB hi];rw[if_neg (by omega),hz];simp[storeCells]
   ·exact hI
  ·obtain⟨c,T,w',c1,c2,dG,hK⟩:=Dp hI h hz;simp only[length_toList]at c2;refine Em (wb:=iN wa b (.cells (uy c off vy.cells.toList) T (0,0))) ?_ (aV aI dG rfl hK);simp only[execOp,ho,kQ,Xi,Instr.storeAt,Instr.sureAddr,run_bind,run_pure,andThen_ok];rw[uP hi fw c1 c2 (λv hv=>(hp v hv).2)];rfl
theorem ab2{op:BinOp}{t t':TypeId}{x y:Operand}(ho:o.op=.binOp op t x y t')(aI:br C.n o=true)(hI:Inv C a wa st u θ)(h:pj E.P op t (ev st.σ x) (ev st.σ y) λv=>K (fin o st v) u):
  sB E C fz o st θ K Q a wa:=by
 have hx:cZ C.n x=true:=kY aI (by simp[ho,Op.operands]);have hy:cZ C.n y=true:=kY aI (by simp[ho,Op.operands]);obtain⟨px,py,v,hp,hK,hr⟩:=BG h x y;refine bc (r:=v) (wb:=wa) ?_ (aV aI hI hp hK);simp only[execOp,ho];rw[nJ hI hx px,nJ hI hy py];rw[run_bind,hr];rfl
end
end Go.aP
