import Derived.OrdersHeld
import Derived.OrdersIn
import Derived.RangeFuncNested
open Array (getElem?_eq_getElem length_toList replicate)
open Bool (and_eq_true cond_eq_ite false_eq_true not_eq_true' or_eq_true)
open Go.Result (andThen_ok)
open Go.Sem (run_bind run_pure)
open List (all_eq_true drop_eq_getElem_cons drop_zero length_cons length_nil mem_cons range take_of_length_le)
open Nat (beq ble ble_eq blt le_refl le_trans lt_of_lt_of_le zero_add)
set_option linter.all false
namespace Go.aO
open Go.RowKit
abbrev Fr:=Nat->Value
abbrev IU:=Array Obj
@[reducible] def dM(k o:Nat):Value:=.complex .f64 k o
@[reducible] def aV:Value:=.complex .f32 0 0
def plain:Value->Bool
 | .complex _ _ _=>false
 |_=>true
def one:Value->Bool
 | .agg _| .tuple _=>false
 |_=>true
def R(θ:Nat->Nat)(v r:Value):Prop:=
 match v with
 | .complex .f64 k o=>r=.pointer (some ⟨θ k,o,none⟩)
 | .complex .f32 _ _=>True
 |v=>r=v
theorem iX{θ:Nat->Nat}{v r:Value}(h:plain v=true):R θ v r↔r=v:=by
 cases v<;>simp_all [R,plain]
theorem oT{θ:Nat->Nat}{v:Value}(h:plain v=true):R θ v v:=(iX h).2 rfl
def i_(σ:Fr)(t:Nat)(v:Value):Fr:=λi=>bif beq i t then v else σ i
@[simp] theorem eY(σ:Fr)(t:Nat)(v:Value):i_ σ t v t=v:=by simp[i_]
theorem cf(σ:Fr){t i:Nat}(v:Value)(h:i≠t):i_ σ t v i=σ i:=by
 have:beq i t=false:=by
  cases hb:beq i t with
  |false=>rfl
  |true=>exact absurd (Nat.eq_of_beq_eq_true hb) h
 simp[i_,this]
def put(σ:Fr)(d:Option Nat)(v:Value):Fr:=match d with|some t=>i_ σ t v|none=>σ
def gx(k j:Nat):Nat:=(k+1)*65536+j
def rn(σ:Fr)(k:Nat):Nat->List Value->Fr
 |_,[]=>σ
 |j,v::vs=>rn (i_ σ (gx k j) v) k (j+1) vs
def wR(σ:Fr)(k:Nat):Nat->Nat->List Value
 |_,0=>[]
 |j,m+1=>σ (gx k j)::wR σ k (j+1) m
theorem tg(σ:Fr)(k:Nat):∀(m j:Nat),(wR σ k j m).length=m
 |0,_=>rfl
 |m+1,j=>by simp[wR,tg σ k m (j+1)]
theorem uZ(σ:Fr)(k:Nat):∀(m j i:Nat),i<m->(wR σ k j m)[i]?=some (σ (gx k (j+i)))
 |m+1,j,0,_=>by simp[wR]
 |m+1,j,i+1,h=>by
  simp only[wR,List.getElem?_cons_succ]
  rw[uZ σ k m (j+1) i (by omega)]
  congr 3;omega
def ev(σ:Fr):Operand->Value
 | .tmp t=>σ t
 | .const v=>v
 | .global g=>.pointer (some ⟨g,0,none⟩)
 | .func f=>.func (.func f) #[] #[]
def rd(H:IU)(b o n:Nat):Option (List Value):=
 match H[b]? with
 |some (.cells c _ _)=>if o+n<=c.size then some ((c.toList.drop o).take n)else none
 |_=>none
inductive K1 where
 |int (k:IntKind)|bool|str|slice|ptr|fn|map|val
 deriving DecidableEq,Inhabited
@[reducible] def K1.T:K1->Type
 | .int _=>Int
 | .bool=>Bool
 | .str=>ByteArray
 | .slice=>Option Addr×Nat×Nat
 | .ptr=>Option Addr
 | .fn=>Fn×Array Value×Array Value
 | .map=>Option Nat
 | .val=>Empty
def K1.v:(k:K1)->k.T->Value
 | .int k,x=>.int k x
 | .bool,x=>.bool x
 | .str,x=>.string x
 | .slice,x=>.slice x.1 x.2.1 x.2.2
 | .ptr,x=>.pointer x
 | .fn,x=>.func x.1 x.2.1 x.2.2
 | .map,x=>.map x
 | .val,x=>Empty.elim x
def K1.get:(k:K1)->Value->Option k.T
 | .int k,.int k' x=>if k=k' then some x else none
 | .bool,.bool x=>some x
 | .str,.string x=>some x
 | .slice,.slice a n c=>some (a,n,c)
 | .ptr,.pointer x=>some x
 | .fn,.func f a b=>some (f,a,b)
 | .map,.map x=>some x
 |_,_=>none
theorem K1.MH{k:K1}{v:Value}{x:k.T}(h:k.get v=some x):v=k.v x:=by
 cases k<;>cases v<;>simp_all [K1.get,K1.v]
 all_goals (first|exact h.2|(subst h;exact⟨rfl,rfl,rfl⟩))
theorem K1.UO(k:K1)(x:k.T):plain (k.v x)=true:=by cases k<;>first|rfl|exact Empty.elim x
def exK:K1->(Value->Prop)->Prop
 | .int k,F=>∃x:Int,F (.int k x)
 | .bool,F=>∃x:Bool,F (.bool x)
 | .str,F=>∃x:ByteArray,F (.string x)
 | .slice,F=>∃(a:Option Addr) (n c:Nat),F (.slice a n c)
 | .ptr,F=>∃a:Option Addr,F (.pointer a)
 | .fn,F=>∃(f:Fn) (a b:Array Value),F (.func f a b)
 | .map,F=>∃a:Option Nat,F (.map a)
 | .val,_=>False
def exL:List K1->(List Value->Prop)->Prop
 |[],F=>F []
 |k::ks,F=>exK k λv=>exL ks λvs=>F (v::vs)
theorem SB{k:K1}{F:Value->Prop}(h:exK k F):∃v,plain v=true/\one v=true/\F v:=by
 cases k<;>simp only[exK]at h
 case int=>obtain⟨x,h⟩:=h;exact⟨_,rfl,rfl,h⟩
 case bool=>obtain⟨x,h⟩:=h;exact⟨_,rfl,rfl,h⟩
 case str=>obtain⟨x,h⟩:=h;exact⟨_,rfl,rfl,h⟩
 case slice=>obtain⟨a,n,c,h⟩:=h;exact⟨_,rfl,rfl,h⟩
 case ptr=>obtain⟨x,h⟩:=h;exact⟨_,rfl,rfl,h⟩
 case fn=>obtain⟨f,a,b,h⟩:=h;exact⟨_,rfl,rfl,h⟩
 case map=>obtain⟨x,h⟩:=h;exact⟨_,rfl,rfl,h⟩
theorem qP:∀{ks:List K1} {F:List Value->Prop},exL ks F->∃vs,vs.length=ks.length/\(∀v∈vs,plain v=true/\one v=true)/\F vs
 |[],_,h=>⟨[],rfl,by simp,h⟩
 |k::ks,F,h=>by
  obtain⟨v,hp,h1,h⟩:=SB h
  obtain⟨vs,hl,vu,h⟩:=qP h;exact⟨v::vs,by simp[hl],by simpa using⟨⟨hp,h1⟩,vu⟩,h⟩
inductive Kd where
 |one (k:K1)
 |agg (ks:List K1)
 |box (ks:List K1)
 deriving DecidableEq,Inhabited
@[reducible] def TL:List K1->Type
 |[]=>Unit
 |[k]=>k.T
 |k::k'::ks=>k.T×TL (k'::ks)
def Li:(ks:List K1)->TL ks->List Value
 |[],_=>[]
 |[k],x=>[k.v x]
 |k::k'::ks,x=>k.v x.1::Li (k'::ks) x.2
def kL:(ks:List K1)->List Value->Option (TL ks)
 |[],[]=>some ()
 |[k],[v]=>k.get v
 |k::k'::ks,v::vs=>match k.get v,kL (k'::ks) vs with
  |some x,some y=>some (x,y)
  |_,_=>none
 |_,_=>none
theorem Gd:∀{ks:List K1} {vs:List Value} {x:TL ks},kL ks vs=some x->vs=Li ks x
 |[],[],_,_=>rfl
 |[],_::_,_,h=>by simp[kL]at h
 |[k],[],_,h=>by simp[kL]at h
 |[k],[v],x,h=>by simp only[kL]at h;simp[Li,K1.MH h]
 |[k],v::v'::vs,_,h=>by simp[kL]at h
 |k::k'::ks,[],_,h=>by simp[kL]at h
 |k::k'::ks,v::vs,x,h=>by
  simp only[kL]at h
  split at h
  ·rename_i a b ha hb
   simp only[Option.some.injEq]at h
   subst h
   simp[Li,K1.MH ha,Gd hb]
  ·cases h
theorem ua:∀(ks:List K1) (x:TL ks),(Li ks x).length=ks.length
 |[],_=>rfl
 |[k],x=>rfl
 |k::k'::ks,x=>by simp[Li,ua (k'::ks) x.2]
@[reducible] def Kd.T:Kd->Type
 | .one k=>k.T
 | .agg ks=>TL ks
 | .box ks=>TL ks
abbrev Live:=List (Nat×Kd)
@[reducible] def Tup:Live->Type
 |[]=>Unit
 |[x]=>x.2.T
 |x::y::l=>x.2.T×Tup (y::l)
structure St where
 σ:Fr
 D:List (Nat×Nat)
structure UW extends World where
 gj:Nat->Prop
def UW.born(u:UW)(b:Nat)(w':World):UW:=⟨w',λc=>u.gj c\/c=b⟩
def UW.Jh(u:UW)(w':World):UW:=⟨w',u.gj⟩
def UW.ret(u:UW)(lo:Nat)(w':World):UW:=⟨w',λc=>u.gj c\/(lo<=c/\c<w'.heap.size)⟩
def ir:List (Nat×Nat)->Nat->Nat->Bool
 |[],_,_=>false
 |(k,m)::D,k',m'=>(beq k k'&&beq m m')||ir D k' m'
theorem beq_iff{a b:Nat}:beq a b=true↔a=b:=⟨Nat.eq_of_beq_eq_true,λh=>by subst h;exact Nat.beq_refl a⟩
theorem oL{D:List (Nat×Nat)}{k m:Nat}:ir D k m=true↔(k,m)∈D:=by
 induction D with
 |nil=>simp[ir]
 |cons x D ih=>
  obtain⟨a,b⟩:=x;simp only[ir,or_eq_true,and_eq_true,beq_iff,ih,mem_cons,Prod.mk.injEq];constructor
  ·rintro(⟨rfl,rfl⟩|h)
   ·exact .inl ⟨rfl,rfl⟩
   ·exact .inr h
  ·rintro(⟨rfl,rfl⟩|h)
   ·exact .inl ⟨rfl,rfl⟩
   ·exact .inr h
def nL:List (Nat×Nat)->Nat->Bool
 |[],_=>false
 |(k,_)::D,k'=>beq k k'||nL D k'
theorem On{D:List (Nat×Nat)}{k:Nat}:nL D k=true↔∃m,(k,m)∈D:=by
 induction D with
 |nil=>simp[nL]
 |cons x D ih=>
  obtain⟨a,b⟩:=x;simp only[nL,or_eq_true,beq_iff,ih,mem_cons,Prod.mk.injEq];constructor
  ·rintro(h|⟨m,h⟩)
   ·exact⟨b,.inl ⟨h.symm,rfl⟩⟩
   ·exact⟨m,.inr h⟩
  ·rintro⟨m,⟨rfl,_⟩|h⟩
   ·exact .inl rfl
   ·exact .inr ⟨m,h⟩
def yK(st:St):(x:Nat×Kd)->Option x.2.T
 |(t,.one k)=>k.get (st.σ t)
 |(t,.agg ks)=>match st.σ t with
  | .agg a=>kL ks a.toList
  |_=>none
 |(t,.box ks)=>match st.σ t with
  | .complex .f64 k o=>bif (beq k t&&beq o 0)&&ir st.D t ks.length then kL ks (wR st.σ t 0 ks.length)else none
  |_=>none
def fZ(st:St):(l:Live)->Option (Tup l)
 |[]=>some ()
 |[x]=>yK st x
 |x::y::l=>match yK st x,fZ st (y::l)with
  |some a,some b=>some (a,b)
  |_,_=>none
def kH(st:St):(x:Nat×Kd)->x.2.T->St
 |(t,.one k),v=>{st with σ:=i_ st.σ t (k.v v)}
 |(t,.agg ks),v=>{st with σ:=i_ st.σ t (.agg (Li ks v).toArray)}
 |(t,.box ks),v=>{st with σ:=rn (i_ st.σ t (dM t 0)) t 0 (Li ks v),D:=bif ir st.D t ks.length then st.D else(t,ks.length)::st.D}
def rD(st:St):(l:Live)->Tup l->St
 |[],_=>st
 |[x],v=>kH st x v
 |x::y::l,v=>rD (kH st x v.1) (y::l) v.2
def cK:List Nat->Nat->Bool
 |[],_=>false
 |x::l,y=>beq x y||cK l y
theorem dR{l:List Nat}{y:Nat}:cK l y=true↔y∈l:=by
 induction l with
 |nil=>simp[cK]
 |cons x l ih=>
  simp only[cK,or_eq_true,beq_iff,ih,mem_cons];exact⟨λh=>h.imp Eq.symm id,λh=>h.imp Eq.symm id⟩
structure Cut where
 live:Live
 fJ:List (Nat×Nat)
def fh(σ:Fr):List (Nat×Nat)->Fr
 |[]=>σ
 |(k,m)::l=>fh (rn (i_ σ k (dM k 0)) k 0 (List.replicate m aV)) l
def Rx(v:Value)(k:Nat):Bool:=
 match v with
 | .complex .f64 k' o=>beq k' k&&beq o 0
 |_=>false
def kU(st:St):List (Nat×Nat)->Bool
 |[]=>true
 |(k,m)::l=>ir st.D k m&&Rx (st.σ k) k&&kU st l
def u_(σ:Fr)(ws:List Nat):Fr:=λt=>bif blt t 65536&&cK ws t then aV else σ t
def mix(st:St)(ws:List Nat)(c:Cut)(x:Tup c.live):St:=
 rD {st with σ:=fh (u_ st.σ ws) c.fJ} c.live x
def ab(c:Bool)(A B:Prop):Prop:=match c with|true=>A|false=>B
theorem WQ{c:Bool}{A B:Prop}:ab c A B↔(c=true->A)/\(c=false->B):=by cases c<;>simp[ab]
def bZ{α β:Type}(A:(α->β->Prop)->Prop)(B:α->β->Prop):Prop:=∃J:α->β->Prop,A J/\∀s w,J s w->B s w
def ao{α β:Type}(body:(α->β->Prop)->α->β->Prop)(s:α)(w:β):Prop:=
 ∃I:Nat->α->β->Prop,(∃n,I n s w)/\∀n s w,I n s w->body (λs' w'=>∃m,m<n/\I m s' w') s w
def pv{α:Type}(P:Program):Sem α->Option α
 | .pure a=>some a
 | .program k=>pv P (k P)
 |_=>none
theorem wU{α:Type}{P:Program}:∀{s:Sem α} {a:α},pv P s=some a->∀w,s.run P w=.ok a w
 | .pure a,b,h,w=>by simp only[pv,Option.some.injEq]at h;subst h;rfl
 | .program k,b,h,w=>by simp only[pv]at h;simp only[Sem.run];exact wU h w
 | .load ..,_,h,_=>by simp[pv]at h
 | .store ..,_,h,_=>by simp[pv]at h
 | .new ..,_,h,_=>by simp[pv]at h
 | .shape ..,_,h,_=>by simp[pv]at h
 | .freeze ..,_,h,_=>by simp[pv]at h
 | .frozen ..,_,h,_=>by simp[pv]at h
 | .getObj ..,_,h,_=>by simp[pv]at h
 | .setObj ..,_,h,_=>by simp[pv]at h
 | .choose ..,_,h,_=>by simp[pv]at h
 | .sys ..,_,h,_=>by simp[pv]at h
 | .mark ..,_,h,_=>by simp[pv]at h
 | .halt ..,_,h,_=>by simp[pv]at h
structure Env where
 P:Program
 n:Nat
 fj:List Nat
 loops:List (Nat×Cut)
 jl:List (Nat×Cut)
 rR:List (Nat×List TypeId):=[]
def look{α:Type}:List (Nat×α)->Nat->Option α
 |[],_=>none
 |(k,x)::l,i=>bif beq k i then some x else look l i
def tG(P:Program):Nat->TypeId->Option (List K1)
 |0,_=>none
 |f+1,t=>match P.underlying t with
  |some (.int k)=>some [.int k]
  |some .bool=>some [.bool]
  |some .string=>some [.str]
  |some (.slice _)=>some [.slice]
  |some (.pointer _)=>some [.ptr]
  |some (.func ..)=>some [.fn]
  |some (.map ..)=>some [.map]
  |some (.struct fs)=>fs.toList.foldr (λx acc=>match tG P f x.type,acc with|some a,some b=>some (a++b)|_,_=>none) (some [])
  |some (.array n e)=>match tG P f e with
   |some ks=>some ((List.replicate n ks).flatten)
   |none=>none
  |_=>none
def dq(P:Program)(t:TypeId):Bool:=
 match P.underlying t with
 |some (.struct _)|some (.array _ _)=>true
 |_=>false
def kinds(P:Program)(t:TypeId):Option (List K1):=
 match tG P 8 t with
 |some ks=>bif beq ks.length (P.cellsOf t)then(bif dq P t||beq ks.length 1 then some ks else none)else none
 |none=>none
def Fb:Bool->List Value->Value
 |true,vs=>.agg vs.toArray
 |false,[v]=>v
 |_,_=>aV
def exV(P:Program)(t:TypeId)(F:Value->Prop):Prop:=
 match kinds P t with
 |some ks=>exL ks λvs=>F (Fb (dq P t) vs)
 |none=>False
def KK(P:Program):List TypeId->(List Value->Prop)->Prop
 |[],F=>F []
 |t::ts,F=>exV P t λv=>KK P ts λvs=>F (v::vs)
def PO(P:Program)(t:TypeId)(F:Value->Prop):Prop:=
 match P.underlying t with
 |some (.tuple ts)=>KK P ts.toList λvs=>F (.tuple vs.toArray)
 |_=>exV P t F
def CO(P:Program)(t:TypeId)(f:Nat):Option Nat:=
 match P.underlying t with
 |some (.struct fs)=>match fs[f]? with
  |some x=>bif beq (P.cellsOf x.type) 0 then none else some x.offset
  |none=>none
 |_=>none
def vH(P:Program)(t:TypeId):Option TypeId:=
 match P.underlying t with
 |some (.slice e)=>some e
 |_=>none
def dL(v:Value)(F:Nat->Nat->Prop):Prop:=
 match v with
 | .pointer (some ⟨b,o,none⟩)=>F b o
 |_=>False
def bH(a:Option Addr)(F:Nat->Nat->Prop):Prop:=
 match a with
 |some ⟨b,o,none⟩=>F b o
 |_=>False
def nn(a:Option Addr)(A:Prop):Prop:=
 match a with
 |some _=>A
 |none=>False
def aK(a b:ByteArray):Bool:=a.toList == b.toList
theorem bD{a b:ByteArray}:aK a b=true↔a=b:=by
 unfold aK;rw[beq_iff_eq];constructor
 ·intro h;obtain⟨⟨a⟩⟩:=a;obtain⟨⟨b⟩⟩:=b;have ha:∀(l:List UInt8),(ByteArray.mk ⟨l⟩).toList=l:=by
   intro l;have:∀(n i:Nat) (r:List UInt8),n=(ByteArray.mk ⟨l⟩).size-i->ByteArray.toList.loop (ByteArray.mk ⟨l⟩) i r=r.reverse++l.drop i:=by
    intro n;induction n with
    |zero=>
     intro i r h;rw[ByteArray.toList.loop.eq_def];have:¬i<(ByteArray.mk ⟨l⟩).size:=by omega
     rw[if_neg this];have hs:(ByteArray.mk ⟨l⟩).size=l.length:=rfl;rw[List.drop_of_length_le (by omega)];simp
    |succ n ih=>
     intro i r h;rw[ByteArray.toList.loop.eq_def];have hs:(ByteArray.mk ⟨l⟩).size=l.length:=rfl;have hi:i<(ByteArray.mk ⟨l⟩).size:=by omega
     rw[if_pos hi,ih (i+1) _ (by omega)];have xt:i<l.length:=by omega
     have hg:(ByteArray.mk ⟨l⟩).get! i=l[i]:=by
      simp[ByteArray.get!,xt]
     rw[hg,drop_eq_getElem_cons xt];simp
   have h0:=this _ 0 [] rfl;simpa[ByteArray.toList]using h0
  rw[ha,ha]at h;subst h;rfl
 ·rintro rfl;rfl
def eqs:List K1->List Value->List Value->Option Bool
 |[],[],[]=>some true
 | .int _::ks,.int k a::xs,.int k' b::ys=>bif decide (k=k')then(match eqs ks xs ys with|some r=>some ((a == b)&&r)|none=>none)else none
 | .bool::ks,.bool a::xs,.bool b::ys=>match eqs ks xs ys with|some r=>some ((a == b)&&r)|none=>none
 | .str::ks,.string a::xs,.string b::ys=>match eqs ks xs ys with|some r=>some (aK a b&&r)|none=>none
 |_,_,_=>none
def IA(g:TypeId->Option (List K1)):Nat->List Field->Option (List K1)
 |_,[]=>some []
 |a,x::fs=>match g x.type with
  |some l=>bif decide (x.name≠ "_")&&beq x.offset a then(match IA g (a+l.length) fs with|some r=>some (l++r)|none=>none)else none
  |none=>none
def CQ(P:Program):Nat->TypeId->Option (List K1)
 |0,_=>none
 |f+1,t=>match P.underlying t with
  |some (.int k)=>some [.int k]
  |some .bool=>some [.bool]
  |some .string=>some [.str]
  |some (.struct fs)=>bif P.stoodInHeld t then none else match IA (CQ P f) 0 fs.toList with
   |some l=>bif beq l.length (P.cellsOf t)then some l else none
   |none=>none
  |_=>none
def xq(op:BinOp)(k:IntKind)(a b:Int)(K:Value->Prop):Prop:=
 match op with
 | .add=>K (.int k (k.wrap (a+b)))
 | .sub=>K (.int k (k.wrap (a-b)))
 | .mul=>K (.int k (k.wrap (a*b)))
 | .quo=>b≠0/\K (.int k (k.wrap (a.tdiv b)))
 | .rem=>b≠0/\K (.int k (a.tmod b))
 | .eql=>K (.bool (a == b))
 | .neq=>K (.bool (a != b))
 | .lss=>K (.bool (decide (a<b)))
 | .leq=>K (.bool (decide (a<=b)))
 | .gtr=>K (.bool (decide (a>b)))
 | .geq=>K (.bool (decide (a>=b)))
 |_=>False
def Ac(op:BinOp)(a b:ByteArray)(K:Value->Prop):Prop:=
 match op with
 | .add=>a.size+b.size<9223372036854775808/\K (.string (a++b))
 | .eql=>K (.bool (aK a b))
 | .neq=>K (.bool (!aK a b))
 | .lss=>K (.bool (Op.bytesLess a.toList b.toList))
 | .leq=>K (.bool (Op.bytesLess a.toList b.toList||aK a b))
 | .gtr=>K (.bool (!(Op.bytesLess a.toList b.toList||aK a b)))
 | .geq=>K (.bool (!Op.bytesLess a.toList b.toList))
 |_=>False
def pM(P:Program)(op:BinOp)(t:TypeId)(x y:Value)(K:Value->Prop):Prop:=
 match x,y with
 | .int k a,.int k' b=>bif decide (k=k')then xq op k a b K else False
 | .string a,.string b=>Ac op a b K
 | .bool a,.bool b=>match P.underlying t with
   |some .bool=>match op with
    | .eql=>K (.bool (a == b))
    | .neq=>K (.bool (!(a == b)))
    |_=>False
   |_=>False
 | .agg a,.agg b=>match CQ P 8 t with
   |none=>False
   |some ks=>bif (beq ks.length a.size&&beq ks.length b.size)&& !P.eqGuardType P.depth t&&dq P t then
    (match eqs ks a.toList b.toList with
    |some r=>match op with
     | .eql=>K (.bool r)
     | .neq=>K (.bool (!r))
     |_=>False
    |none=>False)else False
 | .pointer a,.pointer none=>match P.underlying t with
   |some (.pointer _)=>match op with
    | .eql=>K (.bool a.isNone)
    | .neq=>K (.bool (!a.isNone))
    |_=>False
   |_=>False
 | .slice a _ _,.slice none _ _=>match P.underlying t with
   |some (.slice _)=>match op with
    | .eql=>K (.bool a.isNone)
    | .neq=>K (.bool (!a.isNone))
    |_=>False
   |_=>False
 | .func _ _ _,.nilFunc=>match P.underlying t with
   |some (.func ..)=>match op with
    | .eql=>K (.bool false)
    | .neq=>K (.bool true)
    |_=>False
   |_=>False
 |_,_=>False
structure rl(w w':World)(b:Nat)(o:Obj):Prop where
 below:Below w.heap.size w w'
 at_:w'.heap[b]?=some o
 ge:w.heap.size<=b
structure Sto(w w':World)(b:Nat)(o:Obj):Prop where
 os:w'.os=w.os
 tape:w'.tape=w.tape
 output:w'.output=w.output
 size:w.heap.size<=w'.heap.size
 at_:w'.heap[b]?=some o
 ne:∀c,c≠b->c<w.heap.size->w'.heap[c]?=w.heap[c]?
structure Mod(F:Nat->Prop)(w w':World):Prop where
 os:w'.os=w.os
 tape:w'.tape=w.tape
 output:w'.output=w.output
 size:w.heap.size<=w'.heap.size
 cu:∀b,b<w.heap.size->¬F b->w'.heap[b]?=w.heap[b]?
@[reducible] def cT:Obj:=.cells #[] 0 (0,0)
structure xT(w w1:World):Prop where
 os:w1.os=w.os
 tape:w1.tape=w.tape
 output:w1.output=w.output
 size:w.heap.size<=w1.heap.size
 block:∀b,b<w.heap.size->w.heap[b]?=w1.heap[b]?\/w.heap[b]?=some cT
structure Out(F:Nat->Prop)(w w1 w' wr:World):Prop where
 mod:Mod F w1 wr
 Cq:xT w' wr
 umod:Mod F w w'
 Bj:∀b,w.heap.size<=b->b<w1.heap.size->b<w'.heap.size->w'.heap[b]?=some cT
def FnB(P:Program)(f:FuncId)(args:Array Value)(w:World)(F:Nat->Prop)(K:Value->Nat->World->Prop):Prop:=
 ∀w1,xT w w1->Calls P f args w1 λe wr=>∃v w',e=.returned v/\Out F w w1 w' wr/\K v w1.heap.size w'
def oc(P:Program)(f:FuncId)(args:Array Value)(u:UW)(K:Value->UW->Prop):Prop:=
 ∃F:Nat->Prop,(∀b,F b->u.gj b)/\FnB P f args u.toWorld F λv lo w'=>K v (u.ret lo w')
def dg(P:Program)(f:FuncId):Bool:=
 match P.funcs[f]? with
 |some fn=> !(fn.name == "runtime.NumGoroutine")&&fn.body.isSome
 |none=>false
def aaQ(P:Program)(l:Nat)(args:List Value)(w:World)(R:Ending->World->Prop):Prop:=
 ∃r:Loop,w.heap[l]?=some (.loop r)/\args.length=r.params.size/\RoundIn Fence.wide 0 P l r.fn ((r.params.zip args.toArray).foldl (λt (p,v)=>t.setIfInBounds p v) r.tmps) r.assign r.body w R
def xS(P:Program)(f:Value)(args:List Value)(w:World)(R:Ending->World->Prop):Prop:=
 match f with
 | .func (.func g) first captured=>dg P g=true/\Calls P g (first.toList++args++captured.toList).toArray w R
 | .func (.yield l) first captured=>first= #[]/\captured= #[]/\aaQ P l args w R
 |_=>False
def Lh(P:Program)(f:Value)(args:List Value)(w:World)(F:Nat->Prop)(K:Value->Nat->World->Prop):Prop:=
 ∀w1,xT w w1->xS P f args w1 λe wr=>∃v w',e=.returned v/\Out F w w1 w' wr/\K v w1.heap.size w'
def pz(P:Program)(f:Value)(args:List Value)(u:UW)(K:Value->UW->Prop):Prop:=
 match f with
 | .func (.func g) first captured=>bif dg P g then oc P g (first.toList++args++captured.toList).toArray u K else False
 |f=>∃F:Nat->Prop,(∀b,F b->u.gj b)/\Lh P f args u.toWorld F λv lo w'=>K v (u.ret lo w')
def Bq(f:Fn)(A:Prop):Prop:=match f with| .method _=>False|_=>A
def Kh:Obj->Bool| .loop _=>true|_=>false
def TP(P:Program)(f:Value)(body:List Value->(Option Code->UW->Prop)->UW->Prop)(K:Option Code->UW->Prop)(u:UW):Prop:=
 (∃g a b,f=.func (.func g) a b)/\∀(l:Nat) (rec:Option Code->Obj) (w':World),(∀p,Kh (rec p)=true)->rl u.toWorld w' l (rec none)->
  (∀(vs:List Value) (w1:World) (F:Nat->Prop) (R:Option Code->UW->Prop),w1.heap[l]?=some (rec none)->(∀b,F b->b<w1.heap.size/\b≠l)->body vs R ⟨w1.putObj l cT,F⟩->
   Lh P (.func (.yield l) #[] #[]) vs w1 (λb=>F b\/b=l) λv lo w2=>∃p gj w3,v=.bool p.isNone/\w2=w3.putObj l (rec p)/\w3.heap[l]?=some cT/\(∀b,gj b->F b\/lo<=b)/\R p ⟨w3,gj⟩)->
  pz P f [.func (.yield l) #[] #[]] (u.born l w') λ_ u'=>∃p,u'.heap[l]?=some (rec p)/\K p ⟨u'.toWorld.putObj l cT,λb=>u'.gj b/\b≠l⟩
def uC(c:Array Value):Nat->List Value->Array Value
 |_,[]=>c
 |o,v::vs=>uC (c.setIfInBounds o v) (o+1) vs
def tX(b o:Nat)(vs:List Value)(u:UW)(K:UW->Prop):Prop:=
 ∃(c:Array Value) (T:TypeId),u.heap[b]?=some (.cells c T (0,0))/\o+vs.length<=c.size/\u.gj b/\
  ∀w',Sto u.toWorld w' b (.cells (uC c o vs) T (0,0))->K (u.Jh w')
def fin(o:Oper)(st:St)(v:Value):St:={st with σ:=put st.σ o.dst v}
def eX:List (Nat×Nat)->Nat->Option Nat
 |[],_=>none
 |(k,m)::D,k'=>bif beq k k' then some m else eX D k'
def eG(vs:List Value):Bool:=vs.all λv=>plain v&&one v
def yZ(a:Option Addr)(l m size:Nat):Option Addr:=if m=l then a else a.map λx=>⟨x.block,x.off+l*size,none⟩
def dA(ρ:Operand->Value)(x:Option Operand)(d:Int):Option Int:=
 match x with
 |none=>some d
 |some x=>match ρ x with
  | .int _ i=>some i
  |_=>none
def iq(a:Option Addr):Prop:=∀x,a=some x->x.spot=none
def Pb(P:Program)(e:TypeId)(base:Option Addr)(n cap:Nat)(xb:Option Addr)(m:Nat)(u:UW)(K:Option Addr->Nat->Nat->UW->Prop):Prop:=
 ∃(size bytes:Nat) (zero:List Value) (Cw new:List Value),
  (P.info? e).map (λi=>(i.size,i.bytes,i.zero.map λz=>z.cells.toList))=some (size,bytes,some zero)/\
  (m=0->new=[])/\(m≠0->bH xb λb o=>rd u.heap b o (m*size)=some new)/\
  (n=0->Cw=[])/\(n≠0->bH base λb o=>rd u.heap b o (n*size)=some Cw)/\
  n<=cap/\(n+m)*bytes<=140737488355328/\n+m<4611686018427387904/\zero.length=size/\(∀v∈new,one v=true)/\
  (n+m<=cap->(m=0/\K base n cap u)\/(m≠0/\bH base λb o=>tX b (o+n*size) new u λu'=>K base (n+m) cap u'))/\
  (cap<n+m->∀(c b:Nat) (rest:List Value) (w':World),n+m<=c->rest.length=(c-(n+m))*size->rl u.toWorld w' b (.cells (Cw++new++rest).toArray e (0,0))->
   K (some ⟨b,0,none⟩) (n+m) c (u.born b w'))
def nc(ρ:Operand->Value):List Operand->Option (IntKind×List Int)
 |[]=>none
 |[x]=>match ρ x with| .int k i=>some (k,[i])|_=>none
 |x::l=>match ρ x,nc ρ l with
  | .int k i,some (k',is)=>bif decide (k=k')then some (k,i::is)else none
  |_,_=>none
def Ld(P:Program)(fs:Array Field):List (Nat×Value)->List Value->Option (List Value)
 |[],cs=>some cs
 |(i,v)::ps,cs=>match fs[i]? with
  |some f=>bif beq v.cells.size (P.cellsOf f.type)&&ble (f.offset+v.cells.size) cs.length&&(P.info? f.type).isSome then
    Ld P fs ps (cs.take f.offset++v.cells.toList++cs.drop (f.offset+v.cells.size))else none
  |none=>none
def oQ(size:Nat):Nat->List (Nat×Value)->Option (List Value)
 |_,[]=>some []
 |i,(j,v)::ps=>bif beq i j&&beq v.cells.size size then(match oQ size (i+1) ps with|some l=>some (v.cells.toList++l)|none=>none)else none
def Wx(P:Program)(t:TypeId)(ps:List (Nat×Value)):Option (List Value):=
 match(P.info? t).bind (·.zero),P.underlying t with
 |some z,some (.struct fs)=>bif fs.toList.all λf=>(P.info? f.type).isSome then Ld P fs ps z.cells.toList else none
 |some z,some (.array len e)=>bif (P.info? e).isSome&&beq ps.length len&&beq z.cells.size (len*P.cellsOf e)then oQ (P.cellsOf e) 0 ps else none
 |_,_=>none
def OQ(P:Program)(e:TypeId)(off:Nat)(cs:List Value):Option Value:=
 bif (P.underlying e).isSome&&ble (off+P.cellsOf e) cs.length then(bif dq P e then some (.agg ((cs.drop off).take (P.cellsOf e)).toArray)else cs[off]?)else none
def CM(P:Program)(t:TypeId)(f:Nat)(cs:List Value):Option Value:=
 match P.underlying t with
 |some (.struct fs)=>match fs[f]? with
  |some x=>bif (P.underlying x.type).isSome&&ble (x.offset+P.cellsOf x.type) cs.length then
    (bif dq P x.type then some (.agg ((cs.drop x.offset).take (P.cellsOf x.type)).toArray)else cs[x.offset]?)else none
  |none=>none
 |_=>none
def W1b(E:Env)(o:Oper)(st:St)(w:UW)(b:Builtin)(args:List Operand)(ts:List TypeId)(K:St->UW->Prop):Prop:=
 match b,args,ts with
 | .len,[x],[t]=>match E.P.underlying t,ev st.σ x with
   |some (.slice _),.slice _ n _=>K (fin o st (.int .i64 n)) w
   |some .string,.string s=>K (fin o st (.int .i64 s.size)) w
   |some (.array n _),v=>bif plain v then K (fin o st (.int .i64 n)) w else False
   |_,_=>False
 | .append,[x,y],[t,t']=>match E.P.underlying t,E.P.underlying t',ev st.σ x,ev st.σ y with
   |some (.slice e),some (.slice _),.slice base n cap,.slice xb m _=>Pb E.P e base n cap xb m w λa n' c' w'=>K (fin o st (.slice a n' c')) w'
   |_,_,_,_=>False
 | .min,xs,_=>match nc (ev st.σ) xs with
   |some (k,i::is)=>K (fin o st (.int k (is.foldl (λx y=>if y<x then y else x) i))) w
   |_=>False
 | .max,xs,_=>match nc (ev st.σ) xs with
   |some (k,i::is)=>K (fin o st (.int k (is.foldl (λx y=>if y>x then y else x) i))) w
   |_=>False
 |_,_,_=>False
def W1(E:Env)(fz:List Nat)(o:Oper)(st:St)(w:UW)(K:St->UW->Prop):Prop:=
 let ρ:=ev st.σ
 match o.op with
 | .move x| .assign x=>K (fin o st (ρ x)) w
 | .pick c a b=>match ρ c with
   | .bool t=>ab t (K (fin o st (ρ a)) w) (K (fin o st (ρ b)) w)
   |_=>False
 | .alloc t=>match(E.P.info? t).bind (·.zero)with
   |none=>False
   |some z=>match o.dst with
    |none=>False
    |some k=>bif cK E.fj k then
      (bif !nL st.D k&& !cK fz k&&eG z.cells.toList&&ble z.cells.size 65536 then
       K {st with σ:=rn (i_ st.σ k (dM k 0)) k 0 z.cells.toList,D:=(k,z.cells.size)::st.D} w else False)
     else ∀(b:Nat) (w':World),rl w.toWorld w' b (.cells z.cells t (0,0))->K (fin o st (.pointer (some ⟨b,0,none⟩))) (w.born b w')
 | .box t x=>bif plain (ρ x)then match o.dst with
   |none=>False
   |some k=>bif cK E.fj k then
     (bif !nL st.D k&& !cK fz k&&eG (ρ x).cells.toList&&ble (ρ x).cells.size 65536 then
      K {st with σ:=rn (i_ st.σ k (dM k 0)) k 0 (ρ x).cells.toList,D:=(k,(ρ x).cells.size)::st.D} w else False)
    else ∀(b:Nat) (w':World),rl w.toWorld w' b (.cells (ρ x).cells t (0,0))->K (fin o st (.pointer (some ⟨b,0,none⟩))) (w.born b w')
   else False
 | .build t ps=>bif ps.toList.all λp=>plain (ρ p.2)then match Wx E.P t (ps.toList.map λp=>(p.1,ρ p.2))with
   |some vs=>K (fin o st (.agg vs.toArray)) w
   |none=>False else False
 | .buildSlice t len ps=>bif (ps.toList.all λp=>plain (ρ p.2))&&beq ps.toList.length len then match vH E.P t with
   |none=>False
   |some e=>match oQ (E.P.cellsOf e) 0 (ps.toList.map λp=>(p.1,ρ p.2))with
    |some vs=>bif ble vs.length 65536&&((E.P.info? e).bind (·.zero)).isSome&& !Nat.beq (E.P.cellsOf e) 0 then
      ∀(b:Nat) (w':World),rl w.toWorld w' b (.cells vs.toArray e (0,0))->K (fin o st (.slice (some ⟨b,0,none⟩) len len)) (w.born b w')else False
    |none=>False else False
 | .load t x=>match kinds E.P t with
   |none=>False
   |some ks=>match ρ x with
    | .complex .f64 k off=>match eX st.D k with
      |some m=>bif ble (off+ks.length) m&&eG (wR st.σ k off ks.length)then K (fin o st (Fb (dq E.P t) (wR st.σ k off ks.length))) w else False
      |none=>False
    |v=>dL v λb off=>exL ks λvs=>rd w.heap b off ks.length=some vs/\K (fin o st (Fb (dq E.P t) vs)) w
 | .store t x y=>bif plain (ρ y)&&beq (ρ y).cells.size (E.P.cellsOf t)&&eG (ρ y).cells.toList&&(E.P.info? t).isSome then match ρ x with
   | .complex .f64 k off=>match eX st.D k with
     |some m=>bif ble (off+(ρ y).cells.size) m&& !cK fz k then K {st with σ:=put (rn st.σ k off (ρ y).cells.toList) o.dst undef} w else False
     |none=>False
   |v=>dL v λb off=>tX b off (ρ y).cells.toList w λw'=>K (fin o st undef) w'
   else False
 | .nilCheck x=>match ρ x with
   | .complex .f64 k off=>K (fin o st (dM k off)) w
   | .pointer a=>nn a (K (fin o st (.pointer a)) w)
   | .func f a b=>Bq f (K (fin o st (.func f a b)) w)
   |_=>False
 | .binOp op t x y _=>pM E.P op t (ρ x) (ρ y) λv=>K (fin o st v) w
 | .unOp op _ x=>match op,ρ x with
   | .not,.bool b=>K (fin o st (.bool (!b))) w
   | .neg,.int k n=>K (fin o st (.int k (k.wrap (0-n)))) w
   |_,_=>False
 | .convert src dst x=>bif plain (ρ x)then match pv E.P (convert src dst (ρ x))with
   |some v=>bif plain v then K (fin o st v) w else False
   |none=>False else False
 | .makeInterface t x=>bif plain (ρ x)then match pv E.P (Instr.makeInterface t (ρ x))with
   |some v=>bif plain v then K (fin o st v) w else False
   |none=>False else False
 | .makeSlice t x y=>match E.P.underlying t,ρ x,ρ y with
   |some (.slice e),.int _ i,.int _ j=>match(E.P.info? e).map (λi=>(i.size,i.bytes,i.zero.map λz=>z.cells.toList))with
    |some (size,bytes,some zero)=>bif beq zero.length size&& !Nat.beq size 0 then
      0<=i/\i<=j/\j<4611686018427387904/\j.toNat*bytes<=140737488355328/\
      ∀(b:Nat) (w':World),rl w.toWorld w' b (.cells (List.replicate j.toNat zero).flatten.toArray e (0,0))->K (fin o st (.slice (some ⟨b,0,none⟩) i.toNat j.toNat)) (w.born b w')else False
    |_=>False
   |_,_,_=>False
 | .makeFunc fn first captured=>bif first.toList.all (λx=>plain (ρ x))&&captured.toList.all (λx=>plain (ρ x))then
   K (fin o st (.func fn (first.toList.map ρ).toArray (captured.toList.map ρ).toArray)) w else False
 | .slice t x lo hi mx=>match E.P.underlying t,ρ x with
   |some (.slice e),.slice a len cap=>match dA ρ lo 0,dA ρ hi len,dA ρ mx cap with
    |some l,some h,some m=>(bif (mx.isSome&&hi.isNone)||(E.P.info? e).isNone then False else(m.toNat=l.toNat\/iq a)/\0<=l/\l<=h/\h<=m/\m<=cap/\K (fin o st (.slice (yZ a l.toNat m.toNat (E.P.cellsOf e)) (h.toNat-l.toNat) (m.toNat-l.toNat))) w)
    |_,_,_=>False
   |some .string,.string s=>match mx with
    |some _=>False
    |none=>match dA ρ lo 0,dA ρ hi s.size with
     |some l,some h=>0<=l/\l<=h/\h<=s.size/\K (fin o st (.string (s.extract l.toNat h.toNat))) w
     |_,_=>False
   |_,_=>False
 | .fieldAddr t x f=>match CO E.P t f with
   |none=>False
   |some d=>match ρ x with
    | .complex .f64 k off=>K (fin o st (dM k (off+d))) w
    |v=>dL v λb off=>K (fin o st (.pointer (some ⟨b,off+d,none⟩))) w
 | .field t x f=>match ρ x with
   | .agg cs=>match CM E.P t f cs.toList with
     |some v=>bif plain v then K (fin o st v) w else False
     |none=>False
   |_=>False
 | .indexAddr t x i=>match E.P.underlying t,ρ x,ρ i with
   |some (.slice e),.slice a len _,.int _ j=>bif (E.P.info? e).isSome then bH a λb off=>0<=j/\j<len/\K (fin o st (.pointer (some ⟨b,off+j.toNat*E.P.cellsOf e,none⟩))) w else False
   |some (.array len e),.complex .f64 k off,.int _ j=>bif decide (0<=j)&&decide (j<len)&&(E.P.info? e).isSome then K (fin o st (dM k (off+j.toNat*E.P.cellsOf e))) w else False
   |_,_,_=>False
 | .index t x i=>match E.P.underlying t,ρ x,ρ i with
   |some .string,.string s,.int _ j=>0<=j/\∃c:UInt8,s[j.toNat]?=some c/\K (fin o st (.int .u8 c.toNat)) w
   |some (.array len e),.agg cs,.int _ j=>0<=j/\j<len/\(E.P.info? e).isSome=true/\∃v,OQ E.P e (j.toNat*E.P.cellsOf e) cs.toList=some v/\plain v=true/\K (fin o st v) w
   |_,_,_=>False
 | .extract x i=>match ρ x with
   | .tuple vs=>match vs[i]? with
     |some v=>bif plain v then K (fin o st v) w else False
     |none=>False
   |_=>False
 | .call c=>match c.callee with
   | .builtin b=>W1b E o st w b c.args.toList c.argTypes.toList K
   | .value f=>bif c.args.toList.all (λx=>plain (ρ x))then
     pz E.P (ρ f) (c.args.toList.map ρ) w λv w'=>PO E.P o.type λv'=>v=v'/\K (fin o st v') w' else False
   | .invoke x name=>bif c.args.toList.all (λx=>plain (ρ x))then match ρ x with
     | .iface t r=>match pv E.P (method (E.P.types.size+Made.depth) t r name)with
       |some (g,r')=>bif dg E.P g then oc E.P g (r'::c.args.toList.map ρ).toArray w λv w'=>PO E.P o.type λv'=>v=v'/\K (fin o st v') w' else False
       |none=>False
     |_=>False else False
 |_=>False
def sized(P:Program)(e:TypeId):Bool:=match P.info? e with|some i=> !Nat.beq i.size 0|none=>false
def JT(P:Program)(t:TypeId)(x y:Value)(w:UW)(K:Bool->Prop):Prop:=
 match x,y with
 | .pointer (some ⟨b,o,none⟩),.pointer (some ⟨b',o',none⟩)=>match P.underlying t with
   |some (.pointer e)=>bif sized P e then
     (∃(c:Array Value) (T:TypeId),w.heap[b]?=some (.cells c T (0,0))/\c.size≠0)/\(∃(c:Array Value) (T:TypeId),w.heap[b']?=some (.cells c T (0,0))/\c.size≠0)/\K (beq b b'&&beq o o')else False
   |_=>False
 |_,_=>False
def vR(x y:Value):Bool:=match x,y with| .pointer (some _),.pointer (some _)=>true|_,_=>false
def WJ(E:Env)(fz:List Nat)(o:Oper)(st:St)(w:UW)(K:St->UW->Prop):Prop:=
 match o.op with
 | .binOp .eql t x y _=>bif vR (ev st.σ x) (ev st.σ y)then JT E.P t (ev st.σ x) (ev st.σ y) w λr=>K (fin o st (.bool r)) w else W1 E fz o st w K
 |_=>W1 E fz o st w K
def pn(ops:Array Oper)(j:Nat):Option Nat:=(ops[j]?).bind (·.dst)
def Wl(E:Env)(fz:List Nat)(ops:Array Oper)(Q:St->UW->Prop):List Oper->St->UW->Prop
 |[],st,w=>Q st w
 |o::l,st,w=>match o.guard with
  |none=>WJ E fz o st w λbT w'=>Wl E fz ops Q l bT w'
  |some (j,b)=>match pn ops j with
   |none=>False
   |some g=>match st.σ g with
    | .bool c=>ab c
      ((λeQ=>ab b (W1 E fz o eQ w λbT w'=>Wl E fz ops Q l bT w') (Wl E fz ops Q l (fin o eQ undef) w)) {st with σ:=i_ st.σ g (.bool true)})
      ((λeQ=>ab b (Wl E fz ops Q l (fin o eQ undef) w) (W1 E fz o eQ w λbT w'=>Wl E fz ops Q l bT w')) {st with σ:=i_ st.σ g (.bool false)})
    | .tuple _=>Wl E fz ops Q l (fin o st undef) w
    |_=>False
def bw(o:Oper):Bool:=
 match o.op with
 | .move _| .assign _| .pick .. | .build .. | .load .. | .binOp .. | .unOp .. | .convert .. | .makeInterface .. | .makeFunc .. | .slice .. | .fieldAddr .. | .field .. | .indexAddr .. | .index .. | .extract .. | .nilCheck _=>true
 | .call ⟨.builtin .len,_,_⟩| .call ⟨.builtin .min,_,_⟩| .call ⟨.builtin .max,_,_⟩=>true
 |_=>false
def reads(o:Oper):Bool:=
 match o.op with
 | .load _ _=>true
 |_=>false
def Av(ops:Array Oper)(i:Nat):Bool:=match ops[i]? with|some o=>reads o|none=>false
def sy(ops:Array Oper)(j:Nat):List Nat:=
 match ops[j]? with
 |none=>[]
 |some o=>(o.after.toList.filter λe=>Region.binds .any e).map (·.on)
def yp(ops:Array Oper):Nat->List Nat->List Nat
 |0,S=>S
 |i+1,S=>yp ops i (bif cK S i then sy ops i++S else S)
def TD(ops:Array Oper)(j:Nat):List Nat:=yp ops ops.size (sy ops j)
def Rr(ops:Array Oper)(j:Nat)(S:List Nat):Bool:=
 (range ops.size).any λx=> !Nat.beq x j&&Av ops x&& !cK S x
def late(ops:Array Oper)(j:Nat):Bool:=Rr ops j (TD ops j)
def qD(o:Oper):Bool:=match o.op with| .alloc _| .box _ _| .buildSlice _ _ _=>true|_=>false
def E_(ops:Array Oper)(i:Nat):Bool:=match ops[i]? with|some o=>qD o|none=>false
def qJ(ops:Array Oper)(j:Nat):Bool:=late ops j&& !E_ ops j
inductive jg where
 |nil
 |tk (i:Nat) (p:jg)
 |ef (i:Nat) (p:jg)
 |SG (i:Nat) (p:jg) (j:Nat) (q:jg)
 |SF (i:Nat) (p:jg) (j:Nat) (q:jg) (k:Nat) (r:jg)
def dN(ops:Array Oper):jg->Bool
 | .nil=>false
 | .tk i p=>Av ops i||dN ops p
 | .ef _ p=>dN ops p
 | .SG _ p _ q=>dN ops p||dN ops q
 | .SF _ p _ q _ r=>dN ops p||dN ops q||dN ops r
def bM(ops:Array Oper):jg->Bool
 | .nil=>false
 | .tk _ p=>bM ops p
 | .ef i p=>qJ ops i||bM ops p
 | .SG i p j q=>(qJ ops i||bM ops p)||(qJ ops j||bM ops q)
 | .SF i p j q k r=>(qJ ops i||bM ops p)||(qJ ops j||bM ops q)||(qJ ops k||bM ops r)
def iV(ops:Array Oper)(af:Array Bool):List Nat->Option Nat
 |[]=>none
 |i::l=>bif (match ops[i]? with|some o=>bw o|none=>false)&&Region.free .any ops af i then some i else iV ops af l
def bK(ops:Array Oper)(i:Nat)(p:jg):Bool:=qJ ops i||(E_ ops i||(!dN ops p&& !bM ops p))
def eE(ops:Array Oper):Nat->Array Bool->Option jg
 |0,af=>match Region.ready .any ops af with
  |[]=>some .nil
  |_=>none
 |f+1,af=>match Region.ready .any ops af with
  |[]=>some .nil
  |i::rs=>match iV ops af (i::rs)with
   |some j=>match eE ops f (af.setIfInBounds j true)with
    |some p=>some (.tk j p)
    |none=>none
   |none=>match rs with
    |[]=>match eE ops f (af.setIfInBounds i true)with
     |some p=>bif bK ops i p then some (.ef i p)else none
     |none=>none
    |[j]=>match eE ops f (af.setIfInBounds i true),eE ops f (af.setIfInBounds j true)with
     |some p,some q=>bif bK ops i p&&bK ops j q then some (.SG i p j q)else none
     |_,_=>none
    |[j,k]=>match eE ops f (af.setIfInBounds i true),eE ops f (af.setIfInBounds j true),eE ops f (af.setIfInBounds k true)with
     |some p,some q,some r=>bif bK ops i p&&bK ops j q&&bK ops k r then some (.SF i p j q k r)else none
     |_,_,_=>none
    |_=>none
def im(fj:List Nat)(o:Oper):Bool:=
 match o.op,o.dst with
 | .alloc _,some k| .box _ _,some k=>cK fj k
 |_,_=>false
def tw(ops:Array Oper):Option jg:=
 bif Region.noSelect ops then eE ops ops.size (replicate ops.size false)else none
def kX(ops:Array Oper)(j:Nat):Bool:=match ops[j]? with|some o=>bw o||qD o|none=>false
def Nl(ops:Array Oper)(af:Array Bool)(dh:List Nat):Bool:=
 (range ops.size).all λh=>af.getD h true||(kX ops h||(TD ops h).any λx=>cK dh x)
inductive iF where
 |nil
 |tk (i:Nat) (q:iF)
 |ld (i:Nat) (q r:iF)
 |alt (i:Nat) (q r:iF)
 |done
def Uo(ops:Array Oper)(i:Nat)(d:Bool):Bool:=match ops[i]? with|some o=>bw o|none=>d
def zW(ops:Array Oper)(af:Array Bool)(dh:List Nat):List Nat->Option Nat
 |[]=>none
 |i::l=>bif (match ops[i]? with|some o=>bw o&&(!reads o||Nl ops af (i::dh))|none=>false)&&(Region.free .any ops af i&& !cK dh i)then some i else zW ops af dh l
def AU(ops:Array Oper)(af:Array Bool)(dh:List Nat):List Nat->Option Nat
 |[]=>none
 |i::l=>bif (match ops[i]? with|some o=>bw o|none=>false)&&(Region.free .any ops af i&& !cK dh i)then some i else AU ops af dh l
def yT(ops:Array Oper)(dh:List Nat)(f:Nat->Option iF):List Nat->Option iF
 |[]=>some .done
 |i::l=>bif cK dh i then yT ops dh f l else
  bif Uo ops i true then none else match f i with
  |none=>none
  |some q=>match yT ops dh f l with
   |none=>none
   |some r=>some (.alt i q r)
def lG(ops:Array Oper):Nat->Array Bool->List Nat->Option iF
 |0,_,_=>none
 |g+1,af,dh=>match Region.ready .any ops af with
  |[]=>some .nil
  |l=>match zW ops af dh l with
   |some j=>match lG ops g (af.setIfInBounds j true) dh with
    |some q=>some (.tk j q)
    |none=>none
   |none=>match AU ops af dh l with
    |some j=>match lG ops g (af.setIfInBounds j true) dh,lG ops g af (j::dh)with
     |some q,some r=>some (.ld j q r)
     |_,_=>none
    |none=>yT ops dh (λi=>lG ops g (af.setIfInBounds i true) (bif kX ops i then dh else[])) l
def oB(ops:Array Oper):Option iF:=
 bif Region.noSelect ops then lG ops (2*(ops.size*ops.size)+2) (replicate ops.size false) []else none
def isQ(fj:List Nat)(id:Nat):Bool:=cK fj (1000000+id)
def rW(u0 u:UW):Prop:=Below u0.heap.size u0.toWorld u.toWorld
def guarded(ops:Array Oper)(o:Oper)(st:St)(act skip:St->Prop):Prop:=
 match o.guard with
 |none=>act st
 |some (j,b)=>match pn ops j with
  |none=>False
  |some g=>match st.σ g with
   | .bool c=>ab c
     ((λeQ=>ab b (act eQ) (skip eQ)) {st with σ:=i_ st.σ g (.bool true)})
     ((λeQ=>ab b (skip eQ) (act eQ)) {st with σ:=i_ st.σ g (.bool false)})
   | .tuple _=>skip st
   |_=>False
def stepT(E:Env)(fz:List Nat)(ops:Array Oper)(u0:UW)(i:Nat)(st:St)(K:St->Prop):Prop:=
 match ops[i]? with
 |none=>False
 |some o=>guarded ops o st (λeQ=>W1 E fz o eQ u0 λbT _=>K bT) (λeQ=>K (fin o eQ undef))
def su(E:Env)(fz:List Nat)(ops:Array Oper)(u0:UW)(i:Nat)(st:St)(u:UW)(K:St->UW->Prop):Prop:=
 match ops[i]? with
 |none=>False
 |some o=>bif im E.fj o then False else guarded ops o st
   (λeQ=>bif qJ ops i then W1 E (fz++eQ.D.map (·.1)) o eQ u (λbT u'=>rW u0 u'/\K bT u')else W1 E fz o eQ u K)
   (λeQ=>K (fin o eQ undef) u)
def Wd(E:Env)(fz:List Nat)(ops:Array Oper)(u0:UW)(Q:St->UW->Prop):jg->St->UW->Prop
 | .nil,st,u=>Q st u
 | .tk i p,st,u=>stepT E fz ops u0 i st λbT=>Wd E fz ops u0 Q p bT u
 | .ef i p,st,u=>su E fz ops u0 i st u λbT u'=>Wd E fz ops u0 Q p bT u'
 | .SG i p j q,st,u=>(su E fz ops u0 i st u λbT u'=>Wd E fz ops u0 Q p bT u')/\(su E fz ops u0 j st u λbT u'=>Wd E fz ops u0 Q q bT u')
 | .SF i p j q k r,st,u=>(su E fz ops u0 i st u λbT u'=>Wd E fz ops u0 Q p bT u')/\(su E fz ops u0 j st u λbT u'=>Wd E fz ops u0 Q q bT u')/\(su E fz ops u0 k st u λbT u'=>Wd E fz ops u0 Q r bT u')
def LI(E:Env)(fz:List Nat)(ops:Array Oper)(i:Nat)(st:St)(u:UW)(K:St->UW->Prop):Prop:=
 match ops[i]? with
 |none=>False
 |some o=>guarded ops o st (λeQ=>W1 E fz o eQ u K) (λeQ=>K (fin o eQ undef) u)
def Wq(E:Env)(fz:List Nat)(ops:Array Oper)(Q:St->UW->Prop):iF->St->UW->Prop
 | .nil,st,u=>Q st u
 | .tk i q,st,u=>stepT E fz ops u i st λbT=>Wq E fz ops Q q bT u
 | .ld i q r,st,u=>(stepT E fz ops u i st λbT=>Wq E fz ops Q q bT u)/\Wq E fz ops Q r st u
 | .alt i q r,st,u=>(LI E fz ops i st u λbT u'=>Wq E fz ops Q q bT u')/\Wq E fz ops Q r st u
 | .done,_,_=>True
def fI:Code->Option Nat
 | .region id _ _=>some id
 | .seq a b=>match fI a with|some i=>some i|none=>fI b
 | .cond _ a b=>match fI a with|some i=>some i|none=>fI b
 | .block _ a=>fI a
 | .loop a=>fI a
 | .scope a=>fI a
 | .rangeFunc _ _ a b=>match fI a with|some i=>some i|none=>fI b
 |_=>none
def writes:Code->List Nat
 | .region _ ops _=>ops.toList.filterMap (·.dst)
 | .seq a b=>writes a++writes b
 | .cond _ a b=>writes a++writes b
 | .block _ a=>writes a
 | .loop a=>writes a
 | .scope a=>writes a
 |_=>[]
def Um(c:Cut)(J:Tup c.live->UW->Prop)(st:St)(w:UW):Prop:=
 bif kU st c.fJ then(match fZ st c.live with
  |some s=>J s w
  |none=>False)else False
def KM(c:Cut)(k:Nat):Bool:=
 (c.live.any λx=>match x with|(t,.box _)=>beq t k|_=>false)||c.fJ.any λx=>beq x.1 k
def freeze(fz:List Nat)(D:List (Nat×Nat))(c:Cut):List Nat:=
 fz++(D.map (·.1)).filter λk=> !KM c k
def ss(next:St->UW->Prop)(Q:Exit->St->UW->Prop):Exit->St->UW->Prop
 | .normal,st,w=>next st w
 |e,st,w=>Q e st w
def xM(id:Nat)(Q:Exit->St->UW->Prop):Exit->St->UW->Prop
 | .exit i,st,w=>bif beq i id then Q .normal st w else Q (.exit i) st w
 |e,st,w=>Q e st w
def oC(fz:List Nat)(D:List (Nat×Nat))(c:Cut):Bool:=
 (c.live.all λx=>match x with|(t,.box ks)=> !cK fz t&&blt t 65536&&ble ks.length 65536|(t,_)=>blt t 65536&& !nL D t)&&c.fJ.all λx=> !cK fz x.1&&blt x.1 65536&&ir D x.1 x.2
def jJ:Code->List Nat
 | .exit i=>[i]
 | .seq a b=>jJ a++jJ b
 | .cond _ a b=>jJ a++jJ b
 | .block id a=>(jJ a).filter λi=> !Nat.beq i id
 | .loop a=>jJ a
 | .scope a=>jJ a
 | .rangeFunc _ _ _ b=>jJ b
 |_=>[]
def lR:Code->Bool
 | .ret=>true
 | .seq a b=>lR a||lR b
 | .cond _ a b=>lR a||lR b
 | .block _ a=>lR a
 | .loop a=>lR a
 | .scope a=>lR a
 | .rangeFunc _ _ _ b=>lR b
 |_=>false
def Lz:List Nat->List Nat
 |[]=>[]
 |x::l=>bif cK l x then Lz l else x::Lz l
def HI:List (Nat×Prop)->Nat->Prop
 |[],_=>False
 |(k,A)::l,i=>bif beq k i then A else HI l i
def PK(p:Option Code)(A B:Prop)(l:List (Nat×Prop)):Prop:=
 match p with
 |none=>A
 |some .ret=>B
 |some (.exit i)=>HI l i
 |_=>False
def Ra(K:St->UW->Prop):Exit->St->UW->Prop
 | .normal,st,u=>K st u
 |_,_,_=>False
def JN(R:Option Code->UW->Prop):Exit->St->UW->Prop
 | .normal,_,u=>R none u
 | .ret,_,u=>R (some .ret) u
 | .exit i,_,u=>R (some (.exit i)) u
 |_,_,_=>False
def y_(σ:Fr):Fr:=λt=>match σ t with| .complex _ _ _=>aV|v=>v
def uP(σ:Fr):List Nat->List Value->Fr
 |p::ps,v::vs=>uP (i_ σ p v) ps vs
 |_,_=>σ
def W(E:Env):List Nat->Code->(Exit->St->UW->Prop)->St->UW->Prop
 |_,.skip,Q,st,w=>Q .normal st w
 |_,.ret,Q,st,w=>Q .ret st w
 |_,.exit i,Q,st,w=>Q (.exit i) st w
 |fz,.region _ ops false,Q,st,w=>Wl E fz ops (Q .normal) ops.toList st w
 |fz,.region id ops true,Q,st,w=>bif E.P.follows .mixedOrders then(bif isQ E.fj id then(match oB ops with
  |some p=>Wq E fz ops (Q .normal) p st w
  |none=>False)else match tw ops with
  |some p=>Wd E fz ops w (Q .normal) p st w
  |none=>False)else False
 |fz,.seq a b,Q,st,w=>match(fI b).bind (look E.jl)with
  |none=>W E fz a (ss (λbT w'=>W E fz b Q bT w') Q) st w
  |some l=>bif oC fz st.D l then bZ (λJ=>W E (freeze fz st.D l) a (ss (Um l J) Q) st w) (λs w'=>W E fz b Q (mix st (writes a) l s) w')else False
 |fz,.cond c a b,Q,st,w=>match ev st.σ c with
  | .bool t=>ab t (W E fz a Q st w) (W E fz b Q st w)
  |_=>False
 |fz,.block id a,Q,st,w=>W E fz a (xM id Q) st w
 |fz,.loop a,Q,st,w=>match(fI a).bind (look E.loops)with
  |none=>False
  |some l=>bif oC fz st.D l then Um l (ao λnext s w'=>W E (freeze fz st.D l) a (ss (Um l next) Q) (mix st (writes a) l s) w') st w else False
 |_,.rangeFunc f ps assign body,Q,st,w=>match look E.rR (ps.toList.headD 0)with
  |none=>False
  |some ts=>bif beq ts.length ps.toList.length then
    TP E.P (ev st.σ f) (λvs R u=>KK E.P ts λo_=>vs=o_/\W E [] assign (Ra λeQ u1=>W E [] body (JN R) eQ u1) ⟨uP (y_ st.σ) ps.toList o_,[]⟩ u)
     (λp u=>PK p (Q .normal st u) (bif lR body then Q .ret st u else False) ((Lz (jJ body)).map λi=>(i,Q (.exit i) st u))) w
   else False
 |_,_,_,_,_=>False
def II(args:List Value):Fr:=λt=>(args[t]?).getD undef
def te(P:Program)(st:St)(w:UW):List ResultVar->(List Value->Prop)->Prop
 |[],F=>F []
 | .tmp t::l,F=>bif plain (st.σ t)then te P st w l λvs=>F (st.σ t::vs)else False
 | .cell a t::l,F=>match kinds P t with
   |none=>False
   |some ks=>match st.σ a with
    | .complex .f64 k off=>match eX st.D k with
      |some m=>bif ble (off+ks.length) m&&eG (wR st.σ k off ks.length)then te P st w l λvs=>F (Fb (dq P t) (wR st.σ k off ks.length)::vs)else False
      |none=>False
    |v=>dL v λb off=>exL ks λus=>rd w.heap b off ks.length=some us/\te P st w l λvs=>F (Fb (dq P t) us::vs)
def Nq(R:Value->UW->Prop)(w:UW):List Value->Prop
 |[v]=>R v w
 |vs=>R (.tuple vs.toArray) w
def agm(P:Program)(rs:List ResultVar)(R:Value->UW->Prop):Exit->St->UW->Prop
 | .ret,st,w=>te P st w rs (Nq R w)
 | .normal,st,w=>te P st w rs (Nq R w)
 |_,_,_=>False
def WF(P:Program)(n:Nat)(fj:List Nat)(loops jl:List (Nat×Cut))(rR:List (Nat×List TypeId))(c:Code)(rs:List ResultVar)(args:List Value)(w:UW)(R:Value->UW->Prop):Prop:=
 W ⟨P,n,fj,loops,jl,rR⟩ [] c (agm P rs R) ⟨II args,[]⟩ w
theorem Below.Qc{B:Nat}{w w':World}(h:Below B w w')(hB:w.heap.size<=B)(F:Nat->Prop):Mod F w w':=
 ⟨h.os,h.tape,h.output,h.size,λb hb _=>h.block b (by omega)⟩
theorem Mod.trans{F:Nat->Prop}{a b c:World}(h:Mod F a b)(k:Mod F b c):Mod F a c:=
 ⟨k.os.trans h.os,k.tape.trans h.tape,k.output.trans h.output,le_trans h.size k.size,
  λi hi hn=>(k.cu i (lt_of_lt_of_le hi h.size) hn).trans (h.cu i hi hn)⟩
structure Ctx where
 n:Nat
 w0:World
 w1:World
 F:Nat->Prop
 ro:Option (Nat×Loop):=none
structure Hid(u:UW)(wa:World)(b:Nat)(o:Obj):Prop where
 at_:wa.heap[b]?=some o
 other:o.isCells=false
 gj:¬u.gj b
 mask:b<u.heap.size->u.heap[b]?=some cT
theorem Hid.world{u u':UW}{wa wb:World}{F:Nat->Prop}{b:Nat}{o:Obj}(h:Hid u wa b o)(hF:∀b,F b->u.gj b)(hm:Mod F wa wb)(RC:Mod F u.toWorld u'.toWorld)
  (OC:∀b,u.heap.size<=b->b<wa.heap.size->b<u'.heap.size->u'.heap[b]?=some cT) (hold:∀b,u'.gj b->b<wa.heap.size->u.gj b):Hid u' wb b o:=by
 have bG:b<wa.heap.size:=(Array.getElem?_eq_some_iff.1 h.at_).1;refine⟨(hm.cu _ bG (λhf=>h.gj (hF _ hf))).trans h.at_,h.other,λhp=>h.gj (hold _ hp bG),λhl=>?_⟩;by_cases hu:b<u.heap.size
 ·rw[RC.cu _ hu (λhf=>h.gj (hF _ hf))];exact h.mask hu
 ·exact OC _ (by omega) bG hl
structure Marks(C:Ctx)(ds:List Deferred)(wa:World)(u:UW):Prop where
 each:∀d∈ds,∃r,d={target:=.collected r,args:= #[]}/\C.w1.heap.size<=r/\Hid u wa r (.deferred (some []))
 nodup:ds.Nodup
structure Inv(C:Ctx)(a:Act)(wa:World)(st:St)(u:UW)(θ:Nat->Nat):Prop where
 size:a.tmps.size=C.n
 jc:C.n<=65536
 defers:Marks C a.defers wa u
 round:∀l r,C.ro=some (l,r)->Hid u wa l (.loop r)
 iN:∀t,t<C.n->R θ (st.σ t) (a.tmps.getD t undef)
 below:xT u.toWorld wa
 boxes:∀k m,(k,m)∈st.D->m<=65536/\∃c T,wa.heap[θ k]?=some (.cells c T (0,0))/\c.size=m/\(∀j,j<m->R θ (st.σ (gx k j)) (c.getD j undef))/\¬u.gj (θ k)/\C.w1.heap.size<=θ k/\(θ k<u.heap.size->u.heap[θ k]?=some cT)
 inj:∀k m k' m',(k,m)∈st.D->(k',m')∈st.D->θ k=θ k'->k=k'/\m=m'
 jo:∀t,t<C.n->∀k o,st.σ t=dM k o->∃m,(k,m)∈st.D
 gN:∀k m,(k,m)∈st.D->∀j,j<m->∀k' o,st.σ (gx k j)≠dM k' o
 pC:∀b,u.gj b->b<wa.heap.size
 mod:Mod C.F C.w1 wa
 qp:∀b,u.gj b->b<C.w1.heap.size->C.F b
 umod:Mod C.F C.w0 u.toWorld
 Jv:C.w0.heap.size<=C.w1.heap.size
 Bj:∀b,C.w0.heap.size<=b->b<C.w1.heap.size->b<u.heap.size->u.heap[b]?=some cT
 F0:∀b,C.F b->b<C.w0.heap.size
theorem iU{k j k' j':Nat}(hj:j<65536)(Jn:j'<65536)(h:gx k j=gx k' j'):k=k'/\j=j':=by
 unfold gx at h;omega
theorem jn(k j:Nat):65536<=gx k j:=by unfold gx;omega
theorem gS{σ:Fr}{k:Nat}:∀(vs:List Value) (o t:Nat),t<65536->rn σ k o vs t=σ t:=by
 intro vs;induction vs generalizing σ with
 |nil=>intro o t _;rfl
 |cons v vs ih=>
  intro o t ht;simp only[rn];rw[ih _ _ ht,cf];have:=jn k o;omega
theorem dE{σ:Fr}{k:Nat}:∀(vs:List Value) (o i:Nat),(∀j,o<=j->j<o+vs.length->i≠gx k j)->rn σ k o vs i=σ i:=by
 intro vs;induction vs generalizing σ with
 |nil=>intro o i _;rfl
 |cons v vs ih=>
  intro o i h;simp only[rn];rw[ih _ _ (λj h1 h2=>h j (by omega) (by simp;omega)),cf];exact h o (by omega) (by simp)
theorem sR{σ:Fr}{k:Nat}:∀(vs:List Value) (o j:Nat),j<vs.length->o+vs.length<=65536->rn σ k o vs (gx k (o+j))=vs.getD j undef:=by
 intro vs;induction vs generalizing σ with
 |nil=>intro o j h;simp at h
 |cons v vs ih=>
  intro o j h hl;simp only[rn];simp only[length_cons]at h hl;cases j with
  |zero=>
   rw[dE]
   ·simp
   ·intro i h1 h2 he;have:=(iU (by omega) (by omega) he).2;omega
  |succ j=>
   have:=ih (σ:=i_ σ (gx k o) v) (o+1) j (by omega) (by omega);rw[show o+(j+1)=o+1+j from by omega,this];simp
structure aiP(n:Nat)(s t:St):Prop where
 slot:∀i,i<n->s.σ i=aV\/s.σ i=t.σ i
 D:∀k m,(k,m)∈s.D->(k,m)∈t.D/\∀j,j<m->s.σ (gx k j)=aV\/s.σ (gx k j)=t.σ (gx k j)
 jo:∀i,i<n->∀k o,s.σ i=dM k o->(∃m,(k,m)∈t.D)->∃m,(k,m)∈s.D
theorem IT(θ:Nat->Nat)(r:Value):R θ aV r:=trivial
theorem Inv.Cn{C:Ctx}{a:Act}{wa:World}{s t:St}{u:UW}{θ:Nat->Nat}(h:Inv C a wa t u θ)(hw:aiP C.n s t):Inv C a wa s u θ where
 size:=h.size
 jc:=h.jc
 defers:=h.defers
 round:=h.round
 iN:=λi hi=>by
  rcases hw.slot i hi with e|e
  ·rw[e];exact IT _ _
  ·rw[e];exact h.iN i hi
 below:=h.below
 boxes:=λk m hk=>by
  obtain⟨cj,hg⟩:=hw.D k m hk
  obtain⟨hm,c,T,h1,h2,h3,h4,h5⟩:=h.boxes k m cj
  refine⟨hm,c,T,h1,h2,λj hj=>?_,h4,h5⟩
  rcases hg j hj with e|e
  ·rw[e];exact IT _ _
  ·rw[e];exact h3 j hj
 inj:=λk m k' m' h1 h2=>h.inj k m k' m' (hw.D k m h1).1 (hw.D k' m' h2).1
 jo:=λi hi k o e=>by
  refine hw.jo i hi k o e ?_
  rcases hw.slot i hi with e'|e'
  ·rw[e]at e';cases e'
  ·exact h.jo i hi k o (e'▸e)
 gN:=λk m hk j hj k' o e=>by
  rcases(hw.D k m hk).2 j hj with e'|e'
  ·rw[e]at e';cases e'
  ·exact h.gN k m (hw.D k m hk).1 j hj k' o (e'▸e)
 pC:=h.pC
 mod:=h.mod
 qp:=h.qp
 umod:=h.umod
 Jv:=h.Jv
 Bj:=h.Bj
 F0:=h.F0
theorem vC(a:Array Value)(d t:Nat)(r:Value)(h:d<a.size):(a.setIfInBounds d r).getD t undef=if t=d then r else a.getD t undef:=by
 by_cases e:t=d
 ·subst e;simp[h]
 ·rw[if_neg e];simp[Ne.symm e]
theorem sx(a:Act)(d:Option Nat)(r:Value):(a.put d r).tmps.size=a.tmps.size:=by cases d<;>simp[Act.put]
theorem put_defers(a:Act)(d:Option Nat)(r:Value):(a.put d r).defers=a.defers:=by cases d<;>rfl
theorem Inv.fin{C:Ctx}{a:Act}{wa:World}{st:St}{u:UW}{θ:Nat->Nat}(h:Inv C a wa st u θ)(d:Option Nat)(hd:∀t,d=some t->t<C.n){v r:Value}(hr:R θ v r)
  (hf:∀k o,v=dM k o->∃m,(k,m)∈st.D):Inv C (a.put d r) wa {st with σ:=put st.σ d v} u θ where
 size:=by rw[sx];exact h.size
 jc:=h.jc
 defers:=by rw[put_defers];exact h.defers
 round:=h.round
 iN:=λt ht=>by
  cases d with
  |none=>exact h.iN t ht
  |some d=>
   simp only[Act.put,put]
   rw[vC _ _ _ _ (by rw[h.size];exact hd d rfl)]
   by_cases e:t=d
   ·subst e;simp[hr]
   ·rw[if_neg e,cf _ _ e];exact h.iN t ht
 below:=h.below
 boxes:=λk m hk=>by
  obtain⟨hm,c,T,h1,h2,h3,h4,h5⟩:=h.boxes k m hk
  refine⟨hm,c,T,h1,h2,λj hj=>?_,h4,h5⟩
  cases d with
  |none=>exact h3 j hj
  |some d=>
   simp only[put]
   have:=hd d rfl;have:=h.jc;have:=jn k j
   rw[cf _ _ (by omega)]
   exact h3 j hj
 inj:=h.inj
 jo:=λt ht k o e=>by
  cases d with
  |none=>exact h.jo t ht k o e
  |some d=>
   simp only[put]at e
   by_cases e':t=d
   ·subst e';rw[eY]at e;exact hf k o e
   ·rw[cf _ _ e']at e;exact h.jo t ht k o e
 gN:=λk m hk j hj k' o e=>by
  cases d with
  |none=>exact h.gN k m hk j hj k' o e
  |some d=>
   simp only[put]at e
   have:=hd d rfl;have:=h.jc;have:=jn k j
   rw[cf _ _ (by omega)]at e
   exact h.gN k m hk j hj k' o e
 pC:=h.pC
 mod:=h.mod
 qp:=h.qp
 umod:=h.umod
 Jv:=h.Jv
 Bj:=h.Bj
 F0:=h.F0
theorem jS{v:Value}(h:plain v=true)(k o:Nat):v≠dM k o:=by rintro rfl;simp[plain]at h
theorem Inv.cM{C:Ctx}{a:Act}{wa:World}{st:St}{u:UW}{θ:Nat->Nat}(h:Inv C a wa st u θ)(d:Option Nat)(hd:∀t,d=some t->t<C.n){v:Value}(hp:plain v=true):
  Inv C (a.put d v) wa {st with σ:=put st.σ d v} u θ:=
 h.fin d hd (oT hp) (λk o e=>absurd e (jS hp k o))
theorem Inv.world{C:Ctx}{a:Act}{wa:World}{st:St}{u:UW}{θ:Nat->Nat}(h:Inv C a wa st u θ){wb:World}{u':UW}{F:Nat->Prop}(hF:∀b,F b->u.gj b)
  (hm:Mod F wa wb) (hb:xT u'.toWorld wb) (RC:Mod F u.toWorld u'.toWorld)
  (OC:∀b,u.heap.size<=b->b<wa.heap.size->b<u'.heap.size->u'.heap[b]?=some cT)
  (hp:∀b,u'.gj b->b<wb.heap.size) (hold:∀b,u'.gj b->b<wa.heap.size->u.gj b):Inv C a wb st u' θ where
 size:=h.size
 jc:=h.jc
 defers:=⟨λd hd=>let ⟨r,e,hr,hh⟩:=h.defers.each d hd;⟨r,e,hr,hh.world hF hm RC OC hold⟩,h.defers.nodup⟩
 round:=λl r e=>(h.round l r e).world hF hm RC OC hold
 iN:=h.iN
 below:=hb
 boxes:=λk m hk=>by
  obtain⟨yB,c,T,h1,h2,h3,h4,h5,h6⟩:=h.boxes k m hk
  have bG:θ k<wa.heap.size:=(Array.getElem?_eq_some_iff.1 h1).1
  refine⟨yB,c,T,(hm.cu _ bG (λhf=>h4 (hF _ hf))).trans h1,h2,h3,λKn=>h4 (hold _ Kn bG),h5,λhl=>?_⟩
  by_cases hu:θ k<u.heap.size
  ·rw[RC.cu _ hu (λhf=>h4 (hF _ hf))];exact h6 hu
  ·exact OC _ (by omega) bG hl
 inj:=h.inj
 jo:=h.jo
 gN:=h.gN
 pC:=hp
 mod:=by
  refine⟨hm.os.trans h.mod.os,hm.tape.trans h.mod.tape,hm.output.trans h.mod.output,le_trans h.mod.size hm.size,λb hb hn=>?_⟩
  have bG:b<wa.heap.size:=lt_of_lt_of_le hb h.mod.size
  rw[hm.cu b bG (λhf=>hn (h.qp b (hF _ hf) hb))]
  exact h.mod.cu b hb hn
 qp:=λb hb bG=>h.qp b (hold b hb (lt_of_lt_of_le bG h.mod.size)) bG
 umod:=by
  refine⟨RC.os.trans h.umod.os,RC.tape.trans h.umod.tape,RC.output.trans h.umod.output,le_trans h.umod.size RC.size,λb hb hn=>?_⟩
  have bG:b<u.heap.size:=lt_of_lt_of_le hb h.umod.size
  rw[RC.cu b bG (λhf=>hn (h.qp b (hF _ hf) (lt_of_lt_of_le hb h.Jv)))]
  exact h.umod.cu b hb hn
 Jv:=h.Jv
 Bj:=λb h1 h2 h3=>by
  by_cases hu:b<u.heap.size
  ·by_cases hf:F b
   ·have:=h.Bj b h1 h2 hu
    have hFb:=h.qp b (hF _ hf) h2
    exact absurd (h.F0 b hFb) (by omega)
   ·rw[RC.cu b hu hf];exact h.Bj b h1 h2 hu
  ·exact OC b (by omega) (lt_of_lt_of_le h2 h.mod.size) h3
 F0:=h.F0
theorem Mod.refl(F:Nat->Prop)(w:World):Mod F w w:=⟨rfl,rfl,rfl,le_refl _,λ_ _ _=>rfl⟩
theorem xT.refl(w:World):xT w w:=⟨rfl,rfl,rfl,le_refl _,λ_ _=>.inl rfl⟩
theorem Inv.drew{C:Ctx}{a:Act}{wa:World}{st:St}{u:UW}{θ:Nat->Nat}(h:Inv C a wa st u θ):Inv C a {wa with drawn:=wa.drawn+1} st u θ:=
 h.world (u':=u) (F:=λ_=>False) (λ_ hf=>hf.elim) ⟨rfl,rfl,rfl,le_refl _,λ_ _ _=>rfl⟩ ⟨h.below.os,h.below.tape,h.below.output,h.below.size,h.below.block⟩ (Mod.refl _ _)
  (λb h1 _ h3=>by omega) h.pC (λ_ hb _=>hb)
def grow(u:World)(wa:World)(o:Obj):World:={wa with heap:=u.heap++replicate (wa.heap.size-u.heap.size) cT++ #[o]}
theorem rJ{u wa:World}{o:Obj}(h:u.heap.size<=wa.heap.size):(grow u wa o).heap.size=wa.heap.size+1:=by simp[grow];omega
theorem Bn{u wa:World}{o:Obj}{b:Nat}(h:b<u.heap.size):(grow u wa o).heap[b]?=u.heap[b]?:=by
 simp only[grow];rw[Array.getElem?_append_left (by simp;omega),Array.getElem?_append_left h]
theorem Im{u wa:World}{o:Obj}{b:Nat}(h1:u.heap.size<=b)(h2:b<wa.heap.size):(grow u wa o).heap[b]?=some cT:=by
 simp only[grow];rw[Array.getElem?_append_left (by simp;omega),Array.getElem?_append_right h1,Array.getElem?_replicate,if_pos (by omega)]
theorem Il{u wa:World}{o:Obj}(h:u.heap.size<=wa.heap.size):(grow u wa o).heap[wa.heap.size]?=some o:=by
 simp only[grow];rw[Array.getElem?_append_right (by simp;omega)];have e:wa.heap.size-(u.heap++replicate (wa.heap.size-u.heap.size) cT).size=0:=by simp;omega
 rw[e];rfl
theorem Inv.born{C:Ctx}{a:Act}{wa:World}{st:St}{u:UW}{θ:Nat->Nat}(h:Inv C a wa st u θ)(o:Obj):
  ∃w',rl u.toWorld w' wa.heap.size o/\Inv C a (wa.alloc o) st (u.born wa.heap.size w') θ:=by
 have hB:Below wa.heap.size wa (wa.alloc o):=(Below.refl _ _).alloc (le_refl _) o;have pj:(wa.alloc o).heap[wa.heap.size]?=some o:=by
  show(wa.heap.push o)[wa.heap.size]?=_;simp
 have Ov:=h.below.size;have fH:(wa.alloc o).heap.size=wa.heap.size+1:=by simp
 refine⟨grow u.toWorld wa o,⟨⟨h.below.os,h.below.tape,h.below.output,by rw[rJ Ov];omega,λk hk=>Bn hk⟩,Il Ov,Ov⟩,?_⟩;refine h.world (F:=λ_=>False) (λ_ hf=>hf.elim) (Below.Qc hB (le_refl _) _) ?_ ?_ ?_ ?_ ?_
 ·refine⟨rfl,rfl,rfl,?_,λb hb=>?_⟩
  ·show(grow u.toWorld wa o).heap.size<=_;rw[rJ Ov,fH];omega
  ·have je:b<(grow u.toWorld wa o).heap.size:=hb;rw[rJ Ov]at je;show(grow u.toWorld wa o).heap[b]?=_\/(grow u.toWorld wa o).heap[b]?=_;by_cases h1:b<u.heap.size
   ·rw[Bn h1,hB.block b (by omega)];exact h.below.block b h1
   ·by_cases h2:b<wa.heap.size
    ·exact .inr (Im (by omega) h2)
    ·obtain rfl:b=wa.heap.size:=by omega
     exact .inl (by rw[Il Ov,pj])
 ·exact⟨h.below.os,h.below.tape,h.below.output,by show _<=(grow u.toWorld wa o).heap.size;rw[rJ Ov];omega,λb hb _=>Bn hb⟩
 ·intro b h1 h2 _;exact Im h1 h2
 ·intro b hb;rcases hb with hb|rfl
  ·exact lt_of_lt_of_le (h.pC b hb) hB.size
  ·omega
 ·intro b hb bG;rcases hb with hb|rfl
  ·exact hb
  ·omega
structure cB(n:Nat)(fz ws:List Nat)(s t:St):Prop where
 slot:∀i,i<n->i∉ws->t.σ i=s.σ i
 D:∀x,x∈s.D->x∈t.D
 fz:∀k,k∈fz->∀m,(k,m)∈s.D->∀j,j<m->t.σ (gx k j)=s.σ (gx k j)
theorem cB.refl(n:Nat)(fz ws:List Nat)(s:St):cB n fz ws s s:=⟨λ_ _ _=>rfl,λ_ h=>h,λ_ _ _ _ _ _=>rfl⟩
theorem cB.trans{n:Nat}{fz ws ws':List Nat}{a b c:St}(h:cB n fz ws a b)(k:cB n fz ws' b c):cB n fz (ws++ws') a c where
 slot:=λi hi hn=>by
  simp only[List.mem_append,not_or]at hn
  rw[k.slot i hi hn.2,h.slot i hi hn.1]
 D:=λx hx=>k.D x (h.D x hx)
 fz:=λx hx m hm j hj=>by rw[k.fz x hx m (h.D _ hm) j hj,h.fz x hx m hm j hj]
theorem cB.mono{n:Nat}{fz ws Z_ ws':List Nat}{a b:St}(h:cB n fz ws a b)(h1:∀x,x∈Z_->x∈fz)(h2:∀x,x∈ws->x∈ws'):cB n Z_ ws' a b:=
 ⟨λi hi hn=>h.slot i hi (λhx=>hn (h2 _ hx)),h.D,λk hk=>h.fz k (h1 _ hk)⟩
theorem cB.fin{n:Nat}{fz:List Nat}(st:St)(d:Option Nat)(hd:∀t,d=some t->t<n)(hn:n<=65536)(v:Value):cB n fz d.toList st {st with σ:=put st.σ d v} where
 slot:=λi _ Oz=>by
  cases d with
  |none=>rfl
  |some d=>simp only[Option.toList,List.mem_singleton]at Oz;simp only[put];rw[cf _ _ Oz]
 D:=λ_ h=>h
 fz:=λk _ m _ j _=>by
  cases d with
  |none=>rfl
  |some d=>
   simp only[put]
   have:=hd d rfl;have:=jn k j
   rw[cf _ _ (by omega)]
theorem kg(b o i:Nat):(⟨b,o,none⟩:Addr).add i=⟨b,o+i,none⟩:=by
 unfold Addr.add;split
 ·subst_vars;rfl
 ·rfl
theorem Gg{θ θ':Nat->Nat}{v r:Value}(h:R θ v r)(hf:∀k o,v=dM k o->θ' k=θ k):R θ' v r:=by
 unfold R at*
 split
 ·rename_i k o;rw[hf k o rfl];exact h
 ·trivial
 ·rename_i h1 h2;split at h
  ·exact absurd rfl (h1 _ _)
  ·exact absurd rfl (h2 _ _)
  ·exact h
def ja(w:World)(b:Nat)(o:Obj):World:={w with heap:=w.heap.setIfInBounds b o}
theorem uQ{w:World}{b:Nat}{o:Obj}(h:b<w.heap.size):(ja w b o).heap[b]?=some o:=by simp[ja,h]
theorem kT{w:World}{b c:Nat}{o:Obj}(h:c≠b):(ja w b o).heap[c]?=w.heap[c]?:=by simp[ja,Ne.symm h]
theorem e_{w:World}{b:Nat}{o:Obj}:(ja w b o).heap.size=w.heap.size:=by simp[ja]
theorem uF:∀(vs:List Value) (c:Array Value) (o:Nat),(uC c o vs).size=c.size
 |[],_,_=>rfl
 |v::vs,c,o=>by simp[uC,uF vs]
theorem Lw:∀(vs:List Value) (c:Array Value) (o j:Nat),o+vs.length<=c.size->(uC c o vs).getD j undef=if o<=j/\j<o+vs.length then vs.getD (j-o) undef else c.getD j undef
 |[],c,o,j,_=>by
  rw[if_neg (by simp only[length_nil];omega)];rfl
 |v::vs,c,o,j,h=>by
  simp only[length_cons]at h
  simp only[uC]
  rw[Lw vs _ (o+1) j (by simp;omega),vC _ _ _ _ (by omega)]
  by_cases h1:j=o
  ·subst h1
   rw[if_neg (by omega),if_pos rfl,if_pos (by simp)]
   simp
  ·rw[if_neg h1]
   by_cases h2:o+1<=j/\j<o+1+vs.length
   ·rw[if_pos h2,if_pos (by simp;omega)]
    obtain⟨i,hi⟩:∃i,j-o=i+1:=⟨j-o-1,by omega⟩
    rw[hi,show j-(o+1)=i from by omega];simp
   ·rw[if_neg h2,if_neg (by simp;omega)]
theorem cell_of{w:World}{b o:Nat}{c:Array Value}{T:TypeId}{f:Nat×Nat}(h:w.heap[b]?=some (.cells c T f)):w.cell? ⟨b,o,none⟩=c[o]?:=by
 simp[World.cell?,h]
theorem mN{P:Program}{w:World}{b o:Nat}{c:Array Value}{T:TypeId}{f:Nat×Nat}(h:w.heap[b]?=some (.cells c T f)):
  ∀(n i:Nat) (acc:Array Value),o+i+n<=c.size->(loadCellsFrom ⟨b,o,none⟩ i n acc).run P w=.ok (acc++((c.toList.drop (o+i)).take n).toArray) w
 |0,i,acc,_=>by simp[loadCellsFrom]
 |n+1,i,acc,hl=>by
  have bG:o+i<c.size:=by omega
  simp only[loadCellsFrom,run_bind,run_load,kg,cell_of h,getElem?_eq_getElem bG,andThen_ok];rw[mN h n (i+1) _ (by omega)];have tJ:o+i<c.toList.length:=by simpa using bG
  rw[drop_eq_getElem_cons tJ];simp[Nat.add_assoc]
theorem sB{P:Program}{w:World}{b o n:Nat}{c:Array Value}{T:TypeId}{f:Nat×Nat}(h:w.heap[b]?=some (.cells c T f))(hl:o+n<=c.size):
  (loadCells ⟨b,o,none⟩ n).run P w=.ok ((c.toList.drop o).take n).toArray w:=by
 unfold loadCells;rw[mN h n 0 #[] (by omega)];simp
theorem NX{v:Value}(h:one v=true):v.oneCell'=true:=by cases v<;>simp_all [one,Value.oneCell']
theorem NM{w:World}{b:Nat}{o:Obj}(h:w.heap[b]?=some o):ja w b o=w:=by
 obtain⟨heap,tape,drawn,os,output⟩:=w;simp only[ja];congr 1;apply Array.ext_getElem?;intro k;rw[Array.getElem?_setIfInBounds];split
 ·rename_i e;subst e;have hb:=(Array.getElem?_eq_some_iff.1 h).1;rw[if_pos hb];exact h.symm
 ·rfl
theorem EH{w:World}{b o:Nat}{c:Array Value}{T:TypeId}{f:Nat×Nat}(v:Value)(h:w.heap[b]?=some (.cells c T f)):
  w.setCell ⟨b,o,none⟩ v=ja w b (.cells (c.setIfInBounds o v) T f):=by
 obtain⟨heap,tape,drawn,os,output⟩:=w;simp only[ja,World.setCell];congr 1;apply Array.ext_getElem?;intro k;rw[Array.getElem?_setIfInBounds,Array.getElem?_modify];split
 ·rename_i e;subst e;have h':heap[b]?=some (.cells c T f):=h;have hb:=(Array.getElem?_eq_some_iff.1 h').1;rw[h'];simp[hb]
 ·rfl
theorem lC{P:Program}{b o:Nat}{T:TypeId}:∀(vs:List Value) (i:Nat) (w:World) (c:Array Value),w.heap[b]?=some (.cells c T (0,0))->o+i+vs.length<=c.size->(∀v∈vs,one v=true)->
  (storeCells ⟨b,o,none⟩ vs i).run P w=.ok () (ja w b (.cells (uC c (o+i) vs) T (0,0)))
 |[],i,w,c,h,_,_=>by
  simp only[storeCells,uC,run_pure]
  rw[NM h]
 |v::vs,i,w,c,h,hl,ho=>by
  have hb:b<w.heap.size:=(Array.getElem?_eq_some_iff.1 h).1
  simp only[length_cons]at hl;have bG:o+i<c.size:=by omega
  have VN:w.frozen? ⟨b,o+i,none⟩=false:=by simp[World.frozen?,h]
  have DT:w.cell? ⟨b,o+i,none⟩=some c[o+i]:=by rw[cell_of h,getElem?_eq_getElem bG]
  simp only[storeCells,run_bind,kg,run_store _ _ _ _ _ (NX (ho v (by simp))),DT,VN];simp only[false_eq_true,if_false,andThen_ok];rw[EH v h];rw[lC vs (i+1) _ (c.setIfInBounds (o+i) v) (uQ hb) (by simp;omega) (λx hx=>ho x (by simp[hx]))];congr 1;simp only[ja,uC,Array.setIfInBounds_setIfInBounds];rfl
end Go.aO
namespace Go.aO
open Go.RowKit
theorem nV{vs:List Value}(h:eG vs=true):∀v∈vs,plain v=true/\one v=true:=by
 intro v hv;have:=all_eq_true.1 h v hv;simpa using this
theorem Inv.YS{C:Ctx}{a:Act}{wa:World}{st:St}{u:UW}{θ:Nat->Nat}(h:Inv C a wa st u θ){k:Nat}{cs:Array Value}{T:TypeId}(hk:k<C.n)(ahK:∀m,(k,m)∉st.D)
  (hp:∀v∈cs.toList,plain v=true) (fH:cs.size<=65536):
  Inv C (a.put (some k) (.pointer (some ⟨wa.heap.size,0,none⟩))) (wa.alloc (.cells cs T (0,0))) {st with σ:=rn (i_ st.σ k (dM k 0)) k 0 cs.toList,D:=(k,cs.size)::st.D} u
   (λi=>if i=k then wa.heap.size else θ i):=by
 have hB:Below wa.heap.size wa (wa.alloc (.cells cs T (0,0))):=(Below.refl _ _).alloc (le_refl _) _;have pj:(wa.alloc (.cells cs T (0,0))).heap[wa.heap.size]?=some (.cells cs T (0,0)):=by
  show(wa.heap.push _)[wa.heap.size]?=_;simp
 have hn:=h.jc;have hold:∀k' m,(k',m)∈st.D->k'≠k:=λk' m hm e=>ahK m (e▸hm);have bG:∀k' m,(k',m)∈st.D->θ k'<wa.heap.size:=λk' m hm=>by
  obtain⟨_,c,T',h1,_⟩:=h.boxes k' m hm;exact(Array.getElem?_eq_some_iff.1 h1).1
 have Ic:∀k' m,(k',m)∈st.D->∀j,j<m->rn (i_ st.σ k (dM k 0)) k 0 cs.toList (gx k' j)=st.σ (gx k' j):=λk' m hm j hj=>by
  have sE:=(h.boxes k' m hm).1;rw[dE,cf]
  ·have:=jn k' j;omega
  ·intro i _ hi e;have:=(iU (by omega) (by simp at hi;omega) e).1;exact hold k' m hm this
 have yD:∀{b:Nat} {o:Obj},Hid u wa b o->Hid u (wa.alloc (.cells cs T (0,0))) b o:=λhh=>
  ⟨(hB.block _ (Array.getElem?_eq_some_iff.1 hh.at_).1).trans hh.at_,hh.other,hh.gj,hh.mask⟩
 refine⟨?_,hn,?_,?_,?_,?_,?_,?_,?_,?_,?_,?_,h.qp,h.umod,h.Jv,h.Bj,h.F0⟩
 ·rw[sx];exact h.size
 ·rw[put_defers];exact⟨λd hd=>let ⟨r,e,hr,hh⟩:=h.defers.each d hd;⟨r,e,hr,yD hh⟩,h.defers.nodup⟩
 ·exact λl r e=>yD (h.round l r e)
 ·intro t ht;simp only[Act.put];rw[vC _ _ _ _ (by rw[h.size];exact hk),gS _ _ _ (by omega)];by_cases e:t=k
  ·subst e;rw[if_pos rfl,eY];simp[R]
  ·rw[if_neg e,cf _ _ e];refine Gg (h.iN t ht) λk' o e'=>?_;obtain⟨m,hm⟩:=h.jo t ht k' o e';simp[hold k' m hm]
 ·refine⟨h.below.os,h.below.tape,h.below.output,le_trans h.below.size hB.size,λb hb=>?_⟩;rw[hB.block b (lt_of_lt_of_le hb h.below.size)];exact h.below.block b hb
 ·intro k' m hm;simp only[mem_cons,Prod.mk.injEq]at hm;rcases hm with⟨rfl,rfl⟩|hm
  ·refine⟨fH,cs,T,by simpa using pj,rfl,λj hj=>?_,?_,?_,?_⟩
   ·have hw:=sR (σ:=i_ st.σ k' (dM k' 0)) (k:=k') cs.toList 0 j (by simpa using hj) (by simpa using fH);simp only[zero_add]at hw;simp only;rw[hw];have fw:cs.toList.getD j undef∈cs.toList:=by
     rw[List.getD_eq_getElem?_getD,List.getElem?_eq_getElem (by simpa using hj)];simp
    rw[iX (hp _ fw)];simp
   ·simp only[if_true];intro Kn;have:=h.pC _ Kn;omega
   ·simp only[if_true];exact h.mod.size
   ·simp only[if_true];intro hl;have:=h.below.size;omega
  ·obtain⟨yB,c,T',h1,h2,h3,h4,h5,h6⟩:=h.boxes k' m hm;simp only[if_neg (hold k' m hm)];refine⟨yB,c,T',(hB.block _ (bG k' m hm)).trans h1,h2,λj hj=>?_,h4,h5,h6⟩;simp only[Ic k' m hm j hj];exact Gg (h3 j hj) λk'' o e=>absurd e (h.gN k' m hm j hj k'' o)
 ·intro k1 m1 k2 m2 h1 h2 e;simp only[mem_cons,Prod.mk.injEq]at h1 h2;rcases h1 with⟨rfl,rfl⟩|h1<;>rcases h2 with⟨rfl,rfl⟩|h2
  ·exact⟨rfl,rfl⟩
  ·simp only[if_true,if_neg (hold _ _ h2)]at e;have:=bG _ _ h2;omega
  ·simp only[if_true,if_neg (hold _ _ h1)]at e;have:=bG _ _ h1;omega
  ·simp only[if_neg (hold _ _ h1),if_neg (hold _ _ h2)]at e;exact h.inj _ _ _ _ h1 h2 e
 ·intro t ht k' o e;simp only at e;rw[gS _ _ _ (by omega)]at e;by_cases e':t=k
  ·subst e';rw[eY]at e;simp only[Value.complex.injEq,true_and]at e;exact⟨cs.size,by simp[e.1]⟩
  ·rw[cf _ _ e']at e;obtain⟨m,hm⟩:=h.jo t ht k' o e;exact⟨m,by simp[hm]⟩
 ·intro k1 m1 h1 j hj k' o e;simp only[mem_cons,Prod.mk.injEq]at h1;rcases h1 with⟨rfl,rfl⟩|h1
  ·have hw:=sR (σ:=i_ st.σ k1 (dM k1 0)) (k:=k1) cs.toList 0 j (by simpa using hj) (by simpa using fH);simp only[zero_add]at hw;simp only at e;rw[hw]at e;have fw:cs.toList.getD j undef∈cs.toList:=by
    rw[List.getD_eq_getElem?_getD,List.getElem?_eq_getElem (by simpa using hj)];simp
   exact jS (hp _ fw) k' o e
  ·simp only[Ic k1 m1 h1 j hj]at e;exact h.gN k1 m1 h1 j hj k' o e
 ·intro b hb;exact lt_of_lt_of_le (h.pC b hb) hB.size
 ·exact h.mod.trans (Below.Qc hB (le_refl _) _)
theorem Inv.acd{C:Ctx}{a:Act}{wa:World}{st:St}{u:UW}{θ:Nat->Nat}(h:Inv C a wa st u θ){k m o:Nat}{vs:List Value}(hk:(k,m)∈st.D)(hl:o+vs.length<=m)
  (hp:∀v∈vs,plain v=true):∃c T,wa.heap[θ k]?=some (.cells c T (0,0))/\c.size=m/\
   Inv C a (ja wa (θ k) (.cells (uC c o vs) T (0,0))) {st with σ:=rn st.σ k o vs} u θ:=by
 obtain⟨yB,c,T,h1,h2,h3,h4,h5,h6⟩:=h.boxes k m hk;have bG:θ k<wa.heap.size:=(Array.getElem?_eq_some_iff.1 h1).1;have hn:=h.jc;have Ic:∀k' m',(k',m')∈st.D->k'≠k->∀j,j<m'->rn st.σ k o vs (gx k' j)=st.σ (gx k' j):=λk' m' hm aZ j hj=>by
  have sE:=(h.boxes k' m' hm).1;rw[dE];intro i _ hi e;exact aZ (iU (by omega) (by omega) e).1
 have yD:∀{b:Nat} {ob:Obj},Hid u wa b ob->Hid u (ja wa (θ k) (.cells (uC c o vs) T (0,0))) b ob:=λ{b ob} hh=>by
  refine⟨?_,hh.other,hh.gj,hh.mask⟩;rw[kT]
  ·exact hh.at_
  ·rintro rfl;have:=hh.at_;rw[h1]at this;cases this;have:=hh.other;simp[Obj.isCells]at this
 refine⟨c,T,h1,h2,h.size,hn,⟨λd hd=>let ⟨r,e,hr,hh⟩:=h.defers.each d hd;⟨r,e,hr,yD hh⟩,h.defers.nodup⟩,λl r e=>yD (h.round l r e),?_,?_,?_,h.inj,?_,?_,?_,?_,h.qp,h.umod,h.Jv,h.Bj,h.F0⟩
 ·intro t ht;simp only;rw[gS _ _ _ (by omega)];exact h.iN t ht
 ·refine⟨h.below.os,h.below.tape,h.below.output,by rw[e_];exact h.below.size,λb hb=>?_⟩;by_cases e:b=θ k
  ·subst e;exact .inr (h6 hb)
  ·rw[kT e];exact h.below.block b hb
 ·intro k' m' hm;by_cases e:k'=k
  ·subst e;obtain rfl:m'=m:=(h.inj _ _ _ _ hm hk rfl).2;refine⟨yB,uC c o vs,T,uQ bG,by rw[uF,h2],λj hj=>?_,h4,h5,h6⟩;rw[Lw _ _ _ _ (by omega)];simp only;by_cases hr:o<=j/\j<o+vs.length
   ·rw[if_pos hr];have hw:=sR (σ:=st.σ) (k:=k') vs o (j-o) (by omega) (by omega);rw[show o+(j-o)=j from by omega]at hw;rw[hw];have fw:vs.getD (j-o) undef∈vs:=by
     rw[List.getD_eq_getElem?_getD,List.getElem?_eq_getElem (by omega)];simp
    exact oT (hp _ fw)
   ·rw[if_neg hr,dE]
    ·exact h3 j hj
    ·intro i h1 h2 e;have:=(iU (by omega) (by omega) e).2;omega
  ·obtain⟨ahh,c',T',GF,ME,XL,h4',h5',h6'⟩:=h.boxes k' m' hm;have aZ:θ k'≠θ k:=λe'=>e (h.inj _ _ _ _ hm hk e').1;refine⟨ahh,c',T',(kT aZ).trans GF,ME,λj hj=>?_,h4',h5',h6'⟩;simp only[Ic k' m' hm e j hj];exact XL j hj
 ·intro t ht k' o' e;simp only at e;rw[gS _ _ _ (by omega)]at e;exact h.jo t ht k' o' e
 ·intro k1 m1 hm j hj k' o' e;by_cases ek:k1=k
  ·subst ek;obtain rfl:m1=m:=(h.inj _ _ _ _ hm hk rfl).2;simp only at e;by_cases hr:o<=j/\j<o+vs.length
   ·have hw:=sR (σ:=st.σ) (k:=k1) vs o (j-o) (by omega) (by omega);rw[show o+(j-o)=j from by omega]at hw;rw[hw]at e;have fw:vs.getD (j-o) undef∈vs:=by
     rw[List.getD_eq_getElem?_getD,List.getElem?_eq_getElem (by omega)];simp
    exact jS (hp _ fw) k' o' e
   ·rw[dE]at e
    ·exact h.gN k1 m1 hm j hj k' o' e
    ·intro i h1 h2 e;have:=(iU (by omega) (by omega) e).2;omega
  ·simp only[Ic k1 m1 hm ek j hj]at e;exact h.gN k1 m1 hm j hj k' o' e
 ·intro b hb;rw[e_];exact h.pC b hb
 ·refine⟨h.mod.os,h.mod.tape,h.mod.output,by rw[e_];exact h.mod.size,λb hb hF=>?_⟩;rw[kT (by omega)];exact h.mod.cu b hb hF
def cY(n:Nat)(x:Operand):Bool:=
 match x with
 | .tmp t=>blt t n
 | .const v=>plain v
 |_=>true
def Md(o:Oper):Bool:=match o.op with| .defer _=>false|_=>true
def br(n:Nat)(o:Oper):Bool:=o.op.operands.toList.all (cY n)&&(match o.dst with|some d=>blt d n|none=>true)&&Md o
theorem ow{n:Nat}{o:Oper}(aG:br n o=true)(c:Call):o.op≠ .defer c:=by
 intro e;simp[br,Md,e]at aG
theorem iW{a b:Nat}:blt a b=true↔a<b:=by simp[Nat.blt_eq]
variable {C:Ctx} {a:Act} {wa:World} {st:St} {u:UW} {θ:Nat->Nat}
theorem FH(hI:Inv C a wa st u θ){x:Operand}(hx:cY C.n x=true):R θ (ev st.σ x) (a.eval x):=by
 cases x with
 |tmp t=>exact hI.iN t (iW.1 hx)
 |const v=>exact oT hx
 |global g=>exact oT rfl
 |func f=>exact oT rfl
theorem nU(hI:Inv C a wa st u θ){x:Operand}(hx:cY C.n x=true)(hp:plain (ev st.σ x)=true):a.eval x=ev st.σ x:=(iX hp).1 (FH hI hx)
theorem bd(hI:Inv C a wa st u θ){x:Operand}(hx:cY C.n x=true){v:Value}(he:ev st.σ x=v)(hp:plain v=true):a.eval x=v:=by
 subst he;exact nU hI hx hp
theorem kJ(hI:Inv C a wa st u θ){x:Operand}(hx:cY C.n x=true){k o:Nat}(he:ev st.σ x=dM k o):a.eval x=.pointer (some ⟨θ k,o,none⟩)/\∃m,(k,m)∈st.D:=by
 have h:=FH hI hx;rw[he]at h;refine⟨h,?_⟩;cases x with
 |tmp t=>exact hI.jo t (iW.1 hx) k o he
 |const v=>simp only[ev]at he;subst he;simp[cY,plain]at hx
 |global g=>simp[ev]at he
 |func f=>simp[ev]at he
def Ni(C:Ctx)(fz:List Nat)(o:Oper)(st:St)(θ:Nat->Nat)(nd:Bool)(K:St->UW->Prop)(a':Act)(GL:World):Prop:=
 ∃bT u' θ',Inv C a' GL bT u' θ'/\cB C.n fz o.dst.toList st bT/\(∀k m,(k,m)∈st.D->θ' k=θ k)/\(nd=false->bT.D=st.D)/\K bT u'
theorem eh{n:Nat}{o:Oper}(aG:br n o=true):∀t,o.dst=some t->t<n:=by
 intro t ht;simp only[br,and_eq_true]at aG;have:=aG.1.2;rw[ht]at this;exact iW.1 this
theorem lp{n:Nat}{o:Oper}(aG:br n o=true){x:Operand}(hx:x∈o.op.operands):cY n x=true:=by
 simp only[br,and_eq_true,all_eq_true]at aG;exact aG.1.1 x (by simpa using hx)
theorem lF{nd:Bool}{wb:World}{u':UW}{fz:List Nat}{o:Oper}{K:St->UW->Prop}(aG:br C.n o=true)(hI:Inv C a wb st u' θ){v r:Value}(hr:R θ v r)
  (hf:∀k o,v=dM k o->∃m,(k,m)∈st.D) (hK:K (fin o st v) u'):Ni C fz o st θ nd K (a.put o.dst r) wb:=
 ⟨_,_,_,hI.fin o.dst (eh aG) hr hf,cB.fin st o.dst (eh aG) hI.jc v,λ_ _ _=>rfl,λ_=>rfl,hK⟩
theorem aS{nd:Bool}{wb:World}{u':UW}{fz:List Nat}{o:Oper}{K:St->UW->Prop}(aG:br C.n o=true)(hI:Inv C a wb st u' θ){v:Value}(hp:plain v=true)
  (hK:K (fin o st v) u'):Ni C fz o st θ nd K (a.put o.dst v) wb:=
 lF aG hI (oT hp) (λk o e=>absurd e (jS hp k o)) hK
theorem gW{P:Program}{t:TypeId}{d:TypeDesc}(h:P.underlying t=some d):∃i,P.info? t=some i:=by
 unfold Program.underlying at h;cases hi:P.info? t with
 |none=>simp[hi]at h
 |some i=>exact⟨i,rfl⟩
theorem aR{P:Program}{t:TypeId}{d:TypeDesc}{w:World}(h:P.underlying t=some d):(underlying t).run P w=.ok d w:=by
 simp[underlying,h]
theorem Aq{P:Program}{t:TypeId}{i:TypeInfo}{w:World}(h:P.info? t=some i):(typeInfo t).run P w=.ok i w:=by
 simp[typeInfo,h]
theorem cz{P:Program}{t:TypeId}{i:TypeInfo}{w:World}(h:P.info? t=some i):(sizeOf t).run P w=.ok (P.cellsOf t) w:=by
 simp[sizeOf,Aq h,Program.cellsOf,h]
theorem jP{P:Program}{t:TypeId}{z:Value}{w:World}(h:(P.info? t).bind (·.zero)=some z):(zeroValue t).run P w=.ok z w:=by
 cases hi:P.info? t with
 |none=>simp[hi]at h
 |some i=>simp only[hi,Option.bind_some]at h;simp[zeroValue,Aq hi,h]
theorem ll{P:Program}{t:TypeId}{d:TypeDesc}{w:World}(h:P.underlying t=some d):(isAgg t).run P w=.ok (dq P t) w:=by
 simp only[isAgg,run_bind,aR h,andThen_ok,dq,h];cases d<;>rfl
theorem lO{P:Program}{t:TypeId}{ks:List K1}(h:kinds P t=some ks):ks.length=P.cellsOf t/\(∃d,P.underlying t=some d)/\(dq P t=true\/ks.length=1):=by
 unfold kinds at h;cases hk:tG P 8 t with
 |none=>simp[hk]at h
 |some Vn=>
  simp only[hk,cond_eq_ite,beq_iff]at h;split at h
  ·rename_i h1;split at h
   ·rename_i h2;simp only[Option.some.injEq]at h;subst h;refine⟨h1,?_,?_⟩
    ·unfold tG at hk;cases hu:P.underlying t with
     |none=>simp[hu]at hk
     |some d=>exact⟨d,rfl⟩
    ·simpa[beq_iff]using h2
   ·cases h
  ·cases h
theorem ix{P:Program}{w:World}{t:TypeId}{ks:List K1}{b o:Nat}{c:Array Value}{T:TypeId}{f:Nat×Nat}(hk:kinds P t=some ks)(h:w.heap[b]?=some (.cells c T f))(hl:o+ks.length<=c.size):
  (loadVar t ⟨b,o,none⟩).run P w=.ok (Fb (dq P t) ((c.toList.drop o).take ks.length)) w:=by
 obtain⟨h1,⟨d,hd⟩,h2⟩:=lO hk;obtain⟨i,hi⟩:=gW hd;simp only[loadVar,run_bind,ll hd,andThen_ok];cases mR:dq P t with
 |true=>
  simp only[if_true,run_bind,cz hi,andThen_ok];rw[<- h1,sB h hl];rfl
 |false=>
  have Kr:ks.length=1:=by rcases h2 with h2|h2;(rw[mR]at h2;cases h2);exact h2
  simp only[false_eq_true,if_false,run_load,cell_of h];have bG:o<c.size:=by omega
  rw[getElem?_eq_getElem bG,Kr];have tJ:o<c.toList.length:=by simpa using bG
  rw[drop_eq_getElem_cons tJ];simp[Fb]
theorem uS{P:Program}{w:World}{t:TypeId}{i:TypeInfo}{b o:Nat}{c:Array Value}{T:TypeId}{v:Value}(hi:P.info? t=some i)(hs:v.cells.size=P.cellsOf t)(h:w.heap[b]?=some (.cells c T (0,0)))
  (hl:o+v.cells.size<=c.size) (ho:∀x∈v.cells.toList,one x=true):(storeVar t ⟨b,o,none⟩ v).run P w=.ok () (ja w b (.cells (uC c o v.cells.toList) T (0,0))):=by
 simp only[storeVar,run_bind,cz hi,andThen_ok];rw[if_neg (by simp[hs])];rw[lC _ 0 w c h (by simpa using hl) ho];rfl
theorem uW{w w1:World}(hs:xT w w1){b o n:Nat}{vs:List Value}(h:rd w.heap b o n=some vs)(hn:n≠0):∃c T f,w1.heap[b]?=some (.cells c T f)/\o+n<=c.size/\vs=(c.toList.drop o).take n:=by
 unfold rd at h;cases hb:w.heap[b]? with
 |none=>simp[hb]at h
 |some ob=>
  have bG:b<w.heap.size:=(Array.getElem?_eq_some_iff.1 hb).1;cases ob<;>simp only[hb]at h<;>try (cases h;done)
  rename_i c T f;split at h
  ·rename_i hl;simp only[Option.some.injEq]at h;rcases hs.block b bG with e|e
   ·exact⟨c,T,f,by rw[<- e,hb],hl,h.symm⟩
   ·rw[hb]at e;simp only[Option.some.injEq,Obj.cells.injEq]at e;obtain⟨rfl,_,_⟩:=e;simp at hl;omega
  ·cases h
theorem QB{w w1:World}(hs:xT w w1){b o n:Nat}{vs:List Value}(h:rd w.heap b o n=some vs):∃c T f,w1.heap[b]?=some (.cells c T f)/\vs.length=n\/n=0/\vs=[]:=by
 by_cases hn:n=0
 ·subst hn;unfold rd at h;refine⟨#[],0,(0,0),.inr ⟨rfl,?_⟩⟩;cases hb:w.heap[b]? with
  |none=>simp[hb]at h
  |some ob=>
   cases ob<;>simp only[hb]at h<;>try (cases h;done)
   split at h
   ·simp at h;exact h
   ·cases h
 ·obtain⟨c,T,f,h1,h2,h3⟩:=uW hs h hn;exact⟨c,T,f,.inl ⟨h1,by subst h3;simp;omega⟩⟩
theorem gy{v:Value}{F:Nat->Nat->Prop}(h:dL v F):∃b o,v=.pointer (some ⟨b,o,none⟩)/\F b o:=by
 unfold dL at h;split at h
 ·exact⟨_,_,rfl,h⟩
 ·exact h.elim
theorem gi{v:Option Addr}{F:Nat->Nat->Prop}(h:bH v F):∃b o,v=some ⟨b,o,none⟩/\F b o:=by
 unfold bH at h;split at h
 ·exact⟨_,_,rfl,h⟩
 ·exact h.elim
theorem nI{ag:Bool}{vs:List Value}(h:∀v∈vs,plain v=true/\one v=true)(hl:ag=true\/vs.length=1):plain (Fb ag vs)=true:=by
 cases ag with
 |true=>rfl
 |false=>
  rcases hl with hl|hl
  ·cases hl
  ·match vs,hl with
   |[v],_=>exact(h v (by simp)).1
theorem j_:∀{D:List (Nat×Nat)} {k m:Nat},eX D k=some m->(k,m)∈D
 |[],_,_,h=>by simp[eX]at h
 |(k',m')::D,k,m,h=>by
  simp only[eX,cond_eq_ite,beq_iff]at h
  split at h
  ·rename_i e;simp only[Option.some.injEq]at h;subst e h;simp
  ·exact List.mem_cons_of_mem _ (j_ h)
theorem ik{σ:Fr}{θ:Nat->Nat}{c:Array Value}{k m:Nat}(hc:c.size=m)(hr:∀j,j<m->R θ (σ (gx k j)) (c.getD j undef)):
  ∀(n o:Nat),o+n<=m->(∀v∈wR σ k o n,plain v=true/\one v=true)->(c.toList.drop o).take n=wR σ k o n
 |0,o,_,_=>by simp[wR]
 |n+1,o,hl,hp=>by
  have bG:o<c.toList.length:=by simp;omega
  rw[drop_eq_getElem_cons bG,List.take_succ_cons];simp only[wR];have hpo:plain (σ (gx k o))=true:=(hp _ (by simp[wR])).1;have h1:=(iX hpo).1 (hr o (by omega));have h2:c.toList[o]=σ (gx k o):=by
   rw[<- h1];simp only[Array.getElem_toList];rw[Array.getD_eq_getD_getElem?,getElem?_eq_getElem (by omega)];rfl
  rw[h2,ik hc hr n (o+1) (by omega) (λv hv=>hp v (by simp[wR,hv]))]
theorem pZ:∀(vs:List Value) (c:Array Value) (o:Nat),o+vs.length<=c.size->(uC c o vs).toList=c.toList.take o++vs++c.toList.drop (o+vs.length)
 |[],c,o,_=>by simp[uC]
 |v::vs,c,o,h=>by
  simp only[length_cons]at h
  simp only[uC]
  rw[pZ vs _ (o+1) (by simp;omega)]
  have ho:o<c.toList.length:=by simp;omega
  simp only[Array.toList_setIfInBounds];have h1:(c.toList.set o v).take (o+1)=c.toList.take o++[v]:=by
   rw[List.take_set];rw[List.take_succ_eq_append_getElem ho,List.set_append_right _ _ (by simp;omega)];have e:o-(c.toList.take o).length=0:=by simp;omega
   rw[e];rfl
  have h2:(c.toList.set o v).drop (o+1+vs.length)=c.toList.drop (o+1+vs.length):=by
   rw[List.drop_set_of_lt (by omega)]
  rw[h1,h2];simp[Nat.add_assoc,Nat.add_comm 1]
theorem Iq:∀(l:List (Value×Nat)) (vs:List Value) (i off:Nat) (c:Array Value),l=vs.zipIdx i->l.foldl (λcs p=>cs.setIfInBounds (off+p.2) p.1) c=uC c (off+i) vs
 |[],vs,i,off,c,h=>by
  cases vs with
  |nil=>rfl
  |cons v vs=>simp at h
 |p::l,vs,i,off,c,h=>by
  cases vs with
  |nil=>simp at h
  |cons v vs=>
   simp only[List.zipIdx_cons,List.cons.injEq]at h
   obtain⟨rfl,rfl⟩:=h
   simp only[List.foldl_cons,uC];rw[Iq _ vs (i+1) off _ rfl];rfl
theorem DZ(vs:Array Value)(off:Nat)(cs:Array Value):
  (vs.zipIdx.foldl (λcs (x:Value×Nat)=>match x with|(c,j)=>cs.setIfInBounds (off+j) c) cs)=uC cs off vs.toList:=by
 rw[<- Array.foldl_toList,Array.toList_zipIdx];exact Iq _ vs.toList 0 off cs rfl
theorem sw{P:Program}{w:World}{α β:Type}(g:α->Sem β)(k:α->β):∀(l:List α),(∀x∈l,(g x).run P w=.ok (k x) w)->(l.mapM g).run P w=.ok (l.map k) w
 |[],_=>by simp
 |x::l,h=>by
  simp only[List.mapM_cons,run_bind,h x (by simp),andThen_ok,sw g k l (λy hy=>h y (by simp[hy])),run_pure,List.map_cons]
theorem Qy{P:Program}{w:World}{α β:Type}(g:α->Sem β)(k:α->β)(l:Array α)(h:∀x∈l.toList,(g x).run P w=.ok (k x) w):(l.mapM g).run P w=.ok (l.toList.map k).toArray w:=by
 rw[Array.mapM_eq_mapM_toList];simp only[Sem.run_map,sw g k l.toList h,andThen_ok]
theorem En{P:Program}{fs:Array Field}{pl:Nat->Option (Nat×Nat)}(pJ:∀(i:Nat) f,fs[i]?=some f->pl i=some (f.offset,P.cellsOf f.type)):
  ∀(ps:List (Nat×Value)) (cs:Array Value) (r:List Value),Ld P fs ps cs.toList=some r->Instr.fill pl cs ps=some r.toArray
 |[],cs,r,h=>by simp only[Ld,Option.some.injEq]at h;subst h;simp[Instr.fill]
 |(i,v)::ps,cs,r,h=>by
  simp only[Ld]at h
  cases hf:fs[i]? with
  |none=>simp[hf]at h
  |some f=>
   simp only[hf,cond_eq_ite,and_eq_true,beq_iff,ble_eq]at h
   split at h
   ·rename_i hc
    obtain⟨⟨h1,h2⟩,_⟩:=hc
    simp only[length_toList]at h2;simp only[Instr.fill,pJ i f hf];rw[if_neg (by simp[h1];omega)];rw[DZ];have hlen:v.cells.toList.length=v.cells.size:=by simp
    refine En pJ ps _ r ?_;rw[pZ _ _ _ (by rw[hlen];omega),hlen];exact h
   ·cases h
theorem BG{size:Nat}:∀{ps:List (Nat×Value)} {i:Nat} {r:List Value},oQ size i ps=some r->r.length=ps.length*size
 |[],_,r,h=>by simp only[oQ,Option.some.injEq]at h;subst h;simp
 |(j,v)::ps,i,r,h=>by
  simp only[oQ,cond_eq_ite,and_eq_true,beq_iff]at h
  split at h
  ·rename_i hc
   cases hb:oQ size (i+1) ps with
   |none=>simp[hb]at h
   |some l=>
    simp only[hb,Option.some.injEq]at h
    subst h
    have:=BG hb
    simp only[List.length_append,length_cons,length_toList,this,hc.2,Nat.add_mul,Nat.one_mul];omega
  ·cases h
theorem rM{size:Nat}:∀(ps:List (Nat×Value)) (i:Nat) (r:List Value) (cs:Array Value),oQ size i ps=some r->cs.size=(i+ps.length)*size->
  Instr.fill (λi=>some (i*size,size)) cs ps=some (cs.toList.take (i*size)++r).toArray
 |[],i,r,cs,h,hs=>by
  simp only[oQ,Option.some.injEq]at h;subst h
  simp only[length_nil,Nat.add_zero]at hs
  simp only[Instr.fill,<- hs,List.append_nil,Option.some.injEq]
  rw[take_of_length_le (by simp)]
 |(j,v)::ps,i,r,cs,h,hs=>by
  simp only[oQ,cond_eq_ite,and_eq_true,beq_iff]at h
  split at h
  ·rename_i hc
   obtain⟨rfl,hv⟩:=hc
   cases hb:oQ size (i+1) ps with
   |none=>simp[hb]at h
   |some l=>
    simp only[hb,Option.some.injEq]at h;subst h;simp only[length_cons]at hs;have hle:i*size+v.cells.size<=cs.size:=by
     rw[hs,hv,<- Nat.succ_mul];exact Nat.mul_le_mul_right _ (by omega)
    simp only[Instr.fill];rw[if_neg (by simp[hv];omega),DZ];have hlen:v.cells.toList.length=v.cells.size:=by simp
    rw[rM ps (i+1) l _ hb (by rw[uF,hs];congr 1;omega)];rw[pZ _ _ _ (by rw[hlen];exact hle)];have e1:(i+1)*size=i*size+v.cells.size:=by rw[Nat.succ_mul,hv]
    rw[e1,List.take_append_of_le_length (by simp;omega),take_of_length_le (by simp;omega)];simp
  ·cases h
theorem run_build{P:Program}{w:World}{t:TypeId}{ps:Array (Nat×Value)}{r:List Value}(h:Wx P t ps.toList=some r):(Instr.build t ps).run P w=.ok (.agg r.toArray) w:=by
 unfold Wx at h;cases hz:(P.info? t).bind (·.zero)with
 |none=>simp[hz]at h
 |some z=>
  cases hu:P.underlying t with
  |none=>simp[hz,hu]at h
  |some d=>
   cases d<;>simp only[hz,hu]at h<;>try (cases h;done)
   case array len e=>
    simp only[cond_eq_ite,and_eq_true,beq_iff]at h;split at h
    ·rename_i hc;obtain⟨⟨CH,hl⟩,fH⟩:=hc;obtain⟨ie,CH⟩:=Option.isSome_iff_exists.1 CH;simp only[Instr.build,run_bind,jP hz,andThen_ok,aR hu,cz CH];have hf:=rM ps.toList 0 r z.cells h (by rw[fH,zero_add,hl]);simp only[Nat.zero_mul,List.take_zero,List.nil_append]at hf;rw[hf];rfl
    ·cases h
   rename_i fs;simp only[cond_eq_ite,all_eq_true]at h;split at h
   ·rename_i jC;have RX:∀w:World,(fs.mapM λf=>(do pure (f.offset,<- sizeOf f.type):Sem (Nat×Nat))).run P w=.ok (fs.toList.map λf=>(f.offset,P.cellsOf f.type)).toArray w:=by
     intro w;refine Qy _ _ _ λf hf=>?_;obtain⟨i,hi⟩:=Option.isSome_iff_exists.1 (jC f hf);simp[cz hi]
    simp only[Instr.build,run_bind,jP hz,andThen_ok,aR hu,RX];rw[En (fs:=fs) ?_ ps.toList z.cells r h]
    ·rfl
    ·intro i f hf;simp[hf]
   ·cases h
end Go.aO
namespace Go.aO
open Go.RowKit
variable {C:Ctx} {a:Act} {wa:World} {st:St} {u:UW} {θ:Nat->Nat}
theorem aq{c:Bool}{A:Prop}(h:(bif c then A else False)):c=true/\A:=by cases c<;>simp_all
theorem bc{P:Program}{o:Oper}{r:Value}{wb:World}{next:Act->World->Prop}{Q:Exit->Act->World->Prop}(h:(execOp a.eval o).run P wa=.ok (.value r) wb)(hn:next (a.put o.dst r) wb):
  o.uponIn Fence.wide 0 P a next Q ((execOp a.eval o).run P wa):=by rw[h];exact hn
theorem Ew{P:Program}{o:Oper}{wb:World}{next:Act->World->Prop}{Q:Exit->Act->World->Prop}(h:(execOp a.eval o).run P wa=.ok .skip wb)(hn:next (a.put o.dst undef) wb):
  o.uponIn Fence.wide 0 P a next Q ((execOp a.eval o).run P wa):=by rw[h];exact hn
theorem Bw:∀{k1 k2:List K1} {x1 x2 y1 y2:List Value} {r:Bool},x1.length=k1.length->y1.length=k1.length->eqs (k1++k2) (x1++x2) (y1++y2)=some r->
  ∃r1 r2,eqs k1 x1 y1=some r1/\eqs k2 x2 y2=some r2/\r=(r1&&r2)
 |[],k2,[],x2,[],y2,r,_,_,h=>⟨true,r,rfl,h,by simp⟩
 |k::k1,k2,x::x1,x2,y::y1,y2,r,hx,hy,h=>by
  simp only[length_cons,Nat.add_right_cancel_iff]at hx hy
  have key:∀(b:Bool) (r':Bool),(match eqs (k1++k2) (x1++x2) (y1++y2)with|some r=>some (b&&r)|none=>none)=some r'->
    ∃r1 r2,eqs k1 x1 y1=some r1/\eqs k2 x2 y2=some r2/\r'=(b&&r1&&r2):=by
   intro b r' h;cases he:eqs (k1++k2) (x1++x2) (y1++y2)with
   |none=>simp[he]at h
   |some r0=>
    obtain⟨r1,r2,e1,e2,e3⟩:=Bw hx hy he;simp only[he,Option.some.injEq]at h;exact⟨r1,r2,e1,e2,by rw[<- h,e3,Bool.and_assoc]⟩
  simp only[List.cons_append]at h;cases k with
  |int kk=>
   cases x<;>first|(simp[eqs]at h;done)|skip
   cases y<;>first|(simp[eqs]at h;done)|skip
   rename_i ka a kb b;simp only[eqs,cond_eq_ite]at h;split at h
   ·rename_i hk;obtain⟨r1,r2,e1,e2,e3⟩:=key _ _ h;exact⟨(a == b)&&r1,r2,by simp only[eqs,hk,cond_true,e1],e2,e3⟩
   ·cases h
  |bool=>
   cases x<;>first|(simp[eqs]at h;done)|skip
   cases y<;>first|(simp[eqs]at h;done)|skip
   rename_i a b;simp only[eqs]at h;obtain⟨r1,r2,e1,e2,e3⟩:=key _ _ h;exact⟨(a == b)&&r1,r2,by simp only[eqs,e1],e2,e3⟩
  |str=>
   cases x<;>first|(simp[eqs]at h;done)|skip
   cases y<;>first|(simp[eqs]at h;done)|skip
   rename_i a b;simp only[eqs]at h;obtain⟨r1,r2,e1,e2,e3⟩:=key _ _ h;exact⟨aK a b&&r1,r2,by simp only[eqs,e1],e2,e3⟩
  |slice=>simp[eqs]at h
  |ptr=>simp[eqs]at h
  |fn=>simp[eqs]at h
  |map=>simp[eqs]at h
  |val=>simp[eqs]at h
 |_::_,_,[],_,_,_,_,hx,_,_=>by simp at hx
 |_::_,_,_::_,_,[],_,_,_,hy,_=>by simp at hy
 |[],_,_::_,_,_,_,_,hx,_,_=>by simp at hx
 |[],_,[],_,_::_,_,_,_,hy,_=>by simp at hy
theorem gC{P:Program}{w:World}{t:TypeId}{d:TypeDesc}{cs:Array Value}{o:Nat}(hd:P.underlying t=some d)(mR:dq P t=true):
  (part t cs o).run P w=.ok (.agg (cs.extract o (o+P.cellsOf t))) w:=by
 obtain⟨i,hi⟩:=gW hd;simp only[part,run_bind,ll hd,mR,if_true,andThen_ok,cz hi,run_pure]
theorem iO{P:Program}{w:World}{t:TypeId}{d:TypeDesc}{cs:Array Value}{o:Nat}{v:Value}(hd:P.underlying t=some d)(mR:dq P t=false)(hv:cs[o]?=some v):
  (part t cs o).run P w=.ok v w:=by
 simp only[part,run_bind,ll hd,mR,false_eq_true,if_false,andThen_ok,hv,run_pure]
theorem LL{P:Program}{w:World}{e:TypeId}{cs:Array Value}{off:Nat}{v:Value}(hv:OQ P e off cs.toList=some v):(part e cs off).run P w=.ok v w:=by
 unfold OQ at hv;simp only[cond_eq_ite,and_eq_true,ble_eq]at hv;split at hv
 ·rename_i hc;obtain⟨hi,hle⟩:=hc;obtain⟨d,Xk⟩:=Option.isSome_iff_exists.1 hi;split at hv
  ·rename_i mR;simp only[Option.some.injEq]at hv;rw[gC Xk mR,<- hv];congr 2;apply Array.toList_inj.1;rw[Array.toList_extract,List.extract_eq_take_drop];simp
  ·rename_i mR;simp only[Bool.not_eq_true]at mR;exact iO Xk mR (v:=v) (by simpa using hv)
 ·cases hv
theorem Bx{l:List Value}{o n:Nat}(h:o+(n+1)<=l.length):(l.drop o).take (n+1)=l[o]'(by omega)::(l.drop (o+1)).take n:=by
 rw[drop_eq_getElem_cons (by omega),List.take_succ_cons]
theorem Hu{xs:Array Value}{o:Nat}(h:o+1<=xs.size):(xs.toList.drop o).take 1=[xs[o]'(by omega)]:=by
 rw[Bx (n:=0) (by simpa using h)];simp
theorem MK{P:Program}{w:World}:∀(f:Nat) (t:TypeId) (ks:List K1),CQ P f t=some ks->∀(d:Nat),f<=d->∀(xs ys:Array Value) (o:Nat) (r:Bool),o+ks.length<=xs.size->o+ks.length<=ys.size->
  eqs ks ((xs.toList.drop o).take ks.length) ((ys.toList.drop o).take ks.length)=some r->
  ∃x y,(part t xs o).run P w=.ok x w/\(part t ys o).run P w=.ok y w/\(Op.equalIn d t x y).run P w=.ok r w
 |0,t,ks,h,_,_,_,_,_,_,_,_,_=>by simp[CQ]at h
 |f+1,t,ks,h,d,hd,xs,ys,o,r,hx,hy,hr=>by
  obtain⟨d,rfl⟩:∃d',d=d'+1:=⟨d-1,by omega⟩
  simp only[CQ]at h;cases hu:P.underlying t with
  |none=>simp[hu]at h
  |some D=>
   have Kr:∀k:K1,ks=[k]->dq P t=false->(∀x y,eqs [k] [x] [y]=some r->(Op.equalIn (d+1) t x y).run P w=.ok r w)->
     ∃x y,(part t xs o).run P w=.ok x w/\(part t ys o).run P w=.ok y w/\(Op.equalIn (d+1) t x y).run P w=.ok r w:=by
    rintro k rfl mR hk;simp only[List.length_singleton]at hx hy hr;rw[Hu hx,Hu hy]at hr;exact⟨xs[o],ys[o],iO hu mR (getElem?_eq_getElem (by omega)),iO hu mR (getElem?_eq_getElem (by omega)),hk _ _ hr⟩
   cases D<;>simp only[hu]at h<;>try (cases h;done)
   ·simp only[Option.some.injEq]at h;refine Kr _ h.symm (by simp[dq,hu]) λx y DO=>?_;cases x<;>first|(simp[eqs]at DO;done)|skip
    cases y<;>first|(simp[eqs]at DO;done)|skip
    simp only[eqs]at DO;simp only[Option.some.injEq,Bool.and_true]at DO;rw[run_equalIn_bool' w d t _ _ hu,DO]
   ·rename_i k;simp only[Option.some.injEq]at h;refine Kr _ h.symm (by simp[dq,hu]) λx y DO=>?_;cases x<;>first|(simp[eqs]at DO;done)|skip
    cases y<;>first|(simp[eqs]at DO;done)|skip
    simp only[eqs]at DO;rename_i ka a kb b;simp only[cond_eq_ite]at DO;split at DO
    ·rename_i hk;simp only[decide_eq_true_eq]at hk;subst hk;simp only[Option.some.injEq,Bool.and_true]at DO;rw[run_equalIn_int w d t _ _ _ _ hu,DO]
    ·cases DO
   ·simp only[Option.some.injEq]at h;refine Kr _ h.symm (by simp[dq,hu]) λx y DO=>?_;cases x<;>first|(simp[eqs]at DO;done)|skip
    cases y<;>first|(simp[eqs]at DO;done)|skip
    simp only[eqs]at DO;simp only[Option.some.injEq,Bool.and_true]at DO;rw[run_equalIn_string w d t _ _ hu,<- DO];rfl
   ·rename_i fs;simp only[cond_eq_ite]at h;split at h
    ·cases h
    ·rename_i fK;simp only[Bool.not_eq_true]at fK;cases zc:IA (CQ P f) 0 fs.toList with
     |none=>simp[zc]at h
     |some l=>
      simp only[zc,beq_iff]at h;split at h
      ·rename_i hlen;simp only[Option.some.injEq]at h;subst h;have mR:dq P t=true:=by simp[dq,hu]
       have hfo:P.fieldsOf t=fs:=by simp[Program.fieldsOf,hu]
       have gp:P.underlying t=some (.struct (P.fieldsOf t)):=by rw[hfo];exact hu
       refine⟨_,_,gC hu mR,gC hu mR,?_⟩;rw[run_equalIn_struct w d t _ _ gp fK,hfo];have hX:∀zs:Array Value,o+l.length<=zs.size->(zs.extract o (o+P.cellsOf t)).toList=(zs.toList.drop o).take l.length:=by
        intro zs hz;rw[Array.toList_extract,hlen];simp[List.extract_eq_take_drop]
       have key:∀(gs:List Field) (a:Nat) (l':List K1) (X Y:Array Value) (r:Bool),IA (CQ P f) a gs=some l'->a+l'.length=X.size->a+l'.length=Y.size->
         eqs l' (X.toList.drop a) (Y.toList.drop a)=some r->(Op.eqFields d X Y gs).run P w=.ok r w:=by
        intro gs;induction gs with
        |nil=>
         intro a l' X Y r h1 h2 h3 h4;simp only[IA,Option.some.injEq]at h1;subst h1;simp only[length_nil,Nat.add_zero]at h2 h3;rw[List.drop_of_length_le (by simp;omega),List.drop_of_length_le (by simp;omega)]at h4;simp only[eqs,Option.some.injEq]at h4;subst h4;simp[Op.eqFields]
        |cons g gs ih=>
         intro a l' X Y r h1 h2 h3 h4;simp only[IA]at h1;cases hg:CQ P f g.type with
         |none=>simp[hg]at h1
         |some lg=>
          simp only[hg,cond_eq_ite,and_eq_true,decide_eq_true_eq,beq_iff]at h1;split at h1
          ·rename_i RW;obtain⟨RW,ahc⟩:=RW;cases xu:IA (CQ P f) (a+lg.length) gs with
           |none=>simp[xu]at h1
           |some lr=>
            simp only[xu,Option.some.injEq]at h1;subst h1;simp only[List.length_append]at h2 h3;have sp:∀Z:Array Value,a+(lg.length+lr.length)=Z.size->Z.toList.drop a=(Z.toList.drop a).take lg.length++Z.toList.drop (a+lg.length):=by
             intro Z hZ;rw[<- List.drop_drop];exact(List.take_append_drop _ _).symm
            rw[sp X h2,sp Y h3]at h4;obtain⟨r1,r2,e1,e2,e3⟩:=Bw (by simp;omega) (by simp;omega) h4;obtain⟨x,y,p1,p2,p3⟩:=MK (w:=w) f g.type lg hg d (by omega) X Y a r1 (by omega) (by omega) e1;have jm:=ih (a+lg.length) lr X Y r2 xu (by omega) (by omega) e2;simp only[Op.eqFields];rw[if_pos RW];rw[ahc];simp only[run_bind,p1,andThen_ok,p2,p3];cases r1
            ·simp[e3]
            ·simp[e3,jm]
          ·cases h1
       refine key fs.toList 0 l _ _ r zc ?_ ?_ ?_
       ·simp;omega
       ·simp;omega
       ·rw[drop_zero,drop_zero,hX xs hx,hX ys hy];exact hr
      ·cases h
theorem Ik{P:Program}{op:BinOp}{t:TypeId}{x y:Value}(X Y:Operand)(w:World)(h1:x≠ .nilIface)(h2:∀c,x≠ .agg c):(eqGuard op t X Y x y).run P w=.ok () w:=by
 cases x<;>first|exact absurd rfl h1|exact absurd rfl (h2 _)|(cases op<;>rfl)
theorem Fg{P:Program}{op:BinOp}{t:TypeId}{k:IntKind}{i j:Int}{K:Value->Prop}(h:xq op k i j K):
  ∃v,plain v=true/\K v/\∀w,(binOp op t (.int k i) (.int k j)).run P w=.ok v w:=by
 cases op<;>simp only[xq]at h<;>try (exact h.elim)
 case quo=>exact⟨_,rfl,h.2,λw=>by simp[binOp,Op.intDiv,h.1]⟩
 case rem=>exact⟨_,rfl,h.2,λw=>by simp[binOp,Op.intDiv,h.1]⟩
 all_goals exact⟨_,rfl,h,λw=>by simp[binOp,Op.intArith,Op.intCmp]⟩
theorem EE{P:Program}{op:BinOp}{t:TypeId}{i j:ByteArray}{K:Value->Prop}(h:Ac op i j K):
  ∃v,plain v=true/\K v/\∀w,(binOp op t (.string i) (.string j)).run P w=.ok v w:=by
 cases op<;>simp only[Ac]at h<;>try (exact h.elim)
 case add=>
  have hm:¬(((i.size+j.size:Nat):Int)>IntKind.i64.max):=by
   have:IntKind.i64.max=9223372036854775807:=by decide
   rw[this];omega
  exact⟨_,rfl,h.2,λw=>by simp only[binOp,Op.stringOp];rw[if_neg hm];rfl⟩
 all_goals exact⟨_,rfl,h,λ_=>rfl⟩
theorem UE{P:Program}{t:TypeId}{x y:Value}{r:Bool}{w:World}(hx:∀k i,x≠ .int k i)(hf:∀k i,x≠ .float k i)(hc:∀k i j,x≠ .complex k i j)(hs:∀s,x≠ .string s)
  (h:(Op.equalIn 10000 t x y).run P w=.ok r w):(binOp .eql t x y).run P w=.ok (.bool r) w/\(binOp .neq t x y).run P w=.ok (.bool (!r)) w:=by
 have h':(Op.equal t x y).run P w=.ok r w:=h;cases x<;>first|exact absurd rfl (hx _ _)|exact absurd rfl (hf _ _)|exact absurd rfl (hc _ _ _)|exact absurd rfl (hs _)|
  exact⟨by simp only[binOp,run_bind,h',andThen_ok,run_pure],by simp only[binOp,run_bind,h',andThen_ok,run_pure]⟩
theorem Iz{P:Program}{t e:TypeId}(hu:P.underlying t=some (.pointer e))(d:Nat)(a:Option Addr)(w:World):(Op.equalIn (d+1) t (.pointer a) (.pointer none)).run P w=.ok a.isNone w:=by
 cases a<;>simp[Op.equalIn,aR hu]
theorem CP{P:Program}{t e:TypeId}(hu:P.underlying t=some (.slice e))(d:Nat)(a:Option Addr)(n c n' c':Nat)(w:World):(Op.equalIn (d+1) t (.slice a n c) (.slice none n' c')).run P w=.ok a.isNone w:=by
 cases a<;>simp[Op.equalIn,aR hu]
theorem FI{P:Program}{t:TypeId}{p r:Array TypeId}{v:Bool}(hu:P.underlying t=some (.func p r v))(d:Nat)(f:Fn)(a b:Array Value)(w:World):(Op.equalIn (d+1) t (.func f a b) .nilFunc).run P w=.ok false w:=by
 simp[Op.equalIn,aR hu]
theorem V_{P:Program}{f:Nat}{t:TypeId}{ks:List K1}(qG:CQ P (f+1) t=some ks)(mR:dq P t=true):ks.length=P.cellsOf t:=by
 simp only[CQ]at qG;cases hu:P.underlying t with
 |none=>simp[hu]at qG
 |some d=>
  cases d<;>simp only[hu]at qG<;>simp only[dq,hu]at mR<;>try (cases mR;done)
  ·cases qG
  ·rename_i fs;simp only[cond_eq_ite]at qG;split at qG
   ·cases qG
   ·cases zc:IA (CQ P f) 0 fs.toList with
    |none=>simp[zc]at qG
    |some l=>
     simp only[zc,beq_iff]at qG;split at qG
     ·rename_i hl;simp only[Option.some.injEq]at qG;subst qG;exact hl
     ·cases qG
def XN(op:BinOp)(K:Value->Prop)(r:Bool):Prop:=
 match op with
 | .eql=>K (.bool r)
 | .neq=>K (.bool (!r))
 |_=>False
theorem Lc{P:Program}{op:BinOp}{t:TypeId}{x y:Value}{K:Value->Prop}(h:pM P op t x y K):
  (∃k a b,x=.int k a/\y=.int k b/\xq op k a b K)\/(∃a b,x=.string a/\y=.string b/\Ac op a b K)\/
  (∃a b,x=.bool a/\y=.bool b/\P.underlying t=some .bool/\XN op K (a == b))\/
  (∃a b ks r,x=.agg a/\y=.agg b/\CQ P 8 t=some ks/\ks.length=a.size/\ks.length=b.size/\P.eqGuardType P.depth t=false/\dq P t=true/\eqs ks a.toList b.toList=some r/\XN op K r)\/
  (∃a e,x=.pointer a/\y=.pointer none/\P.underlying t=some (.pointer e)/\XN op K a.isNone)\/
  (∃a n c n' c' e,x=.slice a n c/\y=.slice none n' c'/\P.underlying t=some (.slice e)/\XN op K a.isNone)\/
  (∃f a b p r v,x=.func f a b/\y=.nilFunc/\P.underlying t=some (.func p r v)/\XN op K false):=by
 cases x with
 |int k i=>
  cases y<;>first|exact(show False from h).elim|skip
  obtain⟨hk,h'⟩:=aq (show(bif decide (_=_)then xq op _ _ _ K else False)from h);simp only[decide_eq_true_eq]at hk;subst hk;exact .inl ⟨_,_,_,rfl,rfl,h'⟩
 |string s=>
  cases y<;>first|exact(show False from h).elim|skip
  exact .inr (.inl ⟨_,_,rfl,rfl,h⟩)
 |bool i=>
  cases y<;>first|exact(show False from h).elim|skip
  simp only[pM]at h;cases hu:P.underlying t with
  |none=>simp only[hu]at h
  |some d=>
   cases d<;>simp only[hu]at h;exact .inr (.inr (.inl ⟨_,_,rfl,rfl,rfl,h⟩))
 |agg i=>
  cases y<;>first|exact(show False from h).elim|skip
  rename_i j;simp only[pM]at h;cases qG:CQ P 8 t with
  |none=>simp only[qG]at h
  |some ks=>
   simp only[qG]at h;obtain⟨hc,h⟩:=aq h;simp only[and_eq_true,beq_iff,not_eq_true']at hc;obtain⟨⟨⟨ha,hb⟩,hg⟩,mR⟩:=hc;cases hr:eqs ks i.toList j.toList with
   |none=>simp only[hr]at h
   |some r=>
    simp only[hr]at h;exact .inr (.inr (.inr (.inl ⟨_,_,_,_,rfl,rfl,rfl,ha,hb,hg,mR,hr,h⟩)))
 |pointer i=>
  cases y<;>first|exact(show False from h).elim|skip
  rename_i j;cases j with
  |some j=>exact(show False from h).elim
  |none=>
   simp only[pM]at h;cases hu:P.underlying t with
   |none=>simp only[hu]at h
   |some d=>
    cases d<;>simp only[hu]at h;exact .inr (.inr (.inr (.inr (.inl ⟨_,_,rfl,rfl,rfl,h⟩))))
 |slice i n c=>
  cases y<;>first|exact(show False from h).elim|skip
  rename_i j n' c';cases j with
  |some j=>exact(show False from h).elim
  |none=>
   simp only[pM]at h;cases hu:P.underlying t with
   |none=>simp only[hu]at h
   |some d=>
    cases d<;>simp only[hu]at h;exact .inr (.inr (.inr (.inr (.inr (.inl ⟨_,_,_,_,_,_,rfl,rfl,rfl,h⟩)))))
 |func f i j=>
  cases y<;>first|exact(show False from h).elim|skip
  simp only[pM]at h;cases hu:P.underlying t with
  |none=>simp only[hu]at h
  |some d=>
   cases d<;>simp only[hu]at h;exact .inr (.inr (.inr (.inr (.inr (.inr ⟨_,_,_,_,_,_,rfl,rfl,rfl,h⟩)))))
 |_=>exact(show False from h).elim
theorem BE{P:Program}{op:BinOp}{t:TypeId}{x y:Value}{K:Value->Prop}(h:pM P op t x y K)(X Y:Operand):
  plain x=true/\plain y=true/\∃v,plain v=true/\K v/\∀w,(do eqGuard op t X Y x y;binOp op t x y:Sem Value).run P w=.ok v w:=by
 have close:∀{v:Value},x≠ .nilIface->(∀c,x≠ .agg c)->plain v=true->K v->(∀w,(binOp op t x y).run P w=.ok v w)->
   ∃v,plain v=true/\K v/\∀w,(do eqGuard op t X Y x y;binOp op t x y:Sem Value).run P w=.ok v w:=by
  intro v h1 h2 hp hK hr;exact⟨v,hp,hK,λw=>by simp only[run_bind,Ik X Y w h1 h2,andThen_ok,hr]⟩
 have two:∀{r:Bool},x≠ .nilIface->(∀c,x≠ .agg c)->(∀k i,x≠ .int k i)->(∀k i,x≠ .float k i)->(∀k i j,x≠ .complex k i j)->(∀s,x≠ .string s)->(∀w,(Op.equalIn 10000 t x y).run P w=.ok r w)->
   XN op K r->∃v,plain v=true/\K v/\∀w,(do eqGuard op t X Y x y;binOp op t x y:Sem Value).run P w=.ok v w:=by
  intro r h1 h2 h3 h4 h5 h6 hr hK;have hh:=λw=>UE h3 h4 h5 h6 (hr w);cases op<;>simp only[XN]at hK
  ·exact close h1 h2 rfl hK λw=>(hh w).1
  ·exact close h1 h2 rfl hK λw=>(hh w).2
 have hc:=Lc h;clear h;rcases hc with⟨k,a,b,rfl,rfl,h⟩|⟨a,b,rfl,rfl,h⟩|⟨a,b,rfl,rfl,hu,h⟩|⟨a,b,ks,r,rfl,rfl,qG,ha,hb,hg,mR,hr,h⟩|⟨a,e,rfl,rfl,hu,h⟩|⟨a,n,c,n',c',e,rfl,rfl,hu,h⟩|⟨f,a,b,p,r,v,rfl,rfl,hu,h⟩
 ·obtain⟨v,hp,hK,hr⟩:=Fg (P:=P) (t:=t) h;exact⟨rfl,rfl,close (by simp) (by simp) hp hK hr⟩
 ·obtain⟨v,hp,hK,hr⟩:=EE (P:=P) (t:=t) h;exact⟨rfl,rfl,close (by simp) (by simp) hp hK hr⟩
 ·exact⟨rfl,rfl,two (by simp) (by simp) (by simp) (by simp) (by simp) (by simp) (λw=>run_equalIn_bool' w 9999 t a b hu) h⟩
 ·refine⟨rfl,rfl,?_⟩;have CD:eqs ks ((a.toList.drop 0).take ks.length) ((b.toList.drop 0).take ks.length)=some r:=by
   rw[drop_zero,drop_zero,take_of_length_le (by simp;omega),take_of_length_le (by simp;omega)];exact hr
  have p3:∀w,(Op.equalIn 10000 t (.agg a) (.agg b)).run P w=.ok r w:=by
   intro w;obtain⟨x,y,p1,p2,p3⟩:=MK (w:=w) 8 t ks qG 10000 (by omega) a b 0 r (by omega) (by omega) CD;have hu:∃d,P.underlying t=some d:=by
    unfold dq at mR;cases hu:P.underlying t with
    |none=>simp[hu]at mR
    |some d=>exact⟨d,rfl⟩
   obtain⟨d,hu⟩:=hu;have aho:ks.length=P.cellsOf t:=V_ qG mR;rw[gC hu mR]at p1 p2;simp only[Result.ok.injEq,and_true]at p1 p2;subst p1 p2;rw[<- aho,zero_add]at p3;have hA:a.extract 0 ks.length=a:=by rw[ha];simp
   have hB:b.extract 0 ks.length=b:=by rw[hb];simp
   rw[hA,hB]at p3;exact p3
  cases op<;>simp only[XN]at h
  ·exact⟨_,rfl,h,λw=>by simp only[run_bind,run_eqGuard_agg w _ t X Y a b hg,andThen_ok,run_eql_struct,p3]⟩
  ·exact⟨_,rfl,h,λw=>by simp only[run_bind,run_eqGuard_agg w _ t X Y a b hg,andThen_ok,run_neq_struct,p3]⟩
 ·exact⟨rfl,rfl,two (r:=a.isNone) (by simp) (by simp) (by simp) (by simp) (by simp) (by simp) (λw=>Iz hu 9999 a w) h⟩
 ·exact⟨rfl,rfl,two (r:=a.isNone) (by simp) (by simp) (by simp) (by simp) (by simp) (by simp) (λw=>CP hu 9999 a n c n' c' w) h⟩
 ·exact⟨rfl,rfl,two (r:=false) (by simp) (by simp) (by simp) (by simp) (by simp) (by simp) (λw=>FI hu 9999 f a b w) h⟩
end Go.aO
namespace Go.aO
open Go.RowKit
section
variable {E:Env} {C:Ctx} {a:Act} {wa:World} {st:St} {u:UW} {θ:Nat->Nat} {fz:List Nat} {o:Oper} {K:St->UW->Prop} {Q:Exit->Act->World->Prop}
def sM(E:Env)(C:Ctx)(fz:List Nat)(o:Oper)(st:St)(θ:Nat->Nat)(K:St->UW->Prop)(Q:Exit->Act->World->Prop)(a:Act)(wa:World):Prop:=
 o.uponIn Fence.wide 0 E.P a (Ni C fz o st θ (im E.fj o) K) Q ((execOp a.eval o).run E.P wa)
theorem Qx{x:Operand}(ho:o.op=.move x\/o.op=.assign x)(aG:br C.n o=true)(hI:Inv C a wa st u θ)(h:K (fin o st (ev st.σ x)) u):sM E C fz o st θ K Q a wa:=by
 have hx:cY C.n x=true:=lp aG (by rcases ho with ho|ho<;>simp[ho,Op.operands]);refine bc (r:=a.eval x) (wb:=wa) (by rcases ho with ho|ho<;>simp[execOp,ho]) ?_;exact lF aG hI (FH hI hx) (λk o' e=>(kJ hI hx e).2) h
theorem Yr{c x y:Operand}(ho:o.op=.pick c x y)(aG:br C.n o=true)(hI:Inv C a wa st u θ){t:Bool}(hc:ev st.σ c=.bool t)(h:ab t (K (fin o st (ev st.σ x)) u) (K (fin o st (ev st.σ y)) u)):
  sM E C fz o st θ K Q a wa:=by
 have hxc:cY C.n c=true:=lp aG (by simp[ho,Op.operands]);have hx:cY C.n x=true:=lp aG (by simp[ho,Op.operands]);have hy:cY C.n y=true:=lp aG (by simp[ho,Op.operands]);have hec:=bd hI hxc hc rfl;cases t with
 |true=>
  refine bc (r:=a.eval x) (wb:=wa) (by simp[execOp,ho,hec,asBool]) ?_;exact lF aG hI (FH hI hx) (λk o' e=>(kJ hI hx e).2) h
 |false=>
  refine bc (r:=a.eval y) (wb:=wa) (by simp[execOp,ho,hec,asBool]) ?_;exact lF aG hI (FH hI hy) (λk o' e=>(kJ hI hy e).2) h
theorem qE{D:List (Nat×Nat)}{k:Nat}(h:nL D k=false):∀m,(k,m)∉D:=by
 intro m hm;have:=On.2 ⟨m,hm⟩;rw[h]at this;cases this
theorem QJ{k:Nat}{cs:List Value}(hk:k<C.n)(hn:C.n<=65536)(hd:o.dst=some k)(hb:nL st.D k=false)(fH:∀k m,(k,m)∈st.D->m<=65536)(nN:cs.length<=65536)(m':Nat):
  cB C.n fz o.dst.toList st {st with σ:=rn (i_ st.σ k (dM k 0)) k 0 cs,D:=(k,m')::st.D} where
 slot:=λi hi Oz=>by
  rw[hd]at Oz
  simp only[Option.toList,List.mem_singleton]at Oz
  simp only
  rw[gS _ _ _ (by omega),cf _ _ Oz]
 D:=λx hx=>by simp[hx]
 fz:=λk' cj m hm j hj=>by
  have aZ:k'≠k:=λe=>qE hb m (e▸hm)
  have:=fH k' m hm
  simp only
  rw[dE,cf]
  ·have:=jn k' j;omega
  ·intro i _ hi e
   exact aZ (iU (by omega) (by omega) e).1
theorem Hj{k:Nat}{cs:Array Value}{T:TypeId}(lq:im E.fj o=true)(aG:br C.n o=true)(hI:Inv C a wa st u θ)(hd:o.dst=some k)
  (jd:(execOp a.eval o).run E.P wa=.ok (.value (.pointer (some ⟨wa.heap.size,0,none⟩))) (wa.alloc (.cells cs T (0,0))))
  (h:(bif !nL st.D k&& !cK fz k&&eG cs.toList&&ble cs.size 65536 then K {st with σ:=rn (i_ st.σ k (dM k 0)) k 0 cs.toList,D:=(k,cs.size)::st.D} u else False)):
  sM E C fz o st θ K Q a wa:=by
 obtain⟨hc,h⟩:=aq h;simp only[and_eq_true,not_eq_true',ble_eq]at hc;obtain⟨⟨⟨h1,h2⟩,h3⟩,h4⟩:=hc;have hk:=eh aG k hd;refine bc jd ?_;rw[hd];exact⟨_,_,_,hI.YS hk (qE h1) (λv hv=>(nV h3 v hv).1) h4,QJ hk hI.jc hd h1 (λk m hm=>(hI.boxes k m hm).1) (by simpa using h4) _,λk' m hm=>by(have aZ:k'≠k:=λe=>qE h1 m (e▸hm));exact if_neg aZ,λhn=>(by rw[lq]at hn;cases hn),h⟩
theorem Hi{cs:Array Value}{T:TypeId}(aG:br C.n o=true)(hI:Inv C a wa st u θ)
  (jd:(execOp a.eval o).run E.P wa=.ok (.value (.pointer (some ⟨wa.heap.size,0,none⟩))) (wa.alloc (.cells cs T (0,0))))
  (h:∀(b:Nat) (w':World),rl u.toWorld w' b (.cells cs T (0,0))->K (fin o st (.pointer (some ⟨b,0,none⟩))) (u.born b w')):sM E C fz o st θ K Q a wa:=by
 obtain⟨w',hb,dK⟩:=hI.born (.cells cs T (0,0));exact bc jd (aS aG dK rfl (h _ _ hb))
theorem Ds{t:TypeId}{z:Value}{P:Program}{w:World}(hz:(P.info? t).bind (·.zero)=some z):(Instr.alloc t true (.tuple #[])).run P w=.ok (.pointer (some ⟨w.heap.size,0,none⟩)) (w.alloc (.cells z.cells t (0,0))):=by
 simp only[Instr.alloc,run_bind,jP hz,andThen_ok,newVar,newRow,run_newObj,run_pure];rfl
theorem LM{t:TypeId}{v:Value}{P:Program}{w:World}:(Instr.box t v).run P w=.ok (.pointer (some ⟨w.heap.size,0,none⟩)) (w.alloc (.cells v.cells t (0,0))):=by
 simp only[Instr.box,run_bind,andThen_ok,newVar,newRow,run_newObj,run_pure];rfl
theorem Ys{t:TypeId}{x:Operand}{ks:List K1}(ho:o.op=.load t x)(aG:br C.n o=true)(hI:Inv C a wa st u θ)(hk:kinds E.P t=some ks)
  (h:match ev st.σ x with
   | .complex .f64 k off=>match eX st.D k with
     |some m=>bif ble (off+ks.length) m&&eG (wR st.σ k off ks.length)then K (fin o st (Fb (dq E.P t) (wR st.σ k off ks.length))) u else False
     |none=>False
   |v=>dL v λb off=>exL ks λvs=>rd u.heap b off ks.length=some vs/\K (fin o st (Fb (dq E.P t) vs)) u):sM E C fz o st θ K Q a wa:=by
 have hx:cY C.n x=true:=lp aG (by simp[ho,Op.operands]);obtain⟨zH,⟨d,hu⟩,tK⟩:=lO hk;split at h
 ·rename_i k off he;cases hb:eX st.D k with
  |none=>simp only[hb]at h
  |some m=>
   simp only[hb]at h;obtain⟨hc,h⟩:=aq h;simp only[and_eq_true,ble_eq]at hc;obtain⟨h1,h2⟩:=hc;obtain⟨_,c,T,b1,b2,b3,_⟩:=hI.boxes k m (j_ hb);have hp:=nV h2;have kY:=(kJ hI hx he).1;have Bh:=ik b2 b3 ks.length off h1 hp;refine bc (r:=Fb (dq E.P t) (wR st.σ k off ks.length)) (wb:=wa) ?_ (aS aG hI (nI hp (tK.imp id λh=>by rw[tg];exact h)) h);simp only[execOp,ho,kY,Instr.loadAt,Instr.sureAddr,run_bind,run_pure,andThen_ok];rw[ix hk b1 (by omega),Bh];rfl
 ·obtain⟨b,off,hv,h⟩:=gy h;obtain⟨vs,hlen,hp,eR,h⟩:=qP h;have kY:=bd hI hx hv rfl;by_cases hz:ks.length=0
  ·have mR:dq E.P t=true:=tK.resolve_right (by omega);have Fp:vs=[]:=List.eq_nil_of_length_eq_zero (by omega);subst Fp;obtain⟨i,hi⟩:=gW hu;refine bc (r:=Fb (dq E.P t) []) (wb:=wa) ?_ (aS aG hI (by rw[mR];rfl) h);simp only[execOp,ho,kY,Instr.loadAt,Instr.sureAddr,run_bind,run_pure,andThen_ok,loadVar,ll hu,mR,if_true,cz hi,<- zH,hz];rfl
  ·obtain⟨c,T,f,c1,c2,c3⟩:=uW hI.below eR hz;refine bc (r:=Fb (dq E.P t) vs) (wb:=wa) ?_ (aS aG hI (nI hp (tK.imp id λh=>by omega)) h);simp only[execOp,ho,kY,Instr.loadAt,Instr.sureAddr,run_bind,run_pure,andThen_ok];rw[ix hk c1 c2,<- c3];rfl
theorem Dw{b off:Nat}{vs:List Value}{K':UW->Prop}(hI:Inv C a wa st u θ)(h:tX b off vs u K')(aZ:vs≠[]):
  ∃c T w',wa.heap[b]?=some (.cells c T (0,0))/\off+vs.length<=c.size/\Inv C a (ja wa b (.cells (uC c off vs) T (0,0))) st (u.Jh w') θ/\K' (u.Jh w'):=by
 obtain⟨c,T,h1,h2,h3,h4⟩:=h;have bG:b<u.heap.size:=(Array.getElem?_eq_some_iff.1 h1).1;have hwa:wa.heap[b]?=some (.cells c T (0,0)):=by
  rcases hI.below.block b bG with e|e
  ·rw[<- e];exact h1
  ·rw[h1]at e;simp only[Option.some.injEq,Obj.cells.injEq]at e;obtain⟨rfl,_,_⟩:=e;have:vs.length≠0:=λe=>aZ (List.eq_nil_of_length_eq_zero e);rw[Array.size_empty]at h2;omega
 have tJ:b<wa.heap.size:=(Array.getElem?_eq_some_iff.1 hwa).1;refine⟨c,T,ja u.toWorld b (.cells (uC c off vs) T (0,0)),hwa,h2,?_,h4 _ ⟨rfl,rfl,rfl,by rw[e_];exact le_refl _,uQ bG,λc hc _=>kT hc⟩⟩;refine hI.world (F:=λx=>x=b) (λ_ e=>e▸h3) ⟨rfl,rfl,rfl,by rw[e_];exact le_refl _,λc _ hc=>kT hc⟩ ?_ ⟨rfl,rfl,rfl,by show _<=(ja u.toWorld b _).heap.size;rw[e_];exact le_refl _,λc _ hc=>kT hc⟩ ?_ ?_ ?_
 ·refine⟨hI.below.os,hI.below.tape,hI.below.output,?_,λi hc=>?_⟩
  ·show(ja u.toWorld b _).heap.size<=(ja wa b _).heap.size;rw[e_,e_];exact hI.below.size
  ·have sH:i<u.heap.size:=by
    have hh:i<(ja u.toWorld b (.cells (uC c off vs) T (0,0))).heap.size:=hc;rw[e_]at hh;exact hh
   show(ja u.toWorld b _).heap[i]?=(ja wa b _).heap[i]?\/(ja u.toWorld b _).heap[i]?=_;by_cases e:i=b
   ·subst e;rw[uQ bG,uQ tJ];exact .inl rfl
   ·rw[kT e,kT e];exact hI.below.block i sH
 ·intro i h1 h2 h3;have hh:i<(ja u.toWorld b (.cells (uC c off vs) T (0,0))).heap.size:=h3;rw[e_]at hh;omega
 ·intro i hc;rw[e_];exact hI.pC i hc
 ·intro i hc _;exact hc
theorem UC{t:TypeId}{x y:Operand}(ho:o.op=.store t x y)(aG:br C.n o=true)(hI:Inv C a wa st u θ)
  (h:(bif plain (ev st.σ y)&&beq (ev st.σ y).cells.size (E.P.cellsOf t)&&eG (ev st.σ y).cells.toList&&(E.P.info? t).isSome then match ev st.σ x with
   | .complex .f64 k off=>match eX st.D k with
     |some m=>bif ble (off+(ev st.σ y).cells.size) m&& !cK fz k then K {st with σ:=put (rn st.σ k off (ev st.σ y).cells.toList) o.dst undef} u else False
     |none=>False
   |v=>dL v λb off=>tX b off (ev st.σ y).cells.toList u λw'=>K (fin o st undef) w'
   else False)):sM E C fz o st θ K Q a wa:=by
 have hx:cY C.n x=true:=lp aG (by simp[ho,Op.operands]);have hy:cY C.n y=true:=lp aG (by simp[ho,Op.operands]);obtain⟨hc,h⟩:=aq h;simp only[and_eq_true,beq_iff]at hc;obtain⟨⟨⟨hpy,fH⟩,jC⟩,Ia⟩:=hc;obtain⟨i,hi⟩:=Option.isSome_iff_exists.1 Ia;have hp:=nV jC;have XA:=nU hI hy hpy;generalize hvy:ev st.σ y=vy at*
 split at h
 ·rename_i k off he;cases hb:eX st.D k with
  |none=>simp only[hb]at h
  |some m=>
   simp only[hb]at h;obtain⟨hc,h⟩:=aq h;simp only[and_eq_true,ble_eq,not_eq_true']at hc;obtain⟨h1,h2⟩:=hc;have hkm:=j_ hb;obtain⟨c,T,b1,b2,dK⟩:=hI.acd (o:=off) (vs:=vy.cells.toList) hkm (by simpa using h1) (λv hv=>(hp v hv).1);have kY:=(kJ hI hx he).1;refine Ew (wb:=ja wa (θ k) (.cells (uC c off vy.cells.toList) T (0,0))) ?_ ⟨_,_,_,dK.cM o.dst (eh aG) (v:=undef) rfl,?_,λ_ _ _=>rfl,λ_=>rfl,h⟩
   ·simp only[execOp,ho,kY,XA,Instr.storeAt,Instr.sureAddr,run_bind,run_pure,andThen_ok];rw[uS hi fH b1 (by omega) (λv hv=>(hp v hv).2)];rfl
   ·have hP1:cB C.n fz [] st {st with σ:=rn st.σ k off vy.cells.toList}:=by
     refine⟨λi hi _=>?_,λ_ h=>h,λk' cj m' sE j hj=>?_⟩
     ·simp only;rw[gS _ _ _ (lt_of_lt_of_le hi hI.jc)]
     ·have aZ:k'≠k:=λe=>by
       have:=dR.2 (e▸cj);rw[h2]at this;cases this
      simp only;rw[dE];intro i _ hi e;have:=(hI.boxes k' m' sE).1;have:=(hI.boxes k m hkm).1;simp only[length_toList]at hi;exact aZ (iU (by omega) (by omega) e).1
    have hP2:=cB.fin (n:=C.n) (fz:=fz) {st with σ:=rn st.σ k off vy.cells.toList} o.dst (eh aG) hI.jc undef;have:=hP1.trans hP2;simpa using this
 ·obtain⟨b,off,hv,h⟩:=gy h;have kY:=bd hI hx hv rfl;by_cases hz:vy.cells.toList=[]
  ·obtain⟨c,T,h1,h2,h3,h4⟩:=h;rw[hz]at h4;simp only[uC]at h4;have Kl:vy.cells.size=0:=by have:=congrArg List.length hz;simpa using this
   have hS:Sto u.toWorld u.toWorld b (.cells c T (0,0)):=⟨rfl,rfl,rfl,le_refl _,h1,λ_ _ _=>rfl⟩;refine Ew (wb:=wa) ?_ (aS aG (u':=u.Jh u.toWorld) (θ:=θ) ?_ rfl (h4 _ hS))
   ·simp only[execOp,ho,kY,XA,Instr.storeAt,Instr.sureAddr,run_bind,run_pure,andThen_ok,storeVar,cz hi];rw[if_neg (by omega),hz];simp[storeCells]
   ·exact hI
  ·obtain⟨c,T,w',c1,c2,dK,hK⟩:=Dw hI h hz;simp only[length_toList]at c2;refine Ew (wb:=ja wa b (.cells (uC c off vy.cells.toList) T (0,0))) ?_ (aS aG dK rfl hK);simp only[execOp,ho,kY,XA,Instr.storeAt,Instr.sureAddr,run_bind,run_pure,andThen_ok];rw[uS hi fH c1 c2 (λv hv=>(hp v hv).2)];rfl
theorem acu{op:BinOp}{t t':TypeId}{x y:Operand}(ho:o.op=.binOp op t x y t')(aG:br C.n o=true)(hI:Inv C a wa st u θ)(h:pM E.P op t (ev st.σ x) (ev st.σ y) λv=>K (fin o st v) u):
  sM E C fz o st θ K Q a wa:=by
 have hx:cY C.n x=true:=lp aG (by simp[ho,Op.operands]);have hy:cY C.n y=true:=lp aG (by simp[ho,Op.operands]);obtain⟨px,py,v,hp,hK,hr⟩:=BE h x y;refine bc (r:=v) (wb:=wa) ?_ (aS aG hI hp hK);simp only[execOp,ho];rw[nU hI hx px,nU hI hy py];rw[run_bind,hr];rfl
end
end Go.aO
