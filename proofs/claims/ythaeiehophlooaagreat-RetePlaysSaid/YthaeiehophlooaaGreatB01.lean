import Derived.OrdersHeld
import Derived.OrdersIn
import Derived.RangeFuncNested
open Array (getElem?_eq_getElem length_toList replicate)
open Bool (and_eq_true cond_eq_ite false_eq_true not_eq_true' or_eq_true)
open Go.Result (andThen_ok)
open Go.Sem (run_bind run_pure)
open List (all_eq_true drop_eq_getElem_cons drop_zero length_cons length_nil mem_cons range take_of_length_le)
open Nat (beq ble ble_eq blt le_refl le_trans lt_of_lt_of_le zero_add)
set_option linter.all false
namespace Go.aP
open Go.RowKit
abbrev Fr:=Nat->Value
abbrev JN:=Array Obj
@[reducible] def dU(k o:Nat):Value:=.complex .f64 k o
@[reducible] def aU:Value:=.complex .f32 0 0
def plain:Value->Bool
 | .complex _ _ _=>false
 |_=>true
def one:Value->Bool
 | .agg _| .tuple _=>false
 |_=>true
def R(θ:Nat->Nat)(v r:Value):Prop:=
 match v with
 | .complex .f64 k o=>r=.pointer (some ⟨θ k,o,none⟩)
 | .complex .f32 _ _=>True
 |v=>r=v
def iZ{θ:Nat->Nat}{v r:Value}(h:plain v=true):R θ v r↔r=v:=by
 cases v<;>simp_all [R,plain]
def po{θ:Nat->Nat}{v:Value}(h:plain v=true):R θ v v:=(iZ h).2 rfl
def jd(σ:Fr)(t:Nat)(v:Value):Fr:=λi=>bif beq i t then v else σ i
@[simp] theorem fj(σ:Fr)(t:Nat)(v:Value):jd σ t v t=v:=by simp[jd]
def cw(σ:Fr){t i:Nat}(v:Value)(h:i≠t):jd σ t v i=σ i:=by
 have:beq i t=false:=by
  cases e:beq i t with
  |false=>rfl
  |true=>exact absurd (Nat.eq_of_beq_eq_true e) h
 simp[jd,this]
def put(σ:Fr)(d:Option Nat)(v:Value):Fr:=match d with|some t=>jd σ t v|none=>σ
def gx(k j:Nat):Nat:=(k+1)*65536+j
def rG(σ:Fr)(k:Nat):Nat->List Value->Fr
 |_,[]=>σ
 |j,v::e=>rG (jd σ (gx k j) v) k (j+1) e
def xP(σ:Fr)(k:Nat):Nat->Nat->List Value
 |_,0=>[]
 |j,m+1=>σ (gx k j)::xP σ k (j+1) m
def tz(σ:Fr)(k:Nat):∀(m j:Nat),(xP σ k j m).length=m
 |0,_=>rfl
 |m+1,j=>by simp[xP,tz σ k m (j+1)]
def vC(σ:Fr)(k:Nat):∀(m j i:Nat),i<m->(xP σ k j m)[i]?=some (σ (gx k (j+i)))
 |m+1,j,0,_=>by simp[xP]
 |m+1,j,i+1,h=>by
  simp only[xP,List.getElem?_cons_succ]
  rw[vC σ k m (j+1) i (by omega)]
  congr 3;omega
def ev(σ:Fr):Operand->Value
 | .tmp t=>σ t
 | .const v=>v
 | .global g=>.pointer (some ⟨g,0,none⟩)
 | .func f=>.func (.func f) #[] #[]
def rd(H:JN)(b o n:Nat):Option (List Value):=
 match H[b]? with
 |some (.cells c _ _)=>if o+n<=c.size then some ((c.toList.drop o).take n)else none
 |_=>none
inductive K1 where
 |int (k:IntKind)|bool|str|slice|ptr|fn|map|val
 deriving DecidableEq,Inhabited
@[reducible] def K1.T:K1->Type
 | .int _=>Int
 | .bool=>Bool
 | .str=>ByteArray
 | .slice=>Option Addr×Nat×Nat
 | .ptr=>Option Addr
 | .fn=>Fn×Array Value×Array Value
 | .map=>Option Nat
 | .val=>Empty
def K1.v:(k:K1)->k.T->Value
 | .int k,x=>.int k x
 | .bool,x=>.bool x
 | .str,x=>.string x
 | .slice,x=>.slice x.1 x.2.1 x.2.2
 | .ptr,x=>.pointer x
 | .fn,x=>.func x.1 x.2.1 x.2.2
 | .map,x=>.map x
 | .val,x=>Empty.elim x
def K1.get:(k:K1)->Value->Option k.T
 | .int k,.int e x=>if k=e then some x else none
 | .bool,.bool x=>some x
 | .str,.string x=>some x
 | .slice,.slice a n c=>some (a,n,c)
 | .ptr,.pointer x=>some x
 | .fn,.func f a b=>some (f,a,b)
 | .map,.map x=>some x
 |_,_=>none
def K1.Nu{k:K1}{v:Value}{x:k.T}(h:k.get v=some x):v=k.v x:=by
 cases k<;>cases v<;>simp_all [K1.get,K1.v]
 all_goals (first|exact h.2|(subst h;exact⟨rfl,rfl,rfl⟩))
def K1.VI(k:K1)(x:k.T):plain (k.v x)=true:=by cases k<;>first|rfl|exact Empty.elim x
def exK:K1->(Value->Prop)->Prop
 | .int k,F=>∃x:Int,F (.int k x)
 | .bool,F=>∃x:Bool,F (.bool x)
 | .str,F=>∃x:ByteArray,F (.string x)
 | .slice,F=>∃(a:Option Addr) (n c:Nat),F (.slice a n c)
 | .ptr,F=>∃a:Option Addr,F (.pointer a)
 | .fn,F=>∃(f:Fn) (a b:Array Value),F (.func f a b)
 | .map,F=>∃a:Option Nat,F (.map a)
 | .val,_=>False
def exL:List K1->(List Value->Prop)->Prop
 |[],F=>F []
 |k::g,F=>exK k λv=>exL g λe=>F (v::e)
def Ti{k:K1}{F:Value->Prop}(h:exK k F):∃v,plain v=true/\one v=true/\F v:=by
 cases k<;>simp only[exK]at h
 case int=>obtain⟨x,h⟩:=h;exact⟨_,rfl,rfl,h⟩
 case bool=>obtain⟨x,h⟩:=h;exact⟨_,rfl,rfl,h⟩
 case str=>obtain⟨x,h⟩:=h;exact⟨_,rfl,rfl,h⟩
 case slice=>obtain⟨a,n,c,h⟩:=h;exact⟨_,rfl,rfl,h⟩
 case ptr=>obtain⟨x,h⟩:=h;exact⟨_,rfl,rfl,h⟩
 case fn=>obtain⟨f,a,b,h⟩:=h;exact⟨_,rfl,rfl,h⟩
 case map=>obtain⟨x,h⟩:=h;exact⟨_,rfl,rfl,h⟩
def re:∀{g:List K1} {F:List Value->Prop},exL g F->∃e,e.length=g.length/\(∀v∈e,plain v=true/\one v=true)/\F e
 |[],_,h=>⟨[],rfl,by simp,h⟩
 |k::g,F,h=>by
  obtain⟨v,hp,r,h⟩:=Ti h
  obtain⟨e,j,i,h⟩:=re h;exact⟨v::e,by simp[j],by simpa using⟨⟨hp,r⟩,i⟩,h⟩
inductive Kd where
 |one (k:K1)
 |agg (ks:List K1)
 |box (ks:List K1)
 deriving DecidableEq,Inhabited
@[reducible] def TL:List K1->Type
 |[]=>Unit
 |[k]=>k.T
 |k::g::e=>k.T×TL (g::e)
def Mf:(e:List K1)->TL e->List Value
 |[],_=>[]
 |[k],x=>[k.v x]
 |k::g::e,x=>k.v x.1::Mf (g::e) x.2
def kS:(e:List K1)->List Value->Option (TL e)
 |[],[]=>some ()
 |[k],[v]=>k.get v
 |k::h::e,v::g=>match k.get v,kS (h::e) g with
  |some x,some y=>some (x,y)
  |_,_=>none
 |_,_=>none
def GX:∀{e:List K1} {g:List Value} {x:TL e},kS e g=some x->g=Mf e x
 |[],[],_,_=>rfl
 |[],_::_,_,h=>by simp[kS]at h
 |[k],[],_,h=>by simp[kS]at h
 |[k],[v],x,h=>by simp only[kS]at h;simp[Mf,K1.Nu h]
 |[k],v::r::g,_,h=>by simp[kS]at h
 |k::i::e,[],_,h=>by simp[kS]at h
 |k::i::e,v::g,x,h=>by
  simp only[kS]at h
  split at h
  .rename_i a b ha j
   simp only[Option.some.injEq]at h
   subst h
   simp[Mf,K1.Nu ha,GX j]
  .cases h
def uy:∀(e:List K1) (x:TL e),(Mf e x).length=e.length
 |[],_=>rfl
 |[k],x=>rfl
 |k::g::e,x=>by simp[Mf,uy (g::e) x.2]
@[reducible] def Kd.T:Kd->Type
 | .one k=>k.T
 | .agg e=>TL e
 | .box e=>TL e
abbrev Live:=List (Nat×Kd)
@[reducible] def Tup:Live->Type
 |[]=>Unit
 |[x]=>x.2.T
 |x::y::l=>x.2.T×Tup (y::l)
structure St where
 σ:Fr
 D:List (Nat×Nat)
structure UW extends World where
 gk:Nat->Prop
def UW.born(u:UW)(b:Nat)(w':World):UW:=⟨w',λc=>u.gk c\/c=b⟩
def UW.Ka(u:UW)(w':World):UW:=⟨w',u.gk⟩
def UW.ret(u:UW)(lo:Nat)(w':World):UW:=⟨w',λc=>u.gk c\/(lo<=c/\c<w'.heap.size)⟩
def im:List (Nat×Nat)->Nat->Nat->Bool
 |[],_,_=>false
 |(k,m)::D,g,e=>(beq k g&&beq m e)||im D g e
def beq_iff{a b:Nat}:beq a b=true↔a=b:=⟨Nat.eq_of_beq_eq_true,λh=>by subst h;exact Nat.beq_refl a⟩
def pb{D:List (Nat×Nat)}{k m:Nat}:im D k m=true↔(k,m)∈D:=by
 induction D with
 |nil=>simp[im]
 |cons x D e=>
  obtain⟨a,b⟩:=x;simp only[im,or_eq_true,and_eq_true,beq_iff,e,mem_cons,Prod.mk.injEq];constructor
  .rintro(⟨rfl,rfl⟩|h)
   .exact .inl ⟨rfl,rfl⟩
   .exact .inr h
  .rintro(⟨rfl,rfl⟩|h)
   .exact .inl ⟨rfl,rfl⟩
   .exact .inr h
def nY:List (Nat×Nat)->Nat->Bool
 |[],_=>false
 |(k,_)::D,e=>beq k e||nY D e
def OY{D:List (Nat×Nat)}{k:Nat}:nY D k=true↔∃m,(k,m)∈D:=by
 induction D with
 |nil=>simp[nY]
 |cons x D e=>
  obtain⟨a,b⟩:=x;simp only[nY,or_eq_true,beq_iff,e,mem_cons,Prod.mk.injEq];constructor
  .rintro(h|⟨m,h⟩)
   .exact⟨b,.inl ⟨h.symm,rfl⟩⟩
   .exact⟨m,.inr h⟩
  .rintro⟨m,⟨rfl,_⟩|h⟩
   .exact .inl rfl
   .exact .inr ⟨m,h⟩
def zr(st:St):(x:Nat×Kd)->Option x.2.T
 |(t,.one k)=>k.get (st.σ t)
 |(t,.agg e)=>match st.σ t with
  | .agg a=>kS e a.toList
  |_=>none
 |(t,.box e)=>match st.σ t with
  | .complex .f64 k o=>bif (beq k t&&beq o 0)&&im st.D t e.length then kS e (xP st.σ t 0 e.length)else none
  |_=>none
def gd(st:St):(l:Live)->Option (Tup l)
 |[]=>some ()
 |[x]=>zr st x
 |x::y::l=>match zr st x,gd st (y::l)with
  |some a,some b=>some (a,b)
  |_,_=>none
def kO(st:St):(x:Nat×Kd)->x.2.T->St
 |(t,.one k),v=>{st with σ:=jd st.σ t (k.v v)}
 |(t,.agg e),v=>{st with σ:=jd st.σ t (.agg (Mf e v).toArray)}
 |(t,.box e),v=>{st with σ:=rG (jd st.σ t (dU t 0)) t 0 (Mf e v),D:=bif im st.D t e.length then st.D else(t,e.length)::st.D}
def rL(st:St):(l:Live)->Tup l->St
 |[],_=>st
 |[x],v=>kO st x v
 |x::y::l,v=>rL (kO st x v.1) (y::l) v.2
def cT:List Nat->Nat->Bool
 |[],_=>false
 |x::l,y=>beq x y||cT l y
def eg{l:List Nat}{y:Nat}:cT l y=true↔y∈l:=by
 induction l with
 |nil=>simp[cT]
 |cons x l e=>
  simp only[cT,or_eq_true,beq_iff,e,mem_cons];exact⟨λh=>h.imp Eq.symm id,λh=>h.imp Eq.symm id⟩
structure Cut where
 live:Live
 fN:List (Nat×Nat)
def fx(σ:Fr):List (Nat×Nat)->Fr
 |[]=>σ
 |(k,m)::l=>fx (rG (jd σ k (dU k 0)) k 0 (List.replicate m aU)) l
def Sj(v:Value)(k:Nat):Bool:=
 match v with
 | .complex .f64 e o=>beq e k&&beq o 0
 |_=>false
def k_(st:St):List (Nat×Nat)->Bool
 |[]=>true
 |(k,m)::l=>im st.D k m&&Sj (st.σ k) k&&k_ st l
def vD(σ:Fr)(e:List Nat):Fr:=λt=>bif blt t 65536&&cT e t then aU else σ t
def mix(st:St)(e:List Nat)(c:Cut)(x:Tup c.live):St:=
 rL {st with σ:=fx (vD st.σ e) c.fN} c.live x
def ab(c:Bool)(A B:Prop):Prop:=match c with|true=>A|false=>B
def XD{c:Bool}{A B:Prop}:ab c A B↔(c=true->A)/\(c=false->B):=by cases c<;>simp[ab]
def cg{α e:Type}(A:(α->e->Prop)->Prop)(B:α->e->Prop):Prop:=∃J:α->e->Prop,A J/\∀s w,J s w->B s w
def ak{α g:Type}(e:(α->g->Prop)->α->g->Prop)(s:α)(w:g):Prop:=
 ∃I:Nat->α->g->Prop,(∃n,I n s w)/\∀n s w,I n s w->e (λi h=>∃m,m<n/\I m i h) s w
def pv{e:Type}(P:Program):Sem e->Option e
 | .pure a=>some a
 | .program k=>pv P (k P)
 |_=>none
def xS{e:Type}{P:Program}:∀{s:Sem e} {a:e},pv P s=some a->∀w,s.run P w=.ok a w
 | .pure a,b,h,w=>by simp only[pv,Option.some.injEq]at h;subst h;rfl
 | .program k,b,h,w=>by simp only[pv]at h;simp only[Sem.run];exact xS h w
 | .load ..,_,h,_=>by simp[pv]at h
 | .store ..,_,h,_=>by simp[pv]at h
 | .new ..,_,h,_=>by simp[pv]at h
 | .shape ..,_,h,_=>by simp[pv]at h
 | .freeze ..,_,h,_=>by simp[pv]at h
 | .frozen ..,_,h,_=>by simp[pv]at h
 | .getObj ..,_,h,_=>by simp[pv]at h
 | .setObj ..,_,h,_=>by simp[pv]at h
 | .choose ..,_,h,_=>by simp[pv]at h
 | .sys ..,_,h,_=>by simp[pv]at h
 | .mark ..,_,h,_=>by simp[pv]at h
 | .halt ..,_,h,_=>by simp[pv]at h
structure Env where
 P:Program
 n:Nat
 fA:List Nat
 loops:List (Nat×Cut)
 jt:List (Nat×Cut)
 sa:List (Nat×List TypeId):=[]
def look{e:Type}:List (Nat×e)->Nat->Option e
 |[],_=>none
 |(k,x)::l,i=>bif beq k i then some x else look l i
def tS(P:Program):Nat->TypeId->Option (List K1)
 |0,_=>none
 |f+1,t=>match P.underlying t with
  |some (.int k)=>some [.int k]
  |some .bool=>some [.bool]
  |some .string=>some [.str]
  |some (.slice _)=>some [.slice]
  |some (.pointer _)=>some [.ptr]
  |some (.func ..)=>some [.fn]
  |some (.map ..)=>some [.map]
  |some (.struct h)=>h.toList.foldr (λx acc=>match tS P f x.type,acc with|some a,some b=>some (a++b)|_,_=>none) (some [])
  |some (.array n e)=>match tS P f e with
   |some g=>some ((List.replicate n g).flatten)
   |none=>none
  |_=>none
def dx(P:Program)(t:TypeId):Bool:=
 match P.underlying t with
 |some (.struct _)|some (.array _ _)=>true
 |_=>false
def kinds(P:Program)(t:TypeId):Option (List K1):=
 match tS P 8 t with
 |some e=>bif beq e.length (P.cellsOf t)then(bif dx P t||beq e.length 1 then some e else none)else none
 |none=>none
def FW:Bool->List Value->Value
 |true,e=>.agg e.toArray
 |false,[v]=>v
 |_,_=>aU
def exV(P:Program)(t:TypeId)(F:Value->Prop):Prop:=
 match kinds P t with
 |some g=>exL g λe=>F (FW (dx P t) e)
 |none=>False
def LF(P:Program):List TypeId->(List Value->Prop)->Prop
 |[],F=>F []
 |t::g,F=>exV P t λv=>LF P g λe=>F (v::e)
def Qu(P:Program)(t:TypeId)(F:Value->Prop):Prop:=
 match P.underlying t with
 |some (.tuple g)=>LF P g.toList λe=>F (.tuple e.toArray)
 |_=>exV P t F
def Dv(P:Program)(t:TypeId)(f:Nat):Option Nat:=
 match P.underlying t with
 |some (.struct e)=>match e[f]? with
  |some x=>bif beq (P.cellsOf x.type) 0 then none else some x.offset
  |none=>none
 |_=>none
def wm(P:Program)(t:TypeId):Option TypeId:=
 match P.underlying t with
 |some (.slice e)=>some e
 |_=>none
def dT(v:Value)(F:Nat->Nat->Prop):Prop:=
 match v with
 | .pointer (some ⟨b,o,none⟩)=>F b o
 |_=>False
def bh(a:Option Addr)(F:Nat->Nat->Prop):Prop:=
 match a with
 |some ⟨b,o,none⟩=>F b o
 |_=>False
def nn(a:Option Addr)(A:Prop):Prop:=
 match a with
 |some _=>A
 |none=>False
def aG(a b:ByteArray):Bool:=a.toList == b.toList
def bM{a b:ByteArray}:aG a b=true↔a=b:=by
 unfold aG;rw[beq_iff_eq];constructor
 .intro h;obtain⟨⟨a⟩⟩:=a;obtain⟨⟨b⟩⟩:=b;have ha:∀(l:List UInt8),(ByteArray.mk ⟨l⟩).toList=l:=by
   intro l;have:∀(n i:Nat) (r:List UInt8),n=(ByteArray.mk ⟨l⟩).size-i->ByteArray.toList.loop (ByteArray.mk ⟨l⟩) i r=r.reverse++l.drop i:=by
    intro n;induction n with
    |zero=>
     intro i r h;rw[ByteArray.toList.loop.eq_def];have:¬i<(ByteArray.mk ⟨l⟩).size:=by omega
     rw[if_neg this];have j:(ByteArray.mk ⟨l⟩).size=l.length:=rfl;rw[List.drop_of_length_le (by omega)];simp
    |succ n g=>
     intro i r h;rw[ByteArray.toList.loop.eq_def];have j:(ByteArray.mk ⟨l⟩).size=l.length:=rfl;have w:i<(ByteArray.mk ⟨l⟩).size:=by omega
     rw[if_pos w,g (i+1) _ (by omega)];have e:i<l.length:=by omega
     have x:(ByteArray.mk ⟨l⟩).get! i=l[i]:=by
      simp[ByteArray.get!,e]
     rw[x,drop_eq_getElem_cons e];simp
   have y:=this _ 0 [] rfl;simpa[ByteArray.toList]using y
  rw[ha,ha]at h;subst h;rfl
 .rintro rfl;rfl
def eqs:List K1->List Value->List Value->Option Bool
 |[],[],[]=>some true
 | .int _::g,.int k a::xs,.int h b::e=>bif decide (k=h)then(match eqs g xs e with|some r=>some ((a == b)&&r)|none=>none)else none
 | .bool::g,.bool a::xs,.bool b::e=>match eqs g xs e with|some r=>some ((a == b)&&r)|none=>none
 | .str::g,.string a::xs,.string b::e=>match eqs g xs e with|some r=>some (aG a b&&r)|none=>none
 |_,_,_=>none
def Jp(g:TypeId->Option (List K1)):Nat->List Field->Option (List K1)
 |_,[]=>some []
 |a,x::fs=>match g x.type with
  |some l=>bif decide (x.name≠ "_")&&beq x.offset a then(match Jp g (a+l.length) fs with|some r=>some (l++r)|none=>none)else none
  |none=>none
def ub(P:Program):Nat->TypeId->Option (List K1)
 |0,_=>none
 |f+1,t=>match P.underlying t with
  |some (.int k)=>some [.int k]
  |some .bool=>some [.bool]
  |some .string=>some [.str]
  |some (.struct e)=>bif P.stoodInHeld t then none else match Jp (ub P f) 0 e.toList with
   |some l=>bif beq l.length (P.cellsOf t)then some l else none
   |none=>none
  |_=>none
def x_(op:BinOp)(k:IntKind)(a b:Int)(K:Value->Prop):Prop:=
 match op with
 | .add=>K (.int k (k.wrap (a+b)))
 | .sub=>K (.int k (k.wrap (a-b)))
 | .mul=>K (.int k (k.wrap (a*b)))
 | .quo=>b≠0/\K (.int k (k.wrap (a.tdiv b)))
 | .rem=>b≠0/\K (.int k (a.tmod b))
 | .eql=>K (.bool (a == b))
 | .neq=>K (.bool (a != b))
 | .lss=>K (.bool (decide (a<b)))
 | .leq=>K (.bool (decide (a<=b)))
 | .gtr=>K (.bool (decide (a>b)))
 | .geq=>K (.bool (decide (a>=b)))
 |_=>False
def AP(op:BinOp)(a b:ByteArray)(K:Value->Prop):Prop:=
 match op with
 | .add=>a.size+b.size<9223372036854775808/\K (.string (a++b))
 | .eql=>K (.bool (aG a b))
 | .neq=>K (.bool (!aG a b))
 | .lss=>K (.bool (Op.bytesLess a.toList b.toList))
 | .leq=>K (.bool (Op.bytesLess a.toList b.toList||aG a b))
 | .gtr=>K (.bool (!(Op.bytesLess a.toList b.toList||aG a b)))
 | .geq=>K (.bool (!Op.bytesLess a.toList b.toList))
 |_=>False
def qb(P:Program)(op:BinOp)(t:TypeId)(x y:Value)(K:Value->Prop):Prop:=
 match x,y with
 | .int k a,.int g b=>bif decide (k=g)then x_ op k a b K else False
 | .string a,.string b=>AP op a b K
 | .bool a,.bool b=>match P.underlying t with
   |some .bool=>match op with
    | .eql=>K (.bool (a == b))
    | .neq=>K (.bool (!(a == b)))
    |_=>False
   |_=>False
 | .agg a,.agg b=>match ub P 8 t with
   |none=>False
   |some e=>bif (beq e.length a.size&&beq e.length b.size)&& !P.eqGuardType P.depth t&&dx P t then
    (match eqs e a.toList b.toList with
    |some r=>match op with
     | .eql=>K (.bool r)
     | .neq=>K (.bool (!r))
     |_=>False
    |none=>False)else False
 | .pointer a,.pointer none=>match P.underlying t with
   |some (.pointer _)=>match op with
    | .eql=>K (.bool a.isNone)
    | .neq=>K (.bool (!a.isNone))
    |_=>False
   |_=>False
 | .slice a _ _,.slice none _ _=>match P.underlying t with
   |some (.slice _)=>match op with
    | .eql=>K (.bool a.isNone)
    | .neq=>K (.bool (!a.isNone))
    |_=>False
   |_=>False
 | .func _ _ _,.nilFunc=>match P.underlying t with
   |some (.func ..)=>match op with
    | .eql=>K (.bool false)
    | .neq=>K (.bool true)
    |_=>False
   |_=>False
 |_,_=>False
structure rF(w w':World)(b:Nat)(o:Obj):Prop where
 below:Below w.heap.size w w'
 at_:w'.heap[b]?=some o
 ge:w.heap.size<=b
structure Sto(w w':World)(b:Nat)(o:Obj):Prop where
 os:w'.os=w.os
 tape:w'.tape=w.tape
 output:w'.output=w.output
 size:w.heap.size<=w'.heap.size
 at_:w'.heap[b]?=some o
 ne:∀c,c≠b->c<w.heap.size->w'.heap[c]?=w.heap[c]?
structure Mod(F:Nat->Prop)(w w':World):Prop where
 os:w'.os=w.os
 tape:w'.tape=w.tape
 output:w'.output=w.output
 size:w.heap.size<=w'.heap.size
 cu:∀b,b<w.heap.size->¬F b->w'.heap[b]?=w.heap[b]?
@[reducible] def db:Obj:=.cells #[] 0 (0,0)
structure yG(w w1:World):Prop where
 os:w1.os=w.os
 tape:w1.tape=w.tape
 output:w1.output=w.output
 size:w.heap.size<=w1.heap.size
 block:∀b,b<w.heap.size->w.heap[b]?=w1.heap[b]?\/w.heap[b]?=some db
structure Out(F:Nat->Prop)(w w1 w' wr:World):Prop where
 mod:Mod F w1 wr
 De:yG w' wr
 umod:Mod F w w'
 BU:∀b,w.heap.size<=b->b<w1.heap.size->b<w'.heap.size->w'.heap[b]?=some db
def FnB(P:Program)(f:FuncId)(g:Array Value)(w:World)(F:Nat->Prop)(K:Value->Nat->World->Prop):Prop:=
 ∀w1,yG w w1->Calls P f g w1 λe i=>∃v h,e=.returned v/\Out F w w1 h i/\K v w1.heap.size h
def oB(P:Program)(f:FuncId)(e:Array Value)(u:UW)(K:Value->UW->Prop):Prop:=
 ∃F:Nat->Prop,(∀b,F b->u.gk b)/\FnB P f e u.toWorld F λv h g=>K v (u.ret h g)
def dJ(P:Program)(f:FuncId):Bool:=
 match P.funcs[f]? with
 |some fn=> !(fn.name == "runtime.NumGoroutine")&&fn.body.isSome
 |none=>false
def abB(P:Program)(l:Nat)(e:List Value)(w:World)(R:Ending->World->Prop):Prop:=
 ∃r:Loop,w.heap[l]?=some (.loop r)/\e.length=r.params.size/\RoundIn Fence.wide 0 P l r.fn ((r.params.zip e.toArray).foldl (λt (p,v)=>t.setIfInBounds p v) r.tmps) r.assign r.body w R
def yF(P:Program)(f:Value)(e:List Value)(w:World)(R:Ending->World->Prop):Prop:=
 match f with
 | .func (.func g) first captured=>dJ P g=true/\Calls P g (first.toList++e++captured.toList).toArray w R
 | .func (.yield l) first captured=>first= #[]/\captured= #[]/\abB P l e w R
 |_=>False
def Me(P:Program)(f:Value)(g:List Value)(w:World)(F:Nat->Prop)(K:Value->Nat->World->Prop):Prop:=
 ∀w1,yG w w1->yF P f g w1 λe i=>∃v h,e=.returned v/\Out F w w1 h i/\K v w1.heap.size h
def pX(P:Program)(f:Value)(e:List Value)(u:UW)(K:Value->UW->Prop):Prop:=
 match f with
 | .func (.func g) first captured=>bif dJ P g then oB P g (first.toList++e++captured.toList).toArray u K else False
 |f=>∃F:Nat->Prop,(∀b,F b->u.gk b)/\Me P f e u.toWorld F λv i h=>K v (u.ret i h)
def Cb(f:Fn)(A:Prop):Prop:=match f with| .method _=>False|_=>A
def Lg:Obj->Bool| .loop _=>true|_=>false
def UD(P:Program)(f:Value)(h:List Value->(Option Code->UW->Prop)->UW->Prop)(K:Option Code->UW->Prop)(u:UW):Prop:=
 (∃g a b,f=.func (.func g) a b)/\∀(l:Nat) (e:Option Code->Obj) (r:World),(∀p,Lg (e p)=true)->rF u.toWorld r l (e none)->
  (∀(w:List Value) (w1:World) (F:Nat->Prop) (R:Option Code->UW->Prop),w1.heap[l]?=some (e none)->(∀b,F b->b<w1.heap.size/\b≠l)->h w R ⟨w1.putObj l db,F⟩->
   Me P (.func (.yield l) #[] #[]) w w1 (λb=>F b\/b=l) λv y x=>∃p gk i,v=.bool p.isNone/\x=i.putObj l (e p)/\i.heap[l]?=some db/\(∀b,gk b->F b\/y<=b)/\R p ⟨i,gk⟩)->
  pX P f [.func (.yield l) #[] #[]] (u.born l r) λ_ j=>∃p,j.heap[l]?=some (e p)/\K p ⟨j.toWorld.putObj l db,λb=>j.gk b/\b≠l⟩
def vc(c:Array Value):Nat->List Value->Array Value
 |_,[]=>c
 |o,v::e=>vc (c.setIfInBounds o v) (o+1) e
def uo(b o:Nat)(g:List Value)(u:UW)(K:UW->Prop):Prop:=
 ∃(c:Array Value) (T:TypeId),u.heap[b]?=some (.cells c T (0,0))/\o+g.length<=c.size/\u.gk b/\
  ∀e,Sto u.toWorld e b (.cells (vc c o g) T (0,0))->K (u.Ka e)
def fin(o:Oper)(st:St)(v:Value):St:={st with σ:=put st.σ o.dst v}
def fh:List (Nat×Nat)->Nat->Option Nat
 |[],_=>none
 |(k,m)::D,e=>bif beq k e then some m else fh D e
def eN(e:List Value):Bool:=e.all λv=>plain v&&one v
def zI(a:Option Addr)(l m size:Nat):Option Addr:=if m=l then a else a.map λx=>⟨x.block,x.off+l*size,none⟩
def dH(e:Operand->Value)(x:Option Operand)(d:Int):Option Int:=
 match x with
 |none=>some d
 |some x=>match e x with
  | .int _ i=>some i
  |_=>none
def gq(a:Option Addr):Prop:=∀x,a=some x->x.spot=none
def PN(P:Program)(e:TypeId)(base:Option Addr)(n cap:Nat)(xb:Option Addr)(m:Nat)(u:UW)(K:Option Addr->Nat->Nat->UW->Prop):Prop:=
 ∃(size g:Nat) (zero:List Value) (j new:List Value),
  (P.info? e).map (λi=>(i.size,i.bytes,i.zero.map λz=>z.cells.toList))=some (size,g,some zero)/\
  (m=0->new=[])/\(m≠0->bh xb λb o=>rd u.heap b o (m*size)=some new)/\
  (n=0->j=[])/\(n≠0->bh base λb o=>rd u.heap b o (n*size)=some j)/\
  n<=cap/\(n+m)*g<=140737488355328/\n+m<4611686018427387904/\zero.length=size/\(∀v∈new,one v=true)/\
  (n+m<=cap->(m=0/\K base n cap u)\/(m≠0/\bh base λb o=>uo b (o+n*size) new u λw=>K base (n+m) cap w))/\
  (cap<n+m->∀(c b:Nat) (h:List Value) (r:World),n+m<=c->h.length=(c-(n+m))*size->rF u.toWorld r b (.cells (j++new++h).toArray e (0,0))->
   K (some ⟨b,0,none⟩) (n+m) c (u.born b r))
def ns(e:Operand->Value):List Operand->Option (IntKind×List Int)
 |[]=>none
 |[x]=>match e x with| .int k i=>some (k,[i])|_=>none
 |x::l=>match e x,ns e l with
  | .int k i,some (g,is)=>bif decide (k=g)then some (k,i::is)else none
  |_,_=>none
def L_(P:Program)(e:Array Field):List (Nat×Value)->List Value->Option (List Value)
 |[],cs=>some cs
 |(i,v)::ps,cs=>match e[i]? with
  |some f=>bif beq v.cells.size (P.cellsOf f.type)&&ble (f.offset+v.cells.size) cs.length&&(P.info? f.type).isSome then
    L_ P e ps (cs.take f.offset++v.cells.toList++cs.drop (f.offset+v.cells.size))else none
  |none=>none
def pf(size:Nat):Nat->List (Nat×Value)->Option (List Value)
 |_,[]=>some []
 |i,(j,v)::ps=>bif beq i j&&beq v.cells.size size then(match pf size (i+1) ps with|some l=>some (v.cells.toList++l)|none=>none)else none
def Xq(P:Program)(t:TypeId)(ps:List (Nat×Value)):Option (List Value):=
 match(P.info? t).bind (·.zero),P.underlying t with
 |some z,some (.struct g)=>bif g.toList.all λf=>(P.info? f.type).isSome then L_ P g ps z.cells.toList else none
 |some z,some (.array len e)=>bif (P.info? e).isSome&&beq ps.length len&&beq z.cells.size (len*P.cellsOf e)then pf (P.cellsOf e) 0 ps else none
 |_,_=>none
def PA(P:Program)(e:TypeId)(g:Nat)(cs:List Value):Option Value:=
 bif (P.underlying e).isSome&&ble (g+P.cellsOf e) cs.length then(bif dx P e then some (.agg ((cs.drop g).take (P.cellsOf e)).toArray)else cs[g]?)else none
def Dt(P:Program)(t:TypeId)(f:Nat)(cs:List Value):Option Value:=
 match P.underlying t with
 |some (.struct e)=>match e[f]? with
  |some x=>bif (P.underlying x.type).isSome&&ble (x.offset+P.cellsOf x.type) cs.length then
    (bif dx P x.type then some (.agg ((cs.drop x.offset).take (P.cellsOf x.type)).toArray)else cs[x.offset]?)else none
  |none=>none
 |_=>none
def W1b(E:Env)(o:Oper)(st:St)(w:UW)(b:Builtin)(g:List Operand)(ts:List TypeId)(K:St->UW->Prop):Prop:=
 match b,g,ts with
 | .len,[x],[t]=>match E.P.underlying t,ev st.σ x with
   |some (.slice _),.slice _ n _=>K (fin o st (.int .i64 n)) w
   |some .string,.string s=>K (fin o st (.int .i64 s.size)) w
   |some (.array n _),v=>bif plain v then K (fin o st (.int .i64 n)) w else False
   |_,_=>False
 | .append,[x,y],[t,r]=>match E.P.underlying t,E.P.underlying r,ev st.σ x,ev st.σ y with
   |some (.slice e),some (.slice _),.slice base n cap,.slice h m _=>PN E.P e base n cap h m w λa A G j=>K (fin o st (.slice a A G)) j
   |_,_,_,_=>False
 | .min,xs,_=>match ns (ev st.σ) xs with
   |some (k,i::is)=>K (fin o st (.int k (is.foldl (λx y=>if y<x then y else x) i))) w
   |_=>False
 | .max,xs,_=>match ns (ev st.σ) xs with
   |some (k,i::is)=>K (fin o st (.int k (is.foldl (λx y=>if y>x then y else x) i))) w
   |_=>False
 |_,_,_=>False
def W1(E:Env)(fz:List Nat)(o:Oper)(st:St)(w:UW)(K:St->UW->Prop):Prop:=
 let A:=ev st.σ
 match o.op with
 | .move x| .assign x=>K (fin o st (A x)) w
 | .pick c a b=>match A c with
   | .bool t=>ab t (K (fin o st (A a)) w) (K (fin o st (A b)) w)
   |_=>False
 | .alloc t=>match(E.P.info? t).bind (·.zero)with
   |none=>False
   |some z=>match o.dst with
    |none=>False
    |some k=>bif cT E.fA k then
      (bif !nY st.D k&& !cT fz k&&eN z.cells.toList&&ble z.cells.size 65536 then
       K {st with σ:=rG (jd st.σ k (dU k 0)) k 0 z.cells.toList,D:=(k,z.cells.size)::st.D} w else False)
     else ∀(b:Nat) (H:World),rF w.toWorld H b (.cells z.cells t (0,0))->K (fin o st (.pointer (some ⟨b,0,none⟩))) (w.born b H)
 | .box t x=>bif plain (A x)then match o.dst with
   |none=>False
   |some k=>bif cT E.fA k then
     (bif !nY st.D k&& !cT fz k&&eN (A x).cells.toList&&ble (A x).cells.size 65536 then
      K {st with σ:=rG (jd st.σ k (dU k 0)) k 0 (A x).cells.toList,D:=(k,(A x).cells.size)::st.D} w else False)
    else ∀(b:Nat) (H:World),rF w.toWorld H b (.cells (A x).cells t (0,0))->K (fin o st (.pointer (some ⟨b,0,none⟩))) (w.born b H)
   else False
 | .build t ps=>bif ps.toList.all λp=>plain (A p.2)then match Xq E.P t (ps.toList.map λp=>(p.1,A p.2))with
   |some I=>K (fin o st (.agg I.toArray)) w
   |none=>False else False
 | .buildSlice t len ps=>bif (ps.toList.all λp=>plain (A p.2))&&beq ps.toList.length len then match wm E.P t with
   |none=>False
   |some e=>match pf (E.P.cellsOf e) 0 (ps.toList.map λp=>(p.1,A p.2))with
    |some I=>bif ble I.length 65536&&((E.P.info? e).bind (·.zero)).isSome&& !Nat.beq (E.P.cellsOf e) 0 then
      ∀(b:Nat) (H:World),rF w.toWorld H b (.cells I.toArray e (0,0))->K (fin o st (.slice (some ⟨b,0,none⟩) len len)) (w.born b H)else False
    |none=>False else False
 | .load t x=>match kinds E.P t with
   |none=>False
   |some L=>match A x with
    | .complex .f64 k G=>match fh st.D k with
      |some m=>bif ble (G+L.length) m&&eN (xP st.σ k G L.length)then K (fin o st (FW (dx E.P t) (xP st.σ k G L.length))) w else False
      |none=>False
    |v=>dT v λb G=>exL L λI=>rd w.heap b G L.length=some I/\K (fin o st (FW (dx E.P t) I)) w
 | .store t x y=>bif plain (A y)&&beq (A y).cells.size (E.P.cellsOf t)&&eN (A y).cells.toList&&(E.P.info? t).isSome then match A x with
   | .complex .f64 k G=>match fh st.D k with
     |some m=>bif ble (G+(A y).cells.size) m&& !cT fz k then K {st with σ:=put (rG st.σ k G (A y).cells.toList) o.dst undef} w else False
     |none=>False
   |v=>dT v λb G=>uo b G (A y).cells.toList w λH=>K (fin o st undef) H
   else False
 | .nilCheck x=>match A x with
   | .complex .f64 k G=>K (fin o st (dU k G)) w
   | .pointer a=>nn a (K (fin o st (.pointer a)) w)
   | .func f a b=>Cb f (K (fin o st (.func f a b)) w)
   |_=>False
 | .binOp op t x y _=>qb E.P op t (A x) (A y) λv=>K (fin o st v) w
 | .unOp op _ x=>match op,A x with
   | .not,.bool b=>K (fin o st (.bool (!b))) w
   | .neg,.int k n=>K (fin o st (.int k (k.wrap (0-n)))) w
   |_,_=>False
 | .convert src dst x=>bif plain (A x)then match pv E.P (convert src dst (A x))with
   |some v=>bif plain v then K (fin o st v) w else False
   |none=>False else False
 | .makeInterface t x=>bif plain (A x)then match pv E.P (Instr.makeInterface t (A x))with
   |some v=>bif plain v then K (fin o st v) w else False
   |none=>False else False
 | .makeSlice t x y=>match E.P.underlying t,A x,A y with
   |some (.slice e),.int _ i,.int _ j=>match(E.P.info? e).map (λi=>(i.size,i.bytes,i.zero.map λz=>z.cells.toList))with
    |some (size,bytes,some zero)=>bif beq zero.length size&& !Nat.beq size 0 then
      0<=i/\i<=j/\j<4611686018427387904/\j.toNat*bytes<=140737488355328/\
      ∀(b:Nat) (H:World),rF w.toWorld H b (.cells (List.replicate j.toNat zero).flatten.toArray e (0,0))->K (fin o st (.slice (some ⟨b,0,none⟩) i.toNat j.toNat)) (w.born b H)else False
    |_=>False
   |_,_,_=>False
 | .makeFunc fn first captured=>bif first.toList.all (λx=>plain (A x))&&captured.toList.all (λx=>plain (A x))then
   K (fin o st (.func fn (first.toList.map A).toArray (captured.toList.map A).toArray)) w else False
 | .slice t x Y U O=>match E.P.underlying t,A x with
   |some (.slice e),.slice a len cap=>match dH A Y 0,dH A U len,dH A O cap with
    |some l,some h,some m=>(bif (O.isSome&&U.isNone)||(E.P.info? e).isNone then False else(m.toNat=l.toNat\/gq a)/\0<=l/\l<=h/\h<=m/\m<=cap/\K (fin o st (.slice (zI a l.toNat m.toNat (E.P.cellsOf e)) (h.toNat-l.toNat) (m.toNat-l.toNat))) w)
    |_,_,_=>False
   |some .string,.string s=>match O with
    |some _=>False
    |none=>match dH A Y 0,dH A U s.size with
     |some l,some h=>0<=l/\l<=h/\h<=s.size/\K (fin o st (.string (s.extract l.toNat h.toNat))) w
     |_,_=>False
   |_,_=>False
 | .fieldAddr t x f=>match Dv E.P t f with
   |none=>False
   |some d=>match A x with
    | .complex .f64 k G=>K (fin o st (dU k (G+d))) w
    |v=>dT v λb G=>K (fin o st (.pointer (some ⟨b,G+d,none⟩))) w
 | .field t x f=>match A x with
   | .agg cs=>match Dt E.P t f cs.toList with
     |some v=>bif plain v then K (fin o st v) w else False
     |none=>False
   |_=>False
 | .indexAddr t x i=>match E.P.underlying t,A x,A i with
   |some (.slice e),.slice a len _,.int _ j=>bif (E.P.info? e).isSome then bh a λb G=>0<=j/\j<len/\K (fin o st (.pointer (some ⟨b,G+j.toNat*E.P.cellsOf e,none⟩))) w else False
   |some (.array len e),.complex .f64 k G,.int _ j=>bif decide (0<=j)&&decide (j<len)&&(E.P.info? e).isSome then K (fin o st (dU k (G+j.toNat*E.P.cellsOf e))) w else False
   |_,_,_=>False
 | .index t x i=>match E.P.underlying t,A x,A i with
   |some .string,.string s,.int _ j=>0<=j/\∃c:UInt8,s[j.toNat]?=some c/\K (fin o st (.int .u8 c.toNat)) w
   |some (.array len e),.agg cs,.int _ j=>0<=j/\j<len/\(E.P.info? e).isSome=true/\∃v,PA E.P e (j.toNat*E.P.cellsOf e) cs.toList=some v/\plain v=true/\K (fin o st v) w
   |_,_,_=>False
 | .extract x i=>match A x with
   | .tuple I=>match I[i]? with
     |some v=>bif plain v then K (fin o st v) w else False
     |none=>False
   |_=>False
 | .call c=>match c.callee with
   | .builtin b=>W1b E o st w b c.args.toList c.argTypes.toList K
   | .value f=>bif c.args.toList.all (λx=>plain (A x))then
     pX E.P (A f) (c.args.toList.map A) w λv H=>Qu E.P o.type λJ=>v=J/\K (fin o st J) H else False
   | .invoke x name=>bif c.args.toList.all (λx=>plain (A x))then match A x with
     | .iface t r=>match pv E.P (method (E.P.types.size+Made.depth) t r name)with
       |some (g,r')=>bif dJ E.P g then oB E.P g (r'::c.args.toList.map A).toArray w λv H=>Qu E.P o.type λJ=>v=J/\K (fin o st J) H else False
       |none=>False
     |_=>False else False
 |_=>False
def sized(P:Program)(e:TypeId):Bool:=match P.info? e with|some i=> !Nat.beq i.size 0|none=>false
def KT(P:Program)(t:TypeId)(x y:Value)(w:UW)(K:Bool->Prop):Prop:=
 match x,y with
 | .pointer (some ⟨b,o,none⟩),.pointer (some ⟨g,h,none⟩)=>match P.underlying t with
   |some (.pointer e)=>bif sized P e then
     (∃(c:Array Value) (T:TypeId),w.heap[b]?=some (.cells c T (0,0))/\c.size≠0)/\(∃(c:Array Value) (T:TypeId),w.heap[g]?=some (.cells c T (0,0))/\c.size≠0)/\K (beq b g&&beq o h)else False
   |_=>False
 |_,_=>False
def wC(x y:Value):Bool:=match x,y with| .pointer (some _),.pointer (some _)=>true|_,_=>false
def Xz(E:Env)(fz:List Nat)(o:Oper)(st:St)(w:UW)(K:St->UW->Prop):Prop:=
 match o.op with
 | .binOp .eql t x y _=>bif wC (ev st.σ x) (ev st.σ y)then KT E.P t (ev st.σ x) (ev st.σ y) w λr=>K (fin o st (.bool r)) w else W1 E fz o st w K
 |_=>W1 E fz o st w K
def pT(e:Array Oper)(j:Nat):Option Nat:=(e[j]?).bind (·.dst)
def Wl(E:Env)(fz:List Nat)(e:Array Oper)(Q:St->UW->Prop):List Oper->St->UW->Prop
 |[],st,w=>Q st w
 |o::l,st,w=>match o.guard with
  |none=>Xz E fz o st w λr h=>Wl E fz e Q l r h
  |some (j,b)=>match pT e j with
   |none=>False
   |some g=>match st.σ g with
    | .bool c=>ab c
      ((λi=>ab b (W1 E fz o i w λr h=>Wl E fz e Q l r h) (Wl E fz e Q l (fin o i undef) w)) {st with σ:=jd st.σ g (.bool true)})
      ((λi=>ab b (Wl E fz e Q l (fin o i undef) w) (W1 E fz o i w λr h=>Wl E fz e Q l r h)) {st with σ:=jd st.σ g (.bool false)})
    | .tuple _=>Wl E fz e Q l (fin o st undef) w
    |_=>False
def bF(o:Oper):Bool:=
 match o.op with
 | .move _| .assign _| .pick .. | .build .. | .load .. | .binOp .. | .unOp .. | .convert .. | .makeInterface .. | .makeFunc .. | .slice .. | .fieldAddr .. | .field .. | .indexAddr .. | .index .. | .extract .. | .nilCheck _=>true
 | .call ⟨.builtin .len,_,_⟩| .call ⟨.builtin .min,_,_⟩| .call ⟨.builtin .max,_,_⟩=>true
 |_=>false
def reads(o:Oper):Bool:=
 match o.op with
 | .load _ _=>true
 |_=>false
def Bj(e:Array Oper)(i:Nat):Bool:=match e[i]? with|some o=>reads o|none=>false
def sO(g:Array Oper)(j:Nat):List Nat:=
 match g[j]? with
 |none=>[]
 |some o=>(o.after.toList.filter λe=>Region.binds .any e).map (·.on)
def yV(e:Array Oper):Nat->List Nat->List Nat
 |0,S=>S
 |i+1,S=>yV e i (bif cT S i then sO e i++S else S)
def Ut(e:Array Oper)(j:Nat):List Nat:=yV e e.size (sO e j)
def Sb(e:Array Oper)(j:Nat)(S:List Nat):Bool:=
 (range e.size).any λx=> !Nat.beq x j&&Bj e x&& !cT S x
def late(e:Array Oper)(j:Nat):Bool:=Sb e j (Ut e j)
def qS(o:Oper):Bool:=match o.op with| .alloc _| .box _ _| .buildSlice _ _ _=>true|_=>false
def FU(e:Array Oper)(i:Nat):Bool:=match e[i]? with|some o=>qS o|none=>false
def qY(e:Array Oper)(j:Nat):Bool:=late e j&& !FU e j
inductive jl where
 |nil
 |tk (i:Nat) (p:jl)
 |ef (i:Nat) (p:jl)
 |Tm (i:Nat) (p:jl) (j:Nat) (q:jl)
 |Tl (i:Nat) (p:jl) (j:Nat) (q:jl) (k:Nat) (r:jl)
def dV(e:Array Oper):jl->Bool
 | .nil=>false
 | .tk i p=>Bj e i||dV e p
 | .ef _ p=>dV e p
 | .Tm _ p _ q=>dV e p||dV e q
 | .Tl _ p _ q _ r=>dV e p||dV e q||dV e r
def bS(e:Array Oper):jl->Bool
 | .nil=>false
 | .tk _ p=>bS e p
 | .ef i p=>qY e i||bS e p
 | .Tm i p j q=>(qY e i||bS e p)||(qY e j||bS e q)
 | .Tl i p j q k r=>(qY e i||bS e p)||(qY e j||bS e q)||(qY e k||bS e r)
def iW(e:Array Oper)(g:Array Bool):List Nat->Option Nat
 |[]=>none
 |i::l=>bif (match e[i]? with|some o=>bF o|none=>false)&&Region.free .any e g i then some i else iW e g l
def bR(e:Array Oper)(i:Nat)(p:jl):Bool:=qY e i||(FU e i||(!dV e p&& !bS e p))
def eK(e:Array Oper):Nat->Array Bool->Option jl
 |0,g=>match Region.ready .any e g with
  |[]=>some .nil
  |_=>none
 |f+1,g=>match Region.ready .any e g with
  |[]=>some .nil
  |i::rs=>match iW e g (i::rs)with
   |some j=>match eK e f (g.setIfInBounds j true)with
    |some p=>some (.tk j p)
    |none=>none
   |none=>match rs with
    |[]=>match eK e f (g.setIfInBounds i true)with
     |some p=>bif bR e i p then some (.ef i p)else none
     |none=>none
    |[j]=>match eK e f (g.setIfInBounds i true),eK e f (g.setIfInBounds j true)with
     |some p,some q=>bif bR e i p&&bR e j q then some (.Tm i p j q)else none
     |_,_=>none
    |[j,k]=>match eK e f (g.setIfInBounds i true),eK e f (g.setIfInBounds j true),eK e f (g.setIfInBounds k true)with
     |some p,some q,some r=>bif bR e i p&&bR e j q&&bR e k r then some (.Tl i p j q k r)else none
     |_,_,_=>none
    |_=>none
def il(fA:List Nat)(o:Oper):Bool:=
 match o.op,o.dst with
 | .alloc _,some k| .box _ _,some k=>cT fA k
 |_,_=>false
def tJ(e:Array Oper):Option jl:=
 bif Region.noSelect e then eK e e.size (replicate e.size false)else none
def lh(e:Array Oper)(j:Nat):Bool:=match e[j]? with|some o=>bF o||qS o|none=>false
def N_(e:Array Oper)(i:Array Bool)(g:List Nat):Bool:=
 (range e.size).all λh=>i.getD h true||(lh e h||(Ut e h).any λx=>cT g x)
inductive iC where
 |nil
 |tk (i:Nat) (q:iC)
 |ld (i:Nat) (q r:iC)
 |alt (i:Nat) (q r:iC)
 |done
def Vf(e:Array Oper)(i:Nat)(d:Bool):Bool:=match e[i]? with|some o=>bF o|none=>d
def AG(e:Array Oper)(h:Array Bool)(g:List Nat):List Nat->Option Nat
 |[]=>none
 |i::l=>bif (match e[i]? with|some o=>bF o&&(!reads o||N_ e h (i::g))|none=>false)&&(Region.free .any e h i&& !cT g i)then some i else AG e h g l
def BF(e:Array Oper)(h:Array Bool)(g:List Nat):List Nat->Option Nat
 |[]=>none
 |i::l=>bif (match e[i]? with|some o=>bF o|none=>false)&&(Region.free .any e h i&& !cT g i)then some i else BF e h g l
def zC(e:Array Oper)(g:List Nat)(f:Nat->Option iC):List Nat->Option iC
 |[]=>some .done
 |i::l=>bif cT g i then zC e g f l else
  bif Vf e i true then none else match f i with
  |none=>none
  |some q=>match zC e g f l with
   |none=>none
   |some r=>some (.alt i q r)
def lO(e:Array Oper):Nat->Array Bool->List Nat->Option iC
 |0,_,_=>none
 |g+1,w,h=>match Region.ready .any e w with
  |[]=>some .nil
  |l=>match AG e w h l with
   |some j=>match lO e g (w.setIfInBounds j true) h with
    |some q=>some (.tk j q)
    |none=>none
   |none=>match BF e w h l with
    |some j=>match lO e g (w.setIfInBounds j true) h,lO e g w (j::h)with
     |some q,some r=>some (.ld j q r)
     |_,_=>none
    |none=>zC e h (λi=>lO e g (w.setIfInBounds i true) (bif lh e i then h else[])) l
def oT(e:Array Oper):Option iC:=
 bif Region.noSelect e then lO e (2*(e.size*e.size)+2) (replicate e.size false) []else none
def isQ(fA:List Nat)(id:Nat):Bool:=cT fA (1000000+id)
def sg(e u:UW):Prop:=Below e.heap.size e.toWorld u.toWorld
def guarded(i:Array Oper)(o:Oper)(st:St)(e skip:St->Prop):Prop:=
 match o.guard with
 |none=>e st
 |some (j,b)=>match pT i j with
  |none=>False
  |some g=>match st.σ g with
   | .bool c=>ab c
     ((λh=>ab b (e h) (skip h)) {st with σ:=jd st.σ g (.bool true)})
     ((λh=>ab b (skip h) (e h)) {st with σ:=jd st.σ g (.bool false)})
   | .tuple _=>skip st
   |_=>False
def stepT(E:Env)(fz:List Nat)(e:Array Oper)(h:UW)(i:Nat)(st:St)(K:St->Prop):Prop:=
 match e[i]? with
 |none=>False
 |some o=>guarded e o st (λg=>W1 E fz o g h λj _=>K j) (λg=>K (fin o g undef))
def sK(E:Env)(fz:List Nat)(e:Array Oper)(j:UW)(i:Nat)(st:St)(u:UW)(K:St->UW->Prop):Prop:=
 match e[i]? with
 |none=>False
 |some o=>bif il E.fA o then False else guarded e o st
   (λg=>bif qY e i then W1 E (fz++g.D.map (·.1)) o g u (λr h=>sg j h/\K r h)else W1 E fz o g u K)
   (λg=>K (fin o g undef) u)
def Wd(E:Env)(fz:List Nat)(e:Array Oper)(g:UW)(Q:St->UW->Prop):jl->St->UW->Prop
 | .nil,st,u=>Q st u
 | .tk i p,st,u=>stepT E fz e g i st λh=>Wd E fz e g Q p h u
 | .ef i p,st,u=>sK E fz e g i st u λh w=>Wd E fz e g Q p h w
 | .Tm i p j q,st,u=>(sK E fz e g i st u λh w=>Wd E fz e g Q p h w)/\(sK E fz e g j st u λh w=>Wd E fz e g Q q h w)
 | .Tl i p j q k r,st,u=>(sK E fz e g i st u λh w=>Wd E fz e g Q p h w)/\(sK E fz e g j st u λh w=>Wd E fz e g Q q h w)/\(sK E fz e g k st u λh w=>Wd E fz e g Q r h w)
def MH(E:Env)(fz:List Nat)(e:Array Oper)(i:Nat)(st:St)(u:UW)(K:St->UW->Prop):Prop:=
 match e[i]? with
 |none=>False
 |some o=>guarded e o st (λg=>W1 E fz o g u K) (λg=>K (fin o g undef) u)
def Wq(E:Env)(fz:List Nat)(e:Array Oper)(Q:St->UW->Prop):iC->St->UW->Prop
 | .nil,st,u=>Q st u
 | .tk i q,st,u=>stepT E fz e u i st λg=>Wq E fz e Q q g u
 | .ld i q r,st,u=>(stepT E fz e u i st λg=>Wq E fz e Q q g u)/\Wq E fz e Q r st u
 | .alt i q r,st,u=>(MH E fz e i st u λg h=>Wq E fz e Q q g h)/\Wq E fz e Q r st u
 | .done,_,_=>True
def fM:Code->Option Nat
 | .region id _ _=>some id
 | .seq a b=>match fM a with|some i=>some i|none=>fM b
 | .cond _ a b=>match fM a with|some i=>some i|none=>fM b
 | .block _ a=>fM a
 | .loop a=>fM a
 | .scope a=>fM a
 | .rangeFunc _ _ a b=>match fM a with|some i=>some i|none=>fM b
 |_=>none
def writes:Code->List Nat
 | .region _ ops _=>ops.toList.filterMap (·.dst)
 | .seq a b=>writes a++writes b
 | .cond _ a b=>writes a++writes b
 | .block _ a=>writes a
 | .loop a=>writes a
 | .scope a=>writes a
 |_=>[]
def Vc(c:Cut)(J:Tup c.live->UW->Prop)(st:St)(w:UW):Prop:=
 bif k_ st c.fN then(match gd st c.live with
  |some s=>J s w
  |none=>False)else False
def LH(c:Cut)(k:Nat):Bool:=
 (c.live.any λx=>match x with|(t,.box _)=>beq t k|_=>false)||c.fN.any λx=>beq x.1 k
def freeze(fz:List Nat)(D:List (Nat×Nat))(c:Cut):List Nat:=
 fz++(D.map (·.1)).filter λk=> !LH c k
def sJ(next:St->UW->Prop)(Q:Exit->St->UW->Prop):Exit->St->UW->Prop
 | .normal,st,w=>next st w
 |e,st,w=>Q e st w
def yA(id:Nat)(Q:Exit->St->UW->Prop):Exit->St->UW->Prop
 | .exit i,st,w=>bif beq i id then Q .normal st w else Q (.exit i) st w
 |e,st,w=>Q e st w
def oU(fz:List Nat)(D:List (Nat×Nat))(c:Cut):Bool:=
 (c.live.all λx=>match x with|(t,.box e)=> !cT fz t&&blt t 65536&&ble e.length 65536|(t,_)=>blt t 65536&& !nY D t)&&c.fN.all λx=> !cT fz x.1&&blt x.1 65536&&im D x.1 x.2
def jS:Code->List Nat
 | .exit i=>[i]
 | .seq a b=>jS a++jS b
 | .cond _ a b=>jS a++jS b
 | .block id a=>(jS a).filter λi=> !Nat.beq i id
 | .loop a=>jS a
 | .scope a=>jS a
 | .rangeFunc _ _ _ b=>jS b
 |_=>[]
def ma:Code->Bool
 | .ret=>true
 | .seq a b=>ma a||ma b
 | .cond _ a b=>ma a||ma b
 | .block _ a=>ma a
 | .loop a=>ma a
 | .scope a=>ma a
 | .rangeFunc _ _ _ b=>ma b
 |_=>false
def Mw:List Nat->List Nat
 |[]=>[]
 |x::l=>bif cT l x then Mw l else x::Mw l
def Ix:List (Nat×Prop)->Nat->Prop
 |[],_=>False
 |(k,A)::l,i=>bif beq k i then A else Ix l i
def PK(p:Option Code)(A B:Prop)(l:List (Nat×Prop)):Prop:=
 match p with
 |none=>A
 |some .ret=>B
 |some (.exit i)=>Ix l i
 |_=>False
def RM(K:St->UW->Prop):Exit->St->UW->Prop
 | .normal,st,u=>K st u
 |_,_,_=>False
def KN(R:Option Code->UW->Prop):Exit->St->UW->Prop
 | .normal,_,u=>R none u
 | .ret,_,u=>R (some .ret) u
 | .exit i,_,u=>R (some (.exit i)) u
 |_,_,_=>False
def zJ(σ:Fr):Fr:=λt=>match σ t with| .complex _ _ _=>aU|v=>v
def vp(σ:Fr):List Nat->List Value->Fr
 |p::ps,v::e=>vp (jd σ p v) ps e
 |_,_=>σ
def W(E:Env):List Nat->Code->(Exit->St->UW->Prop)->St->UW->Prop
 |_,.skip,Q,st,w=>Q .normal st w
 |_,.ret,Q,st,w=>Q .ret st w
 |_,.exit i,Q,st,w=>Q (.exit i) st w
 |fz,.region _ ops false,Q,st,w=>Wl E fz ops (Q .normal) ops.toList st w
 |fz,.region id ops true,Q,st,w=>bif E.P.follows .mixedOrders then(bif isQ E.fA id then(match oT ops with
  |some p=>Wq E fz ops (Q .normal) p st w
  |none=>False)else match tJ ops with
  |some p=>Wd E fz ops w (Q .normal) p st w
  |none=>False)else False
 |fz,.seq a b,Q,st,w=>match(fM b).bind (look E.jt)with
  |none=>W E fz a (sJ (λy e=>W E fz b Q y e) Q) st w
  |some l=>bif oU fz st.D l then cg (λJ=>W E (freeze fz st.D l) a (sJ (Vc l J) Q) st w) (λs e=>W E fz b Q (mix st (writes a) l s) e)else False
 |fz,.cond c a b,Q,st,w=>match ev st.σ c with
  | .bool t=>ab t (W E fz a Q st w) (W E fz b Q st w)
  |_=>False
 |fz,.block id a,Q,st,w=>W E fz a (yA id Q) st w
 |fz,.loop a,Q,st,w=>match(fM a).bind (look E.loops)with
  |none=>False
  |some l=>bif oU fz st.D l then Vc l (ak λnext s e=>W E (freeze fz st.D l) a (sJ (Vc l next) Q) (mix st (writes a) l s) e) st w else False
 |_,.rangeFunc f ps assign body,Q,st,w=>match look E.sa (ps.toList.headD 0)with
  |none=>False
  |some g=>bif beq g.length ps.toList.length then
    UD E.P (ev st.σ f) (λj R u=>LF E.P g λh=>j=h/\W E [] assign (RM λx r=>W E [] body (KN R) x r) ⟨vp (zJ st.σ) ps.toList h,[]⟩ u)
     (λp u=>PK p (Q .normal st u) (bif ma body then Q .ret st u else False) ((Mw (jS body)).map λi=>(i,Q (.exit i) st u))) w
   else False
 |_,_,_,_,_=>False
def JB(e:List Value):Fr:=λt=>(e[t]?).getD undef
def tx(P:Program)(st:St)(w:UW):List ResultVar->(List Value->Prop)->Prop
 |[],F=>F []
 | .tmp t::l,F=>bif plain (st.σ t)then tx P st w l λg=>F (st.σ t::g)else False
 | .cell a t::l,F=>match kinds P t with
   |none=>False
   |some h=>match st.σ a with
    | .complex .f64 k e=>match fh st.D k with
      |some m=>bif ble (e+h.length) m&&eN (xP st.σ k e h.length)then tx P st w l λg=>F (FW (dx P t) (xP st.σ k e h.length)::g)else False
      |none=>False
    |v=>dT v λb e=>exL h λus=>rd w.heap b e h.length=some us/\tx P st w l λg=>F (FW (dx P t) us::g)
def Oc(R:Value->UW->Prop)(w:UW):List Value->Prop
 |[v]=>R v w
 |e=>R (.tuple e.toArray) w
def ahs(P:Program)(e:List ResultVar)(R:Value->UW->Prop):Exit->St->UW->Prop
 | .ret,st,w=>tx P st w e (Oc R w)
 | .normal,st,w=>tx P st w e (Oc R w)
 |_,_,_=>False
def WF(P:Program)(n:Nat)(fA:List Nat)(loops jt:List (Nat×Cut))(sa:List (Nat×List TypeId))(c:Code)(g:List ResultVar)(e:List Value)(w:UW)(R:Value->UW->Prop):Prop:=
 W ⟨P,n,fA,loops,jt,sa⟩ [] c (ahs P g R) ⟨JB e,[]⟩ w
def Below.QF{B:Nat}{w w':World}(h:Below B w w')(g:w.heap.size<=B)(F:Nat->Prop):Mod F w w':=
 ⟨h.os,h.tape,h.output,h.size,λb e _=>h.block b (by omega)⟩
def Mod.trans{F:Nat->Prop}{a b c:World}(h:Mod F a b)(k:Mod F b c):Mod F a c:=
 ⟨k.os.trans h.os,k.tape.trans h.tape,k.output.trans h.output,le_trans h.size k.size,
  λi g e=>(k.cu i (lt_of_lt_of_le g h.size) e).trans (h.cu i g e)⟩
structure Ctx where
 n:Nat
 w0:World
 w1:World
 F:Nat->Prop
 ro:Option (Nat×Loop):=none
structure Hid(u:UW)(wa:World)(b:Nat)(o:Obj):Prop where
 at_:wa.heap[b]?=some o
 other:o.isCells=false
 gk:¬u.gk b
 mask:b<u.heap.size->u.heap[b]?=some db
def Hid.world{u u':UW}{wa j:World}{F:Nat->Prop}{b:Nat}{o:Obj}(h:Hid u wa b o)(w:∀b,F b->u.gk b)(x:Mod F wa j)(A:Mod F u.toWorld u'.toWorld)
  (G:∀b,u.heap.size<=b->b<wa.heap.size->b<u'.heap.size->u'.heap[b]?=some db) (e:∀b,u'.gk b->b<wa.heap.size->u.gk b):Hid u' j b o:=by
 have i:b<wa.heap.size:=(Array.getElem?_eq_some_iff.1 h.at_).1;refine⟨(x.cu _ i (λg=>h.gk (w _ g))).trans h.at_,h.other,λhp=>h.gk (e _ hp i),λy=>?_⟩;by_cases r:b<u.heap.size
 .rw[A.cu _ r (λg=>h.gk (w _ g))];exact h.mask r
 .exact G _ (by omega) i y
structure Marks(C:Ctx)(ds:List Deferred)(wa:World)(u:UW):Prop where
 each:∀d∈ds,∃r,d={target:=.collected r,args:= #[]}/\C.w1.heap.size<=r/\Hid u wa r (.deferred (some []))
 nodup:ds.Nodup
structure Inv(C:Ctx)(a:Act)(wa:World)(st:St)(u:UW)(θ:Nat->Nat):Prop where
 size:a.tmps.size=C.n
 jf:C.n<=65536
 defers:Marks C a.defers wa u
 round:∀l r,C.ro=some (l,r)->Hid u wa l (.loop r)
 iL:∀t,t<C.n->R θ (st.σ t) (a.tmps.getD t undef)
 below:yG u.toWorld wa
 boxes:∀k m,(k,m)∈st.D->m<=65536/\∃c T,wa.heap[θ k]?=some (.cells c T (0,0))/\c.size=m/\(∀j,j<m->R θ (st.σ (gx k j)) (c.getD j undef))/\¬u.gk (θ k)/\C.w1.heap.size<=θ k/\(θ k<u.heap.size->u.heap[θ k]?=some db)
 inj:∀k m k' m',(k,m)∈st.D->(k',m')∈st.D->θ k=θ k'->k=k'/\m=m'
 jw:∀t,t<C.n->∀k o,st.σ t=dU k o->∃m,(k,m)∈st.D
 gS:∀k m,(k,m)∈st.D->∀j,j<m->∀k' o,st.σ (gx k j)≠dU k' o
 pY:∀b,u.gk b->b<wa.heap.size
 mod:Mod C.F C.w1 wa
 qE:∀b,u.gk b->b<C.w1.heap.size->C.F b
 umod:Mod C.F C.w0 u.toWorld
 Kt:C.w0.heap.size<=C.w1.heap.size
 BU:∀b,C.w0.heap.size<=b->b<C.w1.heap.size->b<u.heap.size->u.heap[b]?=some db
 F0:∀b,C.F b->b<C.w0.heap.size
def iU{k j g e:Nat}(i:j<65536)(r:e<65536)(h:gx k j=gx g e):k=g/\j=e:=by
 unfold gx at h;omega
def jv(k j:Nat):65536<=gx k j:=by unfold gx;omega
def gU{σ:Fr}{k:Nat}:∀(e:List Value) (o t:Nat),t<65536->rG σ k o e t=σ t:=by
 intro e;induction e generalizing σ with
 |nil=>intro o t _;rfl
 |cons v e g=>
  intro o t h;simp only[rG];rw[g _ _ h,cw];have:=jv k o;omega
def dM{σ:Fr}{k:Nat}:∀(e:List Value) (o i:Nat),(∀j,o<=j->j<o+e.length->i≠gx k j)->rG σ k o e i=σ i:=by
 intro e;induction e generalizing σ with
 |nil=>intro o i _;rfl
 |cons v e g=>
  intro o i h;simp only[rG];rw[g _ _ (λj w r=>h j (by omega) (by simp;omega)),cw];exact h o (by omega) (by simp)
def te{σ:Fr}{k:Nat}:∀(e:List Value) (o j:Nat),j<e.length->o+e.length<=65536->rG σ k o e (gx k (o+j))=e.getD j undef:=by
 intro e;induction e generalizing σ with
 |nil=>intro o j h;simp at h
 |cons v e g=>
  intro o j h r;simp only[rG];simp only[length_cons]at h r;cases j with
  |zero=>
   rw[dM]
   .simp
   .intro i y x w;have:=(iU (by omega) (by omega) w).2;omega
  |succ j=>
   have:=g (σ:=jd σ (gx k o) v) (o+1) j (by omega) (by omega);rw[show o+(j+1)=o+1+j from by omega,this];simp
structure ajK(n:Nat)(s t:St):Prop where
 slot:∀i,i<n->s.σ i=aU\/s.σ i=t.σ i
 D:∀k m,(k,m)∈s.D->(k,m)∈t.D/\∀j,j<m->s.σ (gx k j)=aU\/s.σ (gx k j)=t.σ (gx k j)
 jw:∀i,i<n->∀k o,s.σ i=dU k o->(∃m,(k,m)∈t.D)->∃m,(k,m)∈s.D
def JL(θ:Nat->Nat)(r:Value):R θ aU r:=trivial
def Inv.Db{C:Ctx}{a:Act}{wa:World}{s t:St}{u:UW}{θ:Nat->Nat}(h:Inv C a wa t u θ)(r:ajK C.n s t):Inv C a wa s u θ where
 size:=h.size
 jf:=h.jf
 defers:=h.defers
 round:=h.round
 iL:=λi w=>by
  rcases r.slot i w with e|e
  .rw[e];exact JL _ _
  .rw[e];exact h.iL i w
 below:=h.below
 boxes:=λk m A=>by
  obtain⟨bZ,L⟩:=r.D k m A
  obtain⟨J,c,T,H,G,Y,U,O⟩:=h.boxes k m bZ
  refine⟨J,c,T,H,G,λj x=>?_,U,O⟩
  rcases L j x with e|e
  .rw[e];exact JL _ _
  .rw[e];exact Y j x
 inj:=λk m y I H G=>h.inj k m y I (r.D k m H).1 (r.D y I G).1
 jw:=λi w k o e=>by
  refine r.jw i w k o e ?_
  rcases r.slot i w with g|g
  .rw[e]at g;cases g
  .exact h.jw i w k o (g▸e)
 gS:=λk m A j x y o e=>by
  rcases(r.D k m A).2 j x with g|g
  .rw[e]at g;cases g
  .exact h.gS k m (r.D k m A).1 j x y o (g▸e)
 pY:=h.pY
 mod:=h.mod
 qE:=h.qE
 umod:=h.umod
 Kt:=h.Kt
 BU:=h.BU
 F0:=h.F0
def wc(a:Array Value)(d t:Nat)(r:Value)(h:d<a.size):(a.setIfInBounds d r).getD t undef=if t=d then r else a.getD t undef:=by
 by_cases e:t=d
 .subst e;simp[h]
 .rw[if_neg e];simp[Ne.symm e]
def sN(a:Act)(d:Option Nat)(r:Value):(a.put d r).tmps.size=a.tmps.size:=by cases d<;>simp[Act.put]
def put_defers(a:Act)(d:Option Nat)(r:Value):(a.put d r).defers=a.defers:=by cases d<;>rfl
def Inv.fin{C:Ctx}{a:Act}{wa:World}{st:St}{u:UW}{θ:Nat->Nat}(h:Inv C a wa st u θ)(d:Option Nat)(x:∀t,d=some t->t<C.n){v r:Value}(H:R θ v r)
  (J:∀k o,v=dU k o->∃m,(k,m)∈st.D):Inv C (a.put d r) wa {st with σ:=put st.σ d v} u θ where
 size:=by rw[sN];exact h.size
 jf:=h.jf
 defers:=by rw[put_defers];exact h.defers
 round:=h.round
 iL:=λt g=>by
  cases d with
  |none=>exact h.iL t g
  |some d=>
   simp only[Act.put,put]
   rw[wc _ _ _ _ (by rw[h.size];exact x d rfl)]
   by_cases e:t=d
   .subst e;simp[H]
   .rw[if_neg e,cw _ _ e];exact h.iL t g
 below:=h.below
 boxes:=λk m w=>by
  obtain⟨I,c,T,Y,U,A,O,L⟩:=h.boxes k m w
  refine⟨I,c,T,Y,U,λj i=>?_,O,L⟩
  cases d with
  |none=>exact A j i
  |some d=>
   simp only[put]
   have:=x d rfl;have:=h.jf;have:=jv k j
   rw[cw _ _ (by omega)]
   exact A j i
 inj:=h.inj
 jw:=λt g k o e=>by
  cases d with
  |none=>exact h.jw t g k o e
  |some d=>
   simp only[put]at e
   by_cases G:t=d
   .subst G;rw[fj]at e;exact J k o e
   .rw[cw _ _ G]at e;exact h.jw t g k o e
 gS:=λk m w j i y o e=>by
  cases d with
  |none=>exact h.gS k m w j i y o e
  |some d=>
   simp only[put]at e
   have:=x d rfl;have:=h.jf;have:=jv k j
   rw[cw _ _ (by omega)]at e
   exact h.gS k m w j i y o e
 pY:=h.pY
 mod:=h.mod
 qE:=h.qE
 umod:=h.umod
 Kt:=h.Kt
 BU:=h.BU
 F0:=h.F0
def kg{v:Value}(h:plain v=true)(k o:Nat):v≠dU k o:=by rintro rfl;simp[plain]at h
def Inv.cW{C:Ctx}{a:Act}{wa:World}{st:St}{u:UW}{θ:Nat->Nat}(h:Inv C a wa st u θ)(d:Option Nat)(g:∀t,d=some t->t<C.n){v:Value}(hp:plain v=true):
  Inv C (a.put d v) wa {st with σ:=put st.σ d v} u θ:=
 h.fin d g (po hp) (λk o e=>absurd e (kg hp k o))
def Inv.world{C:Ctx}{a:Act}{wa:World}{st:St}{u:UW}{θ:Nat->Nat}(h:Inv C a wa st u θ){L:World}{u':UW}{F:Nat->Prop}(A:∀b,F b->u.gk b)
  (y:Mod F wa L) (i:yG u'.toWorld L) (x:Mod F u.toWorld u'.toWorld)
  (O:∀b,u.heap.size<=b->b<wa.heap.size->b<u'.heap.size->u'.heap[b]?=some db)
  (hp:∀b,u'.gk b->b<L.heap.size) (g:∀b,u'.gk b->b<wa.heap.size->u.gk b):Inv C a L st u' θ where
 size:=h.size
 jf:=h.jf
 defers:=⟨λd hd=>let ⟨r,e,hr,hh⟩:=h.defers.each d hd;⟨r,e,hr,hh.world A y x O g⟩,h.defers.nodup⟩
 round:=λl r e=>(h.round l r e).world A y x O g
 iL:=h.iL
 below:=i
 boxes:=λk m hk=>by
  obtain⟨zh,c,T,J,H,h3,Y,h5,h6⟩:=h.boxes k m hk
  have w:θ k<wa.heap.size:=(Array.getElem?_eq_some_iff.1 J).1
  refine⟨zh,c,T,(y.cu _ w (λj=>Y (A _ j))).trans J,H,h3,λLn=>Y (g _ Ln w),h5,λhl=>?_⟩
  by_cases G:θ k<u.heap.size
  .rw[x.cu _ G (λj=>Y (A _ j))];exact h6 G
  .exact O _ (by omega) w hl
 inj:=h.inj
 jw:=h.jw
 gS:=h.gS
 pY:=hp
 mod:=by
  refine⟨y.os.trans h.mod.os,y.tape.trans h.mod.tape,y.output.trans h.mod.output,le_trans h.mod.size y.size,λb i I=>?_⟩
  have w:b<wa.heap.size:=lt_of_lt_of_le i h.mod.size
  rw[y.cu b w (λj=>I (h.qE b (A _ j) i))]
  exact h.mod.cu b i I
 qE:=λb i w=>h.qE b (g b i (lt_of_lt_of_le w h.mod.size)) w
 umod:=by
  refine⟨x.os.trans h.umod.os,x.tape.trans h.umod.tape,x.output.trans h.umod.output,le_trans h.umod.size x.size,λb i I=>?_⟩
  have w:b<u.heap.size:=lt_of_lt_of_le i h.umod.size
  rw[x.cu b w (λj=>I (h.qE b (A _ j) (lt_of_lt_of_le i h.Kt)))]
  exact h.umod.cu b i I
 Kt:=h.Kt
 BU:=λb J H h3=>by
  by_cases G:b<u.heap.size
  .by_cases j:F b
   .have:=h.BU b J H G
    have U:=h.qE b (A _ j) H
    exact absurd (h.F0 b U) (by omega)
   .rw[x.cu b G j];exact h.BU b J H G
  .exact O b (by omega) (lt_of_lt_of_le H h.mod.size) h3
 F0:=h.F0
def Mod.refl(F:Nat->Prop)(w:World):Mod F w w:=⟨rfl,rfl,rfl,le_refl _,λ_ _ _=>rfl⟩
def yG.refl(w:World):yG w w:=⟨rfl,rfl,rfl,le_refl _,λ_ _=>.inl rfl⟩
def Inv.drew{C:Ctx}{a:Act}{wa:World}{st:St}{u:UW}{θ:Nat->Nat}(h:Inv C a wa st u θ):Inv C a {wa with drawn:=wa.drawn+1} st u θ:=
 h.world (u':=u) (F:=λ_=>False) (λ_ e=>e.elim) ⟨rfl,rfl,rfl,le_refl _,λ_ _ _=>rfl⟩ ⟨h.below.os,h.below.tape,h.below.output,h.below.size,h.below.block⟩ (Mod.refl _ _)
  (λb j _ i=>by omega) h.pY (λ_ g _=>g)
def grow(u:World)(wa:World)(o:Obj):World:={wa with heap:=u.heap++replicate (wa.heap.size-u.heap.size) db++ #[o]}
def rS{u wa:World}{o:Obj}(h:u.heap.size<=wa.heap.size):(grow u wa o).heap.size=wa.heap.size+1:=by simp[grow];omega
def BZ{u wa:World}{o:Obj}{b:Nat}(h:b<u.heap.size):(grow u wa o).heap[b]?=u.heap[b]?:=by
 simp only[grow];rw[Array.getElem?_append_left (by simp;omega),Array.getElem?_append_left h]
def Jd{u wa:World}{o:Obj}{b:Nat}(e:u.heap.size<=b)(g:b<wa.heap.size):(grow u wa o).heap[b]?=some db:=by
 simp only[grow];rw[Array.getElem?_append_left (by simp;omega),Array.getElem?_append_right e,Array.getElem?_replicate,if_pos (by omega)]
def Jc{u wa:World}{o:Obj}(h:u.heap.size<=wa.heap.size):(grow u wa o).heap[wa.heap.size]?=some o:=by
 simp only[grow];rw[Array.getElem?_append_right (by simp;omega)];have e:wa.heap.size-(u.heap++replicate (wa.heap.size-u.heap.size) db).size=0:=by simp;omega
 rw[e];rfl
def Inv.born{C:Ctx}{a:Act}{wa:World}{st:St}{u:UW}{θ:Nat->Nat}(h:Inv C a wa st u θ)(o:Obj):
  ∃w',rF u.toWorld w' wa.heap.size o/\Inv C a (wa.alloc o) st (u.born wa.heap.size w') θ:=by
 have j:Below wa.heap.size wa (wa.alloc o):=(Below.refl _ _).alloc (le_refl _) o;have w:(wa.alloc o).heap[wa.heap.size]?=some o:=by
  show(wa.heap.push o)[wa.heap.size]?=_;simp
 have g:=h.below.size;have G:(wa.alloc o).heap.size=wa.heap.size+1:=by simp
 refine⟨grow u.toWorld wa o,⟨⟨h.below.os,h.below.tape,h.below.output,by rw[rS g];omega,λk y=>BZ y⟩,Jc g,g⟩,?_⟩;refine h.world (F:=λ_=>False) (λ_ A=>A.elim) (Below.QF j (le_refl _) _) ?_ ?_ ?_ ?_ ?_
 .refine⟨rfl,rfl,rfl,?_,λb e=>?_⟩
  .show(grow u.toWorld wa o).heap.size<=_;rw[rS g,G];omega
  .have x:b<(grow u.toWorld wa o).heap.size:=e;rw[rS g]at x;show(grow u.toWorld wa o).heap[b]?=_\/(grow u.toWorld wa o).heap[b]?=_;by_cases i:b<u.heap.size
   .rw[BZ i,j.block b (by omega)];exact h.below.block b i
   .by_cases r:b<wa.heap.size
    .exact .inr (Jd (by omega) r)
    .obtain rfl:b=wa.heap.size:=by omega
     exact .inl (by rw[Jc g,w])
 .exact⟨h.below.os,h.below.tape,h.below.output,by show _<=(grow u.toWorld wa o).heap.size;rw[rS g];omega,λb e _=>BZ e⟩
 .intro b i r _;exact Jd i r
 .intro b e;rcases e with e|rfl
  .exact lt_of_lt_of_le (h.pY b e) j.size
  .omega
 .intro b e H;rcases e with e|rfl
  .exact e
  .omega
structure cN(n:Nat)(fz ws:List Nat)(s t:St):Prop where
 slot:∀i,i<n->i∉ws->t.σ i=s.σ i
 D:∀x,x∈s.D->x∈t.D
 fz:∀k,k∈fz->∀m,(k,m)∈s.D->∀j,j<m->t.σ (gx k j)=s.σ (gx k j)
def cN.refl(n:Nat)(fz e:List Nat)(s:St):cN n fz e s s:=⟨λ_ _ _=>rfl,λ_ h=>h,λ_ _ _ _ _ _=>rfl⟩
def cN.trans{n:Nat}{fz w e:List Nat}{a b c:St}(h:cN n fz w a b)(k:cN n fz e b c):cN n fz (w++e) a c where
 slot:=λi G r=>by
  simp only[List.mem_append,not_or]at r
  rw[k.slot i G r.2,h.slot i G r.1]
 D:=λx g=>k.D x (h.D x g)
 fz:=λx g m y j A=>by rw[k.fz x g m (h.D _ y) j A,h.fz x g m y j A]
def cN.mono{n:Nat}{fz g fz' e:List Nat}{a b:St}(h:cN n fz g a b)(G:∀x,x∈fz'->x∈fz)(A:∀x,x∈g->x∈e):cN n fz' e a b:=
 ⟨λi y r=>h.slot i y (λj=>r (A _ j)),h.D,λk w=>h.fz k (G _ w)⟩
def cN.fin{n:Nat}{fz:List Nat}(st:St)(d:Option Nat)(g:∀t,d=some t->t<n)(r:n<=65536)(v:Value):cN n fz d.toList st {st with σ:=put st.σ d v} where
 slot:=λi _ e=>by
  cases d with
  |none=>rfl
  |some d=>simp only[Option.toList,List.mem_singleton]at e;simp only[put];rw[cw _ _ e]
 D:=λ_ h=>h
 fz:=λk _ m _ j _=>by
  cases d with
  |none=>rfl
  |some d=>
   simp only[put]
   have:=g d rfl;have:=jv k j
   rw[cw _ _ (by omega)]
theorem kr(b o i:Nat):(⟨b,o,none⟩:Addr).add i=⟨b,o+i,none⟩:=by
 unfold Addr.add;split
 .subst_vars;rfl
 .rfl
def G_{θ e:Nat->Nat}{v r:Value}(h:R θ v r)(g:∀k o,v=dU k o->e k=θ k):R e v r:=by
 unfold R at*
 split
 .rename_i k o;rw[g k o rfl];exact h
 .trivial
 .rename_i j i;split at h
  .exact absurd rfl (j _ _)
  .exact absurd rfl (i _ _)
  .exact h
def je(w:World)(b:Nat)(o:Obj):World:={w with heap:=w.heap.setIfInBounds b o}
def vq{w:World}{b:Nat}{o:Obj}(h:b<w.heap.size):(je w b o).heap[b]?=some o:=by simp[je,h]
def kZ{w:World}{b c:Nat}{o:Obj}(h:c≠b):(je w b o).heap[c]?=w.heap[c]?:=by simp[je,Ne.symm h]
def fw{w:World}{b:Nat}{o:Obj}:(je w b o).heap.size=w.heap.size:=by simp[je]
def vf:∀(e:List Value) (c:Array Value) (o:Nat),(vc c o e).size=c.size
 |[],_,_=>rfl
 |v::e,c,o=>by simp[vc,vf e]
def Mr:∀(e:List Value) (c:Array Value) (o j:Nat),o+e.length<=c.size->(vc c o e).getD j undef=if o<=j/\j<o+e.length then e.getD (j-o) undef else c.getD j undef
 |[],c,o,j,_=>by
  rw[if_neg (by simp only[length_nil];omega)];rfl
 |v::e,c,o,j,h=>by
  simp only[length_cons]at h
  simp only[vc]
  rw[Mr e _ (o+1) j (by simp;omega),wc _ _ _ _ (by omega)]
  by_cases r:j=o
  .subst r
   rw[if_neg (by omega),if_pos rfl,if_pos (by simp)]
   simp
  .rw[if_neg r]
   by_cases g:o+1<=j/\j<o+1+e.length
   .rw[if_pos g,if_pos (by simp;omega)]
    obtain⟨i,w⟩:∃i,j-o=i+1:=⟨j-o-1,by omega⟩
    rw[w,show j-(o+1)=i from by omega];simp
   .rw[if_neg g,if_neg (by simp;omega)]
def cell_of{w:World}{b o:Nat}{c:Array Value}{T:TypeId}{f:Nat×Nat}(h:w.heap[b]?=some (.cells c T f)):w.cell? ⟨b,o,none⟩=c[o]?:=by
 simp[World.cell?,h]
def mV{P:Program}{w:World}{b o:Nat}{c:Array Value}{T:TypeId}{f:Nat×Nat}(h:w.heap[b]?=some (.cells c T f)):
  ∀(n i:Nat) (acc:Array Value),o+i+n<=c.size->(loadCellsFrom ⟨b,o,none⟩ i n acc).run P w=.ok (acc++((c.toList.drop (o+i)).take n).toArray) w
 |0,i,acc,_=>by simp[loadCellsFrom]
 |n+1,i,acc,j=>by
  have e:o+i<c.size:=by omega
  simp only[loadCellsFrom,run_bind,run_load,kr,cell_of h,getElem?_eq_getElem e,andThen_ok];rw[mV h n (i+1) _ (by omega)];have g:o+i<c.toList.length:=by simpa using e
  rw[drop_eq_getElem_cons g];simp[Nat.add_assoc]
def sQ{P:Program}{w:World}{b o n:Nat}{c:Array Value}{T:TypeId}{f:Nat×Nat}(h:w.heap[b]?=some (.cells c T f))(e:o+n<=c.size):
  (loadCells ⟨b,o,none⟩ n).run P w=.ok ((c.toList.drop o).take n).toArray w:=by
 unfold loadCells;rw[mV h n 0 #[] (by omega)];simp
def OI{v:Value}(h:one v=true):v.oneCell'=true:=by cases v<;>simp_all [one,Value.oneCell']
def Ov{w:World}{b:Nat}{o:Obj}(h:w.heap[b]?=some o):je w b o=w:=by
 obtain⟨i,tape,g,os,output⟩:=w;simp only[je];congr 1;apply Array.ext_getElem?;intro k;rw[Array.getElem?_setIfInBounds];split
 .rename_i e;subst e;have j:=(Array.getElem?_eq_some_iff.1 h).1;rw[if_pos j];exact h.symm
 .rfl
def FA{w:World}{b o:Nat}{c:Array Value}{T:TypeId}{f:Nat×Nat}(v:Value)(h:w.heap[b]?=some (.cells c T f)):
  w.setCell ⟨b,o,none⟩ v=je w b (.cells (c.setIfInBounds o v) T f):=by
 obtain⟨g,tape,i,os,output⟩:=w;simp only[je,World.setCell];congr 1;apply Array.ext_getElem?;intro k;rw[Array.getElem?_setIfInBounds,Array.getElem?_modify];split
 .rename_i e;subst e;have j:g[b]?=some (.cells c T f):=h;have r:=(Array.getElem?_eq_some_iff.1 j).1;rw[j];simp[r]
 .rfl
def lK{P:Program}{b o:Nat}{T:TypeId}:∀(e:List Value) (i:Nat) (w:World) (c:Array Value),w.heap[b]?=some (.cells c T (0,0))->o+i+e.length<=c.size->(∀v∈e,one v=true)->
  (storeCells ⟨b,o,none⟩ e i).run P w=.ok () (je w b (.cells (vc c (o+i) e) T (0,0)))
 |[],i,w,c,h,_,_=>by
  simp only[storeCells,vc,run_pure]
  rw[Ov h]
 |v::e,i,w,c,h,r,g=>by
  have y:b<w.heap.size:=(Array.getElem?_eq_some_iff.1 h).1
  simp only[length_cons]at r;have A:o+i<c.size:=by omega
  have G:w.frozen? ⟨b,o+i,none⟩=false:=by simp[World.frozen?,h]
  have H:w.cell? ⟨b,o+i,none⟩=some c[o+i]:=by rw[cell_of h,getElem?_eq_getElem A]
  simp only[storeCells,run_bind,kr,run_store _ _ _ _ _ (OI (g v (by simp))),H,G];simp only[false_eq_true,if_false,andThen_ok];rw[FA v h];rw[lK e (i+1) _ (c.setIfInBounds (o+i) v) (vq y) (by simp;omega) (λx j=>g x (by simp[j]))];congr 1;simp only[je,vc,Array.setIfInBounds_setIfInBounds];rfl
end Go.aP
namespace Go.aP
open Go.RowKit
def og{e:List Value}(h:eN e=true):∀v∈e,plain v=true/\one v=true:=by
 intro v g;have:=all_eq_true.1 h v g;simpa using this
def Inv.ZM{C:Ctx}{a:Act}{wa:World}{st:St}{u:UW}{θ:Nat->Nat}(h:Inv C a wa st u θ){k:Nat}{cs:Array Value}{T:TypeId}(hk:k<C.n)(aiQ:∀m,(k,m)∉st.D)
  (hp:∀v∈cs.toList,plain v=true) (fK:cs.size<=65536):
  Inv C (a.put (some k) (.pointer (some ⟨wa.heap.size,0,none⟩))) (wa.alloc (.cells cs T (0,0))) {st with σ:=rG (jd st.σ k (dU k 0)) k 0 cs.toList,D:=(k,cs.size)::st.D} u
   (λi=>if i=k then wa.heap.size else θ i):=by
 have J:Below wa.heap.size wa (wa.alloc (.cells cs T (0,0))):=(Below.refl _ _).alloc (le_refl _) _;have pR:(wa.alloc (.cells cs T (0,0))).heap[wa.heap.size]?=some (.cells cs T (0,0)):=by
  show(wa.heap.push _)[wa.heap.size]?=_;simp
 have hn:=h.jf;have w:∀g m,(g,m)∈st.D->g≠k:=λg m x e=>aiQ m (e▸x);have bK:∀g m,(g,m)∈st.D->θ g<wa.heap.size:=λg m x=>by
  obtain⟨_,c,T',y,_⟩:=h.boxes g m x;exact(Array.getElem?_eq_some_iff.1 y).1
 have IW:∀g m,(g,m)∈st.D->∀j,j<m->rG (jd st.σ k (dU k 0)) k 0 cs.toList (gx g j)=st.σ (gx g j):=λg m x j A=>by
  have sU:=(h.boxes g m x).1;rw[dM,cw]
  .have:=jv g j;omega
  .intro i _ hi e;have:=(iU (by omega) (by simp at hi;omega) e).1;exact w g m x this
 have zj:∀{b:Nat} {o:Obj},Hid u wa b o->Hid u (wa.alloc (.cells cs T (0,0))) b o:=λH=>
  ⟨(J.block _ (Array.getElem?_eq_some_iff.1 H.at_).1).trans H.at_,H.other,H.gk,H.mask⟩
 refine⟨?_,hn,?_,?_,?_,?_,?_,?_,?_,?_,?_,?_,h.qE,h.umod,h.Kt,h.BU,h.F0⟩
 .rw[sN];exact h.size
 .rw[put_defers];exact⟨λd hd=>let ⟨r,e,hr,H⟩:=h.defers.each d hd;⟨r,e,hr,zj H⟩,h.defers.nodup⟩
 .exact λl r e=>zj (h.round l r e)
 .intro t O;simp only[Act.put];rw[wc _ _ _ _ (by rw[h.size];exact hk),gU _ _ _ (by omega)];by_cases e:t=k
  .subst e;rw[if_pos rfl,fj];simp[R]
  .rw[if_neg e,cw _ _ e];refine G_ (h.iL t O) λg o Y=>?_;obtain⟨m,x⟩:=h.jw t O g o Y;simp[w g m x]
 .refine⟨h.below.os,h.below.tape,h.below.output,le_trans h.below.size J.size,λb U=>?_⟩;rw[J.block b (lt_of_lt_of_le U h.below.size)];exact h.below.block b U
 .intro g m x;simp only[mem_cons,Prod.mk.injEq]at x;rcases x with⟨rfl,rfl⟩|x
  .refine⟨fK,cs,T,by simpa using pR,rfl,λj A=>?_,?_,?_,?_⟩
   .have L:=te (σ:=jd st.σ g (dU g 0)) (k:=g) cs.toList 0 j (by simpa using A) (by simpa using fK);simp only[zero_add]at L;simp only;rw[L];have fB:cs.toList.getD j undef∈cs.toList:=by
     rw[List.getD_eq_getElem?_getD,List.getElem?_eq_getElem (by simpa using A)];simp
    rw[iZ (hp _ fB)];simp
   .simp only[if_true];intro Ln;have:=h.pY _ Ln;omega
   .simp only[if_true];exact h.mod.size
   .simp only[if_true];intro hl;have:=h.below.size;omega
  .obtain⟨zh,c,T',y,G,h3,h4,h5,h6⟩:=h.boxes g m x;simp only[if_neg (w g m x)];refine⟨zh,c,T',(J.block _ (bK g m x)).trans y,G,λj A=>?_,h4,h5,h6⟩;simp only[IW g m x j A];exact G_ (h3 j A) λk'' o e=>absurd e (h.gS g m x j A k'' o)
 .intro I m1 k2 m2 y G e;simp only[mem_cons,Prod.mk.injEq]at y G;rcases y with⟨rfl,rfl⟩|y<;>rcases G with⟨rfl,rfl⟩|G
  .exact⟨rfl,rfl⟩
  .simp only[if_true,if_neg (w _ _ G)]at e;have:=bK _ _ G;omega
  .simp only[if_true,if_neg (w _ _ y)]at e;have:=bK _ _ y;omega
  .simp only[if_neg (w _ _ y),if_neg (w _ _ G)]at e;exact h.inj _ _ _ _ y G e
 .intro t O g o e;simp only at e;rw[gU _ _ _ (by omega)]at e;by_cases Y:t=k
  .subst Y;rw[fj]at e;simp only[Value.complex.injEq,true_and]at e;exact⟨cs.size,by simp[e.1]⟩
  .rw[cw _ _ Y]at e;obtain⟨m,x⟩:=h.jw t O g o e;exact⟨m,by simp[x]⟩
 .intro I m1 y j A g o e;simp only[mem_cons,Prod.mk.injEq]at y;rcases y with⟨rfl,rfl⟩|y
  .have L:=te (σ:=jd st.σ I (dU I 0)) (k:=I) cs.toList 0 j (by simpa using A) (by simpa using fK);simp only[zero_add]at L;simp only at e;rw[L]at e;have fB:cs.toList.getD j undef∈cs.toList:=by
    rw[List.getD_eq_getElem?_getD,List.getElem?_eq_getElem (by simpa using A)];simp
   exact kg (hp _ fB) g o e
  .simp only[IW I m1 y j A]at e;exact h.gS I m1 y j A g o e
 .intro b U;exact lt_of_lt_of_le (h.pY b U) J.size
 .exact h.mod.trans (Below.QF J (le_refl _) _)
def Inv.acU{C:Ctx}{a:Act}{wa:World}{st:St}{u:UW}{θ:Nat->Nat}(h:Inv C a wa st u θ){k m o:Nat}{vs:List Value}(Y:(k,m)∈st.D)(hl:o+vs.length<=m)
  (hp:∀v∈vs,plain v=true):∃c T,wa.heap[θ k]?=some (.cells c T (0,0))/\c.size=m/\
   Inv C a (je wa (θ k) (.cells (vc c o vs) T (0,0))) {st with σ:=rG st.σ k o vs} u θ:=by
 obtain⟨zh,c,T,O,h2,h3,h4,h5,h6⟩:=h.boxes k m Y;have bK:θ k<wa.heap.size:=(Array.getElem?_eq_some_iff.1 O).1;have hn:=h.jf;have IW:∀g y,(g,y)∈st.D->g≠k->∀j,j<y->rG st.σ k o vs (gx g j)=st.σ (gx g j):=λg y w aW j x=>by
  have sU:=(h.boxes g y w).1;rw[dM];intro i _ hi e;exact aW (iU (by omega) (by omega) e).1
 have zj:∀{b:Nat} {ob:Obj},Hid u wa b ob->Hid u (je wa (θ k) (.cells (vc c o vs) T (0,0))) b ob:=λ{b ob} A=>by
  refine⟨?_,A.other,A.gk,A.mask⟩;rw[kZ]
  .exact A.at_
  .rintro rfl;have:=A.at_;rw[O]at this;cases this;have:=A.other;simp[Obj.isCells]at this
 refine⟨c,T,O,h2,h.size,hn,⟨λd hd=>let ⟨r,e,L,A⟩:=h.defers.each d hd;⟨r,e,L,zj A⟩,h.defers.nodup⟩,λl r e=>zj (h.round l r e),?_,?_,?_,h.inj,?_,?_,?_,?_,h.qE,h.umod,h.Kt,h.BU,h.F0⟩
 .intro t ht;simp only;rw[gU _ _ _ (by omega)];exact h.iL t ht
 .refine⟨h.below.os,h.below.tape,h.below.output,by rw[fw];exact h.below.size,λb G=>?_⟩;by_cases e:b=θ k
  .subst e;exact .inr (h6 G)
  .rw[kZ e];exact h.below.block b G
 .intro g y w;by_cases e:g=k
  .subst e;obtain rfl:y=m:=(h.inj _ _ _ _ w Y rfl).2;refine⟨zh,vc c o vs,T,vq bK,by rw[vf,h2],λj x=>?_,h4,h5,h6⟩;rw[Mr _ _ _ _ (by omega)];simp only;by_cases L:o<=j/\j<o+vs.length
   .rw[if_pos L];have J:=te (σ:=st.σ) (k:=g) vs o (j-o) (by omega) (by omega);rw[show o+(j-o)=j from by omega]at J;rw[J];have fB:vs.getD (j-o) undef∈vs:=by
     rw[List.getD_eq_getElem?_getD,List.getElem?_eq_getElem (by omega)];simp
    exact po (hp _ fB)
   .rw[if_neg L,dM]
    .exact h3 j x
    .intro i O h2 e;have:=(iU (by omega) (by omega) e).2;omega
  .obtain⟨ain,c',T',Hx,Ns,YE,h4',h5',h6'⟩:=h.boxes g y w;have aW:θ g≠θ k:=λe'=>e (h.inj _ _ _ _ w Y e').1;refine⟨ain,c',T',(kZ aW).trans Hx,Ns,λj x=>?_,h4',h5',h6'⟩;simp only[IW g y w e j x];exact YE j x
 .intro t ht g H e;simp only at e;rw[gU _ _ _ (by omega)]at e;exact h.jw t ht g H e
 .intro I U w j x g H e;by_cases ek:I=k
  .subst ek;obtain rfl:U=m:=(h.inj _ _ _ _ w Y rfl).2;simp only at e;by_cases L:o<=j/\j<o+vs.length
   .have J:=te (σ:=st.σ) (k:=I) vs o (j-o) (by omega) (by omega);rw[show o+(j-o)=j from by omega]at J;rw[J]at e;have fB:vs.getD (j-o) undef∈vs:=by
     rw[List.getD_eq_getElem?_getD,List.getElem?_eq_getElem (by omega)];simp
    exact kg (hp _ fB) g H e
   .rw[dM]at e
    .exact h.gS I U w j x g H e
    .intro i O h2 e;have:=(iU (by omega) (by omega) e).2;omega
  .simp only[IW I U w ek j x]at e;exact h.gS I U w j x g H e
 .intro b G;rw[fw];exact h.pY b G
 .refine⟨h.mod.os,h.mod.tape,h.mod.output,by rw[fw];exact h.mod.size,λb G hF=>?_⟩;rw[kZ (by omega)];exact h.mod.cu b G hF
def df(n:Nat)(x:Operand):Bool:=
 match x with
 | .tmp t=>blt t n
 | .const v=>plain v
 |_=>true
def M_(o:Oper):Bool:=match o.op with| .defer _=>false|_=>true
def bC(n:Nat)(o:Oper):Bool:=o.op.operands.toList.all (df n)&&(match o.dst with|some d=>blt d n|none=>true)&&M_ o
def oP{n:Nat}{o:Oper}(g:bC n o=true)(c:Call):o.op≠ .defer c:=by
 intro e;simp[bC,M_,e]at g
def iY{a b:Nat}:blt a b=true↔a<b:=by simp[Nat.blt_eq]
variable {C:Ctx} {a:Act} {wa:World} {st:St} {u:UW} {θ:Nat->Nat}
def Gy(h:Inv C a wa st u θ){x:Operand}(e:df C.n x=true):R θ (ev st.σ x) (a.eval x):=by
 cases x with
 |tmp t=>exact h.iL t (iY.1 e)
 |const v=>exact po e
 |global g=>exact po rfl
 |func f=>exact po rfl
def oe(g:Inv C a wa st u θ){x:Operand}(e:df C.n x=true)(hp:plain (ev st.σ x)=true):a.eval x=ev st.σ x:=(iZ hp).1 (Gy g e)
def bg(h:Inv C a wa st u θ){x:Operand}(e:df C.n x=true){v:Value}(g:ev st.σ x=v)(hp:plain v=true):a.eval x=v:=by
 subst g;exact oe h e hp
def kQ(j:Inv C a wa st u θ){x:Operand}(i:df C.n x=true){k o:Nat}(e:ev st.σ x=dU k o):a.eval x=.pointer (some ⟨θ k,o,none⟩)/\∃m,(k,m)∈st.D:=by
 have h:=Gy j i;rw[e]at h;refine⟨h,?_⟩;cases x with
 |tmp t=>exact j.jw t (iY.1 i) k o e
 |const v=>simp only[ev]at e;subst e;simp[df,plain]at i
 |global g=>simp[ev]at e
 |func f=>simp[ev]at e
def NX(C:Ctx)(fz:List Nat)(o:Oper)(st:St)(θ:Nat->Nat)(i:Bool)(K:St->UW->Prop)(j:Act)(r:World):Prop:=
 ∃g h e,Inv C j r g h e/\cN C.n fz o.dst.toList st g/\(∀k m,(k,m)∈st.D->e k=θ k)/\(i=false->g.D=st.D)/\K g h
def eI{n:Nat}{o:Oper}(e:bC n o=true):∀t,o.dst=some t->t<n:=by
 intro t g;simp only[bC,and_eq_true]at e;have:=e.1.2;rw[g]at this;exact iY.1 this
def lE{n:Nat}{o:Oper}(e:bC n o=true){x:Operand}(g:x∈o.op.operands):df n x=true:=by
 simp only[bC,and_eq_true,all_eq_true]at e;exact e.1.1 x (by simpa using g)
def lN{i:Bool}{e:World}{u':UW}{fz:List Nat}{o:Oper}{K:St->UW->Prop}(h:bC C.n o=true)(g:Inv C a e st u' θ){v r:Value}(j:R θ v r)
  (w:∀k o,v=dU k o->∃m,(k,m)∈st.D) (hK:K (fin o st v) u'):NX C fz o st θ i K (a.put o.dst r) e:=
 ⟨_,_,_,g.fin o.dst (eI h) j w,cN.fin st o.dst (eI h) g.jf v,λ_ _ _=>rfl,λ_=>rfl,hK⟩
def aX{h:Bool}{g:World}{u':UW}{fz:List Nat}{o:Oper}{K:St->UW->Prop}(j:bC C.n o=true)(i:Inv C a g st u' θ){v:Value}(hp:plain v=true)
  (hK:K (fin o st v) u'):NX C fz o st θ h K (a.put o.dst v) g:=
 lN j i (po hp) (λk o e=>absurd e (kg hp k o)) hK
def gY{P:Program}{t:TypeId}{d:TypeDesc}(h:P.underlying t=some d):∃i,P.info? t=some i:=by
 unfold Program.underlying at h;cases e:P.info? t with
 |none=>simp[e]at h
 |some i=>exact⟨i,rfl⟩
def aT{P:Program}{t:TypeId}{d:TypeDesc}{w:World}(h:P.underlying t=some d):(underlying t).run P w=.ok d w:=by
 simp[underlying,h]
def Bf{P:Program}{t:TypeId}{i:TypeInfo}{w:World}(h:P.info? t=some i):(typeInfo t).run P w=.ok i w:=by
 simp[typeInfo,h]
def cK{P:Program}{t:TypeId}{i:TypeInfo}{w:World}(h:P.info? t=some i):(sizeOf t).run P w=.ok (P.cellsOf t) w:=by
 simp[sizeOf,Bf h,Program.cellsOf,h]
def jZ{P:Program}{t:TypeId}{z:Value}{w:World}(h:(P.info? t).bind (·.zero)=some z):(zeroValue t).run P w=.ok z w:=by
 cases e:P.info? t with
 |none=>simp[e]at h
 |some i=>simp only[e,Option.bind_some]at h;simp[zeroValue,Bf e,h]
def lD{P:Program}{t:TypeId}{d:TypeDesc}{w:World}(h:P.underlying t=some d):(isAgg t).run P w=.ok (dx P t) w:=by
 simp only[isAgg,run_bind,aT h,andThen_ok,dx,h];cases d<;>rfl
def lY{P:Program}{t:TypeId}{g:List K1}(h:kinds P t=some g):g.length=P.cellsOf t/\(∃d,P.underlying t=some d)/\(dx P t=true\/g.length=1):=by
 unfold kinds at h;cases e:tS P 8 t with
 |none=>simp[e]at h
 |some r=>
  simp only[e,cond_eq_ite,beq_iff]at h;split at h
  .rename_i j;split at h
   .rename_i i;simp only[Option.some.injEq]at h;subst h;refine⟨j,?_,?_⟩
    .unfold tS at e;cases hu:P.underlying t with
     |none=>simp[hu]at e
     |some d=>exact⟨d,rfl⟩
    .simpa[beq_iff]using i
   .cases h
  .cases h
def ix{P:Program}{w:World}{t:TypeId}{g:List K1}{b o:Nat}{c:Array Value}{T:TypeId}{f:Nat×Nat}(G:kinds P t=some g)(h:w.heap[b]?=some (.cells c T f))(A:o+g.length<=c.size):
  (loadVar t ⟨b,o,none⟩).run P w=.ok (FW (dx P t) ((c.toList.drop o).take g.length)) w:=by
 obtain⟨I,⟨d,j⟩,e⟩:=lY G;obtain⟨i,H⟩:=gY j;simp only[loadVar,run_bind,lD j,andThen_ok];cases y:dx P t with
 |true=>
  simp only[if_true,run_bind,cK H,andThen_ok];rw[<- I,sQ h A];rfl
 |false=>
  have J:g.length=1:=by rcases e with e|e;(rw[y]at e;cases e);exact e
  simp only[false_eq_true,if_false,run_load,cell_of h];have r:o<c.size:=by omega
  rw[getElem?_eq_getElem r,J];have x:o<c.toList.length:=by simpa using r
  rw[drop_eq_getElem_cons x];simp[FW]
def vt{P:Program}{w:World}{t:TypeId}{i:TypeInfo}{b o:Nat}{c:Array Value}{T:TypeId}{v:Value}(r:P.info? t=some i)(e:v.cells.size=P.cellsOf t)(h:w.heap[b]?=some (.cells c T (0,0)))
  (j:o+v.cells.size<=c.size) (g:∀x∈v.cells.toList,one x=true):(storeVar t ⟨b,o,none⟩ v).run P w=.ok () (je w b (.cells (vc c o v.cells.toList) T (0,0))):=by
 simp only[storeVar,run_bind,cK r,andThen_ok];rw[if_neg (by simp[e])];rw[lK _ 0 w c h (by simpa using j) g];rfl
def vz{w w1:World}(x:yG w w1){b o n:Nat}{i:List Value}(h:rd w.heap b o n=some i)(A:n≠0):∃c T f,w1.heap[b]?=some (.cells c T f)/\o+n<=c.size/\i=(c.toList.drop o).take n:=by
 unfold rd at h;cases g:w.heap[b]? with
 |none=>simp[g]at h
 |some r=>
  have y:b<w.heap.size:=(Array.getElem?_eq_some_iff.1 g).1;cases r<;>simp only[g]at h<;>try (cases h;done)
  rename_i c T f;split at h
  .rename_i j;simp only[Option.some.injEq]at h;rcases x.block b y with e|e
   .exact⟨c,T,f,by rw[<- e,g],j,h.symm⟩
   .rw[g]at e;simp only[Option.some.injEq,Obj.cells.injEq]at e;obtain⟨rfl,_,_⟩:=e;simp at j;omega
  .cases h
def Rl{w w1:World}(r:yG w w1){b o n:Nat}{e:List Value}(h:rd w.heap b o n=some e):∃c T f,w1.heap[b]?=some (.cells c T f)/\e.length=n\/n=0/\e=[]:=by
 by_cases g:n=0
 .subst g;unfold rd at h;refine⟨#[],0,(0,0),.inr ⟨rfl,?_⟩⟩;cases i:w.heap[b]? with
  |none=>simp[i]at h
  |some j=>
   cases j<;>simp only[i]at h<;>try (cases h;done)
   split at h
   .simp at h;exact h
   .cases h
 .obtain⟨c,T,f,y,A,x⟩:=vz r h g;exact⟨c,T,f,.inl ⟨y,by subst x;simp;omega⟩⟩
def gG{v:Value}{F:Nat->Nat->Prop}(h:dT v F):∃b o,v=.pointer (some ⟨b,o,none⟩)/\F b o:=by
 unfold dT at h;split at h
 .exact⟨_,_,rfl,h⟩
 .exact h.elim
def gj{v:Option Addr}{F:Nat->Nat->Prop}(h:bh v F):∃b o,v=some ⟨b,o,none⟩/\F b o:=by
 unfold bh at h;split at h
 .exact⟨_,_,rfl,h⟩
 .exact h.elim
def nV{i:Bool}{g:List Value}(h:∀v∈g,plain v=true/\one v=true)(e:i=true\/g.length=1):plain (FW i g)=true:=by
 cases i with
 |true=>rfl
 |false=>
  rcases e with e|e
  .cases e
  .match g,e with
   |[v],_=>exact(h v (by simp)).1
def kp:∀{D:List (Nat×Nat)} {k m:Nat},fh D k=some m->(k,m)∈D
 |[],_,_,h=>by simp[fh]at h
 |(i,g)::D,k,m,h=>by
  simp only[fh,cond_eq_ite,beq_iff]at h
  split at h
  .rename_i e;simp only[Option.some.injEq]at h;subst e h;simp
  .exact List.mem_cons_of_mem _ (kp h)
def ik{σ:Fr}{θ:Nat->Nat}{c:Array Value}{k m:Nat}(hc:c.size=m)(g:∀j,j<m->R θ (σ (gx k j)) (c.getD j undef)):
  ∀(n o:Nat),o+n<=m->(∀v∈xP σ k o n,plain v=true/\one v=true)->(c.toList.drop o).take n=xP σ k o n
 |0,o,_,_=>by simp[xP]
 |n+1,o,x,hp=>by
  have w:o<c.toList.length:=by simp;omega
  rw[drop_eq_getElem_cons w,List.take_succ_cons];simp only[xP];have e:plain (σ (gx k o))=true:=(hp _ (by simp[xP])).1;have r:=(iZ e).1 (g o (by omega));have i:c.toList[o]=σ (gx k o):=by
   rw[<- r];simp only[Array.getElem_toList];rw[Array.getD_eq_getD_getElem?,getElem?_eq_getElem (by omega)];rfl
  rw[i,ik hc g n (o+1) (by omega) (λv h=>hp v (by simp[xP,h]))]
def qq:∀(g:List Value) (c:Array Value) (o:Nat),o+g.length<=c.size->(vc c o g).toList=c.toList.take o++g++c.toList.drop (o+g.length)
 |[],c,o,_=>by simp[vc]
 |v::g,c,o,h=>by
  simp only[length_cons]at h
  simp only[vc]
  rw[qq g _ (o+1) (by simp;omega)]
  have i:o<c.toList.length:=by simp;omega
  simp only[Array.toList_setIfInBounds];have r:(c.toList.set o v).take (o+1)=c.toList.take o++[v]:=by
   rw[List.take_set];rw[List.take_succ_eq_append_getElem i,List.set_append_right _ _ (by simp;omega)];have e:o-(c.toList.take o).length=0:=by simp;omega
   rw[e];rfl
  have j:(c.toList.set o v).drop (o+1+g.length)=c.toList.drop (o+1+g.length):=by
   rw[List.drop_set_of_lt (by omega)]
  rw[r,j];simp[Nat.add_assoc,Nat.add_comm 1]
def Jg:∀(l:List (Value×Nat)) (g:List Value) (i e:Nat) (c:Array Value),l=g.zipIdx i->l.foldl (λcs p=>cs.setIfInBounds (e+p.2) p.1) c=vc c (e+i) g
 |[],g,i,e,c,h=>by
  cases g with
  |nil=>rfl
  |cons v g=>simp at h
 |p::l,g,i,e,c,h=>by
  cases g with
  |nil=>simp at h
  |cons v g=>
   simp only[List.zipIdx_cons,List.cons.injEq]at h
   obtain⟨rfl,rfl⟩:=h
   simp only[List.foldl_cons,vc];rw[Jg _ g (i+1) e _ rfl];rfl
def EF(g:Array Value)(e:Nat)(cs:Array Value):
  (g.zipIdx.foldl (λcs (x:Value×Nat)=>match x with|(c,j)=>cs.setIfInBounds (e+j) c) cs)=vc cs e g.toList:=by
 rw[<- Array.foldl_toList,Array.toList_zipIdx];exact Jg _ g.toList 0 e cs rfl
def sM{P:Program}{w:World}{e i:Type}(g:e->Sem i)(k:e->i):∀(l:List e),(∀x∈l,(g x).run P w=.ok (k x) w)->(l.mapM g).run P w=.ok (l.map k) w
 |[],_=>by simp
 |x::l,h=>by
  simp only[List.mapM_cons,run_bind,h x (by simp),andThen_ok,sM g k l (λy j=>h y (by simp[j])),run_pure,List.map_cons]
def Rh{P:Program}{w:World}{e i:Type}(g:e->Sem i)(k:e->i)(l:Array e)(h:∀x∈l.toList,(g x).run P w=.ok (k x) w):(l.mapM g).run P w=.ok (l.toList.map k).toArray w:=by
 rw[Array.mapM_eq_mapM_toList];simp only[Sem.run_map,sM g k l.toList h,andThen_ok]
def EX{P:Program}{fs:Array Field}{pl:Nat->Option (Nat×Nat)}(j:∀(i:Nat) f,fs[i]?=some f->pl i=some (f.offset,P.cellsOf f.type)):
  ∀(ps:List (Nat×Value)) (cs:Array Value) (r:List Value),L_ P fs ps cs.toList=some r->Instr.fill pl cs ps=some r.toArray
 |[],cs,r,h=>by simp only[L_,Option.some.injEq]at h;subst h;simp[Instr.fill]
 |(i,v)::ps,cs,r,h=>by
  simp only[L_]at h
  cases g:fs[i]? with
  |none=>simp[g]at h
  |some f=>
   simp only[g,cond_eq_ite,and_eq_true,beq_iff,ble_eq]at h
   split at h
   .rename_i hc
    obtain⟨⟨x,w⟩,_⟩:=hc
    simp only[length_toList]at w;simp only[Instr.fill,j i f g];rw[if_neg (by simp[x];omega)];rw[EF];have e:v.cells.toList.length=v.cells.size:=by simp
    refine EX j ps _ r ?_;rw[qq _ _ _ (by rw[e];omega),e];exact h
   .cases h
def Cu{size:Nat}:∀{ps:List (Nat×Value)} {i:Nat} {r:List Value},pf size i ps=some r->r.length=ps.length*size
 |[],_,r,h=>by simp only[pf,Option.some.injEq]at h;subst h;simp
 |(j,v)::ps,i,r,h=>by
  simp only[pf,cond_eq_ite,and_eq_true,beq_iff]at h
  split at h
  .rename_i hc
   cases e:pf size (i+1) ps with
   |none=>simp[e]at h
   |some l=>
    simp only[e,Option.some.injEq]at h
    subst h
    have:=Cu e
    simp only[List.length_append,length_cons,length_toList,this,hc.2,Nat.add_mul,Nat.one_mul];omega
  .cases h
def rW{size:Nat}:∀(ps:List (Nat×Value)) (i:Nat) (r:List Value) (cs:Array Value),pf size i ps=some r->cs.size=(i+ps.length)*size->
  Instr.fill (λi=>some (i*size,size)) cs ps=some (cs.toList.take (i*size)++r).toArray
 |[],i,r,cs,h,e=>by
  simp only[pf,Option.some.injEq]at h;subst h
  simp only[length_nil,Nat.add_zero]at e
  simp only[Instr.fill,<- e,List.append_nil,Option.some.injEq]
  rw[take_of_length_le (by simp)]
 |(j,v)::ps,i,r,cs,h,e=>by
  simp only[pf,cond_eq_ite,and_eq_true,beq_iff]at h
  split at h
  .rename_i hc
   obtain⟨rfl,w⟩:=hc
   cases y:pf size (i+1) ps with
   |none=>simp[y]at h
   |some l=>
    simp only[y,Option.some.injEq]at h;subst h;simp only[length_cons]at e;have x:i*size+v.cells.size<=cs.size:=by
     rw[e,w,<- Nat.succ_mul];exact Nat.mul_le_mul_right _ (by omega)
    simp only[Instr.fill];rw[if_neg (by simp[w];omega),EF];have g:v.cells.toList.length=v.cells.size:=by simp
    rw[rW ps (i+1) l _ y (by rw[vf,e];congr 1;omega)];rw[qq _ _ _ (by rw[g];exact x)];have A:(i+1)*size=i*size+v.cells.size:=by rw[Nat.succ_mul,w]
    rw[A,List.take_append_of_le_length (by simp;omega),take_of_length_le (by simp;omega)];simp
  .cases h
def run_build{P:Program}{w:World}{t:TypeId}{ps:Array (Nat×Value)}{r:List Value}(h:Xq P t ps.toList=some r):(Instr.build t ps).run P w=.ok (.agg r.toArray) w:=by
 unfold Xq at h;cases hz:(P.info? t).bind (·.zero)with
 |none=>simp[hz]at h
 |some z=>
  cases hu:P.underlying t with
  |none=>simp[hz,hu]at h
  |some d=>
   cases d<;>simp only[hz,hu]at h<;>try (cases h;done)
   case array len e=>
    simp only[cond_eq_ite,and_eq_true,beq_iff]at h;split at h
    .rename_i hc;obtain⟨⟨j,y⟩,G⟩:=hc;obtain⟨I,j⟩:=Option.isSome_iff_exists.1 j;simp only[Instr.build,run_bind,jZ hz,andThen_ok,aT hu,cK j];have g:=rW ps.toList 0 r z.cells h (by rw[G,zero_add,y]);simp only[Nat.zero_mul,List.take_zero,List.nil_append]at g;rw[g];rfl
    .cases h
   rename_i fs;simp only[cond_eq_ite,all_eq_true]at h;split at h
   .rename_i x;have H:∀w:World,(fs.mapM λf=>(do pure (f.offset,<- sizeOf f.type):Sem (Nat×Nat))).run P w=.ok (fs.toList.map λf=>(f.offset,P.cellsOf f.type)).toArray w:=by
     intro w;refine Rh _ _ _ λf g=>?_;obtain⟨i,A⟩:=Option.isSome_iff_exists.1 (x f g);simp[cK A]
    simp only[Instr.build,run_bind,jZ hz,andThen_ok,aT hu,H];rw[EX (fs:=fs) ?_ ps.toList z.cells r h]
    .rfl
    .intro i f g;simp[g]
   .cases h
end Go.aP
namespace Go.aP
open Go.RowKit
variable {C:Ctx} {a:Act} {wa:World} {st:St} {u:UW} {θ:Nat->Nat}
def aq{c:Bool}{A:Prop}(h:(bif c then A else False)):c=true/\A:=by cases c<;>simp_all
def ba{P:Program}{o:Oper}{r:Value}{wb:World}{next:Act->World->Prop}{Q:Exit->Act->World->Prop}(h:(execOp a.eval o).run P wa=.ok (.value r) wb)(e:next (a.put o.dst r) wb):
  o.uponIn Fence.wide 0 P a next Q ((execOp a.eval o).run P wa):=by rw[h];exact e
def Fe{P:Program}{o:Oper}{wb:World}{next:Act->World->Prop}{Q:Exit->Act->World->Prop}(h:(execOp a.eval o).run P wa=.ok .skip wb)(e:next (a.put o.dst undef) wb):
  o.uponIn Fence.wide 0 P a next Q ((execOp a.eval o).run P wa):=by rw[h];exact e
def Ch:∀{i H:List K1} {G A w j:List Value} {r:Bool},G.length=i.length->w.length=i.length->eqs (i++H) (G++A) (w++j)=some r->
  ∃g e,eqs i G w=some g/\eqs H A j=some e/\r=(g&&e)
 |[],H,[],A,[],j,r,_,_,h=>⟨true,r,rfl,h,by simp⟩
 |k::i,H,x::G,A,y::w,j,r,U,O,h=>by
  simp only[length_cons,Nat.add_right_cancel_iff]at U O
  have key:∀(b:Bool) (Y:Bool),(match eqs (i++H) (G++A) (w++j)with|some r=>some (b&&r)|none=>none)=some Y->
    ∃g e,eqs i G w=some g/\eqs H A j=some e/\Y=(b&&g&&e):=by
   intro b Y h;cases he:eqs (i++H) (G++A) (w++j)with
   |none=>simp[he]at h
   |some r0=>
    obtain⟨g,e,L,J,I⟩:=Ch U O he;simp only[he,Option.some.injEq]at h;exact⟨g,e,L,J,by rw[<- h,I,Bool.and_assoc]⟩
  simp only[List.cons_append]at h;cases k with
  |int kk=>
   cases x<;>first|(simp[eqs]at h;done)|skip
   cases y<;>first|(simp[eqs]at h;done)|skip
   rename_i ka a kb b;simp only[eqs,cond_eq_ite]at h;split at h
   .rename_i hk;obtain⟨g,e,L,J,I⟩:=key _ _ h;exact⟨(a == b)&&g,e,by simp only[eqs,hk,cond_true,L],J,I⟩
   .cases h
  |bool=>
   cases x<;>first|(simp[eqs]at h;done)|skip
   cases y<;>first|(simp[eqs]at h;done)|skip
   rename_i a b;simp only[eqs]at h;obtain⟨g,e,L,J,I⟩:=key _ _ h;exact⟨(a == b)&&g,e,by simp only[eqs,L],J,I⟩
  |str=>
   cases x<;>first|(simp[eqs]at h;done)|skip
   cases y<;>first|(simp[eqs]at h;done)|skip
   rename_i a b;simp only[eqs]at h;obtain⟨g,e,L,J,I⟩:=key _ _ h;exact⟨aG a b&&g,e,by simp only[eqs,L],J,I⟩
  |slice=>simp[eqs]at h
  |ptr=>simp[eqs]at h
  |fn=>simp[eqs]at h
  |map=>simp[eqs]at h
  |val=>simp[eqs]at h
 |_::_,_,[],_,_,_,_,U,_,_=>by simp at U
 |_::_,_,_::_,_,[],_,_,_,O,_=>by simp at O
 |[],_,_::_,_,_,_,_,U,_,_=>by simp at U
 |[],_,[],_,_::_,_,_,_,O,_=>by simp at O
def gJ{P:Program}{w:World}{t:TypeId}{d:TypeDesc}{cs:Array Value}{o:Nat}(e:P.underlying t=some d)(g:dx P t=true):
  (part t cs o).run P w=.ok (.agg (cs.extract o (o+P.cellsOf t))) w:=by
 obtain⟨i,h⟩:=gY e;simp only[part,run_bind,lD e,g,if_true,andThen_ok,cK h,run_pure]
def iM{P:Program}{w:World}{t:TypeId}{d:TypeDesc}{cs:Array Value}{o:Nat}{v:Value}(h:P.underlying t=some d)(e:dx P t=false)(g:cs[o]?=some v):
  (part t cs o).run P w=.ok v w:=by
 simp only[part,run_bind,lD h,e,false_eq_true,if_false,andThen_ok,g,run_pure]
def ML{P:Program}{w:World}{e:TypeId}{cs:Array Value}{h:Nat}{v:Value}(g:PA P e h cs.toList=some v):(part e cs h).run P w=.ok v w:=by
 unfold PA at g;simp only[cond_eq_ite,and_eq_true,ble_eq]at g;split at g
 .rename_i hc;obtain⟨x,r⟩:=hc;obtain⟨d,j⟩:=Option.isSome_iff_exists.1 x;split at g
  .rename_i i;simp only[Option.some.injEq]at g;rw[gJ j i,<- g];congr 2;apply Array.toList_inj.1;rw[Array.toList_extract,List.extract_eq_take_drop];simp
  .rename_i i;simp only[Bool.not_eq_true]at i;exact iM j i (v:=v) (by simpa using g)
 .cases g
def Cm{l:List Value}{o n:Nat}(h:o+(n+1)<=l.length):(l.drop o).take (n+1)=l[o]'(by omega)::(l.drop (o+1)).take n:=by
 rw[drop_eq_getElem_cons (by omega),List.take_succ_cons]
def Il{xs:Array Value}{o:Nat}(h:o+1<=xs.size):(xs.toList.drop o).take 1=[xs[o]'(by omega)]:=by
 rw[Cm (n:=0) (by simpa using h)];simp
def Nw{P:Program}{w:World}:∀(f:Nat) (t:TypeId) (j:List K1),ub P f t=some j->∀(d:Nat),f<=d->∀(xs A:Array Value) (o:Nat) (r:Bool),o+j.length<=xs.size->o+j.length<=A.size->
  eqs j ((xs.toList.drop o).take j.length) ((A.toList.drop o).take j.length)=some r->
  ∃x y,(part t xs o).run P w=.ok x w/\(part t A o).run P w=.ok y w/\(Op.equalIn d t x y).run P w=.ok r w
 |0,t,j,h,_,_,_,_,_,_,_,_,_=>by simp[ub]at h
 |f+1,t,j,h,d,hd,xs,A,o,r,hx,hy,hr=>by
  obtain⟨d,rfl⟩:∃d',d=d'+1:=⟨d-1,by omega⟩
  simp only[ub]at h;cases hu:P.underlying t with
  |none=>simp[hu]at h
  |some D=>
   have Lp:∀k:K1,j=[k]->dx P t=false->(∀x y,eqs [k] [x] [y]=some r->(Op.equalIn (d+1) t x y).run P w=.ok r w)->
     ∃x y,(part t xs o).run P w=.ok x w/\(part t A o).run P w=.ok y w/\(Op.equalIn (d+1) t x y).run P w=.ok r w:=by
    rintro k rfl L hk;simp only[List.length_singleton]at hx hy hr;rw[Il hx,Il hy]at hr;exact⟨xs[o],A[o],iM hu L (getElem?_eq_getElem (by omega)),iM hu L (getElem?_eq_getElem (by omega)),hk _ _ hr⟩
   cases D<;>simp only[hu]at h<;>try (cases h;done)
   .simp only[Option.some.injEq]at h;refine Lp _ h.symm (by simp[dx,hu]) λx y e=>?_;cases x<;>first|(simp[eqs]at e;done)|skip
    cases y<;>first|(simp[eqs]at e;done)|skip
    simp only[eqs]at e;simp only[Option.some.injEq,Bool.and_true]at e;rw[run_equalIn_bool' w d t _ _ hu,e]
   .rename_i k;simp only[Option.some.injEq]at h;refine Lp _ h.symm (by simp[dx,hu]) λx y e=>?_;cases x<;>first|(simp[eqs]at e;done)|skip
    cases y<;>first|(simp[eqs]at e;done)|skip
    simp only[eqs]at e;rename_i ka a kb b;simp only[cond_eq_ite]at e;split at e
    .rename_i hk;simp only[decide_eq_true_eq]at hk;subst hk;simp only[Option.some.injEq,Bool.and_true]at e;rw[run_equalIn_int w d t _ _ _ _ hu,e]
    .cases e
   .simp only[Option.some.injEq]at h;refine Lp _ h.symm (by simp[dx,hu]) λx y e=>?_;cases x<;>first|(simp[eqs]at e;done)|skip
    cases y<;>first|(simp[eqs]at e;done)|skip
    simp only[eqs]at e;simp only[Option.some.injEq,Bool.and_true]at e;rw[run_equalIn_string w d t _ _ hu,<- e];rfl
   .rename_i fs;simp only[cond_eq_ite]at h;split at h
    .cases h
    .rename_i fF;simp only[Bool.not_eq_true]at fF;cases zK:Jp (ub P f) 0 fs.toList with
     |none=>simp[zK]at h
     |some l=>
      simp only[zK,beq_iff]at h;split at h
      .rename_i O;simp only[Option.some.injEq]at h;subst h;have L:dx P t=true:=by simp[dx,hu]
       have U:P.fieldsOf t=fs:=by simp[Program.fieldsOf,hu]
       have gw:P.underlying t=some (.struct (P.fieldsOf t)):=by rw[U];exact hu
       refine⟨_,_,gJ hu L,gJ hu L,?_⟩;rw[run_equalIn_struct w d t _ _ gw fF,U];have hX:∀zs:Array Value,o+l.length<=zs.size->(zs.extract o (o+P.cellsOf t)).toList=(zs.toList.drop o).take l.length:=by
        intro zs hz;rw[Array.toList_extract,O];simp[List.extract_eq_take_drop]
       have key:∀(J:List Field) (a:Nat) (H:List K1) (X Y:Array Value) (r:Bool),Jp (ub P f) a J=some H->a+H.length=X.size->a+H.length=Y.size->
         eqs H (X.toList.drop a) (Y.toList.drop a)=some r->(Op.eqFields d X Y J).run P w=.ok r w:=by
        intro J;induction J with
        |nil=>
         intro a H X Y r i h2 h3 I;simp only[Jp,Option.some.injEq]at i;subst i;simp only[length_nil,Nat.add_zero]at h2 h3;rw[List.drop_of_length_le (by simp;omega),List.drop_of_length_le (by simp;omega)]at I;simp only[eqs,Option.some.injEq]at I;subst I;simp[Op.eqFields]
        |cons g J ih=>
         intro a H X Y r i h2 h3 I;simp only[Jp]at i;cases hg:ub P f g.type with
         |none=>simp[hg]at i
         |some G=>
          simp only[hg,cond_eq_ite,and_eq_true,decide_eq_true_eq,beq_iff]at i;split at i
          .rename_i SE;obtain⟨SE,aih⟩:=SE;cases yh:Jp (ub P f) (a+G.length) J with
           |none=>simp[yh]at i
           |some lr=>
            simp only[yh,Option.some.injEq]at i;subst i;simp only[List.length_append]at h2 h3;have sp:∀Z:Array Value,a+(G.length+lr.length)=Z.size->Z.toList.drop a=(Z.toList.drop a).take G.length++Z.toList.drop (a+G.length):=by
             intro Z hZ;rw[<- List.drop_drop];exact(List.take_append_drop _ _).symm
            rw[sp X h2,sp Y h3]at I;obtain⟨r1,r2,e1,e2,e3⟩:=Ch (by simp;omega) (by simp;omega) I;obtain⟨x,y,p1,p2,p3⟩:=Nw (w:=w) f g.type G hg d (by omega) X Y a r1 (by omega) (by omega) e1;have ju:=ih (a+G.length) lr X Y r2 yh (by omega) (by omega) e2;simp only[Op.eqFields];rw[if_pos SE];rw[aih];simp only[run_bind,p1,andThen_ok,p2,p3];cases r1
            .simp[e3]
            .simp[e3,ju]
          .cases i
       refine key fs.toList 0 l _ _ r zK ?_ ?_ ?_
       .simp;omega
       .simp;omega
       .rw[drop_zero,drop_zero,hX xs hx,hX A hy];exact hr
      .cases h
def Jb{P:Program}{op:BinOp}{t:TypeId}{x y:Value}(X Y:Operand)(w:World)(g:x≠ .nilIface)(e:∀c,x≠ .agg c):(eqGuard op t X Y x y).run P w=.ok () w:=by
 cases x<;>first|exact absurd rfl g|exact absurd rfl (e _)|(cases op<;>rfl)
def F_{P:Program}{op:BinOp}{t:TypeId}{k:IntKind}{i j:Int}{K:Value->Prop}(h:x_ op k i j K):
  ∃v,plain v=true/\K v/\∀w,(binOp op t (.int k i) (.int k j)).run P w=.ok v w:=by
 cases op<;>simp only[x_]at h<;>try (exact h.elim)
 case quo=>exact⟨_,rfl,h.2,λw=>by simp[binOp,Op.intDiv,h.1]⟩
 case rem=>exact⟨_,rfl,h.2,λw=>by simp[binOp,Op.intDiv,h.1]⟩
 all_goals exact⟨_,rfl,h,λw=>by simp[binOp,Op.intArith,Op.intCmp]⟩
def Fv{P:Program}{op:BinOp}{t:TypeId}{i j:ByteArray}{K:Value->Prop}(h:AP op i j K):
  ∃v,plain v=true/\K v/\∀w,(binOp op t (.string i) (.string j)).run P w=.ok v w:=by
 cases op<;>simp only[AP]at h<;>try (exact h.elim)
 case add=>
  have e:¬(((i.size+j.size:Nat):Int)>IntKind.i64.max):=by
   have:IntKind.i64.max=9223372036854775807:=by decide
   rw[this];omega
  exact⟨_,rfl,h.2,λw=>by simp only[binOp,Op.stringOp];rw[if_neg e];rfl⟩
 all_goals exact⟨_,rfl,h,λ_=>rfl⟩
def Vu{P:Program}{t:TypeId}{x y:Value}{r:Bool}{w:World}(g:∀k i,x≠ .int k i)(G:∀k i,x≠ .float k i)(hc:∀k i j,x≠ .complex k i j)(A:∀s,x≠ .string s)
  (h:(Op.equalIn 10000 t x y).run P w=.ok r w):(binOp .eql t x y).run P w=.ok (.bool r) w/\(binOp .neq t x y).run P w=.ok (.bool (!r)) w:=by
 have e:(Op.equal t x y).run P w=.ok r w:=h;cases x<;>first|exact absurd rfl (g _ _)|exact absurd rfl (G _ _)|exact absurd rfl (hc _ _ _)|exact absurd rfl (A _)|
  exact⟨by simp only[binOp,run_bind,e,andThen_ok,run_pure],by simp only[binOp,run_bind,e,andThen_ok,run_pure]⟩
def Jo{P:Program}{t e:TypeId}(g:P.underlying t=some (.pointer e))(d:Nat)(a:Option Addr)(w:World):(Op.equalIn (d+1) t (.pointer a) (.pointer none)).run P w=.ok a.isNone w:=by
 cases a<;>simp[Op.equalIn,aT g]
def Dw{P:Program}{t e:TypeId}(h:P.underlying t=some (.slice e))(d:Nat)(a:Option Addr)(n c g i:Nat)(w:World):(Op.equalIn (d+1) t (.slice a n c) (.slice none g i)).run P w=.ok a.isNone w:=by
 cases a<;>simp[Op.equalIn,aT h]
def Gz{P:Program}{t:TypeId}{p r:Array TypeId}{v:Bool}(e:P.underlying t=some (.func p r v))(d:Nat)(f:Fn)(a b:Array Value)(w:World):(Op.equalIn (d+1) t (.func f a b) .nilFunc).run P w=.ok false w:=by
 simp[Op.equalIn,aT e]
def WU{P:Program}{f:Nat}{t:TypeId}{i:List K1}(e:ub P (f+1) t=some i)(h:dx P t=true):i.length=P.cellsOf t:=by
 simp only[ub]at e;cases hu:P.underlying t with
 |none=>simp[hu]at e
 |some d=>
  cases d<;>simp only[hu]at e<;>simp only[dx,hu]at h<;>try (cases h;done)
  .cases e
  .rename_i r;simp only[cond_eq_ite]at e;split at e
   .cases e
   .cases g:Jp (ub P f) 0 r.toList with
    |none=>simp[g]at e
    |some l=>
     simp only[g,beq_iff]at e;split at e
     .rename_i j;simp only[Option.some.injEq]at e;subst e;exact j
     .cases e
def YG(op:BinOp)(K:Value->Prop)(r:Bool):Prop:=
 match op with
 | .eql=>K (.bool r)
 | .neq=>K (.bool (!r))
 |_=>False
def LY{P:Program}{op:BinOp}{t:TypeId}{x y:Value}{K:Value->Prop}(h:qb P op t x y K):
  (∃k a b,x=.int k a/\y=.int k b/\x_ op k a b K)\/(∃a b,x=.string a/\y=.string b/\AP op a b K)\/
  (∃a b,x=.bool a/\y=.bool b/\P.underlying t=some .bool/\YG op K (a == b))\/
  (∃a b g r,x=.agg a/\y=.agg b/\ub P 8 t=some g/\g.length=a.size/\g.length=b.size/\P.eqGuardType P.depth t=false/\dx P t=true/\eqs g a.toList b.toList=some r/\YG op K r)\/
  (∃a e,x=.pointer a/\y=.pointer none/\P.underlying t=some (.pointer e)/\YG op K a.isNone)\/
  (∃a n c G I e,x=.slice a n c/\y=.slice none G I/\P.underlying t=some (.slice e)/\YG op K a.isNone)\/
  (∃f a b p r v,x=.func f a b/\y=.nilFunc/\P.underlying t=some (.func p r v)/\YG op K false):=by
 cases x with
 |int k i=>
  cases y<;>first|exact(show False from h).elim|skip
  obtain⟨H,U⟩:=aq (show(bif decide (_=_)then x_ op _ _ _ K else False)from h);simp only[decide_eq_true_eq]at H;subst H;exact .inl ⟨_,_,_,rfl,rfl,U⟩
 |string s=>
  cases y<;>first|exact(show False from h).elim|skip
  exact .inr (.inl ⟨_,_,rfl,rfl,h⟩)
 |bool i=>
  cases y<;>first|exact(show False from h).elim|skip
  simp only[qb]at h;cases hu:P.underlying t with
  |none=>simp only[hu]at h
  |some d=>
   cases d<;>simp only[hu]at h;exact .inr (.inr (.inl ⟨_,_,rfl,rfl,rfl,h⟩))
 |agg i=>
  cases y<;>first|exact(show False from h).elim|skip
  rename_i j;simp only[qb]at h;cases A:ub P 8 t with
  |none=>simp only[A]at h
  |some g=>
   simp only[A]at h;obtain⟨hc,h⟩:=aq h;simp only[and_eq_true,beq_iff,not_eq_true']at hc;obtain⟨⟨⟨ha,O⟩,L⟩,J⟩:=hc;cases w:eqs g i.toList j.toList with
   |none=>simp only[w]at h
   |some r=>
    simp only[w]at h;exact .inr (.inr (.inr (.inl ⟨_,_,_,_,rfl,rfl,rfl,ha,O,L,J,w,h⟩)))
 |pointer i=>
  cases y<;>first|exact(show False from h).elim|skip
  rename_i j;cases j with
  |some j=>exact(show False from h).elim
  |none=>
   simp only[qb]at h;cases hu:P.underlying t with
   |none=>simp only[hu]at h
   |some d=>
    cases d<;>simp only[hu]at h;exact .inr (.inr (.inr (.inr (.inl ⟨_,_,rfl,rfl,rfl,h⟩))))
 |slice i n c=>
  cases y<;>first|exact(show False from h).elim|skip
  rename_i j G I;cases j with
  |some j=>exact(show False from h).elim
  |none=>
   simp only[qb]at h;cases hu:P.underlying t with
   |none=>simp only[hu]at h
   |some d=>
    cases d<;>simp only[hu]at h;exact .inr (.inr (.inr (.inr (.inr (.inl ⟨_,_,_,_,_,_,rfl,rfl,rfl,h⟩)))))
 |func f i j=>
  cases y<;>first|exact(show False from h).elim|skip
  simp only[qb]at h;cases hu:P.underlying t with
  |none=>simp only[hu]at h
  |some d=>
   cases d<;>simp only[hu]at h;exact .inr (.inr (.inr (.inr (.inr (.inr ⟨_,_,_,_,_,_,rfl,rfl,rfl,h⟩)))))
 |_=>exact(show False from h).elim
def Cs{P:Program}{op:BinOp}{t:TypeId}{x y:Value}{K:Value->Prop}(h:qb P op t x y K)(X Y:Operand):
  plain x=true/\plain y=true/\∃v,plain v=true/\K v/\∀w,(do eqGuard op t X Y x y;binOp op t x y:Sem Value).run P w=.ok v w:=by
 have g:∀{v:Value},x≠ .nilIface->(∀c,x≠ .agg c)->plain v=true->K v->(∀w,(binOp op t x y).run P w=.ok v w)->
   ∃v,plain v=true/\K v/\∀w,(do eqGuard op t X Y x y;binOp op t x y:Sem Value).run P w=.ok v w:=by
  intro v U O hp hK H;exact⟨v,hp,hK,λw=>by simp only[run_bind,Jb X Y w U O,andThen_ok,H]⟩
 have G:∀{r:Bool},x≠ .nilIface->(∀c,x≠ .agg c)->(∀k i,x≠ .int k i)->(∀k i,x≠ .float k i)->(∀k i j,x≠ .complex k i j)->(∀s,x≠ .string s)->(∀w,(Op.equalIn 10000 t x y).run P w=.ok r w)->
   YG op K r->∃v,plain v=true/\K v/\∀w,(do eqGuard op t X Y x y;binOp op t x y:Sem Value).run P w=.ok v w:=by
  intro r U O h3 h4 h5 h6 H hK;have hh:=λw=>Vu h3 h4 h5 h6 (H w);cases op<;>simp only[YG]at hK
  .exact g U O rfl hK λw=>(hh w).1
  .exact g U O rfl hK λw=>(hh w).2
 have hc:=LY h;clear h;rcases hc with⟨k,a,b,rfl,rfl,h⟩|⟨a,b,rfl,rfl,h⟩|⟨a,b,rfl,rfl,A,h⟩|⟨a,b,I,r,rfl,rfl,qV,ha,hb,hg,L,H,h⟩|⟨a,e,rfl,rfl,A,h⟩|⟨a,n,c,n',c',e,rfl,rfl,A,h⟩|⟨f,a,b,p,r,v,rfl,rfl,A,h⟩
 .obtain⟨v,hp,hK,H⟩:=F_ (P:=P) (t:=t) h;exact⟨rfl,rfl,g (by simp) (by simp) hp hK H⟩
 .obtain⟨v,hp,hK,H⟩:=Fv (P:=P) (t:=t) h;exact⟨rfl,rfl,g (by simp) (by simp) hp hK H⟩
 .exact⟨rfl,rfl,G (by simp) (by simp) (by simp) (by simp) (by simp) (by simp) (λw=>run_equalIn_bool' w 9999 t a b A) h⟩
 .refine⟨rfl,rfl,?_⟩;have yd:eqs I ((a.toList.drop 0).take I.length) ((b.toList.drop 0).take I.length)=some r:=by
   rw[drop_zero,drop_zero,take_of_length_le (by simp;omega),take_of_length_le (by simp;omega)];exact H
  have J:∀w,(Op.equalIn 10000 t (.agg a) (.agg b)).run P w=.ok r w:=by
   intro w;obtain⟨x,y,p1,p2,J⟩:=Nw (w:=w) 8 t I qV 10000 (by omega) a b 0 r (by omega) (by omega) yd;have A:∃d,P.underlying t=some d:=by
    unfold dx at L;cases A:P.underlying t with
    |none=>simp[A]at L
    |some d=>exact⟨d,rfl⟩
   obtain⟨d,A⟩:=A;have aiv:I.length=P.cellsOf t:=WU qV L;rw[gJ A L]at p1 p2;simp only[Result.ok.injEq,and_true]at p1 p2;subst p1 p2;rw[<- aiv,zero_add]at J;have hA:a.extract 0 I.length=a:=by rw[ha];simp
   have hB:b.extract 0 I.length=b:=by rw[hb];simp
   rw[hA,hB]at J;exact J
  cases op<;>simp only[YG]at h
  .exact⟨_,rfl,h,λw=>by simp only[run_bind,run_eqGuard_agg w _ t X Y a b hg,andThen_ok,run_eql_struct,J]⟩
  .exact⟨_,rfl,h,λw=>by simp only[run_bind,run_eqGuard_agg w _ t X Y a b hg,andThen_ok,run_neq_struct,J]⟩
 .exact⟨rfl,rfl,G (r:=a.isNone) (by simp) (by simp) (by simp) (by simp) (by simp) (by simp) (λw=>Jo A 9999 a w) h⟩
 .exact⟨rfl,rfl,G (r:=a.isNone) (by simp) (by simp) (by simp) (by simp) (by simp) (by simp) (λw=>Dw A 9999 a n c n' c' w) h⟩
 .exact⟨rfl,rfl,G (r:=false) (by simp) (by simp) (by simp) (by simp) (by simp) (by simp) (λw=>Gz A 9999 f a b w) h⟩
end Go.aP
namespace Go.aP
open Go.RowKit
section
variable {E:Env} {C:Ctx} {a:Act} {wa:World} {st:St} {u:UW} {θ:Nat->Nat} {fz:List Nat} {o:Oper} {K:St->UW->Prop} {Q:Exit->Act->World->Prop}
def sZ(E:Env)(C:Ctx)(fz:List Nat)(o:Oper)(st:St)(θ:Nat->Nat)(K:St->UW->Prop)(Q:Exit->Act->World->Prop)(a:Act)(wa:World):Prop:=
 o.uponIn Fence.wide 0 E.P a (NX C fz o st θ (il E.fA o) K) Q ((execOp a.eval o).run E.P wa)
def Rg{x:Operand}(g:o.op=.move x\/o.op=.assign x)(w:bC C.n o=true)(i:Inv C a wa st u θ)(h:K (fin o st (ev st.σ x)) u):sZ E C fz o st θ K Q a wa:=by
 have j:df C.n x=true:=lE w (by rcases g with g|g<;>simp[g,Op.operands]);refine ba (r:=a.eval x) (wb:=wa) (by rcases g with g|g<;>simp[execOp,g]) ?_;exact lN w i (Gy i j) (λk y e=>(kQ i j e).2) h
def Zh{c x y:Operand}(i:o.op=.pick c x y)(w:bC C.n o=true)(g:Inv C a wa st u θ){t:Bool}(hc:ev st.σ c=.bool t)(h:ab t (K (fin o st (ev st.σ x)) u) (K (fin o st (ev st.σ y)) u)):
  sZ E C fz o st θ K Q a wa:=by
 have A:df C.n c=true:=lE w (by simp[i,Op.operands]);have H:df C.n x=true:=lE w (by simp[i,Op.operands]);have G:df C.n y=true:=lE w (by simp[i,Op.operands]);have j:=bg g A hc rfl;cases t with
 |true=>
  refine ba (r:=a.eval x) (wb:=wa) (by simp[execOp,i,j,asBool]) ?_;exact lN w g (Gy g H) (λk I e=>(kQ g H e).2) h
 |false=>
  refine ba (r:=a.eval y) (wb:=wa) (by simp[execOp,i,j,asBool]) ?_;exact lN w g (Gy g G) (λk I e=>(kQ g G e).2) h
def qT{D:List (Nat×Nat)}{k:Nat}(h:nY D k=false):∀m,(k,m)∉D:=by
 intro m e;have:=OY.2 ⟨m,e⟩;rw[h]at this;cases this
def Ru{k:Nat}{cs:List Value}(U:k<C.n)(O:C.n<=65536)(G:o.dst=some k)(H:nY st.D k=false)(I:∀k m,(k,m)∈st.D->m<=65536)(L:cs.length<=65536)(w:Nat):
  cN C.n fz o.dst.toList st {st with σ:=rG (jd st.σ k (dU k 0)) k 0 cs,D:=(k,w)::st.D} where
 slot:=λi A h=>by
  rw[G]at h
  simp only[Option.toList,List.mem_singleton]at h
  simp only
  rw[gU _ _ _ (by omega),cw _ _ h]
 D:=λx y=>by simp[y]
 fz:=λg bZ m r j Y=>by
  have J:g≠k:=λe=>qT H m (e▸r)
  have:=I g m r
  simp only
  rw[dM,cw]
  .have:=jv g j;omega
  .intro i _ A e
   exact J (iU (by omega) (by omega) e).1
def Ia{k:Nat}{cs:Array Value}{T:TypeId}(A:il E.fA o=true)(O:bC C.n o=true)(j:Inv C a wa st u θ)(i:o.dst=some k)
  (H:(execOp a.eval o).run E.P wa=.ok (.value (.pointer (some ⟨wa.heap.size,0,none⟩))) (wa.alloc (.cells cs T (0,0))))
  (h:(bif !nY st.D k&& !cT fz k&&eN cs.toList&&ble cs.size 65536 then K {st with σ:=rG (jd st.σ k (dU k 0)) k 0 cs.toList,D:=(k,cs.size)::st.D} u else False)):
  sZ E C fz o st θ K Q a wa:=by
 obtain⟨hc,h⟩:=aq h;simp only[and_eq_true,not_eq_true',ble_eq]at hc;obtain⟨⟨⟨r,U⟩,J⟩,y⟩:=hc;have x:=eI O k i;refine ba H ?_;rw[i];exact⟨_,_,_,j.ZM x (qT r) (λv I=>(og J v I).1) y,Ru x j.jf i r (λk m g=>(j.boxes k m g).1) (by simpa using y) _,λG m g=>by(have L:G≠k:=λe=>qT r m (e▸g));exact if_neg L,λw=>(by rw[A]at w;cases w),h⟩
def H_{cs:Array Value}{T:TypeId}(r:bC C.n o=true)(i:Inv C a wa st u θ)
  (e:(execOp a.eval o).run E.P wa=.ok (.value (.pointer (some ⟨wa.heap.size,0,none⟩))) (wa.alloc (.cells cs T (0,0))))
  (h:∀(b:Nat) (w':World),rF u.toWorld w' b (.cells cs T (0,0))->K (fin o st (.pointer (some ⟨b,0,none⟩))) (u.born b w')):sZ E C fz o st θ K Q a wa:=by
 obtain⟨w',g,j⟩:=i.born (.cells cs T (0,0));exact ba e (aX r j rfl (h _ _ g))
def DY{t:TypeId}{z:Value}{P:Program}{w:World}(hz:(P.info? t).bind (·.zero)=some z):(Instr.alloc t true (.tuple #[])).run P w=.ok (.pointer (some ⟨w.heap.size,0,none⟩)) (w.alloc (.cells z.cells t (0,0))):=by
 simp only[Instr.alloc,run_bind,jZ hz,andThen_ok,newVar,newRow,run_newObj,run_pure];rfl
def MM{t:TypeId}{v:Value}{P:Program}{w:World}:(Instr.box t v).run P w=.ok (.pointer (some ⟨w.heap.size,0,none⟩)) (w.alloc (.cells v.cells t (0,0))):=by
 simp only[Instr.box,run_bind,andThen_ok,newVar,newRow,run_newObj,run_pure];rfl
def Zi{t:TypeId}{x:Operand}{g:List K1}(A:o.op=.load t x)(G:bC C.n o=true)(j:Inv C a wa st u θ)(I:kinds E.P t=some g)
  (h:match ev st.σ x with
   | .complex .f64 k e=>match fh st.D k with
     |some m=>bif ble (e+g.length) m&&eN (xP st.σ k e g.length)then K (fin o st (FW (dx E.P t) (xP st.σ k e g.length))) u else False
     |none=>False
   |v=>dT v λb e=>exL g λw=>rd u.heap b e g.length=some w/\K (fin o st (FW (dx E.P t) w)) u):sZ E C fz o st θ K Q a wa:=by
 have O:df C.n x=true:=lE G (by simp[A,Op.operands]);obtain⟨zM,⟨d,U⟩,H⟩:=lY I;split at h
 .rename_i k e he;cases J:fh st.D k with
  |none=>simp only[J]at h
  |some m=>
   simp only[J]at h;obtain⟨hc,h⟩:=aq h;simp only[and_eq_true,ble_eq]at hc;obtain⟨h1,h2⟩:=hc;obtain⟨_,c,T,b1,b2,b3,_⟩:=j.boxes k m (kp J);have hp:=og h2;have y:=(kQ j O he).1;have BS:=ik b2 b3 g.length e h1 hp;refine ba (r:=FW (dx E.P t) (xP st.σ k e g.length)) (wb:=wa) ?_ (aX G j (nV hp (H.imp id λh=>by rw[tz];exact h)) h);simp only[execOp,A,y,Instr.loadAt,Instr.sureAddr,run_bind,run_pure,andThen_ok];rw[ix I b1 (by omega),BS];rfl
 .obtain⟨b,e,hv,h⟩:=gG h;obtain⟨w,Y,hp,dF,h⟩:=re h;have y:=bg j O hv rfl;by_cases hz:g.length=0
  .have L:dx E.P t=true:=H.resolve_right (by omega);have Gf:w=[]:=List.eq_nil_of_length_eq_zero (by omega);subst Gf;obtain⟨i,hi⟩:=gY U;refine ba (r:=FW (dx E.P t) []) (wb:=wa) ?_ (aX G j (by rw[L];rfl) h);simp only[execOp,A,y,Instr.loadAt,Instr.sureAddr,run_bind,run_pure,andThen_ok,loadVar,lD U,L,if_true,cK hi,<- zM,hz];rfl
  .obtain⟨c,T,f,c1,c2,c3⟩:=vz j.below dF hz;refine ba (r:=FW (dx E.P t) w) (wb:=wa) ?_ (aX G j (nV hp (H.imp id λh=>by omega)) h);simp only[execOp,A,y,Instr.loadAt,Instr.sureAddr,run_bind,run_pure,andThen_ok];rw[ix I c1 c2,<- c3];rfl
def Eb{b g:Nat}{j:List Value}{J:UW->Prop}(r:Inv C a wa st u θ)(h:uo b g j u J)(Y:j≠[]):
  ∃c T w',wa.heap[b]?=some (.cells c T (0,0))/\g+j.length<=c.size/\Inv C a (je wa b (.cells (vc c g j) T (0,0))) st (u.Ka w') θ/\J (u.Ka w'):=by
 obtain⟨c,T,A,H,G,U⟩:=h;have I:b<u.heap.size:=(Array.getElem?_eq_some_iff.1 A).1;have w:wa.heap[b]?=some (.cells c T (0,0)):=by
  rcases r.below.block b I with e|e
  .rw[<- e];exact A
  .rw[A]at e;simp only[Option.some.injEq,Obj.cells.injEq]at e;obtain⟨rfl,_,_⟩:=e;have:j.length≠0:=λe=>Y (List.eq_nil_of_length_eq_zero e);rw[Array.size_empty]at H;omega
 have L:b<wa.heap.size:=(Array.getElem?_eq_some_iff.1 w).1;refine⟨c,T,je u.toWorld b (.cells (vc c g j) T (0,0)),w,H,?_,U _ ⟨rfl,rfl,rfl,by rw[fw];exact le_refl _,vq I,λc hc _=>kZ hc⟩⟩;refine r.world (F:=λx=>x=b) (λ_ e=>e▸G) ⟨rfl,rfl,rfl,by rw[fw];exact le_refl _,λc _ hc=>kZ hc⟩ ?_ ⟨rfl,rfl,rfl,by show _<=(je u.toWorld b _).heap.size;rw[fw];exact le_refl _,λc _ hc=>kZ hc⟩ ?_ ?_ ?_
 .refine⟨r.below.os,r.below.tape,r.below.output,?_,λi hc=>?_⟩
  .show(je u.toWorld b _).heap.size<=(je wa b _).heap.size;rw[fw,fw];exact r.below.size
  .have O:i<u.heap.size:=by
    have y:i<(je u.toWorld b (.cells (vc c g j) T (0,0))).heap.size:=hc;rw[fw]at y;exact y
   show(je u.toWorld b _).heap[i]?=(je wa b _).heap[i]?\/(je u.toWorld b _).heap[i]?=_;by_cases e:i=b
   .subst e;rw[vq I,vq L];exact .inl rfl
   .rw[kZ e,kZ e];exact r.below.block i O
 .intro i A H G;have y:i<(je u.toWorld b (.cells (vc c g j) T (0,0))).heap.size:=G;rw[fw]at y;omega
 .intro i hc;rw[fw];exact r.pY i hc
 .intro i hc _;exact hc
def Vs{t:TypeId}{x y:Operand}(I:o.op=.store t x y)(H:bC C.n o=true)(r:Inv C a wa st u θ)
  (h:(bif plain (ev st.σ y)&&beq (ev st.σ y).cells.size (E.P.cellsOf t)&&eN (ev st.σ y).cells.toList&&(E.P.info? t).isSome then match ev st.σ x with
   | .complex .f64 k g=>match fh st.D k with
     |some m=>bif ble (g+(ev st.σ y).cells.size) m&& !cT fz k then K {st with σ:=put (rG st.σ k g (ev st.σ y).cells.toList) o.dst undef} u else False
     |none=>False
   |v=>dT v λb g=>uo b g (ev st.σ y).cells.toList u λw'=>K (fin o st undef) w'
   else False)):sZ E C fz o st θ K Q a wa:=by
 have hx:df C.n x=true:=lE H (by simp[I,Op.operands]);have hy:df C.n y=true:=lE H (by simp[I,Op.operands]);obtain⟨hc,h⟩:=aq h;simp only[and_eq_true,beq_iff]at hc;obtain⟨⟨⟨O,fK⟩,jK⟩,IT⟩:=hc;obtain⟨i,G⟩:=Option.isSome_iff_exists.1 IT;have hp:=og jK;have Yt:=oe r hy O;generalize hvy:ev st.σ y=w at*
 split at h
 .rename_i k g he;cases U:fh st.D k with
  |none=>simp only[U]at h
  |some m=>
   simp only[U]at h;obtain⟨hc,h⟩:=aq h;simp only[and_eq_true,ble_eq,not_eq_true']at hc;obtain⟨h1,h2⟩:=hc;have J:=kp U;obtain⟨c,T,b1,b2,dP⟩:=r.acU (o:=g) (vs:=w.cells.toList) J (by simpa using h1) (λv A=>(hp v A).1);have L:=(kQ r hx he).1;refine Fe (wb:=je wa (θ k) (.cells (vc c g w.cells.toList) T (0,0))) ?_ ⟨_,_,_,dP.cW o.dst (eI H) (v:=undef) rfl,?_,λ_ _ _=>rfl,λ_=>rfl,h⟩
   .simp only[execOp,I,L,Yt,Instr.storeAt,Instr.sureAddr,run_bind,run_pure,andThen_ok];rw[vt G fK b1 (by omega) (λv A=>(hp v A).2)];rfl
   .have hP1:cN C.n fz [] st {st with σ:=rG st.σ k g w.cells.toList}:=by
     refine⟨λi G _=>?_,λ_ h=>h,λk' bZ m' sU j hj=>?_⟩
     .simp only;rw[gU _ _ _ (lt_of_lt_of_le G r.jf)]
     .have aW:k'≠k:=λe=>by
       have:=eg.2 (e▸bZ);rw[h2]at this;cases this
      simp only;rw[dM];intro i _ G e;have:=(r.boxes k' m' sU).1;have:=(r.boxes k m J).1;simp only[length_toList]at G;exact aW (iU (by omega) (by omega) e).1
    have Y:=cN.fin (n:=C.n) (fz:=fz) {st with σ:=rG st.σ k g w.cells.toList} o.dst (eI H) r.jf undef;have:=hP1.trans Y;simpa using this
 .obtain⟨b,g,A,h⟩:=gG h;have L:=bg r hx A rfl;by_cases hz:w.cells.toList=[]
  .obtain⟨c,T,h1,h2,h3,h4⟩:=h;rw[hz]at h4;simp only[vc]at h4;have Pd:w.cells.size=0:=by have:=congrArg List.length hz;simpa using this
   have hS:Sto u.toWorld u.toWorld b (.cells c T (0,0)):=⟨rfl,rfl,rfl,le_refl _,h1,λ_ _ _=>rfl⟩;refine Fe (wb:=wa) ?_ (aX H (u':=u.Ka u.toWorld) (θ:=θ) ?_ rfl (h4 _ hS))
   .simp only[execOp,I,L,Yt,Instr.storeAt,Instr.sureAddr,run_bind,run_pure,andThen_ok,storeVar,cK G];rw[if_neg (by omega),hz];simp[storeCells]
   .exact r
  .obtain⟨c,T,w',c1,c2,dP,hK⟩:=Eb r h hz;simp only[length_toList]at c2;refine Fe (wb:=je wa b (.cells (vc c g w.cells.toList) T (0,0))) ?_ (aX H dP rfl hK);simp only[execOp,I,L,Yt,Instr.storeAt,Instr.sureAddr,run_bind,run_pure,andThen_ok];rw[vt G fK c1 c2 (λv A=>(hp v A).2)];rfl
def ac9{op:BinOp}{t j:TypeId}{x y:Operand}(e:o.op=.binOp op t x y j)(i:bC C.n o=true)(g:Inv C a wa st u θ)(h:qb E.P op t (ev st.σ x) (ev st.σ y) λv=>K (fin o st v) u):
  sZ E C fz o st θ K Q a wa:=by
 have H:df C.n x=true:=lE i (by simp[e,Op.operands]);have G:df C.n y=true:=lE i (by simp[e,Op.operands]);obtain⟨A,w,v,hp,hK,I⟩:=Cs h x y;refine ba (r:=v) (wb:=wa) ?_ (aX i g hp hK);simp only[execOp,e];rw[oe g H A,oe g G w];rw[run_bind,I];rfl
end
end Go.aP
