import Derived.OrdersHeld
import Derived.OrdersIn
import Derived.RangeFuncNested
import Derived.Below
import Derived.KernelRfl
import Derived.Laws.StructEq
import Derived.Laws.AppendOwn
set_option linter.all false
namespace Go.az
open Go.RowKit
abbrev Fr:=Nat->Value
abbrev Gn:=Array Obj
@[reducible] def cY(k o:Nat):Value:=.complex .f64 k o
@[reducible] def au:Value:=.complex .f32 0 0
def plain:Value->Bool
 | .complex _ _ _=>false
 |_=>true
def one:Value->Bool
 | .agg _| .tuple _=>false
 |_=>true
def R(θ:Nat->Nat)(v r:Value):Prop:=
 match v with
 | .complex .f64 k o=>r=.pointer (some ⟨θ k,o,none⟩)
 | .complex .f32 _ _=>True
 |v=>r=v
theorem gP{θ:Nat->Nat}{v r:Value}(h:plain v=true):R θ v r↔r=v:=by
 cases v<;>simp_all [R,plain]
theorem mK{θ:Nat->Nat}{v:Value}(h:plain v=true):R θ v v:=(gP h).2 rfl
def iz(σ:Fr)(t:Nat)(v:Value):Fr:=λi=>bif Nat.beq i t then v else σ i
@[simp] theorem dL(σ:Fr)(t:Nat)(v:Value):iz σ t v t=v:=by simp[iz]
theorem bH(σ:Fr){t i:Nat}(v:Value)(h:i≠t):iz σ t v i=σ i:=by
 have:Nat.beq i t=false:=by
  cases hb:Nat.beq i t with
  |false=>rfl
  |true=>exact absurd (Nat.eq_of_beq_eq_true hb) h
 simp[iz,this]
def put(σ:Fr)(d:Option Nat)(v:Value):Fr:=match d with|some t=>iz σ t v|none=>σ
def gx(k j:Nat):Nat:=(k+1)*65536+j
def pH(σ:Fr)(k:Nat):Nat->List Value->Fr
 |_,[]=>σ
 |j,v::vs=>pH (iz σ (gx k j) v) k (j+1) vs
def uP(σ:Fr)(k:Nat):Nat->Nat->List Value
 |_,0=>[]
 |j,m+1=>σ (gx k j)::uP σ k (j+1) m
theorem rI(σ:Fr)(k:Nat):∀(m j:Nat),(uP σ k j m).length=m
 |0,_=>rfl
 |m+1,j=>by simp[uP,rI σ k m (j+1)]
theorem tj(σ:Fr)(k:Nat):∀(m j i:Nat),i<m->(uP σ k j m)[i]?=some (σ (gx k (j+i)))
 |m+1,j,0,_=>by simp[uP]
 |m+1,j,i+1,h=>by
  simp only[uP,List.getElem?_cons_succ]
  rw[tj σ k m (j+1) i (by omega)]
  congr 3;omega
def ev(σ:Fr):Operand->Value
 | .tmp t=>σ t
 | .const v=>v
 | .global g=>.pointer (some ⟨g,0,none⟩)
 | .func f=>.func (.func f) #[] #[]
def rd(H:Gn)(b o n:Nat):Option (List Value):=
 match H[b]? with
 |some (.cells c _ _)=>if o+n<=c.size then some ((c.toList.drop o).take n)else none
 |_=>none
inductive K1 where
 |int (k:IntKind)|bool|str|slice|ptr|fn|map|val
 deriving DecidableEq,Inhabited
@[reducible] def K1.T:K1->Type
 | .int _=>Int
 | .bool=>Bool
 | .str=>ByteArray
 | .slice=>Option Addr×Nat×Nat
 | .ptr=>Option Addr
 | .fn=>Fn×Array Value×Array Value
 | .map=>Option Nat
 | .val=>Empty
def K1.v:(k:K1)->k.T->Value
 | .int k,x=>.int k x
 | .bool,x=>.bool x
 | .str,x=>.string x
 | .slice,x=>.slice x.1 x.2.1 x.2.2
 | .ptr,x=>.pointer x
 | .fn,x=>.func x.1 x.2.1 x.2.2
 | .map,x=>.map x
 | .val,x=>Empty.elim x
def K1.get:(k:K1)->Value->Option k.T
 | .int k,.int k' x=>if k=k' then some x else none
 | .bool,.bool x=>some x
 | .str,.string x=>some x
 | .slice,.slice a n c=>some (a,n,c)
 | .ptr,.pointer x=>some x
 | .fn,.func f a b=>some (f,a,b)
 | .map,.map x=>some x
 |_,_=>none
theorem K1.yO{k:K1}{v:Value}{x:k.T}(h:k.get v=some x):v=k.v x:=by
 cases k<;>cases v<;>simp_all [K1.get,K1.v]
 all_goals (first|exact h.2|(subst h;exact⟨rfl,rfl,rfl⟩))
theorem K1.Tz(k:K1)(x:k.T):plain (k.v x)=true:=by cases k<;>first|rfl|exact Empty.elim x
def exK:K1->(Value->Prop)->Prop
 | .int k,F=>∃x:Int,F (.int k x)
 | .bool,F=>∃x:Bool,F (.bool x)
 | .str,F=>∃x:ByteArray,F (.string x)
 | .slice,F=>∃(a:Option Addr) (n c:Nat),F (.slice a n c)
 | .ptr,F=>∃a:Option Addr,F (.pointer a)
 | .fn,F=>∃(f:Fn) (a b:Array Value),F (.func f a b)
 | .map,F=>∃a:Option Nat,F (.map a)
 | .val,_=>False
def ZR:List K1->(List Value->Prop)->Prop
 |[],F=>F []
 |k::ks,F=>exK k λv=>ZR ks λvs=>F (v::vs)
theorem QI{k:K1}{F:Value->Prop}(h:exK k F):∃v,plain v=true/\one v=true/\F v:=by
 cases k<;>simp only[exK]at h
 case int=>obtain⟨x,h⟩:=h;exact⟨_,rfl,rfl,h⟩
 case bool=>obtain⟨x,h⟩:=h;exact⟨_,rfl,rfl,h⟩
 case str=>obtain⟨x,h⟩:=h;exact⟨_,rfl,rfl,h⟩
 case slice=>obtain⟨a,n,c,h⟩:=h;exact⟨_,rfl,rfl,h⟩
 case ptr=>obtain⟨x,h⟩:=h;exact⟨_,rfl,rfl,h⟩
 case fn=>obtain⟨f,a,b,h⟩:=h;exact⟨_,rfl,rfl,h⟩
 case map=>obtain⟨x,h⟩:=h;exact⟨_,rfl,rfl,h⟩
theorem oV:∀{ks:List K1} {F:List Value->Prop},ZR ks F->∃vs,vs.length=ks.length/\(∀v∈vs,plain v=true/\one v=true)/\F vs
 |[],_,h=>⟨[],rfl,by simp,h⟩
 |k::ks,F,h=>by
  obtain⟨v,hp,h1,h⟩:=QI h
  obtain⟨vs,hl,tM,h⟩:=oV h
  exact⟨v::vs,by simp[hl],by simpa using⟨⟨hp,h1⟩,tM⟩,h⟩
inductive Kd where
 |one (k:K1)
 |agg (ks:List K1)
 |box (ks:List K1)
 deriving DecidableEq,Inhabited
@[reducible] def TL:List K1->Type
 |[]=>Unit
 |[k]=>k.T
 |k::k'::ks=>k.T×TL (k'::ks)
def Jd:(ks:List K1)->TL ks->List Value
 |[],_=>[]
 |[k],x=>[k.v x]
 |k::k'::ks,x=>k.v x.1::Jd (k'::ks) x.2
def ji:(ks:List K1)->List Value->Option (TL ks)
 |[],[]=>some ()
 |[k],[v]=>k.get v
 |k::k'::ks,v::vs=>match k.get v,ji (k'::ks) vs with
  |some x,some y=>some (x,y)
  |_,_=>none
 |_,_=>none
theorem Dp:∀{ks:List K1} {vs:List Value} {x:TL ks},ji ks vs=some x->vs=Jd ks x
 |[],[],_,_=>rfl
 |[],_::_,_,h=>by simp[ji]at h
 |[k],[],_,h=>by simp[ji]at h
 |[k],[v],x,h=>by simp only[ji]at h;simp[Jd,K1.yO h]
 |[k],v::v'::vs,_,h=>by simp[ji]at h
 |k::k'::ks,[],_,h=>by simp[ji]at h
 |k::k'::ks,v::vs,x,h=>by
  simp only[ji]at h
  split at h
  ·rename_i a b ha hb
   simp only[Option.some.injEq]at h
   subst h
   simp[Jd,K1.yO ha,Dp hb]
  ·cases h
theorem si:∀(ks:List K1) (x:TL ks),(Jd ks x).length=ks.length
 |[],_=>rfl
 |[k],x=>rfl
 |k::k'::ks,x=>by simp[Jd,si (k'::ks) x.2]
@[reducible] def Kd.T:Kd->Type
 | .one k=>k.T
 | .agg ks=>TL ks
 | .box ks=>TL ks
abbrev Live:=List (Nat×Kd)
@[reducible] def Tup:Live->Type
 |[]=>Unit
 |[x]=>x.2.T
 |x::y::l=>x.2.T×Tup (y::l)
structure St where
 σ:Fr
 D:List (Nat×Nat)
structure UW extends World where
 eN:Nat->Prop
def UW.born(u:UW)(b:Nat)(w':World):UW:=⟨w',λc=>u.eN c\/c=b⟩
def UW.Gz(u:UW)(w':World):UW:=⟨w',u.eN⟩
def UW.ret(u:UW)(lo:Nat)(w':World):UW:=⟨w',λc=>u.eN c\/(lo<=c/\c<w'.heap.size)⟩
def di:List (Nat×Nat)->Nat->Nat->Bool
 |[],_,_=>false
 |(k,m)::D,k',m'=>(Nat.beq k k'&&Nat.beq m m')||di D k' m'
theorem beq_iff{a b:Nat}:Nat.beq a b=true↔a=b:=⟨Nat.eq_of_beq_eq_true,λh=>by subst h;exact Nat.beq_refl a⟩
theorem mF{D:List (Nat×Nat)}{k m:Nat}:di D k m=true↔(k,m)∈D:=by
 induction D with
 |nil=>simp[di]
 |cons x D ih=>
  obtain⟨a,b⟩:=x
  simp only[di,Bool.or_eq_true,Bool.and_eq_true,beq_iff,ih,List.mem_cons,Prod.mk.injEq]
  constructor
  ·rintro(⟨rfl,rfl⟩|h)
   ·exact .inl ⟨rfl,rfl⟩
   ·exact .inr h
  ·rintro(⟨rfl,rfl⟩|h)
   ·exact .inl ⟨rfl,rfl⟩
   ·exact .inr h
def jL:List (Nat×Nat)->Nat->Bool
 |[],_=>false
 |(k,_)::D,k'=>Nat.beq k k'||jL D k'
theorem Mm{D:List (Nat×Nat)}{k:Nat}:jL D k=true↔∃m,(k,m)∈D:=by
 induction D with
 |nil=>simp[jL]
 |cons x D ih=>
  obtain⟨a,b⟩:=x
  simp only[jL,Bool.or_eq_true,beq_iff,ih,List.mem_cons,Prod.mk.injEq]
  constructor
  ·rintro(h|⟨m,h⟩)
   ·exact⟨b,.inl ⟨h.symm,rfl⟩⟩
   ·exact⟨m,.inr h⟩
  ·rintro⟨m,⟨rfl,_⟩|h⟩
   ·exact .inl rfl
   ·exact .inr ⟨m,h⟩
def wy(st:St):(x:Nat×Kd)->Option x.2.T
 |(t,.one k)=>k.get (st.σ t)
 |(t,.agg ks)=>match st.σ t with
  | .agg a=>ji ks a.toList
  |_=>none
 |(t,.box ks)=>match st.σ t with
  | .complex .f64 k o=>bif (Nat.beq k t&&Nat.beq o 0)&&di st.D t ks.length then ji ks (uP st.σ t 0 ks.length)else none
  |_=>none
def eJ(st:St):(l:Live)->Option (Tup l)
 |[]=>some ()
 |[x]=>wy st x
 |x::y::l=>match wy st x,eJ st (y::l)with
  |some a,some b=>some (a,b)
  |_,_=>none
def je(st:St):(x:Nat×Kd)->x.2.T->St
 |(t,.one k),v=>{st with σ:=iz st.σ t (k.v v)}
 |(t,.agg ks),v=>{st with σ:=iz st.σ t (.agg (Jd ks v).toArray)}
 |(t,.box ks),v=>{st with σ:=pH (iz st.σ t (cY t 0)) t 0 (Jd ks v),D:=bif di st.D t ks.length then st.D else(t,ks.length)::st.D}
def pQ(st:St):(l:Live)->Tup l->St
 |[],_=>st
 |[x],v=>je st x v
 |x::y::l,v=>pQ (je st x v.1) (y::l) v.2
def bA:List Nat->Nat->Bool
 |[],_=>false
 |x::l,y=>Nat.beq x y||bA l y
theorem cV{l:List Nat}{y:Nat}:bA l y=true↔y∈l:=by
 induction l with
 |nil=>simp[bA]
 |cons x l ih=>
  simp only[bA,Bool.or_eq_true,beq_iff,ih,List.mem_cons]
  exact⟨λh=>h.imp Eq.symm id,λh=>h.imp Eq.symm id⟩
structure Cut where
 live:Live
 cB:List (Nat×Nat)
def dO(σ:Fr):List (Nat×Nat)->Fr
 |[]=>σ
 |(k,m)::l=>dO (pH (iz σ k (cY k 0)) k 0 (List.replicate m au)) l
def P_(v:Value)(k:Nat):Bool:=
 match v with
 | .complex .f64 k' o=>Nat.beq k' k&&Nat.beq o 0
 |_=>false
def jo(st:St):List (Nat×Nat)->Bool
 |[]=>true
 |(k,m)::l=>di st.D k m&&P_ (st.σ k) k&&jo st l
def qq(σ:Fr)(ws:List Nat):Fr:=λt=>bif Nat.blt t 65536&&bA ws t then au else σ t
def mix(st:St)(ws:List Nat)(c:Cut)(x:Tup c.live):St:=
 pQ {st with σ:=dO (qq st.σ ws) c.cB} c.live x
def ae(c:Bool)(A B:Prop):Prop:=match c with|true=>A|false=>B
theorem uA{c:Bool}{A B:Prop}:ae c A B↔(c=true->A)/\(c=false->B):=by cases c<;>simp[ae]
def cw{α β:Type}(A:(α->β->Prop)->Prop)(B:α->β->Prop):Prop:=∃J:α->β->Prop,A J/\∀s w,J s w->B s w
def aj{α β:Type}(body:(α->β->Prop)->α->β->Prop)(s:α)(w:β):Prop:=
 ∃I:Nat->α->β->Prop,(∃n,I n s w)/\∀n s w,I n s w->body (λs' w'=>∃m,m<n/\I m s' w') s w
def pv{α:Type}(P:Program):Sem α->Option α
 | .pure a=>some a
 | .program k=>pv P (k P)
 |_=>none
theorem uR{α:Type}{P:Program}:∀{s:Sem α} {a:α},pv P s=some a->∀w,s.run P w=.ok a w
 | .pure a,b,h,w=>by simp only[pv,Option.some.injEq]at h;subst h;rfl
 | .program k,b,h,w=>by simp only[pv]at h;simp only[Sem.run];exact uR h w
 | .load ..,_,h,_=>by simp[pv]at h
 | .store ..,_,h,_=>by simp[pv]at h
 | .new ..,_,h,_=>by simp[pv]at h
 | .shape ..,_,h,_=>by simp[pv]at h
 | .freeze ..,_,h,_=>by simp[pv]at h
 | .frozen ..,_,h,_=>by simp[pv]at h
 | .getObj ..,_,h,_=>by simp[pv]at h
 | .setObj ..,_,h,_=>by simp[pv]at h
 | .choose ..,_,h,_=>by simp[pv]at h
 | .sys ..,_,h,_=>by simp[pv]at h
 | .mark ..,_,h,_=>by simp[pv]at h
 | .halt ..,_,h,_=>by simp[pv]at h
structure Env where
 P:Program
 n:Nat
 cU:List Nat
 loops:List (Nat×Cut)
 gH:List (Nat×Cut)
 kU:List (Nat×List TypeId):=[]
def look{α:Type}:List (Nat×α)->Nat->Option α
 |[],_=>none
 |(k,x)::l,i=>bif Nat.beq k i then some x else look l i
def rT(P:Program):Nat->TypeId->Option (List K1)
 |0,_=>none
 |f+1,t=>match P.underlying t with
  |some (.int k)=>some [.int k]
  |some .bool=>some [.bool]
  |some .string=>some [.str]
  |some (.slice _)=>some [.slice]
  |some (.pointer _)=>some [.ptr]
  |some (.func ..)=>some [.fn]
  |some (.map ..)=>some [.map]
  |some (.struct fs)=>fs.toList.foldr (λx acc=>match rT P f x.type,acc with|some a,some b=>some (a++b)|_,_=>none) (some [])
  |some (.array n e)=>match rT P f e with
   |some ks=>some ((List.replicate n ks).flatten)
   |none=>none
  |_=>none
def bG(P:Program)(t:TypeId):Bool:=
 match P.underlying t with
 |some (.struct _)|some (.array _ _)=>true
 |_=>false
def kinds(P:Program)(t:TypeId):Option (List K1):=
 match rT P 8 t with
 |some ks=>bif Nat.beq ks.length (P.cellsOf t)then(bif bG P t||Nat.beq ks.length 1 then some ks else none)else none
 |none=>none
def CA:Bool->List Value->Value
 |true,vs=>.agg vs.toArray
 |false,[v]=>v
 |_,_=>au
def exV(P:Program)(t:TypeId)(F:Value->Prop):Prop:=
 match kinds P t with
 |some ks=>ZR ks λvs=>F (CA (bG P t) vs)
 |none=>False
def Iw(P:Program):List TypeId->(List Value->Prop)->Prop
 |[],F=>F []
 |t::ts,F=>exV P t λv=>Iw P ts λvs=>F (v::vs)
def NH(P:Program)(t:TypeId)(F:Value->Prop):Prop:=
 match P.underlying t with
 |some (.tuple ts)=>Iw P ts.toList λvs=>F (.tuple vs.toArray)
 |_=>exV P t F
def vl(P:Program)(t:TypeId)(f:Nat):Option Nat:=
 match P.underlying t with
 |some (.struct fs)=>match fs[f]? with
  |some x=>bif Nat.beq (P.cellsOf x.type) 0 then none else some x.offset
  |none=>none
 |_=>none
def oW(P:Program)(t:TypeId):Option TypeId:=
 match P.underlying t with
 |some (.slice e)=>some e
 |_=>none
def cX(v:Value)(F:Nat->Nat->Prop):Prop:=
 match v with
 | .pointer (some ⟨b,o,none⟩)=>F b o
 |_=>False
def bR(a:Option Addr)(F:Nat->Nat->Prop):Prop:=
 match a with
 |some ⟨b,o,none⟩=>F b o
 |_=>False
def nn(a:Option Addr)(A:Prop):Prop:=
 match a with
 |some _=>A
 |none=>False
def aG(a b:ByteArray):Bool:=a.toList == b.toList
theorem cf{a b:ByteArray}:aG a b=true↔a=b:=by
 unfold aG
 rw[beq_iff_eq]
 constructor
 ·intro h
  obtain⟨⟨a⟩⟩:=a
  obtain⟨⟨b⟩⟩:=b
  have ha:∀(l:List UInt8),(ByteArray.mk ⟨l⟩).toList=l:=by
   intro l
   have:∀(n i:Nat) (r:List UInt8),n=(ByteArray.mk ⟨l⟩).size-i->ByteArray.toList.loop (ByteArray.mk ⟨l⟩) i r=r.reverse++l.drop i:=by
    intro n
    induction n with
    |zero=>
     intro i r h
     rw[ByteArray.toList.loop.eq_def]
     have:¬i<(ByteArray.mk ⟨l⟩).size:=by omega
     rw[if_neg this]
     have hs:(ByteArray.mk ⟨l⟩).size=l.length:=rfl
     rw[List.drop_of_length_le (by omega)]
     simp
    |succ n ih=>
     intro i r h
     rw[ByteArray.toList.loop.eq_def]
     have hs:(ByteArray.mk ⟨l⟩).size=l.length:=rfl
     have hi:i<(ByteArray.mk ⟨l⟩).size:=by omega
     rw[if_pos hi,ih (i+1) _ (by omega)]
     have wQ:i<l.length:=by omega
     have hg:(ByteArray.mk ⟨l⟩).get! i=l[i]:=by
      simp[ByteArray.get!,wQ]
     rw[hg,List.drop_eq_getElem_cons wQ]
     simp
   have h0:=this _ 0 [] rfl
   simpa[ByteArray.toList]using h0
  rw[ha,ha]at h
  subst h;rfl
 ·rintro rfl;rfl
def eqs:List K1->List Value->List Value->Option Bool
 |[],[],[]=>some true
 | .int _::ks,.int k a::xs,.int k' b::ys=>bif decide (k=k')then(match eqs ks xs ys with|some r=>some ((a == b)&&r)|none=>none)else none
 | .bool::ks,.bool a::xs,.bool b::ys=>match eqs ks xs ys with|some r=>some ((a == b)&&r)|none=>none
 | .str::ks,.string a::xs,.string b::ys=>match eqs ks xs ys with|some r=>some (aG a b&&r)|none=>none
 |_,_,_=>none
def FQ(g:TypeId->Option (List K1)):Nat->List Field->Option (List K1)
 |_,[]=>some []
 |a,x::fs=>match g x.type with
  |some l=>bif decide (x.name≠ "_")&&Nat.beq x.offset a then(match FQ g (a+l.length) fs with|some r=>some (l++r)|none=>none)else none
  |none=>none
def Ix(P:Program):Nat->TypeId->Option (List K1)
 |0,_=>none
 |f+1,t=>match P.underlying t with
  |some (.int k)=>some [.int k]
  |some .bool=>some [.bool]
  |some .string=>some [.str]
  |some (.struct fs)=>bif P.stoodInHeld t then none else match FQ (Ix P f) 0 fs.toList with
   |some l=>bif Nat.beq l.length (P.cellsOf t)then some l else none
   |none=>none
  |_=>none
def oK(op:BinOp)(k:IntKind)(a b:Int)(K:Value->Prop):Prop:=
 match op with
 | .add=>K (.int k (k.wrap (a+b)))
 | .sub=>K (.int k (k.wrap (a-b)))
 | .mul=>K (.int k (k.wrap (a*b)))
 | .quo=>b≠0/\K (.int k (k.wrap (a.tdiv b)))
 | .rem=>b≠0/\K (.int k (a.tmod b))
 | .eql=>K (.bool (a == b))
 | .neq=>K (.bool (a != b))
 | .lss=>K (.bool (decide (a<b)))
 | .leq=>K (.bool (decide (a<=b)))
 | .gtr=>K (.bool (decide (a>b)))
 | .geq=>K (.bool (decide (a>=b)))
 |_=>False
def ru(op:BinOp)(a b:ByteArray)(K:Value->Prop):Prop:=
 match op with
 | .add=>a.size+b.size<9223372036854775808/\K (.string (a++b))
 | .eql=>K (.bool (aG a b))
 | .neq=>K (.bool (!aG a b))
 | .lss=>K (.bool (Op.bytesLess a.toList b.toList))
 | .leq=>K (.bool (Op.bytesLess a.toList b.toList||aG a b))
 | .gtr=>K (.bool (!(Op.bytesLess a.toList b.toList||aG a b)))
 | .geq=>K (.bool (!Op.bytesLess a.toList b.toList))
 |_=>False
def iX(P:Program)(op:BinOp)(t:TypeId)(x y:Value)(K:Value->Prop):Prop:=
 match x,y with
 | .int k a,.int k' b=>bif decide (k=k')then oK op k a b K else False
 | .string a,.string b=>ru op a b K
 | .bool a,.bool b=>match P.underlying t with
   |some .bool=>match op with
    | .eql=>K (.bool (a == b))
    | .neq=>K (.bool (!(a == b)))
    |_=>False
   |_=>False
 | .agg a,.agg b=>match Ix P 8 t with
   |none=>False
   |some ks=>bif (Nat.beq ks.length a.size&&Nat.beq ks.length b.size)&& !P.eqGuardType P.depth t&&bG P t then
    (match eqs ks a.toList b.toList with
    |some r=>match op with
     | .eql=>K (.bool r)
     | .neq=>K (.bool (!r))
     |_=>False
    |none=>False)else False
 | .pointer a,.pointer none=>match P.underlying t with
   |some (.pointer _)=>match op with
    | .eql=>K (.bool a.isNone)
    | .neq=>K (.bool (!a.isNone))
    |_=>False
   |_=>False
 | .slice a _ _,.slice none _ _=>match P.underlying t with
   |some (.slice _)=>match op with
    | .eql=>K (.bool a.isNone)
    | .neq=>K (.bool (!a.isNone))
    |_=>False
   |_=>False
 | .func _ _ _,.nilFunc=>match P.underlying t with
   |some (.func ..)=>match op with
    | .eql=>K (.bool false)
    | .neq=>K (.bool true)
    |_=>False
   |_=>False
 |_,_=>False
structure pG(w w':World)(b:Nat)(o:Obj):Prop where
 below:Below w.heap.size w w'
 at_:w'.heap[b]?=some o
 ge:w.heap.size<=b
structure Sto(w w':World)(b:Nat)(o:Obj):Prop where
 os:w'.os=w.os
 tape:w'.tape=w.tape
 output:w'.output=w.output
 size:w.heap.size<=w'.heap.size
 at_:w'.heap[b]?=some o
 ne:∀c,c≠b->c<w.heap.size->w'.heap[c]?=w.heap[c]?
structure Mod(F:Nat->Prop)(w w':World):Prop where
 os:w'.os=w.os
 tape:w'.tape=w.tape
 output:w'.output=w.output
 size:w.heap.size<=w'.heap.size
 bV:∀b,b<w.heap.size->¬F b->w'.heap[b]?=w.heap[b]?
@[reducible] def cj:Obj:=.cells #[] 0 (0,0)
structure vC(w w1:World):Prop where
 os:w1.os=w.os
 tape:w1.tape=w.tape
 output:w1.output=w.output
 size:w.heap.size<=w1.heap.size
 block:∀b,b<w.heap.size->w.heap[b]?=w1.heap[b]?\/w.heap[b]?=some cj
structure Out(F:Nat->Prop)(w w1 w' wr:World):Prop where
 mod:Mod F w1 wr
 zY:vC w' wr
 umod:Mod F w w'
 xv:∀b,w.heap.size<=b->b<w1.heap.size->b<w'.heap.size->w'.heap[b]?=some cj
def FnB(P:Program)(f:FuncId)(args:Array Value)(w:World)(F:Nat->Prop)(K:Value->Nat->World->Prop):Prop:=
 ∀w1,vC w w1->Calls P f args w1 λe wr=>∃v w',e=.returned v/\Out F w w1 w' wr/\K v w1.heap.size w'
def mg(P:Program)(f:FuncId)(args:Array Value)(u:UW)(K:Value->UW->Prop):Prop:=
 ∃F:Nat->Prop,(∀b,F b->u.eN b)/\FnB P f args u.toWorld F λv lo w'=>K v (u.ret lo w')
def ct(P:Program)(f:FuncId):Bool:=
 match P.funcs[f]? with
 |some fn=> !(fn.name == "runtime.NumGoroutine")&&fn.body.isSome
 |none=>false
def aaV(P:Program)(l:Nat)(args:List Value)(w:World)(R:Ending->World->Prop):Prop:=
 ∃r:Loop,w.heap[l]?=some (.loop r)/\args.length=r.params.size/\RoundIn Fence.wide 0 P l r.fn ((r.params.zip args.toArray).foldl (λt (p,v)=>t.setIfInBounds p v) r.tmps) r.assign r.body w R
def vB(P:Program)(f:Value)(args:List Value)(w:World)(R:Ending->World->Prop):Prop:=
 match f with
 | .func (.func g) first captured=>ct P g=true/\Calls P g (first.toList++args++captured.toList).toArray w R
 | .func (.yield l) first captured=>first= #[]/\captured= #[]/\aaV P l args w R
 |_=>False
def Jc(P:Program)(f:Value)(args:List Value)(w:World)(F:Nat->Prop)(K:Value->Nat->World->Prop):Prop:=
 ∀w1,vC w w1->vB P f args w1 λe wr=>∃v w',e=.returned v/\Out F w w1 w' wr/\K v w1.heap.size w'
def ng(P:Program)(f:Value)(args:List Value)(u:UW)(K:Value->UW->Prop):Prop:=
 match f with
 | .func (.func g) first captured=>bif ct P g then mg P g (first.toList++args++captured.toList).toArray u K else False
 |f=>∃F:Nat->Prop,(∀b,F b->u.eN b)/\Jc P f args u.toWorld F λv lo w'=>K v (u.ret lo w')
def qy(f:Fn)(A:Prop):Prop:=match f with| .method _=>False|_=>A
def HU:Obj->Bool| .loop _=>true|_=>false
def Sd(P:Program)(f:Value)(body:List Value->(Option Code->UW->Prop)->UW->Prop)(K:Option Code->UW->Prop)(u:UW):Prop:=
 (∃g a b,f=.func (.func g) a b)/\∀(l:Nat) (rec:Option Code->Obj) (w':World),(∀p,HU (rec p)=true)->pG u.toWorld w' l (rec none)->
  (∀(vs:List Value) (w1:World) (F:Nat->Prop) (R:Option Code->UW->Prop),w1.heap[l]?=some (rec none)->(∀b,F b->b<w1.heap.size/\b≠l)->body vs R ⟨w1.putObj l cj,F⟩->
   Jc P (.func (.yield l) #[] #[]) vs w1 (λb=>F b\/b=l) λv lo w2=>∃p eN w3,v=.bool p.isNone/\w2=w3.putObj l (rec p)/\w3.heap[l]?=some cj/\(∀b,eN b->F b\/lo<=b)/\R p ⟨w3,eN⟩)->
  ng P f [.func (.yield l) #[] #[]] (u.born l w') λ_ u'=>∃p,u'.heap[l]?=some (rec p)/\K p ⟨u'.toWorld.putObj l cj,λb=>u'.eN b/\b≠l⟩
def sN(c:Array Value):Nat->List Value->Array Value
 |_,[]=>c
 |o,v::vs=>sN (c.setIfInBounds o v) (o+1) vs
def sb(b o:Nat)(vs:List Value)(u:UW)(K:UW->Prop):Prop:=
 ∃(c:Array Value) (T:TypeId),u.heap[b]?=some (.cells c T (0,0))/\o+vs.length<=c.size/\u.eN b/\
  ∀w',Sto u.toWorld w' b (.cells (sN c o vs) T (0,0))->K (u.Gz w')
def fin(o:Oper)(st:St)(v:Value):St:={st with σ:=put st.σ o.dst v}
def bY:List (Nat×Nat)->Nat->Option Nat
 |[],_=>none
 |(k,m)::D,k'=>bif Nat.beq k k' then some m else bY D k'
def dy(vs:List Value):Bool:=vs.all λv=>plain v&&one v
def sX(a:Option Addr)(l m size:Nat):Option Addr:=if m=l then a else a.map λx=>⟨x.block,x.off+l*size,none⟩
def cE(ρ:Operand->Value)(x:Option Operand)(d:Int):Option Int:=
 match x with
 |none=>some d
 |some x=>match ρ x with
  | .int _ i=>some i
  |_=>none
def fW(a:Option Addr):Prop:=∀x,a=some x->x.spot=none
def Nd(P:Program)(e:TypeId)(base:Option Addr)(n cap:Nat)(xb:Option Addr)(m:Nat)(u:UW)(K:Option Addr->Nat->Nat->UW->Prop):Prop:=
 ∃(size bytes:Nat) (zero:List Value) (qZ new:List Value),
  (P.info? e).map (λi=>(i.size,i.bytes,i.zero.map λz=>z.cells.toList))=some (size,bytes,some zero)/\
  (m=0->new=[])/\(m≠0->bR xb λb o=>rd u.heap b o (m*size)=some new)/\
  (n=0->qZ=[])/\(n≠0->bR base λb o=>rd u.heap b o (n*size)=some qZ)/\
  n<=cap/\(n+m)*bytes<=140737488355328/\n+m<4611686018427387904/\zero.length=size/\(∀v∈new,one v=true)/\
  (n+m<=cap->(m=0/\K base n cap u)\/(m≠0/\bR base λb o=>sb b (o+n*size) new u λu'=>K base (n+m) cap u'))/\
  (cap<n+m->∀(c b:Nat) (rest:List Value) (w':World),n+m<=c->rest.length=(c-(n+m))*size->pG u.toWorld w' b (.cells (qZ++new++rest).toArray e (0,0))->
   K (some ⟨b,0,none⟩) (n+m) c (u.born b w'))
def kY(ρ:Operand->Value):List Operand->Option (IntKind×List Int)
 |[]=>none
 |[x]=>match ρ x with| .int k i=>some (k,[i])|_=>none
 |x::l=>match ρ x,kY ρ l with
  | .int k i,some (k',is)=>bif decide (k=k')then some (k,i::is)else none
  |_,_=>none
def IT(P:Program)(fs:Array Field):List (Nat×Value)->List Value->Option (List Value)
 |[],cs=>some cs
 |(i,v)::ps,cs=>match fs[i]? with
  |some f=>bif Nat.beq v.cells.size (P.cellsOf f.type)&&Nat.ble (f.offset+v.cells.size) cs.length&&(P.info? f.type).isSome then
    IT P fs ps (cs.take f.offset++v.cells.toList++cs.drop (f.offset+v.cells.size))else none
  |none=>none
def mJ(size:Nat):Nat->List (Nat×Value)->Option (List Value)
 |_,[]=>some []
 |i,(j,v)::ps=>bif Nat.beq i j&&Nat.beq v.cells.size size then(match mJ size (i+1) ps with|some l=>some (v.cells.toList++l)|none=>none)else none
def Vr(P:Program)(t:TypeId)(ps:List (Nat×Value)):Option (List Value):=
 match(P.info? t).bind (·.zero),P.underlying t with
 |some z,some (.struct fs)=>bif fs.toList.all λf=>(P.info? f.type).isSome then IT P fs ps z.cells.toList else none
 |some z,some (.array len e)=>bif (P.info? e).isSome&&Nat.beq ps.length len&&Nat.beq z.cells.size (len*P.cellsOf e)then mJ (P.cellsOf e) 0 ps else none
 |_,_=>none
def MT(P:Program)(e:TypeId)(off:Nat)(cs:List Value):Option Value:=
 bif (P.underlying e).isSome&&Nat.ble (off+P.cellsOf e) cs.length then(bif bG P e then some (.agg ((cs.drop off).take (P.cellsOf e)).toArray)else cs[off]?)else none
def Am(P:Program)(t:TypeId)(f:Nat)(cs:List Value):Option Value:=
 match P.underlying t with
 |some (.struct fs)=>match fs[f]? with
  |some x=>bif (P.underlying x.type).isSome&&Nat.ble (x.offset+P.cellsOf x.type) cs.length then
    (bif bG P x.type then some (.agg ((cs.drop x.offset).take (P.cellsOf x.type)).toArray)else cs[x.offset]?)else none
  |none=>none
 |_=>none
def W1b(E:Env)(o:Oper)(st:St)(w:UW)(b:Builtin)(args:List Operand)(ts:List TypeId)(K:St->UW->Prop):Prop:=
 match b,args,ts with
 | .len,[x],[t]=>match E.P.underlying t,ev st.σ x with
   |some (.slice _),.slice _ n _=>K (fin o st (.int .i64 n)) w
   |some .string,.string s=>K (fin o st (.int .i64 s.size)) w
   |some (.array n _),v=>bif plain v then K (fin o st (.int .i64 n)) w else False
   |_,_=>False
 | .append,[x,y],[t,t']=>match E.P.underlying t,E.P.underlying t',ev st.σ x,ev st.σ y with
   |some (.slice e),some (.slice _),.slice base n cap,.slice xb m _=>Nd E.P e base n cap xb m w λa n' c' w'=>K (fin o st (.slice a n' c')) w'
   |_,_,_,_=>False
 | .min,xs,_=>match kY (ev st.σ) xs with
   |some (k,i::is)=>K (fin o st (.int k (is.foldl (λx y=>if y<x then y else x) i))) w
   |_=>False
 | .max,xs,_=>match kY (ev st.σ) xs with
   |some (k,i::is)=>K (fin o st (.int k (is.foldl (λx y=>if y>x then y else x) i))) w
   |_=>False
 |_,_,_=>False
def W1(E:Env)(fz:List Nat)(o:Oper)(st:St)(w:UW)(K:St->UW->Prop):Prop:=
 let ρ:=ev st.σ
 match o.op with
 | .move x| .assign x=>K (fin o st (ρ x)) w
 | .pick c a b=>match ρ c with
   | .bool t=>ae t (K (fin o st (ρ a)) w) (K (fin o st (ρ b)) w)
   |_=>False
 | .alloc t=>match(E.P.info? t).bind (·.zero)with
   |none=>False
   |some z=>match o.dst with
    |none=>False
    |some k=>bif bA E.cU k then
      (bif !jL st.D k&& !bA fz k&&dy z.cells.toList&&Nat.ble z.cells.size 65536 then
       K {st with σ:=pH (iz st.σ k (cY k 0)) k 0 z.cells.toList,D:=(k,z.cells.size)::st.D} w else False)
     else ∀(b:Nat) (w':World),pG w.toWorld w' b (.cells z.cells t (0,0))->K (fin o st (.pointer (some ⟨b,0,none⟩))) (w.born b w')
 | .box t x=>bif plain (ρ x)then match o.dst with
   |none=>False
   |some k=>bif bA E.cU k then
     (bif !jL st.D k&& !bA fz k&&dy (ρ x).cells.toList&&Nat.ble (ρ x).cells.size 65536 then
      K {st with σ:=pH (iz st.σ k (cY k 0)) k 0 (ρ x).cells.toList,D:=(k,(ρ x).cells.size)::st.D} w else False)
    else ∀(b:Nat) (w':World),pG w.toWorld w' b (.cells (ρ x).cells t (0,0))->K (fin o st (.pointer (some ⟨b,0,none⟩))) (w.born b w')
   else False
 | .build t ps=>bif ps.toList.all λp=>plain (ρ p.2)then match Vr E.P t (ps.toList.map λp=>(p.1,ρ p.2))with
   |some vs=>K (fin o st (.agg vs.toArray)) w
   |none=>False else False
 | .buildSlice t len ps=>bif (ps.toList.all λp=>plain (ρ p.2))&&Nat.beq ps.toList.length len then match oW E.P t with
   |none=>False
   |some e=>match mJ (E.P.cellsOf e) 0 (ps.toList.map λp=>(p.1,ρ p.2))with
    |some vs=>bif Nat.ble vs.length 65536&&((E.P.info? e).bind (·.zero)).isSome&& !Nat.beq (E.P.cellsOf e) 0 then
      ∀(b:Nat) (w':World),pG w.toWorld w' b (.cells vs.toArray e (0,0))->K (fin o st (.slice (some ⟨b,0,none⟩) len len)) (w.born b w')else False
    |none=>False else False
 | .load t x=>match kinds E.P t with
   |none=>False
   |some ks=>match ρ x with
    | .complex .f64 k off=>match bY st.D k with
      |some m=>bif Nat.ble (off+ks.length) m&&dy (uP st.σ k off ks.length)then K (fin o st (CA (bG E.P t) (uP st.σ k off ks.length))) w else False
      |none=>False
    |v=>cX v λb off=>ZR ks λvs=>rd w.heap b off ks.length=some vs/\K (fin o st (CA (bG E.P t) vs)) w
 | .store t x y=>bif plain (ρ y)&&Nat.beq (ρ y).cells.size (E.P.cellsOf t)&&dy (ρ y).cells.toList&&(E.P.info? t).isSome then match ρ x with
   | .complex .f64 k off=>match bY st.D k with
     |some m=>bif Nat.ble (off+(ρ y).cells.size) m&& !bA fz k then K {st with σ:=put (pH st.σ k off (ρ y).cells.toList) o.dst undef} w else False
     |none=>False
   |v=>cX v λb off=>sb b off (ρ y).cells.toList w λw'=>K (fin o st undef) w'
   else False
 | .nilCheck x=>match ρ x with
   | .complex .f64 k off=>K (fin o st (cY k off)) w
   | .pointer a=>nn a (K (fin o st (.pointer a)) w)
   | .func f a b=>qy f (K (fin o st (.func f a b)) w)
   |_=>False
 | .binOp op t x y _=>iX E.P op t (ρ x) (ρ y) λv=>K (fin o st v) w
 | .unOp op _ x=>match op,ρ x with
   | .not,.bool b=>K (fin o st (.bool (!b))) w
   | .neg,.int k n=>K (fin o st (.int k (k.wrap (0-n)))) w
   |_,_=>False
 | .convert src dst x=>bif plain (ρ x)then match pv E.P (convert src dst (ρ x))with
   |some v=>bif plain v then K (fin o st v) w else False
   |none=>False else False
 | .makeInterface t x=>bif plain (ρ x)then match pv E.P (Instr.makeInterface t (ρ x))with
   |some v=>bif plain v then K (fin o st v) w else False
   |none=>False else False
 | .makeSlice t x y=>match E.P.underlying t,ρ x,ρ y with
   |some (.slice e),.int _ i,.int _ j=>match(E.P.info? e).map (λi=>(i.size,i.bytes,i.zero.map λz=>z.cells.toList))with
    |some (size,bytes,some zero)=>bif Nat.beq zero.length size&& !Nat.beq size 0 then
      0<=i/\i<=j/\j<4611686018427387904/\j.toNat*bytes<=140737488355328/\
      ∀(b:Nat) (w':World),pG w.toWorld w' b (.cells (List.replicate j.toNat zero).flatten.toArray e (0,0))->K (fin o st (.slice (some ⟨b,0,none⟩) i.toNat j.toNat)) (w.born b w')else False
    |_=>False
   |_,_,_=>False
 | .makeFunc fn first captured=>bif first.toList.all (λx=>plain (ρ x))&&captured.toList.all (λx=>plain (ρ x))then
   K (fin o st (.func fn (first.toList.map ρ).toArray (captured.toList.map ρ).toArray)) w else False
 | .slice t x lo hi mx=>match E.P.underlying t,ρ x with
   |some (.slice e),.slice a len cap=>match cE ρ lo 0,cE ρ hi len,cE ρ mx cap with
    |some l,some h,some m=>(bif (mx.isSome&&hi.isNone)||(E.P.info? e).isNone then False else(m.toNat=l.toNat\/fW a)/\0<=l/\l<=h/\h<=m/\m<=cap/\K (fin o st (.slice (sX a l.toNat m.toNat (E.P.cellsOf e)) (h.toNat-l.toNat) (m.toNat-l.toNat))) w)
    |_,_,_=>False
   |some .string,.string s=>match mx with
    |some _=>False
    |none=>match cE ρ lo 0,cE ρ hi s.size with
     |some l,some h=>0<=l/\l<=h/\h<=s.size/\K (fin o st (.string (s.extract l.toNat h.toNat))) w
     |_,_=>False
   |_,_=>False
 | .fieldAddr t x f=>match vl E.P t f with
   |none=>False
   |some d=>match ρ x with
    | .complex .f64 k off=>K (fin o st (cY k (off+d))) w
    |v=>cX v λb off=>K (fin o st (.pointer (some ⟨b,off+d,none⟩))) w
 | .field t x f=>match ρ x with
   | .agg cs=>match Am E.P t f cs.toList with
     |some v=>bif plain v then K (fin o st v) w else False
     |none=>False
   |_=>False
 | .indexAddr t x i=>match E.P.underlying t,ρ x,ρ i with
   |some (.slice e),.slice a len _,.int _ j=>bif (E.P.info? e).isSome then bR a λb off=>0<=j/\j<len/\K (fin o st (.pointer (some ⟨b,off+j.toNat*E.P.cellsOf e,none⟩))) w else False
   |some (.array len e),.complex .f64 k off,.int _ j=>bif decide (0<=j)&&decide (j<len)&&(E.P.info? e).isSome then K (fin o st (cY k (off+j.toNat*E.P.cellsOf e))) w else False
   |_,_,_=>False
 | .index t x i=>match E.P.underlying t,ρ x,ρ i with
   |some .string,.string s,.int _ j=>0<=j/\∃c:UInt8,s[j.toNat]?=some c/\K (fin o st (.int .u8 c.toNat)) w
   |some (.array len e),.agg cs,.int _ j=>0<=j/\j<len/\(E.P.info? e).isSome=true/\∃v,MT E.P e (j.toNat*E.P.cellsOf e) cs.toList=some v/\plain v=true/\K (fin o st v) w
   |_,_,_=>False
 | .extract x i=>match ρ x with
   | .tuple vs=>match vs[i]? with
     |some v=>bif plain v then K (fin o st v) w else False
     |none=>False
   |_=>False
 | .call c=>match c.callee with
   | .builtin b=>W1b E o st w b c.args.toList c.argTypes.toList K
   | .value f=>bif c.args.toList.all (λx=>plain (ρ x))then
     ng E.P (ρ f) (c.args.toList.map ρ) w λv w'=>NH E.P o.type λv'=>v=v'/\K (fin o st v') w' else False
   | .invoke x name=>bif c.args.toList.all (λx=>plain (ρ x))then match ρ x with
     | .iface t r=>match pv E.P (method (E.P.types.size+Made.depth) t r name)with
       |some (g,r')=>bif ct E.P g then mg E.P g (r'::c.args.toList.map ρ).toArray w λv w'=>NH E.P o.type λv'=>v=v'/\K (fin o st v') w' else False
       |none=>False
     |_=>False else False
 |_=>False
def sized(P:Program)(e:TypeId):Bool:=match P.info? e with|some i=> !Nat.beq i.size 0|none=>false
def Hj(P:Program)(t:TypeId)(x y:Value)(w:UW)(K:Bool->Prop):Prop:=
 match x,y with
 | .pointer (some ⟨b,o,none⟩),.pointer (some ⟨b',o',none⟩)=>match P.underlying t with
   |some (.pointer e)=>bif sized P e then
     (∃(c:Array Value) (T:TypeId),w.heap[b]?=some (.cells c T (0,0))/\c.size≠0)/\(∃(c:Array Value) (T:TypeId),w.heap[b']?=some (.cells c T (0,0))/\c.size≠0)/\K (Nat.beq b b'&&Nat.beq o o')else False
   |_=>False
 |_,_=>False
def tX(x y:Value):Bool:=match x,y with| .pointer (some _),.pointer (some _)=>true|_,_=>false
def tH(P:Program)(src dst:TypeId):Bool:=match P.underlying src,P.underlying dst with
 |some (.slice e),some .string=>(match P.underlying e with|some (.int .u8)=>true|_=>false)
 |_,_=>false
def ofBytes(ns:List Int):ByteArray:=ns.foldl (λr n=>r.push (UInt8.ofNat n.toNat)) ByteArray.empty
def OH(P:Program)(src dst:TypeId)(v:Value)(w:UW)(K:ByteArray->Prop):Prop:=
 match v with
 | .slice (some ⟨b,o,none⟩) n _=>tH P src dst=true/\n≠0/\∃ns:List Int,rd w.heap b o n=some (ns.map (Value.int .u8))/\K (ofBytes ns)
 |_=>False
def Sa(E:Env)(fz:List Nat)(o:Oper)(st:St)(w:UW)(K:St->UW->Prop):Prop:=
 match o.op with
 | .binOp .eql t x y _=>bif tX (ev st.σ x) (ev st.σ y)then Hj E.P t (ev st.σ x) (ev st.σ y) w λr=>K (fin o st (.bool r)) w else W1 E fz o st w K
 | .convert src dst x=>W1 E fz o st w K\/OH E.P src dst (ev st.σ x) w λs=>K (fin o st (.string s)) w
 |_=>W1 E fz o st w K
def kO(ops:Array Oper)(j:Nat):Option Nat:=(ops[j]?).bind (·.dst)
def Wl(E:Env)(fz:List Nat)(ops:Array Oper)(Q:St->UW->Prop):List Oper->St->UW->Prop
 |[],st,w=>Q st w
 |o::l,st,w=>match o.guard with
  |none=>Sa E fz o st w λbu w'=>Wl E fz ops Q l bu w'
  |some (j,b)=>match kO ops j with
   |none=>False
   |some g=>match st.σ g with
    | .bool c=>ae c
      ((λdb=>ae b (W1 E fz o db w λbu w'=>Wl E fz ops Q l bu w') (Wl E fz ops Q l (fin o db undef) w)) {st with σ:=iz st.σ g (.bool true)})
      ((λdb=>ae b (Wl E fz ops Q l (fin o db undef) w) (W1 E fz o db w λbu w'=>Wl E fz ops Q l bu w')) {st with σ:=iz st.σ g (.bool false)})
    | .tuple _=>Wl E fz ops Q l (fin o st undef) w
    |_=>False
def aV(o:Oper):Bool:=
 match o.op with
 | .move _| .assign _| .pick .. | .build .. | .load .. | .binOp .. | .unOp .. | .convert .. | .makeInterface .. | .makeFunc .. | .slice .. | .fieldAddr .. | .field .. | .indexAddr .. | .index .. | .extract .. | .nilCheck _=>true
 | .call ⟨.builtin .len,_,_⟩| .call ⟨.builtin .min,_,_⟩| .call ⟨.builtin .max,_,_⟩=>true
 |_=>false
def reads(o:Oper):Bool:=
 match o.op with
 | .load _ _=>true
 |_=>false
def xU(ops:Array Oper)(i:Nat):Bool:=match ops[i]? with|some o=>reads o|none=>false
def qY(ops:Array Oper)(j:Nat):List Nat:=
 match ops[j]? with
 |none=>[]
 |some o=>(o.after.toList.filter λe=>Region.binds .any e).map (·.on)
def vN(ops:Array Oper):Nat->List Nat->List Nat
 |0,S=>S
 |i+1,S=>vN ops i (bif bA S i then qY ops i++S else S)
def RQ(ops:Array Oper)(j:Nat):List Nat:=vN ops ops.size (qY ops j)
def PN(ops:Array Oper)(j:Nat)(S:List Nat):Bool:=
 (List.range ops.size).any λx=> !Nat.beq x j&&xU ops x&& !bA S x
def late(ops:Array Oper)(j:Nat):Bool:=PN ops j (RQ ops j)
def oI(o:Oper):Bool:=match o.op with| .alloc _| .box _ _| .buildSlice _ _ _=>true|_=>false
def Cz(ops:Array Oper)(i:Nat):Bool:=match ops[i]? with|some o=>oI o|none=>false
def oP(ops:Array Oper)(j:Nat):Bool:=late ops j&& !Cz ops j
inductive gY where
 |nil
 |tk (i:Nat) (p:gY)
 |ef (i:Nat) (p:gY)
 |QR (i:Nat) (p:gY) (j:Nat) (q:gY)
 |QO (i:Nat) (p:gY) (j:Nat) (q:gY) (k:Nat) (r:gY)
def cZ(ops:Array Oper):gY->Bool
 | .nil=>false
 | .tk i p=>xU ops i||cZ ops p
 | .ef _ p=>cZ ops p
 | .QR _ p _ q=>cZ ops p||cZ ops q
 | .QO _ p _ q _ r=>cZ ops p||cZ ops q||cZ ops r
def bt(ops:Array Oper):gY->Bool
 | .nil=>false
 | .tk _ p=>bt ops p
 | .ef i p=>oP ops i||bt ops p
 | .QR i p j q=>(oP ops i||bt ops p)||(oP ops j||bt ops q)
 | .QO i p j q k r=>(oP ops i||bt ops p)||(oP ops j||bt ops q)||(oP ops k||bt ops r)
def gK(ops:Array Oper)(af:Array Bool):List Nat->Option Nat
 |[]=>none
 |i::l=>bif (match ops[i]? with|some o=>aV o|none=>false)&&Region.free .any ops af i then some i else gK ops af l
def br(ops:Array Oper)(i:Nat)(p:gY):Bool:=oP ops i||(Cz ops i||(!cZ ops p&& !bt ops p))
def dt(ops:Array Oper):Nat->Array Bool->Option gY
 |0,af=>match Region.ready .any ops af with
  |[]=>some .nil
  |_=>none
 |f+1,af=>match Region.ready .any ops af with
  |[]=>some .nil
  |i::rs=>match gK ops af (i::rs)with
   |some j=>match dt ops f (af.setIfInBounds j true)with
    |some p=>some (.tk j p)
    |none=>none
   |none=>match rs with
    |[]=>match dt ops f (af.setIfInBounds i true)with
     |some p=>bif br ops i p then some (.ef i p)else none
     |none=>none
    |[j]=>match dt ops f (af.setIfInBounds i true),dt ops f (af.setIfInBounds j true)with
     |some p,some q=>bif br ops i p&&br ops j q then some (.QR i p j q)else none
     |_,_=>none
    |[j,k]=>match dt ops f (af.setIfInBounds i true),dt ops f (af.setIfInBounds j true),dt ops f (af.setIfInBounds k true)with
     |some p,some q,some r=>bif br ops i p&&br ops j q&&br ops k r then some (.QO i p j q k r)else none
     |_,_,_=>none
    |_=>none
def fV(cU:List Nat)(o:Oper):Bool:=
 match o.op,o.dst with
 | .alloc _,some k| .box _ _,some k=>bA cU k
 |_,_=>false
def oD(ops:Array Oper):Option gY:=
 bif Region.noSelect ops then dt ops ops.size (Array.replicate ops.size false)else none
def ju(ops:Array Oper)(j:Nat):Bool:=match ops[j]? with|some o=>aV o||oI o|none=>false
def Ln(ops:Array Oper)(af:Array Bool)(cy:List Nat):Bool:=
 (List.range ops.size).all λh=>af.getD h true||(ju ops h||(RQ ops h).any λx=>bA cy x)
inductive cK where
 |nil
 |tk (i:Nat) (q:cK)
 |ld (i:Nat) (q r:cK)
 |alt (i:Nat) (q r:cK)
 |done
def Ta(ops:Array Oper)(i:Nat)(d:Bool):Bool:=match ops[i]? with|some o=>aV o|none=>d
def xE(ops:Array Oper)(af:Array Bool)(cy:List Nat):List Nat->Option Nat
 |[]=>none
 |i::l=>bif (match ops[i]? with|some o=>aV o&&(!reads o||Ln ops af (i::cy))|none=>false)&&(Region.free .any ops af i&& !bA cy i)then some i else xE ops af cy l
def yy(ops:Array Oper)(af:Array Bool)(cy:List Nat):List Nat->Option Nat
 |[]=>none
 |i::l=>bif (match ops[i]? with|some o=>aV o|none=>false)&&(Region.free .any ops af i&& !bA cy i)then some i else yy ops af cy l
def wF(ops:Array Oper)(cy:List Nat)(f:Nat->Option cK):List Nat->Option cK
 |[]=>some .done
 |i::l=>bif bA cy i then wF ops cy f l else
  bif Ta ops i true then none else match f i with
  |none=>none
  |some q=>match wF ops cy f l with
   |none=>none
   |some r=>some (.alt i q r)
def jI(ops:Array Oper):Nat->Array Bool->List Nat->Option cK
 |0,_,_=>none
 |g+1,af,cy=>match Region.ready .any ops af with
  |[]=>some .nil
  |l=>match xE ops af cy l with
   |some j=>match jI ops g (af.setIfInBounds j true) cy with
    |some q=>some (.tk j q)
    |none=>none
   |none=>match yy ops af cy l with
    |some j=>match jI ops g (af.setIfInBounds j true) cy,jI ops g af (j::cy)with
     |some q,some r=>some (.ld j q r)
     |_,_=>none
    |none=>wF ops cy (λi=>jI ops g (af.setIfInBounds i true) (bif ju ops i then cy else[])) l
def eI(ops:Array Oper):Option cK:=
 bif Region.noSelect ops then jI ops (2*(ops.size*ops.size)+2) (Array.replicate ops.size false) []else none
def Ue(cU:List Nat)(id:Nat):Bool:=bA cU (1000000+id)
def qz(u0 u:UW):Prop:=Below u0.heap.size u0.toWorld u.toWorld
def guarded(ops:Array Oper)(o:Oper)(st:St)(act skip:St->Prop):Prop:=
 match o.guard with
 |none=>act st
 |some (j,b)=>match kO ops j with
  |none=>False
  |some g=>match st.σ g with
   | .bool c=>ae c
     ((λdb=>ae b (act db) (skip db)) {st with σ:=iz st.σ g (.bool true)})
     ((λdb=>ae b (skip db) (act db)) {st with σ:=iz st.σ g (.bool false)})
   | .tuple _=>skip st
   |_=>False
def stepT(E:Env)(fz:List Nat)(ops:Array Oper)(u0:UW)(i:Nat)(st:St)(K:St->Prop):Prop:=
 match ops[i]? with
 |none=>False
 |some o=>guarded ops o st (λdb=>W1 E fz o db u0 λbu _=>K bu) (λdb=>K (fin o db undef))
def qS(E:Env)(fz:List Nat)(ops:Array Oper)(u0:UW)(i:Nat)(st:St)(u:UW)(K:St->UW->Prop):Prop:=
 match ops[i]? with
 |none=>False
 |some o=>bif fV E.cU o then False else guarded ops o st
   (λdb=>bif oP ops i then W1 E (fz++db.D.map (·.1)) o db u (λbu u'=>qz u0 u'/\K bu u')else W1 E fz o db u K)
   (λdb=>K (fin o db undef) u)
def Wd(E:Env)(fz:List Nat)(ops:Array Oper)(u0:UW)(Q:St->UW->Prop):gY->St->UW->Prop
 | .nil,st,u=>Q st u
 | .tk i p,st,u=>stepT E fz ops u0 i st λbu=>Wd E fz ops u0 Q p bu u
 | .ef i p,st,u=>qS E fz ops u0 i st u λbu u'=>Wd E fz ops u0 Q p bu u'
 | .QR i p j q,st,u=>(qS E fz ops u0 i st u λbu u'=>Wd E fz ops u0 Q p bu u')/\(qS E fz ops u0 j st u λbu u'=>Wd E fz ops u0 Q q bu u')
 | .QO i p j q k r,st,u=>(qS E fz ops u0 i st u λbu u'=>Wd E fz ops u0 Q p bu u')/\(qS E fz ops u0 j st u λbu u'=>Wd E fz ops u0 Q q bu u')/\(qS E fz ops u0 k st u λbu u'=>Wd E fz ops u0 Q r bu u')
def JJ(E:Env)(fz:List Nat)(ops:Array Oper)(i:Nat)(st:St)(u:UW)(K:St->UW->Prop):Prop:=
 match ops[i]? with
 |none=>False
 |some o=>guarded ops o st (λdb=>W1 E fz o db u K) (λdb=>K (fin o db undef) u)
def Wq(E:Env)(fz:List Nat)(ops:Array Oper)(Q:St->UW->Prop):cK->St->UW->Prop
 | .nil,st,u=>Q st u
 | .tk i q,st,u=>stepT E fz ops u i st λbu=>Wq E fz ops Q q bu u
 | .ld i q r,st,u=>(stepT E fz ops u i st λbu=>Wq E fz ops Q q bu u)/\Wq E fz ops Q r st u
 | .alt i q r,st,u=>(JJ E fz ops i st u λbu u'=>Wq E fz ops Q q bu u')/\Wq E fz ops Q r st u
 | .done,_,_=>True
def cG:Code->Option Nat
 | .region id _ _=>some id
 | .seq a b=>match cG a with|some i=>some i|none=>cG b
 | .cond _ a b=>match cG a with|some i=>some i|none=>cG b
 | .block _ a=>cG a
 | .loop a=>cG a
 | .scope a=>cG a
 | .rangeFunc _ _ a b=>match cG a with|some i=>some i|none=>cG b
 |_=>none
def writes:Code->List Nat
 | .region _ ops _=>ops.toList.filterMap (·.dst)
 | .seq a b=>writes a++writes b
 | .cond _ a b=>writes a++writes b
 | .block _ a=>writes a
 | .loop a=>writes a
 | .scope a=>writes a
 |_=>[]
def SZ(c:Cut)(J:Tup c.live->UW->Prop)(st:St)(w:UW):Prop:=
 bif jo st c.cB then(match eJ st c.live with
  |some s=>J s w
  |none=>False)else False
def IA(c:Cut)(k:Nat):Bool:=
 (c.live.any λx=>match x with|(t,.box _)=>Nat.beq t k|_=>false)||c.cB.any λx=>Nat.beq x.1 k
def freeze(fz:List Nat)(D:List (Nat×Nat))(c:Cut):List Nat:=
 fz++(D.map (·.1)).filter λk=> !IA c k
def qR(next:St->UW->Prop)(Q:Exit->St->UW->Prop):Exit->St->UW->Prop
 | .normal,st,w=>next st w
 |e,st,w=>Q e st w
def vu(id:Nat)(Q:Exit->St->UW->Prop):Exit->St->UW->Prop
 | .exit i,st,w=>bif Nat.beq i id then Q .normal st w else Q (.exit i) st w
 |e,st,w=>Q e st w
def jJ(fz:List Nat)(D:List (Nat×Nat))(c:Cut):Bool:=
 (c.live.all λx=>match x with|(t,.box ks)=> !bA fz t&&Nat.blt t 65536&&Nat.ble ks.length 65536|(t,_)=>Nat.blt t 65536&& !jL D t)&&c.cB.all λx=> !bA fz x.1&&Nat.blt x.1 65536&&di D x.1 x.2
def fR:Code->List Nat
 | .exit i=>[i]
 | .seq a b=>fR a++fR b
 | .cond _ a b=>fR a++fR b
 | .block id a=>(fR a).filter λi=> !Nat.beq i id
 | .loop a=>fR a
 | .scope a=>fR a
 | .rangeFunc _ _ _ b=>fR b
 |_=>[]
def fx:Code->Bool
 | .ret=>true
 | .seq a b=>fx a||fx b
 | .cond _ a b=>fx a||fx b
 | .block _ a=>fx a
 | .loop a=>fx a
 | .scope a=>fx a
 | .rangeFunc _ _ _ b=>fx b
 |_=>false
def xB:List Nat->List Nat
 |[]=>[]
 |x::l=>bif bA l x then xB l else x::xB l
def yw:List (Nat×Prop)->Nat->Prop
 |[],_=>False
 |(k,A)::l,i=>bif Nat.beq k i then A else yw l i
def PK(p:Option Code)(A B:Prop)(l:List (Nat×Prop)):Prop:=
 match p with
 |none=>A
 |some .ret=>B
 |some (.exit i)=>yw l i
 |_=>False
def PA(K:St->UW->Prop):Exit->St->UW->Prop
 | .normal,st,u=>K st u
 |_,_,_=>False
def Hd(R:Option Code->UW->Prop):Exit->St->UW->Prop
 | .normal,_,u=>R none u
 | .ret,_,u=>R (some .ret) u
 | .exit i,_,u=>R (some (.exit i)) u
 |_,_,_=>False
def wL(σ:Fr):Fr:=λt=>match σ t with| .complex _ _ _=>au|v=>v
def tb(σ:Fr):List Nat->List Value->Fr
 |p::ps,v::vs=>tb (iz σ p v) ps vs
 |_,_=>σ
def W(E:Env):List Nat->Code->(Exit->St->UW->Prop)->St->UW->Prop
 |_,.skip,Q,st,w=>Q .normal st w
 |_,.ret,Q,st,w=>Q .ret st w
 |_,.exit i,Q,st,w=>Q (.exit i) st w
 |fz,.region _ ops false,Q,st,w=>Wl E fz ops (Q .normal) ops.toList st w
 |fz,.region id ops true,Q,st,w=>bif E.P.follows .mixedOrders then(bif Ue E.cU id then(match eI ops with
  |some p=>Wq E fz ops (Q .normal) p st w
  |none=>False)else match oD ops with
  |some p=>Wd E fz ops w (Q .normal) p st w
  |none=>False)else False
 |fz,.seq a b,Q,st,w=>match(cG b).bind (look E.gH)with
  |none=>W E fz a (qR (λbu w'=>W E fz b Q bu w') Q) st w
  |some l=>bif jJ fz st.D l then cw (λJ=>W E (freeze fz st.D l) a (qR (SZ l J) Q) st w) (λs w'=>W E fz b Q (mix st (writes a) l s) w')else False
 |fz,.cond c a b,Q,st,w=>match ev st.σ c with
  | .bool t=>ae t (W E fz a Q st w) (W E fz b Q st w)
  |_=>False
 |fz,.block id a,Q,st,w=>W E fz a (vu id Q) st w
 |fz,.loop a,Q,st,w=>match(cG a).bind (look E.loops)with
  |none=>False
  |some l=>bif jJ fz st.D l then SZ l (aj λnext s w'=>W E (freeze fz st.D l) a (qR (SZ l next) Q) (mix st (writes a) l s) w') st w else False
 |_,.rangeFunc f ps assign body,Q,st,w=>match look E.kU (ps.toList.headD 0)with
  |none=>False
  |some ts=>bif Nat.beq ts.length ps.toList.length then
    Sd E.P (ev st.σ f) (λvs R u=>Iw E.P ts λfu=>vs=fu/\W E [] assign (PA λdb u1=>W E [] body (Hd R) db u1) ⟨tb (wL st.σ) ps.toList fu,[]⟩ u)
     (λp u=>PK p (Q .normal st u) (bif fx body then Q .ret st u else False) ((xB (fR body)).map λi=>(i,Q (.exit i) st u))) w
   else False
 |_,_,_,_,_=>False
def Gh(args:List Value):Fr:=λt=>(args[t]?).getD undef
def rH(P:Program)(st:St)(w:UW):List ResultVar->(List Value->Prop)->Prop
 |[],F=>F []
 | .tmp t::l,F=>bif plain (st.σ t)then rH P st w l λvs=>F (st.σ t::vs)else False
 | .cell a t::l,F=>match kinds P t with
   |none=>False
   |some ks=>match st.σ a with
    | .complex .f64 k off=>match bY st.D k with
      |some m=>bif Nat.ble (off+ks.length) m&&dy (uP st.σ k off ks.length)then rH P st w l λvs=>F (CA (bG P t) (uP st.σ k off ks.length)::vs)else False
      |none=>False
    |v=>cX v λb off=>ZR ks λus=>rd w.heap b off ks.length=some us/\rH P st w l λvs=>F (CA (bG P t) us::vs)
def Lt(R:Value->UW->Prop)(w:UW):List Value->Prop
 |[v]=>R v w
 |vs=>R (.tuple vs.toArray) w
def agO(P:Program)(rs:List ResultVar)(R:Value->UW->Prop):Exit->St->UW->Prop
 | .ret,st,w=>rH P st w rs (Lt R w)
 | .normal,st,w=>rH P st w rs (Lt R w)
 |_,_,_=>False
def WF(P:Program)(n:Nat)(cU:List Nat)(loops gH:List (Nat×Cut))(kU:List (Nat×List TypeId))(c:Code)(rs:List ResultVar)(args:List Value)(w:UW)(R:Value->UW->Prop):Prop:=
 W ⟨P,n,cU,loops,gH,kU⟩ [] c (agO P rs R) ⟨Gh args,[]⟩ w
theorem Below.Oj{B:Nat}{w w':World}(h:Below B w w')(hB:w.heap.size<=B)(F:Nat->Prop):Mod F w w':=
 ⟨h.os,h.tape,h.output,h.size,λb hb _=>h.block b (by omega)⟩
theorem Mod.trans{F:Nat->Prop}{a b c:World}(h:Mod F a b)(k:Mod F b c):Mod F a c:=
 ⟨k.os.trans h.os,k.tape.trans h.tape,k.output.trans h.output,Nat.le_trans h.size k.size,
  λi hi hn=>(k.bV i (Nat.lt_of_lt_of_le hi h.size) hn).trans (h.bV i hi hn)⟩
structure Ctx where
 n:Nat
 w0:World
 w1:World
 F:Nat->Prop
 ro:Option (Nat×Loop):=none
structure Hid(u:UW)(wa:World)(b:Nat)(o:Obj):Prop where
 at_:wa.heap[b]?=some o
 other:o.isCells=false
 eN:¬u.eN b
 mask:b<u.heap.size->u.heap[b]?=some cj
theorem Hid.world{u u':UW}{wa wb:World}{F:Nat->Prop}{b:Nat}{o:Obj}(h:Hid u wa b o)(hF:∀b,F b->u.eN b)(hm:Mod F wa wb)(Qe:Mod F u.toWorld u'.toWorld)
  (MC:∀b,u.heap.size<=b->b<wa.heap.size->b<u'.heap.size->u'.heap[b]?=some cj) (hold:∀b,u'.eN b->b<wa.heap.size->u.eN b):Hid u' wb b o:=by
 have bB:b<wa.heap.size:=(Array.getElem?_eq_some_iff.1 h.at_).1
 refine⟨(hm.bV _ bB (λhf=>h.eN (hF _ hf))).trans h.at_,h.other,λhp=>h.eN (hold _ hp bB),λhl=>?_⟩
 by_cases hu:b<u.heap.size
 ·rw[Qe.bV _ hu (λhf=>h.eN (hF _ hf))];exact h.mask hu
 ·exact MC _ (by omega) bB hl
structure Marks(C:Ctx)(ds:List Deferred)(wa:World)(u:UW):Prop where
 each:∀d∈ds,∃r,d={target:=.collected r,args:= #[]}/\C.w1.heap.size<=r/\Hid u wa r (.deferred (some []))
 nodup:ds.Nodup
structure Inv(C:Ctx)(a:Act)(wa:World)(st:St)(u:UW)(θ:Nat->Nat):Prop where
 size:a.tmps.size=C.n
 gV:C.n<=65536
 defers:Marks C a.defers wa u
 round:∀l r,C.ro=some (l,r)->Hid u wa l (.loop r)
 gC:∀t,t<C.n->R θ (st.σ t) (a.tmps.getD t undef)
 below:vC u.toWorld wa
 boxes:∀k m,(k,m)∈st.D->m<=65536/\∃c T,wa.heap[θ k]?=some (.cells c T (0,0))/\c.size=m/\(∀j,j<m->R θ (st.σ (gx k j)) (c.getD j undef))/\¬u.eN (θ k)/\C.w1.heap.size<=θ k/\(θ k<u.heap.size->u.heap[θ k]?=some cj)
 inj:∀k m k' m',(k,m)∈st.D->(k',m')∈st.D->θ k=θ k'->k=k'/\m=m'
 ia:∀t,t<C.n->∀k o,st.σ t=cY k o->∃m,(k,m)∈st.D
 fA:∀k m,(k,m)∈st.D->∀j,j<m->∀k' o,st.σ (gx k j)≠cY k' o
 nh:∀b,u.eN b->b<wa.heap.size
 mod:Mod C.F C.w1 wa
 od:∀b,u.eN b->b<C.w1.heap.size->C.F b
 umod:Mod C.F C.w0 u.toWorld
 GM:C.w0.heap.size<=C.w1.heap.size
 xv:∀b,C.w0.heap.size<=b->b<C.w1.heap.size->b<u.heap.size->u.heap[b]?=some cj
 F0:∀b,C.F b->b<C.w0.heap.size
theorem gI{k j k' j':Nat}(hj:j<65536)(MB:j'<65536)(h:gx k j=gx k' j'):k=k'/\j=j':=by
 unfold gx at h;omega
theorem h_(k j:Nat):65536<=gx k j:=by unfold gx;omega
theorem fD{σ:Fr}{k:Nat}:∀(vs:List Value) (o t:Nat),t<65536->pH σ k o vs t=σ t:=by
 intro vs
 induction vs generalizing σ with
 |nil=>intro o t _;rfl
 |cons v vs ih=>
  intro o t ht
  simp only[pH]
  rw[ih _ _ ht,bH]
  have:=h_ k o;omega
theorem cO{σ:Fr}{k:Nat}:∀(vs:List Value) (o i:Nat),(∀j,o<=j->j<o+vs.length->i≠gx k j)->pH σ k o vs i=σ i:=by
 intro vs
 induction vs generalizing σ with
 |nil=>intro o i _;rfl
 |cons v vs ih=>
  intro o i h
  simp only[pH]
  rw[ih _ _ (λj h1 h2=>h j (by omega) (by simp;omega)),bH]
  exact h o (by omega) (by simp)
theorem rm{σ:Fr}{k:Nat}:∀(vs:List Value) (o j:Nat),j<vs.length->o+vs.length<=65536->pH σ k o vs (gx k (o+j))=vs.getD j undef:=by
 intro vs
 induction vs generalizing σ with
 |nil=>intro o j h;simp at h
 |cons v vs ih=>
  intro o j h hl
  simp only[pH]
  simp only[List.length_cons]at h hl
  cases j with
  |zero=>
   rw[cO]
   ·simp
   ·intro i h1 h2 he
    have:=(gI (by omega) (by omega) he).2
    omega
  |succ j=>
   have:=ih (σ:=iz σ (gx k o) v) (o+1) j (by omega) (by omega)
   rw[show o+(j+1)=o+1+j from by omega,this]
   simp
structure al9(n:Nat)(s t:St):Prop where
 slot:∀i,i<n->s.σ i=au\/s.σ i=t.σ i
 D:∀k m,(k,m)∈s.D->(k,m)∈t.D/\∀j,j<m->s.σ (gx k j)=au\/s.σ (gx k j)=t.σ (gx k j)
 ia:∀i,i<n->∀k o,s.σ i=cY k o->(∃m,(k,m)∈t.D)->∃m,(k,m)∈s.D
theorem Gl(θ:Nat->Nat)(r:Value):R θ au r:=trivial
theorem Inv.zU{C:Ctx}{a:Act}{wa:World}{s t:St}{u:UW}{θ:Nat->Nat}(h:Inv C a wa t u θ)(hw:al9 C.n s t):Inv C a wa s u θ where
 size:=h.size
 gV:=h.gV
 defers:=h.defers
 round:=h.round
 gC:=λi hi=>by
  rcases hw.slot i hi with e|e
  ·rw[e];exact Gl _ _
  ·rw[e];exact h.gC i hi
 below:=h.below
 boxes:=λk m hk=>by
  obtain⟨eQ,hg⟩:=hw.D k m hk
  obtain⟨hm,c,T,h1,h2,h3,h4,h5⟩:=h.boxes k m eQ
  refine⟨hm,c,T,h1,h2,λj hj=>?_,h4,h5⟩
  rcases hg j hj with e|e
  ·rw[e];exact Gl _ _
  ·rw[e];exact h3 j hj
 inj:=λk m k' m' h1 h2=>h.inj k m k' m' (hw.D k m h1).1 (hw.D k' m' h2).1
 ia:=λi hi k o e=>by
  refine hw.ia i hi k o e ?_
  rcases hw.slot i hi with e'|e'
  ·rw[e]at e';cases e'
  ·exact h.ia i hi k o (e'▸e)
 fA:=λk m hk j hj k' o e=>by
  rcases(hw.D k m hk).2 j hj with e'|e'
  ·rw[e]at e';cases e'
  ·exact h.fA k m (hw.D k m hk).1 j hj k' o (e'▸e)
 nh:=h.nh
 mod:=h.mod
 od:=h.od
 umod:=h.umod
 GM:=h.GM
 xv:=h.xv
 F0:=h.F0
theorem tO(a:Array Value)(d t:Nat)(r:Value)(h:d<a.size):(a.setIfInBounds d r).getD t undef=if t=d then r else a.getD t undef:=by
 by_cases e:t=d
 ·subst e;simp[h]
 ·rw[if_neg e];simp[Ne.symm e]
theorem qX(a:Act)(d:Option Nat)(r:Value):(a.put d r).tmps.size=a.tmps.size:=by cases d<;>simp[Act.put]
theorem put_defers(a:Act)(d:Option Nat)(r:Value):(a.put d r).defers=a.defers:=by cases d<;>rfl
theorem Inv.fin{C:Ctx}{a:Act}{wa:World}{st:St}{u:UW}{θ:Nat->Nat}(h:Inv C a wa st u θ)(d:Option Nat)(hd:∀t,d=some t->t<C.n){v r:Value}(hr:R θ v r)
  (hf:∀k o,v=cY k o->∃m,(k,m)∈st.D):Inv C (a.put d r) wa {st with σ:=put st.σ d v} u θ where
 size:=by rw[qX];exact h.size
 gV:=h.gV
 defers:=by rw[put_defers];exact h.defers
 round:=h.round
 gC:=λt ht=>by
  cases d with
  |none=>exact h.gC t ht
  |some d=>
   simp only[Act.put,put]
   rw[tO _ _ _ _ (by rw[h.size];exact hd d rfl)]
   by_cases e:t=d
   ·subst e;simp[hr]
   ·rw[if_neg e,bH _ _ e];exact h.gC t ht
 below:=h.below
 boxes:=λk m hk=>by
  obtain⟨hm,c,T,h1,h2,h3,h4,h5⟩:=h.boxes k m hk
  refine⟨hm,c,T,h1,h2,λj hj=>?_,h4,h5⟩
  cases d with
  |none=>exact h3 j hj
  |some d=>
   simp only[put]
   have:=hd d rfl;have:=h.gV;have:=h_ k j
   rw[bH _ _ (by omega)]
   exact h3 j hj
 inj:=h.inj
 ia:=λt ht k o e=>by
  cases d with
  |none=>exact h.ia t ht k o e
  |some d=>
   simp only[put]at e
   by_cases e':t=d
   ·subst e';rw[dL]at e;exact hf k o e
   ·rw[bH _ _ e']at e;exact h.ia t ht k o e
 fA:=λk m hk j hj k' o e=>by
  cases d with
  |none=>exact h.fA k m hk j hj k' o e
  |some d=>
   simp only[put]at e
   have:=hd d rfl;have:=h.gV;have:=h_ k j
   rw[bH _ _ (by omega)]at e
   exact h.fA k m hk j hj k' o e
 nh:=h.nh
 mod:=h.mod
 od:=h.od
 umod:=h.umod
 GM:=h.GM
 xv:=h.xv
 F0:=h.F0
theorem iI{v:Value}(h:plain v=true)(k o:Nat):v≠cY k o:=by rintro rfl;simp[plain]at h
theorem Inv.aZ{C:Ctx}{a:Act}{wa:World}{st:St}{u:UW}{θ:Nat->Nat}(h:Inv C a wa st u θ)(d:Option Nat)(hd:∀t,d=some t->t<C.n){v:Value}(hp:plain v=true):
  Inv C (a.put d v) wa {st with σ:=put st.σ d v} u θ:=
 h.fin d hd (mK hp) (λk o e=>absurd e (iI hp k o))
theorem Inv.world{C:Ctx}{a:Act}{wa:World}{st:St}{u:UW}{θ:Nat->Nat}(h:Inv C a wa st u θ){wb:World}{u':UW}{F:Nat->Prop}(hF:∀b,F b->u.eN b)
  (hm:Mod F wa wb) (hb:vC u'.toWorld wb) (Qe:Mod F u.toWorld u'.toWorld)
  (MC:∀b,u.heap.size<=b->b<wa.heap.size->b<u'.heap.size->u'.heap[b]?=some cj)
  (hp:∀b,u'.eN b->b<wb.heap.size) (hold:∀b,u'.eN b->b<wa.heap.size->u.eN b):Inv C a wb st u' θ where
 size:=h.size
 gV:=h.gV
 defers:=⟨λd hd=>let ⟨r,e,hr,hh⟩:=h.defers.each d hd;⟨r,e,hr,hh.world hF hm Qe MC hold⟩,h.defers.nodup⟩
 round:=λl r e=>(h.round l r e).world hF hm Qe MC hold
 gC:=h.gC
 below:=hb
 boxes:=λk m hk=>by
  obtain⟨zP,c,T,h1,h2,h3,h4,h5,h6⟩:=h.boxes k m hk
  have bB:θ k<wa.heap.size:=(Array.getElem?_eq_some_iff.1 h1).1
  refine⟨zP,c,T,(hm.bV _ bB (λhf=>h4 (hF _ hf))).trans h1,h2,h3,λIb=>h4 (hold _ Ib bB),h5,λhl=>?_⟩
  by_cases hu:θ k<u.heap.size
  ·rw[Qe.bV _ hu (λhf=>h4 (hF _ hf))];exact h6 hu
  ·exact MC _ (by omega) bB hl
 inj:=h.inj
 ia:=h.ia
 fA:=h.fA
 nh:=hp
 mod:=by
  refine⟨hm.os.trans h.mod.os,hm.tape.trans h.mod.tape,hm.output.trans h.mod.output,Nat.le_trans h.mod.size hm.size,λb hb hn=>?_⟩
  have bB:b<wa.heap.size:=Nat.lt_of_lt_of_le hb h.mod.size
  rw[hm.bV b bB (λhf=>hn (h.od b (hF _ hf) hb))]
  exact h.mod.bV b hb hn
 od:=λb hb bB=>h.od b (hold b hb (Nat.lt_of_lt_of_le bB h.mod.size)) bB
 umod:=by
  refine⟨Qe.os.trans h.umod.os,Qe.tape.trans h.umod.tape,Qe.output.trans h.umod.output,Nat.le_trans h.umod.size Qe.size,λb hb hn=>?_⟩
  have bB:b<u.heap.size:=Nat.lt_of_lt_of_le hb h.umod.size
  rw[Qe.bV b bB (λhf=>hn (h.od b (hF _ hf) (Nat.lt_of_lt_of_le hb h.GM)))]
  exact h.umod.bV b hb hn
 GM:=h.GM
 xv:=λb h1 h2 h3=>by
  by_cases hu:b<u.heap.size
  ·by_cases hf:F b
   ·have:=h.xv b h1 h2 hu
    have hFb:=h.od b (hF _ hf) h2
    exact absurd (h.F0 b hFb) (by omega)
   ·rw[Qe.bV b hu hf];exact h.xv b h1 h2 hu
  ·exact MC b (by omega) (Nat.lt_of_lt_of_le h2 h.mod.size) h3
 F0:=h.F0
theorem Mod.refl(F:Nat->Prop)(w:World):Mod F w w:=⟨rfl,rfl,rfl,Nat.le_refl _,λ_ _ _=>rfl⟩
theorem vC.refl(w:World):vC w w:=⟨rfl,rfl,rfl,Nat.le_refl _,λ_ _=>.inl rfl⟩
theorem Inv.drew{C:Ctx}{a:Act}{wa:World}{st:St}{u:UW}{θ:Nat->Nat}(h:Inv C a wa st u θ):Inv C a {wa with drawn:=wa.drawn+1} st u θ:=
 h.world (u':=u) (F:=λ_=>False) (λ_ hf=>hf.elim) ⟨rfl,rfl,rfl,Nat.le_refl _,λ_ _ _=>rfl⟩ ⟨h.below.os,h.below.tape,h.below.output,h.below.size,h.below.block⟩ (Mod.refl _ _)
  (λb h1 _ h3=>by omega) h.nh (λ_ hb _=>hb)
def grow(u:World)(wa:World)(o:Obj):World:={wa with heap:=u.heap++Array.replicate (wa.heap.size-u.heap.size) cj++ #[o]}
theorem qe{u wa:World}{o:Obj}(h:u.heap.size<=wa.heap.size):(grow u wa o).heap.size=wa.heap.size+1:=by simp[grow];omega
theorem yN{u wa:World}{o:Obj}{b:Nat}(h:b<u.heap.size):(grow u wa o).heap[b]?=u.heap[b]?:=by
 simp only[grow]
 rw[Array.getElem?_append_left (by simp;omega),Array.getElem?_append_left h]
theorem FB{u wa:World}{o:Obj}{b:Nat}(h1:u.heap.size<=b)(h2:b<wa.heap.size):(grow u wa o).heap[b]?=some cj:=by
 simp only[grow]
 rw[Array.getElem?_append_left (by simp;omega),Array.getElem?_append_right h1,Array.getElem?_replicate,if_pos (by omega)]
theorem FA{u wa:World}{o:Obj}(h:u.heap.size<=wa.heap.size):(grow u wa o).heap[wa.heap.size]?=some o:=by
 simp only[grow]
 rw[Array.getElem?_append_right (by simp;omega)]
 have e:wa.heap.size-(u.heap++Array.replicate (wa.heap.size-u.heap.size) cj).size=0:=by simp;omega
 rw[e];rfl
theorem Inv.born{C:Ctx}{a:Act}{wa:World}{st:St}{u:UW}{θ:Nat->Nat}(h:Inv C a wa st u θ)(o:Obj):
  ∃w',pG u.toWorld w' wa.heap.size o/\Inv C a (wa.alloc o) st (u.born wa.heap.size w') θ:=by
 have hB:Below wa.heap.size wa (wa.alloc o):=(Below.refl _ _).alloc (Nat.le_refl _) o
 have nG:(wa.alloc o).heap[wa.heap.size]?=some o:=by
  show(wa.heap.push o)[wa.heap.size]?=_
  simp
 have Uk:=h.below.size
 have eg:(wa.alloc o).heap.size=wa.heap.size+1:=by simp
 refine⟨grow u.toWorld wa o,⟨⟨h.below.os,h.below.tape,h.below.output,by rw[qe Uk];omega,λk hk=>yN hk⟩,FA Uk,Uk⟩,?_⟩
 refine h.world (F:=λ_=>False) (λ_ hf=>hf.elim) (Below.Oj hB (Nat.le_refl _) _) ?_ ?_ ?_ ?_ ?_
 ·refine⟨rfl,rfl,rfl,?_,λb hb=>?_⟩
  ·show(grow u.toWorld wa o).heap.size<=_
   rw[qe Uk,eg];omega
  ·have jO:b<(grow u.toWorld wa o).heap.size:=hb
   rw[qe Uk]at jO
   show(grow u.toWorld wa o).heap[b]?=_\/(grow u.toWorld wa o).heap[b]?=_
   by_cases h1:b<u.heap.size
   ·rw[yN h1,hB.block b (by omega)];exact h.below.block b h1
   ·by_cases h2:b<wa.heap.size
    ·exact .inr (FB (by omega) h2)
    ·obtain rfl:b=wa.heap.size:=by omega
     exact .inl (by rw[FA Uk,nG])
 ·exact⟨h.below.os,h.below.tape,h.below.output,by show _<=(grow u.toWorld wa o).heap.size;rw[qe Uk];omega,λb hb _=>yN hb⟩
 ·intro b h1 h2 _
  exact FB h1 h2
 ·intro b hb
  rcases hb with hb|rfl
  ·exact Nat.lt_of_lt_of_le (h.nh b hb) hB.size
  ·omega
 ·intro b hb bB
  rcases hb with hb|rfl
  ·exact hb
  ·omega
structure bQ(n:Nat)(fz ws:List Nat)(s t:St):Prop where
 slot:∀i,i<n->i∉ws->t.σ i=s.σ i
 D:∀x,x∈s.D->x∈t.D
 fz:∀k,k∈fz->∀m,(k,m)∈s.D->∀j,j<m->t.σ (gx k j)=s.σ (gx k j)
theorem bQ.refl(n:Nat)(fz ws:List Nat)(s:St):bQ n fz ws s s:=⟨λ_ _ _=>rfl,λ_ h=>h,λ_ _ _ _ _ _=>rfl⟩
theorem bQ.trans{n:Nat}{fz ws Xz:List Nat}{a b c:St}(h:bQ n fz ws a b)(k:bQ n fz Xz b c):bQ n fz (ws++Xz) a c where
 slot:=λi hi hn=>by
  simp only[List.mem_append,not_or]at hn
  rw[k.slot i hi hn.2,h.slot i hi hn.1]
 D:=λx hx=>k.D x (h.D x hx)
 fz:=λx hx m hm j hj=>by rw[k.fz x hx m (h.D _ hm) j hj,h.fz x hx m hm j hj]
theorem bQ.mono{n:Nat}{fz ws ZO Xz:List Nat}{a b:St}(h:bQ n fz ws a b)(h1:∀x,x∈ZO->x∈fz)(h2:∀x,x∈ws->x∈Xz):bQ n ZO Xz a b:=
 ⟨λi hi hn=>h.slot i hi (λhx=>hn (h2 _ hx)),h.D,λk hk=>h.fz k (h1 _ hk)⟩
theorem bQ.fin{n:Nat}{fz:List Nat}(st:St)(d:Option Nat)(hd:∀t,d=some t->t<n)(hn:n<=65536)(v:Value):bQ n fz d.toList st {st with σ:=put st.σ d v} where
 slot:=λi _ Mw=>by
  cases d with
  |none=>rfl
  |some d=>simp only[Option.toList,List.mem_singleton]at Mw;simp only[put];rw[bH _ _ Mw]
 D:=λ_ h=>h
 fz:=λk _ m _ j _=>by
  cases d with
  |none=>rfl
  |some d=>
   simp only[put]
   have:=hd d rfl;have:=h_ k j
   rw[bH _ _ (by omega)]
theorem iQ(b o i:Nat):(⟨b,o,none⟩:Addr).add i=⟨b,o+i,none⟩:=by
 unfold Addr.add;split
 ·subst_vars;rfl
 ·rfl
theorem Dr{θ θ':Nat->Nat}{v r:Value}(h:R θ v r)(hf:∀k o,v=cY k o->θ' k=θ k):R θ' v r:=by
 unfold R at*
 split
 ·rename_i k o;rw[hf k o rfl];exact h
 ·trivial
 ·rename_i h1 h2;split at h
  ·exact absurd rfl (h1 _ _)
  ·exact absurd rfl (h2 _ _)
  ·exact h
def gU(w:World)(b:Nat)(o:Obj):World:={w with heap:=w.heap.setIfInBounds b o}
theorem tc{w:World}{b:Nat}{o:Obj}(h:b<w.heap.size):(gU w b o).heap[b]?=some o:=by simp[gU,h]
theorem jn{w:World}{b c:Nat}{o:Obj}(h:c≠b):(gU w b o).heap[c]?=w.heap[c]?:=by simp[gU,Ne.symm h]
theorem dN{w:World}{b:Nat}{o:Obj}:(gU w b o).heap.size=w.heap.size:=by simp[gU]
theorem sP:∀(vs:List Value) (c:Array Value) (o:Nat),(sN c o vs).size=c.size
 |[],_,_=>rfl
 |v::vs,c,o=>by simp[sN,sP vs]
theorem Jy:∀(vs:List Value) (c:Array Value) (o j:Nat),o+vs.length<=c.size->(sN c o vs).getD j undef=if o<=j/\j<o+vs.length then vs.getD (j-o) undef else c.getD j undef
 |[],c,o,j,_=>by
  rw[if_neg (by simp only[List.length_nil];omega)];rfl
 |v::vs,c,o,j,h=>by
  simp only[List.length_cons]at h
  simp only[sN]
  rw[Jy vs _ (o+1) j (by simp;omega),tO _ _ _ _ (by omega)]
  by_cases h1:j=o
  ·subst h1
   rw[if_neg (by omega),if_pos rfl,if_pos (by simp)]
   simp
  ·rw[if_neg h1]
   by_cases h2:o+1<=j/\j<o+1+vs.length
   ·rw[if_pos h2,if_pos (by simp;omega)]
    obtain⟨i,hi⟩:∃i,j-o=i+1:=⟨j-o-1,by omega⟩
    rw[hi,show j-(o+1)=i from by omega]
    simp
   ·rw[if_neg h2,if_neg (by simp;omega)]
theorem Dc{w:World}{b o:Nat}{c:Array Value}{T:TypeId}{f:Nat×Nat}(h:w.heap[b]?=some (.cells c T f)):w.cell? ⟨b,o,none⟩=c[o]?:=by
 simp[World.cell?,h]
theorem kH{P:Program}{w:World}{b o:Nat}{c:Array Value}{T:TypeId}{f:Nat×Nat}(h:w.heap[b]?=some (.cells c T f)):
  ∀(n i:Nat) (acc:Array Value),o+i+n<=c.size->(loadCellsFrom ⟨b,o,none⟩ i n acc).run P w=.ok (acc++((c.toList.drop (o+i)).take n).toArray) w
 |0,i,acc,_=>by simp[loadCellsFrom]
 |n+1,i,acc,hl=>by
  have bB:o+i<c.size:=by omega
  simp only[loadCellsFrom,Sem.run_bind,run_load,iQ,Dc h,Array.getElem?_eq_getElem bB,Result.andThen_ok]
  rw[kH h n (i+1) _ (by omega)]
  have rV:o+i<c.toList.length:=by simpa using bB
  rw[List.drop_eq_getElem_cons rV]
  simp[Nat.add_assoc]
theorem kX{P:Program}{w:World}{b o n:Nat}{c:Array Value}{T:TypeId}{f:Nat×Nat}(h:w.heap[b]?=some (.cells c T f))(hl:o+n<=c.size):
  (loadCells ⟨b,o,none⟩ n).run P w=.ok ((c.toList.drop o).take n).toArray w:=by
 unfold loadCells
 rw[kH h n 0 #[] (by omega)]
 simp
theorem LZ{v:Value}(h:one v=true):v.oneCell'=true:=by cases v<;>simp_all [one,Value.oneCell']
theorem LN{w:World}{b:Nat}{o:Obj}(h:w.heap[b]?=some o):gU w b o=w:=by
 obtain⟨heap,tape,drawn,os,output⟩:=w
 simp only[gU]
 congr 1
 apply Array.ext_getElem?
 intro k
 rw[Array.getElem?_setIfInBounds]
 split
 ·rename_i e;subst e
  have hb:=(Array.getElem?_eq_some_iff.1 h).1
  rw[if_pos hb];exact h.symm
 ·rfl
theorem Cc{w:World}{b o:Nat}{c:Array Value}{T:TypeId}{f:Nat×Nat}(v:Value)(h:w.heap[b]?=some (.cells c T f)):
  w.setCell ⟨b,o,none⟩ v=gU w b (.cells (c.setIfInBounds o v) T f):=by
 obtain⟨heap,tape,drawn,os,output⟩:=w
 simp only[gU,World.setCell]
 congr 1
 apply Array.ext_getElem?
 intro k
 rw[Array.getElem?_setIfInBounds,Array.getElem?_modify]
 split
 ·rename_i e;subst e
  have h':heap[b]?=some (.cells c T f):=h
  have hb:=(Array.getElem?_eq_some_iff.1 h').1
  rw[h']
  simp[hb]
 ·rfl
theorem jF{P:Program}{b o:Nat}{T:TypeId}:∀(vs:List Value) (i:Nat) (w:World) (c:Array Value),w.heap[b]?=some (.cells c T (0,0))->o+i+vs.length<=c.size->(∀v∈vs,one v=true)->
  (storeCells ⟨b,o,none⟩ vs i).run P w=.ok () (gU w b (.cells (sN c (o+i) vs) T (0,0)))
 |[],i,w,c,h,_,_=>by
  simp only[storeCells,sN,Sem.run_pure]
  rw[LN h]
 |v::vs,i,w,c,h,hl,ho=>by
  have hb:b<w.heap.size:=(Array.getElem?_eq_some_iff.1 h).1
  simp only[List.length_cons]at hl
  have bB:o+i<c.size:=by omega
  have hfr:w.frozen? ⟨b,o+i,none⟩=false:=by simp[World.frozen?,h]
  have lT:w.cell? ⟨b,o+i,none⟩=some c[o+i]:=by rw[Dc h,Array.getElem?_eq_getElem bB]
  simp only[storeCells,Sem.run_bind,iQ,run_store _ _ _ _ _ (LZ (ho v (by simp))),lT,hfr]
  simp only[Bool.false_eq_true,if_false,Result.andThen_ok]
  rw[Cc v h]
  rw[jF vs (i+1) _ (c.setIfInBounds (o+i) v) (tc hb) (by simp;omega) (λx hx=>ho x (by simp[hx]))]
  congr 1
  simp only[gU,sN,Array.setIfInBounds_setIfInBounds]
  rfl
end Go.az
namespace Go.az
open Go.RowKit
theorem lY{vs:List Value}(h:dy vs=true):∀v∈vs,plain v=true/\one v=true:=by
 intro v hv
 have:=List.all_eq_true.1 h v hv
 simpa using this
theorem Inv.YK{C:Ctx}{a:Act}{wa:World}{st:St}{u:UW}{θ:Nat->Nat}(h:Inv C a wa st u θ){k:Nat}{cs:Array Value}{T:TypeId}(hk:k<C.n)(alm:∀m,(k,m)∉st.D)
  (hp:∀v∈cs.toList,plain v=true) (eg:cs.size<=65536):
  Inv C (a.put (some k) (.pointer (some ⟨wa.heap.size,0,none⟩))) (wa.alloc (.cells cs T (0,0))) {st with σ:=pH (iz st.σ k (cY k 0)) k 0 cs.toList,D:=(k,cs.size)::st.D} u
   (λi=>if i=k then wa.heap.size else θ i):=by
 have hB:Below wa.heap.size wa (wa.alloc (.cells cs T (0,0))):=(Below.refl _ _).alloc (Nat.le_refl _) _
 have nG:(wa.alloc (.cells cs T (0,0))).heap[wa.heap.size]?=some (.cells cs T (0,0)):=by
  show(wa.heap.push _)[wa.heap.size]?=_
  simp
 have hn:=h.gV
 have hold:∀k' m,(k',m)∈st.D->k'≠k:=λk' m hm e=>alm m (e▸hm)
 have bB:∀k' m,(k',m)∈st.D->θ k'<wa.heap.size:=λk' m hm=>by
  obtain⟨_,c,T',h1,_⟩:=h.boxes k' m hm
  exact(Array.getElem?_eq_some_iff.1 h1).1
 have Ft:∀k' m,(k',m)∈st.D->∀j,j<m->pH (iz st.σ k (cY k 0)) k 0 cs.toList (gx k' j)=st.σ (gx k' j):=λk' m hm j hj=>by
  have nv:=(h.boxes k' m hm).1
  rw[cO,bH]
  ·have:=h_ k' j;omega
  ·intro i _ hi e
   have:=(gI (by omega) (by simp at hi;omega) e).1
   exact hold k' m hm this
 have Fo:∀{b:Nat} {o:Obj},Hid u wa b o->Hid u (wa.alloc (.cells cs T (0,0))) b o:=λhh=>
  ⟨(hB.block _ (Array.getElem?_eq_some_iff.1 hh.at_).1).trans hh.at_,hh.other,hh.eN,hh.mask⟩
 refine⟨?_,hn,?_,?_,?_,?_,?_,?_,?_,?_,?_,?_,h.od,h.umod,h.GM,h.xv,h.F0⟩
 ·rw[qX];exact h.size
 ·rw[put_defers];exact⟨λd hd=>let ⟨r,e,hr,hh⟩:=h.defers.each d hd;⟨r,e,hr,Fo hh⟩,h.defers.nodup⟩
 ·exact λl r e=>Fo (h.round l r e)
 ·intro t ht
  simp only[Act.put]
  rw[tO _ _ _ _ (by rw[h.size];exact hk),fD _ _ _ (by omega)]
  by_cases e:t=k
  ·subst e;rw[if_pos rfl,dL];simp[R]
  ·rw[if_neg e,bH _ _ e]
   refine Dr (h.gC t ht) λk' o e'=>?_
   obtain⟨m,hm⟩:=h.ia t ht k' o e'
   simp[hold k' m hm]
 ·refine⟨h.below.os,h.below.tape,h.below.output,Nat.le_trans h.below.size hB.size,λb hb=>?_⟩
  rw[hB.block b (Nat.lt_of_lt_of_le hb h.below.size)]
  exact h.below.block b hb
 ·intro k' m hm
  simp only[List.mem_cons,Prod.mk.injEq]at hm
  rcases hm with⟨rfl,rfl⟩|hm
  ·refine⟨eg,cs,T,by simpa using nG,rfl,λj hj=>?_,?_,?_,?_⟩
   ·have hw:=rm (σ:=iz st.σ k' (cY k' 0)) (k:=k') cs.toList 0 j (by simpa using hj) (by simpa using eg)
    simp only[Nat.zero_add]at hw
    simp only
    rw[hw]
    have dv:cs.toList.getD j undef∈cs.toList:=by
     rw[List.getD_eq_getElem?_getD,List.getElem?_eq_getElem (by simpa using hj)]
     simp
    rw[gP (hp _ dv)]
    simp
   ·simp only[if_true]
    intro Ib
    have:=h.nh _ Ib;omega
   ·simp only[if_true];exact h.mod.size
   ·simp only[if_true];intro hl;have:=h.below.size;omega
  ·obtain⟨zP,c,T',h1,h2,h3,h4,h5,h6⟩:=h.boxes k' m hm
   simp only[if_neg (hold k' m hm)]
   refine⟨zP,c,T',(hB.block _ (bB k' m hm)).trans h1,h2,λj hj=>?_,h4,h5,h6⟩
   simp only[Ft k' m hm j hj]
   exact Dr (h3 j hj) λk'' o e=>absurd e (h.fA k' m hm j hj k'' o)
 ·intro k1 m1 k2 m2 h1 h2 e
  simp only[List.mem_cons,Prod.mk.injEq]at h1 h2
  rcases h1 with⟨rfl,rfl⟩|h1<;>rcases h2 with⟨rfl,rfl⟩|h2
  ·exact⟨rfl,rfl⟩
  ·simp only[if_true,if_neg (hold _ _ h2)]at e
   have:=bB _ _ h2;omega
  ·simp only[if_true,if_neg (hold _ _ h1)]at e
   have:=bB _ _ h1;omega
  ·simp only[if_neg (hold _ _ h1),if_neg (hold _ _ h2)]at e
   exact h.inj _ _ _ _ h1 h2 e
 ·intro t ht k' o e
  simp only at e
  rw[fD _ _ _ (by omega)]at e
  by_cases e':t=k
  ·subst e';rw[dL]at e
   simp only[Value.complex.injEq,true_and]at e
   exact⟨cs.size,by simp[e.1]⟩
  ·rw[bH _ _ e']at e
   obtain⟨m,hm⟩:=h.ia t ht k' o e
   exact⟨m,by simp[hm]⟩
 ·intro k1 m1 h1 j hj k' o e
  simp only[List.mem_cons,Prod.mk.injEq]at h1
  rcases h1 with⟨rfl,rfl⟩|h1
  ·have hw:=rm (σ:=iz st.σ k1 (cY k1 0)) (k:=k1) cs.toList 0 j (by simpa using hj) (by simpa using eg)
   simp only[Nat.zero_add]at hw
   simp only at e
   rw[hw]at e
   have dv:cs.toList.getD j undef∈cs.toList:=by
    rw[List.getD_eq_getElem?_getD,List.getElem?_eq_getElem (by simpa using hj)]
    simp
   exact iI (hp _ dv) k' o e
  ·simp only[Ft k1 m1 h1 j hj]at e
   exact h.fA k1 m1 h1 j hj k' o e
 ·intro b hb
  exact Nat.lt_of_lt_of_le (h.nh b hb) hB.size
 ·exact h.mod.trans (Below.Oj hB (Nat.le_refl _) _)
theorem Inv.acz{C:Ctx}{a:Act}{wa:World}{st:St}{u:UW}{θ:Nat->Nat}(h:Inv C a wa st u θ){k m o:Nat}{vs:List Value}(hk:(k,m)∈st.D)(hl:o+vs.length<=m)
  (hp:∀v∈vs,plain v=true):∃c T,wa.heap[θ k]?=some (.cells c T (0,0))/\c.size=m/\
   Inv C a (gU wa (θ k) (.cells (sN c o vs) T (0,0))) {st with σ:=pH st.σ k o vs} u θ:=by
 obtain⟨zP,c,T,h1,h2,h3,h4,h5,h6⟩:=h.boxes k m hk
 have bB:θ k<wa.heap.size:=(Array.getElem?_eq_some_iff.1 h1).1
 have hn:=h.gV
 have Ft:∀k' m',(k',m')∈st.D->k'≠k->∀j,j<m'->pH st.σ k o vs (gx k' j)=st.σ (gx k' j):=λk' m' hm bm j hj=>by
  have nv:=(h.boxes k' m' hm).1
  rw[cO]
  intro i _ hi e
  exact bm (gI (by omega) (by omega) e).1
 have Fo:∀{b:Nat} {ob:Obj},Hid u wa b ob->Hid u (gU wa (θ k) (.cells (sN c o vs) T (0,0))) b ob:=λ{b ob} hh=>by
  refine⟨?_,hh.other,hh.eN,hh.mask⟩
  rw[jn]
  ·exact hh.at_
  ·rintro rfl
   have:=hh.at_;rw[h1]at this;cases this
   have:=hh.other;simp[Obj.isCells]at this
 refine⟨c,T,h1,h2,h.size,hn,⟨λd hd=>let ⟨r,e,hr,hh⟩:=h.defers.each d hd;⟨r,e,hr,Fo hh⟩,h.defers.nodup⟩,λl r e=>Fo (h.round l r e),?_,?_,?_,h.inj,?_,?_,?_,?_,h.od,h.umod,h.GM,h.xv,h.F0⟩
 ·intro t ht
  simp only
  rw[fD _ _ _ (by omega)];exact h.gC t ht
 ·refine⟨h.below.os,h.below.tape,h.below.output,by rw[dN];exact h.below.size,λb hb=>?_⟩
  by_cases e:b=θ k
  ·subst e;exact .inr (h6 hb)
  ·rw[jn e];exact h.below.block b hb
 ·intro k' m' hm
  by_cases e:k'=k
  ·subst e
   obtain rfl:m'=m:=(h.inj _ _ _ _ hm hk rfl).2
   refine⟨zP,sN c o vs,T,tc bB,by rw[sP,h2],λj hj=>?_,h4,h5,h6⟩
   rw[Jy _ _ _ _ (by omega)]
   simp only
   by_cases hr:o<=j/\j<o+vs.length
   ·rw[if_pos hr]
    have hw:=rm (σ:=st.σ) (k:=k') vs o (j-o) (by omega) (by omega)
    rw[show o+(j-o)=j from by omega]at hw
    rw[hw]
    have dv:vs.getD (j-o) undef∈vs:=by
     rw[List.getD_eq_getElem?_getD,List.getElem?_eq_getElem (by omega)]
     simp
    exact mK (hp _ dv)
   ·rw[if_neg hr,cO]
    ·exact h3 j hj
    ·intro i h1 h2 e
     have:=(gI (by omega) (by omega) e).2
     omega
  ·obtain⟨akU,c',T',Ik,GH,ZI,h4',h5',ZH⟩:=h.boxes k' m' hm
   have bm:θ k'≠θ k:=λe'=>e (h.inj _ _ _ _ hm hk e').1
   refine⟨akU,c',T',(jn bm).trans Ik,GH,λj hj=>?_,h4',h5',ZH⟩
   simp only[Ft k' m' hm e j hj]
   exact ZI j hj
 ·intro t ht k' o' e
  simp only at e
  rw[fD _ _ _ (by omega)]at e
  exact h.ia t ht k' o' e
 ·intro k1 m1 hm j hj k' o' e
  by_cases ek:k1=k
  ·subst ek
   obtain rfl:m1=m:=(h.inj _ _ _ _ hm hk rfl).2
   simp only at e
   by_cases hr:o<=j/\j<o+vs.length
   ·have hw:=rm (σ:=st.σ) (k:=k1) vs o (j-o) (by omega) (by omega)
    rw[show o+(j-o)=j from by omega]at hw
    rw[hw]at e
    have dv:vs.getD (j-o) undef∈vs:=by
     rw[List.getD_eq_getElem?_getD,List.getElem?_eq_getElem (by omega)]
     simp
    exact iI (hp _ dv) k' o' e
   ·rw[cO]at e
    ·exact h.fA k1 m1 hm j hj k' o' e
    ·intro i h1 h2 e
     have:=(gI (by omega) (by omega) e).2
     omega
  ·simp only[Ft k1 m1 hm ek j hj]at e
   exact h.fA k1 m1 hm j hj k' o' e
 ·intro b hb
  rw[dN];exact h.nh b hb
 ·refine⟨h.mod.os,h.mod.tape,h.mod.output,by rw[dN];exact h.mod.size,λb hb hF=>?_⟩
  rw[jn (by omega)]
  exact h.mod.bV b hb hF
def cn(n:Nat)(x:Operand):Bool:=
 match x with
 | .tmp t=>Nat.blt t n
 | .const v=>plain v
 |_=>true
def Kb(o:Oper):Bool:=match o.op with| .defer _=>false|_=>true
def bh(n:Nat)(o:Oper):Bool:=o.op.operands.toList.all (cn n)&&(match o.dst with|some d=>Nat.blt d n|none=>true)&&Kb o
theorem mr{n:Nat}{o:Oper}(aD:bh n o=true)(c:Call):o.op≠ .defer c:=by
 intro e
 simp[bh,Kb,e]at aD
theorem gM{a b:Nat}:Nat.blt a b=true↔a<b:=by simp[Nat.blt_eq]
variable {C:Ctx} {a:Act} {wa:World} {st:St} {u:UW} {θ:Nat->Nat}
theorem CY(hI:Inv C a wa st u θ){x:Operand}(hx:cn C.n x=true):R θ (ev st.σ x) (a.eval x):=by
 cases x with
 |tmp t=>exact hI.gC t (gM.1 hx)
 |const v=>exact mK hx
 |global g=>exact mK rfl
 |func f=>exact mK rfl
theorem lV(hI:Inv C a wa st u θ){x:Operand}(hx:cn C.n x=true)(hp:plain (ev st.σ x)=true):a.eval x=ev st.σ x:=(gP hp).1 (CY hI hx)
theorem aR(hI:Inv C a wa st u θ){x:Operand}(hx:cn C.n x=true){v:Value}(he:ev st.σ x=v)(hp:plain v=true):a.eval x=v:=by
 subst he;exact lV hI hx hp
theorem jg(hI:Inv C a wa st u θ){x:Operand}(hx:cn C.n x=true){k o:Nat}(he:ev st.σ x=cY k o):a.eval x=.pointer (some ⟨θ k,o,none⟩)/\∃m,(k,m)∈st.D:=by
 have h:=CY hI hx
 rw[he]at h
 refine⟨h,?_⟩
 cases x with
 |tmp t=>exact hI.ia t (gM.1 hx) k o he
 |const v=>simp only[ev]at he;subst he;simp[cn,plain]at hx
 |global g=>simp[ev]at he
 |func f=>simp[ev]at he
def Lh(C:Ctx)(fz:List Nat)(o:Oper)(st:St)(θ:Nat->Nat)(nd:Bool)(K:St->UW->Prop)(a':Act)(DS:World):Prop:=
 ∃bu u' θ',Inv C a' DS bu u' θ'/\bQ C.n fz o.dst.toList st bu/\(∀k m,(k,m)∈st.D->θ' k=θ k)/\(nd=false->bu.D=st.D)/\K bu u'
theorem dk{n:Nat}{o:Oper}(aD:bh n o=true):∀t,o.dst=some t->t<n:=by
 intro t ht
 simp only[bh,Bool.and_eq_true]at aD
 have:=aD.1.2
 rw[ht]at this
 exact gM.1 this
theorem jt{n:Nat}{o:Oper}(aD:bh n o=true){x:Operand}(hx:x∈o.op.operands):cn n x=true:=by
 simp only[bh,Bool.and_eq_true,List.all_eq_true]at aD
 exact aD.1.1 x (by simpa using hx)
theorem jH{nd:Bool}{wb:World}{u':UW}{fz:List Nat}{o:Oper}{K:St->UW->Prop}(aD:bh C.n o=true)(hI:Inv C a wb st u' θ){v r:Value}(hr:R θ v r)
  (hf:∀k o,v=cY k o->∃m,(k,m)∈st.D) (hK:K (fin o st v) u'):Lh C fz o st θ nd K (a.put o.dst r) wb:=
 ⟨_,_,_,hI.fin o.dst (dk aD) hr hf,bQ.fin st o.dst (dk aD) hI.gV v,λ_ _ _=>rfl,λ_=>rfl,hK⟩
theorem aM{nd:Bool}{wb:World}{u':UW}{fz:List Nat}{o:Oper}{K:St->UW->Prop}(aD:bh C.n o=true)(hI:Inv C a wb st u' θ){v:Value}(hp:plain v=true)
  (hK:K (fin o st v) u'):Lh C fz o st θ nd K (a.put o.dst v) wb:=
 jH aD hI (mK hp) (λk o e=>absurd e (iI hp k o)) hK
theorem fJ{P:Program}{t:TypeId}{d:TypeDesc}(h:P.underlying t=some d):∃i,P.info? t=some i:=by
 unfold Program.underlying at h
 cases hi:P.info? t with
 |none=>simp[hi]at h
 |some i=>exact⟨i,rfl⟩
theorem aL{P:Program}{t:TypeId}{d:TypeDesc}{w:World}(h:P.underlying t=some d):(underlying t).run P w=.ok d w:=by
 simp[underlying,h]
theorem xP{P:Program}{t:TypeId}{i:TypeInfo}{w:World}(h:P.info? t=some i):(typeInfo t).run P w=.ok i w:=by
 simp[typeInfo,h]
theorem bO{P:Program}{t:TypeId}{i:TypeInfo}{w:World}(h:P.info? t=some i):(sizeOf t).run P w=.ok (P.cellsOf t) w:=by
 simp[sizeOf,xP h,Program.cellsOf,h]
theorem iG{P:Program}{t:TypeId}{z:Value}{w:World}(h:(P.info? t).bind (·.zero)=some z):(zeroValue t).run P w=.ok z w:=by
 cases hi:P.info? t with
 |none=>simp[hi]at h
 |some i=>simp only[hi,Option.bind_some]at h;simp[zeroValue,xP hi,h]
theorem jB{P:Program}{t:TypeId}{d:TypeDesc}{w:World}(h:P.underlying t=some d):(isAgg t).run P w=.ok (bG P t) w:=by
 simp only[isAgg,Sem.run_bind,aL h,Result.andThen_ok,bG,h]
 cases d<;>rfl
theorem jK{P:Program}{t:TypeId}{ks:List K1}(h:kinds P t=some ks):ks.length=P.cellsOf t/\(∃d,P.underlying t=some d)/\(bG P t=true\/ks.length=1):=by
 unfold kinds at h
 cases hk:rT P 8 t with
 |none=>simp[hk]at h
 |some Ub=>
  simp only[hk,Bool.cond_eq_ite,beq_iff]at h
  split at h
  ·rename_i h1
   split at h
   ·rename_i h2
    simp only[Option.some.injEq]at h
    subst h
    refine⟨h1,?_,?_⟩
    ·unfold rT at hk
     cases hu:P.underlying t with
     |none=>simp[hu]at hk
     |some d=>exact⟨d,rfl⟩
    ·simpa[beq_iff]using h2
   ·cases h
  ·cases h
theorem gm{P:Program}{w:World}{t:TypeId}{ks:List K1}{b o:Nat}{c:Array Value}{T:TypeId}{f:Nat×Nat}(hk:kinds P t=some ks)(h:w.heap[b]?=some (.cells c T f))(hl:o+ks.length<=c.size):
  (loadVar t ⟨b,o,none⟩).run P w=.ok (CA (bG P t) ((c.toList.drop o).take ks.length)) w:=by
 obtain⟨h1,⟨d,hd⟩,h2⟩:=jK hk
 obtain⟨i,hi⟩:=fJ hd
 simp only[loadVar,Sem.run_bind,jB hd,Result.andThen_ok]
 cases kL:bG P t with
 |true=>
  simp only[if_true,Sem.run_bind,bO hi,Result.andThen_ok]
  rw[<- h1,kX h hl]
  rfl
 |false=>
  have Ie:ks.length=1:=by rcases h2 with h2|h2;(rw[kL]at h2;cases h2);exact h2
  simp only[Bool.false_eq_true,if_false,run_load,Dc h]
  have bB:o<c.size:=by omega
  rw[Array.getElem?_eq_getElem bB,Ie]
  have rV:o<c.toList.length:=by simpa using bB
  rw[List.drop_eq_getElem_cons rV]
  simp[CA]
theorem tf{P:Program}{w:World}{t:TypeId}{i:TypeInfo}{b o:Nat}{c:Array Value}{T:TypeId}{v:Value}(hi:P.info? t=some i)(hs:v.cells.size=P.cellsOf t)(h:w.heap[b]?=some (.cells c T (0,0)))
  (hl:o+v.cells.size<=c.size) (ho:∀x∈v.cells.toList,one x=true):(storeVar t ⟨b,o,none⟩ v).run P w=.ok () (gU w b (.cells (sN c o v.cells.toList) T (0,0))):=by
 simp only[storeVar,Sem.run_bind,bO hi,Result.andThen_ok]
 rw[if_neg (by simp[hs])]
 rw[jF _ 0 w c h (by simpa using hl) ho]
 rfl
theorem pU{w w1:World}(hs:vC w w1){b o n:Nat}{vs:List Value}(h:rd w.heap b o n=some vs)(hn:n≠0):∃c T f,w1.heap[b]?=some (.cells c T f)/\o+n<=c.size/\vs=(c.toList.drop o).take n:=by
 unfold rd at h
 cases hb:w.heap[b]? with
 |none=>simp[hb]at h
 |some ob=>
  have bB:b<w.heap.size:=(Array.getElem?_eq_some_iff.1 hb).1
  cases ob<;>simp only[hb]at h<;>try (cases h;done)
  rename_i c T f
  split at h
  ·rename_i hl
   simp only[Option.some.injEq]at h
   rcases hs.block b bB with e|e
   ·exact⟨c,T,f,by rw[<- e,hb],hl,h.symm⟩
   ·rw[hb]at e
    simp only[Option.some.injEq,Obj.cells.injEq]at e
    obtain⟨rfl,_,_⟩:=e
    simp at hl;omega
  ·cases h
theorem OY{w w1:World}(hs:vC w w1){b o n:Nat}{vs:List Value}(h:rd w.heap b o n=some vs):∃c T f,w1.heap[b]?=some (.cells c T f)/\vs.length=n\/n=0/\vs=[]:=by
 by_cases hn:n=0
 ·subst hn
  unfold rd at h
  refine⟨#[],0,(0,0),.inr ⟨rfl,?_⟩⟩
  cases hb:w.heap[b]? with
  |none=>simp[hb]at h
  |some ob=>
   cases ob<;>simp only[hb]at h<;>try (cases h;done)
   split at h
   ·simp at h;exact h
   ·cases h
 ·obtain⟨c,T,f,h1,h2,h3⟩:=pU hs h hn
  exact⟨c,T,f,.inl ⟨h1,by subst h3;simp;omega⟩⟩
theorem eV{v:Value}{F:Nat->Nat->Prop}(h:cX v F):∃b o,v=.pointer (some ⟨b,o,none⟩)/\F b o:=by
 unfold cX at h
 split at h
 ·exact⟨_,_,rfl,h⟩
 ·exact h.elim
theorem eM{v:Option Addr}{F:Nat->Nat->Prop}(h:bR v F):∃b o,v=some ⟨b,o,none⟩/\F b o:=by
 unfold bR at h
 split at h
 ·exact⟨_,_,rfl,h⟩
 ·exact h.elim
theorem lO{ag:Bool}{vs:List Value}(h:∀v∈vs,plain v=true/\one v=true)(hl:ag=true\/vs.length=1):plain (CA ag vs)=true:=by
 cases ag with
 |true=>rfl
 |false=>
  rcases hl with hl|hl
  ·cases hl
  ·match vs,hl with
   |[v],_=>exact(h v (by simp)).1
theorem iO:∀{D:List (Nat×Nat)} {k m:Nat},bY D k=some m->(k,m)∈D
 |[],_,_,h=>by simp[bY]at h
 |(k',m')::D,k,m,h=>by
  simp only[bY,Bool.cond_eq_ite,beq_iff]at h
  split at h
  ·rename_i e;simp only[Option.some.injEq]at h;subst e h;simp
  ·exact List.mem_cons_of_mem _ (iO h)
theorem fS{σ:Fr}{θ:Nat->Nat}{c:Array Value}{k m:Nat}(hc:c.size=m)(hr:∀j,j<m->R θ (σ (gx k j)) (c.getD j undef)):
  ∀(n o:Nat),o+n<=m->(∀v∈uP σ k o n,plain v=true/\one v=true)->(c.toList.drop o).take n=uP σ k o n
 |0,o,_,_=>by simp[uP]
 |n+1,o,hl,hp=>by
  have bB:o<c.toList.length:=by simp;omega
  rw[List.drop_eq_getElem_cons bB,List.take_succ_cons]
  simp only[uP]
  have hpo:plain (σ (gx k o))=true:=(hp _ (by simp[uP])).1
  have h1:=(gP hpo).1 (hr o (by omega))
  have h2:c.toList[o]=σ (gx k o):=by
   rw[<- h1];simp only[Array.getElem_toList];rw[Array.getD_eq_getD_getElem?,Array.getElem?_eq_getElem (by omega)];rfl
  rw[h2,fS hc hr n (o+1) (by omega) (λv hv=>hp v (by simp[uP,hv]))]
theorem nJ:∀(vs:List Value) (c:Array Value) (o:Nat),o+vs.length<=c.size->(sN c o vs).toList=c.toList.take o++vs++c.toList.drop (o+vs.length)
 |[],c,o,_=>by simp[sN]
 |v::vs,c,o,h=>by
  simp only[List.length_cons]at h
  simp only[sN]
  rw[nJ vs _ (o+1) (by simp;omega)]
  have ho:o<c.toList.length:=by simp;omega
  simp only[Array.toList_setIfInBounds]
  have h1:(c.toList.set o v).take (o+1)=c.toList.take o++[v]:=by
   rw[List.take_set]
   rw[List.take_succ_eq_append_getElem ho,List.set_append_right _ _ (by simp;omega)]
   have e:o-(c.toList.take o).length=0:=by simp;omega
   rw[e];rfl
  have h2:(c.toList.set o v).drop (o+1+vs.length)=c.toList.drop (o+1+vs.length):=by
   rw[List.drop_set_of_lt (by omega)]
  rw[h1,h2]
  simp[Nat.add_assoc,Nat.add_comm 1]
theorem FE:∀(l:List (Value×Nat)) (vs:List Value) (i off:Nat) (c:Array Value),l=vs.zipIdx i->l.foldl (λcs p=>cs.setIfInBounds (off+p.2) p.1) c=sN c (off+i) vs
 |[],vs,i,off,c,h=>by
  cases vs with
  |nil=>rfl
  |cons v vs=>simp at h
 |p::l,vs,i,off,c,h=>by
  cases vs with
  |nil=>simp at h
  |cons v vs=>
   simp only[List.zipIdx_cons,List.cons.injEq]at h
   obtain⟨rfl,rfl⟩:=h
   simp only[List.foldl_cons,sN]
   rw[FE _ vs (i+1) off _ rfl]
   rfl
theorem By(vs:Array Value)(off:Nat)(cs:Array Value):
  (vs.zipIdx.foldl (λcs (x:Value×Nat)=>match x with|(c,j)=>cs.setIfInBounds (off+j) c) cs)=sN cs off vs.toList:=by
 rw[<- Array.foldl_toList,Array.toList_zipIdx]
 exact FE _ vs.toList 0 off cs rfl
theorem qV{P:Program}{w:World}{α β:Type}(g:α->Sem β)(k:α->β):∀(l:List α),(∀x∈l,(g x).run P w=.ok (k x) w)->(l.mapM g).run P w=.ok (l.map k) w
 |[],_=>by simp
 |x::l,h=>by
  simp only[List.mapM_cons,Sem.run_bind,h x (by simp),Result.andThen_ok,qV g k l (λy hy=>h y (by simp[hy])),Sem.run_pure,List.map_cons]
theorem OV{P:Program}{w:World}{α β:Type}(g:α->Sem β)(k:α->β)(l:Array α)(h:∀x∈l.toList,(g x).run P w=.ok (k x) w):(l.mapM g).run P w=.ok (l.toList.map k).toArray w:=by
 rw[Array.mapM_eq_mapM_toList]
 simp only[Sem.run_map,qV g k l.toList h,Result.andThen_ok]
theorem BJ{P:Program}{fs:Array Field}{pl:Nat->Option (Nat×Nat)}(q_:∀(i:Nat) f,fs[i]?=some f->pl i=some (f.offset,P.cellsOf f.type)):
  ∀(ps:List (Nat×Value)) (cs:Array Value) (r:List Value),IT P fs ps cs.toList=some r->Instr.fill pl cs ps=some r.toArray
 |[],cs,r,h=>by simp only[IT,Option.some.injEq]at h;subst h;simp[Instr.fill]
 |(i,v)::ps,cs,r,h=>by
  simp only[IT]at h
  cases hf:fs[i]? with
  |none=>simp[hf]at h
  |some f=>
   simp only[hf,Bool.cond_eq_ite,Bool.and_eq_true,beq_iff,Nat.ble_eq]at h
   split at h
   ·rename_i hc
    obtain⟨⟨h1,h2⟩,_⟩:=hc
    simp only[Array.length_toList]at h2
    simp only[Instr.fill,q_ i f hf]
    rw[if_neg (by simp[h1];omega)]
    rw[By]
    have hlen:v.cells.toList.length=v.cells.size:=by simp
    refine BJ q_ ps _ r ?_
    rw[nJ _ _ _ (by rw[hlen];omega),hlen]
    exact h
   ·cases h
theorem zp{size:Nat}:∀{ps:List (Nat×Value)} {i:Nat} {r:List Value},mJ size i ps=some r->r.length=ps.length*size
 |[],_,r,h=>by simp only[mJ,Option.some.injEq]at h;subst h;simp
 |(j,v)::ps,i,r,h=>by
  simp only[mJ,Bool.cond_eq_ite,Bool.and_eq_true,beq_iff]at h
  split at h
  ·rename_i hc
   cases hb:mJ size (i+1) ps with
   |none=>simp[hb]at h
   |some l=>
    simp only[hb,Option.some.injEq]at h
    subst h
    have:=zp hb
    simp only[List.length_append,List.length_cons,Array.length_toList,this,hc.2,Nat.add_mul,Nat.one_mul];omega
  ·cases h
theorem qk{size:Nat}:∀(ps:List (Nat×Value)) (i:Nat) (r:List Value) (cs:Array Value),mJ size i ps=some r->cs.size=(i+ps.length)*size->
  Instr.fill (λi=>some (i*size,size)) cs ps=some (cs.toList.take (i*size)++r).toArray
 |[],i,r,cs,h,hs=>by
  simp only[mJ,Option.some.injEq]at h;subst h
  simp only[List.length_nil,Nat.add_zero]at hs
  simp only[Instr.fill,<- hs,List.append_nil,Option.some.injEq]
  rw[List.take_of_length_le (by simp)]
 |(j,v)::ps,i,r,cs,h,hs=>by
  simp only[mJ,Bool.cond_eq_ite,Bool.and_eq_true,beq_iff]at h
  split at h
  ·rename_i hc
   obtain⟨rfl,hv⟩:=hc
   cases hb:mJ size (i+1) ps with
   |none=>simp[hb]at h
   |some l=>
    simp only[hb,Option.some.injEq]at h
    subst h
    simp only[List.length_cons]at hs
    have hle:i*size+v.cells.size<=cs.size:=by
     rw[hs,hv,<- Nat.succ_mul];exact Nat.mul_le_mul_right _ (by omega)
    simp only[Instr.fill]
    rw[if_neg (by simp[hv];omega),By]
    have hlen:v.cells.toList.length=v.cells.size:=by simp
    rw[qk ps (i+1) l _ hb (by rw[sP,hs];congr 1;omega)]
    rw[nJ _ _ _ (by rw[hlen];exact hle)]
    have e1:(i+1)*size=i*size+v.cells.size:=by rw[Nat.succ_mul,hv]
    rw[e1,List.take_append_of_le_length (by simp;omega),List.take_of_length_le (by simp;omega)]
    simp
  ·cases h
theorem run_build{P:Program}{w:World}{t:TypeId}{ps:Array (Nat×Value)}{r:List Value}(h:Vr P t ps.toList=some r):(Instr.build t ps).run P w=.ok (.agg r.toArray) w:=by
 unfold Vr at h
 cases hz:(P.info? t).bind (·.zero)with
 |none=>simp[hz]at h
 |some z=>
  cases hu:P.underlying t with
  |none=>simp[hz,hu]at h
  |some d=>
   cases d<;>simp only[hz,hu]at h<;>try (cases h;done)
   case array len e=>
    simp only[Bool.cond_eq_ite,Bool.and_eq_true,beq_iff]at h
    split at h
    ·rename_i hc
     obtain⟨⟨Ai,hl⟩,eg⟩:=hc
     obtain⟨ie,Ai⟩:=Option.isSome_iff_exists.1 Ai
     simp only[Instr.build,Sem.run_bind,iG hz,Result.andThen_ok,aL hu,bO Ai]
     have hf:=qk ps.toList 0 r z.cells h (by rw[eg,Nat.zero_add,hl])
     simp only[Nat.zero_mul,List.take_zero,List.nil_append]at hf
     rw[hf]
     rfl
    ·cases h
   rename_i fs
   simp only[Bool.cond_eq_ite,List.all_eq_true]at h
   split at h
   ·rename_i d_
    have akV:∀w:World,(fs.mapM λf=>(do pure (f.offset,<- sizeOf f.type):Sem (Nat×Nat))).run P w=.ok (fs.toList.map λf=>(f.offset,P.cellsOf f.type)).toArray w:=by
     intro w
     refine OV _ _ _ λf hf=>?_
     obtain⟨i,hi⟩:=Option.isSome_iff_exists.1 (d_ f hf)
     simp[bO hi]
    simp only[Instr.build,Sem.run_bind,iG hz,Result.andThen_ok,aL hu,akV]
    rw[BJ (fs:=fs) ?_ ps.toList z.cells r h]
    ·rfl
    ·intro i f hf
     simp[hf]
   ·cases h
end Go.az
namespace Go.az
open Go.RowKit
variable {C:Ctx} {a:Act} {wa:World} {st:St} {u:UW} {θ:Nat->Nat}
theorem ak{c:Bool}{A:Prop}(h:(bif c then A else False)):c=true/\A:=by cases c<;>simp_all
theorem aO{P:Program}{o:Oper}{r:Value}{wb:World}{next:Act->World->Prop}{Q:Exit->Act->World->Prop}(h:(execOp a.eval o).run P wa=.ok (.value r) wb)(hn:next (a.put o.dst r) wb):
  o.uponIn Fence.wide 0 P a next Q ((execOp a.eval o).run P wa):=by rw[h];exact hn
theorem BU{P:Program}{o:Oper}{wb:World}{next:Act->World->Prop}{Q:Exit->Act->World->Prop}(h:(execOp a.eval o).run P wa=.ok .skip wb)(hn:next (a.put o.dst undef) wb):
  o.uponIn Fence.wide 0 P a next Q ((execOp a.eval o).run P wa):=by rw[h];exact hn
theorem yV:∀{k1 k2:List K1} {x1 x2 y1 y2:List Value} {r:Bool},x1.length=k1.length->y1.length=k1.length->eqs (k1++k2) (x1++x2) (y1++y2)=some r->
  ∃r1 r2,eqs k1 x1 y1=some r1/\eqs k2 x2 y2=some r2/\r=(r1&&r2)
 |[],k2,[],x2,[],y2,r,_,_,h=>⟨true,r,rfl,h,by simp⟩
 |k::k1,k2,x::x1,x2,y::y1,y2,r,hx,hy,h=>by
  simp only[List.length_cons,Nat.add_right_cancel_iff]at hx hy
  have key:∀(b:Bool) (r':Bool),(match eqs (k1++k2) (x1++x2) (y1++y2)with|some r=>some (b&&r)|none=>none)=some r'->
    ∃r1 r2,eqs k1 x1 y1=some r1/\eqs k2 x2 y2=some r2/\r'=(b&&r1&&r2):=by
   intro b r' h
   cases he:eqs (k1++k2) (x1++x2) (y1++y2)with
   |none=>simp[he]at h
   |some r0=>
    obtain⟨r1,r2,e1,e2,e3⟩:=yV hx hy he
    simp only[he,Option.some.injEq]at h
    exact⟨r1,r2,e1,e2,by rw[<- h,e3,Bool.and_assoc]⟩
  simp only[List.cons_append]at h
  cases k with
  |int kk=>
   cases x<;>first|(simp[eqs]at h;done)|skip
   cases y<;>first|(simp[eqs]at h;done)|skip
   rename_i ka a kb b
   simp only[eqs,Bool.cond_eq_ite]at h
   split at h
   ·rename_i hk
    obtain⟨r1,r2,e1,e2,e3⟩:=key _ _ h
    exact⟨(a == b)&&r1,r2,by simp only[eqs,hk,cond_true,e1],e2,e3⟩
   ·cases h
  |bool=>
   cases x<;>first|(simp[eqs]at h;done)|skip
   cases y<;>first|(simp[eqs]at h;done)|skip
   rename_i a b
   simp only[eqs]at h
   obtain⟨r1,r2,e1,e2,e3⟩:=key _ _ h
   exact⟨(a == b)&&r1,r2,by simp only[eqs,e1],e2,e3⟩
  |str=>
   cases x<;>first|(simp[eqs]at h;done)|skip
   cases y<;>first|(simp[eqs]at h;done)|skip
   rename_i a b
   simp only[eqs]at h
   obtain⟨r1,r2,e1,e2,e3⟩:=key _ _ h
   exact⟨aG a b&&r1,r2,by simp only[eqs,e1],e2,e3⟩
  |slice=>simp[eqs]at h
  |ptr=>simp[eqs]at h
  |fn=>simp[eqs]at h
  |map=>simp[eqs]at h
  |val=>simp[eqs]at h
 |_::_,_,[],_,_,_,_,hx,_,_=>by simp at hx
 |_::_,_,_::_,_,[],_,_,_,hy,_=>by simp at hy
 |[],_,_::_,_,_,_,_,hx,_,_=>by simp at hx
 |[],_,[],_,_::_,_,_,_,hy,_=>by simp at hy
theorem eZ{P:Program}{w:World}{t:TypeId}{d:TypeDesc}{cs:Array Value}{o:Nat}(hd:P.underlying t=some d)(kL:bG P t=true):
  (part t cs o).run P w=.ok (.agg (cs.extract o (o+P.cellsOf t))) w:=by
 obtain⟨i,hi⟩:=fJ hd
 simp only[part,Sem.run_bind,jB hd,kL,if_true,Result.andThen_ok,bO hi,Sem.run_pure]
theorem gE{P:Program}{w:World}{t:TypeId}{d:TypeDesc}{cs:Array Value}{o:Nat}{v:Value}(hd:P.underlying t=some d)(kL:bG P t=false)(hv:cs[o]?=some v):
  (part t cs o).run P w=.ok v w:=by
 simp only[part,Sem.run_bind,jB hd,kL,Bool.false_eq_true,if_false,Result.andThen_ok,hv,Sem.run_pure]
theorem JN{P:Program}{w:World}{e:TypeId}{cs:Array Value}{off:Nat}{v:Value}(hv:MT P e off cs.toList=some v):(part e cs off).run P w=.ok v w:=by
 unfold MT at hv
 simp only[Bool.cond_eq_ite,Bool.and_eq_true,Nat.ble_eq]at hv
 split at hv
 ·rename_i hc
  obtain⟨hi,hle⟩:=hc
  obtain⟨d,Wj⟩:=Option.isSome_iff_exists.1 hi
  split at hv
  ·rename_i kL
   simp only[Option.some.injEq]at hv
   rw[eZ Wj kL,<- hv]
   congr 2
   apply Array.toList_inj.1
   rw[Array.toList_extract,List.extract_eq_take_drop]
   simp
  ·rename_i kL
   simp only[Bool.not_eq_true]at kL
   exact gE Wj kL (v:=v) (by simpa using hv)
 ·cases hv
theorem yZ{l:List Value}{o n:Nat}(h:o+(n+1)<=l.length):(l.drop o).take (n+1)=l[o]'(by omega)::(l.drop (o+1)).take n:=by
 rw[List.drop_eq_getElem_cons (by omega),List.take_succ_cons]
theorem EC{xs:Array Value}{o:Nat}(h:o+1<=xs.size):(xs.toList.drop o).take 1=[xs[o]'(by omega)]:=by
 rw[yZ (n:=0) (by simpa using h)]
 simp
theorem KG{P:Program}{w:World}:∀(f:Nat) (t:TypeId) (ks:List K1),Ix P f t=some ks->∀(d:Nat),f<=d->∀(xs ys:Array Value) (o:Nat) (r:Bool),o+ks.length<=xs.size->o+ks.length<=ys.size->
  eqs ks ((xs.toList.drop o).take ks.length) ((ys.toList.drop o).take ks.length)=some r->
  ∃x y,(part t xs o).run P w=.ok x w/\(part t ys o).run P w=.ok y w/\(Op.equalIn d t x y).run P w=.ok r w
 |0,t,ks,h,_,_,_,_,_,_,_,_,_=>by simp[Ix]at h
 |f+1,t,ks,h,d,hd,xs,ys,o,r,hx,hy,hr=>by
  obtain⟨d,rfl⟩:∃d',d=d'+1:=⟨d-1,by omega⟩
  simp only[Ix]at h
  cases hu:P.underlying t with
  |none=>simp[hu]at h
  |some D=>
   have Ie:∀k:K1,ks=[k]->bG P t=false->(∀x y,eqs [k] [x] [y]=some r->(Op.equalIn (d+1) t x y).run P w=.ok r w)->
     ∃x y,(part t xs o).run P w=.ok x w/\(part t ys o).run P w=.ok y w/\(Op.equalIn (d+1) t x y).run P w=.ok r w:=by
    rintro k rfl kL hk
    simp only[List.length_singleton]at hx hy hr
    rw[EC hx,EC hy]at hr
    exact⟨xs[o],ys[o],gE hu kL (Array.getElem?_eq_getElem (by omega)),gE hu kL (Array.getElem?_eq_getElem (by omega)),hk _ _ hr⟩
   cases D<;>simp only[hu]at h<;>try (cases h;done)
   ·simp only[Option.some.injEq]at h
    refine Ie _ h.symm (by simp[bG,hu]) λx y wh=>?_
    cases x<;>first|(simp[eqs]at wh;done)|skip
    cases y<;>first|(simp[eqs]at wh;done)|skip
    simp only[eqs]at wh
    simp only[Option.some.injEq,Bool.and_true]at wh
    rw[run_equalIn_bool' w d t _ _ hu,wh]
   ·rename_i k
    simp only[Option.some.injEq]at h
    refine Ie _ h.symm (by simp[bG,hu]) λx y wh=>?_
    cases x<;>first|(simp[eqs]at wh;done)|skip
    cases y<;>first|(simp[eqs]at wh;done)|skip
    simp only[eqs]at wh
    rename_i ka a kb b
    simp only[Bool.cond_eq_ite]at wh
    split at wh
    ·rename_i hk
     simp only[decide_eq_true_eq]at hk
     subst hk
     simp only[Option.some.injEq,Bool.and_true]at wh
     rw[run_equalIn_int w d t _ _ _ _ hu,wh]
    ·cases wh
   ·simp only[Option.some.injEq]at h
    refine Ie _ h.symm (by simp[bG,hu]) λx y wh=>?_
    cases x<;>first|(simp[eqs]at wh;done)|skip
    cases y<;>first|(simp[eqs]at wh;done)|skip
    simp only[eqs]at wh
    simp only[Option.some.injEq,Bool.and_true]at wh
    rw[run_equalIn_string w d t _ _ hu,<- wh]
    rfl
   ·rename_i fs
    simp only[Bool.cond_eq_ite]at h
    split at h
    ·cases h
    ·rename_i iu
     simp only[Bool.not_eq_true]at iu
     cases wO:FQ (Ix P f) 0 fs.toList with
     |none=>simp[wO]at h
     |some l=>
      simp only[wO,beq_iff]at h
      split at h
      ·rename_i hlen
       simp only[Option.some.injEq]at h
       subst h
       have kL:bG P t=true:=by simp[bG,hu]
       have hfo:P.fieldsOf t=fs:=by simp[Program.fieldsOf,hu]
       have dZ:P.underlying t=some (.struct (P.fieldsOf t)):=by rw[hfo];exact hu
       refine⟨_,_,eZ hu kL,eZ hu kL,?_⟩
       rw[run_equalIn_struct w d t _ _ dZ iu,hfo]
       have hX:∀zs:Array Value,o+l.length<=zs.size->(zs.extract o (o+P.cellsOf t)).toList=(zs.toList.drop o).take l.length:=by
        intro zs hz
        rw[Array.toList_extract,hlen]
        simp[List.extract_eq_take_drop]
       have key:∀(gs:List Field) (a:Nat) (l':List K1) (X Y:Array Value) (r:Bool),FQ (Ix P f) a gs=some l'->a+l'.length=X.size->a+l'.length=Y.size->
         eqs l' (X.toList.drop a) (Y.toList.drop a)=some r->(Op.eqFields d X Y gs).run P w=.ok r w:=by
        intro gs
        induction gs with
        |nil=>
         intro a l' X Y r h1 h2 h3 h4
         simp only[FQ,Option.some.injEq]at h1
         subst h1
         simp only[List.length_nil,Nat.add_zero]at h2 h3
         rw[List.drop_of_length_le (by simp;omega),List.drop_of_length_le (by simp;omega)]at h4
         simp only[eqs,Option.some.injEq]at h4
         subst h4
         simp[Op.eqFields]
        |cons g gs ih=>
         intro a l' X Y r h1 h2 h3 h4
         simp only[FQ]at h1
         cases hg:Ix P f g.type with
         |none=>simp[hg]at h1
         |some lg=>
          simp only[hg,Bool.cond_eq_ite,Bool.and_eq_true,decide_eq_true_eq,beq_iff]at h1
          split at h1
          ·rename_i Qo
           obtain⟨Qo,adT⟩:=Qo
           cases vd:FQ (Ix P f) (a+lg.length) gs with
           |none=>simp[vd]at h1
           |some lr=>
            simp only[vd,Option.some.injEq]at h1
            subst h1
            simp only[List.length_append]at h2 h3
            have sp:∀Z:Array Value,a+(lg.length+lr.length)=Z.size->Z.toList.drop a=(Z.toList.drop a).take lg.length++Z.toList.drop (a+lg.length):=by
             intro Z hZ
             rw[<- List.drop_drop];exact(List.take_append_drop _ _).symm
            rw[sp X h2,sp Y h3]at h4
            obtain⟨r1,r2,e1,e2,e3⟩:=yV (by simp;omega) (by simp;omega) h4
            obtain⟨x,y,p1,p2,p3⟩:=KG (w:=w) f g.type lg hg d (by omega) X Y a r1 (by omega) (by omega) e1
            have kK:=ih (a+lg.length) lr X Y r2 vd (by omega) (by omega) e2
            simp only[Op.eqFields]
            rw[if_pos Qo]
            rw[adT]
            simp only[Sem.run_bind,p1,Result.andThen_ok,p2,p3]
            cases r1
            ·simp[e3]
            ·simp[e3,kK]
          ·cases h1
       refine key fs.toList 0 l _ _ r wO ?_ ?_ ?_
       ·simp;omega
       ·simp;omega
       ·rw[List.drop_zero,List.drop_zero,hX xs hx,hX ys hy];exact hr
      ·cases h
theorem Fy{P:Program}{op:BinOp}{t:TypeId}{x y:Value}(X Y:Operand)(w:World)(h1:x≠ .nilIface)(h2:∀c,x≠ .agg c):(eqGuard op t X Y x y).run P w=.ok () w:=by
 cases x<;>first|exact absurd rfl h1|exact absurd rfl (h2 _)|(cases op<;>rfl)
theorem CL{P:Program}{op:BinOp}{t:TypeId}{k:IntKind}{i j:Int}{K:Value->Prop}(h:oK op k i j K):
  ∃v,plain v=true/\K v/\∀w,(binOp op t (.int k i) (.int k j)).run P w=.ok v w:=by
 cases op<;>simp only[oK]at h<;>try (exact h.elim)
 case quo=>exact⟨_,rfl,h.2,λw=>by simp[binOp,Op.intDiv,h.1]⟩
 case rem=>exact⟨_,rfl,h.2,λw=>by simp[binOp,Op.intDiv,h.1]⟩
 all_goals exact⟨_,rfl,h,λw=>by simp[binOp,Op.intArith,Op.intCmp]⟩
theorem BZ{P:Program}{op:BinOp}{t:TypeId}{i j:ByteArray}{K:Value->Prop}(h:ru op i j K):
  ∃v,plain v=true/\K v/\∀w,(binOp op t (.string i) (.string j)).run P w=.ok v w:=by
 cases op<;>simp only[ru]at h<;>try (exact h.elim)
 case add=>
  have hm:¬(((i.size+j.size:Nat):Int)>IntKind.i64.max):=by
   have:IntKind.i64.max=9223372036854775807:=by decide
   rw[this];omega
  exact⟨_,rfl,h.2,λw=>by simp only[binOp,Op.stringOp];rw[if_neg hm];rfl⟩
 all_goals exact⟨_,rfl,h,λ_=>rfl⟩
theorem Tm{P:Program}{t:TypeId}{x y:Value}{r:Bool}{w:World}(hx:∀k i,x≠ .int k i)(hf:∀k i,x≠ .float k i)(hc:∀k i j,x≠ .complex k i j)(hs:∀s,x≠ .string s)
  (h:(Op.equalIn 10000 t x y).run P w=.ok r w):(binOp .eql t x y).run P w=.ok (.bool r) w/\(binOp .neq t x y).run P w=.ok (.bool (!r)) w:=by
 have h':(Op.equal t x y).run P w=.ok r w:=h
 cases x<;>first|exact absurd rfl (hx _ _)|exact absurd rfl (hf _ _)|exact absurd rfl (hc _ _ _)|exact absurd rfl (hs _)|
  exact⟨by simp only[binOp,Sem.run_bind,h',Result.andThen_ok,Sem.run_pure],by simp only[binOp,Sem.run_bind,h',Result.andThen_ok,Sem.run_pure]⟩
theorem FO{P:Program}{t e:TypeId}(hu:P.underlying t=some (.pointer e))(d:Nat)(a:Option Addr)(w:World):(Op.equalIn (d+1) t (.pointer a) (.pointer none)).run P w=.ok a.isNone w:=by
 cases a<;>simp[Op.equalIn,aL hu]
theorem Ao{P:Program}{t e:TypeId}(hu:P.underlying t=some (.slice e))(d:Nat)(a:Option Addr)(n c n' c':Nat)(w:World):(Op.equalIn (d+1) t (.slice a n c) (.slice none n' c')).run P w=.ok a.isNone w:=by
 cases a<;>simp[Op.equalIn,aL hu]
theorem CZ{P:Program}{t:TypeId}{p r:Array TypeId}{v:Bool}(hu:P.underlying t=some (.func p r v))(d:Nat)(f:Fn)(a b:Array Value)(w:World):(Op.equalIn (d+1) t (.func f a b) .nilFunc).run P w=.ok false w:=by
 simp[Op.equalIn,aL hu]
theorem UK{P:Program}{f:Nat}{t:TypeId}{ks:List K1}(kq:Ix P (f+1) t=some ks)(kL:bG P t=true):ks.length=P.cellsOf t:=by
 simp only[Ix]at kq
 cases hu:P.underlying t with
 |none=>simp[hu]at kq
 |some d=>
  cases d<;>simp only[hu]at kq<;>simp only[bG,hu]at kL<;>try (cases kL;done)
  ·cases kq
  ·rename_i fs
   simp only[Bool.cond_eq_ite]at kq
   split at kq
   ·cases kq
   ·cases wO:FQ (Ix P f) 0 fs.toList with
    |none=>simp[wO]at kq
    |some l=>
     simp only[wO,beq_iff]at kq
     split at kq
     ·rename_i hl;simp only[Option.some.injEq]at kq;subst kq;exact hl
     ·cases kq
def WM(op:BinOp)(K:Value->Prop)(r:Bool):Prop:=
 match op with
 | .eql=>K (.bool r)
 | .neq=>K (.bool (!r))
 |_=>False
theorem IM{P:Program}{op:BinOp}{t:TypeId}{x y:Value}{K:Value->Prop}(h:iX P op t x y K):
  (∃k a b,x=.int k a/\y=.int k b/\oK op k a b K)\/(∃a b,x=.string a/\y=.string b/\ru op a b K)\/
  (∃a b,x=.bool a/\y=.bool b/\P.underlying t=some .bool/\WM op K (a == b))\/
  (∃a b ks r,x=.agg a/\y=.agg b/\Ix P 8 t=some ks/\ks.length=a.size/\ks.length=b.size/\P.eqGuardType P.depth t=false/\bG P t=true/\eqs ks a.toList b.toList=some r/\WM op K r)\/
  (∃a e,x=.pointer a/\y=.pointer none/\P.underlying t=some (.pointer e)/\WM op K a.isNone)\/
  (∃a n c n' c' e,x=.slice a n c/\y=.slice none n' c'/\P.underlying t=some (.slice e)/\WM op K a.isNone)\/
  (∃f a b p r v,x=.func f a b/\y=.nilFunc/\P.underlying t=some (.func p r v)/\WM op K false):=by
 cases x with
 |int k i=>
  cases y<;>first|exact(show False from h).elim|skip
  obtain⟨hk,h'⟩:=ak (show(bif decide (_=_)then oK op _ _ _ K else False)from h)
  simp only[decide_eq_true_eq]at hk
  subst hk
  exact .inl ⟨_,_,_,rfl,rfl,h'⟩
 |string s=>
  cases y<;>first|exact(show False from h).elim|skip
  exact .inr (.inl ⟨_,_,rfl,rfl,h⟩)
 |bool i=>
  cases y<;>first|exact(show False from h).elim|skip
  simp only[iX]at h
  cases hu:P.underlying t with
  |none=>simp only[hu]at h
  |some d=>
   cases d<;>simp only[hu]at h
   exact .inr (.inr (.inl ⟨_,_,rfl,rfl,rfl,h⟩))
 |agg i=>
  cases y<;>first|exact(show False from h).elim|skip
  rename_i j
  simp only[iX]at h
  cases kq:Ix P 8 t with
  |none=>simp only[kq]at h
  |some ks=>
   simp only[kq]at h
   obtain⟨hc,h⟩:=ak h
   simp only[Bool.and_eq_true,beq_iff,Bool.not_eq_true']at hc
   obtain⟨⟨⟨ha,hb⟩,hg⟩,kL⟩:=hc
   cases hr:eqs ks i.toList j.toList with
   |none=>simp only[hr]at h
   |some r=>
    simp only[hr]at h
    exact .inr (.inr (.inr (.inl ⟨_,_,_,_,rfl,rfl,rfl,ha,hb,hg,kL,hr,h⟩)))
 |pointer i=>
  cases y<;>first|exact(show False from h).elim|skip
  rename_i j
  cases j with
  |some j=>exact(show False from h).elim
  |none=>
   simp only[iX]at h
   cases hu:P.underlying t with
   |none=>simp only[hu]at h
   |some d=>
    cases d<;>simp only[hu]at h
    exact .inr (.inr (.inr (.inr (.inl ⟨_,_,rfl,rfl,rfl,h⟩))))
 |slice i n c=>
  cases y<;>first|exact(show False from h).elim|skip
  rename_i j n' c'
  cases j with
  |some j=>exact(show False from h).elim
  |none=>
   simp only[iX]at h
   cases hu:P.underlying t with
   |none=>simp only[hu]at h
   |some d=>
    cases d<;>simp only[hu]at h
    exact .inr (.inr (.inr (.inr (.inr (.inl ⟨_,_,_,_,_,_,rfl,rfl,rfl,h⟩)))))
 |func f i j=>
  cases y<;>first|exact(show False from h).elim|skip
  simp only[iX]at h
  cases hu:P.underlying t with
  |none=>simp only[hu]at h
  |some d=>
   cases d<;>simp only[hu]at h
   exact .inr (.inr (.inr (.inr (.inr (.inr ⟨_,_,_,_,_,_,rfl,rfl,rfl,h⟩)))))
 |_=>exact(show False from h).elim
theorem zi{P:Program}{op:BinOp}{t:TypeId}{x y:Value}{K:Value->Prop}(h:iX P op t x y K)(X Y:Operand):
  plain x=true/\plain y=true/\∃v,plain v=true/\K v/\∀w,(do eqGuard op t X Y x y;binOp op t x y:Sem Value).run P w=.ok v w:=by
 have close:∀{v:Value},x≠ .nilIface->(∀c,x≠ .agg c)->plain v=true->K v->(∀w,(binOp op t x y).run P w=.ok v w)->
   ∃v,plain v=true/\K v/\∀w,(do eqGuard op t X Y x y;binOp op t x y:Sem Value).run P w=.ok v w:=by
  intro v h1 h2 hp hK hr
  exact⟨v,hp,hK,λw=>by simp only[Sem.run_bind,Fy X Y w h1 h2,Result.andThen_ok,hr]⟩
 have two:∀{r:Bool},x≠ .nilIface->(∀c,x≠ .agg c)->(∀k i,x≠ .int k i)->(∀k i,x≠ .float k i)->(∀k i j,x≠ .complex k i j)->(∀s,x≠ .string s)->(∀w,(Op.equalIn 10000 t x y).run P w=.ok r w)->
   WM op K r->∃v,plain v=true/\K v/\∀w,(do eqGuard op t X Y x y;binOp op t x y:Sem Value).run P w=.ok v w:=by
  intro r h1 h2 h3 h4 h5 h6 hr hK
  have hh:=λw=>Tm h3 h4 h5 h6 (hr w)
  cases op<;>simp only[WM]at hK
  ·exact close h1 h2 rfl hK λw=>(hh w).1
  ·exact close h1 h2 rfl hK λw=>(hh w).2
 have hc:=IM h
 clear h
 rcases hc with⟨k,a,b,rfl,rfl,h⟩|⟨a,b,rfl,rfl,h⟩|⟨a,b,rfl,rfl,hu,h⟩|⟨a,b,ks,r,rfl,rfl,kq,ha,hb,hg,kL,hr,h⟩|⟨a,e,rfl,rfl,hu,h⟩|⟨a,n,c,n',c',e,rfl,rfl,hu,h⟩|⟨f,a,b,p,r,v,rfl,rfl,hu,h⟩
 ·obtain⟨v,hp,hK,hr⟩:=CL (P:=P) (t:=t) h
  exact⟨rfl,rfl,close (by simp) (by simp) hp hK hr⟩
 ·obtain⟨v,hp,hK,hr⟩:=BZ (P:=P) (t:=t) h
  exact⟨rfl,rfl,close (by simp) (by simp) hp hK hr⟩
 ·exact⟨rfl,rfl,two (by simp) (by simp) (by simp) (by simp) (by simp) (by simp) (λw=>run_equalIn_bool' w 9999 t a b hu) h⟩
 ·refine⟨rfl,rfl,?_⟩
  have zN:eqs ks ((a.toList.drop 0).take ks.length) ((b.toList.drop 0).take ks.length)=some r:=by
   rw[List.drop_zero,List.drop_zero,List.take_of_length_le (by simp;omega),List.take_of_length_le (by simp;omega)];exact hr
  have p3:∀w,(Op.equalIn 10000 t (.agg a) (.agg b)).run P w=.ok r w:=by
   intro w
   obtain⟨x,y,p1,p2,p3⟩:=KG (w:=w) 8 t ks kq 10000 (by omega) a b 0 r (by omega) (by omega) zN
   have hu:∃d,P.underlying t=some d:=by
    unfold bG at kL
    cases hu:P.underlying t with
    |none=>simp[hu]at kL
    |some d=>exact⟨d,rfl⟩
   obtain⟨d,hu⟩:=hu
   have ak2:ks.length=P.cellsOf t:=UK kq kL
   rw[eZ hu kL]at p1 p2
   simp only[Result.ok.injEq,and_true]at p1 p2
   subst p1 p2
   rw[<- ak2,Nat.zero_add]at p3
   have hA:a.extract 0 ks.length=a:=by rw[ha];simp
   have hB:b.extract 0 ks.length=b:=by rw[hb];simp
   rw[hA,hB]at p3
   exact p3
  cases op<;>simp only[WM]at h
  ·exact⟨_,rfl,h,λw=>by simp only[Sem.run_bind,run_eqGuard_agg w _ t X Y a b hg,Result.andThen_ok,run_eql_struct,p3]⟩
  ·exact⟨_,rfl,h,λw=>by simp only[Sem.run_bind,run_eqGuard_agg w _ t X Y a b hg,Result.andThen_ok,run_neq_struct,p3]⟩
 ·exact⟨rfl,rfl,two (r:=a.isNone) (by simp) (by simp) (by simp) (by simp) (by simp) (by simp) (λw=>FO hu 9999 a w) h⟩
 ·exact⟨rfl,rfl,two (r:=a.isNone) (by simp) (by simp) (by simp) (by simp) (by simp) (by simp) (λw=>Ao hu 9999 a n c n' c' w) h⟩
 ·exact⟨rfl,rfl,two (r:=false) (by simp) (by simp) (by simp) (by simp) (by simp) (by simp) (λw=>CZ hu 9999 f a b w) h⟩
end Go.az
namespace Go.az
open Go.RowKit
section
variable {E:Env} {C:Ctx} {a:Act} {wa:World} {st:St} {u:UW} {θ:Nat->Nat} {fz:List Nat} {o:Oper} {K:St->UW->Prop} {Q:Exit->Act->World->Prop}
def rh(E:Env)(C:Ctx)(fz:List Nat)(o:Oper)(st:St)(θ:Nat->Nat)(K:St->UW->Prop)(Q:Exit->Act->World->Prop)(a:Act)(wa:World):Prop:=
 o.uponIn Fence.wide 0 E.P a (Lh C fz o st θ (fV E.cU o) K) Q ((execOp a.eval o).run E.P wa)
theorem OU{x:Operand}(ho:o.op=.move x\/o.op=.assign x)(aD:bh C.n o=true)(hI:Inv C a wa st u θ)(h:K (fin o st (ev st.σ x)) u):rh E C fz o st θ K Q a wa:=by
 have hx:cn C.n x=true:=jt aD (by rcases ho with ho|ho<;>simp[ho,Op.operands])
 refine aO (r:=a.eval x) (wb:=wa) (by rcases ho with ho|ho<;>simp[execOp,ho]) ?_
 exact jH aD hI (CY hI hx) (λk o' e=>(jg hI hx e).2) h
theorem Ya{c x y:Operand}(ho:o.op=.pick c x y)(aD:bh C.n o=true)(hI:Inv C a wa st u θ){t:Bool}(hc:ev st.σ c=.bool t)(h:ae t (K (fin o st (ev st.σ x)) u) (K (fin o st (ev st.σ y)) u)):
  rh E C fz o st θ K Q a wa:=by
 have hxc:cn C.n c=true:=jt aD (by simp[ho,Op.operands])
 have hx:cn C.n x=true:=jt aD (by simp[ho,Op.operands])
 have hy:cn C.n y=true:=jt aD (by simp[ho,Op.operands])
 have hec:=aR hI hxc hc rfl
 cases t with
 |true=>
  refine aO (r:=a.eval x) (wb:=wa) (by simp[execOp,ho,hec,asBool]) ?_
  exact jH aD hI (CY hI hx) (λk o' e=>(jg hI hx e).2) h
 |false=>
  refine aO (r:=a.eval y) (wb:=wa) (by simp[execOp,ho,hec,asBool]) ?_
  exact jH aD hI (CY hI hy) (λk o' e=>(jg hI hy e).2) h
theorem oJ{D:List (Nat×Nat)}{k:Nat}(h:jL D k=false):∀m,(k,m)∉D:=by
 intro m hm
 have:=Mm.2 ⟨m,hm⟩
 rw[h]at this;cases this
theorem Pg{k:Nat}{cs:List Value}(hk:k<C.n)(hn:C.n<=65536)(hd:o.dst=some k)(hb:jL st.D k=false)(eg:∀k m,(k,m)∈st.D->m<=65536)(qx:cs.length<=65536)(m':Nat):
  bQ C.n fz o.dst.toList st {st with σ:=pH (iz st.σ k (cY k 0)) k 0 cs,D:=(k,m')::st.D} where
 slot:=λi hi Mw=>by
  rw[hd]at Mw
  simp only[Option.toList,List.mem_singleton]at Mw
  simp only
  rw[fD _ _ _ (by omega),bH _ _ Mw]
 D:=λx hx=>by simp[hx]
 fz:=λk' eQ m hm j hj=>by
  have bm:k'≠k:=λe=>oJ hb m (e▸hm)
  have:=eg k' m hm
  simp only
  rw[cO,bH]
  ·have:=h_ k' j;omega
  ·intro i _ hi e
   exact bm (gI (by omega) (by omega) e).1
theorem Ej{k:Nat}{cs:Array Value}{T:TypeId}(lC:fV E.cU o=true)(aD:bh C.n o=true)(hI:Inv C a wa st u θ)(hd:o.dst=some k)
  (fK:(execOp a.eval o).run E.P wa=.ok (.value (.pointer (some ⟨wa.heap.size,0,none⟩))) (wa.alloc (.cells cs T (0,0))))
  (h:(bif !jL st.D k&& !bA fz k&&dy cs.toList&&Nat.ble cs.size 65536 then K {st with σ:=pH (iz st.σ k (cY k 0)) k 0 cs.toList,D:=(k,cs.size)::st.D} u else False)):
  rh E C fz o st θ K Q a wa:=by
 obtain⟨hc,h⟩:=ak h
 simp only[Bool.and_eq_true,Bool.not_eq_true',Nat.ble_eq]at hc
 obtain⟨⟨⟨h1,h2⟩,h3⟩,h4⟩:=hc
 have hk:=dk aD k hd
 refine aO fK ?_
 rw[hd]
 exact⟨_,_,_,hI.YK hk (oJ h1) (λv hv=>(lY h3 v hv).1) h4,Pg hk hI.gV hd h1 (λk m hm=>(hI.boxes k m hm).1) (by simpa using h4) _,λk' m hm=>by(have bm:k'≠k:=λe=>oJ h1 m (e▸hm));exact if_neg bm,λhn=>(by rw[lC]at hn;cases hn),h⟩
theorem Ei{cs:Array Value}{T:TypeId}(aD:bh C.n o=true)(hI:Inv C a wa st u θ)
  (fK:(execOp a.eval o).run E.P wa=.ok (.value (.pointer (some ⟨wa.heap.size,0,none⟩))) (wa.alloc (.cells cs T (0,0))))
  (h:∀(b:Nat) (w':World),pG u.toWorld w' b (.cells cs T (0,0))->K (fin o st (.pointer (some ⟨b,0,none⟩))) (u.born b w')):rh E C fz o st θ K Q a wa:=by
 obtain⟨w',hb,dC⟩:=hI.born (.cells cs T (0,0))
 exact aO fK (aM aD dC rfl (h _ _ hb))
theorem AU{t:TypeId}{z:Value}{P:Program}{w:World}(hz:(P.info? t).bind (·.zero)=some z):(Instr.alloc t true (.tuple #[])).run P w=.ok (.pointer (some ⟨w.heap.size,0,none⟩)) (w.alloc (.cells z.cells t (0,0))):=by
 simp only[Instr.alloc,Sem.run_bind,iG hz,Result.andThen_ok,newVar,newRow,run_newObj,Sem.run_pure]
 rfl
theorem JO{t:TypeId}{v:Value}{P:Program}{w:World}:(Instr.box t v).run P w=.ok (.pointer (some ⟨w.heap.size,0,none⟩)) (w.alloc (.cells v.cells t (0,0))):=by
 simp only[Instr.box,Sem.run_bind,Result.andThen_ok,newVar,newRow,run_newObj,Sem.run_pure]
 rfl
theorem Yb{t:TypeId}{x:Operand}{ks:List K1}(ho:o.op=.load t x)(aD:bh C.n o=true)(hI:Inv C a wa st u θ)(hk:kinds E.P t=some ks)
  (h:match ev st.σ x with
   | .complex .f64 k off=>match bY st.D k with
     |some m=>bif Nat.ble (off+ks.length) m&&dy (uP st.σ k off ks.length)then K (fin o st (CA (bG E.P t) (uP st.σ k off ks.length))) u else False
     |none=>False
   |v=>cX v λb off=>ZR ks λvs=>rd u.heap b off ks.length=some vs/\K (fin o st (CA (bG E.P t) vs)) u):rh E C fz o st θ K Q a wa:=by
 have hx:cn C.n x=true:=jt aD (by simp[ho,Op.operands])
 obtain⟨Fm,⟨d,hu⟩,uF⟩:=jK hk
 split at h
 ·rename_i k off he
  cases hb:bY st.D k with
  |none=>simp only[hb]at h
  |some m=>
   simp only[hb]at h
   obtain⟨hc,h⟩:=ak h
   simp only[Bool.and_eq_true,Nat.ble_eq]at hc
   obtain⟨h1,h2⟩:=hc
   obtain⟨_,c,T,b1,b2,b3,_⟩:=hI.boxes k m (iO hb)
   have hp:=lY h2
   have iV:=(jg hI hx he).1
   have yJ:=fS b2 b3 ks.length off h1 hp
   refine aO (r:=CA (bG E.P t) (uP st.σ k off ks.length)) (wb:=wa) ?_ (aM aD hI (lO hp (uF.imp id λh=>by rw[rI];exact h)) h)
   simp only[execOp,ho,iV,Instr.loadAt,Instr.sureAddr,Sem.run_bind,Sem.run_pure,Result.andThen_ok]
   rw[gm hk b1 (by omega),yJ]
   rfl
 ·obtain⟨b,off,hv,h⟩:=eV h
  obtain⟨vs,hlen,hp,eF,h⟩:=oV h
  have iV:=aR hI hx hv rfl
  by_cases hz:ks.length=0
  ·have kL:bG E.P t=true:=uF.resolve_right (by omega)
   have vc:vs=[]:=List.eq_nil_of_length_eq_zero (by omega)
   subst vc
   obtain⟨i,hi⟩:=fJ hu
   refine aO (r:=CA (bG E.P t) []) (wb:=wa) ?_ (aM aD hI (by rw[kL];rfl) h)
   simp only[execOp,ho,iV,Instr.loadAt,Instr.sureAddr,Sem.run_bind,Sem.run_pure,Result.andThen_ok,loadVar,jB hu,kL,if_true,bO hi,<- Fm,hz]
   rfl
  ·obtain⟨c,T,f,c1,c2,c3⟩:=pU hI.below eF hz
   refine aO (r:=CA (bG E.P t) vs) (wb:=wa) ?_ (aM aD hI (lO hp (uF.imp id λh=>by omega)) h)
   simp only[execOp,ho,iV,Instr.loadAt,Instr.sureAddr,Sem.run_bind,Sem.run_pure,Result.andThen_ok]
   rw[gm hk c1 c2,<- c3]
   rfl
theorem AX{b off:Nat}{vs:List Value}{K':UW->Prop}(hI:Inv C a wa st u θ)(h:sb b off vs u K')(bm:vs≠[]):
  ∃c T w',wa.heap[b]?=some (.cells c T (0,0))/\off+vs.length<=c.size/\Inv C a (gU wa b (.cells (sN c off vs) T (0,0))) st (u.Gz w') θ/\K' (u.Gz w'):=by
 obtain⟨c,T,h1,h2,h3,h4⟩:=h
 have bB:b<u.heap.size:=(Array.getElem?_eq_some_iff.1 h1).1
 have hwa:wa.heap[b]?=some (.cells c T (0,0)):=by
  rcases hI.below.block b bB with e|e
  ·rw[<- e];exact h1
  ·rw[h1]at e
   simp only[Option.some.injEq,Obj.cells.injEq]at e
   obtain⟨rfl,_,_⟩:=e
   have:vs.length≠0:=λe=>bm (List.eq_nil_of_length_eq_zero e)
   rw[Array.size_empty]at h2;omega
 have rV:b<wa.heap.size:=(Array.getElem?_eq_some_iff.1 hwa).1
 refine⟨c,T,gU u.toWorld b (.cells (sN c off vs) T (0,0)),hwa,h2,?_,h4 _ ⟨rfl,rfl,rfl,by rw[dN];exact Nat.le_refl _,tc bB,λc hc _=>jn hc⟩⟩
 refine hI.world (F:=λx=>x=b) (λ_ e=>e▸h3) ⟨rfl,rfl,rfl,by rw[dN];exact Nat.le_refl _,λc _ hc=>jn hc⟩ ?_ ⟨rfl,rfl,rfl,by show _<=(gU u.toWorld b _).heap.size;rw[dN];exact Nat.le_refl _,λc _ hc=>jn hc⟩ ?_ ?_ ?_
 ·refine⟨hI.below.os,hI.below.tape,hI.below.output,?_,λi hc=>?_⟩
  ·show(gU u.toWorld b _).heap.size<=(gU wa b _).heap.size
   rw[dN,dN];exact hI.below.size
  ·have jN:i<u.heap.size:=by
    have hh:i<(gU u.toWorld b (.cells (sN c off vs) T (0,0))).heap.size:=hc
    rw[dN]at hh;exact hh
   show(gU u.toWorld b _).heap[i]?=(gU wa b _).heap[i]?\/(gU u.toWorld b _).heap[i]?=_
   by_cases e:i=b
   ·subst e;rw[tc bB,tc rV];exact .inl rfl
   ·rw[jn e,jn e];exact hI.below.block i jN
 ·intro i h1 h2 h3
  have hh:i<(gU u.toWorld b (.cells (sN c off vs) T (0,0))).heap.size:=h3
  rw[dN]at hh
  omega
 ·intro i hc
  rw[dN];exact hI.nh i hc
 ·intro i hc _
  exact hc
theorem Tj{t:TypeId}{x y:Operand}(ho:o.op=.store t x y)(aD:bh C.n o=true)(hI:Inv C a wa st u θ)
  (h:(bif plain (ev st.σ y)&&Nat.beq (ev st.σ y).cells.size (E.P.cellsOf t)&&dy (ev st.σ y).cells.toList&&(E.P.info? t).isSome then match ev st.σ x with
   | .complex .f64 k off=>match bY st.D k with
     |some m=>bif Nat.ble (off+(ev st.σ y).cells.size) m&& !bA fz k then K {st with σ:=put (pH st.σ k off (ev st.σ y).cells.toList) o.dst undef} u else False
     |none=>False
   |v=>cX v λb off=>sb b off (ev st.σ y).cells.toList u λw'=>K (fin o st undef) w'
   else False)):rh E C fz o st θ K Q a wa:=by
 have hx:cn C.n x=true:=jt aD (by simp[ho,Op.operands])
 have hy:cn C.n y=true:=jt aD (by simp[ho,Op.operands])
 obtain⟨hc,h⟩:=ak h
 simp only[Bool.and_eq_true,beq_iff]at hc
 obtain⟨⟨⟨hpy,eg⟩,d_⟩,Fq⟩:=hc
 obtain⟨i,hi⟩:=Option.isSome_iff_exists.1 Fq
 have hp:=lY d_
 have WA:=lV hI hy hpy
 generalize hvy:ev st.σ y=vy at*
 split at h
 ·rename_i k off he
  cases hb:bY st.D k with
  |none=>simp only[hb]at h
  |some m=>
   simp only[hb]at h
   obtain⟨hc,h⟩:=ak h
   simp only[Bool.and_eq_true,Nat.ble_eq,Bool.not_eq_true']at hc
   obtain⟨h1,h2⟩:=hc
   have hkm:=iO hb
   obtain⟨c,T,b1,b2,dC⟩:=hI.acz (o:=off) (vs:=vy.cells.toList) hkm (by simpa using h1) (λv hv=>(hp v hv).1)
   have iV:=(jg hI hx he).1
   refine BU (wb:=gU wa (θ k) (.cells (sN c off vy.cells.toList) T (0,0))) ?_ ⟨_,_,_,dC.aZ o.dst (dk aD) (v:=undef) rfl,?_,λ_ _ _=>rfl,λ_=>rfl,h⟩
   ·simp only[execOp,ho,iV,WA,Instr.storeAt,Instr.sureAddr,Sem.run_bind,Sem.run_pure,Result.andThen_ok]
    rw[tf hi eg b1 (by omega) (λv hv=>(hp v hv).2)]
    rfl
   ·have hP1:bQ C.n fz [] st {st with σ:=pH st.σ k off vy.cells.toList}:=by
     refine⟨λi hi _=>?_,λ_ h=>h,λk' eQ m' nv j hj=>?_⟩
     ·simp only;rw[fD _ _ _ (Nat.lt_of_lt_of_le hi hI.gV)]
     ·have bm:k'≠k:=λe=>by
       have:=cV.2 (e▸eQ);rw[h2]at this;cases this
      simp only
      rw[cO]
      intro i _ hi e
      have:=(hI.boxes k' m' nv).1
      have:=(hI.boxes k m hkm).1
      simp only[Array.length_toList]at hi
      exact bm (gI (by omega) (by omega) e).1
    have hP2:=bQ.fin (n:=C.n) (fz:=fz) {st with σ:=pH st.σ k off vy.cells.toList} o.dst (dk aD) hI.gV undef
    have:=hP1.trans hP2
    simpa using this
 ·obtain⟨b,off,hv,h⟩:=eV h
  have iV:=aR hI hx hv rfl
  by_cases hz:vy.cells.toList=[]
  ·obtain⟨c,T,h1,h2,h3,h4⟩:=h
   rw[hz]at h4
   simp only[sN]at h4
   have Mr:vy.cells.size=0:=by have:=congrArg List.length hz;simpa using this
   have hS:Sto u.toWorld u.toWorld b (.cells c T (0,0)):=⟨rfl,rfl,rfl,Nat.le_refl _,h1,λ_ _ _=>rfl⟩
   refine BU (wb:=wa) ?_ (aM aD (u':=u.Gz u.toWorld) (θ:=θ) ?_ rfl (h4 _ hS))
   ·simp only[execOp,ho,iV,WA,Instr.storeAt,Instr.sureAddr,Sem.run_bind,Sem.run_pure,Result.andThen_ok,storeVar,bO hi]
    rw[if_neg (by omega),hz]
    simp[storeCells]
   ·exact hI
  ·obtain⟨c,T,w',c1,c2,dC,hK⟩:=AX hI h hz
   simp only[Array.length_toList]at c2
   refine BU (wb:=gU wa b (.cells (sN c off vy.cells.toList) T (0,0))) ?_ (aM aD dC rfl hK)
   simp only[execOp,ho,iV,WA,Instr.storeAt,Instr.sureAddr,Sem.run_bind,Sem.run_pure,Result.andThen_ok]
   rw[tf hi eg c1 c2 (λv hv=>(hp v hv).2)]
   rfl
theorem acN{op:BinOp}{t t':TypeId}{x y:Operand}(ho:o.op=.binOp op t x y t')(aD:bh C.n o=true)(hI:Inv C a wa st u θ)(h:iX E.P op t (ev st.σ x) (ev st.σ y) λv=>K (fin o st v) u):
  rh E C fz o st θ K Q a wa:=by
 have hx:cn C.n x=true:=jt aD (by simp[ho,Op.operands])
 have hy:cn C.n y=true:=jt aD (by simp[ho,Op.operands])
 obtain⟨px,py,v,hp,hK,hr⟩:=zi h x y
 refine aO (r:=v) (wb:=wa) ?_ (aM aD hI hp hK)
 simp only[execOp,ho]
 rw[lV hI hx px,lV hI hy py]
 rw[Sem.run_bind,hr]
 rfl
end
end Go.az
