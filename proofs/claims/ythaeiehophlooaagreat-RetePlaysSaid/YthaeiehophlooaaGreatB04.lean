import Derived.Test.YthaeiehophlooaaGreatB03
open Bool (and_eq_true)
open List (all_cons all_eq_true getElem?_drop getElem?_map getElem?_take length_map mem_iff_getElem? mem_of_getElem? replicate)
open Nat (add_assoc add_mul beq ble blt le_refl mul_comm)
open Option (map_some)
set_option linter.all false
namespace Go.aP
open Go.RowKit
inductive KV where
 |raw (k:K1)
 |list (sz:Nat)
 |fn
 deriving DecidableEq,Inhabited
@[reducible] def KV.T:KV->Type
 | .raw k=>k.T
 | .list _=>Fl×Lq
 | .fn=>Fn×List PV×List PV
def KV.p:(k:KV)->k.T->PV
 | .raw k,x=>.raw (k.v x)
 | .list e,x=>.list e x.1 x.2
 | .fn,x=>.fn x.1 x.2.1 x.2.2
def La:Fl->Lq->Option (Fl×Lq)
 | .nil,[]=>some (.nil,[])
 |_,_=>none
def KV.get:(k:KV)->PV->Option k.T
 | .raw k,.raw v=>k.get v
 | .raw .slice,.list _ .nil _=>some (none,0,0)
 | .list e,.list g fl rows=>bif beq e g then some (fl,rows)else La fl rows
 | .fn,.fn f a b=>some (f,a,b)
 |_,_=>none
def KV.er:KV->K1
 | .raw k=>k
 | .list _=>.slice
 | .fn=>.fn
def aaW:KV->(PV->Prop)->Prop
 | .raw k,F=>exK k λv=>F (.raw v)
 | .list g,F=>∃(fl:Fl) (e:Lq),F (.list g fl e)
 | .fn,F=>∃(f:Fn) (a b:List PV),F (.fn f a b)
def Py:List KV->(List PV->Prop)->Prop
 |[],F=>F []
 |k::g,F=>aaW k λv=>Py g λe=>F (v::e)
inductive US where
 |one (k:KV)
 |agg (ks:List KV)
 |box (ks:List KV)
 deriving DecidableEq,Inhabited
def US.er:US->Kd
 | .one k=>.one k.er
 | .agg e=>.agg (e.map KV.er)
 | .box e=>.box (e.map KV.er)
@[reducible] def TLP:List KV->Type
 |[]=>Unit
 |[k]=>k.T
 |k::g::e=>k.T×TLP (g::e)
def GY:(e:List KV)->TLP e->List PV
 |[],_=>[]
 |[k],x=>[k.p x]
 |k::g::e,x=>k.p x.1::GY (g::e) x.2
def pj:(e:List KV)->List PV->Option (TLP e)
 |[],[]=>some ()
 |[k],[v]=>k.get v
 |k::h::e,v::g=>match k.get v,pj (h::e) g with
  |some x,some y=>some (x,y)
  |_,_=>none
 |_,_=>none
@[reducible] def US.T:US->Type
 | .one k=>k.T
 | .agg e=>TLP e
 | .box e=>TLP e
abbrev tc:=List (Nat×US)
def tc.er(l:tc):Live:=l.map λx=>(x.1,x.2.er)
@[reducible] def zP:tc->Type
 |[]=>Unit
 |[x]=>x.2.T
 |x::y::l=>x.2.T×zP (y::l)
abbrev uZ:=Nat->PV
structure dK where
 σ:uZ
 D:List (Nat×Nat)
def aI(σ:uZ)(t:Nat)(v:PV):uZ:=λi=>bif beq i t then v else σ i
def KQ(σ:uZ)(d:Option Nat)(v:PV):uZ:=match d with|some t=>aI σ t v|none=>σ
def Fa(σ:uZ)(k:Nat):Nat->List PV->uZ
 |_,[]=>σ
 |j,v::e=>Fa (aI σ (gx k j) v) k (j+1) e
def FF(σ:uZ)(k:Nat):Nat->Nat->List PV
 |_,0=>[]
 |j,m+1=>σ (gx k j)::FF σ k (j+1) m
def B_(st:dK):(x:Nat×US)->Option x.2.T
 |(t,.one k)=>k.get (st.σ t)
 |(t,.agg e)=>match st.σ t with
  | .agg a=>pj e a
  |_=>none
 |(t,.box e)=>match st.σ t with
  | .box k o=>bif (beq k t&&beq o 0)&&im st.D t e.length then pj e (FF st.σ t 0 e.length)else none
  |_=>none
def q_(st:dK):(l:tc)->Option (zP l)
 |[]=>some ()
 |[x]=>B_ st x
 |x::y::l=>match B_ st x,q_ st (y::l)with
  |some a,some b=>some (a,b)
  |_,_=>none
def KM(st:dK):(x:Nat×US)->x.2.T->dK
 |(t,.one k),v=>{st with σ:=aI st.σ t (k.p v)}
 |(t,.agg e),v=>{st with σ:=aI st.σ t (.agg (GY e v))}
 |(t,.box e),v=>{st with σ:=Fa (aI st.σ t (.box t 0)) t 0 (GY e v),D:=bif im st.D t e.length then st.D else(t,e.length)::st.D}
def Bc(st:dK):(l:tc)->zP l->dK
 |[],_=>st
 |[x],v=>KM st x v
 |x::y::l,v=>Bc (KM st x v.1) (y::l) v.2
structure u_ where
 live:tc
 fN:List (Nat×Nat)
def u_.er(c:u_):Cut:=⟨c.live.er,c.fN⟩
def Ai(σ:uZ):List (Nat×Nat)->uZ
 |[]=>σ
 |(k,m)::l=>Ai (Fa (aI σ k (.box k 0)) k 0 (replicate m .aU)) l
def Sk(v:PV)(k:Nat):Bool:=
 match v with
 | .box e o=>beq e k&&beq o 0
 |_=>false
def qA(st:dK):List (Nat×Nat)->Bool
 |[]=>true
 |(k,m)::l=>im st.D k m&&Sk (st.σ k) k&&qA st l
def MS(σ:uZ)(e:List Nat):uZ:=λt=>bif blt t 65536&&cT e t then .aU else σ t
def ZP(st:dK)(e:List Nat)(c:u_)(x:zP c.live):dK:=
 Bc {st with σ:=Ai (MS st.σ e) c.fN} c.live x
def mX(P:Program)(r:Bool):Nat->TypeId->Option (List KV)
 |0,_=>none
 |f+1,t=>match P.underlying t with
  |some (.int k)=>some [.raw (.int k)]
  |some .bool=>some [.raw .bool]
  |some .string=>some [.raw .str]
  |some (.slice e)=>some [bif r then .raw .slice else .list (P.cellsOf e)]
  |some (.pointer _)=>some [.raw .ptr]
  |some (.func ..)=>some [.fn]
  |some (.map ..)=>some [.raw .map]
  |some (.struct h)=>h.toList.foldr (λx acc=>match mX P r f x.type,acc with|some a,some b=>some (a++b)|_,_=>none) (some [])
  |some (.array n e)=>match mX P r f e with
   |some g=>some ((replicate n g).flatten)
   |none=>none
  |_=>none
def lZ(P:Program)(r:Bool)(t:TypeId):Option (List KV):=
 match mX P r 8 t with
 |some e=>bif beq e.length (P.cellsOf t)then(bif dx P t||beq e.length 1 then some e else none)else none
 |none=>none
def UH:Bool->List PV->PV
 |true,e=>.agg e
 |false,[v]=>v
 |_,_=>.aU
def Th(P:Program)(r:Bool)(t:TypeId)(F:PV->Prop):Prop:=
 match lZ P r t with
 |some g=>Py g λe=>F (UH (dx P t) e)
 |none=>False
def Nv(P:Program)(r:Bool):List TypeId->(List PV->Prop)->Prop
 |[],F=>F []
 |t::g,F=>Th P r t λv=>Nv P r g λe=>F (v::e)
def Px(P:Program)(r:Bool)(t:TypeId)(F:PV->Prop):Prop:=
 match P.underlying t with
 |some (.tuple g)=>Nv P r g.toList λe=>F (.aB e)
 |_=>Th P r t F
def Di:Value->PV
 | .slice none 0 0=>.list 0 .nil []
 | .slice .. | .agg _| .tuple _| .complex .. | .iface .. =>.aU
 | .func f a b=>bif beq a.size 0&&beq b.size 0 then .fn f [] []else .aU
 |v=>.raw v
def aV(ps:List PV):Bool:=ps.all PV.cell
def JG(ps:List PV):Bool:=ps.all PV.ok
def ofV:Value->PV
 | .agg a=>bif aV (a.toList.map Di)then .agg (a.toList.map Di)else .aU
 | .tuple a=>bif JG (a.toList.map Di)then .aB (a.toList.map Di)else .aU
 |v=>Di v
def ZI(e:Nat):PV->PV
 | .list 0 fl []=>.list e fl []
 |p=>p
def Bw:List KV->List PV->List PV
 | .list g::e,p::ps=>ZI g p::Bw e ps
 |_::e,p::ps=>p::Bw e ps
 |_,ps=>ps
def gp(P:Program)(t:TypeId)(p:PV):PV:=
 match lZ P false t with
 |some e=>match p with
  | .agg cs=>.agg (Bw e cs)
  | .list 0 fl []=>match e with
    |[.list g]=>.list g fl []
    |_=>p
  |p=>p
 |none=>p
def sX(σ:uZ):Operand->PV
 | .tmp t=>σ t
 | .const v=>ofV v
 | .global g=>pP g 0
 | .func f=>.fn (.func f) [] []
def cb:PV->PV
 | .list e _ rows=>.list e .sh rows
 |p=>p
def zG:PV->PV
 | .agg cs=>.agg (cs.map cb)
 |p=>p
def wk:PV->PV
 | .agg cs=>.agg (cs.map cb)
 | .aB e=>.aB (e.map λp=>zG (cb p))
 |p=>cb p
def PT(P:Program)(t:TypeId)(p:PV):PV:=zG (gp P t p)
def sY(P:Program):List TypeId->List PV->List PV
 |t::e,p::ps=>PT P t p::sY P e ps
 |_,ps=>ps
def ay(μ:Mem)(b o n:Nat):Option (List PV):=
 match μ b with
 |some (.cells _ cs)=>if o+n<=cs.length then some ((cs.drop o).take n)else none
 |some (.ro _ cs)=>if o+n<=cs.length then some ((cs.drop o).take n)else none
 |_=>none
def az(row:List PV)(o n:Nat):Option (List PV):=if o+n<=row.length/\0<n then some ((row.drop o).take n)else none
def du(cs:List PV)(o:Nat)(e:List PV):List PV:=cs.take o++e++cs.drop (o+e.length)
def stM(b o:Nat)(g:List PV)(μ:Mem)(K:Mem->Prop):Prop:=
 ∃(T:TypeId) (e:List PV),μ b=some (.cells T e)/\o+g.length<=e.length/\K (μ.set b (some (.cells T (du e o g))))
def aM(v:PV)(F:Nat->Nat->Prop):Prop:=
 match v with
 | .raw (.pointer (some ⟨b,o,none⟩))=>F b o
 |_=>False
def aa(P:Program)(g:FuncId)(h:List PV)(μ:Mem)(K:Kq):Prop:=
 ∀(Z:Fz) (u:UW) (j:List Value),Good Z u μ->(∀b,u.gk b->b<u.heap.size)->br Z h j->dJ P g=true/\oB P g j.toArray u λv r=>∃i e p,Ext Z μ u.heap.size i e/\Good i r e/\bW i p v/\K p e
def dh(P:Program)(g:FuncId)(h:List PV)(μ:Mem)(K:Kq):Prop:=
 ∀(Z:Fz) (u:UW) (j:List Value),Good Z u μ->(∀b,u.gk b->b<u.heap.size)->br Z h j->dJ P g=true/\oB P g j.toArray ⟨u.toWorld,λ_=>False⟩ λv r=>∃i e p,Ext Z M0 u.heap.size i e/\Good i r e/\bW i p v/\K p e
def yT(P:Program)(f:PV)(g:List PV)(μ:Mem)(K:Kq):Prop:=
 ∀(Z:Fz) (u:UW) (fv:Value) (i:List Value),Good Z u μ->(∀b,u.gk b->b<u.heap.size)->bW Z f fv->br Z g i->pX P fv i u λv j=>∃h e p,Ext Z μ u.heap.size h e/\Good h j e/\bW h p v/\K p e
def bP(P:Program)(f:PV)(e:List PV)(μ:Mem)(K:Kq):Prop:=
 match f with
 | .fn (.func g) first h=>aa P g (first++e++h) μ K
 |f=>yT P f e μ K
def CT(P:Program)(q:Bool)(f:PV)(e:List PV)(μ:Mem)(K:Kq):Prop:=
 bif q then(match f with
  | .fn (.func g) first i=>dh P g (first++e++i) μ (λp h=>K p (μ.or h))
  |_=>False)else bP P f e μ K
def bk(P:Program)(f:PV)(r:List PV->(Option Code->Mem->Prop)->Mem->Prop)(K:Option Code->Mem->Prop)(μ:Mem):Prop:=
 (∃g a b,f=.fn (.func g) a b)/\∀(l:Nat) (h:Option Code->Ob),μ l=none->
  (∀(w:List PV) (j:Mem) (R:Option Code->Mem->Prop),j l=none->r w R j->
   bP P (.fn (.yield l) [] []) w (j.set l (some (h none))) λv i=>∃p e,v=pB p.isNone/\e l=none/\i=e.set l (some (h p))/\R p e)->
  bP P f [.fn (.yield l) [] []] (μ.set l (some (h none))) λ_ i=>∃p e,e l=none/\i=e.set l (some (h p))/\K p e
structure kM where
 P:Program
 n:Nat
 fA:List Nat
 loops:List (Nat×u_)
 jt:List (Nat×u_)
 sa:List (Nat×List TypeId)
 cst:List Nat
 wrt:List Nat
 lb:List Nat
def kM.er(E:kM):Env:=⟨E.P,E.n,E.fA,E.loops.map λx=>(x.1,x.2.er),E.jt.map λx=>(x.1,x.2.er),E.sa⟩
def cW(o:Oper)(st:dK)(v:PV):dK:={st with σ:=KQ st.σ o.dst v}
def Jz(P:Program)(e:Array Field):List (Nat×PV)->List PV->Option (List PV)
 |[],cs=>some cs
 |(i,v)::ps,cs=>match e[i]? with
  |some f=>bif beq v.cells.length (P.cellsOf f.type)&&ble (f.offset+v.cells.length) cs.length&&(P.info? f.type).isSome then
    Jz P e ps (cs.take f.offset++v.cells++cs.drop (f.offset+v.cells.length))else none
  |none=>none
def nJ(P:Program)(t:TypeId)(z:Value):PV:=gp P t (ofV z)
def Cv(size:Nat):Nat->List (Nat×PV)->Option (Lq)
 |_,[]=>some []
 |i,(j,v)::ps=>bif beq i j&&beq v.cells.length size then(match Cv size (i+1) ps with|some l=>some (v.cells.map cb::l)|none=>none)else none
def abv(P:Program)(t:TypeId)(ps:List (Nat×PV)):Option (List PV):=
 match(P.info? t).bind (·.zero),P.underlying t with
 |some z,some (.struct g)=>bif (nJ P t z).ok&&dx P t&&g.toList.all λf=>(P.info? f.type).isSome then
   (match nJ P t z with
   | .agg cs=>Jz P g (ps.map λp=>(p.1,match g[p.1]? with|some f=>gp P f.type p.2|none=>p.2)) cs
   |_=>none)else none
 |some z,some (.array len e)=>bif (P.info? e).isSome&&beq ps.length len&&beq z.cells.size (len*P.cellsOf e)then
   (match Cv (P.cellsOf e) 0 (ps.map λp=>(p.1,gp P e p.2))with
   |some rows=>some rows.flatten
   |none=>none)else none
 |_,_=>none
def aaY(P:Program)(e:TypeId)(g:Nat)(cs:List PV):Option PV:=
 bif (P.underlying e).isSome&&ble (g+P.cellsOf e) cs.length then(bif dx P e then some (.agg ((cs.drop g).take (P.cellsOf e)))else cs[g]?)else none
def aaS(P:Program)(t:TypeId)(f:Nat)(cs:List PV):Option PV:=
 match P.underlying t with
 |some (.struct e)=>match e[f]? with
  |some x=>bif (P.underlying x.type).isSome&&ble (x.offset+P.cellsOf x.type) cs.length then
    (bif dx P x.type then some (.agg ((cs.drop x.offset).take (P.cellsOf x.type)))else cs[x.offset]?)else none
  |none=>none
 |_=>none
def ic(e:Operand->PV)(x:Option Operand)(d:Int):Option Int:=
 match x with
 |none=>some d
 |some x=>match e x with
  | .raw (.int _ i)=>some i
  |_=>none
def qJ(size g:Nat)(e:Lq):Bool:=bif beq g size then true else(match e with|[]=>true|_=>false)
def aby(e:Lq)(A B:Prop):Prop:=match e with|[]=>A|_::_=>B
def Xu(q:Bool)(size:Nat)(fl:Fl)(n m:Nat)(μ:Mem)(K:Fl->Mem->Prop):Prop:=
 match fl with
 | .nr=>∀b c,μ b=none->n+m<=c->K (.nM b c) (μ.set b (some (.nM ((n+m)*size) (c*size))))
 | .nil=>∀b c,μ b=none->n+m<=c->K (.nM b c) (μ.set b (some (.nM ((n+m)*size) (c*size))))
 | .nM b c=>bif q then False else μ b=some (.nM (n*size) (c*size))/\∀e g,(e=b\/μ e=none)->n+m<=g->
   K (.nM e g) ((μ.set b none).set e (some (.nM ((n+m)*size) (g*size))))
 | .sh=>False
def aR(q:Bool)(size g:Nat)(fl:Fl)(e new:Lq)(μ:Mem)(K:Fl->Mem->Prop):Prop:=
 (e.length+new.length)*g<=140737488355328/\e.length+new.length<4611686018427387904/\aby new (K fl μ) (Xu q size fl e.length new.length μ K)
def FV(size:Nat)(μ:Mem)(y:PV)(F:Nat->List PV->Prop):Prop:=
 match y with
 | .list g _ rows=>bif qJ size g rows then F rows.length rows.flatten else False
 | .raw (.slice (some ⟨b,o,none⟩) m _)=>∃e,ay μ b o (m*size)=some e/\F m e
 |_=>False
def eB(size g:Nat)(e:TypeId)(a:Option Addr)(n c:Nat)(y:PV)(μ:Mem)(K:Option Addr->Nat->Nat->Mem->Prop):Prop:=
 FV size μ y λm new=>(n+m)*g<=140737488355328/\n+m<4611686018427387904/\n<=c/\((m=0/\(n≠0->∃b o h,a=some ⟨b,o,none⟩/\ay μ b o (n*size)=some h)/\K a n c μ)\/(m≠0/\aV new=true/\
  (n+m<=c->∃b o T i,a=some ⟨b,o,none⟩/\μ b=some (.cells T i)/\o+c*size<=i.length/\K a (n+m) c (μ.set b (some (.cells T (du i (o+n*size) new)))))/\
  (c<n+m->∃h,((n=0/\h=[])\/∃b o,a=some ⟨b,o,none⟩/\ay μ b o (n*size)=some h)/\∀r j,μ r=none->n+m<=j->K (some ⟨r,0,none⟩) (n+m) j (μ.set r (some (.cells e (h++new++replicate ((j-(n+m))*size) .aU)))))))
def NR(P:Program)(q:Bool)(e:TypeId)(x y:PV)(μ:Mem)(K:Kq):Prop:=
 match(P.info? e).map (λi=>(i.size,i.bytes,i.zero.map λz=>z.cells.toList.length))with
 |some (size,bytes,some zl)=>bif beq zl size&& !Nat.beq size 0 then(match x,y with
  | .list h fl rows,.list C _ new=>bif qJ size h rows&&qJ size C new then aR q size bytes fl rows new μ λr g=>K (.list size r (rows++new)) g else False
  | .raw (.slice a n c),y=>bif q then False else eB size bytes e a n c y μ λA j w g=>K (.raw (.slice A j w)) g
  |_,_=>False)else False
 |_=>False
def jU:List PV->Option (List Value)
 |[]=>some []
 | .raw v::ps=>match jU ps with|some e=>some (v::e)|none=>none
 |_=>none
def Ug(P:Program)(op:BinOp)(t:TypeId)(x y:PV)(K:PV->Prop):Prop:=
 match x,y with
 | .raw a,.raw b=>qb P op t a b λv=>K (.raw v)
 | .agg a,.agg b=>match jU a,jU b with
   |some a,some b=>qb P op t (.agg a.toArray) (.agg b.toArray) λv=>K (.raw v)
   |_,_=>False
 | .fn f _ _,.raw .nilFunc=>qb P op t (.func f #[] #[]) .nilFunc λv=>K (.raw v)
 |_,_=>False
def BO(e:Operand->PV):List Operand->Option (IntKind×List Int)
 |[]=>none
 |[x]=>match e x with| .raw (.int k i)=>some (k,[i])|_=>none
 |x::l=>match e x,BO e l with
  | .raw (.int k i),some (g,is)=>bif decide (k=g)then some (k,i::is)else none
  |_,_=>none
def AB(r:Bool)(p:PV):PV:=bif r then(match p with| .list _ .nil _=>.raw (.slice none 0 0)|p=>p)else p
def Rn(lb:List Nat)(k:Nat):Nat->List PV->List PV
 |_,[]=>[]
 |i,c::cs=>AB (cT lb k||cT lb (2000000+1000*k+i)) c::Rn lb k (i+1) cs
def OC(lb:List Nat)(k:Option Nat)(cs:List PV):List PV:=match k with|some k=>Rn lb k 0 cs|none=>cs
def acP(x:Operand):Option Nat:=match x with| .tmp a=>some a|_=>none
def xQ(E:kM)(o:Oper):Bool:=match o.dst with|some d=>cT E.lb d|none=>false
def acK(E:kM)(o:Oper):Bool:=match o.dst with|some d=>cT E.wrt d|none=>false
def V1b(E:kM)(q:Bool)(o:Oper)(st:dK)(μ:Mem)(b:Builtin)(g:List Operand)(ts:List TypeId)(K:dK->Mem->Prop):Prop:=
 match b,g,ts with
 | .len,[x],[t]=>match E.P.underlying t,sX st.σ x with
   |some (.slice _),.list _ _ rows=>K (cW o st (pI rows.length)) μ
   |some (.slice _),.raw (.slice _ n _)=>K (cW o st (pI n)) μ
   |some .string,.raw (.string s)=>K (cW o st (pI s.size)) μ
   |some (.array n _),v=>bif v.ok then K (cW o st (pI n)) μ else False
   |_,_=>False
 | .append,[x,y],[t,j]=>match E.P.underlying t,E.P.underlying j with
   |some (.slice e),some (.slice _)=>NR E.P q e (AB (xQ E o) (sX st.σ x)) (sX st.σ y) μ λp h=>K (cW o st p) h
   |_,_=>False
 | .min,xs,_=>match BO (sX st.σ) xs with
   |some (k,i::is)=>K (cW o st (.raw (.int k (is.foldl (λx y=>if y<x then y else x) i)))) μ
   |_=>False
 | .max,xs,_=>match BO (sX st.σ) xs with
   |some (k,i::is)=>K (cW o st (.raw (.int k (is.foldl (λx y=>if y>x then y else x) i)))) μ
   |_=>False
 |_,_,_=>False
def ON(E:kM)(q:Bool)(fz:List Nat)(o:Oper)(st:dK)(μ:Mem)(t:TypeId)(cs:List PV)(K:dK->Mem->Prop):Prop:=
 match o.dst with
 |none=>False
 |some k=>bif cT E.fA k then
   (bif !q&&(!nY st.D k&& !cT fz k&&aV cs&&ble cs.length 65536)then K {st with σ:=Fa (aI st.σ k (.box k 0)) k 0 cs,D:=(k,cs.length)::st.D} μ else False)
  else bif cT E.cst k then(bif aV cs then K (cW o st (.bt (cs.map cb) 0)) μ else False)
  else ∀b,μ b=none->K (cW o st (pP b 0)) (μ.set b (some (.cells t cs)))
def V1(E:kM)(q:Bool)(fz:List Nat)(o:Oper)(st:dK)(μ:Mem)(K:dK->Mem->Prop):Prop:=
 let A:=sX st.σ
 let r:=xQ E o
 match o.op with
 | .move x| .assign x=>K (cW o st (gp E.P o.type (A x))) μ
 | .pick c a b=>match A c with
   | .raw (.bool t)=>ab t (K (cW o st (gp E.P o.type (A a))) μ) (K (cW o st (gp E.P o.type (A b))) μ)
   |_=>False
 | .alloc t=>match(E.P.info? t).bind (·.zero)with
   |none=>False
   |some z=>bif (nJ E.P t z).ok then ON E q fz o st μ t (OC E.lb o.dst (nJ E.P t z).cells) K else False
 | .box t x=>bif (A x).ok then ON E q fz o st μ t (OC E.lb o.dst (gp E.P t (A x)).cells) K else False
 | .build t ps=>bif ps.toList.all λp=>(A p.2).ok then match abv E.P t (ps.toList.map λp=>(p.1,A p.2))with
   |some G=>K (cW o st (.agg G)) μ
   |none=>False else False
 | .buildSlice t len ps=>bif (ps.toList.all λp=>(A p.2).ok)&&beq ps.toList.length len then match wm E.P t with
   |none=>False
   |some e=>match Cv (E.P.cellsOf e) 0 (ps.toList.map λp=>(p.1,gp E.P e (A p.2)))with
    |some rows=>bif ble rows.flatten.length 65536&&((E.P.info? e).bind (·.zero)).isSome&& !Nat.beq (E.P.cellsOf e) 0 then
      (bif acK E o then ∀b,μ b=none->K (cW o st (.raw (.slice (some ⟨b,0,none⟩) len len))) (μ.set b (some (.cells e (OC E.lb o.dst rows.flatten))))
      else K (cW o st (.list (E.P.cellsOf e) .nr rows)) μ)else False
    |none=>False else False
 | .load t x=>match lZ E.P r t with
   |none=>False
   |some I=>match A x with
    | .box k w=>match fh st.D k with
      |some m=>bif ble (w+I.length) m&&aV (FF st.σ k w I.length)then K (cW o st (UH (dx E.P t) (FF st.σ k w I.length))) μ else False
      |none=>False
    | .bt row w=>Py I λG=>az row w I.length=some G/\K (cW o st (UH (dx E.P t) G)) μ
    |v=>aM v λb w=>Py I λG=>ay μ b w I.length=some G/\K (cW o st (UH (dx E.P t) G)) μ
 | .store t x y=>bif (A y).ok&&beq (gp E.P t (A y)).cells.length (E.P.cellsOf t)&&(E.P.info? t).isSome then match A x with
   | .box k w=>match fh st.D k with
     |some m=>bif ble (w+(gp E.P t (A y)).cells.length) m&& !cT fz k then K {st with σ:=KQ (Fa st.σ k w (gp E.P t (A y)).cells) o.dst (.aB [])} μ else False
     |none=>False
   |v=>bif q then False else aM v λb w=>stM b w (OC E.lb (acP x) (gp E.P t (A y)).cells) μ λC=>K (cW o st (.aB [])) C
   else False
 | .nilCheck x=>match A x with
   | .box k w=>K (cW o st (.box k w)) μ
   | .bt row w=>K (cW o st (.bt row w)) μ
   | .raw (.pointer a)=>nn a (K (cW o st (.raw (.pointer a))) μ)
   | .fn f a b=>Cb f (K (cW o st (.fn f a b)) μ)
   |_=>False
 | .binOp op t x y _=>Ug E.P op t (A x) (A y) λv=>K (cW o st v) μ
 | .unOp op _ x=>match op,A x with
   | .not,.raw (.bool b)=>K (cW o st (pB (!b))) μ
   | .neg,.raw (.int k n)=>K (cW o st (.raw (.int k (k.wrap (0-n))))) μ
   |_,_=>False
 | .convert src dst x=>match A x with
   | .raw v=>match pv E.P (convert src dst v)with
     |some H=>bif plain H&&one H then K (cW o st (.raw H)) μ else False
     |none=>False
   |_=>False
 | .makeInterface t x=>bif (A x).ok&&(match E.P.underlying t with|some (.interface _)=>false|some _=>true|none=>false)then K (cW o st (.iface t (A x))) μ else False
 | .makeSlice t x y=>match E.P.underlying t,A x,A y with
   |some (.slice e),.raw (.int _ i),.raw (.int _ j)=>match(E.P.info? e).map (λi=>(i.size,i.bytes,i.zero.map λz=>(nJ E.P e z).cells))with
    |some (size,bytes,some zero)=>bif beq zero.length size&& !Nat.beq size 0&&aV zero then
      0<=i/\i<=j/\j<4611686018427387904/\j.toNat*bytes<=140737488355328/\
      ∀b,μ b=none->K (cW o st (.raw (.slice (some ⟨b,0,none⟩) i.toNat j.toNat))) (μ.set b (some (.cells e (replicate j.toNat zero).flatten)))else False
    |_=>False
   |_,_,_=>False
 | .makeFunc fn first captured=>bif first.toList.all (λx=>(A x).ok)&&captured.toList.all (λx=>(A x).ok)then
   K (cW o st (.fn fn (first.toList.map λx=>wk (A x)) (captured.toList.map λx=>wk (A x)))) μ else False
 | .slice t x Q L J=>match E.P.underlying t,A x with
   |some (.slice e),.list O _ rows=>match ic A Q 0,ic A L rows.length,ic A J rows.length with
    |some l,some h,some m=>bif (J.isSome&&L.isNone)||(E.P.info? e).isNone|| !qJ (E.P.cellsOf e) O rows then False else
      match J with
      |none=>0<=l/\l<=h/\h<=rows.length/\K (cW o st (.list (E.P.cellsOf e) .sh ((rows.take h.toNat).drop l.toNat))) μ
      |some _=>0<=l/\l<=h/\h<=rows.length/\m=h/\K (cW o st (.list (E.P.cellsOf e) .nr ((rows.take h.toNat).drop l.toNat))) μ
    |_,_,_=>False
   |some (.slice e),.raw (.slice a len cap)=>match ic A Q 0,ic A L len,ic A J cap with
    |some l,some h,some m=>(bif (J.isSome&&L.isNone)||(E.P.info? e).isNone then False else gq a/\0<=l/\l<=h/\h<=m/\m<=cap/\K (cW o st (.raw (.slice (zI a l.toNat m.toNat (E.P.cellsOf e)) (h.toNat-l.toNat) (m.toNat-l.toNat)))) μ)
    |_,_,_=>False
   |some .string,.raw (.string s)=>match J with
    |some _=>False
    |none=>match ic A Q 0,ic A L s.size with
     |some l,some h=>0<=l/\l<=h/\h<=s.size/\K (cW o st (pS (s.extract l.toNat h.toNat))) μ
     |_,_=>False
   |_,_=>False
 | .fieldAddr t x f=>match Dv E.P t f with
   |none=>False
   |some d=>match A x with
    | .box k w=>K (cW o st (.box k (w+d))) μ
    | .bt row w=>K (cW o st (.bt row (w+d))) μ
    |v=>aM v λb w=>K (cW o st (pP b (w+d))) μ
 | .field t x f=>match A x with
   | .agg cs=>match aaS E.P t f cs with
     |some v=>K (cW o st v) μ
     |none=>False
   |_=>False
 | .indexAddr t x i=>match E.P.underlying t,A x,A i with
   |some (.slice e),.list O _ rows,.raw (.int _ j)=>bif (E.P.info? e).isSome&&beq O (E.P.cellsOf e)then 0<=j/\∃row,rows[j.toNat]?=some row/\K (cW o st (.bt row 0)) μ else False
   |some (.slice e),.raw (.slice a len _),.raw (.int _ j)=>bif (E.P.info? e).isSome then bh a λb w=>0<=j/\j<len/\K (cW o st (pP b (w+j.toNat*E.P.cellsOf e))) μ else False
   |some (.array len e),.box k w,.raw (.int _ j)=>bif decide (0<=j)&&decide (j<len)&&(E.P.info? e).isSome then K (cW o st (.box k (w+j.toNat*E.P.cellsOf e))) μ else False
   |_,_,_=>False
 | .index t x i=>match E.P.underlying t,A x,A i with
   |some .string,.raw (.string s),.raw (.int _ j)=>0<=j/\∃c:UInt8,s[j.toNat]?=some c/\K (cW o st (.raw (.int .u8 c.toNat))) μ
   |some (.array len e),.agg cs,.raw (.int _ j)=>bif (E.P.info? e).isSome then 0<=j/\j<len/\Th E.P r e λv=>aaY E.P e (j.toNat*E.P.cellsOf e) cs=some v/\K (cW o st v) μ else False
   |_,_,_=>False
 | .extract x i=>match A x with
   | .aB G=>match G[i]? with
     |some v=>bif v.ok then K (cW o st v) μ else False
     |none=>False
   |_=>False
 | .call c=>match c.callee with
   | .builtin b=>V1b E q o st μ b c.args.toList c.argTypes.toList K
   | .value f=>bif c.args.toList.all (λx=>(A x).ok)then
     CT E.P q (A f) (sY E.P c.argTypes.toList (c.args.toList.map A)) μ λv C=>Px E.P r o.type λH=>v=H/\K (cW o st H) C else False
   | .invoke x name=>bif c.args.toList.all (λx=>(A x).ok)then match A x with
     | .iface t p=>match pv E.P (method (E.P.types.size+Made.depth) t undef name)with
       |some (g,_)=>(∀v,pv E.P (method (E.P.types.size+Made.depth) t v name)=some (g,v))/\
         CT E.P q (.fn (.func g) [] []) (zG p::sY E.P c.argTypes.toList (c.args.toList.map A)) μ λv C=>Px E.P r o.type λH=>v=H/\K (cW o st H) C
       |none=>False
     |_=>False else False
 |_=>False
def RZ(μ:Mem)(b:Nat):Prop:=∃T e,μ b=some (.cells T e)/\e≠[]
def KS(x y:PV)(μ:Mem)(K:Bool->Prop):Prop:=
 match x,y with
 | .raw (.pointer (some ⟨b,o,none⟩)),.raw (.pointer (some ⟨e,g,none⟩))=>RZ μ b/\RZ μ e/\K (beq b e&&beq o g)
 |_,_=>False
def Nf(x:PV):Bool:=match x with| .raw (.pointer _)=>true|_=>false
def V1x(E:kM)(fz:List Nat)(o:Oper)(st:dK)(μ:Mem)(K:dK->Mem->Prop):Prop:=
 match o.op with
 | .binOp .eql t x (.tmp y) _=>bif Nf (sX st.σ x)&&Nf (sX st.σ (.tmp y))then
   (bif (match E.P.underlying t with|some (.pointer e)=>sized E.P e|_=>false)then
    KS (sX st.σ x) (sX st.σ (.tmp y)) μ λr=>K (cW o st (pB r)) μ else False)else V1 E false fz o st μ K
 |_=>V1 E false fz o st μ K
def Vl(E:kM)(fz:List Nat)(e:Array Oper)(Q:dK->Mem->Prop):List Oper->dK->Mem->Prop
 |[],st,μ=>Q st μ
 |o::l,st,μ=>match o.guard with
  |none=>V1x E fz o st μ λr h=>Vl E fz e Q l r h
  |some (j,b)=>match pT e j with
   |none=>False
   |some g=>match st.σ g with
    | .raw (.bool c)=>ab c
      ((λi=>ab b (V1 E false fz o i μ λr h=>Vl E fz e Q l r h) (Vl E fz e Q l (cW o i (.aB [])) μ)) {st with σ:=aI st.σ g (pB true)})
      ((λi=>ab b (Vl E fz e Q l (cW o i (.aB [])) μ) (V1 E false fz o i μ λr h=>Vl E fz e Q l r h)) {st with σ:=aI st.σ g (pB false)})
    | .aB _=>Vl E fz e Q l (cW o st (.aB [])) μ
    |_=>False
def qZ(i:Array Oper)(o:Oper)(st:dK)(e skip:dK->Prop):Prop:=
 match o.guard with
 |none=>e st
 |some (j,b)=>match pT i j with
  |none=>False
  |some g=>match st.σ g with
   | .raw (.bool c)=>ab c
     ((λh=>ab b (e h) (skip h)) {st with σ:=aI st.σ g (pB true)})
     ((λh=>ab b (skip h) (e h)) {st with σ:=aI st.σ g (pB false)})
   | .aB _=>skip st
   |_=>False
def Gv(st:dK)(o:Oper):Bool:=
 match o.op with
 | .load _ x=>match sX st.σ x with
   | .bt .. =>true
   |_=>false
 |_=>false
def xI(E:kM)(fz:List Nat)(e:Array Oper)(c:Bool)(h:Mem)(i:Nat)(st:dK)(K:dK->Prop):Prop:=
 match e[i]? with
 |none=>False
 |some o=>qZ e o st (λg=>bif c|| !Gv g o then V1 E false fz o g h λj _=>K j else False) (λg=>K (cW o g (.aB [])))
def Sa(E:kM)(fz:List Nat)(o:Oper)(st:dK)(e μ:Mem)(K:dK->Mem->Prop):Prop:=
 match o.op with
 | .store _ x _=>match sX st.σ x with
   | .raw (.pointer (some ⟨b,_,none⟩))=>e b=none/\V1 E false fz o st μ K
   |_=>V1 E true fz o st μ K
 |_=>V1 E true fz o st μ K
def qz(E:kM)(fz:List Nat)(e:Array Oper)(h:Mem)(i:Nat)(st:dK)(μ:Mem)(K:dK->Mem->Prop):Prop:=
 match e[i]? with
 |none=>False
 |some o=>bif il E.fA o then False else qZ e o st
   (λg=>bif qY e i then Sa E (fz++g.D.map (·.1)) o g h μ K else V1 E false fz o g μ K)
   (λg=>K (cW o g (.aB [])) μ)
def Vd(E:kM)(fz:List Nat)(g:Array Oper)(e:Mem)(Q:dK->Mem->Prop):Bool->jl->dK->Mem->Prop
 |_,.nil,st,μ=>Q st μ
 |c,.tk i p,st,μ=>xI E fz g c e i st λw=>Vd E fz g e Q c p w μ
 |_,.ef i p,st,μ=>qz E fz g e i st μ λw h=>Vd E fz g e Q false p w h
 |_,.Tm i p j q,st,μ=>(qz E fz g e i st μ λw h=>Vd E fz g e Q false p w h)/\(qz E fz g e j st μ λw h=>Vd E fz g e Q false q w h)
 |_,.Tl i p j q k r,st,μ=>(qz E fz g e i st μ λw h=>Vd E fz g e Q false p w h)/\(qz E fz g e j st μ λw h=>Vd E fz g e Q false q w h)/\(qz E fz g e k st μ λw h=>Vd E fz g e Q false r w h)
def QT(E:kM)(fz:List Nat)(e:Array Oper)(i:Nat)(st:dK)(μ:Mem)(K:dK->Mem->Prop):Prop:=
 match e[i]? with
 |none=>False
 |some o=>qZ e o st (λg=>V1 E false fz o g μ K) (λg=>K (cW o g (.aB [])) μ)
def Vq(E:kM)(fz:List Nat)(e:Array Oper)(Q:dK->Mem->Prop):iC->dK->Mem->Prop
 | .nil,st,μ=>Q st μ
 | .tk i q,st,μ=>xI E fz e true μ i st λg=>Vq E fz e Q q g μ
 | .ld i q r,st,μ=>(xI E fz e true μ i st λg=>Vq E fz e Q q g μ)/\Vq E fz e Q r st μ
 | .alt i q r,st,μ=>(QT E fz e i st μ λg h=>Vq E fz e Q q g h)/\Vq E fz e Q r st μ
 | .done,_,_=>True
def Od(c:u_)(J:zP c.live->Mem->Prop)(st:dK)(μ:Mem):Prop:=
 bif qA st c.fN then(match q_ st c.live with
  |some s=>J s μ
  |none=>False)else False
def Fj(next:dK->Mem->Prop)(Q:Exit->dK->Mem->Prop):Exit->dK->Mem->Prop
 | .normal,st,μ=>next st μ
 |e,st,μ=>Q e st μ
def GP(id:Nat)(Q:Exit->dK->Mem->Prop):Exit->dK->Mem->Prop
 | .exit i,st,μ=>bif beq i id then Q .normal st μ else Q (.exit i) st μ
 |e,st,μ=>Q e st μ
def ZJ(K:dK->Mem->Prop):Exit->dK->Mem->Prop
 | .normal,st,μ=>K st μ
 |_,_,_=>False
def Vw(R:Option Code->Mem->Prop):Exit->dK->Mem->Prop
 | .normal,_,μ=>R none μ
 | .ret,_,μ=>R (some .ret) μ
 | .exit i,_,μ=>R (some (.exit i)) μ
 |_,_,_=>False
def Ic(σ:uZ):uZ:=λt=>match σ t with| .box _ _=>.aU|v=>v
def Fy(σ:uZ):List Nat->List PV->uZ
 |p::ps,v::e=>Fy (aI σ p v) ps e
 |_,_=>σ
def V(E:kM):List Nat->Code->(Exit->dK->Mem->Prop)->dK->Mem->Prop
 |_,.skip,Q,st,μ=>Q .normal st μ
 |_,.ret,Q,st,μ=>Q .ret st μ
 |_,.exit i,Q,st,μ=>Q (.exit i) st μ
 |fz,.region _ ops false,Q,st,μ=>Vl E fz ops (Q .normal) ops.toList st μ
 |fz,.region id ops true,Q,st,μ=>bif E.P.follows .mixedOrders then(bif isQ E.fA id then(match oT ops with
  |some p=>Vq E fz ops (Q .normal) p st μ
  |none=>False)else match tJ ops with
  |some p=>Vd E fz ops μ (Q .normal) true p st μ
  |none=>False)else False
 |fz,.seq a b,Q,st,μ=>match(fM b).bind (look E.jt)with
  |none=>V E fz a (Fj (λx e=>V E fz b Q x e) Q) st μ
  |some l=>bif oU fz st.D l.er then cg (λJ=>V E (freeze fz st.D l.er) a (Fj (Od l J) Q) st μ) (λs e=>V E fz b Q (ZP st (writes a) l s) e)else False
 |fz,.cond c a b,Q,st,μ=>match sX st.σ c with
  | .raw (.bool t)=>ab t (V E fz a Q st μ) (V E fz b Q st μ)
  |_=>False
 |fz,.block id a,Q,st,μ=>V E fz a (GP id Q) st μ
 |fz,.loop a,Q,st,μ=>match(fM a).bind (look E.loops)with
  |none=>False
  |some l=>bif oU fz st.D l.er then Od l (ak λnext s e=>V E (freeze fz st.D l.er) a (Fj (Od l next) Q) (ZP st (writes a) l s) e) st μ else False
 |_,.rangeFunc f ps assign body,Q,st,μ=>match look E.sa (ps.toList.headD 0)with
  |none=>False
  |some h=>bif beq h.length ps.toList.length then
    bk E.P (sX st.σ f) (λr R e=>Nv E.P (match ps.toList with|p::_=>cT E.lb p|[]=>false) h λj=>r=j/\V E [] assign (ZJ λw g=>V E [] body (Vw R) w g) ⟨Fy (Ic st.σ) ps.toList j,[]⟩ e)
     (λp e=>PK p (Q .normal st e) (bif ma body then Q .ret st e else False) ((Mw (jS body)).map λi=>(i,Q (.exit i) st e))) μ
   else False
 |_,_,_,_,_=>False
def NT(e:List PV):uZ:=λt=>(e[t]?).getD (.aB [])
def vw(P:Program)(rw:List Nat)(st:dK)(μ:Mem):List ResultVar->(List PV->Prop)->Prop
 |[],F=>F []
 | .tmp t::l,F=>bif (st.σ t).ok then vw P rw st μ l λg=>F (st.σ t::g)else False
 | .cell a t::l,F=>match lZ P (cT rw a) t with
   |none=>False
   |some h=>match st.σ a with
    | .box k e=>match fh st.D k with
      |some m=>bif ble (e+h.length) m&&aV (FF st.σ k e h.length)then vw P rw st μ l λg=>F (UH (dx P t) (FF st.σ k e h.length)::g)else False
      |none=>False
    |v=>aM v λb e=>Py h λus=>ay μ b e h.length=some us/\vw P rw st μ l λg=>F (UH (dx P t) us::g)
def QE(R:Kq)(μ:Mem):List PV->Prop
 |[v]=>R v μ
 |e=>R (.aB e) μ
def adb(P:Program)(rw:List Nat)(e:List ResultVar)(R:Kq):Exit->dK->Mem->Prop
 | .ret,st,μ=>vw P rw st μ e (QE R μ)
 | .normal,st,μ=>vw P rw st μ e (QE R μ)
 |_,_,_=>False
def VF(E:kM)(c:Code)(g:List ResultVar)(e:List PV)(μ:Mem)(R:Kq):Prop:=
 V E [] c (adb E.P E.lb g R) ⟨NT e,[]⟩ μ
def cQ.nil(Z:Fz):cQ Z [] []:=⟨rfl,by simp⟩
def cQ.cons{Z:Fz}{p:PV}{ps:List PV}{v:Value}{e:List Value}(h:bW Z p v)(g:cQ Z ps e):cQ Z (p::ps) (v::e):=
 ⟨by simp[g.1],λi q w a b=>by
  cases i with
  |zero=>simp only[List.getElem?_cons_zero,Option.some.injEq]at a b;subst a;subst b;exact h
  |succ i=>simp only[List.getElem?_cons_succ]at a b;exact g.2 i q w a b⟩
def cQ.inv{Z:Fz}{p:PV}{ps:List PV}{e:List Value}(h:cQ Z (p::ps) e):∃v g,e=v::g/\bW Z p v/\cQ Z ps g:=by
 obtain⟨j,h⟩:=h;cases e with
 |nil=>simp at j
 |cons v e=>exact⟨v,e,rfl,h 0 p v rfl rfl,by simpa using j,λi q w a b=>h (i+1) q w (by simpa using a) (by simpa using b)⟩
def cQ.nq{Z:Fz}{e:List Value}(h:cQ Z [] e):e=[]:=List.eq_nil_of_length_eq_zero h.1
def bx.m{Z:Fz}{ps:List PV}{e:List Value}(h:bx Z ps e):cQ Z ps e:=⟨h.1,λi p v a b=>(h.2 i p v a b).2⟩
def br.m{Z:Fz}{ps:List PV}{e:List Value}(h:br Z ps e):cQ Z ps e:=⟨h.1,λi p v a b=>(h.2 i p v a b).2⟩
def cQ.c{Z:Fz}{ps:List PV}{e:List Value}(h:cQ Z ps e)(hc:aV ps=true):bx Z ps e:=
 ⟨h.1,λi p v a b=>⟨all_eq_true.1 hc p (mem_of_getElem? a),h.2 i p v a b⟩⟩
def cQ.s{Z:Fz}{ps:List PV}{e:List Value}(h:cQ Z ps e)(hc:JG ps=true):br Z ps e:=
 ⟨h.1,λi p v a b=>⟨all_eq_true.1 hc p (mem_of_getElem? a),h.2 i p v a b⟩⟩
def cQ.mono{Z g:Fz}(hz:Z.le g){ps:List PV}{e:List Value}(h:cQ Z ps e):cQ g ps e:=⟨h.1,λi p v a b=>(h.2 i p v a b).mono hz⟩
def bx.aV{Z:Fz}{ps:List PV}{e:List Value}(h:bx Z ps e):aV ps=true:=by
 refine all_eq_true.2 λp hp=>?_;obtain⟨i,g⟩:=mem_iff_getElem?.1 hp;obtain⟨v,_,hc,_⟩:=h.get g;exact hc
def bx.sI{Z:Fz}{ps:List PV}{e:List Value}(h:bx Z ps e):bW Z (.agg ps) (.agg e.toArray):=
 .agg ps e h.1 (λp hp=>all_eq_true.1 h.aV p hp) λi p v a b=>(h.2 i p v a b).2
def br.vk{Z:Fz}{ps:List PV}{vs:List Value}(h:br Z ps vs):bW Z (.aB ps) (.tuple vs.toArray):=by
 refine .aB ps vs h.1 (λp hp=>?_) λi p v a b=>(h.2 i p v a b).2;obtain⟨i,e⟩:=mem_iff_getElem?.1 hp;obtain⟨v,_,hc,_⟩:=h.get e;exact hc
def bW.qK{Z:Fz}{ps:List PV}{v:Value}(h:bW Z (.agg ps) v):∃e:List Value,v=.agg e.toArray/\bx Z ps e:=by
 cases h with
 |agg cs e g j h=>exact⟨e,rfl,g,λi p v a b=>⟨j p (mem_of_getElem? a),h i p v a b⟩⟩
def bW.Bv{Z:Fz}{ps:List PV}{v:Value}(h:bW Z (.aB ps) v):∃e:List Value,v=.tuple e.toArray/\br Z ps e:=by
 cases h with
 |aB cs e g j h=>exact⟨e,rfl,g,λi p v a b=>⟨j p (mem_of_getElem? a),h i p v a b⟩⟩
theorem bW.ofRaw{Z:Fz}{v w:Value}(h:bW Z (.raw v) w):w=v/\aP.plain v=true/\one v=true:=by
 cases h;exact⟨rfl,by assumption,by assumption⟩
def bW.zf{Z:Fz}{k o:Nat}{w:Value}(h:bW Z (.box k o) w):w=dU k o:=by cases h;rfl
def bW.ofFn{Z:Fz}{f:Fn}{a b:List PV}{w:Value}(h:bW Z (.fn f a b) w):∃fv e:List Value,w=.func f fv.toArray e.toArray/\br Z a fv/\br Z b e:=by
 cases h with
 |fn f first y fv e x r g kc j hc=>exact⟨fv,e,rfl,⟨x,λi p v a b=>⟨g p (mem_of_getElem? a),j i p v a b⟩⟩,⟨r,λi p v a b=>⟨kc p (mem_of_getElem? a),hc i p v a b⟩⟩⟩
def br.Fg{Z:Fz}{f:Fn}{a b:List PV}{fv cv:List Value}(h:br Z a fv)(k:br Z b cv):bW Z (.fn f a b) (.func f fv.toArray cv.toArray):=by
 refine .fn f a b fv cv h.1 k.1 (λp hp=>?_) (λp hp=>?_) (λi p v a b=>(h.2 i p v a b).2) (λi p v a b=>(k.2 i p v a b).2)
 .obtain⟨i,e⟩:=mem_iff_getElem?.1 hp;obtain⟨v,_,hc,_⟩:=h.get e;exact hc
 .obtain⟨i,e⟩:=mem_iff_getElem?.1 hp;obtain⟨v,_,hc,_⟩:=k.get e;exact hc
def bW.ofList{Z:Fz}{g:Nat}{fl:Fl}{e:Lq}{w:Value}(h:bW Z (.list g fl e) w):∃a n c,w=.slice a n c/\e.length=n/\n<=c/\(c=0\/gq a)/\UG fl a n c:=by
 cases h;exact⟨_,_,_,rfl,by assumption,by assumption,by assumption,by assumption⟩
def bW.FT{Z:Fz}{x r:Nat}{fl:Fl}{w:Value}(h:bW Z (.list x fl []) w):bW Z (.list r fl []) w:=by
 cases h with
 |list _ _ _ a n c b o C g e hc y H ha J I hp G=>
  simp only[List.length_nil]at e;subst e;exact .list r fl [] a 0 c b o C g rfl hc y (by simp) (λh=>absurd rfl h) (λi j A=>absurd A (Nat.not_lt_zero i)) (by simp) (by simp) G
def bW.flag{Z:Fz}{i:Nat}{fl j:Fl}{e:Lq}{w:Value}(h:bW Z (.list i fl e) w)(r:∀a n c,w=.slice a n c->UG j a n c):bW Z (.list i j e) w:=by
 cases h with
 |list _ _ _ a n c b o C g A hc x y ha H G hp I=>exact .list i j e a n c b o C g A hc x y ha H G hp (r a n c rfl)
def bW.sh{Z:Fz}{g:Nat}{fl:Fl}{e:Lq}{w:Value}(h:bW Z (.list g fl e) w):bW Z (.list g .sh e) w:=h.flag λ_ _ _ _=>trivial
def bW.cb{Z:Fz}{p:PV}{w:Value}(h:bW Z p w):bW Z (cb p) w:=by
 cases p<;>first|exact h.sh|exact h
def QA{p:PV}:(cb p).cell=p.cell:=by cases p<;>rfl
def Y_{p:PV}:(cb p).ok=p.ok:=by cases p<;>rfl
theorem bx.wk{Z:Fz}{ps:List PV}{vs:List Value}(h:bx Z ps vs):bx Z (ps.map aP.cb) vs:=
 ⟨by simp[h.1],λi p v a b=>by
  rw[getElem?_map]at a
  cases hq:ps[i]? with
  |none=>simp[hq]at a
  |some q=>
   simp only[hq,map_some,Option.some.injEq]at a
   subst a
   exact⟨by rw[QA];exact(h.2 i q v hq b).1,(h.2 i q v hq b).2.cb⟩⟩
theorem bW.zG{Z:Fz}{p:PV}{w:Value}(h:bW Z p w):bW Z (zG p) w:=by
 cases p<;>try exact h
 obtain⟨vs,rfl,hc⟩:=h.qK;exact hc.wk.sI
def Kr{p:PV}:(zG p).ok=p.ok:=by cases p<;>rfl
def bW.wk{Z:Fz}{p:PV}{w:Value}(h:bW Z p w):bW Z (wk p) w:=by
 cases p with
 |agg cs=>exact h.zG
 |aB j=>
  obtain⟨r,rfl,g⟩:=h.Bv;refine br.vk ⟨by simp[g.1],λi p v a b=>?_⟩;rw[getElem?_map]at a;cases e:j[i]? with
  |none=>simp[e]at a
  |some q=>
   simp only[e,map_some,Option.some.injEq]at a;subst a;have:=g.2 i q v e b;exact⟨by rw[Kr,Y_];exact this.1,this.2.cb.zG⟩
 |_=>exact h.cb
theorem acL{p:PV}:(aP.wk p).ok=p.ok:=by cases p<;>rfl
theorem bW.ZI{Z:Fz}{sz:Nat}{p:PV}{w:Value}(h:bW Z p w):bW Z (ZI sz p) w:=by
 unfold aP.ZI;split
 .exact h.FT
 .exact h
def RL{e:Nat}{p:PV}:(ZI e p).cell=p.cell:=by unfold ZI;split<;>rfl
theorem bx.Bw{Z:Fz}:∀{ks:List KV} {ps:List PV} {vs:List Value},bx Z ps vs->bx Z (Bw ks ps) vs
 |[],ps,vs,h=>by simpa[aP.Bw]using h
 |k::ks,[],vs,h=>by cases k<;>simpa[aP.Bw]using h
 | .list sz::ks,p::ps,vs,h=>by
   obtain⟨v,qn,rfl,h1,h2,h3⟩:=h.inv
   exact bx.cons (by rw[RL];exact h1) h2.ZI h3.Bw
 | .raw k::ks,p::ps,vs,h=>by
   obtain⟨v,qn,rfl,h1,h2,h3⟩:=h.inv;exact bx.cons h1 h2 h3.Bw
 | .fn::ks,p::ps,vs,h=>by
   obtain⟨v,qn,rfl,h1,h2,h3⟩:=h.inv;exact bx.cons h1 h2 h3.Bw
theorem bW.gp{Z:Fz}{P:Program}{t:TypeId}{p:PV}{w:Value}(h:bW Z p w):bW Z (gp P t p) w:=by
 unfold aP.gp;split
 .split
  .obtain⟨vs,rfl,hc⟩:=h.qK;exact hc.Bw.sI
  .split
   .exact h.FT
   .exact h
  .exact h
 .exact h
def oS{P:Program}{t:TypeId}{p:PV}:(gp P t p).ok=p.ok:=by
 unfold gp;split
 .split
  .rfl
  .split<;>rfl
  .rfl
 .rfl
def bW.PT{Z:Fz}{P:Program}{t:TypeId}{p:PV}{w:Value}(h:bW Z p w):bW Z (PT P t p) w:=h.gp.zG
def Xt{P:Program}{t:TypeId}{p:PV}:(PT P t p).ok=p.ok:=by unfold PT;rw[Kr,oS]
theorem br.sY{Z:Fz}{P:Program}:∀{ts:List TypeId} {ps:List PV} {vs:List Value},br Z ps vs->br Z (sY P ts ps) vs
 |[],ps,vs,h=>by simpa[aP.sY]using h
 |t::ts,[],vs,h=>by simpa[aP.sY]using h
 |t::ts,p::ps,vs,h=>by
  obtain⟨v,qn,rfl,h1,h2,h3⟩:=h.inv
  exact br.cons (by rw[Xt];exact h1) h2.PT h3.sY
def Ip(Z:Fz)(v:Value):bW Z (Di v) v:=by
 unfold Di;split
 .exact .list 0 .nil [] none 0 0 0 0 [] (λ_ _=>undef) rfl (le_refl _) (.inl rfl) (by simp) (λh=>absurd rfl h) (λi j w=>absurd w (Nat.not_lt_zero i)) (by simp) (by simp) ⟨rfl,rfl,rfl⟩
 .exact .aU _
 .exact .aU _
 .exact .aU _
 .exact .aU _
 .exact .aU _
 .rename_i f a b;cases e:(beq a.size 0&&beq b.size 0)with
  |false=>exact .aU _
  |true=>
   simp only[and_eq_true,beq_iff]at e;have r:a= #[]:=Array.eq_empty_of_size_eq_zero e.1;have g:b= #[]:=Array.eq_empty_of_size_eq_zero e.2;subst r;subst g;exact br.Fg (fv:=[]) (cv:=[]) (br.nil Z) (br.nil Z)
 .rename_i r g A y x G C;refine .raw v ?_ ?_
  .cases v<;>first|rfl|(exact absurd rfl (x _ _ _))
  .cases v<;>first|rfl|(exact absurd rfl (A _))|(exact absurd rfl (y _))
def Ek(Z:Fz)(l:List Value):cQ Z (l.map Di) l:=
 ⟨by simp,λi p v a b=>by
  rw[getElem?_map,b]at a
  simp only[map_some,Option.some.injEq]at a
  subst a;exact Ip Z v⟩
def Ak(Z:Fz)(v:Value):bW Z (ofV v) v:=by
 unfold ofV;split
 .rename_i a;cases e:aV (a.toList.map Di)with
  |false=>exact .aU _
  |true=>simpa using((Ek Z a.toList).c e).sI
 .rename_i a;cases e:JG (a.toList.map Di)with
  |false=>exact .aU _
  |true=>simpa using((Ek Z a.toList).s e).vk
 .exact Ip Z v
structure dt(Z:Fz)(p:dK)(s:St):Prop where
 D:p.D=s.D
 slot:∀t,bW Z (p.σ t) (s.σ t)
def dt.mono{Z e:Fz}(hz:Z.le e){p:dK}{s:St}(h:dt Z p s):dt e p s:=⟨h.D,λt=>(h.slot t).mono hz⟩
def fC(Z:Fz)(p:uZ)(s:Fr):Prop:=∀t,bW Z (p t) (s t)
theorem fC.jd{Z:Fz}{p:uZ}{s:Fr}(h:fC Z p s){t:Nat}{x:PV}{v:Value}(hv:bW Z x v):fC Z (aI p t x) (jd s t v):=by
 intro i;unfold aI aP.jd;cases beq i t
 .exact h i
 .exact hv
def fC.put{Z:Fz}{p:uZ}{s:Fr}(h:fC Z p s){d:Option Nat}{x:PV}{v:Value}(e:bW Z x v):fC Z (KQ p d x) (put s d v):=by
 cases d with
 |none=>exact h
 |some t=>exact h.jd e
theorem fC.rG{Z:Fz}{k:Nat}:∀{ps:List PV} {vs:List Value} {p:uZ} {s:Fr} {j:Nat},fC Z p s->cQ Z ps vs->fC Z (Fa p k j ps) (rG s k j vs)
 |[],vs,p,s,j,h,hv=>by rw[hv.nq];exact h
 |x::ps,vs,p,s,j,h,hv=>by
  obtain⟨v,qn,rfl,h1,h2⟩:=hv.inv
  exact fC.rG (p:=aI p (gx k j) x) (s:=aP.jd s (gx k j) v) (j:=j+1) (h.jd h1) h2
theorem fC.xP{Z:Fz}{p:uZ}{s:Fr}{k:Nat}(h:fC Z p s):∀(m j:Nat),cQ Z (FF p k j m) (aP.xP s k j m)
 |0,_=>cQ.nil Z
 |m+1,j=>cQ.cons (h _) (h.xP m (j+1))
def zc(σ:uZ)(k:Nat):∀(m j:Nat),(FF σ k j m).length=m
 |0,_=>rfl
 |m+1,j=>by simp[FF,zc σ k m (j+1)]
def dt.ev{Z:Fz}{p:dK}{s:St}(h:dt Z p s)(x:Operand):bW Z (sX p.σ x) (ev s.σ x):=by
 cases x with
 |tmp t=>exact h.slot t
 |const v=>exact Ak Z v
 |global g=>exact .raw _ rfl rfl
 |func f=>exact br.Fg (fv:=[]) (cv:=[]) (br.nil Z) (br.nil Z)
def dt.fin{Z:Fz}{p:dK}{s:St}(h:dt Z p s)(o:Oper){x:PV}{v:Value}(e:bW Z x v):dt Z (cW o p x) (fin o s v):=⟨h.D,fC.put h.slot e⟩
def KV.RA(k:KV)(x:k.T):(k.p x).cell=true:=by cases k<;>rfl
def Ir{fl:Fl}{e:Lq}{x:Fl×Lq}(h:La fl e=some x):fl=.nil/\e=[]/\x=(.nil,[]):=by
 unfold La at h;split at h
 .simp only[Option.some.injEq]at h;exact⟨rfl,rfl,h.symm⟩
 .cases h
theorem KV.Gt{Z:Fz}{k:KV}{p:PV}{v:Value}{x:k.T}(h:bW Z p v)(hg:k.get p=some x):∃y:k.er.T,k.er.get v=some y/\bW Z (k.p x) (k.er.v y):=by
 cases k with
 |raw k=>
  cases p with
  |raw v0=>
   simp only[KV.get]at hg;obtain⟨rfl,hp,h1⟩:=h.ofRaw;refine⟨x,hg,?_⟩;have:=K1.Nu hg;rw[this]at hp h1;exact .raw _ hp h1
  |list sz fl rows=>
   cases k with
   |slice=>
    cases fl with
    |nil=>
     simp only[KV.get,Option.some.injEq]at hg;subst hg;obtain⟨a,n,c,rfl,_,_,_,hf⟩:=h.ofList;obtain⟨rfl,rfl,rfl⟩:=hf;exact⟨(none,0,0),rfl,.raw _ rfl rfl⟩
    |_=>simp[KV.get]at hg
   |_=>simp[KV.get]at hg
  |_=>simp[KV.get]at hg
 |list sz=>
  cases p<;>simp only[KV.get]at hg<;>try (cases hg;done)
  rename_i Vk fl rows;obtain⟨a,n,c,rfl,_⟩:=h.ofList;refine⟨(a,n,c),rfl,?_⟩;cases hb:beq sz Vk with
  |true=>
   rw[hb]at hg;simp only[cond_true,Option.some.injEq]at hg;subst hg;have:=beq_iff.1 hb;subst this;exact h
  |false=>
   rw[hb]at hg;obtain⟨rfl,rfl,rfl⟩:=Ir hg;exact h.FT
 |fn=>
  cases p<;>simp only[KV.get]at hg<;>try (cases hg;done)
  rename_i f a b;obtain⟨fv,cv,rfl,h1,h2⟩:=h.ofFn;simp only[Option.some.injEq]at hg;subst hg;exact⟨(f,fv.toArray,cv.toArray),rfl,br.Fg h1 h2⟩
def Mg{k g:K1}{e:List K1}{v:Value}{h:List Value}{x:k.T}{y:TL (g::e)}(j:k.get v=some x)(i:kS (g::e) h=some y):kS (k::g::e) (v::h)=some (x,y):=by
 simp only[kS,j,i]
def Gu{s:St}{x y:Nat×Kd}{l:Live}{a:x.2.T}{b:Tup (y::l)}(g:zr s x=some a)(e:gd s (y::l)=some b):gd s (x::y::l)=some (a,b):=by
 simp only[gd,g,e]
def uz{Z:Fz}:∀{ks:List KV} {ps:List PV} {g:List Value} {x:TLP ks},cQ Z ps g->pj ks ps=some x->∃y:TL (ks.map KV.er),kS (ks.map KV.er) g=some y/\cQ Z (GY ks x) (Mf (ks.map KV.er) y)
 |[],[],g,x,h,_=>by rw[h.nq];exact⟨(),rfl,cQ.nil Z⟩
 |[],_::_,_,_,_,e=>by simp[pj]at e
 |[k],[],_,_,_,e=>by simp[pj]at e
 |[k],[p],g,x,h,e=>by
  obtain⟨v,H,rfl,A,w⟩:=h.inv
  rw[w.nq];obtain⟨y,j,r⟩:=KV.Gt A e;exact⟨y,j,cQ.cons r (cQ.nil Z)⟩
 |[k],_::_::_,_,_,_,e=>by simp[pj]at e
 |k::C::ks,[],_,_,_,e=>by simp[pj]at e
 |k::C::ks,p::ps,g,x,h,e=>by
  obtain⟨v,H,rfl,A,w⟩:=h.inv;simp only[pj]at e;split at e
  .rename_i a b ha I;simp only[Option.some.injEq]at e;subst e;obtain⟨y,j,r⟩:=KV.Gt A ha;obtain⟨G,i,J⟩:=uz (ks:=C::ks) w I;refine⟨(y,G),?_,cQ.cons r J⟩;exact Mg j i
  .cases e
def EZ:∀(e:List KV) (x:TLP e),aV (GY e x)=true
 |[],_=>rfl
 |[k],x=>by simp[GY,aV,KV.RA]
 |k::g::e,x=>by
  have:=EZ (g::e) x.2
  simp only[aV]at this;simp only[GY,aV,all_cons,KV.RA,this,Bool.and_self]
def XC(Z:Fz):(x:Nat×US)->x.2.T->(Kd.T x.2.er)->Prop
 |(_,.one k),a,b=>bW Z (k.p a) (k.er.v b)
 |(_,.agg e),a,b=>cQ Z (GY e a) (Mf (e.map KV.er) b)
 |(_,.box e),a,b=>cQ Z (GY e a) (Mf (e.map KV.er) b)
def uB(Z:Fz):(l:tc)->zP l->Tup l.er->Prop
 |[],_,_=>True
 |[x],a,b=>XC Z x a b
 |x::y::l,a,b=>XC Z x a.1 b.1/\uB Z (y::l) a.2 b.2
theorem EC{Z:Fz}{p:dK}{s:St}(hr:dt Z p s):∀{x:Nat×US} {a:x.2.T},B_ p x=some a->∃b,zr s (x.1,x.2.er)=some b/\XC Z x a b
 |(t,.one k),a,h=>KV.Gt (hr.slot t) h
 |(t,.agg ks),a,h=>by
  simp only[B_]at h
  have hs:=hr.slot t
  split at h
  .rename_i cs he;rw[he]at hs;obtain⟨vs,hv,hc⟩:=hs.qK;obtain⟨y,hy,hm⟩:=uz hc.m h;refine⟨y,?_,hm⟩;show(match s.σ t with| .agg a=>kS (ks.map KV.er) a.toList|_=>none)=some y;rw[hv];exact hy
  .cases h
 |(t,.box ks),a,h=>by
  simp only[B_]at h;have hs:=hr.slot t;split at h
  .rename_i k o he;rw[he]at hs;have hv:=hs.zf;cases hb:((beq k t&&beq o 0)&&im p.D t ks.length)with
   |false=>rw[hb]at h;cases h
   |true=>
    rw[hb]at h;obtain⟨y,hy,hm⟩:=uz (fC.xP hr.slot _ _) h;refine⟨y,?_,hm⟩
    show(match s.σ t with
     | .complex .f64 k o=>bif (beq k t&&beq o 0)&&im s.D t (ks.map KV.er).length then kS (ks.map KV.er) (xP s.σ t 0 (ks.map KV.er).length)else none
     |_=>none)=some y
    rw[hv];simp only[length_map,<- hr.D,hb,cond_true];exact hy
  .cases h
def zq{Z:Fz}{p:dK}{s:St}(e:dt Z p s):∀{l:tc} {a:zP l},q_ p l=some a->∃b,gd s l.er=some b/\uB Z l a b
 |[],_,_=>⟨(),rfl,trivial⟩
 |[x],a,h=>EC e h
 |x::y::l,a,h=>by
  simp only[q_]at h
  split at h
  .rename_i I H w r
   simp only[Option.some.injEq]at h
   subst h
   obtain⟨C,G,j⟩:=EC e w
   obtain⟨A,g,i⟩:=zq (l:=y::l) e r;refine⟨(C,A),?_,j,i⟩;exact Gu G g
  .cases h
def DW{Z:Fz}:∀{p:dK} {s:St} (_:dt Z p s) {x:Nat×US} {a:x.2.T} {b:Kd.T x.2.er},XC Z x a b->dt Z (KM p x a) (kO s (x.1,x.2.er) b)
 |p,s,e,(t,.one k),a,b,h=>⟨e.D,fC.jd e.slot h⟩
 |p,s,e,(t,.agg g),a,b,h=>⟨e.D,fC.jd e.slot (h.c (EZ g a)).sI⟩
 |p,s,e,(t,.box g),a,b,h=>by
  refine⟨?_,fC.rG (fC.jd e.slot (.box t 0)) h⟩
  show(bif im p.D t g.length then p.D else(t,g.length)::p.D)=(bif im s.D t (g.map KV.er).length then s.D else(t,(g.map KV.er).length)::s.D)
  rw[length_map,e.D]
def yY{Z:Fz}:∀{l:tc} {p:dK} {s:St} (_:dt Z p s) {a:zP l} {b:Tup l.er},uB Z l a b->dt Z (Bc p l a) (rL s l.er b)
 |[],p,s,e,_,_,_=>e
 |[x],p,s,e,_,_,h=>DW e h
 |x::y::l,p,s,e,a,b,h=>yY (l:=y::l) (DW e h.1) h.2
def Dg(Z:Fz)(m:Nat):cQ Z (replicate m .aU) (replicate m aU):=
 ⟨by simp,λi p v a b=>by
  rw[List.getElem?_replicate]at a b
  split at a
  .rename_i h
   rw[if_pos h]at b
   cases a;cases b;exact .aU _
  .cases a⟩
def Be{Z:Fz}:∀{l:List (Nat×Nat)} {p:uZ} {s:Fr},fC Z p s->fC Z (Ai p l) (fx s l)
 |[],_,_,h=>h
 |(k,m)::l,p,s,h=>Be (l:=l) (p:=Fa (aI p k (.box k 0)) k 0 (replicate m .aU)) (s:=rG (jd s k (dU k 0)) k 0 (replicate m aU)) (fC.rG (h.jd (.box k 0)) (Dg Z m))
def Rv{Z:Fz}{p:uZ}{s:Fr}(h:fC Z p s)(e:List Nat):fC Z (MS p e) (vD s e):=by
 intro t;unfold MS vD;cases(blt t 65536&&cT e t)
 .exact h t
 .exact .aU _
def Nb{Z:Fz}{p:dK}{s:St}(g:dt Z p s)(e:List Nat){c:u_}{a:zP c.live}{b:Tup c.live.er}(h:uB Z c.live a b):dt Z (ZP p e c a) (mix s e c.er b):=
 yY (l:=c.live) (p:={p with σ:=Ai (MS p.σ e) c.fN}) (s:={s with σ:=fx (vD s.σ e) c.fN}) ⟨g.D,Be (Rv g.slot e)⟩ h
def y_{Z:Fz}{p:dK}{s:St}(g:dt Z p s):∀{l:List (Nat×Nat)},qA p l=true->k_ s l=true
 |[],_=>rfl
 |(k,m)::l,h=>by
  simp only[qA,and_eq_true]at h
  simp only[k_,and_eq_true]
  refine⟨⟨by rw[<- g.D];exact h.1.1,?_⟩,y_ g h.2⟩
  have e:=h.1.2
  have i:=g.slot k;unfold Sk at e;split at e
  .rename_i r o j;rw[j]at i;rw[i.zf];exact e
  .cases e
def MA{Z:Fz}{p:dK}{s:St}(j:dt Z p s){c:u_}{J:zP c.live->Mem->Prop}{r:Tup c.er.live->UW->Prop}{μ:Mem}{u:UW}(h:Od c J p μ)(y:∀a b,uB Z c.live a b->J a μ->r b u):Vc c.er r s u:=by
 unfold Od at h;unfold Vc;cases e:qA p c.fN with
 |false=>rw[e]at h;exact h.elim
 |true=>
  rw[e]at h;have:k_ s c.er.fN=true:=y_ j e;rw[this];simp only[cond_true]at h |-;cases i:q_ p c.live with
  |none=>rw[i]at h;exact h.elim
  |some a=>
   rw[i]at h;obtain⟨b,x,g⟩:=zq j i;have w:gd s c.er.live=some b:=x;rw[w];exact y a b g h
def tR(P:Program)(r:Bool):∀(f:Nat) (t:TypeId) {g:List KV},mX P r f t=some g->tS P f t=some (g.map KV.er)
 |0,_,_,h=>by simp[mX]at h
 |f+1,t,g,h=>by
  unfold mX at h
  unfold tS
  cases hu:P.underlying t with
  |none=>rw[hu]at h;cases h
  |some d=>
   rw[hu]at h
   cases d<;>simp only at h |- <;>try (cases h;done)
   case int=>cases h;rfl
   case bool=>cases h;rfl
   case string=>cases h;rfl
   case slice=>cases r<;>(cases h;rfl)
   case pointer=>cases h;rfl
   case func=>cases h;rfl
   case map=>cases h;rfl
   case struct y=>
    generalize y.toList=l at h
    induction l generalizing g with
    |nil=>simp only[List.foldr_nil,Option.some.injEq]at h;subst h;rfl
    |cons x l j=>
     simp only[List.foldr_cons]at h |-
     split at h
     .rename_i a b ha w
      simp only[Option.some.injEq]at h
      subst h
      rw[tR P r f x.type ha,j _ w]
      simp
     .cases h
   case array n e=>
    cases i:mX P r f e with
    |none=>rw[i]at h;cases h
    |some A=>
     rw[i]at h
     simp only[Option.some.injEq]at h
     subst h
     rw[tR P r f e i]
     simp[List.map_flatten,List.map_replicate]
def xZ{P:Program}{r:Bool}{t:TypeId}{g:List KV}(h:lZ P r t=some g):kinds P t=some (g.map KV.er):=by
 unfold lZ at h;unfold kinds;cases e:mX P r 8 t with
 |none=>rw[e]at h;cases h
 |some w=>
  rw[e]at h;rw[tR P r 8 t e];simp only at h |-;rw[length_map];cases j:beq w.length (P.cellsOf t)with
  |false=>rw[j]at h;cases h
  |true=>
   rw[j]at h;cases i:(dx P t||beq w.length 1)with
   |false=>rw[i]at h;cases h
   |true=>
    rw[i]at h;simp only[cond_true,Option.some.injEq]at h |-;subst h;rfl
theorem Pz{Z:Fz}{k:KV}{F:PV->Prop}(h:aaW k F):∃p,p.cell=true/\F p/\∀{G:Value->Prop} {v:Value},bW Z p v->G v->exK k.er G:=by
 cases k with
 |raw k=>
  cases k<;>simp only[aaW,exK]at h
  case int=>obtain⟨x,h⟩:=h;exact⟨_,rfl,h,λhr hG=>by rw[hr.ofRaw.1]at hG;exact⟨_,hG⟩⟩
  case bool=>obtain⟨x,h⟩:=h;exact⟨_,rfl,h,λhr hG=>by rw[hr.ofRaw.1]at hG;exact⟨_,hG⟩⟩
  case str=>obtain⟨x,h⟩:=h;exact⟨_,rfl,h,λhr hG=>by rw[hr.ofRaw.1]at hG;exact⟨_,hG⟩⟩
  case slice=>obtain⟨a,n,c,h⟩:=h;exact⟨_,rfl,h,λhr hG=>by rw[hr.ofRaw.1]at hG;exact⟨_,_,_,hG⟩⟩
  case ptr=>obtain⟨x,h⟩:=h;exact⟨_,rfl,h,λhr hG=>by rw[hr.ofRaw.1]at hG;exact⟨_,hG⟩⟩
  case fn=>obtain⟨f,a,b,h⟩:=h;exact⟨_,rfl,h,λhr hG=>by rw[hr.ofRaw.1]at hG;exact⟨_,_,_,hG⟩⟩
  case map=>obtain⟨x,h⟩:=h;exact⟨_,rfl,h,λhr hG=>by rw[hr.ofRaw.1]at hG;exact⟨_,hG⟩⟩
 |list sz=>
  obtain⟨fl,rows,h⟩:=h;exact⟨_,rfl,h,λhr hG=>by obtain⟨a,n,c,rfl,_⟩:=hr.ofList;exact⟨_,_,_,hG⟩⟩
 |fn=>
  obtain⟨f,a,b,h⟩:=h;exact⟨_,rfl,h,λhr hG=>by obtain⟨fv,cv,rfl,_⟩:=hr.ofFn;exact⟨_,_,_,hG⟩⟩
def od{Z:Fz}:∀{g:List KV} {F:List PV->Prop},Py g F->∃ps,ps.length=g.length/\aV ps=true/\F ps/\∀{G:List Value->Prop} {e:List Value},cQ Z ps e->G e->exL (g.map KV.er) G
 |[],F,h=>⟨[],rfl,rfl,h,λj i=>by rw[j.nq]at i;exact i⟩
 |k::g,F,h=>by
  obtain⟨p,hp,h,x⟩:=Pz (Z:=Z) h
  obtain⟨ps,w,hc,h,r⟩:=od (Z:=Z) h;refine⟨p::ps,by simp[w],by simp only[aV,all_cons,hp,Bool.true_and];exact hc,h,λj i=>?_⟩;obtain⟨v,e,rfl,A,y⟩:=j.inv;exact x A (r (G:=λe=>_) y i)
def BA{Z:Fz}{b:Bool}{ps:List PV}{e:List Value}(h:bx Z ps e):bW Z (UH b ps) (FW b e):=by
 cases b with
 |true=>exact h.sI
 |false=>
  match ps,h with
  |[],h=>exact .aU _
  |[p],h=>
   obtain⟨v,j,rfl,w,i,g⟩:=h.inv;rw[g.nq];exact i
  |p::r::ps,h=>exact .aU _
def FX{P:Program}{r:Bool}{t:TypeId}{g:List KV}(h:lZ P r t=some g){ps:List PV}(i:ps.length=g.length)(hc:aV ps=true):(UH (dx P t) ps).ok=true:=by
 unfold lZ at h;split at h
 .rename_i w x;cases j:beq w.length (P.cellsOf t)with
  |false=>rw[j]at h;cases h
  |true=>
   rw[j]at h;cases e:(dx P t||beq w.length 1)with
   |false=>rw[e]at h;cases h
   |true=>
    rw[e]at h;simp only[cond_true,Option.some.injEq]at h;subst h;cases ha:dx P t with
    |true=>rfl
    |false=>
     rw[ha]at e;simp only[Bool.false_or,beq_iff]at e;rw[e]at i
     match ps,i with
     |[p],_=>
      simp only[aV,all_cons,List.all_nil,Bool.and_true]at hc;exact PV.FO hc
 .cases h
def yp{Z:Fz}{P:Program}{r:Bool}{t:TypeId}{F:PV->Prop}(h:Th P r t F):∃p,p.ok=true/\F p/\∀{G:Value->Prop} {v:Value},bW Z p v->G v->exV P t G:=by
 unfold Th at h;cases i:lZ P r t with
 |none=>rw[i]at h;exact h.elim
 |some I=>
  rw[i]at h;obtain⟨ps,x,hc,C,j⟩:=od (Z:=Z) h;refine⟨_,FX i x hc,C,λ{G v} e y=>?_⟩;unfold exV;rw[xZ i];have g:=FX i x hc;cases ha:dx P t with
  |true=>
   rw[ha]at e;obtain⟨w,rfl,A⟩:=bW.qK (ps:=ps) e;exact j (G:=λw=>G (FW true w)) A.m y
  |false=>
   rw[ha]at e g
   match ps,e,g with
   |[],e,g=>simp[UH,PV.ok,PV.cell]at g
   |[p],e,g=>exact j (G:=λw=>G (FW false w)) (cQ.cons e (cQ.nil Z)) y
   |p::H::ps,e,g=>simp[UH,PV.ok,PV.cell]at g
def ua{Z:Fz}{P:Program}{r:Bool}:∀{ts:List TypeId} {F:List PV->Prop},Nv P r ts F->∃ps,JG ps=true/\F ps/\∀{G:List Value->Prop} {e:List Value},cQ Z ps e->G e->LF P ts G
 |[],F,h=>⟨[],rfl,h,λi g=>by rw[i.nq]at g;exact g⟩
 |t::ts,F,h=>by
  obtain⟨p,hp,h,w⟩:=yp (Z:=Z) h
  obtain⟨ps,hc,h,j⟩:=ua (Z:=Z) h;refine⟨p::ps,by simp only[JG,all_cons,hp,Bool.true_and];exact hc,h,λi g=>?_⟩;obtain⟨v,e,rfl,y,x⟩:=i.inv;exact w y (j (G:=λe=>_) x g)
def Pw{Z:Fz}{P:Program}{r:Bool}{t:TypeId}{F:PV->Prop}(h:Px P r t F):∃p,F p/\∀{G:Value->Prop} {v:Value},bW Z p v->G v->Qu P t G:=by
 unfold Px at h;unfold Qu;split at h
 .rename_i y g;obtain⟨ps,_,w,e⟩:=ua (Z:=Z) h;refine⟨_,w,λ{G v} i j=>?_⟩;obtain⟨x,rfl,hc⟩:=i.Bv;rw[g];exact e (G:=λx=>G (.tuple x.toArray)) hc.m j
 .rename_i g;obtain⟨p,_,w,e⟩:=yp (Z:=Z) h;refine⟨p,w,λ{G v} i j=>?_⟩;split
  .rename_i y A;exact absurd A (g y)
  .exact e i j
def yF.mono{P:Program}{f:Value}{g:List Value}{w:World}{R j:Ending->World->Prop}(h:yF P f g w R)(i:∀e w',R e w'->j e w'):yF P f g w j:=by
 unfold yF at*
 split at h
 .exact⟨h.1,h.2.mono i⟩
 .obtain⟨G,C,r,A,y,x⟩:=h;exact⟨G,C,r,A,y,x.mono i⟩
 .exact h
def Me.mono{P:Program}{f:Value}{e:List Value}{w:World}{F:Nat->Prop}{K r:Value->Nat->World->Prop}(h:Me P f e w F K)(x:∀v g w',Mod F w w'->w.heap.size<=g->g<=g->K v g w'->r v g w'):Me P f e w F r:=
 λw1 i=>(h w1 i).mono λ_ _ ⟨v,w',y,j,hK⟩=>⟨v,w',y,j,x v _ w' j.umod i.size (le_refl _) hK⟩
def Wf(u:UW):Prop:=∀b,u.gk b->b<u.heap.size
def Wf.ret{u:UW}{lo:Nat}{w':World}(h:Wf u)(g:u.heap.size<=w'.heap.size):Wf (u.ret lo w'):=λb e=>e.elim (λe=>Nat.lt_of_lt_of_le (h b e) g) (λe=>e.2)
def Wf.born{u:UW}{b:Nat}{w':World}{o:Obj}(h:Wf u)(g:rF u.toWorld w' b o):Wf (u.born b w'):=λc hc=>hc.elim (λhc=>Nat.lt_of_lt_of_le (h c hc) g.below.size) (λe=>by subst e;exact(Array.getElem?_eq_some_iff.1 g.at_).1)
def Wf.Ka{u:UW}{b:Nat}{w':World}{o:Obj}(h:Wf u)(e:Sto u.toWorld w' b o):Wf (u.Ka w'):=λc hc=>Nat.lt_of_lt_of_le (h c hc) e.size
def pX.mono{P:Program}{f:Value}{e:List Value}{u:UW}{K r:Value->UW->Prop}(h:pX P f e u K)
  (y:∀v g w',Mod u.gk u.toWorld w'->u.heap.size<=g->K v (u.ret g w')->r v (u.ret g w')):pX P f e u r:=by
 obtain⟨F,j,h⟩:=jP.1 h;exact jP.2 ⟨F,j,h.mono λv g w' i x _ hK=>y v g w' ⟨i.os,i.tape,i.output,i.size,λb C w=>i.cu b C λA=>w (j b A)⟩ x hK⟩
def yz{P:Program}{op:BinOp}{t:TypeId}{x y:Value}{K i:Value->Prop}(h:qb P op t x y K)(g:∀v,plain v=true->one v=true->K v->i v):qb P op t x y i:=by
 unfold qb at h |-;split at h
 .try simp only
  obtain⟨hc,h⟩:=aq h;rw[hc]
  try simp only[cond_true]
  unfold x_ at h |-;split at h<;>(try simp only)<;>first|exact g _ rfl rfl h|exact⟨h.1,g _ rfl rfl h.2⟩|exact h.elim
 .try simp only
  unfold AP at h |-;split at h<;>(try simp only)<;>first|exact g _ rfl rfl h|exact⟨h.1,g _ rfl rfl h.2⟩|exact h.elim
 .try simp only
  split at h
  .rename_i e;(try rw[e]);try simp only
   split at h<;>(try simp only)<;>first|exact g _ rfl rfl h|exact h.elim
  .exact h.elim
 .try simp only
  split at h
  .exact h.elim
  .rename_i e;(try rw[e]);try simp only
   obtain⟨hc,h⟩:=aq h;rw[hc];simp only[cond_true];split at h
   .rename_i e;(try rw[e]);try simp only
    split at h<;>(try simp only)<;>first|exact g _ rfl rfl h|exact h.elim
   .exact h.elim
 .try simp only
  split at h
  .rename_i e;(try rw[e]);try simp only
   split at h<;>(try simp only)<;>first|exact g _ rfl rfl h|exact h.elim
  .exact h.elim
 .try simp only
  split at h
  .rename_i e;(try rw[e]);try simp only
   split at h<;>(try simp only)<;>first|exact g _ rfl rfl h|exact h.elim
  .exact h.elim
 .try simp only
  split at h
  .rename_i e;(try rw[e]);try simp only
   split at h<;>(try simp only)<;>first|exact g _ rfl rfl h|exact h.elim
  .exact h.elim
 .exact h.elim
def Xm{P:Program}{op:BinOp}{t:TypeId}{f:Fn}{a b g e:Array Value}{K:Value->Prop}(h:qb P op t (.func f a b) .nilFunc K):qb P op t (.func f g e) .nilFunc K:=h
theorem xC{Z:Fz}:∀{ps:List PV} {vs ws:List Value},jU ps=some vs->bx Z ps ws->ws=vs
 |[],vs,ws,h,hr=>by simp only[jU,Option.some.injEq]at h;subst h;exact hr.nq
 | .raw v::ps,vs,ws,h,hr=>by
   simp only[jU]at h
   cases hu:jU ps with
   |none=>rw[hu]at h;cases h
   |some us=>
    rw[hu]at h
    simp only[Option.some.injEq]at h
    subst h
    obtain⟨w,ws',rfl,h1,h2,h3⟩:=hr.inv
    rw[h2.ofRaw.1,xC hu h3]
 | .list .. ::_,_,_,h,_=>by simp[jU]at h
 | .bt .. ::_,_,_,h,_=>by simp[jU]at h
 | .fn .. ::_,_,_,h,_=>by simp[jU]at h
 | .agg .. ::_,_,_,h,_=>by simp[jU]at h
 | .aB .. ::_,_,_,h,_=>by simp[jU]at h
 | .iface .. ::_,_,_,h,_=>by simp[jU]at h
 | .box .. ::_,_,_,h,_=>by simp[jU]at h
 | .aU::_,_,_,h,_=>by simp[jU]at h
theorem Uf{Z:Fz}{P:Program}{op:BinOp}{t:TypeId}{x y:PV}{a b:Value}{KP:PV->Prop}{K:Value->Prop}(hx:bW Z x a)(hy:bW Z y b)(h:Ug P op t x y KP)(hk:∀p v,bW Z p v->KP p->K v):qb P op t a b K:=by
 unfold Ug at h;split at h
 .rw[hx.ofRaw.1,hy.ofRaw.1];exact yz h λv h1 h2 hv=>hk _ v (.raw v h1 h2) hv
 .rename_i as bs;cases h1:jU as with
  |none=>rw[h1]at h;exact h.elim
  |some us=>
   cases h2:jU bs with
   |none=>rw[h1,h2]at h;exact h.elim
   |some ws=>
    rw[h1,h2]at h;obtain⟨vs,rfl,hc⟩:=hx.qK;obtain⟨qn,rfl,sV⟩:=hy.qK;rw[xC h1 hc,xC h2 sV];exact yz h λv h1 h2 hv=>hk _ v (.raw v h1 h2) hv
 .obtain⟨fv,cv,rfl,_⟩:=hx.ofFn;rw[hy.ofRaw.1];exact yz (Xm h) λv h1 h2 hv=>hk _ v (.raw v h1 h2) hv
 .exact h.elim
def xT{P:Program}{t:TypeId}{v:Value}(h:(match P.underlying t with|some (.interface _)=>false|some _=>true|none=>false)=true):pv P (Instr.makeInterface t v)=some (.iface t v):=by
 unfold Instr.makeInterface underlying program;simp only[bind,Sem.bind,pv];cases hu:P.underlying t with
 |none=>rw[hu]at h;cases h
 |some d=>
  rw[hu]at h;cases d<;>first|(simp at h;done)|rfl
def ET{Z:Fz}{p:PV}{v:Value}(h:bW Z p v)(e:p.ok=true):v.cells.size=p.cells.length:=by
 have:=(h.cells e).1;simpa using this
def Jy{Z:Fz}{P:Program}{I:Array Field}:∀{ps:List (Nat×PV)} {A:List (Nat×Value)} {cs:List PV} {g:List Value} {r:List PV},ps.length=A.length->
  (∀(i:Nat) x y,ps[i]?=some x->A[i]?=some y->x.1=y.1/\x.2.ok=true/\bW Z x.2 y.2)->bx Z cs g->Jz P I ps cs=some r->∃w,L_ P I A g=some w/\bx Z r w
 |[],[],cs,g,r,_,_,hc,h=>by simp only[Jz,Option.some.injEq]at h;subst h;exact⟨g,rfl,hc⟩
 |[],_::_,_,_,_,j,_,_,_=>by simp at j
 |_::_,[],_,_,_,j,_,_,_=>by simp at j
 |(i,p)::ps,(Q,v)::A,cs,g,r,j,hp,hc,h=>by
  obtain⟨J,H,G⟩:=hp 0 _ _ rfl rfl
  simp only at J H G;subst J;simp only[Jz]at h;simp only[L_];split at h
  .rename_i f O;have e:=ET G H;cases C:(beq p.cells.length (P.cellsOf f.type)&&ble (f.offset+p.cells.length) cs.length&&(P.info? f.type).isSome)with
   |false=>rw[C]at h;cases h
   |true=>
    rw[C]at h;simp only[cond_true]at h;have L:(beq v.cells.size (P.cellsOf f.type)&&ble (f.offset+v.cells.size) g.length&&(P.info? f.type).isSome)=true:=by rw[e,hc.1];exact C
    rw[O];simp only[L,cond_true];refine Jy (by simpa using j) (λi x y a b=>hp (i+1) x y (by simpa using a) (by simpa using b)) ?_ h;rw[e];exact((hc.take _).append (G.cells H)).append (hc.drop _)
  .cases h
def JA{e:Type}{b:Bool}{x:Option e}{y:e}(h:(bif b then x else none)=some y):b=true/\x=some y:=by
 cases b with
 |false=>cases h
 |true=>exact⟨rfl,h⟩
theorem Ct{Z:Fz}{size:Nat}:∀{i:Nat} {ps:List (Nat×PV)} {vs:List (Nat×Value)} {rows:Lq},ps.length=vs.length->
  (∀(i:Nat) x y,ps[i]?=some x->vs[i]?=some y->x.1=y.1/\x.2.ok=true/\bW Z x.2 y.2)->Cv size i ps=some rows->∃w,pf size i vs=some w/\bx Z rows.flatten w/\rows.length=ps.length/\∀r∈rows,r.length=size
 |i,[],[],rows,_,_,h=>by simp only[Cv,Option.some.injEq]at h;subst h;exact⟨[],rfl,bx.nil Z,rfl,by simp⟩
 |_,[],_::_,_,hl,_,_=>by simp at hl
 |_,_::_,[],_,hl,_,_=>by simp at hl
 |i,(j,pp)::ps,(j',v)::vs,rows,hl,hp,h=>by
  obtain⟨e1,e2,e3⟩:=hp 0 _ _ rfl rfl
  simp only at e1 e2 e3;subst e1;simp only[Cv]at h;simp only[pf];have hlen:=ET e3 e2;cases hb:(beq i j&&beq pp.cells.length size)with
  |false=>rw[hb]at h;cases h
  |true=>
   rw[hb]at h;have jh:(beq i j&&beq v.cells.size size)=true:=by rw[hlen];exact hb
   rw[jh];simp only[cond_true]at h |-;cases Kh:Cv size (i+1) ps with
   |none=>rw[Kh]at h;cases h
   |some rs=>
    rw[Kh]at h;simp only[Option.some.injEq]at h;subst h;obtain⟨w,hw,eR,xv,Ex⟩:=Ct (vs:=vs) (by simpa using hl) (λi x y a b=>hp (i+1) x y (by simpa using a) (by simpa using b)) Kh;rw[hw];refine⟨_,rfl,(e3.cells e2).wk.append eR,by simp[xv],λr hr=>?_⟩;simp only[List.mem_cons]at hr;rcases hr with rfl|hr
    .simp only[length_map];simp only[and_eq_true,beq_iff]at hb;exact hb.2
    .exact Ex r hr
def Xp{Z:Fz}{P:Program}{t:TypeId}{ps:List (Nat×PV)}{vs:List (Nat×Value)}{r:List PV}(I:ps.length=vs.length)
  (hp:∀(i:Nat) x y,ps[i]?=some x->vs[i]?=some y->x.1=y.1/\x.2.ok=true/\bW Z x.2 y.2) (h:abv P t ps=some r):∃w,Xq P t vs=some w/\bx Z r w:=by
 unfold abv at h;unfold Xq;split at h
 .rename_i z O hz H;rw[hz,H];simp only;cases g:((nJ P t z).ok&&dx P t&&O.toList.all λf=>(P.info? f.type).isSome)with
  |false=>rw[g]at h;cases h
  |true=>
   rw[g]at h;simp only[cond_true]at h;have U:(O.toList.all λf=>(P.info? f.type).isSome)=true:=by
    simp only[and_eq_true]at g;exact g.2
   rw[U];simp only[cond_true];split at h
   .rename_i cs Q;have hz:=(Ak Z z).gp (P:=P) (t:=t);have Li:bW Z (.agg cs) z:=by rw[<- Q];exact hz
    obtain⟨ds,rfl,hc⟩:=Li.qK;refine Jy (by simpa using I) (λi x y a b=>?_) hc h;rw[getElem?_map]at a;cases j:ps[i]? with
    |none=>simp[j]at a
    |some G=>
     simp only[j,map_some,Option.some.injEq]at a;obtain⟨J,C,A⟩:=hp i G y j b;subst a;refine⟨J,?_,?_⟩
     .simp only;split
      .rw[oS];exact C
      .exact C
     .simp only;split
      .exact A.gp
      .exact A
   .cases h
 .rename_i z len e hz H;rw[hz,H];simp only;obtain⟨g,h⟩:=JA h;simp only[and_eq_true]at g;rw[<- I,g.1.1,g.1.2,g.2];simp only[Bool.and_true,cond_true];split at h
  .rename_i L Sq;simp only[Option.some.injEq]at h;subst h
   obtain⟨w,Y,eR,_⟩:=Ct (Z:=Z) (vs:=vs) (by simpa using I) (λi x y a b=>by
    rw[getElem?_map]at a
    cases j:ps[i]? with
    |none=>simp[j]at a
    |some G=>
     simp only[j,map_some,Option.some.injEq]at a
     obtain⟨J,C,A⟩:=hp i G y j b
     subst a
     exact⟨J,by rw[oS];exact C,A.gp⟩) Sq
   exact⟨w,Y,eR⟩
  .cases h
 .cases h
def WW{Z:Fz}{P:Program}{e:TypeId}{g:Nat}{cs:List PV}{i:List Value}{p:PV}(hc:bx Z cs i)(h:aaY P e g cs=some p):∃v,PA P e g i=some v/\p.ok=true/\bW Z p v:=by
 unfold aaY at h;unfold PA;obtain⟨x,h⟩:=JA h;rw[hc.1,x];simp only[cond_true];cases ha:dx P e with
 |true=>
  rw[ha]at h;simp only[cond_true,Option.some.injEq]at h |-;subst h;exact⟨_,rfl,rfl,((hc.drop _).take _).sI⟩
 |false=>
  rw[ha]at h;simp only[cond_false]at h |-;obtain⟨v,j,w,r⟩:=hc.get h;exact⟨v,j,PV.FO w,r⟩
def WS{Z:Fz}{P:Program}{t:TypeId}{f:Nat}{cs:List PV}{e:List Value}{p:PV}(hc:bx Z cs e)(h:aaS P t f cs=some p):∃v,Dt P t f e=some v/\p.ok=true/\bW Z p v:=by
 unfold aaS at h;unfold Dt;split at h
 .rename_i A r;rw[r];simp only;split at h
  .rename_i x i;rw[i];simp only;rw[hc.1];cases g:((P.underlying x.type).isSome&&ble (x.offset+P.cellsOf x.type) cs.length)with
   |false=>rw[g]at h;cases h
   |true=>
    rw[g]at h;simp only[cond_true]at h |-;cases ha:dx P x.type with
    |true=>
     rw[ha]at h;simp only[cond_true,Option.some.injEq]at h |-;subst h;exact⟨_,rfl,rfl,((hc.drop _).take _).sI⟩
    |false=>
     rw[ha]at h;simp only[cond_false]at h |-;obtain⟨v,j,y,w⟩:=hc.get h;exact⟨v,j,PV.FO y,w⟩
  .cases h
 .cases h
theorem gm{Z:Fz}{p:dK}{s:St}(hr:dt Z p s){x:Option Operand}{d i:Int}(h:ic (sX p.σ) x d=some i):dH (ev s.σ) x d=some i:=by
 unfold ic at h;unfold dH;split at h
 .exact h
 .rename_i x;split at h
  .rename_i k j he;have:=hr.ev x;rw[he]at this;show(match ev s.σ x with| .int _ i=>some i|_=>none)=some i;rw[this.ofRaw.1];exact h
  .cases h
theorem BN{Z:Fz}{p:dK}{s:St}(hr:dt Z p s):∀{xs:List Operand} {r:IntKind×List Int},BO (sX p.σ) xs=some r->ns (ev s.σ) xs=some r
 |[],_,h=>by simp[BO]at h
 |[x],r,h=>by
  simp only[BO]at h
  split at h
  .rename_i k i he
   have:=hr.ev x
   rw[he]at this;simp only[ns,this.ofRaw.1];exact h
  .cases h
 |x::y::l,r,h=>by
  simp only[BO]at h;split at h
  .rename_i k i k' is he h2;have:=hr.ev x;rw[he]at this;have ih:=BN (xs:=y::l) hr h2;simp only[ns,this.ofRaw.1,ih];exact h
  .cases h
def DS{Z:Fz}{A size:Nat}{fl J:Fl}{e:Lq}{a:Option Addr}{n c l h m:Nat}(O:bW Z (.list A fl e) (.slice a n c))(I:qJ size A e=true)(h1:l<=h)(h2:h<=e.length)(h3:h<=m)(Q:UG J (zI a l m size) (h-l) (m-l)):
  bW Z (.list size J ((e.take h).drop l)) (.slice (zI a l m size) (h-l) (m-l)):=by
 cases O with
 |list _ _ _ _ _ _ b o C g hn hc hs UJ ha hg hk hp hf0=>
  have Y:m-l=0\/gq (zI a l m size):=by
   unfold zI;split
   .left;omega
   .right;intro x L;cases a with
    |none=>cases L
    |some y=>simp only[map_some,Option.some.injEq]at L;subst L;rfl
  have G:((e.take h).drop l).length=h-l:=by simp;omega
  by_cases h0:h-l=0
  .have tU:(e.take h).drop l=[]:=List.eq_nil_of_length_eq_zero (by omega);rw[tU];refine .list size J [] _ (h-l) _ 0 0 [] (λ_ _=>undef) (by simp;omega) (by omega) Y (by simp) (λh=>absurd h0 h) (λi j w=>by omega) (by simp) (by simp) Q
  .have Qp:n≠0:=by omega
   have Pc:A=size:=by
    unfold qJ at I;cases U:beq A size with
    |true=>exact beq_iff.1 U
    |false=>
     rw[U]at I;simp only[cond_false]at I;split at I
     .simp at h2;omega
     .cases I
   subst Pc;obtain⟨ea,ez⟩:=ha Qp;subst ea;have aW:m≠l:=by omega
   refine .list A J _ _ (h-l) _ b (o+l*A) C (λi j=>g (i+l) j) G (by omega) Y ?_ ?_ ?_ ?_ ?_ Q
   .intro r O;exact UJ r (List.mem_of_mem_take (List.mem_of_mem_drop O))
   .intro _;refine⟨?_,ez⟩;unfold zI;rw[if_neg aW];rfl
   .intro i j w H;have:=hg (i+l) j (by omega) H;rw[<- this];congr 1;rw[add_mul];omega
   .intro i j row p w H;rw[getElem?_drop,getElem?_take]at w;split at w
    .exact hk (l+i) j row p w H
    .cases w
   .intro i j row p w H;rw[getElem?_drop,getElem?_take]at w;split at w
    .have:=hp (l+i) j row p w H;rw[Nat.add_comm]at this;exact this
    .cases w
def bW.K_{Z:Fz}{row:List PV}{o:Nat}{w:Value}(h:bW Z (.bt row o) w):∃(b e:Nat) (C:List Value) (g:Nat->Value),w=.pointer (some ⟨b,e+o,none⟩)/\Z b=some C/\(∀j:Nat,j<row.length->C[e+j]?=some (g j))/\(∀(j:Nat) p,row[j]?=some p->p.cell=true)/\∀(j:Nat) p,row[j]?=some p->bW Z p (g j):=by
 cases h with
 |bt _ _ b e C g hz r i hp=>exact⟨b,e,C,g,rfl,hz,r,i,hp⟩
def JF{Z:Fz}{p:dK}{s:St}(g:dt Z p s){l:List Operand}(h:l.all (λx=>(sX p.σ x).ok)=true):br Z (l.map (sX p.σ)) (l.map (ev s.σ)):=by
 induction l with
 |nil=>exact br.nil Z
 |cons x l e=>
  simp only[all_cons,and_eq_true]at h;exact br.cons h.1 (g.ev x) (e h.2)
def lq{Z:Fz}{p:dK}{s:St}(g:dt Z p s){l:List Operand}(h:l.all (λx=>(sX p.σ x).ok)=true):l.all (λx=>plain (ev s.σ x))=true:=by
 rw[all_eq_true]at h |-;exact λx e=>(g.ev x).plain (h x e)
def oY(o:Oper):Bool:=match o.op with| .load .. =>true|_=>false
theorem GV{E:kM}{q:Bool}{fz:List Nat}{o:Oper}{p:dK}{s:St}{μ:Mem}{u:UW}{KP:dK->Mem->Prop}{K:St->UW->Prop}{Z:Fz}(hr:dt Z p s)(gF:bF o=true)(hl:oY o=false)
  (hK:∀p' s',dt Z p' s'->KP p' μ->K s' u) (h:V1 E q fz o p μ KP):W1 E.er fz o s u K:=by
 unfold bF at gF;unfold oY at hl;unfold V1 at h;unfold W1;simp only at h |-;cases Nk:o.op<;>simp only[Nk]at h gF hl |- <;>first|(cases gF;done)|(cases hl;done)|skip
 case move x=>exact hK _ _ (hr.fin o (hr.ev x).gp) h
 case assign x=>exact hK _ _ (hr.fin o (hr.ev x).gp) h
 case pick c a b=>
  split at h
  .rename_i t he;have hc:=hr.ev c;rw[he]at hc;rw[hc.ofRaw.1];cases t
   .exact hK _ _ (hr.fin o (hr.ev b).gp) h
   .exact hK _ _ (hr.fin o (hr.ev a).gp) h
  .exact h.elim
 case build t ps=>
  obtain⟨hc,h⟩:=aq h;have nH:(ps.toList.all λp=>plain (ev s.σ p.2))=true:=by
   rw[all_eq_true]at hc |-;exact λx hx=>(hr.ev x.2).plain (hc x hx)
  rw[nH];simp only[cond_true];split at h
  .rename_i vs hb
   obtain⟨w,hw,eR⟩:=Xp (Z:=Z) (vs:=ps.toList.map λp=>(p.1,ev s.σ p.2)) (by simp) (λi x y a b=>by
    rw[getElem?_map]at a b
    cases hi:ps.toList[i]? with
    |none=>rw[hi]at a;cases a
    |some z=>
     rw[hi]at a b
     simp only[map_some,Option.some.injEq]at a b
     subst a;subst b
     exact⟨rfl,all_eq_true.1 hc z (mem_of_getElem? hi),hr.ev z.2⟩) hb
   have Wk:Xq E.er.P t (ps.toList.map λp=>(p.1,ev s.σ p.2))=some w:=hw;rw[Wk];exact hK _ _ (hr.fin o eR.sI) h
  .exact h.elim
 case nilCheck x=>
  have hx:=hr.ev x;split at h
  .rename_i k off he;rw[he]at hx;rw[hx.zf];exact hK _ _ (hr.fin o (.box k off)) h
  .rename_i row off he;rw[he]at hx;obtain⟨b,of,C,g,hv,hz,hg,hk,hp⟩:=hx.K_;rw[hv];exact hK _ _ (hr.fin o (.bt row off b of C g hz hg hk hp)) h
  .rename_i a he;rw[he]at hx;rw[hx.ofRaw.1];cases a with
   |none=>exact h.elim
   |some a=>exact hK _ _ (hr.fin o (.raw _ rfl rfl)) h
  .rename_i f a b he;rw[he]at hx;obtain⟨fv,cv,hv,h1,h2⟩:=hx.ofFn;rw[hv];cases f with
   |method n=>exact h.elim
   |_=>exact hK _ _ (hr.fin o (br.Fg h1 h2)) h
  .exact h.elim
 case binOp op t x y ft=>exact Uf (hr.ev x) (hr.ev y) h λpp v hv hk=>hK _ _ (hr.fin o hv) hk
 case unOp op t x=>
  have hx:=hr.ev x;split at h
  .rename_i b he;rw[he]at hx;rw[hx.ofRaw.1];exact hK _ _ (hr.fin o (.raw _ rfl rfl)) h
  .rename_i k n he;rw[he]at hx;rw[hx.ofRaw.1];exact hK _ _ (hr.fin o (.raw _ rfl rfl)) h
  .exact h.elim
 case convert src dst x=>
  have hx:=hr.ev x;split at h
  .rename_i v he;rw[he]at hx;obtain⟨e1,e2,e3⟩:=hx.ofRaw;rw[e1,e2];simp only[cond_true];split at h
   .rename_i v' hv;have hv':pv E.er.P (convert src dst v)=some v':=hv;rw[hv'];obtain⟨hc,h⟩:=aq h;simp only[and_eq_true]at hc;simp only[hc.1,cond_true];exact hK _ _ (hr.fin o (.raw _ hc.1 hc.2)) h
   .exact h.elim
  .exact h.elim
 case makeInterface t x=>
  have hx:=hr.ev x;obtain⟨hc,h⟩:=aq h;simp only[and_eq_true]at hc;rw[hx.plain hc.1];simp only[cond_true];have hm:pv E.er.P (Instr.makeInterface t (ev s.σ x))=some (.iface t (ev s.σ x)):=xT hc.2;rw[hm];simp only[plain,cond_true];exact hK _ _ (hr.fin o (.iface t _ _ hc.1 hx)) h
 case makeFunc fn first uk=>
  obtain⟨hc,h⟩:=aq h;simp only[and_eq_true]at hc;rw[lq hr hc.1,lq hr hc.2];simp only[Bool.and_self,cond_true];have wkR:∀{l:List Operand},l.all (λx=>(sX p.σ x).ok)=true->br Z (l.map λx=>wk (sX p.σ x)) (l.map (ev s.σ)):=by
   intro l hl;induction l with
   |nil=>exact br.nil Z
   |cons x l ih=>
    simp only[all_cons,and_eq_true]at hl;exact br.cons (by rw[acL];exact hl.1) (hr.ev x).wk (ih hl.2)
  exact hK _ _ (hr.fin o (br.Fg (wkR hc.1) (wkR hc.2))) h
 case slice t x lo hi mx=>
  have hx:=hr.ev x;split at h
  .rename_i e sz fl rows hu he;have gw:E.er.P.underlying t=some (.slice e):=hu;rw[he]at hx;obtain⟨a,n,c,hv,hn,hc,hs,hf⟩:=hx.ofList;rw[gw,hv];simp only;rw[hv]at hx;split at h
   .rename_i l hh m e1 e2 e3;have e1':=gm hr e1;rw[hn]at e2;have e2':=gm hr e2;cases hb:((mx.isSome&&hi.isNone)||(E.P.info? e).isNone|| !qJ (E.P.cellsOf e) sz rows)with
    |true=>rw[hb]at h;exact h.elim
    |false=>
     rw[hb]at h;simp only[cond_false]at h;simp only[Bool.or_eq_false_iff,Bool.not_eq_false']at hb;have Kk:((mx.isSome&&hi.isNone)||(E.er.P.info? e).isNone)=false:=by
      rw[Bool.or_eq_false_iff];exact hb.1
     cases mx with
     |none=>
      simp only at h;obtain⟨g1,g2,g3,h⟩:=h;have e3':dH (ev s.σ) none (c:Int)=some (c:Int):=rfl;rw[e1',e2',e3'];simp only[Kk,cond_false];refine⟨hs.elim (λh0=>.inl (by omega)) .inr,g1,g2,by omega,by omega,hK _ _ (hr.fin o ?_) h⟩;exact DS hx hb.2 (by omega) (by omega) (by omega) trivial
     |some y=>
      simp only at h;obtain⟨g1,g2,g3,g4,h⟩:=h;have e3':dH (ev s.σ) (some y) (c:Int)=some m:=by
       have:ic (sX p.σ) (some y) (c:Int)=some m:=by
        unfold ic at e3 |-;exact e3
       exact gm hr this
      rw[e1',e2',e3'];simp only[Kk,cond_false];subst g4;refine⟨hs.elim (λh0=>.inl (by omega)) .inr,g1,g2,by omega,by omega,hK _ _ (hr.fin o ?_) h⟩;exact DS hx hb.2 (by omega) (by omega) (by omega) rfl
   .exact h.elim
  .rename_i e a len cap hu he;have gw:E.er.P.underlying t=some (.slice e):=hu;rw[he]at hx;rw[gw,hx.ofRaw.1];simp only;split at h
   .rename_i l hh m e1 e2 e3;rw[gm hr e1,gm hr e2,gm hr e3];simp only;cases hb:((mx.isSome&&hi.isNone)||(E.P.info? e).isNone)with
    |true=>rw[hb]at h;exact h.elim
    |false=>
     rw[hb]at h;have jh:((mx.isSome&&hi.isNone)||(E.er.P.info? e).isNone)=false:=hb;rw[jh];simp only[cond_false]at h |-;obtain⟨g1,g2,g3,g4,g5,h⟩:=h;exact⟨.inr g1,g2,g3,g4,g5,hK _ _ (hr.fin o (.raw _ rfl rfl)) h⟩
   .exact h.elim
  .rename_i st hu he;have gw:E.er.P.underlying t=some .string:=hu;rw[he]at hx;rw[gw,hx.ofRaw.1];simp only;cases mx with
   |some _=>exact h.elim
   |none=>
    simp only at h |-;split at h
    .rename_i l hh e1 e2;rw[gm hr e1,gm hr e2];obtain⟨g1,g2,g3,h⟩:=h;exact⟨g1,g2,g3,hK _ _ (hr.fin o (.raw _ rfl rfl)) h⟩
    .exact h.elim
  .exact h.elim
 case fieldAddr t x f=>
  have hx:=hr.ev x;cases hd:Dv E.P t f with
  |none=>rw[hd]at h;exact h.elim
  |some d=>
   rw[hd]at h;have hd':Dv E.er.P t f=some d:=hd;rw[hd'];simp only at h |-;split at h
   .rename_i k off he;rw[he]at hx;rw[hx.zf];exact hK _ _ (hr.fin o (.box k (off+d))) h
   .rename_i row off he;rw[he]at hx;obtain⟨b,of,C,g,hv,hz,hg,hk,hp⟩:=hx.K_;rw[hv];refine hK _ _ (hr.fin o ?_) h;have:=bW.bt (Z:=Z) row (off+d) b of C g hz hg hk hp;rw[<- add_assoc]at this;exact this
   .unfold aM at h;split at h
    .rename_i b off he;rw[he]at hx;rw[hx.ofRaw.1];exact hK _ _ (hr.fin o (.raw _ rfl rfl)) h
    .exact h.elim
 case field t x f=>
  have hx:=hr.ev x;split at h
  .rename_i cs he;rw[he]at hx;obtain⟨vs,hv,hc⟩:=hx.qK;rw[hv];simp only;split at h
   .rename_i pp hf;obtain⟨v,hv2,hk,hrp⟩:=WS hc hf;have ahS:Dt E.er.P t f vs=some v:=hv2;rw[ahS];simp only[hrp.plain hk,cond_true];exact hK _ _ (hr.fin o hrp) h
   .exact h.elim
  .exact h.elim
 case indexAddr t x i=>
  have hx:=hr.ev x;have hi:=hr.ev i;split at h
  .rename_i e sz fl rows k j hu he hj;have gw:E.er.P.underlying t=some (.slice e):=hu;rw[he]at hx;rw[hj]at hi;obtain⟨hc,g1,row,eh,h⟩:=aq h;simp only[and_eq_true,beq_iff]at hc;have hc1:(E.er.P.info? e).isSome=true:=hc.1;cases Z_:ev s.σ x with
   |slice a n c=>
    rw[Z_]at hx;rw[gw,hi.ofRaw.1];simp only[hc1,cond_true];cases hx with
    |list _ _ _ _ _ _ b of C g hn Nr hs UJ ha hg hk hp hf=>
     have bK:j.toNat<n:=by rw[<- hn];exact(List.getElem?_eq_some_iff.1 eh).1
     obtain⟨ea,ez⟩:=ha (by omega);subst ea;refine⟨g1,by omega,hK _ _ (hr.fin o ?_) h⟩;have fK:sz=E.er.P.cellsOf e:=hc.2;have sS:row.length=sz:=UJ row (mem_of_getElem? eh);have:=bW.bt (Z:=Z) row 0 b (of+j.toNat*sz) C (λjj=>g j.toNat jj) ez (λjj hjj=>hg _ _ bK (by omega)) (λjj pp Nj=>hk _ _ _ _ eh Nj) (λjj pp Nj=>hp _ _ _ _ eh Nj);rw[<- fK];exact this
   |_=>rw[Z_]at hx;cases hx
  .rename_i e a len cap k j hu he hj;have gw:E.er.P.underlying t=some (.slice e):=hu;rw[he]at hx;rw[hj]at hi;obtain⟨hc,h⟩:=aq h;have hc1:(E.er.P.info? e).isSome=true:=hc;rw[gw,hx.ofRaw.1,hi.ofRaw.1];simp only[hc1,cond_true];obtain⟨b,off,rfl,h1,h2,h⟩:=gj h;exact⟨h1,h2,hK _ _ (hr.fin o (.raw _ rfl rfl)) h⟩
  .rename_i len e k off k' j hu he hj;have gw:E.er.P.underlying t=some (.array len e):=hu;rw[he]at hx;rw[hj]at hi;obtain⟨hc,h⟩:=aq h;have hc1:(decide (0<=j)&&decide (j<len)&&(E.er.P.info? e).isSome)=true:=hc;rw[gw,hx.zf,hi.ofRaw.1];simp only[hc1,cond_true];exact hK _ _ (hr.fin o (.box k _)) h
  .exact h.elim
 case index t x i=>
  have hx:=hr.ev x;have hi:=hr.ev i;split at h
  .rename_i st k j hu he hj;have gw:E.er.P.underlying t=some .string:=hu;rw[he]at hx;rw[hj]at hi;rw[gw,hx.ofRaw.1,hi.ofRaw.1];obtain⟨h1,c,hc,h⟩:=h;exact⟨h1,c,hc,hK _ _ (hr.fin o (.raw _ rfl rfl)) h⟩
  .rename_i len e cs k j hu he hj;have gw:E.er.P.underlying t=some (.array len e):=hu;rw[he]at hx;rw[hj]at hi;obtain⟨ds,hds,hc⟩:=hx.qK;rw[gw,hds,hi.ofRaw.1];obtain⟨fL,h1,h2,h⟩:=aq h;obtain⟨q,hq,⟨Np,h⟩,_⟩:=yp (Z:=Z) h;obtain⟨v,hv,aJ,hrv⟩:=WW hc Np;exact⟨h1,h2,fL,v,hv,hrv.plain aJ,hK _ _ (hr.fin o hrv) h⟩
  .exact h.elim
 case extract x i=>
  have hx:=hr.ev x;split at h
  .rename_i vs he;rw[he]at hx;obtain⟨ws,hv,hs⟩:=hx.Bv;rw[hv];simp only;split at h
   .rename_i pp hp;obtain⟨hk,h⟩:=aq h;obtain⟨w,hw,_,Kg⟩:=hs.get hp;have Wk:ws.toArray[i]?=some w:=by simpa using hw
    rw[Wk];simp only[Kg.plain hk,cond_true];exact hK _ _ (hr.fin o Kg) h
   .exact h.elim
  .exact h.elim
 case call c=>
  obtain⟨cal,args,ats⟩:=c;cases cal with
  |value f=>cases gF
  |invoke x n=>cases gF
  |builtin b=>
   simp only at h gF |-;unfold V1b at h;unfold W1b;generalize args.toList=al at h |-;generalize ats.toList=tl at h |-;cases b<;>first|(cases gF;done)|skip
   case len=>
    match al,tl,h with
    |[x],[t],h=>
     have hx:=hr.ev x;simp only at h |-;split at h
     .rename_i e sz fl rows hu he;have gw:E.er.P.underlying t=some (.slice e):=hu;rw[he]at hx;obtain⟨a,n,c,hv,hn,_⟩:=hx.ofList;rw[gw,hv,<- hn];exact hK _ _ (hr.fin o (.raw _ rfl rfl)) h
     .rename_i e a n c hu he;have gw:E.er.P.underlying t=some (.slice e):=hu;rw[he]at hx;rw[gw,hx.ofRaw.1];exact hK _ _ (hr.fin o (.raw _ rfl rfl)) h
     .rename_i st hu he;have gw:E.er.P.underlying t=some .string:=hu;rw[he]at hx;rw[gw,hx.ofRaw.1];exact hK _ _ (hr.fin o (.raw _ rfl rfl)) h
     .rename_i n e hu;have gw:E.er.P.underlying t=some (.array n e):=hu;obtain⟨hk,h⟩:=aq h;rw[gw];simp only[hx.plain hk,cond_true];exact hK _ _ (hr.fin o (.raw _ rfl rfl)) h
     .exact h.elim
    |[],_,h=>exact h.elim
    |[_],[],h=>exact h.elim
    |[_],_::_::_,h=>exact h.elim
    |_::_::_,_,h=>exact h.elim
   case min=>
    simp only at h |-;split at h
    .rename_i k i is he;rw[BN hr he];exact hK _ _ (hr.fin o (.raw _ rfl rfl)) h
    .exact h.elim
   case max=>
    simp only at h |-;split at h
    .rename_i k i is he;rw[BN hr he];exact hK _ _ (hr.fin o (.raw _ rfl rfl)) h
    .exact h.elim
def zQ.go{Z w:Fz}{u u':UW}{b:Nat}{o:Ob}(h:zQ Z u b o)(hz:Z.le w)(r:w b=Z b)(j:u'.heap[b]?=u.heap[b]?):zQ w u' b o:=by
 cases o with
 |cells T cs=>
  obtain⟨i,A,g,e⟩:=h;exact⟨by rw[r];exact i,A,by rw[j];exact g,e.mono hz⟩
 |nM n m=>
  obtain⟨⟨C,i,g⟩,A,T,e,x⟩:=h;exact⟨⟨C,by rw[r];exact i,g⟩,A,T,by rw[j];exact e,x⟩
 |obj o F S=>exact⟨by rw[r];exact h.1,by rw[j];exact h.2.1,λt=>(h.2.2 t).mono hz⟩
 |ro T cs=>
  obtain⟨i,A,g,e⟩:=h;exact⟨by rw[r];exact i,A,by rw[j];exact g,e.mono hz⟩
def Good.go{Z i:Fz}{u u':UW}{μ g:Mem}(h:Good Z u μ)(hz:Z.le i)
  (w:∀b C,i b=some C->(Z b=some C/\u'.heap[b]?=u.heap[b]?)\/∃A T f,u'.heap[b]?=some (.cells A T f)/\C <+: A.toList)
  (J:∀b o,g b=some o->(μ b=some o/\u'.heap[b]?=u.heap[b]?/\(u.gk b->u'.gk b)/\i b=Z b)\/((o.rw=true->u'.gk b)/\zQ i u' b o)):Good i u' g:=by
 refine⟨λb C j=>?_,λb o j=>?_⟩
 .rcases w b C j with⟨e,r⟩|e
  .rw[r];exact h.Da b C e
  .exact e
 .rcases J b o j with⟨e,r,G,y⟩|e
  .obtain⟨I,H⟩:=h.mem b o e;exact⟨λx=>G (I x),H.go hz y r⟩
  .exact e
def Fz.set(Z:Fz)(b:Nat)(C:List Value):Fz:=λc=>if c=b then some C else Z c
def Fz.ao(Z:Fz)(b:Nat)(C:List Value):Z.set b C b=some C:=by simp[Fz.set]
def Fz.ax(Z:Fz){b c:Nat}(C:List Value)(h:c≠b):Z.set b C c=Z c:=by simp[Fz.set,h]
def Fz.KL{Z:Fz}{b:Nat}{C:List Value}(h:∀D,Z b=some D->D <+: C):Z.le (Z.set b C):=λc D g=>by
 by_cases e:c=b
 .subst e;exact⟨C,Fz.ao _ _ _,h D g⟩
 .exact⟨D,by rw[Fz.ax _ _ e];exact g,List.prefix_refl _⟩
def Good.VU{Z:Fz}{u:UW}{μ:Mem}(h:Good Z u μ){b:Nat}(e:u.heap.size<=b):Z b=none:=by
 cases hz:Z b with
 |none=>rfl
 |some C=>have:=h.Al (b:=b) (by rw[hz];simp);omega
def Good.cl{Z:Fz}{u:UW}{μ:Mem}(h:Good Z u μ){b:Nat}(e:u.heap.size<=b):μ b=none:=by
 cases hz:μ b with
 |none=>rfl
 |some C=>have:=h.Qi (b:=b) (by rw[hz];simp);omega
def Good.born{Z:Fz}{u:UW}{μ:Mem}(h:Good Z u μ){b:Nat}{w':World}{A:Array Value}{T:TypeId}(i:rF u.toWorld w' b (.cells A T (0,0))){cs:List PV}(hc:cQ Z cs A.toList):
  Good Z (u.born b w') (μ.set b (some (.cells T cs)))/\Ext Z μ u.heap.size Z (μ.set b (some (.cells T cs)))/\μ b=none:=by
 have j:u.heap.size<=b:=i.ge;have cu:∀c,c<u.heap.size->(u.born b w').heap[c]?=u.heap[c]?:=λc hc=>i.below.block c hc;refine⟨h.go (Fz.le.refl Z) (λc C r=>.inl ⟨r,cu c (h.Al (by rw[r];simp))⟩) (λc o g=>?_),⟨Fz.le.refl Z,λ_ _ h _=>h,λ_ h=>.inl h,λc hc=>?_,λ_ w=>h.Al w⟩,h.cl j⟩
 .by_cases e:c=b
  .subst e;rw[Mem.ao]at g;cases g;exact .inr ⟨λ_=>.inr rfl,h.VU j,A,i.at_,hc⟩
  .rw[Mem.ax _ _ e]at g;exact .inl ⟨g,cu c (h.Qi (by rw[g];simp)),λhp=>.inl hp,rfl⟩
 .by_cases e:c=b
  .exact .inr (by omega)
  .rw[Mem.ax _ _ e]at hc;exact .inl hc
def Good.YR{Z:Fz}{u:UW}{μ:Mem}(h:Good Z u μ){b:Nat}{w':World}{A:Array Value}{T:TypeId}(j:rF u.toWorld w' b (.cells A T (0,0))):
  Good (Z.set b A.toList) (u.born b w') μ/\Ext Z μ u.heap.size (Z.set b A.toList) μ:=by
 have y:u.heap.size<=b:=j.ge;have cu:∀c,c<u.heap.size->(u.born b w').heap[c]?=u.heap[c]?:=λc hc=>j.below.block c hc;have i:Z.le (Z.set b A.toList):=Fz.KL λD x=>by rw[h.VU y]at x;cases x
 refine⟨h.go i (λc C g=>?_) (λc o r=>?_),⟨i,λc C g _=>?_,λc hc=>?_,λ_ h=>.inl h,λ_ G=>h.Al G⟩⟩
 .by_cases e:c=b
  .subst e;rw[Fz.ao]at g;cases g;exact .inr ⟨A,T,_,j.at_,List.prefix_refl _⟩
  .rw[Fz.ax _ _ e]at g;exact .inl ⟨g,cu c (h.Al (by rw[g];simp))⟩
 .have w:=h.Qi (b:=c) (by rw[r];simp);exact .inl ⟨r,cu c w,λhp=>.inl hp,Fz.ax _ _ (by omega)⟩
 .have w:=h.Al (b:=c) (by rw[g];simp);rw[Fz.ax _ _ (by omega)];exact g
 .by_cases e:c=b
  .exact .inr (.inr (by omega))
  .rw[Fz.ax _ _ e]at hc;exact .inl hc
def Good.afC{Z:Fz}{u:UW}{μ:Mem}(h:Good Z u μ){b:Nat}{w':World}{A:Array Value}{T:TypeId}(r:rF u.toWorld w' b (.cells A T (0,0))){C:List Value}(hp:C <+: A.toList){m:Nat}(y:m<=A.size):
  Good (Z.set b C) (u.born b w') (μ.set b (some (.nM C.length m)))/\Ext Z μ u.heap.size (Z.set b C) (μ.set b (some (.nM C.length m)))/\μ b=none:=by
 have w:u.heap.size<=b:=r.ge;have cu:∀c,c<u.heap.size->(u.born b w').heap[c]?=u.heap[c]?:=λc hc=>r.below.block c hc;have j:Z.le (Z.set b C):=Fz.KL λD x=>by rw[h.VU w]at x;cases x
 refine⟨h.go j (λc H g=>?_) (λc o i=>?_),⟨j,λc H g _=>?_,λc hc=>?_,λc hc=>?_,λ_ G=>h.Al G⟩,h.cl w⟩
 .by_cases e:c=b
  .subst e;rw[Fz.ao]at g;cases g;exact .inr ⟨A,T,_,r.at_,hp⟩
  .rw[Fz.ax _ _ e]at g;exact .inl ⟨g,cu c (h.Al (by rw[g];simp))⟩
 .by_cases e:c=b
  .subst e;rw[Mem.ao]at i;cases i;exact .inr ⟨λ_=>.inr rfl,⟨C,Fz.ao _ _ _,rfl⟩,A,T,r.at_,y⟩
  .rw[Mem.ax _ _ e]at i;exact .inl ⟨i,cu c (h.Qi (by rw[i];simp)),λhp=>.inl hp,Fz.ax _ _ e⟩
 .have I:=h.Al (b:=c) (by rw[g];simp);rw[Fz.ax _ _ (by omega)];exact g
 .by_cases e:c=b
  .exact .inr (.inr (by omega))
  .rw[Fz.ax _ _ e]at hc;exact .inl hc
 .by_cases e:c=b
  .exact .inr (by omega)
  .rw[Mem.ax _ _ e]at hc;exact .inl hc
def cQ.take{Z:Fz}{ps:List PV}{e:List Value}(h:cQ Z ps e)(n:Nat):cQ Z (ps.take n) (e.take n):=
 ⟨by simp[h.1],λi p v a b=>by
  rw[getElem?_take]at a b
  split at a
  .rename_i g;rw[if_pos g]at b;exact h.2 i p v a b
  .cases a⟩
def cQ.drop{Z:Fz}{ps:List PV}{e:List Value}(h:cQ Z ps e)(n:Nat):cQ Z (ps.drop n) (e.drop n):=
 ⟨by simp[h.1],λi p v a b=>by rw[getElem?_drop]at a b;exact h.2 _ p v a b⟩
def cQ.append{Z:Fz}{ps i:List PV}{e g:List Value}(h:cQ Z ps e)(k:cQ Z i g):cQ Z (ps++i) (e++g):=by
 induction ps generalizing e with
 |nil=>rw[h.nq];exact k
 |cons p ps j=>obtain⟨v,x,rfl,w,r⟩:=h.inv;exact cQ.cons w (j r)
def UU{Z:Fz}{cs ps:List PV}{A:Array Value}{e:List Value}{o:Nat}(h:cQ Z cs A.toList)(k:cQ Z ps e)(g:o+ps.length<=cs.length):cQ Z (du cs o ps) (vc A o e).toList:=by
 have i:A.size=cs.length:=by have:=h.1;simpa using this
 rw[qq _ _ _ (by rw[k.1,i];exact g)];unfold du;rw[k.1];exact((h.take _).append k).append (h.drop _)
def Good.store{Z:Fz}{u:UW}{μ:Mem}(h:Good Z u μ){b o:Nat}{T:TypeId}{cs ps:List PV}{w:List Value}(y:μ b=some (.cells T cs))(g:o+ps.length<=cs.length)(x:cQ Z ps w){K:UW->Prop}
  (hK:∀w',Sto u.toWorld w' b (.cells (vc ((u.heap[b]?.bind λo=>match o with| .cells A _ _=>some A|_=>none).getD #[]) o w) T (0,0))->Good Z (u.Ka w') (μ.set b (some (.cells T (du cs o ps))))->Ext Z μ u.heap.size Z (μ.set b (some (.cells T (du cs o ps))))->K (u.Ka w')):uo b o w u K:=by
 obtain⟨hp,hz,A,G,hc⟩:=h.mem b _ y;have hp:=hp rfl;have L:A.size=cs.length:=by have:=hc.1;simpa using this
 refine⟨A,T,G,by rw[x.1,L];exact g,hp,λw' j=>?_⟩;have H:(u.heap[b]?.bind λo=>match o with| .cells A _ _=>some A|_=>none).getD #[]=A:=by rw[G];rfl
 refine hK w' (by rw[H];exact j) (h.go (Fz.le.refl Z) (λc C r=>?_) (λc O i=>?_)) ⟨Fz.le.refl Z,λ_ _ h _=>h,λ_ h=>.inl h,λc hc=>?_,λ_ I=>h.Al I⟩
 .have g:=h.Al (b:=c) (by rw[r];simp);have J:c≠b:=by rintro rfl;rw[hz]at r;cases r
  exact .inl ⟨r,j.ne c J g⟩
 .by_cases e:c=b
  .subst e;rw[Mem.ao]at i;cases i;exact .inr ⟨λ_=>hp,hz,_,j.at_,UU hc x g⟩
  .rw[Mem.ax _ _ e]at i;have g:=h.Qi (b:=c) (by rw[i];simp);exact .inl ⟨i,j.ne c e g,λhp=>hp,rfl⟩
 .by_cases e:c=b
  .subst e;exact .inl (by rw[y];simp)
  .rw[Mem.ax _ _ e]at hc;exact .inl hc
def Good.grow{Z:Fz}{u:UW}{μ:Mem}(h:Good Z u μ){b n m:Nat}{new:List Value}(w:μ b=some (.nM n m))(hl:n+new.length<=m){K:UW->Prop}
  (hK:∀w' C,Z b=some C->C.length=n->Good (Z.set b (C++new)) (u.Ka w') (μ.set b (some (.nM (n+new.length) m)))->Ext Z μ u.heap.size (Z.set b (C++new)) (μ.set b (some (.nM (n+new.length) m)))->u.heap.size<=w'.heap.size->Wf (u.Ka w')->K (u.Ka w')) (O:Wf u):uo b n new u K:=by
 obtain⟨hp,⟨C,hz,H⟩,A,T,L,G⟩:=h.mem b _ w;have hp:=hp rfl;obtain⟨A',T',f',x,fD⟩:=h.Da b C hz;rw[L]at x;simp only[Option.some.injEq,Obj.cells.injEq]at x;obtain⟨rfl,rfl,rfl⟩:=x;refine⟨A,T,L,by omega,hp,λw' i=>?_⟩;have y:(vc A n new).toList=A.toList.take n++new++A.toList.drop (n+new.length):=qq _ _ _ (by omega);have Y:A.toList.take n=C:=by
  obtain⟨t,Q⟩:=fD;rw[<- Q,<- H,List.take_left]
 have r:Z.le (Z.set b (C++new)):=Fz.KL λD J=>by rw[hz]at J;cases J;exact List.prefix_append _ _
 refine hK w' C hz H (h.go r (λc C' g=>?_) (λc ob j=>?_)) ⟨r,λc C' g I=>?_,λc hc=>?_,λc hc=>?_,λ_ U=>h.Al U⟩ i.size (O.Ka i)
 .by_cases e:c=b
  .subst e;rw[Fz.ao]at g;cases g;refine .inr ⟨_,_,_,i.at_,?_⟩;rw[y,Y];exact List.prefix_append _ _
  .rw[Fz.ax _ _ e]at g;exact .inl ⟨g,i.ne c e (h.Al (by rw[g];simp))⟩
 .by_cases e:c=b
  .subst e;rw[Mem.ao]at j;cases j;exact .inr ⟨λ_=>hp,⟨_,Fz.ao _ _ _,by simp[H]⟩,_,_,i.at_,by rw[vf];exact G⟩
  .rw[Mem.ax _ _ e]at j;exact .inl ⟨j,i.ne c e (h.Qi (by rw[j];simp)),λhp=>hp,Fz.ax _ _ e⟩
 .have aW:c≠b:=by rintro rfl;rw[w]at I;cases I
  rw[Fz.ax _ _ aW];exact g
 .by_cases e:c=b
  .subst e;exact .inr (.inl (by rw[w];simp))
  .rw[Fz.ax _ _ e]at hc;exact .inl hc
 .by_cases e:c=b
  .subst e;exact .inl (by rw[w];simp)
  .rw[Mem.ax _ _ e]at hc;exact .inl hc
def Gx{w:Type}{e:Nat}(j:0<e):∀{g:List (List w)},(∀r∈g,r.length=e)->∀k:Nat,g.flatten[k]?=(g[k/e]?).bind λr=>r[k % e]?
 |[],_,k=>by simp
 |r::g,h,k=>by
  have A:r.length=e:=h r (by simp)
  rw[List.flatten_cons];by_cases i:k<e
  .rw[List.getElem?_append_left (by omega),Nat.div_eq_of_lt i,Nat.mod_eq_of_lt i];simp
  .rw[List.getElem?_append_right (by omega),Gx j (λy x=>h y (by simp[x])) (k-r.length),A];have G:k/e=(k-e)/e+1:=by
    have:k=(k-e)+e:=by omega
    rw[this,Nat.add_div_right _ j];simp
   have C:k % e=(k-e) % e:=by
    have:k=(k-e)+e:=by omega
    rw[this,Nat.add_mod_right];simp
   rw[G,C,List.getElem?_cons_succ]
def eo{i:Type}{g:Nat}:∀{e:List (List i)},(∀r∈e,r.length=g)->e.flatten.length=e.length*g
 |[],_=>by simp
 |r::e,h=>by
  rw[List.flatten_cons,List.length_append,eo λw j=>h w (by simp[j]),h r (by simp),List.length_cons,add_mul,Nat.one_mul,Nat.add_comm]
def qC{Z:Fz}{sz:Nat}{fl:Fl}{rows:Lq}{vs:List Value}{b o c:Nat}{C:List Value}(y:∀r∈rows,r.length=sz)(G:bx Z rows.flatten vs)(hz:Z b=some C)(O:∀k,k<vs.length->C[o+k]?=vs[k]?)(hc:rows.length<=c)
  (L:UG fl (some ⟨b,o,none⟩) rows.length c):bW Z (.list sz fl rows) (.slice (some ⟨b,o,none⟩) rows.length c):=by
 have w:vs.length=rows.length*sz:=by rw[G.1,eo y]
 have A:∀i j,i<rows.length->j<sz->i*sz+j<vs.length:=λi j g e=>by
  rw[w]
  calc i*sz+j<i*sz+sz:=by omega
   _=(i+1)*sz:=by rw[add_mul,Nat.one_mul]
   _<=rows.length*sz:=Nat.mul_le_mul_right _ (by omega)
 have flat:∀(i j:Nat) row p,rows[i]?=some row->row[j]?=some p->rows.flatten[i*sz+j]?=some p:=λi j row p g e=>by
  have J:j<sz:=by
   have:=(List.getElem?_eq_some_iff.1 e).1;rw[y row (mem_of_getElem? g)]at this;exact this
  have H:0<sz:=by omega
  rw[Gx H y];have e1:(i*sz+j)/sz=i:=by
   rw[mul_comm,Nat.mul_add_div H,Nat.div_eq_of_lt J,Nat.add_zero]
  have Y:(i*sz+j) % sz=j:=by rw[mul_comm,Nat.mul_add_mod,Nat.mod_eq_of_lt J]
  rw[e1,Y,g];exact e
 have cells:∀(i j:Nat) row p,rows[i]?=some row->row[j]?=some p->∃v,vs[i*sz+j]?=some v/\p.cell=true/\bW Z p v:=λi j row p g e=>G.get (flat i j row p g e);refine .list sz fl rows _ _ c b o C (λi j=>(vs[i*sz+j]?).getD undef) rfl hc (.inr λx h=>by cases h;rfl) y (λ_=>⟨rfl,hz⟩) (λi j g e=>?_) (λi j row p g e=>?_) (λi j row p g e=>?_) L
 .have I:=A i j g e;rw[add_assoc,O _ I,List.getElem?_eq_getElem I];rfl
 .obtain⟨v,_,h,_⟩:=cells i j row p g e;exact h
 .obtain⟨v,U,_,Q⟩:=cells i j row p g e;simp only[U];exact Q
def tM{Z:Fz}{u:UW}{μ:Mem}(hg:Good Z u μ){i:Nat}{fl:Fl}{j:Lq}{a:Option Addr}{n c:Nat}(h:bW Z (.list i fl j) (.slice a n c))(aW:j≠[]->i≠0):
  ∃w,bx Z j.flatten w/\w.length=n*i/\(n=0->w=[])/\(n≠0->∃b o C,a=some ⟨b,o,none⟩/\Z b=some C/\rd u.heap b o (n*i)=some w/\w=(C.drop o).take (n*i)):=by
 cases h with
 |list _ _ _ _ _ _ b o C g J hc hs Y ha x hk hp hf=>
  by_cases H:n=0
  .have:j=[]:=List.eq_nil_of_length_eq_zero (by omega);subst this;exact⟨[],bx.nil Z,by simp[H],λ_=>rfl,λh=>absurd H h⟩
  .obtain⟨ea,ez⟩:=ha H;obtain⟨A,T,f,hA,fD⟩:=hg.Da b C ez;have Pd:i≠0:=aW (by rintro rfl;simp at J;omega)
   .have YF:0<i:=by omega
    have O:=x (n-1) (i-1) (by omega) (by omega);have hCl:o+n*i<=C.length:=by
     have bK:=(List.getElem?_eq_some_iff.1 O).1;have e:(n-1)*i+i=n*i:=by rw[<- Nat.succ_mul];congr 1;omega
     omega
    have Q:((C.drop o).take (n*i)).length=n*i:=by simp;omega
    refine⟨(C.drop o).take (n*i),⟨by rw[Q,eo Y,J],λk p v r I=>?_⟩,Q,λh=>absurd h H,λ_=>⟨b,o,C,ea,ez,?_,rfl⟩⟩
    .rw[Gx YF Y]at r;cases G:j[k/i]? with
     |none=>rw[G]at r;cases r
     |some row=>
      rw[G]at r;simp only[Option.bind_some]at r;have hi:k/i<n:=by rw[<- J];exact(List.getElem?_eq_some_iff.1 G).1
      have hj:k % i<i:=Nat.mod_lt _ YF;have y:=x (k/i) (k % i) hi hj;have L:k/i*i+k % i=k:=by rw[mul_comm];exact Nat.div_add_mod k i
      rw[add_assoc,L]at y;have bZ:k<n*i:=by
       have:=(List.getElem?_eq_some_iff.1 I).1;rw[Q]at this;exact this
      rw[getElem?_take,if_pos bZ,getElem?_drop,y]at I;cases I;exact⟨hk _ _ _ _ G r,hp _ _ _ _ G r⟩
    .obtain⟨t,U⟩:=fD
     rw[Bk hA (by have:A.size=C.length+t.length:=by have:=congrArg List.length U;simpa using this.symm
                  omega),<- U]
     congr 1;rw[List.drop_append_of_le_length (by omega),List.take_append_of_le_length (by simp;omega)]
def va(q:Bool)(Z:Fz)(μ:Mem)(u:UW)(KP:dK->Mem->Prop)(K:St->UW->Prop):Prop:=
 ∀(h:Fz) (j:dK) (e:Mem) (i:St) (g:UW),dt h j i->Good h g e->Wf g->Ext Z μ u.heap.size h e->u.heap.size<=g.heap.size->(q=true->Below u.heap.size u.toWorld g.toWorld)->KP j e->K i g
def kq{Z:Fz}{ps:List PV}{e:List Value}(h:bx Z ps e):eN e=true:=by
 refine all_eq_true.2 λv g=>?_;obtain⟨j,i⟩:=h.xV v g;simp[j,i]
def vB{Z:Fz}{u:UW}{μ:Mem}(r:Good Z u μ){b o n:Nat}{ps:List PV}(h:ay μ b o n=some ps):∃j,rd u.heap b o n=some j/\cQ Z ps j:=by
 unfold ay at h;split at h
 .rename_i T i e;obtain⟨_,_,A,g,hc⟩:=r.mem b _ e;have x:A.size=i.length:=by have:=hc.1;simpa using this
  split at h
  .rename_i w;cases h;exact⟨_,Bk g (by omega),(hc.drop o).take n⟩
  .cases h
 .rename_i T i e;obtain⟨_,_,A,g,hc⟩:=r.mem b _ e;have x:A.size=i.length:=by have:=hc.1;simpa using this
  split at h
  .rename_i w;cases h;exact⟨_,Bk g (by omega),(hc.drop o).take n⟩
  .cases h
 .cases h
theorem tL{E:kM}{q:Bool}{fz:List Nat}{o:Oper}{p:dK}{s:St}{μ:Mem}{u:UW}{KP:dK->Mem->Prop}{K:St->UW->Prop}{Z Zr:Fz}(hr:dt Z p s)(hg:Good Zr u μ)(hz:Zr.le Z)(hf:Gv p o=false\/Good Z u μ)
  (hl:oY o=true) (hK:∀p' s',dt Z p' s'->KP p' μ->K s' u) (h:V1 E q fz o p μ KP):W1 E.er fz o s u K:=by
 unfold oY at hl;unfold V1 at h;unfold W1;simp only at h |-;cases Nk:o.op<;>simp only[Nk]at h hl |- <;>first|(cases hl;done)|skip
 rename_i t x;cases hk:lZ E.P (xQ E o) t with
 |none=>rw[hk]at h;exact h.elim
 |some ks=>
  rw[hk]at h;have bZ:kinds E.er.P t=some (ks.map KV.er):=xZ hk;rw[bZ];simp only at h |-;rw[length_map];have hx:=hr.ev x;split at h
  .rename_i k off he;rw[he]at hx;rw[hx.zf];simp only;rw[<- hr.D];split at h
   .rename_i m hm;rw[hm];simp only;obtain⟨hc,h⟩:=aq h;simp only[and_eq_true]at hc;have eR:=(fC.xP (k:=k) hr.slot ks.length off).c hc.2;rw[hc.1,kq eR];simp only[Bool.and_self,cond_true];exact hK _ _ (hr.fin o (BA eR)) h
   .exact h.elim
  .rename_i row off he;have hg':Good Z u μ:=by
    rcases hf with hf|hf
    .unfold Gv at hf;simp only[Nk,he]at hf;cases hf
    .exact hf
   rw[he]at hx;obtain⟨b,of,C,g,hv,hzb,hgg,hkk,hp⟩:=hx.K_;rw[hv];show dT (.pointer (some ⟨b,of+off,none⟩)) _;unfold dT;simp only;obtain⟨ps,hlen,hc,⟨eh,h⟩,hex⟩:=od (Z:=Z) h;unfold az at eh;split at eh
   .rename_i hb;simp only[Option.some.injEq]at eh;obtain⟨A,T,f,hA,fD⟩:=hg'.Da b C hzb;have hCl:of+row.length<=C.length:=by
     have:=hgg (row.length-1) (by omega);have:=(List.getElem?_eq_some_iff.1 this).1;omega
    obtain⟨tl,ht⟩:=fD;have hAl:A.size=C.length+tl.length:=by have:=congrArg List.length ht;simpa using this.symm
    have dF:=Bk (H:=u.heap) (o:=of+off) (n:=ks.length) hA (by omega);have eR:bx Z ps ((A.toList.drop (of+off)).take ks.length):=by
     rw[<- eh,<- ht];refine⟨by simp;omega,λi pp v Nj hvv=>?_⟩;rw[getElem?_take]at Nj hvv;split at Nj
     .rename_i hi;rw[if_pos hi,getElem?_drop,List.getElem?_append_left (by omega)]at hvv;rw[getElem?_drop]at Nj;have:=hgg (off+i) (by omega);rw[add_assoc]at hvv;rw[this]at hvv;cases hvv;exact⟨hkk _ _ Nj,hp _ _ Nj⟩
     .cases Nj
    exact hex (G:=λvs=>rd u.heap b (of+off) ks.length=some vs/\K (fin o s (FW (dx E.er.P t) vs)) u) eR.m ⟨dF,hK _ _ (hr.fin o (BA eR)) h⟩
   .cases eh
  .unfold aM at h;split at h
   .rename_i b off he;rw[he]at hx;rw[hx.ofRaw.1];show dT (.pointer (some ⟨b,off,none⟩)) _;unfold dT;simp only;obtain⟨ps,hlen,hc,⟨dF,h⟩,hex⟩:=od (Z:=Z) h;obtain⟨vs,hv,hm⟩:=vB hg dF;have eR:=(hm.mono hz).c hc;exact hex (G:=λvs=>rd u.heap b off ks.length=some vs/\K (fin o s (FW (dx E.er.P t) vs)) u) eR.m ⟨hv,hK _ _ (hr.fin o (BA eR)) h⟩
   .exact h.elim
section
variable {E:kM} {q:Bool} {fz:List Nat} {o:Oper} {p:dK} {s:St} {μ:Mem} {u:UW} {KP:dK->Mem->Prop} {K:St->UW->Prop} {Z:Fz}
theorem By(hr:dt Z p s)(hg:Good Z u μ)(hw:Wf u)(hK:va q Z μ u KP K){t:TypeId}{cs:List PV}{A:Array Value}(hA:bx Z cs A.toList)(h:ON E q fz o p μ t cs KP):
  (match o.dst with
   |none=>False
   |some k=>bif cT E.er.fA k then
     (bif !nY s.D k&& !cT fz k&&eN A.toList&&ble A.size 65536 then
      K {s with σ:=rG (jd s.σ k (dU k 0)) k 0 A.toList,D:=(k,A.size)::s.D} u else False)
    else ∀(b:Nat) (w':World),rF u.toWorld w' b (.cells A t (0,0))->K (fin o s (.pointer (some ⟨b,0,none⟩))) (u.born b w')):=by
 unfold ON at h;have WN:A.size=cs.length:=by have:=hA.1;simpa using this
 cases hd:o.dst with
 |none=>rw[hd]at h;exact h.elim
 |some k=>
  rw[hd]at h;simp only at h |-;cases lF:cT E.fA k with
  |true=>
   have aag:cT E.er.fA k=true:=lF;rw[lF]at h;rw[aag];simp only[cond_true]at h |-;obtain⟨hc,h⟩:=aq h;simp only[and_eq_true]at hc;obtain⟨hq,⟨⟨h1,h2⟩,h3⟩,h4⟩:=hc;have sV:(!nY s.D k&& !cT fz k&&eN A.toList&&ble A.size 65536)=true:=by
    rw[<- hr.D,h1,h2,kq hA,WN,h4];rfl
   rw[sV];simp only[cond_true];refine hK Z {p with σ:=Fa (aI p.σ k (.box k 0)) k 0 cs,D:=(k,cs.length)::p.D} μ _ u ⟨?_,fC.rG (fC.jd hr.slot (.box k 0)) hA.m⟩ hg hw hg.ext (le_refl _) (λ_=>Below.refl _ _) h;simp[hr.D,WN]
  |false=>
   have aag:cT E.er.fA k=false:=lF;rw[lF]at h;rw[aag];simp only[cond_false]at h |-;intro b w' hB;cases aeN:cT E.cst k with
   |true=>
    rw[aeN]at h;simp only[cond_true]at h;obtain⟨_,h⟩:=aq h;obtain⟨g1,g2⟩:=hg.YR hB;refine hK _ _ μ _ _ ((hr.mono g2.le).fin o ?_) g1 (hw.born hB) g2 hB.below.size (λ_=>hB.below) h;have zp:=(hA.mono g2.le).wk;have hl:(cs.map cb).length=A.toList.length:=by simp[WN]
    have:=bW.bt (Z:=Z.set b A.toList) (cs.map cb) 0 b 0 A.toList (λj=>(A.toList[j]?).getD undef) (Fz.ao _ _ _) (λj hj=>by
     rw[Nat.zero_add,List.getElem?_eq_getElem (by omega)];rfl) (λj pp hj=>(zp.get hj).choose_spec.2.1) (λj pp hj=>by
     obtain⟨v,h1,h2,h3⟩:=zp.get hj
     simp only[h1];exact h3)
    exact this
   |false=>
    rw[aeN]at h;simp only[cond_false]at h;obtain⟨g1,g2,g3⟩:=hg.born hB hA.m;exact hK Z _ _ _ _ (hr.fin o (.raw _ rfl rfl)) g1 (hw.born hB) g2 hB.below.size (λ_=>hB.below) (h b g3)
def oB.Bz{P:Program}{f:FuncId}{e:Array Value}{u:UW}{K r:Value->UW->Prop}(h:oB P f e u K)
  (y:∀v g w',Mod u.gk u.toWorld w'->u.heap.size<=g->K v (u.ret g w')->r v (u.ret g w')):oB P f e u r:=by
 obtain⟨F,j,h⟩:=h;exact⟨F,j,h.mono λv g w' i x hK=>y v g w' ⟨i.os,i.tape,i.output,i.size,λb C w=>i.cu b C λA=>w (j b A)⟩ x hK⟩
def bP.v{P:Program}{f:PV}{e:List PV}{KP:Kq}{fv:Value}{vs:List Value}(y:Good Z u μ)(x:Wf u)(A:bW Z f fv)(ha:br Z e vs)(h:bP P f e μ KP):
  pX P fv vs u λv u'=>∃r i p,Ext Z μ u.heap.size r i/\Good r u' i/\bW r p v/\KP p i:=by
 unfold bP at h;split at h
 .rename_i g first I
  obtain⟨j,w,rfl,G,C⟩:=A.ofFn;obtain⟨hc,H⟩:=h Z u (j++vs++w) y x ((G.append ha).append C);show(bif dJ P g then oB P g (j.toArray.toList++vs++w.toArray.toList).toArray u _ else False);rw[hc];exact H
 .exact h Z u fv vs y x A ha
def NY(q:Bool)(Z:Fz)(μ:Mem)(u:UW)(KP:Kq)(K:Value->UW->Prop):Prop:=
 ∀(h:Fz) (e:Mem) (p:PV) (v:Value) (g:UW),Ext Z μ u.heap.size h e->Good h g e->Wf g->u.heap.size<=g.heap.size->(q=true->Below u.heap.size u.toWorld g.toWorld)->bW h p v->KP p e->K v g
def dh.f{P:Program}{g:FuncId}{w:List PV}{KP:Kq}{J:List Value}{K:Value->UW->Prop}(Y:Good Z u μ)(U:Wf u)(ha:br Z w J)(h:dh P g w μ λp y=>KP p (μ.or y))(hK:NY true Z μ u KP K):
  dJ P g=true/\oB P g J.toArray u K:=by
 obtain⟨hc,F,hF,dc⟩:=h Z u J Y U ha;refine⟨hc,F,λb j=>(hF b j).elim,dc.mono λv lo Q A hl hp=>?_⟩;obtain⟨O,y,p,e,g',I,hk⟩:=hp;have hB:Below u.heap.size u.toWorld Q:=⟨A.os,A.tape,A.output,A.size,λb j=>A.cu b j λhf=>hF b hf⟩;have hZ:∀b,b<u.heap.size->O b=Z b:=λb j=>by
  cases hz:Z b with
  |some C=>exact e.zs b C hz rfl
  |none=>
   cases Li:O b with
   |none=>rfl
   |some C=>
    rcases e.zn b (by rw[Li];simp)with i|i|i
    .exact absurd hz i
    .exact absurd rfl i
    .omega
 refine hK O (μ.or y) p v (u.ret lo Q) ⟨e.le,λb C i _=>e.zs b C i rfl,λb i=>?_,λb i=>?_,e.lt⟩ ⟨g'.Da,λb ob j=>?_⟩ (U.ret A.size) A.size (λ_=>hB) I hk
 .rcases e.zn b i with r|r|r
  .exact .inl r
  .exact absurd rfl r
  .exact .inr (.inr r)
 .unfold Mem.or at i;cases G:μ b with
  |some x=>exact .inl (by simp)
  |none=>
   rw[G]at i;rcases e.mn b i with r|r
   .exact absurd rfl r
   .exact .inr r
 .unfold Mem.or at j;cases G:μ b with
  |some x=>
   rw[G]at j;simp only[Option.some.injEq]at j;subst j;obtain⟨L,H⟩:=Y.mem b x G;exact⟨λI=>.inl (L I),H.go e.le (hZ b H.lt) (hB.block b H.lt)⟩
  |none=>
   rw[G]at j;obtain⟨L,H⟩:=g'.mem b ob j;exact⟨λI=>(L I).elim False.elim .inr,H⟩
def CT.v{P:Program}{f:PV}{i:List PV}{KP:Kq}{fv:Value}{vs:List Value}{K:Value->UW->Prop}(y:Good Z u μ)(r:Wf u)(A:bW Z f fv)(ha:br Z i vs)(h:CT P q f i μ KP)(hK:NY q Z μ u KP K):pX P fv vs u K:=by
 unfold CT at h;cases q with
 |false=>
  simp only[cond_false]at h;refine(bP.v y r A ha h).mono λv lo U x hl hp=>?_;obtain⟨Q,j,p,e,L,G,H⟩:=hp;exact hK Q j p v _ e L (r.ret x.size) x.size (λh=>by cases h) G H
 |true=>
  simp only[cond_true]at h;split at h
  .rename_i g first Y
   obtain⟨w,C,rfl,J,I⟩:=A.ofFn;obtain⟨hc,O⟩:=dh.f y r ((J.append ha).append I) h hK;show(bif dJ P g then oB P g (w.toArray.toList++vs++C.toArray.toList).toArray u K else False);rw[hc];exact O
  .exact h.elim
end
end Go.aP
