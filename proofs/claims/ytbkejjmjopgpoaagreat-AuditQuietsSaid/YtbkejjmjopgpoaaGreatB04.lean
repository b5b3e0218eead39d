import Derived.Test.YtbkejjmjopgpoaaGreatB03
set_option linter.all false
namespace Go.az
open Go.RowKit
inductive KV where
 |raw (k:K1)
 |list (sz:Nat)
 |fn
 deriving DecidableEq,Inhabited
@[reducible] def KV.T:KV->Type
 | .raw k=>k.T
 | .list _=>Fl×Lq
 | .fn=>Fn×List PV×List PV
def KV.p:(k:KV)->k.T->PV
 | .raw k,x=>.raw (k.v x)
 | .list sz,x=>.list sz x.1 x.2
 | .fn,x=>.fn x.1 x.2.1 x.2.2
def HL:Fl->Lq->Option (Fl×Lq)
 | .nil,[]=>some (.nil,[])
 |_,_=>none
def KV.get:(k:KV)->PV->Option k.T
 | .raw k,.raw v=>k.get v
 | .raw .slice,.list _ .nil _=>some (none,0,0)
 | .list sz,.list Te fl rows=>bif Nat.beq sz Te then some (fl,rows)else HL fl rows
 | .fn,.fn f a b=>some (f,a,b)
 |_,_=>none
def KV.er:KV->K1
 | .raw k=>k
 | .list _=>.slice
 | .fn=>.fn
def UJ:KV->(PV->Prop)->Prop
 | .raw k,F=>exK k λv=>F (.raw v)
 | .list sz,F=>∃(fl:Fl) (rows:Lq),F (.list sz fl rows)
 | .fn,F=>∃(f:Fn) (a b:List PV),F (.fn f a b)
def yU:List KV->(List PV->Prop)->Prop
 |[],F=>F []
 |k::ks,F=>UJ k λv=>yU ks λvs=>F (v::vs)
inductive Sh where
 |one (k:KV)
 |agg (ks:List KV)
 |box (ks:List KV)
 deriving DecidableEq,Inhabited
def Sh.er:Sh->Kd
 | .one k=>.one k.er
 | .agg ks=>.agg (ks.map KV.er)
 | .box ks=>.box (ks.map KV.er)
@[reducible] def TLP:List KV->Type
 |[]=>Unit
 |[k]=>k.T
 |k::k'::ks=>k.T×TLP (k'::ks)
def Ax:(ks:List KV)->TLP ks->List PV
 |[],_=>[]
 |[k],x=>[k.p x]
 |k::k'::ks,x=>k.p x.1::Ax (k'::ks) x.2
def jX:(ks:List KV)->List PV->Option (TLP ks)
 |[],[]=>some ()
 |[k],[v]=>k.get v
 |k::k'::ks,v::vs=>match k.get v,jX (k'::ks) vs with
  |some x,some y=>some (x,y)
  |_,_=>none
 |_,_=>none
@[reducible] def Sh.T:Sh->Type
 | .one k=>k.T
 | .agg ks=>TLP ks
 | .box ks=>TLP ks
abbrev l_:=List (Nat×Sh)
def l_.er(l:l_):Live:=l.map λx=>(x.1,x.2.er)
@[reducible] def ua:l_->Type
 |[]=>Unit
 |[x]=>x.2.T
 |x::y::l=>x.2.T×ua (y::l)
abbrev sL:=Nat->PV
structure bn where
 σ:sL
 D:List (Nat×Nat)
def gS(σ:sL)(t:Nat)(v:PV):sL:=λi=>bif Nat.beq i t then v else σ i
def Hi(σ:sL)(d:Option Nat)(v:PV):sL:=match d with|some t=>gS σ t v|none=>σ
def xz(σ:sL)(k:Nat):Nat->List PV->sL
 |_,[]=>σ
 |j,v::vs=>xz (gS σ (gx k j) v) k (j+1) vs
def wM(σ:sL)(k:Nat):Nat->Nat->List PV
 |_,0=>[]
 |j,m+1=>σ (gx k j)::wM σ k (j+1) m
def oR(st:bn):(x:Nat×Sh)->Option x.2.T
 |(t,.one k)=>k.get (st.σ t)
 |(t,.agg ks)=>match st.σ t with
  | .agg a=>jX ks a
  |_=>none
 |(t,.box ks)=>match st.σ t with
  | .box k o=>bif (Nat.beq k t&&Nat.beq o 0)&&di st.D t ks.length then jX ks (wM st.σ t 0 ks.length)else none
  |_=>none
def gJ(st:bn):(l:l_)->Option (ua l)
 |[]=>some ()
 |[x]=>oR st x
 |x::y::l=>match oR st x,gJ st (y::l)with
  |some a,some b=>some (a,b)
  |_,_=>none
def Ca(st:bn):(x:Nat×Sh)->x.2.T->bn
 |(t,.one k),v=>{st with σ:=gS st.σ t (k.p v)}
 |(t,.agg ks),v=>{st with σ:=gS st.σ t (.agg (Ax ks v))}
 |(t,.box ks),v=>{st with σ:=xz (gS st.σ t (.box t 0)) t 0 (Ax ks v),D:=bif di st.D t ks.length then st.D else(t,ks.length)::st.D}
def nV(st:bn):(l:l_)->ua l->bn
 |[],_=>st
 |[x],v=>Ca st x v
 |x::y::l,v=>nV (Ca st x v.1) (y::l) v.2
structure mf where
 live:l_
 cB:List (Nat×Nat)
def mf.er(c:mf):Cut:=⟨c.live.er,c.cB⟩
def pR(σ:sL):List (Nat×Nat)->sL
 |[]=>σ
 |(k,m)::l=>pR (xz (gS σ k (.box k 0)) k 0 (List.replicate m .au)) l
def CK(v:PV)(k:Nat):Bool:=
 match v with
 | .box k' o=>Nat.beq k' k&&Nat.beq o 0
 |_=>false
def gD(st:bn):List (Nat×Nat)->Bool
 |[]=>true
 |(k,m)::l=>di st.D k m&&CK (st.σ k) k&&gD st l
def tq(σ:sL)(ws:List Nat):sL:=λt=>bif Nat.blt t 65536&&bA ws t then .au else σ t
def PE(st:bn)(ws:List Nat)(c:mf)(x:ua c.live):bn:=
 nV {st with σ:=pR (tq st.σ ws) c.cB} c.live x
def kI(P:Program)(r:Bool):Nat->TypeId->Option (List KV)
 |0,_=>none
 |f+1,t=>match P.underlying t with
  |some (.int k)=>some [.raw (.int k)]
  |some .bool=>some [.raw .bool]
  |some .string=>some [.raw .str]
  |some (.slice e)=>some [bif r then .raw .slice else .list (P.cellsOf e)]
  |some (.pointer _)=>some [.raw .ptr]
  |some (.func ..)=>some [.fn]
  |some (.map ..)=>some [.raw .map]
  |some (.struct fs)=>fs.toList.foldr (λx acc=>match kI P r f x.type,acc with|some a,some b=>some (a++b)|_,_=>none) (some [])
  |some (.array n e)=>match kI P r f e with
   |some ks=>some ((List.replicate n ks).flatten)
   |none=>none
  |_=>none
def eE(P:Program)(r:Bool)(t:TypeId):Option (List KV):=
 match kI P r 8 t with
 |some ks=>bif Nat.beq ks.length (P.cellsOf t)then(bif bG P t||Nat.beq ks.length 1 then some ks else none)else none
 |none=>none
def uD:Bool->List PV->PV
 |true,vs=>.agg vs
 |false,[v]=>v
 |_,_=>.au
def wS(P:Program)(r:Bool)(t:TypeId)(F:PV->Prop):Prop:=
 match eE P r t with
 |some ks=>yU ks λvs=>F (uD (bG P t) vs)
 |none=>False
def mZ(P:Program)(r:Bool):List TypeId->(List PV->Prop)->Prop
 |[],F=>F []
 |t::ts,F=>wS P r t λv=>mZ P r ts λvs=>F (v::vs)
def yT(P:Program)(r:Bool)(t:TypeId)(F:PV->Prop):Prop:=
 match P.underlying t with
 |some (.tuple ts)=>mZ P r ts.toList λvs=>F (.aC vs)
 |_=>wS P r t F
def yi:Value->PV
 | .slice none 0 0=>.list 0 .nil []
 | .slice .. | .agg _| .tuple _| .complex .. | .iface .. =>.au
 | .func f a b=>bif Nat.beq a.size 0&&Nat.beq b.size 0 then .fn f [] []else .au
 |v=>.raw v
def aE(ps:List PV):Bool:=ps.all PV.cell
def zw(ps:List PV):Bool:=ps.all PV.ok
def ofV:Value->PV
 | .agg a=>bif aE (a.toList.map yi)then .agg (a.toList.map yi)else .au
 | .tuple a=>bif zw (a.toList.map yi)then .aC (a.toList.map yi)else .au
 |v=>yi v
def Sn(sz:Nat):PV->PV
 | .list 0 fl []=>.list sz fl []
 |p=>p
def oC:List KV->List PV->List PV
 | .list sz::ks,p::ps=>Sn sz p::oC ks ps
 |_::ks,p::ps=>p::oC ks ps
 |_,ps=>ps
def b_(P:Program)(t:TypeId)(p:PV):PV:=
 match eE P false t with
 |some ks=>match p with
  | .agg cs=>.agg (oC ks cs)
  | .list 0 fl []=>match ks with
    |[.list sz]=>.list sz fl []
    |_=>p
  |p=>p
 |none=>p
def z_:Value->PV
 | .slice none 0 0=>.raw (.slice none 0 0)
 |v=>yi v
def Ma:Value->PV
 | .agg a=>bif aE (a.toList.map z_)then .agg (a.toList.map z_)else .au
 | .tuple a=>bif zw (a.toList.map z_)then .aC (a.toList.map z_)else .au
 |v=>z_ v
def cp(m:Bool)(σ:sL):Operand->PV
 | .tmp t=>σ t
 | .const v=>bif m then Ma v else ofV v
 | .global g=>pP g 0
 | .func f=>.fn (.func f) [] []
def cu:PV->PV
 | .list sz _ rows=>.list sz .sh rows
 |p=>p
def zM:PV->PV
 | .agg cs=>.agg (cs.map cu)
 |p=>p
def wk:PV->PV
 | .agg cs=>.agg (cs.map cu)
 | .aC vs=>.aC (vs.map λp=>zM (cu p))
 |p=>cu p
def Nh(P:Program)(t:TypeId)(p:PV):PV:=zM (b_ P t p)
def jV(P:Program):List TypeId->List PV->List PV
 |t::ts,p::ps=>Nh P t p::jV P ts ps
 |_,ps=>ps
def aN(μ:Mem)(b o n:Nat):Option (List PV):=
 match μ b with
 |some (.cells _ cs)=>if o+n<=cs.length then some ((cs.drop o).take n)else none
 |some (.ro _ cs)=>if o+n<=cs.length then some ((cs.drop o).take n)else none
 |_=>none
def aA(row:List PV)(o n:Nat):Option (List PV):=if o+n<=row.length/\0<n then some ((row.drop o).take n)else none
def ei(cs:List PV)(o:Nat)(vs:List PV):List PV:=cs.take o++vs++cs.drop (o+vs.length)
def stM(b o:Nat)(vs:List PV)(μ:Mem)(K:Mem->Prop):Prop:=
 ∃(T:TypeId) (cs:List PV),μ b=some (.cells T cs)/\o+vs.length<=cs.length/\K (μ.set b (some (.cells T (ei cs o vs))))
def bD(v:PV)(F:Nat->Nat->Prop):Prop:=
 match v with
 | .raw (.pointer (some ⟨b,o,none⟩))=>F b o
 |_=>False
def ab(P:Program)(g:FuncId)(args:List PV)(μ:Mem)(K:Kq):Prop:=
 ∀(Z:Fz) (u:UW) (vs:List Value),Good Z u μ->(∀b,u.eN b->b<u.heap.size)->bj Z args vs->ct P g=true/\mg P g vs.toArray u λv u'=>∃Z' μ' p,Ext Z μ u.heap.size Z' μ'/\Good Z' u' μ'/\bw Z' p v/\K p μ'
def dg(P:Program)(g:FuncId)(args:List PV)(μ:Mem)(K:Kq):Prop:=
 ∀(Z:Fz) (u:UW) (vs:List Value),Good Z u μ->(∀b,u.eN b->b<u.heap.size)->bj Z args vs->ct P g=true/\mg P g vs.toArray ⟨u.toWorld,λ_=>False⟩ λv u'=>∃Z' μ' p,Ext Z M0 u.heap.size Z' μ'/\Good Z' u' μ'/\bw Z' p v/\K p μ'
def vJ(P:Program)(f:PV)(args:List PV)(μ:Mem)(K:Kq):Prop:=
 ∀(Z:Fz) (u:UW) (fv:Value) (vs:List Value),Good Z u μ->(∀b,u.eN b->b<u.heap.size)->bw Z f fv->bj Z args vs->ng P fv vs u λv u'=>∃Z' μ' p,Ext Z μ u.heap.size Z' μ'/\Good Z' u' μ'/\bw Z' p v/\K p μ'
def bc(P:Program)(f:PV)(args:List PV)(μ:Mem)(K:Kq):Prop:=
 match f with
 | .fn (.func g) first iW=>ab P g (first++args++iW) μ K
 |f=>vJ P f args μ K
def zL(P:Program)(q:Bool)(f:PV)(args:List PV)(μ:Mem)(K:Kq):Prop:=
 bif q then(match f with
  | .fn (.func g) first iW=>dg P g (first++args++iW) μ (λp μ'=>K p (μ.or μ'))
  |_=>False)else bc P f args μ K
def bJ(P:Program)(f:PV)(body:List PV->(Option Code->Mem->Prop)->Mem->Prop)(K:Option Code->Mem->Prop)(μ:Mem):Prop:=
 (∃g a b,f=.fn (.func g) a b)/\∀(l:Nat) (rec:Option Code->Ob),μ l=none->
  (∀(vs:List PV) (μ1:Mem) (R:Option Code->Mem->Prop),μ1 l=none->body vs R μ1->
   bc P (.fn (.yield l) [] []) vs (μ1.set l (some (rec none))) λv μ2=>∃p μ3,v=pB p.isNone/\μ3 l=none/\μ2=μ3.set l (some (rec p))/\R p μ3)->
  bc P f [.fn (.yield l) [] []] (μ.set l (some (rec none))) λ_ μ2=>∃p μ3,μ3 l=none/\μ2=μ3.set l (some (rec p))/\K p μ3
structure fC where
 P:Program
 n:Nat
 cU:List Nat
 loops:List (Nat×mf)
 gH:List (Nat×mf)
 kU:List (Nat×List TypeId)
 cst:List Nat
 wrt:List Nat
 fU:List Nat
def fC.er(E:fC):Env:=⟨E.P,E.n,E.cU,E.loops.map λx=>(x.1,x.2.er),E.gH.map λx=>(x.1,x.2.er),E.kU⟩
def aZ(o:Oper)(st:bn)(v:PV):bn:={st with σ:=Hi st.σ o.dst v}
def rf(P:Program)(fs:Array Field):List (Nat×PV)->List PV->Option (List PV)
 |[],cs=>some cs
 |(i,v)::ps,cs=>match fs[i]? with
  |some f=>bif Nat.beq v.cells.length (P.cellsOf f.type)&&Nat.ble (f.offset+v.cells.length) cs.length&&(P.info? f.type).isSome then
    rf P fs ps (cs.take f.offset++v.cells++cs.drop (f.offset+v.cells.length))else none
  |none=>none
def aT(E:fC):Bool:=bA E.fU 3000000
def Hh(rw:List Nat)(k:Nat):Bool:=bA rw 3000000||bA rw k
def hU(m:Bool)(P:Program)(t:TypeId)(z:Value):PV:=bif m then Ma z else b_ P t (ofV z)
def jh(size:Nat):Nat->List (Nat×PV)->Option (Lq)
 |_,[]=>some []
 |i,(j,v)::ps=>bif Nat.beq i j&&Nat.beq v.cells.length size then(match jh size (i+1) ps with|some l=>some (v.cells.map cu::l)|none=>none)else none
def Nf(m:Bool)(P:Program)(t:TypeId)(ps:List (Nat×PV)):Option (List PV):=
 match(P.info? t).bind (·.zero),P.underlying t with
 |some z,some (.struct fs)=>bif (hU m P t z).ok&&bG P t&&fs.toList.all λf=>(P.info? f.type).isSome then
   (match hU m P t z with
   | .agg cs=>rf P fs (ps.map λp=>(p.1,match fs[p.1]? with|some f=>b_ P f.type p.2|none=>p.2)) cs
   |_=>none)else none
 |some z,some (.array len e)=>bif (P.info? e).isSome&&Nat.beq ps.length len&&Nat.beq z.cells.size (len*P.cellsOf e)then
   (match jh (P.cellsOf e) 0 (ps.map λp=>(p.1,b_ P e p.2))with
   |some rows=>some rows.flatten
   |none=>none)else none
 |_,_=>none
def Aq(P:Program)(e:TypeId)(off:Nat)(cs:List PV):Option PV:=
 bif (P.underlying e).isSome&&Nat.ble (off+P.cellsOf e) cs.length then(bif bG P e then some (.agg ((cs.drop off).take (P.cellsOf e)))else cs[off]?)else none
def FF(P:Program)(t:TypeId)(f:Nat)(cs:List PV):Option PV:=
 match P.underlying t with
 |some (.struct fs)=>match fs[f]? with
  |some x=>bif (P.underlying x.type).isSome&&Nat.ble (x.offset+P.cellsOf x.type) cs.length then
    (bif bG P x.type then some (.agg ((cs.drop x.offset).take (P.cellsOf x.type)))else cs[x.offset]?)else none
  |none=>none
 |_=>none
def bT(ρ:Operand->PV)(x:Option Operand)(d:Int):Option Int:=
 match x with
 |none=>some d
 |some x=>match ρ x with
  | .raw (.int _ i)=>some i
  |_=>none
def ow(size sz:Nat)(rows:Lq):Bool:=bif Nat.beq sz size then true else(match rows with|[]=>true|_=>false)
def aaT(rows:Lq)(A B:Prop):Prop:=match rows with|[]=>A|_::_=>B
def VA(q:Bool)(size:Nat)(fl:Fl)(n m:Nat)(μ:Mem)(K:Fl->Mem->Prop):Prop:=
 match fl with
 | .nr=>∀b c,μ b=none->n+m<=c->K (.mS b c) (μ.set b (some (.mS ((n+m)*size) (c*size))))
 | .nil=>∀b c,μ b=none->n+m<=c->K (.mS b c) (μ.set b (some (.mS ((n+m)*size) (c*size))))
 | .mS b c=>bif q then False else μ b=some (.mS (n*size) (c*size))/\∀b' c',(b'=b\/μ b'=none)->n+m<=c'->
   K (.mS b' c') ((μ.set b none).set b' (some (.mS ((n+m)*size) (c'*size))))
 | .sh=>False
def bF(q:Bool)(size bytes:Nat)(fl:Fl)(rows new:Lq)(μ:Mem)(K:Fl->Mem->Prop):Prop:=
 (rows.length+new.length)*bytes<=140737488355328/\rows.length+new.length<4611686018427387904/\aaT new (K fl μ) (VA q size fl rows.length new.length μ K)
def Ab(size:Nat)(μ:Mem)(y:PV)(F:Nat->List PV->Prop):Prop:=
 match y with
 | .list sz _ rows=>bif ow size sz rows then F rows.length rows.flatten else False
 | .raw (.slice (some ⟨b,o,none⟩) m _)=>∃cs,aN μ b o (m*size)=some cs/\F m cs
 | .raw (.slice none 0 _)=>F 0 []
 |_=>False
def iw(size bytes:Nat)(e:TypeId)(a:Option Addr)(n c:Nat)(y:PV)(μ:Mem)(K:Option Addr->Nat->Nat->Mem->Prop):Prop:=
 Ab size μ y λm new=>(n+m)*bytes<=140737488355328/\n+m<4611686018427387904/\n<=c/\((m=0/\(n≠0->∃b o qZ,a=some ⟨b,o,none⟩/\aN μ b o (n*size)=some qZ)/\K a n c μ)\/(m≠0/\aE new=true/\
  (n+m<=c->∃b o T cs,a=some ⟨b,o,none⟩/\μ b=some (.cells T cs)/\o+c*size<=cs.length/\K a (n+m) c (μ.set b (some (.cells T (ei cs (o+n*size) new)))))/\
  (c<n+m->∃qZ,((n=0/\qZ=[])\/∃b o,a=some ⟨b,o,none⟩/\aN μ b o (n*size)=some qZ)/\∀b' c',μ b'=none->n+m<=c'->K (some ⟨b',0,none⟩) (n+m) c' (μ.set b' (some (.cells e (qZ++new++List.replicate ((c'-(n+m))*size) .au)))))))
def BH(P:Program)(q:Bool)(e:TypeId)(x y:PV)(μ:Mem)(K:Kq):Prop:=
 match(P.info? e).map (λi=>(i.size,i.bytes,i.zero.map λz=>z.cells.toList.length))with
 |some (size,bytes,some zl)=>bif Nat.beq zl size&& !Nat.beq size 0 then(match x,y with
  | .list sz fl rows,.list Te _ new=>bif ow size sz rows&&ow size Te new then bF q size bytes fl rows new μ λiD μ'=>K (.list size iD (rows++new)) μ' else False
  | .raw (.slice a n c),y=>bif q then False else iw size bytes e a n c y μ λa' n' c' μ'=>K (.raw (.slice a' n' c')) μ'
  |_,_=>False)else False
 |_=>False
def eH:List PV->Option (List Value)
 |[]=>some []
 | .raw v::ps=>match eH ps with|some vs=>some (v::vs)|none=>none
 |_=>none
def zj(P:Program)(op:BinOp)(t:TypeId)(x y:PV)(K:PV->Prop):Prop:=
 match x,y with
 | .raw a,.raw b=>iX P op t a b λv=>K (.raw v)
 | .agg a,.agg b=>match eH a,eH b with
   |some a,some b=>iX P op t (.agg a.toArray) (.agg b.toArray) λv=>K (.raw v)
   |_,_=>False
 | .fn f _ _,.raw .nilFunc=>iX P op t (.func f #[] #[]) .nilFunc λv=>K (.raw v)
 |_,_=>False
def jM(ρ:Operand->PV):List Operand->Option (IntKind×List Int)
 |[]=>none
 |[x]=>match ρ x with| .raw (.int k i)=>some (k,[i])|_=>none
 |x::l=>match ρ x,jM ρ l with
  | .raw (.int k i),some (k',is)=>bif decide (k=k')then some (k,i::is)else none
  |_,_=>none
def nN(r:Bool)(p:PV):PV:=bif r then(match p with| .list _ .nil _=>.raw (.slice none 0 0)|p=>p)else p
def xX(fU:List Nat)(k:Nat):Nat->List PV->List PV
 |_,[]=>[]
 |i,c::cs=>nN (bA fU k||bA fU (2000000+1000*k+i)) c::xX fU k (i+1) cs
def qp(fU:List Nat)(k:Option Nat)(cs:List PV):List PV:=match k with|some k=>xX fU k 0 cs|none=>cs
def Ol(x:Operand):Option Nat:=match x with| .tmp a=>some a|_=>none
def uQ(E:fC)(o:Oper):Bool:=match o.dst with|some d=>Hh E.fU d|none=>aT E
def acb(E:fC)(o:Oper):Bool:=aT E||match o.dst with|some d=>bA E.wrt d|none=>false
def Xd(E:fC)(q:Bool)(o:Oper)(st:bn)(μ:Mem)(b:Builtin)(args:List Operand)(ts:List TypeId)(K:bn->Mem->Prop):Prop:=
 match b,args,ts with
 | .len,[x],[t]=>match E.P.underlying t,cp (aT E) st.σ x with
   |some (.slice _),.list _ _ rows=>K (aZ o st (pI rows.length)) μ
   |some (.slice _),.raw (.slice _ n _)=>K (aZ o st (pI n)) μ
   |some .string,.raw (.string s)=>K (aZ o st (pI s.size)) μ
   |some (.array n _),v=>bif v.ok then K (aZ o st (pI n)) μ else False
   |_,_=>False
 | .append,[x,y],[t,t']=>match E.P.underlying t,E.P.underlying t' with
   |some (.slice e),some (.slice _)=>BH E.P q e (nN (uQ E o) (cp (aT E) st.σ x)) (cp (aT E) st.σ y) μ λp μ'=>K (aZ o st p) μ'
   |_,_=>False
 | .min,xs,_=>match jM (cp (aT E) st.σ) xs with
   |some (k,i::is)=>K (aZ o st (.raw (.int k (is.foldl (λx y=>if y<x then y else x) i)))) μ
   |_=>False
 | .max,xs,_=>match jM (cp (aT E) st.σ) xs with
   |some (k,i::is)=>K (aZ o st (.raw (.int k (is.foldl (λx y=>if y>x then y else x) i)))) μ
   |_=>False
 |_,_,_=>False
def nj(E:fC)(q:Bool)(fz:List Nat)(o:Oper)(st:bn)(μ:Mem)(t:TypeId)(cs:List PV)(K:bn->Mem->Prop):Prop:=
 match o.dst with
 |none=>False
 |some k=>bif bA E.cU k then
   (bif !q&&(!jL st.D k&& !bA fz k&&aE cs&&Nat.ble cs.length 65536)then K {st with σ:=xz (gS st.σ k (.box k 0)) k 0 cs,D:=(k,cs.length)::st.D} μ else False)
  else bif bA E.cst k then(bif aE cs then K (aZ o st (.bl (cs.map cu) 0)) μ else False)
  else ∀b,μ b=none->K (aZ o st (pP b 0)) (μ.set b (some (.cells t cs)))
def V1(E:fC)(q:Bool)(fz:List Nat)(o:Oper)(st:bn)(μ:Mem)(K:bn->Mem->Prop):Prop:=
 let ρ:=cp (aT E) st.σ
 let r:=uQ E o
 match o.op with
 | .move x| .assign x=>K (aZ o st (b_ E.P o.type (ρ x))) μ
 | .pick c a b=>match ρ c with
   | .raw (.bool t)=>ae t (K (aZ o st (b_ E.P o.type (ρ a))) μ) (K (aZ o st (b_ E.P o.type (ρ b))) μ)
   |_=>False
 | .alloc t=>match(E.P.info? t).bind (·.zero)with
   |none=>False
   |some z=>bif (hU (aT E) E.P t z).ok then nj E q fz o st μ t (qp E.fU o.dst (hU (aT E) E.P t z).cells) K else False
 | .box t x=>bif (ρ x).ok then nj E q fz o st μ t (qp E.fU o.dst (b_ E.P t (ρ x)).cells) K else False
 | .build t ps=>bif ps.toList.all λp=>(ρ p.2).ok then match Nf (aT E) E.P t (ps.toList.map λp=>(p.1,ρ p.2))with
   |some vs=>K (aZ o st (.agg vs)) μ
   |none=>False else False
 | .buildSlice t len ps=>bif (ps.toList.all λp=>(ρ p.2).ok)&&Nat.beq ps.toList.length len then match oW E.P t with
   |none=>False
   |some e=>match jh (E.P.cellsOf e) 0 (ps.toList.map λp=>(p.1,b_ E.P e (ρ p.2)))with
    |some rows=>bif Nat.ble rows.flatten.length 65536&&((E.P.info? e).bind (·.zero)).isSome&& !Nat.beq (E.P.cellsOf e) 0 then
      (bif acb E o then ∀b,μ b=none->K (aZ o st (.raw (.slice (some ⟨b,0,none⟩) len len))) (μ.set b (some (.cells e (qp E.fU o.dst rows.flatten))))
      else K (aZ o st (.list (E.P.cellsOf e) .nr rows)) μ)else False
    |none=>False else False
 | .load t x=>match eE E.P r t with
   |none=>False
   |some ks=>match ρ x with
    | .box k off=>match bY st.D k with
      |some m=>bif Nat.ble (off+ks.length) m&&aE (wM st.σ k off ks.length)then K (aZ o st (uD (bG E.P t) (wM st.σ k off ks.length))) μ else False
      |none=>False
    | .bl row off=>yU ks λvs=>aA row off ks.length=some vs/\K (aZ o st (uD (bG E.P t) vs)) μ
    |v=>bD v λb off=>yU ks λvs=>aN μ b off ks.length=some vs/\K (aZ o st (uD (bG E.P t) vs)) μ
 | .store t x y=>bif (ρ y).ok&&Nat.beq (b_ E.P t (ρ y)).cells.length (E.P.cellsOf t)&&(E.P.info? t).isSome then match ρ x with
   | .box k off=>match bY st.D k with
     |some m=>bif Nat.ble (off+(b_ E.P t (ρ y)).cells.length) m&& !bA fz k then K {st with σ:=Hi (xz st.σ k off (b_ E.P t (ρ y)).cells) o.dst (.aC [])} μ else False
     |none=>False
   |v=>bif q then False else bD v λb off=>stM b off (qp E.fU (Ol x) (b_ E.P t (ρ y)).cells) μ λμ'=>K (aZ o st (.aC [])) μ'
   else False
 | .nilCheck x=>match ρ x with
   | .box k off=>K (aZ o st (.box k off)) μ
   | .bl row off=>K (aZ o st (.bl row off)) μ
   | .raw (.pointer a)=>nn a (K (aZ o st (.raw (.pointer a))) μ)
   | .fn f a b=>qy f (K (aZ o st (.fn f a b)) μ)
   |_=>False
 | .binOp op t x y _=>zj E.P op t (ρ x) (ρ y) λv=>K (aZ o st v) μ
 | .unOp op _ x=>match op,ρ x with
   | .not,.raw (.bool b)=>K (aZ o st (pB (!b))) μ
   | .neg,.raw (.int k n)=>K (aZ o st (.raw (.int k (k.wrap (0-n))))) μ
   |_,_=>False
 | .convert src dst x=>match ρ x with
   | .raw v=>match pv E.P (convert src dst v)with
     |some v'=>bif plain v'&&one v' then K (aZ o st (.raw v')) μ else False
     |none=>False
   |_=>False
 | .makeInterface t x=>bif (ρ x).ok&&(match E.P.underlying t with|some (.interface _)=>false|some _=>true|none=>false)then K (aZ o st (.iface t (ρ x))) μ else False
 | .makeSlice t x y=>match E.P.underlying t,ρ x,ρ y with
   |some (.slice e),.raw (.int _ i),.raw (.int _ j)=>match(E.P.info? e).map (λi=>(i.size,i.bytes,i.zero.map λz=>(hU (aT E) E.P e z).cells))with
    |some (size,bytes,some zero)=>bif Nat.beq zero.length size&& !Nat.beq size 0&&aE zero then
      0<=i/\i<=j/\j<4611686018427387904/\j.toNat*bytes<=140737488355328/\
      ∀b,μ b=none->K (aZ o st (.raw (.slice (some ⟨b,0,none⟩) i.toNat j.toNat))) (μ.set b (some (.cells e (List.replicate j.toNat zero).flatten)))else False
    |_=>False
   |_,_,_=>False
 | .makeFunc fn first captured=>bif first.toList.all (λx=>(ρ x).ok)&&captured.toList.all (λx=>(ρ x).ok)then
   K (aZ o st (.fn fn (first.toList.map λx=>wk (ρ x)) (captured.toList.map λx=>wk (ρ x)))) μ else False
 | .slice t x lo hi mx=>match E.P.underlying t,ρ x with
   |some (.slice e),.list sz _ rows=>match bT ρ lo 0,bT ρ hi rows.length,bT ρ mx rows.length with
    |some l,some h,some m=>bif (mx.isSome&&hi.isNone)||(E.P.info? e).isNone|| !ow (E.P.cellsOf e) sz rows then False else
      match mx with
      |none=>0<=l/\l<=h/\h<=rows.length/\K (aZ o st (.list (E.P.cellsOf e) .sh ((rows.take h.toNat).drop l.toNat))) μ
      |some _=>0<=l/\l<=h/\h<=rows.length/\m=h/\K (aZ o st (.list (E.P.cellsOf e) .nr ((rows.take h.toNat).drop l.toNat))) μ
    |_,_,_=>False
   |some (.slice e),.raw (.slice a len cap)=>match bT ρ lo 0,bT ρ hi len,bT ρ mx cap with
    |some l,some h,some m=>(bif (mx.isSome&&hi.isNone)||(E.P.info? e).isNone then False else fW a/\0<=l/\l<=h/\h<=m/\m<=cap/\K (aZ o st (.raw (.slice (sX a l.toNat m.toNat (E.P.cellsOf e)) (h.toNat-l.toNat) (m.toNat-l.toNat)))) μ)
    |_,_,_=>False
   |some .string,.raw (.string s)=>match mx with
    |some _=>False
    |none=>match bT ρ lo 0,bT ρ hi s.size with
     |some l,some h=>0<=l/\l<=h/\h<=s.size/\K (aZ o st (pS (s.extract l.toNat h.toNat))) μ
     |_,_=>False
   |_,_=>False
 | .fieldAddr t x f=>match vl E.P t f with
   |none=>False
   |some d=>match ρ x with
    | .box k off=>K (aZ o st (.box k (off+d))) μ
    | .bl row off=>K (aZ o st (.bl row (off+d))) μ
    |v=>bD v λb off=>K (aZ o st (pP b (off+d))) μ
 | .field t x f=>match ρ x with
   | .agg cs=>match FF E.P t f cs with
     |some v=>K (aZ o st v) μ
     |none=>False
   |_=>False
 | .indexAddr t x i=>match E.P.underlying t,ρ x,ρ i with
   |some (.slice e),.list sz _ rows,.raw (.int _ j)=>bif (E.P.info? e).isSome&&Nat.beq sz (E.P.cellsOf e)then 0<=j/\∃row,rows[j.toNat]?=some row/\K (aZ o st (.bl row 0)) μ else False
   |some (.slice e),.raw (.slice a len _),.raw (.int _ j)=>bif (E.P.info? e).isSome then bR a λb off=>0<=j/\j<len/\K (aZ o st (pP b (off+j.toNat*E.P.cellsOf e))) μ else False
   |some (.array len e),.box k off,.raw (.int _ j)=>bif decide (0<=j)&&decide (j<len)&&(E.P.info? e).isSome then K (aZ o st (.box k (off+j.toNat*E.P.cellsOf e))) μ else False
   |_,_,_=>False
 | .index t x i=>match E.P.underlying t,ρ x,ρ i with
   |some .string,.raw (.string s),.raw (.int _ j)=>0<=j/\∃c:UInt8,s[j.toNat]?=some c/\K (aZ o st (.raw (.int .u8 c.toNat))) μ
   |some (.array len e),.agg cs,.raw (.int _ j)=>bif (E.P.info? e).isSome then 0<=j/\j<len/\wS E.P r e λv=>Aq E.P e (j.toNat*E.P.cellsOf e) cs=some v/\K (aZ o st v) μ else False
   |_,_,_=>False
 | .extract x i=>match ρ x with
   | .aC vs=>match vs[i]? with
     |some v=>bif v.ok then K (aZ o st v) μ else False
     |none=>False
   |_=>False
 | .call c=>match c.callee with
   | .builtin b=>Xd E q o st μ b c.args.toList c.argTypes.toList K
   | .value f=>bif c.args.toList.all (λx=>(ρ x).ok)then
     zL E.P q (ρ f) (jV E.P c.argTypes.toList (c.args.toList.map ρ)) μ λv μ'=>yT E.P r o.type λv'=>v=v'/\K (aZ o st v') μ' else False
   | .invoke x name=>bif c.args.toList.all (λx=>(ρ x).ok)then match ρ x with
     | .iface t p=>match pv E.P (method (E.P.types.size+Made.depth) t undef name)with
       |some (g,_)=>(∀v,pv E.P (method (E.P.types.size+Made.depth) t v name)=some (g,v))/\
         zL E.P q (.fn (.func g) [] []) (zM p::jV E.P c.argTypes.toList (c.args.toList.map ρ)) μ λv μ'=>yT E.P r o.type λv'=>v=v'/\K (aZ o st v') μ'
       |none=>False
     |_=>False else False
 |_=>False
def Kl(μ:Mem)(b:Nat):Prop:=∃T cs,μ b=some (.cells T cs)/\cs≠[]
def Pf(x y:PV)(μ:Mem)(K:Bool->Prop):Prop:=
 match x,y with
 | .raw (.pointer (some ⟨b,o,none⟩)),.raw (.pointer (some ⟨b',o',none⟩))=>Kl μ b/\Kl μ b'/\K (Nat.beq b b'&&Nat.beq o o')
 |_,_=>False
def lQ(x:PV):Bool:=match x with| .raw (.pointer _)=>true|_=>false
def mI:Lq->Option (List Int)
 |[]=>some []
 |[.raw (.int .u8 n)]::l=>match mI l with|some ns=>some (n::ns)|none=>none
 |_=>none
def mi(P:Program)(src dst:TypeId)(sz:Nat)(rows:Lq)(K:ByteArray->Prop):Prop:=
 bif Nat.beq sz 1&&tH P src dst&& !rows.isEmpty then(match mI rows with|some ns=>K (ofBytes ns)|none=>False)else False
def Nu(E:fC)(fz:List Nat)(o:Oper)(st:bn)(μ:Mem)(K:bn->Mem->Prop):Prop:=
 match o.op with
 | .binOp .eql t x (.tmp y) _=>bif lQ (cp (aT E) st.σ x)&&lQ (cp (aT E) st.σ (.tmp y))then
   (bif (match E.P.underlying t with|some (.pointer e)=>sized E.P e|_=>false)then
    Pf (cp (aT E) st.σ x) (cp (aT E) st.σ (.tmp y)) μ λr=>K (aZ o st (pB r)) μ else False)else V1 E false fz o st μ K
 | .convert src dst x=>match cp (aT E) st.σ x with
   | .list sz _ rows=>mi E.P src dst sz rows λs=>K (aZ o st (pS s)) μ
   | .raw (.slice (some ⟨b,off,none⟩) n _)=>∃cs,aN μ b off n=some cs/\mi E.P src dst 1 (cs.map λc=>[c]) λs=>K (aZ o st (pS s)) μ
   |_=>V1 E false fz o st μ K
 |_=>V1 E false fz o st μ K
def Vl(E:fC)(fz:List Nat)(ops:Array Oper)(Q:bn->Mem->Prop):List Oper->bn->Mem->Prop
 |[],st,μ=>Q st μ
 |o::l,st,μ=>match o.guard with
  |none=>Nu E fz o st μ λbu μ'=>Vl E fz ops Q l bu μ'
  |some (j,b)=>match kO ops j with
   |none=>False
   |some g=>match st.σ g with
    | .raw (.bool c)=>ae c
      ((λdb=>ae b (V1 E false fz o db μ λbu μ'=>Vl E fz ops Q l bu μ') (Vl E fz ops Q l (aZ o db (.aC [])) μ)) {st with σ:=gS st.σ g (pB true)})
      ((λdb=>ae b (Vl E fz ops Q l (aZ o db (.aC [])) μ) (V1 E false fz o db μ λbu μ'=>Vl E fz ops Q l bu μ')) {st with σ:=gS st.σ g (pB false)})
    | .aC _=>Vl E fz ops Q l (aZ o st (.aC [])) μ
    |_=>False
def fN(ops:Array Oper)(o:Oper)(st:bn)(act skip:bn->Prop):Prop:=
 match o.guard with
 |none=>act st
 |some (j,b)=>match kO ops j with
  |none=>False
  |some g=>match st.σ g with
   | .raw (.bool c)=>ae c
     ((λdb=>ae b (act db) (skip db)) {st with σ:=gS st.σ g (pB true)})
     ((λdb=>ae b (skip db) (act db)) {st with σ:=gS st.σ g (pB false)})
   | .aC _=>skip st
   |_=>False
def CW(E:fC)(st:bn)(o:Oper):Bool:=
 match o.op with
 | .load _ x=>match cp (aT E) st.σ x with
   | .bl .. =>true
   |_=>false
 |_=>false
def nR(E:fC)(fz:List Nat)(ops:Array Oper)(c:Bool)(μ0:Mem)(i:Nat)(st:bn)(K:bn->Prop):Prop:=
 match ops[i]? with
 |none=>False
 |some o=>fN ops o st (λdb=>bif c|| !CW E db o then V1 E false fz o db μ0 λbu _=>K bu else False) (λdb=>K (aZ o db (.aC [])))
def PM(E:fC)(fz:List Nat)(o:Oper)(st:bn)(μ0 μ:Mem)(K:bn->Mem->Prop):Prop:=
 match o.op with
 | .store _ x _=>match cp (aT E) st.σ x with
   | .raw (.pointer (some ⟨b,_,none⟩))=>μ0 b=none/\V1 E false fz o st μ K
   |_=>V1 E true fz o st μ K
 |_=>V1 E true fz o st μ K
def nT(E:fC)(fz:List Nat)(ops:Array Oper)(μ0:Mem)(i:Nat)(st:bn)(μ:Mem)(K:bn->Mem->Prop):Prop:=
 match ops[i]? with
 |none=>False
 |some o=>bif fV E.cU o then False else fN ops o st
   (λdb=>bif oP ops i then PM E (fz++db.D.map (·.1)) o db μ0 μ K else V1 E false fz o db μ K)
   (λdb=>K (aZ o db (.aC [])) μ)
def Vd(E:fC)(fz:List Nat)(ops:Array Oper)(μ0:Mem)(Q:bn->Mem->Prop):Bool->gY->bn->Mem->Prop
 |_,.nil,st,μ=>Q st μ
 |c,.tk i p,st,μ=>nR E fz ops c μ0 i st λbu=>Vd E fz ops μ0 Q c p bu μ
 |_,.ef i p,st,μ=>nT E fz ops μ0 i st μ λbu μ'=>Vd E fz ops μ0 Q false p bu μ'
 |_,.QR i p j q,st,μ=>(nT E fz ops μ0 i st μ λbu μ'=>Vd E fz ops μ0 Q false p bu μ')/\(nT E fz ops μ0 j st μ λbu μ'=>Vd E fz ops μ0 Q false q bu μ')
 |_,.QO i p j q k r,st,μ=>(nT E fz ops μ0 i st μ λbu μ'=>Vd E fz ops μ0 Q false p bu μ')/\(nT E fz ops μ0 j st μ λbu μ'=>Vd E fz ops μ0 Q false q bu μ')/\(nT E fz ops μ0 k st μ λbu μ'=>Vd E fz ops μ0 Q false r bu μ')
def GX(E:fC)(fz:List Nat)(ops:Array Oper)(i:Nat)(st:bn)(μ:Mem)(K:bn->Mem->Prop):Prop:=
 match ops[i]? with
 |none=>False
 |some o=>fN ops o st (λdb=>V1 E false fz o db μ K) (λdb=>K (aZ o db (.aC [])) μ)
def Vq(E:fC)(fz:List Nat)(ops:Array Oper)(Q:bn->Mem->Prop):cK->bn->Mem->Prop
 | .nil,st,μ=>Q st μ
 | .tk i q,st,μ=>nR E fz ops true μ i st λbu=>Vq E fz ops Q q bu μ
 | .ld i q r,st,μ=>(nR E fz ops true μ i st λbu=>Vq E fz ops Q q bu μ)/\Vq E fz ops Q r st μ
 | .alt i q r,st,μ=>(GX E fz ops i st μ λbu μ'=>Vq E fz ops Q q bu μ')/\Vq E fz ops Q r st μ
 | .done,_,_=>True
def zX(c:mf)(J:ua c.live->Mem->Prop)(st:bn)(μ:Mem):Prop:=
 bif gD st c.cB then(match gJ st c.live with
  |some s=>J s μ
  |none=>False)else False
def uJ(next:bn->Mem->Prop)(Q:Exit->bn->Mem->Prop):Exit->bn->Mem->Prop
 | .normal,st,μ=>next st μ
 |e,st,μ=>Q e st μ
def Dl(id:Nat)(Q:Exit->bn->Mem->Prop):Exit->bn->Mem->Prop
 | .exit i,st,μ=>bif Nat.beq i id then Q .normal st μ else Q (.exit i) st μ
 |e,st,μ=>Q e st μ
def HK(K:bn->Mem->Prop):Exit->bn->Mem->Prop
 | .normal,st,μ=>K st μ
 |_,_,_=>False
def xm(R:Option Code->Mem->Prop):Exit->bn->Mem->Prop
 | .normal,_,μ=>R none μ
 | .ret,_,μ=>R (some .ret) μ
 | .exit i,_,μ=>R (some (.exit i)) μ
 |_,_,_=>False
def qW(σ:sL):sL:=λt=>match σ t with| .box _ _=>.au|v=>v
def rE(σ:sL):List Nat->List PV->sL
 |p::ps,v::vs=>rE (gS σ p v) ps vs
 |_,_=>σ
def V(E:fC):List Nat->Code->(Exit->bn->Mem->Prop)->bn->Mem->Prop
 |_,.skip,Q,st,μ=>Q .normal st μ
 |_,.ret,Q,st,μ=>Q .ret st μ
 |_,.exit i,Q,st,μ=>Q (.exit i) st μ
 |fz,.region _ ops false,Q,st,μ=>Vl E fz ops (Q .normal) ops.toList st μ
 |fz,.region id ops true,Q,st,μ=>bif E.P.follows .mixedOrders then(bif Ue E.cU id then(match eI ops with
  |some p=>Vq E fz ops (Q .normal) p st μ
  |none=>False)else match oD ops with
  |some p=>Vd E fz ops μ (Q .normal) true p st μ
  |none=>False)else False
 |fz,.seq a b,Q,st,μ=>match(cG b).bind (look E.gH)with
  |none=>V E fz a (uJ (λbu μ'=>V E fz b Q bu μ') Q) st μ
  |some l=>bif jJ fz st.D l.er then cw (λJ=>V E (freeze fz st.D l.er) a (uJ (zX l J) Q) st μ) (λs μ'=>V E fz b Q (PE st (writes a) l s) μ')else False
 |fz,.cond c a b,Q,st,μ=>match cp (aT E) st.σ c with
  | .raw (.bool t)=>ae t (V E fz a Q st μ) (V E fz b Q st μ)
  |_=>False
 |fz,.block id a,Q,st,μ=>V E fz a (Dl id Q) st μ
 |fz,.loop a,Q,st,μ=>match(cG a).bind (look E.loops)with
  |none=>False
  |some l=>bif jJ fz st.D l.er then zX l (aj λnext s μ'=>V E (freeze fz st.D l.er) a (uJ (zX l next) Q) (PE st (writes a) l s) μ') st μ else False
 |_,.rangeFunc f ps assign body,Q,st,μ=>match look E.kU (ps.toList.headD 0)with
  |none=>False
  |some ts=>bif Nat.beq ts.length ps.toList.length then
    bJ E.P (cp (aT E) st.σ f) (λvs R μ'=>mZ E.P (match ps.toList with|p::_=>Hh E.fU p|[]=>false) ts λfu=>vs=fu/\V E [] assign (HK λdb μ1=>V E [] body (xm R) db μ1) ⟨rE (qW st.σ) ps.toList fu,[]⟩ μ')
     (λp μ'=>PK p (Q .normal st μ') (bif fx body then Q .ret st μ' else False) ((xB (fR body)).map λi=>(i,Q (.exit i) st μ'))) μ
   else False
 |_,_,_,_,_=>False
def Gg(args:List PV):sL:=λt=>(args[t]?).getD (.aC [])
def kE(P:Program)(rw:List Nat)(st:bn)(μ:Mem):List ResultVar->(List PV->Prop)->Prop
 |[],F=>F []
 | .tmp t::l,F=>bif (st.σ t).ok then kE P rw st μ l λvs=>F (st.σ t::vs)else False
 | .cell a t::l,F=>match eE P (Hh rw a) t with
   |none=>False
   |some ks=>match st.σ a with
    | .box k off=>match bY st.D k with
      |some m=>bif Nat.ble (off+ks.length) m&&aE (wM st.σ k off ks.length)then kE P rw st μ l λvs=>F (uD (bG P t) (wM st.σ k off ks.length)::vs)else False
      |none=>False
    |v=>bD v λb off=>yU ks λus=>aN μ b off ks.length=some us/\kE P rw st μ l λvs=>F (uD (bG P t) us::vs)
def DU(R:Kq)(μ:Mem):List PV->Prop
 |[v]=>R v μ
 |vs=>R (.aC vs) μ
def VY(P:Program)(rw:List Nat)(rs:List ResultVar)(R:Kq):Exit->bn->Mem->Prop
 | .ret,st,μ=>kE P rw st μ rs (DU R μ)
 | .normal,st,μ=>kE P rw st μ rs (DU R μ)
 |_,_,_=>False
def VF(E:fC)(c:Code)(rs:List ResultVar)(args:List PV)(μ:Mem)(R:Kq):Prop:=
 V E [] c (VY E.P E.fU rs R) ⟨Gg args,[]⟩ μ
theorem bK.nil(Z:Fz):bK Z [] []:=⟨rfl,by simp⟩
theorem bK.cons{Z:Fz}{p:PV}{ps:List PV}{v:Value}{vs:List Value}(h:bw Z p v)(hs:bK Z ps vs):bK Z (p::ps) (v::vs):=
 ⟨by simp[hs.1],λi q w a b=>by
  cases i with
  |zero=>simp only[List.getElem?_cons_zero,Option.some.injEq]at a b;subst a;subst b;exact h
  |succ i=>simp only[List.getElem?_cons_succ]at a b;exact hs.2 i q w a b⟩
theorem bK.inv{Z:Fz}{p:PV}{ps:List PV}{vs:List Value}(h:bK Z (p::ps) vs):∃v fu,vs=v::fu/\bw Z p v/\bK Z ps fu:=by
 obtain⟨hl,h⟩:=h
 cases vs with
 |nil=>simp at hl
 |cons v vs=>exact⟨v,vs,rfl,h 0 p v rfl rfl,by simpa using hl,λi q w a b=>h (i+1) q w (by simpa using a) (by simpa using b)⟩
theorem bK.cW{Z:Fz}{vs:List Value}(h:bK Z [] vs):vs=[]:=List.eq_nil_of_length_eq_zero h.1
theorem aY.m{Z:Fz}{ps:List PV}{vs:List Value}(h:aY Z ps vs):bK Z ps vs:=⟨h.1,λi p v a b=>(h.2 i p v a b).2⟩
theorem bj.m{Z:Fz}{ps:List PV}{vs:List Value}(h:bj Z ps vs):bK Z ps vs:=⟨h.1,λi p v a b=>(h.2 i p v a b).2⟩
theorem bK.c{Z:Fz}{ps:List PV}{vs:List Value}(h:bK Z ps vs)(hc:aE ps=true):aY Z ps vs:=
 ⟨h.1,λi p v a b=>⟨List.all_eq_true.1 hc p (List.mem_of_getElem? a),h.2 i p v a b⟩⟩
theorem bK.s{Z:Fz}{ps:List PV}{vs:List Value}(h:bK Z ps vs)(hc:zw ps=true):bj Z ps vs:=
 ⟨h.1,λi p v a b=>⟨List.all_eq_true.1 hc p (List.mem_of_getElem? a),h.2 i p v a b⟩⟩
theorem bK.mono{Z Z':Fz}(hz:Z.le Z'){ps:List PV}{vs:List Value}(h:bK Z ps vs):bK Z' ps vs:=⟨h.1,λi p v a b=>(h.2 i p v a b).mono hz⟩
theorem aY.aE{Z:Fz}{ps:List PV}{vs:List Value}(h:aY Z ps vs):aE ps=true:=by
 refine List.all_eq_true.2 λp hp=>?_
 obtain⟨i,hi⟩:=List.mem_iff_getElem?.1 hp
 obtain⟨v,_,hc,_⟩:=h.get hi
 exact hc
theorem aY.mR{Z:Fz}{ps:List PV}{vs:List Value}(h:aY Z ps vs):bw Z (.agg ps) (.agg vs.toArray):=
 .agg ps vs h.1 (λp hp=>List.all_eq_true.1 h.aE p hp) λi p v a b=>(h.2 i p v a b).2
theorem bj.qQ{Z:Fz}{ps:List PV}{vs:List Value}(h:bj Z ps vs):bw Z (.aC ps) (.tuple vs.toArray):=by
 refine .aC ps vs h.1 (λp hp=>?_) λi p v a b=>(h.2 i p v a b).2
 obtain⟨i,hi⟩:=List.mem_iff_getElem?.1 hp
 obtain⟨v,_,hc,_⟩:=h.get hi
 exact hc
theorem bw.oB{Z:Fz}{ps:List PV}{v:Value}(h:bw Z (.agg ps) v):∃vs:List Value,v=.agg vs.toArray/\aY Z ps vs:=by
 cases h with
 |agg cs vs hl hk h=>exact⟨vs,rfl,hl,λi p v a b=>⟨hk p (List.mem_of_getElem? a),h i p v a b⟩⟩
theorem bw.yj{Z:Fz}{ps:List PV}{v:Value}(h:bw Z (.aC ps) v):∃vs:List Value,v=.tuple vs.toArray/\bj Z ps vs:=by
 cases h with
 |aC cs vs hl hk h=>exact⟨vs,rfl,hl,λi p v a b=>⟨hk p (List.mem_of_getElem? a),h i p v a b⟩⟩
theorem bw.ofRaw{Z:Fz}{v w:Value}(h:bw Z (.raw v) w):w=v/\az.plain v=true/\one v=true:=by
 cases h;exact⟨rfl,by assumption,by assumption⟩
theorem bw.vZ{Z:Fz}{k o:Nat}{w:Value}(h:bw Z (.box k o) w):w=cY k o:=by cases h;rfl
theorem bw.ofFn{Z:Fz}{f:Fn}{a b:List PV}{w:Value}(h:bw Z (.fn f a b) w):∃fv cv:List Value,w=.func f fv.toArray cv.toArray/\bj Z a fv/\bj Z b cv:=by
 cases h with
 |fn f first iW fv cv h1 h2 kf kc hf hc=>exact⟨fv,cv,rfl,⟨h1,λi p v a b=>⟨kf p (List.mem_of_getElem? a),hf i p v a b⟩⟩,⟨h2,λi p v a b=>⟨kc p (List.mem_of_getElem? a),hc i p v a b⟩⟩⟩
theorem bj.DW{Z:Fz}{f:Fn}{a b:List PV}{fv cv:List Value}(h:bj Z a fv)(k:bj Z b cv):bw Z (.fn f a b) (.func f fv.toArray cv.toArray):=by
 refine .fn f a b fv cv h.1 k.1 (λp hp=>?_) (λp hp=>?_) (λi p v a b=>(h.2 i p v a b).2) (λi p v a b=>(k.2 i p v a b).2)
 ·obtain⟨i,hi⟩:=List.mem_iff_getElem?.1 hp
  obtain⟨v,_,hc,_⟩:=h.get hi;exact hc
 ·obtain⟨i,hi⟩:=List.mem_iff_getElem?.1 hp
  obtain⟨v,_,hc,_⟩:=k.get hi;exact hc
theorem bw.ofList{Z:Fz}{sz:Nat}{fl:Fl}{rows:Lq}{w:Value}(h:bw Z (.list sz fl rows) w):∃a n c,w=.slice a n c/\rows.length=n/\n<=c/\(c=0\/fW a)/\Si fl a n c:=by
 cases h;exact⟨_,_,_,rfl,by assumption,by assumption,by assumption,by assumption⟩
theorem bw.Cw{Z:Fz}{sz Te:Nat}{fl:Fl}{w:Value}(h:bw Z (.list sz fl []) w):bw Z (.list Te fl []) w:=by
 cases h with
 |list _ _ _ a n c b o C g hn hc hs hr ha hg hk hp hf=>
  simp only[List.length_nil]at hn
  subst hn
  exact .list Te fl [] a 0 c b o C g rfl hc hs (by simp) (λh=>absurd rfl h) (λi j hi=>absurd hi (Nat.not_lt_zero i)) (by simp) (by simp) hf
theorem bw.flag{Z:Fz}{sz:Nat}{fl iD:Fl}{rows:Lq}{w:Value}(h:bw Z (.list sz fl rows) w)(qd:∀a n c,w=.slice a n c->Si iD a n c):bw Z (.list sz iD rows) w:=by
 cases h with
 |list _ _ _ a n c b o C g hn hc hs hr ha hg hk hp hf=>exact .list sz iD rows a n c b o C g hn hc hs hr ha hg hk hp (qd a n c rfl)
theorem bw.sh{Z:Fz}{sz:Nat}{fl:Fl}{rows:Lq}{w:Value}(h:bw Z (.list sz fl rows) w):bw Z (.list sz .sh rows) w:=h.flag λ_ _ _ _=>trivial
theorem bw.cu{Z:Fz}{p:PV}{w:Value}(h:bw Z p w):bw Z (cu p) w:=by
 cases p<;>first|exact h.sh|exact h
theorem Oe{p:PV}:(cu p).cell=p.cell:=by cases p<;>rfl
theorem XD{p:PV}:(cu p).ok=p.ok:=by cases p<;>rfl
theorem aY.wk{Z:Fz}{ps:List PV}{vs:List Value}(h:aY Z ps vs):aY Z (ps.map az.cu) vs:=
 ⟨by simp[h.1],λi p v a b=>by
  rw[List.getElem?_map]at a
  cases hq:ps[i]? with
  |none=>simp[hq]at a
  |some q=>
   simp only[hq,Option.map_some,Option.some.injEq]at a
   subst a
   exact⟨by rw[Oe];exact(h.2 i q v hq b).1,(h.2 i q v hq b).2.cu⟩⟩
theorem bw.zM{Z:Fz}{p:PV}{w:Value}(h:bw Z p w):bw Z (zM p) w:=by
 cases p<;>try exact h
 obtain⟨vs,rfl,hc⟩:=h.oB
 exact hc.wk.mR
theorem GK{p:PV}:(zM p).ok=p.ok:=by cases p<;>rfl
theorem bw.wk{Z:Fz}{p:PV}{w:Value}(h:bw Z p w):bw Z (wk p) w:=by
 cases p with
 |agg cs=>exact h.zM
 |aC vs=>
  obtain⟨ws,rfl,hs⟩:=h.yj
  refine bj.qQ ⟨by simp[hs.1],λi p v a b=>?_⟩
  rw[List.getElem?_map]at a
  cases hq:vs[i]? with
  |none=>simp[hq]at a
  |some q=>
   simp only[hq,Option.map_some,Option.some.injEq]at a
   subst a
   have:=hs.2 i q v hq b
   exact⟨by rw[GK,XD];exact this.1,this.2.cu.zM⟩
 |_=>exact h.cu
theorem acd{p:PV}:(az.wk p).ok=p.ok:=by cases p<;>rfl
theorem bw.Sn{Z:Fz}{sz:Nat}{p:PV}{w:Value}(h:bw Z p w):bw Z (Sn sz p) w:=by
 unfold az.Sn;split
 ·exact h.Cw
 ·exact h
theorem Pz{sz:Nat}{p:PV}:(Sn sz p).cell=p.cell:=by unfold Sn;split<;>rfl
theorem aY.oC{Z:Fz}:∀{ks:List KV} {ps:List PV} {vs:List Value},aY Z ps vs->aY Z (oC ks ps) vs
 |[],ps,vs,h=>by simpa[az.oC]using h
 |k::ks,[],vs,h=>by cases k<;>simpa[az.oC]using h
 | .list sz::ks,p::ps,vs,h=>by
   obtain⟨v,fu,rfl,h1,h2,h3⟩:=h.inv
   exact aY.cons (by rw[Pz];exact h1) h2.Sn h3.oC
 | .raw k::ks,p::ps,vs,h=>by
   obtain⟨v,fu,rfl,h1,h2,h3⟩:=h.inv
   exact aY.cons h1 h2 h3.oC
 | .fn::ks,p::ps,vs,h=>by
   obtain⟨v,fu,rfl,h1,h2,h3⟩:=h.inv
   exact aY.cons h1 h2 h3.oC
theorem bw.b_{Z:Fz}{P:Program}{t:TypeId}{p:PV}{w:Value}(h:bw Z p w):bw Z (b_ P t p) w:=by
 unfold az.b_
 split
 ·split
  ·obtain⟨vs,rfl,hc⟩:=h.oB;exact hc.oC.mR
  ·split
   ·exact h.Cw
   ·exact h
  ·exact h
 ·exact h
theorem mu{P:Program}{t:TypeId}{p:PV}:(b_ P t p).ok=p.ok:=by
 unfold b_
 split
 ·split
  ·rfl
  ·split<;>rfl
  ·rfl
 ·rfl
theorem bw.Nh{Z:Fz}{P:Program}{t:TypeId}{p:PV}{w:Value}(h:bw Z p w):bw Z (Nh P t p) w:=h.b_.zM
theorem Vz{P:Program}{t:TypeId}{p:PV}:(Nh P t p).ok=p.ok:=by unfold Nh;rw[GK,mu]
theorem bj.jV{Z:Fz}{P:Program}:∀{ts:List TypeId} {ps:List PV} {vs:List Value},bj Z ps vs->bj Z (jV P ts ps) vs
 |[],ps,vs,h=>by simpa[az.jV]using h
 |t::ts,[],vs,h=>by simpa[az.jV]using h
 |t::ts,p::ps,vs,h=>by
  obtain⟨v,fu,rfl,h1,h2,h3⟩:=h.inv
  exact bj.cons (by rw[Vz];exact h1) h2.Nh h3.jV
theorem yh(Z:Fz)(v:Value):bw Z (yi v) v:=by
 unfold yi
 split
 ·exact .list 0 .nil [] none 0 0 0 0 [] (λ_ _=>undef) rfl (Nat.le_refl _) (.inl rfl) (by simp) (λh=>absurd rfl h) (λi j hi=>absurd hi (Nat.not_lt_zero i)) (by simp) (by simp) ⟨rfl,rfl,rfl⟩
 ·exact .au _
 ·exact .au _
 ·exact .au _
 ·exact .au _
 ·exact .au _
 ·rename_i f a b
  cases hb:(Nat.beq a.size 0&&Nat.beq b.size 0)with
  |false=>exact .au _
  |true=>
   simp only[Bool.and_eq_true,beq_iff]at hb
   have h1:a= #[]:=Array.eq_empty_of_size_eq_zero hb.1
   have h2:b= #[]:=Array.eq_empty_of_size_eq_zero hb.2
   subst h1;subst h2
   exact bj.DW (fv:=[]) (cv:=[]) (bj.nil Z) (bj.nil Z)
 ·rename_i h1 h2 h3 h4 h5 h6 h7
  refine .raw v ?_ ?_
  ·cases v<;>first|rfl|(exact absurd rfl (h5 _ _ _))
  ·cases v<;>first|rfl|(exact absurd rfl (h3 _))|(exact absurd rfl (h4 _))
theorem Bd(Z:Fz)(l:List Value):bK Z (l.map yi) l:=
 ⟨by simp,λi p v a b=>by
  rw[List.getElem?_map,b]at a
  simp only[Option.map_some,Option.some.injEq]at a
  subst a;exact yh Z v⟩
theorem J_(Z:Fz)(v:Value):bw Z (ofV v) v:=by
 unfold ofV
 split
 ·rename_i a
  cases hb:aE (a.toList.map yi)with
  |false=>exact .au _
  |true=>simpa using((Bd Z a.toList).c hb).mR
 ·rename_i a
  cases hb:zw (a.toList.map yi)with
  |false=>exact .au _
  |true=>simpa using((Bd Z a.toList).s hb).qQ
 ·exact yh Z v
theorem EF(Z:Fz)(v:Value):bw Z (z_ v) v:=by
 unfold z_
 split
 ·exact .raw _ rfl rfl
 ·exact yh Z v
theorem Be(Z:Fz)(l:List Value):bK Z (l.map z_) l:=
 ⟨by simp,λi p v a b=>by
  rw[List.getElem?_map,b]at a
  simp only[Option.map_some,Option.some.injEq]at a
  subst a;exact EF Z v⟩
theorem Ka(Z:Fz)(v:Value):bw Z (Ma v) v:=by
 unfold Ma
 split
 ·rename_i a
  cases hb:aE (a.toList.map z_)with
  |false=>exact .au _
  |true=>simpa using((Be Z a.toList).c hb).mR
 ·rename_i a
  cases hb:zw (a.toList.map z_)with
  |false=>exact .au _
  |true=>simpa using((Be Z a.toList).s hb).qQ
 ·exact EF Z v
structure cz(Z:Fz)(p:bn)(s:St):Prop where
 D:p.D=s.D
 slot:∀t,bw Z (p.σ t) (s.σ t)
theorem cz.mono{Z Z':Fz}(hz:Z.le Z'){p:bn}{s:St}(h:cz Z p s):cz Z' p s:=⟨h.D,λt=>(h.slot t).mono hz⟩
def dY(Z:Fz)(p:sL)(s:Fr):Prop:=∀t,bw Z (p t) (s t)
theorem dY.iz{Z:Fz}{p:sL}{s:Fr}(h:dY Z p s){t:Nat}{x:PV}{v:Value}(hv:bw Z x v):dY Z (gS p t x) (iz s t v):=by
 intro i
 unfold gS az.iz
 cases Nat.beq i t
 ·exact h i
 ·exact hv
theorem dY.put{Z:Fz}{p:sL}{s:Fr}(h:dY Z p s){d:Option Nat}{x:PV}{v:Value}(hv:bw Z x v):dY Z (Hi p d x) (put s d v):=by
 cases d with
 |none=>exact h
 |some t=>exact h.iz hv
theorem dY.pH{Z:Fz}{k:Nat}:∀{ps:List PV} {vs:List Value} {p:sL} {s:Fr} {j:Nat},dY Z p s->bK Z ps vs->dY Z (xz p k j ps) (pH s k j vs)
 |[],vs,p,s,j,h,hv=>by rw[hv.cW];exact h
 |x::ps,vs,p,s,j,h,hv=>by
  obtain⟨v,fu,rfl,h1,h2⟩:=hv.inv
  exact dY.pH (p:=gS p (gx k j) x) (s:=az.iz s (gx k j) v) (j:=j+1) (h.iz h1) h2
theorem dY.uP{Z:Fz}{p:sL}{s:Fr}{k:Nat}(h:dY Z p s):∀(m j:Nat),bK Z (wM p k j m) (az.uP s k j m)
 |0,_=>bK.nil Z
 |m+1,j=>bK.cons (h _) (h.uP m (j+1))
theorem vX(σ:sL)(k:Nat):∀(m j:Nat),(wM σ k j m).length=m
 |0,_=>rfl
 |m+1,j=>by simp[wM,vX σ k m (j+1)]
theorem cz.ev{m:Bool}{Z:Fz}{p:bn}{s:St}(h:cz Z p s)(x:Operand):bw Z (cp m p.σ x) (ev s.σ x):=by
 cases x with
 |tmp t=>exact h.slot t
 |const v=>cases m;exact J_ Z v;exact Ka Z v
 |global g=>exact .raw _ rfl rfl
 |func f=>exact bj.DW (fv:=[]) (cv:=[]) (bj.nil Z) (bj.nil Z)
theorem cz.fin{Z:Fz}{p:bn}{s:St}(h:cz Z p s)(o:Oper){x:PV}{v:Value}(hv:bw Z x v):cz Z (aZ o p x) (fin o s v):=⟨h.D,dY.put h.slot hv⟩
theorem KV.Pj(k:KV)(x:k.T):(k.p x).cell=true:=by cases k<;>rfl
theorem EL{fl:Fl}{rows:Lq}{x:Fl×Lq}(h:HL fl rows=some x):fl=.nil/\rows=[]/\x=(.nil,[]):=by
 unfold HL at h
 split at h
 ·simp only[Option.some.injEq]at h;exact⟨rfl,rfl,h.symm⟩
 ·cases h
theorem KV.CT{Z:Fz}{k:KV}{p:PV}{v:Value}{x:k.T}(h:bw Z p v)(hg:k.get p=some x):∃y:k.er.T,k.er.get v=some y/\bw Z (k.p x) (k.er.v y):=by
 cases k with
 |raw k=>
  cases p with
  |raw v0=>
   simp only[KV.get]at hg
   obtain⟨rfl,hp,h1⟩:=h.ofRaw
   refine⟨x,hg,?_⟩
   have:=K1.yO hg
   rw[this]at hp h1
   exact .raw _ hp h1
  |list sz fl rows=>
   cases k with
   |slice=>
    cases fl with
    |nil=>
     simp only[KV.get,Option.some.injEq]at hg
     subst hg
     obtain⟨a,n,c,rfl,_,_,_,hf⟩:=h.ofList
     obtain⟨rfl,rfl,rfl⟩:=hf
     exact⟨(none,0,0),rfl,.raw _ rfl rfl⟩
    |_=>simp[KV.get]at hg
   |_=>simp[KV.get]at hg
  |_=>simp[KV.get]at hg
 |list sz=>
  cases p<;>simp only[KV.get]at hg<;>try (cases hg;done)
  rename_i Te fl rows
  obtain⟨a,n,c,rfl,_⟩:=h.ofList
  refine⟨(a,n,c),rfl,?_⟩
  cases hb:Nat.beq sz Te with
  |true=>
   rw[hb]at hg
   simp only[cond_true,Option.some.injEq]at hg
   subst hg
   have:=beq_iff.1 hb;subst this
   exact h
  |false=>
   rw[hb]at hg
   obtain⟨rfl,rfl,rfl⟩:=EL hg
   exact h.Cw
 |fn=>
  cases p<;>simp only[KV.get]at hg<;>try (cases hg;done)
  rename_i f a b
  obtain⟨fv,cv,rfl,h1,h2⟩:=h.ofFn
  simp only[Option.some.injEq]at hg
  subst hg
  exact⟨(f,fv.toArray,cv.toArray),rfl,bj.DW h1 h2⟩
theorem Je{k k':K1}{ks:List K1}{v:Value}{vs:List Value}{x:k.T}{y:TL (k'::ks)}(h1:k.get v=some x)(h2:ji (k'::ks) vs=some y):ji (k::k'::ks) (v::vs)=some (x,y):=by
 simp only[ji,h1,h2]
theorem CV{s:St}{x y:Nat×Kd}{l:Live}{a:x.2.T}{b:Tup (y::l)}(h1:wy s x=some a)(h2:eJ s (y::l)=some b):eJ s (x::y::l)=some (a,b):=by
 simp only[eJ,h1,h2]
theorem sj{Z:Fz}:∀{ks:List KV} {ps:List PV} {vs:List Value} {x:TLP ks},bK Z ps vs->jX ks ps=some x->∃y:TL (ks.map KV.er),ji (ks.map KV.er) vs=some y/\bK Z (Ax ks x) (Jd (ks.map KV.er) y)
 |[],[],vs,x,h,_=>by rw[h.cW];exact⟨(),rfl,bK.nil Z⟩
 |[],_::_,_,_,_,hg=>by simp[jX]at hg
 |[k],[],_,_,_,hg=>by simp[jX]at hg
 |[k],[p],vs,x,h,hg=>by
  obtain⟨v,fu,rfl,h1,h2⟩:=h.inv
  rw[h2.cW]
  obtain⟨y,hy,hr⟩:=KV.CT h1 hg
  exact⟨y,hy,bK.cons hr (bK.nil Z)⟩
 |[k],_::_::_,_,_,_,hg=>by simp[jX]at hg
 |k::k'::ks,[],_,_,_,hg=>by simp[jX]at hg
 |k::k'::ks,p::ps,vs,x,h,hg=>by
  obtain⟨v,fu,rfl,h1,h2⟩:=h.inv
  simp only[jX]at hg
  split at hg
  ·rename_i a b ha hb
   simp only[Option.some.injEq]at hg
   subst hg
   obtain⟨y,hy,hr⟩:=KV.CT h1 ha
   obtain⟨ys,hys,GB⟩:=sj (ks:=k'::ks) h2 hb
   refine⟨(y,ys),?_,bK.cons hr GB⟩
   exact Je hy hys
  ·cases hg
theorem BL:∀(ks:List KV) (x:TLP ks),aE (Ax ks x)=true
 |[],_=>rfl
 |[k],x=>by simp[Ax,aE,KV.Pj]
 |k::k'::ks,x=>by
  have:=BL (k'::ks) x.2
  simp only[aE]at this
  simp only[Ax,aE,List.all_cons,KV.Pj,this,Bool.and_self]
def VH(Z:Fz):(x:Nat×Sh)->x.2.T->(Kd.T x.2.er)->Prop
 |(_,.one k),a,b=>bw Z (k.p a) (k.er.v b)
 |(_,.agg ks),a,b=>bK Z (Ax ks a) (Jd (ks.map KV.er) b)
 |(_,.box ks),a,b=>bK Z (Ax ks a) (Jd (ks.map KV.er) b)
def sk(Z:Fz):(l:l_)->ua l->Tup l.er->Prop
 |[],_,_=>True
 |[x],a,b=>VH Z x a b
 |x::y::l,a,b=>VH Z x a.1 b.1/\sk Z (y::l) a.2 b.2
theorem Bu{Z:Fz}{p:bn}{s:St}(hr:cz Z p s):∀{x:Nat×Sh} {a:x.2.T},oR p x=some a->∃b,wy s (x.1,x.2.er)=some b/\VH Z x a b
 |(t,.one k),a,h=>KV.CT (hr.slot t) h
 |(t,.agg ks),a,h=>by
  simp only[oR]at h
  have hs:=hr.slot t
  split at h
  ·rename_i cs he
   rw[he]at hs
   obtain⟨vs,hv,hc⟩:=hs.oB
   obtain⟨y,hy,hm⟩:=sj hc.m h
   refine⟨y,?_,hm⟩
   show(match s.σ t with| .agg a=>ji (ks.map KV.er) a.toList|_=>none)=some y
   rw[hv];exact hy
  ·cases h
 |(t,.box ks),a,h=>by
  simp only[oR]at h
  have hs:=hr.slot t
  split at h
  ·rename_i k o he
   rw[he]at hs
   have hv:=hs.vZ
   cases hb:((Nat.beq k t&&Nat.beq o 0)&&di p.D t ks.length)with
   |false=>rw[hb]at h;cases h
   |true=>
    rw[hb]at h
    obtain⟨y,hy,hm⟩:=sj (dY.uP hr.slot _ _) h
    refine⟨y,?_,hm⟩
    show(match s.σ t with
     | .complex .f64 k o=>bif (Nat.beq k t&&Nat.beq o 0)&&di s.D t (ks.map KV.er).length then ji (ks.map KV.er) (uP s.σ t 0 (ks.map KV.er).length)else none
     |_=>none)=some y
    rw[hv]
    simp only[List.length_map,<- hr.D,hb,cond_true]
    exact hy
  ·cases h
theorem wx{Z:Fz}{p:bn}{s:St}(hr:cz Z p s):∀{l:l_} {a:ua l},gJ p l=some a->∃b,eJ s l.er=some b/\sk Z l a b
 |[],_,_=>⟨(),rfl,trivial⟩
 |[x],a,h=>Bu hr h
 |x::y::l,a,h=>by
  simp only[gJ]at h
  split at h
  ·rename_i a1 a2 h1 h2
   simp only[Option.some.injEq]at h
   subst h
   obtain⟨b1,zR,r1⟩:=Bu hr h1
   obtain⟨b2,hb2,r2⟩:=wx (l:=y::l) hr h2
   refine⟨(b1,b2),?_,r1,r2⟩
   exact CV zR hb2
  ·cases h
theorem AS{Z:Fz}:∀{p:bn} {s:St} (_:cz Z p s) {x:Nat×Sh} {a:x.2.T} {b:Kd.T x.2.er},VH Z x a b->cz Z (Ca p x a) (je s (x.1,x.2.er) b)
 |p,s,hr,(t,.one k),a,b,h=>⟨hr.D,dY.iz hr.slot h⟩
 |p,s,hr,(t,.agg ks),a,b,h=>⟨hr.D,dY.iz hr.slot (h.c (BL ks a)).mR⟩
 |p,s,hr,(t,.box ks),a,b,h=>by
  refine⟨?_,dY.pH (dY.iz hr.slot (.box t 0)) h⟩
  show(bif di p.D t ks.length then p.D else(t,ks.length)::p.D)=(bif di s.D t (ks.map KV.er).length then s.D else(t,(ks.map KV.er).length)::s.D)
  rw[List.length_map,hr.D]
theorem vR{Z:Fz}:∀{l:l_} {p:bn} {s:St} (_:cz Z p s) {a:ua l} {b:Tup l.er},sk Z l a b->cz Z (nV p l a) (pQ s l.er b)
 |[],p,s,hr,_,_,_=>hr
 |[x],p,s,hr,_,_,h=>AS hr h
 |x::y::l,p,s,hr,a,b,h=>vR (l:=y::l) (AS hr h.1) h.2
theorem zZ(Z:Fz)(m:Nat):bK Z (List.replicate m .au) (List.replicate m au):=
 ⟨by simp,λi p v a b=>by
  rw[List.getElem?_replicate]at a b
  split at a
  ·rename_i h
   rw[if_pos h]at b
   cases a;cases b;exact .au _
  ·cases a⟩
theorem xO{Z:Fz}:∀{l:List (Nat×Nat)} {p:sL} {s:Fr},dY Z p s->dY Z (pR p l) (dO s l)
 |[],_,_,h=>h
 |(k,m)::l,p,s,h=>xO (l:=l) (p:=xz (gS p k (.box k 0)) k 0 (List.replicate m .au)) (s:=pH (iz s k (cY k 0)) k 0 (List.replicate m au)) (dY.pH (h.iz (.box k 0)) (zZ Z m))
theorem Ph{Z:Fz}{p:sL}{s:Fr}(h:dY Z p s)(ws:List Nat):dY Z (tq p ws) (qq s ws):=by
 intro t
 unfold tq qq
 cases(Nat.blt t 65536&&bA ws t)
 ·exact h t
 ·exact .au _
theorem Kf{Z:Fz}{p:bn}{s:St}(hr:cz Z p s)(ws:List Nat){c:mf}{a:ua c.live}{b:Tup c.live.er}(h:sk Z c.live a b):cz Z (PE p ws c a) (mix s ws c.er b):=
 vR (l:=c.live) (p:={p with σ:=pR (tq p.σ ws) c.cB}) (s:={s with σ:=dO (qq s.σ ws) c.cB}) ⟨hr.D,xO (Ph hr.slot ws)⟩ h
theorem vT{Z:Fz}{p:bn}{s:St}(hr:cz Z p s):∀{l:List (Nat×Nat)},gD p l=true->jo s l=true
 |[],_=>rfl
 |(k,m)::l,h=>by
  simp only[gD,Bool.and_eq_true]at h
  simp only[jo,Bool.and_eq_true]
  refine⟨⟨by rw[<- hr.D];exact h.1.1,?_⟩,vT hr h.2⟩
  have h1:=h.1.2
  have hs:=hr.slot k
  unfold CK at h1
  split at h1
  ·rename_i k' o he
   rw[he]at hs
   rw[hs.vZ]
   exact h1
  ·cases h1
theorem JD{Z:Fz}{p:bn}{s:St}(hr:cz Z p s){c:mf}{J:ua c.live->Mem->Prop}{J':Tup c.er.live->UW->Prop}{μ:Mem}{u:UW}(h:zX c J p μ)(hJ:∀a b,sk Z c.live a b->J a μ->J' b u):SZ c.er J' s u:=by
 unfold zX at h
 unfold SZ
 cases hs:gD p c.cB with
 |false=>rw[hs]at h;exact h.elim
 |true=>
  rw[hs]at h
  have:jo s c.er.cB=true:=vT hr hs
  rw[this]
  simp only[cond_true]at h |-
  cases hg:gJ p c.live with
  |none=>rw[hg]at h;exact h.elim
  |some a=>
   rw[hg]at h
   obtain⟨b,hb,hrb⟩:=wx hr hg
   have jO:eJ s c.er.live=some b:=hb
   rw[jO]
   exact hJ a b hrb h
theorem rS(P:Program)(r:Bool):∀(f:Nat) (t:TypeId) {ks:List KV},kI P r f t=some ks->rT P f t=some (ks.map KV.er)
 |0,_,_,h=>by simp[kI]at h
 |f+1,t,ks,h=>by
  unfold kI at h
  unfold rT
  cases hu:P.underlying t with
  |none=>rw[hu]at h;cases h
  |some d=>
   rw[hu]at h
   cases d<;>simp only at h |- <;>try (cases h;done)
   case int=>cases h;rfl
   case bool=>cases h;rfl
   case string=>cases h;rfl
   case slice=>cases r<;>(cases h;rfl)
   case pointer=>cases h;rfl
   case func=>cases h;rfl
   case map=>cases h;rfl
   case struct fs=>
    generalize fs.toList=l at h
    induction l generalizing ks with
    |nil=>simp only[List.foldr_nil,Option.some.injEq]at h;subst h;rfl
    |cons x l ih=>
     simp only[List.foldr_cons]at h |-
     split at h
     ·rename_i a b ha hb
      simp only[Option.some.injEq]at h
      subst h
      rw[rS P r f x.type ha,ih _ hb]
      simp
     ·cases h
   case array n e=>
    cases hk:kI P r f e with
    |none=>rw[hk]at h;cases h
    |some Ub=>
     rw[hk]at h
     simp only[Option.some.injEq]at h
     subst h
     rw[rS P r f e hk]
     simp[List.map_flatten,List.map_replicate]
theorem vb{P:Program}{r:Bool}{t:TypeId}{ks:List KV}(h:eE P r t=some ks):kinds P t=some (ks.map KV.er):=by
 unfold eE at h
 unfold kinds
 cases hk:kI P r 8 t with
 |none=>rw[hk]at h;cases h
 |some Ub=>
  rw[hk]at h
  rw[rS P r 8 t hk]
  simp only at h |-
  rw[List.length_map]
  cases h1:Nat.beq Ub.length (P.cellsOf t)with
  |false=>rw[h1]at h;cases h
  |true=>
   rw[h1]at h
   cases h2:(bG P t||Nat.beq Ub.length 1)with
   |false=>rw[h2]at h;cases h
   |true=>
    rw[h2]at h
    simp only[cond_true,Option.some.injEq]at h |-
    subst h;rfl
theorem MR{Z:Fz}{k:KV}{F:PV->Prop}(h:UJ k F):∃p,p.cell=true/\F p/\∀{G:Value->Prop} {v:Value},bw Z p v->G v->exK k.er G:=by
 cases k with
 |raw k=>
  cases k<;>simp only[UJ,exK]at h
  case int=>obtain⟨x,h⟩:=h;exact⟨_,rfl,h,λhr hG=>by rw[hr.ofRaw.1]at hG;exact⟨_,hG⟩⟩
  case bool=>obtain⟨x,h⟩:=h;exact⟨_,rfl,h,λhr hG=>by rw[hr.ofRaw.1]at hG;exact⟨_,hG⟩⟩
  case str=>obtain⟨x,h⟩:=h;exact⟨_,rfl,h,λhr hG=>by rw[hr.ofRaw.1]at hG;exact⟨_,hG⟩⟩
  case slice=>obtain⟨a,n,c,h⟩:=h;exact⟨_,rfl,h,λhr hG=>by rw[hr.ofRaw.1]at hG;exact⟨_,_,_,hG⟩⟩
  case ptr=>obtain⟨x,h⟩:=h;exact⟨_,rfl,h,λhr hG=>by rw[hr.ofRaw.1]at hG;exact⟨_,hG⟩⟩
  case fn=>obtain⟨f,a,b,h⟩:=h;exact⟨_,rfl,h,λhr hG=>by rw[hr.ofRaw.1]at hG;exact⟨_,_,_,hG⟩⟩
  case map=>obtain⟨x,h⟩:=h;exact⟨_,rfl,h,λhr hG=>by rw[hr.ofRaw.1]at hG;exact⟨_,hG⟩⟩
 |list sz=>
  obtain⟨fl,rows,h⟩:=h
  exact⟨_,rfl,h,λhr hG=>by obtain⟨a,n,c,rfl,_⟩:=hr.ofList;exact⟨_,_,_,hG⟩⟩
 |fn=>
  obtain⟨f,a,b,h⟩:=h
  exact⟨_,rfl,h,λhr hG=>by obtain⟨fv,cv,rfl,_⟩:=hr.ofFn;exact⟨_,_,_,hG⟩⟩
theorem lU{Z:Fz}:∀{ks:List KV} {F:List PV->Prop},yU ks F->∃ps,ps.length=ks.length/\aE ps=true/\F ps/\∀{G:List Value->Prop} {vs:List Value},bK Z ps vs->G vs->ZR (ks.map KV.er) G
 |[],F,h=>⟨[],rfl,rfl,h,λhr hG=>by rw[hr.cW]at hG;exact hG⟩
 |k::ks,F,h=>by
  obtain⟨p,hp,h,hk⟩:=MR (Z:=Z) h
  obtain⟨ps,hl,hc,h,kq⟩:=lU (Z:=Z) h
  refine⟨p::ps,by simp[hl],by simp only[aE,List.all_cons,hp,Bool.true_and];exact hc,h,λhr hG=>?_⟩
  obtain⟨v,vs,rfl,h1,h2⟩:=hr.inv
  exact hk h1 (kq (G:=λvs=>_) h2 hG)
theorem yo{Z:Fz}{b:Bool}{ps:List PV}{vs:List Value}(h:aY Z ps vs):bw Z (uD b ps) (CA b vs):=by
 cases b with
 |true=>exact h.mR
 |false=>
  match ps,h with
  |[],h=>exact .au _
  |[p],h=>
   obtain⟨v,fu,rfl,h1,h2,h3⟩:=h.inv
   rw[h3.cW];exact h2
  |p::p'::ps,h=>exact .au _
theorem CB{P:Program}{r:Bool}{t:TypeId}{ks:List KV}(h:eE P r t=some ks){ps:List PV}(hl:ps.length=ks.length)(hc:aE ps=true):(uD (bG P t) ps).ok=true:=by
 unfold eE at h
 split at h
 ·rename_i Ub hk
  cases h1:Nat.beq Ub.length (P.cellsOf t)with
  |false=>rw[h1]at h;cases h
  |true=>
   rw[h1]at h
   cases h2:(bG P t||Nat.beq Ub.length 1)with
   |false=>rw[h2]at h;cases h
   |true=>
    rw[h2]at h
    simp only[cond_true,Option.some.injEq]at h
    subst h
    cases ha:bG P t with
    |true=>rfl
    |false=>
     rw[ha]at h2
     simp only[Bool.false_or,beq_iff]at h2
     rw[h2]at hl
     match ps,hl with
     |[p],_=>
      simp only[aE,List.all_cons,List.all_nil,Bool.and_true]at hc
      exact PV.Cs hc
 ·cases h
theorem vm{Z:Fz}{P:Program}{r:Bool}{t:TypeId}{F:PV->Prop}(h:wS P r t F):∃p,p.ok=true/\F p/\∀{G:Value->Prop} {v:Value},bw Z p v->G v->exV P t G:=by
 unfold wS at h
 cases hk:eE P r t with
 |none=>rw[hk]at h;exact h.elim
 |some ks=>
  rw[hk]at h
  obtain⟨ps,hl,hc,hF,hex⟩:=lU (Z:=Z) h
  refine⟨_,CB hk hl hc,hF,λ{G v} hr hG=>?_⟩
  unfold exV
  rw[vb hk]
  have aD:=CB hk hl hc
  cases ha:bG P t with
  |true=>
   rw[ha]at hr
   obtain⟨vs,rfl,qx⟩:=bw.oB (ps:=ps) hr
   exact hex (G:=λvs=>G (CA true vs)) qx.m hG
  |false=>
   rw[ha]at hr aD
   match ps,hr,aD with
   |[],hr,aD=>simp[uD,PV.ok,PV.cell]at aD
   |[p],hr,aD=>exact hex (G:=λvs=>G (CA false vs)) (bK.cons hr (bK.nil Z)) hG
   |p::p'::ps,hr,aD=>simp[uD,PV.ok,PV.cell]at aD
theorem rZ{Z:Fz}{P:Program}{r:Bool}:∀{ts:List TypeId} {F:List PV->Prop},mZ P r ts F->∃ps,zw ps=true/\F ps/\∀{G:List Value->Prop} {vs:List Value},bK Z ps vs->G vs->Iw P ts G
 |[],F,h=>⟨[],rfl,h,λhr hG=>by rw[hr.cW]at hG;exact hG⟩
 |t::ts,F,h=>by
  obtain⟨p,hp,h,hk⟩:=vm (Z:=Z) h
  obtain⟨ps,hc,h,kq⟩:=rZ (Z:=Z) h
  refine⟨p::ps,by simp only[zw,List.all_cons,hp,Bool.true_and];exact hc,h,λhr hG=>?_⟩
  obtain⟨v,vs,rfl,h1,h2⟩:=hr.inv
  exact hk h1 (kq (G:=λvs=>_) h2 hG)
theorem MQ{Z:Fz}{P:Program}{r:Bool}{t:TypeId}{F:PV->Prop}(h:yT P r t F):∃p,F p/\∀{G:Value->Prop} {v:Value},bw Z p v->G v->NH P t G:=by
 unfold yT at h
 unfold NH
 split at h
 ·rename_i ts hu
  obtain⟨ps,_,hF,hex⟩:=rZ (Z:=Z) h
  refine⟨_,hF,λ{G v} hr hG=>?_⟩
  obtain⟨vs,rfl,hc⟩:=hr.yj
  rw[hu]
  exact hex (G:=λvs=>G (.tuple vs.toArray)) hc.m hG
 ·rename_i hu
  obtain⟨p,_,hF,hex⟩:=vm (Z:=Z) h
  refine⟨p,hF,λ{G v} hr hG=>?_⟩
  split
  ·rename_i ts h2;exact absurd h2 (hu ts)
  ·exact hex hr hG
theorem vB.mono{P:Program}{f:Value}{args:List Value}{w:World}{R R':Ending->World->Prop}(h:vB P f args w R)(hr:∀e w',R e w'->R' e w'):vB P f args w R':=by
 unfold vB at*
 split at h
 ·exact⟨h.1,h.2.mono hr⟩
 ·obtain⟨h1,h2,r,h3,h4,h5⟩:=h
  exact⟨h1,h2,r,h3,h4,h5.mono hr⟩
 ·exact h
theorem Jc.mono{P:Program}{f:Value}{args:List Value}{w:World}{F:Nat->Prop}{K K':Value->Nat->World->Prop}(h:Jc P f args w F K)(hk:∀v lo w',Mod F w w'->w.heap.size<=lo->lo<=lo->K v lo w'->K' v lo w'):Jc P f args w F K':=
 λw1 hs=>(h w1 hs).mono λ_ _ ⟨v,w',he,ho,hK⟩=>⟨v,w',he,ho,hk v _ w' ho.umod hs.size (Nat.le_refl _) hK⟩
def Wf(u:UW):Prop:=∀b,u.eN b->b<u.heap.size
theorem Wf.ret{u:UW}{lo:Nat}{w':World}(h:Wf u)(hs:u.heap.size<=w'.heap.size):Wf (u.ret lo w'):=λb hb=>hb.elim (λhb=>Nat.lt_of_lt_of_le (h b hb) hs) (λhb=>hb.2)
theorem Wf.born{u:UW}{b:Nat}{w':World}{o:Obj}(h:Wf u)(hb:pG u.toWorld w' b o):Wf (u.born b w'):=λc hc=>hc.elim (λhc=>Nat.lt_of_lt_of_le (h c hc) hb.below.size) (λe=>by subst e;exact(Array.getElem?_eq_some_iff.1 hb.at_).1)
theorem Wf.Gz{u:UW}{b:Nat}{w':World}{o:Obj}(h:Wf u)(hb:Sto u.toWorld w' b o):Wf (u.Gz w'):=λc hc=>Nat.lt_of_lt_of_le (h c hc) hb.size
theorem ng.mono{P:Program}{f:Value}{args:List Value}{u:UW}{K K':Value->UW->Prop}(h:ng P f args u K)
  (hk:∀v lo w',Mod u.eN u.toWorld w'->u.heap.size<=lo->K v (u.ret lo w')->K' v (u.ret lo w')):ng P f args u K':=by
 obtain⟨F,hF,h⟩:=iy.1 h
 exact iy.2 ⟨F,hF,h.mono λv lo w' hm hl _ hK=>hk v lo w' ⟨hm.os,hm.tape,hm.output,hm.size,λb hb hn=>hm.bV b hb λhf=>hn (hF b hf)⟩ hl hK⟩
theorem vr{P:Program}{op:BinOp}{t:TypeId}{x y:Value}{K K':Value->Prop}(h:iX P op t x y K)(hk:∀v,plain v=true->one v=true->K v->K' v):iX P op t x y K':=by
 unfold iX at h |-
 split at h
 ·try simp only
  obtain⟨hc,h⟩:=ak h
  rw[hc]
  try simp only[cond_true]
  unfold oK at h |-
  split at h<;>(try simp only)<;>first|exact hk _ rfl rfl h|exact⟨h.1,hk _ rfl rfl h.2⟩|exact h.elim
 ·try simp only
  unfold ru at h |-
  split at h<;>(try simp only)<;>first|exact hk _ rfl rfl h|exact⟨h.1,hk _ rfl rfl h.2⟩|exact h.elim
 ·try simp only
  split at h
  ·rename_i hu;(try rw[hu]);try simp only
   split at h<;>(try simp only)<;>first|exact hk _ rfl rfl h|exact h.elim
  ·exact h.elim
 ·try simp only
  split at h
  ·exact h.elim
  ·rename_i hu;(try rw[hu]);try simp only
   obtain⟨hc,h⟩:=ak h
   rw[hc];simp only[cond_true]
   split at h
   ·rename_i hu;(try rw[hu]);try simp only
    split at h<;>(try simp only)<;>first|exact hk _ rfl rfl h|exact h.elim
   ·exact h.elim
 ·try simp only
  split at h
  ·rename_i hu;(try rw[hu]);try simp only
   split at h<;>(try simp only)<;>first|exact hk _ rfl rfl h|exact h.elim
  ·exact h.elim
 ·try simp only
  split at h
  ·rename_i hu;(try rw[hu]);try simp only
   split at h<;>(try simp only)<;>first|exact hk _ rfl rfl h|exact h.elim
  ·exact h.elim
 ·try simp only
  split at h
  ·rename_i hu;(try rw[hu]);try simp only
   split at h<;>(try simp only)<;>first|exact hk _ rfl rfl h|exact h.elim
  ·exact h.elim
 ·exact h.elim
theorem Vk{P:Program}{op:BinOp}{t:TypeId}{f:Fn}{a b a' b':Array Value}{K:Value->Prop}(h:iX P op t (.func f a b) .nilFunc K):iX P op t (.func f a' b') .nilFunc K:=h
theorem uI{Z:Fz}:∀{ps:List PV} {vs ws:List Value},eH ps=some vs->aY Z ps ws->ws=vs
 |[],vs,ws,h,hr=>by simp only[eH,Option.some.injEq]at h;subst h;exact hr.cW
 | .raw v::ps,vs,ws,h,hr=>by
   simp only[eH]at h
   cases hu:eH ps with
   |none=>rw[hu]at h;cases h
   |some us=>
    rw[hu]at h
    simp only[Option.some.injEq]at h
    subst h
    obtain⟨w,Xz,rfl,h1,h2,h3⟩:=hr.inv
    rw[h2.ofRaw.1,uI hu h3]
 | .list .. ::_,_,_,h,_=>by simp[eH]at h
 | .bl .. ::_,_,_,h,_=>by simp[eH]at h
 | .fn .. ::_,_,_,h,_=>by simp[eH]at h
 | .agg .. ::_,_,_,h,_=>by simp[eH]at h
 | .aC .. ::_,_,_,h,_=>by simp[eH]at h
 | .iface .. ::_,_,_,h,_=>by simp[eH]at h
 | .box .. ::_,_,_,h,_=>by simp[eH]at h
 | .au::_,_,_,h,_=>by simp[eH]at h
theorem RG{Z:Fz}{P:Program}{op:BinOp}{t:TypeId}{x y:PV}{a b:Value}{KP:PV->Prop}{K:Value->Prop}(hx:bw Z x a)(hy:bw Z y b)(h:zj P op t x y KP)(hk:∀p v,bw Z p v->KP p->K v):iX P op t a b K:=by
 unfold zj at h
 split at h
 ·rw[hx.ofRaw.1,hy.ofRaw.1]
  exact vr h λv h1 h2 hv=>hk _ v (.raw v h1 h2) hv
 ·rename_i aqz bs
  cases h1:eH aqz with
  |none=>rw[h1]at h;exact h.elim
  |some us=>
   cases h2:eH bs with
   |none=>rw[h1,h2]at h;exact h.elim
   |some ws=>
    rw[h1,h2]at h
    obtain⟨vs,rfl,hc⟩:=hx.oB
    obtain⟨fu,rfl,jN⟩:=hy.oB
    rw[uI h1 hc,uI h2 jN]
    exact vr h λv h1 h2 hv=>hk _ v (.raw v h1 h2) hv
 ·obtain⟨fv,cv,rfl,_⟩:=hx.ofFn
  rw[hy.ofRaw.1]
  exact vr (Vk h) λv h1 h2 hv=>hk _ v (.raw v h1 h2) hv
 ·exact h.elim
theorem uS{P:Program}{t:TypeId}{v:Value}(h:(match P.underlying t with|some (.interface _)=>false|some _=>true|none=>false)=true):pv P (Instr.makeInterface t v)=some (.iface t v):=by
 unfold Instr.makeInterface underlying program
 simp only[bind,Sem.bind,pv]
 cases hu:P.underlying t with
 |none=>rw[hu]at h;cases h
 |some d=>
  rw[hu]at h
  cases d<;>first|(simp at h;done)|rfl
theorem BD{Z:Fz}{p:PV}{v:Value}(h:bw Z p v)(hk:p.ok=true):v.cells.size=p.cells.length:=by
 have:=(h.cells hk).1
 simpa using this
theorem Gc{Z:Fz}{P:Program}{fs:Array Field}:∀{ps:List (Nat×PV)} {vs:List (Nat×Value)} {cs:List PV} {ds:List Value} {r:List PV},ps.length=vs.length->
  (∀(i:Nat) x y,ps[i]?=some x->vs[i]?=some y->x.1=y.1/\x.2.ok=true/\bw Z x.2 y.2)->aY Z cs ds->rf P fs ps cs=some r->∃w,IT P fs vs ds=some w/\aY Z r w
 |[],[],cs,ds,r,_,_,hc,h=>by simp only[rf,Option.some.injEq]at h;subst h;exact⟨ds,rfl,hc⟩
 |[],_::_,_,_,_,hl,_,_,_=>by simp at hl
 |_::_,[],_,_,_,hl,_,_,_=>by simp at hl
 |(i,p)::ps,(i',v)::vs,cs,ds,r,hl,hp,hc,h=>by
  obtain⟨e1,e2,e3⟩:=hp 0 _ _ rfl rfl
  simp only at e1 e2 e3
  subst e1
  simp only[rf]at h
  simp only[IT]
  split at h
  ·rename_i f hf
   have hlen:=BD e3 e2
   cases hb:(Nat.beq p.cells.length (P.cellsOf f.type)&&Nat.ble (f.offset+p.cells.length) cs.length&&(P.info? f.type).isSome)with
   |false=>rw[hb]at h;cases h
   |true=>
    rw[hb]at h
    simp only[cond_true]at h
    have jO:(Nat.beq v.cells.size (P.cellsOf f.type)&&Nat.ble (f.offset+v.cells.size) ds.length&&(P.info? f.type).isSome)=true:=by rw[hlen,hc.1];exact hb
    rw[hf]
    simp only[jO,cond_true]
    refine Gc (by simpa using hl) (λi x y a b=>hp (i+1) x y (by simpa using a) (by simpa using b)) ?_ h
    rw[hlen]
    exact((hc.take _).append (e3.cells e2)).append (hc.drop _)
  ·cases h
theorem Ge{α:Type}{b:Bool}{x:Option α}{y:α}(h:(bif b then x else none)=some y):b=true/\x=some y:=by
 cases b with
 |false=>cases h
 |true=>exact⟨rfl,h⟩
theorem zo{Z:Fz}{size:Nat}:∀{i:Nat} {ps:List (Nat×PV)} {vs:List (Nat×Value)} {rows:Lq},ps.length=vs.length->
  (∀(i:Nat) x y,ps[i]?=some x->vs[i]?=some y->x.1=y.1/\x.2.ok=true/\bw Z x.2 y.2)->jh size i ps=some rows->∃w,mJ size i vs=some w/\aY Z rows.flatten w/\rows.length=ps.length/\∀r∈rows,r.length=size
 |i,[],[],rows,_,_,h=>by simp only[jh,Option.some.injEq]at h;subst h;exact⟨[],rfl,aY.nil Z,rfl,by simp⟩
 |_,[],_::_,_,hl,_,_=>by simp at hl
 |_,_::_,[],_,hl,_,_=>by simp at hl
 |i,(j,pp)::ps,(j',v)::vs,rows,hl,hp,h=>by
  obtain⟨e1,e2,e3⟩:=hp 0 _ _ rfl rfl
  simp only at e1 e2 e3
  subst e1
  simp only[jh]at h
  simp only[mJ]
  have hlen:=BD e3 e2
  cases hb:(Nat.beq i j&&Nat.beq pp.cells.length size)with
  |false=>rw[hb]at h;cases h
  |true=>
   rw[hb]at h
   have jO:(Nat.beq i j&&Nat.beq v.cells.size size)=true:=by rw[hlen];exact hb
   rw[jO]
   simp only[cond_true]at h |-
   cases GB:jh size (i+1) ps with
   |none=>rw[GB]at h;cases h
   |some rs=>
    rw[GB]at h
    simp only[Option.some.injEq]at h
    subst h
    obtain⟨w,hw,dA,uF,GC⟩:=zo (vs:=vs) (by simpa using hl) (λi x y a b=>hp (i+1) x y (by simpa using a) (by simpa using b)) GB
    rw[hw]
    refine⟨_,rfl,(e3.cells e2).wk.append dA,by simp[uF],λr hr=>?_⟩
    simp only[List.mem_cons]at hr
    rcases hr with rfl|hr
    ·simp only[List.length_map]
     simp only[Bool.and_eq_true,beq_iff]at hb;exact hb.2
    ·exact GC r hr
theorem uG{m:Bool}{Z:Fz}{P:Program}{t:TypeId}{z:Value}:bw Z (hU m P t z) z:=by
 cases m
 ·exact(J_ Z z).b_
 ·exact Ka Z z
theorem Vo{m:Bool}{Z:Fz}{P:Program}{t:TypeId}{ps:List (Nat×PV)}{vs:List (Nat×Value)}{r:List PV}(hl:ps.length=vs.length)
  (hp:∀(i:Nat) x y,ps[i]?=some x->vs[i]?=some y->x.1=y.1/\x.2.ok=true/\bw Z x.2 y.2) (h:Nf m P t ps=some r):∃w,Vr P t vs=some w/\aY Z r w:=by
 unfold Nf at h
 unfold Vr
 split at h
 ·rename_i z fs hz hu
  rw[hz,hu]
  simp only
  cases hb:((hU m P t z).ok&&bG P t&&fs.toList.all λf=>(P.info? f.type).isSome)with
  |false=>rw[hb]at h;cases h
  |true=>
   rw[hb]at h
   simp only[cond_true]at h
   have jO:(fs.toList.all λf=>(P.info? f.type).isSome)=true:=by
    simp only[Bool.and_eq_true]at hb;exact hb.2
   rw[jO]
   simp only[cond_true]
   split at h
   ·rename_i cs qx
    have hz:bw Z (hU m P t z) z:=uG
    have nE:bw Z (.agg cs) z:=by rw[<- qx];exact hz
    obtain⟨ds,rfl,hc⟩:=nE.oB
    refine Gc (by simpa using hl) (λi x y a b=>?_) hc h
    rw[List.getElem?_map]at a
    cases hx:ps[i]? with
    |none=>simp[hx]at a
    |some x0=>
     simp only[hx,Option.map_some,Option.some.injEq]at a
     obtain⟨e1,e2,e3⟩:=hp i x0 y hx b
     subst a
     refine⟨e1,?_,?_⟩
     ·simp only;split
      ·rw[mu];exact e2
      ·exact e2
     ·simp only;split
      ·exact e3.b_
      ·exact e3
   ·cases h
 ·rename_i z len e hz hu
  rw[hz,hu]
  simp only
  obtain⟨hb,h⟩:=Ge h
  simp only[Bool.and_eq_true]at hb
  rw[<- hl,hb.1.1,hb.1.2,hb.2]
  simp only[Bool.and_true,cond_true]
  split at h
  ·rename_i rows wq
   simp only[Option.some.injEq]at h
   subst h
   obtain⟨w,hw,dA,_⟩:=zo (Z:=Z) (vs:=vs) (by simpa using hl) (λi x y a b=>by
    rw[List.getElem?_map]at a
    cases hx:ps[i]? with
    |none=>simp[hx]at a
    |some x0=>
     simp only[hx,Option.map_some,Option.some.injEq]at a
     obtain⟨e1,e2,e3⟩:=hp i x0 y hx b
     subst a
     exact⟨e1,by rw[mu];exact e2,e3.b_⟩) wq
   exact⟨w,hw,dA⟩
  ·cases h
 ·cases h
theorem UO{Z:Fz}{P:Program}{e:TypeId}{off:Nat}{cs:List PV}{vs:List Value}{p:PV}(hc:aY Z cs vs)(h:Aq P e off cs=some p):∃v,MT P e off vs=some v/\p.ok=true/\bw Z p v:=by
 unfold Aq at h
 unfold MT
 obtain⟨hb,h⟩:=Ge h
 rw[hc.1,hb]
 simp only[cond_true]
 cases ha:bG P e with
 |true=>
  rw[ha]at h
  simp only[cond_true,Option.some.injEq]at h |-
  subst h
  exact⟨_,rfl,rfl,((hc.drop _).take _).mR⟩
 |false=>
  rw[ha]at h
  simp only[cond_false]at h |-
  obtain⟨v,hv,hk,hr⟩:=hc.get h
  exact⟨v,hv,PV.Cs hk,hr⟩
theorem UF{Z:Fz}{P:Program}{t:TypeId}{f:Nat}{cs:List PV}{vs:List Value}{p:PV}(hc:aY Z cs vs)(h:FF P t f cs=some p):∃v,Am P t f vs=some v/\p.ok=true/\bw Z p v:=by
 unfold FF at h
 unfold Am
 split at h
 ·rename_i fs hu
  rw[hu]
  simp only
  split at h
  ·rename_i x hx
   rw[hx]
   simp only
   rw[hc.1]
   cases hb:((P.underlying x.type).isSome&&Nat.ble (x.offset+P.cellsOf x.type) cs.length)with
   |false=>rw[hb]at h;cases h
   |true=>
    rw[hb]at h
    simp only[cond_true]at h |-
    cases ha:bG P x.type with
    |true=>
     rw[ha]at h
     simp only[cond_true,Option.some.injEq]at h |-
     subst h
     exact⟨_,rfl,rfl,((hc.drop _).take _).mR⟩
    |false=>
     rw[ha]at h
     simp only[cond_false]at h |-
     obtain⟨v,hv,hk,hr⟩:=hc.get h
     exact⟨v,hv,PV.Cs hk,hr⟩
  ·cases h
 ·cases h
theorem eO{m:Bool}{Z:Fz}{p:bn}{s:St}(hr:cz Z p s){x:Option Operand}{d i:Int}(h:bT (cp m p.σ) x d=some i):cE (ev s.σ) x d=some i:=by
 unfold bT at h
 unfold cE
 split at h
 ·exact h
 ·rename_i x
  split at h
  ·rename_i k j he
   have:=hr.ev (m:=m) x
   rw[he]at this
   show(match ev s.σ x with| .int _ i=>some i|_=>none)=some i
   rw[this.ofRaw.1]
   exact h
  ·cases h
theorem yE{m:Bool}{Z:Fz}{p:bn}{s:St}(hr:cz Z p s):∀{xs:List Operand} {r:IntKind×List Int},jM (cp m p.σ) xs=some r->kY (ev s.σ) xs=some r
 |[],_,h=>by simp[jM]at h
 |[x],r,h=>by
  simp only[jM]at h
  split at h
  ·rename_i k i he
   have:=hr.ev (m:=m) x
   rw[he]at this
   simp only[kY,this.ofRaw.1];exact h
  ·cases h
 |x::y::l,r,h=>by
  simp only[jM]at h
  split at h
  ·rename_i k i k' is he h2
   have:=hr.ev (m:=m) x
   rw[he]at this
   have ih:=yE (xs:=y::l) hr h2
   simp only[kY,this.ofRaw.1,ih];exact h
  ·cases h
theorem AP{Z:Fz}{sz size:Nat}{fl iD:Fl}{rows:Lq}{a:Option Addr}{n c l h m:Nat}(hr:bw Z (.list sz fl rows) (.slice a n c))(eg:ow size sz rows=true)(h1:l<=h)(h2:h<=rows.length)(h3:h<=m)(hf:Si iD (sX a l m size) (h-l) (m-l)):
  bw Z (.list size iD ((rows.take h).drop l)) (.slice (sX a l m size) (h-l) (m-l)):=by
 cases hr with
 |list _ _ _ _ _ _ b o C g hn hc hs Ms ha hg hk hp hf0=>
  have NA:m-l=0\/fW (sX a l m size):=by
   unfold sX
   split
   ·left;omega
   ·right
    intro x hx
    cases a with
    |none=>cases hx
    |some y=>simp only[Option.map_some,Option.some.injEq]at hx;subst hx;rfl
  have hlen:((rows.take h).drop l).length=h-l:=by simp;omega
  by_cases h0:h-l=0
  ·have akQ:(rows.take h).drop l=[]:=List.eq_nil_of_length_eq_zero (by omega)
   rw[akQ]
   refine .list size iD [] _ (h-l) _ 0 0 [] (λ_ _=>undef) (by simp;omega) (by omega) NA (by simp) (λh=>absurd h0 h) (λi j hi=>by omega) (by simp) (by simp) hf
  ·have wu:n≠0:=by omega
   have Mq:sz=size:=by
    unfold ow at eg
    cases hb:Nat.beq sz size with
    |true=>exact beq_iff.1 hb
    |false=>
     rw[hb]at eg
     simp only[cond_false]at eg
     split at eg
     ·simp at h2;omega
     ·cases eg
   subst Mq
   obtain⟨ea,ez⟩:=ha wu
   subst ea
   have bm:m≠l:=by omega
   refine .list sz iD _ _ (h-l) _ b (o+l*sz) C (λi j=>g (i+l) j) hlen (by omega) NA ?_ ?_ ?_ ?_ ?_ hf
   ·intro r hr;exact Ms r (List.mem_of_mem_take (List.mem_of_mem_drop hr))
   ·intro _
    refine⟨?_,ez⟩
    unfold sX;rw[if_neg bm];rfl
   ·intro i j hi hj
    have:=hg (i+l) j (by omega) hj
    rw[<- this]
    congr 1
    rw[Nat.add_mul];omega
   ·intro i j row p hi hj
    rw[List.getElem?_drop,List.getElem?_take]at hi
    split at hi
    ·exact hk (l+i) j row p hi hj
    ·cases hi
   ·intro i j row p hi hj
    rw[List.getElem?_drop,List.getElem?_take]at hi
    split at hi
    ·have:=hp (l+i) j row p hi hj
     rw[Nat.add_comm]at this;exact this
    ·cases hi
theorem bw.Hz{Z:Fz}{row:List PV}{o:Nat}{w:Value}(h:bw Z (.bl row o) w):∃(b off:Nat) (C:List Value) (g:Nat->Value),w=.pointer (some ⟨b,off+o,none⟩)/\Z b=some C/\(∀j:Nat,j<row.length->C[off+j]?=some (g j))/\(∀(j:Nat) p,row[j]?=some p->p.cell=true)/\∀(j:Nat) p,row[j]?=some p->bw Z p (g j):=by
 cases h with
 |bl _ _ b off C g hz hg hk hp=>exact⟨b,off,C,g,rfl,hz,hg,hk,hp⟩
theorem Gj{m:Bool}{Z:Fz}{p:bn}{s:St}(hr:cz Z p s){l:List Operand}(h:l.all (λx=>(cp m p.σ x).ok)=true):bj Z (l.map (cp m p.σ)) (l.map (ev s.σ)):=by
 induction l with
 |nil=>exact bj.nil Z
 |cons x l ih=>
  simp only[List.all_cons,Bool.and_eq_true]at h
  exact bj.cons h.1 (hr.ev (m:=m) x) (ih h.2)
theorem jw{m:Bool}{Z:Fz}{p:bn}{s:St}(hr:cz Z p s){l:List Operand}(h:l.all (λx=>(cp m p.σ x).ok)=true):l.all (λx=>plain (ev s.σ x))=true:=by
 rw[List.all_eq_true]at h |-
 exact λx hx=>(hr.ev (m:=m) x).plain (h x hx)
def mB(o:Oper):Bool:=match o.op with| .load .. =>true|_=>false
theorem Dm{E:fC}{q:Bool}{fz:List Nat}{o:Oper}{p:bn}{s:St}{μ:Mem}{u:UW}{KP:bn->Mem->Prop}{K:St->UW->Prop}{Z:Fz}(hr:cz Z p s)(ir:aV o=true)(hl:mB o=false)
  (hK:∀p' s',cz Z p' s'->KP p' μ->K s' u) (h:V1 E q fz o p μ KP):W1 E.er fz o s u K:=by
 unfold aV at ir
 unfold mB at hl
 unfold V1 at h
 unfold W1
 simp only at h |-
 cases zO:o.op<;>simp only[zO]at h ir hl |- <;>first|(cases ir;done)|(cases hl;done)|skip
 case move x=>exact hK _ _ (hr.fin o (hr.ev (m:=aT E) x).b_) h
 case assign x=>exact hK _ _ (hr.fin o (hr.ev (m:=aT E) x).b_) h
 case pick c a b=>
  split at h
  ·rename_i t he
   have hc:=hr.ev (m:=aT E) c
   rw[he]at hc
   rw[hc.ofRaw.1]
   cases t
   ·exact hK _ _ (hr.fin o (hr.ev (m:=aT E) b).b_) h
   ·exact hK _ _ (hr.fin o (hr.ev (m:=aT E) a).b_) h
  ·exact h.elim
 case build t ps=>
  obtain⟨hc,h⟩:=ak h
  have q_:(ps.toList.all λp=>plain (ev s.σ p.2))=true:=by
   rw[List.all_eq_true]at hc |-
   exact λx hx=>(hr.ev (m:=aT E) x.2).plain (hc x hx)
  rw[q_]
  simp only[cond_true]
  split at h
  ·rename_i vs hb
   obtain⟨w,hw,dA⟩:=Vo (Z:=Z) (vs:=ps.toList.map λp=>(p.1,ev s.σ p.2)) (by simp) (λi x y a b=>by
    rw[List.getElem?_map]at a b
    cases hi:ps.toList[i]? with
    |none=>rw[hi]at a;cases a
    |some z=>
     rw[hi]at a b
     simp only[Option.map_some,Option.some.injEq]at a b
     subst a;subst b
     exact⟨rfl,List.all_eq_true.1 hc z (List.mem_of_getElem? hi),hr.ev (m:=aT E) z.2⟩) hb
   have Uj:Vr E.er.P t (ps.toList.map λp=>(p.1,ev s.σ p.2))=some w:=hw
   rw[Uj]
   exact hK _ _ (hr.fin o dA.mR) h
  ·exact h.elim
 case nilCheck x=>
  have hx:=hr.ev (m:=aT E) x
  split at h
  ·rename_i k off he
   rw[he]at hx;rw[hx.vZ]
   exact hK _ _ (hr.fin o (.box k off)) h
  ·rename_i row off he
   rw[he]at hx
   obtain⟨b,of,C,g,hv,hz,hg,hk,hp⟩:=hx.Hz
   rw[hv]
   exact hK _ _ (hr.fin o (.bl row off b of C g hz hg hk hp)) h
  ·rename_i a he
   rw[he]at hx;rw[hx.ofRaw.1]
   cases a with
   |none=>exact h.elim
   |some a=>exact hK _ _ (hr.fin o (.raw _ rfl rfl)) h
  ·rename_i f a b he
   rw[he]at hx
   obtain⟨fv,cv,hv,h1,h2⟩:=hx.ofFn
   rw[hv]
   cases f with
   |method n=>exact h.elim
   |_=>exact hK _ _ (hr.fin o (bj.DW h1 h2)) h
  ·exact h.elim
 case binOp op t x y ft=>exact RG (hr.ev (m:=aT E) x) (hr.ev (m:=aT E) y) h λpp v hv hk=>hK _ _ (hr.fin o hv) hk
 case unOp op t x=>
  have hx:=hr.ev (m:=aT E) x
  split at h
  ·rename_i b he
   rw[he]at hx;rw[hx.ofRaw.1]
   exact hK _ _ (hr.fin o (.raw _ rfl rfl)) h
  ·rename_i k n he
   rw[he]at hx;rw[hx.ofRaw.1]
   exact hK _ _ (hr.fin o (.raw _ rfl rfl)) h
  ·exact h.elim
 case convert src dst x=>
  have hx:=hr.ev (m:=aT E) x
  split at h
  ·rename_i v he
   rw[he]at hx
   obtain⟨e1,e2,e3⟩:=hx.ofRaw
   rw[e1,e2]
   simp only[cond_true]
   split at h
   ·rename_i v' hv
    have hv':pv E.er.P (convert src dst v)=some v':=hv
    rw[hv']
    obtain⟨hc,h⟩:=ak h
    simp only[Bool.and_eq_true]at hc
    simp only[hc.1,cond_true]
    exact hK _ _ (hr.fin o (.raw _ hc.1 hc.2)) h
   ·exact h.elim
  ·exact h.elim
 case makeInterface t x=>
  have hx:=hr.ev (m:=aT E) x
  obtain⟨hc,h⟩:=ak h
  simp only[Bool.and_eq_true]at hc
  rw[hx.plain hc.1]
  simp only[cond_true]
  have hm:pv E.er.P (Instr.makeInterface t (ev s.σ x))=some (.iface t (ev s.σ x)):=uS hc.2
  rw[hm]
  simp only[plain,cond_true]
  exact hK _ _ (hr.fin o (.iface t _ _ hc.1 hx)) h
 case makeFunc fn first iW=>
  obtain⟨hc,h⟩:=ak h
  simp only[Bool.and_eq_true]at hc
  rw[jw hr hc.1,jw hr hc.2]
  simp only[Bool.and_self,cond_true]
  have wkR:∀{l:List Operand},l.all (λx=>(cp (aT E) p.σ x).ok)=true->bj Z (l.map λx=>wk (cp (aT E) p.σ x)) (l.map (ev s.σ)):=by
   intro l hl
   induction l with
   |nil=>exact bj.nil Z
   |cons x l ih=>
    simp only[List.all_cons,Bool.and_eq_true]at hl
    exact bj.cons (by rw[acd];exact hl.1) (hr.ev (m:=aT E) x).wk (ih hl.2)
  exact hK _ _ (hr.fin o (bj.DW (wkR hc.1) (wkR hc.2))) h
 case slice t x lo hi mx=>
  have hx:=hr.ev (m:=aT E) x
  split at h
  ·rename_i e sz fl rows hu he
   have dZ:E.er.P.underlying t=some (.slice e):=hu
   rw[he]at hx
   obtain⟨a,n,c,hv,hn,hc,hs,hf⟩:=hx.ofList
   rw[dZ,hv]
   simp only
   rw[hv]at hx
   split at h
   ·rename_i l hh m e1 e2 e3
    have e1':=eO hr e1
    rw[hn]at e2
    have e2':=eO hr e2
    cases hb:((mx.isSome&&hi.isNone)||(E.P.info? e).isNone|| !ow (E.P.cellsOf e) sz rows)with
    |true=>rw[hb]at h;exact h.elim
    |false=>
     rw[hb]at h
     simp only[cond_false]at h
     simp only[Bool.or_eq_false_iff,Bool.not_eq_false']at hb
     have zR:((mx.isSome&&hi.isNone)||(E.er.P.info? e).isNone)=false:=by
      rw[Bool.or_eq_false_iff];exact hb.1
     cases mx with
     |none=>
      simp only at h
      obtain⟨g1,g2,g3,h⟩:=h
      have e3':cE (ev s.σ) none (c:Int)=some (c:Int):=rfl
      rw[e1',e2',e3']
      simp only[zR,cond_false]
      refine⟨hs.elim (λh0=>.inl (by omega)) .inr,g1,g2,by omega,by omega,hK _ _ (hr.fin o ?_) h⟩
      exact AP hx hb.2 (by omega) (by omega) (by omega) trivial
     |some y=>
      simp only at h
      obtain⟨g1,g2,g3,g4,h⟩:=h
      have e3':cE (ev s.σ) (some y) (c:Int)=some m:=by
       have:bT (cp (aT E) p.σ) (some y) (c:Int)=some m:=by
        unfold bT at e3 |-;exact e3
       exact eO hr this
      rw[e1',e2',e3']
      simp only[zR,cond_false]
      subst g4
      refine⟨hs.elim (λh0=>.inl (by omega)) .inr,g1,g2,by omega,by omega,hK _ _ (hr.fin o ?_) h⟩
      exact AP hx hb.2 (by omega) (by omega) (by omega) rfl
   ·exact h.elim
  ·rename_i e a len cap hu he
   have dZ:E.er.P.underlying t=some (.slice e):=hu
   rw[he]at hx
   rw[dZ,hx.ofRaw.1]
   simp only
   split at h
   ·rename_i l hh m e1 e2 e3
    rw[eO hr e1,eO hr e2,eO hr e3]
    simp only
    cases hb:((mx.isSome&&hi.isNone)||(E.P.info? e).isNone)with
    |true=>rw[hb]at h;exact h.elim
    |false=>
     rw[hb]at h
     have jO:((mx.isSome&&hi.isNone)||(E.er.P.info? e).isNone)=false:=hb
     rw[jO]
     simp only[cond_false]at h |-
     obtain⟨g1,g2,g3,g4,g5,h⟩:=h
     exact⟨.inr g1,g2,g3,g4,g5,hK _ _ (hr.fin o (.raw _ rfl rfl)) h⟩
   ·exact h.elim
  ·rename_i st hu he
   have dZ:E.er.P.underlying t=some .string:=hu
   rw[he]at hx
   rw[dZ,hx.ofRaw.1]
   simp only
   cases mx with
   |some _=>exact h.elim
   |none=>
    simp only at h |-
    split at h
    ·rename_i l hh e1 e2
     rw[eO hr e1,eO hr e2]
     obtain⟨g1,g2,g3,h⟩:=h
     exact⟨g1,g2,g3,hK _ _ (hr.fin o (.raw _ rfl rfl)) h⟩
    ·exact h.elim
  ·exact h.elim
 case fieldAddr t x f=>
  have hx:=hr.ev (m:=aT E) x
  cases hd:vl E.P t f with
  |none=>rw[hd]at h;exact h.elim
  |some d=>
   rw[hd]at h
   have Ut:vl E.er.P t f=some d:=hd
   rw[Ut]
   simp only at h |-
   split at h
   ·rename_i k off he
    rw[he]at hx;rw[hx.vZ]
    exact hK _ _ (hr.fin o (.box k (off+d))) h
   ·rename_i row off he
    rw[he]at hx
    obtain⟨b,of,C,g,hv,hz,hg,hk,hp⟩:=hx.Hz
    rw[hv]
    refine hK _ _ (hr.fin o ?_) h
    have:=bw.bl (Z:=Z) row (off+d) b of C g hz hg hk hp
    rw[<- Nat.add_assoc]at this
    exact this
   ·unfold bD at h
    split at h
    ·rename_i b off he
     rw[he]at hx
     rw[hx.ofRaw.1]
     exact hK _ _ (hr.fin o (.raw _ rfl rfl)) h
    ·exact h.elim
 case field t x f=>
  have hx:=hr.ev (m:=aT E) x
  split at h
  ·rename_i cs he
   rw[he]at hx
   obtain⟨vs,hv,hc⟩:=hx.oB
   rw[hv]
   simp only
   split at h
   ·rename_i pp hf
    obtain⟨v,hv2,hk,hrp⟩:=UF hc hf
    have aks:Am E.er.P t f vs=some v:=hv2
    rw[aks]
    simp only[hrp.plain hk,cond_true]
    exact hK _ _ (hr.fin o hrp) h
   ·exact h.elim
  ·exact h.elim
 case indexAddr t x i=>
  have hx:=hr.ev (m:=aT E) x
  have hi:=hr.ev (m:=aT E) i
  split at h
  ·rename_i e sz fl rows k j hu he hj
   have dZ:E.er.P.underlying t=some (.slice e):=hu
   rw[he]at hx
   rw[hj]at hi
   obtain⟨hc,g1,row,gW,h⟩:=ak h
   simp only[Bool.and_eq_true,beq_iff]at hc
   have WE:(E.er.P.info? e).isSome=true:=hc.1
   cases YY:ev s.σ x with
   |slice a n c=>
    rw[YY]at hx
    rw[dZ,hi.ofRaw.1]
    simp only[WE,cond_true]
    cases hx with
    |list _ _ _ _ _ _ b of C g hn Bo hs Ms ha hg hk hp hf=>
     have bB:j.toNat<n:=by rw[<- hn];exact(List.getElem?_eq_some_iff.1 gW).1
     obtain⟨ea,ez⟩:=ha (by omega)
     subst ea
     refine⟨g1,by omega,hK _ _ (hr.fin o ?_) h⟩
     have eg:sz=E.er.P.cellsOf e:=hc.2
     have Ag:row.length=sz:=Ms row (List.mem_of_getElem? gW)
     have:=bw.bl (Z:=Z) row 0 b (of+j.toNat*sz) C (λjj=>g j.toNat jj) ez (λjj hjj=>hg _ _ bB (by omega)) (λjj pp GD=>hk _ _ _ _ gW GD) (λjj pp GD=>hp _ _ _ _ gW GD)
     rw[<- eg]
     exact this
   |_=>rw[YY]at hx;cases hx
  ·rename_i e a len cap k j hu he hj
   have dZ:E.er.P.underlying t=some (.slice e):=hu
   rw[he]at hx
   rw[hj]at hi
   obtain⟨hc,h⟩:=ak h
   have WE:(E.er.P.info? e).isSome=true:=hc
   rw[dZ,hx.ofRaw.1,hi.ofRaw.1]
   simp only[WE,cond_true]
   obtain⟨b,off,rfl,h1,h2,h⟩:=eM h
   exact⟨h1,h2,hK _ _ (hr.fin o (.raw _ rfl rfl)) h⟩
  ·rename_i len e k off k' j hu he hj
   have dZ:E.er.P.underlying t=some (.array len e):=hu
   rw[he]at hx
   rw[hj]at hi
   obtain⟨hc,h⟩:=ak h
   have WE:(decide (0<=j)&&decide (j<len)&&(E.er.P.info? e).isSome)=true:=hc
   rw[dZ,hx.vZ,hi.ofRaw.1]
   simp only[WE,cond_true]
   exact hK _ _ (hr.fin o (.box k _)) h
  ·exact h.elim
 case index t x i=>
  have hx:=hr.ev (m:=aT E) x
  have hi:=hr.ev (m:=aT E) i
  split at h
  ·rename_i st k j hu he hj
   have dZ:E.er.P.underlying t=some .string:=hu
   rw[he]at hx;rw[hj]at hi
   rw[dZ,hx.ofRaw.1,hi.ofRaw.1]
   obtain⟨h1,c,hc,h⟩:=h
   exact⟨h1,c,hc,hK _ _ (hr.fin o (.raw _ rfl rfl)) h⟩
  ·rename_i len e cs k j hu he hj
   have dZ:E.er.P.underlying t=some (.array len e):=hu
   rw[he]at hx;rw[hj]at hi
   obtain⟨ds,hds,hc⟩:=hx.oB
   rw[dZ,hds,hi.ofRaw.1]
   obtain⟨gp,h1,h2,h⟩:=ak h
   obtain⟨q,hq,⟨NF,h⟩,_⟩:=vm (Z:=Z) h
   obtain⟨v,hv,aD,hrv⟩:=UO hc NF
   exact⟨h1,h2,gp,v,hv,hrv.plain aD,hK _ _ (hr.fin o hrv) h⟩
  ·exact h.elim
 case extract x i=>
  have hx:=hr.ev (m:=aT E) x
  split at h
  ·rename_i vs he
   rw[he]at hx
   obtain⟨ws,hv,hs⟩:=hx.yj
   rw[hv]
   simp only
   split at h
   ·rename_i pp hp
    obtain⟨hk,h⟩:=ak h
    obtain⟨w,hw,_,GA⟩:=hs.get hp
    have Uj:ws.toArray[i]?=some w:=by simpa using hw
    rw[Uj]
    simp only[GA.plain hk,cond_true]
    exact hK _ _ (hr.fin o GA) h
   ·exact h.elim
  ·exact h.elim
 case call c=>
  obtain⟨UY,args,Xc⟩:=c
  cases UY with
  |value f=>cases ir
  |invoke x n=>cases ir
  |builtin b=>
   simp only at h ir |-
   unfold Xd at h
   unfold W1b
   generalize args.toList=al at h |-
   generalize Xc.toList=tl at h |-
   cases b<;>first|(cases ir;done)|skip
   case len=>
    match al,tl,h with
    |[x],[t],h=>
     have hx:=hr.ev (m:=aT E) x
     simp only at h |-
     split at h
     ·rename_i e sz fl rows hu he
      have dZ:E.er.P.underlying t=some (.slice e):=hu
      rw[he]at hx
      obtain⟨a,n,c,hv,hn,_⟩:=hx.ofList
      rw[dZ,hv,<- hn]
      exact hK _ _ (hr.fin o (.raw _ rfl rfl)) h
     ·rename_i e a n c hu he
      have dZ:E.er.P.underlying t=some (.slice e):=hu
      rw[he]at hx
      rw[dZ,hx.ofRaw.1]
      exact hK _ _ (hr.fin o (.raw _ rfl rfl)) h
     ·rename_i st hu he
      have dZ:E.er.P.underlying t=some .string:=hu
      rw[he]at hx
      rw[dZ,hx.ofRaw.1]
      exact hK _ _ (hr.fin o (.raw _ rfl rfl)) h
     ·rename_i n e hu
      have dZ:E.er.P.underlying t=some (.array n e):=hu
      obtain⟨hk,h⟩:=ak h
      rw[dZ]
      simp only[hx.plain hk,cond_true]
      exact hK _ _ (hr.fin o (.raw _ rfl rfl)) h
     ·exact h.elim
    |[],_,h=>exact h.elim
    |[_],[],h=>exact h.elim
    |[_],_::_::_,h=>exact h.elim
    |_::_::_,_,h=>exact h.elim
   case min=>
    simp only at h |-
    split at h
    ·rename_i k i is he
     rw[yE hr he]
     exact hK _ _ (hr.fin o (.raw _ rfl rfl)) h
    ·exact h.elim
   case max=>
    simp only at h |-
    split at h
    ·rename_i k i is he
     rw[yE hr he]
     exact hK _ _ (hr.fin o (.raw _ rfl rfl)) h
    ·exact h.elim
theorem zE.go{Z Z':Fz}{u u':UW}{b:Nat}{o:Ob}(h:zE Z u b o)(hz:Z.le Z')(hb:Z' b=Z b)(hh:u'.heap[b]?=u.heap[b]?):zE Z' u' b o:=by
 cases o with
 |cells T cs=>
  obtain⟨h1,A,h2,h3⟩:=h
  exact⟨by rw[hb];exact h1,A,by rw[hh];exact h2,h3.mono hz⟩
 |mS n m=>
  obtain⟨⟨C,h1,h2⟩,A,T,h3,h4⟩:=h
  exact⟨⟨C,by rw[hb];exact h1,h2⟩,A,T,by rw[hh];exact h3,h4⟩
 |obj o F S=>exact⟨by rw[hb];exact h.1,by rw[hh];exact h.2.1,λt=>(h.2.2 t).mono hz⟩
 |ro T cs=>
  obtain⟨h1,A,h2,h3⟩:=h
  exact⟨by rw[hb];exact h1,A,by rw[hh];exact h2,h3.mono hz⟩
theorem Good.go{Z Z':Fz}{u u':UW}{μ μ':Mem}(h:Good Z u μ)(hz:Z.le Z')
  (akj:∀b C,Z' b=some C->(Z b=some C/\u'.heap[b]?=u.heap[b]?)\/∃A T f,u'.heap[b]?=some (.cells A T f)/\C <+: A.toList)
  (dv:∀b o,μ' b=some o->(μ b=some o/\u'.heap[b]?=u.heap[b]?/\(u.eN b->u'.eN b)/\Z' b=Z b)\/((o.rw=true->u'.eN b)/\zE Z' u' b o)):Good Z' u' μ':=by
 refine⟨λb C hb=>?_,λb o hb=>?_⟩
 ·rcases akj b C hb with⟨h1,h2⟩|h1
  ·rw[h2];exact h.DN b C h1
  ·exact h1
 ·rcases dv b o hb with⟨h1,h2,h3,h4⟩|h1
  ·obtain⟨g1,g2⟩:=h.mem b o h1
   exact⟨λhr=>h3 (g1 hr),g2.go hz h4 h2⟩
  ·exact h1
def Fz.set(Z:Fz)(b:Nat)(C:List Value):Fz:=λc=>if c=b then some C else Z c
theorem Fz.ai(Z:Fz)(b:Nat)(C:List Value):Z.set b C b=some C:=by simp[Fz.set]
theorem Fz.aw(Z:Fz){b c:Nat}(C:List Value)(h:c≠b):Z.set b C c=Z c:=by simp[Fz.set,h]
theorem Fz.G_{Z:Fz}{b:Nat}{C:List Value}(h:∀D,Z b=some D->D <+: C):Z.le (Z.set b C):=λc D hD=>by
 by_cases e:c=b
 ·subst e;exact⟨C,Fz.ai _ _ _,h D hD⟩
 ·exact⟨D,by rw[Fz.aw _ _ e];exact hD,List.prefix_refl _⟩
theorem Good.TP{Z:Fz}{u:UW}{μ:Mem}(h:Good Z u μ){b:Nat}(hb:u.heap.size<=b):Z b=none:=by
 cases hz:Z b with
 |none=>rfl
 |some C=>have:=h.CF (b:=b) (by rw[hz];simp);omega
theorem Good.ca{Z:Fz}{u:UW}{μ:Mem}(h:Good Z u μ){b:Nat}(hb:u.heap.size<=b):μ b=none:=by
 cases hz:μ b with
 |none=>rfl
 |some C=>have:=h.qa (b:=b) (by rw[hz];simp);omega
theorem Good.born{Z:Fz}{u:UW}{μ:Mem}(h:Good Z u μ){b:Nat}{w':World}{A:Array Value}{T:TypeId}(hB:pG u.toWorld w' b (.cells A T (0,0))){cs:List PV}(hc:bK Z cs A.toList):
  Good Z (u.born b w') (μ.set b (some (.cells T cs)))/\Ext Z μ u.heap.size Z (μ.set b (some (.cells T cs)))/\μ b=none:=by
 have GF:u.heap.size<=b:=hB.ge
 have bV:∀c,c<u.heap.size->(u.born b w').heap[c]?=u.heap[c]?:=λc hc=>hB.below.block c hc
 refine⟨h.go (Fz.le.refl Z) (λc C hC=>.inl ⟨hC,bV c (h.CF (by rw[hC];simp))⟩) (λc o ho=>?_),⟨Fz.le.refl Z,λ_ _ h _=>h,λ_ h=>.inl h,λc hc=>?_,λ_ h'=>h.CF h'⟩,h.ca GF⟩
 ·by_cases e:c=b
  ·subst e
   rw[Mem.ai]at ho
   cases ho
   exact .inr ⟨λ_=>.inr rfl,h.TP GF,A,hB.at_,hc⟩
  ·rw[Mem.aw _ _ e]at ho
   exact .inl ⟨ho,bV c (h.qa (by rw[ho];simp)),λhp=>.inl hp,rfl⟩
 ·by_cases e:c=b
  ·exact .inr (by omega)
  ·rw[Mem.aw _ _ e]at hc;exact .inl hc
theorem Good.Xa{Z:Fz}{u:UW}{μ:Mem}(h:Good Z u μ){b:Nat}{w':World}{A:Array Value}{T:TypeId}(hB:pG u.toWorld w' b (.cells A T (0,0))):
  Good (Z.set b A.toList) (u.born b w') μ/\Ext Z μ u.heap.size (Z.set b A.toList) μ:=by
 have GF:u.heap.size<=b:=hB.ge
 have bV:∀c,c<u.heap.size->(u.born b w').heap[c]?=u.heap[c]?:=λc hc=>hB.below.block c hc
 have hle:Z.le (Z.set b A.toList):=Fz.G_ λD hD=>by rw[h.TP GF]at hD;cases hD
 refine⟨h.go hle (λc C hC=>?_) (λc o ho=>?_),⟨hle,λc C hC _=>?_,λc hc=>?_,λ_ h=>.inl h,λ_ h'=>h.CF h'⟩⟩
 ·by_cases e:c=b
  ·subst e
   rw[Fz.ai]at hC;cases hC
   exact .inr ⟨A,T,_,hB.at_,List.prefix_refl _⟩
  ·rw[Fz.aw _ _ e]at hC
   exact .inl ⟨hC,bV c (h.CF (by rw[hC];simp))⟩
 ·have hl:=h.qa (b:=c) (by rw[ho];simp)
  exact .inl ⟨ho,bV c hl,λhp=>.inl hp,Fz.aw _ _ (by omega)⟩
 ·have hl:=h.CF (b:=c) (by rw[hC];simp)
  rw[Fz.aw _ _ (by omega)];exact hC
 ·by_cases e:c=b
  ·exact .inr (.inr (by omega))
  ·rw[Fz.aw _ _ e]at hc;exact .inl hc
theorem Good.aeU{Z:Fz}{u:UW}{μ:Mem}(h:Good Z u μ){b:Nat}{w':World}{A:Array Value}{T:TypeId}(hB:pG u.toWorld w' b (.cells A T (0,0))){C:List Value}(hp:C <+: A.toList){m:Nat}(hm:m<=A.size):
  Good (Z.set b C) (u.born b w') (μ.set b (some (.mS C.length m)))/\Ext Z μ u.heap.size (Z.set b C) (μ.set b (some (.mS C.length m)))/\μ b=none:=by
 have GF:u.heap.size<=b:=hB.ge
 have bV:∀c,c<u.heap.size->(u.born b w').heap[c]?=u.heap[c]?:=λc hc=>hB.below.block c hc
 have hle:Z.le (Z.set b C):=Fz.G_ λD hD=>by rw[h.TP GF]at hD;cases hD
 refine⟨h.go hle (λc C' hC=>?_) (λc o ho=>?_),⟨hle,λc C' hC _=>?_,λc hc=>?_,λc hc=>?_,λ_ h'=>h.CF h'⟩,h.ca GF⟩
 ·by_cases e:c=b
  ·subst e
   rw[Fz.ai]at hC;cases hC
   exact .inr ⟨A,T,_,hB.at_,hp⟩
  ·rw[Fz.aw _ _ e]at hC
   exact .inl ⟨hC,bV c (h.CF (by rw[hC];simp))⟩
 ·by_cases e:c=b
  ·subst e
   rw[Mem.ai]at ho;cases ho
   exact .inr ⟨λ_=>.inr rfl,⟨C,Fz.ai _ _ _,rfl⟩,A,T,hB.at_,hm⟩
  ·rw[Mem.aw _ _ e]at ho
   exact .inl ⟨ho,bV c (h.qa (by rw[ho];simp)),λhp=>.inl hp,Fz.aw _ _ e⟩
 ·have hl:=h.CF (b:=c) (by rw[hC];simp)
  rw[Fz.aw _ _ (by omega)];exact hC
 ·by_cases e:c=b
  ·exact .inr (.inr (by omega))
  ·rw[Fz.aw _ _ e]at hc;exact .inl hc
 ·by_cases e:c=b
  ·exact .inr (by omega)
  ·rw[Mem.aw _ _ e]at hc;exact .inl hc
theorem bK.take{Z:Fz}{ps:List PV}{vs:List Value}(h:bK Z ps vs)(n:Nat):bK Z (ps.take n) (vs.take n):=
 ⟨by simp[h.1],λi p v a b=>by
  rw[List.getElem?_take]at a b
  split at a
  ·rename_i hi;rw[if_pos hi]at b;exact h.2 i p v a b
  ·cases a⟩
theorem bK.drop{Z:Fz}{ps:List PV}{vs:List Value}(h:bK Z ps vs)(n:Nat):bK Z (ps.drop n) (vs.drop n):=
 ⟨by simp[h.1],λi p v a b=>by rw[List.getElem?_drop]at a b;exact h.2 _ p v a b⟩
theorem bK.append{Z:Fz}{ps qs:List PV}{vs ws:List Value}(h:bK Z ps vs)(k:bK Z qs ws):bK Z (ps++qs) (vs++ws):=by
 induction ps generalizing vs with
 |nil=>rw[h.cW];exact k
 |cons p ps ih=>obtain⟨v,fu,rfl,h1,h2⟩:=h.inv;exact bK.cons h1 (ih h2)
theorem SQ{Z:Fz}{cs ps:List PV}{A:Array Value}{vs:List Value}{o:Nat}(h:bK Z cs A.toList)(k:bK Z ps vs)(hl:o+ps.length<=cs.length):bK Z (ei cs o ps) (sN A o vs).toList:=by
 have hA:A.size=cs.length:=by have:=h.1;simpa using this
 rw[nJ _ _ _ (by rw[k.1,hA];exact hl)]
 unfold ei
 rw[k.1]
 exact((h.take _).append k).append (h.drop _)
theorem Good.store{Z:Fz}{u:UW}{μ:Mem}(h:Good Z u μ){b o:Nat}{T:TypeId}{cs ps:List PV}{vs:List Value}(hm:μ b=some (.cells T cs))(hl:o+ps.length<=cs.length)(hv:bK Z ps vs){K:UW->Prop}
  (hK:∀w',Sto u.toWorld w' b (.cells (sN ((u.heap[b]?.bind λo=>match o with| .cells A _ _=>some A|_=>none).getD #[]) o vs) T (0,0))->Good Z (u.Gz w') (μ.set b (some (.cells T (ei cs o ps))))->Ext Z μ u.heap.size Z (μ.set b (some (.cells T (ei cs o ps))))->K (u.Gz w')):sb b o vs u K:=by
 obtain⟨hp,hz,A,hA,hc⟩:=h.mem b _ hm
 have hp:=hp rfl
 have Uz:A.size=cs.length:=by have:=hc.1;simpa using this
 refine⟨A,T,hA,by rw[hv.1,Uz];exact hl,hp,λw' hs=>?_⟩
 have Sz:(u.heap[b]?.bind λo=>match o with| .cells A _ _=>some A|_=>none).getD #[]=A:=by rw[hA];rfl
 refine hK w' (by rw[Sz];exact hs) (h.go (Fz.le.refl Z) (λc C hC=>?_) (λc ob ho=>?_)) ⟨Fz.le.refl Z,λ_ _ h _=>h,λ_ h=>.inl h,λc hc=>?_,λ_ h'=>h.CF h'⟩
 ·have hl:=h.CF (b:=c) (by rw[hC];simp)
  have bm:c≠b:=by rintro rfl;rw[hz]at hC;cases hC
  exact .inl ⟨hC,hs.ne c bm hl⟩
 ·by_cases e:c=b
  ·subst e
   rw[Mem.ai]at ho;cases ho
   exact .inr ⟨λ_=>hp,hz,_,hs.at_,SQ hc hv hl⟩
  ·rw[Mem.aw _ _ e]at ho
   have hl:=h.qa (b:=c) (by rw[ho];simp)
   exact .inl ⟨ho,hs.ne c e hl,λhp=>hp,rfl⟩
 ·by_cases e:c=b
  ·subst e;exact .inl (by rw[hm];simp)
  ·rw[Mem.aw _ _ e]at hc;exact .inl hc
theorem Good.grow{Z:Fz}{u:UW}{μ:Mem}(h:Good Z u μ){b n m:Nat}{new:List Value}(hm:μ b=some (.mS n m))(hl:n+new.length<=m){K:UW->Prop}
  (hK:∀w' C,Z b=some C->C.length=n->Good (Z.set b (C++new)) (u.Gz w') (μ.set b (some (.mS (n+new.length) m)))->Ext Z μ u.heap.size (Z.set b (C++new)) (μ.set b (some (.mS (n+new.length) m)))->u.heap.size<=w'.heap.size->Wf (u.Gz w')->K (u.Gz w')) (hw:Wf u):sb b n new u K:=by
 obtain⟨hp,⟨C,hz,hC⟩,A,T,hA,hmA⟩:=h.mem b _ hm
 have hp:=hp rfl
 obtain⟨A',T',f',Sz,wP⟩:=h.DN b C hz
 rw[hA]at Sz
 simp only[Option.some.injEq,Obj.cells.injEq]at Sz
 obtain⟨rfl,rfl,rfl⟩:=Sz
 refine⟨A,T,hA,by omega,hp,λw' hs=>?_⟩
 have hwl:(sN A n new).toList=A.toList.take n++new++A.toList.drop (n+new.length):=nJ _ _ _ (by omega)
 have ir:A.toList.take n=C:=by
  obtain⟨t,ht⟩:=wP
  rw[<- ht,<- hC,List.take_left]
 have hle:Z.le (Z.set b (C++new)):=Fz.G_ λD hD=>by rw[hz]at hD;cases hD;exact List.prefix_append _ _
 refine hK w' C hz hC (h.go hle (λc C' ZG=>?_) (λc ob ho=>?_)) ⟨hle,λc C' ZG hn=>?_,λc hc=>?_,λc hc=>?_,λ_ h'=>h.CF h'⟩ hs.size (hw.Gz hs)
 ·by_cases e:c=b
  ·subst e
   rw[Fz.ai]at ZG;cases ZG
   refine .inr ⟨_,_,_,hs.at_,?_⟩
   rw[hwl,ir]
   exact List.prefix_append _ _
  ·rw[Fz.aw _ _ e]at ZG
   exact .inl ⟨ZG,hs.ne c e (h.CF (by rw[ZG];simp))⟩
 ·by_cases e:c=b
  ·subst e
   rw[Mem.ai]at ho;cases ho
   exact .inr ⟨λ_=>hp,⟨_,Fz.ai _ _ _,by simp[hC]⟩,_,_,hs.at_,by rw[sP];exact hmA⟩
  ·rw[Mem.aw _ _ e]at ho
   exact .inl ⟨ho,hs.ne c e (h.qa (by rw[ho];simp)),λhp=>hp,Fz.aw _ _ e⟩
 ·have bm:c≠b:=by rintro rfl;rw[hm]at hn;cases hn
  rw[Fz.aw _ _ bm];exact ZG
 ·by_cases e:c=b
  ·subst e;exact .inr (.inl (by rw[hm];simp))
  ·rw[Fz.aw _ _ e]at hc;exact .inl hc
 ·by_cases e:c=b
  ·subst e;exact .inl (by rw[hm];simp)
  ·rw[Mem.aw _ _ e]at hc;exact .inl hc
theorem CX{α:Type}{sz:Nat}(h0:0<sz):∀{rows:List (List α)},(∀r∈rows,r.length=sz)->∀k:Nat,rows.flatten[k]?=(rows[k/sz]?).bind λr=>r[k % sz]?
 |[],_,k=>by simp
 |r::rows,h,k=>by
  have hr:r.length=sz:=h r (by simp)
  rw[List.flatten_cons]
  by_cases hk:k<sz
  ·rw[List.getElem?_append_left (by omega),Nat.div_eq_of_lt hk,Nat.mod_eq_of_lt hk];simp
  ·rw[List.getElem?_append_right (by omega),CX h0 (λr' zN=>h r' (by simp[zN])) (k-r.length),hr]
   have e1:k/sz=(k-sz)/sz+1:=by
    have:k=(k-sz)+sz:=by omega
    rw[this,Nat.add_div_right _ h0];simp
   have e2:k % sz=(k-sz) % sz:=by
    have:k=(k-sz)+sz:=by omega
    rw[this,Nat.add_mod_right];simp
   rw[e1,e2,List.getElem?_cons_succ]
theorem dw{α:Type}{sz:Nat}:∀{rows:List (List α)},(∀r∈rows,r.length=sz)->rows.flatten.length=rows.length*sz
 |[],_=>by simp
 |r::rows,h=>by
  rw[List.flatten_cons,List.length_append,dw λr' zN=>h r' (by simp[zN]),h r (by simp),List.length_cons,Nat.add_mul,Nat.one_mul,Nat.add_comm]
theorem n_{Z:Fz}{sz:Nat}{fl:Fl}{rows:Lq}{vs:List Value}{b o c:Nat}{C:List Value}(hr:∀r∈rows,r.length=sz)(hv:aY Z rows.flatten vs)(hz:Z b=some C)(hC:∀k,k<vs.length->C[o+k]?=vs[k]?)(hc:rows.length<=c)
  (hf:Si fl (some ⟨b,o,none⟩) rows.length c):bw Z (.list sz fl rows) (.slice (some ⟨b,o,none⟩) rows.length c):=by
 have hlen:vs.length=rows.length*sz:=by rw[hv.1,dw hr]
 have idx:∀i j,i<rows.length->j<sz->i*sz+j<vs.length:=λi j hi hj=>by
  rw[hlen]
  calc i*sz+j<i*sz+sz:=by omega
   _=(i+1)*sz:=by rw[Nat.add_mul,Nat.one_mul]
   _<=rows.length*sz:=Nat.mul_le_mul_right _ (by omega)
 have flat:∀(i j:Nat) row p,rows[i]?=some row->row[j]?=some p->rows.flatten[i*sz+j]?=some p:=λi j row p hi hj=>by
  have MB:j<sz:=by
   have:=(List.getElem?_eq_some_iff.1 hj).1
   rw[hr row (List.mem_of_getElem? hi)]at this;exact this
  have h0:0<sz:=by omega
  rw[CX h0 hr]
  have e1:(i*sz+j)/sz=i:=by
   rw[Nat.mul_comm,Nat.mul_add_div h0,Nat.div_eq_of_lt MB,Nat.add_zero]
  have e2:(i*sz+j) % sz=j:=by rw[Nat.mul_comm,Nat.mul_add_mod,Nat.mod_eq_of_lt MB]
  rw[e1,e2,hi];exact hj
 have cells:∀(i j:Nat) row p,rows[i]?=some row->row[j]?=some p->∃v,vs[i*sz+j]?=some v/\p.cell=true/\bw Z p v:=λi j row p hi hj=>hv.get (flat i j row p hi hj)
 refine .list sz fl rows _ _ c b o C (λi j=>(vs[i*sz+j]?).getD undef) rfl hc (.inr λx h=>by cases h;rfl) hr (λ_=>⟨rfl,hz⟩) (λi j hi hj=>?_) (λi j row p hi hj=>?_) (λi j row p hi hj=>?_) hf
 ·have bB:=idx i j hi hj
  rw[Nat.add_assoc,hC _ bB,List.getElem?_eq_getElem bB];rfl
 ·obtain⟨v,_,h,_⟩:=cells i j row p hi hj;exact h
 ·obtain⟨v,h1,_,h2⟩:=cells i j row p hi hj
  simp only[h1];exact h2
theorem rO{Z:Fz}{u:UW}{μ:Mem}(hg:Good Z u μ){sz:Nat}{fl:Fl}{rows:Lq}{a:Option Addr}{n c:Nat}(h:bw Z (.list sz fl rows) (.slice a n c))(bm:rows≠[]->sz≠0):
  ∃vs,aY Z rows.flatten vs/\vs.length=n*sz/\(n=0->vs=[])/\(n≠0->∃b o C,a=some ⟨b,o,none⟩/\Z b=some C/\rd u.heap b o (n*sz)=some vs/\vs=(C.drop o).take (n*sz)):=by
 cases h with
 |list _ _ _ _ _ _ b o C g hn hc hs hr ha hgg hk hp hf=>
  by_cases h0:n=0
  ·have:rows=[]:=List.eq_nil_of_length_eq_zero (by omega)
   subst this
   exact⟨[],aY.nil Z,by simp[h0],λ_=>rfl,λh=>absurd h0 h⟩
  ·obtain⟨ea,ez⟩:=ha h0
   obtain⟨A,T,f,hA,wP⟩:=hg.DN b C ez
   have Mr:sz≠0:=bm (by rintro rfl;simp at hn;omega)
   ·have Al:0<sz:=by omega
    have ad1:=hgg (n-1) (sz-1) (by omega) (by omega)
    have hCl:o+n*sz<=C.length:=by
     have bB:=(List.getElem?_eq_some_iff.1 ad1).1
     have e:(n-1)*sz+sz=n*sz:=by rw[<- Nat.succ_mul];congr 1;omega
     omega
    have DH:((C.drop o).take (n*sz)).length=n*sz:=by simp;omega
    refine⟨(C.drop o).take (n*sz),⟨by rw[DH,dw hr,hn],λk p v wt hv=>?_⟩,DH,λh=>absurd h h0,λ_=>⟨b,o,C,ea,ez,?_,rfl⟩⟩
    ·rw[CX Al hr]at wt
     cases gW:rows[k/sz]? with
     |none=>rw[gW]at wt;cases wt
     |some row=>
      rw[gW]at wt
      simp only[Option.bind_some]at wt
      have hi:k/sz<n:=by rw[<- hn];exact(List.getElem?_eq_some_iff.1 gW).1
      have hj:k % sz<sz:=Nat.mod_lt _ Al
      have hg2:=hgg (k/sz) (k % sz) hi hj
      have CQ:k/sz*sz+k % sz=k:=by rw[Nat.mul_comm];exact Nat.div_add_mod k sz
      rw[Nat.add_assoc,CQ]at hg2
      have eQ:k<n*sz:=by
       have:=(List.getElem?_eq_some_iff.1 hv).1;rw[DH]at this;exact this
      rw[List.getElem?_take,if_pos eQ,List.getElem?_drop,hg2]at hv
      cases hv
      exact⟨hk _ _ _ _ gW wt,hp _ _ _ _ gW wt⟩
    ·obtain⟨t,ht⟩:=wP
     rw[xV hA (by have:A.size=C.length+t.length:=by have:=congrArg List.length ht;simpa using this.symm
                  omega),<- ht]
     congr 1
     rw[List.drop_append_of_le_length (by omega),List.take_append_of_le_length (by simp;omega)]
def sM(q:Bool)(Z:Fz)(μ:Mem)(u:UW)(KP:bn->Mem->Prop)(K:St->UW->Prop):Prop:=
 ∀(Z':Fz) (p':bn) (μ':Mem) (s':St) (u':UW),cz Z' p' s'->Good Z' u' μ'->Wf u'->Ext Z μ u.heap.size Z' μ'->u.heap.size<=u'.heap.size->(q=true->Below u.heap.size u.toWorld u'.toWorld)->KP p' μ'->K s' u'
theorem iP{Z:Fz}{ps:List PV}{vs:List Value}(h:aY Z ps vs):dy vs=true:=by
 refine List.all_eq_true.2 λv hv=>?_
 obtain⟨h1,h2⟩:=h.uU v hv
 simp[h1,h2]
theorem pW{Z:Fz}{u:UW}{μ:Mem}(hg:Good Z u μ){b o n:Nat}{ps:List PV}(h:aN μ b o n=some ps):∃vs,rd u.heap b o n=some vs/\bK Z ps vs:=by
 unfold aN at h
 split at h
 ·rename_i T cs hm
  obtain⟨_,_,A,hA,hc⟩:=hg.mem b _ hm
  have Uz:A.size=cs.length:=by have:=hc.1;simpa using this
  split at h
  ·rename_i hl
   cases h
   exact⟨_,xV hA (by omega),(hc.drop o).take n⟩
  ·cases h
 ·rename_i T cs hm
  obtain⟨_,_,A,hA,hc⟩:=hg.mem b _ hm
  have Uz:A.size=cs.length:=by have:=hc.1;simpa using this
  split at h
  ·rename_i hl
   cases h
   exact⟨_,xV hA (by omega),(hc.drop o).take n⟩
  ·cases h
 ·cases h
theorem rN{E:fC}{q:Bool}{fz:List Nat}{o:Oper}{p:bn}{s:St}{μ:Mem}{u:UW}{KP:bn->Mem->Prop}{K:St->UW->Prop}{Z Zr:Fz}(hr:cz Z p s)(hg:Good Zr u μ)(hz:Zr.le Z)(hf:CW E p o=false\/Good Z u μ)
  (hl:mB o=true) (hK:∀p' s',cz Z p' s'->KP p' μ->K s' u) (h:V1 E q fz o p μ KP):W1 E.er fz o s u K:=by
 unfold mB at hl
 unfold V1 at h
 unfold W1
 simp only at h |-
 cases zO:o.op<;>simp only[zO]at h hl |- <;>first|(cases hl;done)|skip
 rename_i t x
 cases hk:eE E.P (uQ E o) t with
 |none=>rw[hk]at h;exact h.elim
 |some ks=>
  rw[hk]at h
  have eQ:kinds E.er.P t=some (ks.map KV.er):=vb hk
  rw[eQ]
  simp only at h |-
  rw[List.length_map]
  have hx:=hr.ev (m:=aT E) x
  split at h
  ·rename_i k off he
   rw[he]at hx;rw[hx.vZ]
   simp only
   rw[<- hr.D]
   split at h
   ·rename_i m hm
    rw[hm]
    simp only
    obtain⟨hc,h⟩:=ak h
    simp only[Bool.and_eq_true]at hc
    have dA:=(dY.uP (k:=k) hr.slot ks.length off).c hc.2
    rw[hc.1,iP dA]
    simp only[Bool.and_self,cond_true]
    exact hK _ _ (hr.fin o (yo dA)) h
   ·exact h.elim
  ·rename_i row off he
   have Fu:Good Z u μ:=by
    rcases hf with hf|hf
    ·unfold CW at hf;simp only[zO,he]at hf;cases hf
    ·exact hf
   rw[he]at hx
   obtain⟨b,of,C,g,hv,hzb,hgg,CQ,hp⟩:=hx.Hz
   rw[hv]
   show cX (.pointer (some ⟨b,of+off,none⟩)) _
   unfold cX
   simp only
   obtain⟨ps,hlen,hc,⟨gW,h⟩,hex⟩:=lU (Z:=Z) h
   unfold aA at gW
   split at gW
   ·rename_i hb
    simp only[Option.some.injEq]at gW
    obtain⟨A,T,f,hA,wP⟩:=Fu.DN b C hzb
    have hCl:of+row.length<=C.length:=by
     have:=hgg (row.length-1) (by omega)
     have:=(List.getElem?_eq_some_iff.1 this).1
     omega
    obtain⟨tl,ht⟩:=wP
    have hAl:A.size=C.length+tl.length:=by have:=congrArg List.length ht;simpa using this.symm
    have eF:=xV (H:=u.heap) (o:=of+off) (n:=ks.length) hA (by omega)
    have dA:aY Z ps ((A.toList.drop (of+off)).take ks.length):=by
     rw[<- gW,<- ht]
     refine⟨by simp;omega,λi pp v GD hvv=>?_⟩
     rw[List.getElem?_take]at GD hvv
     split at GD
     ·rename_i hi
      rw[if_pos hi,List.getElem?_drop,List.getElem?_append_left (by omega)]at hvv
      rw[List.getElem?_drop]at GD
      have:=hgg (off+i) (by omega)
      rw[Nat.add_assoc]at hvv
      rw[this]at hvv
      cases hvv
      exact⟨CQ _ _ GD,hp _ _ GD⟩
     ·cases GD
    exact hex (G:=λvs=>rd u.heap b (of+off) ks.length=some vs/\K (fin o s (CA (bG E.er.P t) vs)) u) dA.m ⟨eF,hK _ _ (hr.fin o (yo dA)) h⟩
   ·cases gW
  ·unfold bD at h
   split at h
   ·rename_i b off he
    rw[he]at hx
    rw[hx.ofRaw.1]
    show cX (.pointer (some ⟨b,off,none⟩)) _
    unfold cX
    simp only
    obtain⟨ps,hlen,hc,⟨eF,h⟩,hex⟩:=lU (Z:=Z) h
    obtain⟨vs,hv,hm⟩:=pW hg eF
    have dA:=(hm.mono hz).c hc
    exact hex (G:=λvs=>rd u.heap b off ks.length=some vs/\K (fin o s (CA (bG E.er.P t) vs)) u) dA.m ⟨hv,hK _ _ (hr.fin o (yo dA)) h⟩
   ·exact h.elim
section
variable {E:fC} {q:Bool} {fz:List Nat} {o:Oper} {p:bn} {s:St} {μ:Mem} {u:UW} {KP:bn->Mem->Prop} {K:St->UW->Prop} {Z:Fz}
theorem ym(hr:cz Z p s)(hg:Good Z u μ)(hw:Wf u)(hK:sM q Z μ u KP K){t:TypeId}{cs:List PV}{A:Array Value}(hA:aY Z cs A.toList)(h:nj E q fz o p μ t cs KP):
  (match o.dst with
   |none=>False
   |some k=>bif bA E.er.cU k then
     (bif !jL s.D k&& !bA fz k&&dy A.toList&&Nat.ble A.size 65536 then
      K {s with σ:=pH (iz s.σ k (cY k 0)) k 0 A.toList,D:=(k,A.size)::s.D} u else False)
    else ∀(b:Nat) (w':World),pG u.toWorld w' b (.cells A t (0,0))->K (fin o s (.pointer (some ⟨b,0,none⟩))) (u.born b w')):=by
 unfold nj at h
 have Uz:A.size=cs.length:=by have:=hA.1;simpa using this
 cases hd:o.dst with
 |none=>rw[hd]at h;exact h.elim
 |some k=>
  rw[hd]at h
  simp only at h |-
  cases lC:bA E.cU k with
  |true=>
   have Ze:bA E.er.cU k=true:=lC
   rw[lC]at h;rw[Ze]
   simp only[cond_true]at h |-
   obtain⟨hc,h⟩:=ak h
   simp only[Bool.and_eq_true]at hc
   obtain⟨hq,⟨⟨h1,h2⟩,h3⟩,h4⟩:=hc
   have jN:(!jL s.D k&& !bA fz k&&dy A.toList&&Nat.ble A.size 65536)=true:=by
    rw[<- hr.D,h1,h2,iP hA,Uz,h4];rfl
   rw[jN]
   simp only[cond_true]
   refine hK Z {p with σ:=xz (gS p.σ k (.box k 0)) k 0 cs,D:=(k,cs.length)::p.D} μ _ u ⟨?_,dY.pH (dY.iz hr.slot (.box k 0)) hA.m⟩ hg hw hg.ext (Nat.le_refl _) (λ_=>Below.refl _ _) h
   simp[hr.D,Uz]
  |false=>
   have Ze:bA E.er.cU k=false:=lC
   rw[lC]at h;rw[Ze]
   simp only[cond_false]at h |-
   intro b w' hB
   cases aeh:bA E.cst k with
   |true=>
    rw[aeh]at h
    simp only[cond_true]at h
    obtain⟨_,h⟩:=ak h
    obtain⟨g1,g2⟩:=hg.Xa hB
    refine hK _ _ μ _ _ ((hr.mono g2.le).fin o ?_) g1 (hw.born hB) g2 hB.below.size (λ_=>hB.below) h
    have Sz:=(hA.mono g2.le).wk
    have hl:(cs.map cu).length=A.toList.length:=by simp[Uz]
    have:=bw.bl (Z:=Z.set b A.toList) (cs.map cu) 0 b 0 A.toList (λj=>(A.toList[j]?).getD undef) (Fz.ai _ _ _) (λj hj=>by
     rw[Nat.zero_add,List.getElem?_eq_getElem (by omega)];rfl) (λj pp hj=>(Sz.get hj).choose_spec.2.1) (λj pp hj=>by
     obtain⟨v,h1,h2,h3⟩:=Sz.get hj
     simp only[h1];exact h3)
    exact this
   |false=>
    rw[aeh]at h
    simp only[cond_false]at h
    obtain⟨g1,g2,g3⟩:=hg.born hB hA.m
    exact hK Z _ _ _ _ (hr.fin o (.raw _ rfl rfl)) g1 (hw.born hB) g2 hB.below.size (λ_=>hB.below) (h b g3)
theorem mg.EP{P:Program}{f:FuncId}{args:Array Value}{u:UW}{K K':Value->UW->Prop}(h:mg P f args u K)
  (hk:∀v lo w',Mod u.eN u.toWorld w'->u.heap.size<=lo->K v (u.ret lo w')->K' v (u.ret lo w')):mg P f args u K':=by
 obtain⟨F,hF,h⟩:=h
 exact⟨F,hF,h.mono λv lo w' hm hl hK=>hk v lo w' ⟨hm.os,hm.tape,hm.output,hm.size,λb hb hn=>hm.bV b hb λhf=>hn (hF b hf)⟩ hl hK⟩
theorem bc.v{P:Program}{f:PV}{args:List PV}{KP:Kq}{fv:Value}{vs:List Value}(hg:Good Z u μ)(hw:Wf u)(hf:bw Z f fv)(ha:bj Z args vs)(h:bc P f args μ KP):
  ng P fv vs u λv u'=>∃Z' μ' p,Ext Z μ u.heap.size Z' μ'/\Good Z' u' μ'/\bw Z' p v/\KP p μ':=by
 unfold bc at h
 split at h
 ·rename_i g first iW
  obtain⟨fv',y_,rfl,h1,h2⟩:=hf.ofFn
  obtain⟨hc,dG⟩:=h Z u (fv'++vs++y_) hg hw ((h1.append ha).append h2)
  show(bif ct P g then mg P g (fv'.toArray.toList++vs++y_.toArray.toList).toArray u _ else False)
  rw[hc]
  exact dG
 ·exact h Z u fv vs hg hw hf ha
def Li(q:Bool)(Z:Fz)(μ:Mem)(u:UW)(KP:Kq)(K:Value->UW->Prop):Prop:=
 ∀(Z':Fz) (μ':Mem) (p:PV) (v:Value) (u':UW),Ext Z μ u.heap.size Z' μ'->Good Z' u' μ'->Wf u'->u.heap.size<=u'.heap.size->(q=true->Below u.heap.size u.toWorld u'.toWorld)->bw Z' p v->KP p μ'->K v u'
theorem dg.f{P:Program}{g:FuncId}{args:List PV}{KP:Kq}{vs:List Value}{K:Value->UW->Prop}(hg:Good Z u μ)(hw:Wf u)(ha:bj Z args vs)(h:dg P g args μ λp μ'=>KP p (μ.or μ'))(hK:Li true Z μ u KP K):
  ct P g=true/\mg P g vs.toArray u K:=by
 obtain⟨hc,F,hF,dG⟩:=h Z u vs hg hw ha
 refine⟨hc,F,λb hb=>(hF b hb).elim,dG.mono λv lo w' hm hl hp=>?_⟩
 obtain⟨Z',μ',p,e,g',hr,hk⟩:=hp
 have hB:Below u.heap.size u.toWorld w':=⟨hm.os,hm.tape,hm.output,hm.size,λb hb=>hm.bV b hb λhf=>hF b hf⟩
 have hZ:∀b,b<u.heap.size->Z' b=Z b:=λb hb=>by
  cases hz:Z b with
  |some C=>exact e.zs b C hz rfl
  |none=>
   cases nE:Z' b with
   |none=>rfl
   |some C=>
    rcases e.zn b (by rw[nE];simp)with h1|h1|h1
    ·exact absurd hz h1
    ·exact absurd rfl h1
    ·omega
 refine hK Z' (μ.or μ') p v (u.ret lo w') ⟨e.le,λb C h1 _=>e.zs b C h1 rfl,λb h1=>?_,λb h1=>?_,e.lt⟩ ⟨g'.DN,λb ob hb=>?_⟩ (hw.ret hm.size) hm.size (λ_=>hB) hr hk
 ·rcases e.zn b h1 with h2|h2|h2
  ·exact .inl h2
  ·exact absurd rfl h2
  ·exact .inr (.inr h2)
 ·unfold Mem.or at h1
  cases nv:μ b with
  |some x=>exact .inl (by simp)
  |none=>
   rw[nv]at h1
   rcases e.mn b h1 with h2|h2
   ·exact absurd rfl h2
   ·exact .inr h2
 ·unfold Mem.or at hb
  cases nv:μ b with
  |some x=>
   rw[nv]at hb
   simp only[Option.some.injEq]at hb
   subst hb
   obtain⟨p1,p2⟩:=hg.mem b x nv
   exact⟨λhr=>.inl (p1 hr),p2.go e.le (hZ b p2.lt) (hB.block b p2.lt)⟩
  |none=>
   rw[nv]at hb
   obtain⟨p1,p2⟩:=g'.mem b ob hb
   exact⟨λhr=>(p1 hr).elim False.elim .inr,p2⟩
theorem zL.v{P:Program}{f:PV}{args:List PV}{KP:Kq}{fv:Value}{vs:List Value}{K:Value->UW->Prop}(hg:Good Z u μ)(hw:Wf u)(hf:bw Z f fv)(ha:bj Z args vs)(h:zL P q f args μ KP)(hK:Li q Z μ u KP K):ng P fv vs u K:=by
 unfold zL at h
 cases q with
 |false=>
  simp only[cond_false]at h
  refine(bc.v hg hw hf ha h).mono λv lo w' hm hl hp=>?_
  obtain⟨Z',μ',p,e,g',hr,hk⟩:=hp
  exact hK Z' μ' p v _ e g' (hw.ret hm.size) hm.size (λh=>by cases h) hr hk
 |true=>
  simp only[cond_true]at h
  split at h
  ·rename_i g first iW
   obtain⟨fv',y_,rfl,h1,h2⟩:=hf.ofFn
   obtain⟨hc,dG⟩:=dg.f hg hw ((h1.append ha).append h2) h hK
   show(bif ct P g then mg P g (fv'.toArray.toList++vs++y_.toArray.toList).toArray u K else False)
   rw[hc]
   exact dG
  ·exact h.elim
end
end Go.az
