import Derived.Test.YtbodiiomcfgokaaGreatB03
open Bool (and_eq_true)
open List (all_cons all_eq_true getElem?_drop getElem?_map getElem?_take length_map mem_iff_getElem? mem_of_getElem? replicate)
open Nat (add_assoc add_mul beq ble blt le_refl mul_comm)
open Option (map_some)
set_option linter.all false
namespace Go.aP
open Go.RowKit
inductive KV where
 |raw (k:K1)
 |list (sz:Nat)
 |fn
 deriving DecidableEq,Inhabited
@[reducible] def KV.T:KV->Type
 | .raw k=>k.T
 | .list _=>Fl×Lq
 | .fn=>Fn×List PV×List PV
def KV.p:(k:KV)->k.T->PV
 | .raw k,x=>.raw (k.v x)
 | .list sz,x=>.list sz x.1 x.2
 | .fn,x=>.fn x.1 x.2.1 x.2.2
def JS:Fl->Lq->Option (Fl×Lq)
 | .nil,[]=>some (.nil,[])
 |_,_=>none
def KV.get:(k:KV)->PV->Option k.T
 | .raw k,.raw v=>k.get v
 | .raw .slice,.list _ .nil _=>some (none,0,0)
 | .list sz,.list T_ fl rows=>bif beq sz T_ then some (fl,rows)else JS fl rows
 | .fn,.fn f a b=>some (f,a,b)
 |_,_=>none
def KV.er:KV->K1
 | .raw k=>k
 | .list _=>.slice
 | .fn=>.fn
def ZK:KV->(PV->Prop)->Prop
 | .raw k,F=>exK k λv=>F (.raw v)
 | .list sz,F=>∃(fl:Fl) (rows:Lq),F (.list sz fl rows)
 | .fn,F=>∃(f:Fn) (a b:List PV),F (.fn f a b)
def Ou:List KV->(List PV->Prop)->Prop
 |[],F=>F []
 |k::ks,F=>ZK k λv=>Ou ks λvs=>F (v::vs)
inductive TG where
 |one (k:KV)
 |agg (ks:List KV)
 |box (ks:List KV)
 deriving DecidableEq,Inhabited
def TG.er:TG->Kd
 | .one k=>.one k.er
 | .agg ks=>.agg (ks.map KV.er)
 | .box ks=>.box (ks.map KV.er)
@[reducible] def TLP:List KV->Type
 |[]=>Unit
 |[k]=>k.T
 |k::k'::ks=>k.T×TLP (k'::ks)
def FZ:(ks:List KV)->TLP ks->List PV
 |[],_=>[]
 |[k],x=>[k.p x]
 |k::k'::ks,x=>k.p x.1::FZ (k'::ks) x.2
def oI:(ks:List KV)->List PV->Option (TLP ks)
 |[],[]=>some ()
 |[k],[v]=>k.get v
 |k::k'::ks,v::vs=>match k.get v,oI (k'::ks) vs with
  |some x,some y=>some (x,y)
  |_,_=>none
 |_,_=>none
@[reducible] def TG.T:TG->Type
 | .one k=>k.T
 | .agg ks=>TLP ks
 | .box ks=>TLP ks
abbrev sD:=List (Nat×TG)
def sD.er(l:sD):Live:=l.map λx=>(x.1,x.2.er)
@[reducible] def zd:sD->Type
 |[]=>Unit
 |[x]=>x.2.T
 |x::y::l=>x.2.T×zd (y::l)
abbrev uv:=Nat->PV
structure dw where
 σ:uv
 D:List (Nat×Nat)
def aH(σ:uv)(t:Nat)(v:PV):uv:=λi=>bif beq i t then v else σ i
def JI(σ:uv)(d:Option Nat)(v:PV):uv:=match d with|some t=>aH σ t v|none=>σ
def Ej(σ:uv)(k:Nat):Nat->List PV->uv
 |_,[]=>σ
 |j,v::vs=>Ej (aH σ (gx k j) v) k (j+1) vs
def EG(σ:uv)(k:Nat):Nat->Nat->List PV
 |_,0=>[]
 |j,m+1=>σ (gx k j)::EG σ k (j+1) m
def Bs(st:dw):(x:Nat×TG)->Option x.2.T
 |(t,.one k)=>k.get (st.σ t)
 |(t,.agg ks)=>match st.σ t with
  | .agg a=>oI ks a
  |_=>none
 |(t,.box ks)=>match st.σ t with
  | .box k o=>bif (beq k t&&beq o 0)&&h_ st.D t ks.length then oI ks (EG st.σ t 0 ks.length)else none
  |_=>none
def qz(st:dw):(l:sD)->Option (zd l)
 |[]=>some ()
 |[x]=>Bs st x
 |x::y::l=>match Bs st x,qz st (y::l)with
  |some a,some b=>some (a,b)
  |_,_=>none
def JF(st:dw):(x:Nat×TG)->x.2.T->dw
 |(t,.one k),v=>{st with σ:=aH st.σ t (k.p v)}
 |(t,.agg ks),v=>{st with σ:=aH st.σ t (.agg (FZ ks v))}
 |(t,.box ks),v=>{st with σ:=Ej (aH st.σ t (.box t 0)) t 0 (FZ ks v),D:=bif h_ st.D t ks.length then st.D else(t,ks.length)::st.D}
def Ao(st:dw):(l:sD)->zd l->dw
 |[],_=>st
 |[x],v=>JF st x v
 |x::y::l,v=>Ao (JF st x v.1) (y::l) v.2
structure uw where
 live:sD
 fD:List (Nat×Nat)
def uw.er(c:uw):Cut:=⟨c.live.er,c.fD⟩
def zz(σ:uv):List (Nat×Nat)->uv
 |[]=>σ
 |(k,m)::l=>zz (Ej (aH σ k (.box k 0)) k 0 (replicate m .aY)) l
def QV(v:PV)(k:Nat):Bool:=
 match v with
 | .box k' o=>beq k' k&&beq o 0
 |_=>false
def pU(st:dw):List (Nat×Nat)->Bool
 |[]=>true
 |(k,m)::l=>h_ st.D k m&&QV (st.σ k) k&&pU st l
def LO(σ:uv)(ws:List Nat):uv:=λt=>bif blt t 65536&&cM ws t then .aY else σ t
def YH(st:dw)(ws:List Nat)(c:uw)(x:zd c.live):dw:=
 Ao {st with σ:=zz (LO st.σ ws) c.fD} c.live x
def mJ(P:Program)(r:Bool):Nat->TypeId->Option (List KV)
 |0,_=>none
 |f+1,t=>match P.underlying t with
  |some (.int k)=>some [.raw (.int k)]
  |some .bool=>some [.raw .bool]
  |some .string=>some [.raw .str]
  |some (.slice e)=>some [bif r then .raw .slice else .list (P.cellsOf e)]
  |some (.pointer _)=>some [.raw .ptr]
  |some (.func ..)=>some [.fn]
  |some (.map ..)=>some [.raw .map]
  |some (.struct fs)=>fs.toList.foldr (λx acc=>match mJ P r f x.type,acc with|some a,some b=>some (a++b)|_,_=>none) (some [])
  |some (.array n e)=>match mJ P r f e with
   |some ks=>some ((replicate n ks).flatten)
   |none=>none
  |_=>none
def lK(P:Program)(r:Bool)(t:TypeId):Option (List KV):=
 match mJ P r 8 t with
 |some ks=>bif beq ks.length (P.cellsOf t)then(bif di P t||beq ks.length 1 then some ks else none)else none
 |none=>none
def Tv:Bool->List PV->PV
 |true,vs=>.agg vs
 |false,[v]=>v
 |_,_=>.aY
def R_(P:Program)(r:Bool)(t:TypeId)(F:PV->Prop):Prop:=
 match lK P r t with
 |some ks=>Ou ks λvs=>F (Tv (di P t) vs)
 |none=>False
def My(P:Program)(r:Bool):List TypeId->(List PV->Prop)->Prop
 |[],F=>F []
 |t::ts,F=>R_ P r t λv=>My P r ts λvs=>F (v::vs)
def Ot(P:Program)(r:Bool)(t:TypeId)(F:PV->Prop):Prop:=
 match P.underlying t with
 |some (.tuple ts)=>My P r ts.toList λvs=>F (.az vs)
 |_=>R_ P r t F
def Cu:Value->PV
 | .slice none 0 0=>.list 0 .nil []
 | .slice .. | .agg _| .tuple _| .complex .. | .iface .. =>.aY
 | .func f a b=>bif beq a.size 0&&beq b.size 0 then .fn f [] []else .aY
 |v=>.raw v
def aU(ps:List PV):Bool:=ps.all PV.cell
def IF(ps:List PV):Bool:=ps.all PV.ok
def ofV:Value->PV
 | .agg a=>bif aU (a.toList.map Cu)then .agg (a.toList.map Cu)else .aY
 | .tuple a=>bif IF (a.toList.map Cu)then .az (a.toList.map Cu)else .aY
 |v=>Cu v
def YB(sz:Nat):PV->PV
 | .list 0 fl []=>.list sz fl []
 |p=>p
def AL:List KV->List PV->List PV
 | .list sz::ks,p::ps=>YB sz p::AL ks ps
 |_::ks,p::ps=>p::AL ks ps
 |_,ps=>ps
def fZ(P:Program)(t:TypeId)(p:PV):PV:=
 match lK P false t with
 |some ks=>match p with
  | .agg cs=>.agg (AL ks cs)
  | .list 0 fl []=>match ks with
    |[.list sz]=>.list sz fl []
    |_=>p
  |p=>p
 |none=>p
def sy(σ:uv):Operand->PV
 | .tmp t=>σ t
 | .const v=>ofV v
 | .global g=>pP g 0
 | .func f=>.fn (.func f) [] []
def bU:PV->PV
 | .list sz _ rows=>.list sz .sh rows
 |p=>p
def yW:PV->PV
 | .agg cs=>.agg (cs.map bU)
 |p=>p
def wk:PV->PV
 | .agg cs=>.agg (cs.map bU)
 | .az vs=>.az (vs.map λp=>yW (bU p))
 |p=>bU p
def OO(P:Program)(t:TypeId)(p:PV):PV:=yW (fZ P t p)
def sA(P:Program):List TypeId->List PV->List PV
 |t::ts,p::ps=>OO P t p::sA P ts ps
 |_,ps=>ps
def ay(μ:Mem)(b o n:Nat):Option (List PV):=
 match μ b with
 |some (.cells _ cs)=>if o+n<=cs.length then some ((cs.drop o).take n)else none
 |some (.ro _ cs)=>if o+n<=cs.length then some ((cs.drop o).take n)else none
 |_=>none
def aA(row:List PV)(o n:Nat):Option (List PV):=if o+n<=row.length/\0<n then some ((row.drop o).take n)else none
def dx(cs:List PV)(o:Nat)(vs:List PV):List PV:=cs.take o++vs++cs.drop (o+vs.length)
def stM(b o:Nat)(vs:List PV)(μ:Mem)(K:Mem->Prop):Prop:=
 ∃(T:TypeId) (cs:List PV),μ b=some (.cells T cs)/\o+vs.length<=cs.length/\K (μ.set b (some (.cells T (dx cs o vs))))
def aN(v:PV)(F:Nat->Nat->Prop):Prop:=
 match v with
 | .raw (.pointer (some ⟨b,o,none⟩))=>F b o
 |_=>False
def aa(P:Program)(g:FuncId)(args:List PV)(μ:Mem)(K:Kq):Prop:=
 ∀(Z:Fz) (u:UW) (vs:List Value),Good Z u μ->(∀b,u.fW b->b<u.heap.size)->bn Z args vs->dv P g=true/\nR P g vs.toArray u λv u'=>∃Z' μ' p,Ext Z μ u.heap.size Z' μ'/\Good Z' u' μ'/\bR Z' p v/\K p μ'
def dM(P:Program)(g:FuncId)(args:List PV)(μ:Mem)(K:Kq):Prop:=
 ∀(Z:Fz) (u:UW) (vs:List Value),Good Z u μ->(∀b,u.fW b->b<u.heap.size)->bn Z args vs->dv P g=true/\nR P g vs.toArray ⟨u.toWorld,λ_=>False⟩ λv u'=>∃Z' μ' p,Ext Z M0 u.heap.size Z' μ'/\Good Z' u' μ'/\bR Z' p v/\K p μ'
def yj(P:Program)(f:PV)(args:List PV)(μ:Mem)(K:Kq):Prop:=
 ∀(Z:Fz) (u:UW) (fv:Value) (vs:List Value),Good Z u μ->(∀b,u.fW b->b<u.heap.size)->bR Z f fv->bn Z args vs->oZ P fv vs u λv u'=>∃Z' μ' p,Ext Z μ u.heap.size Z' μ'/\Good Z' u' μ'/\bR Z' p v/\K p μ'
def bJ(P:Program)(f:PV)(args:List PV)(μ:Mem)(K:Kq):Prop:=
 match f with
 | .fn (.func g) first tP=>aa P g (first++args++tP) μ K
 |f=>yj P f args μ K
def Cg(P:Program)(q:Bool)(f:PV)(args:List PV)(μ:Mem)(K:Kq):Prop:=
 bif q then(match f with
  | .fn (.func g) first tP=>dM P g (first++args++tP) μ (λp μ'=>K p (μ.or μ'))
  |_=>False)else bJ P f args μ K
def bu(P:Program)(f:PV)(body:List PV->(Option Code->Mem->Prop)->Mem->Prop)(K:Option Code->Mem->Prop)(μ:Mem):Prop:=
 (∃g a b,f=.fn (.func g) a b)/\∀(l:Nat) (rec:Option Code->Ob),μ l=none->
  (∀(vs:List PV) (μ1:Mem) (R:Option Code->Mem->Prop),μ1 l=none->body vs R μ1->
   bJ P (.fn (.yield l) [] []) vs (μ1.set l (some (rec none))) λv μ2=>∃p μ3,v=pB p.isNone/\μ3 l=none/\μ2=μ3.set l (some (rec p))/\R p μ3)->
  bJ P f [.fn (.yield l) [] []] (μ.set l (some (rec none))) λ_ μ2=>∃p μ3,μ3 l=none/\μ2=μ3.set l (some (rec p))/\K p μ3
structure kr where
 P:Program
 n:Nat
 eX:List Nat
 loops:List (Nat×uw)
 i_:List (Nat×uw)
 rB:List (Nat×List TypeId)
 cst:List Nat
 wrt:List Nat
 kN:List Nat
def kr.er(E:kr):Env:=⟨E.P,E.n,E.eX,E.loops.map λx=>(x.1,x.2.er),E.i_.map λx=>(x.1,x.2.er),E.rB⟩
def cN(o:Oper)(st:dw)(v:PV):dw:={st with σ:=JI st.σ o.dst v}
def Iy(P:Program)(fs:Array Field):List (Nat×PV)->List PV->Option (List PV)
 |[],cs=>some cs
 |(i,v)::ps,cs=>match fs[i]? with
  |some f=>bif beq v.cells.length (P.cellsOf f.type)&&ble (f.offset+v.cells.length) cs.length&&(P.info? f.type).isSome then
    Iy P fs ps (cs.take f.offset++v.cells++cs.drop (f.offset+v.cells.length))else none
  |none=>none
def nc(P:Program)(t:TypeId)(z:Value):PV:=fZ P t (ofV z)
def BJ(size:Nat):Nat->List (Nat×PV)->Option (Lq)
 |_,[]=>some []
 |i,(j,v)::ps=>bif beq i j&&beq v.cells.length size then(match BJ size (i+1) ps with|some l=>some (v.cells.map bU::l)|none=>none)else none
def aaq(P:Program)(t:TypeId)(ps:List (Nat×PV)):Option (List PV):=
 match(P.info? t).bind (·.zero),P.underlying t with
 |some z,some (.struct fs)=>bif (nc P t z).ok&&di P t&&fs.toList.all λf=>(P.info? f.type).isSome then
   (match nc P t z with
   | .agg cs=>Iy P fs (ps.map λp=>(p.1,match fs[p.1]? with|some f=>fZ P f.type p.2|none=>p.2)) cs
   |_=>none)else none
 |some z,some (.array len e)=>bif (P.info? e).isSome&&beq ps.length len&&beq z.cells.size (len*P.cellsOf e)then
   (match BJ (P.cellsOf e) 0 (ps.map λp=>(p.1,fZ P e p.2))with
   |some rows=>some rows.flatten
   |none=>none)else none
 |_,_=>none
def ZL(P:Program)(e:TypeId)(off:Nat)(cs:List PV):Option PV:=
 bif (P.underlying e).isSome&&ble (off+P.cellsOf e) cs.length then(bif di P e then some (.agg ((cs.drop off).take (P.cellsOf e)))else cs[off]?)else none
def ZG(P:Program)(t:TypeId)(f:Nat)(cs:List PV):Option PV:=
 match P.underlying t with
 |some (.struct fs)=>match fs[f]? with
  |some x=>bif (P.underlying x.type).isSome&&ble (x.offset+P.cellsOf x.type) cs.length then
    (bif di P x.type then some (.agg ((cs.drop x.offset).take (P.cellsOf x.type)))else cs[x.offset]?)else none
  |none=>none
 |_=>none
def gT(ρ:Operand->PV)(x:Option Operand)(d:Int):Option Int:=
 match x with
 |none=>some d
 |some x=>match ρ x with
  | .raw (.int _ i)=>some i
  |_=>none
def qd(size sz:Nat)(rows:Lq):Bool:=bif beq sz size then true else(match rows with|[]=>true|_=>false)
def aat(rows:Lq)(A B:Prop):Prop:=match rows with|[]=>A|_::_=>B
def Wg(q:Bool)(size:Nat)(fl:Fl)(n m:Nat)(μ:Mem)(K:Fl->Mem->Prop):Prop:=
 match fl with
 | .nr=>∀b c,μ b=none->n+m<=c->K (.nh b c) (μ.set b (some (.nh ((n+m)*size) (c*size))))
 | .nil=>∀b c,μ b=none->n+m<=c->K (.nh b c) (μ.set b (some (.nh ((n+m)*size) (c*size))))
 | .nh b c=>bif q then False else μ b=some (.nh (n*size) (c*size))/\∀b' c',(b'=b\/μ b'=none)->n+m<=c'->
   K (.nh b' c') ((μ.set b none).set b' (some (.nh ((n+m)*size) (c'*size))))
 | .sh=>False
def aT(q:Bool)(size bytes:Nat)(fl:Fl)(rows new:Lq)(μ:Mem)(K:Fl->Mem->Prop):Prop:=
 (rows.length+new.length)*bytes<=140737488355328/\rows.length+new.length<4611686018427387904/\aat new (K fl μ) (Wg q size fl rows.length new.length μ K)
def EU(size:Nat)(μ:Mem)(y:PV)(F:Nat->List PV->Prop):Prop:=
 match y with
 | .list sz _ rows=>bif qd size sz rows then F rows.length rows.flatten else False
 | .raw (.slice (some ⟨b,o,none⟩) m _)=>∃cs,ay μ b o (m*size)=some cs/\F m cs
 |_=>False
def fA(size bytes:Nat)(e:TypeId)(a:Option Addr)(n c:Nat)(y:PV)(μ:Mem)(K:Option Addr->Nat->Nat->Mem->Prop):Prop:=
 EU size μ y λm new=>(n+m)*bytes<=140737488355328/\n+m<4611686018427387904/\n<=c/\((m=0/\(n≠0->∃b o Ct,a=some ⟨b,o,none⟩/\ay μ b o (n*size)=some Ct)/\K a n c μ)\/(m≠0/\aU new=true/\
  (n+m<=c->∃b o T cs,a=some ⟨b,o,none⟩/\μ b=some (.cells T cs)/\o+c*size<=cs.length/\K a (n+m) c (μ.set b (some (.cells T (dx cs (o+n*size) new)))))/\
  (c<n+m->∃Ct,((n=0/\Ct=[])\/∃b o,a=some ⟨b,o,none⟩/\ay μ b o (n*size)=some Ct)/\∀b' c',μ b'=none->n+m<=c'->K (some ⟨b',0,none⟩) (n+m) c' (μ.set b' (some (.cells e (Ct++new++replicate ((c'-(n+m))*size) .aY)))))))
def MQ(P:Program)(q:Bool)(e:TypeId)(x y:PV)(μ:Mem)(K:Kq):Prop:=
 match(P.info? e).map (λi=>(i.size,i.bytes,i.zero.map λz=>z.cells.toList.length))with
 |some (size,bytes,some zl)=>bif beq zl size&& !Nat.beq size 0 then(match x,y with
  | .list sz fl rows,.list T_ _ new=>bif qd size sz rows&&qd size T_ new then aT q size bytes fl rows new μ λjZ μ'=>K (.list size jZ (rows++new)) μ' else False
  | .raw (.slice a n c),y=>bif q then False else fA size bytes e a n c y μ λa' n' c' μ'=>K (.raw (.slice a' n' c')) μ'
  |_,_=>False)else False
 |_=>False
def jE:List PV->Option (List Value)
 |[]=>some []
 | .raw v::ps=>match jE ps with|some vs=>some (v::vs)|none=>none
 |_=>none
def SW(P:Program)(op:BinOp)(t:TypeId)(x y:PV)(K:PV->Prop):Prop:=
 match x,y with
 | .raw a,.raw b=>pj P op t a b λv=>K (.raw v)
 | .agg a,.agg b=>match jE a,jE b with
   |some a,some b=>pj P op t (.agg a.toArray) (.agg b.toArray) λv=>K (.raw v)
   |_,_=>False
 | .fn f _ _,.raw .nilFunc=>pj P op t (.func f #[] #[]) .nilFunc λv=>K (.raw v)
 |_,_=>False
def Bg(ρ:Operand->PV):List Operand->Option (IntKind×List Int)
 |[]=>none
 |[x]=>match ρ x with| .raw (.int k i)=>some (k,[i])|_=>none
 |x::l=>match ρ x,Bg ρ l with
  | .raw (.int k i),some (k',is)=>bif decide (k=k')then some (k,i::is)else none
  |_,_=>none
def zR(r:Bool)(p:PV):PV:=bif r then(match p with| .list _ .nil _=>.raw (.slice none 0 0)|p=>p)else p
def Qh(kN:List Nat)(k:Nat):Nat->List PV->List PV
 |_,[]=>[]
 |i,c::cs=>zR (cM kN k||cM kN (2000000+1000*k+i)) c::Qh kN k (i+1) cs
def Nw(kN:List Nat)(k:Option Nat)(cs:List PV):List PV:=match k with|some k=>Qh kN k 0 cs|none=>cs
def abJ(x:Operand):Option Nat:=match x with| .tmp a=>some a|_=>none
def wX(E:kr)(o:Oper):Bool:=match o.dst with|some d=>cM E.kN d|none=>false
def abE(E:kr)(o:Oper):Bool:=match o.dst with|some d=>cM E.wrt d|none=>false
def V1b(E:kr)(q:Bool)(o:Oper)(st:dw)(μ:Mem)(b:Builtin)(args:List Operand)(ts:List TypeId)(K:dw->Mem->Prop):Prop:=
 match b,args,ts with
 | .len,[x],[t]=>match E.P.underlying t,sy st.σ x with
   |some (.slice _),.list _ _ rows=>K (cN o st (pI rows.length)) μ
   |some (.slice _),.raw (.slice _ n _)=>K (cN o st (pI n)) μ
   |some .string,.raw (.string s)=>K (cN o st (pI s.size)) μ
   |some (.array n _),v=>bif v.ok then K (cN o st (pI n)) μ else False
   |_,_=>False
 | .append,[x,y],[t,t']=>match E.P.underlying t,E.P.underlying t' with
   |some (.slice e),some (.slice _)=>MQ E.P q e (zR (wX E o) (sy st.σ x)) (sy st.σ y) μ λp μ'=>K (cN o st p) μ'
   |_,_=>False
 | .min,xs,_=>match Bg (sy st.σ) xs with
   |some (k,i::is)=>K (cN o st (.raw (.int k (is.foldl (λx y=>if y<x then y else x) i)))) μ
   |_=>False
 | .max,xs,_=>match Bg (sy st.σ) xs with
   |some (k,i::is)=>K (cN o st (.raw (.int k (is.foldl (λx y=>if y>x then y else x) i)))) μ
   |_=>False
 |_,_,_=>False
def NH(E:kr)(q:Bool)(fz:List Nat)(o:Oper)(st:dw)(μ:Mem)(t:TypeId)(cs:List PV)(K:dw->Mem->Prop):Prop:=
 match o.dst with
 |none=>False
 |some k=>bif cM E.eX k then
   (bif !q&&(!nC st.D k&& !cM fz k&&aU cs&&ble cs.length 65536)then K {st with σ:=Ej (aH st.σ k (.box k 0)) k 0 cs,D:=(k,cs.length)::st.D} μ else False)
  else bif cM E.cst k then(bif aU cs then K (cN o st (.bj (cs.map bU) 0)) μ else False)
  else ∀b,μ b=none->K (cN o st (pP b 0)) (μ.set b (some (.cells t cs)))
def V1(E:kr)(q:Bool)(fz:List Nat)(o:Oper)(st:dw)(μ:Mem)(K:dw->Mem->Prop):Prop:=
 let ρ:=sy st.σ
 let r:=wX E o
 match o.op with
 | .move x| .assign x=>K (cN o st (fZ E.P o.type (ρ x))) μ
 | .pick c a b=>match ρ c with
   | .raw (.bool t)=>ab t (K (cN o st (fZ E.P o.type (ρ a))) μ) (K (cN o st (fZ E.P o.type (ρ b))) μ)
   |_=>False
 | .alloc t=>match(E.P.info? t).bind (·.zero)with
   |none=>False
   |some z=>bif (nc E.P t z).ok then NH E q fz o st μ t (Nw E.kN o.dst (nc E.P t z).cells) K else False
 | .box t x=>bif (ρ x).ok then NH E q fz o st μ t (Nw E.kN o.dst (fZ E.P t (ρ x)).cells) K else False
 | .build t ps=>bif ps.toList.all λp=>(ρ p.2).ok then match aaq E.P t (ps.toList.map λp=>(p.1,ρ p.2))with
   |some vs=>K (cN o st (.agg vs)) μ
   |none=>False else False
 | .buildSlice t len ps=>bif (ps.toList.all λp=>(ρ p.2).ok)&&beq ps.toList.length len then match vD E.P t with
   |none=>False
   |some e=>match BJ (E.P.cellsOf e) 0 (ps.toList.map λp=>(p.1,fZ E.P e (ρ p.2)))with
    |some rows=>bif ble rows.flatten.length 65536&&((E.P.info? e).bind (·.zero)).isSome&& !Nat.beq (E.P.cellsOf e) 0 then
      (bif abE E o then ∀b,μ b=none->K (cN o st (.raw (.slice (some ⟨b,0,none⟩) len len))) (μ.set b (some (.cells e (Nw E.kN o.dst rows.flatten))))
      else K (cN o st (.list (E.P.cellsOf e) .nr rows)) μ)else False
    |none=>False else False
 | .load t x=>match lK E.P r t with
   |none=>False
   |some ks=>match ρ x with
    | .box k off=>match eR st.D k with
      |some m=>bif ble (off+ks.length) m&&aU (EG st.σ k off ks.length)then K (cN o st (Tv (di E.P t) (EG st.σ k off ks.length))) μ else False
      |none=>False
    | .bj row off=>Ou ks λvs=>aA row off ks.length=some vs/\K (cN o st (Tv (di E.P t) vs)) μ
    |v=>aN v λb off=>Ou ks λvs=>ay μ b off ks.length=some vs/\K (cN o st (Tv (di E.P t) vs)) μ
 | .store t x y=>bif (ρ y).ok&&beq (fZ E.P t (ρ y)).cells.length (E.P.cellsOf t)&&(E.P.info? t).isSome then match ρ x with
   | .box k off=>match eR st.D k with
     |some m=>bif ble (off+(fZ E.P t (ρ y)).cells.length) m&& !cM fz k then K {st with σ:=JI (Ej st.σ k off (fZ E.P t (ρ y)).cells) o.dst (.az [])} μ else False
     |none=>False
   |v=>bif q then False else aN v λb off=>stM b off (Nw E.kN (abJ x) (fZ E.P t (ρ y)).cells) μ λμ'=>K (cN o st (.az [])) μ'
   else False
 | .nilCheck x=>match ρ x with
   | .box k off=>K (cN o st (.box k off)) μ
   | .bj row off=>K (cN o st (.bj row off)) μ
   | .raw (.pointer a)=>nn a (K (cN o st (.raw (.pointer a))) μ)
   | .fn f a b=>Bu f (K (cN o st (.fn f a b)) μ)
   |_=>False
 | .binOp op t x y _=>SW E.P op t (ρ x) (ρ y) λv=>K (cN o st v) μ
 | .unOp op _ x=>match op,ρ x with
   | .not,.raw (.bool b)=>K (cN o st (pB (!b))) μ
   | .neg,.raw (.int k n)=>K (cN o st (.raw (.int k (k.wrap (0-n))))) μ
   |_,_=>False
 | .convert src dst x=>match ρ x with
   | .raw v=>match pv E.P (convert src dst v)with
     |some v'=>bif plain v'&&one v' then K (cN o st (.raw v')) μ else False
     |none=>False
   |_=>False
 | .makeInterface t x=>bif (ρ x).ok&&(match E.P.underlying t with|some (.interface _)=>false|some _=>true|none=>false)then K (cN o st (.iface t (ρ x))) μ else False
 | .makeSlice t x y=>match E.P.underlying t,ρ x,ρ y with
   |some (.slice e),.raw (.int _ i),.raw (.int _ j)=>match(E.P.info? e).map (λi=>(i.size,i.bytes,i.zero.map λz=>(nc E.P e z).cells))with
    |some (size,bytes,some zero)=>bif beq zero.length size&& !Nat.beq size 0&&aU zero then
      0<=i/\i<=j/\j<4611686018427387904/\j.toNat*bytes<=140737488355328/\
      ∀b,μ b=none->K (cN o st (.raw (.slice (some ⟨b,0,none⟩) i.toNat j.toNat))) (μ.set b (some (.cells e (replicate j.toNat zero).flatten)))else False
    |_=>False
   |_,_,_=>False
 | .makeFunc fn first captured=>bif first.toList.all (λx=>(ρ x).ok)&&captured.toList.all (λx=>(ρ x).ok)then
   K (cN o st (.fn fn (first.toList.map λx=>wk (ρ x)) (captured.toList.map λx=>wk (ρ x)))) μ else False
 | .slice t x lo hi mx=>match E.P.underlying t,ρ x with
   |some (.slice e),.list sz _ rows=>match gT ρ lo 0,gT ρ hi rows.length,gT ρ mx rows.length with
    |some l,some h,some m=>bif (mx.isSome&&hi.isNone)||(E.P.info? e).isNone|| !qd (E.P.cellsOf e) sz rows then False else
      match mx with
      |none=>0<=l/\l<=h/\h<=rows.length/\K (cN o st (.list (E.P.cellsOf e) .sh ((rows.take h.toNat).drop l.toNat))) μ
      |some _=>0<=l/\l<=h/\h<=rows.length/\m=h/\K (cN o st (.list (E.P.cellsOf e) .nr ((rows.take h.toNat).drop l.toNat))) μ
    |_,_,_=>False
   |some (.slice e),.raw (.slice a len cap)=>match gT ρ lo 0,gT ρ hi len,gT ρ mx cap with
    |some l,some h,some m=>(bif (mx.isSome&&hi.isNone)||(E.P.info? e).isNone then False else gZ a/\0<=l/\l<=h/\h<=m/\m<=cap/\K (cN o st (.raw (.slice (yY a l.toNat m.toNat (E.P.cellsOf e)) (h.toNat-l.toNat) (m.toNat-l.toNat)))) μ)
    |_,_,_=>False
   |some .string,.raw (.string s)=>match mx with
    |some _=>False
    |none=>match gT ρ lo 0,gT ρ hi s.size with
     |some l,some h=>0<=l/\l<=h/\h<=s.size/\K (cN o st (pS (s.extract l.toNat h.toNat))) μ
     |_,_=>False
   |_,_=>False
 | .fieldAddr t x f=>match CH E.P t f with
   |none=>False
   |some d=>match ρ x with
    | .box k off=>K (cN o st (.box k (off+d))) μ
    | .bj row off=>K (cN o st (.bj row (off+d))) μ
    |v=>aN v λb off=>K (cN o st (pP b (off+d))) μ
 | .field t x f=>match ρ x with
   | .agg cs=>match ZG E.P t f cs with
     |some v=>K (cN o st v) μ
     |none=>False
   |_=>False
 | .indexAddr t x i=>match E.P.underlying t,ρ x,ρ i with
   |some (.slice e),.list sz _ rows,.raw (.int _ j)=>bif (E.P.info? e).isSome&&beq sz (E.P.cellsOf e)then 0<=j/\∃row,rows[j.toNat]?=some row/\K (cN o st (.bj row 0)) μ else False
   |some (.slice e),.raw (.slice a len _),.raw (.int _ j)=>bif (E.P.info? e).isSome then bp a λb off=>0<=j/\j<len/\K (cN o st (pP b (off+j.toNat*E.P.cellsOf e))) μ else False
   |some (.array len e),.box k off,.raw (.int _ j)=>bif decide (0<=j)&&decide (j<len)&&(E.P.info? e).isSome then K (cN o st (.box k (off+j.toNat*E.P.cellsOf e))) μ else False
   |_,_,_=>False
 | .index t x i=>match E.P.underlying t,ρ x,ρ i with
   |some .string,.raw (.string s),.raw (.int _ j)=>0<=j/\∃c:UInt8,s[j.toNat]?=some c/\K (cN o st (.raw (.int .u8 c.toNat))) μ
   |some (.array len e),.agg cs,.raw (.int _ j)=>bif (E.P.info? e).isSome then 0<=j/\j<len/\R_ E.P r e λv=>ZL E.P e (j.toNat*E.P.cellsOf e) cs=some v/\K (cN o st v) μ else False
   |_,_,_=>False
 | .extract x i=>match ρ x with
   | .az vs=>match vs[i]? with
     |some v=>bif v.ok then K (cN o st v) μ else False
     |none=>False
   |_=>False
 | .call c=>match c.callee with
   | .builtin b=>V1b E q o st μ b c.args.toList c.argTypes.toList K
   | .value f=>bif c.args.toList.all (λx=>(ρ x).ok)then
     Cg E.P q (ρ f) (sA E.P c.argTypes.toList (c.args.toList.map ρ)) μ λv μ'=>Ot E.P r o.type λv'=>v=v'/\K (cN o st v') μ' else False
   | .invoke x name=>bif c.args.toList.all (λx=>(ρ x).ok)then match ρ x with
     | .iface t p=>match pv E.P (method (E.P.types.size+Made.depth) t undef name)with
       |some (g,_)=>(∀v,pv E.P (method (E.P.types.size+Made.depth) t v name)=some (g,v))/\
         Cg E.P q (.fn (.func g) [] []) (yW p::sA E.P c.argTypes.toList (c.args.toList.map ρ)) μ λv μ'=>Ot E.P r o.type λv'=>v=v'/\K (cN o st v') μ'
       |none=>False
     |_=>False else False
 |_=>False
def QJ(μ:Mem)(b:Nat):Prop:=∃T cs,μ b=some (.cells T cs)/\cs≠[]
def JJ(x y:PV)(μ:Mem)(K:Bool->Prop):Prop:=
 match x,y with
 | .raw (.pointer (some ⟨b,o,none⟩)),.raw (.pointer (some ⟨b',o',none⟩))=>QJ μ b/\QJ μ b'/\K (beq b b'&&beq o o')
 |_,_=>False
def Mc(x:PV):Bool:=match x with| .raw (.pointer _)=>true|_=>false
def V1x(E:kr)(fz:List Nat)(o:Oper)(st:dw)(μ:Mem)(K:dw->Mem->Prop):Prop:=
 match o.op with
 | .binOp .eql t x (.tmp y) _=>bif Mc (sy st.σ x)&&Mc (sy st.σ (.tmp y))then
   (bif (match E.P.underlying t with|some (.pointer e)=>sized E.P e|_=>false)then
    JJ (sy st.σ x) (sy st.σ (.tmp y)) μ λr=>K (cN o st (pB r)) μ else False)else V1 E false fz o st μ K
 |_=>V1 E false fz o st μ K
def Vl(E:kr)(fz:List Nat)(ops:Array Oper)(Q:dw->Mem->Prop):List Oper->dw->Mem->Prop
 |[],st,μ=>Q st μ
 |o::l,st,μ=>match o.guard with
  |none=>V1x E fz o st μ λbV μ'=>Vl E fz ops Q l bV μ'
  |some (j,b)=>match oV ops j with
   |none=>False
   |some g=>match st.σ g with
    | .raw (.bool c)=>ab c
      ((λeN=>ab b (V1 E false fz o eN μ λbV μ'=>Vl E fz ops Q l bV μ') (Vl E fz ops Q l (cN o eN (.az [])) μ)) {st with σ:=aH st.σ g (pB true)})
      ((λeN=>ab b (Vl E fz ops Q l (cN o eN (.az [])) μ) (V1 E false fz o eN μ λbV μ'=>Vl E fz ops Q l bV μ')) {st with σ:=aH st.σ g (pB false)})
    | .az _=>Vl E fz ops Q l (cN o st (.az [])) μ
    |_=>False
def qy(ops:Array Oper)(o:Oper)(st:dw)(act skip:dw->Prop):Prop:=
 match o.guard with
 |none=>act st
 |some (j,b)=>match oV ops j with
  |none=>False
  |some g=>match st.σ g with
   | .raw (.bool c)=>ab c
     ((λeN=>ab b (act eN) (skip eN)) {st with σ:=aH st.σ g (pB true)})
     ((λeN=>ab b (skip eN) (act eN)) {st with σ:=aH st.σ g (pB false)})
   | .az _=>skip st
   |_=>False
def Fy(st:dw)(o:Oper):Bool:=
 match o.op with
 | .load _ x=>match sy st.σ x with
   | .bj .. =>true
   |_=>false
 |_=>false
def wQ(E:kr)(fz:List Nat)(ops:Array Oper)(c:Bool)(μ0:Mem)(i:Nat)(st:dw)(K:dw->Prop):Prop:=
 match ops[i]? with
 |none=>False
 |some o=>qy ops o st (λeN=>bif c|| !Fy eN o then V1 E false fz o eN μ0 λbV _=>K bV else False) (λeN=>K (cN o eN (.az [])))
def QL(E:kr)(fz:List Nat)(o:Oper)(st:dw)(μ0 μ:Mem)(K:dw->Mem->Prop):Prop:=
 match o.op with
 | .store _ x _=>match sy st.σ x with
   | .raw (.pointer (some ⟨b,_,none⟩))=>μ0 b=none/\V1 E false fz o st μ K
   |_=>V1 E true fz o st μ K
 |_=>V1 E true fz o st μ K
def pT(E:kr)(fz:List Nat)(ops:Array Oper)(μ0:Mem)(i:Nat)(st:dw)(μ:Mem)(K:dw->Mem->Prop):Prop:=
 match ops[i]? with
 |none=>False
 |some o=>bif gY E.eX o then False else qy ops o st
   (λeN=>bif qx ops i then QL E (fz++eN.D.map (·.1)) o eN μ0 μ K else V1 E false fz o eN μ K)
   (λeN=>K (cN o eN (.az [])) μ)
def Vd(E:kr)(fz:List Nat)(ops:Array Oper)(μ0:Mem)(Q:dw->Mem->Prop):Bool->iT->dw->Mem->Prop
 |_,.nil,st,μ=>Q st μ
 |c,.tk i p,st,μ=>wQ E fz ops c μ0 i st λbV=>Vd E fz ops μ0 Q c p bV μ
 |_,.ef i p,st,μ=>pT E fz ops μ0 i st μ λbV μ'=>Vd E fz ops μ0 Q false p bV μ'
 |_,.Se i p j q,st,μ=>(pT E fz ops μ0 i st μ λbV μ'=>Vd E fz ops μ0 Q false p bV μ')/\(pT E fz ops μ0 j st μ λbV μ'=>Vd E fz ops μ0 Q false q bV μ')
 |_,.Sd i p j q k r,st,μ=>(pT E fz ops μ0 i st μ λbV μ'=>Vd E fz ops μ0 Q false p bV μ')/\(pT E fz ops μ0 j st μ λbV μ'=>Vd E fz ops μ0 Q false q bV μ')/\(pT E fz ops μ0 k st μ λbV μ'=>Vd E fz ops μ0 Q false r bV μ')
def PO(E:kr)(fz:List Nat)(ops:Array Oper)(i:Nat)(st:dw)(μ:Mem)(K:dw->Mem->Prop):Prop:=
 match ops[i]? with
 |none=>False
 |some o=>qy ops o st (λeN=>V1 E false fz o eN μ K) (λeN=>K (cN o eN (.az [])) μ)
def Vq(E:kr)(fz:List Nat)(ops:Array Oper)(Q:dw->Mem->Prop):im->dw->Mem->Prop
 | .nil,st,μ=>Q st μ
 | .tk i q,st,μ=>wQ E fz ops true μ i st λbV=>Vq E fz ops Q q bV μ
 | .ld i q r,st,μ=>(wQ E fz ops true μ i st λbV=>Vq E fz ops Q q bV μ)/\Vq E fz ops Q r st μ
 | .alt i q r,st,μ=>(PO E fz ops i st μ λbV μ'=>Vq E fz ops Q q bV μ')/\Vq E fz ops Q r st μ
 | .done,_,_=>True
def Nd(c:uw)(J:zd c.live->Mem->Prop)(st:dw)(μ:Mem):Prop:=
 bif pU st c.fD then(match qz st c.live with
  |some s=>J s μ
  |none=>False)else False
def Er(next:dw->Mem->Prop)(Q:Exit->dw->Mem->Prop):Exit->dw->Mem->Prop
 | .normal,st,μ=>next st μ
 |e,st,μ=>Q e st μ
def FT(id:Nat)(Q:Exit->dw->Mem->Prop):Exit->dw->Mem->Prop
 | .exit i,st,μ=>bif beq i id then Q .normal st μ else Q (.exit i) st μ
 |e,st,μ=>Q e st μ
def YC(K:dw->Mem->Prop):Exit->dw->Mem->Prop
 | .normal,st,μ=>K st μ
 |_,_,_=>False
def Uk(R:Option Code->Mem->Prop):Exit->dw->Mem->Prop
 | .normal,_,μ=>R none μ
 | .ret,_,μ=>R (some .ret) μ
 | .exit i,_,μ=>R (some (.exit i)) μ
 |_,_,_=>False
def Hg(σ:uv):uv:=λt=>match σ t with| .box _ _=>.aY|v=>v
def EA(σ:uv):List Nat->List PV->uv
 |p::ps,v::vs=>EA (aH σ p v) ps vs
 |_,_=>σ
def V(E:kr):List Nat->Code->(Exit->dw->Mem->Prop)->dw->Mem->Prop
 |_,.skip,Q,st,μ=>Q .normal st μ
 |_,.ret,Q,st,μ=>Q .ret st μ
 |_,.exit i,Q,st,μ=>Q (.exit i) st μ
 |fz,.region _ ops false,Q,st,μ=>Vl E fz ops (Q .normal) ops.toList st μ
 |fz,.region id ops true,Q,st,μ=>bif E.P.follows .mixedOrders then(bif isQ E.eX id then(match oh ops with
  |some p=>Vq E fz ops (Q .normal) p st μ
  |none=>False)else match ti ops with
  |some p=>Vd E fz ops μ (Q .normal) true p st μ
  |none=>False)else False
 |fz,.seq a b,Q,st,μ=>match(fx b).bind (look E.i_)with
  |none=>V E fz a (Er (λbV μ'=>V E fz b Q bV μ') Q) st μ
  |some l=>bif om fz st.D l.er then cf (λJ=>V E (freeze fz st.D l.er) a (Er (Nd l J) Q) st μ) (λs μ'=>V E fz b Q (YH st (writes a) l s) μ')else False
 |fz,.cond c a b,Q,st,μ=>match sy st.σ c with
  | .raw (.bool t)=>ab t (V E fz a Q st μ) (V E fz b Q st μ)
  |_=>False
 |fz,.block id a,Q,st,μ=>V E fz a (FT id Q) st μ
 |fz,.loop a,Q,st,μ=>match(fx a).bind (look E.loops)with
  |none=>False
  |some l=>bif om fz st.D l.er then Nd l (ak λnext s μ'=>V E (freeze fz st.D l.er) a (Er (Nd l next) Q) (YH st (writes a) l s) μ') st μ else False
 |_,.rangeFunc f ps assign body,Q,st,μ=>match look E.rB (ps.toList.headD 0)with
  |none=>False
  |some ts=>bif beq ts.length ps.toList.length then
    bu E.P (sy st.σ f) (λvs R μ'=>My E.P (match ps.toList with|p::_=>cM E.kN p|[]=>false) ts λoQ=>vs=oQ/\V E [] assign (YC λeN μ1=>V E [] body (Uk R) eN μ1) ⟨EA (Hg st.σ) ps.toList oQ,[]⟩ μ')
     (λp μ'=>PK p (Q .normal st μ') (bif lN body then Q .ret st μ' else False) ((Lt (jC body)).map λi=>(i,Q (.exit i) st μ'))) μ
   else False
 |_,_,_,_,_=>False
def MR(args:List PV):uv:=λt=>(args[t]?).getD (.az [])
def uS(P:Program)(rw:List Nat)(st:dw)(μ:Mem):List ResultVar->(List PV->Prop)->Prop
 |[],F=>F []
 | .tmp t::l,F=>bif (st.σ t).ok then uS P rw st μ l λvs=>F (st.σ t::vs)else False
 | .cell a t::l,F=>match lK P (cM rw a) t with
   |none=>False
   |some ks=>match st.σ a with
    | .box k off=>match eR st.D k with
      |some m=>bif ble (off+ks.length) m&&aU (EG st.σ k off ks.length)then uS P rw st μ l λvs=>F (Tv (di P t) (EG st.σ k off ks.length)::vs)else False
      |none=>False
    |v=>aN v λb off=>Ou ks λus=>ay μ b off ks.length=some us/\uS P rw st μ l λvs=>F (Tv (di P t) us::vs)
def PC(R:Kq)(μ:Mem):List PV->Prop
 |[v]=>R v μ
 |vs=>R (.az vs) μ
def ab5(P:Program)(rw:List Nat)(rs:List ResultVar)(R:Kq):Exit->dw->Mem->Prop
 | .ret,st,μ=>uS P rw st μ rs (PC R μ)
 | .normal,st,μ=>uS P rw st μ rs (PC R μ)
 |_,_,_=>False
def VF(E:kr)(c:Code)(rs:List ResultVar)(args:List PV)(μ:Mem)(R:Kq):Prop:=
 V E [] c (ab5 E.P E.kN rs R) ⟨MR args,[]⟩ μ
theorem cF.nil(Z:Fz):cF Z [] []:=⟨rfl,by simp⟩
theorem cF.cons{Z:Fz}{p:PV}{ps:List PV}{v:Value}{vs:List Value}(h:bR Z p v)(hs:cF Z ps vs):cF Z (p::ps) (v::vs):=
 ⟨by simp[hs.1],λi q w a b=>by
  cases i with
  |zero=>simp only[List.getElem?_cons_zero,Option.some.injEq]at a b;subst a;subst b;exact h
  |succ i=>simp only[List.getElem?_cons_succ]at a b;exact hs.2 i q w a b⟩
theorem cF.inv{Z:Fz}{p:PV}{ps:List PV}{vs:List Value}(h:cF Z (p::ps) vs):∃v oQ,vs=v::oQ/\bR Z p v/\cF Z ps oQ:=by
 obtain⟨hl,h⟩:=h;cases vs with
 |nil=>simp at hl
 |cons v vs=>exact⟨v,vs,rfl,h 0 p v rfl rfl,by simpa using hl,λi q w a b=>h (i+1) q w (by simpa using a) (by simpa using b)⟩
theorem cF.mT{Z:Fz}{vs:List Value}(h:cF Z [] vs):vs=[]:=List.eq_nil_of_length_eq_zero h.1
theorem bq.m{Z:Fz}{ps:List PV}{vs:List Value}(h:bq Z ps vs):cF Z ps vs:=⟨h.1,λi p v a b=>(h.2 i p v a b).2⟩
theorem bn.m{Z:Fz}{ps:List PV}{vs:List Value}(h:bn Z ps vs):cF Z ps vs:=⟨h.1,λi p v a b=>(h.2 i p v a b).2⟩
theorem cF.c{Z:Fz}{ps:List PV}{vs:List Value}(h:cF Z ps vs)(hc:aU ps=true):bq Z ps vs:=
 ⟨h.1,λi p v a b=>⟨all_eq_true.1 hc p (mem_of_getElem? a),h.2 i p v a b⟩⟩
theorem cF.s{Z:Fz}{ps:List PV}{vs:List Value}(h:cF Z ps vs)(hc:IF ps=true):bn Z ps vs:=
 ⟨h.1,λi p v a b=>⟨all_eq_true.1 hc p (mem_of_getElem? a),h.2 i p v a b⟩⟩
theorem cF.mono{Z Z':Fz}(hz:Z.le Z'){ps:List PV}{vs:List Value}(h:cF Z ps vs):cF Z' ps vs:=⟨h.1,λi p v a b=>(h.2 i p v a b).mono hz⟩
theorem bq.aU{Z:Fz}{ps:List PV}{vs:List Value}(h:bq Z ps vs):aU ps=true:=by
 refine all_eq_true.2 λp hp=>?_;obtain⟨i,hi⟩:=mem_iff_getElem?.1 hp;obtain⟨v,_,hc,_⟩:=h.get hi;exact hc
theorem bq.rZ{Z:Fz}{ps:List PV}{vs:List Value}(h:bq Z ps vs):bR Z (.agg ps) (.agg vs.toArray):=
 .agg ps vs h.1 (λp hp=>all_eq_true.1 h.aU p hp) λi p v a b=>(h.2 i p v a b).2
theorem bn.uH{Z:Fz}{ps:List PV}{vs:List Value}(h:bn Z ps vs):bR Z (.az ps) (.tuple vs.toArray):=by
 refine .az ps vs h.1 (λp hp=>?_) λi p v a b=>(h.2 i p v a b).2;obtain⟨i,hi⟩:=mem_iff_getElem?.1 hp;obtain⟨v,_,hc,_⟩:=h.get hi;exact hc
theorem bR.qe{Z:Fz}{ps:List PV}{v:Value}(h:bR Z (.agg ps) v):∃vs:List Value,v=.agg vs.toArray/\bq Z ps vs:=by
 cases h with
 |agg cs vs hl hk h=>exact⟨vs,rfl,hl,λi p v a b=>⟨hk p (mem_of_getElem? a),h i p v a b⟩⟩
theorem bR.AK{Z:Fz}{ps:List PV}{v:Value}(h:bR Z (.az ps) v):∃vs:List Value,v=.tuple vs.toArray/\bn Z ps vs:=by
 cases h with
 |az cs vs hl hk h=>exact⟨vs,rfl,hl,λi p v a b=>⟨hk p (mem_of_getElem? a),h i p v a b⟩⟩
theorem bR.ofRaw{Z:Fz}{v w:Value}(h:bR Z (.raw v) w):w=v/\aP.plain v=true/\one v=true:=by
 cases h;exact⟨rfl,by assumption,by assumption⟩
theorem bR.yz{Z:Fz}{k o:Nat}{w:Value}(h:bR Z (.box k o) w):w=dK k o:=by cases h;rfl
theorem bR.ofFn{Z:Fz}{f:Fn}{a b:List PV}{w:Value}(h:bR Z (.fn f a b) w):∃fv cv:List Value,w=.func f fv.toArray cv.toArray/\bn Z a fv/\bn Z b cv:=by
 cases h with
 |fn f first tP fv cv h1 h2 kf kc hf hc=>exact⟨fv,cv,rfl,⟨h1,λi p v a b=>⟨kf p (mem_of_getElem? a),hf i p v a b⟩⟩,⟨h2,λi p v a b=>⟨kc p (mem_of_getElem? a),hc i p v a b⟩⟩⟩
theorem bn.Eo{Z:Fz}{f:Fn}{a b:List PV}{fv cv:List Value}(h:bn Z a fv)(k:bn Z b cv):bR Z (.fn f a b) (.func f fv.toArray cv.toArray):=by
 refine .fn f a b fv cv h.1 k.1 (λp hp=>?_) (λp hp=>?_) (λi p v a b=>(h.2 i p v a b).2) (λi p v a b=>(k.2 i p v a b).2)
 ·obtain⟨i,hi⟩:=mem_iff_getElem?.1 hp;obtain⟨v,_,hc,_⟩:=h.get hi;exact hc
 ·obtain⟨i,hi⟩:=mem_iff_getElem?.1 hp;obtain⟨v,_,hc,_⟩:=k.get hi;exact hc
theorem bR.ofList{Z:Fz}{sz:Nat}{fl:Fl}{rows:Lq}{w:Value}(h:bR Z (.list sz fl rows) w):∃a n c,w=.slice a n c/\rows.length=n/\n<=c/\(c=0\/gZ a)/\Tu fl a n c:=by
 cases h;exact⟨_,_,_,rfl,by assumption,by assumption,by assumption,by assumption⟩
theorem bR.ES{Z:Fz}{sz T_:Nat}{fl:Fl}{w:Value}(h:bR Z (.list sz fl []) w):bR Z (.list T_ fl []) w:=by
 cases h with
 |list _ _ _ a n c b o C g hn hc hs hr ha hg hk hp hf=>
  simp only[List.length_nil]at hn;subst hn;exact .list T_ fl [] a 0 c b o C g rfl hc hs (by simp) (λh=>absurd rfl h) (λi j hi=>absurd hi (Nat.not_lt_zero i)) (by simp) (by simp) hf
theorem bR.flag{Z:Fz}{sz:Nat}{fl jZ:Fl}{rows:Lq}{w:Value}(h:bR Z (.list sz fl rows) w)(hf':∀a n c,w=.slice a n c->Tu jZ a n c):bR Z (.list sz jZ rows) w:=by
 cases h with
 |list _ _ _ a n c b o C g hn hc hs hr ha hg hk hp hf=>exact .list sz jZ rows a n c b o C g hn hc hs hr ha hg hk hp (hf' a n c rfl)
theorem bR.sh{Z:Fz}{sz:Nat}{fl:Fl}{rows:Lq}{w:Value}(h:bR Z (.list sz fl rows) w):bR Z (.list sz .sh rows) w:=h.flag λ_ _ _ _=>trivial
theorem bR.bU{Z:Fz}{p:PV}{w:Value}(h:bR Z p w):bR Z (bU p) w:=by
 cases p<;>first|exact h.sh|exact h
theorem Py{p:PV}:(bU p).cell=p.cell:=by cases p<;>rfl
theorem XS{p:PV}:(bU p).ok=p.ok:=by cases p<;>rfl
theorem bq.wk{Z:Fz}{ps:List PV}{vs:List Value}(h:bq Z ps vs):bq Z (ps.map aP.bU) vs:=
 ⟨by simp[h.1],λi p v a b=>by
  rw[getElem?_map]at a
  cases hq:ps[i]? with
  |none=>simp[hq]at a
  |some q=>
   simp only[hq,map_some,Option.some.injEq]at a
   subst a
   exact⟨by rw[Py];exact(h.2 i q v hq b).1,(h.2 i q v hq b).2.bU⟩⟩
theorem bR.yW{Z:Fz}{p:PV}{w:Value}(h:bR Z p w):bR Z (yW p) w:=by
 cases p<;>try exact h
 obtain⟨vs,rfl,hc⟩:=h.qe;exact hc.wk.rZ
theorem Jj{p:PV}:(yW p).ok=p.ok:=by cases p<;>rfl
theorem bR.wk{Z:Fz}{p:PV}{w:Value}(h:bR Z p w):bR Z (wk p) w:=by
 cases p with
 |agg cs=>exact h.yW
 |az vs=>
  obtain⟨ws,rfl,hs⟩:=h.AK;refine bn.uH ⟨by simp[hs.1],λi p v a b=>?_⟩;rw[getElem?_map]at a;cases hq:vs[i]? with
  |none=>simp[hq]at a
  |some q=>
   simp only[hq,map_some,Option.some.injEq]at a;subst a;have:=hs.2 i q v hq b;exact⟨by rw[Jj,XS];exact this.1,this.2.bU.yW⟩
 |_=>exact h.bU
theorem abF{p:PV}:(aP.wk p).ok=p.ok:=by cases p<;>rfl
theorem bR.YB{Z:Fz}{sz:Nat}{p:PV}{w:Value}(h:bR Z p w):bR Z (YB sz p) w:=by
 unfold aP.YB;split
 ·exact h.ES
 ·exact h
theorem QB{sz:Nat}{p:PV}:(YB sz p).cell=p.cell:=by unfold YB;split<;>rfl
theorem bq.AL{Z:Fz}:∀{ks:List KV} {ps:List PV} {vs:List Value},bq Z ps vs->bq Z (AL ks ps) vs
 |[],ps,vs,h=>by simpa[aP.AL]using h
 |k::ks,[],vs,h=>by cases k<;>simpa[aP.AL]using h
 | .list sz::ks,p::ps,vs,h=>by
   obtain⟨v,oQ,rfl,h1,h2,h3⟩:=h.inv
   exact bq.cons (by rw[QB];exact h1) h2.YB h3.AL
 | .raw k::ks,p::ps,vs,h=>by
   obtain⟨v,oQ,rfl,h1,h2,h3⟩:=h.inv;exact bq.cons h1 h2 h3.AL
 | .fn::ks,p::ps,vs,h=>by
   obtain⟨v,oQ,rfl,h1,h2,h3⟩:=h.inv;exact bq.cons h1 h2 h3.AL
theorem bR.fZ{Z:Fz}{P:Program}{t:TypeId}{p:PV}{w:Value}(h:bR Z p w):bR Z (fZ P t p) w:=by
 unfold aP.fZ;split
 ·split
  ·obtain⟨vs,rfl,hc⟩:=h.qe;exact hc.AL.rZ
  ·split
   ·exact h.ES
   ·exact h
  ·exact h
 ·exact h
theorem og{P:Program}{t:TypeId}{p:PV}:(fZ P t p).ok=p.ok:=by
 unfold fZ;split
 ·split
  ·rfl
  ·split<;>rfl
  ·rfl
 ·rfl
theorem bR.OO{Z:Fz}{P:Program}{t:TypeId}{p:PV}{w:Value}(h:bR Z p w):bR Z (OO P t p) w:=h.fZ.yW
theorem We{P:Program}{t:TypeId}{p:PV}:(OO P t p).ok=p.ok:=by unfold OO;rw[Jj,og]
theorem bn.sA{Z:Fz}{P:Program}:∀{ts:List TypeId} {ps:List PV} {vs:List Value},bn Z ps vs->bn Z (sA P ts ps) vs
 |[],ps,vs,h=>by simpa[aP.sA]using h
 |t::ts,[],vs,h=>by simpa[aP.sA]using h
 |t::ts,p::ps,vs,h=>by
  obtain⟨v,oQ,rfl,h1,h2,h3⟩:=h.inv
  exact bn.cons (by rw[We];exact h1) h2.OO h3.sA
theorem Hr(Z:Fz)(v:Value):bR Z (Cu v) v:=by
 unfold Cu;split
 ·exact .list 0 .nil [] none 0 0 0 0 [] (λ_ _=>undef) rfl (le_refl _) (.inl rfl) (by simp) (λh=>absurd rfl h) (λi j hi=>absurd hi (Nat.not_lt_zero i)) (by simp) (by simp) ⟨rfl,rfl,rfl⟩
 ·exact .aY _
 ·exact .aY _
 ·exact .aY _
 ·exact .aY _
 ·exact .aY _
 ·rename_i f a b;cases hb:(beq a.size 0&&beq b.size 0)with
  |false=>exact .aY _
  |true=>
   simp only[and_eq_true,beq_iff]at hb;have h1:a= #[]:=Array.eq_empty_of_size_eq_zero hb.1;have h2:b= #[]:=Array.eq_empty_of_size_eq_zero hb.2;subst h1;subst h2;exact bn.Eo (fv:=[]) (cv:=[]) (bn.nil Z) (bn.nil Z)
 ·rename_i h1 h2 h3 h4 h5 h6 h7;refine .raw v ?_ ?_
  ·cases v<;>first|rfl|(exact absurd rfl (h5 _ _ _))
  ·cases v<;>first|rfl|(exact absurd rfl (h3 _))|(exact absurd rfl (h4 _))
theorem Dx(Z:Fz)(l:List Value):cF Z (l.map Cu) l:=
 ⟨by simp,λi p v a b=>by
  rw[getElem?_map,b]at a
  simp only[map_some,Option.some.injEq]at a
  subst a;exact Hr Z v⟩
theorem zB(Z:Fz)(v:Value):bR Z (ofV v) v:=by
 unfold ofV;split
 ·rename_i a;cases hb:aU (a.toList.map Cu)with
  |false=>exact .aY _
  |true=>simpa using((Dx Z a.toList).c hb).rZ
 ·rename_i a;cases hb:IF (a.toList.map Cu)with
  |false=>exact .aY _
  |true=>simpa using((Dx Z a.toList).s hb).uH
 ·exact Hr Z v
structure df(Z:Fz)(p:dw)(s:St):Prop where
 D:p.D=s.D
 slot:∀t,bR Z (p.σ t) (s.σ t)
theorem df.mono{Z Z':Fz}(hz:Z.le Z'){p:dw}{s:St}(h:df Z p s):df Z' p s:=⟨h.D,λt=>(h.slot t).mono hz⟩
def fh(Z:Fz)(p:uv)(s:Fr):Prop:=∀t,bR Z (p t) (s t)
theorem fh.iM{Z:Fz}{p:uv}{s:Fr}(h:fh Z p s){t:Nat}{x:PV}{v:Value}(hv:bR Z x v):fh Z (aH p t x) (iM s t v):=by
 intro i;unfold aH aP.iM;cases beq i t
 ·exact h i
 ·exact hv
theorem fh.put{Z:Fz}{p:uv}{s:Fr}(h:fh Z p s){d:Option Nat}{x:PV}{v:Value}(hv:bR Z x v):fh Z (JI p d x) (put s d v):=by
 cases d with
 |none=>exact h
 |some t=>exact h.iM hv
theorem fh.qX{Z:Fz}{k:Nat}:∀{ps:List PV} {vs:List Value} {p:uv} {s:Fr} {j:Nat},fh Z p s->cF Z ps vs->fh Z (Ej p k j ps) (qX s k j vs)
 |[],vs,p,s,j,h,hv=>by rw[hv.mT];exact h
 |x::ps,vs,p,s,j,h,hv=>by
  obtain⟨v,oQ,rfl,h1,h2⟩:=hv.inv
  exact fh.qX (p:=aH p (gx k j) x) (s:=aP.iM s (gx k j) v) (j:=j+1) (h.iM h1) h2
theorem fh.wW{Z:Fz}{p:uv}{s:Fr}{k:Nat}(h:fh Z p s):∀(m j:Nat),cF Z (EG p k j m) (aP.wW s k j m)
 |0,_=>cF.nil Z
 |m+1,j=>cF.cons (h _) (h.wW m (j+1))
theorem yx(σ:uv)(k:Nat):∀(m j:Nat),(EG σ k j m).length=m
 |0,_=>rfl
 |m+1,j=>by simp[EG,yx σ k m (j+1)]
theorem df.ev{Z:Fz}{p:dw}{s:St}(h:df Z p s)(x:Operand):bR Z (sy p.σ x) (ev s.σ x):=by
 cases x with
 |tmp t=>exact h.slot t
 |const v=>exact zB Z v
 |global g=>exact .raw _ rfl rfl
 |func f=>exact bn.Eo (fv:=[]) (cv:=[]) (bn.nil Z) (bn.nil Z)
theorem df.fin{Z:Fz}{p:dw}{s:St}(h:df Z p s)(o:Oper){x:PV}{v:Value}(hv:bR Z x v):df Z (cN o p x) (fin o s v):=⟨h.D,fh.put h.slot hv⟩
theorem KV.Qt(k:KV)(x:k.T):(k.p x).cell=true:=by cases k<;>rfl
theorem Ht{fl:Fl}{rows:Lq}{x:Fl×Lq}(h:JS fl rows=some x):fl=.nil/\rows=[]/\x=(.nil,[]):=by
 unfold JS at h;split at h
 ·simp only[Option.some.injEq]at h;exact⟨rfl,rfl,h.symm⟩
 ·cases h
theorem KV.Fv{Z:Fz}{k:KV}{p:PV}{v:Value}{x:k.T}(h:bR Z p v)(hg:k.get p=some x):∃y:k.er.T,k.er.get v=some y/\bR Z (k.p x) (k.er.v y):=by
 cases k with
 |raw k=>
  cases p with
  |raw v0=>
   simp only[KV.get]at hg;obtain⟨rfl,hp,h1⟩:=h.ofRaw;refine⟨x,hg,?_⟩;have:=K1.Mw hg;rw[this]at hp h1;exact .raw _ hp h1
  |list sz fl rows=>
   cases k with
   |slice=>
    cases fl with
    |nil=>
     simp only[KV.get,Option.some.injEq]at hg;subst hg;obtain⟨a,n,c,rfl,_,_,_,hf⟩:=h.ofList;obtain⟨rfl,rfl,rfl⟩:=hf;exact⟨(none,0,0),rfl,.raw _ rfl rfl⟩
    |_=>simp[KV.get]at hg
   |_=>simp[KV.get]at hg
  |_=>simp[KV.get]at hg
 |list sz=>
  cases p<;>simp only[KV.get]at hg<;>try (cases hg;done)
  rename_i T_ fl rows;obtain⟨a,n,c,rfl,_⟩:=h.ofList;refine⟨(a,n,c),rfl,?_⟩;cases hb:beq sz T_ with
  |true=>
   rw[hb]at hg;simp only[cond_true,Option.some.injEq]at hg;subst hg;have:=beq_iff.1 hb;subst this;exact h
  |false=>
   rw[hb]at hg;obtain⟨rfl,rfl,rfl⟩:=Ht hg;exact h.ES
 |fn=>
  cases p<;>simp only[KV.get]at hg<;>try (cases hg;done)
  rename_i f a b;obtain⟨fv,cv,rfl,h1,h2⟩:=h.ofFn;simp only[Option.some.injEq]at hg;subst hg;exact⟨(f,fv.toArray,cv.toArray),rfl,bn.Eo h1 h2⟩
theorem Ld{k k':K1}{ks:List K1}{v:Value}{vs:List Value}{x:k.T}{y:TL (k'::ks)}(h1:k.get v=some x)(h2:kC (k'::ks) vs=some y):kC (k::k'::ks) (v::vs)=some (x,y):=by
 simp only[kC,h1,h2]
theorem Fx{s:St}{x y:Nat×Kd}{l:Live}{a:x.2.T}{b:Tup (y::l)}(h1:yK s x=some a)(h2:fP s (y::l)=some b):fP s (x::y::l)=some (a,b):=by
 simp only[fP,h1,h2]
theorem tW{Z:Fz}:∀{ks:List KV} {ps:List PV} {vs:List Value} {x:TLP ks},cF Z ps vs->oI ks ps=some x->∃y:TL (ks.map KV.er),kC (ks.map KV.er) vs=some y/\cF Z (FZ ks x) (Lc (ks.map KV.er) y)
 |[],[],vs,x,h,_=>by rw[h.mT];exact⟨(),rfl,cF.nil Z⟩
 |[],_::_,_,_,_,hg=>by simp[oI]at hg
 |[k],[],_,_,_,hg=>by simp[oI]at hg
 |[k],[p],vs,x,h,hg=>by
  obtain⟨v,oQ,rfl,h1,h2⟩:=h.inv
  rw[h2.mT];obtain⟨y,hy,hr⟩:=KV.Fv h1 hg;exact⟨y,hy,cF.cons hr (cF.nil Z)⟩
 |[k],_::_::_,_,_,_,hg=>by simp[oI]at hg
 |k::k'::ks,[],_,_,_,hg=>by simp[oI]at hg
 |k::k'::ks,p::ps,vs,x,h,hg=>by
  obtain⟨v,oQ,rfl,h1,h2⟩:=h.inv;simp only[oI]at hg;split at hg
  ·rename_i a b ha hb;simp only[Option.some.injEq]at hg;subst hg;obtain⟨y,hy,hr⟩:=KV.Fv h1 ha;obtain⟨ys,hys,Jc⟩:=tW (ks:=k'::ks) h2 hb;refine⟨(y,ys),?_,cF.cons hr Jc⟩;exact Ld hy hys
  ·cases hg
theorem Eg:∀(ks:List KV) (x:TLP ks),aU (FZ ks x)=true
 |[],_=>rfl
 |[k],x=>by simp[FZ,aU,KV.Qt]
 |k::k'::ks,x=>by
  have:=Eg (k'::ks) x.2
  simp only[aU]at this;simp only[FZ,aU,all_cons,KV.Qt,this,Bool.and_self]
def Wp(Z:Fz):(x:Nat×TG)->x.2.T->(Kd.T x.2.er)->Prop
 |(_,.one k),a,b=>bR Z (k.p a) (k.er.v b)
 |(_,.agg ks),a,b=>cF Z (FZ ks a) (Lc (ks.map KV.er) b)
 |(_,.box ks),a,b=>cF Z (FZ ks a) (Lc (ks.map KV.er) b)
def tX(Z:Fz):(l:sD)->zd l->Tup l.er->Prop
 |[],_,_=>True
 |[x],a,b=>Wp Z x a b
 |x::y::l,a,b=>Wp Z x a.1 b.1/\tX Z (y::l) a.2 b.2
theorem DP{Z:Fz}{p:dw}{s:St}(hr:df Z p s):∀{x:Nat×TG} {a:x.2.T},Bs p x=some a->∃b,yK s (x.1,x.2.er)=some b/\Wp Z x a b
 |(t,.one k),a,h=>KV.Fv (hr.slot t) h
 |(t,.agg ks),a,h=>by
  simp only[Bs]at h
  have hs:=hr.slot t
  split at h
  ·rename_i cs he;rw[he]at hs;obtain⟨vs,hv,hc⟩:=hs.qe;obtain⟨y,hy,hm⟩:=tW hc.m h;refine⟨y,?_,hm⟩;show(match s.σ t with| .agg a=>kC (ks.map KV.er) a.toList|_=>none)=some y;rw[hv];exact hy
  ·cases h
 |(t,.box ks),a,h=>by
  simp only[Bs]at h;have hs:=hr.slot t;split at h
  ·rename_i k o he;rw[he]at hs;have hv:=hs.yz;cases hb:((beq k t&&beq o 0)&&h_ p.D t ks.length)with
   |false=>rw[hb]at h;cases h
   |true=>
    rw[hb]at h;obtain⟨y,hy,hm⟩:=tW (fh.wW hr.slot _ _) h;refine⟨y,?_,hm⟩
    show(match s.σ t with
     | .complex .f64 k o=>bif (beq k t&&beq o 0)&&h_ s.D t (ks.map KV.er).length then kC (ks.map KV.er) (wW s.σ t 0 (ks.map KV.er).length)else none
     |_=>none)=some y
    rw[hv];simp only[length_map,<- hr.D,hb,cond_true];exact hy
  ·cases h
theorem yJ{Z:Fz}{p:dw}{s:St}(hr:df Z p s):∀{l:sD} {a:zd l},qz p l=some a->∃b,fP s l.er=some b/\tX Z l a b
 |[],_,_=>⟨(),rfl,trivial⟩
 |[x],a,h=>DP hr h
 |x::y::l,a,h=>by
  simp only[qz]at h
  split at h
  ·rename_i a1 a2 h1 h2
   simp only[Option.some.injEq]at h
   subst h
   obtain⟨b1,Je,r1⟩:=DP hr h1
   obtain⟨b2,qv,r2⟩:=yJ (l:=y::l) hr h2;refine⟨(b1,b2),?_,r1,r2⟩;exact Fx Je qv
  ·cases h
theorem Di{Z:Fz}:∀{p:dw} {s:St} (_:df Z p s) {x:Nat×TG} {a:x.2.T} {b:Kd.T x.2.er},Wp Z x a b->df Z (JF p x a) (ku s (x.1,x.2.er) b)
 |p,s,hr,(t,.one k),a,b,h=>⟨hr.D,fh.iM hr.slot h⟩
 |p,s,hr,(t,.agg ks),a,b,h=>⟨hr.D,fh.iM hr.slot (h.c (Eg ks a)).rZ⟩
 |p,s,hr,(t,.box ks),a,b,h=>by
  refine⟨?_,fh.qX (fh.iM hr.slot (.box t 0)) h⟩
  show(bif h_ p.D t ks.length then p.D else(t,ks.length)::p.D)=(bif h_ s.D t (ks.map KV.er).length then s.D else(t,(ks.map KV.er).length)::s.D)
  rw[length_map,hr.D]
theorem yr{Z:Fz}:∀{l:sD} {p:dw} {s:St} (_:df Z p s) {a:zd l} {b:Tup l.er},tX Z l a b->df Z (Ao p l a) (rf s l.er b)
 |[],p,s,hr,_,_,_=>hr
 |[x],p,s,hr,_,_,h=>Di hr h
 |x::y::l,p,s,hr,a,b,h=>yr (l:=y::l) (Di hr h.1) h.2
theorem Cs(Z:Fz)(m:Nat):cF Z (replicate m .aY) (replicate m aY):=
 ⟨by simp,λi p v a b=>by
  rw[List.getElem?_replicate]at a b
  split at a
  ·rename_i h
   rw[if_pos h]at b
   cases a;cases b;exact .aY _
  ·cases a⟩
theorem Ap{Z:Fz}:∀{l:List (Nat×Nat)} {p:uv} {s:Fr},fh Z p s->fh Z (zz p l) (eW s l)
 |[],_,_,h=>h
 |(k,m)::l,p,s,h=>Ap (l:=l) (p:=Ej (aH p k (.box k 0)) k 0 (replicate m .aY)) (s:=qX (iM s k (dK k 0)) k 0 (replicate m aY)) (fh.qX (h.iM (.box k 0)) (Cs Z m))
theorem Qq{Z:Fz}{p:uv}{s:Fr}(h:fh Z p s)(ws:List Nat):fh Z (LO p ws) (uX s ws):=by
 intro t;unfold LO uX;cases(blt t 65536&&cM ws t)
 ·exact h t
 ·exact .aY _
theorem LY{Z:Fz}{p:dw}{s:St}(hr:df Z p s)(ws:List Nat){c:uw}{a:zd c.live}{b:Tup c.live.er}(h:tX Z c.live a b):df Z (YH p ws c a) (mix s ws c.er b):=
 yr (l:=c.live) (p:={p with σ:=zz (LO p.σ ws) c.fD}) (s:={s with σ:=eW (uX s.σ ws) c.fD}) ⟨hr.D,Ap (Qq hr.slot ws)⟩ h
theorem yu{Z:Fz}{p:dw}{s:St}(hr:df Z p s):∀{l:List (Nat×Nat)},pU p l=true->kL s l=true
 |[],_=>rfl
 |(k,m)::l,h=>by
  simp only[pU,and_eq_true]at h
  simp only[kL,and_eq_true]
  refine⟨⟨by rw[<- hr.D];exact h.1.1,?_⟩,yu hr h.2⟩
  have h1:=h.1.2
  have hs:=hr.slot k;unfold QV at h1;split at h1
  ·rename_i k' o he;rw[he]at hs;rw[hs.yz];exact h1
  ·cases h1
theorem Lw{Z:Fz}{p:dw}{s:St}(hr:df Z p s){c:uw}{J:zd c.live->Mem->Prop}{J':Tup c.er.live->UW->Prop}{μ:Mem}{u:UW}(h:Nd c J p μ)(hJ:∀a b,tX Z c.live a b->J a μ->J' b u):TT c.er J' s u:=by
 unfold Nd at h;unfold TT;cases hs:pU p c.fD with
 |false=>rw[hs]at h;exact h.elim
 |true=>
  rw[hs]at h;have:kL s c.er.fD=true:=yu hr hs;rw[this];simp only[cond_true]at h |-;cases hg:qz p c.live with
  |none=>rw[hg]at h;exact h.elim
  |some a=>
   rw[hg]at h;obtain⟨b,hb,hrb⟩:=yJ hr hg;have jY:fP s c.er.live=some b:=hb;rw[jY];exact hJ a b hrb h
theorem tv(P:Program)(r:Bool):∀(f:Nat) (t:TypeId) {ks:List KV},mJ P r f t=some ks->tw P f t=some (ks.map KV.er)
 |0,_,_,h=>by simp[mJ]at h
 |f+1,t,ks,h=>by
  unfold mJ at h
  unfold tw
  cases hu:P.underlying t with
  |none=>rw[hu]at h;cases h
  |some d=>
   rw[hu]at h
   cases d<;>simp only at h |- <;>try (cases h;done)
   case int=>cases h;rfl
   case bool=>cases h;rfl
   case string=>cases h;rfl
   case slice=>cases r<;>(cases h;rfl)
   case pointer=>cases h;rfl
   case func=>cases h;rfl
   case map=>cases h;rfl
   case struct fs=>
    generalize fs.toList=l at h
    induction l generalizing ks with
    |nil=>simp only[List.foldr_nil,Option.some.injEq]at h;subst h;rfl
    |cons x l ih=>
     simp only[List.foldr_cons]at h |-
     split at h
     ·rename_i a b ha hb
      simp only[Option.some.injEq]at h
      subst h
      rw[tv P r f x.type ha,ih _ hb]
      simp
     ·cases h
   case array n e=>
    cases hk:mJ P r f e with
    |none=>rw[hk]at h;cases h
    |some UN=>
     rw[hk]at h
     simp only[Option.some.injEq]at h
     subst h
     rw[tv P r f e hk]
     simp[List.map_flatten,List.map_replicate]
theorem xu{P:Program}{r:Bool}{t:TypeId}{ks:List KV}(h:lK P r t=some ks):kinds P t=some (ks.map KV.er):=by
 unfold lK at h;unfold kinds;cases hk:mJ P r 8 t with
 |none=>rw[hk]at h;cases h
 |some UN=>
  rw[hk]at h;rw[tv P r 8 t hk];simp only at h |-;rw[length_map];cases h1:beq UN.length (P.cellsOf t)with
  |false=>rw[h1]at h;cases h
  |true=>
   rw[h1]at h;cases h2:(di P t||beq UN.length 1)with
   |false=>rw[h2]at h;cases h
   |true=>
    rw[h2]at h;simp only[cond_true,Option.some.injEq]at h |-;subst h;rfl
theorem Ov{Z:Fz}{k:KV}{F:PV->Prop}(h:ZK k F):∃p,p.cell=true/\F p/\∀{G:Value->Prop} {v:Value},bR Z p v->G v->exK k.er G:=by
 cases k with
 |raw k=>
  cases k<;>simp only[ZK,exK]at h
  case int=>obtain⟨x,h⟩:=h;exact⟨_,rfl,h,λhr hG=>by rw[hr.ofRaw.1]at hG;exact⟨_,hG⟩⟩
  case bool=>obtain⟨x,h⟩:=h;exact⟨_,rfl,h,λhr hG=>by rw[hr.ofRaw.1]at hG;exact⟨_,hG⟩⟩
  case str=>obtain⟨x,h⟩:=h;exact⟨_,rfl,h,λhr hG=>by rw[hr.ofRaw.1]at hG;exact⟨_,hG⟩⟩
  case slice=>obtain⟨a,n,c,h⟩:=h;exact⟨_,rfl,h,λhr hG=>by rw[hr.ofRaw.1]at hG;exact⟨_,_,_,hG⟩⟩
  case ptr=>obtain⟨x,h⟩:=h;exact⟨_,rfl,h,λhr hG=>by rw[hr.ofRaw.1]at hG;exact⟨_,hG⟩⟩
  case fn=>obtain⟨f,a,b,h⟩:=h;exact⟨_,rfl,h,λhr hG=>by rw[hr.ofRaw.1]at hG;exact⟨_,_,_,hG⟩⟩
  case map=>obtain⟨x,h⟩:=h;exact⟨_,rfl,h,λhr hG=>by rw[hr.ofRaw.1]at hG;exact⟨_,hG⟩⟩
 |list sz=>
  obtain⟨fl,rows,h⟩:=h;exact⟨_,rfl,h,λhr hG=>by obtain⟨a,n,c,rfl,_⟩:=hr.ofList;exact⟨_,_,_,hG⟩⟩
 |fn=>
  obtain⟨f,a,b,h⟩:=h;exact⟨_,rfl,h,λhr hG=>by obtain⟨fv,cv,rfl,_⟩:=hr.ofFn;exact⟨_,_,_,hG⟩⟩
theorem nI{Z:Fz}:∀{ks:List KV} {F:List PV->Prop},Ou ks F->∃ps,ps.length=ks.length/\aU ps=true/\F ps/\∀{G:List Value->Prop} {vs:List Value},cF Z ps vs->G vs->ZJ (ks.map KV.er) G
 |[],F,h=>⟨[],rfl,rfl,h,λhr hG=>by rw[hr.mT]at hG;exact hG⟩
 |k::ks,F,h=>by
  obtain⟨p,hp,h,hk⟩:=Ov (Z:=Z) h
  obtain⟨ps,hl,hc,h,qt⟩:=nI (Z:=Z) h;refine⟨p::ps,by simp[hl],by simp only[aU,all_cons,hp,Bool.true_and];exact hc,h,λhr hG=>?_⟩;obtain⟨v,vs,rfl,h1,h2⟩:=hr.inv;exact hk h1 (qt (G:=λvs=>_) h2 hG)
theorem AQ{Z:Fz}{b:Bool}{ps:List PV}{vs:List Value}(h:bq Z ps vs):bR Z (Tv b ps) (EW b vs):=by
 cases b with
 |true=>exact h.rZ
 |false=>
  match ps,h with
  |[],h=>exact .aY _
  |[p],h=>
   obtain⟨v,oQ,rfl,h1,h2,h3⟩:=h.inv;rw[h3.mT];exact h2
  |p::p'::ps,h=>exact .aY _
theorem EX{P:Program}{r:Bool}{t:TypeId}{ks:List KV}(h:lK P r t=some ks){ps:List PV}(hl:ps.length=ks.length)(hc:aU ps=true):(Tv (di P t) ps).ok=true:=by
 unfold lK at h;split at h
 ·rename_i UN hk;cases h1:beq UN.length (P.cellsOf t)with
  |false=>rw[h1]at h;cases h
  |true=>
   rw[h1]at h;cases h2:(di P t||beq UN.length 1)with
   |false=>rw[h2]at h;cases h
   |true=>
    rw[h2]at h;simp only[cond_true,Option.some.injEq]at h;subst h;cases ha:di P t with
    |true=>rfl
    |false=>
     rw[ha]at h2;simp only[Bool.false_or,beq_iff]at h2;rw[h2]at hl
     match ps,hl with
     |[p],_=>
      simp only[aU,all_cons,List.all_nil,Bool.and_true]at hc;exact PV.EO hc
 ·cases h
theorem xD{Z:Fz}{P:Program}{r:Bool}{t:TypeId}{F:PV->Prop}(h:R_ P r t F):∃p,p.ok=true/\F p/\∀{G:Value->Prop} {v:Value},bR Z p v->G v->exV P t G:=by
 unfold R_ at h;cases hk:lK P r t with
 |none=>rw[hk]at h;exact h.elim
 |some ks=>
  rw[hk]at h;obtain⟨ps,hl,hc,hF,hex⟩:=nI (Z:=Z) h;refine⟨_,EX hk hl hc,hF,λ{G v} hr hG=>?_⟩;unfold exV;rw[xu hk];have aI:=EX hk hl hc;cases ha:di P t with
  |true=>
   rw[ha]at hr;obtain⟨vs,rfl,oB⟩:=bR.qe (ps:=ps) hr;exact hex (G:=λvs=>G (EW true vs)) oB.m hG
  |false=>
   rw[ha]at hr aI
   match ps,hr,aI with
   |[],hr,aI=>simp[Tv,PV.ok,PV.cell]at aI
   |[p],hr,aI=>exact hex (G:=λvs=>G (EW false vs)) (cF.cons hr (cF.nil Z)) hG
   |p::p'::ps,hr,aI=>simp[Tv,PV.ok,PV.cell]at aI
theorem tI{Z:Fz}{P:Program}{r:Bool}:∀{ts:List TypeId} {F:List PV->Prop},My P r ts F->∃ps,IF ps=true/\F ps/\∀{G:List Value->Prop} {vs:List Value},cF Z ps vs->G vs->KB P ts G
 |[],F,h=>⟨[],rfl,h,λhr hG=>by rw[hr.mT]at hG;exact hG⟩
 |t::ts,F,h=>by
  obtain⟨p,hp,h,hk⟩:=xD (Z:=Z) h
  obtain⟨ps,hc,h,qt⟩:=tI (Z:=Z) h;refine⟨p::ps,by simp only[IF,all_cons,hp,Bool.true_and];exact hc,h,λhr hG=>?_⟩;obtain⟨v,vs,rfl,h1,h2⟩:=hr.inv;exact hk h1 (qt (G:=λvs=>_) h2 hG)
theorem Oq{Z:Fz}{P:Program}{r:Bool}{t:TypeId}{F:PV->Prop}(h:Ot P r t F):∃p,F p/\∀{G:Value->Prop} {v:Value},bR Z p v->G v->Pr P t G:=by
 unfold Ot at h;unfold Pr;split at h
 ·rename_i ts hu;obtain⟨ps,_,hF,hex⟩:=tI (Z:=Z) h;refine⟨_,hF,λ{G v} hr hG=>?_⟩;obtain⟨vs,rfl,hc⟩:=hr.AK;rw[hu];exact hex (G:=λvs=>G (.tuple vs.toArray)) hc.m hG
 ·rename_i hu;obtain⟨p,_,hF,hex⟩:=xD (Z:=Z) h;refine⟨p,hF,λ{G v} hr hG=>?_⟩;split
  ·rename_i ts h2;exact absurd h2 (hu ts)
  ·exact hex hr hG
theorem xS.mono{P:Program}{f:Value}{args:List Value}{w:World}{R R':Ending->World->Prop}(h:xS P f args w R)(hr:∀e w',R e w'->R' e w'):xS P f args w R':=by
 unfold xS at*
 split at h
 ·exact⟨h.1,h.2.mono hr⟩
 ·obtain⟨h1,h2,r,h3,h4,h5⟩:=h;exact⟨h1,h2,r,h3,h4,h5.mono hr⟩
 ·exact h
theorem Lb.mono{P:Program}{f:Value}{args:List Value}{w:World}{F:Nat->Prop}{K K':Value->Nat->World->Prop}(h:Lb P f args w F K)(hk:∀v lo w',Mod F w w'->w.heap.size<=lo->lo<=lo->K v lo w'->K' v lo w'):Lb P f args w F K':=
 λw1 hs=>(h w1 hs).mono λ_ _ ⟨v,w',he,ho,hK⟩=>⟨v,w',he,ho,hk v _ w' ho.umod hs.size (le_refl _) hK⟩
def Wf(u:UW):Prop:=∀b,u.fW b->b<u.heap.size
theorem Wf.ret{u:UW}{lo:Nat}{w':World}(h:Wf u)(hs:u.heap.size<=w'.heap.size):Wf (u.ret lo w'):=λb hb=>hb.elim (λhb=>Nat.lt_of_lt_of_le (h b hb) hs) (λhb=>hb.2)
theorem Wf.born{u:UW}{b:Nat}{w':World}{o:Obj}(h:Wf u)(hb:qV u.toWorld w' b o):Wf (u.born b w'):=λc hc=>hc.elim (λhc=>Nat.lt_of_lt_of_le (h c hc) hb.below.size) (λe=>by subst e;exact(Array.getElem?_eq_some_iff.1 hb.at_).1)
theorem Wf.IZ{u:UW}{b:Nat}{w':World}{o:Obj}(h:Wf u)(hb:Sto u.toWorld w' b o):Wf (u.IZ w'):=λc hc=>Nat.lt_of_lt_of_le (h c hc) hb.size
theorem oZ.mono{P:Program}{f:Value}{args:List Value}{u:UW}{K K':Value->UW->Prop}(h:oZ P f args u K)
  (hk:∀v lo w',Mod u.fW u.toWorld w'->u.heap.size<=lo->K v (u.ret lo w')->K' v (u.ret lo w')):oZ P f args u K':=by
 obtain⟨F,hF,h⟩:=jx.1 h;exact jx.2 ⟨F,hF,h.mono λv lo w' hm hl _ hK=>hk v lo w' ⟨hm.os,hm.tape,hm.output,hm.size,λb hb hn=>hm.cw b hb λhf=>hn (hF b hf)⟩ hl hK⟩
theorem xM{P:Program}{op:BinOp}{t:TypeId}{x y:Value}{K K':Value->Prop}(h:pj P op t x y K)(hk:∀v,plain v=true->one v=true->K v->K' v):pj P op t x y K':=by
 unfold pj at h |-;split at h
 ·try simp only
  obtain⟨hc,h⟩:=aq h;rw[hc]
  try simp only[cond_true]
  unfold xv at h |-;split at h<;>(try simp only)<;>first|exact hk _ rfl rfl h|exact⟨h.1,hk _ rfl rfl h.2⟩|exact h.elim
 ·try simp only
  unfold Aa at h |-;split at h<;>(try simp only)<;>first|exact hk _ rfl rfl h|exact⟨h.1,hk _ rfl rfl h.2⟩|exact h.elim
 ·try simp only
  split at h
  ·rename_i hu;(try rw[hu]);try simp only
   split at h<;>(try simp only)<;>first|exact hk _ rfl rfl h|exact h.elim
  ·exact h.elim
 ·try simp only
  split at h
  ·exact h.elim
  ·rename_i hu;(try rw[hu]);try simp only
   obtain⟨hc,h⟩:=aq h;rw[hc];simp only[cond_true];split at h
   ·rename_i hu;(try rw[hu]);try simp only
    split at h<;>(try simp only)<;>first|exact hk _ rfl rfl h|exact h.elim
   ·exact h.elim
 ·try simp only
  split at h
  ·rename_i hu;(try rw[hu]);try simp only
   split at h<;>(try simp only)<;>first|exact hk _ rfl rfl h|exact h.elim
  ·exact h.elim
 ·try simp only
  split at h
  ·rename_i hu;(try rw[hu]);try simp only
   split at h<;>(try simp only)<;>first|exact hk _ rfl rfl h|exact h.elim
  ·exact h.elim
 ·try simp only
  split at h
  ·rename_i hu;(try rw[hu]);try simp only
   split at h<;>(try simp only)<;>first|exact hk _ rfl rfl h|exact h.elim
  ·exact h.elim
 ·exact h.elim
theorem VY{P:Program}{op:BinOp}{t:TypeId}{f:Fn}{a b a' b':Array Value}{K:Value->Prop}(h:pj P op t (.func f a b) .nilFunc K):pj P op t (.func f a' b') .nilFunc K:=h
theorem wL{Z:Fz}:∀{ps:List PV} {vs ws:List Value},jE ps=some vs->bq Z ps ws->ws=vs
 |[],vs,ws,h,hr=>by simp only[jE,Option.some.injEq]at h;subst h;exact hr.mT
 | .raw v::ps,vs,ws,h,hr=>by
   simp only[jE]at h
   cases hu:jE ps with
   |none=>rw[hu]at h;cases h
   |some us=>
    rw[hu]at h
    simp only[Option.some.injEq]at h
    subst h
    obtain⟨w,ws',rfl,h1,h2,h3⟩:=hr.inv
    rw[h2.ofRaw.1,wL hu h3]
 | .list .. ::_,_,_,h,_=>by simp[jE]at h
 | .bj .. ::_,_,_,h,_=>by simp[jE]at h
 | .fn .. ::_,_,_,h,_=>by simp[jE]at h
 | .agg .. ::_,_,_,h,_=>by simp[jE]at h
 | .az .. ::_,_,_,h,_=>by simp[jE]at h
 | .iface .. ::_,_,_,h,_=>by simp[jE]at h
 | .box .. ::_,_,_,h,_=>by simp[jE]at h
 | .aY::_,_,_,h,_=>by simp[jE]at h
theorem SV{Z:Fz}{P:Program}{op:BinOp}{t:TypeId}{x y:PV}{a b:Value}{KP:PV->Prop}{K:Value->Prop}(hx:bR Z x a)(hy:bR Z y b)(h:SW P op t x y KP)(hk:∀p v,bR Z p v->KP p->K v):pj P op t a b K:=by
 unfold SW at h;split at h
 ·rw[hx.ofRaw.1,hy.ofRaw.1];exact xM h λv h1 h2 hv=>hk _ v (.raw v h1 h2) hv
 ·rename_i as bs;cases h1:jE as with
  |none=>rw[h1]at h;exact h.elim
  |some us=>
   cases h2:jE bs with
   |none=>rw[h1,h2]at h;exact h.elim
   |some ws=>
    rw[h1,h2]at h;obtain⟨vs,rfl,hc⟩:=hx.qe;obtain⟨oQ,rfl,su⟩:=hy.qe;rw[wL h1 hc,wL h2 su];exact xM h λv h1 h2 hv=>hk _ v (.raw v h1 h2) hv
 ·obtain⟨fv,cv,rfl,_⟩:=hx.ofFn;rw[hy.ofRaw.1];exact xM (VY h) λv h1 h2 hv=>hk _ v (.raw v h1 h2) hv
 ·exact h.elim
theorem w_{P:Program}{t:TypeId}{v:Value}(h:(match P.underlying t with|some (.interface _)=>false|some _=>true|none=>false)=true):pv P (Instr.makeInterface t v)=some (.iface t v):=by
 unfold Instr.makeInterface underlying program;simp only[bind,Sem.bind,pv];cases hu:P.underlying t with
 |none=>rw[hu]at h;cases h
 |some d=>
  rw[hu]at h;cases d<;>first|(simp at h;done)|rfl
theorem Ea{Z:Fz}{p:PV}{v:Value}(h:bR Z p v)(hk:p.ok=true):v.cells.size=p.cells.length:=by
 have:=(h.cells hk).1;simpa using this
theorem Ix{Z:Fz}{P:Program}{fs:Array Field}:∀{ps:List (Nat×PV)} {vs:List (Nat×Value)} {cs:List PV} {ds:List Value} {r:List PV},ps.length=vs.length->
  (∀(i:Nat) x y,ps[i]?=some x->vs[i]?=some y->x.1=y.1/\x.2.ok=true/\bR Z x.2 y.2)->bq Z cs ds->Iy P fs ps cs=some r->∃w,KU P fs vs ds=some w/\bq Z r w
 |[],[],cs,ds,r,_,_,hc,h=>by simp only[Iy,Option.some.injEq]at h;subst h;exact⟨ds,rfl,hc⟩
 |[],_::_,_,_,_,hl,_,_,_=>by simp at hl
 |_::_,[],_,_,_,hl,_,_,_=>by simp at hl
 |(i,p)::ps,(i',v)::vs,cs,ds,r,hl,hp,hc,h=>by
  obtain⟨e1,e2,e3⟩:=hp 0 _ _ rfl rfl
  simp only at e1 e2 e3;subst e1;simp only[Iy]at h;simp only[KU];split at h
  ·rename_i f hf;have hlen:=Ea e3 e2;cases hb:(beq p.cells.length (P.cellsOf f.type)&&ble (f.offset+p.cells.length) cs.length&&(P.info? f.type).isSome)with
   |false=>rw[hb]at h;cases h
   |true=>
    rw[hb]at h;simp only[cond_true]at h;have jY:(beq v.cells.size (P.cellsOf f.type)&&ble (f.offset+v.cells.size) ds.length&&(P.info? f.type).isSome)=true:=by rw[hlen,hc.1];exact hb
    rw[hf];simp only[jY,cond_true];refine Ix (by simpa using hl) (λi x y a b=>hp (i+1) x y (by simpa using a) (by simpa using b)) ?_ h;rw[hlen];exact((hc.take _).append (e3.cells e2)).append (hc.drop _)
  ·cases h
theorem Iz{α:Type}{b:Bool}{x:Option α}{y:α}(h:(bif b then x else none)=some y):b=true/\x=some y:=by
 cases b with
 |false=>cases h
 |true=>exact⟨rfl,h⟩
theorem BH{Z:Fz}{size:Nat}:∀{i:Nat} {ps:List (Nat×PV)} {vs:List (Nat×Value)} {rows:Lq},ps.length=vs.length->
  (∀(i:Nat) x y,ps[i]?=some x->vs[i]?=some y->x.1=y.1/\x.2.ok=true/\bR Z x.2 y.2)->BJ size i ps=some rows->∃w,oG size i vs=some w/\bq Z rows.flatten w/\rows.length=ps.length/\∀r∈rows,r.length=size
 |i,[],[],rows,_,_,h=>by simp only[BJ,Option.some.injEq]at h;subst h;exact⟨[],rfl,bq.nil Z,rfl,by simp⟩
 |_,[],_::_,_,hl,_,_=>by simp at hl
 |_,_::_,[],_,hl,_,_=>by simp at hl
 |i,(j,pp)::ps,(j',v)::vs,rows,hl,hp,h=>by
  obtain⟨e1,e2,e3⟩:=hp 0 _ _ rfl rfl
  simp only at e1 e2 e3;subst e1;simp only[BJ]at h;simp only[oG];have hlen:=Ea e3 e2;cases hb:(beq i j&&beq pp.cells.length size)with
  |false=>rw[hb]at h;cases h
  |true=>
   rw[hb]at h;have jY:(beq i j&&beq v.cells.size size)=true:=by rw[hlen];exact hb
   rw[jY];simp only[cond_true]at h |-;cases Jc:BJ size (i+1) ps with
   |none=>rw[Jc]at h;cases h
   |some rs=>
    rw[Jc]at h;simp only[Option.some.injEq]at h;subst h;obtain⟨w,hw,eI,tB,DL⟩:=BH (vs:=vs) (by simpa using hl) (λi x y a b=>hp (i+1) x y (by simpa using a) (by simpa using b)) Jc;rw[hw];refine⟨_,rfl,(e3.cells e2).wk.append eI,by simp[tB],λr hr=>?_⟩;simp only[List.mem_cons]at hr;rcases hr with rfl|hr
    ·simp only[length_map];simp only[and_eq_true,beq_iff]at hb;exact hb.2
    ·exact DL r hr
theorem V_{Z:Fz}{P:Program}{t:TypeId}{ps:List (Nat×PV)}{vs:List (Nat×Value)}{r:List PV}(hl:ps.length=vs.length)
  (hp:∀(i:Nat) x y,ps[i]?=some x->vs[i]?=some y->x.1=y.1/\x.2.ok=true/\bR Z x.2 y.2) (h:aaq P t ps=some r):∃w,Wa P t vs=some w/\bq Z r w:=by
 unfold aaq at h;unfold Wa;split at h
 ·rename_i z fs hz hu;rw[hz,hu];simp only;cases hb:((nc P t z).ok&&di P t&&fs.toList.all λf=>(P.info? f.type).isSome)with
  |false=>rw[hb]at h;cases h
  |true=>
   rw[hb]at h;simp only[cond_true]at h;have jY:(fs.toList.all λf=>(P.info? f.type).isSome)=true:=by
    simp only[and_eq_true]at hb;exact hb.2
   rw[jY];simp only[cond_true];split at h
   ·rename_i cs oB;have hz:=(zB Z z).fZ (P:=P) (t:=t);have NU:bR Z (.agg cs) z:=by rw[<- oB];exact hz
    obtain⟨ds,rfl,hc⟩:=NU.qe;refine Ix (by simpa using hl) (λi x y a b=>?_) hc h;rw[getElem?_map]at a;cases hx:ps[i]? with
    |none=>simp[hx]at a
    |some x0=>
     simp only[hx,map_some,Option.some.injEq]at a;obtain⟨e1,e2,e3⟩:=hp i x0 y hx b;subst a;refine⟨e1,?_,?_⟩
     ·simp only;split
      ·rw[og];exact e2
      ·exact e2
     ·simp only;split
      ·exact e3.fZ
      ·exact e3
   ·cases h
 ·rename_i z len e hz hu;rw[hz,hu];simp only;obtain⟨hb,h⟩:=Iz h;simp only[and_eq_true]at hb;rw[<- hl,hb.1.1,hb.1.2,hb.2];simp only[Bool.and_true,cond_true];split at h
  ·rename_i rows Re;simp only[Option.some.injEq]at h;subst h
   obtain⟨w,hw,eI,_⟩:=BH (Z:=Z) (vs:=vs) (by simpa using hl) (λi x y a b=>by
    rw[getElem?_map]at a
    cases hx:ps[i]? with
    |none=>simp[hx]at a
    |some x0=>
     simp only[hx,map_some,Option.some.injEq]at a
     obtain⟨e1,e2,e3⟩:=hp i x0 y hx b
     subst a
     exact⟨e1,by rw[og];exact e2,e3.fZ⟩) Re
   exact⟨w,hw,eI⟩
  ·cases h
 ·cases h
theorem VB{Z:Fz}{P:Program}{e:TypeId}{off:Nat}{cs:List PV}{vs:List Value}{p:PV}(hc:bq Z cs vs)(h:ZL P e off cs=some p):∃v,Ox P e off vs=some v/\p.ok=true/\bR Z p v:=by
 unfold ZL at h;unfold Ox;obtain⟨hb,h⟩:=Iz h;rw[hc.1,hb];simp only[cond_true];cases ha:di P e with
 |true=>
  rw[ha]at h;simp only[cond_true,Option.some.injEq]at h |-;subst h;exact⟨_,rfl,rfl,((hc.drop _).take _).rZ⟩
 |false=>
  rw[ha]at h;simp only[cond_false]at h |-;obtain⟨v,hv,hk,hr⟩:=hc.get h;exact⟨v,hv,PV.EO hk,hr⟩
theorem Vy{Z:Fz}{P:Program}{t:TypeId}{f:Nat}{cs:List PV}{vs:List Value}{p:PV}(hc:bq Z cs vs)(h:ZG P t f cs=some p):∃v,CF P t f vs=some v/\p.ok=true/\bR Z p v:=by
 unfold ZG at h;unfold CF;split at h
 ·rename_i fs hu;rw[hu];simp only;split at h
  ·rename_i x hx;rw[hx];simp only;rw[hc.1];cases hb:((P.underlying x.type).isSome&&ble (x.offset+P.cellsOf x.type) cs.length)with
   |false=>rw[hb]at h;cases h
   |true=>
    rw[hb]at h;simp only[cond_true]at h |-;cases ha:di P x.type with
    |true=>
     rw[ha]at h;simp only[cond_true,Option.some.injEq]at h |-;subst h;exact⟨_,rfl,rfl,((hc.drop _).take _).rZ⟩
    |false=>
     rw[ha]at h;simp only[cond_false]at h |-;obtain⟨v,hv,hk,hr⟩:=hc.get h;exact⟨v,hv,PV.EO hk,hr⟩
  ·cases h
 ·cases h
theorem fX{Z:Fz}{p:dw}{s:St}(hr:df Z p s){x:Option Operand}{d i:Int}(h:gT (sy p.σ) x d=some i):dt (ev s.σ) x d=some i:=by
 unfold gT at h;unfold dt;split at h
 ·exact h
 ·rename_i x;split at h
  ·rename_i k j he;have:=hr.ev x;rw[he]at this;show(match ev s.σ x with| .int _ i=>some i|_=>none)=some i;rw[this.ofRaw.1];exact h
  ·cases h
theorem Bf{Z:Fz}{p:dw}{s:St}(hr:df Z p s):∀{xs:List Operand} {r:IntKind×List Int},Bg (sy p.σ) xs=some r->mU (ev s.σ) xs=some r
 |[],_,h=>by simp[Bg]at h
 |[x],r,h=>by
  simp only[Bg]at h
  split at h
  ·rename_i k i he
   have:=hr.ev x
   rw[he]at this;simp only[mU,this.ofRaw.1];exact h
  ·cases h
 |x::y::l,r,h=>by
  simp only[Bg]at h;split at h
  ·rename_i k i k' is he h2;have:=hr.ev x;rw[he]at this;have ih:=Bf (xs:=y::l) hr h2;simp only[mU,this.ofRaw.1,ih];exact h
  ·cases h
theorem De{Z:Fz}{sz size:Nat}{fl jZ:Fl}{rows:Lq}{a:Option Addr}{n c l h m:Nat}(hr:bR Z (.list sz fl rows) (.slice a n c))(fw:qd size sz rows=true)(h1:l<=h)(h2:h<=rows.length)(h3:h<=m)(hf:Tu jZ (yY a l m size) (h-l) (m-l)):
  bR Z (.list size jZ ((rows.take h).drop l)) (.slice (yY a l m size) (h-l) (m-l)):=by
 cases hr with
 |list _ _ _ _ _ _ b o C g hn hc hs Tx ha hg hk hp hf0=>
  have DJ:m-l=0\/gZ (yY a l m size):=by
   unfold yY;split
   ·left;omega
   ·right;intro x hx;cases a with
    |none=>cases hx
    |some y=>simp only[map_some,Option.some.injEq]at hx;subst hx;rfl
  have hlen:((rows.take h).drop l).length=h-l:=by simp;omega
  by_cases h0:h-l=0
  ·have tz:(rows.take h).drop l=[]:=List.eq_nil_of_length_eq_zero (by omega);rw[tz];refine .list size jZ [] _ (h-l) _ 0 0 [] (λ_ _=>undef) (by simp;omega) (by omega) DJ (by simp) (λh=>absurd h0 h) (λi j hi=>by omega) (by simp) (by simp) hf
  ·have Pk:n≠0:=by omega
   have NZ:sz=size:=by
    unfold qd at fw;cases hb:beq sz size with
    |true=>exact beq_iff.1 hb
    |false=>
     rw[hb]at fw;simp only[cond_false]at fw;split at fw
     ·simp at h2;omega
     ·cases fw
   subst NZ;obtain⟨ea,ez⟩:=ha Pk;subst ea;have aQ:m≠l:=by omega
   refine .list sz jZ _ _ (h-l) _ b (o+l*sz) C (λi j=>g (i+l) j) hlen (by omega) DJ ?_ ?_ ?_ ?_ ?_ hf
   ·intro r hr;exact Tx r (List.mem_of_mem_take (List.mem_of_mem_drop hr))
   ·intro _;refine⟨?_,ez⟩;unfold yY;rw[if_neg aQ];rfl
   ·intro i j hi hj;have:=hg (i+l) j (by omega) hj;rw[<- this];congr 1;rw[add_mul];omega
   ·intro i j row p hi hj;rw[getElem?_drop,getElem?_take]at hi;split at hi
    ·exact hk (l+i) j row p hi hj
    ·cases hi
   ·intro i j row p hi hj;rw[getElem?_drop,getElem?_take]at hi;split at hi
    ·have:=hp (l+i) j row p hi hj;rw[Nat.add_comm]at this;exact this
    ·cases hi
theorem bR.JR{Z:Fz}{row:List PV}{o:Nat}{w:Value}(h:bR Z (.bj row o) w):∃(b off:Nat) (C:List Value) (g:Nat->Value),w=.pointer (some ⟨b,off+o,none⟩)/\Z b=some C/\(∀j:Nat,j<row.length->C[off+j]?=some (g j))/\(∀(j:Nat) p,row[j]?=some p->p.cell=true)/\∀(j:Nat) p,row[j]?=some p->bR Z p (g j):=by
 cases h with
 |bj _ _ b off C g hz hg hk hp=>exact⟨b,off,C,g,rfl,hz,hg,hk,hp⟩
theorem IE{Z:Fz}{p:dw}{s:St}(hr:df Z p s){l:List Operand}(h:l.all (λx=>(sy p.σ x).ok)=true):bn Z (l.map (sy p.σ)) (l.map (ev s.σ)):=by
 induction l with
 |nil=>exact bn.nil Z
 |cons x l ih=>
  simp only[all_cons,and_eq_true]at h;exact bn.cons h.1 (hr.ev x) (ih h.2)
theorem kS{Z:Fz}{p:dw}{s:St}(hr:df Z p s){l:List Operand}(h:l.all (λx=>(sy p.σ x).ok)=true):l.all (λx=>plain (ev s.σ x))=true:=by
 rw[all_eq_true]at h |-;exact λx hx=>(hr.ev x).plain (h x hx)
def ou(o:Oper):Bool:=match o.op with| .load .. =>true|_=>false
theorem FW{E:kr}{q:Bool}{fz:List Nat}{o:Oper}{p:dw}{s:St}{μ:Mem}{u:UW}{KP:dw->Mem->Prop}{K:St->UW->Prop}{Z:Fz}(hr:df Z p s)(gf:bx o=true)(hl:ou o=false)
  (hK:∀p' s',df Z p' s'->KP p' μ->K s' u) (h:V1 E q fz o p μ KP):W1 E.er fz o s u K:=by
 unfold bx at gf;unfold ou at hl;unfold V1 at h;unfold W1;simp only at h |-;cases Ml:o.op<;>simp only[Ml]at h gf hl |- <;>first|(cases gf;done)|(cases hl;done)|skip
 case move x=>exact hK _ _ (hr.fin o (hr.ev x).fZ) h
 case assign x=>exact hK _ _ (hr.fin o (hr.ev x).fZ) h
 case pick c a b=>
  split at h
  ·rename_i t he;have hc:=hr.ev c;rw[he]at hc;rw[hc.ofRaw.1];cases t
   ·exact hK _ _ (hr.fin o (hr.ev b).fZ) h
   ·exact hK _ _ (hr.fin o (hr.ev a).fZ) h
  ·exact h.elim
 case build t ps=>
  obtain⟨hc,h⟩:=aq h;have oA:(ps.toList.all λp=>plain (ev s.σ p.2))=true:=by
   rw[all_eq_true]at hc |-;exact λx hx=>(hr.ev x.2).plain (hc x hx)
  rw[oA];simp only[cond_true];split at h
  ·rename_i vs hb
   obtain⟨w,hw,eI⟩:=V_ (Z:=Z) (vs:=ps.toList.map λp=>(p.1,ev s.σ p.2)) (by simp) (λi x y a b=>by
    rw[getElem?_map]at a b
    cases hi:ps.toList[i]? with
    |none=>rw[hi]at a;cases a
    |some z=>
     rw[hi]at a b
     simp only[map_some,Option.some.injEq]at a b
     subst a;subst b
     exact⟨rfl,all_eq_true.1 hc z (mem_of_getElem? hi),hr.ev z.2⟩) hb
   have UT:Wa E.er.P t (ps.toList.map λp=>(p.1,ev s.σ p.2))=some w:=hw;rw[UT];exact hK _ _ (hr.fin o eI.rZ) h
  ·exact h.elim
 case nilCheck x=>
  have hx:=hr.ev x;split at h
  ·rename_i k off he;rw[he]at hx;rw[hx.yz];exact hK _ _ (hr.fin o (.box k off)) h
  ·rename_i row off he;rw[he]at hx;obtain⟨b,of,C,g,hv,hz,hg,hk,hp⟩:=hx.JR;rw[hv];exact hK _ _ (hr.fin o (.bj row off b of C g hz hg hk hp)) h
  ·rename_i a he;rw[he]at hx;rw[hx.ofRaw.1];cases a with
   |none=>exact h.elim
   |some a=>exact hK _ _ (hr.fin o (.raw _ rfl rfl)) h
  ·rename_i f a b he;rw[he]at hx;obtain⟨fv,cv,hv,h1,h2⟩:=hx.ofFn;rw[hv];cases f with
   |method n=>exact h.elim
   |_=>exact hK _ _ (hr.fin o (bn.Eo h1 h2)) h
  ·exact h.elim
 case binOp op t x y ft=>exact SV (hr.ev x) (hr.ev y) h λpp v hv hk=>hK _ _ (hr.fin o hv) hk
 case unOp op t x=>
  have hx:=hr.ev x;split at h
  ·rename_i b he;rw[he]at hx;rw[hx.ofRaw.1];exact hK _ _ (hr.fin o (.raw _ rfl rfl)) h
  ·rename_i k n he;rw[he]at hx;rw[hx.ofRaw.1];exact hK _ _ (hr.fin o (.raw _ rfl rfl)) h
  ·exact h.elim
 case convert src dst x=>
  have hx:=hr.ev x;split at h
  ·rename_i v he;rw[he]at hx;obtain⟨e1,e2,e3⟩:=hx.ofRaw;rw[e1,e2];simp only[cond_true];split at h
   ·rename_i v' hv;have hv':pv E.er.P (convert src dst v)=some v':=hv;rw[hv'];obtain⟨hc,h⟩:=aq h;simp only[and_eq_true]at hc;simp only[hc.1,cond_true];exact hK _ _ (hr.fin o (.raw _ hc.1 hc.2)) h
   ·exact h.elim
  ·exact h.elim
 case makeInterface t x=>
  have hx:=hr.ev x;obtain⟨hc,h⟩:=aq h;simp only[and_eq_true]at hc;rw[hx.plain hc.1];simp only[cond_true];have hm:pv E.er.P (Instr.makeInterface t (ev s.σ x))=some (.iface t (ev s.σ x)):=w_ hc.2;rw[hm];simp only[plain,cond_true];exact hK _ _ (hr.fin o (.iface t _ _ hc.1 hx)) h
 case makeFunc fn first tP=>
  obtain⟨hc,h⟩:=aq h;simp only[and_eq_true]at hc;rw[kS hr hc.1,kS hr hc.2];simp only[Bool.and_self,cond_true];have wkR:∀{l:List Operand},l.all (λx=>(sy p.σ x).ok)=true->bn Z (l.map λx=>wk (sy p.σ x)) (l.map (ev s.σ)):=by
   intro l hl;induction l with
   |nil=>exact bn.nil Z
   |cons x l ih=>
    simp only[all_cons,and_eq_true]at hl;exact bn.cons (by rw[abF];exact hl.1) (hr.ev x).wk (ih hl.2)
  exact hK _ _ (hr.fin o (bn.Eo (wkR hc.1) (wkR hc.2))) h
 case slice t x lo hi mx=>
  have hx:=hr.ev x;split at h
  ·rename_i e sz fl rows hu he;have gd:E.er.P.underlying t=some (.slice e):=hu;rw[he]at hx;obtain⟨a,n,c,hv,hn,hc,hs,hf⟩:=hx.ofList;rw[gd,hv];simp only;rw[hv]at hx;split at h
   ·rename_i l hh m e1 e2 e3;have e1':=fX hr e1;rw[hn]at e2;have e2':=fX hr e2;cases hb:((mx.isSome&&hi.isNone)||(E.P.info? e).isNone|| !qd (E.P.cellsOf e) sz rows)with
    |true=>rw[hb]at h;exact h.elim
    |false=>
     rw[hb]at h;simp only[cond_false]at h;simp only[Bool.or_eq_false_iff,Bool.not_eq_false']at hb;have Je:((mx.isSome&&hi.isNone)||(E.er.P.info? e).isNone)=false:=by
      rw[Bool.or_eq_false_iff];exact hb.1
     cases mx with
     |none=>
      simp only at h;obtain⟨g1,g2,g3,h⟩:=h;have e3':dt (ev s.σ) none (c:Int)=some (c:Int):=rfl;rw[e1',e2',e3'];simp only[Je,cond_false];refine⟨hs.elim (λh0=>.inl (by omega)) .inr,g1,g2,by omega,by omega,hK _ _ (hr.fin o ?_) h⟩;exact De hx hb.2 (by omega) (by omega) (by omega) trivial
     |some y=>
      simp only at h;obtain⟨g1,g2,g3,g4,h⟩:=h;have e3':dt (ev s.σ) (some y) (c:Int)=some m:=by
       have:gT (sy p.σ) (some y) (c:Int)=some m:=by
        unfold gT at e3 |-;exact e3
       exact fX hr this
      rw[e1',e2',e3'];simp only[Je,cond_false];subst g4;refine⟨hs.elim (λh0=>.inl (by omega)) .inr,g1,g2,by omega,by omega,hK _ _ (hr.fin o ?_) h⟩;exact De hx hb.2 (by omega) (by omega) (by omega) rfl
   ·exact h.elim
  ·rename_i e a len cap hu he;have gd:E.er.P.underlying t=some (.slice e):=hu;rw[he]at hx;rw[gd,hx.ofRaw.1];simp only;split at h
   ·rename_i l hh m e1 e2 e3;rw[fX hr e1,fX hr e2,fX hr e3];simp only;cases hb:((mx.isSome&&hi.isNone)||(E.P.info? e).isNone)with
    |true=>rw[hb]at h;exact h.elim
    |false=>
     rw[hb]at h;have jY:((mx.isSome&&hi.isNone)||(E.er.P.info? e).isNone)=false:=hb;rw[jY];simp only[cond_false]at h |-;obtain⟨g1,g2,g3,g4,g5,h⟩:=h;exact⟨.inr g1,g2,g3,g4,g5,hK _ _ (hr.fin o (.raw _ rfl rfl)) h⟩
   ·exact h.elim
  ·rename_i st hu he;have gd:E.er.P.underlying t=some .string:=hu;rw[he]at hx;rw[gd,hx.ofRaw.1];simp only;cases mx with
   |some _=>exact h.elim
   |none=>
    simp only at h |-;split at h
    ·rename_i l hh e1 e2;rw[fX hr e1,fX hr e2];obtain⟨g1,g2,g3,h⟩:=h;exact⟨g1,g2,g3,hK _ _ (hr.fin o (.raw _ rfl rfl)) h⟩
    ·exact h.elim
  ·exact h.elim
 case fieldAddr t x f=>
  have hx:=hr.ev x;cases hd:CH E.P t f with
  |none=>rw[hd]at h;exact h.elim
  |some d=>
   rw[hd]at h;have Zp:CH E.er.P t f=some d:=hd;rw[Zp];simp only at h |-;split at h
   ·rename_i k off he;rw[he]at hx;rw[hx.yz];exact hK _ _ (hr.fin o (.box k (off+d))) h
   ·rename_i row off he;rw[he]at hx;obtain⟨b,of,C,g,hv,hz,hg,hk,hp⟩:=hx.JR;rw[hv];refine hK _ _ (hr.fin o ?_) h;have:=bR.bj (Z:=Z) row (off+d) b of C g hz hg hk hp;rw[<- add_assoc]at this;exact this
   ·unfold aN at h;split at h
    ·rename_i b off he;rw[he]at hx;rw[hx.ofRaw.1];exact hK _ _ (hr.fin o (.raw _ rfl rfl)) h
    ·exact h.elim
 case field t x f=>
  have hx:=hr.ev x;split at h
  ·rename_i cs he;rw[he]at hx;obtain⟨vs,hv,hc⟩:=hx.qe;rw[hv];simp only;split at h
   ·rename_i pp hf;obtain⟨v,hv2,hk,hrp⟩:=Vy hc hf;have agt:CF E.er.P t f vs=some v:=hv2;rw[agt];simp only[hrp.plain hk,cond_true];exact hK _ _ (hr.fin o hrp) h
   ·exact h.elim
  ·exact h.elim
 case indexAddr t x i=>
  have hx:=hr.ev x;have hi:=hr.ev i;split at h
  ·rename_i e sz fl rows k j hu he hj;have gd:E.er.P.underlying t=some (.slice e):=hu;rw[he]at hx;rw[hj]at hi;obtain⟨hc,g1,row,d_,h⟩:=aq h;simp only[and_eq_true,beq_iff]at hc;have hc1:(E.er.P.info? e).isSome=true:=hc.1;cases YN:ev s.σ x with
   |slice a n c=>
    rw[YN]at hx;rw[gd,hi.ofRaw.1];simp only[hc1,cond_true];cases hx with
    |list _ _ _ _ _ _ b of C g hn Mr hs Tx ha hg hk hp hf=>
     have bI:j.toNat<n:=by rw[<- hn];exact(List.getElem?_eq_some_iff.1 d_).1
     obtain⟨ea,ez⟩:=ha (by omega);subst ea;refine⟨g1,by omega,hK _ _ (hr.fin o ?_) h⟩;have fw:sz=E.er.P.cellsOf e:=hc.2;have vp:row.length=sz:=Tx row (mem_of_getElem? d_);have:=bR.bj (Z:=Z) row 0 b (of+j.toNat*sz) C (λjj=>g j.toNat jj) ez (λjj hjj=>hg _ _ bI (by omega)) (λjj pp Mk=>hk _ _ _ _ d_ Mk) (λjj pp Mk=>hp _ _ _ _ d_ Mk);rw[<- fw];exact this
   |_=>rw[YN]at hx;cases hx
  ·rename_i e a len cap k j hu he hj;have gd:E.er.P.underlying t=some (.slice e):=hu;rw[he]at hx;rw[hj]at hi;obtain⟨hc,h⟩:=aq h;have hc1:(E.er.P.info? e).isSome=true:=hc;rw[gd,hx.ofRaw.1,hi.ofRaw.1];simp only[hc1,cond_true];obtain⟨b,off,rfl,h1,h2,h⟩:=fV h;exact⟨h1,h2,hK _ _ (hr.fin o (.raw _ rfl rfl)) h⟩
  ·rename_i len e k off k' j hu he hj;have gd:E.er.P.underlying t=some (.array len e):=hu;rw[he]at hx;rw[hj]at hi;obtain⟨hc,h⟩:=aq h;have hc1:(decide (0<=j)&&decide (j<len)&&(E.er.P.info? e).isSome)=true:=hc;rw[gd,hx.yz,hi.ofRaw.1];simp only[hc1,cond_true];exact hK _ _ (hr.fin o (.box k _)) h
  ·exact h.elim
 case index t x i=>
  have hx:=hr.ev x;have hi:=hr.ev i;split at h
  ·rename_i st k j hu he hj;have gd:E.er.P.underlying t=some .string:=hu;rw[he]at hx;rw[hj]at hi;rw[gd,hx.ofRaw.1,hi.ofRaw.1];obtain⟨h1,c,hc,h⟩:=h;exact⟨h1,c,hc,hK _ _ (hr.fin o (.raw _ rfl rfl)) h⟩
  ·rename_i len e cs k j hu he hj;have gd:E.er.P.underlying t=some (.array len e):=hu;rw[he]at hx;rw[hj]at hi;obtain⟨ds,hds,hc⟩:=hx.qe;rw[gd,hds,hi.ofRaw.1];obtain⟨fE,h1,h2,h⟩:=aq h;obtain⟨q,hq,⟨Pn,h⟩,_⟩:=xD (Z:=Z) h;obtain⟨v,hv,aI,hrv⟩:=VB hc Pn;exact⟨h1,h2,fE,v,hv,hrv.plain aI,hK _ _ (hr.fin o hrv) h⟩
  ·exact h.elim
 case extract x i=>
  have hx:=hr.ev x;split at h
  ·rename_i vs he;rw[he]at hx;obtain⟨ws,hv,hs⟩:=hx.AK;rw[hv];simp only;split at h
   ·rename_i pp hp;obtain⟨hk,h⟩:=aq h;obtain⟨w,hw,_,Jb⟩:=hs.get hp;have UT:ws.toArray[i]?=some w:=by simpa using hw
    rw[UT];simp only[Jb.plain hk,cond_true];exact hK _ _ (hr.fin o Jb) h
   ·exact h.elim
  ·exact h.elim
 case call c=>
  obtain⟨cal,args,ats⟩:=c;cases cal with
  |value f=>cases gf
  |invoke x n=>cases gf
  |builtin b=>
   simp only at h gf |-;unfold V1b at h;unfold W1b;generalize args.toList=al at h |-;generalize ats.toList=tl at h |-;cases b<;>first|(cases gf;done)|skip
   case len=>
    match al,tl,h with
    |[x],[t],h=>
     have hx:=hr.ev x;simp only at h |-;split at h
     ·rename_i e sz fl rows hu he;have gd:E.er.P.underlying t=some (.slice e):=hu;rw[he]at hx;obtain⟨a,n,c,hv,hn,_⟩:=hx.ofList;rw[gd,hv,<- hn];exact hK _ _ (hr.fin o (.raw _ rfl rfl)) h
     ·rename_i e a n c hu he;have gd:E.er.P.underlying t=some (.slice e):=hu;rw[he]at hx;rw[gd,hx.ofRaw.1];exact hK _ _ (hr.fin o (.raw _ rfl rfl)) h
     ·rename_i st hu he;have gd:E.er.P.underlying t=some .string:=hu;rw[he]at hx;rw[gd,hx.ofRaw.1];exact hK _ _ (hr.fin o (.raw _ rfl rfl)) h
     ·rename_i n e hu;have gd:E.er.P.underlying t=some (.array n e):=hu;obtain⟨hk,h⟩:=aq h;rw[gd];simp only[hx.plain hk,cond_true];exact hK _ _ (hr.fin o (.raw _ rfl rfl)) h
     ·exact h.elim
    |[],_,h=>exact h.elim
    |[_],[],h=>exact h.elim
    |[_],_::_::_,h=>exact h.elim
    |_::_::_,_,h=>exact h.elim
   case min=>
    simp only at h |-;split at h
    ·rename_i k i is he;rw[Bf hr he];exact hK _ _ (hr.fin o (.raw _ rfl rfl)) h
    ·exact h.elim
   case max=>
    simp only at h |-;split at h
    ·rename_i k i is he;rw[Bf hr he];exact hK _ _ (hr.fin o (.raw _ rfl rfl)) h
    ·exact h.elim
theorem ze.go{Z Z':Fz}{u u':UW}{b:Nat}{o:Ob}(h:ze Z u b o)(hz:Z.le Z')(hb:Z' b=Z b)(hh:u'.heap[b]?=u.heap[b]?):ze Z' u' b o:=by
 cases o with
 |cells T cs=>
  obtain⟨h1,A,h2,h3⟩:=h;exact⟨by rw[hb];exact h1,A,by rw[hh];exact h2,h3.mono hz⟩
 |nh n m=>
  obtain⟨⟨C,h1,h2⟩,A,T,h3,h4⟩:=h;exact⟨⟨C,by rw[hb];exact h1,h2⟩,A,T,by rw[hh];exact h3,h4⟩
 |obj o F S=>exact⟨by rw[hb];exact h.1,by rw[hh];exact h.2.1,λt=>(h.2.2 t).mono hz⟩
 |ro T cs=>
  obtain⟨h1,A,h2,h3⟩:=h;exact⟨by rw[hb];exact h1,A,by rw[hh];exact h2,h3.mono hz⟩
theorem Good.go{Z Z':Fz}{u u':UW}{μ μ':Mem}(h:Good Z u μ)(hz:Z.le Z')
  (agm:∀b C,Z' b=some C->(Z b=some C/\u'.heap[b]?=u.heap[b]?)\/∃A T f,u'.heap[b]?=some (.cells A T f)/\C <+: A.toList)
  (eJ:∀b o,μ' b=some o->(μ b=some o/\u'.heap[b]?=u.heap[b]?/\(u.fW b->u'.fW b)/\Z' b=Z b)\/((o.rw=true->u'.fW b)/\ze Z' u' b o)):Good Z' u' μ':=by
 refine⟨λb C hb=>?_,λb o hb=>?_⟩
 ·rcases agm b C hb with⟨h1,h2⟩|h1
  ·rw[h2];exact h.Gq b C h1
  ·exact h1
 ·rcases eJ b o hb with⟨h1,h2,h3,h4⟩|h1
  ·obtain⟨g1,g2⟩:=h.mem b o h1;exact⟨λhr=>h3 (g1 hr),g2.go hz h4 h2⟩
  ·exact h1
def Fz.set(Z:Fz)(b:Nat)(C:List Value):Fz:=λc=>if c=b then some C else Z c
theorem Fz.ao(Z:Fz)(b:Nat)(C:List Value):Z.set b C b=some C:=by simp[Fz.set]
theorem Fz.ax(Z:Fz){b c:Nat}(C:List Value)(h:c≠b):Z.set b C c=Z c:=by simp[Fz.set,h]
theorem Fz.JE{Z:Fz}{b:Nat}{C:List Value}(h:∀D,Z b=some D->D <+: C):Z.le (Z.set b C):=λc D hD=>by
 by_cases e:c=b
 ·subst e;exact⟨C,Fz.ao _ _ _,h D hD⟩
 ·exact⟨D,by rw[Fz.ax _ _ e];exact hD,List.prefix_refl _⟩
theorem Good.UF{Z:Fz}{u:UW}{μ:Mem}(h:Good Z u μ){b:Nat}(hb:u.heap.size<=b):Z b=none:=by
 cases hz:Z b with
 |none=>rfl
 |some C=>have:=h.DB (b:=b) (by rw[hz];simp);omega
theorem Good.cl{Z:Fz}{u:UW}{μ:Mem}(h:Good Z u μ){b:Nat}(hb:u.heap.size<=b):μ b=none:=by
 cases hz:μ b with
 |none=>rfl
 |some C=>have:=h.Pd (b:=b) (by rw[hz];simp);omega
theorem Good.born{Z:Fz}{u:UW}{μ:Mem}(h:Good Z u μ){b:Nat}{w':World}{A:Array Value}{T:TypeId}(hB:qV u.toWorld w' b (.cells A T (0,0))){cs:List PV}(hc:cF Z cs A.toList):
  Good Z (u.born b w') (μ.set b (some (.cells T cs)))/\Ext Z μ u.heap.size Z (μ.set b (some (.cells T cs)))/\μ b=none:=by
 have wH:u.heap.size<=b:=hB.ge;have cw:∀c,c<u.heap.size->(u.born b w').heap[c]?=u.heap[c]?:=λc hc=>hB.below.block c hc;refine⟨h.go (Fz.le.refl Z) (λc C hC=>.inl ⟨hC,cw c (h.DB (by rw[hC];simp))⟩) (λc o ho=>?_),⟨Fz.le.refl Z,λ_ _ h _=>h,λ_ h=>.inl h,λc hc=>?_,λ_ h'=>h.DB h'⟩,h.cl wH⟩
 ·by_cases e:c=b
  ·subst e;rw[Mem.ao]at ho;cases ho;exact .inr ⟨λ_=>.inr rfl,h.UF wH,A,hB.at_,hc⟩
  ·rw[Mem.ax _ _ e]at ho;exact .inl ⟨ho,cw c (h.Pd (by rw[ho];simp)),λhp=>.inl hp,rfl⟩
 ·by_cases e:c=b
  ·exact .inr (by omega)
  ·rw[Mem.ax _ _ e]at hc;exact .inl hc
theorem Good.XJ{Z:Fz}{u:UW}{μ:Mem}(h:Good Z u μ){b:Nat}{w':World}{A:Array Value}{T:TypeId}(hB:qV u.toWorld w' b (.cells A T (0,0))):
  Good (Z.set b A.toList) (u.born b w') μ/\Ext Z μ u.heap.size (Z.set b A.toList) μ:=by
 have wH:u.heap.size<=b:=hB.ge;have cw:∀c,c<u.heap.size->(u.born b w').heap[c]?=u.heap[c]?:=λc hc=>hB.below.block c hc;have hle:Z.le (Z.set b A.toList):=Fz.JE λD hD=>by rw[h.UF wH]at hD;cases hD
 refine⟨h.go hle (λc C hC=>?_) (λc o ho=>?_),⟨hle,λc C hC _=>?_,λc hc=>?_,λ_ h=>.inl h,λ_ h'=>h.DB h'⟩⟩
 ·by_cases e:c=b
  ·subst e;rw[Fz.ao]at hC;cases hC;exact .inr ⟨A,T,_,hB.at_,List.prefix_refl _⟩
  ·rw[Fz.ax _ _ e]at hC;exact .inl ⟨hC,cw c (h.DB (by rw[hC];simp))⟩
 ·have hl:=h.Pd (b:=c) (by rw[ho];simp);exact .inl ⟨ho,cw c hl,λhp=>.inl hp,Fz.ax _ _ (by omega)⟩
 ·have hl:=h.DB (b:=c) (by rw[hC];simp);rw[Fz.ax _ _ (by omega)];exact hC
 ·by_cases e:c=b
  ·exact .inr (.inr (by omega))
  ·rw[Fz.ax _ _ e]at hc;exact .inl hc
theorem Good.aef{Z:Fz}{u:UW}{μ:Mem}(h:Good Z u μ){b:Nat}{w':World}{A:Array Value}{T:TypeId}(hB:qV u.toWorld w' b (.cells A T (0,0))){C:List Value}(hp:C <+: A.toList){m:Nat}(hm:m<=A.size):
  Good (Z.set b C) (u.born b w') (μ.set b (some (.nh C.length m)))/\Ext Z μ u.heap.size (Z.set b C) (μ.set b (some (.nh C.length m)))/\μ b=none:=by
 have wH:u.heap.size<=b:=hB.ge;have cw:∀c,c<u.heap.size->(u.born b w').heap[c]?=u.heap[c]?:=λc hc=>hB.below.block c hc;have hle:Z.le (Z.set b C):=Fz.JE λD hD=>by rw[h.UF wH]at hD;cases hD
 refine⟨h.go hle (λc C' hC=>?_) (λc o ho=>?_),⟨hle,λc C' hC _=>?_,λc hc=>?_,λc hc=>?_,λ_ h'=>h.DB h'⟩,h.cl wH⟩
 ·by_cases e:c=b
  ·subst e;rw[Fz.ao]at hC;cases hC;exact .inr ⟨A,T,_,hB.at_,hp⟩
  ·rw[Fz.ax _ _ e]at hC;exact .inl ⟨hC,cw c (h.DB (by rw[hC];simp))⟩
 ·by_cases e:c=b
  ·subst e;rw[Mem.ao]at ho;cases ho;exact .inr ⟨λ_=>.inr rfl,⟨C,Fz.ao _ _ _,rfl⟩,A,T,hB.at_,hm⟩
  ·rw[Mem.ax _ _ e]at ho;exact .inl ⟨ho,cw c (h.Pd (by rw[ho];simp)),λhp=>.inl hp,Fz.ax _ _ e⟩
 ·have hl:=h.DB (b:=c) (by rw[hC];simp);rw[Fz.ax _ _ (by omega)];exact hC
 ·by_cases e:c=b
  ·exact .inr (.inr (by omega))
  ·rw[Fz.ax _ _ e]at hc;exact .inl hc
 ·by_cases e:c=b
  ·exact .inr (by omega)
  ·rw[Mem.ax _ _ e]at hc;exact .inl hc
theorem cF.take{Z:Fz}{ps:List PV}{vs:List Value}(h:cF Z ps vs)(n:Nat):cF Z (ps.take n) (vs.take n):=
 ⟨by simp[h.1],λi p v a b=>by
  rw[getElem?_take]at a b
  split at a
  ·rename_i hi;rw[if_pos hi]at b;exact h.2 i p v a b
  ·cases a⟩
theorem cF.drop{Z:Fz}{ps:List PV}{vs:List Value}(h:cF Z ps vs)(n:Nat):cF Z (ps.drop n) (vs.drop n):=
 ⟨by simp[h.1],λi p v a b=>by rw[getElem?_drop]at a b;exact h.2 _ p v a b⟩
theorem cF.append{Z:Fz}{ps qs:List PV}{vs ws:List Value}(h:cF Z ps vs)(k:cF Z qs ws):cF Z (ps++qs) (vs++ws):=by
 induction ps generalizing vs with
 |nil=>rw[h.mT];exact k
 |cons p ps ih=>obtain⟨v,oQ,rfl,h1,h2⟩:=h.inv;exact cF.cons h1 (ih h2)
theorem TI{Z:Fz}{cs ps:List PV}{A:Array Value}{vs:List Value}{o:Nat}(h:cF Z cs A.toList)(k:cF Z ps vs)(hl:o+ps.length<=cs.length):cF Z (dx cs o ps) (uy A o vs).toList:=by
 have hA:A.size=cs.length:=by have:=h.1;simpa using this
 rw[pK _ _ _ (by rw[k.1,hA];exact hl)];unfold dx;rw[k.1];exact((h.take _).append k).append (h.drop _)
theorem Good.store{Z:Fz}{u:UW}{μ:Mem}(h:Good Z u μ){b o:Nat}{T:TypeId}{cs ps:List PV}{vs:List Value}(hm:μ b=some (.cells T cs))(hl:o+ps.length<=cs.length)(hv:cF Z ps vs){K:UW->Prop}
  (hK:∀w',Sto u.toWorld w' b (.cells (uy ((u.heap[b]?.bind λo=>match o with| .cells A _ _=>some A|_=>none).getD #[]) o vs) T (0,0))->Good Z (u.IZ w') (μ.set b (some (.cells T (dx cs o ps))))->Ext Z μ u.heap.size Z (μ.set b (some (.cells T (dx cs o ps))))->K (u.IZ w')):tQ b o vs u K:=by
 obtain⟨hp,hz,A,hA,hc⟩:=h.mem b _ hm;have hp:=hp rfl;have Vu:A.size=cs.length:=by have:=hc.1;simpa using this
 refine⟨A,T,hA,by rw[hv.1,Vu];exact hl,hp,λw' hs=>?_⟩;have yI:(u.heap[b]?.bind λo=>match o with| .cells A _ _=>some A|_=>none).getD #[]=A:=by rw[hA];rfl
 refine hK w' (by rw[yI];exact hs) (h.go (Fz.le.refl Z) (λc C hC=>?_) (λc ob ho=>?_)) ⟨Fz.le.refl Z,λ_ _ h _=>h,λ_ h=>.inl h,λc hc=>?_,λ_ h'=>h.DB h'⟩
 ·have hl:=h.DB (b:=c) (by rw[hC];simp);have aQ:c≠b:=by rintro rfl;rw[hz]at hC;cases hC
  exact .inl ⟨hC,hs.ne c aQ hl⟩
 ·by_cases e:c=b
  ·subst e;rw[Mem.ao]at ho;cases ho;exact .inr ⟨λ_=>hp,hz,_,hs.at_,TI hc hv hl⟩
  ·rw[Mem.ax _ _ e]at ho;have hl:=h.Pd (b:=c) (by rw[ho];simp);exact .inl ⟨ho,hs.ne c e hl,λhp=>hp,rfl⟩
 ·by_cases e:c=b
  ·subst e;exact .inl (by rw[hm];simp)
  ·rw[Mem.ax _ _ e]at hc;exact .inl hc
theorem Good.grow{Z:Fz}{u:UW}{μ:Mem}(h:Good Z u μ){b n m:Nat}{new:List Value}(hm:μ b=some (.nh n m))(hl:n+new.length<=m){K:UW->Prop}
  (hK:∀w' C,Z b=some C->C.length=n->Good (Z.set b (C++new)) (u.IZ w') (μ.set b (some (.nh (n+new.length) m)))->Ext Z μ u.heap.size (Z.set b (C++new)) (μ.set b (some (.nh (n+new.length) m)))->u.heap.size<=w'.heap.size->Wf (u.IZ w')->K (u.IZ w')) (hw:Wf u):tQ b n new u K:=by
 obtain⟨hp,⟨C,hz,hC⟩,A,T,hA,hmA⟩:=h.mem b _ hm;have hp:=hp rfl;obtain⟨A',T',f',yI,fK⟩:=h.Gq b C hz;rw[hA]at yI;simp only[Option.some.injEq,Obj.cells.injEq]at yI;obtain⟨rfl,rfl,rfl⟩:=yI;refine⟨A,T,hA,by omega,hp,λw' hs=>?_⟩;have hwl:(uy A n new).toList=A.toList.take n++new++A.toList.drop (n+new.length):=pK _ _ _ (by omega);have gf:A.toList.take n=C:=by
  obtain⟨t,ht⟩:=fK;rw[<- ht,<- hC,List.take_left]
 have hle:Z.le (Z.set b (C++new)):=Fz.JE λD hD=>by rw[hz]at hD;cases hD;exact List.prefix_append _ _
 refine hK w' C hz hC (h.go hle (λc C' zH=>?_) (λc ob ho=>?_)) ⟨hle,λc C' zH hn=>?_,λc hc=>?_,λc hc=>?_,λ_ h'=>h.DB h'⟩ hs.size (hw.IZ hs)
 ·by_cases e:c=b
  ·subst e;rw[Fz.ao]at zH;cases zH;refine .inr ⟨_,_,_,hs.at_,?_⟩;rw[hwl,gf];exact List.prefix_append _ _
  ·rw[Fz.ax _ _ e]at zH;exact .inl ⟨zH,hs.ne c e (h.DB (by rw[zH];simp))⟩
 ·by_cases e:c=b
  ·subst e;rw[Mem.ao]at ho;cases ho;exact .inr ⟨λ_=>hp,⟨_,Fz.ao _ _ _,by simp[hC]⟩,_,_,hs.at_,by rw[uC];exact hmA⟩
  ·rw[Mem.ax _ _ e]at ho;exact .inl ⟨ho,hs.ne c e (h.Pd (by rw[ho];simp)),λhp=>hp,Fz.ax _ _ e⟩
 ·have aQ:c≠b:=by rintro rfl;rw[hm]at hn;cases hn
  rw[Fz.ax _ _ aQ];exact zH
 ·by_cases e:c=b
  ·subst e;exact .inr (.inl (by rw[hm];simp))
  ·rw[Fz.ax _ _ e]at hc;exact .inl hc
 ·by_cases e:c=b
  ·subst e;exact .inl (by rw[hm];simp)
  ·rw[Mem.ax _ _ e]at hc;exact .inl hc
theorem FC{α:Type}{sz:Nat}(h0:0<sz):∀{rows:List (List α)},(∀r∈rows,r.length=sz)->∀k:Nat,rows.flatten[k]?=(rows[k/sz]?).bind λr=>r[k % sz]?
 |[],_,k=>by simp
 |r::rows,h,k=>by
  have hr:r.length=sz:=h r (by simp)
  rw[List.flatten_cons];by_cases hk:k<sz
  ·rw[List.getElem?_append_left (by omega),Nat.div_eq_of_lt hk,Nat.mod_eq_of_lt hk];simp
  ·rw[List.getElem?_append_right (by omega),FC h0 (λr' Bk=>h r' (by simp[Bk])) (k-r.length),hr];have e1:k/sz=(k-sz)/sz+1:=by
    have:k=(k-sz)+sz:=by omega
    rw[this,Nat.add_div_right _ h0];simp
   have e2:k % sz=(k-sz) % sz:=by
    have:k=(k-sz)+sz:=by omega
    rw[this,Nat.add_mod_right];simp
   rw[e1,e2,List.getElem?_cons_succ]
theorem dT{α:Type}{sz:Nat}:∀{rows:List (List α)},(∀r∈rows,r.length=sz)->rows.flatten.length=rows.length*sz
 |[],_=>by simp
 |r::rows,h=>by
  rw[List.flatten_cons,List.length_append,dT λr' Bk=>h r' (by simp[Bk]),h r (by simp),List.length_cons,add_mul,Nat.one_mul,Nat.add_comm]
theorem pX{Z:Fz}{sz:Nat}{fl:Fl}{rows:Lq}{vs:List Value}{b o c:Nat}{C:List Value}(hr:∀r∈rows,r.length=sz)(hv:bq Z rows.flatten vs)(hz:Z b=some C)(hC:∀k,k<vs.length->C[o+k]?=vs[k]?)(hc:rows.length<=c)
  (hf:Tu fl (some ⟨b,o,none⟩) rows.length c):bR Z (.list sz fl rows) (.slice (some ⟨b,o,none⟩) rows.length c):=by
 have hlen:vs.length=rows.length*sz:=by rw[hv.1,dT hr]
 have idx:∀i j,i<rows.length->j<sz->i*sz+j<vs.length:=λi j hi hj=>by
  rw[hlen]
  calc i*sz+j<i*sz+sz:=by omega
   _=(i+1)*sz:=by rw[add_mul,Nat.one_mul]
   _<=rows.length*sz:=Nat.mul_le_mul_right _ (by omega)
 have flat:∀(i j:Nat) row p,rows[i]?=some row->row[j]?=some p->rows.flatten[i*sz+j]?=some p:=λi j row p hi hj=>by
  have Jd:j<sz:=by
   have:=(List.getElem?_eq_some_iff.1 hj).1;rw[hr row (mem_of_getElem? hi)]at this;exact this
  have h0:0<sz:=by omega
  rw[FC h0 hr];have e1:(i*sz+j)/sz=i:=by
   rw[mul_comm,Nat.mul_add_div h0,Nat.div_eq_of_lt Jd,Nat.add_zero]
  have e2:(i*sz+j) % sz=j:=by rw[mul_comm,Nat.mul_add_mod,Nat.mod_eq_of_lt Jd]
  rw[e1,e2,hi];exact hj
 have cells:∀(i j:Nat) row p,rows[i]?=some row->row[j]?=some p->∃v,vs[i*sz+j]?=some v/\p.cell=true/\bR Z p v:=λi j row p hi hj=>hv.get (flat i j row p hi hj);refine .list sz fl rows _ _ c b o C (λi j=>(vs[i*sz+j]?).getD undef) rfl hc (.inr λx h=>by cases h;rfl) hr (λ_=>⟨rfl,hz⟩) (λi j hi hj=>?_) (λi j row p hi hj=>?_) (λi j row p hi hj=>?_) hf
 ·have bI:=idx i j hi hj;rw[add_assoc,hC _ bI,List.getElem?_eq_getElem bI];rfl
 ·obtain⟨v,_,h,_⟩:=cells i j row p hi hj;exact h
 ·obtain⟨v,h1,_,h2⟩:=cells i j row p hi hj;simp only[h1];exact h2
theorem tp{Z:Fz}{u:UW}{μ:Mem}(hg:Good Z u μ){sz:Nat}{fl:Fl}{rows:Lq}{a:Option Addr}{n c:Nat}(h:bR Z (.list sz fl rows) (.slice a n c))(aQ:rows≠[]->sz≠0):
  ∃vs,bq Z rows.flatten vs/\vs.length=n*sz/\(n=0->vs=[])/\(n≠0->∃b o C,a=some ⟨b,o,none⟩/\Z b=some C/\rd u.heap b o (n*sz)=some vs/\vs=(C.drop o).take (n*sz)):=by
 cases h with
 |list _ _ _ _ _ _ b o C g hn hc hs hr ha hgg hk hp hf=>
  by_cases h0:n=0
  ·have:rows=[]:=List.eq_nil_of_length_eq_zero (by omega);subst this;exact⟨[],bq.nil Z,by simp[h0],λ_=>rfl,λh=>absurd h0 h⟩
  ·obtain⟨ea,ez⟩:=ha h0;obtain⟨A,T,f,hA,fK⟩:=hg.Gq b C ez;have N_:sz≠0:=aQ (by rintro rfl;simp at hn;omega)
   ·have Xs:0<sz:=by omega
    have ada:=hgg (n-1) (sz-1) (by omega) (by omega);have hCl:o+n*sz<=C.length:=by
     have bI:=(List.getElem?_eq_some_iff.1 ada).1;have e:(n-1)*sz+sz=n*sz:=by rw[<- Nat.succ_mul];congr 1;omega
     omega
    have HJ:((C.drop o).take (n*sz)).length=n*sz:=by simp;omega
    refine⟨(C.drop o).take (n*sz),⟨by rw[HJ,dT hr,hn],λk p v zE hv=>?_⟩,HJ,λh=>absurd h h0,λ_=>⟨b,o,C,ea,ez,?_,rfl⟩⟩
    ·rw[FC Xs hr]at zE;cases d_:rows[k/sz]? with
     |none=>rw[d_]at zE;cases zE
     |some row=>
      rw[d_]at zE;simp only[Option.bind_some]at zE;have hi:k/sz<n:=by rw[<- hn];exact(List.getElem?_eq_some_iff.1 d_).1
      have hj:k % sz<sz:=Nat.mod_lt _ Xs;have hg2:=hgg (k/sz) (k % sz) hi hj;have hkk:k/sz*sz+k % sz=k:=by rw[mul_comm];exact Nat.div_add_mod k sz
      rw[add_assoc,hkk]at hg2;have bZ:k<n*sz:=by
       have:=(List.getElem?_eq_some_iff.1 hv).1;rw[HJ]at this;exact this
      rw[getElem?_take,if_pos bZ,getElem?_drop,hg2]at hv;cases hv;exact⟨hk _ _ _ _ d_ zE,hp _ _ _ _ d_ zE⟩
    ·obtain⟨t,ht⟩:=fK
     rw[Aw hA (by have:A.size=C.length+t.length:=by have:=congrArg List.length ht;simpa using this.symm
                  omega),<- ht]
     congr 1;rw[List.drop_append_of_le_length (by omega),List.take_append_of_le_length (by simp;omega)]
def ux(q:Bool)(Z:Fz)(μ:Mem)(u:UW)(KP:dw->Mem->Prop)(K:St->UW->Prop):Prop:=
 ∀(Z':Fz) (p':dw) (μ':Mem) (s':St) (u':UW),df Z' p' s'->Good Z' u' μ'->Wf u'->Ext Z μ u.heap.size Z' μ'->u.heap.size<=u'.heap.size->(q=true->Below u.heap.size u.toWorld u'.toWorld)->KP p' μ'->K s' u'
theorem jR{Z:Fz}{ps:List PV}{vs:List Value}(h:bq Z ps vs):eB vs=true:=by
 refine all_eq_true.2 λv hv=>?_;obtain⟨h1,h2⟩:=h.xo v hv;simp[h1,h2]
theorem uV{Z:Fz}{u:UW}{μ:Mem}(hg:Good Z u μ){b o n:Nat}{ps:List PV}(h:ay μ b o n=some ps):∃vs,rd u.heap b o n=some vs/\cF Z ps vs:=by
 unfold ay at h;split at h
 ·rename_i T cs hm;obtain⟨_,_,A,hA,hc⟩:=hg.mem b _ hm;have Vu:A.size=cs.length:=by have:=hc.1;simpa using this
  split at h
  ·rename_i hl;cases h;exact⟨_,Aw hA (by omega),(hc.drop o).take n⟩
  ·cases h
 ·rename_i T cs hm;obtain⟨_,_,A,hA,hc⟩:=hg.mem b _ hm;have Vu:A.size=cs.length:=by have:=hc.1;simpa using this
  split at h
  ·rename_i hl;cases h;exact⟨_,Aw hA (by omega),(hc.drop o).take n⟩
  ·cases h
 ·cases h
theorem tn{E:kr}{q:Bool}{fz:List Nat}{o:Oper}{p:dw}{s:St}{μ:Mem}{u:UW}{KP:dw->Mem->Prop}{K:St->UW->Prop}{Z Zr:Fz}(hr:df Z p s)(hg:Good Zr u μ)(hz:Zr.le Z)(hf:Fy p o=false\/Good Z u μ)
  (hl:ou o=true) (hK:∀p' s',df Z p' s'->KP p' μ->K s' u) (h:V1 E q fz o p μ KP):W1 E.er fz o s u K:=by
 unfold ou at hl;unfold V1 at h;unfold W1;simp only at h |-;cases Ml:o.op<;>simp only[Ml]at h hl |- <;>first|(cases hl;done)|skip
 rename_i t x;cases hk:lK E.P (wX E o) t with
 |none=>rw[hk]at h;exact h.elim
 |some ks=>
  rw[hk]at h;have bZ:kinds E.er.P t=some (ks.map KV.er):=xu hk;rw[bZ];simp only at h |-;rw[length_map];have hx:=hr.ev x;split at h
  ·rename_i k off he;rw[he]at hx;rw[hx.yz];simp only;rw[<- hr.D];split at h
   ·rename_i m hm;rw[hm];simp only;obtain⟨hc,h⟩:=aq h;simp only[and_eq_true]at hc;have eI:=(fh.wW (k:=k) hr.slot ks.length off).c hc.2;rw[hc.1,jR eI];simp only[Bool.and_self,cond_true];exact hK _ _ (hr.fin o (AQ eI)) h
   ·exact h.elim
  ·rename_i row off he;have hg':Good Z u μ:=by
    rcases hf with hf|hf
    ·unfold Fy at hf;simp only[Ml,he]at hf;cases hf
    ·exact hf
   rw[he]at hx;obtain⟨b,of,C,g,hv,hzb,hgg,hkk,hp⟩:=hx.JR;rw[hv];show dI (.pointer (some ⟨b,of+off,none⟩)) _;unfold dI;simp only;obtain⟨ps,hlen,hc,⟨d_,h⟩,hex⟩:=nI (Z:=Z) h;unfold aA at d_;split at d_
   ·rename_i hb;simp only[Option.some.injEq]at d_;obtain⟨A,T,f,hA,fK⟩:=hg'.Gq b C hzb;have hCl:of+row.length<=C.length:=by
     have:=hgg (row.length-1) (by omega);have:=(List.getElem?_eq_some_iff.1 this).1;omega
    obtain⟨tl,ht⟩:=fK;have hAl:A.size=C.length+tl.length:=by have:=congrArg List.length ht;simpa using this.symm
    have dS:=Aw (H:=u.heap) (o:=of+off) (n:=ks.length) hA (by omega);have eI:bq Z ps ((A.toList.drop (of+off)).take ks.length):=by
     rw[<- d_,<- ht];refine⟨by simp;omega,λi pp v Mk hvv=>?_⟩;rw[getElem?_take]at Mk hvv;split at Mk
     ·rename_i hi;rw[if_pos hi,getElem?_drop,List.getElem?_append_left (by omega)]at hvv;rw[getElem?_drop]at Mk;have:=hgg (off+i) (by omega);rw[add_assoc]at hvv;rw[this]at hvv;cases hvv;exact⟨hkk _ _ Mk,hp _ _ Mk⟩
     ·cases Mk
    exact hex (G:=λvs=>rd u.heap b (of+off) ks.length=some vs/\K (fin o s (EW (di E.er.P t) vs)) u) eI.m ⟨dS,hK _ _ (hr.fin o (AQ eI)) h⟩
   ·cases d_
  ·unfold aN at h;split at h
   ·rename_i b off he;rw[he]at hx;rw[hx.ofRaw.1];show dI (.pointer (some ⟨b,off,none⟩)) _;unfold dI;simp only;obtain⟨ps,hlen,hc,⟨dS,h⟩,hex⟩:=nI (Z:=Z) h;obtain⟨vs,hv,hm⟩:=uV hg dS;have eI:=(hm.mono hz).c hc;exact hex (G:=λvs=>rd u.heap b off ks.length=some vs/\K (fin o s (EW (di E.er.P t) vs)) u) eI.m ⟨hv,hK _ _ (hr.fin o (AQ eI)) h⟩
   ·exact h.elim
section
variable {E:kr} {q:Bool} {fz:List Nat} {o:Oper} {p:dw} {s:St} {μ:Mem} {u:UW} {KP:dw->Mem->Prop} {K:St->UW->Prop} {Z:Fz}
theorem AP(hr:df Z p s)(hg:Good Z u μ)(hw:Wf u)(hK:ux q Z μ u KP K){t:TypeId}{cs:List PV}{A:Array Value}(hA:bq Z cs A.toList)(h:NH E q fz o p μ t cs KP):
  (match o.dst with
   |none=>False
   |some k=>bif cM E.er.eX k then
     (bif !nC s.D k&& !cM fz k&&eB A.toList&&ble A.size 65536 then
      K {s with σ:=qX (iM s.σ k (dK k 0)) k 0 A.toList,D:=(k,A.size)::s.D} u else False)
    else ∀(b:Nat) (w':World),qV u.toWorld w' b (.cells A t (0,0))->K (fin o s (.pointer (some ⟨b,0,none⟩))) (u.born b w')):=by
 unfold NH at h;have Vu:A.size=cs.length:=by have:=hA.1;simpa using this
 cases hd:o.dst with
 |none=>rw[hd]at h;exact h.elim
 |some k=>
  rw[hd]at h;simp only at h |-;cases kZ:cM E.eX k with
  |true=>
   have YV:cM E.er.eX k=true:=kZ;rw[kZ]at h;rw[YV];simp only[cond_true]at h |-;obtain⟨hc,h⟩:=aq h;simp only[and_eq_true]at hc;obtain⟨hq,⟨⟨h1,h2⟩,h3⟩,h4⟩:=hc;have su:(!nC s.D k&& !cM fz k&&eB A.toList&&ble A.size 65536)=true:=by
    rw[<- hr.D,h1,h2,jR hA,Vu,h4];rfl
   rw[su];simp only[cond_true];refine hK Z {p with σ:=Ej (aH p.σ k (.box k 0)) k 0 cs,D:=(k,cs.length)::p.D} μ _ u ⟨?_,fh.qX (fh.iM hr.slot (.box k 0)) hA.m⟩ hg hw hg.ext (le_refl _) (λ_=>Below.refl _ _) h;simp[hr.D,Vu]
  |false=>
   have YV:cM E.er.eX k=false:=kZ;rw[kZ]at h;rw[YV];simp only[cond_false]at h |-;intro b w' hB;cases adw:cM E.cst k with
   |true=>
    rw[adw]at h;simp only[cond_true]at h;obtain⟨_,h⟩:=aq h;obtain⟨g1,g2⟩:=hg.XJ hB;refine hK _ _ μ _ _ ((hr.mono g2.le).fin o ?_) g1 (hw.born hB) g2 hB.below.size (λ_=>hB.below) h;have yI:=(hA.mono g2.le).wk;have hl:(cs.map bU).length=A.toList.length:=by simp[Vu]
    have:=bR.bj (Z:=Z.set b A.toList) (cs.map bU) 0 b 0 A.toList (λj=>(A.toList[j]?).getD undef) (Fz.ao _ _ _) (λj hj=>by
     rw[Nat.zero_add,List.getElem?_eq_getElem (by omega)];rfl) (λj pp hj=>(yI.get hj).choose_spec.2.1) (λj pp hj=>by
     obtain⟨v,h1,h2,h3⟩:=yI.get hj
     simp only[h1];exact h3)
    exact this
   |false=>
    rw[adw]at h;simp only[cond_false]at h;obtain⟨g1,g2,g3⟩:=hg.born hB hA.m;exact hK Z _ _ _ _ (hr.fin o (.raw _ rfl rfl)) g1 (hw.born hB) g2 hB.below.size (λ_=>hB.below) (h b g3)
theorem nR.Dy{P:Program}{f:FuncId}{args:Array Value}{u:UW}{K K':Value->UW->Prop}(h:nR P f args u K)
  (hk:∀v lo w',Mod u.fW u.toWorld w'->u.heap.size<=lo->K v (u.ret lo w')->K' v (u.ret lo w')):nR P f args u K':=by
 obtain⟨F,hF,h⟩:=h;exact⟨F,hF,h.mono λv lo w' hm hl hK=>hk v lo w' ⟨hm.os,hm.tape,hm.output,hm.size,λb hb hn=>hm.cw b hb λhf=>hn (hF b hf)⟩ hl hK⟩
theorem bJ.v{P:Program}{f:PV}{args:List PV}{KP:Kq}{fv:Value}{vs:List Value}(hg:Good Z u μ)(hw:Wf u)(hf:bR Z f fv)(ha:bn Z args vs)(h:bJ P f args μ KP):
  oZ P fv vs u λv u'=>∃Z' μ' p,Ext Z μ u.heap.size Z' μ'/\Good Z' u' μ'/\bR Z' p v/\KP p μ':=by
 unfold bJ at h;split at h
 ·rename_i g first tP
  obtain⟨fv',ph,rfl,h1,h2⟩:=hf.ofFn;obtain⟨hc,dA⟩:=h Z u (fv'++vs++ph) hg hw ((h1.append ha).append h2);show(bif dv P g then nR P g (fv'.toArray.toList++vs++ph.toArray.toList).toArray u _ else False);rw[hc];exact dA
 ·exact h Z u fv vs hg hw hf ha
def MZ(q:Bool)(Z:Fz)(μ:Mem)(u:UW)(KP:Kq)(K:Value->UW->Prop):Prop:=
 ∀(Z':Fz) (μ':Mem) (p:PV) (v:Value) (u':UW),Ext Z μ u.heap.size Z' μ'->Good Z' u' μ'->Wf u'->u.heap.size<=u'.heap.size->(q=true->Below u.heap.size u.toWorld u'.toWorld)->bR Z' p v->KP p μ'->K v u'
theorem dM.f{P:Program}{g:FuncId}{args:List PV}{KP:Kq}{vs:List Value}{K:Value->UW->Prop}(hg:Good Z u μ)(hw:Wf u)(ha:bn Z args vs)(h:dM P g args μ λp μ'=>KP p (μ.or μ'))(hK:MZ true Z μ u KP K):
  dv P g=true/\nR P g vs.toArray u K:=by
 obtain⟨hc,F,hF,dA⟩:=h Z u vs hg hw ha;refine⟨hc,F,λb hb=>(hF b hb).elim,dA.mono λv lo w' hm hl hp=>?_⟩;obtain⟨Z',μ',p,e,g',hr,hk⟩:=hp;have hB:Below u.heap.size u.toWorld w':=⟨hm.os,hm.tape,hm.output,hm.size,λb hb=>hm.cw b hb λhf=>hF b hf⟩;have hZ:∀b,b<u.heap.size->Z' b=Z b:=λb hb=>by
  cases hz:Z b with
  |some C=>exact e.zs b C hz rfl
  |none=>
   cases NU:Z' b with
   |none=>rfl
   |some C=>
    rcases e.zn b (by rw[NU];simp)with h1|h1|h1
    ·exact absurd hz h1
    ·exact absurd rfl h1
    ·omega
 refine hK Z' (μ.or μ') p v (u.ret lo w') ⟨e.le,λb C h1 _=>e.zs b C h1 rfl,λb h1=>?_,λb h1=>?_,e.lt⟩ ⟨g'.Gq,λb ob hb=>?_⟩ (hw.ret hm.size) hm.size (λ_=>hB) hr hk
 ·rcases e.zn b h1 with h2|h2|h2
  ·exact .inl h2
  ·exact absurd rfl h2
  ·exact .inr (.inr h2)
 ·unfold Mem.or at h1;cases sr:μ b with
  |some x=>exact .inl (by simp)
  |none=>
   rw[sr]at h1;rcases e.mn b h1 with h2|h2
   ·exact absurd rfl h2
   ·exact .inr h2
 ·unfold Mem.or at hb;cases sr:μ b with
  |some x=>
   rw[sr]at hb;simp only[Option.some.injEq]at hb;subst hb;obtain⟨p1,p2⟩:=hg.mem b x sr;exact⟨λhr=>.inl (p1 hr),p2.go e.le (hZ b p2.lt) (hB.block b p2.lt)⟩
  |none=>
   rw[sr]at hb;obtain⟨p1,p2⟩:=g'.mem b ob hb;exact⟨λhr=>(p1 hr).elim False.elim .inr,p2⟩
theorem Cg.v{P:Program}{f:PV}{args:List PV}{KP:Kq}{fv:Value}{vs:List Value}{K:Value->UW->Prop}(hg:Good Z u μ)(hw:Wf u)(hf:bR Z f fv)(ha:bn Z args vs)(h:Cg P q f args μ KP)(hK:MZ q Z μ u KP K):oZ P fv vs u K:=by
 unfold Cg at h;cases q with
 |false=>
  simp only[cond_false]at h;refine(bJ.v hg hw hf ha h).mono λv lo w' hm hl hp=>?_;obtain⟨Z',μ',p,e,g',hr,hk⟩:=hp;exact hK Z' μ' p v _ e g' (hw.ret hm.size) hm.size (λh=>by cases h) hr hk
 |true=>
  simp only[cond_true]at h;split at h
  ·rename_i g first tP
   obtain⟨fv',ph,rfl,h1,h2⟩:=hf.ofFn;obtain⟨hc,dA⟩:=dM.f hg hw ((h1.append ha).append h2) h hK;show(bif dv P g then nR P g (fv'.toArray.toList++vs++ph.toArray.toList).toArray u K else False);rw[hc];exact dA
  ·exact h.elim
end
end Go.aP
