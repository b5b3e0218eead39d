import Derived.Test.YtbodiiomcfgokaaGreatB03
set_option linter.all false
namespace Go.aK
open Go.RowKit
inductive KV where
 |raw (k:K1)
 |list (sz:Nat)
 |fn
 deriving DecidableEq,Inhabited
@[reducible] def KV.T:KV->Type
 | .raw k=>k.T
 | .list _=>Fl×Lq
 | .fn=>Fn×List PV×List PV
def KV.p:(k:KV)->k.T->PV
 | .raw k,x=>.raw (k.v x)
 | .list sz,x=>.list sz x.1 x.2
 | .fn,x=>.fn x.1 x.2.1 x.2.2
def ME:Fl->Lq->Option (Fl×Lq)
 | .nil,[]=>some (.nil,[])
 |_,_=>none
def KV.get:(k:KV)->PV->Option k.T
 | .raw k,.raw v=>k.get v
 | .raw .slice,.list _ .nil _=>some (none,0,0)
 | .list sz,.list WM fl rows=>bif Nat.beq sz WM then some (fl,rows)else ME fl rows
 | .fn,.fn f a b=>some (f,a,b)
 |_,_=>none
def KV.er:KV->K1
 | .raw k=>k
 | .list _=>.slice
 | .fn=>.fn
def ab6:KV->(PV->Prop)->Prop
 | .raw k,F=>exK k λv=>F (.raw v)
 | .list sz,F=>∃(fl:Fl) (rows:Lq),F (.list sz fl rows)
 | .fn,F=>∃(f:Fn) (a b:List PV),F (.fn f a b)
def QX:List KV->(List PV->Prop)->Prop
 |[],F=>F []
 |k::ks,F=>ab6 k λv=>QX ks λvs=>F (v::vs)
inductive Wv where
 |one (k:KV)
 |agg (ks:List KV)
 |box (ks:List KV)
 deriving DecidableEq,Inhabited
def Wv.er:Wv->Kd
 | .one k=>.one k.er
 | .agg ks=>.agg (ks.map KV.er)
 | .box ks=>.box (ks.map KV.er)
@[reducible] def TLP:List KV->Type
 |[]=>Unit
 |[k]=>k.T
 |k::k'::ks=>k.T×TLP (k'::ks)
def Iz:(ks:List KV)->TLP ks->List PV
 |[],_=>[]
 |[k],x=>[k.p x]
 |k::k'::ks,x=>k.p x.1::Iz (k'::ks) x.2
def rm:(ks:List KV)->List PV->Option (TLP ks)
 |[],[]=>some ()
 |[k],[v]=>k.get v
 |k::k'::ks,v::vs=>match k.get v,rm (k'::ks) vs with
  |some x,some y=>some (x,y)
  |_,_=>none
 |_,_=>none
@[reducible] def Wv.T:Wv->Type
 | .one k=>k.T
 | .agg ks=>TLP ks
 | .box ks=>TLP ks
abbrev ve:=List (Nat×Wv)
def ve.er(l:ve):Live:=l.map λx=>(x.1,x.2.er)
@[reducible] def Bz:ve->Type
 |[]=>Unit
 |[x]=>x.2.T
 |x::y::l=>x.2.T×Bz (y::l)
abbrev w_:=Nat->PV
structure eI where
 σ:w_
 D:List (Nat×Nat)
def aQ(σ:w_)(t:Nat)(v:PV):w_:=λi=>bif Nat.beq i t then v else σ i
def Ms(σ:w_)(d:Option Nat)(v:PV):w_:=match d with|some t=>aQ σ t v|none=>σ
def GS(σ:w_)(k:Nat):Nat->List PV->w_
 |_,[]=>σ
 |j,v::vs=>GS (aQ σ (gx k j) v) k (j+1) vs
def Hj(σ:w_)(k:Nat):Nat->Nat->List PV
 |_,0=>[]
 |j,m+1=>σ (gx k j)::Hj σ k (j+1) m
def DG(st:eI):(x:Nat×Wv)->Option x.2.T
 |(t,.one k)=>k.get (st.σ t)
 |(t,.agg ks)=>match st.σ t with
  | .agg a=>rm ks a
  |_=>none
 |(t,.box ks)=>match st.σ t with
  | .box k o=>bif (Nat.beq k t&&Nat.beq o 0)&&jx st.D t ks.length then rm ks (Hj st.σ t 0 ks.length)else none
  |_=>none
def sS(st:eI):(l:ve)->Option (Bz l)
 |[]=>some ()
 |[x]=>DG st x
 |x::y::l=>match DG st x,sS st (y::l)with
  |some a,some b=>some (a,b)
  |_,_=>none
def Mk(st:eI):(x:Nat×Wv)->x.2.T->eI
 |(t,.one k),v=>{st with σ:=aQ st.σ t (k.p v)}
 |(t,.agg ks),v=>{st with σ:=aQ st.σ t (.agg (Iz ks v))}
 |(t,.box ks),v=>{st with σ:=GS (aQ st.σ t (.box t 0)) t 0 (Iz ks v),D:=bif jx st.D t ks.length then st.D else(t,ks.length)::st.D}
def CE(st:eI):(l:ve)->Bz l->eI
 |[],_=>st
 |[x],v=>Mk st x v
 |x::y::l,v=>CE (Mk st x v.1) (y::l) v.2
structure xn where
 live:ve
 gL:List (Nat×Nat)
def xn.er(c:xn):Cut:=⟨c.live.er,c.gL⟩
def BQ(σ:w_):List (Nat×Nat)->w_
 |[]=>σ
 |(k,m)::l=>BQ (GS (aQ σ k (.box k 0)) k 0 (List.replicate m .bd)) l
def Tx(v:PV)(k:Nat):Bool:=
 match v with
 | .box k' o=>Nat.beq k' k&&Nat.beq o 0
 |_=>false
def sr(st:eI):List (Nat×Nat)->Bool
 |[]=>true
 |(k,m)::l=>jx st.D k m&&Tx (st.σ k) k&&sr st l
def Ol(σ:w_)(ws:List Nat):w_:=λt=>bif Nat.blt t 65536&&dw ws t then .bd else σ t
def aa2(st:eI)(ws:List Nat)(c:xn)(x:Bz c.live):eI:=
 CE {st with σ:=BQ (Ol st.σ ws) c.gL} c.live x
def oU(P:Program)(r:Bool):Nat->TypeId->Option (List KV)
 |0,_=>none
 |f+1,t=>match P.underlying t with
  |some (.int k)=>some [.raw (.int k)]
  |some .bool=>some [.raw .bool]
  |some .string=>some [.raw .str]
  |some (.slice e)=>some [bif r then .raw .slice else .list (P.cellsOf e)]
  |some (.pointer _)=>some [.raw .ptr]
  |some (.func ..)=>some [.fn]
  |some (.map ..)=>some [.raw .map]
  |some (.struct fs)=>fs.toList.foldr (λx acc=>match oU P r f x.type,acc with|some a,some b=>some (a++b)|_,_=>none) (some [])
  |some (.array n e)=>match oU P r f e with
   |some ks=>some ((List.replicate n ks).flatten)
   |none=>none
  |_=>none
def nO(P:Program)(r:Bool)(t:TypeId):Option (List KV):=
 match oU P r 8 t with
 |some ks=>bif Nat.beq ks.length (P.cellsOf t)then(bif d_ P t||Nat.beq ks.length 1 then some ks else none)else none
 |none=>none
def Wg:Bool->List PV->PV
 |true,vs=>.agg vs
 |false,[v]=>v
 |_,_=>.bd
def UB(P:Program)(r:Bool)(t:TypeId)(F:PV->Prop):Prop:=
 match nO P r t with
 |some ks=>QX ks λvs=>F (Wg (d_ P t) vs)
 |none=>False
def OU(P:Program)(r:Bool):List TypeId->(List PV->Prop)->Prop
 |[],F=>F []
 |t::ts,F=>UB P r t λv=>OU P r ts λvs=>F (v::vs)
def QV(P:Program)(r:Bool)(t:TypeId)(F:PV->Prop):Prop:=
 match P.underlying t with
 |some (.tuple ts)=>OU P r ts.toList λvs=>F (.aD vs)
 |_=>UB P r t F
def EU:Value->PV
 | .slice none 0 0=>.list 0 .nil []
 | .slice .. | .agg _| .tuple _| .complex .. | .iface .. =>.bd
 | .func f a b=>bif Nat.beq a.size 0&&Nat.beq b.size 0 then .fn f [] []else .bd
 |v=>.raw v
def br(ps:List PV):Bool:=ps.all PV.cell
def Li(ps:List PV):Bool:=ps.all PV.ok
def ofV:Value->PV
 | .agg a=>bif br (a.toList.map EU)then .agg (a.toList.map EU)else .bd
 | .tuple a=>bif Li (a.toList.map EU)then .aD (a.toList.map EU)else .bd
 |v=>EU v
def nrm(sz:Nat):PV->PV
 | .list 0 fl []=>.list sz fl []
 |p=>p
def CX:List KV->List PV->List PV
 | .list sz::ks,p::ps=>nrm sz p::CX ks ps
 |_::ks,p::ps=>p::CX ks ps
 |_,ps=>ps
def im(P:Program)(t:TypeId)(p:PV):PV:=
 match nO P false t with
 |some ks=>match p with
  | .agg cs=>.agg (CX ks cs)
  | .list 0 fl []=>match ks with
    |[.list sz]=>.list sz fl []
    |_=>p
  |p=>p
 |none=>p
def u_(σ:w_):Operand->PV
 | .tmp t=>σ t
 | .const v=>ofV v
 | .global g=>pP g 0
 | .func f=>.fn (.func f) [] []
def cH:PV->PV
 | .list sz _ rows=>.list sz .sh rows
 |p=>p
def Bp:PV->PV
 | .agg cs=>.agg (cs.map cH)
 |p=>p
def wk:PV->PV
 | .agg cs=>.agg (cs.map cH)
 | .aD vs=>.aD (vs.map λp=>Bp (cH p))
 |p=>cH p
def Rp(P:Program)(t:TypeId)(p:PV):PV:=Bp (im P t p)
def vb(P:Program):List TypeId->List PV->List PV
 |t::ts,p::ps=>Rp P t p::vb P ts ps
 |_,ps=>ps
def aB(μ:Mem)(b o n:Nat):Option (List PV):=
 match μ b with
 |some (.cells _ cs)=>if o+n<=cs.length then some ((cs.drop o).take n)else none
 |some (.ro _ cs)=>if o+n<=cs.length then some ((cs.drop o).take n)else none
 |_=>none
def ay(row:List PV)(o n:Nat):Option (List PV):=if o+n<=row.length/\0<n then some ((row.drop o).take n)else none
def dN(cs:List PV)(o:Nat)(vs:List PV):List PV:=cs.take o++vs++cs.drop (o+vs.length)
def stM(b o:Nat)(vs:List PV)(μ:Mem)(K:Mem->Prop):Prop:=
 ∃(T:TypeId) (cs:List PV),μ b=some (.cells T cs)/\o+vs.length<=cs.length/\K (μ.set b (some (.cells T (dN cs o vs))))
def aF(v:PV)(F:Nat->Nat->Prop):Prop:=
 match v with
 | .raw (.pointer (some ⟨b,o,none⟩))=>F b o
 |_=>False
def aa(P:Program)(g:FuncId)(args:List PV)(μ:Mem)(K:Kq):Prop:=
 ∀(Z:Fz) (u:UW) (vs:List Value),Good Z u μ->(∀b,u.ij b->b<u.heap.size)->bf Z args vs->eG P g=true/\qy P g vs.toArray u λv u'=>∃Z' μ' p,Ext Z μ u.heap.size Z' μ'/\Good Z' u' μ'/\cy Z' p v/\K p μ'
def dz(P:Program)(g:FuncId)(args:List PV)(μ:Mem)(K:Kq):Prop:=
 ∀(Z:Fz) (u:UW) (vs:List Value),Good Z u μ->(∀b,u.ij b->b<u.heap.size)->bf Z args vs->eG P g=true/\qy P g vs.toArray ⟨u.toWorld,λ_=>False⟩ λv u'=>∃Z' μ' p,Ext Z M0 u.heap.size Z' μ'/\Good Z' u' μ'/\cy Z' p v/\K p μ'
def Ay(P:Program)(f:PV)(args:List PV)(μ:Mem)(K:Kq):Prop:=
 ∀(Z:Fz) (u:UW) (fv:Value) (vs:List Value),Good Z u μ->(∀b,u.ij b->b<u.heap.size)->cy Z f fv->bf Z args vs->rN P fv vs u λv u'=>∃Z' μ' p,Ext Z μ u.heap.size Z' μ'/\Good Z' u' μ'/\cy Z' p v/\K p μ'
def bY(P:Program)(f:PV)(args:List PV)(μ:Mem)(K:Kq):Prop:=
 match f with
 | .fn (.func g) first wv=>aa P g (first++args++wv) μ K
 |f=>Ay P f args μ K
def EA(P:Program)(q:Bool)(f:PV)(args:List PV)(μ:Mem)(K:Kq):Prop:=
 bif q then(match f with
  | .fn (.func g) first wv=>dz P g (first++args++wv) μ (λp μ'=>K p (μ.or μ'))
  |_=>False)else bY P f args μ K
def bk(P:Program)(f:PV)(body:List PV->(Option Code->Mem->Prop)->Mem->Prop)(K:Option Code->Mem->Prop)(μ:Mem):Prop:=
 (∃g a b,f=.fn (.func g) a b)/\∀(l:Nat) (rec:Option Code->Ob),μ l=none->
  (∀(vs:List PV) (μ1:Mem) (R:Option Code->Mem->Prop),μ1 l=none->body vs R μ1->
   bY P (.fn (.yield l) [] []) vs (μ1.set l (some (rec none))) λv μ2=>∃p μ3,v=pB p.isNone/\μ3 l=none/\μ2=μ3.set l (some (rec p))/\R p μ3)->
  bY P f [.fn (.yield l) [] []] (μ.set l (some (rec none))) λ_ μ2=>∃p μ3,μ3 l=none/\μ2=μ3.set l (some (rec p))/\K p μ3
structure mh where
 P:Program
 n:Nat
 gp:List Nat
 loops:List (Nat×xn)
 kP:List (Nat×xn)
 uc:List (Nat×List TypeId)
 cst:List Nat
 wrt:List Nat
 mL:List Nat
def mh.er(E:mh):Env:=⟨E.P,E.n,E.gp,E.loops.map λx=>(x.1,x.2.er),E.kP.map λx=>(x.1,x.2.er),E.uc⟩
def dx(o:Oper)(st:eI)(v:PV):eI:={st with σ:=Ms st.σ o.dst v}
def Lc(P:Program)(fs:Array Field):List (Nat×PV)->List PV->Option (List PV)
 |[],cs=>some cs
 |(i,v)::ps,cs=>match fs[i]? with
  |some f=>bif Nat.beq v.cells.length (P.cellsOf f.type)&&Nat.ble (f.offset+v.cells.length) cs.length&&(P.info? f.type).isSome then
    Lc P fs ps (cs.take f.offset++v.cells++cs.drop (f.offset+v.cells.length))else none
  |none=>none
def pM(P:Program)(t:TypeId)(z:Value):PV:=im P t (ofV z)
def Ea(size:Nat):Nat->List (Nat×PV)->Option (Lq)
 |_,[]=>some []
 |i,(j,v)::ps=>bif Nat.beq i j&&Nat.beq v.cells.length size then(match Ea size (i+1) ps with|some l=>some (v.cells.map cH::l)|none=>none)else none
def acB(P:Program)(t:TypeId)(ps:List (Nat×PV)):Option (List PV):=
 match(P.info? t).bind (·.zero),P.underlying t with
 |some z,some (.struct fs)=>bif (pM P t z).ok&&d_ P t&&fs.toList.all λf=>(P.info? f.type).isSome then
   (match pM P t z with
   | .agg cs=>Lc P fs (ps.map λp=>(p.1,match fs[p.1]? with|some f=>im P f.type p.2|none=>p.2)) cs
   |_=>none)else none
 |some z,some (.array len e)=>bif (P.info? e).isSome&&Nat.beq ps.length len&&Nat.beq z.cells.size (len*P.cellsOf e)then
   (match Ea (P.cellsOf e) 0 (ps.map λp=>(p.1,im P e p.2))with
   |some rows=>some rows.flatten
   |none=>none)else none
 |_,_=>none
def ab7(P:Program)(e:TypeId)(off:Nat)(cs:List PV):Option PV:=
 bif (P.underlying e).isSome&&Nat.ble (off+P.cellsOf e) cs.length then(bif d_ P e then some (.agg ((cs.drop off).take (P.cellsOf e)))else cs[off]?)else none
def ab3(P:Program)(t:TypeId)(f:Nat)(cs:List PV):Option PV:=
 match P.underlying t with
 |some (.struct fs)=>match fs[f]? with
  |some x=>bif (P.underlying x.type).isSome&&Nat.ble (x.offset+P.cellsOf x.type) cs.length then
    (bif d_ P x.type then some (.agg ((cs.drop x.offset).take (P.cellsOf x.type)))else cs[x.offset]?)else none
  |none=>none
 |_=>none
def ji(ρ:Operand->PV)(x:Option Operand)(d:Int):Option Int:=
 match x with
 |none=>some d
 |some x=>match ρ x with
  | .raw (.int _ i)=>some i
  |_=>none
def vD(size sz:Nat)(rows:Lq):Bool:=bif Nat.beq sz size then true else(match rows with|[]=>true|_=>false)
def acE(rows:Lq)(A B:Prop):Prop:=match rows with|[]=>A|_::_=>B
def YM(q:Bool)(size:Nat)(fl:Fl)(n m:Nat)(μ:Mem)(K:Fl->Mem->Prop):Prop:=
 match fl with
 | .nr=>∀b c,μ b=none->n+m<=c->K (.pU b c) (μ.set b (some (.pU ((n+m)*size) (c*size))))
 | .nil=>∀b c,μ b=none->n+m<=c->K (.pU b c) (μ.set b (some (.pU ((n+m)*size) (c*size))))
 | .pU b c=>bif q then False else μ b=some (.pU (n*size) (c*size))/\∀b' c',(b'=b\/μ b'=none)->n+m<=c'->
   K (.pU b' c') ((μ.set b none).set b' (some (.pU ((n+m)*size) (c'*size))))
 | .sh=>False
def aV(q:Bool)(size bytes:Nat)(fl:Fl)(rows new:Lq)(μ:Mem)(K:Fl->Mem->Prop):Prop:=
 (rows.length+new.length)*bytes<=140737488355328/\rows.length+new.length<4611686018427387904/\acE new (K fl μ) (YM q size fl rows.length new.length μ K)
def JR(size:Nat)(μ:Mem)(y:PV)(F:Nat->List PV->Prop):Prop:=
 match y with
 | .list sz _ rows=>bif vD size sz rows then F rows.length rows.flatten else False
 | .raw (.slice (some ⟨b,o,none⟩) m _)=>∃cs,aB μ b o (m*size)=some cs/\F m cs
 |_=>False
def lZ(size bytes:Nat)(e:TypeId)(a:Option Addr)(n c:Nat)(y:PV)(μ:Mem)(K:Option Addr->Nat->Nat->Mem->Prop):Prop:=
 JR size μ y λm new=>(n+m)*bytes<=140737488355328/\n+m<4611686018427387904/\n<=c/\((m=0/\(n≠0->∃b o ET,a=some ⟨b,o,none⟩/\aB μ b o (n*size)=some ET)/\K a n c μ)\/(m≠0/\br new=true/\
  (n+m<=c->∃b o T cs,a=some ⟨b,o,none⟩/\μ b=some (.cells T cs)/\o+c*size<=cs.length/\K a (n+m) c (μ.set b (some (.cells T (dN cs (o+n*size) new)))))/\
  (c<n+m->∃ET,((n=0/\ET=[])\/∃b o,a=some ⟨b,o,none⟩/\aB μ b o (n*size)=some ET)/\∀b' c',μ b'=none->n+m<=c'->K (some ⟨b',0,none⟩) (n+m) c' (μ.set b' (some (.cells e (ET++new++List.replicate ((c'-(n+m))*size) .bd)))))))
def Po(P:Program)(q:Bool)(e:TypeId)(x y:PV)(μ:Mem)(K:Kq):Prop:=
 match(P.info? e).map (λi=>(i.size,i.bytes,i.zero.map λz=>z.cells.toList.length))with
 |some (size,bytes,some zl)=>bif Nat.beq zl size&& !Nat.beq size 0 then(match x,y with
  | .list sz fl rows,.list WM _ new=>bif vD size sz rows&&vD size WM new then aV q size bytes fl rows new μ λlT μ'=>K (.list size lT (rows++new)) μ' else False
  | .raw (.slice a n c),y=>bif q then False else lZ size bytes e a n c y μ λa' n' c' μ'=>K (.raw (.slice a' n' c')) μ'
  |_,_=>False)else False
 |_=>False
def lF:List PV->Option (List Value)
 |[]=>some []
 | .raw v::ps=>match lF ps with|some vs=>some (v::vs)|none=>none
 |_=>none
def VA(P:Program)(op:BinOp)(t:TypeId)(x y:PV)(K:PV->Prop):Prop:=
 match x,y with
 | .raw a,.raw b=>rW P op t a b λv=>K (.raw v)
 | .agg a,.agg b=>match lF a,lF b with
   |some a,some b=>rW P op t (.agg a.toArray) (.agg b.toArray) λv=>K (.raw v)
   |_,_=>False
 | .fn f _ _,.raw .nilFunc=>rW P op t (.func f #[] #[]) .nilFunc λv=>K (.raw v)
 |_,_=>False
def Dr(ρ:Operand->PV):List Operand->Option (IntKind×List Int)
 |[]=>none
 |[x]=>match ρ x with| .raw (.int k i)=>some (k,[i])|_=>none
 |x::l=>match ρ x,Dr ρ l with
  | .raw (.int k i),some (k',is)=>bif decide (k=k')then some (k,i::is)else none
  |_,_=>none
def Cg(r:Bool)(p:PV):PV:=bif r then(match p with| .list _ .nil _=>.raw (.slice none 0 0)|p=>p)else p
def SL(mL:List Nat)(k:Nat):Nat->List PV->List PV
 |_,[]=>[]
 |i,c::cs=>Cg (dw mL k||dw mL (2000000+1000*k+i)) c::SL mL k (i+1) cs
def PZ(mL:List Nat)(k:Option Nat)(cs:List PV):List PV:=match k with|some k=>SL mL k 0 cs|none=>cs
def adW(x:Operand):Option Nat:=match x with| .tmp a=>some a|_=>none
def JE(E:mh)(o:Oper):Bool:=match o.dst with|some d=>dw E.mL d|none=>false
def adP(E:mh)(o:Oper):Bool:=match o.dst with|some d=>dw E.wrt d|none=>false
def V1b(E:mh)(q:Bool)(o:Oper)(st:eI)(μ:Mem)(b:Builtin)(args:List Operand)(ts:List TypeId)(K:eI->Mem->Prop):Prop:=
 match b,args,ts with
 | .len,[x],[t]=>match E.P.underlying t,u_ st.σ x with
   |some (.slice _),.list _ _ rows=>K (dx o st (pI rows.length)) μ
   |some (.slice _),.raw (.slice _ n _)=>K (dx o st (pI n)) μ
   |some .string,.raw (.string s)=>K (dx o st (pI s.size)) μ
   |some (.array n _),v=>bif v.ok then K (dx o st (pI n)) μ else False
   |_,_=>False
 | .append,[x,y],[t,t']=>match E.P.underlying t,E.P.underlying t' with
   |some (.slice e),some (.slice _)=>Po E.P q e (Cg (JE E o) (u_ st.σ x)) (u_ st.σ y) μ λp μ'=>K (dx o st p) μ'
   |_,_=>False
 | .min,xs,_=>match Dr (u_ st.σ) xs with
   |some (k,i::is)=>K (dx o st (.raw (.int k (is.foldl (λx y=>if y<x then y else x) i)))) μ
   |_=>False
 | .max,xs,_=>match Dr (u_ st.σ) xs with
   |some (k,i::is)=>K (dx o st (.raw (.int k (is.foldl (λx y=>if y>x then y else x) i)))) μ
   |_=>False
 |_,_,_=>False
def Qg(E:mh)(q:Bool)(fz:List Nat)(o:Oper)(st:eI)(μ:Mem)(t:TypeId)(cs:List PV)(K:eI->Mem->Prop):Prop:=
 match o.dst with
 |none=>False
 |some k=>bif dw E.gp k then
   (bif !q&&(!qh st.D k&& !dw fz k&&br cs&&Nat.ble cs.length 65536)then K {st with σ:=GS (aQ st.σ k (.box k 0)) k 0 cs,D:=(k,cs.length)::st.D} μ else False)
  else bif dw E.cst k then(bif br cs then K (dx o st (.bn (cs.map cH) 0)) μ else False)
  else ∀b,μ b=none->K (dx o st (pP b 0)) (μ.set b (some (.cells t cs)))
def V1(E:mh)(q:Bool)(fz:List Nat)(o:Oper)(st:eI)(μ:Mem)(K:eI->Mem->Prop):Prop:=
 let ρ:=u_ st.σ
 let r:=JE E o
 match o.op with
 | .move x| .assign x=>K (dx o st (im E.P o.type (ρ x))) μ
 | .pick c a b=>match ρ c with
   | .raw (.bool t)=>ab t (K (dx o st (im E.P o.type (ρ a))) μ) (K (dx o st (im E.P o.type (ρ b))) μ)
   |_=>False
 | .alloc t=>match(E.P.info? t).bind (·.zero)with
   |none=>False
   |some z=>bif (pM E.P t z).ok then Qg E q fz o st μ t (PZ E.mL o.dst (pM E.P t z).cells) K else False
 | .box t x=>bif (ρ x).ok then Qg E q fz o st μ t (PZ E.mL o.dst (im E.P t (ρ x)).cells) K else False
 | .build t ps=>bif ps.toList.all λp=>(ρ p.2).ok then match acB E.P t (ps.toList.map λp=>(p.1,ρ p.2))with
   |some vs=>K (dx o st (.agg vs)) μ
   |none=>False else False
 | .buildSlice t len ps=>bif (ps.toList.all λp=>(ρ p.2).ok)&&Nat.beq ps.toList.length len then match yw E.P t with
   |none=>False
   |some e=>match Ea (E.P.cellsOf e) 0 (ps.toList.map λp=>(p.1,im E.P e (ρ p.2)))with
    |some rows=>bif Nat.ble rows.flatten.length 65536&&((E.P.info? e).bind (·.zero)).isSome&& !Nat.beq (E.P.cellsOf e) 0 then
      (bif adP E o then ∀b,μ b=none->K (dx o st (.raw (.slice (some ⟨b,0,none⟩) len len))) (μ.set b (some (.cells e (PZ E.mL o.dst rows.flatten))))
      else K (dx o st (.list (E.P.cellsOf e) .nr rows)) μ)else False
    |none=>False else False
 | .load t x=>match nO E.P r t with
   |none=>False
   |some ks=>match ρ x with
    | .box k off=>match gk st.D k with
      |some m=>bif Nat.ble (off+ks.length) m&&br (Hj st.σ k off ks.length)then K (dx o st (Wg (d_ E.P t) (Hj st.σ k off ks.length))) μ else False
      |none=>False
    | .bn row off=>QX ks λvs=>ay row off ks.length=some vs/\K (dx o st (Wg (d_ E.P t) vs)) μ
    |v=>aF v λb off=>QX ks λvs=>aB μ b off ks.length=some vs/\K (dx o st (Wg (d_ E.P t) vs)) μ
 | .store t x y=>bif (ρ y).ok&&Nat.beq (im E.P t (ρ y)).cells.length (E.P.cellsOf t)&&(E.P.info? t).isSome then match ρ x with
   | .box k off=>match gk st.D k with
     |some m=>bif Nat.ble (off+(im E.P t (ρ y)).cells.length) m&& !dw fz k then K {st with σ:=Ms (GS st.σ k off (im E.P t (ρ y)).cells) o.dst (.aD [])} μ else False
     |none=>False
   |v=>bif q then False else aF v λb off=>stM b off (PZ E.mL (adW x) (im E.P t (ρ y)).cells) μ λμ'=>K (dx o st (.aD [])) μ'
   else False
 | .nilCheck x=>match ρ x with
   | .box k off=>K (dx o st (.box k off)) μ
   | .bn row off=>K (dx o st (.bn row off)) μ
   | .raw (.pointer a)=>nn a (K (dx o st (.raw (.pointer a))) μ)
   | .fn f a b=>DI f (K (dx o st (.fn f a b)) μ)
   |_=>False
 | .binOp op t x y _=>VA E.P op t (ρ x) (ρ y) λv=>K (dx o st v) μ
 | .unOp op _ x=>match op,ρ x with
   | .not,.raw (.bool b)=>K (dx o st (pB (!b))) μ
   | .neg,.raw (.int k n)=>K (dx o st (.raw (.int k (k.wrap (0-n))))) μ
   |_,_=>False
 | .convert src dst x=>match ρ x with
   | .raw v=>match pv E.P (convert src dst v)with
     |some v'=>bif plain v'&&one v' then K (dx o st (.raw v')) μ else False
     |none=>False
   |_=>False
 | .makeInterface t x=>bif (ρ x).ok&&(match E.P.underlying t with|some (.interface _)=>false|some _=>true|none=>false)then K (dx o st (.iface t (ρ x))) μ else False
 | .makeSlice t x y=>match E.P.underlying t,ρ x,ρ y with
   |some (.slice e),.raw (.int _ i),.raw (.int _ j)=>match(E.P.info? e).map (λi=>(i.size,i.bytes,i.zero.map λz=>(pM E.P e z).cells))with
    |some (size,bytes,some zero)=>bif Nat.beq zero.length size&& !Nat.beq size 0&&br zero then
      0<=i/\i<=j/\j<4611686018427387904/\j.toNat*bytes<=140737488355328/\
      ∀b,μ b=none->K (dx o st (.raw (.slice (some ⟨b,0,none⟩) i.toNat j.toNat))) (μ.set b (some (.cells e (List.replicate j.toNat zero).flatten)))else False
    |_=>False
   |_,_,_=>False
 | .makeFunc fn first captured=>bif first.toList.all (λx=>(ρ x).ok)&&captured.toList.all (λx=>(ρ x).ok)then
   K (dx o st (.fn fn (first.toList.map λx=>wk (ρ x)) (captured.toList.map λx=>wk (ρ x)))) μ else False
 | .slice t x lo hi mx=>match E.P.underlying t,ρ x with
   |some (.slice e),.list sz _ rows=>match ji ρ lo 0,ji ρ hi rows.length,ji ρ mx rows.length with
    |some l,some h,some m=>bif (mx.isSome&&hi.isNone)||(E.P.info? e).isNone|| !vD (E.P.cellsOf e) sz rows then False else
      match mx with
      |none=>0<=l/\l<=h/\h<=rows.length/\K (dx o st (.list (E.P.cellsOf e) .sh ((rows.take h.toNat).drop l.toNat))) μ
      |some _=>0<=l/\l<=h/\h<=rows.length/\m=h/\K (dx o st (.list (E.P.cellsOf e) .nr ((rows.take h.toNat).drop l.toNat))) μ
    |_,_,_=>False
   |some (.slice e),.raw (.slice a len cap)=>match ji ρ lo 0,ji ρ hi len,ji ρ mx cap with
    |some l,some h,some m=>(bif (mx.isSome&&hi.isNone)||(E.P.info? e).isNone then False else ju a/\0<=l/\l<=h/\h<=m/\m<=cap/\K (dx o st (.raw (.slice (Br a l.toNat m.toNat (E.P.cellsOf e)) (h.toNat-l.toNat) (m.toNat-l.toNat)))) μ)
    |_,_,_=>False
   |some .string,.raw (.string s)=>match mx with
    |some _=>False
    |none=>match ji ρ lo 0,ji ρ hi s.size with
     |some l,some h=>0<=l/\l<=h/\h<=s.size/\K (dx o st (pS (s.extract l.toNat h.toNat))) μ
     |_,_=>False
   |_,_=>False
 | .fieldAddr t x f=>match Fh E.P t f with
   |none=>False
   |some d=>match ρ x with
    | .box k off=>K (dx o st (.box k (off+d))) μ
    | .bn row off=>K (dx o st (.bn row (off+d))) μ
    |v=>aF v λb off=>K (dx o st (pP b (off+d))) μ
 | .field t x f=>match ρ x with
   | .agg cs=>match ab3 E.P t f cs with
     |some v=>K (dx o st v) μ
     |none=>False
   |_=>False
 | .indexAddr t x i=>match E.P.underlying t,ρ x,ρ i with
   |some (.slice e),.list sz _ rows,.raw (.int _ j)=>bif (E.P.info? e).isSome&&Nat.beq sz (E.P.cellsOf e)then 0<=j/\∃row,rows[j.toNat]?=some row/\K (dx o st (.bn row 0)) μ else False
   |some (.slice e),.raw (.slice a len _),.raw (.int _ j)=>bif (E.P.info? e).isSome then cK a λb off=>0<=j/\j<len/\K (dx o st (pP b (off+j.toNat*E.P.cellsOf e))) μ else False
   |some (.array len e),.box k off,.raw (.int _ j)=>bif decide (0<=j)&&decide (j<len)&&(E.P.info? e).isSome then K (dx o st (.box k (off+j.toNat*E.P.cellsOf e))) μ else False
   |_,_,_=>False
 | .index t x i=>match E.P.underlying t,ρ x,ρ i with
   |some .string,.raw (.string s),.raw (.int _ j)=>0<=j/\∃c:UInt8,s[j.toNat]?=some c/\K (dx o st (.raw (.int .u8 c.toNat))) μ
   |some (.array len e),.agg cs,.raw (.int _ j)=>bif (E.P.info? e).isSome then 0<=j/\j<len/\UB E.P r e λv=>ab7 E.P e (j.toNat*E.P.cellsOf e) cs=some v/\K (dx o st v) μ else False
   |_,_,_=>False
 | .extract x i=>match ρ x with
   | .aD vs=>match vs[i]? with
     |some v=>bif v.ok then K (dx o st v) μ else False
     |none=>False
   |_=>False
 | .call c=>match c.callee with
   | .builtin b=>V1b E q o st μ b c.args.toList c.argTypes.toList K
   | .value f=>bif c.args.toList.all (λx=>(ρ x).ok)then
     EA E.P q (ρ f) (vb E.P c.argTypes.toList (c.args.toList.map ρ)) μ λv μ'=>QV E.P r o.type λv'=>v=v'/\K (dx o st v') μ' else False
   | .invoke x name=>bif c.args.toList.all (λx=>(ρ x).ok)then match ρ x with
     | .iface t p=>match pv E.P (method (E.P.types.size+Made.depth) t undef name)with
       |some (g,_)=>(∀v,pv E.P (method (E.P.types.size+Made.depth) t v name)=some (g,v))/\
         EA E.P q (.fn (.func g) [] []) (Bp p::vb E.P c.argTypes.toList (c.args.toList.map ρ)) μ λv μ'=>QV E.P r o.type λv'=>v=v'/\K (dx o st v') μ'
       |none=>False
     |_=>False else False
 |_=>False
def Tp(μ:Mem)(b:Nat):Prop:=∃T cs,μ b=some (.cells T cs)/\cs≠[]
def Mu(x y:PV)(μ:Mem)(K:Bool->Prop):Prop:=
 match x,y with
 | .raw (.pointer (some ⟨b,o,none⟩)),.raw (.pointer (some ⟨b',o',none⟩))=>Tp μ b/\Tp μ b'/\K (Nat.beq b b'&&Nat.beq o o')
 |_,_=>False
def OC(x:PV):Bool:=match x with| .raw (.pointer _)=>true|_=>false
def V1x(E:mh)(fz:List Nat)(o:Oper)(st:eI)(μ:Mem)(K:eI->Mem->Prop):Prop:=
 match o.op with
 | .binOp .eql t x (.tmp y) _=>bif OC (u_ st.σ x)&&OC (u_ st.σ (.tmp y))then
   (bif (match E.P.underlying t with|some (.pointer e)=>sized E.P e|_=>false)then
    Mu (u_ st.σ x) (u_ st.σ (.tmp y)) μ λr=>K (dx o st (pB r)) μ else False)else V1 E false fz o st μ K
 |_=>V1 E false fz o st μ K
def Vl(E:mh)(fz:List Nat)(ops:Array Oper)(Q:eI->Mem->Prop):List Oper->eI->Mem->Prop
 |[],st,μ=>Q st μ
 |o::l,st,μ=>match o.guard with
  |none=>V1x E fz o st μ λcJ μ'=>Vl E fz ops Q l cJ μ'
  |some (j,b)=>match rK ops j with
   |none=>False
   |some g=>match st.σ g with
    | .raw (.bool c)=>ab c
      ((λgg=>ab b (V1 E false fz o gg μ λcJ μ'=>Vl E fz ops Q l cJ μ') (Vl E fz ops Q l (dx o gg (.aD [])) μ)) {st with σ:=aQ st.σ g (pB true)})
      ((λgg=>ab b (Vl E fz ops Q l (dx o gg (.aD [])) μ) (V1 E false fz o gg μ λcJ μ'=>Vl E fz ops Q l cJ μ')) {st with σ:=aQ st.σ g (pB false)})
    | .aD _=>Vl E fz ops Q l (dx o st (.aD [])) μ
    |_=>False
def sR(ops:Array Oper)(o:Oper)(st:eI)(act skip:eI->Prop):Prop:=
 match o.guard with
 |none=>act st
 |some (j,b)=>match rK ops j with
  |none=>False
  |some g=>match st.σ g with
   | .raw (.bool c)=>ab c
     ((λgg=>ab b (act gg) (skip gg)) {st with σ:=aQ st.σ g (pB true)})
     ((λgg=>ab b (skip gg) (act gg)) {st with σ:=aQ st.σ g (pB false)})
   | .aD _=>skip st
   |_=>False
def HX(st:eI)(o:Oper):Bool:=
 match o.op with
 | .load _ x=>match u_ st.σ x with
   | .bn .. =>true
   |_=>false
 |_=>false
def zg(E:mh)(fz:List Nat)(ops:Array Oper)(c:Bool)(μ0:Mem)(i:Nat)(st:eI)(K:eI->Prop):Prop:=
 match ops[i]? with
 |none=>False
 |some o=>sR ops o st (λgg=>bif c|| !HX gg o then V1 E false fz o gg μ0 λcJ _=>K cJ else False) (λgg=>K (dx o gg (.aD [])))
def Tr(E:mh)(fz:List Nat)(o:Oper)(st:eI)(μ0 μ:Mem)(K:eI->Mem->Prop):Prop:=
 match o.op with
 | .store _ x _=>match u_ st.σ x with
   | .raw (.pointer (some ⟨b,_,none⟩))=>μ0 b=none/\V1 E false fz o st μ K
   |_=>V1 E true fz o st μ K
 |_=>V1 E true fz o st μ K
def sq(E:mh)(fz:List Nat)(ops:Array Oper)(μ0:Mem)(i:Nat)(st:eI)(μ:Mem)(K:eI->Mem->Prop):Prop:=
 match ops[i]? with
 |none=>False
 |some o=>bif jt E.gp o then False else sR ops o st
   (λgg=>bif sQ ops i then Tr E (fz++gg.D.map (·.1)) o gg μ0 μ K else V1 E false fz o gg μ K)
   (λgg=>K (dx o gg (.aD [])) μ)
def Vd(E:mh)(fz:List Nat)(ops:Array Oper)(μ0:Mem)(Q:eI->Mem->Prop):Bool->kH->eI->Mem->Prop
 |_,.nil,st,μ=>Q st μ
 |c,.tk i p,st,μ=>zg E fz ops c μ0 i st λcJ=>Vd E fz ops μ0 Q c p cJ μ
 |_,.ef i p,st,μ=>sq E fz ops μ0 i st μ λcJ μ'=>Vd E fz ops μ0 Q false p cJ μ'
 |_,.UH i p j q,st,μ=>(sq E fz ops μ0 i st μ λcJ μ'=>Vd E fz ops μ0 Q false p cJ μ')/\(sq E fz ops μ0 j st μ λcJ μ'=>Vd E fz ops μ0 Q false q cJ μ')
 |_,.UG i p j q k r,st,μ=>(sq E fz ops μ0 i st μ λcJ μ'=>Vd E fz ops μ0 Q false p cJ μ')/\(sq E fz ops μ0 j st μ λcJ μ'=>Vd E fz ops μ0 Q false q cJ μ')/\(sq E fz ops μ0 k st μ λcJ μ'=>Vd E fz ops μ0 Q false r cJ μ')
def Sq(E:mh)(fz:List Nat)(ops:Array Oper)(i:Nat)(st:eI)(μ:Mem)(K:eI->Mem->Prop):Prop:=
 match ops[i]? with
 |none=>False
 |some o=>sR ops o st (λgg=>V1 E false fz o gg μ K) (λgg=>K (dx o gg (.aD [])) μ)
def Vq(E:mh)(fz:List Nat)(ops:Array Oper)(Q:eI->Mem->Prop):jL->eI->Mem->Prop
 | .nil,st,μ=>Q st μ
 | .tk i q,st,μ=>zg E fz ops true μ i st λcJ=>Vq E fz ops Q q cJ μ
 | .ld i q r,st,μ=>(zg E fz ops true μ i st λcJ=>Vq E fz ops Q q cJ μ)/\Vq E fz ops Q r st μ
 | .alt i q r,st,μ=>(Sq E fz ops i st μ λcJ μ'=>Vq E fz ops Q q cJ μ')/\Vq E fz ops Q r st μ
 | .done,_,_=>True
def PB(c:xn)(J:Bz c.live->Mem->Prop)(st:eI)(μ:Mem):Prop:=
 bif sr st c.gL then(match sS st c.live with
  |some s=>J s μ
  |none=>False)else False
def GZ(next:eI->Mem->Prop)(Q:Exit->eI->Mem->Prop):Exit->eI->Mem->Prop
 | .normal,st,μ=>next st μ
 |e,st,μ=>Q e st μ
def It(id:Nat)(Q:Exit->eI->Mem->Prop):Exit->eI->Mem->Prop
 | .exit i,st,μ=>bif Nat.beq i id then Q .normal st μ else Q (.exit i) st μ
 |e,st,μ=>Q e st μ
def aaX(K:eI->Mem->Prop):Exit->eI->Mem->Prop
 | .normal,st,μ=>K st μ
 |_,_,_=>False
def WZ(R:Option Code->Mem->Prop):Exit->eI->Mem->Prop
 | .normal,_,μ=>R none μ
 | .ret,_,μ=>R (some .ret) μ
 | .exit i,_,μ=>R (some (.exit i)) μ
 |_,_,_=>False
def JB(σ:w_):w_:=λt=>match σ t with| .box _ _=>.bd|v=>v
def He(σ:w_):List Nat->List PV->w_
 |p::ps,v::vs=>He (aQ σ p v) ps vs
 |_,_=>σ
def V(E:mh):List Nat->Code->(Exit->eI->Mem->Prop)->eI->Mem->Prop
 |_,.skip,Q,st,μ=>Q .normal st μ
 |_,.ret,Q,st,μ=>Q .ret st μ
 |_,.exit i,Q,st,μ=>Q (.exit i) st μ
 |fz,.region _ ops false,Q,st,μ=>Vl E fz ops (Q .normal) ops.toList st μ
 |fz,.region id ops true,Q,st,μ=>bif E.P.follows .mixedOrders then(bif isQ E.gp id then(match qQ ops with
  |some p=>Vq E fz ops (Q .normal) p st μ
  |none=>False)else match vJ ops with
  |some p=>Vd E fz ops μ (Q .normal) true p st μ
  |none=>False)else False
 |fz,.seq a b,Q,st,μ=>match(gH b).bind (look E.kP)with
  |none=>V E fz a (GZ (λcJ μ'=>V E fz b Q cJ μ') Q) st μ
  |some l=>bif qR fz st.D l.er then bZ (λJ=>V E (freeze fz st.D l.er) a (GZ (PB l J) Q) st μ) (λs μ'=>V E fz b Q (aa2 st (writes a) l s) μ')else False
 |fz,.cond c a b,Q,st,μ=>match u_ st.σ c with
  | .raw (.bool t)=>ab t (V E fz a Q st μ) (V E fz b Q st μ)
  |_=>False
 |fz,.block id a,Q,st,μ=>V E fz a (It id Q) st μ
 |fz,.loop a,Q,st,μ=>match(gH a).bind (look E.loops)with
  |none=>False
  |some l=>bif qR fz st.D l.er then PB l (ak λnext s μ'=>V E (freeze fz st.D l.er) a (GZ (PB l next) Q) (aa2 st (writes a) l s) μ') st μ else False
 |_,.rangeFunc f ps assign body,Q,st,μ=>match look E.uc (ps.toList.headD 0)with
  |none=>False
  |some ts=>bif Nat.beq ts.length ps.toList.length then
    bk E.P (u_ st.σ f) (λvs R μ'=>OU E.P (match ps.toList with|p::_=>dw E.mL p|[]=>false) ts λrC=>vs=rC/\V E [] assign (aaX λgg μ1=>V E [] body (WZ R) gg μ1) ⟨He (JB st.σ) ps.toList rC,[]⟩ μ')
     (λp μ'=>PK p (Q .normal st μ') (bif nT body then Q .ret st μ' else False) ((NT (lD body)).map λi=>(i,Q (.exit i) st μ'))) μ
   else False
 |_,_,_,_,_=>False
def Pp(args:List PV):w_:=λt=>(args[t]?).getD (.aD [])
def xM(P:Program)(rw:List Nat)(st:eI)(μ:Mem):List ResultVar->(List PV->Prop)->Prop
 |[],F=>F []
 | .tmp t::l,F=>bif (st.σ t).ok then xM P rw st μ l λvs=>F (st.σ t::vs)else False
 | .cell a t::l,F=>match nO P (dw rw a) t with
   |none=>False
   |some ks=>match st.σ a with
    | .box k off=>match gk st.D k with
      |some m=>bif Nat.ble (off+ks.length) m&&br (Hj st.σ k off ks.length)then xM P rw st μ l λvs=>F (Wg (d_ P t) (Hj st.σ k off ks.length)::vs)else False
      |none=>False
    |v=>aF v λb off=>QX ks λus=>aB μ b off ks.length=some us/\xM P rw st μ l λvs=>F (Wg (d_ P t) us::vs)
def Sf(R:Kq)(μ:Mem):List PV->Prop
 |[v]=>R v μ
 |vs=>R (.aD vs) μ
def aei(P:Program)(rw:List Nat)(rs:List ResultVar)(R:Kq):Exit->eI->Mem->Prop
 | .ret,st,μ=>xM P rw st μ rs (Sf R μ)
 | .normal,st,μ=>xM P rw st μ rs (Sf R μ)
 |_,_,_=>False
def VF(E:mh)(c:Code)(rs:List ResultVar)(args:List PV)(μ:Mem)(R:Kq):Prop:=
 V E [] c (aei E.P E.mL rs R) ⟨Pp args,[]⟩ μ
theorem dq.nil(Z:Fz):dq Z [] []:=⟨rfl,by simp⟩
theorem dq.cons{Z:Fz}{p:PV}{ps:List PV}{v:Value}{vs:List Value}(h:cy Z p v)(hs:dq Z ps vs):dq Z (p::ps) (v::vs):=
 ⟨by simp[hs.1],λi q w a b=>by
  cases i with
  |zero=>simp only[List.getElem?_cons_zero,Option.some.injEq]at a b;subst a;subst b;exact h
  |succ i=>simp only[List.getElem?_cons_succ]at a b;exact hs.2 i q w a b⟩
theorem dq.inv{Z:Fz}{p:PV}{ps:List PV}{vs:List Value}(h:dq Z (p::ps) vs):∃v rC,vs=v::rC/\cy Z p v/\dq Z ps rC:=by
 obtain⟨hl,h⟩:=h
 cases vs with
 |nil=>simp at hl
 |cons v vs=>exact⟨v,vs,rfl,h 0 p v rfl rfl,by simpa using hl,λi q w a b=>h (i+1) q w (by simpa using a) (by simpa using b)⟩
theorem dq.pj{Z:Fz}{vs:List Value}(h:dq Z [] vs):vs=[]:=List.eq_nil_of_length_eq_zero h.1
theorem bF.m{Z:Fz}{ps:List PV}{vs:List Value}(h:bF Z ps vs):dq Z ps vs:=⟨h.1,λi p v a b=>(h.2 i p v a b).2⟩
theorem bf.m{Z:Fz}{ps:List PV}{vs:List Value}(h:bf Z ps vs):dq Z ps vs:=⟨h.1,λi p v a b=>(h.2 i p v a b).2⟩
theorem dq.c{Z:Fz}{ps:List PV}{vs:List Value}(h:dq Z ps vs)(hc:br ps=true):bF Z ps vs:=
 ⟨h.1,λi p v a b=>⟨List.all_eq_true.1 hc p (List.mem_of_getElem? a),h.2 i p v a b⟩⟩
theorem dq.s{Z:Fz}{ps:List PV}{vs:List Value}(h:dq Z ps vs)(hc:Li ps=true):bf Z ps vs:=
 ⟨h.1,λi p v a b=>⟨List.all_eq_true.1 hc p (List.mem_of_getElem? a),h.2 i p v a b⟩⟩
theorem dq.mono{Z Z':Fz}(hz:Z.le Z'){ps:List PV}{vs:List Value}(h:dq Z ps vs):dq Z' ps vs:=⟨h.1,λi p v a b=>(h.2 i p v a b).mono hz⟩
theorem bF.br{Z:Fz}{ps:List PV}{vs:List Value}(h:bF Z ps vs):br ps=true:=by
 refine List.all_eq_true.2 λp hp=>?_
 obtain⟨i,hi⟩:=List.mem_iff_getElem?.1 hp
 obtain⟨v,_,hc,_⟩:=h.get hi
 exact hc
theorem bF.pT{Z:Fz}{ps:List PV}{vs:List Value}(h:bF Z ps vs):cy Z (.agg ps) (.agg vs.toArray):=
 .agg ps vs h.1 (λp hp=>List.all_eq_true.1 h.br p hp) λi p v a b=>(h.2 i p v a b).2
theorem bf.xC{Z:Fz}{ps:List PV}{vs:List Value}(h:bf Z ps vs):cy Z (.aD ps) (.tuple vs.toArray):=by
 refine .aD ps vs h.1 (λp hp=>?_) λi p v a b=>(h.2 i p v a b).2
 obtain⟨i,hi⟩:=List.mem_iff_getElem?.1 hp
 obtain⟨v,_,hc,_⟩:=h.get hi
 exact hc
theorem cy.sD{Z:Fz}{ps:List PV}{v:Value}(h:cy Z (.agg ps) v):∃vs:List Value,v=.agg vs.toArray/\bF Z ps vs:=by
 cases h with
 |agg cs vs hl hk h=>exact⟨vs,rfl,hl,λi p v a b=>⟨hk p (List.mem_of_getElem? a),h i p v a b⟩⟩
theorem cy.CW{Z:Fz}{ps:List PV}{v:Value}(h:cy Z (.aD ps) v):∃vs:List Value,v=.tuple vs.toArray/\bf Z ps vs:=by
 cases h with
 |aD cs vs hl hk h=>exact⟨vs,rfl,hl,λi p v a b=>⟨hk p (List.mem_of_getElem? a),h i p v a b⟩⟩
theorem cy.ofRaw{Z:Fz}{v w:Value}(h:cy Z (.raw v) w):w=v/\aK.plain v=true/\one v=true:=by
 cases h;exact⟨rfl,by assumption,by assumption⟩
theorem cy.AL{Z:Fz}{k o:Nat}{w:Value}(h:cy Z (.box k o) w):w=e_ k o:=by cases h;rfl
theorem cy.ofFn{Z:Fz}{f:Fn}{a b:List PV}{w:Value}(h:cy Z (.fn f a b) w):∃fv cv:List Value,w=.func f fv.toArray cv.toArray/\bf Z a fv/\bf Z b cv:=by
 cases h with
 |fn f first wv fv cv h1 h2 kf kc hf hc=>exact⟨fv,cv,rfl,⟨h1,λi p v a b=>⟨kf p (List.mem_of_getElem? a),hf i p v a b⟩⟩,⟨h2,λi p v a b=>⟨kc p (List.mem_of_getElem? a),hc i p v a b⟩⟩⟩
theorem bf.GX{Z:Fz}{f:Fn}{a b:List PV}{fv cv:List Value}(h:bf Z a fv)(k:bf Z b cv):cy Z (.fn f a b) (.func f fv.toArray cv.toArray):=by
 refine .fn f a b fv cv h.1 k.1 (λp hp=>?_) (λp hp=>?_) (λi p v a b=>(h.2 i p v a b).2) (λi p v a b=>(k.2 i p v a b).2)
 ·obtain⟨i,hi⟩:=List.mem_iff_getElem?.1 hp
  obtain⟨v,_,hc,_⟩:=h.get hi;exact hc
 ·obtain⟨i,hi⟩:=List.mem_iff_getElem?.1 hp
  obtain⟨v,_,hc,_⟩:=k.get hi;exact hc
theorem cy.ofList{Z:Fz}{sz:Nat}{fl:Fl}{rows:Lq}{w:Value}(h:cy Z (.list sz fl rows) w):∃a n c,w=.slice a n c/\rows.length=n/\n<=c/\(c=0\/ju a)/\Wc fl a n c:=by
 cases h;exact⟨_,_,_,rfl,by assumption,by assumption,by assumption,by assumption⟩
theorem cy.Hw{Z:Fz}{sz WM:Nat}{fl:Fl}{w:Value}(h:cy Z (.list sz fl []) w):cy Z (.list WM fl []) w:=by
 cases h with
 |list _ _ _ a n c b o C g hn hc hs hr ha hg hk hp hf=>
  simp only[List.length_nil]at hn
  subst hn
  exact .list WM fl [] a 0 c b o C g rfl hc hs (by simp) (λh=>absurd rfl h) (λi j hi=>absurd hi (Nat.not_lt_zero i)) (by simp) (by simp) hf
theorem cy.flag{Z:Fz}{sz:Nat}{fl lT:Fl}{rows:Lq}{w:Value}(h:cy Z (.list sz fl rows) w)(hf':∀a n c,w=.slice a n c->Wc lT a n c):cy Z (.list sz lT rows) w:=by
 cases h with
 |list _ _ _ a n c b o C g hn hc hs hr ha hg hk hp hf=>exact .list sz lT rows a n c b o C g hn hc hs hr ha hg hk hp (hf' a n c rfl)
theorem cy.sh{Z:Fz}{sz:Nat}{fl:Fl}{rows:Lq}{w:Value}(h:cy Z (.list sz fl rows) w):cy Z (.list sz .sh rows) w:=h.flag λ_ _ _ _=>trivial
theorem cy.cH{Z:Fz}{p:PV}{w:Value}(h:cy Z p w):cy Z (cH p) w:=by
 cases p<;>first|exact h.sh|exact h
theorem Sb{p:PV}:(cH p).cell=p.cell:=by cases p<;>rfl
theorem aat{p:PV}:(cH p).ok=p.ok:=by cases p<;>rfl
theorem bF.wk{Z:Fz}{ps:List PV}{vs:List Value}(h:bF Z ps vs):bF Z (ps.map aK.cH) vs:=
 ⟨by simp[h.1],λi p v a b=>by
  rw[List.getElem?_map]at a
  cases hq:ps[i]? with
  |none=>simp[hq]at a
  |some q=>
   simp only[hq,Option.map_some,Option.some.injEq]at a
   subst a
   exact⟨by rw[Sb];exact(h.2 i q v hq b).1,(h.2 i q v hq b).2.cH⟩⟩
theorem cy.Bp{Z:Fz}{p:PV}{w:Value}(h:cy Z p w):cy Z (Bp p) w:=by
 cases p<;>try exact h
 obtain⟨vs,rfl,hc⟩:=h.sD
 exact hc.wk.pT
theorem LO{p:PV}:(Bp p).ok=p.ok:=by cases p<;>rfl
theorem cy.wk{Z:Fz}{p:PV}{w:Value}(h:cy Z p w):cy Z (wk p) w:=by
 cases p with
 |agg cs=>exact h.Bp
 |aD vs=>
  obtain⟨ws,rfl,hs⟩:=h.CW
  refine bf.xC ⟨by simp[hs.1],λi p v a b=>?_⟩
  rw[List.getElem?_map]at a
  cases hq:vs[i]? with
  |none=>simp[hq]at a
  |some q=>
   simp only[hq,Option.map_some,Option.some.injEq]at a
   subst a
   have:=hs.2 i q v hq b
   exact⟨by rw[LO,aat];exact this.1,this.2.cH.Bp⟩
 |_=>exact h.cH
theorem adQ{p:PV}:(aK.wk p).ok=p.ok:=by cases p<;>rfl
theorem cy.nrm{Z:Fz}{sz:Nat}{p:PV}{w:Value}(h:cy Z p w):cy Z (nrm sz p) w:=by
 unfold aK.nrm;split
 ·exact h.Hw
 ·exact h
theorem Tc{sz:Nat}{p:PV}:(nrm sz p).cell=p.cell:=by unfold nrm;split<;>rfl
theorem bF.CX{Z:Fz}:∀{ks:List KV} {ps:List PV} {vs:List Value},bF Z ps vs->bF Z (CX ks ps) vs
 |[],ps,vs,h=>by simpa[aK.CX]using h
 |k::ks,[],vs,h=>by cases k<;>simpa[aK.CX]using h
 | .list sz::ks,p::ps,vs,h=>by
   obtain⟨v,rC,rfl,h1,h2,h3⟩:=h.inv
   exact bF.cons (by rw[Tc];exact h1) h2.nrm h3.CX
 | .raw k::ks,p::ps,vs,h=>by
   obtain⟨v,rC,rfl,h1,h2,h3⟩:=h.inv
   exact bF.cons h1 h2 h3.CX
 | .fn::ks,p::ps,vs,h=>by
   obtain⟨v,rC,rfl,h1,h2,h3⟩:=h.inv
   exact bF.cons h1 h2 h3.CX
theorem cy.im{Z:Fz}{P:Program}{t:TypeId}{p:PV}{w:Value}(h:cy Z p w):cy Z (im P t p) w:=by
 unfold aK.im
 split
 ·split
  ·obtain⟨vs,rfl,hc⟩:=h.sD;exact hc.CX.pT
  ·split
   ·exact h.Hw
   ·exact h
  ·exact h
 ·exact h
theorem qP{P:Program}{t:TypeId}{p:PV}:(im P t p).ok=p.ok:=by
 unfold im
 split
 ·split
  ·rfl
  ·split<;>rfl
  ·rfl
 ·rfl
theorem cy.Rp{Z:Fz}{P:Program}{t:TypeId}{p:PV}{w:Value}(h:cy Z p w):cy Z (Rp P t p) w:=h.im.Bp
theorem YL{P:Program}{t:TypeId}{p:PV}:(Rp P t p).ok=p.ok:=by unfold Rp;rw[LO,qP]
theorem bf.vb{Z:Fz}{P:Program}:∀{ts:List TypeId} {ps:List PV} {vs:List Value},bf Z ps vs->bf Z (vb P ts ps) vs
 |[],ps,vs,h=>by simpa[aK.vb]using h
 |t::ts,[],vs,h=>by simpa[aK.vb]using h
 |t::ts,p::ps,vs,h=>by
  obtain⟨v,rC,rfl,h1,h2,h3⟩:=h.inv
  exact bf.cons (by rw[YL];exact h1) h2.Rp h3.vb
theorem JO(Z:Fz)(v:Value):cy Z (EU v) v:=by
 unfold EU
 split
 ·exact .list 0 .nil [] none 0 0 0 0 [] (λ_ _=>undef) rfl (Nat.le_refl _) (.inl rfl) (by simp) (λh=>absurd rfl h) (λi j hi=>absurd hi (Nat.not_lt_zero i)) (by simp) (by simp) ⟨rfl,rfl,rfl⟩
 ·exact .bd _
 ·exact .bd _
 ·exact .bd _
 ·exact .bd _
 ·exact .bd _
 ·rename_i f a b
  cases hb:(Nat.beq a.size 0&&Nat.beq b.size 0)with
  |false=>exact .bd _
  |true=>
   simp only[Bool.and_eq_true,beq_iff]at hb
   have h1:a= #[]:=Array.eq_empty_of_size_eq_zero hb.1
   have h2:b= #[]:=Array.eq_empty_of_size_eq_zero hb.2
   subst h1;subst h2
   exact bf.GX (fv:=[]) (cv:=[]) (bf.nil Z) (bf.nil Z)
 ·rename_i h1 h2 h3 h4 h5 h6 h7
  refine .raw v ?_ ?_
  ·cases v<;>first|rfl|(exact absurd rfl (h5 _ _ _))
  ·cases v<;>first|rfl|(exact absurd rfl (h3 _))|(exact absurd rfl (h4 _))
theorem Ge(Z:Fz)(l:List Value):dq Z (l.map EU) l:=
 ⟨by simp,λi p v a b=>by
  rw[List.getElem?_map,b]at a
  simp only[Option.map_some,Option.some.injEq]at a
  subst a;exact JO Z v⟩
theorem BT(Z:Fz)(v:Value):cy Z (ofV v) v:=by
 unfold ofV
 split
 ·rename_i a
  cases hb:br (a.toList.map EU)with
  |false=>exact .bd _
  |true=>simpa using((Ge Z a.toList).c hb).pT
 ·rename_i a
  cases hb:Li (a.toList.map EU)with
  |false=>exact .bd _
  |true=>simpa using((Ge Z a.toList).s hb).xC
 ·exact JO Z v
structure dW(Z:Fz)(p:eI)(s:St):Prop where
 D:p.D=s.D
 slot:∀t,cy Z (p.σ t) (s.σ t)
theorem dW.mono{Z Z':Fz}(hz:Z.le Z'){p:eI}{s:St}(h:dW Z p s):dW Z' p s:=⟨h.D,λt=>(h.slot t).mono hz⟩
def gy(Z:Fz)(p:w_)(s:Fr):Prop:=∀t,cy Z (p t) (s t)
theorem gy.kB{Z:Fz}{p:w_}{s:Fr}(h:gy Z p s){t:Nat}{x:PV}{v:Value}(hv:cy Z x v):gy Z (aQ p t x) (kB s t v):=by
 intro i
 unfold aQ aK.kB
 cases Nat.beq i t
 ·exact h i
 ·exact hv
theorem gy.put{Z:Fz}{p:w_}{s:Fr}(h:gy Z p s){d:Option Nat}{x:PV}{v:Value}(hv:cy Z x v):gy Z (Ms p d x) (put s d v):=by
 cases d with
 |none=>exact h
 |some t=>exact h.kB hv
theorem gy.tB{Z:Fz}{k:Nat}:∀{ps:List PV} {vs:List Value} {p:w_} {s:Fr} {j:Nat},gy Z p s->dq Z ps vs->gy Z (GS p k j ps) (tB s k j vs)
 |[],vs,p,s,j,h,hv=>by rw[hv.pj];exact h
 |x::ps,vs,p,s,j,h,hv=>by
  obtain⟨v,rC,rfl,h1,h2⟩:=hv.inv
  exact gy.tB (p:=aQ p (gx k j) x) (s:=aK.kB s (gx k j) v) (j:=j+1) (h.kB h1) h2
theorem gy.zm{Z:Fz}{p:w_}{s:Fr}{k:Nat}(h:gy Z p s):∀(m j:Nat),dq Z (Hj p k j m) (aK.zm s k j m)
 |0,_=>dq.nil Z
 |m+1,j=>dq.cons (h _) (h.zm m (j+1))
theorem AK(σ:w_)(k:Nat):∀(m j:Nat),(Hj σ k j m).length=m
 |0,_=>rfl
 |m+1,j=>by simp[Hj,AK σ k m (j+1)]
theorem dW.ev{Z:Fz}{p:eI}{s:St}(h:dW Z p s)(x:Operand):cy Z (u_ p.σ x) (ev s.σ x):=by
 cases x with
 |tmp t=>exact h.slot t
 |const v=>exact BT Z v
 |global g=>exact .raw _ rfl rfl
 |func f=>exact bf.GX (fv:=[]) (cv:=[]) (bf.nil Z) (bf.nil Z)
theorem dW.fin{Z:Fz}{p:eI}{s:St}(h:dW Z p s)(o:Oper){x:PV}{v:Value}(hv:cy Z x v):dW Z (dx o p x) (fin o s v):=⟨h.D,gy.put h.slot hv⟩
theorem KV.SW(k:KV)(x:k.T):(k.p x).cell=true:=by cases k<;>rfl
theorem JQ{fl:Fl}{rows:Lq}{x:Fl×Lq}(h:ME fl rows=some x):fl=.nil/\rows=[]/\x=(.nil,[]):=by
 unfold ME at h
 split at h
 ·simp only[Option.some.injEq]at h;exact⟨rfl,rfl,h.symm⟩
 ·cases h
theorem KV.HV{Z:Fz}{k:KV}{p:PV}{v:Value}{x:k.T}(h:cy Z p v)(hg:k.get p=some x):∃y:k.er.T,k.er.get v=some y/\cy Z (k.p x) (k.er.v y):=by
 cases k with
 |raw k=>
  cases p with
  |raw v0=>
   simp only[KV.get]at hg
   obtain⟨rfl,hp,h1⟩:=h.ofRaw
   refine⟨x,hg,?_⟩
   have:=K1.OT hg
   rw[this]at hp h1
   exact .raw _ hp h1
  |list sz fl rows=>
   cases k with
   |slice=>
    cases fl with
    |nil=>
     simp only[KV.get,Option.some.injEq]at hg
     subst hg
     obtain⟨a,n,c,rfl,_,_,_,hf⟩:=h.ofList
     obtain⟨rfl,rfl,rfl⟩:=hf
     exact⟨(none,0,0),rfl,.raw _ rfl rfl⟩
    |_=>simp[KV.get]at hg
   |_=>simp[KV.get]at hg
  |_=>simp[KV.get]at hg
 |list sz=>
  cases p<;>simp only[KV.get]at hg<;>try (cases hg;done)
  rename_i WM fl rows
  obtain⟨a,n,c,rfl,_⟩:=h.ofList
  refine⟨(a,n,c),rfl,?_⟩
  cases hb:Nat.beq sz WM with
  |true=>
   rw[hb]at hg
   simp only[cond_true,Option.some.injEq]at hg
   subst hg
   have:=beq_iff.1 hb;subst this
   exact h
  |false=>
   rw[hb]at hg
   obtain⟨rfl,rfl,rfl⟩:=JQ hg
   exact h.Hw
 |fn=>
  cases p<;>simp only[KV.get]at hg<;>try (cases hg;done)
  rename_i f a b
  obtain⟨fv,cv,rfl,h1,h2⟩:=h.ofFn
  simp only[Option.some.injEq]at hg
  subst hg
  exact⟨(f,fv.toArray,cv.toArray),rfl,bf.GX h1 h2⟩
theorem NF{k k':K1}{ks:List K1}{v:Value}{vs:List Value}{x:k.T}{y:TL (k'::ks)}(h1:k.get v=some x)(h2:mz (k'::ks) vs=some y):mz (k::k'::ks) (v::vs)=some (x,y):=by
 simp only[mz,h1,h2]
theorem HW{s:St}{x y:Nat×Kd}{l:Live}{a:x.2.T}{b:Tup (y::l)}(h1:Bb s x=some a)(h2:h_ s (y::l)=some b):h_ s (x::y::l)=some (a,b):=by
 simp only[h_,h1,h2]
theorem wI{Z:Fz}:∀{ks:List KV} {ps:List PV} {vs:List Value} {x:TLP ks},dq Z ps vs->rm ks ps=some x->∃y:TL (ks.map KV.er),mz (ks.map KV.er) vs=some y/\dq Z (Iz ks x) (ND (ks.map KV.er) y)
 |[],[],vs,x,h,_=>by rw[h.pj];exact⟨(),rfl,dq.nil Z⟩
 |[],_::_,_,_,_,hg=>by simp[rm]at hg
 |[k],[],_,_,_,hg=>by simp[rm]at hg
 |[k],[p],vs,x,h,hg=>by
  obtain⟨v,rC,rfl,h1,h2⟩:=h.inv
  rw[h2.pj]
  obtain⟨y,hy,hr⟩:=KV.HV h1 hg
  exact⟨y,hy,dq.cons hr (dq.nil Z)⟩
 |[k],_::_::_,_,_,_,hg=>by simp[rm]at hg
 |k::k'::ks,[],_,_,_,hg=>by simp[rm]at hg
 |k::k'::ks,p::ps,vs,x,h,hg=>by
  obtain⟨v,rC,rfl,h1,h2⟩:=h.inv
  simp only[rm]at hg
  split at hg
  ·rename_i a b ha hb
   simp only[Option.some.injEq]at hg
   subst hg
   obtain⟨y,hy,hr⟩:=KV.HV h1 ha
   obtain⟨ys,hys,LG⟩:=wI (ks:=k'::ks) h2 hb
   refine⟨(y,ys),?_,dq.cons hr LG⟩
   exact NF hy hys
  ·cases hg
theorem GP:∀(ks:List KV) (x:TLP ks),br (Iz ks x)=true
 |[],_=>rfl
 |[k],x=>by simp[Iz,br,KV.SW]
 |k::k'::ks,x=>by
  have:=GP (k'::ks) x.2
  simp only[br]at this
  simp only[Iz,br,List.all_cons,KV.SW,this,Bool.and_self]
def YU(Z:Fz):(x:Nat×Wv)->x.2.T->(Kd.T x.2.er)->Prop
 |(_,.one k),a,b=>cy Z (k.p a) (k.er.v b)
 |(_,.agg ks),a,b=>dq Z (Iz ks a) (ND (ks.map KV.er) b)
 |(_,.box ks),a,b=>dq Z (Iz ks a) (ND (ks.map KV.er) b)
def wJ(Z:Fz):(l:ve)->Bz l->Tup l.er->Prop
 |[],_,_=>True
 |[x],a,b=>YU Z x a b
 |x::y::l,a,b=>YU Z x a.1 b.1/\wJ Z (y::l) a.2 b.2
theorem Gx{Z:Fz}{p:eI}{s:St}(hr:dW Z p s):∀{x:Nat×Wv} {a:x.2.T},DG p x=some a->∃b,Bb s (x.1,x.2.er)=some b/\YU Z x a b
 |(t,.one k),a,h=>KV.HV (hr.slot t) h
 |(t,.agg ks),a,h=>by
  simp only[DG]at h
  have hs:=hr.slot t
  split at h
  ·rename_i cs he
   rw[he]at hs
   obtain⟨vs,hv,hc⟩:=hs.sD
   obtain⟨y,hy,hm⟩:=wI hc.m h
   refine⟨y,?_,hm⟩
   show(match s.σ t with| .agg a=>mz (ks.map KV.er) a.toList|_=>none)=some y
   rw[hv];exact hy
  ·cases h
 |(t,.box ks),a,h=>by
  simp only[DG]at h
  have hs:=hr.slot t
  split at h
  ·rename_i k o he
   rw[he]at hs
   have hv:=hs.AL
   cases hb:((Nat.beq k t&&Nat.beq o 0)&&jx p.D t ks.length)with
   |false=>rw[hb]at h;cases h
   |true=>
    rw[hb]at h
    obtain⟨y,hy,hm⟩:=wI (gy.zm hr.slot _ _) h
    refine⟨y,?_,hm⟩
    show(match s.σ t with
     | .complex .f64 k o=>bif (Nat.beq k t&&Nat.beq o 0)&&jx s.D t (ks.map KV.er).length then mz (ks.map KV.er) (zm s.σ t 0 (ks.map KV.er).length)else none
     |_=>none)=some y
    rw[hv]
    simp only[List.length_map,<- hr.D,hb,cond_true]
    exact hy
  ·cases h
theorem Ba{Z:Fz}{p:eI}{s:St}(hr:dW Z p s):∀{l:ve} {a:Bz l},sS p l=some a->∃b,h_ s l.er=some b/\wJ Z l a b
 |[],_,_=>⟨(),rfl,trivial⟩
 |[x],a,h=>Gx hr h
 |x::y::l,a,h=>by
  simp only[sS]at h
  split at h
  ·rename_i a1 a2 h1 h2
   simp only[Option.some.injEq]at h
   subst h
   obtain⟨b1,LJ,r1⟩:=Gx hr h1
   obtain⟨b2,rU,r2⟩:=Ba (l:=y::l) hr h2
   refine⟨(b1,b2),?_,r1,r2⟩
   exact HW LJ rU
  ·cases h
theorem FN{Z:Fz}:∀{p:eI} {s:St} (_:dW Z p s) {x:Nat×Wv} {a:x.2.T} {b:Kd.T x.2.er},YU Z x a b->dW Z (Mk p x a) (mr s (x.1,x.2.er) b)
 |p,s,hr,(t,.one k),a,b,h=>⟨hr.D,gy.kB hr.slot h⟩
 |p,s,hr,(t,.agg ks),a,b,h=>⟨hr.D,gy.kB hr.slot (h.c (GP ks a)).pT⟩
 |p,s,hr,(t,.box ks),a,b,h=>by
  refine⟨?_,gy.tB (gy.kB hr.slot (.box t 0)) h⟩
  show(bif jx p.D t ks.length then p.D else(t,ks.length)::p.D)=(bif jx s.D t (ks.map KV.er).length then s.D else(t,(ks.map KV.er).length)::s.D)
  rw[List.length_map,hr.D]
theorem AF{Z:Fz}:∀{l:ve} {p:eI} {s:St} (_:dW Z p s) {a:Bz l} {b:Tup l.er},wJ Z l a b->dW Z (CE p l a) (tI s l.er b)
 |[],p,s,hr,_,_,_=>hr
 |[x],p,s,hr,_,_,h=>FN hr h
 |x::y::l,p,s,hr,a,b,h=>AF (l:=y::l) (FN hr h.1) h.2
theorem ES(Z:Fz)(m:Nat):dq Z (List.replicate m .bd) (List.replicate m bd):=
 ⟨by simp,λi p v a b=>by
  rw[List.getElem?_replicate]at a b
  split at a
  ·rename_i h
   rw[if_pos h]at b
   cases a;cases b;exact .bd _
  ·cases a⟩
theorem CF{Z:Fz}:∀{l:List (Nat×Nat)} {p:w_} {s:Fr},gy Z p s->gy Z (BQ p l) (gn s l)
 |[],_,_,h=>h
 |(k,m)::l,p,s,h=>CF (l:=l) (p:=GS (aQ p k (.box k 0)) k 0 (List.replicate m .bd)) (s:=tB (kB s k (e_ k 0)) k 0 (List.replicate m bd)) (gy.tB (h.kB (.box k 0)) (ES Z m))
theorem SS{Z:Fz}{p:w_}{s:Fr}(h:gy Z p s)(ws:List Nat):gy Z (Ol p ws) (xS s ws):=by
 intro t
 unfold Ol xS
 cases(Nat.blt t 65536&&dw ws t)
 ·exact h t
 ·exact .bd _
theorem Oy{Z:Fz}{p:eI}{s:St}(hr:dW Z p s)(ws:List Nat){c:xn}{a:Bz c.live}{b:Tup c.live.er}(h:wJ Z c.live a b):dW Z (aa2 p ws c a) (mix s ws c.er b):=
 AF (l:=c.live) (p:={p with σ:=BQ (Ol p.σ ws) c.gL}) (s:={s with σ:=gn (xS s.σ ws) c.gL}) ⟨hr.D,CF (SS hr.slot ws)⟩ h
theorem AH{Z:Fz}{p:eI}{s:St}(hr:dW Z p s):∀{l:List (Nat×Nat)},sr p l=true->mJ s l=true
 |[],_=>rfl
 |(k,m)::l,h=>by
  simp only[sr,Bool.and_eq_true]at h
  simp only[mJ,Bool.and_eq_true]
  refine⟨⟨by rw[<- hr.D];exact h.1.1,?_⟩,AH hr h.2⟩
  have h1:=h.1.2
  have hs:=hr.slot k
  unfold Tx at h1
  split at h1
  ·rename_i k' o he
   rw[he]at hs
   rw[hs.AL]
   exact h1
  ·cases h1
theorem NV{Z:Fz}{p:eI}{s:St}(hr:dW Z p s){c:xn}{J:Bz c.live->Mem->Prop}{J':Tup c.er.live->UW->Prop}{μ:Mem}{u:UW}(h:PB c J p μ)(hJ:∀a b,wJ Z c.live a b->J a μ->J' b u):WG c.er J' s u:=by
 unfold PB at h
 unfold WG
 cases hs:sr p c.gL with
 |false=>rw[hs]at h;exact h.elim
 |true=>
  rw[hs]at h
  have:mJ s c.er.gL=true:=AH hr hs
  rw[this]
  simp only[cond_true]at h |-
  cases hg:sS p c.live with
  |none=>rw[hg]at h;exact h.elim
  |some a=>
   rw[hg]at h
   obtain⟨b,hb,hrb⟩:=Ba hr hg
   have iK:h_ s c.er.live=some b:=hb
   rw[iK]
   exact hJ a b hrb h
theorem vS(P:Program)(r:Bool):∀(f:Nat) (t:TypeId) {ks:List KV},oU P r f t=some ks->vT P f t=some (ks.map KV.er)
 |0,_,_,h=>by simp[oU]at h
 |f+1,t,ks,h=>by
  unfold oU at h
  unfold vT
  cases hu:P.underlying t with
  |none=>rw[hu]at h;cases h
  |some d=>
   rw[hu]at h
   cases d<;>simp only at h |- <;>try (cases h;done)
   case int=>cases h;rfl
   case bool=>cases h;rfl
   case string=>cases h;rfl
   case slice=>cases r<;>(cases h;rfl)
   case pointer=>cases h;rfl
   case func=>cases h;rfl
   case map=>cases h;rfl
   case struct fs=>
    generalize fs.toList=l at h
    induction l generalizing ks with
    |nil=>simp only[List.foldr_nil,Option.some.injEq]at h;subst h;rfl
    |cons x l ih=>
     simp only[List.foldr_cons]at h |-
     split at h
     ·rename_i a b ha hb
      simp only[Option.some.injEq]at h
      subst h
      rw[vS P r f x.type ha,ih _ hb]
      simp
     ·cases h
   case array n e=>
    cases hk:oU P r f e with
    |none=>rw[hk]at h;cases h
    |some Xy=>
     rw[hk]at h
     simp only[Option.some.injEq]at h
     subst h
     rw[vS P r f e hk]
     simp[List.map_flatten,List.map_replicate]
theorem zA{P:Program}{r:Bool}{t:TypeId}{ks:List KV}(h:nO P r t=some ks):kinds P t=some (ks.map KV.er):=by
 unfold nO at h
 unfold kinds
 cases hk:oU P r 8 t with
 |none=>rw[hk]at h;cases h
 |some Xy=>
  rw[hk]at h
  rw[vS P r 8 t hk]
  simp only at h |-
  rw[List.length_map]
  cases h1:Nat.beq Xy.length (P.cellsOf t)with
  |false=>rw[h1]at h;cases h
  |true=>
   rw[h1]at h
   cases h2:(d_ P t||Nat.beq Xy.length 1)with
   |false=>rw[h2]at h;cases h
   |true=>
    rw[h2]at h
    simp only[cond_true,Option.some.injEq]at h |-
    subst h;rfl
theorem QY{Z:Fz}{k:KV}{F:PV->Prop}(h:ab6 k F):∃p,p.cell=true/\F p/\∀{G:Value->Prop} {v:Value},cy Z p v->G v->exK k.er G:=by
 cases k with
 |raw k=>
  cases k<;>simp only[ab6,exK]at h
  case int=>obtain⟨x,h⟩:=h;exact⟨_,rfl,h,λhr hG=>by rw[hr.ofRaw.1]at hG;exact⟨_,hG⟩⟩
  case bool=>obtain⟨x,h⟩:=h;exact⟨_,rfl,h,λhr hG=>by rw[hr.ofRaw.1]at hG;exact⟨_,hG⟩⟩
  case str=>obtain⟨x,h⟩:=h;exact⟨_,rfl,h,λhr hG=>by rw[hr.ofRaw.1]at hG;exact⟨_,hG⟩⟩
  case slice=>obtain⟨a,n,c,h⟩:=h;exact⟨_,rfl,h,λhr hG=>by rw[hr.ofRaw.1]at hG;exact⟨_,_,_,hG⟩⟩
  case ptr=>obtain⟨x,h⟩:=h;exact⟨_,rfl,h,λhr hG=>by rw[hr.ofRaw.1]at hG;exact⟨_,hG⟩⟩
  case fn=>obtain⟨f,a,b,h⟩:=h;exact⟨_,rfl,h,λhr hG=>by rw[hr.ofRaw.1]at hG;exact⟨_,_,_,hG⟩⟩
  case map=>obtain⟨x,h⟩:=h;exact⟨_,rfl,h,λhr hG=>by rw[hr.ofRaw.1]at hG;exact⟨_,hG⟩⟩
 |list sz=>
  obtain⟨fl,rows,h⟩:=h
  exact⟨_,rfl,h,λhr hG=>by obtain⟨a,n,c,rfl,_⟩:=hr.ofList;exact⟨_,_,_,hG⟩⟩
 |fn=>
  obtain⟨f,a,b,h⟩:=h
  exact⟨_,rfl,h,λhr hG=>by obtain⟨fv,cv,rfl,_⟩:=hr.ofFn;exact⟨_,_,_,hG⟩⟩
theorem qn{Z:Fz}:∀{ks:List KV} {F:List PV->Prop},QX ks F->∃ps,ps.length=ks.length/\br ps=true/\F ps/\∀{G:List Value->Prop} {vs:List Value},dq Z ps vs->G vs->exL (ks.map KV.er) G
 |[],F,h=>⟨[],rfl,rfl,h,λhr hG=>by rw[hr.pj]at hG;exact hG⟩
 |k::ks,F,h=>by
  obtain⟨p,hp,h,hk⟩:=QY (Z:=Z) h
  obtain⟨ps,hl,hc,h,sN⟩:=qn (Z:=Z) h
  refine⟨p::ps,by simp[hl],by simp only[br,List.all_cons,hp,Bool.true_and];exact hc,h,λhr hG=>?_⟩
  obtain⟨v,vs,rfl,h1,h2⟩:=hr.inv
  exact hk h1 (sN (G:=λvs=>_) h2 hG)
theorem C_{Z:Fz}{b:Bool}{ps:List PV}{vs:List Value}(h:bF Z ps vs):cy Z (Wg b ps) (Hz b vs):=by
 cases b with
 |true=>exact h.pT
 |false=>
  match ps,h with
  |[],h=>exact .bd _
  |[p],h=>
   obtain⟨v,rC,rfl,h1,h2,h3⟩:=h.inv
   rw[h3.pj];exact h2
  |p::p'::ps,h=>exact .bd _
theorem HA{P:Program}{r:Bool}{t:TypeId}{ks:List KV}(h:nO P r t=some ks){ps:List PV}(hl:ps.length=ks.length)(hc:br ps=true):(Wg (d_ P t) ps).ok=true:=by
 unfold nO at h
 split at h
 ·rename_i Xy hk
  cases h1:Nat.beq Xy.length (P.cellsOf t)with
  |false=>rw[h1]at h;cases h
  |true=>
   rw[h1]at h
   cases h2:(d_ P t||Nat.beq Xy.length 1)with
   |false=>rw[h2]at h;cases h
   |true=>
    rw[h2]at h
    simp only[cond_true,Option.some.injEq]at h
    subst h
    cases ha:d_ P t with
    |true=>rfl
    |false=>
     rw[ha]at h2
     simp only[Bool.false_or,beq_iff]at h2
     rw[h2]at hl
     match ps,hl with
     |[p],_=>
      simp only[br,List.all_cons,List.all_nil,Bool.and_true]at hc
      exact PV.Ht hc
 ·cases h
theorem zN{Z:Fz}{P:Program}{r:Bool}{t:TypeId}{F:PV->Prop}(h:UB P r t F):∃p,p.ok=true/\F p/\∀{G:Value->Prop} {v:Value},cy Z p v->G v->exV P t G:=by
 unfold UB at h
 cases hk:nO P r t with
 |none=>rw[hk]at h;exact h.elim
 |some ks=>
  rw[hk]at h
  obtain⟨ps,hl,hc,hF,hex⟩:=qn (Z:=Z) h
  refine⟨_,HA hk hl hc,hF,λ{G v} hr hG=>?_⟩
  unfold exV
  rw[zA hk]
  have aO:=HA hk hl hc
  cases ha:d_ P t with
  |true=>
   rw[ha]at hr
   obtain⟨vs,rfl,mR⟩:=cy.sD (ps:=ps) hr
   exact hex (G:=λvs=>G (Hz true vs)) mR.m hG
  |false=>
   rw[ha]at hr aO
   match ps,hr,aO with
   |[],hr,aO=>simp[Wg,PV.ok,PV.cell]at aO
   |[p],hr,aO=>exact hex (G:=λvs=>G (Hz false vs)) (dq.cons hr (dq.nil Z)) hG
   |p::p'::ps,hr,aO=>simp[Wg,PV.ok,PV.cell]at aO
theorem we{Z:Fz}{P:Program}{r:Bool}:∀{ts:List TypeId} {F:List PV->Prop},OU P r ts F->∃ps,Li ps=true/\F ps/\∀{G:List Value->Prop} {vs:List Value},dq Z ps vs->G vs->Nf P ts G
 |[],F,h=>⟨[],rfl,h,λhr hG=>by rw[hr.pj]at hG;exact hG⟩
 |t::ts,F,h=>by
  obtain⟨p,hp,h,hk⟩:=zN (Z:=Z) h
  obtain⟨ps,hc,h,sN⟩:=we (Z:=Z) h
  refine⟨p::ps,by simp only[Li,List.all_cons,hp,Bool.true_and];exact hc,h,λhr hG=>?_⟩
  obtain⟨v,vs,rfl,h1,h2⟩:=hr.inv
  exact hk h1 (sN (G:=λvs=>_) h2 hG)
theorem QU{Z:Fz}{P:Program}{r:Bool}{t:TypeId}{F:PV->Prop}(h:QV P r t F):∃p,F p/\∀{G:Value->Prop} {v:Value},cy Z p v->G v->RX P t G:=by
 unfold QV at h
 unfold RX
 split at h
 ·rename_i ts hu
  obtain⟨ps,_,hF,hex⟩:=we (Z:=Z) h
  refine⟨_,hF,λ{G v} hr hG=>?_⟩
  obtain⟨vs,rfl,hc⟩:=hr.CW
  rw[hu]
  exact hex (G:=λvs=>G (.tuple vs.toArray)) hc.m hG
 ·rename_i hu
  obtain⟨p,_,hF,hex⟩:=zN (Z:=Z) h
  refine⟨p,hF,λ{G v} hr hG=>?_⟩
  split
  ·rename_i ts h2;exact absurd h2 (hu ts)
  ·exact hex hr hG
theorem Af.mono{P:Program}{f:Value}{args:List Value}{w:World}{R R':Ending->World->Prop}(h:Af P f args w R)(hr:∀e w',R e w'->R' e w'):Af P f args w R':=by
 unfold Af at*
 split at h
 ·exact⟨h.1,h.2.mono hr⟩
 ·obtain⟨h1,h2,r,h3,h4,h5⟩:=h
  exact⟨h1,h2,r,h3,h4,h5.mono hr⟩
 ·exact h
theorem NB.mono{P:Program}{f:Value}{args:List Value}{w:World}{F:Nat->Prop}{K K':Value->Nat->World->Prop}(h:NB P f args w F K)(hk:∀v lo w',Mod F w w'->w.heap.size<=lo->lo<=lo->K v lo w'->K' v lo w'):NB P f args w F K':=
 λw1 hs=>(h w1 hs).mono λ_ _ ⟨v,w',he,ho,hK⟩=>⟨v,w',he,ho,hk v _ w' ho.umod hs.size (Nat.le_refl _) hK⟩
def Wf(u:UW):Prop:=∀b,u.ij b->b<u.heap.size
theorem Wf.ret{u:UW}{lo:Nat}{w':World}(h:Wf u)(hs:u.heap.size<=w'.heap.size):Wf (u.ret lo w'):=λb hb=>hb.elim (λhb=>Nat.lt_of_lt_of_le (h b hb) hs) (λhb=>hb.2)
theorem Wf.born{u:UW}{b:Nat}{w':World}{o:Obj}(h:Wf u)(hb:tA u.toWorld w' b o):Wf (u.born b w'):=λc hc=>hc.elim (λhc=>Nat.lt_of_lt_of_le (h c hc) hb.below.size) (λe=>by subst e;exact(Array.getElem?_eq_some_iff.1 hb.at_).1)
theorem Wf.LA{u:UW}{b:Nat}{w':World}{o:Obj}(h:Wf u)(hb:Sto u.toWorld w' b o):Wf (u.LA w'):=λc hc=>Nat.lt_of_lt_of_le (h c hc) hb.size
theorem rN.mono{P:Program}{f:Value}{args:List Value}{u:UW}{K K':Value->UW->Prop}(h:rN P f args u K)
  (hk:∀v lo w',Mod u.ij u.toWorld w'->u.heap.size<=lo->K v (u.ret lo w')->K' v (u.ret lo w')):rN P f args u K':=by
 obtain⟨F,hF,h⟩:=lB.1 h
 exact lB.2 ⟨F,hF,h.mono λv lo w' hm hl _ hK=>hk v lo w' ⟨hm.os,hm.tape,hm.output,hm.size,λb hb hn=>hm.de b hb λhf=>hn (hF b hf)⟩ hl hK⟩
theorem zZ{P:Program}{op:BinOp}{t:TypeId}{x y:Value}{K K':Value->Prop}(h:rW P op t x y K)(hk:∀v,plain v=true->one v=true->K v->K' v):rW P op t x y K':=by
 unfold rW at h |-
 split at h
 ·try simp only
  obtain⟨hc,h⟩:=av h
  rw[hc]
  try simp only[cond_true]
  unfold zB at h |-
  split at h<;>(try simp only)<;>first|exact hk _ rfl rfl h|exact⟨h.1,hk _ rfl rfl h.2⟩|exact h.elim
 ·try simp only
  unfold Cr at h |-
  split at h<;>(try simp only)<;>first|exact hk _ rfl rfl h|exact⟨h.1,hk _ rfl rfl h.2⟩|exact h.elim
 ·try simp only
  split at h
  ·rename_i hu;(try rw[hu]);try simp only
   split at h<;>(try simp only)<;>first|exact hk _ rfl rfl h|exact h.elim
  ·exact h.elim
 ·try simp only
  split at h
  ·exact h.elim
  ·rename_i hu;(try rw[hu]);try simp only
   obtain⟨hc,h⟩:=av h
   rw[hc];simp only[cond_true]
   split at h
   ·rename_i hu;(try rw[hu]);try simp only
    split at h<;>(try simp only)<;>first|exact hk _ rfl rfl h|exact h.elim
   ·exact h.elim
 ·try simp only
  split at h
  ·rename_i hu;(try rw[hu]);try simp only
   split at h<;>(try simp only)<;>first|exact hk _ rfl rfl h|exact h.elim
  ·exact h.elim
 ·try simp only
  split at h
  ·rename_i hu;(try rw[hu]);try simp only
   split at h<;>(try simp only)<;>first|exact hk _ rfl rfl h|exact h.elim
  ·exact h.elim
 ·try simp only
  split at h
  ·rename_i hu;(try rw[hu]);try simp only
   split at h<;>(try simp only)<;>first|exact hk _ rfl rfl h|exact h.elim
  ·exact h.elim
 ·exact h.elim
theorem YB{P:Program}{op:BinOp}{t:TypeId}{f:Fn}{a b a' b':Array Value}{K:Value->Prop}(h:rW P op t (.func f a b) .nilFunc K):rW P op t (.func f a' b') .nilFunc K:=h
theorem zc{Z:Fz}:∀{ps:List PV} {vs ws:List Value},lF ps=some vs->bF Z ps ws->ws=vs
 |[],vs,ws,h,hr=>by simp only[lF,Option.some.injEq]at h;subst h;exact hr.pj
 | .raw v::ps,vs,ws,h,hr=>by
   simp only[lF]at h
   cases hu:lF ps with
   |none=>rw[hu]at h;cases h
   |some us=>
    rw[hu]at h
    simp only[Option.some.injEq]at h
    subst h
    obtain⟨w,ws',rfl,h1,h2,h3⟩:=hr.inv
    rw[h2.ofRaw.1,zc hu h3]
 | .list .. ::_,_,_,h,_=>by simp[lF]at h
 | .bn .. ::_,_,_,h,_=>by simp[lF]at h
 | .fn .. ::_,_,_,h,_=>by simp[lF]at h
 | .agg .. ::_,_,_,h,_=>by simp[lF]at h
 | .aD .. ::_,_,_,h,_=>by simp[lF]at h
 | .iface .. ::_,_,_,h,_=>by simp[lF]at h
 | .box .. ::_,_,_,h,_=>by simp[lF]at h
 | .bd::_,_,_,h,_=>by simp[lF]at h
theorem Vz{Z:Fz}{P:Program}{op:BinOp}{t:TypeId}{x y:PV}{a b:Value}{KP:PV->Prop}{K:Value->Prop}(hx:cy Z x a)(hy:cy Z y b)(h:VA P op t x y KP)(hk:∀p v,cy Z p v->KP p->K v):rW P op t a b K:=by
 unfold VA at h
 split at h
 ·rw[hx.ofRaw.1,hy.ofRaw.1]
  exact zZ h λv h1 h2 hv=>hk _ v (.raw v h1 h2) hv
 ·rename_i as bs
  cases h1:lF as with
  |none=>rw[h1]at h;exact h.elim
  |some us=>
   cases h2:lF bs with
   |none=>rw[h1,h2]at h;exact h.elim
   |some ws=>
    rw[h1,h2]at h
    obtain⟨vs,rfl,hc⟩:=hx.sD
    obtain⟨rC,rfl,rI⟩:=hy.sD
    rw[zc h1 hc,zc h2 rI]
    exact zZ h λv h1 h2 hv=>hk _ v (.raw v h1 h2) hv
 ·obtain⟨fv,cv,rfl,_⟩:=hx.ofFn
  rw[hy.ofRaw.1]
  exact zZ (YB h) λv h1 h2 hv=>hk _ v (.raw v h1 h2) hv
 ·exact h.elim
theorem zq{P:Program}{t:TypeId}{v:Value}(h:(match P.underlying t with|some (.interface _)=>false|some _=>true|none=>false)=true):pv P (Instr.makeInterface t v)=some (.iface t v):=by
 unfold Instr.makeInterface underlying program
 simp only[bind,Sem.bind,pv]
 cases hu:P.underlying t with
 |none=>rw[hu]at h;cases h
 |some d=>
  rw[hu]at h
  cases d<;>first|(simp at h;done)|rfl
theorem GJ{Z:Fz}{p:PV}{v:Value}(h:cy Z p v)(hk:p.ok=true):v.cells.size=p.cells.length:=by
 have:=(h.cells hk).1
 simpa using this
theorem Lb{Z:Fz}{P:Program}{fs:Array Field}:∀{ps:List (Nat×PV)} {vs:List (Nat×Value)} {cs:List PV} {ds:List Value} {r:List PV},ps.length=vs.length->
  (∀(i:Nat) x y,ps[i]?=some x->vs[i]?=some y->x.1=y.1/\x.2.ok=true/\cy Z x.2 y.2)->bF Z cs ds->Lc P fs ps cs=some r->∃w,Nw P fs vs ds=some w/\bF Z r w
 |[],[],cs,ds,r,_,_,hc,h=>by simp only[Lc,Option.some.injEq]at h;subst h;exact⟨ds,rfl,hc⟩
 |[],_::_,_,_,_,hl,_,_,_=>by simp at hl
 |_::_,[],_,_,_,hl,_,_,_=>by simp at hl
 |(i,p)::ps,(i',v)::vs,cs,ds,r,hl,hp,hc,h=>by
  obtain⟨e1,e2,e3⟩:=hp 0 _ _ rfl rfl
  simp only at e1 e2 e3
  subst e1
  simp only[Lc]at h
  simp only[Nw]
  split at h
  ·rename_i f hf
   have hlen:=GJ e3 e2
   cases hb:(Nat.beq p.cells.length (P.cellsOf f.type)&&Nat.ble (f.offset+p.cells.length) cs.length&&(P.info? f.type).isSome)with
   |false=>rw[hb]at h;cases h
   |true=>
    rw[hb]at h
    simp only[cond_true]at h
    have iK:(Nat.beq v.cells.size (P.cellsOf f.type)&&Nat.ble (f.offset+v.cells.size) ds.length&&(P.info? f.type).isSome)=true:=by rw[hlen,hc.1];exact hb
    rw[hf]
    simp only[iK,cond_true]
    refine Lb (by simpa using hl) (λi x y a b=>hp (i+1) x y (by simpa using a) (by simpa using b)) ?_ h
    rw[hlen]
    exact((hc.take _).append (e3.cells e2)).append (hc.drop _)
  ·cases h
theorem Ld{α:Type}{b:Bool}{x:Option α}{y:α}(h:(bif b then x else none)=some y):b=true/\x=some y:=by
 cases b with
 |false=>cases h
 |true=>exact⟨rfl,h⟩
theorem DZ{Z:Fz}{size:Nat}:∀{i:Nat} {ps:List (Nat×PV)} {vs:List (Nat×Value)} {rows:Lq},ps.length=vs.length->
  (∀(i:Nat) x y,ps[i]?=some x->vs[i]?=some y->x.1=y.1/\x.2.ok=true/\cy Z x.2 y.2)->Ea size i ps=some rows->∃w,rj size i vs=some w/\bF Z rows.flatten w/\rows.length=ps.length/\∀r∈rows,r.length=size
 |i,[],[],rows,_,_,h=>by simp only[Ea,Option.some.injEq]at h;subst h;exact⟨[],rfl,bF.nil Z,rfl,by simp⟩
 |_,[],_::_,_,hl,_,_=>by simp at hl
 |_,_::_,[],_,hl,_,_=>by simp at hl
 |i,(j,pp)::ps,(j',v)::vs,rows,hl,hp,h=>by
  obtain⟨e1,e2,e3⟩:=hp 0 _ _ rfl rfl
  simp only at e1 e2 e3
  subst e1
  simp only[Ea]at h
  simp only[rj]
  have hlen:=GJ e3 e2
  cases hb:(Nat.beq i j&&Nat.beq pp.cells.length size)with
  |false=>rw[hb]at h;cases h
  |true=>
   rw[hb]at h
   have iK:(Nat.beq i j&&Nat.beq v.cells.size size)=true:=by rw[hlen];exact hb
   rw[iK]
   simp only[cond_true]at h |-
   cases LG:Ea size (i+1) ps with
   |none=>rw[LG]at h;cases h
   |some rs=>
    rw[LG]at h
    simp only[Option.some.injEq]at h
    subst h
    obtain⟨w,hw,f_,rS,BV⟩:=DZ (vs:=vs) (by simpa using hl) (λi x y a b=>hp (i+1) x y (by simpa using a) (by simpa using b)) LG
    rw[hw]
    refine⟨_,rfl,(e3.cells e2).wk.append f_,by simp[rS],λr hr=>?_⟩
    simp only[List.mem_cons]at hr
    rcases hr with rfl|hr
    ·simp only[List.length_map]
     simp only[Bool.and_eq_true,beq_iff]at hb;exact hb.2
    ·exact BV r hr
theorem YD{Z:Fz}{P:Program}{t:TypeId}{ps:List (Nat×PV)}{vs:List (Nat×Value)}{r:List PV}(hl:ps.length=vs.length)
  (hp:∀(i:Nat) x y,ps[i]?=some x->vs[i]?=some y->x.1=y.1/\x.2.ok=true/\cy Z x.2 y.2) (h:acB P t ps=some r):∃w,YE P t vs=some w/\bF Z r w:=by
 unfold acB at h
 unfold YE
 split at h
 ·rename_i z fs hz hu
  rw[hz,hu]
  simp only
  cases hb:((pM P t z).ok&&d_ P t&&fs.toList.all λf=>(P.info? f.type).isSome)with
  |false=>rw[hb]at h;cases h
  |true=>
   rw[hb]at h
   simp only[cond_true]at h
   have iK:(fs.toList.all λf=>(P.info? f.type).isSome)=true:=by
    simp only[Bool.and_eq_true]at hb;exact hb.2
   rw[iK]
   simp only[cond_true]
   split at h
   ·rename_i cs mR
    have hz:=(BT Z z).im (P:=P) (t:=t)
    have Qv:cy Z (.agg cs) z:=by rw[<- mR];exact hz
    obtain⟨ds,rfl,hc⟩:=Qv.sD
    refine Lb (by simpa using hl) (λi x y a b=>?_) hc h
    rw[List.getElem?_map]at a
    cases hx:ps[i]? with
    |none=>simp[hx]at a
    |some x0=>
     simp only[hx,Option.map_some,Option.some.injEq]at a
     obtain⟨e1,e2,e3⟩:=hp i x0 y hx b
     subst a
     refine⟨e1,?_,?_⟩
     ·simp only;split
      ·rw[qP];exact e2
      ·exact e2
     ·simp only;split
      ·exact e3.im
      ·exact e3
   ·cases h
 ·rename_i z len e hz hu
  rw[hz,hu]
  simp only
  obtain⟨hb,h⟩:=Ld h
  simp only[Bool.and_eq_true]at hb
  rw[<- hl,hb.1.1,hb.1.2,hb.2]
  simp only[Bool.and_true,cond_true]
  split at h
  ·rename_i rows TH
   simp only[Option.some.injEq]at h
   subst h
   obtain⟨w,hw,f_,_⟩:=DZ (Z:=Z) (vs:=vs) (by simpa using hl) (λi x y a b=>by
    rw[List.getElem?_map]at a
    cases hx:ps[i]? with
    |none=>simp[hx]at a
    |some x0=>
     simp only[hx,Option.map_some,Option.some.injEq]at a
     obtain⟨e1,e2,e3⟩:=hp i x0 y hx b
     subst a
     exact⟨e1,by rw[qP];exact e2,e3.im⟩) TH
   exact⟨w,hw,f_⟩
  ·cases h
 ·cases h
theorem Ym{Z:Fz}{P:Program}{e:TypeId}{off:Nat}{cs:List PV}{vs:List Value}{p:PV}(hc:bF Z cs vs)(h:ab7 P e off cs=some p):∃v,QZ P e off vs=some v/\p.ok=true/\cy Z p v:=by
 unfold ab7 at h
 unfold QZ
 obtain⟨hb,h⟩:=Ld h
 rw[hc.1,hb]
 simp only[cond_true]
 cases ha:d_ P e with
 |true=>
  rw[ha]at h
  simp only[cond_true,Option.some.injEq]at h |-
  subst h
  exact⟨_,rfl,rfl,((hc.drop _).take _).pT⟩
 |false=>
  rw[ha]at h
  simp only[cond_false]at h |-
  obtain⟨v,hv,hk,hr⟩:=hc.get h
  exact⟨v,hv,PV.Ht hk,hr⟩
theorem Yj{Z:Fz}{P:Program}{t:TypeId}{f:Nat}{cs:List PV}{vs:List Value}{p:PV}(hc:bF Z cs vs)(h:ab3 P t f cs=some p):∃v,Ff P t f vs=some v/\p.ok=true/\cy Z p v:=by
 unfold ab3 at h
 unfold Ff
 split at h
 ·rename_i fs hu
  rw[hu]
  simp only
  split at h
  ·rename_i x hx
   rw[hx]
   simp only
   rw[hc.1]
   cases hb:((P.underlying x.type).isSome&&Nat.ble (x.offset+P.cellsOf x.type) cs.length)with
   |false=>rw[hb]at h;cases h
   |true=>
    rw[hb]at h
    simp only[cond_true]at h |-
    cases ha:d_ P x.type with
    |true=>
     rw[ha]at h
     simp only[cond_true,Option.some.injEq]at h |-
     subst h
     exact⟨_,rfl,rfl,((hc.drop _).take _).pT⟩
    |false=>
     rw[ha]at h
     simp only[cond_false]at h |-
     obtain⟨v,hv,hk,hr⟩:=hc.get h
     exact⟨v,hv,PV.Ht hk,hr⟩
  ·cases h
 ·cases h
theorem ik{Z:Fz}{p:eI}{s:St}(hr:dW Z p s){x:Option Operand}{d i:Int}(h:ji (u_ p.σ) x d=some i):eE (ev s.σ) x d=some i:=by
 unfold ji at h
 unfold eE
 split at h
 ·exact h
 ·rename_i x
  split at h
  ·rename_i k j he
   have:=hr.ev x
   rw[he]at this
   show(match ev s.σ x with| .int _ i=>some i|_=>none)=some i
   rw[this.ofRaw.1]
   exact h
  ·cases h
theorem Dq{Z:Fz}{p:eI}{s:St}(hr:dW Z p s):∀{xs:List Operand} {r:IntKind×List Int},Dr (u_ p.σ) xs=some r->pn (ev s.σ) xs=some r
 |[],_,h=>by simp[Dr]at h
 |[x],r,h=>by
  simp only[Dr]at h
  split at h
  ·rename_i k i he
   have:=hr.ev x
   rw[he]at this
   simp only[pn,this.ofRaw.1];exact h
  ·cases h
 |x::y::l,r,h=>by
  simp only[Dr]at h
  split at h
  ·rename_i k i k' is he h2
   have:=hr.ev x
   rw[he]at this
   have ih:=Dq (xs:=y::l) hr h2
   simp only[pn,this.ofRaw.1,ih];exact h
  ·cases h
theorem FJ{Z:Fz}{sz size:Nat}{fl lT:Fl}{rows:Lq}{a:Option Addr}{n c l h m:Nat}(hr:cy Z (.list sz fl rows) (.slice a n c))(gD:vD size sz rows=true)(h1:l<=h)(h2:h<=rows.length)(h3:h<=m)(hf:Wc lT (Br a l m size) (h-l) (m-l)):
  cy Z (.list size lT ((rows.take h).drop l)) (.slice (Br a l m size) (h-l) (m-l)):=by
 cases hr with
 |list _ _ _ _ _ _ b o C g hn hc hs Wi ha hg hk hp hf0=>
  have Gq:m-l=0\/ju (Br a l m size):=by
   unfold Br
   split
   ·left;omega
   ·right
    intro x hx
    cases a with
    |none=>cases hx
    |some y=>simp only[Option.map_some,Option.some.injEq]at hx;subst hx;rfl
  have hlen:((rows.take h).drop l).length=h-l:=by simp;omega
  by_cases h0:h-l=0
  ·have vV:(rows.take h).drop l=[]:=List.eq_nil_of_length_eq_zero (by omega)
   rw[vV]
   refine .list size lT [] _ (h-l) _ 0 0 [] (λ_ _=>undef) (by simp;omega) (by omega) Gq (by simp) (λh=>absurd h0 h) (λi j hi=>by omega) (by simp) (by simp) hf
  ·have RM:n≠0:=by omega
   have Qx:sz=size:=by
    unfold vD at gD
    cases hb:Nat.beq sz size with
    |true=>exact beq_iff.1 hb
    |false=>
     rw[hb]at gD
     simp only[cond_false]at gD
     split at gD
     ·simp at h2;omega
     ·cases gD
   subst Qx
   obtain⟨ea,ez⟩:=ha RM
   subst ea
   have aT:m≠l:=by omega
   refine .list sz lT _ _ (h-l) _ b (o+l*sz) C (λi j=>g (i+l) j) hlen (by omega) Gq ?_ ?_ ?_ ?_ ?_ hf
   ·intro r hr;exact Wi r (List.mem_of_mem_take (List.mem_of_mem_drop hr))
   ·intro _
    refine⟨?_,ez⟩
    unfold Br;rw[if_neg aT];rfl
   ·intro i j hi hj
    have:=hg (i+l) j (by omega) hj
    rw[<- this]
    congr 1
    rw[Nat.add_mul];omega
   ·intro i j row p hi hj
    rw[List.getElem?_drop,List.getElem?_take]at hi
    split at hi
    ·exact hk (l+i) j row p hi hj
    ·cases hi
   ·intro i j row p hi hj
    rw[List.getElem?_drop,List.getElem?_take]at hi
    split at hi
    ·have:=hp (l+i) j row p hi hj
     rw[Nat.add_comm]at this;exact this
    ·cases hi
theorem cy.MC{Z:Fz}{row:List PV}{o:Nat}{w:Value}(h:cy Z (.bn row o) w):∃(b off:Nat) (C:List Value) (g:Nat->Value),w=.pointer (some ⟨b,off+o,none⟩)/\Z b=some C/\(∀j:Nat,j<row.length->C[off+j]?=some (g j))/\(∀(j:Nat) p,row[j]?=some p->p.cell=true)/\∀(j:Nat) p,row[j]?=some p->cy Z p (g j):=by
 cases h with
 |bn _ _ b off C g hz hg hk hp=>exact⟨b,off,C,g,rfl,hz,hg,hk,hp⟩
theorem Lh{Z:Fz}{p:eI}{s:St}(hr:dW Z p s){l:List Operand}(h:l.all (λx=>(u_ p.σ x).ok)=true):bf Z (l.map (u_ p.σ)) (l.map (ev s.σ)):=by
 induction l with
 |nil=>exact bf.nil Z
 |cons x l ih=>
  simp only[List.all_cons,Bool.and_eq_true]at h
  exact bf.cons h.1 (hr.ev x) (ih h.2)
theorem mT{Z:Fz}{p:eI}{s:St}(hr:dW Z p s){l:List Operand}(h:l.all (λx=>(u_ p.σ x).ok)=true):l.all (λx=>plain (ev s.σ x))=true:=by
 rw[List.all_eq_true]at h |-
 exact λx hx=>(hr.ev x).plain (h x hx)
def qW(o:Oper):Bool:=match o.op with| .load .. =>true|_=>false
theorem Iw{E:mh}{q:Bool}{fz:List Nat}{o:Oper}{p:eI}{s:St}{μ:Mem}{u:UW}{KP:eI->Mem->Prop}{K:St->UW->Prop}{Z:Fz}(hr:dW Z p s)(iB:bS o=true)(hl:qW o=false)
  (hK:∀p' s',dW Z p' s'->KP p' μ->K s' u) (h:V1 E q fz o p μ KP):W1 E.er fz o s u K:=by
 unfold bS at iB
 unfold qW at hl
 unfold V1 at h
 unfold W1
 simp only at h |-
 cases OJ:o.op<;>simp only[OJ]at h iB hl |- <;>first|(cases iB;done)|(cases hl;done)|skip
 case move x=>exact hK _ _ (hr.fin o (hr.ev x).im) h
 case assign x=>exact hK _ _ (hr.fin o (hr.ev x).im) h
 case pick c a b=>
  split at h
  ·rename_i t he
   have hc:=hr.ev c
   rw[he]at hc
   rw[hc.ofRaw.1]
   cases t
   ·exact hK _ _ (hr.fin o (hr.ev b).im) h
   ·exact hK _ _ (hr.fin o (hr.ev a).im) h
  ·exact h.elim
 case build t ps=>
  obtain⟨hc,h⟩:=av h
  have ow:(ps.toList.all λp=>plain (ev s.σ p.2))=true:=by
   rw[List.all_eq_true]at hc |-
   exact λx hx=>(hr.ev x.2).plain (hc x hx)
  rw[ow]
  simp only[cond_true]
  split at h
  ·rename_i vs hb
   obtain⟨w,hw,f_⟩:=YD (Z:=Z) (vs:=ps.toList.map λp=>(p.1,ev s.σ p.2)) (by simp) (λi x y a b=>by
    rw[List.getElem?_map]at a b
    cases hi:ps.toList[i]? with
    |none=>rw[hi]at a;cases a
    |some z=>
     rw[hi]at a b
     simp only[Option.map_some,Option.some.injEq]at a b
     subst a;subst b
     exact⟨rfl,List.all_eq_true.1 hc z (List.mem_of_getElem? hi),hr.ev z.2⟩) hb
   have XE:YE E.er.P t (ps.toList.map λp=>(p.1,ev s.σ p.2))=some w:=hw
   rw[XE]
   exact hK _ _ (hr.fin o f_.pT) h
  ·exact h.elim
 case nilCheck x=>
  have hx:=hr.ev x
  split at h
  ·rename_i k off he
   rw[he]at hx;rw[hx.AL]
   exact hK _ _ (hr.fin o (.box k off)) h
  ·rename_i row off he
   rw[he]at hx
   obtain⟨b,of,C,g,hv,hz,hg,hk,hp⟩:=hx.MC
   rw[hv]
   exact hK _ _ (hr.fin o (.bn row off b of C g hz hg hk hp)) h
  ·rename_i a he
   rw[he]at hx;rw[hx.ofRaw.1]
   cases a with
   |none=>exact h.elim
   |some a=>exact hK _ _ (hr.fin o (.raw _ rfl rfl)) h
  ·rename_i f a b he
   rw[he]at hx
   obtain⟨fv,cv,hv,h1,h2⟩:=hx.ofFn
   rw[hv]
   cases f with
   |method n=>exact h.elim
   |_=>exact hK _ _ (hr.fin o (bf.GX h1 h2)) h
  ·exact h.elim
 case binOp op t x y ft=>exact Vz (hr.ev x) (hr.ev y) h λpp v hv hk=>hK _ _ (hr.fin o hv) hk
 case unOp op t x=>
  have hx:=hr.ev x
  split at h
  ·rename_i b he
   rw[he]at hx;rw[hx.ofRaw.1]
   exact hK _ _ (hr.fin o (.raw _ rfl rfl)) h
  ·rename_i k n he
   rw[he]at hx;rw[hx.ofRaw.1]
   exact hK _ _ (hr.fin o (.raw _ rfl rfl)) h
  ·exact h.elim
 case convert src dst x=>
  have hx:=hr.ev x
  split at h
  ·rename_i v he
   rw[he]at hx
   obtain⟨e1,e2,e3⟩:=hx.ofRaw
   rw[e1,e2]
   simp only[cond_true]
   split at h
   ·rename_i v' hv
    have hv':pv E.er.P (convert src dst v)=some v':=hv
    rw[hv']
    obtain⟨hc,h⟩:=av h
    simp only[Bool.and_eq_true]at hc
    simp only[hc.1,cond_true]
    exact hK _ _ (hr.fin o (.raw _ hc.1 hc.2)) h
   ·exact h.elim
  ·exact h.elim
 case makeInterface t x=>
  have hx:=hr.ev x
  obtain⟨hc,h⟩:=av h
  simp only[Bool.and_eq_true]at hc
  rw[hx.plain hc.1]
  simp only[cond_true]
  have hm:pv E.er.P (Instr.makeInterface t (ev s.σ x))=some (.iface t (ev s.σ x)):=zq hc.2
  rw[hm]
  simp only[plain,cond_true]
  exact hK _ _ (hr.fin o (.iface t _ _ hc.1 hx)) h
 case makeFunc fn first wv=>
  obtain⟨hc,h⟩:=av h
  simp only[Bool.and_eq_true]at hc
  rw[mT hr hc.1,mT hr hc.2]
  simp only[Bool.and_self,cond_true]
  have wkR:∀{l:List Operand},l.all (λx=>(u_ p.σ x).ok)=true->bf Z (l.map λx=>wk (u_ p.σ x)) (l.map (ev s.σ)):=by
   intro l hl
   induction l with
   |nil=>exact bf.nil Z
   |cons x l ih=>
    simp only[List.all_cons,Bool.and_eq_true]at hl
    exact bf.cons (by rw[adQ];exact hl.1) (hr.ev x).wk (ih hl.2)
  exact hK _ _ (hr.fin o (bf.GX (wkR hc.1) (wkR hc.2))) h
 case slice t x lo hi mx=>
  have hx:=hr.ev x
  split at h
  ·rename_i e sz fl rows hu he
   have iu:E.er.P.underlying t=some (.slice e):=hu
   rw[he]at hx
   obtain⟨a,n,c,hv,hn,hc,hs,hf⟩:=hx.ofList
   rw[iu,hv]
   simp only
   rw[hv]at hx
   split at h
   ·rename_i l hh m e1 e2 e3
    have e1':=ik hr e1
    rw[hn]at e2
    have e2':=ik hr e2
    cases hb:((mx.isSome&&hi.isNone)||(E.P.info? e).isNone|| !vD (E.P.cellsOf e) sz rows)with
    |true=>rw[hb]at h;exact h.elim
    |false=>
     rw[hb]at h
     simp only[cond_false]at h
     simp only[Bool.or_eq_false_iff,Bool.not_eq_false']at hb
     have LJ:((mx.isSome&&hi.isNone)||(E.er.P.info? e).isNone)=false:=by
      rw[Bool.or_eq_false_iff];exact hb.1
     cases mx with
     |none=>
      simp only at h
      obtain⟨g1,g2,g3,h⟩:=h
      have e3':eE (ev s.σ) none (c:Int)=some (c:Int):=rfl
      rw[e1',e2',e3']
      simp only[LJ,cond_false]
      refine⟨hs.elim (λh0=>.inl (by omega)) .inr,g1,g2,by omega,by omega,hK _ _ (hr.fin o ?_) h⟩
      exact FJ hx hb.2 (by omega) (by omega) (by omega) trivial
     |some y=>
      simp only at h
      obtain⟨g1,g2,g3,g4,h⟩:=h
      have e3':eE (ev s.σ) (some y) (c:Int)=some m:=by
       have:ji (u_ p.σ) (some y) (c:Int)=some m:=by
        unfold ji at e3 |-;exact e3
       exact ik hr this
      rw[e1',e2',e3']
      simp only[LJ,cond_false]
      subst g4
      refine⟨hs.elim (λh0=>.inl (by omega)) .inr,g1,g2,by omega,by omega,hK _ _ (hr.fin o ?_) h⟩
      exact FJ hx hb.2 (by omega) (by omega) (by omega) rfl
   ·exact h.elim
  ·rename_i e a len cap hu he
   have iu:E.er.P.underlying t=some (.slice e):=hu
   rw[he]at hx
   rw[iu,hx.ofRaw.1]
   simp only
   split at h
   ·rename_i l hh m e1 e2 e3
    rw[ik hr e1,ik hr e2,ik hr e3]
    simp only
    cases hb:((mx.isSome&&hi.isNone)||(E.P.info? e).isNone)with
    |true=>rw[hb]at h;exact h.elim
    |false=>
     rw[hb]at h
     have iK:((mx.isSome&&hi.isNone)||(E.er.P.info? e).isNone)=false:=hb
     rw[iK]
     simp only[cond_false]at h |-
     obtain⟨g1,g2,g3,g4,g5,h⟩:=h
     exact⟨.inr g1,g2,g3,g4,g5,hK _ _ (hr.fin o (.raw _ rfl rfl)) h⟩
   ·exact h.elim
  ·rename_i st hu he
   have iu:E.er.P.underlying t=some .string:=hu
   rw[he]at hx
   rw[iu,hx.ofRaw.1]
   simp only
   cases mx with
   |some _=>exact h.elim
   |none=>
    simp only at h |-
    split at h
    ·rename_i l hh e1 e2
     rw[ik hr e1,ik hr e2]
     obtain⟨g1,g2,g3,h⟩:=h
     exact⟨g1,g2,g3,hK _ _ (hr.fin o (.raw _ rfl rfl)) h⟩
    ·exact h.elim
  ·exact h.elim
 case fieldAddr t x f=>
  have hx:=hr.ev x
  cases hd:Fh E.P t f with
  |none=>rw[hd]at h;exact h.elim
  |some d=>
   rw[hd]at h
   have hd':Fh E.er.P t f=some d:=hd
   rw[hd']
   simp only at h |-
   split at h
   ·rename_i k off he
    rw[he]at hx;rw[hx.AL]
    exact hK _ _ (hr.fin o (.box k (off+d))) h
   ·rename_i row off he
    rw[he]at hx
    obtain⟨b,of,C,g,hv,hz,hg,hk,hp⟩:=hx.MC
    rw[hv]
    refine hK _ _ (hr.fin o ?_) h
    have:=cy.bn (Z:=Z) row (off+d) b of C g hz hg hk hp
    rw[<- Nat.add_assoc]at this
    exact this
   ·unfold aF at h
    split at h
    ·rename_i b off he
     rw[he]at hx
     rw[hx.ofRaw.1]
     exact hK _ _ (hr.fin o (.raw _ rfl rfl)) h
    ·exact h.elim
 case field t x f=>
  have hx:=hr.ev x
  split at h
  ·rename_i cs he
   rw[he]at hx
   obtain⟨vs,hv,hc⟩:=hx.sD
   rw[hv]
   simp only
   split at h
   ·rename_i pp hf
    obtain⟨v,hv2,hk,hrp⟩:=Yj hc hf
    have ain:Ff E.er.P t f vs=some v:=hv2
    rw[ain]
    simp only[hrp.plain hk,cond_true]
    exact hK _ _ (hr.fin o hrp) h
   ·exact h.elim
  ·exact h.elim
 case indexAddr t x i=>
  have hx:=hr.ev x
  have hi:=hr.ev i
  split at h
  ·rename_i e sz fl rows k j hu he hj
   have iu:E.er.P.underlying t=some (.slice e):=hu
   rw[he]at hx
   rw[hj]at hi
   obtain⟨hc,g1,row,eT,h⟩:=av h
   simp only[Bool.and_eq_true,beq_iff]at hc
   have hc1:(E.er.P.info? e).isSome=true:=hc.1
   cases hvx:ev s.σ x with
   |slice a n c=>
    rw[hvx]at hx
    rw[iu,hi.ofRaw.1]
    simp only[hc1,cond_true]
    cases hx with
    |list _ _ _ _ _ _ b of C g hn OP hs Wi ha hg hk hp hf=>
     have cz:j.toNat<n:=by rw[<- hn];exact(List.getElem?_eq_some_iff.1 eT).1
     obtain⟨ea,ez⟩:=ha (by omega)
     subst ea
     refine⟨g1,by omega,hK _ _ (hr.fin o ?_) h⟩
     have gD:sz=E.er.P.cellsOf e:=hc.2
     have EC:row.length=sz:=Wi row (List.mem_of_getElem? eT)
     have:=cy.bn (Z:=Z) row 0 b (of+j.toNat*sz) C (λjj=>g j.toNat jj) ez (λjj hjj=>hg _ _ cz (by omega)) (λjj pp OI=>hk _ _ _ _ eT OI) (λjj pp OI=>hp _ _ _ _ eT OI)
     rw[<- gD]
     exact this
   |_=>rw[hvx]at hx;cases hx
  ·rename_i e a len cap k j hu he hj
   have iu:E.er.P.underlying t=some (.slice e):=hu
   rw[he]at hx
   rw[hj]at hi
   obtain⟨hc,h⟩:=av h
   have hc1:(E.er.P.info? e).isSome=true:=hc
   rw[iu,hx.ofRaw.1,hi.ofRaw.1]
   simp only[hc1,cond_true]
   obtain⟨b,off,rfl,h1,h2,h⟩:=ig h
   exact⟨h1,h2,hK _ _ (hr.fin o (.raw _ rfl rfl)) h⟩
  ·rename_i len e k off k' j hu he hj
   have iu:E.er.P.underlying t=some (.array len e):=hu
   rw[he]at hx
   rw[hj]at hi
   obtain⟨hc,h⟩:=av h
   have hc1:(decide (0<=j)&&decide (j<len)&&(E.er.P.info? e).isSome)=true:=hc
   rw[iu,hx.AL,hi.ofRaw.1]
   simp only[hc1,cond_true]
   exact hK _ _ (hr.fin o (.box k _)) h
  ·exact h.elim
 case index t x i=>
  have hx:=hr.ev x
  have hi:=hr.ev i
  split at h
  ·rename_i st k j hu he hj
   have iu:E.er.P.underlying t=some .string:=hu
   rw[he]at hx;rw[hj]at hi
   rw[iu,hx.ofRaw.1,hi.ofRaw.1]
   obtain⟨h1,c,hc,h⟩:=h
   exact⟨h1,c,hc,hK _ _ (hr.fin o (.raw _ rfl rfl)) h⟩
  ·rename_i len e cs k j hu he hj
   have iu:E.er.P.underlying t=some (.array len e):=hu
   rw[he]at hx;rw[hj]at hi
   obtain⟨ds,hds,hc⟩:=hx.sD
   rw[iu,hds,hi.ofRaw.1]
   obtain⟨gG,h1,h2,h⟩:=av h
   obtain⟨q,hq,⟨IY,h⟩,_⟩:=zN (Z:=Z) h
   obtain⟨v,hv,aO,hrv⟩:=Ym hc IY
   exact⟨h1,h2,gG,v,hv,hrv.plain aO,hK _ _ (hr.fin o hrv) h⟩
  ·exact h.elim
 case extract x i=>
  have hx:=hr.ev x
  split at h
  ·rename_i vs he
   rw[he]at hx
   obtain⟨ws,hv,hs⟩:=hx.CW
   rw[hv]
   simp only
   split at h
   ·rename_i pp hp
    obtain⟨hk,h⟩:=av h
    obtain⟨w,hw,_,LF⟩:=hs.get hp
    have XE:ws.toArray[i]?=some w:=by simpa using hw
    rw[XE]
    simp only[LF.plain hk,cond_true]
    exact hK _ _ (hr.fin o LF) h
   ·exact h.elim
  ·exact h.elim
 case call c=>
  obtain⟨cal,args,ats⟩:=c
  cases cal with
  |value f=>cases iB
  |invoke x n=>cases iB
  |builtin b=>
   simp only at h iB |-
   unfold V1b at h
   unfold W1b
   generalize args.toList=al at h |-
   generalize ats.toList=tl at h |-
   cases b<;>first|(cases iB;done)|skip
   case len=>
    match al,tl,h with
    |[x],[t],h=>
     have hx:=hr.ev x
     simp only at h |-
     split at h
     ·rename_i e sz fl rows hu he
      have iu:E.er.P.underlying t=some (.slice e):=hu
      rw[he]at hx
      obtain⟨a,n,c,hv,hn,_⟩:=hx.ofList
      rw[iu,hv,<- hn]
      exact hK _ _ (hr.fin o (.raw _ rfl rfl)) h
     ·rename_i e a n c hu he
      have iu:E.er.P.underlying t=some (.slice e):=hu
      rw[he]at hx
      rw[iu,hx.ofRaw.1]
      exact hK _ _ (hr.fin o (.raw _ rfl rfl)) h
     ·rename_i st hu he
      have iu:E.er.P.underlying t=some .string:=hu
      rw[he]at hx
      rw[iu,hx.ofRaw.1]
      exact hK _ _ (hr.fin o (.raw _ rfl rfl)) h
     ·rename_i n e hu
      have iu:E.er.P.underlying t=some (.array n e):=hu
      obtain⟨hk,h⟩:=av h
      rw[iu]
      simp only[hx.plain hk,cond_true]
      exact hK _ _ (hr.fin o (.raw _ rfl rfl)) h
     ·exact h.elim
    |[],_,h=>exact h.elim
    |[_],[],h=>exact h.elim
    |[_],_::_::_,h=>exact h.elim
    |_::_::_,_,h=>exact h.elim
   case min=>
    simp only at h |-
    split at h
    ·rename_i k i is he
     rw[Dq hr he]
     exact hK _ _ (hr.fin o (.raw _ rfl rfl)) h
    ·exact h.elim
   case max=>
    simp only at h |-
    split at h
    ·rename_i k i is he
     rw[Dq hr he]
     exact hK _ _ (hr.fin o (.raw _ rfl rfl)) h
    ·exact h.elim
theorem BA.go{Z Z':Fz}{u u':UW}{b:Nat}{o:Ob}(h:BA Z u b o)(hz:Z.le Z')(hb:Z' b=Z b)(hh:u'.heap[b]?=u.heap[b]?):BA Z' u' b o:=by
 cases o with
 |cells T cs=>
  obtain⟨h1,A,h2,h3⟩:=h
  exact⟨by rw[hb];exact h1,A,by rw[hh];exact h2,h3.mono hz⟩
 |pU n m=>
  obtain⟨⟨C,h1,h2⟩,A,T,h3,h4⟩:=h
  exact⟨⟨C,by rw[hb];exact h1,h2⟩,A,T,by rw[hh];exact h3,h4⟩
 |obj o F S=>exact⟨by rw[hb];exact h.1,by rw[hh];exact h.2.1,λt=>(h.2.2 t).mono hz⟩
 |ro T cs=>
  obtain⟨h1,A,h2,h3⟩:=h
  exact⟨by rw[hb];exact h1,A,by rw[hh];exact h2,h3.mono hz⟩
theorem Good.go{Z Z':Fz}{u u':UW}{μ μ':Mem}(h:Good Z u μ)(hz:Z.le Z')
  (aie:∀b C,Z' b=some C->(Z b=some C/\u'.heap[b]?=u.heap[b]?)\/∃A T f,u'.heap[b]?=some (.cells A T f)/\C <+: A.toList)
  (gw:∀b o,μ' b=some o->(μ b=some o/\u'.heap[b]?=u.heap[b]?/\(u.ij b->u'.ij b)/\Z' b=Z b)\/((o.rw=true->u'.ij b)/\BA Z' u' b o)):Good Z' u' μ':=by
 refine⟨λb C hb=>?_,λb o hb=>?_⟩
 ·rcases aie b C hb with⟨h1,h2⟩|h1
  ·rw[h2];exact h.IP b C h1
  ·exact h1
 ·rcases gw b o hb with⟨h1,h2,h3,h4⟩|h1
  ·obtain⟨g1,g2⟩:=h.mem b o h1
   exact⟨λhr=>h3 (g1 hr),g2.go hz h4 h2⟩
  ·exact h1
def Fz.set(Z:Fz)(b:Nat)(C:List Value):Fz:=λc=>if c=b then some C else Z c
theorem Fz.aq(Z:Fz)(b:Nat)(C:List Value):Z.set b C b=some C:=by simp[Fz.set]
theorem Fz.aC(Z:Fz){b c:Nat}(C:List Value)(h:c≠b):Z.set b C c=Z c:=by simp[Fz.set,h]
theorem Fz.Mj{Z:Fz}{b:Nat}{C:List Value}(h:∀D,Z b=some D->D <+: C):Z.le (Z.set b C):=λc D hD=>by
 by_cases e:c=b
 ·subst e;exact⟨C,Fz.aq _ _ _,h D hD⟩
 ·exact⟨D,by rw[Fz.aC _ _ e];exact hD,List.prefix_refl _⟩
theorem Good.Xr{Z:Fz}{u:UW}{μ:Mem}(h:Good Z u μ){b:Nat}(hb:u.heap.size<=b):Z b=none:=by
 cases hz:Z b with
 |none=>rfl
 |some C=>have:=h.HD (b:=b) (by rw[hz];simp);omega
theorem Good.bJ{Z:Fz}{u:UW}{μ:Mem}(h:Good Z u μ){b:Nat}(hb:u.heap.size<=b):μ b=none:=by
 cases hz:μ b with
 |none=>rfl
 |some C=>have:=h.Tl (b:=b) (by rw[hz];simp);omega
theorem Good.born{Z:Fz}{u:UW}{μ:Mem}(h:Good Z u μ){b:Nat}{w':World}{A:Array Value}{T:TypeId}(hB:tA u.toWorld w' b (.cells A T (0,0))){cs:List PV}(hc:dq Z cs A.toList):
  Good Z (u.born b w') (μ.set b (some (.cells T cs)))/\Ext Z μ u.heap.size Z (μ.set b (some (.cells T cs)))/\μ b=none:=by
 have vY:u.heap.size<=b:=hB.ge
 have de:∀c,c<u.heap.size->(u.born b w').heap[c]?=u.heap[c]?:=λc hc=>hB.below.block c hc
 refine⟨h.go (Fz.le.refl Z) (λc C hC=>.inl ⟨hC,de c (h.HD (by rw[hC];simp))⟩) (λc o ho=>?_),⟨Fz.le.refl Z,λ_ _ h _=>h,λ_ h=>.inl h,λc hc=>?_,λ_ h'=>h.HD h'⟩,h.bJ vY⟩
 ·by_cases e:c=b
  ·subst e
   rw[Mem.aq]at ho
   cases ho
   exact .inr ⟨λ_=>.inr rfl,h.Xr vY,A,hB.at_,hc⟩
  ·rw[Mem.aC _ _ e]at ho
   exact .inl ⟨ho,de c (h.Tl (by rw[ho];simp)),λhp=>.inl hp,rfl⟩
 ·by_cases e:c=b
  ·exact .inr (by omega)
  ·rw[Mem.aC _ _ e]at hc;exact .inl hc
theorem Good.aal{Z:Fz}{u:UW}{μ:Mem}(h:Good Z u μ){b:Nat}{w':World}{A:Array Value}{T:TypeId}(hB:tA u.toWorld w' b (.cells A T (0,0))):
  Good (Z.set b A.toList) (u.born b w') μ/\Ext Z μ u.heap.size (Z.set b A.toList) μ:=by
 have vY:u.heap.size<=b:=hB.ge
 have de:∀c,c<u.heap.size->(u.born b w').heap[c]?=u.heap[c]?:=λc hc=>hB.below.block c hc
 have hle:Z.le (Z.set b A.toList):=Fz.Mj λD hD=>by rw[h.Xr vY]at hD;cases hD
 refine⟨h.go hle (λc C hC=>?_) (λc o ho=>?_),⟨hle,λc C hC _=>?_,λc hc=>?_,λ_ h=>.inl h,λ_ h'=>h.HD h'⟩⟩
 ·by_cases e:c=b
  ·subst e
   rw[Fz.aq]at hC;cases hC
   exact .inr ⟨A,T,_,hB.at_,List.prefix_refl _⟩
  ·rw[Fz.aC _ _ e]at hC
   exact .inl ⟨hC,de c (h.HD (by rw[hC];simp))⟩
 ·have hl:=h.Tl (b:=c) (by rw[ho];simp)
  exact .inl ⟨ho,de c hl,λhp=>.inl hp,Fz.aC _ _ (by omega)⟩
 ·have hl:=h.HD (b:=c) (by rw[hC];simp)
  rw[Fz.aC _ _ (by omega)];exact hC
 ·by_cases e:c=b
  ·exact .inr (.inr (by omega))
  ·rw[Fz.aC _ _ e]at hc;exact .inl hc
theorem Good.af_{Z:Fz}{u:UW}{μ:Mem}(h:Good Z u μ){b:Nat}{w':World}{A:Array Value}{T:TypeId}(hB:tA u.toWorld w' b (.cells A T (0,0))){C:List Value}(hp:C <+: A.toList){m:Nat}(hm:m<=A.size):
  Good (Z.set b C) (u.born b w') (μ.set b (some (.pU C.length m)))/\Ext Z μ u.heap.size (Z.set b C) (μ.set b (some (.pU C.length m)))/\μ b=none:=by
 have vY:u.heap.size<=b:=hB.ge
 have de:∀c,c<u.heap.size->(u.born b w').heap[c]?=u.heap[c]?:=λc hc=>hB.below.block c hc
 have hle:Z.le (Z.set b C):=Fz.Mj λD hD=>by rw[h.Xr vY]at hD;cases hD
 refine⟨h.go hle (λc C' hC=>?_) (λc o ho=>?_),⟨hle,λc C' hC _=>?_,λc hc=>?_,λc hc=>?_,λ_ h'=>h.HD h'⟩,h.bJ vY⟩
 ·by_cases e:c=b
  ·subst e
   rw[Fz.aq]at hC;cases hC
   exact .inr ⟨A,T,_,hB.at_,hp⟩
  ·rw[Fz.aC _ _ e]at hC
   exact .inl ⟨hC,de c (h.HD (by rw[hC];simp))⟩
 ·by_cases e:c=b
  ·subst e
   rw[Mem.aq]at ho;cases ho
   exact .inr ⟨λ_=>.inr rfl,⟨C,Fz.aq _ _ _,rfl⟩,A,T,hB.at_,hm⟩
  ·rw[Mem.aC _ _ e]at ho
   exact .inl ⟨ho,de c (h.Tl (by rw[ho];simp)),λhp=>.inl hp,Fz.aC _ _ e⟩
 ·have hl:=h.HD (b:=c) (by rw[hC];simp)
  rw[Fz.aC _ _ (by omega)];exact hC
 ·by_cases e:c=b
  ·exact .inr (.inr (by omega))
  ·rw[Fz.aC _ _ e]at hc;exact .inl hc
 ·by_cases e:c=b
  ·exact .inr (by omega)
  ·rw[Mem.aC _ _ e]at hc;exact .inl hc
theorem dq.take{Z:Fz}{ps:List PV}{vs:List Value}(h:dq Z ps vs)(n:Nat):dq Z (ps.take n) (vs.take n):=
 ⟨by simp[h.1],λi p v a b=>by
  rw[List.getElem?_take]at a b
  split at a
  ·rename_i hi;rw[if_pos hi]at b;exact h.2 i p v a b
  ·cases a⟩
theorem dq.drop{Z:Fz}{ps:List PV}{vs:List Value}(h:dq Z ps vs)(n:Nat):dq Z (ps.drop n) (vs.drop n):=
 ⟨by simp[h.1],λi p v a b=>by rw[List.getElem?_drop]at a b;exact h.2 _ p v a b⟩
theorem dq.append{Z:Fz}{ps qs:List PV}{vs ws:List Value}(h:dq Z ps vs)(k:dq Z qs ws):dq Z (ps++qs) (vs++ws):=by
 induction ps generalizing vs with
 |nil=>rw[h.pj];exact k
 |cons p ps ih=>obtain⟨v,rC,rfl,h1,h2⟩:=h.inv;exact dq.cons h1 (ih h2)
theorem Wx{Z:Fz}{cs ps:List PV}{A:Array Value}{vs:List Value}{o:Nat}(h:dq Z cs A.toList)(k:dq Z ps vs)(hl:o+ps.length<=cs.length):dq Z (dN cs o ps) (xp A o vs).toList:=by
 have hA:A.size=cs.length:=by have:=h.1;simpa using this
 rw[se _ _ _ (by rw[k.1,hA];exact hl)]
 unfold dN
 rw[k.1]
 exact((h.take _).append k).append (h.drop _)
theorem Good.store{Z:Fz}{u:UW}{μ:Mem}(h:Good Z u μ){b o:Nat}{T:TypeId}{cs ps:List PV}{vs:List Value}(hm:μ b=some (.cells T cs))(hl:o+ps.length<=cs.length)(hv:dq Z ps vs){K:UW->Prop}
  (hK:∀w',Sto u.toWorld w' b (.cells (xp ((u.heap[b]?.bind λo=>match o with| .cells A _ _=>some A|_=>none).getD #[]) o vs) T (0,0))->Good Z (u.LA w') (μ.set b (some (.cells T (dN cs o ps))))->Ext Z μ u.heap.size Z (μ.set b (some (.cells T (dN cs o ps))))->K (u.LA w')):wx b o vs u K:=by
 obtain⟨hp,hz,A,hA,hc⟩:=h.mem b _ hm
 have hp:=hp rfl
 have Ye:A.size=cs.length:=by have:=hc.1;simpa using this
 refine⟨A,T,hA,by rw[hv.1,Ye];exact hl,hp,λw' hs=>?_⟩
 have AZ:(u.heap[b]?.bind λo=>match o with| .cells A _ _=>some A|_=>none).getD #[]=A:=by rw[hA];rfl
 refine hK w' (by rw[AZ];exact hs) (h.go (Fz.le.refl Z) (λc C hC=>?_) (λc ob ho=>?_)) ⟨Fz.le.refl Z,λ_ _ h _=>h,λ_ h=>.inl h,λc hc=>?_,λ_ h'=>h.HD h'⟩
 ·have hl:=h.HD (b:=c) (by rw[hC];simp)
  have aT:c≠b:=by rintro rfl;rw[hz]at hC;cases hC
  exact .inl ⟨hC,hs.ne c aT hl⟩
 ·by_cases e:c=b
  ·subst e
   rw[Mem.aq]at ho;cases ho
   exact .inr ⟨λ_=>hp,hz,_,hs.at_,Wx hc hv hl⟩
  ·rw[Mem.aC _ _ e]at ho
   have hl:=h.Tl (b:=c) (by rw[ho];simp)
   exact .inl ⟨ho,hs.ne c e hl,λhp=>hp,rfl⟩
 ·by_cases e:c=b
  ·subst e;exact .inl (by rw[hm];simp)
  ·rw[Mem.aC _ _ e]at hc;exact .inl hc
theorem Good.grow{Z:Fz}{u:UW}{μ:Mem}(h:Good Z u μ){b n m:Nat}{new:List Value}(hm:μ b=some (.pU n m))(hl:n+new.length<=m){K:UW->Prop}
  (hK:∀w' C,Z b=some C->C.length=n->Good (Z.set b (C++new)) (u.LA w') (μ.set b (some (.pU (n+new.length) m)))->Ext Z μ u.heap.size (Z.set b (C++new)) (μ.set b (some (.pU (n+new.length) m)))->u.heap.size<=w'.heap.size->Wf (u.LA w')->K (u.LA w')) (hw:Wf u):wx b n new u K:=by
 obtain⟨hp,⟨C,hz,hC⟩,A,T,hA,hmA⟩:=h.mem b _ hm
 have hp:=hp rfl
 obtain⟨A',T',f',AZ,cZ⟩:=h.IP b C hz
 rw[hA]at AZ
 simp only[Option.some.injEq,Obj.cells.injEq]at AZ
 obtain⟨rfl,rfl,rfl⟩:=AZ
 refine⟨A,T,hA,by omega,hp,λw' hs=>?_⟩
 have RG:(xp A n new).toList=A.toList.take n++new++A.toList.drop (n+new.length):=se _ _ _ (by omega)
 have iB:A.toList.take n=C:=by
  obtain⟨t,ht⟩:=cZ
  rw[<- ht,<- hC,List.take_left]
 have hle:Z.le (Z.set b (C++new)):=Fz.Mj λD hD=>by rw[hz]at hD;cases hD;exact List.prefix_append _ _
 refine hK w' C hz hC (h.go hle (λc C' BY=>?_) (λc ob ho=>?_)) ⟨hle,λc C' BY hn=>?_,λc hc=>?_,λc hc=>?_,λ_ h'=>h.HD h'⟩ hs.size (hw.LA hs)
 ·by_cases e:c=b
  ·subst e
   rw[Fz.aq]at BY;cases BY
   refine .inr ⟨_,_,_,hs.at_,?_⟩
   rw[RG,iB]
   exact List.prefix_append _ _
  ·rw[Fz.aC _ _ e]at BY
   exact .inl ⟨BY,hs.ne c e (h.HD (by rw[BY];simp))⟩
 ·by_cases e:c=b
  ·subst e
   rw[Mem.aq]at ho;cases ho
   exact .inr ⟨λ_=>hp,⟨_,Fz.aq _ _ _,by simp[hC]⟩,_,_,hs.at_,by rw[xw];exact hmA⟩
  ·rw[Mem.aC _ _ e]at ho
   exact .inl ⟨ho,hs.ne c e (h.Tl (by rw[ho];simp)),λhp=>hp,Fz.aC _ _ e⟩
 ·have aT:c≠b:=by rintro rfl;rw[hm]at hn;cases hn
  rw[Fz.aC _ _ aT];exact BY
 ·by_cases e:c=b
  ·subst e;exact .inr (.inl (by rw[hm];simp))
  ·rw[Fz.aC _ _ e]at hc;exact .inl hc
 ·by_cases e:c=b
  ·subst e;exact .inl (by rw[hm];simp)
  ·rw[Mem.aC _ _ e]at hc;exact .inl hc
theorem HZ{α:Type}{sz:Nat}(h0:0<sz):∀{rows:List (List α)},(∀r∈rows,r.length=sz)->∀k:Nat,rows.flatten[k]?=(rows[k/sz]?).bind λr=>r[k % sz]?
 |[],_,k=>by simp
 |r::rows,h,k=>by
  have hr:r.length=sz:=h r (by simp)
  rw[List.flatten_cons]
  by_cases hk:k<sz
  ·rw[List.getElem?_append_left (by omega),Nat.div_eq_of_lt hk,Nat.mod_eq_of_lt hk];simp
  ·rw[List.getElem?_append_right (by omega),HZ h0 (λr' EZ=>h r' (by simp[EZ])) (k-r.length),hr]
   have e1:k/sz=(k-sz)/sz+1:=by
    have:k=(k-sz)+sz:=by omega
    rw[this,Nat.add_div_right _ h0];simp
   have e2:k % sz=(k-sz) % sz:=by
    have:k=(k-sz)+sz:=by omega
    rw[this,Nat.add_mod_right];simp
   rw[e1,e2,List.getElem?_cons_succ]
theorem gj{α:Type}{sz:Nat}:∀{rows:List (List α)},(∀r∈rows,r.length=sz)->rows.flatten.length=rows.length*sz
 |[],_=>by simp
 |r::rows,h=>by
  rw[List.flatten_cons,List.length_append,gj λr' EZ=>h r' (by simp[EZ]),h r (by simp),List.length_cons,Nat.add_mul,Nat.one_mul,Nat.add_comm]
theorem su{Z:Fz}{sz:Nat}{fl:Fl}{rows:Lq}{vs:List Value}{b o c:Nat}{C:List Value}(hr:∀r∈rows,r.length=sz)(hv:bF Z rows.flatten vs)(hz:Z b=some C)(hC:∀k,k<vs.length->C[o+k]?=vs[k]?)(hc:rows.length<=c)
  (hf:Wc fl (some ⟨b,o,none⟩) rows.length c):cy Z (.list sz fl rows) (.slice (some ⟨b,o,none⟩) rows.length c):=by
 have hlen:vs.length=rows.length*sz:=by rw[hv.1,gj hr]
 have idx:∀i j,i<rows.length->j<sz->i*sz+j<vs.length:=λi j hi hj=>by
  rw[hlen]
  calc i*sz+j<i*sz+sz:=by omega
   _=(i+1)*sz:=by rw[Nat.add_mul,Nat.one_mul]
   _<=rows.length*sz:=Nat.mul_le_mul_right _ (by omega)
 have flat:∀(i j:Nat) row p,rows[i]?=some row->row[j]?=some p->rows.flatten[i*sz+j]?=some p:=λi j row p hi hj=>by
  have Kl:j<sz:=by
   have:=(List.getElem?_eq_some_iff.1 hj).1
   rw[hr row (List.mem_of_getElem? hi)]at this;exact this
  have h0:0<sz:=by omega
  rw[HZ h0 hr]
  have e1:(i*sz+j)/sz=i:=by
   rw[Nat.mul_comm,Nat.mul_add_div h0,Nat.div_eq_of_lt Kl,Nat.add_zero]
  have e2:(i*sz+j) % sz=j:=by rw[Nat.mul_comm,Nat.mul_add_mod,Nat.mod_eq_of_lt Kl]
  rw[e1,e2,hi];exact hj
 have cells:∀(i j:Nat) row p,rows[i]?=some row->row[j]?=some p->∃v,vs[i*sz+j]?=some v/\p.cell=true/\cy Z p v:=λi j row p hi hj=>hv.get (flat i j row p hi hj)
 refine .list sz fl rows _ _ c b o C (λi j=>(vs[i*sz+j]?).getD undef) rfl hc (.inr λx h=>by cases h;rfl) hr (λ_=>⟨rfl,hz⟩) (λi j hi hj=>?_) (λi j row p hi hj=>?_) (λi j row p hi hj=>?_) hf
 ·have cz:=idx i j hi hj
  rw[Nat.add_assoc,hC _ cz,List.getElem?_eq_getElem cz];rfl
 ·obtain⟨v,_,h,_⟩:=cells i j row p hi hj;exact h
 ·obtain⟨v,h1,_,h2⟩:=cells i j row p hi hj
  simp only[h1];exact h2
theorem vM{Z:Fz}{u:UW}{μ:Mem}(hg:Good Z u μ){sz:Nat}{fl:Fl}{rows:Lq}{a:Option Addr}{n c:Nat}(h:cy Z (.list sz fl rows) (.slice a n c))(aT:rows≠[]->sz≠0):
  ∃vs,bF Z rows.flatten vs/\vs.length=n*sz/\(n=0->vs=[])/\(n≠0->∃b o C,a=some ⟨b,o,none⟩/\Z b=some C/\rd u.heap b o (n*sz)=some vs/\vs=(C.drop o).take (n*sz)):=by
 cases h with
 |list _ _ _ _ _ _ b o C g hn hc hs hr ha hgg hk hp hf=>
  by_cases h0:n=0
  ·have:rows=[]:=List.eq_nil_of_length_eq_zero (by omega)
   subst this
   exact⟨[],bF.nil Z,by simp[h0],λ_=>rfl,λh=>absurd h0 h⟩
  ·obtain⟨ea,ez⟩:=ha h0
   obtain⟨A,T,f,hA,cZ⟩:=hg.IP b C ez
   have Qy:sz≠0:=aT (by rintro rfl;simp at hn;omega)
   ·have h0':0<sz:=by omega
    have afb:=hgg (n-1) (sz-1) (by omega) (by omega)
    have hCl:o+n*sz<=C.length:=by
     have cz:=(List.getElem?_eq_some_iff.1 afb).1
     have e:(n-1)*sz+sz=n*sz:=by rw[<- Nat.succ_mul];congr 1;omega
     omega
    have Kc:((C.drop o).take (n*sz)).length=n*sz:=by simp;omega
    refine⟨(C.drop o).take (n*sz),⟨by rw[Kc,gj hr,hn],λk p v AQ hv=>?_⟩,Kc,λh=>absurd h h0,λ_=>⟨b,o,C,ea,ez,?_,rfl⟩⟩
    ·rw[HZ h0' hr]at AQ
     cases eT:rows[k/sz]? with
     |none=>rw[eT]at AQ;cases AQ
     |some row=>
      rw[eT]at AQ
      simp only[Option.bind_some]at AQ
      have hi:k/sz<n:=by rw[<- hn];exact(List.getElem?_eq_some_iff.1 eT).1
      have hj:k % sz<sz:=Nat.mod_lt _ h0'
      have ZK:=hgg (k/sz) (k % sz) hi hj
      have hkk:k/sz*sz+k % sz=k:=by rw[Nat.mul_comm];exact Nat.div_add_mod k sz
      rw[Nat.add_assoc,hkk]at ZK
      have bW:k<n*sz:=by
       have:=(List.getElem?_eq_some_iff.1 hv).1;rw[Kc]at this;exact this
      rw[List.getElem?_take,if_pos bW,List.getElem?_drop,ZK]at hv
      cases hv
      exact⟨hk _ _ _ _ eT AQ,hp _ _ _ _ eT AQ⟩
    ·obtain⟨t,ht⟩:=cZ
     rw[CK hA (by have:A.size=C.length+t.length:=by have:=congrArg List.length ht;simpa using this.symm
                  omega),<- ht]
     congr 1
     rw[List.drop_append_of_le_length (by omega),List.take_append_of_le_length (by simp;omega)]
def xo(q:Bool)(Z:Fz)(μ:Mem)(u:UW)(KP:eI->Mem->Prop)(K:St->UW->Prop):Prop:=
 ∀(Z':Fz) (p':eI) (μ':Mem) (s':St) (u':UW),dW Z' p' s'->Good Z' u' μ'->Wf u'->Ext Z μ u.heap.size Z' μ'->u.heap.size<=u'.heap.size->(q=true->Below u.heap.size u.toWorld u'.toWorld)->KP p' μ'->K s' u'
theorem lP{Z:Fz}{ps:List PV}{vs:List Value}(h:bF Z ps vs):fT vs=true:=by
 refine List.all_eq_true.2 λv hv=>?_
 obtain⟨h1,h2⟩:=h.zt v hv
 simp[h1,h2]
theorem xP{Z:Fz}{u:UW}{μ:Mem}(hg:Good Z u μ){b o n:Nat}{ps:List PV}(h:aB μ b o n=some ps):∃vs,rd u.heap b o n=some vs/\dq Z ps vs:=by
 unfold aB at h
 split at h
 ·rename_i T cs hm
  obtain⟨_,_,A,hA,hc⟩:=hg.mem b _ hm
  have Ye:A.size=cs.length:=by have:=hc.1;simpa using this
  split at h
  ·rename_i hl
   cases h
   exact⟨_,CK hA (by omega),(hc.drop o).take n⟩
  ·cases h
 ·rename_i T cs hm
  obtain⟨_,_,A,hA,hc⟩:=hg.mem b _ hm
  have Ye:A.size=cs.length:=by have:=hc.1;simpa using this
  split at h
  ·rename_i hl
   cases h
   exact⟨_,CK hA (by omega),(hc.drop o).take n⟩
  ·cases h
 ·cases h
theorem vL{E:mh}{q:Bool}{fz:List Nat}{o:Oper}{p:eI}{s:St}{μ:Mem}{u:UW}{KP:eI->Mem->Prop}{K:St->UW->Prop}{Z Zr:Fz}(hr:dW Z p s)(hg:Good Zr u μ)(hz:Zr.le Z)(hf:HX p o=false\/Good Z u μ)
  (hl:qW o=true) (hK:∀p' s',dW Z p' s'->KP p' μ->K s' u) (h:V1 E q fz o p μ KP):W1 E.er fz o s u K:=by
 unfold qW at hl
 unfold V1 at h
 unfold W1
 simp only at h |-
 cases OJ:o.op<;>simp only[OJ]at h hl |- <;>first|(cases hl;done)|skip
 rename_i t x
 cases hk:nO E.P (JE E o) t with
 |none=>rw[hk]at h;exact h.elim
 |some ks=>
  rw[hk]at h
  have bW:kinds E.er.P t=some (ks.map KV.er):=zA hk
  rw[bW]
  simp only at h |-
  rw[List.length_map]
  have hx:=hr.ev x
  split at h
  ·rename_i k off he
   rw[he]at hx;rw[hx.AL]
   simp only
   rw[<- hr.D]
   split at h
   ·rename_i m hm
    rw[hm]
    simp only
    obtain⟨hc,h⟩:=av h
    simp only[Bool.and_eq_true]at hc
    have f_:=(gy.zm (k:=k) hr.slot ks.length off).c hc.2
    rw[hc.1,lP f_]
    simp only[Bool.and_self,cond_true]
    exact hK _ _ (hr.fin o (C_ f_)) h
   ·exact h.elim
  ·rename_i row off he
   have hg':Good Z u μ:=by
    rcases hf with hf|hf
    ·unfold HX at hf;simp only[OJ,he]at hf;cases hf
    ·exact hf
   rw[he]at hx
   obtain⟨b,of,C,g,hv,hzb,hgg,hkk,hp⟩:=hx.MC
   rw[hv]
   show eY (.pointer (some ⟨b,of+off,none⟩)) _
   unfold eY
   simp only
   obtain⟨ps,hlen,hc,⟨eT,h⟩,hex⟩:=qn (Z:=Z) h
   unfold ay at eT
   split at eT
   ·rename_i hb
    simp only[Option.some.injEq]at eT
    obtain⟨A,T,f,hA,cZ⟩:=hg'.IP b C hzb
    have hCl:of+row.length<=C.length:=by
     have:=hgg (row.length-1) (by omega)
     have:=(List.getElem?_eq_some_iff.1 this).1
     omega
    obtain⟨tl,ht⟩:=cZ
    have hAl:A.size=C.length+tl.length:=by have:=congrArg List.length ht;simpa using this.symm
    have fB:=CK (H:=u.heap) (o:=of+off) (n:=ks.length) hA (by omega)
    have f_:bF Z ps ((A.toList.drop (of+off)).take ks.length):=by
     rw[<- eT,<- ht]
     refine⟨by simp;omega,λi pp v OI hvv=>?_⟩
     rw[List.getElem?_take]at OI hvv
     split at OI
     ·rename_i hi
      rw[if_pos hi,List.getElem?_drop,List.getElem?_append_left (by omega)]at hvv
      rw[List.getElem?_drop]at OI
      have:=hgg (off+i) (by omega)
      rw[Nat.add_assoc]at hvv
      rw[this]at hvv
      cases hvv
      exact⟨hkk _ _ OI,hp _ _ OI⟩
     ·cases OI
    exact hex (G:=λvs=>rd u.heap b (of+off) ks.length=some vs/\K (fin o s (Hz (d_ E.er.P t) vs)) u) f_.m ⟨fB,hK _ _ (hr.fin o (C_ f_)) h⟩
   ·cases eT
  ·unfold aF at h
   split at h
   ·rename_i b off he
    rw[he]at hx
    rw[hx.ofRaw.1]
    show eY (.pointer (some ⟨b,off,none⟩)) _
    unfold eY
    simp only
    obtain⟨ps,hlen,hc,⟨fB,h⟩,hex⟩:=qn (Z:=Z) h
    obtain⟨vs,hv,hm⟩:=xP hg fB
    have f_:=(hm.mono hz).c hc
    exact hex (G:=λvs=>rd u.heap b off ks.length=some vs/\K (fin o s (Hz (d_ E.er.P t) vs)) u) f_.m ⟨hv,hK _ _ (hr.fin o (C_ f_)) h⟩
   ·exact h.elim
section
variable {E:mh} {q:Bool} {fz:List Nat} {o:Oper} {p:eI} {s:St} {μ:Mem} {u:UW} {KP:eI->Mem->Prop} {K:St->UW->Prop} {Z:Fz}
theorem CZ(hr:dW Z p s)(hg:Good Z u μ)(hw:Wf u)(hK:xo q Z μ u KP K){t:TypeId}{cs:List PV}{A:Array Value}(hA:bF Z cs A.toList)(h:Qg E q fz o p μ t cs KP):
  (match o.dst with
   |none=>False
   |some k=>bif dw E.er.gp k then
     (bif !qh s.D k&& !dw fz k&&fT A.toList&&Nat.ble A.size 65536 then
      K {s with σ:=tB (kB s.σ k (e_ k 0)) k 0 A.toList,D:=(k,A.size)::s.D} u else False)
    else ∀(b:Nat) (w':World),tA u.toWorld w' b (.cells A t (0,0))->K (fin o s (.pointer (some ⟨b,0,none⟩))) (u.born b w')):=by
 unfold Qg at h
 have Ye:A.size=cs.length:=by have:=hA.1;simpa using this
 cases hd:o.dst with
 |none=>rw[hd]at h;exact h.elim
 |some k=>
  rw[hd]at h
  simp only at h |-
  cases ng:dw E.gp k with
  |true=>
   have abh:dw E.er.gp k=true:=ng
   rw[ng]at h;rw[abh]
   simp only[cond_true]at h |-
   obtain⟨hc,h⟩:=av h
   simp only[Bool.and_eq_true]at hc
   obtain⟨hq,⟨⟨h1,h2⟩,h3⟩,h4⟩:=hc
   have rI:(!qh s.D k&& !dw fz k&&fT A.toList&&Nat.ble A.size 65536)=true:=by
    rw[<- hr.D,h1,h2,lP hA,Ye,h4];rfl
   rw[rI]
   simp only[cond_true]
   refine hK Z {p with σ:=GS (aQ p.σ k (.box k 0)) k 0 cs,D:=(k,cs.length)::p.D} μ _ u ⟨?_,gy.tB (gy.kB hr.slot (.box k 0)) hA.m⟩ hg hw hg.ext (Nat.le_refl _) (λ_=>Below.refl _ _) h
   simp[hr.D,Ye]
  |false=>
   have abh:dw E.er.gp k=false:=ng
   rw[ng]at h;rw[abh]
   simp only[cond_false]at h |-
   intro b w' hB
   cases afq:dw E.cst k with
   |true=>
    rw[afq]at h
    simp only[cond_true]at h
    obtain⟨_,h⟩:=av h
    obtain⟨g1,g2⟩:=hg.aal hB
    refine hK _ _ μ _ _ ((hr.mono g2.le).fin o ?_) g1 (hw.born hB) g2 hB.below.size (λ_=>hB.below) h
    have AZ:=(hA.mono g2.le).wk
    have hl:(cs.map cH).length=A.toList.length:=by simp[Ye]
    have:=cy.bn (Z:=Z.set b A.toList) (cs.map cH) 0 b 0 A.toList (λj=>(A.toList[j]?).getD undef) (Fz.aq _ _ _) (λj hj=>by
     rw[Nat.zero_add,List.getElem?_eq_getElem (by omega)];rfl) (λj pp hj=>(AZ.get hj).choose_spec.2.1) (λj pp hj=>by
     obtain⟨v,h1,h2,h3⟩:=AZ.get hj
     simp only[h1];exact h3)
    exact this
   |false=>
    rw[afq]at h
    simp only[cond_false]at h
    obtain⟨g1,g2,g3⟩:=hg.born hB hA.m
    exact hK Z _ _ _ _ (hr.fin o (.raw _ rfl rfl)) g1 (hw.born hB) g2 hB.below.size (λ_=>hB.below) (h b g3)
theorem qy.Gf{P:Program}{f:FuncId}{args:Array Value}{u:UW}{K K':Value->UW->Prop}(h:qy P f args u K)
  (hk:∀v lo w',Mod u.ij u.toWorld w'->u.heap.size<=lo->K v (u.ret lo w')->K' v (u.ret lo w')):qy P f args u K':=by
 obtain⟨F,hF,h⟩:=h
 exact⟨F,hF,h.mono λv lo w' hm hl hK=>hk v lo w' ⟨hm.os,hm.tape,hm.output,hm.size,λb hb hn=>hm.de b hb λhf=>hn (hF b hf)⟩ hl hK⟩
theorem bY.v{P:Program}{f:PV}{args:List PV}{KP:Kq}{fv:Value}{vs:List Value}(hg:Good Z u μ)(hw:Wf u)(hf:cy Z f fv)(ha:bf Z args vs)(h:bY P f args μ KP):
  rN P fv vs u λv u'=>∃Z' μ' p,Ext Z μ u.heap.size Z' μ'/\Good Z' u' μ'/\cy Z' p v/\KP p μ':=by
 unfold bY at h
 split at h
 ·rename_i g first wv
  obtain⟨fv',rV,rfl,h1,h2⟩:=hf.ofFn
  obtain⟨hc,fu⟩:=h Z u (fv'++vs++rV) hg hw ((h1.append ha).append h2)
  show(bif eG P g then qy P g (fv'.toArray.toList++vs++rV.toArray.toList).toArray u _ else False)
  rw[hc]
  exact fu
 ·exact h Z u fv vs hg hw hf ha
def Pv(q:Bool)(Z:Fz)(μ:Mem)(u:UW)(KP:Kq)(K:Value->UW->Prop):Prop:=
 ∀(Z':Fz) (μ':Mem) (p:PV) (v:Value) (u':UW),Ext Z μ u.heap.size Z' μ'->Good Z' u' μ'->Wf u'->u.heap.size<=u'.heap.size->(q=true->Below u.heap.size u.toWorld u'.toWorld)->cy Z' p v->KP p μ'->K v u'
theorem dz.f{P:Program}{g:FuncId}{args:List PV}{KP:Kq}{vs:List Value}{K:Value->UW->Prop}(hg:Good Z u μ)(hw:Wf u)(ha:bf Z args vs)(h:dz P g args μ λp μ'=>KP p (μ.or μ'))(hK:Pv true Z μ u KP K):
  eG P g=true/\qy P g vs.toArray u K:=by
 obtain⟨hc,F,hF,fu⟩:=h Z u vs hg hw ha
 refine⟨hc,F,λb hb=>(hF b hb).elim,fu.mono λv lo w' hm hl hp=>?_⟩
 obtain⟨Z',μ',p,e,g',hr,hk⟩:=hp
 have hB:Below u.heap.size u.toWorld w':=⟨hm.os,hm.tape,hm.output,hm.size,λb hb=>hm.de b hb λhf=>hF b hf⟩
 have hZ:∀b,b<u.heap.size->Z' b=Z b:=λb hb=>by
  cases hz:Z b with
  |some C=>exact e.zs b C hz rfl
  |none=>
   cases Qv:Z' b with
   |none=>rfl
   |some C=>
    rcases e.zn b (by rw[Qv];simp)with h1|h1|h1
    ·exact absurd hz h1
    ·exact absurd rfl h1
    ·omega
 refine hK Z' (μ.or μ') p v (u.ret lo w') ⟨e.le,λb C h1 _=>e.zs b C h1 rfl,λb h1=>?_,λb h1=>?_,e.lt⟩ ⟨g'.IP,λb ob hb=>?_⟩ (hw.ret hm.size) hm.size (λ_=>hB) hr hk
 ·rcases e.zn b h1 with h2|h2|h2
  ·exact .inl h2
  ·exact absurd rfl h2
  ·exact .inr (.inr h2)
 ·unfold Mem.or at h1
  cases uY:μ b with
  |some x=>exact .inl (by simp)
  |none=>
   rw[uY]at h1
   rcases e.mn b h1 with h2|h2
   ·exact absurd rfl h2
   ·exact .inr h2
 ·unfold Mem.or at hb
  cases uY:μ b with
  |some x=>
   rw[uY]at hb
   simp only[Option.some.injEq]at hb
   subst hb
   obtain⟨p1,p2⟩:=hg.mem b x uY
   exact⟨λhr=>.inl (p1 hr),p2.go e.le (hZ b p2.lt) (hB.block b p2.lt)⟩
  |none=>
   rw[uY]at hb
   obtain⟨p1,p2⟩:=g'.mem b ob hb
   exact⟨λhr=>(p1 hr).elim False.elim .inr,p2⟩
theorem EA.v{P:Program}{f:PV}{args:List PV}{KP:Kq}{fv:Value}{vs:List Value}{K:Value->UW->Prop}(hg:Good Z u μ)(hw:Wf u)(hf:cy Z f fv)(ha:bf Z args vs)(h:EA P q f args μ KP)(hK:Pv q Z μ u KP K):rN P fv vs u K:=by
 unfold EA at h
 cases q with
 |false=>
  simp only[cond_false]at h
  refine(bY.v hg hw hf ha h).mono λv lo w' hm hl hp=>?_
  obtain⟨Z',μ',p,e,g',hr,hk⟩:=hp
  exact hK Z' μ' p v _ e g' (hw.ret hm.size) hm.size (λh=>by cases h) hr hk
 |true=>
  simp only[cond_true]at h
  split at h
  ·rename_i g first wv
   obtain⟨fv',rV,rfl,h1,h2⟩:=hf.ofFn
   obtain⟨hc,fu⟩:=dz.f hg hw ((h1.append ha).append h2) h hK
   show(bif eG P g then qy P g (fv'.toArray.toList++vs++rV.toArray.toList).toArray u K else False)
   rw[hc]
   exact fu
  ·exact h.elim
end
end Go.aK
