import Derived.Test.YthaeiehophlooaaGreatB03
open Bool (and_eq_true)
open List (all_cons all_eq_true getElem?_drop getElem?_map getElem?_take length_map mem_iff_getElem? mem_of_getElem? replicate)
open Nat (add_assoc add_mul beq ble blt le_refl mul_comm)
open Option (map_some)
set_option linter.all false
namespace Go.aO
open Go.RowKit
inductive KV where
 |raw (k:K1)
 |list (sz:Nat)
 |fn
 deriving DecidableEq,Inhabited
@[reducible] def KV.T:KV->Type
 | .raw k=>k.T
 | .list _=>Fl×Lq
 | .fn=>Fn×List PV×List PV
def KV.p:(k:KV)->k.T->PV
 | .raw k,x=>.raw (k.v x)
 | .list sz,x=>.list sz x.1 x.2
 | .fn,x=>.fn x.1 x.2.1 x.2.2
def JZ:Fl->Lq->Option (Fl×Lq)
 | .nil,[]=>some (.nil,[])
 |_,_=>none
def KV.get:(k:KV)->PV->Option k.T
 | .raw k,.raw v=>k.get v
 | .raw .slice,.list _ .nil _=>some (none,0,0)
 | .list sz,.list Us fl rows=>bif beq sz Us then some (fl,rows)else JZ fl rows
 | .fn,.fn f a b=>some (f,a,b)
 |_,_=>none
def KV.er:KV->K1
 | .raw k=>k
 | .list _=>.slice
 | .fn=>.fn
def aae:KV->(PV->Prop)->Prop
 | .raw k,F=>exK k λv=>F (.raw v)
 | .list sz,F=>∃(fl:Fl) (rows:Lq),F (.list sz fl rows)
 | .fn,F=>∃(f:Fn) (a b:List PV),F (.fn f a b)
def OO:List KV->(List PV->Prop)->Prop
 |[],F=>F []
 |k::ks,F=>aae k λv=>OO ks λvs=>F (v::vs)
inductive Uf where
 |one (k:KV)
 |agg (ks:List KV)
 |box (ks:List KV)
 deriving DecidableEq,Inhabited
def Uf.er:Uf->Kd
 | .one k=>.one k.er
 | .agg ks=>.agg (ks.map KV.er)
 | .box ks=>.box (ks.map KV.er)
@[reducible] def TLP:List KV->Type
 |[]=>Unit
 |[k]=>k.T
 |k::k'::ks=>k.T×TLP (k'::ks)
def Ge:(ks:List KV)->TLP ks->List PV
 |[],_=>[]
 |[k],x=>[k.p x]
 |k::k'::ks,x=>k.p x.1::Ge (k'::ks) x.2
def oS:(ks:List KV)->List PV->Option (TLP ks)
 |[],[]=>some ()
 |[k],[v]=>k.get v
 |k::k'::ks,v::vs=>match k.get v,oS (k'::ks) vs with
  |some x,some y=>some (x,y)
  |_,_=>none
 |_,_=>none
@[reducible] def Uf.T:Uf->Type
 | .one k=>k.T
 | .agg ks=>TLP ks
 | .box ks=>TLP ks
abbrev sO:=List (Nat×Uf)
def sO.er(l:sO):Live:=l.map λx=>(x.1,x.2.er)
@[reducible] def zf:sO->Type
 |[]=>Unit
 |[x]=>x.2.T
 |x::y::l=>x.2.T×zf (y::l)
abbrev uy:=Nat->PV
structure dC where
 σ:uy
 D:List (Nat×Nat)
def aF(σ:uy)(t:Nat)(v:PV):uy:=λi=>bif beq i t then v else σ i
def JR(σ:uy)(d:Option Nat)(v:PV):uy:=match d with|some t=>aF σ t v|none=>σ
def Et(σ:uy)(k:Nat):Nat->List PV->uy
 |_,[]=>σ
 |j,v::vs=>Et (aF σ (gx k j) v) k (j+1) vs
def EN(σ:uy)(k:Nat):Nat->Nat->List PV
 |_,0=>[]
 |j,m+1=>σ (gx k j)::EN σ k (j+1) m
def Bo(st:dC):(x:Nat×Uf)->Option x.2.T
 |(t,.one k)=>k.get (st.σ t)
 |(t,.agg ks)=>match st.σ t with
  | .agg a=>oS ks a
  |_=>none
 |(t,.box ks)=>match st.σ t with
  | .box k o=>bif (beq k t&&beq o 0)&&ir st.D t ks.length then oS ks (EN st.σ t 0 ks.length)else none
  |_=>none
def qL(st:dC):(l:sO)->Option (zf l)
 |[]=>some ()
 |[x]=>Bo st x
 |x::y::l=>match Bo st x,qL st (y::l)with
  |some a,some b=>some (a,b)
  |_,_=>none
def JM(st:dC):(x:Nat×Uf)->x.2.T->dC
 |(t,.one k),v=>{st with σ:=aF st.σ t (k.p v)}
 |(t,.agg ks),v=>{st with σ:=aF st.σ t (.agg (Ge ks v))}
 |(t,.box ks),v=>{st with σ:=Et (aF st.σ t (.box t 0)) t 0 (Ge ks v),D:=bif ir st.D t ks.length then st.D else(t,ks.length)::st.D}
def Ao(st:dC):(l:sO)->zf l->dC
 |[],_=>st
 |[x],v=>JM st x v
 |x::y::l,v=>Ao (JM st x v.1) (y::l) v.2
structure uz where
 live:sO
 fJ:List (Nat×Nat)
def uz.er(c:uz):Cut:=⟨c.live.er,c.fJ⟩
def zC(σ:uy):List (Nat×Nat)->uy
 |[]=>σ
 |(k,m)::l=>zC (Et (aF σ k (.box k 0)) k 0 (replicate m .aV)) l
def Ry(v:PV)(k:Nat):Bool:=
 match v with
 | .box k' o=>beq k' k&&beq o 0
 |_=>false
def ql(st:dC):List (Nat×Nat)->Bool
 |[]=>true
 |(k,m)::l=>ir st.D k m&&Ry (st.σ k) k&&ql st l
def LW(σ:uy)(ws:List Nat):uy:=λt=>bif blt t 65536&&cK ws t then .aV else σ t
def YW(st:dC)(ws:List Nat)(c:uz)(x:zf c.live):dC:=
 Ao {st with σ:=zC (LW st.σ ws) c.fJ} c.live x
def mQ(P:Program)(r:Bool):Nat->TypeId->Option (List KV)
 |0,_=>none
 |f+1,t=>match P.underlying t with
  |some (.int k)=>some [.raw (.int k)]
  |some .bool=>some [.raw .bool]
  |some .string=>some [.raw .str]
  |some (.slice e)=>some [bif r then .raw .slice else .list (P.cellsOf e)]
  |some (.pointer _)=>some [.raw .ptr]
  |some (.func ..)=>some [.fn]
  |some (.map ..)=>some [.raw .map]
  |some (.struct fs)=>fs.toList.foldr (λx acc=>match mQ P r f x.type,acc with|some a,some b=>some (a++b)|_,_=>none) (some [])
  |some (.array n e)=>match mQ P r f e with
   |some ks=>some ((replicate n ks).flatten)
   |none=>none
  |_=>none
def lP(P:Program)(r:Bool)(t:TypeId):Option (List KV):=
 match mQ P r 8 t with
 |some ks=>bif beq ks.length (P.cellsOf t)then(bif dq P t||beq ks.length 1 then some ks else none)else none
 |none=>none
def TW:Bool->List PV->PV
 |true,vs=>.agg vs
 |false,[v]=>v
 |_,_=>.aV
def SA(P:Program)(r:Bool)(t:TypeId)(F:PV->Prop):Prop:=
 match lP P r t with
 |some ks=>OO ks λvs=>F (TW (dq P t) vs)
 |none=>False
def MJ(P:Program)(r:Bool):List TypeId->(List PV->Prop)->Prop
 |[],F=>F []
 |t::ts,F=>SA P r t λv=>MJ P r ts λvs=>F (v::vs)
def ON(P:Program)(r:Bool)(t:TypeId)(F:PV->Prop):Prop:=
 match P.underlying t with
 |some (.tuple ts)=>MJ P r ts.toList λvs=>F (.aA vs)
 |_=>SA P r t F
def Cx:Value->PV
 | .slice none 0 0=>.list 0 .nil []
 | .slice .. | .agg _| .tuple _| .complex .. | .iface .. =>.aV
 | .func f a b=>bif beq a.size 0&&beq b.size 0 then .fn f [] []else .aV
 |v=>.raw v
def aQ(ps:List PV):Bool:=ps.all PV.cell
def IM(ps:List PV):Bool:=ps.all PV.ok
def ofV:Value->PV
 | .agg a=>bif aQ (a.toList.map Cx)then .agg (a.toList.map Cx)else .aV
 | .tuple a=>bif IM (a.toList.map Cx)then .aA (a.toList.map Cx)else .aV
 |v=>Cx v
def YO(sz:Nat):PV->PV
 | .list 0 fl []=>.list sz fl []
 |p=>p
def AI:List KV->List PV->List PV
 | .list sz::ks,p::ps=>YO sz p::AI ks ps
 |_::ks,p::ps=>p::AI ks ps
 |_,ps=>ps
def gm(P:Program)(t:TypeId)(p:PV):PV:=
 match lP P false t with
 |some ks=>match p with
  | .agg cs=>.agg (AI ks cs)
  | .list 0 fl []=>match ks with
    |[.list sz]=>.list sz fl []
    |_=>p
  |p=>p
 |none=>p
def sJ(σ:uy):Operand->PV
 | .tmp t=>σ t
 | .const v=>ofV v
 | .global g=>pP g 0
 | .func f=>.fn (.func f) [] []
def bV:PV->PV
 | .list sz _ rows=>.list sz .sh rows
 |p=>p
def yX:PV->PV
 | .agg cs=>.agg (cs.map bV)
 |p=>p
def wk:PV->PV
 | .agg cs=>.agg (cs.map bV)
 | .aA vs=>.aA (vs.map λp=>yX (bV p))
 |p=>bV p
def Pe(P:Program)(t:TypeId)(p:PV):PV:=yX (gm P t p)
def sK(P:Program):List TypeId->List PV->List PV
 |t::ts,p::ps=>Pe P t p::sK P ts ps
 |_,ps=>ps
def ay(μ:Mem)(b o n:Nat):Option (List PV):=
 match μ b with
 |some (.cells _ cs)=>if o+n<=cs.length then some ((cs.drop o).take n)else none
 |some (.ro _ cs)=>if o+n<=cs.length then some ((cs.drop o).take n)else none
 |_=>none
def aE(row:List PV)(o n:Nat):Option (List PV):=if o+n<=row.length/\0<n then some ((row.drop o).take n)else none
def dy(cs:List PV)(o:Nat)(vs:List PV):List PV:=cs.take o++vs++cs.drop (o+vs.length)
def stM(b o:Nat)(vs:List PV)(μ:Mem)(K:Mem->Prop):Prop:=
 ∃(T:TypeId) (cs:List PV),μ b=some (.cells T cs)/\o+vs.length<=cs.length/\K (μ.set b (some (.cells T (dy cs o vs))))
def aU(v:PV)(F:Nat->Nat->Prop):Prop:=
 match v with
 | .raw (.pointer (some ⟨b,o,none⟩))=>F b o
 |_=>False
def aa(P:Program)(g:FuncId)(args:List PV)(μ:Mem)(K:Kq):Prop:=
 ∀(Z:Fz) (u:UW) (vs:List Value),Good Z u μ->(∀b,u.gj b->b<u.heap.size)->bp Z args vs->dg P g=true/\oc P g vs.toArray u λv u'=>∃Z' μ' p,Ext Z μ u.heap.size Z' μ'/\Good Z' u' μ'/\bS Z' p v/\K p μ'
def cV(P:Program)(g:FuncId)(args:List PV)(μ:Mem)(K:Kq):Prop:=
 ∀(Z:Fz) (u:UW) (vs:List Value),Good Z u μ->(∀b,u.gj b->b<u.heap.size)->bp Z args vs->dg P g=true/\oc P g vs.toArray ⟨u.toWorld,λ_=>False⟩ λv u'=>∃Z' μ' p,Ext Z M0 u.heap.size Z' μ'/\Good Z' u' μ'/\bS Z' p v/\K p μ'
def yi(P:Program)(f:PV)(args:List PV)(μ:Mem)(K:Kq):Prop:=
 ∀(Z:Fz) (u:UW) (fv:Value) (vs:List Value),Good Z u μ->(∀b,u.gj b->b<u.heap.size)->bS Z f fv->bp Z args vs->pz P fv vs u λv u'=>∃Z' μ' p,Ext Z μ u.heap.size Z' μ'/\Good Z' u' μ'/\bS Z' p v/\K p μ'
def bJ(P:Program)(f:PV)(args:List PV)(μ:Mem)(K:Kq):Prop:=
 match f with
 | .fn (.func g) first tW=>aa P g (first++args++tW) μ K
 |f=>yi P f args μ K
def Cb(P:Program)(q:Bool)(f:PV)(args:List PV)(μ:Mem)(K:Kq):Prop:=
 bif q then(match f with
  | .fn (.func g) first tW=>cV P g (first++args++tW) μ (λp μ'=>K p (μ.or μ'))
  |_=>False)else bJ P f args μ K
def bu(P:Program)(f:PV)(body:List PV->(Option Code->Mem->Prop)->Mem->Prop)(K:Option Code->Mem->Prop)(μ:Mem):Prop:=
 (∃g a b,f=.fn (.func g) a b)/\∀(l:Nat) (rec:Option Code->Ob),μ l=none->
  (∀(vs:List PV) (μ1:Mem) (R:Option Code->Mem->Prop),μ1 l=none->body vs R μ1->
   bJ P (.fn (.yield l) [] []) vs (μ1.set l (some (rec none))) λv μ2=>∃p μ3,v=pB p.isNone/\μ3 l=none/\μ2=μ3.set l (some (rec p))/\R p μ3)->
  bJ P f [.fn (.yield l) [] []] (μ.set l (some (rec none))) λ_ μ2=>∃p μ3,μ3 l=none/\μ2=μ3.set l (some (rec p))/\K p μ3
structure kD where
 P:Program
 n:Nat
 fj:List Nat
 loops:List (Nat×uz)
 jl:List (Nat×uz)
 rR:List (Nat×List TypeId)
 cst:List Nat
 wrt:List Nat
 kW:List Nat
def kD.er(E:kD):Env:=⟨E.P,E.n,E.fj,E.loops.map λx=>(x.1,x.2.er),E.jl.map λx=>(x.1,x.2.er),E.rR⟩
def cM(o:Oper)(st:dC)(v:PV):dC:={st with σ:=JR st.σ o.dst v}
def IG(P:Program)(fs:Array Field):List (Nat×PV)->List PV->Option (List PV)
 |[],cs=>some cs
 |(i,v)::ps,cs=>match fs[i]? with
  |some f=>bif beq v.cells.length (P.cellsOf f.type)&&ble (f.offset+v.cells.length) cs.length&&(P.info? f.type).isSome then
    IG P fs ps (cs.take f.offset++v.cells++cs.drop (f.offset+v.cells.length))else none
  |none=>none
def nu(P:Program)(t:TypeId)(z:Value):PV:=gm P t (ofV z)
def BH(size:Nat):Nat->List (Nat×PV)->Option (Lq)
 |_,[]=>some []
 |i,(j,v)::ps=>bif beq i j&&beq v.cells.length size then(match BH size (i+1) ps with|some l=>some (v.cells.map bV::l)|none=>none)else none
def aaK(P:Program)(t:TypeId)(ps:List (Nat×PV)):Option (List PV):=
 match(P.info? t).bind (·.zero),P.underlying t with
 |some z,some (.struct fs)=>bif (nu P t z).ok&&dq P t&&fs.toList.all λf=>(P.info? f.type).isSome then
   (match nu P t z with
   | .agg cs=>IG P fs (ps.map λp=>(p.1,match fs[p.1]? with|some f=>gm P f.type p.2|none=>p.2)) cs
   |_=>none)else none
 |some z,some (.array len e)=>bif (P.info? e).isSome&&beq ps.length len&&beq z.cells.size (len*P.cellsOf e)then
   (match BH (P.cellsOf e) 0 (ps.map λp=>(p.1,gm P e p.2))with
   |some rows=>some rows.flatten
   |none=>none)else none
 |_,_=>none
def aaf(P:Program)(e:TypeId)(off:Nat)(cs:List PV):Option PV:=
 bif (P.underlying e).isSome&&ble (off+P.cellsOf e) cs.length then(bif dq P e then some (.agg ((cs.drop off).take (P.cellsOf e)))else cs[off]?)else none
def aab(P:Program)(t:TypeId)(f:Nat)(cs:List PV):Option PV:=
 match P.underlying t with
 |some (.struct fs)=>match fs[f]? with
  |some x=>bif (P.underlying x.type).isSome&&ble (x.offset+P.cellsOf x.type) cs.length then
    (bif dq P x.type then some (.agg ((cs.drop x.offset).take (P.cellsOf x.type)))else cs[x.offset]?)else none
  |none=>none
 |_=>none
def ig(ρ:Operand->PV)(x:Option Operand)(d:Int):Option Int:=
 match x with
 |none=>some d
 |some x=>match ρ x with
  | .raw (.int _ i)=>some i
  |_=>none
def qv(size sz:Nat)(rows:Lq):Bool:=bif beq sz size then true else(match rows with|[]=>true|_=>false)
def aaN(rows:Lq)(A B:Prop):Prop:=match rows with|[]=>A|_::_=>B
def WB(q:Bool)(size:Nat)(fl:Fl)(n m:Nat)(μ:Mem)(K:Fl->Mem->Prop):Prop:=
 match fl with
 | .nr=>∀b c,μ b=none->n+m<=c->K (.nz b c) (μ.set b (some (.nz ((n+m)*size) (c*size))))
 | .nil=>∀b c,μ b=none->n+m<=c->K (.nz b c) (μ.set b (some (.nz ((n+m)*size) (c*size))))
 | .nz b c=>bif q then False else μ b=some (.nz (n*size) (c*size))/\∀b' c',(b'=b\/μ b'=none)->n+m<=c'->
   K (.nz b' c') ((μ.set b none).set b' (some (.nz ((n+m)*size) (c'*size))))
 | .sh=>False
def aW(q:Bool)(size bytes:Nat)(fl:Fl)(rows new:Lq)(μ:Mem)(K:Fl->Mem->Prop):Prop:=
 (rows.length+new.length)*bytes<=140737488355328/\rows.length+new.length<4611686018427387904/\aaN new (K fl μ) (WB q size fl rows.length new.length μ K)
def Fa(size:Nat)(μ:Mem)(y:PV)(F:Nat->List PV->Prop):Prop:=
 match y with
 | .list sz _ rows=>bif qv size sz rows then F rows.length rows.flatten else False
 | .raw (.slice (some ⟨b,o,none⟩) m _)=>∃cs,ay μ b o (m*size)=some cs/\F m cs
 |_=>False
def gP(size bytes:Nat)(e:TypeId)(a:Option Addr)(n c:Nat)(y:PV)(μ:Mem)(K:Option Addr->Nat->Nat->Mem->Prop):Prop:=
 Fa size μ y λm new=>(n+m)*bytes<=140737488355328/\n+m<4611686018427387904/\n<=c/\((m=0/\(n≠0->∃b o Cw,a=some ⟨b,o,none⟩/\ay μ b o (n*size)=some Cw)/\K a n c μ)\/(m≠0/\aQ new=true/\
  (n+m<=c->∃b o T cs,a=some ⟨b,o,none⟩/\μ b=some (.cells T cs)/\o+c*size<=cs.length/\K a (n+m) c (μ.set b (some (.cells T (dy cs (o+n*size) new)))))/\
  (c<n+m->∃Cw,((n=0/\Cw=[])\/∃b o,a=some ⟨b,o,none⟩/\ay μ b o (n*size)=some Cw)/\∀b' c',μ b'=none->n+m<=c'->K (some ⟨b',0,none⟩) (n+m) c' (μ.set b' (some (.cells e (Cw++new++replicate ((c'-(n+m))*size) .aV)))))))
def Na(P:Program)(q:Bool)(e:TypeId)(x y:PV)(μ:Mem)(K:Kq):Prop:=
 match(P.info? e).map (λi=>(i.size,i.bytes,i.zero.map λz=>z.cells.toList.length))with
 |some (size,bytes,some zl)=>bif beq zl size&& !Nat.beq size 0 then(match x,y with
  | .list sz fl rows,.list Us _ new=>bif qv size sz rows&&qv size Us new then aW q size bytes fl rows new μ λkm μ'=>K (.list size km (rows++new)) μ' else False
  | .raw (.slice a n c),y=>bif q then False else gP size bytes e a n c y μ λa' n' c' μ'=>K (.raw (.slice a' n' c')) μ'
  |_,_=>False)else False
 |_=>False
def jK:List PV->Option (List Value)
 |[]=>some []
 | .raw v::ps=>match jK ps with|some vs=>some (v::vs)|none=>none
 |_=>none
def Tv(P:Program)(op:BinOp)(t:TypeId)(x y:PV)(K:PV->Prop):Prop:=
 match x,y with
 | .raw a,.raw b=>pM P op t a b λv=>K (.raw v)
 | .agg a,.agg b=>match jK a,jK b with
   |some a,some b=>pM P op t (.agg a.toArray) (.agg b.toArray) λv=>K (.raw v)
   |_,_=>False
 | .fn f _ _,.raw .nilFunc=>pM P op t (.func f #[] #[]) .nilFunc λv=>K (.raw v)
 |_,_=>False
def Be(ρ:Operand->PV):List Operand->Option (IntKind×List Int)
 |[]=>none
 |[x]=>match ρ x with| .raw (.int k i)=>some (k,[i])|_=>none
 |x::l=>match ρ x,Be ρ l with
  | .raw (.int k i),some (k',is)=>bif decide (k=k')then some (k,i::is)else none
  |_,_=>none
def zT(r:Bool)(p:PV):PV:=bif r then(match p with| .list _ .nil _=>.raw (.slice none 0 0)|p=>p)else p
def QD(kW:List Nat)(k:Nat):Nat->List PV->List PV
 |_,[]=>[]
 |i,c::cs=>zT (cK kW k||cK kW (2000000+1000*k+i)) c::QD kW k (i+1) cs
def NS(kW:List Nat)(k:Option Nat)(cs:List PV):List PV:=match k with|some k=>QD kW k 0 cs|none=>cs
def ab9(x:Operand):Option Nat:=match x with| .tmp a=>some a|_=>none
def Cv(E:kD)(o:Oper):Bool:=match o.dst with|some d=>cK E.kW d|none=>false
def ab4(E:kD)(o:Oper):Bool:=match o.dst with|some d=>cK E.wrt d|none=>false
def V1b(E:kD)(q:Bool)(o:Oper)(st:dC)(μ:Mem)(b:Builtin)(args:List Operand)(ts:List TypeId)(K:dC->Mem->Prop):Prop:=
 match b,args,ts with
 | .len,[x],[t]=>match E.P.underlying t,sJ st.σ x with
   |some (.slice _),.list _ _ rows=>K (cM o st (pI rows.length)) μ
   |some (.slice _),.raw (.slice _ n _)=>K (cM o st (pI n)) μ
   |some .string,.raw (.string s)=>K (cM o st (pI s.size)) μ
   |some (.array n _),v=>bif v.ok then K (cM o st (pI n)) μ else False
   |_,_=>False
 | .append,[x,y],[t,t']=>match E.P.underlying t,E.P.underlying t' with
   |some (.slice e),some (.slice _)=>Na E.P q e (zT (Cv E o) (sJ st.σ x)) (sJ st.σ y) μ λp μ'=>K (cM o st p) μ'
   |_,_=>False
 | .min,xs,_=>match Be (sJ st.σ) xs with
   |some (k,i::is)=>K (cM o st (.raw (.int k (is.foldl (λx y=>if y<x then y else x) i)))) μ
   |_=>False
 | .max,xs,_=>match Be (sJ st.σ) xs with
   |some (k,i::is)=>K (cM o st (.raw (.int k (is.foldl (λx y=>if y>x then y else x) i)))) μ
   |_=>False
 |_,_,_=>False
def Od(E:kD)(q:Bool)(fz:List Nat)(o:Oper)(st:dC)(μ:Mem)(t:TypeId)(cs:List PV)(K:dC->Mem->Prop):Prop:=
 match o.dst with
 |none=>False
 |some k=>bif cK E.fj k then
   (bif !q&&(!nL st.D k&& !cK fz k&&aQ cs&&ble cs.length 65536)then K {st with σ:=Et (aF st.σ k (.box k 0)) k 0 cs,D:=(k,cs.length)::st.D} μ else False)
  else bif cK E.cst k then(bif aQ cs then K (cM o st (.bk (cs.map bV) 0)) μ else False)
  else ∀b,μ b=none->K (cM o st (pP b 0)) (μ.set b (some (.cells t cs)))
def V1(E:kD)(q:Bool)(fz:List Nat)(o:Oper)(st:dC)(μ:Mem)(K:dC->Mem->Prop):Prop:=
 let ρ:=sJ st.σ
 let r:=Cv E o
 match o.op with
 | .move x| .assign x=>K (cM o st (gm E.P o.type (ρ x))) μ
 | .pick c a b=>match ρ c with
   | .raw (.bool t)=>ab t (K (cM o st (gm E.P o.type (ρ a))) μ) (K (cM o st (gm E.P o.type (ρ b))) μ)
   |_=>False
 | .alloc t=>match(E.P.info? t).bind (·.zero)with
   |none=>False
   |some z=>bif (nu E.P t z).ok then Od E q fz o st μ t (NS E.kW o.dst (nu E.P t z).cells) K else False
 | .box t x=>bif (ρ x).ok then Od E q fz o st μ t (NS E.kW o.dst (gm E.P t (ρ x)).cells) K else False
 | .build t ps=>bif ps.toList.all λp=>(ρ p.2).ok then match aaK E.P t (ps.toList.map λp=>(p.1,ρ p.2))with
   |some vs=>K (cM o st (.agg vs)) μ
   |none=>False else False
 | .buildSlice t len ps=>bif (ps.toList.all λp=>(ρ p.2).ok)&&beq ps.toList.length len then match vH E.P t with
   |none=>False
   |some e=>match BH (E.P.cellsOf e) 0 (ps.toList.map λp=>(p.1,gm E.P e (ρ p.2)))with
    |some rows=>bif ble rows.flatten.length 65536&&((E.P.info? e).bind (·.zero)).isSome&& !Nat.beq (E.P.cellsOf e) 0 then
      (bif ab4 E o then ∀b,μ b=none->K (cM o st (.raw (.slice (some ⟨b,0,none⟩) len len))) (μ.set b (some (.cells e (NS E.kW o.dst rows.flatten))))
      else K (cM o st (.list (E.P.cellsOf e) .nr rows)) μ)else False
    |none=>False else False
 | .load t x=>match lP E.P r t with
   |none=>False
   |some ks=>match ρ x with
    | .box k off=>match eX st.D k with
      |some m=>bif ble (off+ks.length) m&&aQ (EN st.σ k off ks.length)then K (cM o st (TW (dq E.P t) (EN st.σ k off ks.length))) μ else False
      |none=>False
    | .bk row off=>OO ks λvs=>aE row off ks.length=some vs/\K (cM o st (TW (dq E.P t) vs)) μ
    |v=>aU v λb off=>OO ks λvs=>ay μ b off ks.length=some vs/\K (cM o st (TW (dq E.P t) vs)) μ
 | .store t x y=>bif (ρ y).ok&&beq (gm E.P t (ρ y)).cells.length (E.P.cellsOf t)&&(E.P.info? t).isSome then match ρ x with
   | .box k off=>match eX st.D k with
     |some m=>bif ble (off+(gm E.P t (ρ y)).cells.length) m&& !cK fz k then K {st with σ:=JR (Et st.σ k off (gm E.P t (ρ y)).cells) o.dst (.aA [])} μ else False
     |none=>False
   |v=>bif q then False else aU v λb off=>stM b off (NS E.kW (ab9 x) (gm E.P t (ρ y)).cells) μ λμ'=>K (cM o st (.aA [])) μ'
   else False
 | .nilCheck x=>match ρ x with
   | .box k off=>K (cM o st (.box k off)) μ
   | .bk row off=>K (cM o st (.bk row off)) μ
   | .raw (.pointer a)=>nn a (K (cM o st (.raw (.pointer a))) μ)
   | .fn f a b=>Bq f (K (cM o st (.fn f a b)) μ)
   |_=>False
 | .binOp op t x y _=>Tv E.P op t (ρ x) (ρ y) λv=>K (cM o st v) μ
 | .unOp op _ x=>match op,ρ x with
   | .not,.raw (.bool b)=>K (cM o st (pB (!b))) μ
   | .neg,.raw (.int k n)=>K (cM o st (.raw (.int k (k.wrap (0-n))))) μ
   |_,_=>False
 | .convert src dst x=>match ρ x with
   | .raw v=>match pv E.P (convert src dst v)with
     |some v'=>bif plain v'&&one v' then K (cM o st (.raw v')) μ else False
     |none=>False
   |_=>False
 | .makeInterface t x=>bif (ρ x).ok&&(match E.P.underlying t with|some (.interface _)=>false|some _=>true|none=>false)then K (cM o st (.iface t (ρ x))) μ else False
 | .makeSlice t x y=>match E.P.underlying t,ρ x,ρ y with
   |some (.slice e),.raw (.int _ i),.raw (.int _ j)=>match(E.P.info? e).map (λi=>(i.size,i.bytes,i.zero.map λz=>(nu E.P e z).cells))with
    |some (size,bytes,some zero)=>bif beq zero.length size&& !Nat.beq size 0&&aQ zero then
      0<=i/\i<=j/\j<4611686018427387904/\j.toNat*bytes<=140737488355328/\
      ∀b,μ b=none->K (cM o st (.raw (.slice (some ⟨b,0,none⟩) i.toNat j.toNat))) (μ.set b (some (.cells e (replicate j.toNat zero).flatten)))else False
    |_=>False
   |_,_,_=>False
 | .makeFunc fn first captured=>bif first.toList.all (λx=>(ρ x).ok)&&captured.toList.all (λx=>(ρ x).ok)then
   K (cM o st (.fn fn (first.toList.map λx=>wk (ρ x)) (captured.toList.map λx=>wk (ρ x)))) μ else False
 | .slice t x lo hi mx=>match E.P.underlying t,ρ x with
   |some (.slice e),.list sz _ rows=>match ig ρ lo 0,ig ρ hi rows.length,ig ρ mx rows.length with
    |some l,some h,some m=>bif (mx.isSome&&hi.isNone)||(E.P.info? e).isNone|| !qv (E.P.cellsOf e) sz rows then False else
      match mx with
      |none=>0<=l/\l<=h/\h<=rows.length/\K (cM o st (.list (E.P.cellsOf e) .sh ((rows.take h.toNat).drop l.toNat))) μ
      |some _=>0<=l/\l<=h/\h<=rows.length/\m=h/\K (cM o st (.list (E.P.cellsOf e) .nr ((rows.take h.toNat).drop l.toNat))) μ
    |_,_,_=>False
   |some (.slice e),.raw (.slice a len cap)=>match ig ρ lo 0,ig ρ hi len,ig ρ mx cap with
    |some l,some h,some m=>(bif (mx.isSome&&hi.isNone)||(E.P.info? e).isNone then False else iq a/\0<=l/\l<=h/\h<=m/\m<=cap/\K (cM o st (.raw (.slice (yZ a l.toNat m.toNat (E.P.cellsOf e)) (h.toNat-l.toNat) (m.toNat-l.toNat)))) μ)
    |_,_,_=>False
   |some .string,.raw (.string s)=>match mx with
    |some _=>False
    |none=>match ig ρ lo 0,ig ρ hi s.size with
     |some l,some h=>0<=l/\l<=h/\h<=s.size/\K (cM o st (pS (s.extract l.toNat h.toNat))) μ
     |_,_=>False
   |_,_=>False
 | .fieldAddr t x f=>match CO E.P t f with
   |none=>False
   |some d=>match ρ x with
    | .box k off=>K (cM o st (.box k (off+d))) μ
    | .bk row off=>K (cM o st (.bk row (off+d))) μ
    |v=>aU v λb off=>K (cM o st (pP b (off+d))) μ
 | .field t x f=>match ρ x with
   | .agg cs=>match aab E.P t f cs with
     |some v=>K (cM o st v) μ
     |none=>False
   |_=>False
 | .indexAddr t x i=>match E.P.underlying t,ρ x,ρ i with
   |some (.slice e),.list sz _ rows,.raw (.int _ j)=>bif (E.P.info? e).isSome&&beq sz (E.P.cellsOf e)then 0<=j/\∃row,rows[j.toNat]?=some row/\K (cM o st (.bk row 0)) μ else False
   |some (.slice e),.raw (.slice a len _),.raw (.int _ j)=>bif (E.P.info? e).isSome then bH a λb off=>0<=j/\j<len/\K (cM o st (pP b (off+j.toNat*E.P.cellsOf e))) μ else False
   |some (.array len e),.box k off,.raw (.int _ j)=>bif decide (0<=j)&&decide (j<len)&&(E.P.info? e).isSome then K (cM o st (.box k (off+j.toNat*E.P.cellsOf e))) μ else False
   |_,_,_=>False
 | .index t x i=>match E.P.underlying t,ρ x,ρ i with
   |some .string,.raw (.string s),.raw (.int _ j)=>0<=j/\∃c:UInt8,s[j.toNat]?=some c/\K (cM o st (.raw (.int .u8 c.toNat))) μ
   |some (.array len e),.agg cs,.raw (.int _ j)=>bif (E.P.info? e).isSome then 0<=j/\j<len/\SA E.P r e λv=>aaf E.P e (j.toNat*E.P.cellsOf e) cs=some v/\K (cM o st v) μ else False
   |_,_,_=>False
 | .extract x i=>match ρ x with
   | .aA vs=>match vs[i]? with
     |some v=>bif v.ok then K (cM o st v) μ else False
     |none=>False
   |_=>False
 | .call c=>match c.callee with
   | .builtin b=>V1b E q o st μ b c.args.toList c.argTypes.toList K
   | .value f=>bif c.args.toList.all (λx=>(ρ x).ok)then
     Cb E.P q (ρ f) (sK E.P c.argTypes.toList (c.args.toList.map ρ)) μ λv μ'=>ON E.P r o.type λv'=>v=v'/\K (cM o st v') μ' else False
   | .invoke x name=>bif c.args.toList.all (λx=>(ρ x).ok)then match ρ x with
     | .iface t p=>match pv E.P (method (E.P.types.size+Made.depth) t undef name)with
       |some (g,_)=>(∀v,pv E.P (method (E.P.types.size+Made.depth) t v name)=some (g,v))/\
         Cb E.P q (.fn (.func g) [] []) (yX p::sK E.P c.argTypes.toList (c.args.toList.map ρ)) μ λv μ'=>ON E.P r o.type λv'=>v=v'/\K (cM o st v') μ'
       |none=>False
     |_=>False else False
 |_=>False
def Rn(μ:Mem)(b:Nat):Prop:=∃T cs,μ b=some (.cells T cs)/\cs≠[]
def JS(x y:PV)(μ:Mem)(K:Bool->Prop):Prop:=
 match x,y with
 | .raw (.pointer (some ⟨b,o,none⟩)),.raw (.pointer (some ⟨b',o',none⟩))=>Rn μ b/\Rn μ b'/\K (beq b b'&&beq o o')
 |_,_=>False
def Ml(x:PV):Bool:=match x with| .raw (.pointer _)=>true|_=>false
def V1x(E:kD)(fz:List Nat)(o:Oper)(st:dC)(μ:Mem)(K:dC->Mem->Prop):Prop:=
 match o.op with
 | .binOp .eql t x (.tmp y) _=>bif Ml (sJ st.σ x)&&Ml (sJ st.σ (.tmp y))then
   (bif (match E.P.underlying t with|some (.pointer e)=>sized E.P e|_=>false)then
    JS (sJ st.σ x) (sJ st.σ (.tmp y)) μ λr=>K (cM o st (pB r)) μ else False)else V1 E false fz o st μ K
 |_=>V1 E false fz o st μ K
def Vl(E:kD)(fz:List Nat)(ops:Array Oper)(Q:dC->Mem->Prop):List Oper->dC->Mem->Prop
 |[],st,μ=>Q st μ
 |o::l,st,μ=>match o.guard with
  |none=>V1x E fz o st μ λbT μ'=>Vl E fz ops Q l bT μ'
  |some (j,b)=>match pn ops j with
   |none=>False
   |some g=>match st.σ g with
    | .raw (.bool c)=>ab c
      ((λeQ=>ab b (V1 E false fz o eQ μ λbT μ'=>Vl E fz ops Q l bT μ') (Vl E fz ops Q l (cM o eQ (.aA [])) μ)) {st with σ:=aF st.σ g (pB true)})
      ((λeQ=>ab b (Vl E fz ops Q l (cM o eQ (.aA [])) μ) (V1 E false fz o eQ μ λbT μ'=>Vl E fz ops Q l bT μ')) {st with σ:=aF st.σ g (pB false)})
    | .aA _=>Vl E fz ops Q l (cM o st (.aA [])) μ
    |_=>False
def qK(ops:Array Oper)(o:Oper)(st:dC)(act skip:dC->Prop):Prop:=
 match o.guard with
 |none=>act st
 |some (j,b)=>match pn ops j with
  |none=>False
  |some g=>match st.σ g with
   | .raw (.bool c)=>ab c
     ((λeQ=>ab b (act eQ) (skip eQ)) {st with σ:=aF st.σ g (pB true)})
     ((λeQ=>ab b (skip eQ) (act eQ)) {st with σ:=aF st.σ g (pB false)})
   | .aA _=>skip st
   |_=>False
def FE(st:dC)(o:Oper):Bool:=
 match o.op with
 | .load _ x=>match sJ st.σ x with
   | .bk .. =>true
   |_=>false
 |_=>false
def wK(E:kD)(fz:List Nat)(ops:Array Oper)(c:Bool)(μ0:Mem)(i:Nat)(st:dC)(K:dC->Prop):Prop:=
 match ops[i]? with
 |none=>False
 |some o=>qK ops o st (λeQ=>bif c|| !FE eQ o then V1 E false fz o eQ μ0 λbT _=>K bT else False) (λeQ=>K (cM o eQ (.aA [])))
def Rq(E:kD)(fz:List Nat)(o:Oper)(st:dC)(μ0 μ:Mem)(K:dC->Mem->Prop):Prop:=
 match o.op with
 | .store _ x _=>match sJ st.σ x with
   | .raw (.pointer (some ⟨b,_,none⟩))=>μ0 b=none/\V1 E false fz o st μ K
   |_=>V1 E true fz o st μ K
 |_=>V1 E true fz o st μ K
def qh(E:kD)(fz:List Nat)(ops:Array Oper)(μ0:Mem)(i:Nat)(st:dC)(μ:Mem)(K:dC->Mem->Prop):Prop:=
 match ops[i]? with
 |none=>False
 |some o=>bif im E.fj o then False else qK ops o st
   (λeQ=>bif qJ ops i then Rq E (fz++eQ.D.map (·.1)) o eQ μ0 μ K else V1 E false fz o eQ μ K)
   (λeQ=>K (cM o eQ (.aA [])) μ)
def Vd(E:kD)(fz:List Nat)(ops:Array Oper)(μ0:Mem)(Q:dC->Mem->Prop):Bool->jg->dC->Mem->Prop
 |_,.nil,st,μ=>Q st μ
 |c,.tk i p,st,μ=>wK E fz ops c μ0 i st λbT=>Vd E fz ops μ0 Q c p bT μ
 |_,.ef i p,st,μ=>qh E fz ops μ0 i st μ λbT μ'=>Vd E fz ops μ0 Q false p bT μ'
 |_,.SG i p j q,st,μ=>(qh E fz ops μ0 i st μ λbT μ'=>Vd E fz ops μ0 Q false p bT μ')/\(qh E fz ops μ0 j st μ λbT μ'=>Vd E fz ops μ0 Q false q bT μ')
 |_,.SF i p j q k r,st,μ=>(qh E fz ops μ0 i st μ λbT μ'=>Vd E fz ops μ0 Q false p bT μ')/\(qh E fz ops μ0 j st μ λbT μ'=>Vd E fz ops μ0 Q false q bT μ')/\(qh E fz ops μ0 k st μ λbT μ'=>Vd E fz ops μ0 Q false r bT μ')
def Ql(E:kD)(fz:List Nat)(ops:Array Oper)(i:Nat)(st:dC)(μ:Mem)(K:dC->Mem->Prop):Prop:=
 match ops[i]? with
 |none=>False
 |some o=>qK ops o st (λeQ=>V1 E false fz o eQ μ K) (λeQ=>K (cM o eQ (.aA [])) μ)
def Vq(E:kD)(fz:List Nat)(ops:Array Oper)(Q:dC->Mem->Prop):iF->dC->Mem->Prop
 | .nil,st,μ=>Q st μ
 | .tk i q,st,μ=>wK E fz ops true μ i st λbT=>Vq E fz ops Q q bT μ
 | .ld i q r,st,μ=>(wK E fz ops true μ i st λbT=>Vq E fz ops Q q bT μ)/\Vq E fz ops Q r st μ
 | .alt i q r,st,μ=>(Ql E fz ops i st μ λbT μ'=>Vq E fz ops Q q bT μ')/\Vq E fz ops Q r st μ
 | .done,_,_=>True
def Ns(c:uz)(J:zf c.live->Mem->Prop)(st:dC)(μ:Mem):Prop:=
 bif ql st c.fJ then(match qL st c.live with
  |some s=>J s μ
  |none=>False)else False
def Ez(next:dC->Mem->Prop)(Q:Exit->dC->Mem->Prop):Exit->dC->Mem->Prop
 | .normal,st,μ=>next st μ
 |e,st,μ=>Q e st μ
def FY(id:Nat)(Q:Exit->dC->Mem->Prop):Exit->dC->Mem->Prop
 | .exit i,st,μ=>bif beq i id then Q .normal st μ else Q (.exit i) st μ
 |e,st,μ=>Q e st μ
def YP(K:dC->Mem->Prop):Exit->dC->Mem->Prop
 | .normal,st,μ=>K st μ
 |_,_,_=>False
def UG(R:Option Code->Mem->Prop):Exit->dC->Mem->Prop
 | .normal,_,μ=>R none μ
 | .ret,_,μ=>R (some .ret) μ
 | .exit i,_,μ=>R (some (.exit i)) μ
 |_,_,_=>False
def Hl(σ:uy):uy:=λt=>match σ t with| .box _ _=>.aV|v=>v
def EG(σ:uy):List Nat->List PV->uy
 |p::ps,v::vs=>EG (aF σ p v) ps vs
 |_,_=>σ
def V(E:kD):List Nat->Code->(Exit->dC->Mem->Prop)->dC->Mem->Prop
 |_,.skip,Q,st,μ=>Q .normal st μ
 |_,.ret,Q,st,μ=>Q .ret st μ
 |_,.exit i,Q,st,μ=>Q (.exit i) st μ
 |fz,.region _ ops false,Q,st,μ=>Vl E fz ops (Q .normal) ops.toList st μ
 |fz,.region id ops true,Q,st,μ=>bif E.P.follows .mixedOrders then(bif isQ E.fj id then(match oB ops with
  |some p=>Vq E fz ops (Q .normal) p st μ
  |none=>False)else match tw ops with
  |some p=>Vd E fz ops μ (Q .normal) true p st μ
  |none=>False)else False
 |fz,.seq a b,Q,st,μ=>match(fI b).bind (look E.jl)with
  |none=>V E fz a (Ez (λbT μ'=>V E fz b Q bT μ') Q) st μ
  |some l=>bif oC fz st.D l.er then bZ (λJ=>V E (freeze fz st.D l.er) a (Ez (Ns l J) Q) st μ) (λs μ'=>V E fz b Q (YW st (writes a) l s) μ')else False
 |fz,.cond c a b,Q,st,μ=>match sJ st.σ c with
  | .raw (.bool t)=>ab t (V E fz a Q st μ) (V E fz b Q st μ)
  |_=>False
 |fz,.block id a,Q,st,μ=>V E fz a (FY id Q) st μ
 |fz,.loop a,Q,st,μ=>match(fI a).bind (look E.loops)with
  |none=>False
  |some l=>bif oC fz st.D l.er then Ns l (ao λnext s μ'=>V E (freeze fz st.D l.er) a (Ez (Ns l next) Q) (YW st (writes a) l s) μ') st μ else False
 |_,.rangeFunc f ps assign body,Q,st,μ=>match look E.rR (ps.toList.headD 0)with
  |none=>False
  |some ts=>bif beq ts.length ps.toList.length then
    bu E.P (sJ st.σ f) (λvs R μ'=>MJ E.P (match ps.toList with|p::_=>cK E.kW p|[]=>false) ts λo_=>vs=o_/\V E [] assign (YP λeQ μ1=>V E [] body (UG R) eQ μ1) ⟨EG (Hl st.σ) ps.toList o_,[]⟩ μ')
     (λp μ'=>PK p (Q .normal st μ') (bif lR body then Q .ret st μ' else False) ((Lz (jJ body)).map λi=>(i,Q (.exit i) st μ'))) μ
   else False
 |_,_,_,_,_=>False
def Nc(args:List PV):uy:=λt=>(args[t]?).getD (.aA [])
def uV(P:Program)(rw:List Nat)(st:dC)(μ:Mem):List ResultVar->(List PV->Prop)->Prop
 |[],F=>F []
 | .tmp t::l,F=>bif (st.σ t).ok then uV P rw st μ l λvs=>F (st.σ t::vs)else False
 | .cell a t::l,F=>match lP P (cK rw a) t with
   |none=>False
   |some ks=>match st.σ a with
    | .box k off=>match eX st.D k with
      |some m=>bif ble (off+ks.length) m&&aQ (EN st.σ k off ks.length)then uV P rw st μ l λvs=>F (TW (dq P t) (EN st.σ k off ks.length)::vs)else False
      |none=>False
    |v=>aU v λb off=>OO ks λus=>ay μ b off ks.length=some us/\uV P rw st μ l λvs=>F (TW (dq P t) us::vs)
def P_(R:Kq)(μ:Mem):List PV->Prop
 |[v]=>R v μ
 |vs=>R (.aA vs) μ
def acx(P:Program)(rw:List Nat)(rs:List ResultVar)(R:Kq):Exit->dC->Mem->Prop
 | .ret,st,μ=>uV P rw st μ rs (P_ R μ)
 | .normal,st,μ=>uV P rw st μ rs (P_ R μ)
 |_,_,_=>False
def VF(E:kD)(c:Code)(rs:List ResultVar)(args:List PV)(μ:Mem)(R:Kq):Prop:=
 V E [] c (acx E.P E.kW rs R) ⟨Nc args,[]⟩ μ
theorem cD.nil(Z:Fz):cD Z [] []:=⟨rfl,by simp⟩
theorem cD.cons{Z:Fz}{p:PV}{ps:List PV}{v:Value}{vs:List Value}(h:bS Z p v)(hs:cD Z ps vs):cD Z (p::ps) (v::vs):=
 ⟨by simp[hs.1],λi q w a b=>by
  cases i with
  |zero=>simp only[List.getElem?_cons_zero,Option.some.injEq]at a b;subst a;subst b;exact h
  |succ i=>simp only[List.getElem?_cons_succ]at a b;exact hs.2 i q w a b⟩
theorem cD.inv{Z:Fz}{p:PV}{ps:List PV}{vs:List Value}(h:cD Z (p::ps) vs):∃v o_,vs=v::o_/\bS Z p v/\cD Z ps o_:=by
 obtain⟨hl,h⟩:=h;cases vs with
 |nil=>simp at hl
 |cons v vs=>exact⟨v,vs,rfl,h 0 p v rfl rfl,by simpa using hl,λi q w a b=>h (i+1) q w (by simpa using a) (by simpa using b)⟩
theorem cD.m_{Z:Fz}{vs:List Value}(h:cD Z [] vs):vs=[]:=List.eq_nil_of_length_eq_zero h.1
theorem bq.m{Z:Fz}{ps:List PV}{vs:List Value}(h:bq Z ps vs):cD Z ps vs:=⟨h.1,λi p v a b=>(h.2 i p v a b).2⟩
theorem bp.m{Z:Fz}{ps:List PV}{vs:List Value}(h:bp Z ps vs):cD Z ps vs:=⟨h.1,λi p v a b=>(h.2 i p v a b).2⟩
theorem cD.c{Z:Fz}{ps:List PV}{vs:List Value}(h:cD Z ps vs)(hc:aQ ps=true):bq Z ps vs:=
 ⟨h.1,λi p v a b=>⟨all_eq_true.1 hc p (mem_of_getElem? a),h.2 i p v a b⟩⟩
theorem cD.s{Z:Fz}{ps:List PV}{vs:List Value}(h:cD Z ps vs)(hc:IM ps=true):bp Z ps vs:=
 ⟨h.1,λi p v a b=>⟨all_eq_true.1 hc p (mem_of_getElem? a),h.2 i p v a b⟩⟩
theorem cD.mono{Z Z':Fz}(hz:Z.le Z'){ps:List PV}{vs:List Value}(h:cD Z ps vs):cD Z' ps vs:=⟨h.1,λi p v a b=>(h.2 i p v a b).mono hz⟩
theorem bq.aQ{Z:Fz}{ps:List PV}{vs:List Value}(h:bq Z ps vs):aQ ps=true:=by
 refine all_eq_true.2 λp hp=>?_;obtain⟨i,hi⟩:=mem_iff_getElem?.1 hp;obtain⟨v,_,hc,_⟩:=h.get hi;exact hc
theorem bq.qe{Z:Fz}{ps:List PV}{vs:List Value}(h:bq Z ps vs):bS Z (.agg ps) (.agg vs.toArray):=
 .agg ps vs h.1 (λp hp=>all_eq_true.1 h.aQ p hp) λi p v a b=>(h.2 i p v a b).2
theorem bp.uK{Z:Fz}{ps:List PV}{vs:List Value}(h:bp Z ps vs):bS Z (.aA ps) (.tuple vs.toArray):=by
 refine .aA ps vs h.1 (λp hp=>?_) λi p v a b=>(h.2 i p v a b).2;obtain⟨i,hi⟩:=mem_iff_getElem?.1 hp;obtain⟨v,_,hc,_⟩:=h.get hi;exact hc
theorem bS.qw{Z:Fz}{ps:List PV}{v:Value}(h:bS Z (.agg ps) v):∃vs:List Value,v=.agg vs.toArray/\bq Z ps vs:=by
 cases h with
 |agg cs vs hl hk h=>exact⟨vs,rfl,hl,λi p v a b=>⟨hk p (mem_of_getElem? a),h i p v a b⟩⟩
theorem bS.AH{Z:Fz}{ps:List PV}{v:Value}(h:bS Z (.aA ps) v):∃vs:List Value,v=.tuple vs.toArray/\bp Z ps vs:=by
 cases h with
 |aA cs vs hl hk h=>exact⟨vs,rfl,hl,λi p v a b=>⟨hk p (mem_of_getElem? a),h i p v a b⟩⟩
theorem bS.ofRaw{Z:Fz}{v w:Value}(h:bS Z (.raw v) w):w=v/\aO.plain v=true/\one v=true:=by
 cases h;exact⟨rfl,by assumption,by assumption⟩
theorem bS.yz{Z:Fz}{k o:Nat}{w:Value}(h:bS Z (.box k o) w):w=dM k o:=by cases h;rfl
theorem bS.ofFn{Z:Fz}{f:Fn}{a b:List PV}{w:Value}(h:bS Z (.fn f a b) w):∃fv cv:List Value,w=.func f fv.toArray cv.toArray/\bp Z a fv/\bp Z b cv:=by
 cases h with
 |fn f first tW fv cv h1 h2 kf kc hf hc=>exact⟨fv,cv,rfl,⟨h1,λi p v a b=>⟨kf p (mem_of_getElem? a),hf i p v a b⟩⟩,⟨h2,λi p v a b=>⟨kc p (mem_of_getElem? a),hc i p v a b⟩⟩⟩
theorem bp.Ex{Z:Fz}{f:Fn}{a b:List PV}{fv cv:List Value}(h:bp Z a fv)(k:bp Z b cv):bS Z (.fn f a b) (.func f fv.toArray cv.toArray):=by
 refine .fn f a b fv cv h.1 k.1 (λp hp=>?_) (λp hp=>?_) (λi p v a b=>(h.2 i p v a b).2) (λi p v a b=>(k.2 i p v a b).2)
 ·obtain⟨i,hi⟩:=mem_iff_getElem?.1 hp;obtain⟨v,_,hc,_⟩:=h.get hi;exact hc
 ·obtain⟨i,hi⟩:=mem_iff_getElem?.1 hp;obtain⟨v,_,hc,_⟩:=k.get hi;exact hc
theorem bS.ofList{Z:Fz}{sz:Nat}{fl:Fl}{rows:Lq}{w:Value}(h:bS Z (.list sz fl rows) w):∃a n c,w=.slice a n c/\rows.length=n/\n<=c/\(c=0\/iq a)/\TU fl a n c:=by
 cases h;exact⟨_,_,_,rfl,by assumption,by assumption,by assumption,by assumption⟩
theorem bS.EZ{Z:Fz}{sz Us:Nat}{fl:Fl}{w:Value}(h:bS Z (.list sz fl []) w):bS Z (.list Us fl []) w:=by
 cases h with
 |list _ _ _ a n c b o C g hn hc hs hr ha hg hk hp hf=>
  simp only[List.length_nil]at hn;subst hn;exact .list Us fl [] a 0 c b o C g rfl hc hs (by simp) (λh=>absurd rfl h) (λi j hi=>absurd hi (Nat.not_lt_zero i)) (by simp) (by simp) hf
theorem bS.flag{Z:Fz}{sz:Nat}{fl km:Fl}{rows:Lq}{w:Value}(h:bS Z (.list sz fl rows) w)(hf':∀a n c,w=.slice a n c->TU km a n c):bS Z (.list sz km rows) w:=by
 cases h with
 |list _ _ _ a n c b o C g hn hc hs hr ha hg hk hp hf=>exact .list sz km rows a n c b o C g hn hc hs hr ha hg hk hp (hf' a n c rfl)
theorem bS.sh{Z:Fz}{sz:Nat}{fl:Fl}{rows:Lq}{w:Value}(h:bS Z (.list sz fl rows) w):bS Z (.list sz .sh rows) w:=h.flag λ_ _ _ _=>trivial
theorem bS.bV{Z:Fz}{p:PV}{w:Value}(h:bS Z p w):bS Z (bV p) w:=by
 cases p<;>first|exact h.sh|exact h
theorem PU{p:PV}:(bV p).cell=p.cell:=by cases p<;>rfl
theorem Yg{p:PV}:(bV p).ok=p.ok:=by cases p<;>rfl
theorem bq.wk{Z:Fz}{ps:List PV}{vs:List Value}(h:bq Z ps vs):bq Z (ps.map aO.bV) vs:=
 ⟨by simp[h.1],λi p v a b=>by
  rw[getElem?_map]at a
  cases hq:ps[i]? with
  |none=>simp[hq]at a
  |some q=>
   simp only[hq,map_some,Option.some.injEq]at a
   subst a
   exact⟨by rw[PU];exact(h.2 i q v hq b).1,(h.2 i q v hq b).2.bV⟩⟩
theorem bS.yX{Z:Fz}{p:PV}{w:Value}(h:bS Z p w):bS Z (yX p) w:=by
 cases p<;>try exact h
 obtain⟨vs,rfl,hc⟩:=h.qw;exact hc.wk.qe
theorem Js{p:PV}:(yX p).ok=p.ok:=by cases p<;>rfl
theorem bS.wk{Z:Fz}{p:PV}{w:Value}(h:bS Z p w):bS Z (wk p) w:=by
 cases p with
 |agg cs=>exact h.yX
 |aA vs=>
  obtain⟨ws,rfl,hs⟩:=h.AH;refine bp.uK ⟨by simp[hs.1],λi p v a b=>?_⟩;rw[getElem?_map]at a;cases hq:vs[i]? with
  |none=>simp[hq]at a
  |some q=>
   simp only[hq,map_some,Option.some.injEq]at a;subst a;have:=hs.2 i q v hq b;exact⟨by rw[Js,Yg];exact this.1,this.2.bV.yX⟩
 |_=>exact h.bV
theorem ab5{p:PV}:(aO.wk p).ok=p.ok:=by cases p<;>rfl
theorem bS.YO{Z:Fz}{sz:Nat}{p:PV}{w:Value}(h:bS Z p w):bS Z (YO sz p) w:=by
 unfold aO.YO;split
 ·exact h.EZ
 ·exact h
theorem Q_{sz:Nat}{p:PV}:(YO sz p).cell=p.cell:=by unfold YO;split<;>rfl
theorem bq.AI{Z:Fz}:∀{ks:List KV} {ps:List PV} {vs:List Value},bq Z ps vs->bq Z (AI ks ps) vs
 |[],ps,vs,h=>by simpa[aO.AI]using h
 |k::ks,[],vs,h=>by cases k<;>simpa[aO.AI]using h
 | .list sz::ks,p::ps,vs,h=>by
   obtain⟨v,o_,rfl,h1,h2,h3⟩:=h.inv
   exact bq.cons (by rw[Q_];exact h1) h2.YO h3.AI
 | .raw k::ks,p::ps,vs,h=>by
   obtain⟨v,o_,rfl,h1,h2,h3⟩:=h.inv;exact bq.cons h1 h2 h3.AI
 | .fn::ks,p::ps,vs,h=>by
   obtain⟨v,o_,rfl,h1,h2,h3⟩:=h.inv;exact bq.cons h1 h2 h3.AI
theorem bS.gm{Z:Fz}{P:Program}{t:TypeId}{p:PV}{w:Value}(h:bS Z p w):bS Z (gm P t p) w:=by
 unfold aO.gm;split
 ·split
  ·obtain⟨vs,rfl,hc⟩:=h.qw;exact hc.AI.qe
  ·split
   ·exact h.EZ
   ·exact h
  ·exact h
 ·exact h
theorem oA{P:Program}{t:TypeId}{p:PV}:(gm P t p).ok=p.ok:=by
 unfold gm;split
 ·split
  ·rfl
  ·split<;>rfl
  ·rfl
 ·rfl
theorem bS.Pe{Z:Fz}{P:Program}{t:TypeId}{p:PV}{w:Value}(h:bS Z p w):bS Z (Pe P t p) w:=h.gm.yX
theorem Wz{P:Program}{t:TypeId}{p:PV}:(Pe P t p).ok=p.ok:=by unfold Pe;rw[Js,oA]
theorem bp.sK{Z:Fz}{P:Program}:∀{ts:List TypeId} {ps:List PV} {vs:List Value},bp Z ps vs->bp Z (sK P ts ps) vs
 |[],ps,vs,h=>by simpa[aO.sK]using h
 |t::ts,[],vs,h=>by simpa[aO.sK]using h
 |t::ts,p::ps,vs,h=>by
  obtain⟨v,o_,rfl,h1,h2,h3⟩:=h.inv
  exact bp.cons (by rw[Wz];exact h1) h2.Pe h3.sK
theorem Hx(Z:Fz)(v:Value):bS Z (Cx v) v:=by
 unfold Cx;split
 ·exact .list 0 .nil [] none 0 0 0 0 [] (λ_ _=>undef) rfl (le_refl _) (.inl rfl) (by simp) (λh=>absurd rfl h) (λi j hi=>absurd hi (Nat.not_lt_zero i)) (by simp) (by simp) ⟨rfl,rfl,rfl⟩
 ·exact .aV _
 ·exact .aV _
 ·exact .aV _
 ·exact .aV _
 ·exact .aV _
 ·rename_i f a b;cases hb:(beq a.size 0&&beq b.size 0)with
  |false=>exact .aV _
  |true=>
   simp only[and_eq_true,beq_iff]at hb;have h1:a= #[]:=Array.eq_empty_of_size_eq_zero hb.1;have h2:b= #[]:=Array.eq_empty_of_size_eq_zero hb.2;subst h1;subst h2;exact bp.Ex (fv:=[]) (cv:=[]) (bp.nil Z) (bp.nil Z)
 ·rename_i h1 h2 h3 h4 h5 h6 h7;refine .raw v ?_ ?_
  ·cases v<;>first|rfl|(exact absurd rfl (h5 _ _ _))
  ·cases v<;>first|rfl|(exact absurd rfl (h3 _))|(exact absurd rfl (h4 _))
theorem DE(Z:Fz)(l:List Value):cD Z (l.map Cx) l:=
 ⟨by simp,λi p v a b=>by
  rw[getElem?_map,b]at a
  simp only[map_some,Option.some.injEq]at a
  subst a;exact Hx Z v⟩
theorem zF(Z:Fz)(v:Value):bS Z (ofV v) v:=by
 unfold ofV;split
 ·rename_i a;cases hb:aQ (a.toList.map Cx)with
  |false=>exact .aV _
  |true=>simpa using((DE Z a.toList).c hb).qe
 ·rename_i a;cases hb:IM (a.toList.map Cx)with
  |false=>exact .aV _
  |true=>simpa using((DE Z a.toList).s hb).uK
 ·exact Hx Z v
structure di(Z:Fz)(p:dC)(s:St):Prop where
 D:p.D=s.D
 slot:∀t,bS Z (p.σ t) (s.σ t)
theorem di.mono{Z Z':Fz}(hz:Z.le Z'){p:dC}{s:St}(h:di Z p s):di Z' p s:=⟨h.D,λt=>(h.slot t).mono hz⟩
def fx(Z:Fz)(p:uy)(s:Fr):Prop:=∀t,bS Z (p t) (s t)
theorem fx.i_{Z:Fz}{p:uy}{s:Fr}(h:fx Z p s){t:Nat}{x:PV}{v:Value}(hv:bS Z x v):fx Z (aF p t x) (i_ s t v):=by
 intro i;unfold aF aO.i_;cases beq i t
 ·exact h i
 ·exact hv
theorem fx.put{Z:Fz}{p:uy}{s:Fr}(h:fx Z p s){d:Option Nat}{x:PV}{v:Value}(hv:bS Z x v):fx Z (JR p d x) (put s d v):=by
 cases d with
 |none=>exact h
 |some t=>exact h.i_ hv
theorem fx.rn{Z:Fz}{k:Nat}:∀{ps:List PV} {vs:List Value} {p:uy} {s:Fr} {j:Nat},fx Z p s->cD Z ps vs->fx Z (Et p k j ps) (rn s k j vs)
 |[],vs,p,s,j,h,hv=>by rw[hv.m_];exact h
 |x::ps,vs,p,s,j,h,hv=>by
  obtain⟨v,o_,rfl,h1,h2⟩:=hv.inv
  exact fx.rn (p:=aF p (gx k j) x) (s:=aO.i_ s (gx k j) v) (j:=j+1) (h.i_ h1) h2
theorem fx.wR{Z:Fz}{p:uy}{s:Fr}{k:Nat}(h:fx Z p s):∀(m j:Nat),cD Z (EN p k j m) (aO.wR s k j m)
 |0,_=>cD.nil Z
 |m+1,j=>cD.cons (h _) (h.wR m (j+1))
theorem yy(σ:uy)(k:Nat):∀(m j:Nat),(EN σ k j m).length=m
 |0,_=>rfl
 |m+1,j=>by simp[EN,yy σ k m (j+1)]
theorem di.ev{Z:Fz}{p:dC}{s:St}(h:di Z p s)(x:Operand):bS Z (sJ p.σ x) (ev s.σ x):=by
 cases x with
 |tmp t=>exact h.slot t
 |const v=>exact zF Z v
 |global g=>exact .raw _ rfl rfl
 |func f=>exact bp.Ex (fv:=[]) (cv:=[]) (bp.nil Z) (bp.nil Z)
theorem di.fin{Z:Fz}{p:dC}{s:St}(h:di Z p s)(o:Oper){x:PV}{v:Value}(hv:bS Z x v):di Z (cM o p x) (fin o s v):=⟨h.D,fx.put h.slot hv⟩
theorem KV.QS(k:KV)(x:k.T):(k.p x).cell=true:=by cases k<;>rfl
theorem Hy{fl:Fl}{rows:Lq}{x:Fl×Lq}(h:JZ fl rows=some x):fl=.nil/\rows=[]/\x=(.nil,[]):=by
 unfold JZ at h;split at h
 ·simp only[Option.some.injEq]at h;exact⟨rfl,rfl,h.symm⟩
 ·cases h
theorem KV.FC{Z:Fz}{k:KV}{p:PV}{v:Value}{x:k.T}(h:bS Z p v)(hg:k.get p=some x):∃y:k.er.T,k.er.get v=some y/\bS Z (k.p x) (k.er.v y):=by
 cases k with
 |raw k=>
  cases p with
  |raw v0=>
   simp only[KV.get]at hg;obtain⟨rfl,hp,h1⟩:=h.ofRaw;refine⟨x,hg,?_⟩;have:=K1.MH hg;rw[this]at hp h1;exact .raw _ hp h1
  |list sz fl rows=>
   cases k with
   |slice=>
    cases fl with
    |nil=>
     simp only[KV.get,Option.some.injEq]at hg;subst hg;obtain⟨a,n,c,rfl,_,_,_,hf⟩:=h.ofList;obtain⟨rfl,rfl,rfl⟩:=hf;exact⟨(none,0,0),rfl,.raw _ rfl rfl⟩
    |_=>simp[KV.get]at hg
   |_=>simp[KV.get]at hg
  |_=>simp[KV.get]at hg
 |list sz=>
  cases p<;>simp only[KV.get]at hg<;>try (cases hg;done)
  rename_i Us fl rows;obtain⟨a,n,c,rfl,_⟩:=h.ofList;refine⟨(a,n,c),rfl,?_⟩;cases hb:beq sz Us with
  |true=>
   rw[hb]at hg;simp only[cond_true,Option.some.injEq]at hg;subst hg;have:=beq_iff.1 hb;subst this;exact h
  |false=>
   rw[hb]at hg;obtain⟨rfl,rfl,rfl⟩:=Hy hg;exact h.EZ
 |fn=>
  cases p<;>simp only[KV.get]at hg<;>try (cases hg;done)
  rename_i f a b;obtain⟨fv,cv,rfl,h1,h2⟩:=h.ofFn;simp only[Option.some.injEq]at hg;subst hg;exact⟨(f,fv.toArray,cv.toArray),rfl,bp.Ex h1 h2⟩
theorem Lj{k k':K1}{ks:List K1}{v:Value}{vs:List Value}{x:k.T}{y:TL (k'::ks)}(h1:k.get v=some x)(h2:kL (k'::ks) vs=some y):kL (k::k'::ks) (v::vs)=some (x,y):=by
 simp only[kL,h1,h2]
theorem FD{s:St}{x y:Nat×Kd}{l:Live}{a:x.2.T}{b:Tup (y::l)}(h1:yK s x=some a)(h2:fZ s (y::l)=some b):fZ s (x::y::l)=some (a,b):=by
 simp only[fZ,h1,h2]
theorem ub{Z:Fz}:∀{ks:List KV} {ps:List PV} {vs:List Value} {x:TLP ks},cD Z ps vs->oS ks ps=some x->∃y:TL (ks.map KV.er),kL (ks.map KV.er) vs=some y/\cD Z (Ge ks x) (Li (ks.map KV.er) y)
 |[],[],vs,x,h,_=>by rw[h.m_];exact⟨(),rfl,cD.nil Z⟩
 |[],_::_,_,_,_,hg=>by simp[oS]at hg
 |[k],[],_,_,_,hg=>by simp[oS]at hg
 |[k],[p],vs,x,h,hg=>by
  obtain⟨v,o_,rfl,h1,h2⟩:=h.inv
  rw[h2.m_];obtain⟨y,hy,hr⟩:=KV.FC h1 hg;exact⟨y,hy,cD.cons hr (cD.nil Z)⟩
 |[k],_::_::_,_,_,_,hg=>by simp[oS]at hg
 |k::k'::ks,[],_,_,_,hg=>by simp[oS]at hg
 |k::k'::ks,p::ps,vs,x,h,hg=>by
  obtain⟨v,o_,rfl,h1,h2⟩:=h.inv;simp only[oS]at hg;split at hg
  ·rename_i a b ha hb;simp only[Option.some.injEq]at hg;subst hg;obtain⟨y,hy,hr⟩:=KV.FC h1 ha;obtain⟨ys,hys,Jm⟩:=ub (ks:=k'::ks) h2 hb;refine⟨(y,ys),?_,cD.cons hr Jm⟩;exact Lj hy hys
  ·cases hg
theorem Ep:∀(ks:List KV) (x:TLP ks),aQ (Ge ks x)=true
 |[],_=>rfl
 |[k],x=>by simp[Ge,aQ,KV.QS]
 |k::k'::ks,x=>by
  have:=Ep (k'::ks) x.2
  simp only[aQ]at this;simp only[Ge,aQ,all_cons,KV.QS,this,Bool.and_self]
def WO(Z:Fz):(x:Nat×Uf)->x.2.T->(Kd.T x.2.er)->Prop
 |(_,.one k),a,b=>bS Z (k.p a) (k.er.v b)
 |(_,.agg ks),a,b=>cD Z (Ge ks a) (Li (ks.map KV.er) b)
 |(_,.box ks),a,b=>cD Z (Ge ks a) (Li (ks.map KV.er) b)
def uc(Z:Fz):(l:sO)->zf l->Tup l.er->Prop
 |[],_,_=>True
 |[x],a,b=>WO Z x a b
 |x::y::l,a,b=>WO Z x a.1 b.1/\uc Z (y::l) a.2 b.2
theorem DW{Z:Fz}{p:dC}{s:St}(hr:di Z p s):∀{x:Nat×Uf} {a:x.2.T},Bo p x=some a->∃b,yK s (x.1,x.2.er)=some b/\WO Z x a b
 |(t,.one k),a,h=>KV.FC (hr.slot t) h
 |(t,.agg ks),a,h=>by
  simp only[Bo]at h
  have hs:=hr.slot t
  split at h
  ·rename_i cs he;rw[he]at hs;obtain⟨vs,hv,hc⟩:=hs.qw;obtain⟨y,hy,hm⟩:=ub hc.m h;refine⟨y,?_,hm⟩;show(match s.σ t with| .agg a=>kL (ks.map KV.er) a.toList|_=>none)=some y;rw[hv];exact hy
  ·cases h
 |(t,.box ks),a,h=>by
  simp only[Bo]at h;have hs:=hr.slot t;split at h
  ·rename_i k o he;rw[he]at hs;have hv:=hs.yz;cases hb:((beq k t&&beq o 0)&&ir p.D t ks.length)with
   |false=>rw[hb]at h;cases h
   |true=>
    rw[hb]at h;obtain⟨y,hy,hm⟩:=ub (fx.wR hr.slot _ _) h;refine⟨y,?_,hm⟩
    show(match s.σ t with
     | .complex .f64 k o=>bif (beq k t&&beq o 0)&&ir s.D t (ks.map KV.er).length then kL (ks.map KV.er) (wR s.σ t 0 (ks.map KV.er).length)else none
     |_=>none)=some y
    rw[hv];simp only[length_map,<- hr.D,hb,cond_true];exact hy
  ·cases h
theorem yJ{Z:Fz}{p:dC}{s:St}(hr:di Z p s):∀{l:sO} {a:zf l},qL p l=some a->∃b,fZ s l.er=some b/\uc Z l a b
 |[],_,_=>⟨(),rfl,trivial⟩
 |[x],a,h=>DW hr h
 |x::y::l,a,h=>by
  simp only[qL]at h
  split at h
  ·rename_i a1 a2 h1 h2
   simp only[Option.some.injEq]at h
   subst h
   obtain⟨b1,GD,r1⟩:=DW hr h1
   obtain⟨b2,ph,r2⟩:=yJ (l:=y::l) hr h2;refine⟨(b1,b2),?_,r1,r2⟩;exact FD GD ph
  ·cases h
theorem Dq{Z:Fz}:∀{p:dC} {s:St} (_:di Z p s) {x:Nat×Uf} {a:x.2.T} {b:Kd.T x.2.er},WO Z x a b->di Z (JM p x a) (kH s (x.1,x.2.er) b)
 |p,s,hr,(t,.one k),a,b,h=>⟨hr.D,fx.i_ hr.slot h⟩
 |p,s,hr,(t,.agg ks),a,b,h=>⟨hr.D,fx.i_ hr.slot (h.c (Ep ks a)).qe⟩
 |p,s,hr,(t,.box ks),a,b,h=>by
  refine⟨?_,fx.rn (fx.i_ hr.slot (.box t 0)) h⟩
  show(bif ir p.D t ks.length then p.D else(t,ks.length)::p.D)=(bif ir s.D t (ks.map KV.er).length then s.D else(t,(ks.map KV.er).length)::s.D)
  rw[length_map,hr.D]
theorem yt{Z:Fz}:∀{l:sO} {p:dC} {s:St} (_:di Z p s) {a:zf l} {b:Tup l.er},uc Z l a b->di Z (Ao p l a) (rD s l.er b)
 |[],p,s,hr,_,_,_=>hr
 |[x],p,s,hr,_,_,h=>Dq hr h
 |x::y::l,p,s,hr,a,b,h=>yt (l:=y::l) (Dq hr h.1) h.2
theorem Cs(Z:Fz)(m:Nat):cD Z (replicate m .aV) (replicate m aV):=
 ⟨by simp,λi p v a b=>by
  rw[List.getElem?_replicate]at a b
  split at a
  ·rename_i h
   rw[if_pos h]at b
   cases a;cases b;exact .aV _
  ·cases a⟩
theorem Ap{Z:Fz}:∀{l:List (Nat×Nat)} {p:uy} {s:Fr},fx Z p s->fx Z (zC p l) (fh s l)
 |[],_,_,h=>h
 |(k,m)::l,p,s,h=>Ap (l:=l) (p:=Et (aF p k (.box k 0)) k 0 (replicate m .aV)) (s:=rn (i_ s k (dM k 0)) k 0 (replicate m aV)) (fx.rn (h.i_ (.box k 0)) (Cs Z m))
theorem QL{Z:Fz}{p:uy}{s:Fr}(h:fx Z p s)(ws:List Nat):fx Z (LW p ws) (u_ s ws):=by
 intro t;unfold LW u_;cases(blt t 65536&&cK ws t)
 ·exact h t
 ·exact .aV _
theorem Mf{Z:Fz}{p:dC}{s:St}(hr:di Z p s)(ws:List Nat){c:uz}{a:zf c.live}{b:Tup c.live.er}(h:uc Z c.live a b):di Z (YW p ws c a) (mix s ws c.er b):=
 yt (l:=c.live) (p:={p with σ:=zC (LW p.σ ws) c.fJ}) (s:={s with σ:=fh (u_ s.σ ws) c.fJ}) ⟨hr.D,Ap (QL hr.slot ws)⟩ h
theorem yv{Z:Fz}{p:dC}{s:St}(hr:di Z p s):∀{l:List (Nat×Nat)},ql p l=true->kU s l=true
 |[],_=>rfl
 |(k,m)::l,h=>by
  simp only[ql,and_eq_true]at h
  simp only[kU,and_eq_true]
  refine⟨⟨by rw[<- hr.D];exact h.1.1,?_⟩,yv hr h.2⟩
  have h1:=h.1.2
  have hs:=hr.slot k;unfold Ry at h1;split at h1
  ·rename_i k' o he;rw[he]at hs;rw[hs.yz];exact h1
  ·cases h1
theorem LA{Z:Fz}{p:dC}{s:St}(hr:di Z p s){c:uz}{J:zf c.live->Mem->Prop}{J':Tup c.er.live->UW->Prop}{μ:Mem}{u:UW}(h:Ns c J p μ)(hJ:∀a b,uc Z c.live a b->J a μ->J' b u):Um c.er J' s u:=by
 unfold Ns at h;unfold Um;cases hs:ql p c.fJ with
 |false=>rw[hs]at h;exact h.elim
 |true=>
  rw[hs]at h;have:kU s c.er.fJ=true:=yv hr hs;rw[this];simp only[cond_true]at h |-;cases hg:qL p c.live with
  |none=>rw[hg]at h;exact h.elim
  |some a=>
   rw[hg]at h;obtain⟨b,hb,hrb⟩:=yJ hr hg;have je:fZ s c.er.live=some b:=hb;rw[je];exact hJ a b hrb h
theorem tF(P:Program)(r:Bool):∀(f:Nat) (t:TypeId) {ks:List KV},mQ P r f t=some ks->tG P f t=some (ks.map KV.er)
 |0,_,_,h=>by simp[mQ]at h
 |f+1,t,ks,h=>by
  unfold mQ at h
  unfold tG
  cases hu:P.underlying t with
  |none=>rw[hu]at h;cases h
  |some d=>
   rw[hu]at h
   cases d<;>simp only at h |- <;>try (cases h;done)
   case int=>cases h;rfl
   case bool=>cases h;rfl
   case string=>cases h;rfl
   case slice=>cases r<;>(cases h;rfl)
   case pointer=>cases h;rfl
   case func=>cases h;rfl
   case map=>cases h;rfl
   case struct fs=>
    generalize fs.toList=l at h
    induction l generalizing ks with
    |nil=>simp only[List.foldr_nil,Option.some.injEq]at h;subst h;rfl
    |cons x l ih=>
     simp only[List.foldr_cons]at h |-
     split at h
     ·rename_i a b ha hb
      simp only[Option.some.injEq]at h
      subst h
      rw[tF P r f x.type ha,ih _ hb]
      simp
     ·cases h
   case array n e=>
    cases hk:mQ P r f e with
    |none=>rw[hk]at h;cases h
    |some Vn=>
     rw[hk]at h
     simp only[Option.some.injEq]at h
     subst h
     rw[tF P r f e hk]
     simp[List.map_flatten,List.map_replicate]
theorem xp{P:Program}{r:Bool}{t:TypeId}{ks:List KV}(h:lP P r t=some ks):kinds P t=some (ks.map KV.er):=by
 unfold lP at h;unfold kinds;cases hk:mQ P r 8 t with
 |none=>rw[hk]at h;cases h
 |some Vn=>
  rw[hk]at h;rw[tF P r 8 t hk];simp only at h |-;rw[length_map];cases h1:beq Vn.length (P.cellsOf t)with
  |false=>rw[h1]at h;cases h
  |true=>
   rw[h1]at h;cases h2:(dq P t||beq Vn.length 1)with
   |false=>rw[h2]at h;cases h
   |true=>
    rw[h2]at h;simp only[cond_true,Option.some.injEq]at h |-;subst h;rfl
theorem OP{Z:Fz}{k:KV}{F:PV->Prop}(h:aae k F):∃p,p.cell=true/\F p/\∀{G:Value->Prop} {v:Value},bS Z p v->G v->exK k.er G:=by
 cases k with
 |raw k=>
  cases k<;>simp only[aae,exK]at h
  case int=>obtain⟨x,h⟩:=h;exact⟨_,rfl,h,λhr hG=>by rw[hr.ofRaw.1]at hG;exact⟨_,hG⟩⟩
  case bool=>obtain⟨x,h⟩:=h;exact⟨_,rfl,h,λhr hG=>by rw[hr.ofRaw.1]at hG;exact⟨_,hG⟩⟩
  case str=>obtain⟨x,h⟩:=h;exact⟨_,rfl,h,λhr hG=>by rw[hr.ofRaw.1]at hG;exact⟨_,hG⟩⟩
  case slice=>obtain⟨a,n,c,h⟩:=h;exact⟨_,rfl,h,λhr hG=>by rw[hr.ofRaw.1]at hG;exact⟨_,_,_,hG⟩⟩
  case ptr=>obtain⟨x,h⟩:=h;exact⟨_,rfl,h,λhr hG=>by rw[hr.ofRaw.1]at hG;exact⟨_,hG⟩⟩
  case fn=>obtain⟨f,a,b,h⟩:=h;exact⟨_,rfl,h,λhr hG=>by rw[hr.ofRaw.1]at hG;exact⟨_,_,_,hG⟩⟩
  case map=>obtain⟨x,h⟩:=h;exact⟨_,rfl,h,λhr hG=>by rw[hr.ofRaw.1]at hG;exact⟨_,hG⟩⟩
 |list sz=>
  obtain⟨fl,rows,h⟩:=h;exact⟨_,rfl,h,λhr hG=>by obtain⟨a,n,c,rfl,_⟩:=hr.ofList;exact⟨_,_,_,hG⟩⟩
 |fn=>
  obtain⟨f,a,b,h⟩:=h;exact⟨_,rfl,h,λhr hG=>by obtain⟨fv,cv,rfl,_⟩:=hr.ofFn;exact⟨_,_,_,hG⟩⟩
theorem nT{Z:Fz}:∀{ks:List KV} {F:List PV->Prop},OO ks F->∃ps,ps.length=ks.length/\aQ ps=true/\F ps/\∀{G:List Value->Prop} {vs:List Value},cD Z ps vs->G vs->exL (ks.map KV.er) G
 |[],F,h=>⟨[],rfl,rfl,h,λhr hG=>by rw[hr.m_]at hG;exact hG⟩
 |k::ks,F,h=>by
  obtain⟨p,hp,h,hk⟩:=OP (Z:=Z) h
  obtain⟨ps,hl,hc,h,qG⟩:=nT (Z:=Z) h;refine⟨p::ps,by simp[hl],by simp only[aQ,all_cons,hp,Bool.true_and];exact hc,h,λhr hG=>?_⟩;obtain⟨v,vs,rfl,h1,h2⟩:=hr.inv;exact hk h1 (qG (G:=λvs=>_) h2 hG)
theorem AO{Z:Fz}{b:Bool}{ps:List PV}{vs:List Value}(h:bq Z ps vs):bS Z (TW b ps) (Fb b vs):=by
 cases b with
 |true=>exact h.qe
 |false=>
  match ps,h with
  |[],h=>exact .aV _
  |[p],h=>
   obtain⟨v,o_,rfl,h1,h2,h3⟩:=h.inv;rw[h3.m_];exact h2
  |p::p'::ps,h=>exact .aV _
theorem Fc{P:Program}{r:Bool}{t:TypeId}{ks:List KV}(h:lP P r t=some ks){ps:List PV}(hl:ps.length=ks.length)(hc:aQ ps=true):(TW (dq P t) ps).ok=true:=by
 unfold lP at h;split at h
 ·rename_i Vn hk;cases h1:beq Vn.length (P.cellsOf t)with
  |false=>rw[h1]at h;cases h
  |true=>
   rw[h1]at h;cases h2:(dq P t||beq Vn.length 1)with
   |false=>rw[h2]at h;cases h
   |true=>
    rw[h2]at h;simp only[cond_true,Option.some.injEq]at h;subst h;cases ha:dq P t with
    |true=>rfl
    |false=>
     rw[ha]at h2;simp only[Bool.false_or,beq_iff]at h2;rw[h2]at hl
     match ps,hl with
     |[p],_=>
      simp only[aQ,all_cons,List.all_nil,Bool.and_true]at hc;exact PV.EW hc
 ·cases h
theorem xB{Z:Fz}{P:Program}{r:Bool}{t:TypeId}{F:PV->Prop}(h:SA P r t F):∃p,p.ok=true/\F p/\∀{G:Value->Prop} {v:Value},bS Z p v->G v->exV P t G:=by
 unfold SA at h;cases hk:lP P r t with
 |none=>rw[hk]at h;exact h.elim
 |some ks=>
  rw[hk]at h;obtain⟨ps,hl,hc,hF,hex⟩:=nT (Z:=Z) h;refine⟨_,Fc hk hl hc,hF,λ{G v} hr hG=>?_⟩;unfold exV;rw[xp hk];have aG:=Fc hk hl hc;cases ha:dq P t with
  |true=>
   rw[ha]at hr;obtain⟨vs,rfl,nN⟩:=bS.qw (ps:=ps) hr;exact hex (G:=λvs=>G (Fb true vs)) nN.m hG
  |false=>
   rw[ha]at hr aG
   match ps,hr,aG with
   |[],hr,aG=>simp[TW,PV.ok,PV.cell]at aG
   |[p],hr,aG=>exact hex (G:=λvs=>G (Fb false vs)) (cD.cons hr (cD.nil Z)) hG
   |p::p'::ps,hr,aG=>simp[TW,PV.ok,PV.cell]at aG
theorem tQ{Z:Fz}{P:Program}{r:Bool}:∀{ts:List TypeId} {F:List PV->Prop},MJ P r ts F->∃ps,IM ps=true/\F ps/\∀{G:List Value->Prop} {vs:List Value},cD Z ps vs->G vs->KK P ts G
 |[],F,h=>⟨[],rfl,h,λhr hG=>by rw[hr.m_]at hG;exact hG⟩
 |t::ts,F,h=>by
  obtain⟨p,hp,h,hk⟩:=xB (Z:=Z) h
  obtain⟨ps,hc,h,qG⟩:=tQ (Z:=Z) h;refine⟨p::ps,by simp only[IM,all_cons,hp,Bool.true_and];exact hc,h,λhr hG=>?_⟩;obtain⟨v,vs,rfl,h1,h2⟩:=hr.inv;exact hk h1 (qG (G:=λvs=>_) h2 hG)
theorem OM{Z:Fz}{P:Program}{r:Bool}{t:TypeId}{F:PV->Prop}(h:ON P r t F):∃p,F p/\∀{G:Value->Prop} {v:Value},bS Z p v->G v->PO P t G:=by
 unfold ON at h;unfold PO;split at h
 ·rename_i ts hu;obtain⟨ps,_,hF,hex⟩:=tQ (Z:=Z) h;refine⟨_,hF,λ{G v} hr hG=>?_⟩;obtain⟨vs,rfl,hc⟩:=hr.AH;rw[hu];exact hex (G:=λvs=>G (.tuple vs.toArray)) hc.m hG
 ·rename_i hu;obtain⟨p,_,hF,hex⟩:=xB (Z:=Z) h;refine⟨p,hF,λ{G v} hr hG=>?_⟩;split
  ·rename_i ts h2;exact absurd h2 (hu ts)
  ·exact hex hr hG
theorem xS.mono{P:Program}{f:Value}{args:List Value}{w:World}{R R':Ending->World->Prop}(h:xS P f args w R)(hr:∀e w',R e w'->R' e w'):xS P f args w R':=by
 unfold xS at*
 split at h
 ·exact⟨h.1,h.2.mono hr⟩
 ·obtain⟨h1,h2,r,h3,h4,h5⟩:=h;exact⟨h1,h2,r,h3,h4,h5.mono hr⟩
 ·exact h
theorem Lh.mono{P:Program}{f:Value}{args:List Value}{w:World}{F:Nat->Prop}{K K':Value->Nat->World->Prop}(h:Lh P f args w F K)(hk:∀v lo w',Mod F w w'->w.heap.size<=lo->lo<=lo->K v lo w'->K' v lo w'):Lh P f args w F K':=
 λw1 hs=>(h w1 hs).mono λ_ _ ⟨v,w',he,ho,hK⟩=>⟨v,w',he,ho,hk v _ w' ho.umod hs.size (le_refl _) hK⟩
def Wf(u:UW):Prop:=∀b,u.gj b->b<u.heap.size
theorem Wf.ret{u:UW}{lo:Nat}{w':World}(h:Wf u)(hs:u.heap.size<=w'.heap.size):Wf (u.ret lo w'):=λb hb=>hb.elim (λhb=>Nat.lt_of_lt_of_le (h b hb) hs) (λhb=>hb.2)
theorem Wf.born{u:UW}{b:Nat}{w':World}{o:Obj}(h:Wf u)(hb:rl u.toWorld w' b o):Wf (u.born b w'):=λc hc=>hc.elim (λhc=>Nat.lt_of_lt_of_le (h c hc) hb.below.size) (λe=>by subst e;exact(Array.getElem?_eq_some_iff.1 hb.at_).1)
theorem Wf.Jh{u:UW}{b:Nat}{w':World}{o:Obj}(h:Wf u)(hb:Sto u.toWorld w' b o):Wf (u.Jh w'):=λc hc=>Nat.lt_of_lt_of_le (h c hc) hb.size
theorem pz.mono{P:Program}{f:Value}{args:List Value}{u:UW}{K K':Value->UW->Prop}(h:pz P f args u K)
  (hk:∀v lo w',Mod u.gj u.toWorld w'->u.heap.size<=lo->K v (u.ret lo w')->K' v (u.ret lo w')):pz P f args u K':=by
 obtain⟨F,hF,h⟩:=jH.1 h;exact jH.2 ⟨F,hF,h.mono λv lo w' hm hl _ hK=>hk v lo w' ⟨hm.os,hm.tape,hm.output,hm.size,λb hb hn=>hm.cu b hb λhf=>hn (hF b hf)⟩ hl hK⟩
theorem xL{P:Program}{op:BinOp}{t:TypeId}{x y:Value}{K K':Value->Prop}(h:pM P op t x y K)(hk:∀v,plain v=true->one v=true->K v->K' v):pM P op t x y K':=by
 unfold pM at h |-;split at h
 ·try simp only
  obtain⟨hc,h⟩:=aq h;rw[hc]
  try simp only[cond_true]
  unfold xq at h |-;split at h<;>(try simp only)<;>first|exact hk _ rfl rfl h|exact⟨h.1,hk _ rfl rfl h.2⟩|exact h.elim
 ·try simp only
  unfold Ac at h |-;split at h<;>(try simp only)<;>first|exact hk _ rfl rfl h|exact⟨h.1,hk _ rfl rfl h.2⟩|exact h.elim
 ·try simp only
  split at h
  ·rename_i hu;(try rw[hu]);try simp only
   split at h<;>(try simp only)<;>first|exact hk _ rfl rfl h|exact h.elim
  ·exact h.elim
 ·try simp only
  split at h
  ·exact h.elim
  ·rename_i hu;(try rw[hu]);try simp only
   obtain⟨hc,h⟩:=aq h;rw[hc];simp only[cond_true];split at h
   ·rename_i hu;(try rw[hu]);try simp only
    split at h<;>(try simp only)<;>first|exact hk _ rfl rfl h|exact h.elim
   ·exact h.elim
 ·try simp only
  split at h
  ·rename_i hu;(try rw[hu]);try simp only
   split at h<;>(try simp only)<;>first|exact hk _ rfl rfl h|exact h.elim
  ·exact h.elim
 ·try simp only
  split at h
  ·rename_i hu;(try rw[hu]);try simp only
   split at h<;>(try simp only)<;>first|exact hk _ rfl rfl h|exact h.elim
  ·exact h.elim
 ·try simp only
  split at h
  ·rename_i hu;(try rw[hu]);try simp only
   split at h<;>(try simp only)<;>first|exact hk _ rfl rfl h|exact h.elim
  ·exact h.elim
 ·exact h.elim
theorem Wu{P:Program}{op:BinOp}{t:TypeId}{f:Fn}{a b a' b':Array Value}{K:Value->Prop}(h:pM P op t (.func f a b) .nilFunc K):pM P op t (.func f a' b') .nilFunc K:=h
theorem wG{Z:Fz}:∀{ps:List PV} {vs ws:List Value},jK ps=some vs->bq Z ps ws->ws=vs
 |[],vs,ws,h,hr=>by simp only[jK,Option.some.injEq]at h;subst h;exact hr.m_
 | .raw v::ps,vs,ws,h,hr=>by
   simp only[jK]at h
   cases hu:jK ps with
   |none=>rw[hu]at h;cases h
   |some us=>
    rw[hu]at h
    simp only[Option.some.injEq]at h
    subst h
    obtain⟨w,ws',rfl,h1,h2,h3⟩:=hr.inv
    rw[h2.ofRaw.1,wG hu h3]
 | .list .. ::_,_,_,h,_=>by simp[jK]at h
 | .bk .. ::_,_,_,h,_=>by simp[jK]at h
 | .fn .. ::_,_,_,h,_=>by simp[jK]at h
 | .agg .. ::_,_,_,h,_=>by simp[jK]at h
 | .aA .. ::_,_,_,h,_=>by simp[jK]at h
 | .iface .. ::_,_,_,h,_=>by simp[jK]at h
 | .box .. ::_,_,_,h,_=>by simp[jK]at h
 | .aV::_,_,_,h,_=>by simp[jK]at h
theorem Tu{Z:Fz}{P:Program}{op:BinOp}{t:TypeId}{x y:PV}{a b:Value}{KP:PV->Prop}{K:Value->Prop}(hx:bS Z x a)(hy:bS Z y b)(h:Tv P op t x y KP)(hk:∀p v,bS Z p v->KP p->K v):pM P op t a b K:=by
 unfold Tv at h;split at h
 ·rw[hx.ofRaw.1,hy.ofRaw.1];exact xL h λv h1 h2 hv=>hk _ v (.raw v h1 h2) hv
 ·rename_i as bs;cases h1:jK as with
  |none=>rw[h1]at h;exact h.elim
  |some us=>
   cases h2:jK bs with
   |none=>rw[h1,h2]at h;exact h.elim
   |some ws=>
    rw[h1,h2]at h;obtain⟨vs,rfl,hc⟩:=hx.qw;obtain⟨o_,rfl,sH⟩:=hy.qw;rw[wG h1 hc,wG h2 sH];exact xL h λv h1 h2 hv=>hk _ v (.raw v h1 h2) hv
 ·obtain⟨fv,cv,rfl,_⟩:=hx.ofFn;rw[hy.ofRaw.1];exact xL (Wu h) λv h1 h2 hv=>hk _ v (.raw v h1 h2) hv
 ·exact h.elim
theorem wV{P:Program}{t:TypeId}{v:Value}(h:(match P.underlying t with|some (.interface _)=>false|some _=>true|none=>false)=true):pv P (Instr.makeInterface t v)=some (.iface t v):=by
 unfold Instr.makeInterface underlying program;simp only[bind,Sem.bind,pv];cases hu:P.underlying t with
 |none=>rw[hu]at h;cases h
 |some d=>
  rw[hu]at h;cases d<;>first|(simp at h;done)|rfl
theorem Ei{Z:Fz}{p:PV}{v:Value}(h:bS Z p v)(hk:p.ok=true):v.cells.size=p.cells.length:=by
 have:=(h.cells hk).1;simpa using this
theorem IF{Z:Fz}{P:Program}{fs:Array Field}:∀{ps:List (Nat×PV)} {vs:List (Nat×Value)} {cs:List PV} {ds:List Value} {r:List PV},ps.length=vs.length->
  (∀(i:Nat) x y,ps[i]?=some x->vs[i]?=some y->x.1=y.1/\x.2.ok=true/\bS Z x.2 y.2)->bq Z cs ds->IG P fs ps cs=some r->∃w,Ld P fs vs ds=some w/\bq Z r w
 |[],[],cs,ds,r,_,_,hc,h=>by simp only[IG,Option.some.injEq]at h;subst h;exact⟨ds,rfl,hc⟩
 |[],_::_,_,_,_,hl,_,_,_=>by simp at hl
 |_::_,[],_,_,_,hl,_,_,_=>by simp at hl
 |(i,p)::ps,(i',v)::vs,cs,ds,r,hl,hp,hc,h=>by
  obtain⟨e1,e2,e3⟩:=hp 0 _ _ rfl rfl
  simp only at e1 e2 e3;subst e1;simp only[IG]at h;simp only[Ld];split at h
  ·rename_i f hf;have hlen:=Ei e3 e2;cases hb:(beq p.cells.length (P.cellsOf f.type)&&ble (f.offset+p.cells.length) cs.length&&(P.info? f.type).isSome)with
   |false=>rw[hb]at h;cases h
   |true=>
    rw[hb]at h;simp only[cond_true]at h;have je:(beq v.cells.size (P.cellsOf f.type)&&ble (f.offset+v.cells.size) ds.length&&(P.info? f.type).isSome)=true:=by rw[hlen,hc.1];exact hb
    rw[hf];simp only[je,cond_true];refine IF (by simpa using hl) (λi x y a b=>hp (i+1) x y (by simpa using a) (by simpa using b)) ?_ h;rw[hlen];exact((hc.take _).append (e3.cells e2)).append (hc.drop _)
  ·cases h
theorem IH{α:Type}{b:Bool}{x:Option α}{y:α}(h:(bif b then x else none)=some y):b=true/\x=some y:=by
 cases b with
 |false=>cases h
 |true=>exact⟨rfl,h⟩
theorem BF{Z:Fz}{size:Nat}:∀{i:Nat} {ps:List (Nat×PV)} {vs:List (Nat×Value)} {rows:Lq},ps.length=vs.length->
  (∀(i:Nat) x y,ps[i]?=some x->vs[i]?=some y->x.1=y.1/\x.2.ok=true/\bS Z x.2 y.2)->BH size i ps=some rows->∃w,oQ size i vs=some w/\bq Z rows.flatten w/\rows.length=ps.length/\∀r∈rows,r.length=size
 |i,[],[],rows,_,_,h=>by simp only[BH,Option.some.injEq]at h;subst h;exact⟨[],rfl,bq.nil Z,rfl,by simp⟩
 |_,[],_::_,_,hl,_,_=>by simp at hl
 |_,_::_,[],_,hl,_,_=>by simp at hl
 |i,(j,pp)::ps,(j',v)::vs,rows,hl,hp,h=>by
  obtain⟨e1,e2,e3⟩:=hp 0 _ _ rfl rfl
  simp only at e1 e2 e3;subst e1;simp only[BH]at h;simp only[oQ];have hlen:=Ei e3 e2;cases hb:(beq i j&&beq pp.cells.length size)with
  |false=>rw[hb]at h;cases h
  |true=>
   rw[hb]at h;have je:(beq i j&&beq v.cells.size size)=true:=by rw[hlen];exact hb
   rw[je];simp only[cond_true]at h |-;cases Jm:BH size (i+1) ps with
   |none=>rw[Jm]at h;cases h
   |some rs=>
    rw[Jm]at h;simp only[Option.some.injEq]at h;subst h;obtain⟨w,hw,eL,tK,DR⟩:=BF (vs:=vs) (by simpa using hl) (λi x y a b=>hp (i+1) x y (by simpa using a) (by simpa using b)) Jm;rw[hw];refine⟨_,rfl,(e3.cells e2).wk.append eL,by simp[tK],λr hr=>?_⟩;simp only[List.mem_cons]at hr;rcases hr with rfl|hr
    ·simp only[length_map];simp only[and_eq_true,beq_iff]at hb;exact hb.2
    ·exact DR r hr
theorem Ww{Z:Fz}{P:Program}{t:TypeId}{ps:List (Nat×PV)}{vs:List (Nat×Value)}{r:List PV}(hl:ps.length=vs.length)
  (hp:∀(i:Nat) x y,ps[i]?=some x->vs[i]?=some y->x.1=y.1/\x.2.ok=true/\bS Z x.2 y.2) (h:aaK P t ps=some r):∃w,Wx P t vs=some w/\bq Z r w:=by
 unfold aaK at h;unfold Wx;split at h
 ·rename_i z fs hz hu;rw[hz,hu];simp only;cases hb:((nu P t z).ok&&dq P t&&fs.toList.all λf=>(P.info? f.type).isSome)with
  |false=>rw[hb]at h;cases h
  |true=>
   rw[hb]at h;simp only[cond_true]at h;have je:(fs.toList.all λf=>(P.info? f.type).isSome)=true:=by
    simp only[and_eq_true]at hb;exact hb.2
   rw[je];simp only[cond_true];split at h
   ·rename_i cs nN;have hz:=(zF Z z).gm (P:=P) (t:=t);have Ot:bS Z (.agg cs) z:=by rw[<- nN];exact hz
    obtain⟨ds,rfl,hc⟩:=Ot.qw;refine IF (by simpa using hl) (λi x y a b=>?_) hc h;rw[getElem?_map]at a;cases hx:ps[i]? with
    |none=>simp[hx]at a
    |some x0=>
     simp only[hx,map_some,Option.some.injEq]at a;obtain⟨e1,e2,e3⟩:=hp i x0 y hx b;subst a;refine⟨e1,?_,?_⟩
     ·simp only;split
      ·rw[oA];exact e2
      ·exact e2
     ·simp only;split
      ·exact e3.gm
      ·exact e3
   ·cases h
 ·rename_i z len e hz hu;rw[hz,hu];simp only;obtain⟨hb,h⟩:=IH h;simp only[and_eq_true]at hb;rw[<- hl,hb.1.1,hb.1.2,hb.2];simp only[Bool.and_true,cond_true];split at h
  ·rename_i rows RG;simp only[Option.some.injEq]at h;subst h
   obtain⟨w,hw,eL,_⟩:=BF (Z:=Z) (vs:=vs) (by simpa using hl) (λi x y a b=>by
    rw[getElem?_map]at a
    cases hx:ps[i]? with
    |none=>simp[hx]at a
    |some x0=>
     simp only[hx,map_some,Option.some.injEq]at a
     obtain⟨e1,e2,e3⟩:=hp i x0 y hx b
     subst a
     exact⟨e1,by rw[oA];exact e2,e3.gm⟩) RG
   exact⟨w,hw,eL⟩
  ·cases h
 ·cases h
theorem Wa{Z:Fz}{P:Program}{e:TypeId}{off:Nat}{cs:List PV}{vs:List Value}{p:PV}(hc:bq Z cs vs)(h:aaf P e off cs=some p):∃v,OQ P e off vs=some v/\p.ok=true/\bS Z p v:=by
 unfold aaf at h;unfold OQ;obtain⟨hb,h⟩:=IH h;rw[hc.1,hb];simp only[cond_true];cases ha:dq P e with
 |true=>
  rw[ha]at h;simp only[cond_true,Option.some.injEq]at h |-;subst h;exact⟨_,rfl,rfl,((hc.drop _).take _).qe⟩
 |false=>
  rw[ha]at h;simp only[cond_false]at h |-;obtain⟨v,hv,hk,hr⟩:=hc.get h;exact⟨v,hv,PV.EW hk,hr⟩
theorem VY{Z:Fz}{P:Program}{t:TypeId}{f:Nat}{cs:List PV}{vs:List Value}{p:PV}(hc:bq Z cs vs)(h:aab P t f cs=some p):∃v,CM P t f vs=some v/\p.ok=true/\bS Z p v:=by
 unfold aab at h;unfold CM;split at h
 ·rename_i fs hu;rw[hu];simp only;split at h
  ·rename_i x hx;rw[hx];simp only;rw[hc.1];cases hb:((P.underlying x.type).isSome&&ble (x.offset+P.cellsOf x.type) cs.length)with
   |false=>rw[hb]at h;cases h
   |true=>
    rw[hb]at h;simp only[cond_true]at h |-;cases ha:dq P x.type with
    |true=>
     rw[ha]at h;simp only[cond_true,Option.some.injEq]at h |-;subst h;exact⟨_,rfl,rfl,((hc.drop _).take _).qe⟩
    |false=>
     rw[ha]at h;simp only[cond_false]at h |-;obtain⟨v,hv,hk,hr⟩:=hc.get h;exact⟨v,hv,PV.EW hk,hr⟩
  ·cases h
 ·cases h
theorem gk{Z:Fz}{p:dC}{s:St}(hr:di Z p s){x:Option Operand}{d i:Int}(h:ig (sJ p.σ) x d=some i):dA (ev s.σ) x d=some i:=by
 unfold ig at h;unfold dA;split at h
 ·exact h
 ·rename_i x;split at h
  ·rename_i k j he;have:=hr.ev x;rw[he]at this;show(match ev s.σ x with| .int _ i=>some i|_=>none)=some i;rw[this.ofRaw.1];exact h
  ·cases h
theorem Bc{Z:Fz}{p:dC}{s:St}(hr:di Z p s):∀{xs:List Operand} {r:IntKind×List Int},Be (sJ p.σ) xs=some r->nc (ev s.σ) xs=some r
 |[],_,h=>by simp[Be]at h
 |[x],r,h=>by
  simp only[Be]at h
  split at h
  ·rename_i k i he
   have:=hr.ev x
   rw[he]at this;simp only[nc,this.ofRaw.1];exact h
  ·cases h
 |x::y::l,r,h=>by
  simp only[Be]at h;split at h
  ·rename_i k i k' is he h2;have:=hr.ev x;rw[he]at this;have ih:=Bc (xs:=y::l) hr h2;simp only[nc,this.ofRaw.1,ih];exact h
  ·cases h
theorem Dl{Z:Fz}{sz size:Nat}{fl km:Fl}{rows:Lq}{a:Option Addr}{n c l h m:Nat}(hr:bS Z (.list sz fl rows) (.slice a n c))(fH:qv size sz rows=true)(h1:l<=h)(h2:h<=rows.length)(h3:h<=m)(hf:TU km (yZ a l m size) (h-l) (m-l)):
  bS Z (.list size km ((rows.take h).drop l)) (.slice (yZ a l m size) (h-l) (m-l)):=by
 cases hr with
 |list _ _ _ _ _ _ b o C g hn hc hs TX ha hg hk hp hf0=>
  have DQ:m-l=0\/iq (yZ a l m size):=by
   unfold yZ;split
   ·left;omega
   ·right;intro x hx;cases a with
    |none=>cases hx
    |some y=>simp only[map_some,Option.some.injEq]at hx;subst hx;rfl
  have hlen:((rows.take h).drop l).length=h-l:=by simp;omega
  by_cases h0:h-l=0
  ·have tI:(rows.take h).drop l=[]:=List.eq_nil_of_length_eq_zero (by omega);rw[tI];refine .list size km [] _ (h-l) _ 0 0 [] (λ_ _=>undef) (by simp;omega) (by omega) DQ (by simp) (λh=>absurd h0 h) (λi j hi=>by omega) (by simp) (by simp) hf
  ·have PE:n≠0:=by omega
   have Oy:sz=size:=by
    unfold qv at fH;cases hb:beq sz size with
    |true=>exact beq_iff.1 hb
    |false=>
     rw[hb]at fH;simp only[cond_false]at fH;split at fH
     ·simp at h2;omega
     ·cases fH
   subst Oy;obtain⟨ea,ez⟩:=ha PE;subst ea;have aZ:m≠l:=by omega
   refine .list sz km _ _ (h-l) _ b (o+l*sz) C (λi j=>g (i+l) j) hlen (by omega) DQ ?_ ?_ ?_ ?_ ?_ hf
   ·intro r hr;exact TX r (List.mem_of_mem_take (List.mem_of_mem_drop hr))
   ·intro _;refine⟨?_,ez⟩;unfold yZ;rw[if_neg aZ];rfl
   ·intro i j hi hj;have:=hg (i+l) j (by omega) hj;rw[<- this];congr 1;rw[add_mul];omega
   ·intro i j row p hi hj;rw[getElem?_drop,getElem?_take]at hi;split at hi
    ·exact hk (l+i) j row p hi hj
    ·cases hi
   ·intro i j row p hi hj;rw[getElem?_drop,getElem?_take]at hi;split at hi
    ·have:=hp (l+i) j row p hi hj;rw[Nat.add_comm]at this;exact this
    ·cases hi
theorem bS.JY{Z:Fz}{row:List PV}{o:Nat}{w:Value}(h:bS Z (.bk row o) w):∃(b off:Nat) (C:List Value) (g:Nat->Value),w=.pointer (some ⟨b,off+o,none⟩)/\Z b=some C/\(∀j:Nat,j<row.length->C[off+j]?=some (g j))/\(∀(j:Nat) p,row[j]?=some p->p.cell=true)/\∀(j:Nat) p,row[j]?=some p->bS Z p (g j):=by
 cases h with
 |bk _ _ b off C g hz hg hk hp=>exact⟨b,off,C,g,rfl,hz,hg,hk,hp⟩
theorem IL{Z:Fz}{p:dC}{s:St}(hr:di Z p s){l:List Operand}(h:l.all (λx=>(sJ p.σ x).ok)=true):bp Z (l.map (sJ p.σ)) (l.map (ev s.σ)):=by
 induction l with
 |nil=>exact bp.nil Z
 |cons x l ih=>
  simp only[all_cons,and_eq_true]at h;exact bp.cons h.1 (hr.ev x) (ih h.2)
theorem kZ{Z:Fz}{p:dC}{s:St}(hr:di Z p s){l:List Operand}(h:l.all (λx=>(sJ p.σ x).ok)=true):l.all (λx=>plain (ev s.σ x))=true:=by
 rw[all_eq_true]at h |-;exact λx hx=>(hr.ev x).plain (h x hx)
def oG(o:Oper):Bool:=match o.op with| .load .. =>true|_=>false
theorem Gb{E:kD}{q:Bool}{fz:List Nat}{o:Oper}{p:dC}{s:St}{μ:Mem}{u:UW}{KP:dC->Mem->Prop}{K:St->UW->Prop}{Z:Fz}(hr:di Z p s)(gX:bw o=true)(hl:oG o=false)
  (hK:∀p' s',di Z p' s'->KP p' μ->K s' u) (h:V1 E q fz o p μ KP):W1 E.er fz o s u K:=by
 unfold bw at gX;unfold oG at hl;unfold V1 at h;unfold W1;simp only at h |-;cases Ms:o.op<;>simp only[Ms]at h gX hl |- <;>first|(cases gX;done)|(cases hl;done)|skip
 case move x=>exact hK _ _ (hr.fin o (hr.ev x).gm) h
 case assign x=>exact hK _ _ (hr.fin o (hr.ev x).gm) h
 case pick c a b=>
  split at h
  ·rename_i t he;have hc:=hr.ev c;rw[he]at hc;rw[hc.ofRaw.1];cases t
   ·exact hK _ _ (hr.fin o (hr.ev b).gm) h
   ·exact hK _ _ (hr.fin o (hr.ev a).gm) h
  ·exact h.elim
 case build t ps=>
  obtain⟨hc,h⟩:=aq h;have pJ:(ps.toList.all λp=>plain (ev s.σ p.2))=true:=by
   rw[all_eq_true]at hc |-;exact λx hx=>(hr.ev x.2).plain (hc x hx)
  rw[pJ];simp only[cond_true];split at h
  ·rename_i vs hb
   obtain⟨w,hw,eL⟩:=Ww (Z:=Z) (vs:=ps.toList.map λp=>(p.1,ev s.σ p.2)) (by simp) (λi x y a b=>by
    rw[getElem?_map]at a b
    cases hi:ps.toList[i]? with
    |none=>rw[hi]at a;cases a
    |some z=>
     rw[hi]at a b
     simp only[map_some,Option.some.injEq]at a b
     subst a;subst b
     exact⟨rfl,all_eq_true.1 hc z (mem_of_getElem? hi),hr.ev z.2⟩) hb
   have Vu:Wx E.er.P t (ps.toList.map λp=>(p.1,ev s.σ p.2))=some w:=hw;rw[Vu];exact hK _ _ (hr.fin o eL.qe) h
  ·exact h.elim
 case nilCheck x=>
  have hx:=hr.ev x;split at h
  ·rename_i k off he;rw[he]at hx;rw[hx.yz];exact hK _ _ (hr.fin o (.box k off)) h
  ·rename_i row off he;rw[he]at hx;obtain⟨b,of,C,g,hv,hz,hg,hk,hp⟩:=hx.JY;rw[hv];exact hK _ _ (hr.fin o (.bk row off b of C g hz hg hk hp)) h
  ·rename_i a he;rw[he]at hx;rw[hx.ofRaw.1];cases a with
   |none=>exact h.elim
   |some a=>exact hK _ _ (hr.fin o (.raw _ rfl rfl)) h
  ·rename_i f a b he;rw[he]at hx;obtain⟨fv,cv,hv,h1,h2⟩:=hx.ofFn;rw[hv];cases f with
   |method n=>exact h.elim
   |_=>exact hK _ _ (hr.fin o (bp.Ex h1 h2)) h
  ·exact h.elim
 case binOp op t x y ft=>exact Tu (hr.ev x) (hr.ev y) h λpp v hv hk=>hK _ _ (hr.fin o hv) hk
 case unOp op t x=>
  have hx:=hr.ev x;split at h
  ·rename_i b he;rw[he]at hx;rw[hx.ofRaw.1];exact hK _ _ (hr.fin o (.raw _ rfl rfl)) h
  ·rename_i k n he;rw[he]at hx;rw[hx.ofRaw.1];exact hK _ _ (hr.fin o (.raw _ rfl rfl)) h
  ·exact h.elim
 case convert src dst x=>
  have hx:=hr.ev x;split at h
  ·rename_i v he;rw[he]at hx;obtain⟨e1,e2,e3⟩:=hx.ofRaw;rw[e1,e2];simp only[cond_true];split at h
   ·rename_i v' hv;have hv':pv E.er.P (convert src dst v)=some v':=hv;rw[hv'];obtain⟨hc,h⟩:=aq h;simp only[and_eq_true]at hc;simp only[hc.1,cond_true];exact hK _ _ (hr.fin o (.raw _ hc.1 hc.2)) h
   ·exact h.elim
  ·exact h.elim
 case makeInterface t x=>
  have hx:=hr.ev x;obtain⟨hc,h⟩:=aq h;simp only[and_eq_true]at hc;rw[hx.plain hc.1];simp only[cond_true];have hm:pv E.er.P (Instr.makeInterface t (ev s.σ x))=some (.iface t (ev s.σ x)):=wV hc.2;rw[hm];simp only[plain,cond_true];exact hK _ _ (hr.fin o (.iface t _ _ hc.1 hx)) h
 case makeFunc fn first tW=>
  obtain⟨hc,h⟩:=aq h;simp only[and_eq_true]at hc;rw[kZ hr hc.1,kZ hr hc.2];simp only[Bool.and_self,cond_true];have wkR:∀{l:List Operand},l.all (λx=>(sJ p.σ x).ok)=true->bp Z (l.map λx=>wk (sJ p.σ x)) (l.map (ev s.σ)):=by
   intro l hl;induction l with
   |nil=>exact bp.nil Z
   |cons x l ih=>
    simp only[all_cons,and_eq_true]at hl;exact bp.cons (by rw[ab5];exact hl.1) (hr.ev x).wk (ih hl.2)
  exact hK _ _ (hr.fin o (bp.Ex (wkR hc.1) (wkR hc.2))) h
 case slice t x lo hi mx=>
  have hx:=hr.ev x;split at h
  ·rename_i e sz fl rows hu he;have gp:E.er.P.underlying t=some (.slice e):=hu;rw[he]at hx;obtain⟨a,n,c,hv,hn,hc,hs,hf⟩:=hx.ofList;rw[gp,hv];simp only;rw[hv]at hx;split at h
   ·rename_i l hh m e1 e2 e3;have e1':=gk hr e1;rw[hn]at e2;have e2':=gk hr e2;cases hb:((mx.isSome&&hi.isNone)||(E.P.info? e).isNone|| !qv (E.P.cellsOf e) sz rows)with
    |true=>rw[hb]at h;exact h.elim
    |false=>
     rw[hb]at h;simp only[cond_false]at h;simp only[Bool.or_eq_false_iff,Bool.not_eq_false']at hb;have GD:((mx.isSome&&hi.isNone)||(E.er.P.info? e).isNone)=false:=by
      rw[Bool.or_eq_false_iff];exact hb.1
     cases mx with
     |none=>
      simp only at h;obtain⟨g1,g2,g3,h⟩:=h;have e3':dA (ev s.σ) none (c:Int)=some (c:Int):=rfl;rw[e1',e2',e3'];simp only[GD,cond_false];refine⟨hs.elim (λh0=>.inl (by omega)) .inr,g1,g2,by omega,by omega,hK _ _ (hr.fin o ?_) h⟩;exact Dl hx hb.2 (by omega) (by omega) (by omega) trivial
     |some y=>
      simp only at h;obtain⟨g1,g2,g3,g4,h⟩:=h;have e3':dA (ev s.σ) (some y) (c:Int)=some m:=by
       have:ig (sJ p.σ) (some y) (c:Int)=some m:=by
        unfold ig at e3 |-;exact e3
       exact gk hr this
      rw[e1',e2',e3'];simp only[GD,cond_false];subst g4;refine⟨hs.elim (λh0=>.inl (by omega)) .inr,g1,g2,by omega,by omega,hK _ _ (hr.fin o ?_) h⟩;exact Dl hx hb.2 (by omega) (by omega) (by omega) rfl
   ·exact h.elim
  ·rename_i e a len cap hu he;have gp:E.er.P.underlying t=some (.slice e):=hu;rw[he]at hx;rw[gp,hx.ofRaw.1];simp only;split at h
   ·rename_i l hh m e1 e2 e3;rw[gk hr e1,gk hr e2,gk hr e3];simp only;cases hb:((mx.isSome&&hi.isNone)||(E.P.info? e).isNone)with
    |true=>rw[hb]at h;exact h.elim
    |false=>
     rw[hb]at h;have je:((mx.isSome&&hi.isNone)||(E.er.P.info? e).isNone)=false:=hb;rw[je];simp only[cond_false]at h |-;obtain⟨g1,g2,g3,g4,g5,h⟩:=h;exact⟨.inr g1,g2,g3,g4,g5,hK _ _ (hr.fin o (.raw _ rfl rfl)) h⟩
   ·exact h.elim
  ·rename_i st hu he;have gp:E.er.P.underlying t=some .string:=hu;rw[he]at hx;rw[gp,hx.ofRaw.1];simp only;cases mx with
   |some _=>exact h.elim
   |none=>
    simp only at h |-;split at h
    ·rename_i l hh e1 e2;rw[gk hr e1,gk hr e2];obtain⟨g1,g2,g3,h⟩:=h;exact⟨g1,g2,g3,hK _ _ (hr.fin o (.raw _ rfl rfl)) h⟩
    ·exact h.elim
  ·exact h.elim
 case fieldAddr t x f=>
  have hx:=hr.ev x;cases hd:CO E.P t f with
  |none=>rw[hd]at h;exact h.elim
  |some d=>
   rw[hd]at h;have PL:CO E.er.P t f=some d:=hd;rw[PL];simp only at h |-;split at h
   ·rename_i k off he;rw[he]at hx;rw[hx.yz];exact hK _ _ (hr.fin o (.box k (off+d))) h
   ·rename_i row off he;rw[he]at hx;obtain⟨b,of,C,g,hv,hz,hg,hk,hp⟩:=hx.JY;rw[hv];refine hK _ _ (hr.fin o ?_) h;have:=bS.bk (Z:=Z) row (off+d) b of C g hz hg hk hp;rw[<- add_assoc]at this;exact this
   ·unfold aU at h;split at h
    ·rename_i b off he;rw[he]at hx;rw[hx.ofRaw.1];exact hK _ _ (hr.fin o (.raw _ rfl rfl)) h
    ·exact h.elim
 case field t x f=>
  have hx:=hr.ev x;split at h
  ·rename_i cs he;rw[he]at hx;obtain⟨vs,hv,hc⟩:=hx.qw;rw[hv];simp only;split at h
   ·rename_i pp hf;obtain⟨v,hv2,hk,hrp⟩:=VY hc hf;have agL:CM E.er.P t f vs=some v:=hv2;rw[agL];simp only[hrp.plain hk,cond_true];exact hK _ _ (hr.fin o hrp) h
   ·exact h.elim
  ·exact h.elim
 case indexAddr t x i=>
  have hx:=hr.ev x;have hi:=hr.ev i;split at h
  ·rename_i e sz fl rows k j hu he hj;have gp:E.er.P.underlying t=some (.slice e):=hu;rw[he]at hx;rw[hj]at hi;obtain⟨hc,g1,row,dS,h⟩:=aq h;simp only[and_eq_true,beq_iff]at hc;have ZN:(E.er.P.info? e).isSome=true:=hc.1;cases Zc:ev s.σ x with
   |slice a n c=>
    rw[Zc]at hx;rw[gp,hi.ofRaw.1];simp only[ZN,cond_true];cases hx with
    |list _ _ _ _ _ _ b of C g hn MC hs TX ha hg hk hp hf=>
     have bG:j.toNat<n:=by rw[<- hn];exact(List.getElem?_eq_some_iff.1 dS).1
     obtain⟨ea,ez⟩:=ha (by omega);subst ea;refine⟨g1,by omega,hK _ _ (hr.fin o ?_) h⟩;have fH:sz=E.er.P.cellsOf e:=hc.2;have Cd:row.length=sz:=TX row (mem_of_getElem? dS);have:=bS.bk (Z:=Z) row 0 b (of+j.toNat*sz) C (λjj=>g j.toNat jj) ez (λjj hjj=>hg _ _ bG (by omega)) (λjj pp Mr=>hk _ _ _ _ dS Mr) (λjj pp Mr=>hp _ _ _ _ dS Mr);rw[<- fH];exact this
   |_=>rw[Zc]at hx;cases hx
  ·rename_i e a len cap k j hu he hj;have gp:E.er.P.underlying t=some (.slice e):=hu;rw[he]at hx;rw[hj]at hi;obtain⟨hc,h⟩:=aq h;have ZN:(E.er.P.info? e).isSome=true:=hc;rw[gp,hx.ofRaw.1,hi.ofRaw.1];simp only[ZN,cond_true];obtain⟨b,off,rfl,h1,h2,h⟩:=gi h;exact⟨h1,h2,hK _ _ (hr.fin o (.raw _ rfl rfl)) h⟩
  ·rename_i len e k off k' j hu he hj;have gp:E.er.P.underlying t=some (.array len e):=hu;rw[he]at hx;rw[hj]at hi;obtain⟨hc,h⟩:=aq h;have ZN:(decide (0<=j)&&decide (j<len)&&(E.er.P.info? e).isSome)=true:=hc;rw[gp,hx.yz,hi.ofRaw.1];simp only[ZN,cond_true];exact hK _ _ (hr.fin o (.box k _)) h
  ·exact h.elim
 case index t x i=>
  have hx:=hr.ev x;have hi:=hr.ev i;split at h
  ·rename_i st k j hu he hj;have gp:E.er.P.underlying t=some .string:=hu;rw[he]at hx;rw[hj]at hi;rw[gp,hx.ofRaw.1,hi.ofRaw.1];obtain⟨h1,c,hc,h⟩:=h;exact⟨h1,c,hc,hK _ _ (hr.fin o (.raw _ rfl rfl)) h⟩
  ·rename_i len e cs k j hu he hj;have gp:E.er.P.underlying t=some (.array len e):=hu;rw[he]at hx;rw[hj]at hi;obtain⟨ds,hds,hc⟩:=hx.qw;rw[gp,hds,hi.ofRaw.1];obtain⟨fT,h1,h2,h⟩:=aq h;obtain⟨q,hq,⟨PI,h⟩,_⟩:=xB (Z:=Z) h;obtain⟨v,hv,aG,hrv⟩:=Wa hc PI;exact⟨h1,h2,fT,v,hv,hrv.plain aG,hK _ _ (hr.fin o hrv) h⟩
  ·exact h.elim
 case extract x i=>
  have hx:=hr.ev x;split at h
  ·rename_i vs he;rw[he]at hx;obtain⟨ws,hv,hs⟩:=hx.AH;rw[hv];simp only;split at h
   ·rename_i pp hp;obtain⟨hk,h⟩:=aq h;obtain⟨w,hw,_,Jl⟩:=hs.get hp;have Vu:ws.toArray[i]?=some w:=by simpa using hw
    rw[Vu];simp only[Jl.plain hk,cond_true];exact hK _ _ (hr.fin o Jl) h
   ·exact h.elim
  ·exact h.elim
 case call c=>
  obtain⟨cal,args,ats⟩:=c;cases cal with
  |value f=>cases gX
  |invoke x n=>cases gX
  |builtin b=>
   simp only at h gX |-;unfold V1b at h;unfold W1b;generalize args.toList=al at h |-;generalize ats.toList=tl at h |-;cases b<;>first|(cases gX;done)|skip
   case len=>
    match al,tl,h with
    |[x],[t],h=>
     have hx:=hr.ev x;simp only at h |-;split at h
     ·rename_i e sz fl rows hu he;have gp:E.er.P.underlying t=some (.slice e):=hu;rw[he]at hx;obtain⟨a,n,c,hv,hn,_⟩:=hx.ofList;rw[gp,hv,<- hn];exact hK _ _ (hr.fin o (.raw _ rfl rfl)) h
     ·rename_i e a n c hu he;have gp:E.er.P.underlying t=some (.slice e):=hu;rw[he]at hx;rw[gp,hx.ofRaw.1];exact hK _ _ (hr.fin o (.raw _ rfl rfl)) h
     ·rename_i st hu he;have gp:E.er.P.underlying t=some .string:=hu;rw[he]at hx;rw[gp,hx.ofRaw.1];exact hK _ _ (hr.fin o (.raw _ rfl rfl)) h
     ·rename_i n e hu;have gp:E.er.P.underlying t=some (.array n e):=hu;obtain⟨hk,h⟩:=aq h;rw[gp];simp only[hx.plain hk,cond_true];exact hK _ _ (hr.fin o (.raw _ rfl rfl)) h
     ·exact h.elim
    |[],_,h=>exact h.elim
    |[_],[],h=>exact h.elim
    |[_],_::_::_,h=>exact h.elim
    |_::_::_,_,h=>exact h.elim
   case min=>
    simp only at h |-;split at h
    ·rename_i k i is he;rw[Bc hr he];exact hK _ _ (hr.fin o (.raw _ rfl rfl)) h
    ·exact h.elim
   case max=>
    simp only at h |-;split at h
    ·rename_i k i is he;rw[Bc hr he];exact hK _ _ (hr.fin o (.raw _ rfl rfl)) h
    ·exact h.elim
theorem zg.go{Z Z':Fz}{u u':UW}{b:Nat}{o:Ob}(h:zg Z u b o)(hz:Z.le Z')(hb:Z' b=Z b)(hh:u'.heap[b]?=u.heap[b]?):zg Z' u' b o:=by
 cases o with
 |cells T cs=>
  obtain⟨h1,A,h2,h3⟩:=h;exact⟨by rw[hb];exact h1,A,by rw[hh];exact h2,h3.mono hz⟩
 |nz n m=>
  obtain⟨⟨C,h1,h2⟩,A,T,h3,h4⟩:=h;exact⟨⟨C,by rw[hb];exact h1,h2⟩,A,T,by rw[hh];exact h3,h4⟩
 |obj o F S=>exact⟨by rw[hb];exact h.1,by rw[hh];exact h.2.1,λt=>(h.2.2 t).mono hz⟩
 |ro T cs=>
  obtain⟨h1,A,h2,h3⟩:=h;exact⟨by rw[hb];exact h1,A,by rw[hh];exact h2,h3.mono hz⟩
theorem Good.go{Z Z':Fz}{u u':UW}{μ μ':Mem}(h:Good Z u μ)(hz:Z.le Z')
  (agE:∀b C,Z' b=some C->(Z b=some C/\u'.heap[b]?=u.heap[b]?)\/∃A T f,u'.heap[b]?=some (.cells A T f)/\C <+: A.toList)
  (fw:∀b o,μ' b=some o->(μ b=some o/\u'.heap[b]?=u.heap[b]?/\(u.gj b->u'.gj b)/\Z' b=Z b)\/((o.rw=true->u'.gj b)/\zg Z' u' b o)):Good Z' u' μ':=by
 refine⟨λb C hb=>?_,λb o hb=>?_⟩
 ·rcases agE b C hb with⟨h1,h2⟩|h1
  ·rw[h2];exact h.Es b C h1
  ·exact h1
 ·rcases fw b o hb with⟨h1,h2,h3,h4⟩|h1
  ·obtain⟨g1,g2⟩:=h.mem b o h1;exact⟨λhr=>h3 (g1 hr),g2.go hz h4 h2⟩
  ·exact h1
def Fz.set(Z:Fz)(b:Nat)(C:List Value):Fz:=λc=>if c=b then some C else Z c
theorem Fz.an(Z:Fz)(b:Nat)(C:List Value):Z.set b C b=some C:=by simp[Fz.set]
theorem Fz.ax(Z:Fz){b c:Nat}(C:List Value)(h:c≠b):Z.set b C c=Z c:=by simp[Fz.set,h]
theorem Fz.JL{Z:Fz}{b:Nat}{C:List Value}(h:∀D,Z b=some D->D <+: C):Z.le (Z.set b C):=λc D hD=>by
 by_cases e:c=b
 ·subst e;exact⟨C,Fz.an _ _ _,h D hD⟩
 ·exact⟨D,by rw[Fz.ax _ _ e];exact hD,List.prefix_refl _⟩
theorem Good.Vg{Z:Fz}{u:UW}{μ:Mem}(h:Good Z u μ){b:Nat}(hb:u.heap.size<=b):Z b=none:=by
 cases hz:Z b with
 |none=>rfl
 |some C=>have:=h.Cy (b:=b) (by rw[hz];simp);omega
theorem Good.cg{Z:Fz}{u:UW}{μ:Mem}(h:Good Z u μ){b:Nat}(hb:u.heap.size<=b):μ b=none:=by
 cases hz:μ b with
 |none=>rfl
 |some C=>have:=h.Px (b:=b) (by rw[hz];simp);omega
theorem Good.born{Z:Fz}{u:UW}{μ:Mem}(h:Good Z u μ){b:Nat}{w':World}{A:Array Value}{T:TypeId}(hB:rl u.toWorld w' b (.cells A T (0,0))){cs:List PV}(hc:cD Z cs A.toList):
  Good Z (u.born b w') (μ.set b (some (.cells T cs)))/\Ext Z μ u.heap.size Z (μ.set b (some (.cells T cs)))/\μ b=none:=by
 have wD:u.heap.size<=b:=hB.ge;have cu:∀c,c<u.heap.size->(u.born b w').heap[c]?=u.heap[c]?:=λc hc=>hB.below.block c hc;refine⟨h.go (Fz.le.refl Z) (λc C hC=>.inl ⟨hC,cu c (h.Cy (by rw[hC];simp))⟩) (λc o ho=>?_),⟨Fz.le.refl Z,λ_ _ h _=>h,λ_ h=>.inl h,λc hc=>?_,λ_ h'=>h.Cy h'⟩,h.cg wD⟩
 ·by_cases e:c=b
  ·subst e;rw[Mem.an]at ho;cases ho;exact .inr ⟨λ_=>.inr rfl,h.Vg wD,A,hB.at_,hc⟩
  ·rw[Mem.ax _ _ e]at ho;exact .inl ⟨ho,cu c (h.Px (by rw[ho];simp)),λhp=>.inl hp,rfl⟩
 ·by_cases e:c=b
  ·exact .inr (by omega)
  ·rw[Mem.ax _ _ e]at hc;exact .inl hc
theorem Good.X_{Z:Fz}{u:UW}{μ:Mem}(h:Good Z u μ){b:Nat}{w':World}{A:Array Value}{T:TypeId}(hB:rl u.toWorld w' b (.cells A T (0,0))):
  Good (Z.set b A.toList) (u.born b w') μ/\Ext Z μ u.heap.size (Z.set b A.toList) μ:=by
 have wD:u.heap.size<=b:=hB.ge;have cu:∀c,c<u.heap.size->(u.born b w').heap[c]?=u.heap[c]?:=λc hc=>hB.below.block c hc;have hle:Z.le (Z.set b A.toList):=Fz.JL λD hD=>by rw[h.Vg wD]at hD;cases hD
 refine⟨h.go hle (λc C hC=>?_) (λc o ho=>?_),⟨hle,λc C hC _=>?_,λc hc=>?_,λ_ h=>.inl h,λ_ h'=>h.Cy h'⟩⟩
 ·by_cases e:c=b
  ·subst e;rw[Fz.an]at hC;cases hC;exact .inr ⟨A,T,_,hB.at_,List.prefix_refl _⟩
  ·rw[Fz.ax _ _ e]at hC;exact .inl ⟨hC,cu c (h.Cy (by rw[hC];simp))⟩
 ·have hl:=h.Px (b:=c) (by rw[ho];simp);exact .inl ⟨ho,cu c hl,λhp=>.inl hp,Fz.ax _ _ (by omega)⟩
 ·have hl:=h.Cy (b:=c) (by rw[hC];simp);rw[Fz.ax _ _ (by omega)];exact hC
 ·by_cases e:c=b
  ·exact .inr (.inr (by omega))
  ·rw[Fz.ax _ _ e]at hc;exact .inl hc
theorem Good.aeA{Z:Fz}{u:UW}{μ:Mem}(h:Good Z u μ){b:Nat}{w':World}{A:Array Value}{T:TypeId}(hB:rl u.toWorld w' b (.cells A T (0,0))){C:List Value}(hp:C <+: A.toList){m:Nat}(hm:m<=A.size):
  Good (Z.set b C) (u.born b w') (μ.set b (some (.nz C.length m)))/\Ext Z μ u.heap.size (Z.set b C) (μ.set b (some (.nz C.length m)))/\μ b=none:=by
 have wD:u.heap.size<=b:=hB.ge;have cu:∀c,c<u.heap.size->(u.born b w').heap[c]?=u.heap[c]?:=λc hc=>hB.below.block c hc;have hle:Z.le (Z.set b C):=Fz.JL λD hD=>by rw[h.Vg wD]at hD;cases hD
 refine⟨h.go hle (λc C' hC=>?_) (λc o ho=>?_),⟨hle,λc C' hC _=>?_,λc hc=>?_,λc hc=>?_,λ_ h'=>h.Cy h'⟩,h.cg wD⟩
 ·by_cases e:c=b
  ·subst e;rw[Fz.an]at hC;cases hC;exact .inr ⟨A,T,_,hB.at_,hp⟩
  ·rw[Fz.ax _ _ e]at hC;exact .inl ⟨hC,cu c (h.Cy (by rw[hC];simp))⟩
 ·by_cases e:c=b
  ·subst e;rw[Mem.an]at ho;cases ho;exact .inr ⟨λ_=>.inr rfl,⟨C,Fz.an _ _ _,rfl⟩,A,T,hB.at_,hm⟩
  ·rw[Mem.ax _ _ e]at ho;exact .inl ⟨ho,cu c (h.Px (by rw[ho];simp)),λhp=>.inl hp,Fz.ax _ _ e⟩
 ·have hl:=h.Cy (b:=c) (by rw[hC];simp);rw[Fz.ax _ _ (by omega)];exact hC
 ·by_cases e:c=b
  ·exact .inr (.inr (by omega))
  ·rw[Fz.ax _ _ e]at hc;exact .inl hc
 ·by_cases e:c=b
  ·exact .inr (by omega)
  ·rw[Mem.ax _ _ e]at hc;exact .inl hc
theorem cD.take{Z:Fz}{ps:List PV}{vs:List Value}(h:cD Z ps vs)(n:Nat):cD Z (ps.take n) (vs.take n):=
 ⟨by simp[h.1],λi p v a b=>by
  rw[getElem?_take]at a b
  split at a
  ·rename_i hi;rw[if_pos hi]at b;exact h.2 i p v a b
  ·cases a⟩
theorem cD.drop{Z:Fz}{ps:List PV}{vs:List Value}(h:cD Z ps vs)(n:Nat):cD Z (ps.drop n) (vs.drop n):=
 ⟨by simp[h.1],λi p v a b=>by rw[getElem?_drop]at a b;exact h.2 _ p v a b⟩
theorem cD.append{Z:Fz}{ps qs:List PV}{vs ws:List Value}(h:cD Z ps vs)(k:cD Z qs ws):cD Z (ps++qs) (vs++ws):=by
 induction ps generalizing vs with
 |nil=>rw[h.m_];exact k
 |cons p ps ih=>obtain⟨v,o_,rfl,h1,h2⟩:=h.inv;exact cD.cons h1 (ih h2)
theorem Uh{Z:Fz}{cs ps:List PV}{A:Array Value}{vs:List Value}{o:Nat}(h:cD Z cs A.toList)(k:cD Z ps vs)(hl:o+ps.length<=cs.length):cD Z (dy cs o ps) (uC A o vs).toList:=by
 have hA:A.size=cs.length:=by have:=h.1;simpa using this
 rw[pZ _ _ _ (by rw[k.1,hA];exact hl)];unfold dy;rw[k.1];exact((h.take _).append k).append (h.drop _)
theorem Good.store{Z:Fz}{u:UW}{μ:Mem}(h:Good Z u μ){b o:Nat}{T:TypeId}{cs ps:List PV}{vs:List Value}(hm:μ b=some (.cells T cs))(hl:o+ps.length<=cs.length)(hv:cD Z ps vs){K:UW->Prop}
  (hK:∀w',Sto u.toWorld w' b (.cells (uC ((u.heap[b]?.bind λo=>match o with| .cells A _ _=>some A|_=>none).getD #[]) o vs) T (0,0))->Good Z (u.Jh w') (μ.set b (some (.cells T (dy cs o ps))))->Ext Z μ u.heap.size Z (μ.set b (some (.cells T (dy cs o ps))))->K (u.Jh w')):tX b o vs u K:=by
 obtain⟨hp,hz,A,hA,hc⟩:=h.mem b _ hm;have hp:=hp rfl;have VU:A.size=cs.length:=by have:=hc.1;simpa using this
 refine⟨A,T,hA,by rw[hv.1,VU];exact hl,hp,λw' hs=>?_⟩;have yH:(u.heap[b]?.bind λo=>match o with| .cells A _ _=>some A|_=>none).getD #[]=A:=by rw[hA];rfl
 refine hK w' (by rw[yH];exact hs) (h.go (Fz.le.refl Z) (λc C hC=>?_) (λc ob ho=>?_)) ⟨Fz.le.refl Z,λ_ _ h _=>h,λ_ h=>.inl h,λc hc=>?_,λ_ h'=>h.Cy h'⟩
 ·have hl:=h.Cy (b:=c) (by rw[hC];simp);have aZ:c≠b:=by rintro rfl;rw[hz]at hC;cases hC
  exact .inl ⟨hC,hs.ne c aZ hl⟩
 ·by_cases e:c=b
  ·subst e;rw[Mem.an]at ho;cases ho;exact .inr ⟨λ_=>hp,hz,_,hs.at_,Uh hc hv hl⟩
  ·rw[Mem.ax _ _ e]at ho;have hl:=h.Px (b:=c) (by rw[ho];simp);exact .inl ⟨ho,hs.ne c e hl,λhp=>hp,rfl⟩
 ·by_cases e:c=b
  ·subst e;exact .inl (by rw[hm];simp)
  ·rw[Mem.ax _ _ e]at hc;exact .inl hc
theorem Good.grow{Z:Fz}{u:UW}{μ:Mem}(h:Good Z u μ){b n m:Nat}{new:List Value}(hm:μ b=some (.nz n m))(hl:n+new.length<=m){K:UW->Prop}
  (hK:∀w' C,Z b=some C->C.length=n->Good (Z.set b (C++new)) (u.Jh w') (μ.set b (some (.nz (n+new.length) m)))->Ext Z μ u.heap.size (Z.set b (C++new)) (μ.set b (some (.nz (n+new.length) m)))->u.heap.size<=w'.heap.size->Wf (u.Jh w')->K (u.Jh w')) (hw:Wf u):tX b n new u K:=by
 obtain⟨hp,⟨C,hz,hC⟩,A,T,hA,hmA⟩:=h.mem b _ hm;have hp:=hp rfl;obtain⟨A',T',f',yH,fS⟩:=h.Es b C hz;rw[hA]at yH;simp only[Option.some.injEq,Obj.cells.injEq]at yH;obtain⟨rfl,rfl,rfl⟩:=yH;refine⟨A,T,hA,by omega,hp,λw' hs=>?_⟩;have hwl:(uC A n new).toList=A.toList.take n++new++A.toList.drop (n+new.length):=pZ _ _ _ (by omega);have gX:A.toList.take n=C:=by
  obtain⟨t,ht⟩:=fS;rw[<- ht,<- hC,List.take_left]
 have hle:Z.le (Z.set b (C++new)):=Fz.JL λD hD=>by rw[hz]at hD;cases hD;exact List.prefix_append _ _
 refine hK w' C hz hC (h.go hle (λc C' zJ=>?_) (λc ob ho=>?_)) ⟨hle,λc C' zJ hn=>?_,λc hc=>?_,λc hc=>?_,λ_ h'=>h.Cy h'⟩ hs.size (hw.Jh hs)
 ·by_cases e:c=b
  ·subst e;rw[Fz.an]at zJ;cases zJ;refine .inr ⟨_,_,_,hs.at_,?_⟩;rw[hwl,gX];exact List.prefix_append _ _
  ·rw[Fz.ax _ _ e]at zJ;exact .inl ⟨zJ,hs.ne c e (h.Cy (by rw[zJ];simp))⟩
 ·by_cases e:c=b
  ·subst e;rw[Mem.an]at ho;cases ho;exact .inr ⟨λ_=>hp,⟨_,Fz.an _ _ _,by simp[hC]⟩,_,_,hs.at_,by rw[uF];exact hmA⟩
  ·rw[Mem.ax _ _ e]at ho;exact .inl ⟨ho,hs.ne c e (h.Px (by rw[ho];simp)),λhp=>hp,Fz.ax _ _ e⟩
 ·have aZ:c≠b:=by rintro rfl;rw[hm]at hn;cases hn
  rw[Fz.ax _ _ aZ];exact zJ
 ·by_cases e:c=b
  ·subst e;exact .inr (.inl (by rw[hm];simp))
  ·rw[Fz.ax _ _ e]at hc;exact .inl hc
 ·by_cases e:c=b
  ·subst e;exact .inl (by rw[hm];simp)
  ·rw[Mem.ax _ _ e]at hc;exact .inl hc
theorem FG{α:Type}{sz:Nat}(h0:0<sz):∀{rows:List (List α)},(∀r∈rows,r.length=sz)->∀k:Nat,rows.flatten[k]?=(rows[k/sz]?).bind λr=>r[k % sz]?
 |[],_,k=>by simp
 |r::rows,h,k=>by
  have hr:r.length=sz:=h r (by simp)
  rw[List.flatten_cons];by_cases hk:k<sz
  ·rw[List.getElem?_append_left (by omega),Nat.div_eq_of_lt hk,Nat.mod_eq_of_lt hk];simp
  ·rw[List.getElem?_append_right (by omega),FG h0 (λr' CD=>h r' (by simp[CD])) (k-r.length),hr];have e1:k/sz=(k-sz)/sz+1:=by
    have:k=(k-sz)+sz:=by omega
    rw[this,Nat.add_div_right _ h0];simp
   have e2:k % sz=(k-sz) % sz:=by
    have:k=(k-sz)+sz:=by omega
    rw[this,Nat.add_mod_right];simp
   rw[e1,e2,List.getElem?_cons_succ]
theorem dV{α:Type}{sz:Nat}:∀{rows:List (List α)},(∀r∈rows,r.length=sz)->rows.flatten.length=rows.length*sz
 |[],_=>by simp
 |r::rows,h=>by
  rw[List.flatten_cons,List.length_append,dV λr' CD=>h r' (by simp[CD]),h r (by simp),List.length_cons,add_mul,Nat.one_mul,Nat.add_comm]
theorem qn{Z:Fz}{sz:Nat}{fl:Fl}{rows:Lq}{vs:List Value}{b o c:Nat}{C:List Value}(hr:∀r∈rows,r.length=sz)(hv:bq Z rows.flatten vs)(hz:Z b=some C)(hC:∀k,k<vs.length->C[o+k]?=vs[k]?)(hc:rows.length<=c)
  (hf:TU fl (some ⟨b,o,none⟩) rows.length c):bS Z (.list sz fl rows) (.slice (some ⟨b,o,none⟩) rows.length c):=by
 have hlen:vs.length=rows.length*sz:=by rw[hv.1,dV hr]
 have idx:∀i j,i<rows.length->j<sz->i*sz+j<vs.length:=λi j hi hj=>by
  rw[hlen]
  calc i*sz+j<i*sz+sz:=by omega
   _=(i+1)*sz:=by rw[add_mul,Nat.one_mul]
   _<=rows.length*sz:=Nat.mul_le_mul_right _ (by omega)
 have flat:∀(i j:Nat) row p,rows[i]?=some row->row[j]?=some p->rows.flatten[i*sz+j]?=some p:=λi j row p hi hj=>by
  have Jn:j<sz:=by
   have:=(List.getElem?_eq_some_iff.1 hj).1;rw[hr row (mem_of_getElem? hi)]at this;exact this
  have h0:0<sz:=by omega
  rw[FG h0 hr];have e1:(i*sz+j)/sz=i:=by
   rw[mul_comm,Nat.mul_add_div h0,Nat.div_eq_of_lt Jn,Nat.add_zero]
  have e2:(i*sz+j) % sz=j:=by rw[mul_comm,Nat.mul_add_mod,Nat.mod_eq_of_lt Jn]
  rw[e1,e2,hi];exact hj
 have cells:∀(i j:Nat) row p,rows[i]?=some row->row[j]?=some p->∃v,vs[i*sz+j]?=some v/\p.cell=true/\bS Z p v:=λi j row p hi hj=>hv.get (flat i j row p hi hj);refine .list sz fl rows _ _ c b o C (λi j=>(vs[i*sz+j]?).getD undef) rfl hc (.inr λx h=>by cases h;rfl) hr (λ_=>⟨rfl,hz⟩) (λi j hi hj=>?_) (λi j row p hi hj=>?_) (λi j row p hi hj=>?_) hf
 ·have bG:=idx i j hi hj;rw[add_assoc,hC _ bG,List.getElem?_eq_getElem bG];rfl
 ·obtain⟨v,_,h,_⟩:=cells i j row p hi hj;exact h
 ·obtain⟨v,h1,_,h2⟩:=cells i j row p hi hj;simp only[h1];exact h2
theorem tA{Z:Fz}{u:UW}{μ:Mem}(hg:Good Z u μ){sz:Nat}{fl:Fl}{rows:Lq}{a:Option Addr}{n c:Nat}(h:bS Z (.list sz fl rows) (.slice a n c))(aZ:rows≠[]->sz≠0):
  ∃vs,bq Z rows.flatten vs/\vs.length=n*sz/\(n=0->vs=[])/\(n≠0->∃b o C,a=some ⟨b,o,none⟩/\Z b=some C/\rd u.heap b o (n*sz)=some vs/\vs=(C.drop o).take (n*sz)):=by
 cases h with
 |list _ _ _ _ _ _ b o C g hn hc hs hr ha hgg hk hp hf=>
  by_cases h0:n=0
  ·have:rows=[]:=List.eq_nil_of_length_eq_zero (by omega);subst this;exact⟨[],bq.nil Z,by simp[h0],λ_=>rfl,λh=>absurd h0 h⟩
  ·obtain⟨ea,ez⟩:=ha h0;obtain⟨A,T,f,hA,fS⟩:=hg.Es b C ez;have Kl:sz≠0:=aZ (by rintro rfl;simp at hn;omega)
   ·have XM:0<sz:=by omega
    have adw:=hgg (n-1) (sz-1) (by omega) (by omega);have hCl:o+n*sz<=C.length:=by
     have bG:=(List.getElem?_eq_some_iff.1 adw).1;have e:(n-1)*sz+sz=n*sz:=by rw[<- Nat.succ_mul];congr 1;omega
     omega
    have HQ:((C.drop o).take (n*sz)).length=n*sz:=by simp;omega
    refine⟨(C.drop o).take (n*sz),⟨by rw[HQ,dV hr,hn],λk p v zG hv=>?_⟩,HQ,λh=>absurd h h0,λ_=>⟨b,o,C,ea,ez,?_,rfl⟩⟩
    ·rw[FG XM hr]at zG;cases dS:rows[k/sz]? with
     |none=>rw[dS]at zG;cases zG
     |some row=>
      rw[dS]at zG;simp only[Option.bind_some]at zG;have hi:k/sz<n:=by rw[<- hn];exact(List.getElem?_eq_some_iff.1 dS).1
      have hj:k % sz<sz:=Nat.mod_lt _ XM;have hg2:=hgg (k/sz) (k % sz) hi hj;have hkk:k/sz*sz+k % sz=k:=by rw[mul_comm];exact Nat.div_add_mod k sz
      rw[add_assoc,hkk]at hg2;have cj:k<n*sz:=by
       have:=(List.getElem?_eq_some_iff.1 hv).1;rw[HQ]at this;exact this
      rw[getElem?_take,if_pos cj,getElem?_drop,hg2]at hv;cases hv;exact⟨hk _ _ _ _ dS zG,hp _ _ _ _ dS zG⟩
    ·obtain⟨t,ht⟩:=fS
     rw[Aw hA (by have:A.size=C.length+t.length:=by have:=congrArg List.length ht;simpa using this.symm
                  omega),<- ht]
     congr 1;rw[List.drop_append_of_le_length (by omega),List.take_append_of_le_length (by simp;omega)]
def uB(q:Bool)(Z:Fz)(μ:Mem)(u:UW)(KP:dC->Mem->Prop)(K:St->UW->Prop):Prop:=
 ∀(Z':Fz) (p':dC) (μ':Mem) (s':St) (u':UW),di Z' p' s'->Good Z' u' μ'->Wf u'->Ext Z μ u.heap.size Z' μ'->u.heap.size<=u'.heap.size->(q=true->Below u.heap.size u.toWorld u'.toWorld)->KP p' μ'->K s' u'
theorem ke{Z:Fz}{ps:List PV}{vs:List Value}(h:bq Z ps vs):eG vs=true:=by
 refine all_eq_true.2 λv hv=>?_;obtain⟨h1,h2⟩:=h.wX v hv;simp[h1,h2]
theorem uY{Z:Fz}{u:UW}{μ:Mem}(hg:Good Z u μ){b o n:Nat}{ps:List PV}(h:ay μ b o n=some ps):∃vs,rd u.heap b o n=some vs/\cD Z ps vs:=by
 unfold ay at h;split at h
 ·rename_i T cs hm;obtain⟨_,_,A,hA,hc⟩:=hg.mem b _ hm;have VU:A.size=cs.length:=by have:=hc.1;simpa using this
  split at h
  ·rename_i hl;cases h;exact⟨_,Aw hA (by omega),(hc.drop o).take n⟩
  ·cases h
 ·rename_i T cs hm;obtain⟨_,_,A,hA,hc⟩:=hg.mem b _ hm;have VU:A.size=cs.length:=by have:=hc.1;simpa using this
  split at h
  ·rename_i hl;cases h;exact⟨_,Aw hA (by omega),(hc.drop o).take n⟩
  ·cases h
 ·cases h
theorem tz{E:kD}{q:Bool}{fz:List Nat}{o:Oper}{p:dC}{s:St}{μ:Mem}{u:UW}{KP:dC->Mem->Prop}{K:St->UW->Prop}{Z Zr:Fz}(hr:di Z p s)(hg:Good Zr u μ)(hz:Zr.le Z)(hf:FE p o=false\/Good Z u μ)
  (hl:oG o=true) (hK:∀p' s',di Z p' s'->KP p' μ->K s' u) (h:V1 E q fz o p μ KP):W1 E.er fz o s u K:=by
 unfold oG at hl;unfold V1 at h;unfold W1;simp only at h |-;cases Ms:o.op<;>simp only[Ms]at h hl |- <;>first|(cases hl;done)|skip
 rename_i t x;cases hk:lP E.P (Cv E o) t with
 |none=>rw[hk]at h;exact h.elim
 |some ks=>
  rw[hk]at h;have cj:kinds E.er.P t=some (ks.map KV.er):=xp hk;rw[cj];simp only at h |-;rw[length_map];have hx:=hr.ev x;split at h
  ·rename_i k off he;rw[he]at hx;rw[hx.yz];simp only;rw[<- hr.D];split at h
   ·rename_i m hm;rw[hm];simp only;obtain⟨hc,h⟩:=aq h;simp only[and_eq_true]at hc;have eL:=(fx.wR (k:=k) hr.slot ks.length off).c hc.2;rw[hc.1,ke eL];simp only[Bool.and_self,cond_true];exact hK _ _ (hr.fin o (AO eL)) h
   ·exact h.elim
  ·rename_i row off he;have hg':Good Z u μ:=by
    rcases hf with hf|hf
    ·unfold FE at hf;simp only[Ms,he]at hf;cases hf
    ·exact hf
   rw[he]at hx;obtain⟨b,of,C,g,hv,hzb,hgg,hkk,hp⟩:=hx.JY;rw[hv];show dL (.pointer (some ⟨b,of+off,none⟩)) _;unfold dL;simp only;obtain⟨ps,hlen,hc,⟨dS,h⟩,hex⟩:=nT (Z:=Z) h;unfold aE at dS;split at dS
   ·rename_i hb;simp only[Option.some.injEq]at dS;obtain⟨A,T,f,hA,fS⟩:=hg'.Es b C hzb;have hCl:of+row.length<=C.length:=by
     have:=hgg (row.length-1) (by omega);have:=(List.getElem?_eq_some_iff.1 this).1;omega
    obtain⟨tl,ht⟩:=fS;have hAl:A.size=C.length+tl.length:=by have:=congrArg List.length ht;simpa using this.symm
    have eR:=Aw (H:=u.heap) (o:=of+off) (n:=ks.length) hA (by omega);have eL:bq Z ps ((A.toList.drop (of+off)).take ks.length):=by
     rw[<- dS,<- ht];refine⟨by simp;omega,λi pp v Mr hvv=>?_⟩;rw[getElem?_take]at Mr hvv;split at Mr
     ·rename_i hi;rw[if_pos hi,getElem?_drop,List.getElem?_append_left (by omega)]at hvv;rw[getElem?_drop]at Mr;have:=hgg (off+i) (by omega);rw[add_assoc]at hvv;rw[this]at hvv;cases hvv;exact⟨hkk _ _ Mr,hp _ _ Mr⟩
     ·cases Mr
    exact hex (G:=λvs=>rd u.heap b (of+off) ks.length=some vs/\K (fin o s (Fb (dq E.er.P t) vs)) u) eL.m ⟨eR,hK _ _ (hr.fin o (AO eL)) h⟩
   ·cases dS
  ·unfold aU at h;split at h
   ·rename_i b off he;rw[he]at hx;rw[hx.ofRaw.1];show dL (.pointer (some ⟨b,off,none⟩)) _;unfold dL;simp only;obtain⟨ps,hlen,hc,⟨eR,h⟩,hex⟩:=nT (Z:=Z) h;obtain⟨vs,hv,hm⟩:=uY hg eR;have eL:=(hm.mono hz).c hc;exact hex (G:=λvs=>rd u.heap b off ks.length=some vs/\K (fin o s (Fb (dq E.er.P t) vs)) u) eL.m ⟨hv,hK _ _ (hr.fin o (AO eL)) h⟩
   ·exact h.elim
section
variable {E:kD} {q:Bool} {fz:List Nat} {o:Oper} {p:dC} {s:St} {μ:Mem} {u:UW} {KP:dC->Mem->Prop} {K:St->UW->Prop} {Z:Fz}
theorem AN(hr:di Z p s)(hg:Good Z u μ)(hw:Wf u)(hK:uB q Z μ u KP K){t:TypeId}{cs:List PV}{A:Array Value}(hA:bq Z cs A.toList)(h:Od E q fz o p μ t cs KP):
  (match o.dst with
   |none=>False
   |some k=>bif cK E.er.fj k then
     (bif !nL s.D k&& !cK fz k&&eG A.toList&&ble A.size 65536 then
      K {s with σ:=rn (i_ s.σ k (dM k 0)) k 0 A.toList,D:=(k,A.size)::s.D} u else False)
    else ∀(b:Nat) (w':World),rl u.toWorld w' b (.cells A t (0,0))->K (fin o s (.pointer (some ⟨b,0,none⟩))) (u.born b w')):=by
 unfold Od at h;have VU:A.size=cs.length:=by have:=hA.1;simpa using this
 cases hd:o.dst with
 |none=>rw[hd]at h;exact h.elim
 |some k=>
  rw[hd]at h;simp only at h |-;cases lq:cK E.fj k with
  |true=>
   have Zn:cK E.er.fj k=true:=lq;rw[lq]at h;rw[Zn];simp only[cond_true]at h |-;obtain⟨hc,h⟩:=aq h;simp only[and_eq_true]at hc;obtain⟨hq,⟨⟨h1,h2⟩,h3⟩,h4⟩:=hc;have sH:(!nL s.D k&& !cK fz k&&eG A.toList&&ble A.size 65536)=true:=by
    rw[<- hr.D,h1,h2,ke hA,VU,h4];rfl
   rw[sH];simp only[cond_true];refine hK Z {p with σ:=Et (aF p.σ k (.box k 0)) k 0 cs,D:=(k,cs.length)::p.D} μ _ u ⟨?_,fx.rn (fx.i_ hr.slot (.box k 0)) hA.m⟩ hg hw hg.ext (le_refl _) (λ_=>Below.refl _ _) h;simp[hr.D,VU]
  |false=>
   have Zn:cK E.er.fj k=false:=lq;rw[lq]at h;rw[Zn];simp only[cond_false]at h |-;intro b w' hB;cases adO:cK E.cst k with
   |true=>
    rw[adO]at h;simp only[cond_true]at h;obtain⟨_,h⟩:=aq h;obtain⟨g1,g2⟩:=hg.X_ hB;refine hK _ _ μ _ _ ((hr.mono g2.le).fin o ?_) g1 (hw.born hB) g2 hB.below.size (λ_=>hB.below) h;have yH:=(hA.mono g2.le).wk;have hl:(cs.map bV).length=A.toList.length:=by simp[VU]
    have:=bS.bk (Z:=Z.set b A.toList) (cs.map bV) 0 b 0 A.toList (λj=>(A.toList[j]?).getD undef) (Fz.an _ _ _) (λj hj=>by
     rw[Nat.zero_add,List.getElem?_eq_getElem (by omega)];rfl) (λj pp hj=>(yH.get hj).choose_spec.2.1) (λj pp hj=>by
     obtain⟨v,h1,h2,h3⟩:=yH.get hj
     simp only[h1];exact h3)
    exact this
   |false=>
    rw[adO]at h;simp only[cond_false]at h;obtain⟨g1,g2,g3⟩:=hg.born hB hA.m;exact hK Z _ _ _ _ (hr.fin o (.raw _ rfl rfl)) g1 (hw.born hB) g2 hB.below.size (λ_=>hB.below) (h b g3)
theorem oc.DG{P:Program}{f:FuncId}{args:Array Value}{u:UW}{K K':Value->UW->Prop}(h:oc P f args u K)
  (hk:∀v lo w',Mod u.gj u.toWorld w'->u.heap.size<=lo->K v (u.ret lo w')->K' v (u.ret lo w')):oc P f args u K':=by
 obtain⟨F,hF,h⟩:=h;exact⟨F,hF,h.mono λv lo w' hm hl hK=>hk v lo w' ⟨hm.os,hm.tape,hm.output,hm.size,λb hb hn=>hm.cu b hb λhf=>hn (hF b hf)⟩ hl hK⟩
theorem bJ.v{P:Program}{f:PV}{args:List PV}{KP:Kq}{fv:Value}{vs:List Value}(hg:Good Z u μ)(hw:Wf u)(hf:bS Z f fv)(ha:bp Z args vs)(h:bJ P f args μ KP):
  pz P fv vs u λv u'=>∃Z' μ' p,Ext Z μ u.heap.size Z' μ'/\Good Z' u' μ'/\bS Z' p v/\KP p μ':=by
 unfold bJ at h;split at h
 ·rename_i g first tW
  obtain⟨fv',pL,rfl,h1,h2⟩:=hf.ofFn;obtain⟨hc,dr⟩:=h Z u (fv'++vs++pL) hg hw ((h1.append ha).append h2);show(bif dg P g then oc P g (fv'.toArray.toList++vs++pL.toArray.toList).toArray u _ else False);rw[hc];exact dr
 ·exact h Z u fv vs hg hw hf ha
def Nj(q:Bool)(Z:Fz)(μ:Mem)(u:UW)(KP:Kq)(K:Value->UW->Prop):Prop:=
 ∀(Z':Fz) (μ':Mem) (p:PV) (v:Value) (u':UW),Ext Z μ u.heap.size Z' μ'->Good Z' u' μ'->Wf u'->u.heap.size<=u'.heap.size->(q=true->Below u.heap.size u.toWorld u'.toWorld)->bS Z' p v->KP p μ'->K v u'
theorem cV.f{P:Program}{g:FuncId}{args:List PV}{KP:Kq}{vs:List Value}{K:Value->UW->Prop}(hg:Good Z u μ)(hw:Wf u)(ha:bp Z args vs)(h:cV P g args μ λp μ'=>KP p (μ.or μ'))(hK:Nj true Z μ u KP K):
  dg P g=true/\oc P g vs.toArray u K:=by
 obtain⟨hc,F,hF,dr⟩:=h Z u vs hg hw ha;refine⟨hc,F,λb hb=>(hF b hb).elim,dr.mono λv lo w' hm hl hp=>?_⟩;obtain⟨Z',μ',p,e,g',hr,hk⟩:=hp;have hB:Below u.heap.size u.toWorld w':=⟨hm.os,hm.tape,hm.output,hm.size,λb hb=>hm.cu b hb λhf=>hF b hf⟩;have hZ:∀b,b<u.heap.size->Z' b=Z b:=λb hb=>by
  cases hz:Z b with
  |some C=>exact e.zs b C hz rfl
  |none=>
   cases Ot:Z' b with
   |none=>rfl
   |some C=>
    rcases e.zn b (by rw[Ot];simp)with h1|h1|h1
    ·exact absurd hz h1
    ·exact absurd rfl h1
    ·omega
 refine hK Z' (μ.or μ') p v (u.ret lo w') ⟨e.le,λb C h1 _=>e.zs b C h1 rfl,λb h1=>?_,λb h1=>?_,e.lt⟩ ⟨g'.Es,λb ob hb=>?_⟩ (hw.ret hm.size) hm.size (λ_=>hB) hr hk
 ·rcases e.zn b h1 with h2|h2|h2
  ·exact .inl h2
  ·exact absurd rfl h2
  ·exact .inr (.inr h2)
 ·unfold Mem.or at h1;cases sE:μ b with
  |some x=>exact .inl (by simp)
  |none=>
   rw[sE]at h1;rcases e.mn b h1 with h2|h2
   ·exact absurd rfl h2
   ·exact .inr h2
 ·unfold Mem.or at hb;cases sE:μ b with
  |some x=>
   rw[sE]at hb;simp only[Option.some.injEq]at hb;subst hb;obtain⟨p1,p2⟩:=hg.mem b x sE;exact⟨λhr=>.inl (p1 hr),p2.go e.le (hZ b p2.lt) (hB.block b p2.lt)⟩
  |none=>
   rw[sE]at hb;obtain⟨p1,p2⟩:=g'.mem b ob hb;exact⟨λhr=>(p1 hr).elim False.elim .inr,p2⟩
theorem Cb.v{P:Program}{f:PV}{args:List PV}{KP:Kq}{fv:Value}{vs:List Value}{K:Value->UW->Prop}(hg:Good Z u μ)(hw:Wf u)(hf:bS Z f fv)(ha:bp Z args vs)(h:Cb P q f args μ KP)(hK:Nj q Z μ u KP K):pz P fv vs u K:=by
 unfold Cb at h;cases q with
 |false=>
  simp only[cond_false]at h;refine(bJ.v hg hw hf ha h).mono λv lo w' hm hl hp=>?_;obtain⟨Z',μ',p,e,g',hr,hk⟩:=hp;exact hK Z' μ' p v _ e g' (hw.ret hm.size) hm.size (λh=>by cases h) hr hk
 |true=>
  simp only[cond_true]at h;split at h
  ·rename_i g first tW
   obtain⟨fv',pL,rfl,h1,h2⟩:=hf.ofFn;obtain⟨hc,dr⟩:=cV.f hg hw ((h1.append ha).append h2) h hK;show(bif dg P g then oc P g (fv'.toArray.toList++vs++pL.toArray.toList).toArray u K else False);rw[hc];exact dr
  ·exact h.elim
end
end Go.aO
