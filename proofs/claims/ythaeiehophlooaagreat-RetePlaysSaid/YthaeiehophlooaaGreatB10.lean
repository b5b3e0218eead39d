import Derived.Test.YthaeiehophlooaaGreatB09
open Go.IntKind (wrap)
open Int (toNat toNat_natCast)
open List (append_assoc append_nil cons_append drop_length getElem?_eq_getElem getElem?_map getElem_cons_succ getElem_mem length_append length_cons length_drop length_map length_take map_append map_cons mem_append mem_cons mem_map mem_singleton not_mem_nil range take_add_one take_append_drop take_length take_succ_cons)
open Nat (add_assoc le_refl zero_add)
open Option (bind_eq_some_iff bind_some map_some none_or toList_some)
set_option linter.all false
namespace Go.Proofs.YthaeiehophlooaaGreat
open Go.Proofs.Tryz Go.aP Go.RowKit
structure bY where
 tags:List Int
 binds:List Bind
@[reducible] def bY.pv(t:bY):List PV:=[.list 1 .sh (t.tags.map λx=>[pI x]),.list 4 .sh (t.binds.map Bind.pv)]
def bn:List Int->List Int->Int
 |[],b=> -(b.length:Int)
 |a::l,[]=>(l.length:Int)+1
 |a::l,b::r=>if a=b then bn l r else a-b
def tv:∀a b:List Int,bn a b=0↔a=b
 |[],[]=>by simp[bn]
 |[],b::r=>by simp only[bn,length_cons];constructor<;>intro h<;>first|omega|cases h
 |a::l,[]=>by simp only[bn];constructor<;>intro h<;>first|omega|cases h
 |a::l,b::r=>by
  simp only[bn]
  split
  .rename_i e;rw[tv l r];simp[e]
  .rename_i e;constructor<;>intro h<;>first|omega|(cases h;exact absurd rfl e)
def tw:∀a b:List Int,bn a b<0↔0<bn b a
 |[],[]=>by simp[bn]
 |[],b::r=>by simp only[bn,length_cons];constructor<;>intro h<;>omega
 |a::l,[]=>by simp only[bn,length_cons];constructor<;>intro h<;>omega
 |a::l,b::r=>by
  simp only[bn]
  by_cases e:a=b
  .subst e;simp only[if_true];exact tw l r
  .rw[if_neg e,if_neg (Ne.symm e)];omega
def qB:∀a b d:List Int,bn a b<0->bn b d<0->bn a d<0
 |[],[],d,h,_=>by simp[bn]at h
 |[],b::r,[],_,k=>by simp only[bn]at k;omega
 |[],b::r,d::s,_,_=>by simp only[bn,length_cons];omega
 |a::l,[],d,h,_=>by simp only[bn]at h;omega
 |a::l,b::r,[],_,k=>by simp only[bn]at k;omega
 |a::l,b::r,d::s,h,k=>by
  simp only[bn]at h k |-
  by_cases g:a=b
  .subst g
   simp only[if_true]at h
   by_cases e:a=d
   .subst e
    simp only[if_true]at k |-
    exact qB l r s h k
   .rw[if_neg e]at k |-;exact k
  .rw[if_neg g]at h
   by_cases e:b=d
   .subst e;rw[if_neg g];exact h
   .rw[if_neg e]at k;rw[if_neg (by omega)];omega
def Bh:∀(k:Nat) (a b:List Int),k<=a.length->k<=b.length->a.take k=b.take k->bn a b=bn (a.drop k) (b.drop k)
 |0,_,_,_,_,_=>rfl
 |k+1,[],_,h,_,_=>by simp at h
 |k+1,_::_,[],_,h,_=>by simp at h
 |k+1,a::l,b::r,g,e,h=>by
  simp only[take_succ_cons,List.cons.injEq]at h
  simp only[bn,List.drop_succ_cons]
  rw[if_pos h.1]
  exact Bh k l r (by simpa using g) (by simpa using e) h.2
structure Ha(l:List Int):Prop where
 le:l.length<=1000000
 pos:∀x∈l,0<=x/\x<9223372036854775808
def Fo{l:List Int}{k:Nat}(e:k<l.length):(l.map λx=>[pI x])[toNat (k:Int)]?=some [pI l[k]]:=by
 rw[toNat_natCast,getElem?_map,getElem?_eq_getElem e];rfl
def afq(f g:Fl){a b:List Int}(ha:Ha a)(A:Ha b):Pure prog 298 [.list 1 f (a.map λx=>[pI x]),.list 1 g (b.map λx=>[pI x])] (pI (bn a b)):=by
 refine av.of (JW.c ?_);have G:=ha.le;have C:=A.le;refine⟨λ_ u=>u=M0/\a.take (min a.length b.length)=b.take (min a.length b.length),?_,?_⟩
 .refine ak.up (min a.length b.length) (by omega) (λk u=>u=M0/\a.take k=b.take k) ⟨rfl,rfl⟩ ?_;rintro k u next Q ⟨rfl,r⟩ I
  simp only[length_map];by_cases j:k<a.length
  .by_cases w:k<b.length
   .refine ab.t (by simpa using j) (ab.t (by simpa using w) ⟨by omega,_,Fo j,_,rfl,by omega,_,Fo w,_,rfl,?_⟩);have i:bn a b=bn (a.drop k) (b.drop k):=Bh k a b (by omega) (by omega) r;rw[List.drop_eq_getElem_cons j,List.drop_eq_getElem_cons w]at i;simp only[bn]at i;refine ab.mk (λe=>?_) (λe=>?_)
    .refine⟨by omega,_,Fo j,_,rfl,by omega,_,Fo w,_,rfl,?_⟩;have J:a[k]≠b[k]:=by simpa using e
     rw[if_neg J]at i;have O:=ha.pos _ (getElem_mem j);have L:=A.pos _ (getElem_mem w);rw[i,aD (by omega) (by omega)];rfl
    .have H:a[k]=b[k]:=by simpa using e
     refine I (by omega) _ ⟨rfl,?_⟩;rw[take_add_one,take_add_one,r,getElem?_eq_getElem j,getElem?_eq_getElem w,H]
   .have:k=min a.length b.length:=by omega
    exact ab.t (by simpa using j) (ab.f (by simp;omega) ⟨trivial,by rw[<- this];exact r⟩)
  .have:k=min a.length b.length:=by omega
   exact ab.f (by simp;omega) ⟨trivial,by rw[<- this];exact r⟩
 .rintro _ u ⟨rfl,r⟩;simp only[length_map];have:=Bh (min a.length b.length) a b (by omega) (by omega) r;rw[this,aD (by omega) (by omega)];by_cases h:a.length<=b.length
  .rw[Nat.min_eq_left h,drop_length];simp only[bn,length_drop];exact congrArg pI (by omega)
  .rw[Nat.min_eq_right (by omega),drop_length];cases y:a.drop b.length with
   |nil=>have:=congrArg List.length y;simp at this;omega
   |cons x l=>
    have:=congrArg List.length y;simp only[length_drop,length_cons]at this;simp only[bn];exact congrArg pI (by omega)
namespace RK
abbrev El:={t:bY // Ha t.tags}
@[reducible] def pv(x:El):List PV:=x.1.pv
@[reducible] def arg(x:El):PV:=.agg x.1.pv
def key(x:El):List Int:=x.1.tags
abbrev ck:List Int->List Int->Int:=bn
def hc:nI ck:=⟨tv,tw,qB⟩
def uq(a b:El):Pure prog 297 [arg a,arg b] (pI (ck (key a) (key b))):=by
 refine av.of (rv.c ?_);exact(afq _ _ a.2 b.2).call ⟨_,rfl,rfl⟩
@[reducible] noncomputable def D:SD:=⟨prog,269,123,2,48,297,λQ=>∃g i e h,Q [.list 1 g i,.list 4 e h],.agg,[.list 1 .nil [],.list 4 .nil []]⟩
abbrev At(b:Nat)(l:List El):aO:=cq 269 123 2 b (l.map pv)
def mE:NW D pv arg key ck:=⟨λx Q h=>⟨_,_,_,_,h⟩,λ_=>rfl,λ_=>rfl,λ_=>rfl,λ_=>rfl,hc,uq,λv=>by kernel_rfl,rfl,by decide,by decide⟩
def dm{x:El}{g:Option Addr}{e:Mem}{K:Kq}(h:D.find g e K (arg x)):aa prog 199 [pA g,arg x] e K:=VC [3] [(2,⟨[(6,.one (.raw (.int .i64))),(7,.one (.raw (.int .i64)))],[]⟩)] [] [] [] [] [] func199 h
def gX{g:Option Addr}{e:Mem}{K:Kq}(h:D.own g e K):aa prog 200 [pA g] e K:=VC [] [] [] [] [] [] [] func200 h
def lR{x:El}{g:Option Addr}{e:Mem}{K:Kq}(h:D.put g e K (pv x) (arg x) 199 200):aa prog 147 [pA g,arg x] e K:=VC [3] [(9,⟨[(7,.one (.raw (.int .i64)))],[]⟩)] [] [] [] [] [23,32,43,48,57] func147 h
def fX:=mE.fX dm gX lR
def lS{fl:Fl}{l:Lq}{e:Mem}{K:Kq}(h:D.new e K 147 l):aa prog 96 [.list 2 fl l] e K:=VC [5] [(3,⟨[(10,.one (.raw (.int .i64)))],[]⟩)] [] [] [] [] [] func96 h
def gB:=mE.gB fX lS
def lT{j:Option Addr}{i:Int}{g:Fn}{r w:List PV}{e:Mem}{K:Kq}(h:D.from_ j e K i g r w):aa prog 149 [pA j,pI i,.fn g r w] e K:=VC [] [(3,⟨[(7,.one (.raw (.int .i64)))],[]⟩)] [] [] [] [] [] func149 h
def lV{i:Fn}{j r g:List PV}{e:Mem}{K:Kq}(h:D.zO e K 149 i j r g):aa prog 148 [.fn i j r,.bt g 0] e K:=VC [] [] [] [] [] [] [] func148 h
@[reducible] def rp(b:Nat):PV:=.fn (.func 148) [] [.bt [pP b 0] 0]
theorem qc(b:Nat):Pure prog 97 [pP b 0] (rp b):=av.of (mD.c rfl)
def eG(b:Nat)(l:List El)(e:l.length<=4000000000000000000):iI prog (rp b) (l.map λx=>[arg x]) (At b l) (At b l):=mE.eG lV lT b l e
end RK
def Jh{e i:Type}{f g:e->Option i}:∀{l:List e},(∀x∈l,f x=g x)->l.filterMap f=l.filterMap g
 |[],_=>rfl
 |x::l,h=>by rw[List.filterMap_cons,List.filterMap_cons,h x (by simp),Jh λy j=>h y (by simp[j])]
theorem kX{c:ae}{l:List aP.Bind}{es:List aj}{p:aj->Bool}(h:∀e,(dg c e l).isSome->p e=true):aY c l (es.filter p)=aY c l es:=by
 unfold aY;rw[List.filterMap_filter];refine Jh λe _=>?_;cases hp:p e with
 |true=>simp
 |false=>
  cases hc:dg c e l with
  |none=>simp
  |some r=>have:=h e (by rw[hc];rfl);rw[hp]at this;cases this
theorem OS{t:Test}{s:Sym}{l r:List aP.Bind}(hv:aG t.var ⟨#[]⟩=true)(h:met t s l=some r)(l':List aP.Bind):met t s l'=some l':=by
 have hv':=bM.1 hv;unfold met at h |-;by_cases h8:t.rel=8
 .rw[if_pos h8]at h |-;split at h
  .rename_i ha;rw[if_pos ha]
  .cases h
 .rw[if_neg h8]at h |-;by_cases h1:t.rel<1\/t.rel>7
  .rw[if_pos h1]at h;cases h
  .rw[if_neg h1,if_pos hv']at h |-;split at h
   .rename_i ha;rw[if_pos ha]
   .cases h
theorem ux:∀(ts:List Test) (s:Sym) (l r:List aP.Bind),gg ts s l=some r->∀l',gg (cO ts) s l'=some l'
 |[],_,_,_,_,_=>rfl
 |t::ts,s,l,r,h,l'=>by
  simp only[gg,bind_eq_some_iff]at h
  obtain⟨l1,h1,h2⟩:=h
  have ih:=ux ts s l1 r h2 l';unfold cO at ih |-;rw[List.filter_cons];split
  .rename_i hv;simp only[gg];rw[OS hv h1 l'];exact ih
  .exact ih
theorem yq{c:ae}{e:aj}{l:List aP.Bind}(h:(dg c e l).isSome):bj (bz c) e=true:=by
 obtain⟨r,h⟩:=Option.isSome_iff_exists.1 h;unfold dg at h;split at h
 .rename_i hc;simp only[bind_eq_some_iff]at h;obtain⟨l1,_,l2,h2,h3⟩:=h;unfold bj;unfold dg;rw[if_pos (show((Ya (bz c)).kind=1\/(Ya (bz c)).kind=2)/\((Ya (bz c)).goal=true->e.goal=true)/\(Ya (bz c)).acc=e.acc from⟨.inl rfl,hc.2.1,hc.2.2⟩)];have hm:met (jI (Ya (bz c)).id) e.id []=some [⟨⟨#[120]⟩,e.id⟩]:=rfl;rw[hm];show((gg (cO c.attr) e.attr _).bind λl2=>gg (cO c.value) e.value l2).isSome=true;rw[ux _ _ _ _ h2];show(gg (cO c.value) e.value _).isSome=true;rw[ux _ _ _ _ h3];rfl
 .cases h
theorem WX{c:ae}{e:aj}{l:List aP.Bind}{s:Sym}(BU:c.id≠⟨#[]⟩)(hg:gz l c.id=some s)(h:(dg c e l).isSome):fu e.id s=true:=by
 obtain⟨r,h⟩:=Option.isSome_iff_exists.1 h;unfold dg at h;split at h
 .simp only[bind_eq_some_iff]at h;obtain⟨l1,h1,_⟩:=h;unfold met at h1;rw[if_neg (show ¬(jI c.id).rel=8 from by show ¬(1:Int)=8;omega),if_neg (show ¬((jI c.id).rel<1\/(jI c.id).rel>7)from by show ¬((1:Int)<1\/(1:Int)>7);omega),if_neg (show ¬(jI c.id).var=⟨#[]⟩from BU)]at h1;rw[show gz l (jI c.id).var=some s from hg]at h1;simp only at h1;split at h1
  .rename_i hh;exact hh
  .cases h1
 .cases h
def dO(e:dq)(k:Int)(c:ae):Prop:=∃x,aL aw bU k e=some x/\x.2.c=bz c
theorem KI{es:List aj}{ms:dq}(hA:dE es ms){c:ae}(BU:c.id≠⟨#[]⟩){k:Int}(hm:dO ms k c)(l:List aP.Bind):aY c l (QG es ms k (gz l c.id))=aY c l es:=by
 cases hg:gz l c.id with
 |none=>
  obtain⟨x,hx,hc⟩:=hm;have fL:Wi k ms=x.2.l:=by unfold Wi;rw[hx];rfl
  show aY c l (Wi k ms)=_;rw[fL,hA.has x ((bf ar hA.nD).1 hx).1,hc];exact kX λe he=>yq he
 |some s=>exact kX λe he=>WX BU hg he
mutual
def ji(es:List aj):ae->List aP.Bind->List (List aP.Bind)
 | .mk k g i a v ac cs,b=>if k=1 then(aY (.mk k g i a v ac cs) b es).map (·.2)else if k=2 then(if(aY (.mk k g i a v ac cs) b es).isEmpty then[b]else[])else(if(jQ es cs [b]).isEmpty then[b]else[])
def jQ(es:List aj):List ae->List (List aP.Bind)->List (List aP.Bind)
 |[],rows=>rows
 |c::cs,rows=>jQ es cs (rows.flatMap λb=>ji es c b)
end
theorem mc(es:List aj)(c:ae)(b:List aP.Bind):ji es c b=if c.kind=1 then(aY c b es).map (·.2)else if c.kind=2 then(if(aY c b es).isEmpty then[b]else[])else(if(jQ es c.conds [b]).isEmpty then[b]else[]):=by
 cases c;simp only[ji];rfl
mutual
def cC(es:List aj):ae->List aP.Bind->Nat->Nat
 | .mk k g i a v ac cs,b,0=>(ji es (.mk k g i a v ac cs) b).length
 | .mk k g i a v ac cs,b,j+1=>if k=1\/k=2 then 0 else cL es cs [b] j
def cL(es:List aj):List ae->List (List aP.Bind)->Nat->Nat
 |[],_,_=>0
 |c::cs,rows,j=>if j<aQ c then(rows.map λb=>cC es c b j).sum else cL es cs (rows.flatMap λb=>ji es c b) (j-aQ c)
end
theorem pe(es:List aj)(c:ae)(b:List aP.Bind):cC es c b 0=(ji es c b).length:=by cases c;rfl
theorem wB(es:List aj)(c:ae)(b:List aP.Bind)(j:Nat):cC es c b (j+1)=if c.kind=1\/c.kind=2 then 0 else cL es c.conds [b] j:=by cases c;rfl
theorem GN(es:List aj):∀(cs:List ae) (rows:List (List aP.Bind)) (j:Nat),ah cs<=j->cL es cs rows j=0
 |[],_,_,_=>rfl
 |c::cs,rows,j,h=>by
  simp only[ah]at h
  simp only[cL]
  rw[if_neg (by omega)]
  exact GN es cs _ _ (by omega)
def Ff:bY:=⟨[],[]⟩
def stepT(es:List aj)(c:ae)(ts:List bY):List bY:=
 if c.kind=1 then ts.flatMap λt=>(aY c t.binds es).map λx=>⟨t.tags++[x.1.tag],x.2⟩else ts.filter λt=> !(ji es c t.binds).isEmpty
def aE(es:List aj)(p:List ae):List bY:=p.foldl (λe c=>stepT es c e) [Ff]
def dI(es:List aj)(c:ae)(ts:List bY)(j:Nat):Nat:=(ts.map λt=>cC es c t.binds j).sum
def dv(es:List aj)(p:List ae)(c:ae):aE es (p++[c])=stepT es c (aE es p):=by
 unfold aE;rw[List.foldl_append];rfl
@[reducible] def fO(k:Int):List PV:=[pI k]
structure WC where
 n:Nat
 fm:Fl
 aC:List Int
 a:Option Addr
 N:Nat
 c:Nat
@[reducible] def WC.pv(w:WC):List PV:=[pP w.n 0,.list 1 w.fm (w.aC.map fO),.raw (.slice w.a w.N w.c)]
def eP(w:WC)(e:Nat->Nat):aO:=ca 3 1 (.raw (.slice w.a w.N w.c)) ((range w.N).map λi=>[pI ((e i:Nat):Int)])
def mK(e:Nat->Nat)(k v:Nat):Nat->Nat:=λi=>if i=k then v else e i
def yt(N:Nat)(g:Nat->Nat):∀r∈(range N).map λi=>[pI ((g i:Nat):Int)],r.length=1:=λr e=>by
 obtain⟨i,_,rfl⟩:=mem_map.1 e;rfl
def Tv{N k v:Nat}{g:Nat->Nat}(j:k<N):((range N).map λi=>[pI ((g i:Nat):Int)]).set k [pI ((v:Nat):Int)]=(range N).map λi=>[pI ((mK g k v i:Nat):Int)]:=by
 refine List.ext_getElem (by simp) λi r h=>?_;simp only[length_map,List.length_range]at h;rw[List.getElem_set];simp only[List.getElem_map,List.getElem_range,mK];by_cases e:k=i
 .rw[if_pos e,if_pos e.symm]
 .rw[if_neg e,if_neg (Ne.symm e)]
def an.xt{n:Nat}{x:NC}{es:List aj}{ms:dq}{ids:pq}{L:List aO}{e:Mem}(i:Ow L e)(h:an n x es ms ids∈L):e n=some (.cells 116 x.pv):=by
 obtain⟨g,w,r⟩:=i.mem _ h;have j:Ow [Pt n 116 x.pv,bH x.al es ms,gR x.id ids] g:=w;exact r n _ (j.get 0 rfl)
def wA{w:Nat}{W:WC}{x:NC}{es:List aj}{ms:dq}{ids:pq}{e:Nat->Nat}{L:List aO}{I:Mem}(G:Ow (Pt w 226 W.pv::eP W e::an W.n x es ms ids::L) I)(k:Nat)(y:k<W.N)(Y:e k<=1000000000){K:Kq}
  (hK:∀h,Ow (Pt w 226 W.pv::eP W (mK e k (e k+1))::an W.n x es ms ids::L) h->K (pB (decide (((e k+1:Nat):Int)<=x.T))) h):aa prog 117 [pP w 0,pI ((k:Nat):Int),pI 1] I K:=by
 refine so.c ⟨_,_,_,G.rd 0 rfl (by simp),_,_,_,G.rd 0 rfl (by simp),?_⟩;have U:k<((range W.N).map λi=>[pI ((e i:Nat):Int)]).length:=by simpa using y
 obtain⟨b,ha,O,J⟩:=ca.at_ 1 G rfl (yt W.N e) (j:=k) U;rw[ha];have Q:((range W.N).map λi=>[pI ((e i:Nat):Int)])[k]=[pI ((e k:Nat):Int)]:=by simp
 rw[Q]at O J;refine⟨by omega,by omega,_,(O 0 1 (by omega)),?_⟩;refine⟨by omega,by omega,?_⟩;refine J 0 _ _ (by simp) λu g=>?_
 rw[show du [pI ((e k:Nat):Int)] 0 [pI (wrap .i64 (((e k:Nat):Int)+1))]=[pI ((e k+1:Nat):Int)]from by
  rw[aD (by omega) (by omega)];rfl,Tv y]at g
 have g:Ow (Pt w 226 W.pv::eP W (mK e k (e k+1))::an W.n x es ms ids::L) u:=g;have H:k<((range W.N).map λi=>[pI ((mK e k (e k+1) i:Nat):Int)]).length:=by simpa using y
 obtain⟨b2,C,r,_⟩:=ca.at_ 1 g rfl (yt W.N _) (j:=k) H;have A:((range W.N).map λi=>[pI ((mK e k (e k+1) i:Nat):Int)])[k]=[pI ((e k+1:Nat):Int)]:=by simp[mK]
 rw[A]at r;refine⟨_,_,_,g.rd 0 rfl (by simp),?_⟩;rw[C];refine⟨by omega,by omega,_,r 0 1 (by omega),_,g.rd 0 rfl (by simp),?_⟩;refine⟨_,?_,hK u g⟩;exact aH (an.xt (es:=es) (ms:=ms) (ids:=ids) g (by simp)) (by simp)
def xF(n al:Nat)(k:Int)(o:Option Sym):∃e fa g,tp n al k o=.fn e fa g:=by
 cases o with
 |none=>exact⟨_,_,_,rfl⟩
 |some s=>exact⟨_,_,_,rfl⟩
structure CS(c:ae):Prop where
 vM:cU c
 id:c.id≠⟨#[]⟩
theorem xR{n:Nat}{x:NC}{es:List aj}{ms:dq}{ids:pq}(hA:dE es ms)(hI:jn es ids){c:ae}(hc:CS c){k:Int}(hm:dO ms k c){l:List aP.Bind}(hl:l.length<=900000){fe:Fn}{fa fb:List PV}(hf:tp n x.al k (gz l c.id)=.fn fe fa fb):
  iI prog (Q_ c l (.fn fe fa fb)) ((aY c l es).map QY) (an n x es ms ids) (an n x es ms ids):=by
 obtain⟨_,l1,l2,l3,l4,_⟩:=(bJ c).1 hc.vM;have hs:=Rd (n:=n) (x:=x) hA hI k (gz l c.id);rw[hf]at hs;have:=Re (l:=l) hs (by omega) (cD l3) (cD l4);rw[KI hA hc.id hm]at this;exact this
def tK{l:List Int}{k:Nat}(e:k<l.length):(l.map fO)[toNat (k:Int)]?=some [pI l[k]]:=by
 rw[toNat_natCast,getElem?_map,getElem?_eq_getElem e];rfl
theorem aa3{w:Nat}{W:WC}{x:NC}{es:List aj}{ms:dq}{ids:pq}(hA:dE es ms)(hI:jn es ids){L:List aO}{μ:Mem}(hO:Ow (Pt w 226 W.pv::an W.n x es ms ids::L) μ){c:ae}(hc:CS c)(fa fv fc fl:Fl){l:List aP.Bind}(hl:l.length<=900000){k:Nat}(hk:k<W.aC.length)(hm:dO ms W.aC[k] c){K:Kq}
  (hK:∀μ',Ow (Pt w 226 W.pv::an W.n x es ms ids::L) μ'->K (pB (!(aY c l es).isEmpty)) μ'):
  aa prog 180 [pP w 0,.agg [pI c.kind,pB c.goal,pS c.id,.list 6 fa (c.attr.map Test.pv),.list 6 fv (c.value.map Test.pv),pB c.acc,.list 7 fc (c.conds.map ae.pv)],.list 4 fl (l.map Bind.pv),pI ((k:Nat):Int)] μ K:=by
 refine yJ.c λb8 Pk=>?_;have O1:=hO.new 4 [pB false] Pk;refine⟨_,O1.rd 1 rfl (by simp),_,_,O1.rd 1 rfl (by simp),by omega,_,tK hk,_,rfl,?_⟩;refine GI (an.xt (x:=x) (es:=es) (ms:=ms) (ids:=ids) O1 (by simp)) c _ _ _ _ l (by omega) W.aC[k] ?_;obtain⟨fe,ga,gb,hf⟩:=xF W.n x.al W.aC[k] (gz l c.id);rw[hf];refine⟨_,_,_,rfl,?_⟩;rw[Mem.pK];refine(TF fe ga gb c _ _ _ _ l (by omega)).call ⟨_,_,_,rfl,?_⟩;refine bk.own (xR hA hI hc hm hl hf) (Ow.at 2 rfl O1) (λi u=>i=0/\Ow (an W.n x es ms ids::Pt b8 4 [pB false]::Pt w 226 W.pv::L) u) (λcd u=>cd=.ret/\(aY c l es).isEmpty=false/\Ow (an W.n x es ms ids::Pt b8 4 [pB true]::Pt w 226 W.pv::L) u) (λi=>eW.and (eW.own _)) (λcd=>eW.and (eW.and (eW.own _))) (λμ' h'=>⟨rfl,h'⟩) ?_ ?_ ?_
 .rintro i hi u R ⟨rfl,h⟩ bT iR;rw[List.getElem_map];refine⟨_,_,_,_,_,_,_,_,_,_,_,_,_,_,rfl,?_⟩;refine h.st 1 rfl (by simp) λu4 h4=>iR _ _ ⟨rfl,?_,h4⟩;have tX:0<(aY c l es).length:=by simpa using hi
  cases hx:aY c l es with
  |nil=>rw[hx]at tX;simp at tX
  |cons y ys=>rfl
 .rintro u ⟨hi,h⟩;have he:(aY c l es).isEmpty=true:=by
   rw[length_map]at hi;rw[List.isEmpty_iff];exact List.eq_nil_of_length_eq_zero hi
  dsimp only[PK];refine h.st 1 rfl (by simp) λu4 h4=>?_;refine⟨_,h4.rd 1 rfl (by simp[du]),?_⟩;have:=hK u4 (h4.tail λ_ h=>h.drop).swap;rw[he]at this;exact this
 .rintro cd u ⟨rfl,he,h⟩;dsimp only[PK];refine⟨_,h.rd 1 rfl (by simp),?_⟩;have:=hK u (h.tail λ_ h=>h.drop).swap;rw[he]at this;exact this
def sh(a:Nat)(f:Nat->Nat)(i:Nat):Nat:=if a<=i then f (i-a)else 0
def Fx(f:Nat->Nat)(i:Nat):sh 0 f i=f i:=by unfold sh;simp
def HW(a:Nat)(f:Nat->Nat):sh a f a=f 0:=by unfold sh;simp
def XN(a b:Nat)(f:Nat->Nat)(i:Nat):sh a (λj=>sh b f j) i=sh (a+b) f i:=by
 unfold sh;by_cases g:a<=i
 .rw[if_pos g];dsimp only;by_cases e:b<=i-a
  .rw[if_pos e,if_pos (by omega)];congr 1;omega
  .rw[if_neg e,if_neg (by omega)]
 .rw[if_neg g,if_neg (by omega)]
def KK(a:Nat)(f g:Nat->Nat)(i:Nat):sh a (λj=>f j+g j) i=sh a f i+sh a g i:=by unfold sh;split<;>rfl
def XO{a:Nat}{f g:Nat->Nat}(h:∀j,f j<=g j)(i:Nat):sh a f i<=sh a g i:=by
 unfold sh;split
 .exact h _
 .exact le_refl _
def vo{a:Nat}{f g:Nat->Nat}(h:∀j,f j=g j)(i:Nat):sh a f i=sh a g i:=by rw[show f=g from funext h]
theorem Ue(es:List aj)(c:ae)(b:List aP.Bind){j:Nat}(h:aQ c<=j):cC es c b j=0:=by
 rw[bN]at h;obtain⟨i,rfl⟩:∃i,j=i+1:=⟨j-1,by omega⟩;rw[wB];split
 .rfl
 .exact GN es _ _ _ (by omega)
def dz(es:List aj)(c:ae)(rows:List (List aP.Bind))(j:Nat):Nat:=(rows.map λb=>cC es c b j).sum
theorem yW(es:List aj)(c:ae)(a b:List (List aP.Bind))(j:Nat):dz es c (a++b) j=dz es c a j+dz es c b j:=by unfold dz;rw[map_append,List.sum_append]
theorem Og(es:List aj)(c:ae){rows:List (List aP.Bind)}{k:Nat}(hk:k<rows.length)(j:Nat):dz es c (rows.take (k+1)) j=dz es c (rows.take k) j+cC es c rows[k] j:=by
 rw[take_add_one,getElem?_eq_getElem hk,yW];simp[dz]
theorem Vn(es:List aj)(c:ae)(rows:List (List aP.Bind))(k j:Nat):dz es c (rows.take k) j<=dz es c rows j:=by
 have:=yW es c (rows.take k) (rows.drop k) j;rw[take_append_drop]at this;omega
theorem HO(es:List aj)(c:ae)(rows:List (List aP.Bind)){j:Nat}(h:aQ c<=j):dz es c rows j=0:=by
 unfold dz;induction rows with
 |nil=>rfl
 |cons b rows ih=>rw[map_cons,List.sum_cons,ih,Ue es c b h]
theorem xH(es:List aj)(c:ae)(rows:List (List aP.Bind)):dz es c rows 0=(rows.flatMap λb=>ji es c b).length:=by
 unfold dz;rw[List.length_flatMap];congr 1;exact List.map_congr_left λb _=>pe es c b
theorem Br(es:List aj):∀(a b:List ae) (rows:List (List aP.Bind)),jQ es (a++b) rows=jQ es b (jQ es a rows)
 |[],_,_=>rfl
 |c::a,b,rows=>by simp only[cons_append,jQ];exact Br es a b _
theorem yx(es:List aj):∀(a b:List ae) (rows:List (List aP.Bind)) (j:Nat),cL es (a++b) rows j=cL es a rows j+sh (ah a) (cL es b (jQ es a rows)) j
 |[],b,rows,j=>by simp[cL,jQ,ah,Fx]
 |d::a,b,rows,j=>by
  simp only[cons_append,cL,jQ,ah]
  by_cases h:j<aQ d
  .rw[if_pos h,if_pos h]
   unfold sh;rw[if_neg (by omega)];rfl
  .rw[if_neg h,if_neg h,yx es a b]
   congr 1
   unfold sh
   by_cases h2:ah a<=j-aQ d
   .rw[if_pos h2,if_pos (by omega)];congr 1;omega
   .rw[if_neg h2,if_neg (by omega)]
theorem TT(es:List aj)(c:ae)(rows:List (List aP.Bind))(j:Nat):cL es [c] rows j=dz es c rows j:=by
 simp only[cL];by_cases h:j<aQ c
 .rw[if_pos h];rfl
 .rw[if_neg h,HO es c rows (by omega)]
theorem Ax(es:List aj){l:List ae}{i:Nat}(hi:i<l.length)(rows:List (List aP.Bind))(j:Nat):cL es (l.take (i+1)) rows j=cL es (l.take i) rows j+sh (ah (l.take i)) (dz es l[i] (jQ es (l.take i) rows)) j:=by
 have e:l.take (i+1)=l.take i++[l[i]]:=by rw[take_add_one,getElem?_eq_getElem hi];rfl
 rw[e,yx];congr 1;exact vo (λj=>TT es _ _ j) j
theorem afx(es:List aj)(l:List ae)(i:Nat)(rows:List (List aP.Bind))(j:Nat):cL es (l.take i) rows j<=cL es l rows j:=by
 have:=yx es (l.take i) (l.drop i) rows j;rw[take_append_drop]at this;omega
theorem RE(es:List aj){l:List ae}{i:Nat}(hi:i<l.length)(rows:List (List aP.Bind)):jQ es (l.take (i+1)) rows=(jQ es (l.take i) rows).flatMap λb=>ji es l[i] b:=by
 have e:l.take (i+1)=l.take i++[l[i]]:=by rw[take_add_one,getElem?_eq_getElem hi];rfl
 rw[e,Br];rfl
def mQ{l:List ae}{i:Nat}(j:i<l.length):ah (l.take (i+1))=ah (l.take i)+aQ l[i]:=by
 have e:l.take (i+1)=l.take i++[l[i]]:=by rw[take_add_one,getElem?_eq_getElem j];rfl
 have h:∀(a b:List ae),ah (a++b)=ah a+ah b:=λa b=>by
  induction a with
  |nil=>simp[ah]
  |cons c a g=>simp only[cons_append,ah,g];omega
 rw[e,h];simp[ah]
def gV(l:List ae)(i:Nat):ah (l.take i)<=ah l:=by
 have h:∀(a b:List ae),ah (a++b)=ah a+ah b:=λa b=>by
  induction a with
  |nil=>simp[ah]
  |cons c a e=>simp only[cons_append,ah,e];omega
 have:=h (l.take i) (l.drop i);rw[take_append_drop]at this;omega
theorem Nt{es:List aj}{c:ae}(hl:cU c){b r:List aP.Bind}(h:r∈ji es c b):r.length<=b.length+100*aQ c:=by
 obtain⟨_,l1,l2,_⟩:=(bJ c).1 hl;have hs:1<=aQ c:=by rw[bN];omega
 rw[mc]at h;split at h
 .obtain⟨⟨e,r'⟩,hx,rfl⟩:=mem_map.1 h;unfold aY at hx;obtain⟨e',_,he⟩:=List.mem_filterMap.1 hx;cases hc:dg c e' b with
  |none=>rw[hc]at he;cases he
  |some q=>
   rw[hc]at he;simp only[map_some,Option.some.injEq,Prod.mk.injEq]at he;have:=EN hc;obtain⟨rfl,rfl⟩:=he;show q.length<=_;omega
 .split at h
  .split at h
   .simp only[mem_singleton]at h;subst h;omega
   .cases h
  .split at h
   .simp only[mem_singleton]at h;subst h;omega
   .cases h
theorem MX{es:List aj}:∀{l:List ae} {rows:List (List aP.Bind)} {m:Nat},bO l->(∀b∈rows,b.length<=m)->∀r∈jQ es l rows,r.length<=m+100*ah l
 |[],rows,m,_,h,r,hr=>by have:=h r hr;simp[ah];omega
 |c::cs,rows,m,hl,h,r,hr=>by
  simp only[jQ]at hr
  have:=MX (l:=cs) (m:=m+100*aQ c) hl.2 (λb hb=>by
   obtain⟨a,ha,hb⟩:=List.mem_flatMap.1 hb
   have h1:=Nt hl.1 hb
   have h2:=h a ha
   omega) r hr
  simp only[ah];omega
namespace K6
def wz(a b:ByteArray):Pure prog 341 [pS a,pS b] (pI (bc a b)):=by
 refine av.of (ru.c ?_);refine ab.mk (λh=>?_) (λh=>ab.mk (λe=>?_) (λe=>?_))
 .simp[bc,h,wk,cb]
 .simp only[bc,h,wk,cb];simp only[h]at e;rw[e];rfl
 .simp only[bc,h,wk,cb];simp only[h]at e;rw[e];rfl
def cr(L:List ByteArray):Lq:=L.map λs=>[pS s]
def cZ(L:List ByteArray):∀r∈cr L,r.length=1:=λr e=>by
 obtain⟨s,_,rfl⟩:=mem_map.1 e;rfl
def jC(L:List ByteArray):aV (cr L).flatten=true:=by
 unfold aV cr;rw[List.all_eq_true];intro x e;obtain⟨r,g,e⟩:=List.mem_flatten.1 e;obtain⟨s,_,rfl⟩:=mem_map.1 g;simp only[mem_singleton]at e;subst e;rfl
@[simp] theorem dj(L:List ByteArray):(cr L).length=L.length:=by simp[cr]
def Ib{L:List ByteArray}{i:Nat}(h:i<L.length):(cr L)[toNat (i:Int)]?=some [pS L[i]]:=by
 rw[toNat_natCast,cr,getElem?_map,getElem?_eq_getElem h];rfl
abbrev vj:TypeId:=343
abbrev tyName:TypeId:=292
abbrev CE(e:Mem)(b:Nat)(L:List ByteArray)(F:List Nat):Prop:=iB vj tyName 1 e b (cr L) F
def LP(b:Nat)(s:Bool)(L:List ByteArray)(J:Up bc L)(hl:L.length<=1000000)(x:ByteArray):aa prog 247 [pP b 0,pS x] (M0.set b (some (.ro vj [.list 1 .sh (cr L),pB s]))) λp _=>∃(k:Nat) (t:Bool),p=.aB [pI k,pB t]/\bV bc L x k t:=by
 refine lB.c ?_;refine⟨_,_,xO (Mem.ao _ _ _) (by simp),?_⟩;have dF:∀u,u=M0.set b (some (.ro vj [.list 1 .sh (cr L),pB s]))->ay u b 0 1=some [.list 1 .sh (cr L)]:=λu h=>by rw[h];exact xO (Mem.ao _ _ _) (by simp)
 rw[dj];refine ak.bin (n:=L.length) (by omega) (λi=>if h:i<L.length then bc L[i] x else 1) (λu=>u=M0.set b (some (.ro vj [.list 1 .sh (cr L),pB s]))) rfl ?_ ?_ ?_ ?_
 .intro i j y e h;rw[dif_pos e]at h;rw[dif_pos (Nat.lt_trans y e)];exact J.XU bX y e h
 .intro i j y e h;rw[dif_pos (Nat.lt_trans y e)]at h;rw[dif_pos e];exact J.XT bX y e h
 .intro lo g xu u next U hhi I G O C A Q
  subst O;rw[dif_pos G]at C A Q;refine ab.t (by simpa using U) ⟨by decide,?_⟩;refine⟨_,_,dF _ rfl,?_⟩;dsimp only;rw[adv U (by omega),<- I];refine⟨by omega,_,Ib G,_,rfl,λv=>by kernel_rfl,(wz L[xu] x).call ⟨_,rfl,ab.mk (λh=>?_) (λh=>ab.mk (λH=>?_) (λH=>?_))⟩⟩
  .have r:bc L[xu] x=0:=by simpa using h
   refine⟨xu,true,rfl,Nat.le_of_lt G,λi g w=>?_,λ_=>⟨G,(yu).1 r⟩,λh=>by cases h⟩;have:=Q r i w;rw[dif_pos g]at this;exact this
  .have r:bc L[xu] x<0:=by simpa using H
   have:=C r _ rfl;rw[aD (by omega) (by omega)];exact this
  .have r:0<bc L[xu] x:=by
    have a1:bc L[xu] x≠0:=by simpa using h
    have a2:¬bc L[xu] x<0:=by simpa using H
    omega
   exact A r _ rfl
 .intro k u next O Y C A
  refine ab.f (by simp) ?_;refine⟨k,false,rfl,Y,λi g w=>?_,λh=>(by cases h),λ_ i g w=>?_⟩
  .have:=C i w;rw[dif_pos g]at this;exact this
  .have:=A i w g;rw[dif_pos g]at this;exact this
def YQ{g:Mem}{b:Nat}{L:List ByteArray}{F:List Nat}(h:CE g b L F)(i:Up bc L)(j:L.length<=1000000)(x:ByteArray){K:Kq}(r:∀(k:Nat) (t:Bool),bV bc L x k t->K (.aB [pI k,pB t]) g):aa prog 247 [pP b 0,pS x] g K:=
 iB.query h (λs=>LP b s L i j x) (λp ⟨k,t,e,_⟩=>by rw[e];rfl) λp ⟨k,t,e,w⟩=>by rw[e];exact r k t w
def rl{e:Mem}{b:Nat}{L:List ByteArray}{F:List Nat}(h:CE e b L F)(g:Up bc L)(i:L.length<=1000000)(x:ByteArray){K:Kq}(j:∀(k:Nat) (t:Bool),bV bc L x k t->K (.aB [pI k,pB t]) e):aa prog 252 [pP b 0,pS x] e K:=by
 refine kJ.c ?_;exact ab.f rfl (YQ h g i x λk t r=>⟨_,_,rfl,j k t r⟩)
theorem LN{μ:Mem}{b:Nat}{L:List ByteArray}{F:List Nat}(h:CE μ b L F)(hl:L.length<=1000000){K:Kq}(hk:∀μ' F',s_ vj tyName 1 μ' b (cr L) F'->Mv μ μ' F F'->K (.aB []) μ'):aa prog 248 [pP b 0] μ K:=by
 obtain⟨μ0,hG,Qq,SG⟩:=h.raw;refine aa.pre hG (mB.c ?_);rcases SG with⟨rfl,hm⟩|hr
 .refine⟨true,aH hm (by simp),ab.t rfl ?_⟩;refine⟨_,_,aH hm (by simp),?_⟩;refine⟨_,_,aH hm (by simp),?_⟩;rw[dj,aD (by omega) (by omega)];refine⟨by omega,by omega,by omega,by omega,λnv yj=>?_⟩;have aW:nv≠b:=by rintro rfl;rw[hm]at yj;cases yj
  have hn:toNat ((L.length:Int)+1)=L.length+1:=by omega
  rw[hn];refine JD (Mem.ao _ _ _) (by simp) (by simp) (cZ L) (jC L) (by simp;omega) (by simp;omega) ?_;rw[Mem.set_set];refine⟨_,_,by rw[Mem.ax _ _ (Ne.symm aW)];exact hm,by simp,?_⟩;refine⟨_,_,Mem.ao _ _ _,by simp[du],?_⟩;rw[Mem.set_set];refine hk _ [b,nv] (.inr ⟨nv,L.length+1,_,rfl,aW,by rw[Mem.ao];rfl,by rw[Mem.ax _ _ aW,Mem.ao],by simp,by simp⟩) (Qq.trans ?_);exact((Mv.set (F:=[b]) (.inr yj)).trans (Mv.set (.inl (by simp)))).sub (by simp)
 .obtain⟨a,c,hm,_⟩:=hr.app (cZ L);exact⟨false,aH hm (by simp),ab.f rfl (hk μ0 F hr Qq)⟩
def qU(L:List ByteArray)(j:Nat)(y:ByteArray):(L.take j++y::L.drop j).length=L.length+1:=by
 rw[length_append,length_cons,length_take,length_drop];omega
def Wg(L:List ByteArray)(j:Nat)(y:ByteArray)(w:0<j)(r:j<=L.length):(cr (L.take j++y::L.drop j)).set j [pS (L[j-1]'(by omega))]=cr (L.take (j-1)++(L[j-1]'(by omega))::L.drop (j-1)):=by
 have e:L.drop (j-1)=L[j-1]'(by omega)::L.drop j:=by
  rw[List.drop_eq_getElem_cons (by omega)];congr 2;omega
 have h:L.take j=L.take (j-1)++[L[j-1]'(by omega)]:=by
  have:=take_add_one (l:=L) (i:=j-1);rw[show j-1+1=j by omega,getElem?_eq_getElem (by omega)]at this;exact this
 have g:(L.take j).length=j:=by rw[length_take];omega
 unfold cr;rw[map_append,map_cons,List.set_append_right _ _ (by simp;omega)];simp only[length_map,g,Nat.sub_self,List.set_cons_zero];rw[h,e,map_append,append_assoc,map_append];rfl
def ZY(L:List ByteArray)(j:Nat)(x y:ByteArray)(g:j<=L.length):(cr (L.take j++y::L.drop j)).set j [pS x]=cr (L.take j++x::L.drop j):=by
 have e:(L.take j).length=j:=by rw[length_take];omega
 unfold cr;rw[map_append,map_cons,List.set_append_right _ _ (by simp;omega)];simp only[length_map,e,Nat.sub_self,List.set_cons_zero];rw[map_append,map_cons]
def adF(L:List ByteArray)(j:Nat)(y:ByteArray)(g:0<j)(e:j<=L.length):(cr (L.take j++y::L.drop j))[j-1]?=some [pS (L[j-1]'(by omega))]:=by
 unfold cr;rw[getElem?_map,List.getElem?_append_left (by rw[length_take];omega),List.getElem?_take,if_pos (by omega),getElem?_eq_getElem (by omega)];rfl
def fX{H:Mem}{b:Nat}{L:List ByteArray}{F:List Nat}(h:CE H b L F)(hu:Up bc L)(hl:L.length<=999999)(x:ByteArray){K:Kq}
  (hk:∀r Q F' (t:Bool),(t=true↔x∉L)->CE r b Q F'->Up bc Q->(∀y,y∈Q↔y=x\/y∈L)->Q.length<=L.length+t.toNat->Mv H r F F'->K (pB t) r):aa prog 210 [pP b 0,pS x] H K:=by
 refine mC.c ?_;refine ab.f rfl (YQ h hu (by omega) x λk t C=>⟨_,_,rfl,ab.mk (λht=>?_) (λht=>?_)⟩)
 .have A:x∈L:=(C.mem bX).1 ht;exact hk H L F false ⟨λh=>(by cases h),λh=>absurd A h⟩ h hu (λy=>⟨λh=>.inr h,λh=>h.elim (λe=>e▸A) id⟩) (by simp) (Mv.refl _ _)
 .subst ht;have A:x∉L:=λA=>by have:=(C.mem bX).2 A;cases this
  refine LN h (by omega) λμ1 F1 hr zi=>⟨rfl,?_⟩;obtain⟨a,c,hb,kE⟩:=hr.app (cZ L);refine⟨_,_,_,aH hb (by simp),?_⟩;simp only[dj]at kE;rw[dj];refine kE [pS x] 16 _ rfl rfl (by omega) (by omega) λi J g U O e2 jh ju sV sT=>?_;refine⟨_,_,e2.trans hb,by simp,?_⟩;refine⟨_,_,_,aH (Mem.ao _ _ _) (by simp[du]),?_⟩;have hn1:wrap .i64 (((L.length+1:Nat):Int)-1)=(L.length:Int):=by rw[aD (by omega) (by omega)];omega
  rw[hn1];have hsl:du [.raw (.slice a L.length c),pB false] 0 [PV.raw (.slice (some ⟨i,0,none⟩) (L.length+1) J)]=[.raw (.slice (some ⟨i,0,none⟩) (L.length+1) J),pB false]:=rfl;refine ak.down C.le (by omega) (λj u=>∃y,u b=some (.cells vj [.raw (.slice (some ⟨i,0,none⟩) (L.length+1) J),pB false])/\u i=some (.cells tyName ((cr (L.take j++y::L.drop j)).flatten++g))/\Mv U u [b,i] [b,i]) ⟨x,?_,?_,?_⟩ ?_ ?_
  .rw[Mem.ao];rfl
  .rw[Mem.ax _ _ O,jh,take_length,drop_length];simp[cr]
  .exact(Mv.set (.inl (by simp))).sub (by simp)
  .rintro j u next hkj UN ⟨y,w,I,Y⟩ au
   refine ab.t (by simpa using hkj) ?_;refine⟨_,_,_,aH w (by simp),?_⟩;refine⟨_,_,_,aH w (by simp),?_⟩;have No:wrap .i64 ((j:Int)-1)=((j-1:Nat):Int):=by rw[aD (by omega) (by omega)];omega
   refine⟨by rw[No];omega,by rw[No];omega,L[j-1]'(by omega),?_,?_⟩
   .rw[No,toNat_natCast,zero_add];exact Ig (cZ _) I (adF L j y (by omega) UN)
   .refine⟨by omega,by omega,_,_,I,?_,au _ ⟨L[j-1]'(by omega),?_,?_,?_⟩⟩
    .have G:=eo (cZ (L.take j++y::L.drop j));rw[dj,qU]at G;rw[length_append,G,toNat_natCast,List.length_singleton];omega
    .rw[Mem.ax _ _ (Ne.symm O)];exact w
    .rw[Mem.ao,toNat_natCast,zero_add,DI (cZ _) (by rw[dj,qU];omega) rfl,Wg L j y (by omega) UN]
    .exact(Y.trans (Mv.set (.inl (by simp)))).sub (by simp)
  .rintro u next ⟨y,w,I,Y⟩
   refine ab.f (by simp) ?_;refine⟨_,_,_,aH w (by simp),?_⟩;have hle:=C.le;refine⟨by omega,by omega,_,_,I,?_,?_⟩
   .have G:=eo (cZ (L.take k++y::L.drop k));rw[dj,qU]at G;rw[length_append,G,toNat_natCast,List.length_singleton];omega
   .rw[toNat_natCast,zero_add,DI (cZ _) (by rw[dj,qU];omega) rfl,ZY L k x y C.le];refine hk (u.set i (some (.cells tyName ((cr (L.take k++x::L.drop k)).flatten++g)))) (L.take k++x::L.drop k) [b,i] true ⟨λ_=>A,λ_=>rfl⟩ ⟨cZ _,jC _,.inr (.inr (.inr ⟨i,J,g,rfl,O,?_,Mem.ao _ _ _,?_,?_⟩))⟩ (C.put bX hu) (λy=>bV.ZQ) (by rw[qU];simp) ?_
    .rw[Mem.ax _ _ (Ne.symm O),w,dj,qU]
    .rw[dj,qU];exact ju
    .rw[dj,qU];exact sV
    .exact zi.trans (sT.trans ((Y.trans (Mv.set (.inl (by simp)))).sub (by simp)))
def abn{i:Mem}{b:Nat}{L:List ByteArray}{F:List Nat}(h:CE i b L F){K:Kq}(C:∀g e,(e∈F\/i e=none)->e≠b->CE g b L [b]->CE g e L [e]->Mv i g F [e,b]->K (pP e 0) g):aa prog 249 [pP b 0] i K:=by
 obtain⟨r,s,G,A,H⟩:=h.list;refine aa.pre G (kK.c ?_);refine ab.f rfl ?_;refine⟨_,_,A,by simp,?_⟩;refine⟨_,_,aH (Mem.ao _ _ _) (by simp[du]),λe j=>?_⟩;have x:e≠b:=by rintro rfl;rw[Mem.ao]at j;cases j
 have w:=j;rw[Mem.ax _ _ x]at w;have y:Mv i (((r.set b (some (.cells vj (du [.list 1 .sh (cr L),pB s] (0+1) [pB true])))).set e (some (.cells vj [.list 1 .sh (cr L),pB true])))) F [e,b]:=(H.trans ((Mv.set (.inl (by simp))).trans (Mv.set (.inr j)))).sub (by simp);refine C _ e (y.grow e (by simp)) x ⟨cZ L,jC L,.inl ⟨rfl,?_⟩⟩ ⟨cZ L,jC L,.inl ⟨rfl,Mem.ao _ _ _⟩⟩ y;rw[Mem.ax _ _ (Ne.symm x),Mem.ao];rfl
def gB{g:Mem}(fl:Fl){K:Kq}(i:∀e b,g b=none->CE e b [] [b]->Mv g e [] [b]->K (pP b 0) e):aa prog 158 [.list 1 fl []] g K:=by
 refine pE.c ?_;intro b h;refine ak.each (n:=0) (by omega) (λ_ u=>u=g.set b (some (.cells vj [.list 1 .nil [],pB false]))) rfl (λk u next j=>by omega) ?_;rintro u next rfl
 refine ab.f (by simp) (i _ b h ⟨cZ [],jC [],.inr (.inl ⟨rfl,rfl,Mem.ao _ _ _⟩)⟩ ((Mv.set (.inr h)).sub (by simp)))
end K6
@[reducible] def p8(c:UInt8):PV:=.raw (.int .u8 ((c.toNat:Nat):Int))
def iK(c:UInt8):Bool:=decide ((c.toNat:Int)>=97)&&decide ((c.toNat:Int)<=122)
def GD(c:UInt8):Bool:=decide ((c.toNat:Int)>=48)&&decide ((c.toNat:Int)<=57)
def Gs(c:UInt8):Bool:=decide ((c.toNat:Int)>=65)&&decide ((c.toNat:Int)<=90)
def lP(c:UInt8):Bool:=iK c||(GD c||(((c.toNat:Int) == 45)||((c.toNat:Int) == 95)))
def sH(l:List UInt8):Bool:=decide (1<=l.length)&&(decide (l.length<=32)&&((match l with|c::_=>iK c|[]=>false)&&l.all lP))
def jq(t:ByteArray):Bool:=sH (bL t)
def fU(s:Sym):Bool:=
 bif s.k == 1 then(match bL s.t with|[c]=>Gs c&&(decide (s.n>=1)&&decide (s.n<=1048576))|_=>false)else
 bif s.k == 2 then aG s.t ⟨#[]⟩&&(decide (s.n>= -2147483647)&&decide (s.n<=2147483647))else
 bif s.k == 3 then(s.n == 0)&&jq s.t else false
def TG(c:UInt8):Pure prog 229 [p8 c] (pB (iK c)):=by
 refine av.of (JR.c ?_);refine ab.mk (λh=>?_) (λh=>?_)<;>simp_all [iK,wk,cb]<;>omega
def abl(c:UInt8):Pure prog 230 [p8 c] (pB (GD c)):=by
 refine av.of (JT.c ?_);refine ab.mk (λh=>?_) (λh=>?_)<;>simp_all [GD,wk,cb]<;>omega
def abi(c:UInt8):Pure prog 185 [p8 c] (pB (Gs c)):=by
 refine av.of (JS.c ?_);refine ab.mk (λh=>?_) (λh=>?_)<;>simp_all [Gs,wk,cb]<;>omega
def aft(c:UInt8):Pure prog 138 [p8 c] (pB (lP c)):=by
 refine av.of (uP.c ?_)
 repeat' (refine ab.mk (λh=>?_) (λh=>?_))
 all_goals (simp only[wk,cb,PV.raw.injEq,Value.bool.injEq,lP,iK,GD];grind)
def Ko{c:UInt8}{l:List UInt8}(g:(c::l).length<=32)(e:iK c=true):sH (c::l)=l.all lP:=by
 simp only[sH,length_cons]at*
 have hp:lP c=true:=by simp[lP,e]
 simp[e,hp];omega
def EU(t:ByteArray):Pure prog 186 [pS t] (pB (jq t)):=by
 refine av.of (Mo.c ?_);have e:=Cx t;unfold jq;generalize I:bL t=L at e;refine ab.mk (λh=>?_) (λh=>ab.mk (λA=>?_) (λA=>?_))
 .have:L=[]:=List.eq_nil_of_length_eq_zero (by simp at h;omega);subst this;rfl
 .have:¬L.length<=32:=by simp at A;omega
  simp[sH,this,wk,cb]
 .have O:1<=t.size:=by simp at h;omega
  have J:L.length<=32:=by simp at A;omega
  have C:∀k (x:k<L.length),t[toNat (k:Int)]?=some L[k]:=λk x=>by subst I;exact GO (by omega)
  obtain⟨c,l,rfl⟩:∃c l,L=c::l:=by
   cases L with
   |nil=>simp at e;omega
   |cons c l=>exact⟨c,l,rfl⟩
  refine⟨by omega,c,C 0 (by simp),(TG c).call ⟨_,rfl,ab.mk (λg=>?_) (λg=>?_)⟩⟩
  .have g:iK c=false:=by simpa using g
   simp[sH,g,wk,cb]
  .have g:iK c=true:=by simpa using g
   rw[Ko J g];refine ak.from (s:=1) (n:=t.size) O (by omega) (λk u=>(l.take (k-1)).all lP=true) (by simp) ?_ ?_
   .intro k u next jJ x r Q
    have G:k<(c::l).length:=by omega
    have H:k-1<l.length:=by simp at G;omega
    have y:(c::l)[k]=l[k-1]:=by
     cases k with
     |zero=>omega
     |succ k=>simp
    have j:=C k G;rw[y]at j
    have go:lP l[k-1]=true->∀w,next (wrap .i64 ((k:Int)+1)) w:=λhp w=>Q w (by
     have:k+1-1=k-1+1:=by omega
     rw[this,GQ H r];exact hp)
    have i:lP l[k-1]=false->wk (pB false)=pB (l.all lP):=λhp=>by rw[GR H hp];rfl
    refine ab.t (by simpa using x) ⟨by omega,_,j,(TG _).call ⟨_,rfl,ab.mk (λa1=>?_) (λa1=>go ?_ _)⟩⟩
    .refine⟨by omega,_,j,(abl _).call ⟨_,rfl,ab.mk (λa2=>?_) (λa2=>go ?_ _)⟩⟩
     .refine⟨by omega,_,j,ab.mk (λY=>⟨by omega,_,j,ab.mk (λU=>i ?_) (λU=>go ?_ _)⟩) (λY=>go ?_ _)⟩<;>simp_all [lP]
     .simp_all [lP]
    .simp_all [lP]
   .intro u next r
    refine ab.f (by simp) ?_;have:t.size-1=l.length:=by simp at e;omega
    rw[this,take_length]at r;rw[r];rfl
def ri(t:ByteArray):Pure prog 84 [pS t] (pB (jq t)):=by
 refine av.of (uN.c ?_);have e:=Cx t;unfold jq;generalize H:bL t=L at e;refine ab.mk (λh=>?_) (λh=>ab.mk (λx=>?_) (λx=>?_))
 .have:L=[]:=List.eq_nil_of_length_eq_zero (by simp at h;omega);subst this;rfl
 .have:¬L.length<=32:=by simp at x;omega
  simp[sH,this,wk,cb]
 .have O:1<=t.size:=by simp at h;omega
  have I:L.length<=32:=by simp at x;omega
  have i:∀k (j:k<L.length),t[toNat (k:Int)]?=some L[k]:=λk j=>by subst H;exact GO (by omega)
  obtain⟨c,l,rfl⟩:∃c l,L=c::l:=by
   cases L with
   |nil=>simp at e;omega
   |cons c l=>exact⟨c,l,rfl⟩
  refine⟨by omega,c,i 0 (by simp),ab.mk (λw=>?_) (λw=>⟨by omega,c,i 0 (by simp),ab.mk (λr=>?_) (λr=>?_)⟩)⟩
  .have:iK c=false:=by simp at w;simp[iK];omega
   simp[sH,this,wk,cb]
  .have:iK c=false:=by simp at r;simp[iK];omega
   simp[sH,this,wk,cb]
  .have G:iK c=true:=by simp at w r;simp[iK];omega
   have C:sH (c::l)=(c::l).all lP:=by
    simp only[length_cons]at I;simp[sH,G];omega
   rw[C];refine ak.each (n:=t.size) (by omega) (λk u=>((c::l).take k).all lP=true) (by simp) ?_ ?_
   .intro k u next j g J
    have y:k<(c::l).length:=by omega
    refine ab.t (by simpa using j) ⟨by omega,_,i k y,(aft _).call ⟨_,rfl,ab.mk (λA=>?_) (λA=>J _ ?_)⟩⟩
    .rw[GR y (by simpa using A)];rfl
    .rw[GQ y g];simpa using A
   .intro u next g
    refine ab.f (by simp) ?_;rw[<- e,take_length]at g;rw[g];rfl
def Aj{t:ByteArray}:((((t.size:Nat):Int) == 1)=true↔∃c,bL t=[c]):=by
 have e:=Cx t;constructor
 .intro h;have g:(bL t).length=1:=by simp at h;omega
  exact List.length_eq_one_iff.1 g
 .rintro⟨c,hc⟩;rw[hc]at e;simp at e |-;omega
def GH(s:Sym):Pure prog 122 [.agg s.pv] (pB (fU s)):=by
 refine av.of (JU.c ?_);refine ab.mk (λh=>?_) (λh=>ab.mk (λj=>?_) (λj=>ab.mk (λi=>?_) (λi=>?_)))
 .refine ab.mk (λa=>?_) (λa=>?_)
  .obtain⟨c,hc⟩:=Aj.1 a;have e:s.t[toNat 0]?=some c:=by
    have:=GO (t:=s.t) (k:=0) (by have:=Cx s.t;rw[hc]at this;simp at this;omega);simpa[hc]using this
   refine⟨by omega,c,e,(abi c).call ⟨_,rfl,ab.mk (λb=>ab.mk (λd=>?_) (λd=>?_)) (λb=>?_)⟩⟩<;>simp_all [fU,wk,cb]<;>omega
  .have:∀c,bL s.t≠[c]:=λc hc=>by rw[Aj.2 ⟨c,hc⟩]at a;cases a
   have g:fU s=false:=by
    simp only[fU,h,cond_true]
    all_goals (split<;>first|rfl|(rename_i c hc;exact absurd hc (this c)))
   rw[g];rfl
 .refine ab.mk (λa=>ab.mk (λb=>?_) (λb=>?_)) (λa=>?_)<;>simp_all [fU,wk,cb]<;>omega
 .refine ab.mk (λa=>(EU s.t).call ⟨_,rfl,?_⟩) (λa=>?_)<;>simp_all [fU,wk,cb]<;>omega
 .simp_all [fU,wk,cb]
def yv(s:Sym):Pure prog 144 [.agg s.pv] (pB (fU s)):=by
 refine av.of (sA.c ?_);refine ab.mk (λh=>?_) (λh=>ab.mk (λj=>?_) (λj=>ab.mk (λi=>?_) (λi=>?_)))
 .refine ab.mk (λa=>?_) (λa=>?_)
  .obtain⟨c,hc⟩:=Aj.1 a;have e:s.t[toNat 0]?=some c:=by
    have:=GO (t:=s.t) (k:=0) (by have:=Cx s.t;rw[hc]at this;simp at this;omega);simpa[hc]using this
   refine⟨by omega,c,e,ab.mk (λb=>⟨by omega,c,e,ab.mk (λr=>ab.mk (λd=>?_) (λd=>?_)) (λr=>?_)⟩) (λb=>?_)⟩<;>simp_all [fU,Gs,wk,cb]<;>omega
  .have:∀c,bL s.t≠[c]:=λc hc=>by rw[Aj.2 ⟨c,hc⟩]at a;cases a
   have g:fU s=false:=by
    simp only[fU,h,cond_true]
    all_goals (split<;>first|rfl|(rename_i c hc;exact absurd hc (this c)))
   rw[g];rfl
 .refine ab.mk (λa=>ab.mk (λb=>?_) (λb=>?_)) (λa=>?_)<;>simp_all [fU,wk,cb]<;>omega
 .refine ab.mk (λa=>(ri s.t).call ⟨_,rfl,?_⟩) (λa=>?_)<;>simp_all [fU,wk,cb]<;>omega
 .simp_all [fU,wk,cb]
def mh(s:Sym):Bool:=(s.k != 1)&&fU s
def yw(s:Sym):Pure prog 145 [.agg s.pv] (pB (mh s)):=by
 refine av.of (sB.c ?_);refine(yv s).call ⟨_,rfl,ab.mk (λa=>?_) (λa=>?_)⟩<;>simp_all [mh,wk,cb]
def sP(s:Sym):Bool:=(s.k == 0)&&(aG s.t ⟨#[]⟩&&((s.n == 0)&&true))
def ud(a:Atom):Bool:=aG a.var ⟨#[]⟩&&sP a.sym
def jy(a:Atom):Bool:=bif aG a.var ⟨#[]⟩then mh a.sym else jq a.var&&sP a.sym
def dR(t:Test):Bool:=
 bif t.rel == 8 then aG t.var ⟨#[]⟩&&(sP t.sym&&(decide (1<=t.list.length)&&(decide (t.list.length<=8)&&t.list.all mh)))
 else decide (1<=t.rel)&&(decide (t.rel<=7)&&(decide (t.list.length=0)&&jy ⟨t.var,t.sym⟩))
def DK(a:Atom):Bool:=aG a.var ⟨#[]⟩&&(a.sym.k == 3)
def lJ(t:Term):Bool:=decide (0<=t.op)&&(decide (t.op<=3)&&(jy t.a&&(bif t.op == 0 then ud t.b else jy t.b&&(!DK t.a&& !DK t.b))))
def Bq(k:Int):Bool:=(k == 8)||((k == 9)||(k == 10))
def jk(a:cI):Bool:=jq a.id&&(jy a.attr&&(lJ a.value&&(decide (1<=a.qF)&&(decide (a.qF<=10)&&(bif Bq a.qF then jy a.other else ud a.other)))))
def bE(c:ae)(deep:Int):Int:=
 bif c.kind == 3 then
  (bif c.goal||(!aG c.id ⟨#[]⟩||(decide (0<c.attr.length)||(decide (0<c.value.length)||(c.acc||decide (c.conds.length=0)))))then 9 else bif decide (3<=deep)then 8 else 0)
 else bif (c.kind == 1)||(c.kind == 2)then
  (bif decide (0<c.conds.length)||(!jq c.id||decide (c.attr.length=0))then 9 else
   bif decide (4<c.attr.length)||decide (4<c.value.length)then 7 else
   bif !(c.attr.all dR)|| !(c.value.all dR)then 9 else 0)
 else 9
def c_:List (Nat×Nat×ae)->Option (Nat×Int)
 |[]=>none
 |(a,d,c)::l=>bif bE c d == 0 then c_ l else some (a,bE c d)
def fT(a b:List (Nat×Nat×ae)):c_ (a++b)=(c_ a).or (c_ b):=by
 induction a with
 |nil=>rfl
 |cons x a e=>
  obtain⟨p,d,c⟩:=x;simp only[cons_append,c_];cases bE c d == 0
  .rfl
  .exact e
def ir:Nat->List cI->Option Nat
 |_,[]=>none
 |i,a::l=>bif jk a then ir (i+1) l else some i
def Jm{l:List cI}{k i:Nat}(e:k<l.length)(h:ir i (l.take k)=none):ir i (l.take (k+1))=(bif jk l[k]then none else some (i+k)):=by
 induction l generalizing k i with
 |nil=>simp at e
 |cons a l g=>
  cases k with
  |zero=>simp[ir]
  |succ k=>
   simp only[take_succ_cons,ir,getElem_cons_succ]at h |-;cases ha:jk a with
   |false=>rw[ha]at h;cases h
   |true=>
    rw[ha]at h;simp only[cond_true]at h |-;rw[g (by simpa using e) h];congr 2;omega
def LB{l:List cI}{k i:Nat}(e:k<l.length)(h:ir i (l.take k)=none)(ha:jk l[k]=false):ir i l=some (i+k):=by
 induction l generalizing k i with
 |nil=>simp at e
 |cons a l j=>
  cases k with
  |zero=>simp only[List.getElem_cons_zero]at ha;simp[ir,ha]
  |succ k=>
   simp only[take_succ_cons,ir,getElem_cons_succ]at h ha |-;cases g:jk a with
   |false=>rw[g]at h;cases h
   |true=>
    rw[g]at h;simp only[cond_true]at h |-;rw[j (by simpa using e) h ha];congr 1;omega
def lM(p:Prod):Int×Int:=
 match c_ (dd p.conds 0 0)with
 |some (a,e)=>(a,e)
 |none=>match ir 0 p.bd with
  |some i=>(((ah p.conds+i:Nat):Int),9)
  |none=>(-1,0)
def da(p:Prod):Int×Int:=
 bif !jq p.name then(-1,2)else
 bif decide (ah p.conds<1)||(decide (16<ah p.conds)||(decide (p.bd.length<1)||decide (16<p.bd.length)))then(-1,7)else lM p
def HU{p:Prod}{a:Nat}{e:Int}(h:c_ (dd p.conds 0 0)=some (a,e)):lM p=((a:Int),e):=by simp only[lM,h]
def HV{p:Prod}{i:Nat}(h:c_ (dd p.conds 0 0)=none)(e:ir 0 p.bd=some i):lM p=(((ah p.conds+i:Nat):Int),9):=by simp only[lM,h,e]
def DU{p:Prod}(h:c_ (dd p.conds 0 0)=none)(e:ir 0 p.bd=none):lM p=(-1,0):=by simp only[lM,h,e]
def rU{l:List (Nat×Nat×ae)}{a:Nat}{e:Int}(h:c_ l=some (a,e)):e≠0:=by
 induction l with
 |nil=>cases h
 |cons x l g=>
  obtain⟨p,d,c⟩:=x;simp only[c_]at h;cases hc:bE c d == 0 with
  |true=>rw[hc]at h;exact g h
  |false=>
   rw[hc]at h;simp only[cond_false,Option.some.injEq,Prod.mk.injEq]at h;rw[<- h.2];simpa using hc
def Jk{l:List (Nat×Nat×ae)}{k:Nat}{x:Nat×Nat×ae}(e:l[k]?=some x)(h:c_ (l.take k)=none):c_ (l.take (k+1))=(bif bE x.2.2 x.2.1 == 0 then none else some (x.1,bE x.2.2 x.2.1)):=by
 rw[take_add_one,fT,h,e];obtain⟨a,d,c⟩:=x;simp[c_]
def Jl{l:List (Nat×Nat×ae)}{k:Nat}{r:Nat×Int}(h:c_ (l.take k)=some r):c_ l=some r:=by
 have:=fT (l.take k) (l.drop k);rw[take_append_drop,h]at this;exact this
def NI(s:Sym):Pure prog 263 [.agg s.pv] (pB (sP s)):=av.of (Hg.c rfl)
def T_(a:Atom):Pure prog 246 [.agg a.pv] (pB (ud a)):=by
 refine av.of (DB.c ?_);refine ab.mk (λh=>(NI a.sym).call ⟨_,rfl,?_⟩) (λh=>?_)<;>simp_all [ud,wk,cb]
def LX(s:Sym):Pure prog 264 [.agg s.pv] (pB (mh s)):=by
 refine av.of (yH.c ?_);refine ab.mk (λh=>(GH s).call ⟨_,rfl,?_⟩) (λh=>?_)<;>simp_all [mh,wk,cb]
def NQ(a:Atom):Pure prog 243 [.agg a.pv] (pB (jy a)):=by
 refine av.of (Hi.c ?_);refine ab.mk (λh=>(EU a.var).call ⟨_,rfl,ab.mk (λe=>(NI a.sym).call ⟨_,rfl,?_⟩) (λe=>?_)⟩) (λh=>(LX a.sym).call ⟨_,rfl,?_⟩)<;>simp_all [jy,sP,wk,cb]
def rk(a:Atom):Pure prog 140 [.agg a.pv] (pB (jy a)):=by
 refine av.of (uM.c ?_);refine ab.mk (λh=>(ri a.var).call ⟨_,rfl,ab.mk (λe=>?_) (λe=>?_)⟩) (λh=>(yw a.sym).call ⟨_,rfl,?_⟩)<;>simp_all [jy,sP,wk,cb]
def Ay{T:Type}{f:FuncId}{p:T->Bool}{l:List T}{n:Nat}{e:(Int->Mem->Prop)->Int->Mem->Prop}{u:Mem}(j:l.length=n)(i:n<9223372036854775808)(A:l.all p=false->∀u next,False->e next 0 u)
  (x:∀(k:Nat) (r:k<l.length) (u:Mem) (next:Int->Mem->Prop),(p l[k]=true->∀u',next (wrap .i64 ((k:Int)+1)) u')->(p l[k]=false->l.all p=false)->e next (k:Int) u) (w:∀(u:Mem) (next:Int->Mem->Prop),l.all p=true->e next (n:Int) u):ak e 0 u:=by
 refine ak.each (n:=n) i (λk u=>(l.take k).all p=true) (by simp) ?_ ?_
 .intro k u next r g y
  have h:k<l.length:=by omega
  exact x k h u next (λhp u'=>y u' (by rw[GQ h g];exact hp)) (λhp=>GR h hp)
 .intro u next g
  rw[<- j,take_length]at g;exact w u next g
def afo(fl:Fl)(t:Test)(J:t.list.length<=1000000):Pure prog 262 [.agg [pI t.rel,pS t.var,pI t.sym.k,pS t.sym.t,pI t.sym.n,.list 3 fl (t.list.map Sym.pv)]] (pB (dR t)):=by
 refine av.of (He.c ?_);refine ab.mk (λe=>?_) (λe=>?_)
 .refine ab.mk (λj=>?_) (λj=>(NI t.sym).call ⟨_,rfl,ab.mk (λg=>?_) (λg=>ab.mk (λi=>?_) (λi=>ab.mk (λw=>?_) (λw=>?_)))⟩)
  .simp[dR,e,nb j,wk,cb]
  .simp[dR,e,nb g,wk,cb]
  .have:¬1<=t.list.length:=by simp at i;omega
   simp[dR,e,this,wk,cb]
  .have:¬t.list.length<=8:=by simp at w;omega
   simp[dR,e,this,wk,cb]
  .have x:1<=t.list.length:=by simp at i;omega
   have C:t.list.length<=8:=by simp at w;omega
   have r:dR t=t.list.all mh:=by simp[dR,e,nt j,nt g,x,C]
   rw[r];refine Ay (p:=mh) (l:=t.list) (f:=0) rfl (by omega) (λ_ _ _ h=>h.elim) (λk y u next A I=>?_) (λu next ha=>ab.f (by simp) (by rw[ha];rfl));refine ab.t (by simpa using y) ⟨by omega,_,aA y,_,_,_,rfl,(LX t.list[k]).call ⟨_,rfl,ab.mk (λa=>?_) (λa=>A (by simpa using a) _)⟩⟩;rw[I (by simpa using a)];rfl
 .refine ab.mk (λj=>?_) (λj=>ab.mk (λg=>?_) (λg=>ab.mk (λi=>?_) (λi=>?_)))
  .have:¬1<=t.rel:=by simp at j;omega
   simp[dR,e,this,wk,cb]
  .have:¬t.rel<=7:=by simp at g;omega
   simp[dR,e,this,wk,cb]
  .have:¬t.list.length=0:=by simp at i;omega
   simp[dR,e,this,wk,cb]
  .have H:1<=t.rel:=by simp at j;omega
   have G:t.rel<=7:=by simp at g;omega
   have x:t.list.length=0:=by simpa using i
   have r:dR t=jy ⟨t.var,t.sym⟩:=by simp[dR,e,H,G,x]
   rw[r];refine ab.mk (λh=>(EU t.var).call ⟨_,rfl,ab.mk (λg=>(NI t.sym).call ⟨_,rfl,?_⟩) (λg=>?_)⟩) (λh=>(LX t.sym).call ⟨_,rfl,?_⟩)<;>simp_all [jy,sP,wk,cb]
def TI(fl:Fl)(t:Test)(J:t.list.length<=1000000):Pure prog 234 [.agg [pI t.rel,pS t.var,pI t.sym.k,pS t.sym.t,pI t.sym.n,.list 3 fl (t.list.map Sym.pv)]] (pB (dR t)):=by
 refine av.of (uJ.c ?_);refine ab.mk (λe=>?_) (λe=>?_)
 .refine ab.mk (λj=>?_) (λj=>ab.mk (λi=>?_) (λi=>ab.mk (λg=>?_) (λg=>ab.mk (λy=>?_) (λy=>?_))))
  .simp_all [dR,wk,cb]
  .have:sP t.sym=false:=nb i;simp[dR,e,this,wk,cb]
  .have:¬1<=t.list.length:=by simp at g;omega
   simp[dR,e,this,wk,cb]
  .have:¬t.list.length<=8:=by simp at y;omega
   simp[dR,e,this,wk,cb]
  .have w:sP t.sym=true:=nt i;have r:1<=t.list.length:=by simp at g;omega
   have H:t.list.length<=8:=by simp at y;omega
   have x:aG t.var ⟨#[]⟩=true:=by simpa using j
   have G:dR t=t.list.all mh:=by simp[dR,e,x,w,r,H]
   rw[G];refine Ay (p:=mh) (l:=t.list) (f:=0) rfl (by omega) (λ_ _ _ h=>h.elim) (λk A u next C I=>?_) (λu next ha=>ab.f (by simp) (by rw[ha];rfl));refine ab.t (by simpa using A) ⟨by omega,_,aA A,_,_,_,rfl,(yw t.list[k]).call ⟨_,rfl,ab.mk (λa=>?_) (λa=>C (by simpa using a) _)⟩⟩;rw[I (by simpa using a)];rfl
 .refine ab.mk (λj=>ab.mk (λi=>ab.mk (λg=>(rk ⟨t.var,t.sym⟩).call ⟨_,rfl,?_⟩) (λg=>?_)) (λi=>?_)) (λj=>?_)
  .have r:t.list.length=0:=by simpa using g
   have x:1<=t.rel:=by simpa using j
   have w:t.rel<=7:=by simpa using i
   simp[dR,e,x,w,r,wk,cb]
  .have r:¬t.list.length=0:=by simpa using g
   simp[dR,e,r,wk,cb]
  .have w:¬t.rel<=7:=by simpa using i
   simp[dR,e,w,wk,cb]
  .have x:¬1<=t.rel:=by simpa using j
   simp[dR,e,x,wk,cb]
def TC(fl:Fl)(l:List Test)(r:l.length<=1000000)(i:∀t∈l,t.list.length<=1000000):Pure prog 242 [.list 6 fl (l.map Test.pv)] (pB (l.all dR)):=by
 refine av.of (Dz.c ?_);refine Ay (p:=dR) (l:=l) (f:=0) rfl (by omega) (λ_ _ _ h=>h.elim) (λk e u next g j=>?_) (λu next ha=>ab.f (by simp) (by rw[ha];rfl));refine ab.t (by simpa using e) ⟨by omega,_,aA e,_,_,_,_,_,_,_,rfl,(afo .sh l[k] (i _ (getElem_mem e))).call ⟨_,rfl,ab.mk (λa=>?_) (λa=>g (by simpa using a) _)⟩⟩;rw[j (by simpa using a)];rfl
def EW(fl:Fl)(l:List Test)(r:l.length<=1000000)(i:∀t∈l,t.list.length<=1000000):Pure prog 195 [.list 6 fl (l.map Test.pv)] (pB (l.all dR)):=by
 refine av.of (sw.c ?_);refine Ay (p:=dR) (l:=l) (f:=0) rfl (by omega) (λ_ _ _ h=>h.elim) (λk e u next g j=>?_) (λu next ha=>ab.f (by simp) (by rw[ha];rfl));refine ab.t (by simpa using e) ⟨by omega,_,aA e,_,_,_,_,_,_,_,rfl,(TI .sh l[k] (i _ (getElem_mem e))).call ⟨_,rfl,ab.mk (λa=>?_) (λa=>g (by simpa using a) _)⟩⟩;rw[j (by simpa using a)];rfl
def Ty(a:Atom):Pure prog 265 [.agg a.pv] (pB (DK a)):=by
 refine av.of (Hd.c ?_);refine ab.mk (λh=>?_) (λh=>?_)<;>simp_all [DK,wk,cb]
def aa9(k:Int):Pure prog 245 [pI k] (pB (Bq k)):=by
 refine av.of (DA.c ?_);refine ab.mk (λh=>?_) (λh=>ab.mk (λe=>?_) (λe=>?_))<;>simp[Bq,wk,cb, *]
def afp(t:Term):Pure prog 244 [.agg t.pv] (pB (lJ t)):=by
 refine av.of (Hf.c ?_)
 refine ab.mk (λh=>?_) (λh=>ab.mk (λe=>?_) (λe=>(NQ t.a).call ⟨_,rfl,ab.mk (λr=>?_) (λr=>ab.mk (λj=>(T_ t.b).call ⟨_,rfl,?_⟩)
  (λj=>(NQ t.b).call ⟨_,rfl,ab.mk (λi=>(Ty t.a).call ⟨_,rfl,ab.mk (λg=>(Ty t.b).call ⟨_,rfl,?_⟩) (λg=>?_)⟩) (λi=>?_)⟩))⟩))
 .have:¬0<=t.op:=by simp at h;omega
  simp[lJ,this,wk,cb]
 .have:¬t.op<=3:=by simp at e;omega
  simp[lJ,this,wk,cb]
 all_goals
  have x:0<=t.op:=by simp at h;omega
  have w:t.op<=3:=by simp at e;omega
  grind [lJ,wk,cb]
def ajE(a:cI):Pure prog 209 [.agg a.pv] (pB (jk a)):=by
 refine av.of (JV.c ?_)
 refine(EU a.id).call ⟨_,rfl,ab.mk (λr=>?_) (λr=>(NQ a.attr).call ⟨_,rfl,ab.mk (λj=>?_) (λj=>(afp a.value).call ⟨_,rfl,ab.mk (λi=>?_) (λi=>ab.mk (λg=>?_) (λg=>ab.mk (λe=>?_)
  (λe=>(aa9 a.qF).call ⟨_,rfl,ab.mk (λh=>(NQ a.other).call ⟨_,rfl,?_⟩) (λh=>(T_ a.other).call ⟨_,rfl,?_⟩)⟩)))⟩)⟩)⟩
 .simp_all [jk,wk,cb]
 .simp_all [jk,wk,cb]
 .simp_all [jk,wk,cb]
 .have:¬1<=a.qF:=by simp at g;omega
  simp[jk,this,wk,cb]
 .have:¬a.qF<=10:=by simp at e;omega
  simp[jk,this,wk,cb]
 all_goals
  have x:1<=a.qF:=by simp at g;omega
  have w:a.qF<=10:=by simp at e;omega
  simp_all [jk,wk,cb]
def rX{a:Atom}(h:jy a=true):(a.sym.k == 3)=DK a:=by
 unfold jy at h;unfold DK;cases e:aG a.var ⟨#[]⟩with
 |true=>simp
 |false=>
  rw[e]at h;simp only[cond_false,Bool.and_eq_true,sP]at h;have:a.sym.k=0:=by simpa using h.2.1
  simp[this]
def Xd(a:cI):Pure prog 86 [.agg a.pv] (pB (jk a)):=by
 refine av.of (wU.c ?_);refine(ri a.id).call ⟨_,rfl,ab.mk (λJ=>?_) (λJ=>(rk a.attr).call ⟨_,rfl,ab.mk (λI=>?_) (λI=>(rk a.value.a).call ⟨_,rfl,ab.mk (λH=>?_) (λH=>ab.mk (λA=>?_) (λA=>ab.mk (λy=>?_) (λy=>ab.mk (λx=>?_) (λx=>ab.mk (λw=>?_) (λw=>?_)))))⟩)⟩)⟩
 .simp_all [jk,wk,cb]
 .simp_all [jk,wk,cb]
 .simp_all [jk,lJ,wk,cb]
 .have:¬0<=a.value.op:=by simp at A;omega
  simp[jk,lJ,this,wk,cb]
 .have:¬a.value.op<=3:=by simp at y;omega
  simp[jk,lJ,this,wk,cb]
 .have:¬1<=a.qF:=by simp at x;omega
  simp[jk,this,wk,cb]
 .have:¬a.qF<=10:=by simp at w;omega
  simp[jk,this,wk,cb]
 .have U:0<=a.value.op:=by simp at A;omega
  have Q:a.value.op<=3:=by simp at y;omega
  have O:1<=a.qF:=by simp at x;omega
  have L:a.qF<=10:=by simp at w;omega
  have e1:jq a.id=true:=by simpa using J
  have Y:jy a.attr=true:=by simpa using I
  have j:jy a.value.a=true:=by simpa using H
  refine⟨λ_ _=>lJ a.value=true,?_,?_⟩
  .refine ab.mk (λe=>ab.mk (λg=>?_) (λg=>?_)) (λe=>(rk a.value.b).call ⟨_,rfl,ab.mk (λg=>?_) (λg=>ab.mk (λi=>?_) (λi=>ab.mk (λh=>?_) (λh=>?_)))⟩)
   .have:ud a.value.b=false:=nb g;simp[jk,lJ,e,this,wk,cb]
   .have:ud a.value.b=true:=nt g;simp[lJ,U,Q,j,e,this]
   .have:jy a.value.b=false:=by simpa using g
    simp[jk,lJ,e,this,wk,cb]
   .rw[rX j]at i;simp[jk,lJ,e,i,wk,cb]
   .have r:jy a.value.b=true:=by simpa using g
    rw[rX r]at h;simp[jk,lJ,e,h,wk,cb]
   .have r:jy a.value.b=true:=by simpa using g
    rw[rX j]at i;rw[rX r]at h;simp[lJ,U,Q,j,e,i,h,r]
  .rintro _ u C;have G:Bq a.qF=decide (a.qF>=8):=by
    simp only[Bq];rw[Bool.eq_iff_iff];simp;omega
   refine ab.mk (λe=>(rk a.other).call ⟨_,rfl,?_⟩) (λe=>?_)
   .simp[jk,e1,Y,C,O,L,G,e,wk,cb]
   .have:ud a.other=(aG a.other.var ⟨#[]⟩&&((a.other.sym.k == 0)&&(aG a.other.sym.t ⟨#[]⟩&&((a.other.sym.n == 0)&&true)))):=rfl;simp only[jk,e1,Y,C,O,L,G,e,this,wk,cb];simp
def Au{n:Nat}{b:Bool}(h:decide (((n:Nat):Int)>0)=b):decide (0<n)=b:=by rw[<- h];simp
def Hz{n:Nat}{b:Bool}(h:(((n:Nat):Int) == 0)=b):decide (n=0)=b:=by
 rw[<- h,Bool.eq_iff_iff];simp
def Hy{n:Nat}{b:Bool}(h:decide (((n:Nat):Int)>4)=b):decide (4<n)=b:=by
 rw[<- h,Bool.eq_iff_iff];simp;omega
def abm(c:ae)(deep:Int)(A:cU c):Pure prog 208 [.agg c.pv,pI deep] (pI (bE c deep)):=by
 obtain⟨_,ha,H,G,C,_⟩:=(bJ c).1 A;rw[ae.de];refine av.of (Hh.c ?_);have I:c.kind == 3->c.kind=3:=λh=>by simpa using h
 refine⟨λ_ _=>(c.kind == 3)=false/\((c.kind == 1)||(c.kind == 2))=true,?_,?_⟩
 .refine ab.mk (λg=>?_) (λg=>?_)
  .refine ab.mk (λh=>?_) (λh=>ab.mk (λi=>?_) (λi=>ab.mk (λe=>?_) (λe=>ab.mk (λj=>?_) (λj=>ab.mk (λw=>?_) (λw=>ab.mk (λr=>?_) (λr=>ab.mk (λy=>?_) (λy=>?_)))))))
   .simp[bE,g,h,wk,cb]
   .simp[bE,g,nb i,wk,cb]
   .rw[length_map]at e;simp only[bE,g,Au e,wk,cb];simp
   .rw[length_map]at j;simp only[bE,g,Au j,wk,cb];simp
   .simp[bE,g,w,wk,cb]
   .rw[length_map]at r;simp only[bE,g,Hz r,wk,cb];simp
   .rw[length_map]at e j r;have:decide (3<=deep)=true:=y;simp only[bE,g,h,nt i,Au e,Au j,w,Hz r,this,wk,cb];rfl
   .rw[length_map]at e j r;have:decide (3<=deep)=false:=y;simp only[bE,g,h,nt i,Au e,Au j,w,Hz r,this,wk,cb];rfl
  .refine ab.mk (λi=>ab.mk (λe=>⟨g,by simp[i]⟩) (λe=>by rw[i]at e;cases e)) (λi=>ab.mk (λe=>⟨g,by simp[e]⟩) (λe=>?_));simp[bE,g,i,e,wk,cb]
 .rintro _ u ⟨g,x⟩;refine ab.mk (λh=>?_) (λh=>(EU c.id).call ⟨_,rfl,ab.mk (λi=>?_) (λi=>ab.mk (λe=>?_) (λe=>ab.mk (λj=>?_) (λj=>ab.mk (λw=>?_) (λw=>(TC .sh c.attr (by omega) (cD G)).call ⟨_,rfl,ab.mk (λr=>?_) (λr=>(TC .sh c.value (by omega) (cD C)).call ⟨_,rfl,ab.mk (λy=>?_) (λy=>?_)⟩)⟩))))⟩)
  .rw[length_map]at h;simp only[bE,g,x,Au h,wk,cb];rfl
  .simp only[bE,g,x,nb i,wk,cb];simp
  .rw[length_map]at e;simp only[bE,g,x,Hz e,wk,cb];simp
  all_goals rw[length_map]at h e j
  .simp only[bE,g,x,Au h,nt i,Hz e,Hy j,wk,cb];simp
  all_goals rw[length_map]at w
  .simp only[bE,g,x,Au h,nt i,Hz e,Hy j,Hy w,wk,cb];simp
  .simp only[bE,g,x,Au h,nt i,Hz e,Hy j,Hy w,nb r,wk,cb];simp
  .simp only[bE,g,x,Au h,nt i,Hz e,Hy j,Hy w,nt r,nb y,wk,cb];simp
  .simp only[bE,g,x,Au h,nt i,Hz e,Hy j,Hy w,nt r,nt y,wk,cb];simp
def PG(c:ae)(deep:Int)(I:cU c):Pure prog 139 [.agg c.pv,pI deep] (pI (bE c deep)):=by
 obtain⟨_,ha,O,L,J,_⟩:=(bJ c).1 I;rw[ae.de];refine av.of (uL.c ?_);refine ab.mk (λC=>?_) (λC=>ab.mk (λA=>?_) (λA=>ab.mk (λe=>?_) (λe=>?_)))
 .have H:(c.kind == 3)=false:=by simp at C |-;omega
  have G:((c.kind == 1)||(c.kind == 2))=false:=by simp at C |-;omega
  simp only[bE,H,G,wk,cb];rfl
 .have H:(c.kind == 3)=false:=by simp at A |-;omega
  have G:((c.kind == 1)||(c.kind == 2))=false:=by simp at A |-;omega
  simp only[bE,H,G,wk,cb];rfl
 .refine ab.mk (λh=>?_) (λh=>ab.mk (λr=>?_) (λr=>ab.mk (λg=>?_) (λg=>ab.mk (λi=>?_) (λi=>ab.mk (λw=>?_) (λw=>ab.mk (λj=>?_) (λj=>ab.mk (λy=>?_) (λy=>?_)))))))
  .simp[bE,e,h,wk,cb]
  .simp[bE,e,nb r,wk,cb]
  .rw[length_map]at g;simp only[bE,e,Au g,wk,cb];simp
  .rw[length_map]at i;simp only[bE,e,Au i,wk,cb];simp
  .simp[bE,e,w,wk,cb]
  .rw[length_map]at j;simp only[bE,e,Hz j,wk,cb];simp
  .rw[length_map]at g i j;have:decide (3<=deep)=true:=y;simp only[bE,e,h,nt r,Au g,Au i,w,Hz j,this,wk,cb];rfl
  .rw[length_map]at g i j;have:decide (3<=deep)=false:=y;simp only[bE,e,h,nt r,Au g,Au i,w,Hz j,this,wk,cb];rfl
 .have x:((c.kind == 1)||(c.kind == 2))=true:=by simp at C A e |-;omega
  refine ab.mk (λh=>?_) (λh=>(ri c.id).call ⟨_,rfl,ab.mk (λr=>?_) (λr=>ab.mk (λg=>?_) (λg=>ab.mk (λi=>?_) (λi=>ab.mk (λw=>?_) (λw=>(EW .sh c.attr (by omega) (cD L)).call ⟨_,rfl,ab.mk (λj=>?_) (λj=>(EW .sh c.value (by omega) (cD J)).call ⟨_,rfl,ab.mk (λy=>?_) (λy=>?_)⟩)⟩))))⟩)
  .rw[length_map]at h;simp only[bE,e,x,Au h,wk,cb];rfl
  .simp only[bE,e,x,nb r,wk,cb];simp
  .rw[length_map]at g;simp only[bE,e,x,Hz g,wk,cb];simp
  all_goals rw[length_map]at h g i
  .simp only[bE,e,x,Au h,nt r,Hz g,Hy i,wk,cb];simp
  all_goals rw[length_map]at w
  .simp only[bE,e,x,Au h,nt r,Hz g,Hy i,Hy w,wk,cb];simp
  .simp only[bE,e,x,Au h,nt r,Hz g,Hy i,Hy w,nb j,wk,cb];simp
  .simp only[bE,e,x,Au h,nt r,Hz g,Hy i,Hy w,nt j,nb y,wk,cb];simp
  .simp only[bE,e,x,Au h,nt r,Hz g,Hy i,Hy w,nt j,nt y,wk,cb];simp
def rj:∀(n:Nat) (fl:Fl) (l:List ae),ah l<=n->ah l<=1000000->Pure prog 37 [.list 7 fl (l.map ae.pv)] (pI (ah l:Nat)):=by
 intro n;induction n with
 |zero=>
  intro fl l h _;have:l=[]:=by
   cases l with
   |nil=>rfl
   |cons c l=>simp[ah,bN]at h
  subst this;refine av.of (mw.c ?_);exact ak.cX (n:=0) (by omega) (λk x u=>x=0) rfl (λk x u next e=>by omega) (λx u next i=>by subst i;exact ab.f (by simp) rfl)
 |succ n g=>
  intro fl l h A;refine av.of (mw.c ?_);have w:=cz l;refine ak.cX (n:=l.length) (by omega) (λk x u=>x=((ah (l.take k):Nat):Int)) (by simp[ah]) ?_ ?_
  .rintro k _ u next e rfl r
   have y:=di (getElem_mem e);have j:=iw l (k+1);rw[dw e]at j;refine ab.t (by simpa using e) ⟨by omega,_,aA e,.sh,l[k].conds.map ae.pv,by rw[ae.de];rfl,(g .sh l[k].conds (by omega) (by omega)).call ⟨_,rfl,?_⟩⟩;dsimp only;rw[aD (x:=(1:Int)+_) (by omega) (by omega),aD (x:=((ah (l.take k):Nat):Int)+_) (by omega) (by omega)];exact r _ _ (by rw[dw e];omega)
  .rintro _ u next rfl
   refine ab.f (by simp) ?_;rw[take_length];rfl
def ug(l:List ae)(a d:Nat):PV:=match c_ (dd l a d)with
 |some (x,e)=>.aB [pI (x:Nat),pI e]
 |none=>.aB [pI (-1),pI 0]
def PF:∀(n:Nat) (fl:Fl) (l:List ae) (a d:Nat),ah l<=n->bO l->a+ah l<=1000000->d+ah l<=1000000->Pure prog 85 [.list 7 fl (l.map ae.pv),pI (a:Nat),pI (d:Nat)] (ug l a d):=by
 intro n;induction n with
 |zero=>
  intro fl l a d h _ _ _;have:l=[]:=by
   cases l with
   |nil=>rfl
   |cons c l=>simp[ah,bN]at h
  subst this;refine av.of (kW.c ?_);exact ak.cX (n:=0) (by omega) (λk x u=>True) trivial (λk x u next g=>by omega) (λx u next Q=>ab.f (by simp) rfl)
 |succ n G=>
  intro fl l a d h I ha Y;refine av.of (kW.c ?_);have O:=cz l;refine ak.cX (n:=l.length) (by omega) (λk x u=>x=((a+ah (l.take k):Nat):Int)/\c_ (dd (l.take k) a d)=none) ⟨by simp[ah],rfl⟩ ?_ ?_
  .rintro k _ u next g ⟨rfl,j⟩ J
   have U:=di (getElem_mem g);have H:=iw l (k+1);rw[dw g]at H;have C:=cG.1 I _ (getElem_mem g);have A:=FL g a d;refine ab.t (by simpa using g) ⟨by omega,_,aA g,_,_,_,_,_,_,_,_,_,_,by rw[ae.de];rfl,?_⟩;have hc:=PG l[k] d C;rw[ae.de]at hc;refine hc.call ⟨_,rfl,ab.mk (λi=>?_) (λi=>?_)⟩
   .have i:(bE l[k] d == 0)=false:=by simpa using i
    have:c_ (dd l a d)=some (a+ah (l.take k),bE l[k] d):=by
     rw[A,append_assoc,fT,j,none_or,cons_append,c_,i];rfl
    simp only[ug,this];rfl
   .have i:(bE l[k] d == 0)=true:=by simpa using i
    refine⟨by omega,_,aA g,.sh,l[k].conds.map ae.pv,by rw[ae.de];rfl,?_⟩;have y:=G .sh l[k].conds (a+ah (l.take k)+1) (d+1) (by omega) ((bJ _).1 C).2.2.2.2.2 (by omega) (by omega);rw[aD (by omega) (by omega),aD (by omega) (by omega)];refine y.call ?_;cases w:c_ (dd l[k].conds (a+ah (l.take k)+1) (d+1))with
    |some r=>
     obtain⟨x,e⟩:=r;have L:=rU w;have:c_ (dd l a d)=some (x,e):=by
      rw[A,append_assoc,fT,j,none_or,cons_append,c_,i,cond_true,fT,w];rfl
     simp only[ug,w,this];exact⟨_,_,rfl,ab.t (by simpa using L) rfl⟩
    |none=>
     simp only[ug,w];refine⟨_,_,rfl,ab.f rfl ⟨by omega,_,aA g,.sh,l[k].conds.map ae.pv,by rw[ae.de];rfl,(rj _ .sh l[k].conds (le_refl _) (by omega)).call ⟨_,rfl,?_⟩⟩⟩;rw[aD (x:=(1:Int)+_) (by omega) (by omega),aD (x:=((a+ah (l.take k):Nat):Int)+_) (by omega) (by omega)];refine J _ _ ⟨by rw[dw g];omega,?_⟩;rw[Ed g,fT,j,none_or,c_,i,cond_true];exact w
  .rintro _ u next ⟨rfl,j⟩
   refine ab.f (by simp) ?_;rw[take_length]at j;simp only[ug,j];rfl
def TA(L:Fn)(Q O:List PV)(hy:Cb L True)(I:Nat->Mem->Prop)(S:Mem->Prop):∀(n:Nat) (fl:Fl) (l:List ae) (a d j:Nat) (i:Mem),ah l<=n->a+ah l<=1000000->d+ah l<=1000000->I j i->
  (∀(k:Nat) (x:Nat×Nat×ae) (i:Mem),(dd l a d)[k]?=some x->I (j+k) i->bP prog (.fn L Q O) [pI (x.1:Nat),pI (x.2.1:Nat),.agg x.2.2.pv] i λv e=>(v=pB true/\I (j+k+1) e)\/(v=pB false/\S e))->
  aa prog 164 [.list 7 fl (l.map ae.pv),pI (a:Nat),pI (d:Nat),.fn L Q O] i λp e=>(p=.aB [pI ((a+ah l:Nat):Int),pB true]/\I (j+ah l) e)\/∃x:Int,p=.aB [pI x,pB false]/\S e:=by
 intro n;induction n with
 |zero=>
  intro fl l a d j i h _ _ J _;have:l=[]:=by
   cases l with
   |nil=>rfl
   |cons c l=>simp[ah,bN]at h
  subst this;refine wH.c ?_;exact ak.cX (n:=0) (by omega) (λk x u=>x=(a:Int)/\I j u) ⟨rfl,J⟩ (λk x u next g=>by omega) (λx u next r=>by obtain⟨rfl,r⟩:=r;exact ab.f (by simp) (.inl ⟨rfl,r⟩))
 |succ n ih=>
  intro fl l a d j i h ha hd J cV;refine wH.c ?_;have se:=cz l;refine ak.cX (n:=l.length) (by omega) (λk x u=>x=((a+ah (l.take k):Nat):Int)/\I (j+ah (l.take k)) u) ⟨by simp[ah],by simpa[ah]using J⟩ ?_ ?_
  .rintro k _ u next g ⟨rfl,A⟩ au
   have hm:=di (getElem_mem g);have hs:=iw l (k+1);rw[dw g]at hs;have fD:=FL g a d;have U:=j_ (l.take k) a d;refine ab.t (by simpa using g) ⟨by omega,_,aA g,_,_,_,_,_,_,_,_,_,_,by rw[ae.de];rfl,?_⟩
   have Y:=cV (ah (l.take k)) (a+ah (l.take k),d,l[k]) u (by
    rw[fD,append_assoc,List.getElem?_append_right (by omega),U];simp) A
   rw[ae.de]at Y;refine Y.mono ?_;rintro v C (⟨rfl,kP⟩|⟨rfl,H⟩)
   .refine⟨_,rfl,ab.f rfl ?_⟩;rw[aD (by omega) (by omega),aD (by omega) (by omega)]
    have G:=ih .sh l[k].conds (a+ah (l.take k)+1) (d+1) (j+ah (l.take k)+1) C (by omega) (by omega) (by omega) kP (λy x e r dP=>by
     have w:=j_ l[k].conds (a+ah (l.take k)+1) (d+1)
     have bZ:y<ah l[k].conds:=by rw[<- w];exact(List.getElem?_eq_some_iff.1 r).1
     have:=cV (ah (l.take k)+1+y) x e (by
      rw[fD,append_assoc,List.getElem?_append_right (by omega),U]
      have:ah (l.take k)+1+y-ah (l.take k)=y+1:=by omega
      rw[this,cons_append,List.getElem?_cons_succ,List.getElem?_append_left (by omega)]
      exact r) (by rw[<- add_assoc,<- add_assoc];exact dP)
     rw[<- add_assoc,<- add_assoc]at this
     exact this)
    refine aa.mono G ?_;rintro v μ2 (⟨rfl,xz⟩|⟨x,rfl,H⟩)
    .refine⟨_,_,rfl,ab.f rfl (au _ _ ⟨by rw[dw g];omega,?_⟩)⟩;rw[dw g,<- add_assoc,<- add_assoc];exact xz
    .exact⟨_,_,rfl,ab.t rfl (.inr ⟨x,rfl,H⟩)⟩
   .exact⟨_,rfl,ab.t rfl (.inr ⟨_,rfl,H⟩)⟩
  .rintro _ u next ⟨rfl,A⟩
   refine ab.f (by simp) (.inl ?_);rw[take_length]at A |-;exact⟨rfl,A⟩
def la{e:Mem}{b:Nat}{T:TypeId}{p:PV}(h:e b=some (.cells T [p])):ay e b 0 1=some [p]:=by simp[ay,h]
def Kn{e:Mem}{b:Nat}{T:TypeId}{p q:PV}:(e.set b (some (.cells T (du [p] 0 [q])))) b=some (.cells T [q]):=by simp[du]
def KO{e:Mem}{b:Nat}{T:TypeId}{p q:PV}:ay (e.set b (some (.cells T (du [p] 0 [q])))) b 0 1=some [q]:=la Kn
@[reducible] def XQ(x:Int×Int):PV:=.aB [pI x.1,pI x.2]
def JK{l:List cI}{e:(Int->Mem->Prop)->Int->Mem->Prop}{u:Mem}{A:Mem->Prop}(C:l.length<=1000000)(r:A u)
  (x:∀(k:Nat) (h:k<l.length) (u:Mem) (next:Int->Mem->Prop),A u->(jk l[k]=true->∀u',A u'->next (wrap .i64 ((k:Int)+1)) u')->(jk l[k]=false->ir 0 l=some k)->e next (k:Int) u)
  (w:∀(u:Mem) (next:Int->Mem->Prop),A u->ir 0 l=none->e next (l.length:Int) u):ak e 0 u:=by
 refine ak.each (n:=l.length) (by omega) (λk u=>A u/\ir 0 (l.take k)=none) ⟨r,rfl⟩ ?_ ?_
 .rintro k u next h ⟨i,g⟩ y
  exact x k h u next i (λha u' j=>y u' ⟨j,by rw[Jm h g,ha];rfl⟩) (λha=>by have:=LB h g ha;simpa using this)
 .rintro u next ⟨i,g⟩
  rw[take_length]at g;exact w u next i g
def PE(fc fa:Fl)(p:Prod)(O:bO p.conds)(L:ah p.conds<=1000000)(ha:p.bd.length<=1000000):Pure prog 35 [.agg [pS p.name,.list 7 fc (p.conds.map ae.pv),.list 19 fa (p.bd.map cI.pv)]] (XQ (da p)):=by
 refine av.of (sx.c ?_);refine(ri p.name).call ⟨_,rfl,ab.mk (λG=>?_) (λG=>(rj _ fc p.conds (le_refl _) L).call ⟨_,rfl,ab.mk (λC=>?_) (λC=>ab.mk (λy=>?_) (λy=>ab.mk (λw=>?_) (λw=>ab.mk (λj=>?_) (λj=>?_))))⟩)⟩
 .simp[da,nb G,wk,cb,zG]
 all_goals have h:jq p.name=true:=nt G
 .have:ah p.conds<1:=by have:=of_decide_eq_true C;omega
  simp[da,h,this,wk,cb,zG]
 .have:16<ah p.conds:=by simp at y;omega
  simp[da,h,this,wk,cb,zG]
 .have:p.bd.length<1:=by have:=of_decide_eq_true w;simp only[length_map]at this;omega
  simp[da,h,this,wk,cb,zG]
 .have:16<p.bd.length:=by simp at j;omega
  simp[da,h,this,wk,cb,zG]
 .have e2:¬ah p.conds<1:=by have:=of_decide_eq_false C;omega
  have Y:¬16<ah p.conds:=by simp at y;omega
  have U:¬p.bd.length<1:=by have:=of_decide_eq_false w;simp only[length_map]at this;omega
  have Q:¬16<p.bd.length:=by simp at j;omega
  refine(PF _ fc p.conds 0 0 (le_refl _) O (by omega) (by omega)).call ?_;have H:da p=lM p:=by simp[da,h,e2,Y,U,Q]
  cases g:c_ (dd p.conds 0 0)with
  |some r=>
   obtain⟨x,e⟩:=r;have aW:=rU g;simp only[ug,g];refine⟨_,_,rfl,ab.t (by simpa using aW) ?_⟩;rw[H,HU g];rfl
  |none=>
   simp only[ug,g];refine⟨_,_,rfl,ab.f rfl ?_⟩;refine JK (l:=p.bd) (A:=λ_=>True) ha trivial (λk I u next _ J cM=>?_) (λu next _ i=>?_)
   .refine ab.t (by simpa using I) ⟨by omega,_,aA I,_,_,_,_,_,_,_,_,_,_,_,_,_,_,_,_,_,_,_,rfl,(Xd p.bd[k]).call ⟨_,rfl,ab.mk (λa=>?_) (λa=>J (nt a) _ trivial)⟩⟩;rw[H,HV g (cM (nb a)),aD (by omega) (by omega)];simp[wk,cb,zG]
   .refine ab.f (by simp) ?_;rw[H,DU g i];rfl
def aa6(fc fa:Fl)(p:Prod)(hl:bO p.conds)(hs:ah p.conds<=1000000)(ha:p.bd.length<=1000000):Pure prog 157 [.agg [pS p.name,.list 7 fc (p.conds.map ae.pv),.list 19 fa (p.bd.map cI.pv)]] (XQ (da p)):=by
 refine av.of (DC.c ?_);refine(EU p.name).call ⟨_,rfl,ab.mk (λi=>?_) (λi=>?_)⟩
 .simp[da,nb i,wk,cb,zG]
 have O:jq p.name=true:=nt i;intro j Pl;refine⟨_,_,Mem.ao _ _ _,by simp,?_⟩;rw[Mem.set_set];have nH:=j_ p.conds 0 0;refine aa.mono (TA (.func 206) [] [pP j 0] trivial (λk g=>g j=some (.cells 3 [pI (k:Nat)])/\k<=16) (λg=>g j=some (.cells 3 [pI 17])/\16<ah p.conds) _ fc p.conds 0 0 0 _ (le_refl _) (by omega) (by omega) ⟨by simp[Mem.ao,du],by omega⟩ (λk x g J L=>?_)) ?_
 .rw[zero_add]at L |-;have Gd:=tA _ _ _ _ _ J;have hk:k<ah p.conds:=by rw[<- nH];exact(List.getElem?_eq_some_iff.1 J).1
  show aa _ _ _ _ _;rw[ae.de];refine zT.c ?_;refine⟨_,_,L.1,by simp,_,KO,?_⟩;rw[Gd,zero_add,aD (by omega) (by omega)];by_cases h16:k+1<=16
  .exact .inl ⟨by simp;omega,by rw[Kn];rfl,h16⟩
  .have:k=16:=by omega
   subst this;exact .inr ⟨by simp,by rw[Kn];rfl,hk⟩
 rintro v μ1 hv;have ah8:∃(x:Int) (q:Bool) (m:Nat),v=.aB [pI x,pB q]/\μ1 j=some (.cells 3 [pI (m:Nat)])/\(m<=16->m=ah p.conds)/\(16<m->16<ah p.conds):=by
  rcases hv with⟨rfl,i,y⟩|⟨x,rfl,i,y⟩
  .rw[zero_add]at i y;exact⟨_,_,_,rfl,i,λ_=>rfl,λh=>by omega⟩
  .exact⟨_,_,17,rfl,i,λh=>by omega,λ_=>y⟩
 obtain⟨x,q,m,rfl,H,sT,Ym⟩:=ah8;refine⟨_,_,rfl,_,la H,ab.mk (λy=>?_) (λy=>⟨_,la H,ab.mk (λh3=>?_) (λh3=>ab.mk (λh4=>?_) (λh4=>ab.mk (λh5=>?_) (λh5=>?_)))⟩)⟩
 .have:ah p.conds<1:=by have:=of_decide_eq_true y;have:=sT (by omega);omega
  simp[da,O,this,wk,cb,zG]
 .have:16<ah p.conds:=Ym (by simp at h3;omega);simp[da,O,this,wk,cb,zG]
 .have:p.bd.length<1:=by have:=of_decide_eq_true h4;simp only[length_map]at this;omega
  simp[da,O,this,wk,cb,zG]
 .have:16<p.bd.length:=by simp at h5;omega
  simp[da,O,this,wk,cb,zG]
 have zh:m=ah p.conds:=sT (by simp at h3;omega);subst zh;have e2:¬ah p.conds<1:=by have:=of_decide_eq_false y;omega
 have e3:¬16<ah p.conds:=by simp at h3;omega
 have e4:¬p.bd.length<1:=by have:=of_decide_eq_false h4;simp only[length_map]at this;omega
 have e5:¬16<p.bd.length:=by simp at h5;omega
 have UI:da p=lM p:=by simp[da,O,e2,e3,e4,e5]
 intro U Yw Q Gp;have w:U≠j:=by rintro rfl;rw[H]at Yw;cases Yw
 have C:Q≠U:=by rintro rfl;rw[Mem.ao]at Gp;cases Gp
 have r:Q≠j:=by rintro rfl;rw[Mem.ax _ _ (Ne.symm w)]at Gp;rw[H]at Gp;cases Gp
 refine⟨_,_,by rw[Mem.ax _ _ (Ne.symm C)];exact Mem.ao _ _ _,by simp,?_⟩;refine⟨_,_,by rw[Mem.ax _ _ C];exact Mem.ao _ _ _,by simp,?_⟩
 refine aa.mono (TA (.func 207) [] [pP Q 0,pP U 0] trivial (λk g=>g j=some (.cells 3 [pI (ah p.conds:Nat)])/\g U=some (.cells 3 [pI (-1)])/\g Q=some (.cells 30 [pI 0])/\c_ ((dd p.conds 0 0).take k)=none)
  (λg=>∃a e,g U=some (.cells 3 [pI (a:Nat)])/\g Q=some (.cells 30 [pI e])/\c_ (dd p.conds 0 0)=some (a,e)) _ fc p.conds 0 0 0 _ (le_refl _) (by omega) (by omega) ?_ (λk x g J L=>?_)) ?_
 .refine⟨?_,?_,by simp[du],rfl⟩
  .rw[Mem.ax _ _ (Ne.symm r),Mem.ax _ _ (Ne.symm w),Mem.ax _ _ (Ne.symm r),Mem.ax _ _ (Ne.symm w)];exact H
  .rw[Mem.ax _ _ (Ne.symm C),Mem.ao];simp[du]
 .rw[zero_add]at L |-;obtain⟨i4,I,G,Y⟩:=L;have hlx:=tO _ _ _ x hl (List.mem_of_getElem? J);have gF:=Jk J Y;show aa _ _ _ _ _;have hc:=abm x.2.2 x.2.1 hlx;rw[ae.de]at hc |-;refine zS.c (hc.call ⟨_,rfl,_,_,G,by simp,_,KO,ab.mk (λh=>?_) (λh=>?_)⟩)
  .have aW:(bE x.2.2 x.2.1 == 0)=false:=by simpa using h
   refine⟨_,_,by rw[Mem.ax _ _ (Ne.symm C)];exact I,by simp,_,la (by rw[Mem.ax _ _ C];exact Kn),.inr ⟨by rw[aW],x.1,bE x.2.2 x.2.1,?_,?_,?_⟩⟩
   .exact Kn
   .rw[Mem.ax _ _ C];exact Kn
   .rw[aW]at gF;exact Jl gF
  .have he:(bE x.2.2 x.2.1 == 0)=true:=by simpa using h
   have Qs:bE x.2.2 x.2.1=0:=by simpa using he
   refine⟨_,KO,.inl ⟨by rw[he],?_,?_,?_,?_⟩⟩
   .rw[Mem.ax _ _ (Ne.symm r)];exact i4
   .rw[Mem.ax _ _ (Ne.symm C)];exact I
   .rw[Kn,Qs]
   .rw[gF,he];rfl
 rintro v μ2 hv;rcases hv with⟨rfl,i4,I,G,Y⟩|⟨x,rfl,a,e,I,G,Ys⟩
 .rw[zero_add,<- nH,take_length]at Y;refine⟨_,_,rfl,_,la G,ab.f rfl ?_⟩;refine JK (l:=p.bd) (A:=λg=>g j=some (.cells 3 [pI (ah p.conds:Nat)])) ha i4 (λk hk u next hA hy cM=>?_) (λu next _ hf=>?_)
  .refine ab.t (by simpa using hk) ⟨by omega,_,aA hk,_,_,_,_,_,_,_,_,_,_,_,_,_,_,_,_,_,_,_,rfl,(ajE p.bd[k]).call ⟨_,rfl,ab.mk (λa=>⟨_,la hA,?_⟩) (λa=>hy (nt a) _ hA)⟩⟩;rw[UI,HV Y (cM (nb a)),aD (by omega) (by omega)];simp[wk,cb,zG]
  .refine ab.f (by simp) ?_;rw[UI,DU Y hf];rfl
 .have aW:=rU Ys;refine⟨_,_,rfl,_,la G,ab.t (by simpa using aW) ⟨_,la I,_,la G,?_⟩⟩;rw[UI,HU Ys];rfl
def hasB(K:List ByteArray)(v:ByteArray):Bool:=K.any λx=>aG x v
def qX{K:List ByteArray}{v:ByteArray}:hasB K v=true↔v∈K:=by
 unfold hasB;rw[List.any_eq_true];constructor
 .rintro⟨x,g,e⟩;rw[bM]at e;exact e▸g
 .intro h;exact⟨v,h,bM.2 rfl⟩
def pZ(K:List ByteArray)(v:ByteArray):List ByteArray:=bif hasB K v then[]else[v]
def vH(K:List ByteArray)(v:ByteArray):(pZ K v).length<=1:=by unfold pZ;cases hasB K v<;>simp
def sb(K:List ByteArray)(t:Test):Option (List ByteArray):=
 bif (t.rel == 8)||aG t.var ⟨#[]⟩then some K else bif t.rel == 1 then some (K++pZ K t.var)else bif hasB K t.var then some K else none
def iF:List ByteArray->List Test->Option (List ByteArray)
 |K,[]=>some K
 |K,t::e=>match sb K t with
  |some g=>iF g e
  |none=>none
def qL(K:List ByteArray)(a b:List Test):iF K (a++b)=(iF K a).bind λe=>iF e b:=by
 induction a generalizing K with
 |nil=>rfl
 |cons t a g=>
  simp only[cons_append,iF];cases sb K t with
  |none=>rfl
  |some e=>exact g e
def xW{K e:List ByteArray}{ts:List Test}{i:Nat}(g:i<ts.length)(h:iF K (ts.take i)=some e):iF K (ts.take (i+1))=sb e ts[i]:=by
 rw[take_add_one,qL,h,getElem?_eq_getElem g];simp only[bind_some,toList_some,iF];cases sb e ts[i]<;>rfl
def En{K e:List ByteArray}{ts:List Test}{i:Nat}(j:i<ts.length)(h:iF K (ts.take i)=some e)(g:sb e ts[i]=none):iF K ts=none:=by
 have:ts=ts.take (i+1)++ts.drop (i+1):=(take_append_drop _ _).symm;rw[this,qL,xW j h,g];rfl
def p_(K:List ByteArray)(c:ae):Option (List ByteArray):=
 (λe=>bif hasB e c.id then(iF e c.attr).bind λK1=>iF K1 c.value else none) (bif c.goal then K++pZ K c.id else K)
mutual
def vQ:ae->Nat->List ByteArray->Except Nat (List ByteArray)
 | .mk k g i a v ac cs,n,K=>
   bif k == 3 then(match eE cs (n+1) K with
    | .error e=>.error e
    | .ok _=>.ok K)
   else match p_ K (.mk k g i a v ac cs)with
    |none=>.error n
    |some K'=>.ok (bif k == 1 then K' else K)
def eE:List ae->Nat->List ByteArray->Except Nat (List ByteArray)
 |[],_,K=>.ok K
 |c::cs,n,K=>match vQ c n K with
  | .error e=>.error e
  | .ok K'=>eE cs (n+aQ c) K'
end
def BL(c:ae)(n:Nat)(K:List ByteArray):vQ c n K=(bif c.kind == 3 then(match eE c.conds (n+1) K with
   | .error e=>.error e
   | .ok _=>.ok K)
  else match p_ K c with
   |none=>.error n
   |some g=>.ok (bif c.kind == 1 then g else K)):=by cases c;simp only[vQ];rfl
def vP(a b:List ae)(n:Nat)(K:List ByteArray):eE (a++b) n K=match eE a n K with
  | .error e=>.error e
  | .ok g=>eE b (n+ah a) g:=by
 induction a generalizing n K with
 |nil=>simp[eE,ah]
 |cons c a h=>
  simp only[cons_append,eE,ah];cases vQ c n K with
  |error e=>rfl
  |ok g=>simp only[h];rw[add_assoc]
def tQ{l:List ae}{n i:Nat}{K e:List ByteArray}(g:i<l.length)(h:eE (l.take i) n K=.ok e):eE (l.take (i+1)) n K=vQ l[i] (n+ah (l.take i)) e:=by
 rw[take_add_one,vP,h,getElem?_eq_getElem g];simp only[toList_some,eE];cases vQ l[i] (n+ah (l.take i)) e<;>rfl
def lX{l:List ae}{n i e:Nat}{K g:List ByteArray}(r:i<l.length)(h:eE (l.take i) n K=.ok g)(j:vQ l[i] (n+ah (l.take i)) g=.error e):eE l n K=.error e:=by
 have:l=l.take (i+1)++l.drop (i+1):=(take_append_drop _ _).symm;rw[this,vP,tQ r h,j]
def VN(t:Test):Prop:=t.rel=8->aG t.var ⟨#[]⟩=true
mutual
def OJ:ae->Prop
 | .mk k _ _ a v _ cs=>(k=3\/((k=1\/k=2)/\cs.length=0))/\a.length<=4/\v.length<=4/\(∀t∈a,VN t)/\(∀t∈v,VN t)/\Qh cs
def Qh:List ae->Prop
 |[]=>True
 |c::cs=>OJ c/\Qh cs
end
def Bu(c:ae):OJ c↔(c.kind=3\/((c.kind=1\/c.kind=2)/\c.conds.length=0))/\c.attr.length<=4/\c.value.length<=4/\(∀t∈c.attr,VN t)/\(∀t∈c.value,VN t)/\Qh c.conds:=by cases c;rfl
def MY{l:List ae}:Qh l↔∀c∈l,OJ c:=by
 induction l with
 |nil=>simp[Qh]
 |cons c l e=>simp[Qh,e]
def HK{t:Test}(h:dR t=true):VN t:=λe=>by
 unfold dR at h;simp only[e,beq_self_eq_true,cond_true,Bool.and_eq_true]at h;exact h.1
def Tq{c:ae}{d:Int}(h:bE c d=0):(c.kind=3\/((c.kind=1\/c.kind=2)/\c.conds.length=0))/\c.attr.length<=4/\c.value.length<=4/\(∀t∈c.attr,VN t)/\(∀t∈c.value,VN t):=by
 unfold bE at h;cases r:c.kind == 3 with
 |true=>
  rw[r]at h;simp only[cond_true]at h;have j:c.kind=3:=by simpa using r
  cases g:(c.goal||(!aG c.id ⟨#[]⟩||(decide (0<c.attr.length)||(decide (0<c.value.length)||(c.acc||decide (c.conds.length=0))))))with
  |true=>rw[g]at h;simp at h
  |false=>
   simp only[Bool.or_eq_false_iff,decide_eq_false_iff_not]at g;obtain⟨_,_,ha,w,_⟩:=g;refine⟨.inl j,by omega,by omega,λt e=>?_,λt e=>?_⟩
   .have:=List.length_pos_of_mem e;omega
   .have:=List.length_pos_of_mem e;omega
 |false=>
  rw[r]at h;simp only[cond_false]at h;cases i:(c.kind == 1)||(c.kind == 2)with
  |false=>rw[i]at h;simp at h
  |true=>
   rw[i]at h;simp only[cond_true]at h;have j:c.kind=1\/c.kind=2:=by simpa using i
   cases g:(decide (0<c.conds.length)||(!jq c.id||decide (c.attr.length=0)))with
   |true=>rw[g]at h;simp at h
   |false=>
    rw[g]at h;simp only[cond_false]at h;cases hm:(decide (4<c.attr.length)||decide (4<c.value.length))with
    |true=>rw[hm]at h;simp at h
    |false=>
     rw[hm]at h;simp only[cond_false]at h;cases e:(!(c.attr.all dR)|| !(c.value.all dR))with
     |true=>rw[e]at h;simp at h
     |false=>
      simp only[Bool.or_eq_false_iff,decide_eq_false_iff_not,Bool.not_eq_false',List.all_eq_true]at g hm e;exact⟨.inr ⟨j,by omega⟩,by omega,by omega,λt h=>HK (e.1 t h),λt h=>HK (e.2 t h)⟩
def zv{l:List (Nat×Nat×ae)}(h:c_ l=none):∀x∈l,bE x.2.2 x.2.1=0:=by
 induction l with
 |nil=>intro x e;cases e
 |cons y l g=>
  obtain⟨a,d,c⟩:=y;simp only[c_]at h;cases hc:bE c d == 0 with
  |false=>rw[hc]at h;cases h
  |true=>
   rw[hc]at h;intro x e;rcases mem_cons.1 e with rfl|e
   .simpa using hc
   .exact g h x e
mutual
theorem VP:∀(c:ae) (a d:Nat),(∀x∈gW c a d,bE x.2.2 x.2.1=0)->OJ c
 | .mk k g i at_ v ac cs,a,d,h=>by
   have h0:=Tq (h (a,d,.mk k g i at_ v ac cs) (by simp[gW]))
   exact⟨h0.1,h0.2.1,h0.2.2.1,h0.2.2.2.1,h0.2.2.2.2,FR cs (a+1) (d+1) λx hx=>h x (by simp[gW,hx])⟩
theorem FR:∀(l:List ae) (a d:Nat),(∀x∈dd l a d,bE x.2.2 x.2.1=0)->Qh l
 |[],_,_,_=>trivial
 |c::cs,a,d,h=>⟨VP c a d λx hx=>h x (by simp[dd,hx]),FR cs (a+aQ c) d λx hx=>h x (by simp[dd,hx])⟩
end
def nX(K:List ByteArray)(a:Atom):Bool:= !aG a.var ⟨#[]⟩&& !hasB K a.var
def iO(K:List ByteArray)(a:cI):Bool:=nX K a.attr||((a.value.op != 0)&&(nX K a.value.a||nX K a.value.b))
def iq(K:List ByteArray):Nat->List cI->Option Nat
 |_,[]=>none
 |i,a::l=>bif iO K a then some i else iq K (i+1) l
def zu{K:List ByteArray}{l:List cI}{k i:Nat}(e:k<l.length)(h:iq K i (l.take k)=none):iq K i (l.take (k+1))=(bif iO K l[k]then some (i+k)else none):=by
 induction l generalizing k i with
 |nil=>simp at e
 |cons a l g=>
  cases k with
  |zero=>simp[iq]
  |succ k=>
   simp only[take_succ_cons,iq,getElem_cons_succ]at h |-;cases ha:iO K a with
   |true=>rw[ha]at h;cases h
   |false=>
    rw[ha]at h;simp only[cond_false]at h |-;rw[g (by simpa using e) h];congr 2;omega
def Ce{K:List ByteArray}{l:List cI}{k i:Nat}(e:k<l.length)(h:iq K i (l.take k)=none)(ha:iO K l[k]=true):iq K i l=some (i+k):=by
 induction l generalizing k i with
 |nil=>simp at e
 |cons a l j=>
  cases k with
  |zero=>simp only[List.getElem_cons_zero]at ha;simp[iq,ha]
  |succ k=>
   simp only[take_succ_cons,iq,getElem_cons_succ]at h ha |-;cases g:iO K a with
   |true=>rw[g]at h;cases h
   |false=>
    rw[g]at h;simp only[cond_false]at h |-;rw[j (by simpa using e) h ha];congr 1;omega
def b_(p:Prod):Int×Int×List ByteArray:=
 bif (da p).2 != 0 then((da p).1,(da p).2,[])else
 bif (p.conds.head?.map ae.kind).getD 0 != 1 then(0,9,[])else
 match eE p.conds 0 []with
 | .error n=>((n:Int),6,[])
 | .ok K=>match iq K 0 p.bd with
   |some i=>(((ah p.conds+i:Nat):Int),6,[])
   |none=>(-1,0,K)
def xK{p:Prod}(h:(da p).2=0):1<=ah p.conds/\ah p.conds<=16/\1<=p.bd.length/\p.bd.length<=16/\Qh p.conds:=by
 unfold da at h;cases hw:jq p.name with
 |false=>rw[hw]at h;simp at h
 |true=>
  rw[hw]at h;simp only[Bool.not_true,cond_false]at h;cases g:(decide (ah p.conds<1)||(decide (16<ah p.conds)||(decide (p.bd.length<1)||decide (16<p.bd.length))))with
  |true=>rw[g]at h;simp at h
  |false=>
   rw[g]at h;simp only[cond_false]at h;simp only[Bool.or_eq_false_iff,decide_eq_false_iff_not]at g;refine⟨by omega,by omega,by omega,by omega,FR _ 0 0 (zv ?_)⟩;unfold lM at h;split at h
   .rename_i a e j;exfalso;have:∀l:List (Nat×Nat×ae),c_ l=some (a,e)->e≠0:=by
     intro l;induction l with
     |nil=>intro h;cases h
     |cons y l i=>
      obtain⟨r,d,c⟩:=y;simp only[c_];cases hc:bE c d == 0 with
      |true=>exact i
      |false=>
       intro h;simp only[cond_false,Option.some.injEq,Prod.mk.injEq]at h;rw[<- h.2];simpa using hc
    exact this _ j h
   .assumption
namespace K6
def Ky(fl:Fl):List Nat:=match fl with| .nM b _=>[b]|_=>[]
abbrev rI:TypeId:=294
abbrev HG:TypeId:=9
def wE(e:Mem)(p:PV)(row:List ByteArray)(F:List Nat):Prop:=(p=.list 1 .nil []/\row=[]/\F=[])\/wF HG 1 e p (cr row) F
def wE.at_{e:Mem}{p:PV}{row:List ByteArray}{F:List Nat}(h:wE e p row F):∀x∈F,e x≠none:=by
 rcases h with⟨_,_,rfl⟩|h
 .intro x g;cases g
 .exact h.at_
def wE.same{g e:Mem}{p:PV}{row:List ByteArray}{F:List Nat}(h:wE g p row F)(i:∀x∈F,e x=g x):wE e p row F:=by
 rcases h with h|h
 .exact .inl h
 .exact .inr (h.same i)
def wE.view{e:Mem}{p:PV}{row:List ByteArray}{F:List Nat}(h:wE e p row F):dL e p (.list 1 .sh (cr row)):=by
 rcases h with⟨rfl,rfl,_⟩|h
 .exact .wk (.list 1 .nil [])
 .exact h.view (cZ _) (jC _)
structure jm(μ:Mem)(k:Nat)(K row:List ByteArray)(F:List Nat):Prop where
 ex:∃b L p Fs Fr,μ k=some (.cells rI [pP b 0,p])/\CE μ b L Fs/\Up bc L/\(∀y,y∈L↔y∈K)/\L.length<=K.length/\wE μ p row Fr/\k∉Fs/\(∀x∈Fr,x≠k/\x∉Fs)/\F=k::(Fs++Fr)
 row:row.length<=K.length
def jm.at_{g:Mem}{k:Nat}{K row:List ByteArray}{F:List Nat}(h:jm g k K row F):∀x∈F,g x≠none:=by
 obtain⟨b,L,p,w,Fr,r,j,_,_,_,i,_,_,rfl⟩:=h.ex;intro x e;simp only[mem_cons,mem_append]at e;rcases e with rfl|e|e
 .rw[r];simp
 .exact j.at_.2 x e
 .exact i.at_ x e
def jm.same{j e:Mem}{k:Nat}{K row:List ByteArray}{F:List Nat}(h:jm j k K row F)(i:∀x∈F,e x=j x):jm e k K row F:=by
 obtain⟨b,L,p,J,Fr,I,H,G,C,A,y,w,r,rfl⟩:=h.ex;exact⟨⟨b,L,p,J,Fr,by rw[i k (by simp)];exact I,H.same λx g=>i x (by simp[g]),G,C,A,y.same λx g=>i x (by simp[g]),w,r,rfl⟩,h.row⟩
def jm.raw{j:Mem}{k:Nat}{K row:List ByteArray}{F:List Nat}(h:jm j k K row F):∃g,GU j g/\Mv j g F F/\∃b L p i Fr,g k=some (.cells rI [pP b 0,p])/\CE g b L i/\Up bc L/\(∀y,y∈L↔y∈K)/\L.length<=K.length/\wF HG 1 g p (cr row) Fr/\k∉i/\(∀x∈Fr,x≠k/\x∉i)/\F=k::(i++Fr):=by
 obtain⟨b,L,p,i,Fr,O,J,I,H,G,A,w,C,rfl⟩:=h.ex;rcases A with⟨rfl,rfl,rfl⟩|A
 .refine⟨j.set k (some (.cells rI [pP b 0,.raw (.slice none 0 0)])),GU.LZ (μ1:=M0) (λ_ _ h=>by cases h) λx o r=>⟨rfl,?_⟩,(Mv.set (.inl (by simp))).sub (by simp),b,L,_,i,[],Mem.ao _ _ _,J.same λx r=>Mem.ax _ _ (λe=>w (e▸r)),I,H,G,.inl ⟨rfl,rfl,rfl⟩,w,C,rfl⟩;by_cases e:x=k
  .subst e;rw[Mem.ao]at r;cases r;exact .inr ⟨rI,_,_,rfl,O,cA.cons (.same _) (cA.cons (.nil 1 []) (cA.nil _))⟩
  .rw[Mem.ax _ _ e]at r;exact .inl r
 .exact⟨j,GU.refl j,Mv.refl _ _,b,L,p,i,Fr,O,J,I,H,G,A,w,C,rfl⟩
theorem TO{μ:Mem}{k:Nat}{K row:List ByteArray}{F:List Nat}(h:jm μ k K row F)(hl:K.length<=100000)(v:ByteArray){R:Kq}(hk:∀μ' F',jm μ' k (K++pZ K v) (row++pZ K v) F'->Mv μ μ' F F'->R (.aB []) μ'):aa prog 250 [pP k 0,pS v] μ R:=by
 have eh:=h.row;obtain⟨μ0,hG,Yn,b,L,p,Fs,Fr,h1,h2,h3,h4,h5,h6,h7,h8,rfl⟩:=h.raw;refine aa.pre hG (wJ.c ?_);refine⟨_,aH h1 (by simp),fX h2 h3 (by omega) v λμ1 L1 F1 t ht i1 i2 i3 i4 i5=>⟨_,rfl,?_⟩⟩;have hkF:μ1 k=μ0 k:=i5.cu k (by rw[h1];simp) h7;have hFr:∀x∈Fr,μ1 x=μ0 x:=λx hx=>i5.cu x (h6.at_ x hx) (h8 x hx).2;have h6':=h6.same hFr;have Hx:=hkF.trans h1;have aar:k∉F1:=λhm=>(i5.grow k hm).elim h7 λe=>by rw[h1]at e;cases e
 have aae:∀x∈Fr,x∉F1:=λx hx hm=>(i5.grow x hm).elim (h8 x hx).2 (h6.at_ x hx);have zi:Mv μ0 μ1 (k::(Fs++Fr)) (k::(F1++Fr)):=by
  refine(i5.wide (G:=k::(Fs++Fr)) λx hx=>by simp[hx]).sub λx hx=>?_;simp only[mem_cons,mem_append]at hx |-;rcases hx with h|h|h
  .exact .inr (.inl h)
  .exact .inl h
  .exact .inr (.inr (.inr h))
 refine ab.mk (λe=>?_) (λe=>?_)
 .have hn:v∉K:=λhv=>ht.1 e ((h4 v).2 hv);have hb:hasB K v=false:=by
   cases hb:hasB K v with
   |false=>rfl
   |true=>exact absurd (qX.1 hb) hn
  have iH:pZ K v=[v]:=by unfold pZ;rw[hb];rfl
  rw[iH]at hk;obtain⟨a,c,rfl,kE⟩:=h6'.app (cZ row);refine⟨_,_,_,aH Hx (by simp),?_⟩;simp only[dj]at kE;rw[dj];refine kE [pS v] 16 _ rfl rfl (by omega) (by omega) λb' c' rest μ2 jh ju sV sT=>?_;have nk:b'≠k:=by
   rintro rfl;rcases sT.grow b' (by simp)with h|h
   .exact(h8 b' h).1 rfl
   .rw[Hx]at h;cases h
  have nF:b'∉F1:=λhx=>by
   rcases sT.grow b' (by simp)with h|h
   .exact aae b' h hx
   .exact i1.at_.2 b' hx h
  have dY:μ2 k=μ1 k:=sT.cu k (by rw[Hx];simp) λhx=>(h8 k hx).1 rfl;refine⟨_,_,dY.trans Hx,by simp,?_⟩;have hw:du [pP b 0,.raw (.slice a (cr row).length c)] (0+1) [PV.raw (.slice (some ⟨b',0,none⟩) (row.length+1) c')]=[pP b 0,.raw (.slice (some ⟨b',0,none⟩) (row.length+1) c')]:=by simp[du]
  rw[hw];have aiq:Mv μ1 μ2 (k::(F1++Fr)) (k::(F1++[b'])):=by
   refine(sT.wide (G:=k::(F1++Fr)) λx hx=>by simp[hx]).sub λx hx=>?_;simp only[mem_cons,mem_append,not_mem_nil,or_false]at hx |-;rcases hx with h|h|h
   .exact .inr (.inl h)
   .exact .inr (.inr (.inl h))
   .exact .inl h
  refine hk _ (k::(F1++[b'])) ⟨⟨b,L1,_,F1,[b'],Mem.ao _ _ _,i1.same λx hx=>?_,i2,λy=>?_,by rw[e]at i4;simp at i4 |-;omega,.inr (.inr ⟨b',c',rest,?_,rfl,?_,?_,?_⟩),aar,λx hx=>?_,rfl⟩,by simp;omega⟩ (Yn.trans (zi.trans (aiq.trans ((Mv.set (.inl (by simp))).sub (by simp)))))
  .rw[Mem.ax _ _ (show x≠k from λe=>aar (e▸hx))];exact sT.cu x (i1.at_.2 x hx) λKf=>aae x Kf hx
  .rw[i3,h4];simp[or_comm]
  .simp
  .rw[Mem.ax _ _ nk,jh];simp[cr]
  .simpa using ju
  .simpa using sV
  .simp at hx;subst hx;exact⟨nk,nF⟩
 .have hv:v∈K:=by
   refine Classical.byContradiction λhn=>?_;have:=ht.2 λhv=>hn ((h4 v).1 hv);rw[e]at this;cases this
  have iH:pZ K v=[]:=by unfold pZ;rw[qX.2 hv];rfl
  rw[iH,append_nil,append_nil]at hk;refine hk μ1 (k::(F1++Fr)) ⟨⟨b,L1,p,F1,Fr,Hx,i1,i2,λy=>?_,?_,.inr h6',aar,λx hx=>⟨(h8 x hx).1,aae x hx⟩,rfl⟩,eh⟩ (Yn.trans zi)
  .rw[i3,h4];exact⟨λh=>h.elim (λe=>e▸hv) id,.inr⟩
  .rw[e]at i4;simp at i4;omega
def abh{g:Mem}{k:Nat}{K row:List ByteArray}{F:List Nat}(h:jm g k K row F)(C:K.length<=100000)(v:ByteArray){R:Kq}(j:R (pB (hasB K v)) g):aa prog 213 [pP k 0,pS v] g R:=by
 obtain⟨b,L,p,O,Fr,A,y,x,w,J,I,H,G,rfl⟩:=h.ex;refine wK.c ?_;refine⟨_,aH A (by simp),rl y x (by omega) v λi t r=>⟨_,_,rfl,?_⟩⟩;have:t=hasB K v:=by
  have e:t=true↔hasB K v=true:=by rw[r.mem bX,w,qX]
  exact Bool.eq_iff_iff.2 e
 rw[this];exact j
def abf{y:Mem}{k:Nat}{K row:List ByteArray}{F:List Nat}(h:jm y k K row F){R:Kq}(hk:∀j r F1 F2,jm j k K row F1->jm j r K [] F2->(∀x∈F2,x∉F1)->Mv y j F (F1++F2)->R (pP r 0) j):aa prog 211 [pP k 0] y R:=by
 have Y:=h.at_;obtain⟨b,L,p,Fs,Fr,C,h2,h3,h4,h5,h6,h7,U,rfl⟩:=h.ex;refine sk.c ?_;refine⟨_,aH C (by simp),abn h2 λi H zN aW i1 i2 i3=>⟨_,rfl,λr w=>?_⟩⟩;have A:i k=y k:=i3.cu k (by rw[C];simp) h7;have jJ:i k≠none:=by rw[A,C];simp
 have J:∀x∈Fr,i x=y x:=λx g=>i3.cu x (Y x (by simp[g])) (U x g).2;have Q:∀x,i x≠none->x≠r:=λx g e=>g (e▸w);have nb2:H≠k:=by
  rintro rfl;rcases zN with h|h
  .exact h7 h
  .rw[C]at h;cases h
 have hbk:b≠k:=by rintro rfl;exact h7 h2.at_.1
 have I:∀x∈Fr,x≠b/\x≠H:=λx g=>⟨λe=>(U x g).2 (e▸h2.at_.1),λe=>by
  subst e
  rcases zN with h|h
  .exact(U x g).2 h
  .exact Y x (by simp[g]) h⟩
 have O:∀x∈Fr,i x≠none:=λx g=>by rw[J x g];exact Y x (by simp[g])
 refine hk _ r (k::([b]++Fr)) (r::([H]++[])) ⟨⟨b,L,p,[b],Fr,?_,i1.same λx g=>?_,h3,h4,h5,h6.same λx g=>?_,by simp[Ne.symm hbk],λx g=>⟨(U x g).1,by simp[(I x g).1]⟩,rfl⟩,h.row⟩ ⟨⟨H,L,_,[H],[],Mem.ao _ _ _,i2.same λx g=>?_,h3,h4,h5,.inl ⟨rfl,rfl,rfl⟩,?_,λx g=>by simp at g,rfl⟩,by simp⟩ (λx g=>?_) ?_
 .rw[Mem.ax _ _ (Q k jJ),A];exact C
 .exact Mem.ax _ _ (Q x (i1.at_.2 x g))
 .rw[Mem.ax _ _ (Q x (O x g))];exact J x g
 .exact Mem.ax _ _ (Q x (i2.at_.2 x g))
 .simp only[mem_singleton];rintro rfl;exact i2.at_.2 r (by simp) w
 .simp only[append_nil,mem_cons,not_mem_nil,or_false]at g;intro Kf;simp only[mem_cons,mem_append,not_mem_nil,or_false]at Kf;rcases g with rfl|rfl
  .rcases Kf with e|e|e
   .exact jJ (e▸w)
   .exact i1.at_.2 x (by simp[e]) w
   .exact O x e w
  .rcases Kf with e|e|e
   .exact nb2 e
   .exact aW e
   .exact(I x e).2 rfl
 .refine((i3.wide (G:=k::(Fs++Fr)) λx g=>by simp[g]).trans (Mv.set (.inr w))).sub λx g=>?_;simp only[append_nil,mem_cons,mem_append,not_mem_nil,or_false]at g |-;rcases g with(rfl|rfl|g)|rfl|rfl
  .simp
  .simp
  .simp[g]
  .simp
  .simp
def TZ{x:Mem}{k:Nat}{K row:List ByteArray}{F:List Nat}(h:jm x k K row F)(fl:Fl)(ts:List Test)(hl:K.length+ts.length<=100000){R:Kq}
  (aJ:∀g F' Q e,iF K ts=some Q->Q=K++e->e.length<=ts.length->jm g k Q (row++e) F'->Mv x g F F'->R (pB true) g) (cM:∀g F',iF K ts=none->Mv x g F F'->R (pB false) g):aa prog 251 [pP k 0,.list 6 fl (ts.map Test.pv)] x R:=by
 refine sm.c ?_;refine ak.each (n:=ts.length) (by omega) (λi u=>∃I e w,iF K (ts.take i)=some I/\I=K++e/\e.length<=i/\jm u k I (row++e) w/\Mv x u F w) ⟨K,[],F,by simp[iF],by simp,by simp,by simpa using h,Mv.refl _ _⟩ ?_ ?_
 .rintro i u next J ⟨I,e,w,C,rfl,Y,A,y⟩ au
  have j:(K++e).length<=100000:=by rw[length_append];omega
  refine ab.t (by simpa using J) ⟨by omega,_,aA J,_,_,_,_,_,_,_,rfl,?_⟩;have hT:=xW J C;have same:sb (K++e) ts[i]=some (K++e)->∀O,O=u->next (wrap .i64 ((i:Int)+1)) O:=λhm O gw=>by
   subst gw;exact au _ ⟨K++e,e,w,by rw[hT,hm],rfl,by omega,A,y⟩
  refine ab.mk (λH=>same (by simp[sb,H]) _ rfl) (λH=>ab.mk (λG=>same (by simp[sb,G]) _ rfl) (λG=>ab.mk (λL=>?_) (λL=>?_)))
  .refine TO A j ts[i].var λg F' U j2=>⟨rfl,au _ ⟨K++(e++pZ (K++e) ts[i].var),e++pZ (K++e) ts[i].var,F',?_,rfl,?_,by rw[append_assoc,append_assoc]at U;exact U,y.trans j2⟩⟩
   .rw[hT];simp[sb,H,G,L]
   .have:=vH (K++e) ts[i].var;rw[length_append];omega
  .refine abh A j ts[i].var ⟨_,rfl,ab.mk (λr=>?_) (λr=>?_)⟩
   .refine cM u w (En J C ?_) y;have r:hasB (K++e) ts[i].var=false:=nb r;simp[sb,H,G,L,r]
   .have r:hasB (K++e) ts[i].var=true:=nt r;exact same (by simp[sb,H,G,L,r]) _ rfl
 .rintro u next ⟨I,e,w,C,rfl,Y,A,y⟩
  rw[take_length]at C;exact ab.f (by simp) (aJ u w _ e C rfl Y A y)
def afu{r:Mem}{k:Nat}{K row:List ByteArray}{F:List Nat}(h:jm r k K row F)(c:ae)(hc:OJ c)(hl:K.length<=10000){R:Kq}
  (aJ:∀g F' K' e,p_ K c=some K'->K'=K++e->e.length<=9->jm g k K' (row++e) F'->Mv r g F F'->R (pB true) g) (cM:∀g F',p_ K c=none->Mv r g F F'->R (pB false) g):aa prog 212 [pP k 0,.agg c.pv] r R:=by
 obtain⟨_,ha,hv,_,_,_⟩:=(Bu c).1 hc;rw[ae.de];refine wI.c ?_;have go:∀(u:Mem) (e:List ByteArray) (x:List Nat),K++e=(bif c.goal then K++pZ K c.id else K)->e.length<=1->jm u k (K++e) (row++e) x->Mv r u F x->
   aa prog 213 [pP k 0,pS c.id] u λQB xq=>∃C,QB=pB C/\ab C (aa prog 251 [pP k 0,.list 6 .sh (c.attr.map Test.pv)] xq λZa Mz=>∃A,Za=pB A/\ab A (aa prog 251 [pP k 0,.list 6 .sh (c.value.map Test.pv)] Mz λL Ho=>∃y,L=pB y/\R (pB y) Ho) (R (pB false) Mz)) (R (pB false) xq):=by
  intro u e x he hle i1 I;have G:p_ K c=(bif hasB (K++e) c.id then(iF (K++e) c.attr).bind λK1=>iF K1 c.value else none):=by unfold p_;rw[<- he]
  have hlen:(K++e).length<=10001:=by rw[length_append];omega
  refine abh i1 (by omega) c.id ⟨_,rfl,ab.mk (λY=>?_) (λY=>cM u x (by rw[G,Y];rfl) I)⟩;rw[Y]at G;refine TZ i1 .sh c.attr (by omega) (λi F2 K1 e1 w U j3 j4 H=>⟨_,rfl,ab.t rfl ?_⟩) (λi F2 w H=>⟨_,rfl,ab.f rfl (cM i F2 (by rw[G,w];rfl) (I.trans H))⟩);subst U;refine TZ j4 .sh c.value (by rw[length_append];omega) (λj F3 K2 e2 Q l2 l3 l4 O=>⟨_,rfl,?_⟩) (λj F3 Q O=>⟨_,rfl,cM j F3 (by rw[G];simp only[cond_true,w,bind_some];exact Q) (I.trans (H.trans O))⟩);refine aJ j F3 K2 (e++e1++e2) (by rw[G];simp only[cond_true,w,bind_some];exact Q) (by rw[l2];simp) (by simp;omega) ?_ (I.trans (H.trans O));simpa using l4
 refine cg.of λJ hJ=>ab.mk (λhg=>?_) (λhg=>?_)
 .refine TO h (by omega) c.id λi x w U=>⟨rfl,hJ _ _ (go i _ x (by rw[hg];rfl) (vH K c.id) w U)⟩
 .exact hJ _ _ (go r [] F (by rw[hg];simp) (by simp) (by simpa using h) (Mv.refl _ _))
def jm.beside{y e r:Mem}{k:Nat}{K row:List ByteArray}{F i j w:List Nat}(h:jm e k K row i)(H:∀x∈j,x∉i)(C:Mv y e F (i++j))(A:Mv e r j w):jm r k K row i/\Mv y r F i:=by
 refine⟨h.same λx g=>A.cu x (h.at_ x g) λI=>H x I g,?_⟩;refine(C.trans (A.wide (G:=i++j) λx g=>by simp[g])).sub λx g=>by simp[g]
def Xk:∀(n:Nat) {C:Mem} {k:Nat} {K row:List ByteArray} {F:List Nat} (h:jm C k K row F) (fl:Fl) (l:List ae) (at_:Nat),ah l<=n->Qh l->K.length<=9*at_->at_+ah l<=1000->∀{R:Kq},
  (∀j F' K' e,eE l at_ K=.ok K'->K'=K++e->K'.length<=9*(at_+ah l)->jm j k K' (row++e) F'->Mv C j F F'->R (.aB [pI ((at_+ah l:Nat):Int),pB true]) j)->(∀j F' (e:Nat),eE l at_ K=.error e->Mv C j F F'->R (.aB [pI (e:Int),pB false]) j)->
  aa prog 159 [pP k 0,.list 7 fl (l.map ae.pv),pI (at_:Nat)] C R:=by
 intro n;induction n with
 |zero=>
  intro C k K row F h fl l at_ hn _ _ _ R aJ _;have:l=[]:=by
   cases l with
   |nil=>rfl
   |cons c l=>simp[ah,bN]at hn
  subst this;refine kU.c ?_
  exact ak.cX (n:=0) (by omega) (λi x u=>x=((at_:Nat):Int)/\u=C) ⟨rfl,rfl⟩ (λi x u next y=>by omega) (λx u next hx=>by
   obtain⟨rfl,rfl⟩:=hx
   exact ab.f (by simp) (aJ u F K [] rfl (by simp) (by simp[ah];omega) (by simpa using h) (Mv.refl _ _)))
 |succ n ih=>
  intro C k K row F h fl l at_ hn aai hK fK R aJ O;refine kU.c ?_;have se:=cz l;refine ak.cX (n:=l.length) (by omega) (λi x u=>x=((at_+ah (l.take i):Nat):Int)/\∃U e Fi,eE (l.take i) at_ K=.ok U/\U=K++e/\U.length<=9*(at_+ah (l.take i))/\jm u k U (row++e) Fi/\Mv C u F Fi) ⟨by simp[ah],K,[],F,by simp[eE],by simp,by simp[ah];omega,by simpa using h,Mv.refl _ _⟩ ?_ ?_
  .rintro i _ u next y ⟨rfl,U,e,Fi,I,rfl,i2,i3,G⟩ au
   have hm:=di (getElem_mem y);have hs:=iw l (i+1);have L:=dw y;rw[L]at hs;have eH:=MY.1 aai l[i] (getElem_mem y);obtain⟨Nm,_,_,_,_,Sw⟩:=(Bu _).1 eH;have hT:=tQ y I;have A:=BL l[i] (at_+ah (l.take i)) (K++e);have eh:az l[i].pv 0 7=some [pI l[i].kind,pB l[i].goal,pS l[i].id,.list 6 .sh (l[i].attr.map Test.pv),.list 6 .sh (l[i].value.map Test.pv),pB l[i].acc,.list 7 .sh (l[i].conds.map ae.pv)]:=by rw[ae.de];rfl
   refine ab.t (by simpa using y) ⟨by omega,_,aA y,_,_,_,_,_,_,_,_,_,_,eh,?_⟩;dsimp only;have SX:wrap .i64 (((at_+ah (l.take i):Nat):Int)+1)=((at_+ah (l.take i)+1:Nat):Int):=by rw[aD (by omega) (by omega)];omega
   refine cg.of λJ hJ=>ab.mk (λhp=>?_) (λhp=>?_)
   .have jJ:(l[i].kind == 1)=false:=by simpa using hp
    refine abf i3 λμ1 k2 F1 F2 j1 j2 j3 j4=>⟨_,rfl,hJ _ _ (ab.mk (λH=>?_) (λH=>?_))⟩
    .rw[SX];rw[H]at A;refine ih j2 .sh l[i].conds (at_+ah (l.take i)+1) (by omega) Sw (by omega) (by omega) (λg Y K2 e2 w l2 l3 l4 r=>⟨_,_,rfl,ab.f rfl ?_⟩) (λg Y e2 w r=>⟨_,_,rfl,ab.t rfl (O g _ e2 (lX y I (by rw[A,w];rfl)) (G.trans (j1.beside j3 j4 r).2))⟩);obtain⟨b1,b2⟩:=j1.beside j3 j4 r;refine au _ _ ⟨?_,K++e,e,F1,?_,rfl,?_,b1,G.trans b2⟩
     .rw[L];congr 1;omega
     .rw[hT,A,w];rfl
     .rw[L];omega
    .rw[H,jJ]at A;have nu:l[i].conds.length=0:=by
      rcases Nm with h|h
      .rw[h]at H;simp at H
      .exact h.2
     have Q:l[i].conds=[]:=List.eq_nil_of_length_eq_zero nu;have ah2:ah l[i].conds=0:=by rw[Q];rfl
     have lF:PV.agg [pI l[i].kind,pB l[i].goal,pS l[i].id,.list 6 .sh (l[i].attr.map Test.pv),.list 6 .sh (l[i].value.map Test.pv),pB l[i].acc,.list 7 .sh (l[i].conds.map ae.pv)]=.agg l[i].pv:=by rw[ae.de]
     rw[lF];refine afu j2 l[i] eH (by omega) (λg Y K2 e2 w l2 l3 l4 r=>⟨_,rfl,ab.f rfl ?_⟩) (λg Y w r=>⟨_,rfl,ab.t rfl (O g _ _ (lX y I (by rw[A,w];rfl)) (G.trans (j1.beside j3 j4 r).2))⟩);obtain⟨b1,b2⟩:=j1.beside j3 j4 r;rw[SX];refine au _ _ ⟨?_,K++e,e,F1,?_,rfl,?_,b1,G.trans b2⟩
     .rw[L];congr 1;omega
     .rw[hT,A,w];rfl
     .rw[L];omega
   .have jJ:l[i].kind=1:=by simpa using hp
    have H:(l[i].kind == 3)=false:=by rw[jJ];rfl
    refine hJ _ _ (ab.f H ?_);rw[H,show(l[i].kind == 1)=true by rw[jJ];rfl]at A;have nu:l[i].conds.length=0:=by
     rcases Nm with h|h
     .rw[jJ]at h;cases h
     .exact h.2
    have Q:l[i].conds=[]:=List.eq_nil_of_length_eq_zero nu;have ah2:ah l[i].conds=0:=by rw[Q];rfl
    have lF:PV.agg [pI l[i].kind,pB l[i].goal,pS l[i].id,.list 6 .sh (l[i].attr.map Test.pv),.list 6 .sh (l[i].value.map Test.pv),pB l[i].acc,.list 7 .sh (l[i].conds.map ae.pv)]=.agg l[i].pv:=by rw[ae.de]
    rw[lF];refine afu i3 l[i] eH (by omega) (λg Y K2 e2 w l2 l3 l4 r=>⟨_,rfl,ab.f rfl ?_⟩) (λg Y w r=>⟨_,rfl,ab.t rfl (O g _ _ (lX y I (by rw[A,w];rfl)) (G.trans r))⟩);rw[SX];refine au _ _ ⟨?_,K2,e++e2,Y,?_,by rw[l2,append_assoc],?_,by rw[<- append_assoc];exact l4,G.trans r⟩
    .rw[L];congr 1;omega
    .rw[hT,A,w];rfl
    .rw[L,l2,length_append];omega
  .rintro _ u next ⟨rfl,U,e,Fi,I,rfl,i2,i3,G⟩
   rw[take_length]at I i2;refine ab.f (by simp) ?_;dsimp only;rw[take_length];exact aJ u Fi _ e I rfl i2 i3 G
def LO{g:Mem}{k:Nat}{K row:List ByteArray}{F:List Nat}(h:jm g k K row F)(j:K.length<=100000)(a:Atom){R:Kq}(e:R (pB (nX K a)) g):aa prog 160 [pP k 0,.agg a.pv] g R:=by
 refine sj.c ?_;refine ab.mk (λi=>abh h j a.var ⟨_,rfl,?_⟩) (λi=>?_)
 .have:nX K a= !hasB K a.var:=by unfold nX;rw[i];rfl
  rw[this]at e;exact e
 .have:nX K a=false:=by unfold nX;rw[i];rfl
  rw[this]at e;exact e
end K6
open K6
@[reducible] def FK(fc fa:Fl)(p:Prod):PV:=.agg [pS p.name,.list 7 fc (p.conds.map ae.pv),.list 19 fa (p.bd.map cI.pv)]
@[reducible] def Nz(x:Int×Int×List ByteArray):PV:=.aB [pI x.1,pI x.2.1,.list 1 .sh (cr x.2.2)]
def PL{C:Mem}(fc fa:Fl)(p:Prod)(O:bO p.conds)(hs:ah p.conds<=1000000)(ha:p.bd.length<=1000000){R:Kq}(hR:∀g q Fr,wE g q (b_ p).2.2 Fr->Mv C g [] Fr->R (.aB [pI (b_ p).1,pI (b_ p).2.1,q]) g):aa prog 110 [FK fc fa p] C R:=by
 refine zR.c ?_;have VT:(b_ p).2.2=[]->∀g a e,Mv C g [] []->(b_ p).1=a->(b_ p).2.1=e->R (.aB [pI a,pI e,.list 1 .nil []]) g:=λh0 g a e hm A Y=>by
  have:=hR g (.list 1 .nil []) [] (.inl ⟨rfl,h0,rfl⟩) hm;rw[A,Y]at this;exact this
 refine(aa6 .sh .sh p O hs ha).call ⟨_,_,rfl,ab.mk (λA=>?_) (λA=>?_)⟩
 .have j:b_ p=((da p).1,(da p).2,[]):=by unfold b_;rw[A];rfl
  exact VT (by rw[j]) _ _ _ (Mv.refl _ _) (by rw[j]) (by rw[j])
 have h0:(da p).2=0:=by simpa using A
 obtain⟨s1,s2,s3,s4,aJ⟩:=xK h0;cases hc:p.conds with
 |nil=>rw[hc]at s1;simp[ah]at s1
 |cons c cs=>
 refine⟨by omega,c.pv,rfl,_,by rw[ae.de];rfl,ab.mk (λY=>?_) (λY=>?_)⟩
 .have j:b_ p=(0,9,[]):=by unfold b_;rw[A,hc];simp only[cond_false,List.head?_cons,map_some,Option.getD_some,Y,cond_true]
  exact VT (by rw[j]) _ _ _ (Mv.refl _ _) (by rw[j]) (by rw[j])
 have j:b_ p=match eE p.conds 0 []with
   | .error n=>((n:Int),6,[])
   | .ok K=>match iq K 0 p.bd with
     |some i=>(((ah p.conds+i:Nat):Int),6,[])
     |none=>(-1,0,K):=by
  unfold b_;rw[A];simp only[cond_false];rw[show(p.conds.head?.map ae.kind).getD 0=c.kind by rw[hc];rfl,Y];rfl
 rw[<- hc];refine gB .nil λJ b hb i1 i2=>⟨_,rfl,λk hk=>?_⟩;have Q:k≠b:=by rintro rfl;exact i1.at_.2 k (by simp) hk
 have hkn:jm (J.set k (some (.cells rI [pP b 0,.list 1 .nil []]))) k [] [] (k::([b]++[])):=by
  refine⟨⟨b,[],_,[b],[],Mem.ao _ _ _,i1.same λx G=>Mem.ax _ _ ?_,List.Pairwise.nil,λy=>Iff.rfl,le_refl _,.inl ⟨rfl,rfl,rfl⟩,by simpa using Q,λx G=>by simp at G,rfl⟩,le_refl _⟩;rintro rfl;simp at G;exact Q G
 have Yn:Mv C (J.set k (some (.cells rI [pP b 0,.list 1 .nil []]))) [] (k::([b]++[])):=i2.trans (Mv.set (.inr hk));refine aa.post (Xk _ hkn fc p.conds 0 (le_refl _) aJ (by simp) (by omega) (λI F2 K e j1 j2 j3 j4 j5=>?_) (λI F2 e j1 j5=>?_))
 .rw[List.nil_append]at j2 j4;subst j2;obtain⟨h,hG,Ym,b',L,q,Fs,Fr,m1,_,_,_,_,m6,_,_,hF⟩:=j4.raw;refine⟨h,hG,_,_,rfl,ab.f rfl ?_⟩;rw[zero_add]at j3;have w:jm h k K K F2:=by
   obtain⟨μ4,_,_,_⟩:=j4.raw;exact⟨⟨b',L,q,Fs,Fr,m1,by assumption,by assumption,by assumption,by assumption,.inr m6,by assumption,by assumption,hF⟩,le_refl _⟩
  have Qq:Mv C h [] F2:=Yn.trans (j5.trans Ym);have aim:Mv C h [] []:=Qq.sub (by simp);refine ak.each (n:=p.bd.length) (by omega) (λi u=>u=h/\iq K 0 (p.bd.take i)=none) ⟨rfl,rfl⟩ ?_ ?_
  .rintro i u next hi ⟨rfl,U⟩ au
   have hT:=zu hi U;refine ab.t (by simpa using hi) ⟨by omega,_,aA hi,_,_,_,_,_,_,_,_,_,_,_,_,_,_,_,_,_,_,_,rfl,?_⟩;have CV:iO K p.bd[i]=true->R (.aB [pI (wrap .i64 (((0+ah p.conds:Nat):Int)+(i:Int))),pI 6,.list 1 .nil []]) u:=λO=>by
    have r:b_ p=(((ah p.conds+i:Nat):Int),6,[]):=by rw[j,j1];simp only[Ce hi U O,zero_add]
    refine VT (by rw[r]) _ _ _ aim ?_ (by rw[r]);rw[r,aD (by omega) (by omega)];simp only;omega
   have FY:iO K p.bd[i]=false->next (wrap .i64 ((i:Int)+1)) u:=λO=>au _ ⟨rfl,by rw[hT,O];rfl⟩
   refine LO w (by omega) p.bd[i].attr ⟨_,rfl,ab.mk (λH=>?_) (λH=>?_)⟩
   .exact CV (by unfold iO;rw[H];rfl)
   refine ab.mk (λa2=>?_) (λa2=>FY (by unfold iO;rw[H,a2];rfl));refine LO w (by omega) p.bd[i].value.a ⟨_,rfl,ab.mk (λa3=>?_) (λa3=>?_)⟩
   .exact CV (by unfold iO;rw[H,a2,a3];rfl)
   refine LO w (by omega) p.bd[i].value.b ⟨_,rfl,ab.mk (λa4=>?_) (λa4=>?_)⟩
   .exact CV (by unfold iO;rw[H,a2,a3,a4];rfl)
   .exact FY (by unfold iO;rw[H,a2,a3,a4];rfl)
  .rintro u next ⟨rfl,U⟩
   rw[take_length]at U;have r:b_ p=(-1,0,K):=by rw[j,j1];simp only[U]
   obtain⟨a,c',rfl,_⟩:=m6.app (cZ K);refine ab.f (by simp) ⟨_,_,_,aH m1 (by simp),?_⟩;have:=hR u _ Fr (by rw[r];exact .inr m6) (Qq.sub λx G=>by rw[hF];simp[G]);rw[r]at this;exact this
 .have r:b_ p=((e:Int),6,[]):=by rw[j,j1]
  exact⟨I,GU.refl _,_,_,rfl,ab.t rfl (VT (by rw[r]) _ _ _ ((Yn.trans j5).sub (by simp)) (by rw[r]) (by rw[r]))⟩
def Ub(fc fa:Fl)(p:Prod)(r:bO p.conds)(j:ah p.conds<=1000000)(ha:p.bd.length<=1000000):Pure prog 110 [FK fc fa p] (Nz (b_ p)):=by
 refine aa.acY (PL fc fa p r j ha λg q Fr h w=>⟨Nz (b_ p),.aB rfl (λd e=>?_) (λi c d hc e=>?_),rfl⟩)
 .simp only[mem_cons,not_mem_nil,or_false]at e;rcases e with rfl|rfl|rfl<;>rfl
 .match i with
  |0=>simp at hc e;subst hc e;exact .same _
  |1=>simp at hc e;subst hc e;exact .same _
  |2=>simp at hc e;subst hc e;exact h.view
  |n+3=>simp at hc
def abo(fc fa:Fl)(p:Prod)(g:bO p.conds)(e:ah p.conds<=1000000)(ha:p.bd.length<=1000000):Pure prog 64 [FK fc fa p] (.aB [pI (b_ p).1,pI (b_ p).2.1]):=by
 refine av.of (DD.c ?_);exact(Ub .sh .sh p g e ha).call ⟨_,_,_,_,rfl,rfl⟩
def Lf(p:Prod):Prop:=bO p.conds/\ah p.conds<=40/\p.bd.length<=40/\p.name.size<=100
def abg(fc fa:Fl)(p:Prod):av prog 5 [.agg [pS p.name,.list 7 fc (p.conds.map ae.pv),.list 19 fa (p.bd.map cI.pv)]] λr=>∃q:Bool,r=pB q/\(q=false->Lf p):=by
 refine av.of (uW.c ?_);have yes:∃q:Bool,wk (pB true)=pB q/\(q=false->Lf p):=⟨true,rfl,λh=>by cases h⟩;refine(TU _ fc p.conds 40 0 (le_refl _) (by omega) (by omega)).call ?_;rintro _ ⟨r,rfl,y,w⟩;refine⟨_,rfl,ab.mk (λ_=>yes) (λi=>ab.mk (λ_=>yes) (λe=>ab.mk (λ_=>yes) (λg=>?_)))⟩;have i:=of_decide_eq_false i;have e:=of_decide_eq_false e;have g:=of_decide_eq_false g;simp only[length_map]at e;have x:=w (by omega);refine(Jv _ fc p.conds (le_refl _) (by omega)).call ?_;rintro _ ⟨q,rfl,j⟩;exact⟨_,rfl,q,rfl,λh=>⟨j h,by omega,by omega,by omega⟩⟩
end Go.Proofs.YthaeiehophlooaaGreat
