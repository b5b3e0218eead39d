import Derived.Test.YthaeiehophlooaaGreatB09
open Bool (not_not)
open Go.IntKind (wrap)
open Int (natCast_nonneg toNat toNat_natCast)
open List (append_assoc append_nil cons_append drop_length getElem?_eq_getElem getElem?_map getElem_map getElem_mem length_append length_cons length_drop length_map length_take map_append map_cons mem_append mem_cons mem_map mem_singleton not_mem_nil range take_add_one take_length)
open Nat (add_assoc le_refl zero_add)
set_option linter.all false
namespace Go.Proofs.YthaeiehophlooaaGreat
open Go.Proofs.Tryz Go.aO Go.RowKit
theorem Hh{f:PV}{items:Lq}{A A':aX}(L:List aX)(h:gQ prog f items A A'):gQ prog f items (Ow (A::L)) (Ow (A'::L)):=by
 refine⟨h.1,λfy ya yb I S C μ hy hO h0 cO=>?_⟩;have h1:Ow (A::(L++[C])) μ:=hO.nest;exact h.2 fy ya yb I S (Ow (L++[C])) μ hy (h1.tail λ_ h=>Ow.one h) (λμ' h'=>h0 μ' (Ow.pack (L1:=A'::L) (h'.tail λ_ h=>h.US))) cO
theorem LK{f:PV}{items:Lq}{A A' B B':aX}(h:gQ prog f items A A')(h1:∀μ,B μ->A μ)(h2:∀μ,A' μ->B' μ):gQ prog f items B B':=
 ⟨h.1,λfy ya yb I S C μ hy hO h0 cO=>h.2 fy ya yb I S C μ hy (hO.imp h1) (λμ' h'=>h0 μ' (h'.imp h2)) cO⟩
structure NC where
 T:Int
 M:Int
 root:Nat
 al:Nat
 el:Nat
 id:Nat
 pr:Nat
@[reducible] def NC.pv(x:NC):List PV:=[pI x.T,pI x.M,pP x.root 0,pP x.al 0,pP x.el 0,pP x.id 0,pP x.pr 0]
abbrev pQ:=List (Sym×Nat×List aj)
def pd(x:Sym×Nat×List aj):RI.El:=(x.1,some ⟨x.2.1,0,none⟩)
def dQ(x:Sym×Nat×List aj):aX:=RT.At x.2.1 x.2.2
def jM(x:Sym×Nat×List aj):Sym:=x.1
def gL(m:Nat)(ids:pQ):aX:=Ow (RI.cq m (ids.map pd)::ids.map dQ)
structure ji(es:List aj)(ids:pQ):Prop where
 up:bY fM jM ids
 has:∀x∈ids,x.2.2=es.filter λe=>eZ e.id x.1
 one:∀e∈es,∃x∈ids,x.1=e.id
 some_:∀x∈ids,x.2.2≠[]
 le:ids.length<=es.length
theorem KE(k:Sym)(ids:pQ):aL RI.ck RI.key (RI.key (k,RI.z)) (ids.map pd)=(aL fM jM k ids).map pd:=nO
theorem ji.u{es:List aj}{ids:pQ}(h:ji es ids):bY RI.ck RI.key (ids.map pd):=bY.map h.up
def Pc(s:Sym)(es:List aj):List aj:=es.filter λe=>eZ e.id s
theorem ji.get{es:List aj}{ids:pQ}(h:ji es ids)(s:Sym):((aL fM jM s ids).map λx=>x.2.2).getD []=Pc s es:=by
 cases hg:aL fM jM s ids with
 |some x=>
  obtain⟨hx,hk⟩:=(a_ bB h.up).1 hg;have cj:x.1=s:=hk;show x.2.2=_;rw[h.has x hx,cj];rfl
 |none=>
  have hn:=(bx bB).1 hg;show[]=_;unfold Pc;symm;rw[List.filter_eq_nil_iff];intro e he hs;obtain⟨x,hx,hk⟩:=h.one e he;exact hn x hx (hk.trans (dm.1 hs))
def sW(n al:Nat)(k:Int)(o:Option Sym):PV:=
 match o with
 |none=>inF al k
 |some s=>.fn (.func 179) [] [.bk [pP n 0] 0,.bk s.pv 0]
theorem Wh{n:Nat}{x:NC}{μ:Mem}(hn:Lk n x.pv μ)(c:ae)(fa fv fc fl:Fl)(l:List aO.Bind)(hl:l.length<=1000000)(k:Int):
  aa prog 116 [pP n 0,.agg [pI c.kind,pB c.goal,pS c.id,.list 6 fa (c.attr.map Test.pv),.list 6 fv (c.value.map Test.pv),pB c.acc,.list 7 fc (c.conds.map ae.pv)],.list 4 fl (l.map Bind.pv),pI k] μ λp μ'=>yV μ μ'/\p=sW n x.al k (fA l c.id):=by
 refine aa.freeze (K:=λv μ'=>yV μ μ'/\((fA l c.id=none/\v=inF x.al k)\/∃s b,fA l c.id=some s/\μ b=none/\v=.fn (.func 179) [] [.bk [pP n 0] 0,pP b 0]/\μ' b=some (.cells 37 s.pv))) (xX.c ?_) ?_
 ·refine(ku fl l hl c.id).call ?_;cases hg:fA l c.id with
  |none=>
   refine⟨_,_,_,_,rfl,λb9 hb=>⟨_,_,Mem.an _ _ _,by simp,?_⟩⟩;rw[Mem.set_set];have VK:=yV.new hb (some (.cells 37 (dy [pI 0,pS ⟨#[]⟩,pI 0] 0 [pI 0,pS ⟨#[]⟩,pI 0])));exact ab.t rfl ⟨_,rfl,_,(hn.ad_ VK).rd (by simp),(cIn x.al k).call ⟨_,_,_,rfl,VK,.inl ⟨rfl,rfl⟩⟩⟩
  |some s=>
   refine⟨_,_,_,_,rfl,λb9 hb=>⟨_,_,Mem.an _ _ _,by simp,?_⟩⟩;rw[Mem.set_set];have VK:=yV.new hb (some (.cells 37 (dy [pI 0,pS ⟨#[]⟩,pI 0] 0 [pI s.k,pS s.t,pI s.n])));exact ab.f rfl ⟨VK,.inr ⟨s,b9,rfl,hb,rfl,Mem.an _ _ _⟩⟩
 ·rintro v μ' ⟨VK,⟨hg,rfl⟩|⟨s,b,hg,hb0,rfl,hb⟩⟩
  ·refine⟨_,μ',[],λZ u r hg' hr=>?_,λb o h=>⟨h,by simp⟩,VK,by rw[hg,sW]⟩;exact hr.mono (gG (hg'.sub λx o hx=>by simp at hx))
  ·refine⟨_,λy=>if y=b then none else μ' y,[b],λZ u r hg' hr=>?_,λy o h=>?_,λy hy=>?_,by rw[hg,sW]⟩
   ·obtain⟨fv,cv,rfl,h1,h2⟩:=hr.ofFn;obtain⟨v1,_,rfl,_,q1,h2⟩:=h2.inv;obtain⟨v2,_,rfl,_,q2,h2⟩:=h2.inv;obtain rfl:=h2.m_;obtain rfl:=h1.m_;have gs:aO.Good Z u (λy=>if y∈[b]then μ' y else none):=hg'.sub λy o hy=>by
     by_cases hm:y∈[b]
     ·simpa[hm]using hy
     ·simp[hm]at hy
    exact bp.Ex (bp.nil _) (bp.cons rfl (q1.mono (gG gs)) (bp.cons rfl (Sv hg' hb rfl q2) (bp.nil _)))
   ·have h:(if y=b then none else μ' y)=some o:=h;by_cases e:y=b
    ·rw[if_pos e]at h;cases h
    ·rw[if_neg e]at h;exact⟨h,by simpa using e⟩
   ·have aZ:y≠b:=by rintro rfl;exact hy hb0
    show(if y=b then none else μ' y)=μ y;rw[if_neg aZ];exact VK y hy
theorem FR{n:Nat}{x:NC}{μ:Mem}(hn:μ n=some (.cells 116 x.pv))(c:ae)(fa fv fc fl:Fl)(l:List aO.Bind)(hl:l.length<=1000000)(k:Int){K:Kq}(hK:K (sW n x.al k (fA l c.id)) M0):
  cV prog 116 [pP n 0,.agg [pI c.kind,pB c.goal,pS c.id,.list 6 fa (c.attr.map Test.pv),.list 6 fv (c.value.map Test.pv),pB c.acc,.list 7 fc (c.conds.map ae.pv)],.list 4 fl (l.map Bind.pv),pI k] μ K:=
 cV.ags (Wh (Yv hn) c fa fv fc fl l hl k) λp hp=>by rw[hp];exact hK
def Qd(es:List aj)(ms:dj)(k:Int)(o:Option Sym):List aj:=
 match o with
 |none=>Vt k ms
 |some s=>Pc s es
def ak(n:Nat)(x:NC)(es:List aj)(ms:dj)(ids:pQ):aX:=Ow [Pt n 116 x.pv,bA x.al es ms,gL x.id ids]
theorem UB{n:Nat}{x:NC}{es:List aj}{ids:pQ}(hI:ji es ids)(hle:es.length<1000000)(s:Sym):
  gQ prog (.fn (.func 179) [] [.bk [pP n 0] 0,.bk s.pv 0]) ((Pc s es).map λe=>[.agg e.pv]) (Ow [Pt n 116 x.pv,gL x.id ids]) (Ow [Pt n 116 x.pv,gL x.id ids]):=by
 refine gQ.mk λfy ya yb I S C μ hy hO h0 cO=>?_;show aa _ _ [.fn fy ya yb,.bk [pP n 0] 0,.bk s.pv 0] _ _;have hlen:=hI.le;have uD:Ow (RI.cq x.id (ids.map pd)::Pt n 116 x.pv::(ids.map dQ++[C])) μ:=by
  have h1:Ow (Pt n 116 x.pv::gL x.id ids::[C]) μ:=hO.nest;exact((h1.swap).nest (L1:=RI.cq x.id (ids.map pd)::ids.map dQ)).tail λν hν=>(Ow.comm (L1:=ids.map dQ) hν).tail λν' h'=>Ow.comm (L1:=[C]) h'
 have back:∀ν,Ow (RI.cq x.id (ids.map pd)::Pt n 116 x.pv::(ids.map dQ++[C])) ν->Ow [I 0] ν:=λν hν=>h0 ν (by
  have h1:Ow ((RI.cq x.id (ids.map pd)::ids.map dQ)++(Pt n 116 x.pv::[C])) ν:=hν.tail λν1 h1=>by
   have h2:Ow (Pt n 116 x.pv::(([C]:List aX)++ids.map dQ)) ν1:=h1.tail λν2 h2=>Ow.comm (L1:=ids.map dQ) h2
   exact Ow.comm (L1:=Pt n 116 x.pv::[C]) h2
  exact Ow.pack (L1:=[Pt n 116 x.pv,gL x.id ids]) (Ow.swap (Ow.pack (L1:=RI.cq x.id (ids.map pd)::ids.map dQ) h1)))
 refine ud.c λb3 DU=>?_;have O1:=uD.new 150 [.fn fy ya yb] DU;refine⟨_,rfl,_,O1.rd 2 rfl (by simp),_,_,_,rfl,?_⟩;refine RI.iB (Ow.at 1 rfl O1) hI.u (by simp;omega) s (λy μ' hy h'=>?_) (λμ' hy h'=>?_)
 ·rw[KE]at hy;obtain⟨z,hz,rfl⟩:=Option.map_eq_some_iff.1 hy;have hb:=hI.get s;rw[hz]at hb;have hb:z.2.2=Pc s es:=hb;obtain⟨Py,Fj⟩:=(a_ bB hI.up).1 hz;obtain⟨A,B,eAB,_,_⟩:=hI.up.at_ bB Py
  have e2:ids.map dQ=A.map dQ++dQ z::B.map dQ:=by conv=>lhs;rw[eAB]
                                                  simp
  refine⟨_,_,rfl,ab.f rfl ((RT.pN z.2.1).call ⟨_,_,_,rfl,?_⟩)⟩;have h2:Ow (RI.cq x.id (ids.map pd)::Pt b3 150 [.fn fy ya yb]::Pt n 116 x.pv::(ids.map dQ++[C])) μ':=h';rw[e2]at h2;have gg:=Ow.pick (P:=[RI.cq x.id (ids.map pd),Pt b3 150 [.fn fy ya yb],Pt n 116 x.pv]) h2;have DN:z.2.2.length<=es.length:=by rw[hb];exact List.length_filter_le _ _
  rw[<- hb]at cO |-;refine bu.own (RT.d_ z.2.1 z.2.2 (by omega)) gg (λi=>Ow [Pt b3 150 [.fn fy ya yb],I i]) (λcd u=>cd=.ret/\Ow [S] u) (λi=>eJ.own _) (λcd=>eJ.and (eJ.own _)) (λμ' h'=>?_) ?_ ?_ ?_
  ·have h3:=Ow.qa (P:=[RI.cq x.id (ids.map pd),Pt b3 150 [.fn fy ya yb],Pt n 116 x.pv]) h';have h4:Ow (Pt b3 150 [.fn fy ya yb]::(RI.cq x.id (ids.map pd)::Pt n 116 x.pv::(ids.map dQ++[C]))) μ':=by
    rw[e2];exact Ow.swap h3
   exact h4.tail back
  ·rintro i hi u1 R hO bX jW;have xt:i<z.2.2.length:=by simpa using hi
   have fK:=cO i (by simpa using xt);rw[getElem_map]at fK |-;refine⟨_,_,_,_,_,_,_,_,_,_,_,_,rfl,_,_,_,hO.rd 0 rfl (by simp),Ow.yQ hO.swap (λν hν=>fK ν hν) λv μ' Sp=>?_⟩;rcases Sp.s_ with⟨rfl,h⟩|⟨rfl,h⟩
   ·exact⟨true,rfl,ab.f rfl (bX _ h.swap)⟩
   ·exact⟨false,rfl,ab.t rfl (jW _ _ ⟨rfl,h.swap.drop⟩)⟩
  ·intro u1 hO;rw[length_map]at hO;exact .inl (by rw[length_map];exact hO.drop)
  ·rintro cd u1 ⟨rfl,h⟩;exact .inr h
 ·rw[KE]at hy;have hz:aL fM jM s ids=none:=map_none hy;have hb:=hI.get s;rw[hz]at hb;have hb:[]=Pc s es:=hb;rw[<- hb]at cO |-;have h2:Ow (RI.cq x.id (ids.map pd)::Pt b3 150 [.fn fy ya yb]::Pt n 116 x.pv::(ids.map dQ++[C])) μ':=h';exact⟨_,_,rfl,ab.t rfl (.inl (back _ h2.swap.drop))⟩
theorem Qu{n:Nat}{x:NC}{es:List aj}{ms:dj}{ids:pQ}(hA:dx es ms)(hI:ji es ids)(k:Int)(o:Option Sym):
  gQ prog (sW n x.al k o) ((Qd es ms k o).map λe=>[.agg e.pv]) (ak n x es ms ids) (ak n x es ms ids):=by
 cases o with
 |none=>
  refine LK (Hh [Pt n 116 x.pv,gL x.id ids] (acg x.al k hA)) (λμ h=>Ow.swap h) (λμ h=>Ow.swap h)
 |some s=>
  refine LK (Hh [bA x.al es ms] (UB (x:=x) (n:=n) hI hA.le s)) (λμ h=>?_) (λμ h=>?_)
  ·have h1:Ow [Pt n 116 x.pv,bA x.al es ms,gL x.id ids] μ:=h;exact Ow.pack (L1:=[Pt n 116 x.pv,gL x.id ids]) (h1.tail λ_ h=>h.swap)
  ·have h1:Ow [Pt n 116 x.pv,gL x.id ids,bA x.al es ms] μ:=Ow.nest (L1:=[Pt n 116 x.pv,gL x.id ids]) h;exact h1.tail λ_ h=>h.swap
structure bR where
 tags:List Int
 binds:List Bind
@[reducible] def bR.pv(t:bR):List PV:=[.list 1 .sh (t.tags.map λx=>[pI x]),.list 4 .sh (t.binds.map Bind.pv)]
def bj:List Int->List Int->Int
 |[],b=> -(b.length:Int)
 |a::l,[]=>(l.length:Int)+1
 |a::l,b::r=>if a=b then bj l r else a-b
theorem tc:∀a b:List Int,bj a b=0↔a=b
 |[],[]=>by simp[bj]
 |[],b::r=>by simp only[bj,length_cons];constructor<;>intro h<;>first|omega|cases h
 |a::l,[]=>by simp only[bj];constructor<;>intro h<;>first|omega|cases h
 |a::l,b::r=>by
  simp only[bj]
  split
  ·rename_i e;rw[tc l r];simp[e]
  ·rename_i e;constructor<;>intro h<;>first|omega|(cases h;exact absurd rfl e)
theorem td:∀a b:List Int,bj a b<0↔0<bj b a
 |[],[]=>by simp[bj]
 |[],b::r=>by simp only[bj,length_cons];constructor<;>intro h<;>omega
 |a::l,[]=>by simp only[bj,length_cons];constructor<;>intro h<;>omega
 |a::l,b::r=>by
  simp only[bj]
  by_cases e:a=b
  ·subst e;simp only[if_true];exact td l r
  ·rw[if_neg e,if_neg (Ne.symm e)];omega
theorem qm:∀a b d:List Int,bj a b<0->bj b d<0->bj a d<0
 |[],[],d,h,_=>by simp[bj]at h
 |[],b::r,[],_,k=>by simp only[bj]at k;omega
 |[],b::r,d::s,_,_=>by simp only[bj,length_cons];omega
 |a::l,[],d,h,_=>by simp only[bj]at h;omega
 |a::l,b::r,[],_,k=>by simp only[bj]at k;omega
 |a::l,b::r,d::s,h,k=>by
  simp only[bj]at h k |-
  by_cases e1:a=b
  ·subst e1
   simp only[if_true]at h
   by_cases e2:a=d
   ·subst e2
    simp only[if_true]at k |-
    exact qm l r s h k
   ·rw[if_neg e2]at k |-;exact k
  ·rw[if_neg e1]at h
   by_cases e2:b=d
   ·subst e2;rw[if_neg e1];exact h
   ·rw[if_neg e2]at k;rw[if_neg (by omega)];omega
theorem As:∀(k:Nat) (a b:List Int),k<=a.length->k<=b.length->a.take k=b.take k->bj a b=bj (a.drop k) (b.drop k)
 |0,_,_,_,_,_=>rfl
 |k+1,[],_,h,_,_=>by simp at h
 |k+1,_::_,[],_,h,_=>by simp at h
 |k+1,a::l,b::r,h1,h2,h=>by
  simp only[List.take_succ_cons,List.cons.injEq]at h
  simp only[bj,List.drop_succ_cons]
  rw[if_pos h.1]
  exact As k l r (by simpa using h1) (by simpa using h2) h.2
structure Gh(l:List Int):Prop where
 le:l.length<=1000000
 pos:∀x∈l,0<=x/\x<9223372036854775808
theorem EB{l:List Int}{k:Nat}(hk:k<l.length):(l.map λx=>[pI x])[toNat (k:Int)]?=some [pI l[k]]:=by
 rw[toNat_natCast,getElem?_map,getElem?_eq_getElem hk];rfl
theorem aen(f g:Fl){a b:List Int}(ha:Gh a)(hb:Gh b):Pure prog 298 [.list 1 f (a.map λx=>[pI x]),.list 1 g (b.map λx=>[pI x])] (pI (bj a b)):=by
 refine av.of (Jb.c ?_);have hla:=ha.le;have hlb:=hb.le;refine⟨λ_ u=>u=M0/\a.take (min a.length b.length)=b.take (min a.length b.length),?_,?_⟩
 ·refine ao.up (min a.length b.length) (by omega) (λk u=>u=M0/\a.take k=b.take k) ⟨rfl,rfl⟩ ?_;rintro k u next hk ⟨rfl,hI⟩ aw
  simp only[length_map];by_cases h1:k<a.length
  ·by_cases h2:k<b.length
   ·refine ab.t (by simpa using h1) (ab.t (by simpa using h2) ⟨by omega,_,EB h1,_,rfl,by omega,_,EB h2,_,rfl,?_⟩);have hda:bj a b=bj (a.drop k) (b.drop k):=As k a b (by omega) (by omega) hI;rw[List.drop_eq_getElem_cons h1,List.drop_eq_getElem_cons h2]at hda;simp only[bj]at hda;refine ab.mk (λe=>?_) (λe=>?_)
    ·refine⟨by omega,_,EB h1,_,rfl,by omega,_,EB h2,_,rfl,?_⟩;have aZ:a[k]≠b[k]:=by simpa using e
     rw[if_neg aZ]at hda;have p1:=ha.pos _ (getElem_mem h1);have p2:=hb.pos _ (getElem_mem h2);rw[hda,aC (by omega) (by omega)];rfl
    ·have he:a[k]=b[k]:=by simpa using e
     refine aw (by omega) _ ⟨rfl,?_⟩;rw[take_add_one,take_add_one,hI,getElem?_eq_getElem h1,getElem?_eq_getElem h2,he]
   ·have:k=min a.length b.length:=by omega
    exact ab.t (by simpa using h1) (ab.f (by simp;omega) ⟨trivial,by rw[<- this];exact hI⟩)
  ·have:k=min a.length b.length:=by omega
   exact ab.f (by simp;omega) ⟨trivial,by rw[<- this];exact hI⟩
 ·rintro _ u ⟨rfl,hI⟩;simp only[length_map];have:=As (min a.length b.length) a b (by omega) (by omega) hI;rw[this,aC (by omega) (by omega)];by_cases h:a.length<=b.length
  ·rw[Nat.min_eq_left h,drop_length];simp only[bj,length_drop];exact congrArg pI (by omega)
  ·rw[Nat.min_eq_right (by omega),drop_length];cases hd:a.drop b.length with
   |nil=>have:=congrArg List.length hd;simp at this;omega
   |cons x l=>
    have:=congrArg List.length hd;simp only[length_drop,length_cons]at this;simp only[bj];exact congrArg pI (by omega)
namespace RK
abbrev El:={t:bR // Gh t.tags}
@[reducible] def pv(x:El):List PV:=x.1.pv
@[reducible] def arg(x:El):PV:=.agg x.1.pv
def key(x:El):List Int:=x.1.tags
abbrev ck:List Int->List Int->Int:=bj
theorem hc:ns ck:=⟨tc,td,qm⟩
theorem tY(a b:El):Pure prog 297 [arg a,arg b] (pI (ck (key a) (key b))):=by
 refine av.of (rb.c ?_);exact(aen _ _ a.2 b.2).call ⟨_,rfl,rfl⟩
@[reducible] noncomputable def D:SD:=⟨prog,269,123,2,48,297,λQ=>∃xaf xa xbf xb,Q [.list 1 xaf xa,.list 4 xbf xb],.agg,[.list 1 .nil [],.list 4 .nil []]⟩
abbrev At(b:Nat)(l:List El):aX:=cb 269 123 2 b (l.map pv)
theorem mr:Pp D pv arg key ck:=⟨λx Q h=>⟨_,_,_,_,h⟩,λ_=>rfl,λ_=>rfl,λ_=>rfl,λ_=>rfl,hc,tY,λv=>by kernel_rfl,rfl,by decide,by decide⟩
theorem dd{x:El}{a0:Option Addr}{u0:Mem}{K:Kq}(h:D.find a0 u0 K (arg x)):aa prog 199 [pA a0,arg x] u0 K:=VC [3] [(2,⟨[(6,.one (.raw (.int .i64))),(7,.one (.raw (.int .i64)))],[]⟩)] [] [] [] [] [] func199 h
theorem gU{a0:Option Addr}{u0:Mem}{K:Kq}(h:D.own a0 u0 K):aa prog 200 [pA a0] u0 K:=VC [] [] [] [] [] [] [] func200 h
theorem lI{x:El}{a0:Option Addr}{u0:Mem}{K:Kq}(h:D.put a0 u0 K (pv x) (arg x) 199 200):aa prog 147 [pA a0,arg x] u0 K:=VC [3] [(9,⟨[(7,.one (.raw (.int .i64)))],[]⟩)] [] [] [] [] [23,32,43,48,57] func147 h
def fV:=mr.fV dd gU lI
theorem lJ{fl:Fl}{l:Lq}{u0:Mem}{K:Kq}(h:D.new u0 K 147 l):aa prog 96 [.list 2 fl l] u0 K:=VC [5] [(3,⟨[(10,.one (.raw (.int .i64)))],[]⟩)] [] [] [] [] [] func96 h
def gu:=mr.gu fV lJ
theorem lK{a0:Option Addr}{a1:Int}{a2:Fn}{Cj Ch:List PV}{u0:Mem}{K:Kq}(h:D.from_ a0 u0 K a1 a2 Cj Ch):aa prog 149 [pA a0,pI a1,.fn a2 Cj Ch] u0 K:=VC [] [(3,⟨[(7,.one (.raw (.int .i64)))],[]⟩)] [] [] [] [] [] func149 h
theorem lM{a0:Fn}{Cm Ck c0:List PV}{u0:Mem}{K:Kq}(h:D.ze u0 K 149 a0 Cm Ck c0):aa prog 148 [.fn a0 Cm Ck,.bk c0 0] u0 K:=VC [] [] [] [] [] [] [] func148 h
@[reducible] def qY(b:Nat):PV:=.fn (.func 148) [] [.bk [pP b 0] 0]
theorem pN(b:Nat):Pure prog 97 [pP b 0] (qY b):=av.of (mi.c rfl)
theorem d_(b:Nat)(l:List El)(hl:l.length<=4000000000000000000):gQ prog (qY b) (l.map λx=>[arg x]) (At b l) (At b l):=mr.d_ lM lK b l hl
end RK
theorem Ir{α β:Type}{f g:α->Option β}:∀{l:List α},(∀x∈l,f x=g x)->l.filterMap f=l.filterMap g
 |[],_=>rfl
 |x::l,h=>by rw[List.filterMap_cons,List.filterMap_cons,h x (by simp),Ir λy hy=>h y (by simp[hy])]
theorem kQ{c:ae}{l:List aO.Bind}{es:List aj}{p:aj->Bool}(h:∀e,(cH c e l).isSome->p e=true):aP c l (es.filter p)=aP c l es:=by
 unfold aP;rw[List.filterMap_filter];refine Ir λe _=>?_;cases hp:p e with
 |true=>simp
 |false=>
  cases hc:cH c e l with
  |none=>simp
  |some r=>have:=h e (by rw[hc];rfl);rw[hp]at this;cases this
theorem Oj{t:Test}{s:Sym}{l r:List aO.Bind}(hv:aK t.var ⟨#[]⟩=true)(h:met t s l=some r)(l':List aO.Bind):met t s l'=some l':=by
 have hv':=bD.1 hv;unfold met at h |-;by_cases h8:t.rel=8
 ·rw[if_pos h8]at h |-;split at h
  ·rename_i ha;rw[if_pos ha]
  ·cases h
 ·rw[if_neg h8]at h |-;by_cases h1:t.rel<1\/t.rel>7
  ·rw[if_pos h1]at h;cases h
  ·rw[if_neg h1,if_pos hv']at h |-;split at h
   ·rename_i ha;rw[if_pos ha]
   ·cases h
theorem t_:∀(ts:List Test) (s:Sym) (l r:List aO.Bind),eM ts s l=some r->∀l',eM (il ts) s l'=some l'
 |[],_,_,_,_,_=>rfl
 |t::ts,s,l,r,h,l'=>by
  simp only[eM,Option.bind_eq_some_iff]at h
  obtain⟨l1,h1,h2⟩:=h
  have ih:=t_ ts s l1 r h2 l';unfold il at ih |-;rw[List.filter_cons];split
  ·rename_i hv;simp only[eM];rw[Oj hv h1 l'];exact ih
  ·exact ih
theorem xC{c:ae}{e:aj}{l:List aO.Bind}(h:(cH c e l).isSome):bf (bt c) e=true:=by
 obtain⟨r,h⟩:=Option.isSome_iff_exists.1 h;unfold cH at h;split at h
 ·rename_i hc;simp only[Option.bind_eq_some_iff]at h;obtain⟨l1,_,l2,h2,h3⟩:=h;unfold bf;unfold cH;rw[if_pos (show((Xg (bt c)).kind=1\/(Xg (bt c)).kind=2)/\((Xg (bt c)).goal=true->e.goal=true)/\(Xg (bt c)).acc=e.acc from⟨.inl rfl,hc.2.1,hc.2.2⟩)];have hm:met (fR (Xg (bt c)).id) e.id []=some [⟨⟨#[120]⟩,e.id⟩]:=rfl;rw[hm];show((eM (il c.attr) e.attr _).bind λl2=>eM (il c.value) e.value l2).isSome=true;rw[t_ _ _ _ _ h2];show(eM (il c.value) e.value _).isSome=true;rw[t_ _ _ _ _ h3];rfl
 ·cases h
theorem Wb{c:ae}{e:aj}{l:List aO.Bind}{s:Sym}(Bj:c.id≠⟨#[]⟩)(hg:fA l c.id=some s)(h:(cH c e l).isSome):eZ e.id s=true:=by
 obtain⟨r,h⟩:=Option.isSome_iff_exists.1 h;unfold cH at h;split at h
 ·simp only[Option.bind_eq_some_iff]at h;obtain⟨l1,h1,_⟩:=h;unfold met at h1;rw[if_neg (show ¬(fR c.id).rel=8 from by show ¬(1:Int)=8;omega),if_neg (show ¬((fR c.id).rel<1\/(fR c.id).rel>7)from by show ¬((1:Int)<1\/(1:Int)>7);omega),if_neg (show ¬(fR c.id).var=⟨#[]⟩from Bj)]at h1;rw[show fA l (fR c.id).var=some s from hg]at h1;simp only at h1;split at h1
  ·rename_i hh;exact hh
  ·cases h1
 ·cases h
def dH(ms:dj)(k:Int)(c:ae):Prop:=∃x,aL au bO k ms=some x/\x.2.c=bt c
theorem JI{es:List aj}{ms:dj}(hA:dx es ms){c:ae}(Bj:c.id≠⟨#[]⟩){k:Int}(hm:dH ms k c)(l:List aO.Bind):aP c l (Qd es ms k (fA l c.id))=aP c l es:=by
 cases hg:fA l c.id with
 |none=>
  obtain⟨x,hx,hc⟩:=hm;have fT:Vt k ms=x.2.l:=by unfold Vt;rw[hx];rfl
  show aP c l (Vt k ms)=_;rw[fT,hA.has x ((a_ ar hA.ni).1 hx).1,hc];exact kQ λe he=>xC he
 |some s=>exact kQ λe he=>Wb Bj hg he
mutual
def iu(es:List aj):ae->List aO.Bind->List (List aO.Bind)
 | .mk k g i a v ac cs,b=>if k=1 then(aP (.mk k g i a v ac cs) b es).map (·.2)else if k=2 then(if(aP (.mk k g i a v ac cs) b es).isEmpty then[b]else[])else(if(iz es cs [b]).isEmpty then[b]else[])
def iz(es:List aj):List ae->List (List aO.Bind)->List (List aO.Bind)
 |[],rows=>rows
 |c::cs,rows=>iz es cs (rows.flatMap λb=>iu es c b)
end
theorem jD(es:List aj)(c:ae)(b:List aO.Bind):iu es c b=if c.kind=1 then(aP c b es).map (·.2)else if c.kind=2 then(if(aP c b es).isEmpty then[b]else[])else(if(iz es c.conds [b]).isEmpty then[b]else[]):=by
 cases c;simp only[iu];rfl
mutual
def cC(es:List aj):ae->List aO.Bind->Nat->Nat
 | .mk k g i a v ac cs,b,0=>(iu es (.mk k g i a v ac cs) b).length
 | .mk k g i a v ac cs,b,j+1=>if k=1\/k=2 then 0 else cL es cs [b] j
def cL(es:List aj):List ae->List (List aO.Bind)->Nat->Nat
 |[],_,_=>0
 |c::cs,rows,j=>if j<aN c then(rows.map λb=>cC es c b j).sum else cL es cs (rows.flatMap λb=>iu es c b) (j-aN c)
end
theorem oP(es:List aj)(c:ae)(b:List aO.Bind):cC es c b 0=(iu es c b).length:=by cases c;rfl
theorem vQ(es:List aj)(c:ae)(b:List aO.Bind)(j:Nat):cC es c b (j+1)=if c.kind=1\/c.kind=2 then 0 else cL es c.conds [b] j:=by cases c;rfl
theorem FW(es:List aj):∀(cs:List ae) (rows:List (List aO.Bind)) (j:Nat),ah cs<=j->cL es cs rows j=0
 |[],_,_,_=>rfl
 |c::cs,rows,j,h=>by
  simp only[ah]at h
  simp only[cL]
  rw[if_neg (by omega)]
  exact FW es cs _ _ (by omega)
def Co:bR:=⟨[],[]⟩
def stepT(es:List aj)(c:ae)(ts:List bR):List bR:=
 if c.kind=1 then ts.flatMap λt=>(aP c t.binds es).map λx=>⟨t.tags++[x.1.tag],x.2⟩else ts.filter λt=> !(iu es c t.binds).isEmpty
def az(es:List aj)(p:List ae):List bR:=p.foldl (λts c=>stepT es c ts) [Co]
def dB(es:List aj)(c:ae)(ts:List bR)(j:Nat):Nat:=(ts.map λt=>cC es c t.binds j).sum
theorem dk(es:List aj)(p:List ae)(c:ae):az es (p++[c])=stepT es c (az es p):=by
 unfold az;rw[List.foldl_append];rfl
@[reducible] def gV(k:Int):List PV:=[pI k]
structure WC where
 n:Nat
 fm:Fl
 aB:List Int
 a:Option Addr
 N:Nat
 c:Nat
@[reducible] def WC.pv(w:WC):List PV:=[pP w.n 0,.list 1 w.fm (w.aB.map gV),.raw (.slice w.a w.N w.c)]
def eI(w:WC)(cv:Nat->Nat):aX:=cA 3 1 (.raw (.slice w.a w.N w.c)) ((range w.N).map λi=>[pI ((cv i:Nat):Int)])
def mD(cv:Nat->Nat)(k v:Nat):Nat->Nat:=λi=>if i=k then v else cv i
theorem xE(N:Nat)(cv:Nat->Nat):∀r∈(range N).map λi=>[pI ((cv i:Nat):Int)],r.length=1:=λr hr=>by
 obtain⟨i,_,rfl⟩:=mem_map.1 hr;rfl
theorem SP{N k v:Nat}{cv:Nat->Nat}(hk:k<N):((range N).map λi=>[pI ((cv i:Nat):Int)]).set k [pI ((v:Nat):Int)]=(range N).map λi=>[pI ((mD cv k v i:Nat):Int)]:=by
 refine List.ext_getElem (by simp) λi h1 h2=>?_;simp only[length_map,List.length_range]at h2;rw[List.getElem_set];simp only[getElem_map,List.getElem_range,mD];by_cases e:k=i
 ·rw[if_pos e,if_pos e.symm]
 ·rw[if_neg e,if_neg (Ne.symm e)]
theorem ak.zb{n:Nat}{x:NC}{es:List aj}{ms:dj}{ids:pQ}{L:List aX}{μ:Mem}(hO:Ow L μ)(hm:ak n x es ms ids∈L):μ n=some (.cells 116 x.pv):=by
 obtain⟨ν,h1,h2⟩:=hO.mem _ hm;have h3:Ow [Pt n 116 x.pv,bA x.al es ms,gL x.id ids] ν:=h1;exact h2 n _ (h3.get 0 rfl)
theorem vP{w:Nat}{W:WC}{x:NC}{es:List aj}{ms:dj}{ids:pQ}{cv:Nat->Nat}{L:List aX}{μ:Mem}(hO:Ow (Pt w 226 W.pv::eI W cv::ak W.n x es ms ids::L) μ)(k:Nat)(hk:k<W.N)(hb:cv k<=1000000000){K:Kq}
  (hK:∀μ',Ow (Pt w 226 W.pv::eI W (mD cv k (cv k+1))::ak W.n x es ms ids::L) μ'->K (pB (decide (((cv k+1:Nat):Int)<=x.T))) μ'):aa prog 117 [pP w 0,pI ((k:Nat):Int),pI 1] μ K:=by
 refine sa.c ⟨_,_,_,hO.rd 0 rfl (by simp),_,_,_,hO.rd 0 rfl (by simp),?_⟩;have GB:k<((range W.N).map λi=>[pI ((cv i:Nat):Int)]).length:=by simpa using hk
 obtain⟨b,ha,eR,fK⟩:=cA.at_ 1 hO rfl (xE W.N cv) (j:=k) GB;rw[ha];have hg:((range W.N).map λi=>[pI ((cv i:Nat):Int)])[k]=[pI ((cv k:Nat):Int)]:=by simp
 rw[hg]at eR fK;refine⟨by omega,by omega,_,(eR 0 1 (by omega)),?_⟩;refine⟨by omega,by omega,?_⟩;refine fK 0 _ _ (by simp) λu h1=>?_
 rw[show dy [pI ((cv k:Nat):Int)] 0 [pI (wrap .i64 (((cv k:Nat):Int)+1))]=[pI ((cv k+1:Nat):Int)]from by
  rw[aC (by omega) (by omega)];rfl,SP hk]at h1
 have h1:Ow (Pt w 226 W.pv::eI W (mD cv k (cv k+1))::ak W.n x es ms ids::L) u:=h1;have ahq:k<((range W.N).map λi=>[pI ((mD cv k (cv k+1) i:Nat):Int)]).length:=by simpa using hk
 obtain⟨b2,ha2,adb,_⟩:=cA.at_ 1 h1 rfl (xE W.N _) (j:=k) ahq;have hg2:((range W.N).map λi=>[pI ((mD cv k (cv k+1) i:Nat):Int)])[k]=[pI ((cv k+1:Nat):Int)]:=by simp[mD]
 rw[hg2]at adb;refine⟨_,_,_,h1.rd 0 rfl (by simp),?_⟩;rw[ha2];refine⟨by omega,by omega,_,adb 0 1 (by omega),_,h1.rd 0 rfl (by simp),?_⟩;refine⟨_,?_,hK u h1⟩;exact aI (ak.zb (es:=es) (ms:=ms) (ids:=ids) h1 (by simp)) (by simp)
theorem wI(n al:Nat)(k:Int)(o:Option Sym):∃fe fa fb,sW n al k o=.fn fe fa fb:=by
 cases o with
 |none=>exact⟨_,_,_,rfl⟩
 |some s=>exact⟨_,_,_,rfl⟩
structure Ca(c:ae):Prop where
 AW:cU c
 id:c.id≠⟨#[]⟩
theorem wT{n:Nat}{x:NC}{es:List aj}{ms:dj}{ids:pQ}(hA:dx es ms)(hI:ji es ids){c:ae}(hc:Ca c){k:Int}(hm:dH ms k c){l:List aO.Bind}(hl:l.length<=900000){fe:Fn}{fa fb:List PV}(hf:sW n x.al k (fA l c.id)=.fn fe fa fb):
  gQ prog (Qr c l (.fn fe fa fb)) ((aP c l es).map Qp) (ak n x es ms ids) (ak n x es ms ids):=by
 obtain⟨_,l1,l2,l3,l4,_⟩:=(bF c).1 hc.AW;have hs:=Qu (n:=n) (x:=x) hA hI k (fA l c.id);rw[hf]at hs;have:=Qv (l:=l) hs (by omega) (cS l3) (cS l4);rw[JI hA hc.id hm]at this;exact this
theorem tx{l:List Int}{k:Nat}(hk:k<l.length):(l.map gV)[toNat (k:Int)]?=some [pI l[k]]:=by
 rw[toNat_natCast,getElem?_map,getElem?_eq_getElem hk];rfl
theorem aak{w:Nat}{W:WC}{x:NC}{es:List aj}{ms:dj}{ids:pQ}(hA:dx es ms)(hI:ji es ids){L:List aX}{μ:Mem}(hO:Ow (Pt w 226 W.pv::ak W.n x es ms ids::L) μ){c:ae}(hc:Ca c)(fa fv fc fl:Fl){l:List aO.Bind}(hl:l.length<=900000){k:Nat}(hk:k<W.aB.length)(hm:dH ms W.aB[k] c){K:Kq}
  (hK:∀μ',Ow (Pt w 226 W.pv::ak W.n x es ms ids::L) μ'->K (pB (!(aP c l es).isEmpty)) μ'):
  aa prog 180 [pP w 0,.agg [pI c.kind,pB c.goal,pS c.id,.list 6 fa (c.attr.map Test.pv),.list 6 fv (c.value.map Test.pv),pB c.acc,.list 7 fc (c.conds.map ae.pv)],.list 4 fl (l.map Bind.pv),pI ((k:Nat):Int)] μ K:=by
 refine xW.c λb8 OE=>?_;have O1:=hO.new 4 [pB false] OE;refine⟨_,O1.rd 1 rfl (by simp),_,_,O1.rd 1 rfl (by simp),by omega,_,tx hk,_,rfl,?_⟩;refine FR (ak.zb (x:=x) (es:=es) (ms:=ms) (ids:=ids) O1 (by simp)) c _ _ _ _ l (by omega) W.aB[k] ?_;obtain⟨fe,ga,gb,hf⟩:=wI W.n x.al W.aB[k] (fA l c.id);rw[hf];refine⟨_,_,_,rfl,?_⟩;rw[Mem.mJ];refine(SZ fe ga gb c _ _ _ _ l (by omega)).call ⟨_,_,_,rfl,?_⟩;refine bu.own (wT hA hI hc hm hl hf) (Ow.at 2 rfl O1) (λi u=>i=0/\Ow (ak W.n x es ms ids::Pt b8 4 [pB false]::Pt w 226 W.pv::L) u) (λcd u=>cd=.ret/\(aP c l es).isEmpty=false/\Ow (ak W.n x es ms ids::Pt b8 4 [pB true]::Pt w 226 W.pv::L) u) (λi=>eJ.and (eJ.own _)) (λcd=>eJ.and (eJ.and (eJ.own _))) (λμ' h'=>⟨rfl,h'⟩) ?_ ?_ ?_
 ·rintro i hi u R ⟨rfl,h⟩ bX jW;rw[getElem_map];refine⟨_,_,_,_,_,_,_,_,_,_,_,_,_,_,rfl,?_⟩;refine h.st 1 rfl (by simp) λu4 h4=>jW _ _ ⟨rfl,?_,h4⟩;have xt:0<(aP c l es).length:=by simpa using hi
  cases hx:aP c l es with
  |nil=>rw[hx]at xt;simp at xt
  |cons y ys=>rfl
 ·rintro u ⟨hi,h⟩;have he:(aP c l es).isEmpty=true:=by
   rw[length_map]at hi;rw[List.isEmpty_iff];exact List.eq_nil_of_length_eq_zero hi
  dsimp only[PK];refine h.st 1 rfl (by simp) λu4 h4=>?_;refine⟨_,h4.rd 1 rfl (by simp[dy]),?_⟩;have:=hK u4 (h4.tail λ_ h=>h.drop).swap;rw[he]at this;exact this
 ·rintro cd u ⟨rfl,he,h⟩;dsimp only[PK];refine⟨_,h.rd 1 rfl (by simp),?_⟩;have:=hK u (h.tail λ_ h=>h.drop).swap;rw[he]at this;exact this
def sh(a:Nat)(f:Nat->Nat)(i:Nat):Nat:=if a<=i then f (i-a)else 0
theorem EF(f:Nat->Nat)(i:Nat):sh 0 f i=f i:=by unfold sh;simp
theorem Hf(a:Nat)(f:Nat->Nat):sh a f a=f 0:=by unfold sh;simp
theorem WY(a b:Nat)(f:Nat->Nat)(i:Nat):sh a (λj=>sh b f j) i=sh (a+b) f i:=by
 unfold sh;by_cases h1:a<=i
 ·rw[if_pos h1];dsimp only;by_cases h2:b<=i-a
  ·rw[if_pos h2,if_pos (by omega)];congr 1;omega
  ·rw[if_neg h2,if_neg (by omega)]
 ·rw[if_neg h1,if_neg (by omega)]
theorem JK(a:Nat)(f g:Nat->Nat)(i:Nat):sh a (λj=>f j+g j) i=sh a f i+sh a g i:=by unfold sh;split<;>rfl
theorem WZ{a:Nat}{f g:Nat->Nat}(h:∀j,f j<=g j)(i:Nat):sh a f i<=sh a g i:=by
 unfold sh;split
 ·exact h _
 ·exact le_refl _
theorem uN{a:Nat}{f g:Nat->Nat}(h:∀j,f j=g j)(i:Nat):sh a f i=sh a g i:=by rw[show f=g from funext h]
theorem Tt(es:List aj)(c:ae)(b:List aO.Bind){j:Nat}(h:aN c<=j):cC es c b j=0:=by
 rw[bN]at h;obtain⟨i,rfl⟩:∃i,j=i+1:=⟨j-1,by omega⟩;rw[vQ];split
 ·rfl
 ·exact FW es _ _ _ (by omega)
def du(es:List aj)(c:ae)(rows:List (List aO.Bind))(j:Nat):Nat:=(rows.map λb=>cC es c b j).sum
theorem yq(es:List aj)(c:ae)(a b:List (List aO.Bind))(j:Nat):du es c (a++b) j=du es c a j+du es c b j:=by unfold du;rw[map_append,List.sum_append]
theorem Nv(es:List aj)(c:ae){rows:List (List aO.Bind)}{k:Nat}(hk:k<rows.length)(j:Nat):du es c (rows.take (k+1)) j=du es c (rows.take k) j+cC es c rows[k] j:=by
 rw[take_add_one,getElem?_eq_getElem hk,yq];simp[du]
theorem Uv(es:List aj)(c:ae)(rows:List (List aO.Bind))(k j:Nat):du es c (rows.take k) j<=du es c rows j:=by
 have:=yq es c (rows.take k) (rows.drop k) j;rw[List.take_append_drop]at this;omega
theorem GY(es:List aj)(c:ae)(rows:List (List aO.Bind)){j:Nat}(h:aN c<=j):du es c rows j=0:=by
 unfold du;induction rows with
 |nil=>rfl
 |cons b rows ih=>rw[map_cons,List.sum_cons,ih,Tt es c b h]
theorem wJ(es:List aj)(c:ae)(rows:List (List aO.Bind)):du es c rows 0=(rows.flatMap λb=>iu es c b).length:=by
 unfold du;rw[List.length_flatMap];congr 1;exact List.map_congr_left λb _=>oP es c b
theorem AB(es:List aj):∀(a b:List ae) (rows:List (List aO.Bind)),iz es (a++b) rows=iz es b (iz es a rows)
 |[],_,_=>rfl
 |c::a,b,rows=>by simp only[cons_append,iz];exact AB es a b _
theorem xJ(es:List aj):∀(a b:List ae) (rows:List (List aO.Bind)) (j:Nat),cL es (a++b) rows j=cL es a rows j+sh (ah a) (cL es b (iz es a rows)) j
 |[],b,rows,j=>by simp[cL,iz,ah,EF]
 |d::a,b,rows,j=>by
  simp only[cons_append,cL,iz,ah]
  by_cases h:j<aN d
  ·rw[if_pos h,if_pos h]
   unfold sh;rw[if_neg (by omega)];rfl
  ·rw[if_neg h,if_neg h,xJ es a b]
   congr 1
   unfold sh
   by_cases h2:ah a<=j-aN d
   ·rw[if_pos h2,if_pos (by omega)];congr 1;omega
   ·rw[if_neg h2,if_neg (by omega)]
theorem Tj(es:List aj)(c:ae)(rows:List (List aO.Bind))(j:Nat):cL es [c] rows j=du es c rows j:=by
 simp only[cL];by_cases h:j<aN c
 ·rw[if_pos h];rfl
 ·rw[if_neg h,GY es c rows (by omega)]
theorem zM(es:List aj){l:List ae}{i:Nat}(hi:i<l.length)(rows:List (List aO.Bind))(j:Nat):cL es (l.take (i+1)) rows j=cL es (l.take i) rows j+sh (ah (l.take i)) (du es l[i] (iz es (l.take i) rows)) j:=by
 have e:l.take (i+1)=l.take i++[l[i]]:=by rw[take_add_one,getElem?_eq_getElem hi];rfl
 rw[e,xJ];congr 1;exact uN (λj=>Tj es _ _ j) j
theorem aev(es:List aj)(l:List ae)(i:Nat)(rows:List (List aO.Bind))(j:Nat):cL es (l.take i) rows j<=cL es l rows j:=by
 have:=xJ es (l.take i) (l.drop i) rows j;rw[List.take_append_drop]at this;omega
theorem QV(es:List aj){l:List ae}{i:Nat}(hi:i<l.length)(rows:List (List aO.Bind)):iz es (l.take (i+1)) rows=(iz es (l.take i) rows).flatMap λb=>iu es l[i] b:=by
 have e:l.take (i+1)=l.take i++[l[i]]:=by rw[take_add_one,getElem?_eq_getElem hi];rfl
 rw[e,AB];rfl
theorem mH{l:List ae}{i:Nat}(hi:i<l.length):ah (l.take (i+1))=ah (l.take i)+aN l[i]:=by
 have e:l.take (i+1)=l.take i++[l[i]]:=by rw[take_add_one,getElem?_eq_getElem hi];rfl
 have h:∀(a b:List ae),ah (a++b)=ah a+ah b:=λa b=>by
  induction a with
  |nil=>simp[ah]
  |cons c a ih=>simp only[cons_append,ah,ih];omega
 rw[e,h];simp[ah]
theorem gT(l:List ae)(i:Nat):ah (l.take i)<=ah l:=by
 have h:∀(a b:List ae),ah (a++b)=ah a+ah b:=λa b=>by
  induction a with
  |nil=>simp[ah]
  |cons c a ih=>simp only[cons_append,ah,ih];omega
 have:=h (l.take i) (l.drop i);rw[List.take_append_drop]at this;omega
theorem MG{es:List aj}{c:ae}(hl:cU c){b r:List aO.Bind}(h:r∈iu es c b):r.length<=b.length+100*aN c:=by
 obtain⟨_,l1,l2,_⟩:=(bF c).1 hl;have hs:1<=aN c:=by rw[bN];omega
 rw[jD]at h;split at h
 ·obtain⟨⟨e,r'⟩,hx,rfl⟩:=mem_map.1 h;unfold aP at hx;obtain⟨e',_,he⟩:=List.mem_filterMap.1 hx;cases hc:cH c e' b with
  |none=>rw[hc]at he;cases he
  |some q=>
   rw[hc]at he;simp only[Option.map_some,Option.some.injEq,Prod.mk.injEq]at he;have:=Ee hc;obtain⟨rfl,rfl⟩:=he;show q.length<=_;omega
 ·split at h
  ·split at h
   ·simp only[mem_singleton]at h;subst h;omega
   ·cases h
  ·split at h
   ·simp only[mem_singleton]at h;subst h;omega
   ·cases h
theorem Ma{es:List aj}:∀{l:List ae} {rows:List (List aO.Bind)} {m:Nat},bW l->(∀b∈rows,b.length<=m)->∀r∈iz es l rows,r.length<=m+100*ah l
 |[],rows,m,_,h,r,hr=>by have:=h r hr;simp[ah];omega
 |c::cs,rows,m,hl,h,r,hr=>by
  simp only[iz]at hr
  have:=Ma (l:=cs) (m:=m+100*aN c) hl.2 (λb hb=>by
   obtain⟨a,ha,hb⟩:=List.mem_flatMap.1 hb
   have h1:=MG hl.1 hb
   have h2:=h a ha
   omega) r hr
  simp only[ah];omega
namespace K6
theorem vN(a b:ByteArray):Pure prog 341 [pS a,pS b] (pI (bE a b)):=by
 refine av.of (ra.c ?_);refine ab.mk (λh=>?_) (λh=>ab.mk (λh1=>?_) (λh1=>?_))
 ·simp[bE,h,wk,bV]
 ·simp only[bE,h,wk,bV];simp only[h]at h1;rw[h1];rfl
 ·simp only[bE,h,wk,bV];simp only[h]at h1;rw[h1];rfl
def cm(L:List ByteArray):Lq:=L.map λs=>[pS s]
theorem cP(L:List ByteArray):∀r∈cm L,r.length=1:=λr hr=>by
 obtain⟨s,_,rfl⟩:=mem_map.1 hr;rfl
theorem ju(L:List ByteArray):aQ (cm L).flatten=true:=by
 unfold aQ cm;rw[List.all_eq_true];intro x hx;obtain⟨r,hr,hx⟩:=List.mem_flatten.1 hx;obtain⟨s,_,rfl⟩:=mem_map.1 hr;simp only[mem_singleton]at hx;subst hx;rfl
@[simp] theorem da(L:List ByteArray):(cm L).length=L.length:=by simp[cm]
theorem Hk{L:List ByteArray}{i:Nat}(h:i<L.length):(cm L)[toNat (i:Int)]?=some [pS L[i]]:=by
 rw[toNat_natCast,cm,getElem?_map,getElem?_eq_getElem h];rfl
abbrev uJ:TypeId:=343
abbrev tyName:TypeId:=292
abbrev BP(μ:Mem)(b:Nat)(L:List ByteArray)(F:List Nat):Prop:=iE uJ tyName 1 μ b (cm L) F
theorem KW(b:Nat)(s:Bool)(L:List ByteArray)(hu:Up bE L)(hl:L.length<=1000000)(x:ByteArray):aa prog 247 [pP b 0,pS x] (M0.set b (some (.ro uJ [.list 1 .sh (cm L),pB s]))) λp _=>∃(k:Nat) (t:Bool),p=.aA [pI k,pB t]/\bP bE L x k t:=by
 refine lb.c ?_;refine⟨_,_,wQ (Mem.an _ _ _) (by simp),?_⟩;have eR:∀u,u=M0.set b (some (.ro uJ [.list 1 .sh (cm L),pB s]))->ay u b 0 1=some [.list 1 .sh (cm L)]:=λu h=>by rw[h];exact wQ (Mem.an _ _ _) (by simp)
 rw[da];refine ao.bin (n:=L.length) (by omega) (λi=>if h:i<L.length then bE L[i] x else 1) (λu=>u=M0.set b (some (.ro uJ [.list 1 .sh (cm L),pB s]))) rfl ?_ ?_ ?_ ?_
 ·intro i j MA hj h;rw[dif_pos hj]at h;rw[dif_pos (Nat.lt_trans MA hj)];exact hu.Xe cy MA hj h
 ·intro i j MA hj h;rw[dif_pos (Nat.lt_trans MA hj)]at h;rw[dif_pos hj];exact hu.Xd cy MA hj h
 ·intro lo hi wZ u next bG hhi Zu Mu hA h1 h2 h3
  subst hA;rw[dif_pos Mu]at h1 h2 h3;refine ab.t (by simpa using bG) ⟨by decide,?_⟩;refine⟨_,_,eR _ rfl,?_⟩;dsimp only;rw[acJ bG (by omega),<- Zu];refine⟨by omega,_,Hk Mu,_,rfl,λv=>by kernel_rfl,(vN L[wZ] x).call ⟨_,rfl,ab.mk (λh=>?_) (λh=>ab.mk (λh'=>?_) (λh'=>?_))⟩⟩
  ·have h0:bE L[wZ] x=0:=by simpa using h
   refine⟨wZ,true,rfl,Nat.le_of_lt Mu,λi hi vv=>?_,λ_=>⟨Mu,(xF).1 h0⟩,λh=>by cases h⟩;have:=h3 h0 i vv;rw[dif_pos hi]at this;exact this
  ·have h0:bE L[wZ] x<0:=by simpa using h'
   have:=h1 h0 _ rfl;rw[aC (by omega) (by omega)];exact this
  ·have h0:0<bE L[wZ] x:=by
    have a1:bE L[wZ] x≠0:=by simpa using h
    have a2:¬bE L[wZ] x<0:=by simpa using h'
    omega
   exact h2 h0 _ rfl
 ·intro k u next hA hk h1 h2
  refine ab.f (by simp) ?_;refine⟨k,false,rfl,hk,λi hi vv=>?_,λh=>(by cases h),λ_ i hi vv=>?_⟩
  ·have:=h1 i vv;rw[dif_pos hi]at this;exact this
  ·have:=h2 i vv hi;rw[dif_pos hi]at this;exact this
theorem XZ{μ:Mem}{b:Nat}{L:List ByteArray}{F:List Nat}(h:BP μ b L F)(hu:Up bE L)(hl:L.length<=1000000)(x:ByteArray){K:Kq}(hk:∀(k:Nat) (t:Bool),bP bE L x k t->K (.aA [pI k,pB t]) μ):aa prog 247 [pP b 0,pS x] μ K:=
 iE.query h (λs=>KW b s L hu hl x) (λp ⟨k,t,e,_⟩=>by rw[e];rfl) λp ⟨k,t,e,hf⟩=>by rw[e];exact hk k t hf
theorem qV{μ:Mem}{b:Nat}{L:List ByteArray}{F:List Nat}(h:BP μ b L F)(hu:Up bE L)(hl:L.length<=1000000)(x:ByteArray){K:Kq}(hk:∀(k:Nat) (t:Bool),bP bE L x k t->K (.aA [pI k,pB t]) μ):aa prog 252 [pP b 0,pS x] μ K:=by
 refine kA.c ?_;exact ab.f rfl (XZ h hu hl x λk t hf=>⟨_,_,rfl,hk k t hf⟩)
theorem KT{μ:Mem}{b:Nat}{L:List ByteArray}{F:List Nat}(h:BP μ b L F)(hl:L.length<=1000000){K:Kq}(hk:∀μ' F',sN uJ tyName 1 μ' b (cm L) F'->Mv μ μ' F F'->K (.aA []) μ'):aa prog 248 [pP b 0] μ K:=by
 obtain⟨μ0,hG,PF,RY⟩:=h.raw;refine aa.pre hG (mg.c ?_);rcases RY with⟨rfl,hm⟩|hr
 ·refine⟨true,aI hm (by simp),ab.t rfl ?_⟩;refine⟨_,_,aI hm (by simp),?_⟩;refine⟨_,_,aI hm (by simp),?_⟩;rw[da,aC (by omega) (by omega)];refine⟨by omega,by omega,by omega,by omega,λCg Fy=>?_⟩;have aZ:Cg≠b:=by rintro rfl;rw[hm]at Fy;cases Fy
  have hn:toNat ((L.length:Int)+1)=L.length+1:=by omega
  rw[hn];refine IK (Mem.an _ _ _) (by simp) (by simp) (cP L) (ju L) (by simp;omega) (by simp;omega) ?_;rw[Mem.set_set];refine⟨_,_,by rw[Mem.ax _ _ (Ne.symm aZ)];exact hm,by simp,?_⟩;refine⟨_,_,Mem.an _ _ _,by simp[dy],?_⟩;rw[Mem.set_set];refine hk _ [b,Cg] (.inr ⟨Cg,L.length+1,_,rfl,aZ,by rw[Mem.an];rfl,by rw[Mem.ax _ _ aZ,Mem.an],by simp,by simp⟩) (PF.trans ?_);exact((Mv.set (F:=[b]) (.inr Fy)).trans (Mv.set (.inl (by simp)))).sub (by simp)
 ·obtain⟨a,c,hm,_⟩:=hr.app (cP L);exact⟨false,aI hm (by simp),ab.f rfl (hk μ0 F hr PF)⟩
theorem qF(L:List ByteArray)(j:Nat)(y:ByteArray):(L.take j++y::L.drop j).length=L.length+1:=by
 rw[length_append,length_cons,length_take,length_drop];omega
theorem Vr(L:List ByteArray)(j:Nat)(y:ByteArray)(h0:0<j)(hj:j<=L.length):(cm (L.take j++y::L.drop j)).set j [pS (L[j-1]'(by omega))]=cm (L.take (j-1)++(L[j-1]'(by omega))::L.drop (j-1)):=by
 have e:L.drop (j-1)=L[j-1]'(by omega)::L.drop j:=by
  rw[List.drop_eq_getElem_cons (by omega)];congr 2;omega
 have e2:L.take j=L.take (j-1)++[L[j-1]'(by omega)]:=by
  have:=take_add_one (l:=L) (i:=j-1);rw[show j-1+1=j by omega,getElem?_eq_getElem (by omega)]at this;exact this
 have hlen:(L.take j).length=j:=by rw[length_take];omega
 unfold cm;rw[map_append,map_cons,List.set_append_right _ _ (by simp;omega)];simp only[length_map,hlen,Nat.sub_self,List.set_cons_zero];rw[e2,e,map_append,append_assoc,map_append];rfl
theorem Za(L:List ByteArray)(j:Nat)(x y:ByteArray)(hj:j<=L.length):(cm (L.take j++y::L.drop j)).set j [pS x]=cm (L.take j++x::L.drop j):=by
 have hlen:(L.take j).length=j:=by rw[length_take];omega
 unfold cm;rw[map_append,map_cons,List.set_append_right _ _ (by simp;omega)];simp only[length_map,hlen,Nat.sub_self,List.set_cons_zero];rw[map_append,map_cons]
theorem acN(L:List ByteArray)(j:Nat)(y:ByteArray)(h0:0<j)(hj:j<=L.length):(cm (L.take j++y::L.drop j))[j-1]?=some [pS (L[j-1]'(by omega))]:=by
 unfold cm;rw[getElem?_map,List.getElem?_append_left (by rw[length_take];omega),List.getElem?_take,if_pos (by omega),getElem?_eq_getElem (by omega)];rfl
theorem fV{μ:Mem}{b:Nat}{L:List ByteArray}{F:List Nat}(h:BP μ b L F)(hu:Up bE L)(hl:L.length<=999999)(x:ByteArray){K:Kq}
  (hk:∀μ' L' F' (t:Bool),(t=true↔x∉L)->BP μ' b L' F'->Up bE L'->(∀y,y∈L'↔y=x\/y∈L)->L'.length<=L.length+t.toNat->Mv μ μ' F F'->K (pB t) μ'):aa prog 210 [pP b 0,pS x] μ K:=by
 refine mh.c ?_;refine ab.f rfl (XZ h hu (by omega) x λk t hf=>⟨_,_,rfl,ab.mk (λht=>?_) (λht=>?_)⟩)
 ·have hx:x∈L:=(hf.mem cy).1 ht;exact hk μ L F false ⟨λh=>(by cases h),λh=>absurd hx h⟩ h hu (λy=>⟨λh=>.inr h,λh=>h.elim (λe=>e▸hx) id⟩) (by simp) (Mv.refl _ _)
 ·subst ht;have hx:x∉L:=λhx=>by have:=(hf.mem cy).2 hx;cases this
  refine KT h (by omega) λμ1 F1 hr yC=>⟨rfl,?_⟩;obtain⟨a,c,hb,jf⟩:=hr.app (cP L);refine⟨_,_,_,aI hb (by simp),?_⟩;simp only[da]at jf;rw[da];refine jf [pS x] 16 _ rfl rfl (by omega) (by omega) λb' c' rest μ2 aZ e2 je jm sH rH=>?_;refine⟨_,_,e2.trans hb,by simp,?_⟩;refine⟨_,_,_,aI (Mem.an _ _ _) (by simp[dy]),?_⟩;have hn1:wrap .i64 (((L.length+1:Nat):Int)-1)=(L.length:Int):=by rw[aC (by omega) (by omega)];omega
  rw[hn1];have Zg:dy [.raw (.slice a L.length c),pB false] 0 [PV.raw (.slice (some ⟨b',0,none⟩) (L.length+1) c')]=[.raw (.slice (some ⟨b',0,none⟩) (L.length+1) c'),pB false]:=rfl;refine ao.down hf.le (by omega) (λj u=>∃y,u b=some (.cells uJ [.raw (.slice (some ⟨b',0,none⟩) (L.length+1) c'),pB false])/\u b'=some (.cells tyName ((cm (L.take j++y::L.drop j)).flatten++rest))/\Mv μ2 u [b,b'] [b,b']) ⟨x,?_,?_,?_⟩ ?_ ?_
  ·rw[Mem.an];rfl
  ·rw[Mem.ax _ _ aZ,je,take_length,drop_length];simp[cm]
  ·exact(Mv.set (.inl (by simp))).sub (by simp)
  ·rintro j u next ZB Ua ⟨y,i1,i2,i3⟩ aw
   refine ab.t (by simpa using ZB) ?_;refine⟨_,_,_,aI i1 (by simp),?_⟩;refine⟨_,_,_,aI i1 (by simp),?_⟩;have Mz:wrap .i64 ((j:Int)-1)=((j-1:Nat):Int):=by rw[aC (by omega) (by omega)];omega
   refine⟨by rw[Mz];omega,by rw[Mz];omega,L[j-1]'(by omega),?_,?_⟩
   ·rw[Mz,toNat_natCast,zero_add];exact Ho (cP _) i2 (acN L j y (by omega) Ua)
   ·refine⟨by omega,by omega,_,_,i2,?_,aw _ ⟨L[j-1]'(by omega),?_,?_,?_⟩⟩
    ·have mu:=dV (cP (L.take j++y::L.drop j));rw[da,qF]at mu;rw[length_append,mu,toNat_natCast,List.length_singleton];omega
    ·rw[Mem.ax _ _ (Ne.symm aZ)];exact i1
    ·rw[Mem.an,toNat_natCast,zero_add,Da (cP _) (by rw[da,qF];omega) rfl,Vr L j y (by omega) Ua]
    ·exact(i3.trans (Mv.set (.inl (by simp)))).sub (by simp)
  ·rintro u next ⟨y,i1,i2,i3⟩
   refine ab.f (by simp) ?_;refine⟨_,_,_,aI i1 (by simp),?_⟩;have hle:=hf.le;refine⟨by omega,by omega,_,_,i2,?_,?_⟩
   ·have mu:=dV (cP (L.take k++y::L.drop k));rw[da,qF]at mu;rw[length_append,mu,toNat_natCast,List.length_singleton];omega
   ·rw[toNat_natCast,zero_add,Da (cP _) (by rw[da,qF];omega) rfl,Za L k x y hf.le];refine hk (u.set b' (some (.cells tyName ((cm (L.take k++x::L.drop k)).flatten++rest)))) (L.take k++x::L.drop k) [b,b'] true ⟨λ_=>hx,λ_=>rfl⟩ ⟨cP _,ju _,.inr (.inr (.inr ⟨b',c',rest,rfl,aZ,?_,Mem.an _ _ _,?_,?_⟩))⟩ (hf.put cy hu) (λy=>bP.YX) (by rw[qF];simp) ?_
    ·rw[Mem.ax _ _ (Ne.symm aZ),i1,da,qF]
    ·rw[da,qF];exact jm
    ·rw[da,qF];exact sH
    ·exact yC.trans (rH.trans ((i3.trans (Mv.set (.inl (by simp)))).sub (by simp)))
theorem aaE{μ:Mem}{b:Nat}{L:List ByteArray}{F:List Nat}(h:BP μ b L F){K:Kq}(hk:∀μ' b',(b'∈F\/μ b'=none)->b'≠b->BP μ' b L [b]->BP μ' b' L [b']->Mv μ μ' F [b',b]->K (pP b' 0) μ'):aa prog 249 [pP b 0] μ K:=by
 obtain⟨μ0,s,hG,hm,PF⟩:=h.list;refine aa.pre hG (kB.c ?_);refine ab.f rfl ?_;refine⟨_,_,hm,by simp,?_⟩;refine⟨_,_,aI (Mem.an _ _ _) (by simp[dy]),λb' je=>?_⟩;have aZ:b'≠b:=by rintro rfl;rw[Mem.an]at je;cases je
 have hb0:=je;rw[Mem.ax _ _ aZ]at hb0;have rH:Mv μ (((μ0.set b (some (.cells uJ (dy [.list 1 .sh (cm L),pB s] (0+1) [pB true])))).set b' (some (.cells uJ [.list 1 .sh (cm L),pB true])))) F [b',b]:=(PF.trans ((Mv.set (.inl (by simp))).trans (Mv.set (.inr je)))).sub (by simp);refine hk _ b' (rH.grow b' (by simp)) aZ ⟨cP L,ju L,.inl ⟨rfl,?_⟩⟩ ⟨cP L,ju L,.inl ⟨rfl,Mem.an _ _ _⟩⟩ rH;rw[Mem.ax _ _ (Ne.symm aZ),Mem.an];rfl
theorem gu{μ:Mem}(fl:Fl){K:Kq}(hk:∀μ' b,μ b=none->BP μ' b [] [b]->Mv μ μ' [] [b]->K (pP b 0) μ'):aa prog 158 [.list 1 fl []] μ K:=by
 refine oX.c ?_;intro b hb;refine ao.each (n:=0) (by omega) (λ_ u=>u=μ.set b (some (.cells uJ [.list 1 .nil [],pB false]))) rfl (λk u next cj=>by omega) ?_;rintro u next rfl
 refine ab.f (by simp) (hk _ b hb ⟨cP [],ju [],.inr (.inl ⟨rfl,rfl,Mem.an _ _ _⟩)⟩ ((Mv.set (.inr hb)).sub (by simp)))
end K6
theorem MR(s:Sym):Pure prog 263 [.agg s.pv] (pB (sA s)):=av.of (Gm.c rfl)
theorem Tn(a:Atom):Pure prog 246 [.agg a.pv] (pB (oM a)):=by
 refine av.of (CU.c ?_);refine ab.mk (λh=>(MR a.sym).call ⟨_,rfl,?_⟩) (λh=>?_)<;>simp_all [oM,wk,bV]
theorem Lb(s:Sym):Pure prog 264 [.agg s.pv] (pB (lV s)):=by
 refine av.of (xU.c ?_);refine ab.mk (λh=>(FQ s).call ⟨_,rfl,?_⟩) (λh=>?_)<;>simp_all [lV,wk,bV]
theorem M_(a:Atom):Pure prog 243 [.agg a.pv] (pB (iC a)):=by
 refine av.of (Gp.c ?_);refine ab.mk (λh=>(Ej a.var).call ⟨_,rfl,ab.mk (λh2=>(MR a.sym).call ⟨_,rfl,?_⟩) (λh2=>?_)⟩) (λh=>(Lb a.sym).call ⟨_,rfl,?_⟩)<;>simp_all [iC,sA,wk,bV]
theorem qU(a:Atom):Pure prog 140 [.agg a.pv] (pB (iC a)):=by
 refine av.of (uq.c ?_);refine ab.mk (λh=>(qS a.var).call ⟨_,rfl,ab.mk (λh2=>?_) (λh2=>?_)⟩) (λh=>(xI a.sym).call ⟨_,rfl,?_⟩)<;>simp_all [iC,sA,wk,bV]
theorem zO{T:Type}{f:FuncId}{p:T->Bool}{l:List T}{n:Nat}{body:(Int->Mem->Prop)->Int->Mem->Prop}{u:Mem}(hl:l.length=n)(hn:n<9223372036854775808)(dc:l.all p=false->∀u next,False->body next 0 u)
  (fT:∀(k:Nat) (hk:k<l.length) (u:Mem) (next:Int->Mem->Prop),(p l[k]=true->∀u',next (wrap .i64 ((k:Int)+1)) u')->(p l[k]=false->l.all p=false)->body next (k:Int) u) (fL:∀(u:Mem) (next:Int->Mem->Prop),l.all p=true->body next (n:Int) u):ao body 0 u:=by
 refine ao.each (n:=n) hn (λk u=>(l.take k).all p=true) (by simp) ?_ ?_
 ·intro k u next hk hg aw
  have cj:k<l.length:=by omega
  exact fT k cj u next (λhp u'=>aw u' (by rw[FZ cj hg];exact hp)) (λhp=>F_ cj hp)
 ·intro u next hg
  rw[<- hl,take_length]at hg;exact fL u next hg
theorem ael(fl:Fl)(t:Test)(ht:t.list.length<=1000000):Pure prog 262 [.agg [pI t.rel,pS t.var,pI t.sym.k,pS t.sym.t,pI t.sym.n,.list 3 fl (t.list.map Sym.pv)]] (pB (df t)):=by
 refine av.of (Gk.c ?_);refine ab.mk (λh8=>?_) (λh8=>?_)
 ·refine ab.mk (λh1=>?_) (λh1=>(MR t.sym).call ⟨_,rfl,ab.mk (λh2=>?_) (λh2=>ab.mk (λh3=>?_) (λh3=>ab.mk (λh4=>?_) (λh4=>?_)))⟩)
  ·simp[df,h8,nb h1,wk,bV]
  ·simp[df,h8,nb h2,wk,bV]
  ·have:¬1<=t.list.length:=by simp at h3;omega
   simp[df,h8,this,wk,bV]
  ·have:¬t.list.length<=8:=by simp at h4;omega
   simp[df,h8,this,wk,bV]
  ·have e3:1<=t.list.length:=by simp at h3;omega
   have e4:t.list.length<=8:=by simp at h4;omega
   have hb:df t=t.list.all lV:=by simp[df,h8,nt h1,nt h2,e3,e4]
   rw[hb];refine zO (p:=lV) (l:=t.list) (f:=0) rfl (by omega) (λ_ _ _ h=>h.elim) (λk hk u next hy dc=>?_) (λu next ha=>ab.f (by simp) (by rw[ha];rfl));refine ab.t (by simpa using hk) ⟨by omega,_,aH hk,_,_,_,rfl,(Lb t.list[k]).call ⟨_,rfl,ab.mk (λa=>?_) (λa=>hy (by simpa using a) _)⟩⟩;rw[dc (by simpa using a)];rfl
 ·refine ab.mk (λh1=>?_) (λh1=>ab.mk (λh2=>?_) (λh2=>ab.mk (λh3=>?_) (λh3=>?_)))
  ·have:¬1<=t.rel:=by simp at h1;omega
   simp[df,h8,this,wk,bV]
  ·have:¬t.rel<=7:=by simp at h2;omega
   simp[df,h8,this,wk,bV]
  ·have:¬t.list.length=0:=by simp at h3;omega
   simp[df,h8,this,wk,bV]
  ·have e1:1<=t.rel:=by simp at h1;omega
   have e2:t.rel<=7:=by simp at h2;omega
   have e3:t.list.length=0:=by simpa using h3
   have hb:df t=iC ⟨t.var,t.sym⟩:=by simp[df,h8,e1,e2,e3]
   rw[hb];refine ab.mk (λh=>(Ej t.var).call ⟨_,rfl,ab.mk (λh2=>(MR t.sym).call ⟨_,rfl,?_⟩) (λh2=>?_)⟩) (λh=>(Lb t.sym).call ⟨_,rfl,?_⟩)<;>simp_all [iC,sA,wk,bV]
theorem Tc(fl:Fl)(t:Test)(ht:t.list.length<=1000000):Pure prog 234 [.agg [pI t.rel,pS t.var,pI t.sym.k,pS t.sym.t,pI t.sym.n,.list 3 fl (t.list.map Sym.pv)]] (pB (df t)):=by
 refine av.of (uj.c ?_);refine ab.mk (λh8=>?_) (λh8=>?_)
 ·refine ab.mk (λh1=>?_) (λh1=>ab.mk (λh2=>?_) (λh2=>ab.mk (λh3=>?_) (λh3=>ab.mk (λh4=>?_) (λh4=>?_))))
  ·simp_all [df,wk,bV]
  ·have:sA t.sym=false:=nb h2;simp[df,h8,this,wk,bV]
  ·have:¬1<=t.list.length:=by simp at h3;omega
   simp[df,h8,this,wk,bV]
  ·have:¬t.list.length<=8:=by simp at h4;omega
   simp[df,h8,this,wk,bV]
  ·have e2:sA t.sym=true:=nt h2;have e3:1<=t.list.length:=by simp at h3;omega
   have e4:t.list.length<=8:=by simp at h4;omega
   have e1:aK t.var ⟨#[]⟩=true:=by simpa using h1
   have hb:df t=t.list.all lV:=by simp[df,h8,e1,e2,e3,e4]
   rw[hb];refine zO (p:=lV) (l:=t.list) (f:=0) rfl (by omega) (λ_ _ _ h=>h.elim) (λk hk u next hy dc=>?_) (λu next ha=>ab.f (by simp) (by rw[ha];rfl));refine ab.t (by simpa using hk) ⟨by omega,_,aH hk,_,_,_,rfl,(xI t.list[k]).call ⟨_,rfl,ab.mk (λa=>?_) (λa=>hy (by simpa using a) _)⟩⟩;rw[dc (by simpa using a)];rfl
 ·refine ab.mk (λh1=>ab.mk (λh2=>ab.mk (λh3=>(qU ⟨t.var,t.sym⟩).call ⟨_,rfl,?_⟩) (λh3=>?_)) (λh2=>?_)) (λh1=>?_)
  ·have e3:t.list.length=0:=by simpa using h3
   have e1:1<=t.rel:=by simpa using h1
   have e2:t.rel<=7:=by simpa using h2
   simp[df,h8,e1,e2,e3,wk,bV]
  ·have e3:¬t.list.length=0:=by simpa using h3
   simp[df,h8,e3,wk,bV]
  ·have e2:¬t.rel<=7:=by simpa using h2
   simp[df,h8,e2,wk,bV]
  ·have e1:¬1<=t.rel:=by simpa using h1
   simp[df,h8,e1,wk,bV]
theorem SW(fl:Fl)(l:List Test)(hl:l.length<=1000000)(ht:∀t∈l,t.list.length<=1000000):Pure prog 242 [.list 6 fl (l.map Test.pv)] (pB (l.all df)):=by
 refine av.of (CS.c ?_);refine zO (p:=df) (l:=l) (f:=0) rfl (by omega) (λ_ _ _ h=>h.elim) (λk hk u next hy dc=>?_) (λu next ha=>ab.f (by simp) (by rw[ha];rfl));refine ab.t (by simpa using hk) ⟨by omega,_,aH hk,_,_,_,_,_,_,_,rfl,(ael .sh l[k] (ht _ (getElem_mem hk))).call ⟨_,rfl,ab.mk (λa=>?_) (λa=>hy (by simpa using a) _)⟩⟩;rw[dc (by simpa using a)];rfl
theorem Ek(fl:Fl)(l:List Test)(hl:l.length<=1000000)(ht:∀t∈l,t.list.length<=1000000):Pure prog 195 [.list 6 fl (l.map Test.pv)] (pB (l.all df)):=by
 refine av.of (sg.c ?_);refine zO (p:=df) (l:=l) (f:=0) rfl (by omega) (λ_ _ _ h=>h.elim) (λk hk u next hy dc=>?_) (λu next ha=>ab.f (by simp) (by rw[ha];rfl));refine ab.t (by simpa using hk) ⟨by omega,_,aH hk,_,_,_,_,_,_,_,rfl,(Tc .sh l[k] (ht _ (getElem_mem hk))).call ⟨_,rfl,ab.mk (λa=>?_) (λa=>hy (by simpa using a) _)⟩⟩;rw[dc (by simpa using a)];rfl
theorem SS(a:Atom):Pure prog 265 [.agg a.pv] (pB (Dc a)):=by
 refine av.of (Gj.c ?_);refine ab.mk (λh=>?_) (λh=>?_)<;>simp_all [Dc,wk,bV]
theorem aap(k:Int):Pure prog 245 [pI k] (pB (wY k)):=by
 refine av.of (CT.c ?_);refine ab.mk (λh=>?_) (λh=>ab.mk (λh2=>?_) (λh2=>?_))<;>simp[wY,wk,bV, *]
theorem aem(t:Term):Pure prog 244 [.agg t.pv] (pB (kG t)):=by
 refine av.of (Gl.c ?_)
 refine ab.mk (λh=>?_) (λh=>ab.mk (λh2=>?_) (λh2=>(M_ t.a).call ⟨_,rfl,ab.mk (λh3=>?_) (λh3=>ab.mk (λh4=>(Tn t.b).call ⟨_,rfl,?_⟩)
  (λh4=>(M_ t.b).call ⟨_,rfl,ab.mk (λh5=>(SS t.a).call ⟨_,rfl,ab.mk (λh6=>(SS t.b).call ⟨_,rfl,?_⟩) (λh6=>?_)⟩) (λh5=>?_)⟩))⟩))
 ·have:¬0<=t.op:=by simp at h;omega
  simp[kG,this,wk,bV]
 ·have:¬t.op<=3:=by simp at h2;omega
  simp[kG,this,wk,bV]
 all_goals
  have e1:0<=t.op:=by simp at h;omega
  have e2:t.op<=3:=by simp at h2;omega
  grind [kG,wk,bV]
theorem aiF(a:cN):Pure prog 209 [.agg a.pv] (pB (hY a)):=by
 refine av.of (Ja.c ?_)
 refine(Ej a.id).call ⟨_,rfl,ab.mk (λh1=>?_) (λh1=>(M_ a.attr).call ⟨_,rfl,ab.mk (λh2=>?_) (λh2=>(aem a.value).call ⟨_,rfl,ab.mk (λh3=>?_) (λh3=>ab.mk (λh4=>?_) (λh4=>ab.mk (λh5=>?_)
  (λh5=>(aap a.pE).call ⟨_,rfl,ab.mk (λh6=>(M_ a.other).call ⟨_,rfl,?_⟩) (λh6=>(Tn a.other).call ⟨_,rfl,?_⟩)⟩)))⟩)⟩)⟩
 ·simp_all [hY,wk,bV]
 ·simp_all [hY,wk,bV]
 ·simp_all [hY,wk,bV]
 ·have:¬1<=a.pE:=by simp at h4;omega
  simp[hY,this,wk,bV]
 ·have:¬a.pE<=10:=by simp at h5;omega
  simp[hY,this,wk,bV]
 all_goals
  have e1:1<=a.pE:=by simp at h4;omega
  have e2:a.pE<=10:=by simp at h5;omega
  simp_all [hY,wk,bV]
theorem rN{a:Atom}(h:iC a=true):(a.sym.k == 3)=Dc a:=by
 unfold iC at h;unfold Dc;cases hv:aK a.var ⟨#[]⟩with
 |true=>simp
 |false=>
  rw[hv]at h;simp only[cond_false,Bool.and_eq_true,sA]at h;have:a.sym.k=0:=by simpa using h.2.1
  simp[this]
theorem Wj(a:cN):Pure prog 86 [.agg a.pv] (pB (hY a)):=by
 refine av.of (wq.c ?_);refine(qS a.id).call ⟨_,rfl,ab.mk (λh1=>?_) (λh1=>(qU a.attr).call ⟨_,rfl,ab.mk (λh2=>?_) (λh2=>(qU a.value.a).call ⟨_,rfl,ab.mk (λh3=>?_) (λh3=>ab.mk (λh4=>?_) (λh4=>ab.mk (λh5=>?_) (λh5=>ab.mk (λh6=>?_) (λh6=>ab.mk (λh7=>?_) (λh7=>?_)))))⟩)⟩)⟩
 ·simp_all [hY,wk,bV]
 ·simp_all [hY,wk,bV]
 ·simp_all [hY,kG,wk,bV]
 ·have:¬0<=a.value.op:=by simp at h4;omega
  simp[hY,kG,this,wk,bV]
 ·have:¬a.value.op<=3:=by simp at h5;omega
  simp[hY,kG,this,wk,bV]
 ·have:¬1<=a.pE:=by simp at h6;omega
  simp[hY,this,wk,bV]
 ·have:¬a.pE<=10:=by simp at h7;omega
  simp[hY,this,wk,bV]
 ·have e4:0<=a.value.op:=by simp at h4;omega
  have e5:a.value.op<=3:=by simp at h5;omega
  have e6:1<=a.pE:=by simp at h6;omega
  have e7:a.pE<=10:=by simp at h7;omega
  have e1:eP a.id=true:=by simpa using h1
  have e2:iC a.attr=true:=by simpa using h2
  have e3:iC a.value.a=true:=by simpa using h3
  refine⟨λ_ _=>kG a.value=true,?_,?_⟩
  ·refine ab.mk (λa1=>ab.mk (λa2=>?_) (λa2=>?_)) (λa1=>(qU a.value.b).call ⟨_,rfl,ab.mk (λa2=>?_) (λa2=>ab.mk (λa3=>?_) (λa3=>ab.mk (λa4=>?_) (λa4=>?_)))⟩)
   ·have:oM a.value.b=false:=nb a2;simp[hY,kG,a1,this,wk,bV]
   ·have:oM a.value.b=true:=nt a2;simp[kG,e4,e5,e3,a1,this]
   ·have:iC a.value.b=false:=by simpa using a2
    simp[hY,kG,a1,this,wk,bV]
   ·rw[rN e3]at a3;simp[hY,kG,a1,a3,wk,bV]
   ·have b1:iC a.value.b=true:=by simpa using a2
    rw[rN b1]at a4;simp[hY,kG,a1,a4,wk,bV]
   ·have b1:iC a.value.b=true:=by simpa using a2
    rw[rN e3]at a3;rw[rN b1]at a4;simp[kG,e4,e5,e3,a1,a3,a4,b1]
  ·rintro _ u ht;have ho:wY a.pE=decide (a.pE>=8):=by
    simp only[wY];rw[Bool.eq_iff_iff];simp;omega
   refine ab.mk (λa1=>(qU a.other).call ⟨_,rfl,?_⟩) (λa1=>?_)
   ·simp[hY,e1,e2,ht,e6,e7,ho,a1,wk,bV]
   ·have:oM a.other=(aK a.other.var ⟨#[]⟩&&((a.other.sym.k == 0)&&(aK a.other.sym.t ⟨#[]⟩&&((a.other.sym.n == 0)&&true)))):=rfl;simp only[hY,e1,e2,ht,e6,e7,ho,a1,this,wk,bV];simp
theorem zK{n:Nat}{b:Bool}(h:decide (((n:Nat):Int)>0)=b):decide (0<n)=b:=by rw[<- h];simp
theorem GH{n:Nat}{b:Bool}(h:(((n:Nat):Int) == 0)=b):decide (n=0)=b:=by
 rw[<- h,Bool.eq_iff_iff];simp
theorem GG{n:Nat}{b:Bool}(h:decide (((n:Nat):Int)>4)=b):decide (4<n)=b:=by
 rw[<- h,Bool.eq_iff_iff];simp;omega
theorem aaD(c:ae)(deep:Int)(hl:cU c):Pure prog 208 [.agg c.pv,pI deep] (pI (bn c deep)):=by
 obtain⟨_,ha,hv,Jk,Ox,_⟩:=(bF c).1 hl;rw[ae.cG];refine av.of (Gn.c ?_);have e3:c.kind == 3->c.kind=3:=λh=>by simpa using h
 refine⟨λ_ _=>(c.kind == 3)=false/\((c.kind == 1)||(c.kind == 2))=true,?_,?_⟩
 ·refine ab.mk (λh3=>?_) (λh3=>?_)
  ·refine ab.mk (λh=>?_) (λh=>ab.mk (λh1=>?_) (λh1=>ab.mk (λh2=>?_) (λh2=>ab.mk (λh4=>?_) (λh4=>ab.mk (λh5=>?_) (λh5=>ab.mk (λh6=>?_) (λh6=>ab.mk (λh7=>?_) (λh7=>?_)))))))
   ·simp[bn,h3,h,wk,bV]
   ·simp[bn,h3,nb h1,wk,bV]
   ·rw[length_map]at h2;simp only[bn,h3,zK h2,wk,bV];simp
   ·rw[length_map]at h4;simp only[bn,h3,zK h4,wk,bV];simp
   ·simp[bn,h3,h5,wk,bV]
   ·rw[length_map]at h6;simp only[bn,h3,GH h6,wk,bV];simp
   ·rw[length_map]at h2 h4 h6;have:decide (3<=deep)=true:=h7;simp only[bn,h3,h,nt h1,zK h2,zK h4,h5,GH h6,this,wk,bV];rfl
   ·rw[length_map]at h2 h4 h6;have:decide (3<=deep)=false:=h7;simp only[bn,h3,h,nt h1,zK h2,zK h4,h5,GH h6,this,wk,bV];rfl
  ·refine ab.mk (λh1=>ab.mk (λh2=>⟨h3,by simp[h1]⟩) (λh2=>by rw[h1]at h2;cases h2)) (λh1=>ab.mk (λh2=>⟨h3,by simp[h2]⟩) (λh2=>?_));simp[bn,h3,h1,h2,wk,bV]
 ·rintro _ u ⟨h3,lS⟩;refine ab.mk (λh=>?_) (λh=>(Ej c.id).call ⟨_,rfl,ab.mk (λh1=>?_) (λh1=>ab.mk (λh2=>?_) (λh2=>ab.mk (λh4=>?_) (λh4=>ab.mk (λh5=>?_) (λh5=>(SW .sh c.attr (by omega) (cS Jk)).call ⟨_,rfl,ab.mk (λh6=>?_) (λh6=>(SW .sh c.value (by omega) (cS Ox)).call ⟨_,rfl,ab.mk (λh7=>?_) (λh7=>?_)⟩)⟩))))⟩)
  ·rw[length_map]at h;simp only[bn,h3,lS,zK h,wk,bV];rfl
  ·simp only[bn,h3,lS,nb h1,wk,bV];simp
  ·rw[length_map]at h2;simp only[bn,h3,lS,GH h2,wk,bV];simp
  all_goals rw[length_map]at h h2 h4
  ·simp only[bn,h3,lS,zK h,nt h1,GH h2,GG h4,wk,bV];simp
  all_goals rw[length_map]at h5
  ·simp only[bn,h3,lS,zK h,nt h1,GH h2,GG h4,GG h5,wk,bV];simp
  ·simp only[bn,h3,lS,zK h,nt h1,GH h2,GG h4,GG h5,nb h6,wk,bV];simp
  ·simp only[bn,h3,lS,zK h,nt h1,GH h2,GG h4,GG h5,nt h6,nb h7,wk,bV];simp
  ·simp only[bn,h3,lS,zK h,nt h1,GH h2,GG h4,GG h5,nt h6,nt h7,wk,bV];simp
theorem OY(c:ae)(deep:Int)(hl:cU c):Pure prog 139 [.agg c.pv,pI deep] (pI (bn c deep)):=by
 obtain⟨_,ha,hv,Jk,Ox,_⟩:=(bF c).1 hl;rw[ae.cG];refine av.of (uo.c ?_);refine ab.mk (λk1=>?_) (λk1=>ab.mk (λk2=>?_) (λk2=>ab.mk (λh3=>?_) (λh3=>?_)))
 ·have a1:(c.kind == 3)=false:=by simp at k1 |-;omega
  have a2:((c.kind == 1)||(c.kind == 2))=false:=by simp at k1 |-;omega
  simp only[bn,a1,a2,wk,bV];rfl
 ·have a1:(c.kind == 3)=false:=by simp at k2 |-;omega
  have a2:((c.kind == 1)||(c.kind == 2))=false:=by simp at k2 |-;omega
  simp only[bn,a1,a2,wk,bV];rfl
 ·refine ab.mk (λh=>?_) (λh=>ab.mk (λh1=>?_) (λh1=>ab.mk (λh2=>?_) (λh2=>ab.mk (λh4=>?_) (λh4=>ab.mk (λh5=>?_) (λh5=>ab.mk (λh6=>?_) (λh6=>ab.mk (λh7=>?_) (λh7=>?_)))))))
  ·simp[bn,h3,h,wk,bV]
  ·simp[bn,h3,nb h1,wk,bV]
  ·rw[length_map]at h2;simp only[bn,h3,zK h2,wk,bV];simp
  ·rw[length_map]at h4;simp only[bn,h3,zK h4,wk,bV];simp
  ·simp[bn,h3,h5,wk,bV]
  ·rw[length_map]at h6;simp only[bn,h3,GH h6,wk,bV];simp
  ·rw[length_map]at h2 h4 h6;have:decide (3<=deep)=true:=h7;simp only[bn,h3,h,nt h1,zK h2,zK h4,h5,GH h6,this,wk,bV];rfl
  ·rw[length_map]at h2 h4 h6;have:decide (3<=deep)=false:=h7;simp only[bn,h3,h,nt h1,zK h2,zK h4,h5,GH h6,this,wk,bV];rfl
 ·have lS:((c.kind == 1)||(c.kind == 2))=true:=by simp at k1 k2 h3 |-;omega
  refine ab.mk (λh=>?_) (λh=>(qS c.id).call ⟨_,rfl,ab.mk (λh1=>?_) (λh1=>ab.mk (λh2=>?_) (λh2=>ab.mk (λh4=>?_) (λh4=>ab.mk (λh5=>?_) (λh5=>(Ek .sh c.attr (by omega) (cS Jk)).call ⟨_,rfl,ab.mk (λh6=>?_) (λh6=>(Ek .sh c.value (by omega) (cS Ox)).call ⟨_,rfl,ab.mk (λh7=>?_) (λh7=>?_)⟩)⟩))))⟩)
  ·rw[length_map]at h;simp only[bn,h3,lS,zK h,wk,bV];rfl
  ·simp only[bn,h3,lS,nb h1,wk,bV];simp
  ·rw[length_map]at h2;simp only[bn,h3,lS,GH h2,wk,bV];simp
  all_goals rw[length_map]at h h2 h4
  ·simp only[bn,h3,lS,zK h,nt h1,GH h2,GG h4,wk,bV];simp
  all_goals rw[length_map]at h5
  ·simp only[bn,h3,lS,zK h,nt h1,GH h2,GG h4,GG h5,wk,bV];simp
  ·simp only[bn,h3,lS,zK h,nt h1,GH h2,GG h4,GG h5,nb h6,wk,bV];simp
  ·simp only[bn,h3,lS,zK h,nt h1,GH h2,GG h4,GG h5,nt h6,nb h7,wk,bV];simp
  ·simp only[bn,h3,lS,zK h,nt h1,GH h2,GG h4,GG h5,nt h6,nt h7,wk,bV];simp
theorem qT:∀(n:Nat) (fl:Fl) (l:List ae),ah l<=n->ah l<=1000000->Pure prog 37 [.list 7 fl (l.map ae.pv)] (pI (ah l:Nat)):=by
 intro n;induction n with
 |zero=>
  intro fl l h _;have:l=[]:=by
   cases l with
   |nil=>rfl
   |cons c l=>simp[ah,bN]at h
  subst this;refine av.of (ma.c ?_);exact ao.dG (n:=0) (by omega) (λk x u=>x=0) rfl (λk x u next hk=>by omega) (λx u next hx=>by subst hx;exact ab.f (by simp) rfl)
 |succ n ih=>
  intro fl l h h6;refine av.of (ma.c ?_);have sF:=c_ l;refine ao.dG (n:=l.length) (by omega) (λk x u=>x=((ah (l.take k):Nat):Int)) (by simp[ah]) ?_ ?_
  ·rintro k _ u next hk rfl aw
   have hm:=et (getElem_mem hk);have hs:=jO l (k+1);rw[eK hk]at hs;refine ab.t (by simpa using hk) ⟨by omega,_,aH hk,.sh,l[k].conds.map ae.pv,by rw[ae.cG];rfl,(ih .sh l[k].conds (by omega) (by omega)).call ⟨_,rfl,?_⟩⟩;dsimp only;rw[aC (x:=(1:Int)+_) (by omega) (by omega),aC (x:=((ah (l.take k):Nat):Int)+_) (by omega) (by omega)];exact aw _ _ (by rw[eK hk];omega)
  ·rintro _ u next rfl
   refine ab.f (by simp) ?_;rw[take_length];rfl
def tT(l:List ae)(a d:Nat):PV:=match cR (cQ l a d)with
 |some (x,e)=>.aA [pI (x:Nat),pI e]
 |none=>.aA [pI (-1),pI 0]
theorem OX:∀(n:Nat) (fl:Fl) (l:List ae) (a d:Nat),ah l<=n->bW l->a+ah l<=1000000->d+ah l<=1000000->Pure prog 85 [.list 7 fl (l.map ae.pv),pI (a:Nat),pI (d:Nat)] (tT l a d):=by
 intro n;induction n with
 |zero=>
  intro fl l a d h _ _ _;have:l=[]:=by
   cases l with
   |nil=>rfl
   |cons c l=>simp[ah,bN]at h
  subst this;refine av.of (kP.c ?_);exact ao.dG (n:=0) (by omega) (λk x u=>True) trivial (λk x u next hk=>by omega) (λx u next hx=>ab.f (by simp) rfl)
 |succ n ih=>
  intro fl l a d h bG ha hd;refine av.of (kP.c ?_);have sF:=c_ l;refine ao.dG (n:=l.length) (by omega) (λk x u=>x=((a+ah (l.take k):Nat):Int)/\cR (cQ (l.take k) a d)=none) ⟨by simp[ah],rfl⟩ ?_ ?_
  ·rintro k _ u next hk ⟨rfl,hf⟩ aw
   have hm:=et (getElem_mem hk);have hs:=jO l (k+1);rw[eK hk]at hs;have Fu:=b_.1 bG _ (getElem_mem hk);have fS:=LU hk a d;refine ab.t (by simpa using hk) ⟨by omega,_,aH hk,_,_,_,_,_,_,_,_,_,_,by rw[ae.cG];rfl,?_⟩;have hc:=OY l[k] d Fu;rw[ae.cG]at hc;refine hc.call ⟨_,rfl,ab.mk (λh1=>?_) (λh1=>?_)⟩
   ·have h1:(bn l[k] d == 0)=false:=by simpa using h1
    have:cR (cQ l a d)=some (a+ah (l.take k),bn l[k] d):=by
     rw[fS,append_assoc,fO,hf,Option.none_or,cons_append,cR,h1];rfl
    simp only[tT,this];rfl
   ·have h1:(bn l[k] d == 0)=true:=by simpa using h1
    refine⟨by omega,_,aH hk,.sh,l[k].conds.map ae.pv,by rw[ae.cG];rfl,?_⟩;have ihk:=ih .sh l[k].conds (a+ah (l.take k)+1) (d+1) (by omega) ((bF _).1 Fu).2.2.2.2.2 (by omega) (by omega);rw[aC (by omega) (by omega),aC (by omega) (by omega)];refine ihk.call ?_;cases Xz:cR (cQ l[k].conds (a+ah (l.take k)+1) (d+1))with
    |some r=>
     obtain⟨x,e⟩:=r;have aZ:=nR Xz;have:cR (cQ l a d)=some (x,e):=by
      rw[fS,append_assoc,fO,hf,Option.none_or,cons_append,cR,h1,cond_true,fO,Xz];rfl
     simp only[tT,Xz,this];exact⟨_,_,rfl,ab.t (by simpa using aZ) rfl⟩
    |none=>
     simp only[tT,Xz];refine⟨_,_,rfl,ab.f rfl ⟨by omega,_,aH hk,.sh,l[k].conds.map ae.pv,by rw[ae.cG];rfl,(qT _ .sh l[k].conds (le_refl _) (by omega)).call ⟨_,rfl,?_⟩⟩⟩;rw[aC (x:=(1:Int)+_) (by omega) (by omega),aC (x:=((a+ah (l.take k):Nat):Int)+_) (by omega) (by omega)];refine aw _ _ ⟨by rw[eK hk];omega,?_⟩;rw[Dx hk,fO,hf,Option.none_or,cR,h1,cond_true];exact Xz
  ·rintro _ u next ⟨rfl,hf⟩
   refine ab.f (by simp) ?_;rw[take_length]at hf;simp only[tT,hf];rfl
theorem MN(fy:Fn)(ya yb:List PV)(hy:Bq fy True)(I:Nat->Mem->Prop)(S:Mem->Prop):∀(n:Nat) (fl:Fl) (l:List ae) (a d j:Nat) (μ:Mem),ah l<=n->a+ah l<=1000000->d+ah l<=1000000->I j μ->
  (∀(k:Nat) (x:Nat×Nat×ae) (μ:Mem),(cQ l a d)[k]?=some x->I (j+k) μ->bJ prog (.fn fy ya yb) [pI (x.1:Nat),pI (x.2.1:Nat),.agg x.2.2.pv] μ λv μ'=>(v=pB true/\I (j+k+1) μ')\/(v=pB false/\S μ'))->
  aa prog 164 [.list 7 fl (l.map ae.pv),pI (a:Nat),pI (d:Nat),.fn fy ya yb] μ λp μ'=>(p=.aA [pI ((a+ah l:Nat):Int),pB true]/\I (j+ah l) μ')\/∃x:Int,p=.aA [pI x,pB false]/\S μ':=by
 intro n;induction n with
 |zero=>
  intro fl l a d j μ h _ _ hI _;have:l=[]:=by
   cases l with
   |nil=>rfl
   |cons c l=>simp[ah,bN]at h
  subst this;refine vW.c ?_;exact ao.dG (n:=0) (by omega) (λk x u=>x=(a:Int)/\I j u) ⟨rfl,hI⟩ (λk x u next hk=>by omega) (λx u next hx=>by obtain⟨rfl,hx⟩:=hx;exact ab.f (by simp) (.inl ⟨rfl,hx⟩))
 |succ n ih=>
  intro fl l a d j μ h ha hd hI cO;refine vW.c ?_;have sF:=c_ l;refine ao.dG (n:=l.length) (by omega) (λk x u=>x=((a+ah (l.take k):Nat):Int)/\I (j+ah (l.take k)) u) ⟨by simp[ah],by simpa[ah]using hI⟩ ?_ ?_
  ·rintro k _ u next hk ⟨rfl,XI⟩ aw
   have hm:=et (getElem_mem hk);have hs:=jO l (k+1);rw[eK hk]at hs;have fS:=LU hk a d;have pJ:=nE (l.take k) a d;refine ab.t (by simpa using hk) ⟨by omega,_,aH hk,_,_,_,_,_,_,_,_,_,_,by rw[ae.cG];rfl,?_⟩
   have h0:=cO (ah (l.take k)) (a+ah (l.take k),d,l[k]) u (by
    rw[fS,append_assoc,List.getElem?_append_right (by omega),pJ];simp) XI
   rw[ae.cG]at h0;refine h0.mono ?_;rintro v μ1 (⟨rfl,lu⟩|⟨rfl,hS⟩)
   ·refine⟨_,rfl,ab.f rfl ?_⟩;rw[aC (by omega) (by omega),aC (by omega) (by omega)]
    have ihk:=ih .sh l[k].conds (a+ah (l.take k)+1) (d+1) (j+ah (l.take k)+1) μ1 (by omega) (by omega) (by omega) lu (λk' x μ' hx dK=>by
     have hlen:=nE l[k].conds (a+ah (l.take k)+1) (d+1)
     have cj:k'<ah l[k].conds:=by rw[<- hlen];exact(List.getElem?_eq_some_iff.1 hx).1
     have:=cO (ah (l.take k)+1+k') x μ' (by
      rw[fS,append_assoc,List.getElem?_append_right (by omega),pJ]
      have:ah (l.take k)+1+k'-ah (l.take k)=k'+1:=by omega
      rw[this,cons_append,List.getElem?_cons_succ,List.getElem?_append_left (by omega)]
      exact hx) (by rw[<- add_assoc,<- add_assoc];exact dK)
     rw[<- add_assoc,<- add_assoc]at this
     exact this)
    refine aa.mono ihk ?_;rintro v μ2 (⟨rfl,yG⟩|⟨x,rfl,hS⟩)
    ·refine⟨_,_,rfl,ab.f rfl (aw _ _ ⟨by rw[eK hk];omega,?_⟩)⟩;rw[eK hk,<- add_assoc,<- add_assoc];exact yG
    ·exact⟨_,_,rfl,ab.t rfl (.inr ⟨x,rfl,hS⟩)⟩
   ·exact⟨_,rfl,ab.t rfl (.inr ⟨_,rfl,hS⟩)⟩
  ·rintro _ u next ⟨rfl,XI⟩
   refine ab.f (by simp) (.inl ?_);rw[take_length]at XI |-;exact⟨rfl,XI⟩
theorem kV{μ:Mem}{b:Nat}{T:TypeId}{p:PV}(h:μ b=some (.cells T [p])):ay μ b 0 1=some [p]:=by simp[ay,h]
theorem Jp{μ:Mem}{b:Nat}{T:TypeId}{p q:PV}:(μ.set b (some (.cells T (dy [p] 0 [q])))) b=some (.cells T [q]):=by simp[dy]
theorem JQ{μ:Mem}{b:Nat}{T:TypeId}{p q:PV}:ay (μ.set b (some (.cells T (dy [p] 0 [q])))) b 0 1=some [q]:=kV Jp
@[reducible] def Xa(x:Int×Int):PV:=.aA [pI x.1,pI x.2]
theorem IQ{l:List cN}{body:(Int->Mem->Prop)->Int->Mem->Prop}{u:Mem}{A:Mem->Prop}(hl:l.length<=1000000)(h0:A u)
  (fT:∀(k:Nat) (hk:k<l.length) (u:Mem) (next:Int->Mem->Prop),A u->(hY l[k]=true->∀u',A u'->next (wrap .i64 ((k:Int)+1)) u')->(hY l[k]=false->gq 0 l=some k)->body next (k:Int) u)
  (fL:∀(u:Mem) (next:Int->Mem->Prop),A u->gq 0 l=none->body next (l.length:Int) u):ao body 0 u:=by
 refine ao.each (n:=l.length) (by omega) (λk u=>A u/\gq 0 (l.take k)=none) ⟨h0,rfl⟩ ?_ ?_
 ·rintro k u next hk ⟨hA,hf⟩ aw
  exact fT k hk u next hA (λha u' yH=>aw u' ⟨yH,by rw[Iw hk hf,ha];rfl⟩) (λha=>by have:=KG hk hf ha;simpa using this)
 ·rintro u next ⟨hA,hf⟩
  rw[take_length]at hf;exact fL u next hA hf
theorem OW(fc fa:Fl)(p:Prod)(hl:bW p.conds)(hs:ah p.conds<=1000000)(ha:p.bh.length<=1000000):Pure prog 35 [.agg [pS p.name,.list 7 fc (p.conds.map ae.pv),.list 19 fa (p.bh.map cN.pv)]] (Xa (cJ p)):=by
 refine av.of (si.c ?_);refine(qS p.name).call ⟨_,rfl,ab.mk (λh1=>?_) (λh1=>(qT _ fc p.conds (le_refl _) hs).call ⟨_,rfl,ab.mk (λh2=>?_) (λh2=>ab.mk (λh3=>?_) (λh3=>ab.mk (λh4=>?_) (λh4=>ab.mk (λh5=>?_) (λh5=>?_))))⟩)⟩
 ·simp[cJ,nb h1,wk,bV,yX]
 all_goals have e1:eP p.name=true:=nt h1
 ·have:ah p.conds<1:=by have:=of_decide_eq_true h2;omega
  simp[cJ,e1,this,wk,bV,yX]
 ·have:16<ah p.conds:=by simp at h3;omega
  simp[cJ,e1,this,wk,bV,yX]
 ·have:p.bh.length<1:=by have:=of_decide_eq_true h4;simp only[length_map]at this;omega
  simp[cJ,e1,this,wk,bV,yX]
 ·have:16<p.bh.length:=by simp at h5;omega
  simp[cJ,e1,this,wk,bV,yX]
 ·have e2:¬ah p.conds<1:=by have:=of_decide_eq_false h2;omega
  have e3:¬16<ah p.conds:=by simp at h3;omega
  have e4:¬p.bh.length<1:=by have:=of_decide_eq_false h4;simp only[length_map]at this;omega
  have e5:¬16<p.bh.length:=by simp at h5;omega
  refine(OX _ fc p.conds 0 0 (le_refl _) hl (by omega) (by omega)).call ?_;have PA:cJ p=jt p:=by simp[cJ,e1,e2,e3,e4,e5]
  cases hf:cR (cQ p.conds 0 0)with
  |some r=>
   obtain⟨x,e⟩:=r;have aZ:=nR hf;simp only[tT,hf];refine⟨_,_,rfl,ab.t (by simpa using aZ) ?_⟩;rw[PA,Hd hf];rfl
  |none=>
   simp only[tT,hf];refine⟨_,_,rfl,ab.f rfl ?_⟩;refine IQ (l:=p.bh) (A:=λ_=>True) ha trivial (λk hk u next _ hy dc=>?_) (λu next _ hfa=>?_)
   ·refine ab.t (by simpa using hk) ⟨by omega,_,aH hk,_,_,_,_,_,_,_,_,_,_,_,_,_,_,_,_,_,_,_,rfl,(Wj p.bh[k]).call ⟨_,rfl,ab.mk (λa=>?_) (λa=>hy (nt a) _ trivial)⟩⟩;rw[PA,He hf (dc (nb a)),aC (by omega) (by omega)];simp[wk,bV,yX]
   ·refine ab.f (by simp) ?_;rw[PA,Dn hf hfa];rfl
theorem aan(fc fa:Fl)(p:Prod)(hl:bW p.conds)(hs:ah p.conds<=1000000)(ha:p.bh.length<=1000000):Pure prog 157 [.agg [pS p.name,.list 7 fc (p.conds.map ae.pv),.list 19 fa (p.bh.map cN.pv)]] (Xa (cJ p)):=by
 refine av.of (CV.c ?_);refine(Ej p.name).call ⟨_,rfl,ab.mk (λh1=>?_) (λh1=>?_)⟩
 ·simp[cJ,nb h1,wk,bV,yX]
 have e1:eP p.name=true:=nt h1;intro b4 GC;refine⟨_,_,Mem.an _ _ _,by simp,?_⟩;rw[Mem.set_set];have pJ:=nE p.conds 0 0;refine aa.mono (MN (.func 206) [] [pP b4 0] trivial (λk μ=>μ b4=some (.cells 3 [pI (k:Nat)])/\k<=16) (λμ=>μ b4=some (.cells 3 [pI 17])/\16<ah p.conds) _ fc p.conds 0 0 0 _ (le_refl _) (by omega) (by omega) ⟨by simp[Mem.an,dy],by omega⟩ (λk x μ hx hI=>?_)) ?_
 ·rw[zero_add]at hI |-;have Fm:=th _ _ _ _ _ hx;have hk:k<ah p.conds:=by rw[<- pJ];exact(List.getElem?_eq_some_iff.1 hx).1
  show aa _ _ _ _ _;rw[ae.cG];refine zj.c ?_;refine⟨_,_,hI.1,by simp,_,JQ,?_⟩;rw[Fm,zero_add,aC (by omega) (by omega)];by_cases h16:k+1<=16
  ·exact .inl ⟨by simp;omega,by rw[Jp];rfl,h16⟩
  ·have:k=16:=by omega
   subst this;exact .inr ⟨by simp,by rw[Jp];rfl,hk⟩
 rintro v μ1 hv;have ag0:∃(x:Int) (q:Bool) (m:Nat),v=.aA [pI x,pB q]/\μ1 b4=some (.cells 3 [pI (m:Nat)])/\(m<=16->m=ah p.conds)/\(16<m->16<ah p.conds):=by
  rcases hv with⟨rfl,h1,h2⟩|⟨x,rfl,h1,h2⟩
  ·rw[zero_add]at h1 h2;exact⟨_,_,_,rfl,h1,λ_=>rfl,λh=>by omega⟩
  ·exact⟨_,_,17,rfl,h1,λh=>by omega,λ_=>h2⟩
 obtain⟨x,q,m,rfl,yC,rH,Xr⟩:=ag0;refine⟨_,_,rfl,_,kV yC,ab.mk (λh2=>?_) (λh2=>⟨_,kV yC,ab.mk (λh3=>?_) (λh3=>ab.mk (λh4=>?_) (λh4=>ab.mk (λh5=>?_) (λh5=>?_)))⟩)⟩
 ·have:ah p.conds<1:=by have:=of_decide_eq_true h2;have:=rH (by omega);omega
  simp[cJ,e1,this,wk,bV,yX]
 ·have:16<ah p.conds:=Xr (by simp at h3;omega);simp[cJ,e1,this,wk,bV,yX]
 ·have:p.bh.length<1:=by have:=of_decide_eq_true h4;simp only[length_map]at this;omega
  simp[cJ,e1,this,wk,bV,yX]
 ·have:16<p.bh.length:=by simp at h5;omega
  simp[cJ,e1,this,wk,bV,yX]
 have yB:m=ah p.conds:=rH (by simp at h3;omega);subst yB;have e2:¬ah p.conds<1:=by have:=of_decide_eq_false h2;omega
 have e3:¬16<ah p.conds:=by simp at h3;omega
 have e4:¬p.bh.length<1:=by have:=of_decide_eq_false h4;simp only[length_map]at this;omega
 have e5:¬16<p.bh.length:=by simp at h5;omega
 have PA:cJ p=jt p:=by simp[cJ,e1,e2,e3,e4,e5]
 intro b5 XD b6 CI;have n54:b5≠b4:=by rintro rfl;rw[yC]at XD;cases XD
 have YU:b6≠b5:=by rintro rfl;rw[Mem.an]at CI;cases CI
 have n64:b6≠b4:=by rintro rfl;rw[Mem.ax _ _ (Ne.symm n54)]at CI;rw[yC]at CI;cases CI
 refine⟨_,_,by rw[Mem.ax _ _ (Ne.symm YU)];exact Mem.an _ _ _,by simp,?_⟩;refine⟨_,_,by rw[Mem.ax _ _ YU];exact Mem.an _ _ _,by simp,?_⟩
 refine aa.mono (MN (.func 207) [] [pP b6 0,pP b5 0] trivial (λk μ=>μ b4=some (.cells 3 [pI (ah p.conds:Nat)])/\μ b5=some (.cells 3 [pI (-1)])/\μ b6=some (.cells 30 [pI 0])/\cR ((cQ p.conds 0 0).take k)=none)
  (λμ=>∃a e,μ b5=some (.cells 3 [pI (a:Nat)])/\μ b6=some (.cells 30 [pI e])/\cR (cQ p.conds 0 0)=some (a,e)) _ fc p.conds 0 0 0 _ (le_refl _) (by omega) (by omega) ?_ (λk x μ hx hI=>?_)) ?_
 ·refine⟨?_,?_,by simp[dy],rfl⟩
  ·rw[Mem.ax _ _ (Ne.symm n64),Mem.ax _ _ (Ne.symm n54),Mem.ax _ _ (Ne.symm n64),Mem.ax _ _ (Ne.symm n54)];exact yC
  ·rw[Mem.ax _ _ (Ne.symm YU),Mem.an];simp[dy]
 ·rw[zero_add]at hI |-;obtain⟨i4,i5,i6,VO⟩:=hI;have hlx:=tC _ _ _ x hl (List.mem_of_getElem? hx);have gX:=Iu hx VO;show aa _ _ _ _ _;have hc:=aaD x.2.2 x.2.1 hlx;rw[ae.cG]at hc |-;refine zi.c (hc.call ⟨_,rfl,_,_,i6,by simp,_,JQ,ab.mk (λh=>?_) (λh=>?_)⟩)
  ·have aZ:(bn x.2.2 x.2.1 == 0)=false:=by simpa using h
   refine⟨_,_,by rw[Mem.ax _ _ (Ne.symm YU)];exact i5,by simp,_,kV (by rw[Mem.ax _ _ YU];exact Jp),.inr ⟨by rw[aZ],x.1,bn x.2.2 x.2.1,?_,?_,?_⟩⟩
   ·exact Jp
   ·rw[Mem.ax _ _ YU];exact Jp
   ·rw[aZ]at gX;exact Iv gX
  ·have he:(bn x.2.2 x.2.1 == 0)=true:=by simpa using h
   have PJ:bn x.2.2 x.2.1=0:=by simpa using he
   refine⟨_,JQ,.inl ⟨by rw[he],?_,?_,?_,?_⟩⟩
   ·rw[Mem.ax _ _ (Ne.symm n64)];exact i4
   ·rw[Mem.ax _ _ (Ne.symm YU)];exact i5
   ·rw[Jp,PJ]
   ·rw[gX,he];rfl
 rintro v μ2 hv;rcases hv with⟨rfl,i4,i5,i6,VO⟩|⟨x,rfl,a,e,i5,i6,Xz⟩
 ·rw[zero_add,<- pJ,take_length]at VO;refine⟨_,_,rfl,_,kV i6,ab.f rfl ?_⟩;refine IQ (l:=p.bh) (A:=λμ=>μ b4=some (.cells 3 [pI (ah p.conds:Nat)])) ha i4 (λk hk u next hA hy dc=>?_) (λu next _ hf=>?_)
  ·refine ab.t (by simpa using hk) ⟨by omega,_,aH hk,_,_,_,_,_,_,_,_,_,_,_,_,_,_,_,_,_,_,_,rfl,(aiF p.bh[k]).call ⟨_,rfl,ab.mk (λa=>⟨_,kV hA,?_⟩) (λa=>hy (nt a) _ hA)⟩⟩;rw[PA,He VO (dc (nb a)),aC (by omega) (by omega)];simp[wk,bV,yX]
  ·refine ab.f (by simp) ?_;rw[PA,Dn VO hf];rfl
 ·have aZ:=nR Xz;refine⟨_,_,rfl,_,kV i6,ab.t (by simpa using aZ) ⟨_,kV i5,_,kV i6,?_⟩⟩;rw[PA,Hd Xz];rfl
namespace K6
def Jz(fl:Fl):List Nat:=match fl with| .nz b _=>[b]|_=>[]
abbrev rq:TypeId:=294
abbrev GO:TypeId:=9
def vT(μ:Mem)(p:PV)(row:List ByteArray)(F:List Nat):Prop:=(p=.list 1 .nil []/\row=[]/\F=[])\/vU GO 1 μ p (cm row) F
theorem vT.at_{μ:Mem}{p:PV}{row:List ByteArray}{F:List Nat}(h:vT μ p row F):∀x∈F,μ x≠none:=by
 rcases h with⟨_,_,rfl⟩|h
 ·intro x hx;cases hx
 ·exact h.at_
theorem vT.same{μ μ':Mem}{p:PV}{row:List ByteArray}{F:List Nat}(h:vT μ p row F)(hk:∀x∈F,μ' x=μ x):vT μ' p row F:=by
 rcases h with h|h
 ·exact .inl h
 ·exact .inr (h.same hk)
theorem vT.view{μ:Mem}{p:PV}{row:List ByteArray}{F:List Nat}(h:vT μ p row F):gf μ p (.list 1 .sh (cm row)):=by
 rcases h with⟨rfl,rfl,_⟩|h
 ·exact .wk (.list 1 .nil [])
 ·exact h.view (cP _) (ju _)
structure jh(μ:Mem)(k:Nat)(K row:List ByteArray)(F:List Nat):Prop where
 ex:∃b L p Fs Fr,μ k=some (.cells rq [pP b 0,p])/\BP μ b L Fs/\Up bE L/\(∀y,y∈L↔y∈K)/\L.length<=K.length/\vT μ p row Fr/\k∉Fs/\(∀x∈Fr,x≠k/\x∉Fs)/\F=k::(Fs++Fr)
 row:row.length<=K.length
theorem jh.at_{μ:Mem}{k:Nat}{K row:List ByteArray}{F:List Nat}(h:jh μ k K row F):∀x∈F,μ x≠none:=by
 obtain⟨b,L,p,Fs,Fr,h1,h2,_,_,_,h3,_,_,rfl⟩:=h.ex;intro x hx;simp only[mem_cons,mem_append]at hx;rcases hx with rfl|hx|hx
 ·rw[h1];simp
 ·exact h2.at_.2 x hx
 ·exact h3.at_ x hx
theorem jh.same{μ μ':Mem}{k:Nat}{K row:List ByteArray}{F:List Nat}(h:jh μ k K row F)(hk:∀x∈F,μ' x=μ x):jh μ' k K row F:=by
 obtain⟨b,L,p,Fs,Fr,h1,h2,h3,h4,h5,h6,h7,h8,rfl⟩:=h.ex;exact⟨⟨b,L,p,Fs,Fr,by rw[hk k (by simp)];exact h1,h2.same λx hx=>hk x (by simp[hx]),h3,h4,h5,h6.same λx hx=>hk x (by simp[hx]),h7,h8,rfl⟩,h.row⟩
theorem jh.raw{μ:Mem}{k:Nat}{K row:List ByteArray}{F:List Nat}(h:jh μ k K row F):∃μ',GU μ μ'/\Mv μ μ' F F/\∃b L p Fs Fr,μ' k=some (.cells rq [pP b 0,p])/\BP μ' b L Fs/\Up bE L/\(∀y,y∈L↔y∈K)/\L.length<=K.length/\vU GO 1 μ' p (cm row) Fr/\k∉Fs/\(∀x∈Fr,x≠k/\x∉Fs)/\F=k::(Fs++Fr):=by
 obtain⟨b,L,p,Fs,Fr,h1,h2,h3,h4,h5,h6,h7,h8,rfl⟩:=h.ex;rcases h6 with⟨rfl,rfl,rfl⟩|h6
 ·refine⟨μ.set k (some (.cells rq [pP b 0,.raw (.slice none 0 0)])),GU.bor (μ1:=M0) (λ_ _ h=>by cases h) λx o hx=>⟨rfl,?_⟩,(Mv.set (.inl (by simp))).sub (by simp),b,L,_,Fs,[],Mem.an _ _ _,h2.same λx hx=>Mem.ax _ _ (λe=>h7 (e▸hx)),h3,h4,h5,.inl ⟨rfl,rfl,rfl⟩,h7,h8,rfl⟩;by_cases e:x=k
  ·subst e;rw[Mem.an]at hx;cases hx;exact .inr ⟨rq,_,_,rfl,h1,dI.cons (.same _) (dI.cons (.nil 1 []) (dI.nil _))⟩
  ·rw[Mem.ax _ _ e]at hx;exact .inl hx
 ·exact⟨μ,GU.refl μ,Mv.refl _ _,b,L,p,Fs,Fr,h1,h2,h3,h4,h5,h6,h7,h8,rfl⟩
theorem Tg{μ:Mem}{k:Nat}{K row:List ByteArray}{F:List Nat}(h:jh μ k K row F)(hl:K.length<=100000)(v:ByteArray){R:Kq}(hk:∀μ' F',jh μ' k (K++pF K v) (row++pF K v) F'->Mv μ μ' F F'->R (.aA []) μ'):aa prog 250 [pP k 0,pS v] μ R:=by
 have dS:=h.row;obtain⟨μ0,hG,Xs,b,L,p,Fs,Fr,h1,h2,h3,h4,h5,h6,h7,h8,rfl⟩:=h.raw;refine aa.pre hG (vY.c ?_);refine⟨_,aI h1 (by simp),fV h2 h3 (by omega) v λμ1 L1 F1 t ht i1 i2 i3 i4 i5=>⟨_,rfl,?_⟩⟩;have hkF:μ1 k=μ0 k:=i5.cu k (by rw[h1];simp) h7;have hFr:∀x∈Fr,μ1 x=μ0 x:=λx hx=>i5.cu x (h6.at_ x hx) (h8 x hx).2;have h6':=h6.same hFr;have GF:=hkF.trans h1;have ZC:k∉F1:=λhm=>(i5.grow k hm).elim h7 λe=>by rw[h1]at e;cases e
 have Zl:∀x∈Fr,x∉F1:=λx hx hm=>(i5.grow x hm).elim (h8 x hx).2 (h6.at_ x hx);have yC:Mv μ0 μ1 (k::(Fs++Fr)) (k::(F1++Fr)):=by
  refine(i5.wide (G:=k::(Fs++Fr)) λx hx=>by simp[hx]).sub λx hx=>?_;simp only[mem_cons,mem_append]at hx |-;rcases hx with h|h|h
  ·exact .inr (.inl h)
  ·exact .inl h
  ·exact .inr (.inr (.inr h))
 refine ab.mk (λe=>?_) (λe=>?_)
 ·have hn:v∉K:=λhv=>ht.1 e ((h4 v).2 hv);have hb:hasB K v=false:=by
   cases hb:hasB K v with
   |false=>rfl
   |true=>exact absurd (qI.1 hb) hn
  have jB:pF K v=[v]:=by unfold pF;rw[hb];rfl
  rw[jB]at hk;obtain⟨a,c,rfl,jf⟩:=h6'.app (cP row);refine⟨_,_,_,aI GF (by simp),?_⟩;simp only[da]at jf;rw[da];refine jf [pS v] 16 _ rfl rfl (by omega) (by omega) λb' c' rest μ2 je jm sH rH=>?_;have nk:b'≠k:=by
   rintro rfl;rcases rH.grow b' (by simp)with h|h
   ·exact(h8 b' h).1 rfl
   ·rw[GF]at h;cases h
  have nF:b'∉F1:=λhx=>by
   rcases rH.grow b' (by simp)with h|h
   ·exact Zl b' h hx
   ·exact i1.at_.2 b' hx h
  have eT:μ2 k=μ1 k:=rH.cu k (by rw[GF];simp) λhx=>(h8 k hx).1 rfl;refine⟨_,_,eT.trans GF,by simp,?_⟩;have hw:dy [pP b 0,.raw (.slice a (cm row).length c)] (0+1) [PV.raw (.slice (some ⟨b',0,none⟩) (row.length+1) c')]=[pP b 0,.raw (.slice (some ⟨b',0,none⟩) (row.length+1) c')]:=by simp[dy]
  rw[hw];have ahj:Mv μ1 μ2 (k::(F1++Fr)) (k::(F1++[b'])):=by
   refine(rH.wide (G:=k::(F1++Fr)) λx hx=>by simp[hx]).sub λx hx=>?_;simp only[mem_cons,mem_append,not_mem_nil,or_false]at hx |-;rcases hx with h|h|h
   ·exact .inr (.inl h)
   ·exact .inr (.inr (.inl h))
   ·exact .inl h
  refine hk _ (k::(F1++[b'])) ⟨⟨b,L1,_,F1,[b'],Mem.an _ _ _,i1.same λx hx=>?_,i2,λy=>?_,by rw[e]at i4;simp at i4 |-;omega,.inr (.inr ⟨b',c',rest,?_,rfl,?_,?_,?_⟩),ZC,λx hx=>?_,rfl⟩,by simp;omega⟩ (Xs.trans (yC.trans (ahj.trans ((Mv.set (.inl (by simp))).sub (by simp)))))
  ·rw[Mem.ax _ _ (show x≠k from λe=>ZC (e▸hx))];exact rH.cu x (i1.at_.2 x hx) λMp=>Zl x Mp hx
  ·rw[i3,h4];simp[or_comm]
  ·simp
  ·rw[Mem.ax _ _ nk,je];simp[cm]
  ·simpa using jm
  ·simpa using sH
  ·simp at hx;subst hx;exact⟨nk,nF⟩
 ·have hv:v∈K:=by
   refine Classical.byContradiction λhn=>?_;have:=ht.2 λhv=>hn ((h4 v).1 hv);rw[e]at this;cases this
  have jB:pF K v=[]:=by unfold pF;rw[qI.2 hv];rfl
  rw[jB,append_nil,append_nil]at hk;refine hk μ1 (k::(F1++Fr)) ⟨⟨b,L1,p,F1,Fr,GF,i1,i2,λy=>?_,?_,.inr h6',ZC,λx hx=>⟨(h8 x hx).1,Zl x hx⟩,rfl⟩,dS⟩ (Xs.trans yC)
  ·rw[i3,h4];exact⟨λh=>h.elim (λe=>e▸hv) id,.inr⟩
  ·rw[e]at i4;simp at i4;omega
theorem aay{μ:Mem}{k:Nat}{K row:List ByteArray}{F:List Nat}(h:jh μ k K row F)(hl:K.length<=100000)(v:ByteArray){R:Kq}(hk:R (pB (hasB K v)) μ):aa prog 213 [pP k 0,pS v] μ R:=by
 obtain⟨b,L,p,Fs,Fr,h1,h2,h3,h4,h5,h6,h7,h8,rfl⟩:=h.ex;refine vZ.c ?_;refine⟨_,aI h1 (by simp),qV h2 h3 (by omega) v λi t hf=>⟨_,_,rfl,?_⟩⟩;have:t=hasB K v:=by
  have e:t=true↔hasB K v=true:=by rw[hf.mem cy,h4,qI]
  exact Bool.eq_iff_iff.2 e
 rw[this];exact hk
theorem aaw{μ:Mem}{k:Nat}{K row:List ByteArray}{F:List Nat}(h:jh μ k K row F){R:Kq}(hk:∀μ' k2 F1 F2,jh μ' k K row F1->jh μ' k2 K [] F2->(∀x∈F2,x∉F1)->Mv μ μ' F (F1++F2)->R (pP k2 0) μ'):aa prog 211 [pP k 0] μ R:=by
 have pj:=h.at_;obtain⟨b,L,p,Fs,Fr,h1,h2,h3,h4,h5,h6,h7,h8,rfl⟩:=h.ex;refine rZ.c ?_;refine⟨_,aI h1 (by simp),aaE h2 λμ1 b2 ph aZ i1 i2 i3=>⟨_,rfl,λk2 eT=>?_⟩⟩;have hkF:μ1 k=μ k:=i3.cu k (by rw[h1];simp) h7;have jY:μ1 k≠none:=by rw[hkF,h1];simp
 have ac2:∀x∈Fr,μ1 x=μ x:=λx hx=>i3.cu x (pj x (by simp[hx])) (h8 x hx).2;have n1:∀x,μ1 x≠none->x≠k2:=λx hx e=>hx (e▸eT);have nb2:b2≠k:=by
  rintro rfl;rcases ph with h|h
  ·exact h7 h
  ·rw[h1]at h;cases h
 have hbk:b≠k:=by rintro rfl;exact h7 h2.at_.1
 have acG:∀x∈Fr,x≠b/\x≠b2:=λx hx=>⟨λe=>(h8 x hx).2 (e▸h2.at_.1),λe=>by
  subst e
  rcases ph with h|h
  ·exact(h8 x hx).2 h
  ·exact pj x (by simp[hx]) h⟩
 have ab_:∀x∈Fr,μ1 x≠none:=λx hx=>by rw[ac2 x hx];exact pj x (by simp[hx])
 refine hk _ k2 (k::([b]++Fr)) (k2::([b2]++[])) ⟨⟨b,L,p,[b],Fr,?_,i1.same λx hx=>?_,h3,h4,h5,h6.same λx hx=>?_,by simp[Ne.symm hbk],λx hx=>⟨(h8 x hx).1,by simp[(acG x hx).1]⟩,rfl⟩,h.row⟩ ⟨⟨b2,L,_,[b2],[],Mem.an _ _ _,i2.same λx hx=>?_,h3,h4,h5,.inl ⟨rfl,rfl,rfl⟩,?_,λx hx=>by simp at hx,rfl⟩,by simp⟩ (λx hx=>?_) ?_
 ·rw[Mem.ax _ _ (n1 k jY),hkF];exact h1
 ·exact Mem.ax _ _ (n1 x (i1.at_.2 x hx))
 ·rw[Mem.ax _ _ (n1 x (ab_ x hx))];exact ac2 x hx
 ·exact Mem.ax _ _ (n1 x (i2.at_.2 x hx))
 ·simp only[mem_singleton];rintro rfl;exact i2.at_.2 k2 (by simp) eT
 ·simp only[append_nil,mem_cons,not_mem_nil,or_false]at hx;intro Mp;simp only[mem_cons,mem_append,not_mem_nil,or_false]at Mp;rcases hx with rfl|rfl
  ·rcases Mp with e|e|e
   ·exact jY (e▸eT)
   ·exact i1.at_.2 x (by simp[e]) eT
   ·exact ab_ x e eT
  ·rcases Mp with e|e|e
   ·exact nb2 e
   ·exact aZ e
   ·exact(acG x e).2 rfl
 ·refine((i3.wide (G:=k::(Fs++Fr)) λx hx=>by simp[hx]).trans (Mv.set (.inr eT))).sub λx hx=>?_;simp only[append_nil,mem_cons,mem_append,not_mem_nil,or_false]at hx |-;rcases hx with(rfl|rfl|hx)|rfl|rfl
  ·simp
  ·simp
  ·simp[hx]
  ·simp
  ·simp
theorem Tm{μ:Mem}{k:Nat}{K row:List ByteArray}{F:List Nat}(h:jh μ k K row F)(fl:Fl)(ts:List Test)(hl:K.length+ts.length<=100000){R:Kq}
  (aG:∀μ' F' K' e,iI K ts=some K'->K'=K++e->e.length<=ts.length->jh μ' k K' (row++e) F'->Mv μ μ' F F'->R (pB true) μ') (dc:∀μ' F',iI K ts=none->Mv μ μ' F F'->R (pB false) μ'):aa prog 251 [pP k 0,.list 6 fl (ts.map Test.pv)] μ R:=by
 refine r_.c ?_;refine ao.each (n:=ts.length) (by omega) (λi u=>∃Ki e Fi,iI K (ts.take i)=some Ki/\Ki=K++e/\e.length<=i/\jh u k Ki (row++e) Fi/\Mv μ u F Fi) ⟨K,[],F,by simp[iI],by simp,by simp,by simpa using h,Mv.refl _ _⟩ ?_ ?_
 ·rintro i u next hi ⟨Ki,e,Fi,i1,rfl,i2,i3,i4⟩ aw
  have hlen:(K++e).length<=100000:=by rw[length_append];omega
  refine ab.t (by simpa using hi) ⟨by omega,_,aH hi,_,_,_,_,_,_,_,rfl,?_⟩;have hT:=w_ hi i1;have same:rT (K++e) ts[i]=some (K++e)->∀u',u'=u->next (wrap .i64 ((i:Int)+1)) u':=λhm u' gp=>by
   subst gp;exact aw _ ⟨K++e,e,Fi,by rw[hT,hm],rfl,by omega,i3,i4⟩
  refine ab.mk (λh8=>same (by simp[rT,h8]) _ rfl) (λh8=>ab.mk (λhv=>same (by simp[rT,hv]) _ rfl) (λhv=>ab.mk (λh1=>?_) (λh1=>?_)))
  ·refine Tg i3 hlen ts[i].var λμ' F' j1 j2=>⟨rfl,aw _ ⟨K++(e++pF (K++e) ts[i].var),e++pF (K++e) ts[i].var,F',?_,rfl,?_,by rw[append_assoc,append_assoc]at j1;exact j1,i4.trans j2⟩⟩
   ·rw[hT];simp[rT,h8,hv,h1]
   ·have:=vf (K++e) ts[i].var;rw[length_append];omega
  ·refine aay i3 hlen ts[i].var ⟨_,rfl,ab.mk (λhh=>?_) (λhh=>?_)⟩
   ·refine dc u Fi (DH hi i1 ?_) i4;have hh:hasB (K++e) ts[i].var=false:=nb hh;simp[rT,h8,hv,h1,hh]
   ·have hh:hasB (K++e) ts[i].var=true:=nt hh;exact same (by simp[rT,h8,hv,h1,hh]) _ rfl
 ·rintro u next ⟨Ki,e,Fi,i1,rfl,i2,i3,i4⟩
  rw[take_length]at i1;exact ab.f (by simp) (aG u Fi _ e i1 rfl i2 i3 i4)
theorem aet{μ:Mem}{k:Nat}{K row:List ByteArray}{F:List Nat}(h:jh μ k K row F)(c:ae)(hc:Pw c)(hl:K.length<=10000){R:Kq}
  (aG:∀μ' F' K' e,pG K c=some K'->K'=K++e->e.length<=9->jh μ' k K' (row++e) F'->Mv μ μ' F F'->R (pB true) μ') (dc:∀μ' F',pG K c=none->Mv μ μ' F F'->R (pB false) μ'):aa prog 212 [pP k 0,.agg c.pv] μ R:=by
 obtain⟨_,ha,hv,_,_,_⟩:=(AG c).1 hc;rw[ae.cG];refine vX.c ?_;have go:∀(u:Mem) (e:List ByteArray) (F1:List Nat),K++e=(bif c.goal then K++pF K c.id else K)->e.length<=1->jh u k (K++e) (row++e) F1->Mv μ u F F1->
   aa prog 213 [pP k 0,pS c.id] u λNm yl=>∃x14,Nm=pB x14/\ab x14 (aa prog 251 [pP k 0,.list 6 .sh (c.attr.map Test.pv)] yl λYh De=>∃x19,Yh=pB x19/\ab x19 (aa prog 251 [pP k 0,.list 6 .sh (c.value.map Test.pv)] De λv_3 Dd=>∃x25,v_3=pB x25/\R (pB x25) Dd) (R (pB false) De)) (R (pB false) yl):=by
  intro u e F1 he hle i1 i2;have hm:pG K c=(bif hasB (K++e) c.id then(iI (K++e) c.attr).bind λK1=>iI K1 c.value else none):=by unfold pG;rw[<- he]
  have hlen:(K++e).length<=10001:=by rw[length_append];omega
  refine aay i1 (by omega) c.id ⟨_,rfl,ab.mk (λhh=>?_) (λhh=>dc u F1 (by rw[hm,hh];rfl) i2)⟩;rw[hh]at hm;refine Tm i1 .sh c.attr (by omega) (λμ1 F2 K1 e1 j1 j2 j3 j4 j5=>⟨_,rfl,ab.t rfl ?_⟩) (λμ1 F2 j1 j5=>⟨_,rfl,ab.f rfl (dc μ1 F2 (by rw[hm,j1];rfl) (i2.trans j5))⟩);subst j2;refine Tm j4 .sh c.value (by rw[length_append];omega) (λμ2 F3 K2 e2 l1 l2 l3 l4 l5=>⟨_,rfl,?_⟩) (λμ2 F3 l1 l5=>⟨_,rfl,dc μ2 F3 (by rw[hm];simp only[cond_true,j1,Option.bind_some];exact l1) (i2.trans (j5.trans l5))⟩);refine aG μ2 F3 K2 (e++e1++e2) (by rw[hm];simp only[cond_true,j1,Option.bind_some];exact l1) (by rw[l2];simp) (by simp;omega) ?_ (i2.trans (j5.trans l5));simpa using l4
 refine bZ.of λJ hJ=>ab.mk (λhg=>?_) (λhg=>?_)
 ·refine Tg h (by omega) c.id λμ1 F1 j1 j2=>⟨rfl,hJ _ _ (go μ1 _ F1 (by rw[hg];rfl) (vf K c.id) j1 j2)⟩
 ·exact hJ _ _ (go μ [] F (by rw[hg];simp) (by simp) (by simpa using h) (Mv.refl _ _))
theorem jh.beside{μ μ' mZ:Mem}{k:Nat}{K row:List ByteArray}{F F1 F2 F2':List Nat}(h:jh μ' k K row F1)(hd:∀x∈F2,x∉F1)(hm:Mv μ μ' F (F1++F2))(sE:Mv μ' mZ F2 F2'):jh mZ k K row F1/\Mv μ mZ F F1:=by
 refine⟨h.same λx hx=>sE.cu x (h.at_ x hx) λMp=>hd x Mp hx,?_⟩;refine(hm.trans (sE.wide (G:=F1++F2) λx hx=>by simp[hx])).sub λx hx=>by simp[hx]
theorem Wr:∀(n:Nat) {μ:Mem} {k:Nat} {K row:List ByteArray} {F:List Nat} (h:jh μ k K row F) (fl:Fl) (l:List ae) (at_:Nat),ah l<=n->Pv l->K.length<=9*at_->at_+ah l<=1000->∀{R:Kq},
  (∀μ' F' K' e,dY l at_ K=.ok K'->K'=K++e->K'.length<=9*(at_+ah l)->jh μ' k K' (row++e) F'->Mv μ μ' F F'->R (.aA [pI ((at_+ah l:Nat):Int),pB true]) μ')->(∀μ' F' (e:Nat),dY l at_ K=.error e->Mv μ μ' F F'->R (.aA [pI (e:Int),pB false]) μ')->
  aa prog 159 [pP k 0,.list 7 fl (l.map ae.pv),pI (at_:Nat)] μ R:=by
 intro n;induction n with
 |zero=>
  intro μ k K row F h fl l at_ hn _ _ _ R aG _;have:l=[]:=by
   cases l with
   |nil=>rfl
   |cons c l=>simp[ah,bN]at hn
  subst this;refine kN.c ?_
  exact ao.dG (n:=0) (by omega) (λi x u=>x=((at_:Nat):Int)/\u=μ) ⟨rfl,rfl⟩ (λi x u next hi=>by omega) (λx u next hx=>by
   obtain⟨rfl,rfl⟩:=hx
   exact ab.f (by simp) (aG u F K [] rfl (by simp) (by simp[ah];omega) (by simpa using h) (Mv.refl _ _)))
 |succ n ih=>
  intro μ k K row F h fl l at_ hn Zp hK fH R aG ZH;refine kN.c ?_;have sF:=c_ l;refine ao.dG (n:=l.length) (by omega) (λi x u=>x=((at_+ah (l.take i):Nat):Int)/\∃Ki e Fi,dY (l.take i) at_ K=.ok Ki/\Ki=K++e/\Ki.length<=9*(at_+ah (l.take i))/\jh u k Ki (row++e) Fi/\Mv μ u F Fi) ⟨by simp[ah],K,[],F,by simp[dY],by simp,by simp[ah];omega,by simpa using h,Mv.refl _ _⟩ ?_ ?_
  ·rintro i _ u next hi ⟨rfl,Ki,e,Fi,i1,rfl,i2,i3,i4⟩ aw
   have hm:=et (getElem_mem hi);have hs:=jO l (i+1);have fK:=eK hi;rw[fK]at hs;have ee:=Mb.1 Zp l[i] (getElem_mem hi);obtain⟨Mw,_,_,_,_,RM⟩:=(AG _).1 ee;have hT:=tE hi i1;have hC:=Ba l[i] (at_+ah (l.take i)) (K++e);have dS:aE l[i].pv 0 7=some [pI l[i].kind,pB l[i].goal,pS l[i].id,.list 6 .sh (l[i].attr.map Test.pv),.list 6 .sh (l[i].value.map Test.pv),pB l[i].acc,.list 7 .sh (l[i].conds.map ae.pv)]:=by rw[ae.cG];rfl
   refine ab.t (by simpa using hi) ⟨by omega,_,aH hi,_,_,_,_,_,_,_,_,_,_,dS,?_⟩;dsimp only;have Sl:wrap .i64 (((at_+ah (l.take i):Nat):Int)+1)=((at_+ah (l.take i)+1:Nat):Int):=by rw[aC (by omega) (by omega)];omega
   refine bZ.of λJ hJ=>ab.mk (λhp=>?_) (λhp=>?_)
   ·have jY:(l[i].kind == 1)=false:=by simpa using hp
    refine aaw i3 λμ1 k2 F1 F2 j1 j2 j3 j4=>⟨_,rfl,hJ _ _ (ab.mk (λh3=>?_) (λh3=>?_))⟩
    ·rw[Sl];rw[h3]at hC;refine ih j2 .sh l[i].conds (at_+ah (l.take i)+1) (by omega) RM (by omega) (by omega) (λμ2 F3 K2 e2 l1 l2 l3 l4 l5=>⟨_,_,rfl,ab.f rfl ?_⟩) (λμ2 F3 e2 l1 l5=>⟨_,_,rfl,ab.t rfl (ZH μ2 _ e2 (lN hi i1 (by rw[hC,l1];rfl)) (i4.trans (j1.beside j3 j4 l5).2))⟩);obtain⟨b1,b2⟩:=j1.beside j3 j4 l5;refine aw _ _ ⟨?_,K++e,e,F1,?_,rfl,?_,b1,i4.trans b2⟩
     ·rw[fK];congr 1;omega
     ·rw[hT,hC,l1];rfl
     ·rw[fK];omega
    ·rw[h3,jY]at hC;have nN:l[i].conds.length=0:=by
      rcases Mw with h|h
      ·rw[h]at h3;simp at h3
      ·exact h.2
     have ZL:l[i].conds=[]:=List.eq_nil_of_length_eq_zero nN;have agV:ah l[i].conds=0:=by rw[ZL];rfl
     have lq:PV.agg [pI l[i].kind,pB l[i].goal,pS l[i].id,.list 6 .sh (l[i].attr.map Test.pv),.list 6 .sh (l[i].value.map Test.pv),pB l[i].acc,.list 7 .sh (l[i].conds.map ae.pv)]=.agg l[i].pv:=by rw[ae.cG]
     rw[lq];refine aet j2 l[i] ee (by omega) (λμ2 F3 K2 e2 l1 l2 l3 l4 l5=>⟨_,rfl,ab.f rfl ?_⟩) (λμ2 F3 l1 l5=>⟨_,rfl,ab.t rfl (ZH μ2 _ _ (lN hi i1 (by rw[hC,l1];rfl)) (i4.trans (j1.beside j3 j4 l5).2))⟩);obtain⟨b1,b2⟩:=j1.beside j3 j4 l5;rw[Sl];refine aw _ _ ⟨?_,K++e,e,F1,?_,rfl,?_,b1,i4.trans b2⟩
     ·rw[fK];congr 1;omega
     ·rw[hT,hC,l1];rfl
     ·rw[fK];omega
   ·have jY:l[i].kind=1:=by simpa using hp
    have h3:(l[i].kind == 3)=false:=by rw[jY];rfl
    refine hJ _ _ (ab.f h3 ?_);rw[h3,show(l[i].kind == 1)=true by rw[jY];rfl]at hC;have nN:l[i].conds.length=0:=by
     rcases Mw with h|h
     ·rw[jY]at h;cases h
     ·exact h.2
    have ZL:l[i].conds=[]:=List.eq_nil_of_length_eq_zero nN;have agV:ah l[i].conds=0:=by rw[ZL];rfl
    have lq:PV.agg [pI l[i].kind,pB l[i].goal,pS l[i].id,.list 6 .sh (l[i].attr.map Test.pv),.list 6 .sh (l[i].value.map Test.pv),pB l[i].acc,.list 7 .sh (l[i].conds.map ae.pv)]=.agg l[i].pv:=by rw[ae.cG]
    rw[lq];refine aet i3 l[i] ee (by omega) (λμ2 F3 K2 e2 l1 l2 l3 l4 l5=>⟨_,rfl,ab.f rfl ?_⟩) (λμ2 F3 l1 l5=>⟨_,rfl,ab.t rfl (ZH μ2 _ _ (lN hi i1 (by rw[hC,l1];rfl)) (i4.trans l5))⟩);rw[Sl];refine aw _ _ ⟨?_,K2,e++e2,F3,?_,by rw[l2,append_assoc],?_,by rw[<- append_assoc];exact l4,i4.trans l5⟩
    ·rw[fK];congr 1;omega
    ·rw[hT,hC,l1];rfl
    ·rw[fK,l2,length_append];omega
  ·rintro _ u next ⟨rfl,Ki,e,Fi,i1,rfl,i2,i3,i4⟩
   rw[take_length]at i1 i2;refine ab.f (by simp) ?_;dsimp only;rw[take_length];exact aG u Fi _ e i1 rfl i2 i3 i4
theorem KU{μ:Mem}{k:Nat}{K row:List ByteArray}{F:List Nat}(h:jh μ k K row F)(hl:K.length<=100000)(a:Atom){R:Kq}(hk:R (pB (nK K a)) μ):aa prog 160 [pP k 0,.agg a.pv] μ R:=by
 refine rY.c ?_;refine ab.mk (λhv=>aay h hl a.var ⟨_,rfl,?_⟩) (λhv=>?_)
 ·have:nK K a= !hasB K a.var:=by unfold nK;rw[hv];rfl
  rw[this]at hk;exact hk
 ·have:nK K a=false:=by unfold nK;rw[hv];rfl
  rw[this]at hk;exact hk
end K6
open K6
@[reducible] def ET(fc fa:Fl)(p:Prod):PV:=.agg [pS p.name,.list 7 fc (p.conds.map ae.pv),.list 19 fa (p.bh.map cN.pv)]
@[reducible] def MM(x:Int×Int×List ByteArray):PV:=.aA [pI x.1,pI x.2.1,.list 1 .sh (cm x.2.2)]
theorem O_{μ:Mem}(fc fa:Fl)(p:Prod)(hl:bW p.conds)(hs:ah p.conds<=1000000)(ha:p.bh.length<=1000000){R:Kq}(hR:∀μ' q Fr,vT μ' q (bQ p).2.2 Fr->Mv μ μ' [] Fr->R (.aA [pI (bQ p).1,pI (bQ p).2.1,q]) μ'):aa prog 110 [ET fc fa p] μ R:=by
 refine zh.c ?_;have Vf:(bQ p).2.2=[]->∀μ' a e,Mv μ μ' [] []->(bQ p).1=a->(bQ p).2.1=e->R (.aA [pI a,pI e,.list 1 .nil []]) μ':=λh0 μ' a e hm h1 h2=>by
  have:=hR μ' (.list 1 .nil []) [] (.inl ⟨rfl,h0,rfl⟩) hm;rw[h1,h2]at this;exact this
 refine(aan .sh .sh p hl hs ha).call ⟨_,_,rfl,ab.mk (λh1=>?_) (λh1=>?_)⟩
 ·have hE:bQ p=((cJ p).1,(cJ p).2,[]):=by unfold bQ;rw[h1];rfl
  exact Vf (by rw[hE]) _ _ _ (Mv.refl _ _) (by rw[hE]) (by rw[hE])
 have h0:(cJ p).2=0:=by simpa using h1
 obtain⟨s1,s2,s3,s4,aG⟩:=wN h0;cases hc:p.conds with
 |nil=>rw[hc]at s1;simp[ah]at s1
 |cons c cs=>
 refine⟨by omega,c.pv,rfl,_,by rw[ae.cG];rfl,ab.mk (λh2=>?_) (λh2=>?_)⟩
 ·have hE:bQ p=(0,9,[]):=by unfold bQ;rw[h1,hc];simp only[cond_false,List.head?_cons,Option.map_some,Option.getD_some,h2,cond_true]
  exact Vf (by rw[hE]) _ _ _ (Mv.refl _ _) (by rw[hE]) (by rw[hE])
 have hE:bQ p=match dY p.conds 0 []with
   | .error n=>((n:Int),6,[])
   | .ok K=>match iv K 0 p.bh with
     |some i=>(((ah p.conds+i:Nat):Int),6,[])
     |none=>(-1,0,K):=by
  unfold bQ;rw[h1];simp only[cond_false];rw[show(p.conds.head?.map ae.kind).getD 0=c.kind by rw[hc];rfl,h2];rfl
 rw[<- hc];refine gu .nil λμ1 b hb i1 i2=>⟨_,rfl,λk hk=>?_⟩;have hkb:k≠b:=by rintro rfl;exact i1.at_.2 k (by simp) hk
 have hkn:jh (μ1.set k (some (.cells rq [pP b 0,.list 1 .nil []]))) k [] [] (k::([b]++[])):=by
  refine⟨⟨b,[],_,[b],[],Mem.an _ _ _,i1.same λx hx=>Mem.ax _ _ ?_,List.Pairwise.nil,λy=>Iff.rfl,le_refl _,.inl ⟨rfl,rfl,rfl⟩,by simpa using hkb,λx hx=>by simp at hx,rfl⟩,le_refl _⟩;rintro rfl;simp at hx;exact hkb hx
 have Xs:Mv μ (μ1.set k (some (.cells rq [pP b 0,.list 1 .nil []]))) [] (k::([b]++[])):=i2.trans (Mv.set (.inr hk));refine aa.post (Wr _ hkn fc p.conds 0 (le_refl _) aG (by simp) (by omega) (λμ2 F2 K e j1 j2 j3 j4 j5=>?_) (λμ2 F2 e j1 j5=>?_))
 ·rw[List.nil_append]at j2 j4;subst j2;obtain⟨μ3,hG,Xr,b',L,q,Fs,Fr,m1,_,_,_,_,m6,_,_,hF⟩:=j4.raw;refine⟨μ3,hG,_,_,rfl,ab.f rfl ?_⟩;rw[zero_add]at j3;have j4':jh μ3 k K K F2:=by
   obtain⟨μ4,_,_,_⟩:=j4.raw;exact⟨⟨b',L,q,Fs,Fr,m1,by assumption,by assumption,by assumption,by assumption,.inr m6,by assumption,by assumption,hF⟩,le_refl _⟩
  have PF:Mv μ μ3 [] F2:=Xs.trans (j5.trans Xr);have ahg:Mv μ μ3 [] []:=PF.sub (by simp);refine ao.each (n:=p.bh.length) (by omega) (λi u=>u=μ3/\iv K 0 (p.bh.take i)=none) ⟨rfl,rfl⟩ ?_ ?_
  ·rintro i u next hi ⟨rfl,hf⟩ aw
   have hT:=yM hi hf;refine ab.t (by simpa using hi) ⟨by omega,_,aH hi,_,_,_,_,_,_,_,_,_,_,_,_,_,_,_,_,_,_,_,rfl,?_⟩;have OA:iR K p.bh[i]=true->R (.aA [pI (wrap .i64 (((0+ah p.conds:Nat):Int)+(i:Int))),pI 6,.list 1 .nil []]) u:=λhl=>by
    have Uc:bQ p=(((ah p.conds+i:Nat):Int),6,[]):=by rw[hE,j1];simp only[Bt hi hf hl,zero_add]
    refine Vf (by rw[Uc]) _ _ _ ahg ?_ (by rw[Uc]);rw[Uc,aC (by omega) (by omega)];simp only;omega
   have Fe:iR K p.bh[i]=false->next (wrap .i64 ((i:Int)+1)) u:=λhl=>aw _ ⟨rfl,by rw[hT,hl];rfl⟩
   refine KU j4' (by omega) p.bh[i].attr ⟨_,rfl,ab.mk (λa1=>?_) (λa1=>?_)⟩
   ·exact OA (by unfold iR;rw[a1];rfl)
   refine ab.mk (λa2=>?_) (λa2=>Fe (by unfold iR;rw[a1,a2];rfl));refine KU j4' (by omega) p.bh[i].value.a ⟨_,rfl,ab.mk (λa3=>?_) (λa3=>?_)⟩
   ·exact OA (by unfold iR;rw[a1,a2,a3];rfl)
   refine KU j4' (by omega) p.bh[i].value.b ⟨_,rfl,ab.mk (λa4=>?_) (λa4=>?_)⟩
   ·exact OA (by unfold iR;rw[a1,a2,a3,a4];rfl)
   ·exact Fe (by unfold iR;rw[a1,a2,a3,a4];rfl)
  ·rintro u next ⟨rfl,hf⟩
   rw[take_length]at hf;have Uc:bQ p=(-1,0,K):=by rw[hE,j1];simp only[hf]
   obtain⟨a,c',rfl,_⟩:=m6.app (cP K);refine ab.f (by simp) ⟨_,_,_,aI m1 (by simp),?_⟩;have:=hR u _ Fr (by rw[Uc];exact .inr m6) (PF.sub λx hx=>by rw[hF];simp[hx]);rw[Uc]at this;exact this
 ·have Uc:bQ p=((e:Int),6,[]):=by rw[hE,j1]
  exact⟨μ2,GU.refl _,_,_,rfl,ab.t rfl (Vf (by rw[Uc]) _ _ _ ((Xs.trans j5).sub (by simp)) (by rw[Uc]) (by rw[Uc]))⟩
theorem Tp(fc fa:Fl)(p:Prod)(hl:bW p.conds)(hs:ah p.conds<=1000000)(ha:p.bh.length<=1000000):Pure prog 110 [ET fc fa p] (MM (bQ p)):=by
 refine aa.ach (O_ fc fa p hl hs ha λμ' q Fr h hm=>⟨MM (bQ p),.aA rfl (λd hd=>?_) (λi c d hc hd=>?_),rfl⟩)
 ·simp only[mem_cons,not_mem_nil,or_false]at hd;rcases hd with rfl|rfl|rfl<;>rfl
 ·match i with
  |0=>simp at hc hd;subst hc hd;exact .same _
  |1=>simp at hc hd;subst hc hd;exact .same _
  |2=>simp at hc hd;subst hc hd;exact h.view
  |n+3=>simp at hc
theorem aaF(fc fa:Fl)(p:Prod)(hl:bW p.conds)(hs:ah p.conds<=1000000)(ha:p.bh.length<=1000000):Pure prog 64 [ET fc fa p] (.aA [pI (bQ p).1,pI (bQ p).2.1]):=by
 refine av.of (CW.c ?_);exact(Tp .sh .sh p hl hs ha).call ⟨_,_,_,_,rfl,rfl⟩
def Kf(p:Prod):Prop:=bW p.conds/\ah p.conds<=40/\p.bh.length<=40/\p.name.size<=100
theorem aax(fc fa:Fl)(p:Prod):av prog 5 [.agg [pS p.name,.list 7 fc (p.conds.map ae.pv),.list 19 fa (p.bh.map cN.pv)]] λr=>∃q:Bool,r=pB q/\(q=false->Kf p):=by
 refine av.of (uw.c ?_);have yes:∃q:Bool,wk (pB true)=pB q/\(q=false->Kf p):=⟨true,rfl,λh=>by cases h⟩;refine(aav _ fc p.conds 40 0 (le_refl _) (by omega) (by omega)).call ?_;rintro _ ⟨r,rfl,PC,DR⟩;refine⟨_,rfl,ab.mk (λ_=>yes) (λa1=>ab.mk (λ_=>yes) (λa2=>ab.mk (λ_=>yes) (λa3=>?_)))⟩;have a1:=of_decide_eq_false a1;have a2:=of_decide_eq_false a2;have a3:=of_decide_eq_false a3;simp only[length_map]at a2;have hs:=DR (by omega);refine(ID _ fc p.conds (le_refl _) (by omega)).call ?_;rintro _ ⟨q,rfl,hq⟩;exact⟨_,rfl,q,rfl,λh=>⟨hq h,by omega,by omega,by omega⟩⟩
theorem ao.XP{α γ:Type}{body:(α->γ->Prop)->α->γ->Prop}{s0:α}{u:γ}(n:Nat)(I:Nat->α->γ->Prop)(h0:I 0 s0 u)
  (fT:∀(k:Nat) (s:α) (u:γ) (next:α->γ->Prop),k<n->I k s u->(∀s' u',I (k+1) s' u'->next s' u')->body next s u) (fL:∀(s:α) (u:γ) (next:α->γ->Prop),I n s u->body next s u):ao body s0 u:=by
 refine⟨λm s w=>∃k,k<=n/\m=n-k/\I k s w,⟨n,0,by omega,rfl,h0⟩,?_⟩;rintro m s w ⟨k,hk,rfl,hI⟩;by_cases h:k<n
 ·exact fT k s w _ h hI λs' u' h'=>⟨n-(k+1),by omega,k+1,by omega,rfl,h'⟩
 ·have:k=n:=by omega
  subst this;exact fL s w _ hI
theorem OF{K:List ByteArray}{v:ByteArray}{i:Nat}(hi:i<K.length)(h:hasB (K.take i) v=false)(hn:aK K[i] v=false):hasB (K.take (i+1)) v=false:=by
 unfold hasB at*
 rw[take_add_one,List.any_append,h,getElem?_eq_getElem hi];simp[hn]
theorem Td(fl:Fl)(K:List ByteArray)(v:ByteArray)(hl:K.length<=1000000):Pure prog 88 [.list 1 fl (cm K),pS v] (pB (hasB K v)):=by
 refine av.of (wo.c ?_);refine ao.each (n:=K.length) (by omega) (λi u=>hasB (K.take i) v=false) rfl ?_ ?_
 ·intro i u next hi hI aw
  refine ab.t (by simpa using hi) ⟨by omega,_,Hk hi,_,rfl,ab.mk (λh=>?_) (λh=>aw _ (OF hi hI h))⟩;have:hasB K v=true:=qI.2 (by rw[<- bD.1 h];exact getElem_mem hi);rw[this];rfl
 ·intro u next hI
  rw[take_length]at hI;rw[hI];exact ab.f (by simp) rfl
@[reducible] def Rj:Option (List ByteArray)->PV
 |none=>.aA [.list 1 .sh [],pB false]
 |some K=>.aA [.list 1 .sh (cm K),pB true]
theorem uT(K e:List ByteArray):cm (K++e)=cm K++cm e:=by simp[cm]
theorem HE{K:List ByteArray}{t:Test}(h:UT t):rT K t=(bif aK t.var ⟨#[]⟩then some K else bif hasB K t.var then some K else bif t.rel != 1 then none else some (K++[t.var])):=by
 unfold rT pF;cases hv:aK t.var ⟨#[]⟩with
 |true=>simp
 |false=>
  have h8:(t.rel == 8)=false:=by
   cases h8:t.rel == 8 with
   |false=>rfl
   |true=>rw[h (by simpa using h8)]at hv;cases hv
  rw[h8,show(t.rel != 1)= !(t.rel == 1)from rfl];cases hasB K t.var<;>cases t.rel == 1<;>simp
theorem Ff{K:List ByteArray}{a b:List Test}:iI K (a++b)=(iI K a).bind λK1=>iI K1 b:=qz K a b
theorem LB{fl f1 f2:Fl}{n sz:Nat}{μ μ':Mem}(h:lY fl n sz μ)(hd:∀x∈Jz fl,¬f1.at x)(hk:∀b o,μ b=some o->¬f1.at b->μ' b=some o/\¬f2.at b):lY fl n sz μ'/\∀x∈Jz fl,¬f2.at x:=by
 cases fl with
 |nz b c=>
  have:=hk b _ h (hd b (by simp[Jz]));exact⟨this.1,λx hx=>by simp[Jz]at hx;subst hx;exact this.2⟩
 |sh=>exact⟨h,λx hx=>by simp[Jz]at hx⟩
 |nr=>exact⟨h,λx hx=>by simp[Jz]at hx⟩
 |nil=>exact⟨h,λx hx=>by simp[Jz]at hx⟩
theorem aep(fl:Fl)(c:ae)(K:List ByteArray)(hc:Pw c)(hl:K.length<=10000):Pure prog 87 [.agg c.pv,.list 1 fl (cm K)] (Rj (pG K c)):=by
 obtain⟨_,ha,hv,Jk,Ox,_⟩:=(AG c).1 hc;rw[ae.cG];refine av.of (wm.c ?_);refine aW.PN (by trivial) (by simp;omega) (by simp;omega) λf1 μ1 t1=>?_;simp only[List.nil_append,List.length_nil,zero_add,da]at t1 |-;have go:∀(K0:List ByteArray) (f:Fl) (u:Mem),K0.length<=10001->lY f K0.length 1 u->pG K c=(iI K0 c.attr).bind (λK1=>iI K1 c.value)->
   aW true 6 80 .nil [] (c.attr.map Test.pv) u λf26 Dd=>aW false 6 80 f26 (c.attr.map Test.pv) (c.value.map Test.pv) Dd λf29 Jg=>
   ao (α:=(Fl×Lq)×Int) (λnext rQ WU=>
   ab (decide ((rQ.2:Int)<((List.length (c.attr.map Test.pv++c.value.map Test.pv):Nat):Int)))
   ((0:Int)<=rQ.2/\∃(r38:List PV),(c.attr.map Test.pv++c.value.map Test.pv)[toNat rQ.2]?=some r38/\
    ∃(x40:ByteArray),aE r38 1 1=some [(pS x40)]/\
    ab (aK x40 ⟨#[]⟩)
    (next ((rQ.1.1,rQ.1.2),(wrap .i64 (rQ.2+(1)))) WU)
    ((0:Int)<=rQ.2/\∃(r46:List PV),(c.attr.map Test.pv++c.value.map Test.pv)[toNat rQ.2]?=some r46/\
     ∃(x48:ByteArray),aE r46 1 1=some [(pS x48)]/\
     aa prog 88 [(.list 1 rQ.1.1 rQ.1.2),(pS x48)] WU λNm WT=>
     ∃(x49:Bool),Nm=(pB x49)/\
     ab x49
     (next ((rQ.1.1,rQ.1.2),(wrap .i64 (rQ.2+(1)))) WT)
     ((0:Int)<=rQ.2/\∃(r53:List PV),(c.attr.map Test.pv++c.value.map Test.pv)[toNat rQ.2]?=some r53/\
      ∃(x55:Int),aE r53 0 1=some [(pI x55)]/\
      ab ((x55:Int) != (1))
      (wk (.aA [(.list 1 .nil []),(pB false)])=Rj (pG K c))
      ((0:Int)<=rQ.2/\∃(r60:List PV),(c.attr.map Test.pv++c.value.map Test.pv)[toNat rQ.2]?=some r60/\
       ∃(x62:ByteArray),aE r60 1 1=some [(pS x62)]/\
       aW false 1 16 rQ.1.1 rQ.1.2 [[(pS x62)]] WT λf64 Uj=>
       next ((f64,(rQ.1.2++[[(pS x62)]])),(wrap .i64 (rQ.2+(1)))) Uj))))
   (wk (.aA [(.list 1 rQ.1.1 rQ.1.2),(pB true)])=Rj (pG K c))) ((f,cm K0),(0)) Jg:=by
  intro K0 f u hK0 tf hm;rw[<- Ff]at hm;refine aW.go (by trivial) (by simp;omega) (by simp;omega) (λf26 u4 t26 k26=>?_);obtain⟨tf4,d4⟩:=LB (f1:=.nil) tf (λx _ h=>h) k26;refine aW.go (by simpa using t26) (by simp;omega) (by simp;omega) λf29 u5 t29 k29=>?_;obtain⟨tf5,d5⟩:=LB tf4 d4 k29;rw[<- map_append];have hlen:(c.attr++c.value).length<=8:=by rw[length_append];omega
  have aG:∀t∈c.attr++c.value,UT t:=λt ht=>(mem_append.1 ht).elim (Jk t) (Ox t);refine ao.dG (n:=(c.attr++c.value).length) (by omega) (λi x u=>∃Ki,x.2=cm Ki/\lY x.1 Ki.length 1 u/\iI K0 ((c.attr++c.value).take i)=some Ki/\Ki.length<=K0.length+i) ⟨K0,rfl,tf5,by simp[iI],by omega⟩ ?_ ?_
  ·rintro i ⟨f,_⟩ u next hi ⟨Ki,rfl,i1,i2,i3⟩ aw
   have hT:=w_ hi i2;rw[HE (aG _ (getElem_mem hi))]at hT;refine ab.t (decide_eq_true (by rw[length_map];omega)) ⟨by omega,_,aH hi,_,rfl,ab.mk (λh1=>aw _ _ ⟨Ki,rfl,i1,by rw[hT,h1];rfl,by omega⟩) (λh1=>⟨by omega,_,aH hi,_,rfl,?_⟩)⟩;refine(Td f Ki _ (by omega)).call ⟨_,rfl,ab.mk (λh2=>aw _ _ ⟨Ki,rfl,i1,by rw[hT,h1,h2];rfl,by omega⟩) (λh2=>⟨by omega,_,aH hi,_,rfl,ab.mk (λh3=>?_) (λh3=>⟨by omega,_,aH hi,_,rfl,?_⟩)⟩)⟩
   ·rw[h1,h2,h3]at hT;have hn:iI K0 (c.attr++c.value)=none:=DH hi i2 (by rw[HE (aG _ (getElem_mem hi)),h1,h2,h3];rfl);rw[hm,hn];rfl
   ·rw[h1,h2,h3]at hT;refine aW.PN (by rw[da];exact i1) (by simp;omega) (by simp;omega) λf' u' t'=>aw _ _ ⟨Ki++[(c.attr++c.value)[i].var],?_,?_,hT,by rw[length_append,List.length_singleton];omega⟩
    ·rw[uT];rfl
    ·simpa using t'
  ·rintro⟨f,_⟩ u next ⟨Ki,rfl,i1,i2,i3⟩
   rw[take_length]at i2;refine ab.f (by rw[length_map];simp) ?_;rw[hm,i2];rfl
 refine bZ.of λJ hJ=>(Td f1 K c.id (by omega)).call ⟨_,rfl,ab.mk (λh1=>ab.mk (λh2=>?_) (λh2=>?_)) (λh1=>?_)⟩
 ·have h1:=nb h1;have h2:=nb h2;have:pG K c=none:=by simp[pG,h1,h2]
  rw[this];rfl
 ·have h1:=nb h1;have h2:=nt h2;refine aW.PN (by rw[da];exact t1) (by simp;omega) (by simp;omega) λf2 μ2 t2=>hJ _ _ ?_
  have:=go (K++[c.id]) f2 μ2 (by simp;omega) (by simpa using t2) (by
   have hh:hasB (K++[c.id]) c.id=true:=qI.2 (by simp)
   simp[pG,h2,pF,h1,hh])
  rw[uT]at this;exact this
 ·have h1:=nt h1;refine hJ _ _ (go K f1 _ (by omega) t1 ?_);cases hg:c.goal<;>simp[pG,hg,pF,h1]
@[reducible] def YY:Except Nat (List ByteArray)->PV
 | .error e=>.aA [.list 1 .sh [],pI (e:Nat),pB false]
 | .ok K=>.aA [.list 1 .sh (cm K),pI (-1),pB true]
theorem HF{K K':List ByteArray}{c:ae}(hc:Pw c)(h:pG K c=some K'):K'.length<=K.length+9:=by
 obtain⟨_,ha,hv,_,_,_⟩:=(AG c).1 hc;have hT:∀{K K':List ByteArray} {t:Test},rT K t=some K'->K'.length<=K.length+1:=by
  intro K K' t h;unfold rT at h;have:=vf K t.var;cases h1:(t.rel == 8)||aK t.var ⟨#[]⟩<;>rw[h1]at h
  ·simp only[cond_false]at h;cases h2:t.rel == 1<;>rw[h2]at h
   ·simp only[cond_false]at h;cases h3:hasB K t.var<;>rw[h3]at h
    ·cases h
    ·cases h;omega
   ·cases h;rw[length_append];omega
  ·cases h;omega
 have hL:∀(ts:List Test) {K K':List ByteArray},iI K ts=some K'->K'.length<=K.length+ts.length:=by
  intro ts;induction ts with
  |nil=>intro K K' h;cases h;simp
  |cons t ts ih=>
   intro K K' h;simp only[iI]at h;cases h1:rT K t with
   |none=>rw[h1]at h;cases h
   |some K1=>
    rw[h1]at h;have:=ih h;have:=hT h1;rw[length_cons];omega
 unfold pG at h;have hg:(bif c.goal then K++pF K c.id else K).length<=K.length+1:=by
  have:=vf K c.id;cases c.goal
  ·simp
  ·rw[cond_true,length_append];omega
 generalize hK0:(bif c.goal then K++pF K c.id else K)=K0 at h hg;simp only at h;cases hh:hasB K0 c.id<;>rw[hh]at h
 ·cases h
 ·simp only[cond_true]at h;cases h1:iI K0 c.attr with
  |none=>rw[h1]at h;cases h
  |some K1=>
   rw[h1]at h;have:=hL _ h1;have:=hL _ (show iI K1 c.value=some K' from h);omega
theorem DL:∀{l:List ae} {n:Nat} {K K':List ByteArray},Pv l->dY l n K=.ok K'->K'.length<=K.length+9*ah l
 |[],n,K,K',_,h=>by cases h;simp
 |c::l,n,K,K',ho,h=>by
  simp only[dY]at h
  cases hc:vm c n K with
  |error e=>rw[hc]at h;cases h
  |ok K1=>
   rw[hc]at h
   have h1:=DL ho.2 h
   have h2:K1.length<=K.length+9:=by
    rw[Ba]at hc;cases h3:c.kind == 3<;>rw[h3]at hc
    ·simp only[cond_false]at hc;cases hm:pG K c with
     |none=>rw[hm]at hc;cases hc
     |some K2=>
      rw[hm]at hc;have:=HF ho.1 hm;cases h4:c.kind == 1<;>rw[h4]at hc<;>cases hc
      ·simp
      ·exact this
    ·simp only[cond_true]at hc;cases hk:dY c.conds (n+1) K with
     |error e=>rw[hk]at hc;cases hc
     |ok K2=>rw[hk]at hc;cases hc;omega
   simp only[ah,bN];omega
theorem aau:∀(n:Nat) (fl fk:Fl) (l:List ae) (at_:Nat) (K:List ByteArray),ah l<=n->Pv l->K.length<=9*at_->at_+ah l<=1000->Pure prog 36 [.list 7 fl (l.map ae.pv),pI (at_:Nat),.list 1 fk (cm K)] (YY (dY l at_ K)):=by
 intro n;induction n with
 |zero=>
  intro fl fk l at_ K h _ _ _;have:l=[]:=by
   cases l with
   |nil=>rfl
   |cons c l=>simp[ah,bN]at h
  subst this;refine av.of (kO.c ?_);exact ao.XP 0 (λk s u=>s=((at_:Int),(fk,cm K),(0:Int))) rfl (λk s u next hk=>by omega) (λs u next hs=>by subst hs;exact ab.f (by simp) rfl)
 |succ n ih=>
  intro fl fk l at_ K h Zp hK fH;have sF:=c_ l;refine av.of (kO.c ?_);refine ao.XP l.length (λi s u=>∃f Ki,s=(((at_+ah (l.take i):Nat):Int),(f,cm Ki),(i:Int))/\dY (l.take i) at_ K=.ok Ki/\Ki.length<=9*(at_+ah (l.take i))) ⟨fk,K,by simp[ah],by simp[dY],by simp[ah];omega⟩ ?_ ?_
  ·rintro i _ u next hi ⟨f,Ki,rfl,i1,i2⟩ aw
   have hm:=et (getElem_mem hi);have hs:=jO l (i+1);have fK:=eK hi;rw[fK]at hs;have ee:=Mb.1 Zp l[i] (getElem_mem hi);obtain⟨Mw,_,_,_,_,RM⟩:=(AG _).1 ee;have hT:=tE hi i1;have hC:=Ba l[i] (at_+ah (l.take i)) Ki;have HY:aE l[i].pv 0 1=some [pI l[i].kind]:=by rw[ae.cG];rfl
   have hk6:aE l[i].pv 6 1=some [.list 7 .sh (l[i].conds.map ae.pv)]:=by rw[ae.cG];rfl
   have dS:aE l[i].pv 0 7=some [pI l[i].kind,pB l[i].goal,pS l[i].id,.list 6 .sh (l[i].attr.map Test.pv),.list 6 .sh (l[i].value.map Test.pv),pB l[i].acc,.list 7 .sh (l[i].conds.map ae.pv)]:=by rw[ae.cG];rfl
   refine ab.t (by simpa using hi) ?_;have Sl:wrap .i64 (((at_+ah (l.take i):Nat):Int)+1)=((at_+ah (l.take i)+1:Nat):Int):=by rw[aC (by omega) (by omega)];omega
   have go:∀(f:Fl) (K':List ByteArray) (u':Mem),vm l[i] (at_+ah (l.take i)) Ki=.ok K'->K'.length<=9*(at_+ah (l.take (i+1)))->
     ((0:Int)<=(i:Int)/\∃(r65:List PV),(l.map ae.pv)[toNat (i:Int)]?=some r65/\∃(abH:Fl) (x67:Lq),aE r65 6 1=some [(.list 7 abH x67)]/\
      aa prog 37 [(.list 7 abH x67)] u' λYh Dd=>∃(x68:Int),Yh=(pI x68)/\next ((wrap .i64 (((at_+ah (l.take i):Nat):Int)+(wrap .i64 ((1)+x68)))),(f,cm K'),(wrap .i64 ((i:Int)+(1)))) Dd):=by
    intro f K' u' hk hlen;refine⟨by omega,_,aH hi,_,_,hk6,(qT _ .sh l[i].conds (le_refl _) (by omega)).call ⟨_,rfl,aw _ _ ⟨f,K',?_,by rw[hT,hk],hlen⟩⟩⟩;rw[aC (x:=(1:Int)+_) (by omega) (by omega),aC (x:=((at_+ah (l.take i):Nat):Int)+_) (by omega) (by omega),aC (x:=(i:Int)+1) (by omega) (by omega),fK];congr 1;omega
   refine bZ.of λJ hJ=>⟨natCast_nonneg i,_,aH hi,_,HY,ab.mk (λh3=>?_) (λh3=>?_)⟩
   ·rw[h3]at hC;refine⟨natCast_nonneg i,_,aH hi,_,_,hk6,?_⟩;dsimp only;rw[Sl];refine(ih .sh f l[i].conds (at_+ah (l.take i)+1) Ki (by omega) RM (by omega) (by omega)).call ?_;cases hr:dY l[i].conds (at_+ah (l.take i)+1) Ki with
    |error e=>
     refine⟨_,_,_,_,rfl,ab.t rfl ?_⟩;rw[lN hi i1 (e:=e) (by rw[hC,hr];rfl)];rfl
    |ok K'=>
     refine⟨_,_,_,_,rfl,ab.f rfl (hJ _ _ (go f Ki _ (by rw[hC,hr];rfl) ?_))⟩;rw[fK];omega
   ·rw[h3]at hC;have nN:l[i].conds.length=0:=by
     rcases Mw with h|h
     ·rw[h]at h3;simp at h3
     ·exact h.2
    have lq:PV.agg [pI l[i].kind,pB l[i].goal,pS l[i].id,.list 6 .sh (l[i].attr.map Test.pv),.list 6 .sh (l[i].value.map Test.pv),pB l[i].acc,.list 7 .sh (l[i].conds.map ae.pv)]=.agg l[i].pv:=by rw[ae.cG]
    refine⟨natCast_nonneg i,_,aH hi,_,_,_,_,_,_,_,_,_,_,dS,?_⟩;rw[lq];refine(aep f l[i] Ki ee (by omega)).call ?_;cases hr:pG Ki l[i]with
    |none=>
     refine⟨_,_,_,rfl,ab.t rfl ?_⟩;rw[lN hi i1 (e:=at_+ah (l.take i)) (by rw[hC,hr];rfl)];rfl
    |some K'=>
     have oK:=HF ee hr;refine⟨_,_,_,rfl,ab.f rfl ⟨natCast_nonneg i,_,aH hi,_,HY,ab.mk (λh1=>hJ _ _ (go _ K' _ ?_ ?_)) (λh1=>hJ _ _ (go f Ki _ ?_ ?_))⟩⟩
     ·rw[hC,hr,h1];rfl
     ·rw[fK];omega
     ·rw[hC,hr,h1];rfl
     ·rw[fK];omega
  ·rintro _ u next ⟨f,Ki,rfl,i1,i2⟩
   rw[take_length]at i1;refine ab.f (by simp) ?_;rw[i1];rfl
theorem Ta(fl:Fl)(a:Atom)(K:List ByteArray)(hl:K.length<=1000000):Pure prog 38 [.agg a.pv,.list 1 fl (cm K)] (pB (!nK K a)):=by
 refine av.of (uk.c ?_);refine ab.mk (λh=>?_) (λh=>(Td fl K a.var hl).call ⟨_,rfl,?_⟩)
 ·have:nK K a=false:=by unfold nK;rw[h];rfl
  rw[this];rfl
 ·have:nK K a= !hasB K a.var:=by unfold nK;rw[h];rfl
  rw[this,not_not];rfl
theorem MQ(fc fa:Fl)(p:Prod)(hl:bW p.conds)(hs:ah p.conds<=1000000)(ha:p.bh.length<=1000000):Pure prog 8 [ET fc fa p] (.aA [pI (bQ p).1,pI (bQ p).2.1]):=by
 refine av.of (sj.c ?_);refine(OW .sh .sh p hl hs ha).call ⟨_,_,rfl,ab.mk (λh1=>?_) (λh1=>?_)⟩
 ·unfold bQ;rw[h1];rfl
 have h0:(cJ p).2=0:=by simpa using h1
 obtain⟨s1,s2,s3,s4,aG⟩:=wN h0;cases hc:p.conds with
 |nil=>rw[hc]at s1;simp[ah]at s1
 |cons c cs=>
 refine⟨by omega,c.pv,rfl,_,by rw[ae.cG];rfl,ab.mk (λh2=>?_) (λh2=>?_)⟩
 ·unfold bQ;rw[h1,hc];simp only[cond_false,List.head?_cons,Option.map_some,Option.getD_some,h2,cond_true];rfl
 have hE:bQ p=match dY p.conds 0 []with
   | .error n=>((n:Int),6,[])
   | .ok K=>match iv K 0 p.bh with
     |some i=>(((ah p.conds+i:Nat):Int),6,[])
     |none=>(-1,0,K):=by
  unfold bQ;rw[h1];simp only[cond_false];rw[show(p.conds.head?.map ae.kind).getD 0=c.kind by rw[hc];rfl,h2];rfl
 rw[<- hc];refine(aau _ fc .nil p.conds 0 [] (le_refl _) aG (by simp) (by omega)).call ?_;cases hk:dY p.conds 0 []with
 |error e=>
  refine⟨_,_,_,_,rfl,ab.t rfl ?_⟩;rw[hE,hk];rfl
 |ok K=>
  have hKl:K.length<=1000:=by have:=DL aG hk;simp at this;omega
  refine⟨_,_,_,_,rfl,ab.f rfl ((qT _ fc p.conds (le_refl _) hs).call ⟨_,rfl,?_⟩)⟩;refine ao.each (n:=p.bh.length) (by omega) (λi u=>iv K 0 (p.bh.take i)=none) rfl ?_ ?_
  ·rintro i u next hi hf aw
   have hT:=yM hi hf;refine ab.t (by simpa using hi) ⟨by omega,_,aH hi,_,_,_,_,_,_,_,_,_,_,_,_,_,_,_,_,_,_,_,rfl,?_⟩;have OA:iR K p.bh[i]=true->wk (.aA [pI (wrap .i64 (((ah p.conds:Nat):Int)+(i:Int))),pI 6])=.aA [pI (bQ p).1,pI (bQ p).2.1]:=λhl=>by
    rw[hE,hk];simp only[Bt hi hf hl,zero_add];rw[aC (by omega) (by omega)];rfl
   have Fe:iR K p.bh[i]=false->next (wrap .i64 ((i:Int)+1)) u:=λhl=>aw _ (by rw[hT,hl];rfl)
   refine(Ta .sh p.bh[i].attr K (by omega)).call ⟨_,rfl,ab.mk (λa1=>?_) (λa1=>?_)⟩
   ·rw[not_not]at a1;exact OA (by unfold iR;rw[a1];rfl)
   rw[not_not]at a1;refine ab.mk (λa2=>?_) (λa2=>Fe (by unfold iR;rw[a1,a2];rfl));refine(Ta .sh p.bh[i].value.a K (by omega)).call ⟨_,rfl,ab.mk (λa3=>?_) (λa3=>?_)⟩
   ·rw[not_not]at a3;exact OA (by unfold iR;rw[a1,a2,a3];rfl)
   rw[not_not]at a3;refine(Ta .sh p.bh[i].value.b K (by omega)).call ⟨_,rfl,ab.mk (λa4=>?_) (λa4=>?_)⟩
   ·rw[not_not]at a4;exact OA (by unfold iR;rw[a1,a2,a3,a4];rfl)
   ·rw[not_not]at a4;exact Fe (by unfold iR;rw[a1,a2,a3,a4];rfl)
  ·rintro u next hf
   rw[take_length]at hf;refine ab.f (by simp) ?_;rw[hE,hk];simp only[hf];rfl
theorem xG{p:Prod}(h:(bQ p).2.1=0):(cJ p).2=0/\dY p.conds 0 []=.ok (bQ p).2.2:=by
 unfold bQ at h |-;cases h1:(cJ p).2 != 0<;>rw[h1]at h
 ·have h0:(cJ p).2=0:=by simpa using h1
  refine⟨h0,?_⟩;simp only[cond_false]at h |-;cases h2:(p.conds.head?.map ae.kind).getD 0 != 1<;>rw[h2]at h
  ·simp only[cond_false]at h |-;cases hk:dY p.conds 0 []with
   |error e=>rw[hk]at h;simp at h
   |ok K=>
    rw[hk]at h;simp only at h |-;cases hf:iv K 0 p.bh with
    |some i=>rw[hf]at h;simp at h
    |none=>rfl
  ·simp at h
 ·simp only[cond_true]at h;simp[h]at h1
theorem aam(f:Fl)(l:List ae)(hs:ah l<=1000000):Pure prog 181 [.list 7 f (l.map ae.pv)] (pI (ah l:Nat)):=by
 refine av.of (Gq.c ?_);refine aa.mono (MN (.func 228) [] [] trivial (λ_ _=>True) (λ_=>False) _ f l 0 0 0 _ (le_refl _) (by omega) (by omega) trivial λk x μ hx _=>?_) ?_
 ·show aa _ _ _ _ _;rw[ae.cG];exact BR.c (.inl ⟨rfl,trivial⟩)
 ·rintro v μ (⟨rfl,_⟩|⟨x,_,h⟩)
  ·refine⟨_,_,rfl,?_⟩;rw[zero_add];rfl
  ·exact h.elim
@[reducible] def XO(l:List ae):PV:=.fn (.func 163) [] [.bk [.list 7 .sh (l.map ae.pv)] 0]
theorem aew(f:Fl)(l:List ae):Pure prog 113 [.list 7 f (l.map ae.pv)] (XO l):=av.of (Gr.c rfl)
theorem UA(l:List ae)(hs:ah l<=1000000):TO prog (XO l) ((cQ l 0 0).map λx=>[pI (x.1:Nat),.agg x.2.2.pv]):=by
 refine TO.mk λfy ya yb I S μ hy h0 cO=>?_;show aa _ _ [.fn fy ya yb,.bk [.list 7 .sh (l.map ae.pv)] 0] _ _;refine BS.c ⟨_,_,rfl,?_⟩;refine aa.mono (MN (.func 165) [] [.bk [.fn fy ya yb] 0] trivial I S _ .sh l 0 0 0 _ (le_refl _) (by omega) (by omega) h0 λk x μ hx hI=>?_) ?_
 ·have hk:k<(cQ l 0 0).length:=(List.getElem?_eq_some_iff.1 hx).1;have hxe:(cQ l 0 0)[k]=x:=(List.getElem?_eq_some_iff.1 hx).2;rw[zero_add]at hI |-;have:=cO k (by simpa using hk) μ hI;simp only[getElem_map,hxe]at this;show aa _ _ _ _ _;rw[ae.cG]at this |-;refine xV.c ⟨_,_,_,rfl,bJ.mono this ?_⟩;rintro v μ' (⟨rfl,h⟩|⟨rfl,h⟩)
  ·exact⟨_,rfl,.inl ⟨rfl,h⟩⟩
  ·exact⟨_,rfl,.inr ⟨rfl,h⟩⟩
 ·rintro v μ' (⟨rfl,h⟩|⟨x,rfl,h⟩)
  ·refine⟨_,_,rfl,.inl ?_⟩;rw[zero_add]at h;rw[length_map,nE];exact h
  ·exact⟨_,_,rfl,.inr h⟩
end Go.Proofs.YthaeiehophlooaaGreat
