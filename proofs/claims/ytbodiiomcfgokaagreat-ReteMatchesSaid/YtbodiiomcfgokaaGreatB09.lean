import Derived.Test.YtbodiiomcfgokaaGreatB08
open Int (toNat toNat_natCast)
open Go.IntKind (wrap)
open List (Pairwise.nil all_eq_true drop_drop drop_zero filter_append filter_cons filter_eq_self filter_map getElem?_eq_getElem getElem?_map getElem_drop getElem_map getElem_take length_append length_cons length_drop length_map length_take map_append map_cons mem_cons mem_filter mem_iff_getElem mem_map pairwise_cons set_cons_zero take_add_one take_append_drop take_length)
open Nat (le_trans min_eq_left sub_self succ_mul zero_add)
open Option (isNone)
set_option linter.all false
namespace Go.aP
open Go.RowKit
section
variable {T κ:Type} (ck:κ->κ->Int) (key:T->κ)
def b_(L:List T):Prop:=L.Pairwise λa b=>ck (key a) (key b)<0
def AS(k:κ)(y:T):Bool:=decide (ck (key y) k<0)
def Ft(k:κ)(y:T):Bool:=decide (0<ck (key y) k)
def FF(k:κ)(y:T):Bool:=decide (ck (key y) k=0)
def aL(k:κ)(L:List T):Option T:=L.find? (FF ck key k)
def Ut(k:κ)(L:List T):Nat:=(L.filter (AS ck key k)).length
def aZ(x:T)(L:List T):List T:=L.filter (AS ck key (key x))++x::L.filter (Ft ck key (key x))
def bY(k:κ)(L:List T):List T:=L.filter λy=> !FF ck key k y
def dq(x:T)(L:List T):List T:=if(aL ck key (key x) L).isSome then L else aZ ck key x L
end
section
variable {T κ:Type} {ck:κ->κ->Int} {key:T->κ}
theorem m_.self(hc:m_ ck)(a:κ):ck a a=0:=(hc.zero a a).2 rfl
theorem b_.up{L:List T}(h:b_ ck key L):Up ck (L.map key):=by
 unfold Up;rw[List.pairwise_map];exact h
theorem mM{α:Type}{p:α->Bool}{L:List α}{k:Nat}(hk:k<=L.length)(h1:∀(i:Nat) (h:i<L.length),i<k->p L[i]=true)(h2:∀(i:Nat) (h:i<L.length),k<=i->p L[i]=false):L.filter p=L.take k:=by
 have e:=take_append_drop k L;rw[<- e,filter_append];rw[filter_eq_self.2 λx hx=>?_,List.filter_eq_nil_iff.2 λx hx=>?_]
 ·simp[min_eq_left hk]
 ·obtain⟨i,hi,rfl⟩:=mem_iff_getElem.1 hx;rw[getElem_drop];simp only[length_drop]at hi;simp[h2 (k+i) (by omega) (by omega)]
 ·obtain⟨i,hi,rfl⟩:=mem_iff_getElem.1 hx;rw[getElem_take];simp only[length_take]at hi;exact h1 i (by omega) (by omega)
theorem qB{α:Type}{p:α->Bool}{L:List α}{k:Nat}(hk:k<=L.length)(h1:∀(i:Nat) (h:i<L.length),i<k->p L[i]=false)(h2:∀(i:Nat) (h:i<L.length),k<=i->p L[i]=true):L.filter p=L.drop k:=by
 have e:=take_append_drop k L;rw[<- e,filter_append];rw[List.filter_eq_nil_iff.2 λx hx=>?_,filter_eq_self.2 λx hx=>?_]
 ·simp[min_eq_left hk]
 ·obtain⟨i,hi,rfl⟩:=mem_iff_getElem.1 hx;rw[getElem_drop];simp only[length_drop]at hi;exact h2 (k+i) (by omega) (by omega)
 ·obtain⟨i,hi,rfl⟩:=mem_iff_getElem.1 hx;rw[getElem_take];simp only[length_take]at hi;simp[h1 i (by omega) (by omega)]
section
variable {L:List T} {x:κ} {k:Nat}
theorem bP.QH{there:Bool}(h:bP ck (L.map key) x k there)(i:Nat)(hi:i<L.length)(uB:i<k):ck (key L[i]) x<0:=by
 have:=h.low i (by simpa using hi) uB;simpa using this
theorem bP.leK{there:Bool}(h:bP ck (L.map key) x k there):k<=L.length:=by simpa using h.le
theorem bP.LZ(h:bP ck (L.map key) x k false)(i:Nat)(hi:i<L.length)(uB:k<=i):0<ck (key L[i]) x:=by
 have:=h.EY rfl i (by simpa using hi) uB;simpa using this
theorem bP.Zj(h:bP ck (L.map key) x k true):∃hk:k<L.length,key L[k]=x:=by
 obtain⟨h1,h2⟩:=h.Oc rfl;exact⟨by simpa using h1,by simpa using h2⟩
theorem bP.pos{there:Bool}(hc:m_ ck)(h:bP ck (L.map key) x k there)(hu:b_ ck key L):k=Ut ck key x L:=by
 unfold Ut;rw[mM (k:=k) h.leK (λi hi uB=>?_) (λi hi uB=>?_)]
 ·simp[h.leK]
 ·have:=h.QH i hi uB;simp[AS];omega
 ·cases there with
  |false=>have:=h.LZ i hi uB;simp[AS];omega
  |true=>
   obtain⟨hk,e⟩:=h.Zj;by_cases hik':i=k
   ·subst hik';simp[AS,e,hc.self]
   ·have h1:=hu.up.lt (i:=k) (j:=i) (by omega) (by simpa using hi);simp only[getElem_map]at h1;rw[e]at h1;have:=(hc.flip _ _).1 h1;simp[AS];omega
theorem bP.none(hc:m_ ck)(h:bP ck (L.map key) x k false):aL ck key x L=Option.none:=by
 unfold aL;rw[List.find?_eq_none];intro y hy;obtain⟨i,hi,rfl⟩:=mem_iff_getElem.1 hy;by_cases uB:i<k
 ·have:=h.QH i hi uB;simp[FF];omega
 ·have:=h.LZ i hi (by omega);simp[FF];omega
theorem zJ(hc:m_ ck)(hu:b_ ck key L)(hk:k<L.length)(e:key L[k]=x):aL ck key x L=some L[k]:=by
 unfold aL;rw[List.find?_eq_some_iff_getElem];refine⟨by simp[FF,e,hc.self],k,hk,rfl,λj hj=>?_⟩;have h1:=hu.up.lt (i:=j) (j:=k) hj (by simpa using hk);simp only[getElem_map]at h1;rw[e]at h1;simp[FF];omega
theorem bP.some(hc:m_ ck)(h:bP ck (L.map key) x k true)(hu:b_ ck key L):∃hk:k<L.length,aL ck key x L=Option.some L[k]:=by
 obtain⟨hk,e⟩:=h.Zj;exact⟨hk,zJ hc hu hk e⟩
theorem bP.isSome{there:Bool}(hc:m_ ck)(h:bP ck (L.map key) x k there)(hu:b_ ck key L):there=(aL ck key x L).isSome:=by
 cases there with
 |false=>rw[h.none hc];rfl
 |true=>obtain⟨_,e⟩:=h.some hc hu;rw[e];rfl
theorem bP.ins(hc:m_ ck){y:T}(h:bP ck (L.map key) (key y) k false):L.take k++y::L.drop k=aZ ck key y L:=by
 unfold aZ;rw[mM (k:=k) h.leK (λi hi uB=>?_) (λi hi uB=>?_),qB (k:=k) h.leK (λi hi uB=>?_) (λi hi uB=>?_)]
 ·have:=h.QH i hi uB;simp[Ft];omega
 ·have:=h.LZ i hi uB;simp[Ft];omega
 ·have:=h.QH i hi uB;simp[AS];omega
 ·have:=h.LZ i hi uB;simp[AS];omega
theorem bP.del(hc:m_ ck)(h:bP ck (L.map key) x k true)(hu:b_ ck key L):L.eraseIdx k=bY ck key x L:=by
 obtain⟨hk,e⟩:=h.Zj;have e1:=take_append_drop k L;have e2:L.drop k=L[k]::L.drop (k+1):=List.drop_eq_getElem_cons hk;rw[List.eraseIdx_eq_take_drop_succ];unfold bY
 conv=>rhs;rw[<- e1,e2]
 rw[filter_append,filter_cons];have h0:FF ck key x L[k]=true:=by simp[FF,e,hc.self]
 simp only[h0,Bool.not_true,Bool.false_eq_true,if_false];rw[filter_eq_self.2 λz hz=>?_,filter_eq_self.2 λz hz=>?_]
 ·obtain⟨i,hi,rfl⟩:=mem_iff_getElem.1 hz;rw[getElem_drop];simp only[length_drop]at hi;have h1:=hu.up.lt (i:=k) (j:=k+1+i) (by omega) (by simp;omega);simp only[getElem_map]at h1;rw[e]at h1;have:=(hc.flip _ _).1 h1;simp[FF];omega
 ·obtain⟨i,hi,rfl⟩:=mem_iff_getElem.1 hz;rw[getElem_take];simp only[length_take]at hi;have:=h.QH i (by omega) (by omega);simp[FF];omega
end
theorem bh(hc:m_ ck){x y:T}{L:List T}:y∈aZ ck key x L↔y=x\/(y∈L/\key y≠key x):=by
 unfold aZ;simp only[List.mem_append,mem_cons,mem_filter,AS,Ft,decide_eq_true_eq];have h0:key y=key x↔ck (key y) (key x)=0:=(hc.zero _ _).symm;constructor
 ·rintro(⟨h,h1⟩|h|⟨h,h1⟩)
  ·exact .inr ⟨h,λe=>by rw[h0]at e;omega⟩
  ·exact .inl h
  ·exact .inr ⟨h,λe=>by rw[h0]at e;omega⟩
 ·rintro(h|⟨h,h1⟩)
  ·exact .inr (.inl h)
  ·rw[ne_eq,h0]at h1;by_cases h2:ck (key y) (key x)<0
   ·exact .inl ⟨h,h2⟩
   ·exact .inr (.inr ⟨h,by omega⟩)
theorem eY(hc:m_ ck){k:κ}{y:T}{L:List T}:y∈bY ck key k L↔y∈L/\key y≠k:=by
 unfold bY;simp only[mem_filter,FF,Bool.not_eq_true',decide_eq_false_iff_not,hc.zero,ne_eq]
theorem b_.filter{L:List T}(h:b_ ck key L)(p:T->Bool):b_ ck key (L.filter p):=List.Pairwise.filter _ h
theorem b_.ins(hc:m_ ck){L:List T}(h:b_ ck key L)(x:T):b_ ck key (aZ ck key x L):=by
 unfold aZ b_;rw[List.pairwise_append,pairwise_cons];refine⟨h.filter _,⟨λy hy=>?_,h.filter _⟩,λy hy z hz=>?_⟩
 ·simp only[mem_filter,Ft,decide_eq_true_eq]at hy;exact(hc.flip _ _).2 hy.2
 ·simp only[mem_filter,AS,decide_eq_true_eq]at hy;rcases mem_cons.1 hz with rfl|hz
  ·exact hy.2
  ·simp only[mem_filter,Ft,decide_eq_true_eq]at hz;exact hc.trans _ _ _ hy.2 ((hc.flip _ _).2 hz.2)
theorem b_.del{L:List T}(h:b_ ck key L)(k:κ):b_ ck key (bY ck key k L):=h.filter _
theorem b_.put(hc:m_ ck){L:List T}(h:b_ ck key L)(x:T):b_ ck key (dq ck key x L):=by
 unfold dq;split
 ·exact h
 ·exact h.ins hc x
theorem b_.inj(hc:m_ ck){L:List T}(h:b_ ck key L){a b:T}(ha:a∈L)(hb:b∈L)(e:key a=key b):a=b:=by
 obtain⟨i,hi,rfl⟩:=mem_iff_getElem.1 ha;obtain⟨j,hj,rfl⟩:=mem_iff_getElem.1 hb;rcases Nat.lt_trichotomy i j with hl|rfl|hl
 ·have:=List.pairwise_iff_getElem.1 h i j hi hj hl;rw[e,hc.self]at this;omega
 ·rfl
 ·have:=List.pairwise_iff_getElem.1 h j i hj hi hl;rw[e,hc.self]at this;omega
theorem a_(hc:m_ ck){L:List T}(h:b_ ck key L){k:κ}{x:T}:aL ck key k L=some x↔x∈L/\key x=k:=by
 constructor
 ·intro e;have h1:=List.mem_of_find?_eq_some e;have h2:=List.find?_some e;exact⟨h1,(hc.zero _ _).1 (by simpa[FF]using h2)⟩
 ·rintro⟨hx,e⟩;obtain⟨i,hi,rfl⟩:=mem_iff_getElem.1 hx;exact zJ hc h hi e
theorem bz(hc:m_ ck){L:List T}{k:κ}:aL ck key k L=none↔∀x∈L,key x≠k:=by
 unfold aL;rw[List.find?_eq_none];simp only[FF,decide_eq_true_eq,hc.zero,ne_eq]
theorem b_.ext(hc:m_ ck):∀{L L':List T},b_ ck key L->b_ ck key L'->(∀x,x∈L↔x∈L')->L=L'
 |[],[],_,_,_=>rfl
 |[],y::L',_,_,h=>absurd ((h y).2 (by simp)) (by simp)
 |x::L,[],_,_,h=>absurd ((h x).1 (by simp)) (by simp)
 |x::L,y::L',h1,h2,h=>by
  have GA:=pairwise_cons.1 h1
  have Ms:=pairwise_cons.1 h2;have exy:x=y:=by
   rcases mem_cons.1 ((h x).1 (by simp))with e|hx
   ·exact e
   ·rcases mem_cons.1 ((h y).2 (by simp))with e|hy
    ·exact e.symm
    ·have a1:=Ms.1 x hx;have a2:=GA.1 y hy;have:=(hc.flip _ _).1 a1;omega
  subst exy;congr 1;refine b_.ext hc GA.2 Ms.2 λz=>?_;have hz:=h z;simp only[mem_cons]at hz;constructor
  ·intro hm;rcases hz.1 (.inr hm)with e|sr
   ·subst e;have:=GA.1 z hm;rw[hc.self]at this;omega
   ·exact sr
  ·intro hm;rcases hz.2 (.inr hm)with e|sr
   ·subst e;have:=Ms.1 z hm;rw[hc.self]at this;omega
   ·exact sr
theorem vl{x:T}{L:List T}:(aZ ck key x L).length<=L.length+1:=by
 have h:∀M:List T,(M.filter (AS ck key (key x))).length+(M.filter (Ft ck key (key x))).length<=M.length:=by
  intro M;induction M with
  |nil=>simp
  |cons y M ih=>
   simp only[filter_cons];by_cases h1:AS ck key (key x) y=true
   ·have h2:Ft ck key (key x) y=false:=by
     simp only[AS,decide_eq_true_eq]at h1;simp[Ft];omega
    simp only[h1,h2,if_true,length_cons];simp;omega
   ·simp only[Bool.not_eq_true]at h1;simp only[h1,Bool.false_eq_true,if_false];split
    ·simp only[length_cons];omega
    ·simp only[length_cons];omega
 have:=h L;unfold aZ;simp only[length_append,length_cons];omega
theorem Ay{x:T}{L:List T}:(dq ck key x L).length<=L.length+1:=by
 unfold dq;split
 ·omega
 ·exact vl
theorem vE{k:κ}{L:List T}:(bY ck key k L).length<=L.length:=List.length_filter_le _ _
end
section
variable {S T κ:Type} {ck:κ->κ->Int} {key:T->κ}
theorem b_.map{f:S->T}{L:List S}(h:b_ ck (λx=>key (f x)) L):b_ ck key (L.map f):=by unfold b_;rw[List.pairwise_map];exact h
theorem nG{f:S->T}{L:List S}{k:κ}:aL ck key k (L.map f)=(aL ck (λx=>key (f x)) k L).map f:=by unfold aL;rw[List.find?_map];rfl
theorem lL{f:S->T}{L:List S}{x:S}:aZ ck key (f x) (L.map f)=(aZ ck (λx=>key (f x)) x L).map f:=by
 unfold aZ;rw[filter_map,filter_map,map_append,map_cons];rfl
theorem BB{f:S->T}{L:List S}{k:κ}:bY ck key k (L.map f)=(bY ck (λx=>key (f x)) k L).map f:=by
 unfold bY;rw[filter_map];rfl
theorem b_.split(hc:m_ ck){L:List T}(hu:b_ ck key L){x:T}(hx:x∈L):aZ ck key x L=L:=by
 refine b_.ext hc (hu.ins hc x) hu λy=>?_;rw[bh hc];constructor
 ·rintro(rfl|⟨h,_⟩)
  ·exact hx
  ·exact h
 ·intro h;by_cases e:key y=key x
  ·exact .inl (hu.inj hc h hx e)
  ·exact .inr ⟨h,e⟩
theorem nD(hc:m_ ck){L:List T}{x:T}(h:aL ck key (key x) L=none):(aZ ck key x L).Perm (x::L):=by
 have hn:=(bz hc).1 h;have e:L.filter (Ft ck key (key x))=L.filter λy=> !AS ck key (key x) y:=List.filter_congr λy hy=>by
  have h0:=hn y hy;rw[ne_eq,<- hc.zero]at h0;simp only[Ft,AS];by_cases h1:ck (key y) (key x)<0
  ·simp[h1];omega
  ·simp[h1];omega
 unfold aZ;rw[e];exact List.perm_middle.trans (List.Perm.cons x (List.filter_append_perm _ L))
theorem Ny(hc:m_ ck){F:List T}{y:T}(h:∀x∈F,ck (key x) (key y)<0):dq ck key y F=F++[y]:=by
 have hn:aL ck key (key y) F=none:=(bz hc).2 λx hx e=>by
  have:=h x hx;rw[e,hc.self]at this;omega
 rw[dq,hn];show aZ ck key y F=_;unfold aZ;have f1:F.filter (AS ck key (key y))=F:=filter_eq_self.2 λx hx=>by
  simp only[AS,decide_eq_true_eq];exact h x hx
 have f2:F.filter (Ft ck key (key y))=[]:=List.filter_eq_nil_iff.2 λx hx=>by
  have:=h x hx;simp only[Ft,decide_eq_true_eq];omega
 rw[f1,f2]
theorem b_.at_(hc:m_ ck){L:List T}(hu:b_ ck key L){x:T}(hx:x∈L):∃A B,L=A++x::B/\bY ck key (key x) L=A++B/\∀y,key y=key x->aZ ck key y L=A++y::B:=by
 refine⟨L.filter (AS ck key (key x)),L.filter (Ft ck key (key x)),(hu.split hc hx).symm,?_,λy e=>by unfold aZ;rw[e]⟩
 conv=>lhs;rw[<- hu.split hc hx]
 unfold bY aZ;rw[filter_append,filter_cons];have h0:FF ck key (key x) x=true:=by simp[FF,hc.self]
 simp only[h0,Bool.not_true,Bool.false_eq_true,if_false];congr 1
 ·exact filter_eq_self.2 λy hy=>by
   simp only[mem_filter,AS,decide_eq_true_eq]at hy;simp[FF];omega
 ·exact filter_eq_self.2 λy hy=>by
   simp only[mem_filter,Ft,decide_eq_true_eq]at hy;simp[FF];omega
end
def aw(a b:Int):Int:=if a<b then -1 else if b<a then 1 else 0
theorem ar:m_ aw:=⟨λa b=>by unfold aw;split<;>(try split)<;>omega,λa b=>by unfold aw;repeat' split<;>omega,λa b d=>by unfold aw;repeat' split<;>omega⟩
theorem vF{a b:Int}:aw a b<0↔a<b:=by unfold aw;split<;>(try split)<;>omega
def cb(Ts e:TypeId)(sz:Nat)(b:Nat)(rows:Lq):aR:=λμ=>∃F,il Ts e sz μ b rows F
theorem cb.split{Ts e:TypeId}{sz b:Nat}{rows:Lq}{L:List aR}{μ:Mem}(hO:Ow (cb Ts e sz b rows::L) μ):∃F,il Ts e sz μ b rows F/\∀{μ':Mem} {Qd:Lq} {F':List Nat},Mv μ μ' F F'->il Ts e sz μ' b Qd F'->Ow (cb Ts e sz b Qd::L) μ':=by
 obtain⟨μ1,μ2,hs,rfl,⟨F,h⟩,hL⟩:=hO;refine⟨F,h.same λx hx=>?_,λ{μ' Qd F'} hm h'=>?_⟩
 ·cases hy:μ1 x with
  |none=>exact absurd hy (h.at_.2 x hx)
  |some o=>rw[Mem.bD hy]
 ·exact Ow.mv (A:=λ_=>True) ⟨μ1,μ2,hs,rfl,h.at_.2,hL⟩ hm λν hν=>⟨F',h'.same hν⟩
theorem Ar{T:Type}{pv:T->List PV}{sz:Nat}(h:∀x,(pv x).length=sz)(L:List T):∀r∈L.map pv,r.length=sz:=λr hr=>by
 obtain⟨x,_,rfl⟩:=mem_map.1 hr;exact h x
theorem ri{T:Type}{pv:T->List PV}(h:∀x,aU (pv x)=true)(L:List T):aU (L.map pv).flatten=true:=by
 unfold aU;rw[all_eq_true];intro x hx;obtain⟨r,hr,hx⟩:=List.mem_flatten.1 hx;obtain⟨y,_,rfl⟩:=mem_map.1 hr;exact all_eq_true.1 (h y) x hx
section
variable {T:Type} {pv:T->List PV}
theorem jA(L:List T)(j:Nat)(y:T):(L.take j++y::L.drop j).length=L.length+1:=by
 rw[length_append,length_cons,length_take,length_drop];omega
theorem HF(L:List T)(j:Nat)(y:T)(h0:0<j)(hj:j<=L.length):((L.take j++y::L.drop j).map pv).set j (pv (L[j-1]'(by omega)))=(L.take (j-1)++(L[j-1]'(by omega))::L.drop (j-1)).map pv:=by
 have e:L.drop (j-1)=L[j-1]'(by omega)::L.drop j:=by
  rw[List.drop_eq_getElem_cons (by omega)];congr 2;omega
 have e2:L.take j=L.take (j-1)++[L[j-1]'(by omega)]:=by
  have:=take_add_one (l:=L) (i:=j-1);rw[show j-1+1=j by omega,getElem?_eq_getElem (by omega)]at this;exact this
 have hlen:(L.take j).length=j:=by rw[length_take];omega
 rw[map_append,map_cons,List.set_append_right _ _ (by simp;omega)];simp only[length_map,hlen,sub_self,set_cons_zero];rw[e2,e,map_append,List.append_assoc,map_append];rfl
theorem Md(L:List T)(j:Nat)(x y:T)(hj:j<=L.length):((L.take j++y::L.drop j).map pv).set j (pv x)=(L.take j++x::L.drop j).map pv:=by
 have hlen:(L.take j).length=j:=by rw[length_take];omega
 rw[map_append,map_cons,List.set_append_right _ _ (by simp;omega)];simp only[length_map,hlen,sub_self,set_cons_zero];rw[map_append,map_cons]
theorem QY(L:List T)(j:Nat)(y:T)(h0:0<j)(hj:j<=L.length):((L.take j++y::L.drop j).map pv)[j-1]?=some (pv (L[j-1]'(by omega))):=by
 rw[getElem?_map,List.getElem?_append_left (by rw[length_take];omega),List.getElem?_take,if_pos (by omega),getElem?_eq_getElem (by omega)];rfl
def vc(L:List T)(k j:Nat):List T:=L.take k++(L.drop (k+1)).take (j-k)++L.drop j
theorem ack(L:List T)(k:Nat):vc L k k=L:=by simp[vc,take_append_drop]
theorem QE{L:List T}{k j:Nat}(h1:k<=j)(h2:j<L.length):(vc L k j).length=L.length:=by
 simp only[vc,length_append,length_take,length_drop];omega
theorem UI{L:List T}{k j:Nat}(h1:k<=j)(h2:j+1<L.length):(vc L k j)[j+1]?=some (L[j+1]'h2):=by
 unfold vc;have hl:(L.take k++(L.drop (k+1)).take (j-k)).length=j:=by
  simp only[length_append,length_take,length_drop];omega
 rw[List.getElem?_append_right (by omega),hl,List.getElem?_drop,getElem?_eq_getElem (by omega)];congr 2;omega
theorem NK{L:List T}{k j:Nat}(h1:k<=j)(h2:j+1<L.length):(vc L k j).set j (L[j+1]'h2)=vc L k (j+1):=by
 unfold vc;have hl:(L.take k++(L.drop (k+1)).take (j-k)).length=j:=by
  simp only[length_append,length_take,length_drop];omega
 rw[List.set_append_right _ _ (by omega),hl,sub_self];have e1:L.drop j=(L[j]'(by omega))::L.drop (j+1):=List.drop_eq_getElem_cons (by omega);rw[e1,set_cons_zero];have e2:(L.drop (k+1)).take (j+1-k)=(L.drop (k+1)).take (j-k)++[L[j+1]'h2]:=by
  rw[show j+1-k=j-k+1 by omega,take_add_one,List.getElem?_drop,getElem?_eq_getElem (by omega)];simp only[Option.toList_some];congr 3;omega
 rw[e2];simp
theorem QF{L:List T}{k:Nat}(hk:k<L.length):vc L k (L.length-1)=L.eraseIdx k++[L[L.length-1]'(by omega)]:=by
 unfold vc;rw[List.eraseIdx_eq_take_drop_succ];have e1:(L.drop (k+1)).take (L.length-1-k)=L.drop (k+1):=List.take_of_length_le (by simp;omega);have e2:L.drop (L.length-1)=[L[L.length-1]'(by omega)]:=by
  rw[List.drop_eq_getElem_cons (by omega)];congr 1;exact List.drop_of_length_le (by omega)
 rw[e1,e2]
end
def Le(b:Nat)(cs:List PV)(μ:Mem):Prop:=∃T,μ b=some (.cells T cs)\/μ b=some (.ro T cs)
theorem Le.rd{b:Nat}{cs:List PV}{μ:Mem}(h:Le b cs μ){o n:Nat}(hl:o+n<=cs.length):ay μ b o n=some ((cs.drop o).take n):=by
 obtain⟨T,h|h⟩:=h
 ·exact aJ h hl
 ·exact wV h hl
def yU(μ μ':Mem):Prop:=∀b,μ b≠none->μ' b=μ b
theorem yU.new{μ:Mem}{b:Nat}(hb:μ b=none)(o:Option Ob):yU μ (μ.set b o):=λx hx=>Mem.ax _ _ (by rintro rfl;exact hx hb)
theorem Le.adR{b:Nat}{cs:List PV}{μ μ':Mem}(h:Le b cs μ)(hg:yU μ μ'):Le b cs μ':=by
 obtain⟨T,h⟩:=h;refine⟨T,?_⟩;rw[hg b (by rcases h with h|h<;>rw[h]<;>simp)];exact h
def Ul(μ:Mem):Mem:=λb=>match μ b with|some (.cells T cs)=>some (.ro T cs)|some (.ro T cs)=>some (.ro T cs)|_=>none
theorem Yf{μ:Mem}{b:Nat}{T:TypeId}{cs:List PV}(h:μ b=some (.cells T cs)):Le b cs (Ul μ):=⟨T,.inr (by simp[Ul,h])⟩
theorem dM.agb{P:Program}{g:FuncId}{args:List PV}{μ:Mem}{K:Kq}{Kq:PV->Prop}(h:aa P g args (Ul μ) λp μ'=>yU (Ul μ) μ'/\Kq p)(hk:∀p,Kq p->K p M0):dM P g args μ K:=λZ u vs hg hw ha=>by
 have WU:∀b o,Ul μ b=some o->(o.rw=true->False)/\ze Z u b o/\Z b=none:=λb o ho=>by
  unfold Ul at ho;split at ho
  ·rename_i T cs hb;cases ho;obtain⟨_,hz,hA⟩:=hg.mem b _ hb;exact⟨λh=>(by cases h),⟨hz,hA⟩,hz⟩
  ·rename_i T cs hb;cases ho;obtain⟨_,hz,hA⟩:=hg.mem b _ hb;exact⟨λh=>(by cases h),⟨hz,hA⟩,hz⟩
  ·cases ho
 obtain⟨hc,dA⟩:=h Z ⟨u.toWorld,λ_=>False⟩ vs ⟨hg.Gq,λb o e=>⟨λhr=>(WU b o e).1 hr,by
  have:=(WU b o e).2.1
  cases o with
  |cells T cs=>exact this
  |nh n m=>exact this
  |obj o F S=>exact this
  |ro T cs=>exact this⟩⟩ (λ_ h=>h.elim) ha
 refine⟨hc,dA.Dy λv lo w' _ _ hp=>?_⟩;obtain⟨Z',μ',p,e,g',hr,Vk,hK⟩:=hp;refine⟨Z',M0,p,⟨e.le,λb C hC _=>e.zs b C hC ?_,λb hb=>?_,λb hb=>absurd rfl hb,e.lt⟩,⟨g'.Gq,λb o h=>by cases h⟩,hr,hk p hK⟩
 ·cases hx:Ul μ b with
  |none=>rfl
  |some o=>rw[(WU b o hx).2.2]at hC;cases hC
 ·rcases e.zn b hb with h1|h1|h1
  ·exact .inl h1
  ·exfalso;have hm:=Vk b h1;cases hx:Ul μ b with
   |none=>exact h1 hx
   |some o=>
    rw[hx]at hm;have h2:=(g'.mem b o hm).2;have h3:=(WU b o hx);unfold Ul at hx;split at hx
    ·cases hx;exact hb h2.1
    ·cases hx;exact hb h2.1
    ·cases hx
  ·exact .inr (.inr h1)
theorem Nf{X:List PV}{sz o m:Nat}(h:o+m<=sz):(X.drop o).take m=((X.take sz).drop o).take m:=by
 rw[List.drop_take,List.take_take,min_eq_left (by omega)]
theorem Yl{cs r:List PV}{A sz o m:Nat}(hr:(cs.drop A).take sz=r)(h:o+m<=sz):(cs.drop (A+o)).take m=(r.drop o).take m:=by
 rw[<- hr,<- Nf h,drop_drop]
theorem XQ{cs r vs:List PV}{A sz o:Nat}(hA:A+sz<=cs.length)(hr:(cs.drop A).take sz=r)(h:o+vs.length<=sz):dx cs (A+o) vs=dx cs A (dx r o vs):=by
 have vp:r.length=sz:=by rw[<- hr,length_take,length_drop];omega
 unfold dx;have e1:cs.take (A+o)=cs.take A++r.take o:=by
  rw[List.take_add,<- hr,List.take_take,min_eq_left (by omega)]
 have e2:cs.drop (A+o+vs.length)=r.drop (o+vs.length)++cs.drop (A+sz):=by
  have:cs.drop (A+o+vs.length)=(cs.drop A).drop (o+vs.length):=by rw[drop_drop];congr 1;omega
  rw[this];have h2:cs.drop A=r++cs.drop (A+sz):=by
   rw[<- hr,<- drop_drop,take_append_drop]
  conv=>lhs;rw[h2]
  rw[List.drop_append_of_le_length (by omega)]
 have e3:(r.take o++vs++r.drop (o+vs.length)).length=sz:=by
  simp only[length_append,length_take,length_drop];omega
 rw[e1,e2,e3];simp
theorem cA.at_{e:TypeId}{sz n c:Nat}{a:Option Addr}{rows:Lq}{L:List aR}{μ:Mem}(i:Nat)(hO:Ow L μ)(hi:L[i]?=some (cA e sz (.raw (.slice a n c)) rows))(hr:∀r∈rows,r.length=sz){j:Nat}(hj:j<rows.length):
  ∃b,a=some ⟨b,0,none⟩/\(∀o m,o+m<=sz->ay μ b (0+j*sz+o) m=some ((rows[j].drop o).take m))/\
   ∀(o:Nat) (vs:List PV) (K:Mem->Prop),o+vs.length<=sz->(∀μ',Ow (L.set i (cA e sz (.raw (.slice a n c)) (rows.set j (dx rows[j] o vs)))) μ'->K μ')->stM b (0+j*sz+o) vs μ K:=by
 have sv:=Ow.at i hi hO;obtain⟨F,hv,μ1,μ2,hs,e0,hF,hL⟩:=cA.split sv;rcases hv with⟨_,rfl,_⟩|⟨b,c',rest,hp,rfl,hm,hlen,hc⟩
 ·simp at hj
 ·simp only[PV.raw.injEq,Value.slice.injEq]at hp;obtain⟨rfl,rfl,rfl⟩:=hp;have kP:rows.flatten.length=rows.length*sz:=dT hr;have hle:j*sz+sz<=rows.length*sz:=by rw[<- succ_mul];exact Nat.mul_le_mul_right _ hj
  have d_:((rows.flatten++rest).drop (j*sz)).take sz=rows[j]:=by
   have:=Hi (s:=j) hr hm (getElem?_eq_getElem hj);simp only[ay,hm]at this;split at this
   ·simpa using this
   ·cases this
  refine⟨b,rfl,λo m h=>?_,λo vs K h hK=>?_⟩
  ·have:ay μ b (0+j*sz+o) m=some (((rows.flatten++rest).drop (0+j*sz+o)).take m):=by
    simp only[ay,hm];rw[if_pos (by rw[length_append,kP];omega)]
   rw[this,zero_add,Yl d_ h]
  ·have vp:rows[j].length=sz:=hr _ (List.getElem_mem hj);have hwl:(dx rows[j] o vs).length=sz:=by
    unfold dx;simp only[length_append,length_take,length_drop];omega
   refine⟨_,_,hm,by rw[length_append,kP];omega,hK _ (Ow.back i (rk hi) ?_)⟩;rw[zero_add,XQ (by rw[length_append,kP];omega) d_ h,CW hr hj hwl];refine Ow.mv (A:=λ_=>True) (F:=[b]) (F':=[b]) ⟨μ1,μ2,hs,e0,hF,hL⟩ ((Mv.set (.inl (by simp))).sub (by simp)) λν hν=>⟨[b],.inr ⟨b,c,rest,by simp,rfl,?_,by simpa using hlen,by simpa using hc⟩⟩;rw[hν b (by simp),Mem.ao]
theorem MS{e:TypeId}{sz bytes:Nat}{f:Fl}{rows:Lq}{L:List aR}{μ:Mem}{K:Option Addr->Nat->Nat->Mem->Prop}(hO:Ow L μ)(hr:∀r∈rows,r.length=sz)(hc:aU rows.flatten=true)(hb:rows.length*bytes<=140737488355328)(pJ:rows.length<4611686018427387904)
  (hk:∀a c μ',Ow (cA e sz (.raw (.slice a rows.length c)) rows::L) μ'->K a rows.length c μ'):fA sz bytes e none 0 0 (.list sz f rows) μ K:=by
 have Yv:qd sz sz rows=true:=by simp[qd,Nat.beq_refl]
 unfold fA EU;simp only[Yv,cond_true,zero_add];refine⟨hb,pJ,Nat.le_refl _,?_⟩;cases rows with
 |nil=>exact .inl ⟨rfl,λh=>absurd rfl h,hk none 0 μ (cA.nil e sz hO)⟩
 |cons r rs=>
  refine .inr ⟨by simp,hc,λh=>by simp at h,λ_=>⟨[],.inl ⟨trivial,rfl⟩,λb' c' hn su=>?_⟩⟩;rw[List.nil_append];refine hk _ c' _ ?_;have kP:(r::rs).flatten.length=(r::rs).length*sz:=dT hr;refine(hO.new e _ hn).imp λν hν=>⟨[b'],.inr ⟨b',c',_,rfl,rfl,hν,?_,su⟩⟩;rw[List.length_replicate,<- Nat.add_mul];congr 1;omega
theorem cA.view{e:TypeId}{sz:Nat}{p:PV}{rows:Lq}{L:List aR}{μ:Mem}(i:Nat)(hO:Ow L μ)(hi:L[i]?=some (cA e sz p rows))(hr:∀r∈rows,r.length=sz)(hc:aU rows.flatten=true):gy μ p (.list sz .sh rows):=by
 obtain⟨F,h,_⟩:=cA.split (Ow.at i hi hO);exact h.view hr hc
theorem RX{Z:Fz}{u:UW}{μ:Mem}{b:Nat}{T:TypeId}{cs:List PV}{r:Value}(hg:Good Z u μ)(hb:μ b=some (.cells T cs))(hc:aU cs=true)(hr:bR Z (pP b 0) r):bR (jv Z u λx=>if x∈[b]then μ x else none) (.bj cs 0) r:=by
 have gs:Good Z u (λx=>if x∈[b]then μ x else none):=hg.sub λx o hx=>by
  by_cases hm:x∈[b]
  ·simpa[hm]using hx
  ·simp[hm]at hx
 obtain⟨A,hz,hm⟩:=MU (cs:=cs) gs (b:=b) (by simp[hb,cellsOf]);rw[hr.ofRaw.1];have sq:=(hm.mono (gW gs)).c hc;refine .bj cs 0 b 0 A.toList (λj=>(A.toList[j]?).getD undef) hz (λj hj=>?_) (λj p hp=>?_) (λj p hp=>?_)
 ·have bI:j<A.toList.length:=by rw[hm.1];exact hj
  rw[zero_add,getElem?_eq_getElem bI];rfl
 ·exact all_eq_true.1 hc p (List.mem_of_getElem? hp)
 ·have bI:j<A.toList.length:=by rw[hm.1];exact(List.getElem?_eq_some_iff.1 hp).1
  have:=sq.2 j p A.toList[j] hp (getElem?_eq_getElem bI);simp only[getElem?_eq_getElem bI,Option.getD_some];exact this.2
def Mem.inc(ν μ:Mem):Prop:=∀b o,ν b=some o->μ b=some o
theorem Un{ν μ:Mem}(h:Mem.inc ν μ){b o n:Nat}{cs:List PV}(hr:ay ν b o n=some cs):ay μ b o n=some cs:=by
 unfold ay at hr |-;cases hb:ν b with
 |none=>rw[hb]at hr;cases hr
 |some ob=>rw[hb]at hr;rw[h b ob hb];exact hr
theorem gy.inc{ν μ:Mem}(h:Mem.inc ν μ){c d:PV}(hb:gy ν c d):gy μ c d:=by
 induction hb with
 |same c=>exact .same c
 |wk c=>exact .wk c
 |nil sz rows=>exact .nil sz rows
 |JW a k sz spot=>exact .JW a k sz spot
 |lst b o k sz rows cs cap each cell read _ ih=>exact .lst b o k sz rows cs cap each cell (Un h read) ih
 |agg hl cell _ ih=>exact .agg hl cell ih
 |az hl ok _ ih=>exact .az hl ok ih
theorem dC.append{μ:Mem}{cs ds Oy ds':List PV}(h:dC μ cs ds)(k:dC μ Oy ds'):dC μ (cs++Oy) (ds++ds'):=by
 refine⟨by rw[length_append,length_append,h.1,k.1],λi c d h1 h2=>?_⟩;by_cases hi:i<cs.length
 ·rw[List.getElem?_append_left hi]at h1;rw[List.getElem?_append_left (by rw[<- h.1];exact hi)]at h2;exact h.2 i c d h1 h2
 ·rw[List.getElem?_append_right (by omega)]at h1;rw[List.getElem?_append_right (by rw[<- h.1];omega),<- h.1]at h2;exact k.2 _ c d h1 h2
theorem dC.flat{T:Type}{μ:Mem}{f g:T->List PV}:∀{X:List T},(∀x∈X,dC μ (f x) (g x))->dC μ (X.map f).flatten (X.map g).flatten
 |[],_=>dC.nil μ
 |x::X,h=>by
  simp only[map_cons,List.flatten_cons]
  exact(h x (by simp)).append (dC.flat λy hy=>h y (by simp[hy]))
theorem Ow.mem:∀{L:List aR} {μ:Mem},Ow L μ->∀A∈L,∃ν,A ν/\Mem.inc ν μ
 |[],_,_,A,hA=>by cases hA
 |B::L,μ,h,A,hA=>by
  obtain⟨μ1,μ2,hs,rfl,hB,hL⟩:=h
  rcases mem_cons.1 hA with rfl|hA
  ·exact⟨μ1,hB,λb o hb=>Mem.bD hb⟩
  ·obtain⟨ν,h1,h2⟩:=Ow.mem hL A hA;refine⟨ν,h1,λb o hb=>?_⟩;have qv:=h2 b o hb;rw[Mem.bH ((hs b).resolve_right (by rw[qv];simp))];exact qv
theorem cA.raw{e:TypeId}{sz:Nat}{p:PV}{rows:Lq}{μ:Mem}(h:cA e sz p rows μ):∃a c,p=.raw (.slice a rows.length c):=by
 obtain⟨F,h⟩:=h;rcases h with⟨rfl,rfl,_⟩|⟨b,c,rest,rfl,_⟩
 ·exact⟨none,0,rfl⟩
 ·exact⟨_,c,rfl⟩
theorem cA.wX{e:TypeId}{sz:Nat}{p:PV}{rows:Lq}{L:List aR}{μ:Mem}(h:Ow (cA e sz p rows::L) μ):∃a c,p=.raw (.slice a rows.length c):=h.fact λ_ hv=>cA.raw hv
theorem cA.deep{T:Type}{e:TypeId}{sz:Nat}{p:PV}{f g:T->List PV}{X:List T}{ν μ:Mem}(hv:cA e sz p (X.map f) ν)(hi:Mem.inc ν μ)(hf:∀x∈X,(f x).length=sz)(hg:∀x∈X,(g x).length=sz)(hc:∀x∈X,aU (g x)=true)(h:∀x∈X,dC μ (f x) (g x)):gy μ p (.list sz .sh (X.map g)):=by
 obtain⟨F,hv⟩:=hv;have kP:∀r∈X.map f,r.length=sz:=λr hr=>by obtain⟨x,hx,rfl⟩:=mem_map.1 hr;exact hf x hx
 have Vm:∀r∈X.map g,r.length=sz:=λr hr=>by obtain⟨x,hx,rfl⟩:=mem_map.1 hr;exact hg x hx
 rcases hv with⟨rfl,h0,_⟩|⟨b,c,rest,rfl,_,hm,hlen,hle⟩
 ·have:X=[]:=by cases X with|nil=>rfl|cons x X=>simp at h0
  subst this;exact .JW none 0 sz (.inl rfl)
 ·have adp:(X.map f).flatten.length=(X.map f).length*sz:=dT kP;have hln:(X.map f).length=(X.map g).length:=by simp
  rw[hln];refine .lst b 0 c sz (X.map g) (X.map f).flatten (by rw[<- hln];exact hle) Vm ?_ ?_ λi c d h1 h2=>(dC.flat h).2 i c d h1 h2
  ·refine all_eq_true.2 λx hx=>?_;obtain⟨r,hr,hx⟩:=List.mem_flatten.1 hx;obtain⟨y,hy,rfl⟩:=mem_map.1 hr;exact all_eq_true.1 (hc y hy) x hx
  ·have yB:=hi b _ hm;rw[<- hln];simp only[ay,yB];rw[if_pos (by simp[adp]),drop_zero,<- adp,List.take_left'];rfl
end Go.aP
namespace Go.Proofs.YtbodiiomcfgokaaGreat
open Go.Proofs.Tryz Go.aP Go.RowKit
abbrev BC(c:ae):List PV:=[pI c.kind,pB c.goal,pS c.id,.list 6 .sh (c.attr.map Test.pv),.list 6 .sh (c.value.map Test.pv),pB c.acc,.list 7 .sh (c.conds.map ae.pv)]
@[reducible] def PX(c:ae)(l:List aP.Bind)(es:PV):PV:=.fn (.func 231) [] [.bj [es] 0,.bj (BC c) 0,.bj [.list 4 .sh (l.map Bind.pv)] 0]
theorem ain{L:List aR}{μ:Mem}(h:Ow L μ):Ow ((λ_=>True)::L) μ:=⟨M0,μ,Mem.sT μ,(Mem.Eh μ).symm,trivial,h⟩
theorem Sw(fe:Fn)(fa fb:List PV)(c:ae)(f1 f2 f3 fl:Fl)(l:List aP.Bind)(hn:l.length<=1000000):Pure prog 167 [.agg [pI c.kind,pB c.goal,pS c.id,.list 6 f1 (c.attr.map Test.pv),.list 6 f2 (c.value.map Test.pv),pB c.acc,.list 7 f3 (c.conds.map ae.pv)],.fn fe fa fb,.list 4 fl (l.map Bind.pv)] (PX c l (.fn fe fa fb)):=by
 refine aa.freeze (K:=λv μ'=>∃b5,v=.fn (.func 231) [] [.bj [.fn fe fa fb] 0,.bj (BC c) 0,pP b5 0]/\μ' b5=some (.cells 84 [.list 4 .sh (l.map Bind.pv)])) (IL.c λb5 TA=>?_) ?_
 ·have O1:=(Ow.new (L:=[]) 84 [.list 4 fl (l.map Bind.pv)] trivial TA);refine⟨_,_,O1.rd 0 rfl (by simp),(KJ _ l (by omega)).call ⟨_,_,rfl,O1.st 0 rfl (by simp) λu2 O2=>⟨b5,rfl,O2.get 0 rfl⟩⟩⟩
 ·rintro v μ' ⟨b5,rfl,hb⟩;refine⟨_,M0,[b5],λZ u r hg hr=>?_,λb o h=>(by cases h),rfl⟩;obtain⟨fv,cv,rfl,h1,h2⟩:=hr.ofFn;obtain⟨v1,_,rfl,_,q1,h2⟩:=h2.inv;obtain⟨v2,_,rfl,_,q2,h2⟩:=h2.inv;obtain⟨v3,_,rfl,_,q3,h2⟩:=h2.inv;obtain rfl:=h2.mT;obtain rfl:=h1.mT;have gs:aP.Good Z u (λx=>if x∈[b5]then μ' x else none):=hg.sub λx o hx=>by
   by_cases hm:x∈[b5]
   ·simpa[hm]using hx
   ·simp[hm]at hx
  have hle:=gW gs;exact bn.Eo (bn.nil _) (bn.cons rfl (q1.mono hle) (bn.cons rfl (q2.mono hle) (bn.cons rfl (RX hg hb rfl q3) (bn.nil _))))
@[reducible] def PU(x:aj×List aP.Bind):List PV:=[.agg x.1.pv,.list 4 .sh (x.2.map Bind.pv)]
theorem Qa{c:ae}{l:List aP.Bind}{es:List aj}{fe:Fn}{fa fb:List PV}{A A':aR}(hs:gG prog (.fn fe fa fb) (es.map λe=>[.agg e.pv]) A A')(hn:l.length+1+c.attr.length+c.value.length<=1000000)(ha:∀t∈c.attr,t.list.length<=1000000)(hv:∀t∈c.value,t.list.length<=1000000):
  gG prog (PX c l (.fn fe fa fb)) ((aX c l es).map PU) A A':=by
 refine gG.mk λfy ya yb I S C μ hy hO h0 cO=>?_;show aa _ _ [.fn fy ya yb,.bj [.fn fe fa fb] 0,.bj (BC c) 0,.bj [.list 4 .sh (l.map Bind.pv)] 0] _ _;refine CK.c λb4 Gz=>⟨_,_,_,rfl,_,_,_,rfl,?_⟩;have O1:=hO.new 345 [.fn fy ya yb] Gz;refine bu.own hs O1.swap (λk u=>Ow [Pt b4 345 [.fn fy ya yb],I (aX c l (es.take k)).length] u) (λcd u=>cd=.ret/\Ow [S] u) (λk=>eC.own _) (λcd=>eC.and (eC.own _)) (λμ' h'=>?_) ?_ ?_ ?_
 ·have h2:=h'.swap.tail h0;simpa[aX]using h2
 ·intro k hk u R hI ca iE;have bZ:k<es.length:=by simpa using hk
  rw[getElem_map];have gf:=nV (c:=c) (l:=l) (es:=es) bZ;refine⟨_,_,_,_,_,_,_,_,_,_,_,_,rfl,_,_,_,_,_,_,_,_,_,_,rfl,_,_,rfl,?_⟩;refine(SP .sh .sh .sh .sh c es[k] l hn ha hv).call ?_;cases hc:c_ c es[k] l with
  |none=>
   refine⟨_,_,_,rfl,ab.f rfl (ca _ ?_)⟩;rw[gf,hc];simpa using hI
  |some r=>
   refine⟨_,_,_,rfl,ab.t rfl ⟨_,_,_,hI.rd 0 rfl (by simp),?_⟩⟩;obtain⟨hj,nE⟩:=PW bZ hc;have Jd:(aX c l (es.take k)).length<((aX c l es).map PU).length:=by simpa using hj
   have fC:∀ν,I (aX c l (es.take k)).length ν->bJ prog (.fn fy ya yb) [.agg es[k].pv,.list 4 .sh (r.map Bind.pv)] ν λv μ'=>(v=pB true/\Ow [I ((aX c l (es.take k)).length+1)] μ')\/(v=pB false/\Ow [S] μ'):=λν hν=>by
    have h:=cO _ Jd ν hν;rw[getElem_map,nE]at h;exact h
   refine Ow.yQ hI.swap fC λp u2 h3=>?_
   ·rcases Ow.sR (A:=I ((aX c l (es.take k)).length+1)) (B:=S) h3 with⟨rfl,h4⟩|⟨rfl,h4⟩
    ·refine⟨_,rfl,ab.f rfl (ca _ ?_)⟩;rw[gf,hc];simpa using h4.swap
    ·exact⟨_,rfl,ab.t rfl (iE _ _ ⟨rfl,h4.swap.drop⟩)⟩
 ·intro u hI;simp only[length_map]at hI |-;rw[take_length]at hI;exact .inl hI.drop
 ·rintro cd u ⟨rfl,h⟩;exact .inr h
end Go.Proofs.YtbodiiomcfgokaaGreat
namespace Go.aP
open Go.RowKit
structure SD where
 P:Program
 TS:TypeId
 TE:TypeId
 W:Nat
 B:Nat
 fc:FuncId
 X:(List PV->Prop)->Prop
 E:List PV->PV
 Z:List PV
section
variable (D:SD) (a0:Option Addr) (u0:Mem) (K:Kq) (c:List PV) (e:PV)
def NL(s:Int×Int):Int:=wrap .i64 (s.1+(wrap .i64 (Int.tdiv (wrap .i64 (s.2-s.1)) (2))))
def SD.find:Prop:=
 nP a0 λb o=>
 ∃f l,ay u0 b o 1=some [.list D.W f l]/\
 ak (α:=Int×Int) (λnext s u=>
  ab (decide ((s.1:Int)<s.2))
  (((2):Int)≠0/\
   nP a0 λON ND=>
   ∃f l,ay u ON ND 1=some [.list D.W f l]/\
   (0:Int)<=NL s/\∃(r:List PV),l[toNat (NL s)]?=some r/\
   D.X λy=>aA r 0 D.W=some y/\
   (∀v,pv D.P (method (D.P.types.size+Made.depth) D.TE v "Compare")=some (D.fc,v))/\
   aa D.P D.fc [D.E (y.map bU),e] u λv qZ=>
   ∃x,v=(pI x)/\
   ab ((x:Int) == (0))
   (K (.az [pI (NL s),pB true]) qZ)
   (ab (decide ((x:Int)<(0)))
    (next ((wrap .i64 (NL s+(1))),s.2) qZ)
    (next (s.1,NL s) qZ)))
  (K (.az [pI s.1,pB false]) u))
 ((0),(l.length:Int)) u0
def SD.place(ff:FuncId):Prop:=
 ab (isNone a0)
 (K (.az [pI (0),pB false]) u0)
 (aa D.P ff [pA a0,e] u0 λv u=>
  ∃p q,v=(.az [pI p,pB q])/\K (.az [pI p,pB q]) u)
def SD.get(ff:FuncId):Prop:=
 ab (isNone a0)
 (K (.az [D.E D.Z,pB false]) u0)
 (aa D.P ff [pA a0,e] u0 λv u=>
  ∃p q,v=(.az [pI p,pB q])/\
  ab (!q)
  (K (.az [D.E D.Z,pB false]) u)
  (nP a0 λb o=>
   ∃f l,ay u b o 1=some [.list D.W f l]/\
   (0:Int)<=p/\∃(r:List PV),l[toNat p]?=some r/\
   D.X λy=>aA r 0 D.W=some y/\
   K (.az [D.E y,pB true]) u))
def SD.Ok(ff:FuncId):Prop:=
 ab (isNone a0)
 (K (.az [D.E D.Z,pB false]) u0)
 (aa D.P ff [pA a0,e] u0 λv u=>
  ∃p q,v=(.az [pI p,pB q])/\
  ab (!q)
  (K (.az [D.E D.Z,pB false]) u)
  (nP a0 λb o=>
   ∃s n m,ay u b o 1=some [pV s n m]/\
   bp s λON ND=>
   (0:Int)<=p/\p<((n:Nat):Int)/\
   D.X λy=>ay u ON (ND+toNat p*D.W) D.W=some y/\
   K (.az [D.E y,pB true]) u))
def SD.len:Prop:=
 ab (isNone a0)
 (K (pI (0)) u0)
 (nP a0 λb o=>
  ∃f l,ay u0 b o 1=some [.list D.W f l]/\
  K (pI (l.length:Int)) u0)
def SD.own:Prop:=
 nP a0 λb o=>
 ∃s,ay u0 b (o+1) 1=some [pB s]/\
 ab s
 (nP a0 λON ND=>
  ∃f1 l1,ay u0 ON ND 1=some [.list D.W f1 l1]/\
  nP a0 λS_ QA=>
  ∃f l,ay u0 S_ QA 1=some [.list D.W f l]/\
  (0:Int)<=(0)/\(0)<=(wrap .i64 ((l1.length:Int)+(1)))/\(wrap .i64 ((l1.length:Int)+(1)))<(4611686018427387904:Int)/\toNat (wrap .i64 ((l1.length:Int)+(1)))*D.B<=140737488355328/\
  ∀(BM:Nat),u0 BM=none->
  fA D.W D.B D.TE (some ⟨BM,0,none⟩) (toNat (0)) (toNat (wrap .i64 ((l1.length:Int)+(1)))) (.list D.W f l) (Mem.set u0 BM (some (.cells D.TE (List.flatten (List.replicate (toNat (wrap .i64 ((l1.length:Int)+(1)))) D.Z))))) λs18 af4 af5 u=>
  nP a0 λSZ Qz=>
  stM SZ Qz [pV s18 af4 af5] u λqZ=>
  nP a0 λWb UC=>
  stM Wb (UC+1) [pB false] qZ λwD=>
  K (.az []) wD)
 (K (.az []) u0)
def SD.put(ff fo:FuncId):Prop:=
 ab (isNone a0)
 (K (pB false) u0)
 (aa D.P ff [pA a0,e] u0 λv u=>
  ∃p q,v=(.az [pI p,pB q])/\
  ab q
  (K (pB false) u)
  (aa D.P fo [pA a0] u λPz qZ=>
   Pz=(.az [])/\
   nP a0 λb o=>
   ∃x23 abu abv,ay qZ b o 1=some [pV x23 abu abv]/\
   fA D.W D.B D.TE x23 abu abv (.list D.W .nr [c]) qZ λs26 af2 af3 wD=>
   nP a0 λON ND=>
   stM ON ND [pV s26 af2 af3] wD λLv=>
   nP a0 λS_ QA=>
   ∃x32 Pw XP,ay Lv S_ QA 1=some [pV x32 Pw XP]/\
   ak (α:=Int) (λnext s Gr=>
    ab (decide ((s:Int)>p))
    (nP a0 λSZ Qz=>
     ∃Wu Pv XO,ay Gr SZ Qz 1=some [pV Wu Pv XO]/\
     nP a0 λWb UC=>
     ∃x48 abl afy,ay Gr Wb UC 1=some [pV x48 abl afy]/\
     bp x48 λb_5 YA=>
     (0:Int)<=(wrap .i64 (s-(1)))/\(wrap .i64 (s-(1)))<((abl:Nat):Int)/\
     D.X λy=>ay Gr b_5 (YA+toNat (wrap .i64 (s-(1)))*D.W) D.W=some y/\
     bp Wu λb_6 o_6=>
     (0:Int)<=s/\s<((Pv:Nat):Int)/\
     stM b_6 (o_6+toNat s*D.W) y Gr λLu=>
     next (wrap .i64 (s-(1))) Lu)
    (nP a0 λb_7 o_7=>
     ∃x57 abk afv,ay Gr b_7 o_7 1=some [pV x57 abk afv]/\
     bp x57 λb_8 o_8=>
     (0:Int)<=p/\p<((abk:Nat):Int)/\
     stM b_8 (o_8+toNat p*D.W) c Gr λWw=>
     K (pB true) Ww))
   (wrap .i64 (((Pw:Nat):Int)-(1))) Lv))
def SD.drop(ff fo:FuncId):Prop:=
 ab (isNone a0)
 (K (pB false) u0)
 (aa D.P ff [pA a0,e] u0 λv u=>
  ∃p q,v=(.az [pI p,pB q])/\
  ab (!q)
  (K (pB false) u)
  (aa D.P fo [pA a0] u λPz qZ=>
   Pz=(.az [])/\
   ak (α:=Int) (λnext s wD=>
    nP a0 λb o=>
    ∃x26 abr afD,ay wD b o 1=some [pV x26 abr afD]/\
    ab (decide (((wrap .i64 (s+(1))):Int)<((abr:Nat):Int)))
    (nP a0 λON ND=>
     ∃x34 abq afC,ay wD ON ND 1=some [pV x34 abq afC]/\
     nP a0 λS_ QA=>
     ∃x39 abo afA,ay wD S_ QA 1=some [pV x39 abo afA]/\
     bp x39 λSZ Qz=>
     (0:Int)<=(wrap .i64 (s+(1)))/\(wrap .i64 (s+(1)))<((abo:Nat):Int)/\
     D.X λy=>ay wD SZ (Qz+toNat (wrap .i64 (s+(1)))*D.W) D.W=some y/\
     bp x34 λWb UC=>
     (0:Int)<=s/\s<((abq:Nat):Int)/\
     stM Wb (UC+toNat s*D.W) y wD λLv=>
     next (wrap .i64 (s+(1))) Lv)
    (nP a0 λb_5 YA=>
     ∃x49 afx M_,ay wD b_5 YA 1=some [pV x49 afx M_]/\
     nP a0 λb_6 o_6=>
     ∃x53 TH afw,ay wD b_6 o_6 1=some [pV x53 TH afw]/\
     gZ x49/\(0:Int)<=(0:Int)/\(0:Int)<=(wrap .i64 (((TH:Nat):Int)-(1)))/\(wrap .i64 (((TH:Nat):Int)-(1)))<=((M_:Nat):Int)/\((M_:Nat):Int)<=((M_:Nat):Int)/\
     nP a0 λb_7 o_7=>
     stM b_7 o_7 [pV (yY x49 (toNat (0:Int)) (toNat ((M_:Nat):Int)) D.W) (toNat (wrap .i64 (((TH:Nat):Int)-(1)))-toNat (0:Int)) (toNat ((M_:Nat):Int)-toNat (0:Int))] wD λGr=>
     K (pB true) Gr))
   p qZ))
def SD.new(fp:FuncId)(l:Lq):Prop:=
 cl u0 D.TS [.list D.W .nil [],pB false] λb7 u=>
 ak (α:=Int) (λnext s qZ=>
  ab (decide ((s:Int)<(l.length:Int)))
  ((0:Int)<=s/\∃(r12:List PV),l[toNat s]?=some r12/\
   D.X λy=>aA r12 0 D.W=some y/\
   aa D.P fp [pP b7 0,D.E (y.map bU)] qZ λv wD=>
   ∃x16,v=(pB x16)/\
   next (wrap .i64 (s+(1))) wD)
  (K (pP b7 0) qZ))
 (0) u
def SD.from_(a1:Int)(a2:Fn)(Cm Ck:List PV):Prop:=
 nP a0 λb o=>
 stM b (o+1) [pB true] u0 λu=>
 nP a0 λON ND=>
 ∃f l,ay u ON ND 1=some [.list D.W f l]/\
 ak (α:=Int) (λnext s qZ=>
  ab (decide ((s:Int)<(l.length:Int)))
  ((0:Int)<=s/\∃(r25:List PV),l[toNat s]?=some r25/\
   D.X λy=>aA r25 0 D.W=some y/\
   bJ D.P (.fn a2 Cm Ck) [D.E (y.map bU)] qZ λv wD=>
   ∃x27,v=(pB x27)/\
   ab (!x27)
   (K (.az []) wD)
   (next (wrap .i64 (s+(1))) wD))
  (K (.az []) qZ))
 a1 u
def SD.zc(ff:FuncId)(a0:Fn)(Co Cn c0:List PV):Prop:=
 ∃x3,aA c0 0 1=some [pA x3]/\
 ab (!(isNone x3))
 (∃x5,aA c0 0 1=some [pA x5]/\
  aa D.P ff [pA x5,pI (0),.fn a0 Co Cn] u0 λv u=>
  v=(.az [])/\
  K (.az []) u)
 (K (.az []) u0)
end
structure MX(D:SD){El κ:Type}(pr:El->List PV)(arg:El->PV)(key:El->κ)(ck:κ->κ->Int):Prop where
 hX:∀(x:El) (Q:List PV->Prop),Q (pr x)->D.X Q
 len:∀x,(pr x).length=D.W
 Xy:∀x,aU (pr x)=true
 wk:∀x,(pr x).map bU=pr x
 E:∀x,D.E (pr x)=arg x
 hc:m_ ck
 cmp:∀a b,Pure D.P D.fc [arg a,arg b] (pI (ck (key a) (key b)))
 agf:∀v,pv D.P (method (D.P.types.size+Made.depth) D.TE v "Compare")=some (D.fc,v)
 zl:D.Z.length=D.W
 W0:0<D.W
 B0:D.B<=1000
namespace MX
variable {D:SD} {El κ:Type} {pr:El->List PV} {arg:El->PV} {key:El->κ} {ck:κ->κ->Int} (S:MX D pr arg key ck)
include S
theorem each(l:List El):∀r∈l.map pr,r.length=D.W:=Ar S.len l
theorem cell(l:List El):aU (l.map pr).flatten=true:=ri S.Xy l
theorem row(x:El):aA (pr x) 0 D.W=some (pr x):=by
 have:=S.W0;unfold aA;rw[if_pos ⟨by rw[S.len];omega,S.W0⟩,drop_zero,<- S.len x,take_length]
theorem E'(x:El):D.E ((pr x).map bU)=arg x:=by rw[S.wk,S.E]
variable {nf:FuncId} (hf:∀{x:El} {a0:Option Addr} {u0:Mem} {K:Kq},D.find a0 u0 K (arg x)->aa D.P nf [pA a0,arg x] u0 K)
section
include hf
theorem KM(b:Nat)(s:Bool)(l:List El)(hu:b_ ck key l)(hl:l.length<=4000000000000000000)(x:El):aa D.P nf [pP b 0,arg x] (M0.set b (some (.ro D.TS [.list D.W .sh (l.map pr),pB s]))) λp _=>∃(k:Nat) (t:Bool),p=.az [pI k,pB t]/\bP ck (l.map key) (key x) k t:=by
 have hc:=S.hc;refine hf ?_;refine⟨_,_,wV (Mem.ao _ _ _) (by simp),?_⟩;have dS:∀u,u=M0.set b (some (.ro D.TS [.list D.W .sh (l.map pr),pB s]))->ay u b 0 1=some [.list D.W .sh (l.map pr)]:=λu h=>by rw[h];exact wV (Mem.ao _ _ _) (by simp)
 rw[length_map];have huu:=hu.up;have rD:(l.map key).length=l.length:=by simp
 refine ak.bin (n:=l.length) (by omega) (λi=>if h:i<l.length then ck (key l[i]) (key x)else 1) (λu=>u=M0.set b (some (.ro D.TS [.list D.W .sh (l.map pr),pB s]))) rfl ?_ ?_ ?_ ?_
 ·intro i j Km hj h;rw[dif_pos hj]at h;rw[dif_pos (Nat.lt_trans Km hj)];have:=huu.WI hc (x:=key x) Km (by simpa using hj) (by simpa using h);simpa using this
 ·intro i j Km hj h;rw[dif_pos (Nat.lt_trans Km hj)]at h;rw[dif_pos hj];have:=huu.WH hc (x:=key x) Km (by simpa using hj) (by simpa using h);simpa using this
 ·intro lo hi wF u next bI hhi Za Mm hA h1 h2 h3
  subst hA;rw[dif_pos Mm]at h1 h2 h3;refine ab.t (by simpa using bI) ⟨by decide,?_⟩;refine⟨_,_,dS _ rfl,?_⟩;dsimp only[NL];rw[acm bI (by omega),<- Za];refine⟨by omega,_,aC Mm,S.hX _ _ ⟨S.row _,S.agf,?_⟩⟩;rw[S.E'];refine(S.cmp l[wF] x).call ⟨_,rfl,ab.mk (λh=>?_) (λh=>ab.mk (λh'=>?_) (λh'=>?_))⟩
  ·have h0:ck (key l[wF]) (key x)=0:=by simpa using h
   refine⟨wF,true,rfl,by rw[rD];omega,λi hi uB=>?_,λ_=>⟨by rw[rD];exact Mm,by rw[getElem_map];exact(hc.zero _ _).1 h0⟩,λh=>by cases h⟩;have:=h3 h0 i uB;rw[dif_pos (by rw[rD]at hi;exact hi)]at this;rw[getElem_map];exact this
  ·have h0:ck (key l[wF]) (key x)<0:=by simpa using h'
   have:=h1 h0 _ rfl;rw[aD (by omega) (by omega)];exact this
  ·have h0:0<ck (key l[wF]) (key x):=by
    have a1:ck (key l[wF]) (key x)≠0:=by simpa using h
    have a2:¬ck (key l[wF]) (key x)<0:=by simpa using h'
    omega
   exact h2 h0 _ rfl
 ·intro k u next hA hk h1 h2
  refine ab.f (by simp) ?_;refine⟨k,false,rfl,by rw[rD];exact hk,λi hi uB=>?_,λh=>(by cases h),λ_ i hi uB=>?_⟩
  ·have:=h1 i uB;rw[rD]at hi;rw[dif_pos hi]at this;rw[getElem_map];exact this
  ·rw[rD]at hi;have:=h2 i uB hi;rw[dif_pos hi]at this;rw[getElem_map];exact this
theorem rq{μ:Mem}{b:Nat}{l:List El}{F:List Nat}(h:il D.TS D.TE D.W μ b (l.map pr) F)(hu:b_ ck key l)(hl:l.length<=4000000000000000000)(x:El){K:Kq}(hk:∀(k:Nat) (t:Bool),bP ck (l.map key) (key x) k t->K (.az [pI k,pB t]) μ):aa D.P nf [pP b 0,arg x] μ K:=
 il.query h (λs=>KM S hf b s l hu hl x) (λp ⟨k,t,e,_⟩=>by rw[e];rfl) λp ⟨k,t,e,hf⟩=>by rw[e];exact hk k t hf
theorem qH{n:FuncId}(hn:∀{x:El} {a0:Option Addr} {u0:Mem} {K:Kq},D.place a0 u0 K (arg x) nf->aa D.P n [pA a0,arg x] u0 K) ⦃L:List aR⦄ ⦃μ:Mem⦄ ⦃b:Nat⦄ ⦃l:List El⦄ (hO:Ow (cb D.TS D.TE D.W b (l.map pr)::L) μ) (hu:b_ ck key l) (hl:l.length<=4000000000000000000) (x:El) ⦃K:Kq⦄ (hk:K (.az [pI (Ut ck key (key x) l:Nat),pB (aL ck key (key x) l).isSome]) μ):aa D.P n [pP b 0,arg x] μ K:=by
 obtain⟨F,h,_⟩:=cb.split hO;refine hn (ab.f rfl (S.rq hf h hu hl x λk t hf=>⟨_,_,rfl,?_⟩));rw[hf.pos S.hc hu,hf.isSome S.hc hu];exact hk
theorem kj{n:FuncId}(hn:∀{x:El} {a0:Option Addr} {u0:Mem} {K:Kq},D.get a0 u0 K (arg x) nf->aa D.P n [pA a0,arg x] u0 K)(hr:∀{x:El} {a0:Option Addr} {u0:Mem} {K:Kq},D.Ok a0 u0 K (arg x) nf->aa D.P n [pA a0,arg x] u0 K) ⦃L:List aR⦄ ⦃μ:Mem⦄ ⦃b:Nat⦄ ⦃l:List El⦄ (hO:Ow (cb D.TS D.TE D.W b (l.map pr)::L) μ) (hu:b_ ck key l) (hl:l.length<=4000000000000000000) (x:El) ⦃K:Kq⦄ (h1:∀y,aL ck key (key x) l=some y->K (.az [arg y,pB true]) μ) (h0:aL ck key (key x) l=none->K (.az [D.E D.Z,pB false]) μ):aa D.P n [pP b 0,arg x] μ K:=by
 have hc:=S.hc;obtain⟨F,h,_⟩:=cb.split hO;have YK:∀k,bP ck (l.map key) (key x) k true->∃hk:k<l.length,K (.az [arg l[k],pB true]) μ:=λk hf=>by
  obtain⟨hk,e⟩:=hf.some hc hu;exact⟨hk,h1 _ e⟩
 have none_:∀{k},l.map pr=[]->bP ck (l.map key) (key x) k true->False:=λhn hf=>by
  obtain⟨hk,_⟩:=YK _ hf;have:=congrArg List.length hn;simp at this;subst this;simp at hk
 rcases h.NQ with⟨_,hm⟩|⟨_,Ty,hm⟩|Jb
 ·refine hn (ab.f rfl (S.rq hf h hu hl x λk t hf=>⟨_,_,rfl,ab.mk (λht=>?_) (λht=>?_)⟩))
  ·have ht:t=false:=by simpa using ht
   subst ht;exact h0 (hf.none hc)
  ·have ht:t=true:=by simpa using ht
   subst ht;obtain⟨hk,hK⟩:=YK k hf;refine⟨_,_,aJ hm (by simp),by omega,_,aC hk,S.hX _ _ ⟨S.row _,?_⟩⟩;rw[S.E];exact hK
 ·refine hn (ab.f rfl (S.rq hf h hu hl x λk t hf=>⟨_,_,rfl,ab.mk (λht=>?_) (λht=>?_)⟩))
  ·have ht:t=false:=by simpa using ht
   subst ht;exact h0 (hf.none hc)
  ·have ht:t=true:=by simpa using ht
   subst ht;exact(none_ Ty hf).elim
 ·refine hr (ab.f rfl (S.rq hf h hu hl x λk t hf=>⟨_,_,rfl,ab.mk (λht=>?_) (λht=>?_)⟩))
  ·have ht:t=false:=by simpa using ht
   subst ht;exact h0 (hf.none hc)
  ·have ht:t=true:=by simpa using ht
   subst ht;obtain⟨hk,hK⟩:=YK k hf;rcases Jb with⟨_,Ty,_⟩|⟨b',c,rest,_,_,hm,sr,_⟩
   ·exact(none_ Ty hf).elim
   ·refine⟨_,_,_,aJ hm (by simp),by omega,by simpa using hk,S.hX l[k] _ ⟨?_,?_⟩⟩
    ·rw[toNat_natCast,zero_add];exact Hi (S.each l) sr (by rw[getElem?_map,getElem?_eq_getElem hk];rfl)
    ·rw[S.E];exact hK
end
omit S in
theorem Iu{n:FuncId}(hn:∀{a0:Option Addr} {u0:Mem} {K:Kq},D.len a0 u0 K->aa D.P n [pA a0] u0 K) ⦃L:List aR⦄ ⦃μ:Mem⦄ ⦃b:Nat⦄ ⦃l:List El⦄ (hO:Ow (cb D.TS D.TE D.W b (l.map pr)::L) μ) ⦃K:Kq⦄ (hk:K (pI (l.length:Nat)) μ):aa D.P n [pP b 0] μ K:=by
 obtain⟨F,h,_⟩:=cb.split hO;refine il.query h (Kq:=λp=>p=pI (l.length:Nat)) (λs=>hn (ab.f rfl ⟨_,_,wV (Mem.ao _ _ _) (by simp),by simp⟩)) (λp e=>by rw[e];rfl) λp e=>by rw[e];exact hk
section
variable {no:FuncId} (ho:∀{a0:Option Addr} {u0:Mem} {K:Kq},D.own a0 u0 K->aa D.P no [pA a0] u0 K)
include ho
theorem KJ{μ:Mem}{b:Nat}{l:List El}{F:List Nat}(h:il D.TS D.TE D.W μ b (l.map pr) F)(hl:l.length<=1000000000){K:Kq}(hk:∀μ' F',sC D.TS D.TE D.W μ' b (l.map pr) F'->Mv μ μ' F F'->K (.az []) μ'):aa D.P no [pP b 0] μ K:=by
 obtain⟨μ0,hG,Pl,Rs⟩:=h.raw;refine aa.pre hG (ho ?_);have hB:=S.B0;have hmul:∀m,m<=1000000001->m*D.B<=140737488355328:=λm hm=>le_trans (Nat.mul_le_mul hm hB) (by decide);rcases Rs with⟨rfl,hm⟩|hr
 ·refine⟨true,aJ hm (by simp),ab.t rfl ?_⟩;refine⟨_,_,aJ hm (by simp),?_⟩;refine⟨_,_,aJ hm (by simp),?_⟩;rw[length_map,aD (by omega) (by omega)];have hn:toNat ((l.length:Int)+1)=l.length+1:=by omega
  rw[hn];refine⟨by omega,by omega,by omega,hmul _ (by omega),λBM Fp=>?_⟩;have aQ:BM≠b:=by rintro rfl;rw[hm]at Fp;cases Fp
  have DH:=S.zl;refine ID (Mem.ao _ _ _) (by simp[DH]) (by simp) (S.each l) (S.cell l) (by rw[length_map];exact hmul _ (by omega)) (by simp;omega) ?_;rw[Mem.set_set];refine⟨_,_,by rw[Mem.ax _ _ (Ne.symm aQ)];exact hm,by simp,?_⟩;refine⟨_,_,Mem.ao _ _ _,by simp[dx],?_⟩;rw[Mem.set_set];refine hk _ [b,BM] (.inr ⟨BM,l.length+1,_,rfl,aQ,by first|(rw[Mem.ao];rfl)|rw[Mem.ao],by rw[Mem.ax _ _ aQ,Mem.ao],?_,by simp⟩) (Pl.trans ?_)
  ·simp only[length_drop,List.length_flatten,List.map_replicate,List.sum_replicate_nat,DH,length_map];have:l.length*D.W<=(l.length+1)*D.W:=Nat.mul_le_mul_right _ (by omega);omega
  ·exact((Mv.set (F:=[b]) (.inr Fp)).trans (Mv.set (.inl (by simp)))).sub (by simp)
 ·obtain⟨a,c,hm,_⟩:=hr.app (S.each l);exact⟨false,aJ hm (by simp),ab.f rfl (hk μ0 F hr Pl)⟩
include hf
theorem fL{n:FuncId}(hn:∀{x:El} {a0:Option Addr} {u0:Mem} {K:Kq},D.put a0 u0 K (pr x) (arg x) nf no->aa D.P n [pA a0,arg x] u0 K) ⦃L:List aR⦄ ⦃μ:Mem⦄ ⦃b:Nat⦄ ⦃l:List El⦄ (hO:Ow (cb D.TS D.TE D.W b (l.map pr)::L) μ) (hu:b_ ck key l) (hl:l.length<=999999999) (x:El) ⦃K:Kq⦄ (hk:∀μ',Ow (cb D.TS D.TE D.W b ((dq ck key x l).map pr)::L) μ'->K (pB (aL ck key (key x) l).isNone) μ'):aa D.P n [pP b 0,arg x] μ K:=by
 have hc:=S.hc;have hB:=S.B0;have each:=S.each;obtain⟨F,h,yE⟩:=cb.split hO;refine hn ?_;refine ab.f rfl (S.rq hf h hu (by omega) x λk t hf=>⟨_,_,rfl,ab.mk (λht=>?_) (λht=>?_)⟩)
 ·subst ht;obtain⟨_,e⟩:=hf.some hc hu;have:=hk μ (by rw[dq,e];exact hO);rw[e]at this;exact this
 ·subst ht;have en:=hf.none hc;have e1:dq ck key x l=l.take k++x::l.drop k:=by rw[dq,en,hf.ins hc];rfl
  rw[e1,en]at hk;refine S.KJ ho h (by omega) λμ1 F1 hr yC=>⟨rfl,?_⟩;obtain⟨a,c,hb,kg⟩:=hr.app (each l);refine⟨_,_,_,aJ hb (by simp),?_⟩;simp only[length_map]at kg;rw[length_map];refine kg (pr x) _ _ (S.len x) (S.Xy x) (le_trans (Nat.mul_le_mul (show l.length+1<=1000000000 by omega) hB) (by decide)) (by omega) λb' c' rest μ2 aQ e2 jY ja su sq=>?_;refine⟨_,_,e2.trans hb,by simp,?_⟩;refine⟨_,_,_,aJ (Mem.ao _ _ _) (by simp[dx]),?_⟩;have hn1:wrap .i64 (((l.length+1:Nat):Int)-1)=(l.length:Int):=by rw[aD (by omega) (by omega)];omega
  rw[hn1];have hle:=hf.leK;have room:∀(j:Nat) (y:El) (i:Nat) (r:List PV),i<=l.length->r.length=D.W->0+i*D.W+r.length<=(((l.take j++y::l.drop j).map pr).flatten++rest).length:=λj y i r hi vp=>by
   have kP:=dT (each (l.take j++y::l.drop j));rw[length_map,jA]at kP;rw[length_append,kP,vp,zero_add,<- succ_mul];exact le_trans (Nat.mul_le_mul_right _ (by omega)) (Nat.le_add_right _ _)
  refine ak.down hle (by omega) (λj u=>∃y,u b=some (.cells D.TS [.raw (.slice (some ⟨b',0,none⟩) (l.length+1) c'),pB false])/\u b'=some (.cells D.TE (((l.take j++y::l.drop j).map pr).flatten++rest))/\Mv μ2 u [b,b'] [b,b']) ⟨x,?_,?_,?_⟩ ?_ ?_
  ·rw[Mem.ao];rfl
  ·rw[Mem.ax _ _ aQ,jY,take_length,List.drop_length];simp
  ·exact(Mv.set (.inl (by simp))).sub (by simp)
  ·rintro j u next Zg Tz ⟨y,i1,i2,i3⟩ av
   refine ab.t (by simpa using Zg) ?_;refine⟨_,_,_,aJ i1 (by simp),?_⟩;refine⟨_,_,_,aJ i1 (by simp),?_⟩;have Mp:wrap .i64 ((j:Int)-1)=((j-1:Nat):Int):=by rw[aD (by omega) (by omega)];omega
   have dS:ay u b' (0+toNat (wrap .i64 ((j:Int)-1))*D.W) D.W=some (pr (l[j-1]'(by omega))):=by
    rw[Mp,toNat_natCast,zero_add];exact Hi (each _) i2 (QY l j y (by omega) Tz)
   refine⟨by rw[Mp];omega,by rw[Mp];omega,S.hX _ _ ⟨dS,?_⟩⟩;refine⟨by omega,by omega,_,_,i2,?_,av _ ⟨l[j-1]'(by omega),?_,?_,?_⟩⟩
   ·rw[toNat_natCast];exact room j y j _ Tz (S.len _)
   ·rw[Mem.ax _ _ (Ne.symm aQ)];exact i1
   ·rw[Mem.ao,toNat_natCast,zero_add,CW (r:=pr (l[j-1]'(by omega))) (each _) (by rw[length_map,jA];omega) (S.len _),HF l j y (by omega) Tz]
   ·exact(i3.trans (Mv.set (.inl (by simp)))).sub (by simp)
  ·rintro u next ⟨y,i1,i2,i3⟩
   refine ab.f (by simp) ?_;refine⟨_,_,_,aJ i1 (by simp),?_⟩;refine⟨by omega,by omega,_,_,i2,?_,?_⟩
   ·rw[toNat_natCast];exact room k y k _ hle (S.len _)
   ·rw[toNat_natCast,zero_add,CW (r:=pr x) (each _) (by rw[length_map,jA];omega) (S.len _),Md l k x y hle];refine hk (u.set b' (some (.cells D.TE (((l.take k++x::l.drop k).map pr).flatten++rest)))) (yE (F':=[b,b']) (yC.trans (sq.trans ((i3.trans (Mv.set (.inl (by simp)))).sub (by simp)))) ⟨each _,S.cell _,.inr (.inr (.inr ⟨b',c',rest,rfl,aQ,?_,Mem.ao _ _ _,?_,?_⟩))⟩)
    ·rw[Mem.ax _ _ (Ne.symm aQ),i1,length_map,jA]
    ·rw[length_map,jA];exact ja
    ·rw[length_map,jA];exact su
theorem gA{n:FuncId}(hn:∀{x:El} {a0:Option Addr} {u0:Mem} {K:Kq},D.drop a0 u0 K (arg x) nf no->aa D.P n [pA a0,arg x] u0 K) ⦃L:List aR⦄ ⦃μ:Mem⦄ ⦃b:Nat⦄ ⦃l:List El⦄ (hO:Ow (cb D.TS D.TE D.W b (l.map pr)::L) μ) (hu:b_ ck key l) (hl:l.length<=999999999) (x:El) ⦃K:Kq⦄ (hk:∀μ',Ow (cb D.TS D.TE D.W b ((bY ck key (key x) l).map pr)::L) μ'->K (pB (aL ck key (key x) l).isSome) μ'):aa D.P n [pP b 0,arg x] μ K:=by
 have hc:=S.hc;have each:=S.each;have hW:=S.W0;obtain⟨F,h,yE⟩:=cb.split hO;refine hn ?_;refine ab.f rfl (S.rq hf h hu (by omega) x λk t hf=>⟨_,_,rfl,ab.mk (λht=>?_) (λht=>?_)⟩)
 ·have ht:t=false:=by simpa using ht
  subst ht;have en:=hf.none hc;have e1:bY ck key (key x) l=l:=by
   unfold bY;refine filter_eq_self.2 λy hy=>?_;have:=(bz hc).1 en y hy;simp only[FF,Bool.not_eq_true',decide_eq_false_iff_not,hc.zero];exact this
  rw[e1,en]at hk;exact hk μ hO
 ·have ht:t=true:=by simpa using ht
  subst ht;obtain⟨Gx,es⟩:=hf.some hc hu;rw[<- hf.del hc hu,es]at hk;refine S.KJ ho h (by omega) λμ1 F1 hr yC=>⟨rfl,?_⟩;rcases hr with⟨_,hn,_⟩|⟨b',c,rest,rfl,aQ,hb,jY,ja,Mr⟩
  ·have:(l.map pr).length=0:=by rw[hn];rfl
   simp at this;subst this;simp at Gx
  ·rw[length_map]at hb ja Mr;refine ak.from (s:=k) (n:=l.length-1) (by omega) (by omega) (λj u=>u b=some (.cells D.TS [.raw (.slice (some ⟨b',0,none⟩) l.length c),pB false])/\u b'=some (.cells D.TE (((vc l k j).map pr).flatten++rest))/\Mv μ1 u [b,b'] [b,b']) ⟨hb,by rw[ack];exact jY,Mv.refl _ _⟩ ?_ ?_
   ·rintro j u next Zg Tz ⟨i1,i2,i3⟩ av
    have Mp:wrap .i64 ((j:Int)+1)=((j+1:Nat):Int):=by rw[aD (by omega) (by omega)];omega
    have pG:((vc l k j).map pr).length=l.length:=by rw[length_map,QE Zg (by omega)]
    have dS:ay u b' (0+toNat (wrap .i64 ((j:Int)+1))*D.W) D.W=some (pr (l[j+1]'(by omega))):=by
     rw[Mp,toNat_natCast,zero_add];exact Hi (each _) i2 (by rw[getElem?_map,UI Zg (by omega)];rfl)
    refine⟨_,_,_,aJ i1 (by simp),ab.t (by rw[Mp];simp;omega) ?_⟩;refine⟨_,_,_,aJ i1 (by simp),?_⟩;refine⟨_,_,_,aJ i1 (by simp),?_⟩;refine⟨by rw[Mp];omega,by rw[Mp];omega,S.hX _ _ ⟨dS,?_⟩⟩;refine⟨by omega,by omega,_,_,i2,?_,av _ ⟨?_,?_,?_⟩⟩
    ·have kP:=dT (each (vc l k j));rw[pG]at kP;rw[length_append,kP,toNat_natCast,S.len,zero_add,<- succ_mul];exact le_trans (Nat.mul_le_mul_right _ (by omega)) (Nat.le_add_right _ _)
    ·rw[Mem.ax _ _ (Ne.symm aQ)];exact i1
    ·rw[Mem.ao,toNat_natCast,zero_add,CW (r:=pr (l[j+1]'(by omega))) (each _) (by rw[pG];omega) (S.len _),<- List.map_set,NK Zg (by omega)]
    ·exact(i3.trans (Mv.set (.inl (by simp)))).sub (by simp)
   ·rintro u next ⟨i1,i2,i3⟩
    have Mp:wrap .i64 (((l.length-1:Nat):Int)+1)=((l.length:Nat):Int):=by rw[aD (by omega) (by omega)];omega
    have hj2:wrap .i64 (((l.length:Nat):Int)-1)=((l.length-1:Nat):Int):=by rw[aD (by omega) (by omega)];omega
    refine⟨_,_,_,aJ i1 (by simp),ab.f (by rw[Mp];simp) ?_⟩;refine⟨_,_,_,aJ i1 (by simp),?_⟩;refine⟨_,_,_,aJ i1 (by simp),?_⟩;refine⟨λa ha=>by cases ha;rfl,by omega,by rw[hj2];omega,by rw[hj2];omega,by omega,_,_,i1,by simp,?_⟩;rw[hj2];have Pn:(l.eraseIdx k).length=l.length-1:=by rw[List.length_eraseIdx,if_pos Gx]
    refine hk _ (yE (F':=[b,b']) (yC.trans ((i3.trans (Mv.set (.inl (by simp)))).sub (by simp))) ⟨each _,S.cell _,.inr (.inr (.inr ⟨b',c,pr (l[l.length-1]'(by omega))++rest,rfl,aQ,?_,?_,?_,?_⟩))⟩)
    ·rw[Mem.ao,length_map,Pn];have e0:yY (some ⟨b',0,none⟩) (toNat 0) (toNat ((c:Nat):Int)) D.W=some ⟨b',0,none⟩:=by
      unfold yY;rw[if_neg (by simp;omega)];simp
     rw[e0];simp[dx]
    ·rw[Mem.ax _ _ aQ,i2,QF Gx,map_append,List.flatten_append];simp
    ·rw[length_map,Pn,length_append,S.len,<- Nat.add_assoc,<- succ_mul,show(l.length-1).succ=l.length by omega];exact ja
    ·rw[length_map,Pn];omega
end
theorem aek ⦃L:List aR⦄ ⦃μ:Mem⦄ ⦃b:Nat⦄ (hO:Ow L μ) (hb:μ b=none):Ow (cb D.TS D.TE D.W b (([]:List El).map pr)::L) (μ.set b (some (.cells D.TS [.list D.W .nil [],pB false]))):=
 (hO.new D.TS [.list D.W .nil [],pB false] hb).imp λν hν=>⟨[b],S.each [],S.cell [],.inr (.inl ⟨rfl,rfl,hν⟩)⟩
theorem gj{np n:FuncId}(hp:∀ ⦃L:List aR⦄ ⦃μ:Mem⦄ ⦃b:Nat⦄ ⦃l:List El⦄,Ow (cb D.TS D.TE D.W b (l.map pr)::L) μ->b_ ck key l->l.length<=999999999->∀(x:El) ⦃K:Kq⦄,(∀μ',Ow (cb D.TS D.TE D.W b ((dq ck key x l).map pr)::L) μ'->K (pB (aL ck key (key x) l).isNone) μ')->aa D.P np [pP b 0,arg x] μ K)
  (hn:∀{fl:Fl} {l:Lq} {u0:Mem} {K:Kq},D.new u0 K np l->aa D.P n [.list D.W fl l] u0 K) ⦃L:List aR⦄ ⦃μ:Mem⦄ (hO:Ow L μ) (fl:Fl) (xs:List El) (hx:xs.length<=1000000) ⦃K:Kq⦄ (hk:∀μ' b,Ow (cb D.TS D.TE D.W b ((xs.foldl (λl x=>dq ck key x l) []).map pr)::L) μ'->K (pP b 0) μ'):aa D.P n [.list D.W fl (xs.map pr)] μ K:=by
 have hc:=S.hc;refine hn λb hb=>?_;have h0:=S.aek hO hb;have hup:∀(ys:List El),b_ ck key (ys.foldl (λl x=>dq ck key x l) [])/\(ys.foldl (λl x=>dq ck key x l) []).length<=ys.length:=λys=>by
  have agh:∀(ys acc:List El),b_ ck key acc->b_ ck key (ys.foldl (λl x=>dq ck key x l) acc)/\(ys.foldl (λl x=>dq ck key x l) acc).length<=acc.length+ys.length:=by
   intro ys;induction ys with
   |nil=>intro acc h;exact⟨h,by simp⟩
   |cons y ys ih=>
    intro acc h;obtain⟨a1,a2⟩:=ih (dq ck key y acc) (h.put hc y);refine⟨a1,?_⟩;have:=Ay (ck:=ck) (key:=key) (x:=y) (L:=acc);simp only[List.foldl_cons,length_cons]at a2 |-;omega
  have:=agh ys [] Pairwise.nil;simpa using this
 refine ak.each (n:=xs.length) (by omega) (λi u=>Ow (cb D.TS D.TE D.W b (((xs.take i).foldl (λl x=>dq ck key x l) []).map pr)::L) u) h0 ?_ ?_
 ·intro i u next hi hI av
  obtain⟨a1,a2⟩:=hup (xs.take i);refine ab.t (by simpa using hi) ⟨by omega,_,aC hi,S.hX _ _ ⟨S.row _,?_⟩⟩;rw[S.E'];refine hp hI a1 (by simp at a2;omega) xs[i] λu' dG=>⟨_,rfl,av _ ?_⟩;rw[take_add_one,getElem?_eq_getElem hi,List.foldl_append];exact dG
 ·intro u next hI
  refine ab.f (by simp) (hk _ b ?_);rw[take_length]at hI;exact hI
theorem dY{na nfr:FuncId}(h1:∀{a0:Fn} {Co Cn c0:List PV} {u0:Mem} {K:Kq},D.zc u0 K nfr a0 Co Cn c0->aa D.P na [.fn a0 Co Cn,.bj c0 0] u0 K)
  (h2:∀{a0:Option Addr} {a1:Int} {a2:Fn} {Cm Ck:List PV} {u0:Mem} {K:Kq},D.from_ a0 u0 K a1 a2 Cm Ck->aa D.P nfr [pA a0,pI a1,.fn a2 Cm Ck] u0 K)
  (b:Nat) (l:List El) (hl:l.length<=4000000000000000000):gG D.P (.fn (.func na) [] [.bj [pP b 0] 0]) (l.map λx=>[arg x]) (cb D.TS D.TE D.W b (l.map pr)) (cb D.TS D.TE D.W b (l.map pr)):=by
 refine gG.mk λfy ya yb I A C μ hy hO h0 cO=>?_;show aa _ _ [.fn fy ya yb,.bj [pP b 0] 0] _ _;refine h1 ⟨_,rfl,ab.t rfl ⟨_,rfl,?_⟩⟩;obtain⟨F,h,yE⟩:=cb.split hO;obtain⟨μ0,s,hG,hm,Pl⟩:=h.list;refine aa.pre hG (h2 ?_);refine⟨_,_,hm,by simp,?_⟩;have h1:Ow [cb D.TS D.TE D.W b (l.map pr),C] (μ0.set b (some (.cells D.TS (dx [.list D.W .sh (l.map pr),pB s] (0+1) [pB true])))):=yE (F':=[b]) ((Pl.trans (Mv.set (.inl (by simp)))).sub (by simp)) ⟨S.each l,S.cell l,.inl ⟨rfl,by rw[Mem.ao];rfl⟩⟩;refine⟨_,_,aJ (Mem.ao _ _ _) (by simp[dx]),?_⟩;rw[length_map];refine ak.each (n:=l.length) (by omega) (λi u=>Ow [I i] u) (h0 _ h1) ?_ ?_
 ·intro i u next hi hI av
  have fC:=cO i (by simpa using hi);rw[getElem_map]at fC;refine ab.t (by simpa using hi) ⟨by omega,_,aC hi,S.hX _ _ ⟨S.row _,?_⟩⟩;rw[S.E'];refine Ow.yQ hI (λν hν=>fC ν hν) λv μ' RS=>?_;rcases RS.sR with⟨rfl,h⟩|⟨rfl,h⟩
  ·exact⟨true,rfl,ab.f rfl (av _ h)⟩
  ·exact⟨false,rfl,ab.t rfl ⟨rfl,.inr h⟩⟩
 ·intro u next hI
  refine ab.f (by simp) ⟨rfl,.inl ?_⟩;simp only[length_map];exact hI
end MX
end Go.aP
namespace Go.Proofs.YtbodiiomcfgokaaGreat
open Go.Proofs.Tryz Go.aP Go.RowKit
namespace RT
abbrev El:=aj
@[reducible] def pv(x:El):List PV:=aj.pv x
@[reducible] def arg(x:El):PV:=.agg x.pv
@[reducible] def zero:PV:=.agg [pI 0,pS ⟨#[]⟩,pI 0,pI 0,pS ⟨#[]⟩,pI 0,pI 0,pS ⟨#[]⟩,pI 0,pB false,pB false,pI 0]
def key(x:El):Int:=x.tag
abbrev ck:Int->Int->Int:=aw
theorem hc:m_ ck:=ar
theorem tR(a b:El):Pure prog 325 [arg a,arg b] (pI (ck (key a) (key b))):=by
 refine au.of (pt.c ?_);refine ab.mk (λh=>?_) (λh=>ab.mk (λh1=>?_) (λh1=>?_))<;>simp only[decide_eq_true_eq,decide_eq_false_iff_not]at* <;>simp only[aw,wk,bU,key]
 ·rw[if_pos h]
 ·rw[if_neg h,if_pos h1]
 ·rw[if_neg h,if_neg h1]
@[reducible] noncomputable def D:SD:=⟨prog,251,163,12,112,325,λQ=>∃xa xb xc xd xe xf xg xh xi xj xk xl,Q [pI xa,pS xb,pI xc,pI xd,pS xe,pI xf,pI xg,pS xh,pI xi,pB xj,pB xk,pI xl],.agg,[pI (0),pS ⟨#[]⟩,pI (0),pI (0),pS ⟨#[]⟩,pI (0),pI (0),pS ⟨#[]⟩,pI (0),pB false,pB false,pI (0)]⟩
abbrev At(b:Nat)(l:List El):aR:=cb 251 163 12 b (l.map pv)
theorem mh:MX D pv arg key ck:=⟨λx Q h=>⟨_,_,_,_,_,_,_,_,_,_,_,_,h⟩,λ_=>rfl,λ_=>rfl,λ_=>rfl,λ_=>rfl,hc,tR,λv=>by kernel_rfl,rfl,by decide,by decide⟩
theorem dc{x:El}{a0:Option Addr}{u0:Mem}{K:Kq}(h:D.find a0 u0 K (arg x)):aa prog 152 [pA a0,arg x] u0 K:=VC [3] [(2,⟨[(6,.one (.raw (.int .i64))),(7,.one (.raw (.int .i64)))],[]⟩)] [] [] [] [] [] func152 h
theorem EP{x:El}{a0:Option Addr}{u0:Mem}{K:Kq}(h:D.place a0 u0 K (arg x) 152):aa prog 94 [pA a0,arg x] u0 K:=VC [3] [] [] [] [] [] [] func94 h
def qH:=mh.qH dc EP
theorem va{x:El}{a0:Option Addr}{u0:Mem}{K:Kq}(h:D.get a0 u0 K (arg x) 152):aa prog 151 [pA a0,arg x] u0 K:=VC [3,4,6] [] [] [] [] [] [] func151 h
theorem oe{x:El}{a0:Option Addr}{u0:Mem}{K:Kq}(h:D.Ok a0 u0 K (arg x) 152):aa prog 151 [pA a0,arg x] u0 K:=VC [3,4,6] [] [] [] [] [] [24] func151 h
def kj:=mh.kj dc va oe
theorem Qy{a0:Option Addr}{u0:Mem}{K:Kq}(h:D.len a0 u0 K):aa prog 155 [pA a0] u0 K:=VC [] [] [] [] [] [] [] func155 h
def Iu:=MX.Iu (D:=D) (pr:=pv) Qy
theorem gK{a0:Option Addr}{u0:Mem}{K:Kq}(h:D.own a0 u0 K):aa prog 153 [pA a0] u0 K:=VC [] [] [] [] [] [] [] func153 h
theorem lD{x:El}{a0:Option Addr}{u0:Mem}{K:Kq}(h:D.put a0 u0 K (pv x) (arg x) 152 153):aa prog 93 [pA a0,arg x] u0 K:=VC [3] [(9,⟨[(7,.one (.raw (.int .i64)))],[]⟩)] [] [] [] [] [23,32,43,48,57] func93 h
def fL:=mh.fL dc gK lD
theorem lG{x:El}{a0:Option Addr}{u0:Mem}{K:Kq}(h:D.drop a0 u0 K (arg x) 152 153):aa prog 154 [pA a0,arg x] u0 K:=VC [3] [(8,⟨[(7,.one (.raw (.int .i64)))],[]⟩)] [] [] [] [] [26,34,39,49,53,56] func154 h
def gA:=mh.gA dc gK lG
theorem lE{fl:Fl}{l:Lq}{u0:Mem}{K:Kq}(h:D.new u0 K 93 l):aa prog 91 [.list 12 fl l] u0 K:=VC [5] [(3,⟨[(10,.one (.raw (.int .i64)))],[]⟩)] [] [] [] [] [] func91 h
def gj:=mh.gj fL lE
theorem lF{a0:Option Addr}{a1:Int}{a2:Fn}{Cm Ck:List PV}{u0:Mem}{K:Kq}(h:D.from_ a0 u0 K a1 a2 Cm Ck):aa prog 144 [pA a0,pI a1,.fn a2 Cm Ck] u0 K:=VC [] [(3,⟨[(7,.one (.raw (.int .i64)))],[]⟩)] [] [] [] [] [] func144 h
theorem lH{a0:Fn}{Co Cn c0:List PV}{u0:Mem}{K:Kq}(h:D.zc u0 K 144 a0 Co Cn c0):aa prog 143 [.fn a0 Co Cn,.bj c0 0] u0 K:=VC [] [] [] [] [] [] [] func143 h
@[reducible] def qJ(b:Nat):PV:=.fn (.func 143) [] [.bj [pP b 0] 0]
theorem pn(b:Nat):Pure prog 87 [pP b 0] (qJ b):=au.of (kW.c rfl)
theorem dY(b:Nat)(l:List El)(hl:l.length<=4000000000000000000):gG prog (qJ b) (l.map λx=>[arg x]) (At b l) (At b l):=mh.dY lH lF b l hl
end RT
end Go.Proofs.YtbodiiomcfgokaaGreat
namespace Go.aP
open Go.RowKit
structure MD where
 S:SD
 TM:TypeId
 TY:TypeId
 WK:Nat
 WV:Nat
 at_:FuncId
 XK:(List PV->Prop)->Prop
 EK:List PV->PV
 XV:(List PV->Prop)->Prop
 EV:List PV->PV
 ZV:List PV
section
variable (M:MD) (a0:Option Addr) (u0:Mem) (K:Kq) (ek:PV) (fg fp fd:FuncId)
def MD.look(J:Option Addr×Bool->Mem->Prop):Prop:=
 nP a0 λb o=>
 ∃x,ay u0 b o 1=some [pA x]/\
 (dM M.S.P M.at_ [ek] u0 λv qZ=>
  M.S.X λy=>v=M.S.E y/\
  (aa M.S.P fg [pA x,M.S.E (y.map bU)] (Mem.or u0 qZ) λPz wD=>
   M.S.X λy2=>∃q,Pz=(.az [M.S.E y2,pB q])/\
   ∀(b7:Nat),wD b7=none->
   stM b7 0 y2 (Mem.set wD b7 (some (.cells M.S.TE M.S.Z))) λLv=>
   J ((some ⟨b7,0,none⟩),q) Lv)/\
  (∀(b7:Nat),(Mem.or u0 qZ) b7=none->
   aa M.S.P fg [pA x,M.S.E (y.map bU)] (Mem.set (Mem.or u0 qZ) b7 (some (.cells M.S.TE M.S.Z))) λXT Gr=>
   M.S.X λy2=>∃q,XT=(.az [M.S.E y2,pB q])/\
   stM b7 0 y2 Gr λLu=>
   J ((some ⟨b7,0,none⟩),q) Lu))/\
 (∀(b7:Nat),u0 b7=none->
  dM M.S.P M.at_ [ek] (Mem.set u0 b7 (some (.cells M.S.TE M.S.Z))) λv_3 Ww=>
  M.S.X λy=>v_3=M.S.E y/\
  aa M.S.P fg [pA x,M.S.E (y.map bU)] (Mem.or (Mem.set u0 b7 (some (.cells M.S.TE M.S.Z))) Ww) λv_4 Wv=>
  M.S.X λy2=>∃q,v_4=(.az [M.S.E y2,pB q])/\
  stM b7 0 y2 Wv λTO=>
  J ((some ⟨b7,0,none⟩),q) TO)
def MD.get:Prop:=
 ab (isNone a0)
 (K (.az [M.EV M.ZV,pB false]) u0)
 (cf (α:=Option Addr×Bool) (λJ=>M.look a0 u0 ek fg J)
  (λs u=>
   aN (.raw (.pointer s.1)) λb o=>
   M.XV λy=>ay u b (o+M.WK) M.WV=some y/\
   K (.az [M.EV y,pB s.2]) u))
def MD.put(pg:PV)(cv:List PV):Prop:=
 ab (isNone a0)
 (K (pB false) u0)
 (cf (α:=Option Addr×Bool) (λJ=>M.look a0 u0 ek fg J)
  (λs u=>
   ab (!s.2)
   (nP a0 λb o=>
    ∃x,ay u b o 1=some [pA x]/\
    aa M.S.P fp [pA x,pg] u λv u_9=>
    ∃r,v=(pB r)/\
    K (pB r) u_9)
   (nP a0 λb o=>
    ∃x,ay u b o 1=some [pA x]/\
    aN (.raw (.pointer s.1)) λSZ Qz=>
    M.S.X λy=>ay u SZ Qz M.S.W=some y/\
    aa M.S.P fd [pA x,M.S.E (y.map bU)] u λv PB=>
    ∃r,v=(pB r)/\
    nP a0 λWb UC=>
    ∃x1,ay PB Wb UC 1=some [pA x1]/\
    aN (.raw (.pointer s.1)) λb_5 YA=>
    M.XK λyk=>ay PB b_5 YA M.WK=some yk/\
    aa M.S.P fp [pA x1,.agg (yk++cv)] PB λv_7 Nb=>
    ∃r,v_7=(pB r)/\
    K (pB false) Nb)))
def MD.drop:Prop:=
 ab (isNone a0)
 (K (.az [M.EV M.ZV,pB false]) u0)
 (cf (α:=Option Addr×Bool) (λJ=>M.look a0 u0 ek fg J)
  (λs u=>
   cf (α:=Unit) (λJ_1=>
    ab s.2
    (nP a0 λb o=>
     ∃x,ay u b o 1=some [pA x]/\
     aN (.raw (.pointer s.1)) λS_ QA=>
     M.S.X λy=>ay u S_ QA M.S.W=some y/\
     aa M.S.P fd [pA x,M.S.E (y.map bU)] u λv PB=>
     ∃r,v=(pB r)/\
     J_1 () PB)
    (J_1 () u))
   (λuz u_9=>
    aN (.raw (.pointer s.1)) λSZ Qz=>
    M.XV λy=>ay u_9 SZ (Qz+M.WK) M.WV=some y/\
    K (.az [M.EV y,pB s.2]) u_9)))
def MD.len(fl:FuncId):Prop:=
 ab (isNone a0)
 (K (pI (0)) u0)
 (nP a0 λb o=>
  ∃x,ay u0 b o 1=some [pA x]/\
  aa M.S.P fl [pA x] u0 λv u=>
  ∃n,v=(pI n)/\
  K (pI n) u)
def MD.new(fn:FuncId):Prop:=
 aa M.S.P fn [.list M.S.W .nil []] u0 λv u=>
 ∃x,v=(pA x)/\
 cl u M.TM [pA x] λb3 qZ=>
 K (pP b3 0) qZ
def MD.zc(fa:FuncId)(f:Fn)(fa1 fb1 c0:List PV):Prop:=
 cl u0 M.TY [.fn f fa1 fb1] λb2 Lu=>
 ∃x4,aA c0 0 1=some [pA x4]/\
 ab (isNone x4)
 (K (.az []) Lu)
 (∃x6,aA c0 0 1=some [pA x6]/\
  nP x6 λb o=>
   ∃x9,ay Lu b o 1=some [pA x9]/\
   aa M.S.P fa [pA x9] Lu λv u=>
   ∃(x10:Fn) (abD abC:List PV),v=(.fn x10 abD abC)/\
   bu M.S.P (.fn x10 abD abC) (λvs RR qZ=>
    M.S.X λy=>vs=[M.S.E y]/\
    ∃(x12:Fn) (aby abx:List PV),ay qZ b2 0 1=some [(.fn x12 aby abx)]/\
    bJ M.S.P (.fn x12 aby abx) [M.EK (y.take M.WK),M.EV ((y.drop M.WK).map bU)] qZ λPz Lv=>
    ∃x17,Pz=(pB x17)/\
    ab (!x17)
    (RR (some .ret) Lv)
    (RR none Lv))
   (λp wD=>
    PK p
    (K (.az []) wD)
    (K (.az []) wD)
    [])
   u)
end
section
variable (D:SD) {El κ:Type} (pr:El->List PV) (arg:El->PV) (key:El->κ) (ck:κ->κ->Int) (n:FuncId)
abbrev aeo:Prop:=∀ ⦃L:List aR⦄ ⦃μ:Mem⦄ ⦃b:Nat⦄ ⦃l:List El⦄,Ow (cb D.TS D.TE D.W b (l.map pr)::L) μ->b_ ck key l->l.length<=4000000000000000000->∀(x:El) ⦃K:Kq⦄,(∀y,aL ck key (key x) l=some y->K (.az [arg y,pB true]) μ)->(aL ck key (key x) l=none->K (.az [D.E D.Z,pB false]) μ)->aa D.P n [pP b 0,arg x] μ K
abbrev air:Prop:=∀ ⦃L:List aR⦄ ⦃μ:Mem⦄ ⦃b:Nat⦄ ⦃l:List El⦄,Ow (cb D.TS D.TE D.W b (l.map pr)::L) μ->b_ ck key l->l.length<=999999999->∀(x:El) ⦃K:Kq⦄,(∀μ',Ow (cb D.TS D.TE D.W b ((dq ck key x l).map pr)::L) μ'->K (pB (aL ck key (key x) l).isNone) μ')->aa D.P n [pP b 0,arg x] μ K
abbrev XN:Prop:=∀ ⦃L:List aR⦄ ⦃μ:Mem⦄ ⦃b:Nat⦄ ⦃l:List El⦄,Ow (cb D.TS D.TE D.W b (l.map pr)::L) μ->b_ ck key l->l.length<=999999999->∀(x:El) ⦃K:Kq⦄,(∀μ',Ow (cb D.TS D.TE D.W b ((bY ck key (key x) l).map pr)::L) μ'->K (pB (aL ck key (key x) l).isSome) μ')->aa D.P n [pP b 0,arg x] μ K
end
def dH(M:MD){El:Type}(pr:El->List PV)(m:Nat)(l:List El):aR:=λμ=>∃s,Ow [Pt m M.TM [pP s 0],cb M.S.TS M.S.TE M.S.W s (l.map pr)] μ
theorem dH.open_{M:MD}{El:Type}{pr:El->List PV}{m:Nat}{l:List El}{L:List aR}{μ:Mem}(h:Ow (dH M pr m l::L) μ):∃s,Ow (Pt m M.TM [pP s 0]::cb M.S.TS M.S.TE M.S.W s (l.map pr)::L) μ:=by
 obtain⟨s,h⟩:=Ow.ex h;exact⟨s,h.nest⟩
theorem dH.shut{M:MD}{El:Type}{pr:El->List PV}{m s:Nat}{l:List El}{L:List aR}{μ:Mem}(h:Ow (Pt m M.TM [pP s 0]::cb M.S.TS M.S.TE M.S.W s (l.map pr)::L) μ):Ow (dH M pr m l::L) μ:=
 (Ow.pack (L1:=[Pt m M.TM [pP s 0],cb M.S.TS M.S.TE M.S.W s (l.map pr)]) h).imp λ_ hν=>⟨s,hν⟩
theorem TK{cs vs:List PV}(h:vs.length=cs.length):dx cs 0 vs=vs:=by
 unfold dx;rw[List.take_zero,List.nil_append,zero_add,h,List.drop_length,List.append_nil]
structure MOk(M:MD){KY VL κ:Type}(pr:KY×VL->List PV)(arg:KY×VL->PV)(pk:KY->List PV)(cY:KY->PV)(pl:VL->List PV)(gP:VL->PV)(z:VL)(key:KY×VL->κ)(ck:κ->κ->Int):Prop where
 S:MX M.S pr arg key ck
 hp:∀k v,pr (k,v)=pk k++pl v
 ha:∀x,arg x=.agg (pr x)
 lk:∀k,(pk k).length=M.WK
 lv:∀v,(pl v).length=M.WV
 hK:∀k Q,Q (pk k)->M.XK Q
 EK:∀k,M.EK (pk k)=cY k
 hV:∀v Q,Q (pl v)->M.XV Q
 EV:∀v,M.EV (pl v)=gP v
 EVw:∀v,M.EV ((pl v).map bU)=gP v
 hz:∀Q,Q M.S.Z->M.S.X Q
 hzV:∀Q,Q M.ZV->M.XV Q
 zV:M.S.Z.drop M.WK=M.ZV
 zl:M.ZV.length=M.WV
 WV0:0<M.WV
 at_:∀k,Pure M.S.P M.at_ [cY k] (arg (k,z))
 inj:∀a v k w,key (a,v)=key (k,w)->a=k
 kv:∀a v w,key (a,v)=key (a,w)
section
variable {κ T:Type} {ck:κ->κ->Int} {key:T->κ}
theorem Qm{x:T}{l:List T}(h:aL ck key (key x) l=none):dq ck key x l=aZ ck key x l:=by rw[dq,h];rfl
theorem UP(hc:m_ ck){x y:T}{l:List T}(hu:b_ ck key l)(e:key x=key y):dq ck key x (bY ck key (key y) l)=aZ ck key x l:=by
 have hn:aL ck key (key x) (bY ck key (key y) l)=none:=(bz hc).2 λa ha=>by
  have:=((eY hc).1 ha).2;rw[e];exact this
 rw[dq,hn];refine b_.ext hc ((hu.del _).ins hc x) (hu.ins hc x) λa=>?_;show a∈aZ ck key x _↔_;rw[bh hc,bh hc,eY hc,e];constructor
 ·rintro(h|⟨⟨h,_⟩,h2⟩)
  ·exact .inl h
  ·exact .inr ⟨h,h2⟩
 ·rintro(h|⟨h,h2⟩)
  ·exact .inl h
  ·exact .inr ⟨⟨h,h2⟩,h2⟩
end
namespace MOk
variable {M:MD} {KY VL κ:Type} {pr:KY×VL->List PV} {arg:KY×VL->PV} {pk:KY->List PV} {cY:KY->PV} {pl:VL->List PV} {gP:VL->PV} {z:VL} {key:KY×VL->κ} {ck:κ->κ->Int} (O:MOk M pr arg pk cY pl gP z key ck)
def In(M:MD)(pr:KY×VL->List PV)(z:VL)(key:KY×VL->κ)(ck:κ->κ->Int)(m s b7:Nat)(l:List (KY×VL))(L:List aR)(k:KY)(t:Bool):aR:=λu=>
 (∃y,aL ck key (key (k,z)) l=some y/\t=true/\Ow (Pt b7 M.S.TE (pr y)::Pt m M.TM [pP s 0]::cb M.S.TS M.S.TE M.S.W s (l.map pr)::L) u)\/
 (aL ck key (key (k,z)) l=none/\t=false/\Ow (Pt b7 M.S.TE M.S.Z::Pt m M.TM [pP s 0]::cb M.S.TS M.S.TE M.S.W s (l.map pr)::L) u)
include O
theorem len(x:KY×VL):(pr x).length=M.WK+M.WV:=by
 obtain⟨k,v⟩:=x;rw[O.hp,length_append,O.lk,O.lv]
theorem W:M.S.W=M.WK+M.WV:=by rw[<- O.S.zl,<- take_append_drop M.WK M.S.Z,O.zV,length_append,O.zl,length_take,min_eq_left];(have h1:=O.zl;rw[<- O.zV,length_drop]at h1;have:=O.WV0;omega)
theorem fst(x:KY×VL):(pr x).take M.WK=pk x.1:=by
 obtain⟨k,v⟩:=x;rw[O.hp,<- O.lk k,List.take_left]
theorem snd(x:KY×VL):(pr x).drop M.WK=pl x.2:=by
 obtain⟨k,v⟩:=x;rw[O.hp,<- O.lk k,List.drop_left]
theorem look{fg:FuncId}(hg:aeo M.S pr arg key ck fg){L:List aR}{μ:Mem}{m s:Nat}{l:List (KY×VL)}(hO:Ow (Pt m M.TM [pP s 0]::cb M.S.TS M.S.TE M.S.W s (l.map pr)::L) μ)(hu:b_ ck key l)(hl:l.length<=4000000000000000000)(k:KY){J:Option Addr×Bool->Mem->Prop}(hJ:∀b7 t u,In M pr z key ck m s b7 l L k t u->J (some ⟨b7,0,none⟩,t) u):
  M.look (some ⟨m,0,none⟩) μ (cY k) fg J:=by
 have e1:∀y,M.S.E (pr y)=arg y:=O.S.E;have e2:∀y,M.S.E ((pr y).map bU)=arg y:=O.S.E'
 have stp:∀{b7:Nat} {u:Mem} {L':List aR} {t:Bool} {c:List PV},c.length=M.S.Z.length->Ow (Pt b7 M.S.TE M.S.Z::L') u->(∀u',Ow (Pt b7 M.S.TE c::L') u'->J (some ⟨b7,0,none⟩,t) u')->stM b7 0 c u λu'=>J (some ⟨b7,0,none⟩,t) u':=λhc h hk=>h.st 0 rfl (by omega) λu' h'=>hk u' (by
  have h'':=h'
  rw[TK hc]at h'';exact h'')
 have ln:∀y,(pr y).length=M.S.Z.length:=λy=>by rw[O.S.len,O.S.zl]
 have two:∀{b7:Nat} {u:Mem},Ow (Pt b7 M.S.TE M.S.Z::Pt m M.TM [pP s 0]::cb M.S.TS M.S.TE M.S.W s (l.map pr)::L) u->aa M.S.P fg [pA (some ⟨s,0,none⟩),arg (k,z)] u λXT Gr=>M.S.X λy2=>∃q,XT=(.az [M.S.E y2,pB q])/\stM b7 0 y2 Gr λLu=>J ((some ⟨b7,0,none⟩),q) Lu:=λ{b7 u} h=>
  hg (Ow.at 2 rfl h) hu hl (k,z) (λy hy=>O.S.hX y _ ⟨true,by rw[e1],stp (ln y) h λu' h'=>hJ _ _ _ (.inl ⟨y,hy,rfl,h'⟩)⟩) (λhy=>O.hz _ ⟨false,rfl,stp rfl h λu' h'=>hJ _ _ _ (.inr ⟨hy,rfl,h'⟩)⟩)
 refine⟨_,hO.rd 0 rfl (by simp),(O.at_ k).q (O.S.hX (k,z) _ ⟨(e1 _).symm,?_⟩),λb7 HX=>(O.at_ k).q (O.S.hX (k,z) _ ⟨(e1 _).symm,?_⟩)⟩
 ·rw[Mem.sg,e2];refine⟨hg hO.swap hu hl (k,z) (λy hy=>O.S.hX y _ ⟨true,by rw[e1],λb7 HX=>?_⟩) (λhy=>O.hz _ ⟨false,rfl,λb7 HX=>?_⟩),λb7 HX=>two (hO.new _ _ HX)⟩
  ·exact stp (ln y) (hO.new _ _ HX) λu' h'=>hJ _ _ _ (.inl ⟨y,hy,rfl,h'⟩)
  ·exact stp rfl (hO.new _ _ HX) λu' h'=>hJ _ _ _ (.inr ⟨hy,rfl,h'⟩)
 ·rw[Mem.sg,e2];exact two (hO.new _ _ HX)
theorem rdV{b7:Nat}{L:List aR}{u:Mem}{y:KY×VL}(h:Ow (Pt b7 M.S.TE (pr y)::L) u):ay u b7 (0+M.WK) M.WV=some (pl y.2):=by
 have:=h.rd 0 rfl (o:=0+M.WK) (n:=M.WV) (by rw[O.len];omega);rw[this,zero_add,O.snd,<- O.lv y.2,take_length]
theorem rdZ{b7:Nat}{L:List aR}{u:Mem}(h:Ow (Pt b7 M.S.TE M.S.Z::L) u):ay u b7 (0+M.WK) M.WV=some M.ZV:=by
 have:=h.rd 0 rfl (o:=0+M.WK) (n:=M.WV) (by rw[O.S.zl,O.W];omega);rw[this,zero_add,O.zV,<- O.zl,take_length]
theorem rdE{b7:Nat}{L:List aR}{u:Mem}{y:KY×VL}{i:Nat}(h:Ow L u)(hi:L[i]?=some (Pt b7 M.S.TE (pr y))):ay u b7 0 M.S.W=some (pr y):=by
 have:=h.rd i hi (o:=0) (n:=M.S.W) (by rw[O.S.len];omega);rw[this,drop_zero,<- O.S.len y,take_length]
theorem rdK{b7:Nat}{L:List aR}{u:Mem}{y:KY×VL}{i:Nat}(h:Ow L u)(hi:L[i]?=some (Pt b7 M.S.TE (pr y))):ay u b7 0 M.WK=some (pk y.1):=by
 have:=h.rd i hi (o:=0) (n:=M.WK) (by rw[O.len];omega);rw[this,drop_zero,O.fst]
section
variable {fg:FuncId} (hg:aeo M.S pr arg key ck fg)
include hg
theorem gO{n:FuncId}(hn:∀{k:KY} {a0:Option Addr} {u0:Mem} {K:Kq},M.get a0 u0 K (cY k) fg->aa M.S.P n [pA a0,cY k] u0 K) ⦃L:List aR⦄ ⦃μ:Mem⦄ ⦃m:Nat⦄ ⦃l:List (KY×VL)⦄ (hO:Ow (dH M pr m l::L) μ) (hu:b_ ck key l) (hl:l.length<=4000000000000000000) (k:KY) ⦃K:Kq⦄ (h1:∀y μ',aL ck key (key (k,z)) l=some y->Ow (dH M pr m l::L) μ'->K (.az [gP y.2,pB true]) μ') (h0:∀μ',aL ck key (key (k,z)) l=none->Ow (dH M pr m l::L) μ'->K (.az [M.EV M.ZV,pB false]) μ'):aa M.S.P n [pP m 0,cY k] μ K:=by
 obtain⟨s,hO⟩:=dH.open_ hO;refine hn (ab.f rfl ⟨λr u=>∃b7,r.1=some ⟨b7,0,none⟩/\In M pr z key ck m s b7 l L k r.2 u,O.look hg hO hu hl k λb7 t u h=>⟨b7,rfl,h⟩,?_⟩);rintro⟨_,t⟩ u ⟨b7,rfl,⟨y,hy,rfl,gd⟩|⟨hy,rfl,gd⟩⟩
 ·exact O.hV y.2 _ ⟨O.rdV gd,by rw[O.EV];exact h1 y _ hy (dH.shut gd.drop)⟩
 ·exact O.hzV _ ⟨O.rdZ gd,h0 _ hy (dH.shut gd.drop)⟩
theorem mP{fp fd n:FuncId}(Cz:air M.S pr arg key ck fp)(RB:XN M.S pr arg key ck fd)(hn:∀{k:KY} {v:VL} {a0:Option Addr} {u0:Mem} {K:Kq},M.put a0 u0 K (cY k) fg fp fd (arg (k,v)) (pl v)->aa M.S.P n [pA a0,cY k,gP v] u0 K) ⦃L:List aR⦄ ⦃μ:Mem⦄ ⦃m:Nat⦄ ⦃l:List (KY×VL)⦄ (hO:Ow (dH M pr m l::L) μ) (hu:b_ ck key l) (hl:l.length<=999999998) (k:KY) (v:VL) ⦃K:Kq⦄ (hk:∀μ',Ow (dH M pr m (aZ ck key (k,v) l)::L) μ'->K (pB (aL ck key (key (k,z)) l).isNone) μ'):aa M.S.P n [pP m 0,cY k,gP v] μ K:=by
 have hc:=O.S.hc;obtain⟨s,hO⟩:=dH.open_ hO;have ekz:key (k,v)=key (k,z):=O.kv _ _ _;refine hn (ab.f rfl ⟨λr u=>∃b7,r.1=some ⟨b7,0,none⟩/\In M pr z key ck m s b7 l L k r.2 u,O.look hg hO hu (by omega) k λb7 t u h=>⟨b7,rfl,h⟩,?_⟩);rintro⟨_,t⟩ u ⟨b7,rfl,⟨y,hy,rfl,gd⟩|⟨hy,rfl,gd⟩⟩
 ·obtain⟨hym,hyk⟩:=(a_ hc hu).1 hy;have agn:y.1=k:=O.inj y.1 y.2 k z hyk;refine ab.f rfl ⟨_,gd.rd 1 rfl (by simp),O.S.hX y _ ⟨O.rdE gd (i:=0) rfl,?_⟩⟩;rw[O.S.E'];refine RB (Ow.at 2 rfl gd) hu (by omega) y λu2 Gw=>⟨_,rfl,?_⟩;have hlen:=vE (ck:=ck) (key:=key) (k:=key y) (L:=l);refine⟨_,Gw.rd 2 rfl (by simp),O.hK y.1 _ ⟨O.rdK Gw (i:=1) rfl,?_⟩⟩;have e2:(PV.agg (pk y.1++pl v))=arg (k,v):=by rw[O.ha,O.hp,agn]
  rw[e2];refine Cz (x:=(k,v)) Gw (hu.del _) (by omega) λu4 hu4=>⟨_,rfl,?_⟩;rw[UP hc hu (x:=(k,v)) (y:=y) (by rw[ekz,hyk])]at hu4;have:=hk u4 (dH.shut ((Ow.at 2 rfl hu4).tail λ_ h=>h.tail λ_ h=>h.drop));rw[hy]at this;exact this
 ·refine ab.t rfl ⟨_,gd.rd 1 rfl (by simp),?_⟩;refine Cz (Ow.at 2 rfl gd) hu (by omega) (k,v) λu2 Gw=>⟨_,rfl,?_⟩;rw[ekz,hy];rw[Qm (by rw[ekz];exact hy)]at Gw;have:=hk u2 (dH.shut ((Ow.at 2 rfl Gw).tail λ_ h=>h.tail λ_ h=>h.drop));rw[hy]at this;exact this
theorem oE{fd n:FuncId}(RB:XN M.S pr arg key ck fd)(hn:∀{k:KY} {a0:Option Addr} {u0:Mem} {K:Kq},M.drop a0 u0 K (cY k) fg fd->aa M.S.P n [pA a0,cY k] u0 K) ⦃L:List aR⦄ ⦃μ:Mem⦄ ⦃m:Nat⦄ ⦃l:List (KY×VL)⦄ (hO:Ow (dH M pr m l::L) μ) (hu:b_ ck key l) (hl:l.length<=999999998) (k:KY) ⦃K:Kq⦄ (h1:∀y μ',aL ck key (key (k,z)) l=some y->Ow (dH M pr m (bY ck key (key (k,z)) l)::L) μ'->K (.az [gP y.2,pB true]) μ') (h0:∀μ',aL ck key (key (k,z)) l=none->Ow (dH M pr m l::L) μ'->K (.az [M.EV M.ZV,pB false]) μ'):aa M.S.P n [pP m 0,cY k] μ K:=by
 have hc:=O.S.hc;obtain⟨s,hO⟩:=dH.open_ hO;refine hn (ab.f rfl ⟨λr u=>∃b7,r.1=some ⟨b7,0,none⟩/\In M pr z key ck m s b7 l L k r.2 u,O.look hg hO hu (by omega) k λb7 t u h=>⟨b7,rfl,h⟩,?_⟩);rintro⟨_,t⟩ u ⟨b7,rfl,⟨y,hy,rfl,gd⟩|⟨hy,rfl,gd⟩⟩
 ·obtain⟨hym,hyk⟩:=(a_ hc hu).1 hy;refine⟨λ_ u2=>Ow (Pt b7 M.S.TE (pr y)::Pt m M.TM [pP s 0]::cb M.S.TS M.S.TE M.S.W s ((bY ck key (key (k,z)) l).map pr)::L) u2,ab.t rfl ⟨_,gd.rd 1 rfl (by simp),O.S.hX y _ ⟨O.rdE gd (i:=0) rfl,?_⟩⟩,?_⟩
  ·rw[O.S.E'];refine RB (Ow.at 2 rfl gd) hu (by omega) y λu2 Gw=>⟨_,rfl,?_⟩;rw[hyk]at Gw;exact Gw.swap.tail λ_ h=>h.swap
  ·intro _ u2 Gw;exact O.hV y.2 _ ⟨O.rdV Gw,by rw[O.EV];exact h1 y _ hy (dH.shut Gw.drop)⟩
 ·refine⟨λ_ u2=>u2=u,ab.f rfl rfl,?_⟩;rintro _ _ rfl;exact O.hzV _ ⟨O.rdZ gd,h0 _ hy (dH.shut gd.drop)⟩
end
theorem gn{na fa nal:FuncId}(hn:∀{f:Fn} {f1 f2 c0:List PV} {u0:Mem} {K:Kq},M.zc u0 K fa f f1 f2 c0->aa M.S.P na [.fn f f1 f2,.bj c0 0] u0 K)
  (fR:∀b:Nat,Pure M.S.P fa [pP b 0] (.fn (.func nal) [] [.bj [pP b 0] 0]))
  (agG:∀(b:Nat) (l:List (KY×VL)),l.length<=4000000000000000000->gG M.S.P (.fn (.func nal) [] [.bj [pP b 0] 0]) (l.map λx=>[arg x]) (cb M.S.TS M.S.TE M.S.W b (l.map pr)) (cb M.S.TS M.S.TE M.S.W b (l.map pr)))
  (m:Nat) (l:List (KY×VL)) (hl:l.length<=4000000000000000000):gG M.S.P (.fn (.func na) [] [.bj [pP m 0] 0]) (l.map λx=>[cY x.1,gP x.2]) (dH M pr m l) (dH M pr m l):=by
 refine gG.mk λfy ya yb I S C μ hy hO h0 cO=>?_;show aa _ _ [.fn fy ya yb,.bj [pP m 0] 0] _ _;obtain⟨s,hO⟩:=dH.open_ hO;refine hn λb2 qv=>⟨_,rfl,ab.f rfl ⟨_,rfl,?_⟩⟩;have gg:=hO.new M.TY [.fn fy ya yb] qv;refine⟨_,gg.rd 1 rfl (by simp),(fR s).call ⟨_,_,_,rfl,?_⟩⟩;have tB:(l.map λx:KY×VL=>[cY x.1,gP x.2]).length=l.length:=by simp
 refine bu.own (agG s l hl) (Ow.at 2 rfl gg) (λk=>Ow [Pt b2 M.TY [.fn fy ya yb],I k]) (λc=>λu=>c=.ret/\Ow [S] u) (λk=>eC.own _) (λc=>eC.and (eC.own _)) (λμ' h=>?_) ?_ ?_ ?_
 ·have h3:Ow (Pt b2 M.TY [.fn fy ya yb]::(Pt m M.TM [pP s 0]::cb M.S.TS M.S.TE M.S.W s (l.map pr)::[C])) μ':=h.swap.tail λ_ h=>h.swap;exact h3.tail λν hν=>h0 ν (dH.shut hν)
 ·intro k hk u R hI ca iE;have bZ:k<l.length:=by simpa using hk
  have fC:=cO k (by rw[tB];exact bZ);rw[getElem_map]at fC |-;refine O.S.hX l[k] _ ⟨by rw[O.S.E],_,_,_,hI.rd 0 rfl (by simp),?_⟩;rw[O.fst,O.snd,O.EK,O.EVw];refine Ow.yQ hI.swap (λν hν=>fC ν hν) λv μ' RS=>?_;rcases RS.sR with⟨rfl,h⟩|⟨rfl,h⟩
  ·exact⟨true,rfl,ab.f rfl (ca _ h.swap)⟩
  ·exact⟨false,rfl,ab.t rfl (iE _ _ ⟨rfl,h.swap.drop⟩)⟩
 ·intro u hI;rw[length_map]at hI;exact .inl (by rw[tB];exact hI.drop)
 ·rintro c u ⟨rfl,h⟩;exact .inr h
end MOk
theorem MD.Iu{M:MD}{El:Type}{pr:El->List PV}{n fl:FuncId}(hn:∀{a0:Option Addr} {u0:Mem} {K:Kq},M.len a0 u0 K fl->aa M.S.P n [pA a0] u0 K)
  (hlen:∀ ⦃L:List aR⦄ ⦃μ:Mem⦄ ⦃b:Nat⦄ ⦃l:List El⦄,Ow (cb M.S.TS M.S.TE M.S.W b (l.map pr)::L) μ->∀ ⦃K:Kq⦄,K (pI (l.length:Nat)) μ->aa M.S.P fl [pP b 0] μ K)
  ⦃L:List aR⦄ ⦃μ:Mem⦄ ⦃m:Nat⦄ ⦃l:List El⦄ (hO:Ow (dH M pr m l::L) μ) ⦃K:Kq⦄ (hk:K (pI (l.length:Nat)) μ):aa M.S.P n [pP m 0] μ K:=by
 obtain⟨s,hO⟩:=dH.open_ hO;exact hn (ab.f rfl ⟨_,hO.rd 0 rfl (by simp),hlen hO.swap ⟨_,rfl,hk⟩⟩)
theorem MD.gj{M:MD}{El:Type}{pr:El->List PV}{n fn:FuncId}(hn:∀{u0:Mem} {K:Kq},M.new u0 K fn->aa M.S.P n [] u0 K)
  (jq:∀ ⦃L:List aR⦄ ⦃μ:Mem⦄,Ow L μ->∀ ⦃K:Kq⦄,(∀μ' b,Ow (cb M.S.TS M.S.TE M.S.W b (([]:List El).map pr)::L) μ'->K (pP b 0) μ')->aa M.S.P fn [.list M.S.W .nil []] μ K)
  ⦃L:List aR⦄ ⦃μ:Mem⦄ (hO:Ow L μ) ⦃K:Kq⦄ (hk:∀μ' m,Ow (dH M pr m ([]:List El)::L) μ'->K (pP m 0) μ'):aa M.S.P n [] μ K:=
 hn (jq hO λμ1 b h1=>⟨_,rfl,λm hm=>hk _ m (dH.shut (h1.new M.TM [pP b 0] hm))⟩)
end Go.aP
namespace Go.Proofs.YtbodiiomcfgokaaGreat
open Go.Proofs.Tryz Go.aP Go.RowKit
theorem QK{A B T:Type}{c1:A->A->Int}{c2:B->B->Int}(h1:m_ c1)(h2:m_ c2)(f:T->A)(g:T->B)(inj:∀a b,f a=f b->g a=g b->a=b):m_ λa b:T=>if c1 (f a) (f b)=0 then c2 (g a) (g b)else c1 (f a) (f b):=by
 have s1:∀{a b:A},c1 a b=0->c1 b a=0:=λ{a b} h=>(h1.zero b a).2 ((h1.zero a b).1 h).symm;refine⟨λa b=>?_,λa b=>?_,λa b d h k=>?_⟩
 ·constructor
  ·intro h;split at h
   ·rename_i e;exact inj a b ((h1.zero _ _).1 e) ((h2.zero _ _).1 h)
   ·rename_i e;exact absurd h e
  ·rintro rfl;rw[if_pos ((h1.zero _ _).2 rfl)];exact(h2.zero _ _).2 rfl
 ·by_cases e:c1 (f a) (f b)=0
  ·rw[if_pos e,if_pos (s1 e)];exact h2.flip _ _
  ·rw[if_neg e,if_neg λh=>e (s1 h)];exact h1.flip _ _
 ·by_cases e:c1 (f a) (f b)=0
  ·rw[if_pos e]at h;have e':=(h1.zero _ _).1 e;rw[<- e']at k;by_cases e2:c1 (f a) (f d)=0
   ·rw[if_pos e2]at k |-;exact h2.trans _ _ _ h k
   ·rw[if_neg e2]at k |-;exact k
  ·rw[if_neg e]at h;by_cases e2:c1 (f b) (f d)=0
   ·rw[<- (h1.zero _ _).1 e2,if_neg e];exact h
   ·rw[if_neg e2]at k;have:=h1.trans _ _ _ h k;rw[if_neg (by omega)];exact this
def fF(a b:Sym):Int:=if aw a.k b.k=0 then(if bE a.t b.t=0 then aw a.n b.n else bE a.t b.t)else aw a.k b.k
theorem bC:m_ fF:=
 QK ar (QK cJ ar (λp:ByteArray×Int=>p.1) (λp=>p.2) λa b h1 h2=>Prod.ext h1 h2) (λs:Sym=>s.k) (λs=>(s.t,s.n)) λa b h1 h2=>by
  obtain⟨a,b,c⟩:=a;simp only[Prod.mk.injEq]at h1 h2;obtain⟨rfl,rfl⟩:=h2;subst h1;rfl
theorem MM(a b:Int):Pure prog 315 [pI a,pI b] (pI (aw a b)):=by
 refine au.of (wz.c ?_);have nan:∀x:Int,Pure prog 317 [pI x] (pB false):=λx=>au.of (zt.c (by show wk (pB (x != x))=pB false;rw[bne_self_eq_false];rfl));refine(nan a).call ⟨_,rfl,(nan b).call ⟨_,rfl,ab.f rfl (ab.f rfl (ab.mk (λh=>?_) (λh=>ab.mk (λh1=>?_) (λh1=>?_))))⟩⟩<;>simp only[decide_eq_true_eq,decide_eq_false_iff_not]at* <;>simp only[aw,wk,bU]
 ·rw[if_pos h]
 ·rw[if_neg h,if_pos h1]
 ·rw[if_neg h,if_neg h1]
theorem VX(a b:ByteArray):Pure prog 316 [pS a,pS b] (pI (bE a b)):=by
 refine au.of (qU.c ?_);have nan:∀x:ByteArray,Pure prog 318 [pS x] (pB false):=λx=>au.of (ur.c (by show wk (pB (!aF x x))=pB false;rw[eG];rfl));refine(nan a).call ⟨_,rfl,(nan b).call ⟨_,rfl,ab.f rfl (ab.f rfl (ab.mk (λh=>?_) (λh=>ab.mk (λh1=>?_) (λh1=>?_))))⟩⟩<;>simp only[bE,wk,bU]
 ·rw[h];rfl
 ·rw[h1,h];rfl
 ·rw[h1,h];rfl
theorem ME(a b:Sym):Pure prog 314 [.agg a.pv,.agg b.pv] (pI (fF a b)):=by
 refine au.of (wA.c ?_);refine(MM _ _).call ⟨_,rfl,ab.mk (λh=>?_) (λh=>(VX _ _).call ⟨_,rfl,ab.mk (λh1=>?_) (λh1=>(MM _ _).call ⟨_,rfl,?_⟩)⟩)⟩<;>simp only[fF,wk,bU]
 ·rw[if_neg (by simpa using h)]
 ·rw[if_pos (by simpa using h),if_neg (by simpa using h1)]
 ·rw[if_pos (by simpa using h),if_pos (by simpa using h1)]
namespace RI
abbrev KY:=Sym
abbrev VL:=Option Addr
abbrev El:=Sym×Option Addr
@[reducible] def pv(x:El):List PV:=[pI x.1.k,pS x.1.t,pI x.1.n,.raw (.pointer x.2)]
@[reducible] def arg(x:El):PV:=.agg (pv x)
@[reducible] def cY(k:Sym):PV:=.agg k.pv
@[reducible] def pk(k:Sym):List PV:=k.pv
@[reducible] def pl(v:Option Addr):List PV:=[.raw (.pointer v)]
@[reducible] def gP(v:Option Addr):PV:=.raw (.pointer v)
def z:Option Addr:=none
def key(x:El):Sym:=x.1
abbrev ck:Sym->Sym->Int:=fF
theorem hc:m_ ck:=bC
theorem tR(a b:El):Pure prog 360 [arg a,arg b] (pI (ck (key a) (key b))):=by
 refine au.of (dV.c ?_)
 first
  |exact(ME _ _).call ⟨_,rfl,rfl⟩
  |exact⟨λv=>by kernel_rfl,(ME _ _).call ⟨_,rfl,rfl⟩⟩
@[reducible] noncomputable def D:SD:=⟨prog,365,298,4,40,360,λQ=>∃xa xb xc xd,Q [pI xa,pS xb,pI xc,pA xd],.agg,[pI (0),pS ⟨#[]⟩,pI (0),pA none]⟩
theorem mh:MX D pv arg key ck:=⟨λx Q h=>⟨_,_,_,_,h⟩,λ_=>rfl,λ_=>rfl,λ_=>rfl,λ_=>rfl,hc,tR,λv=>by kernel_rfl,rfl,by decide,by decide⟩
theorem dc{x:El}{a0:Option Addr}{u0:Mem}{K:Kq}(h:D.find a0 u0 K (arg x)):aa prog 261 [pA a0,arg x] u0 K:=VC [3] [(2,⟨[(6,.one (.raw (.int .i64))),(7,.one (.raw (.int .i64)))],[]⟩)] [] [] [] [] [] func261 h
theorem va{x:El}{a0:Option Addr}{u0:Mem}{K:Kq}(h:D.get a0 u0 K (arg x) 261):aa prog 206 [pA a0,arg x] u0 K:=VC [3,4,6] [] [] [] [] [] [] func206 h
theorem oe{x:El}{a0:Option Addr}{u0:Mem}{K:Kq}(h:D.Ok a0 u0 K (arg x) 261):aa prog 206 [pA a0,arg x] u0 K:=VC [3,4,6] [] [] [] [] [] [24] func206 h
def kj:=mh.kj dc va oe
theorem gK{a0:Option Addr}{u0:Mem}{K:Kq}(h:D.own a0 u0 K):aa prog 262 [pA a0] u0 K:=VC [] [] [] [] [] [] [] func262 h
theorem lD{x:El}{a0:Option Addr}{u0:Mem}{K:Kq}(h:D.put a0 u0 K (pv x) (arg x) 261 262):aa prog 208 [pA a0,arg x] u0 K:=VC [3] [(9,⟨[(7,.one (.raw (.int .i64)))],[]⟩)] [] [] [] [] [23,32,43,48,57] func208 h
def fL:=mh.fL dc gK lD
theorem lG{x:El}{a0:Option Addr}{u0:Mem}{K:Kq}(h:D.drop a0 u0 K (arg x) 261 262):aa prog 209 [pA a0,arg x] u0 K:=VC [3] [(8,⟨[(7,.one (.raw (.int .i64)))],[]⟩)] [] [] [] [] [26,34,39,49,53,56] func209 h
def gA:=mh.gA dc gK lG
theorem lE{fl:Fl}{l:Lq}{u0:Mem}{K:Kq}(h:D.new u0 K 208 l):aa prog 182 [.list 4 fl l] u0 K:=VC [5] [(3,⟨[(10,.one (.raw (.int .i64)))],[]⟩)] [] [] [] [] [] func182 h
def gj:=mh.gj fL lE
@[reducible] noncomputable def M:MD:=⟨D,300,242,3,1,207,λQ=>∃xa xb xc,Q [pI xa,pS xb,pI xc],.agg,λQ=>∃x,Q [pA x],λr=>r.headD .aY,[pA none]⟩
abbrev cr(m:Nat)(l:List El):aR:=dH M pv m l
theorem cAt(k:KY):Pure prog 207 [cY k] (arg (k,z)):=au.of (fU.c rfl)
theorem Hw:MOk M pv arg pk cY pl gP z key ck:=⟨mh,λ_ _=>rfl,λ_=>rfl,λ_=>rfl,λ_=>rfl,λk Q h=>⟨_,_,_,h⟩,λ_=>rfl,λv Q h=>⟨_,h⟩,λ_=>rfl,λ_=>rfl,λQ h=>⟨_,_,_,_,h⟩,λQ h=>⟨_,h⟩,rfl,rfl,by decide,cAt,λ_ _ _ _ h=>h,λ_ _ _=>rfl⟩
theorem tg{k:KY}{a0:Option Addr}{u0:Mem}{K:Kq}(h:M.get a0 u0 K (cY k) 206):aa prog 145 [pA a0,cY k] u0 K:=VC [3] [] [(5,⟨[(7,.one (.raw .ptr)),(8,.one (.raw .bool))],[]⟩)] [] [] [] [] func145 h
def gO:=Hw.gO kj tg
theorem td{k:KY}{v:VL}{a0:Option Addr}{u0:Mem}{K:Kq}(h:M.put a0 u0 K (cY k) 206 208 209 (arg (k,v)) (pl v)):aa prog 146 [pA a0,cY k,gP v] u0 K:=VC [4] [] [(4,⟨[(7,.one (.raw .ptr)),(8,.one (.raw .bool))],[]⟩)] [] [] [] [] func146 h
def mP:=Hw.mP kj fL gA td
theorem u_{k:KY}{a0:Option Addr}{u0:Mem}{K:Kq}(h:M.drop a0 u0 K (cY k) 206 209):aa prog 156 [pA a0,cY k] u0 K:=VC [3] [] [(5,⟨[(7,.one (.raw .ptr)),(8,.one (.raw .bool))],[]⟩),(7,⟨[],[]⟩)] [] [] [] [] func156 h
def oE:=Hw.oE kj gA u_
theorem te{u0:Mem}{K:Kq}(h:M.new u0 K 182):aa prog 117 [] u0 K:=VC [] [] [] [] [] [] [] func117 h
def BE:=MD.gj (M:=M) (pr:=pv) te λ_ _ hO _ hk=>gj hO .nil [] (by simp) hk
end RI
structure IY where
 p:Prod
 way:List Nat
theorem vJ(a b:ByteArray):Pure prog 324 [pS a,pS b] (pI (bE a b)):=by
 refine au.of (rK.c ?_);refine ab.mk (λh=>?_) (λh=>ab.mk (λh1=>?_) (λh1=>?_))<;>simp only[bE,wk,bU]
 ·rw[h];rfl
 ·rw[h1,h];rfl
 ·rw[h1,h];rfl
namespace RP
abbrev KY:=ByteArray
abbrev VL:=IY
abbrev El:=ByteArray×IY
@[reducible] def pv(x:El):List PV:=[pS x.1,pS x.2.p.name,.list 7 .sh (x.2.p.conds.map ae.pv),.list 19 .sh (x.2.p.bk.map cT.pv),.list 1 .sh (x.2.way.map λb=>[pP b 0])]
@[reducible] def arg(x:El):PV:=.agg (pv x)
@[reducible] def cY(k:ByteArray):PV:=pS k
@[reducible] def pk(k:ByteArray):List PV:=[pS k]
@[reducible] def pl(m:IY):List PV:=[pS m.p.name,.list 7 .sh (m.p.conds.map ae.pv),.list 19 .sh (m.p.bk.map cT.pv),.list 1 .sh (m.way.map λb=>[pP b 0])]
@[reducible] def gP(m:IY):PV:=.agg [pS m.p.name,.list 7 .sh (m.p.conds.map ae.pv),.list 19 .sh (m.p.bk.map cT.pv),.list 1 .sh (m.way.map λb=>[pP b 0])]
def z:IY:=⟨⟨⟨#[]⟩,[],[]⟩,[]⟩
def key(x:El):ByteArray:=x.1
abbrev ck:ByteArray->ByteArray->Int:=bE
theorem hc:m_ ck:=cJ
theorem tR(a b:El):Pure prog 340 [arg a,arg b] (pI (ck (key a) (key b))):=by
 refine au.of (fM.c ?_)
 first
  |exact(vJ _ _).call ⟨_,rfl,rfl⟩
  |exact⟨λv=>by kernel_rfl,(vJ _ _).call ⟨_,rfl,rfl⟩⟩
@[reducible] noncomputable def D:SD:=⟨prog,316,220,5,104,340,λQ=>∃xa xb xcf xc xdf xd xef xe,Q [pS xa,pS xb,.list 7 xcf xc,.list 19 xdf xd,.list 1 xef xe],.agg,[pS ⟨#[]⟩,pS ⟨#[]⟩,.list 7 .nil [],.list 19 .nil [],.list 1 .nil []]⟩
abbrev At(b:Nat)(l:List El):aR:=cb 316 220 5 b (l.map pv)
theorem mh:MX D pv arg key ck:=⟨λx Q h=>⟨_,_,_,_,_,_,_,_,h⟩,λ_=>rfl,λ_=>rfl,λ_=>rfl,λ_=>rfl,hc,tR,λv=>by kernel_rfl,rfl,by decide,by decide⟩
theorem dc{x:El}{a0:Option Addr}{u0:Mem}{K:Kq}(h:D.find a0 u0 K (arg x)):aa prog 197 [pA a0,arg x] u0 K:=VC [3] [(2,⟨[(6,.one (.raw (.int .i64))),(7,.one (.raw (.int .i64)))],[]⟩)] [] [] [] [] [] func197 h
theorem va{x:El}{a0:Option Addr}{u0:Mem}{K:Kq}(h:D.get a0 u0 K (arg x) 197):aa prog 132 [pA a0,arg x] u0 K:=VC [3,4,6] [] [] [] [] [] [] func132 h
theorem oe{x:El}{a0:Option Addr}{u0:Mem}{K:Kq}(h:D.Ok a0 u0 K (arg x) 197):aa prog 132 [pA a0,arg x] u0 K:=VC [3,4,6] [] [] [] [] [] [24] func132 h
def kj:=mh.kj dc va oe
theorem Qy{a0:Option Addr}{u0:Mem}{K:Kq}(h:D.len a0 u0 K):aa prog 184 [pA a0] u0 K:=VC [] [] [] [] [] [] [] func184 h
def Iu:=MX.Iu (D:=D) (pr:=pv) Qy
theorem gK{a0:Option Addr}{u0:Mem}{K:Kq}(h:D.own a0 u0 K):aa prog 205 [pA a0] u0 K:=VC [] [] [] [] [] [] [] func205 h
theorem lD{x:El}{a0:Option Addr}{u0:Mem}{K:Kq}(h:D.put a0 u0 K (pv x) (arg x) 197 205):aa prog 172 [pA a0,arg x] u0 K:=VC [3] [(9,⟨[(7,.one (.raw (.int .i64)))],[]⟩)] [] [] [] [] [23,32,43,48,57] func172 h
def fL:=mh.fL dc gK lD
theorem lG{x:El}{a0:Option Addr}{u0:Mem}{K:Kq}(h:D.drop a0 u0 K (arg x) 197 205):aa prog 142 [pA a0,arg x] u0 K:=VC [3] [(8,⟨[(7,.one (.raw (.int .i64)))],[]⟩)] [] [] [] [] [26,34,39,49,53,56] func142 h
def gA:=mh.gA dc gK lG
theorem lE{fl:Fl}{l:Lq}{u0:Mem}{K:Kq}(h:D.new u0 K 172 l):aa prog 183 [.list 5 fl l] u0 K:=VC [5] [(3,⟨[(10,.one (.raw (.int .i64)))],[]⟩)] [] [] [] [] [] func183 h
def gj:=mh.gj fL lE
theorem lF{a0:Option Addr}{a1:Int}{a2:Fn}{Cm Ck:List PV}{u0:Mem}{K:Kq}(h:D.from_ a0 u0 K a1 a2 Cm Ck):aa prog 216 [pA a0,pI a1,.fn a2 Cm Ck] u0 K:=VC [] [(3,⟨[(7,.one (.raw (.int .i64)))],[]⟩)] [] [] [] [] [] func216 h
theorem lH{a0:Fn}{Co Cn c0:List PV}{u0:Mem}{K:Kq}(h:D.zc u0 K 216 a0 Co Cn c0):aa prog 215 [.fn a0 Co Cn,.bj c0 0] u0 K:=VC [] [] [] [] [] [] [] func215 h
@[reducible] def qJ(b:Nat):PV:=.fn (.func 215) [] [.bj [pP b 0] 0]
theorem pn(b:Nat):Pure prog 149 [pP b 0] (qJ b):=au.of (eM.c rfl)
theorem dY(b:Nat)(l:List El)(hl:l.length<=4000000000000000000):gG prog (qJ b) (l.map λx=>[arg x]) (At b l) (At b l):=mh.dY lH lF b l hl
@[reducible] noncomputable def M:MD:=⟨D,224,189,1,4,133,λQ=>∃x,Q [pS x],λr=>r.headD .aY,λQ=>∃xa xbf xb xcf xc xdf xd,Q [pS xa,.list 7 xbf xb,.list 19 xcf xc,.list 1 xdf xd],.agg,[pS ⟨#[]⟩,.list 7 .nil [],.list 19 .nil [],.list 1 .nil []]⟩
abbrev cr(m:Nat)(l:List El):aR:=dH M pv m l
theorem cAt(k:KY):Pure prog 133 [cY k] (arg (k,z)):=au.of (jw.c rfl)
theorem Hw:MOk M pv arg pk cY pl gP z key ck:=⟨mh,λ_ _=>rfl,λ_=>rfl,λ_=>rfl,λ_=>rfl,λk Q h=>⟨_,h⟩,λ_=>rfl,λv Q h=>⟨_,_,_,_,_,_,_,h⟩,λ_=>rfl,λ_=>rfl,λQ h=>⟨_,_,_,_,_,_,_,_,h⟩,λQ h=>⟨_,_,_,_,_,_,_,h⟩,rfl,rfl,by decide,cAt,λ_ _ _ _ h=>h,λ_ _ _=>rfl⟩
theorem tg{k:KY}{a0:Option Addr}{u0:Mem}{K:Kq}(h:M.get a0 u0 K (cY k) 132):aa prog 75 [pA a0,cY k] u0 K:=VC [4,6] [] [(5,⟨[(7,.one (.raw .ptr)),(8,.one (.raw .bool))],[]⟩)] [] [] [] [] func75 h
def gO:=Hw.gO kj tg
theorem td{k:KY}{v:VL}{a0:Option Addr}{u0:Mem}{K:Kq}(h:M.put a0 u0 K (cY k) 132 172 142 (arg (k,v)) (pl v)):aa prog 108 [pA a0,cY k,gP v] u0 K:=VC [5] [] [(4,⟨[(7,.one (.raw .ptr)),(8,.one (.raw .bool))],[]⟩)] [] [] [] [] func108 h
def mP:=Hw.mP kj fL gA td
theorem Yx{a0:Option Addr}{u0:Mem}{K:Kq}(h:M.len a0 u0 K 184):aa prog 119 [pA a0] u0 K:=VC [] [] [] [] [] [] [] func119 h
def ad_:=MD.Iu (M:=M) (pr:=pv) Yx λ_ _ _ _ hO _ hk=>Iu hO hk
theorem te{u0:Mem}{K:Kq}(h:M.new u0 K 183):aa prog 118 [] u0 K:=VC [] [] [] [] [] [] [] func118 h
def BE:=MD.gj (M:=M) (pr:=pv) te λ_ _ hO _ hk=>gj hO .nil [] (by simp) hk
theorem AI{f:Fn}{f1 f2 c0:List PV}{u0:Mem}{K:Kq}(h:M.zc u0 K 149 f f1 f2 c0):aa prog 148 [.fn f f1 f2,.bj c0 0] u0 K:=VC [3] [] [] [(11,[220])] [] [] [] func148 h
@[reducible] def yA(m:Nat):PV:=.fn (.func 148) [] [.bj [pP m 0] 0]
theorem vK(m:Nat):Pure prog 89 [pP m 0] (yA m):=au.of (gR.c rfl)
theorem gn(m:Nat)(l:List El)(hl:l.length<=4000000000000000000):gG prog (yA m) (l.map λx=>[cY x.1,gP x.2]) (cr m l) (cr m l):=Hw.gn AI pn dY m l hl
end RP
theorem vI(a b:Int):Pure prog 349 [pI a,pI b] (pI (aw a b)):=by
 refine au.of (oP.c ?_);refine ab.mk (λh=>?_) (λh=>ab.mk (λh1=>?_) (λh1=>?_))<;>simp only[decide_eq_true_eq,decide_eq_false_iff_not]at* <;>simp only[aw,wk,bU]
 ·rw[if_pos h]
 ·rw[if_neg h,if_pos h1]
 ·rw[if_neg h,if_neg h1]
namespace AT
abbrev El:=aj
@[reducible] def pv(x:El):List PV:=aj.pv x
@[reducible] def arg(x:El):PV:=.agg x.pv
def key(x:El):Int:=x.tag
abbrev ck:Int->Int->Int:=aw
theorem hc:m_ ck:=ar
theorem tR(a b:El):Pure prog 361 [arg a,arg b] (pI (ck (key a) (key b))):=by
 refine au.of (oO.c ?_);exact(vI _ _).call ⟨_,rfl,rfl⟩
@[reducible] noncomputable def D:SD:=⟨prog,385,334,12,112,361,λQ=>∃xa xb xc xd xe xf xg xh xi xj xk xl,Q [pI xa,pS xb,pI xc,pI xd,pS xe,pI xf,pI xg,pS xh,pI xi,pB xj,pB xk,pI xl],.agg,[pI (0),pS ⟨#[]⟩,pI (0),pI (0),pS ⟨#[]⟩,pI (0),pI (0),pS ⟨#[]⟩,pI (0),pB false,pB false,pI (0)]⟩
abbrev At(b:Nat)(l:List El):aR:=cb 385 334 12 b (l.map pv)
theorem mh:MX D pv arg key ck:=⟨λx Q h=>⟨_,_,_,_,_,_,_,_,_,_,_,_,h⟩,λ_=>rfl,λ_=>rfl,λ_=>rfl,λ_=>rfl,hc,tR,λv=>by kernel_rfl,rfl,by decide,by decide⟩
theorem dc{x:El}{a0:Option Addr}{u0:Mem}{K:Kq}(h:D.find a0 u0 K (arg x)):aa prog 269 [pA a0,arg x] u0 K:=VC [3] [(2,⟨[(6,.one (.raw (.int .i64))),(7,.one (.raw (.int .i64)))],[]⟩)] [] [] [] [] [] func269 h
theorem gK{a0:Option Addr}{u0:Mem}{K:Kq}(h:D.own a0 u0 K):aa prog 270 [pA a0] u0 K:=VC [] [] [] [] [] [] [] func270 h
theorem lD{x:El}{a0:Option Addr}{u0:Mem}{K:Kq}(h:D.put a0 u0 K (pv x) (arg x) 269 270):aa prog 214 [pA a0,arg x] u0 K:=VC [3] [(9,⟨[(7,.one (.raw (.int .i64)))],[]⟩)] [] [] [] [] [23,32,43,48,57] func214 h
def fL:=mh.fL dc gK lD
theorem lG{x:El}{a0:Option Addr}{u0:Mem}{K:Kq}(h:D.drop a0 u0 K (arg x) 269 270):aa prog 219 [pA a0,arg x] u0 K:=VC [3] [(8,⟨[(7,.one (.raw (.int .i64)))],[]⟩)] [] [] [] [] [26,34,39,49,53,56] func219 h
def gA:=mh.gA dc gK lG
theorem lE{fl:Fl}{l:Lq}{u0:Mem}{K:Kq}(h:D.new u0 K 214 l):aa prog 228 [.list 12 fl l] u0 K:=VC [5] [(3,⟨[(10,.one (.raw (.int .i64)))],[]⟩)] [] [] [] [] [] func228 h
def gj:=mh.gj fL lE
theorem lF{a0:Option Addr}{a1:Int}{a2:Fn}{Cm Ck:List PV}{u0:Mem}{K:Kq}(h:D.from_ a0 u0 K a1 a2 Cm Ck):aa prog 298 [pA a0,pI a1,.fn a2 Cm Ck] u0 K:=VC [] [(3,⟨[(7,.one (.raw (.int .i64)))],[]⟩)] [] [] [] [] [] func298 h
theorem lH{a0:Fn}{Co Cn c0:List PV}{u0:Mem}{K:Kq}(h:D.zc u0 K 298 a0 Co Cn c0):aa prog 297 [.fn a0 Co Cn,.bj c0 0] u0 K:=VC [] [] [] [] [] [] [] func297 h
@[reducible] def qJ(b:Nat):PV:=.fn (.func 297) [] [.bj [pP b 0] 0]
theorem pn(b:Nat):Pure prog 281 [pP b 0] (qJ b):=au.of (kq.c rfl)
theorem dY(b:Nat)(l:List El)(hl:l.length<=4000000000000000000):gG prog (qJ b) (l.map λx=>[arg x]) (At b l) (At b l):=mh.dY lH lF b l hl
end AT
namespace AE
abbrev KY:=Int
abbrev VL:=aj
abbrev El:=Int×aj
@[reducible] def pv(x:El):List PV:=[pI x.1,pI x.2.id.k,pS x.2.id.t,pI x.2.id.n,pI x.2.attr.k,pS x.2.attr.t,pI x.2.attr.n,pI x.2.value.k,pS x.2.value.t,pI x.2.value.n,pB x.2.acc,pB x.2.goal,pI x.2.tag]
@[reducible] def arg(x:El):PV:=.agg (pv x)
@[reducible] def cY(k:Int):PV:=pI k
@[reducible] def pk(k:Int):List PV:=[pI k]
@[reducible] def pl(e:aj):List PV:=e.pv
@[reducible] def gP(e:aj):PV:=.agg e.pv
def z:aj:=⟨⟨0,⟨#[]⟩,0⟩,⟨0,⟨#[]⟩,0⟩,⟨0,⟨#[]⟩,0⟩,false,false,0⟩
def key(x:El):Int:=x.1
abbrev ck:Int->Int->Int:=aw
theorem hc:m_ ck:=ar
theorem tR(a b:El):Pure prog 365 [arg a,arg b] (pI (ck (key a) (key b))):=by
 refine au.of (fG.c ?_)
 first
  |exact(vI _ _).call ⟨_,rfl,rfl⟩
  |exact⟨λv=>by kernel_rfl,(vI _ _).call ⟨_,rfl,rfl⟩⟩
@[reducible] noncomputable def D:SD:=⟨prog,398,354,13,120,365,λQ=>∃xa xb xc xd xe xf xg xh xi xj xk xl xm,Q [pI xa,pI xb,pS xc,pI xd,pI xe,pS xf,pI xg,pI xh,pS xi,pI xj,pB xk,pB xl,pI xm],.agg,[pI (0),pI (0),pS ⟨#[]⟩,pI (0),pI (0),pS ⟨#[]⟩,pI (0),pI (0),pS ⟨#[]⟩,pI (0),pB false,pB false,pI (0)]⟩
abbrev At(b:Nat)(l:List El):aR:=cb 398 354 13 b (l.map pv)
theorem mh:MX D pv arg key ck:=⟨λx Q h=>⟨_,_,_,_,_,_,_,_,_,_,_,_,_,h⟩,λ_=>rfl,λ_=>rfl,λ_=>rfl,λ_=>rfl,hc,tR,λv=>by kernel_rfl,rfl,by decide,by decide⟩
theorem dc{x:El}{a0:Option Addr}{u0:Mem}{K:Kq}(h:D.find a0 u0 K (arg x)):aa prog 288 [pA a0,arg x] u0 K:=VC [3] [(2,⟨[(6,.one (.raw (.int .i64))),(7,.one (.raw (.int .i64)))],[]⟩)] [] [] [] [] [] func288 h
theorem va{x:El}{a0:Option Addr}{u0:Mem}{K:Kq}(h:D.get a0 u0 K (arg x) 288):aa prog 263 [pA a0,arg x] u0 K:=VC [3,4,6] [] [] [] [] [] [] func263 h
theorem oe{x:El}{a0:Option Addr}{u0:Mem}{K:Kq}(h:D.Ok a0 u0 K (arg x) 288):aa prog 263 [pA a0,arg x] u0 K:=VC [3,4,6] [] [] [] [] [] [24] func263 h
def kj:=mh.kj dc va oe
theorem gK{a0:Option Addr}{u0:Mem}{K:Kq}(h:D.own a0 u0 K):aa prog 289 [pA a0] u0 K:=VC [] [] [] [] [] [] [] func289 h
theorem lD{x:El}{a0:Option Addr}{u0:Mem}{K:Kq}(h:D.put a0 u0 K (pv x) (arg x) 288 289):aa prog 265 [pA a0,arg x] u0 K:=VC [3] [(9,⟨[(7,.one (.raw (.int .i64)))],[]⟩)] [] [] [] [] [23,32,43,48,57] func265 h
def fL:=mh.fL dc gK lD
theorem lG{x:El}{a0:Option Addr}{u0:Mem}{K:Kq}(h:D.drop a0 u0 K (arg x) 288 289):aa prog 266 [pA a0,arg x] u0 K:=VC [3] [(8,⟨[(7,.one (.raw (.int .i64)))],[]⟩)] [] [] [] [] [26,34,39,49,53,56] func266 h
def gA:=mh.gA dc gK lG
theorem lE{fl:Fl}{l:Lq}{u0:Mem}{K:Kq}(h:D.new u0 K 265 l):aa prog 241 [.list 13 fl l] u0 K:=VC [5] [(3,⟨[(10,.one (.raw (.int .i64)))],[]⟩)] [] [] [] [] [] func241 h
def gj:=mh.gj fL lE
theorem lF{a0:Option Addr}{a1:Int}{a2:Fn}{Cm Ck:List PV}{u0:Mem}{K:Kq}(h:D.from_ a0 u0 K a1 a2 Cm Ck):aa prog 295 [pA a0,pI a1,.fn a2 Cm Ck] u0 K:=VC [] [(3,⟨[(7,.one (.raw (.int .i64)))],[]⟩)] [] [] [] [] [] func295 h
theorem lH{a0:Fn}{Co Cn c0:List PV}{u0:Mem}{K:Kq}(h:D.zc u0 K 295 a0 Co Cn c0):aa prog 294 [.fn a0 Co Cn,.bj c0 0] u0 K:=VC [] [] [] [] [] [] [] func294 h
@[reducible] def qJ(b:Nat):PV:=.fn (.func 294) [] [.bj [pP b 0] 0]
theorem pn(b:Nat):Pure prog 277 [pP b 0] (qJ b):=au.of (eE.c rfl)
theorem dY(b:Nat)(l:List El)(hl:l.length<=4000000000000000000):gG prog (qJ b) (l.map λx=>[arg x]) (At b l) (At b l):=mh.dY lH lF b l hl
@[reducible] noncomputable def M:MD:=⟨D,356,328,1,12,264,λQ=>∃x,Q [pI x],λr=>r.headD .aY,λQ=>∃xa xb xc xd xe xf xg xh xi xj xk xl,Q [pI xa,pS xb,pI xc,pI xd,pS xe,pI xf,pI xg,pS xh,pI xi,pB xj,pB xk,pI xl],.agg,[pI (0),pS ⟨#[]⟩,pI (0),pI (0),pS ⟨#[]⟩,pI (0),pI (0),pS ⟨#[]⟩,pI (0),pB false,pB false,pI (0)]⟩
abbrev cr(m:Nat)(l:List El):aR:=dH M pv m l
theorem cAt(k:KY):Pure prog 264 [cY k] (arg (k,z)):=au.of (iW.c rfl)
theorem Hw:MOk M pv arg pk cY pl gP z key ck:=⟨mh,λ_ _=>rfl,λ_=>rfl,λ_=>rfl,λ_=>rfl,λk Q h=>⟨_,h⟩,λ_=>rfl,λv Q h=>⟨_,_,_,_,_,_,_,_,_,_,_,_,h⟩,λ_=>rfl,λ_=>rfl,λQ h=>⟨_,_,_,_,_,_,_,_,_,_,_,_,_,h⟩,λQ h=>⟨_,_,_,_,_,_,_,_,_,_,_,_,h⟩,rfl,rfl,by decide,cAt,λ_ _ _ _ h=>h,λ_ _ _=>rfl⟩
theorem tg{k:KY}{a0:Option Addr}{u0:Mem}{K:Kq}(h:M.get a0 u0 K (cY k) 263):aa prog 210 [pA a0,cY k] u0 K:=VC [4,6] [] [(5,⟨[(7,.one (.raw .ptr)),(8,.one (.raw .bool))],[]⟩)] [] [] [] [] func210 h
def gO:=Hw.gO kj tg
theorem td{k:KY}{v:VL}{a0:Option Addr}{u0:Mem}{K:Kq}(h:M.put a0 u0 K (cY k) 263 265 266 (arg (k,v)) (pl v)):aa prog 211 [pA a0,cY k,gP v] u0 K:=VC [5] [] [(4,⟨[(7,.one (.raw .ptr)),(8,.one (.raw .bool))],[]⟩)] [] [] [] [] func211 h
def mP:=Hw.mP kj fL gA td
theorem u_{k:KY}{a0:Option Addr}{u0:Mem}{K:Kq}(h:M.drop a0 u0 K (cY k) 263 266):aa prog 218 [pA a0,cY k] u0 K:=VC [4,6] [] [(5,⟨[(7,.one (.raw .ptr)),(8,.one (.raw .bool))],[]⟩),(7,⟨[],[]⟩)] [] [] [] [] func218 h
def oE:=Hw.oE kj gA u_
theorem te{u0:Mem}{K:Kq}(h:M.new u0 K 241):aa prog 180 [] u0 K:=VC [] [] [] [] [] [] [] func180 h
def BE:=MD.gj (M:=M) (pr:=pv) te λ_ _ hO _ hk=>gj hO .nil [] (by simp) hk
theorem AI{f:Fn}{f1 f2 c0:List PV}{u0:Mem}{K:Kq}(h:M.zc u0 K 277 f f1 f2 c0):aa prog 276 [.fn f f1 f2,.bj c0 0] u0 K:=VC [3] [] [] [(11,[354])] [] [] [] func276 h
@[reducible] def yA(m:Nat):PV:=.fn (.func 276) [] [.bj [pP m 0] 0]
theorem vK(m:Nat):Pure prog 229 [pP m 0] (yA m):=au.of (gH.c rfl)
theorem gn(m:Nat)(l:List El)(hl:l.length<=4000000000000000000):gG prog (yA m) (l.map λx=>[cY x.1,gP x.2]) (cr m l) (cr m l):=Hw.gn AI pn dY m l hl
end AE
structure OZ where
 c:ae
 aM:Int
 has:Option Addr
namespace AM
abbrev KY:=Int
abbrev VL:=OZ
abbrev El:=Int×OZ
@[reducible] def pv(x:El):List PV:=[pI x.1,pI x.2.c.kind,pB x.2.c.goal,pS x.2.c.id,.list 6 .sh (x.2.c.attr.map Test.pv),.list 6 .sh (x.2.c.value.map Test.pv),pB x.2.c.acc,.list 7 .sh (x.2.c.conds.map ae.pv),pI x.2.aM,.raw (.pointer x.2.has)]
@[reducible] def arg(x:El):PV:=.agg (pv x)
@[reducible] def cY(k:Int):PV:=pI k
@[reducible] def pk(k:Int):List PV:=[pI k]
@[reducible] def pl(m:OZ):List PV:=[pI m.c.kind,pB m.c.goal,pS m.c.id,.list 6 .sh (m.c.attr.map Test.pv),.list 6 .sh (m.c.value.map Test.pv),pB m.c.acc,.list 7 .sh (m.c.conds.map ae.pv),pI m.aM,.raw (.pointer m.has)]
@[reducible] def gP(m:OZ):PV:=.agg [pI m.c.kind,pB m.c.goal,pS m.c.id,.list 6 .sh (m.c.attr.map Test.pv),.list 6 .sh (m.c.value.map Test.pv),pB m.c.acc,.list 7 .sh (m.c.conds.map ae.pv),pI m.aM,.raw (.pointer m.has)]
def z:OZ:=⟨.mk 0 false ⟨#[]⟩ [] [] false [],0,none⟩
def key(x:El):Int:=x.1
abbrev ck:Int->Int->Int:=aw
theorem hc:m_ ck:=ar
theorem tR(a b:El):Pure prog 369 [arg a,arg b] (pI (ck (key a) (key b))):=by
 refine au.of (eO.c ?_)
 first
  |exact(vI _ _).call ⟨_,rfl,rfl⟩
  |exact⟨λv=>by kernel_rfl,(vI _ _).call ⟨_,rfl,rfl⟩⟩
@[reducible] noncomputable def D:SD:=⟨prog,401,360,10,136,369,λQ=>∃xa xb xc xd xef xe xff xf xg xhf xh xi xj,Q [pI xa,pI xb,pB xc,pS xd,.list 6 xef xe,.list 6 xff xf,pB xg,.list 7 xhf xh,pI xi,pA xj],.agg,[pI (0),pI (0),pB false,pS ⟨#[]⟩,.list 6 .nil [],.list 6 .nil [],pB false,.list 7 .nil [],pI (0),pA none]⟩
abbrev At(b:Nat)(l:List El):aR:=cb 401 360 10 b (l.map pv)
theorem mh:MX D pv arg key ck:=⟨λx Q h=>⟨_,_,_,_,_,_,_,_,_,_,_,_,_,h⟩,λ_=>rfl,λ_=>rfl,λ_=>rfl,λ_=>rfl,hc,tR,λv=>by kernel_rfl,rfl,by decide,by decide⟩
theorem dc{x:El}{a0:Option Addr}{u0:Mem}{K:Kq}(h:D.find a0 u0 K (arg x)):aa prog 292 [pA a0,arg x] u0 K:=VC [3] [(2,⟨[(6,.one (.raw (.int .i64))),(7,.one (.raw (.int .i64)))],[]⟩)] [] [] [] [] [] func292 h
theorem va{x:El}{a0:Option Addr}{u0:Mem}{K:Kq}(h:D.get a0 u0 K (arg x) 292):aa prog 272 [pA a0,arg x] u0 K:=VC [3,4,6] [] [] [] [] [] [] func272 h
theorem oe{x:El}{a0:Option Addr}{u0:Mem}{K:Kq}(h:D.Ok a0 u0 K (arg x) 292):aa prog 272 [pA a0,arg x] u0 K:=VC [3,4,6] [] [] [] [] [] [24] func272 h
def kj:=mh.kj dc va oe
theorem gK{a0:Option Addr}{u0:Mem}{K:Kq}(h:D.own a0 u0 K):aa prog 293 [pA a0] u0 K:=VC [] [] [] [] [] [] [] func293 h
theorem lD{x:El}{a0:Option Addr}{u0:Mem}{K:Kq}(h:D.put a0 u0 K (pv x) (arg x) 292 293):aa prog 274 [pA a0,arg x] u0 K:=VC [3] [(9,⟨[(7,.one (.raw (.int .i64)))],[]⟩)] [] [] [] [] [23,32,43,48,57] func274 h
def fL:=mh.fL dc gK lD
theorem lG{x:El}{a0:Option Addr}{u0:Mem}{K:Kq}(h:D.drop a0 u0 K (arg x) 292 293):aa prog 275 [pA a0,arg x] u0 K:=VC [3] [(8,⟨[(7,.one (.raw (.int .i64)))],[]⟩)] [] [] [] [] [26,34,39,49,53,56] func275 h
def gA:=mh.gA dc gK lG
theorem lE{fl:Fl}{l:Lq}{u0:Mem}{K:Kq}(h:D.new u0 K 274 l):aa prog 242 [.list 10 fl l] u0 K:=VC [5] [(3,⟨[(10,.one (.raw (.int .i64)))],[]⟩)] [] [] [] [] [] func242 h
def gj:=mh.gj fL lE
theorem lF{a0:Option Addr}{a1:Int}{a2:Fn}{Cm Ck:List PV}{u0:Mem}{K:Kq}(h:D.from_ a0 u0 K a1 a2 Cm Ck):aa prog 291 [pA a0,pI a1,.fn a2 Cm Ck] u0 K:=VC [] [(3,⟨[(7,.one (.raw (.int .i64)))],[]⟩)] [] [] [] [] [] func291 h
theorem lH{a0:Fn}{Co Cn c0:List PV}{u0:Mem}{K:Kq}(h:D.zc u0 K 291 a0 Co Cn c0):aa prog 290 [.fn a0 Co Cn,.bj c0 0] u0 K:=VC [] [] [] [] [] [] [] func290 h
@[reducible] def qJ(b:Nat):PV:=.fn (.func 290) [] [.bj [pP b 0] 0]
theorem pn(b:Nat):Pure prog 268 [pP b 0] (qJ b):=au.of (dP.c rfl)
theorem dY(b:Nat)(l:List El)(hl:l.length<=4000000000000000000):gG prog (qJ b) (l.map λx=>[arg x]) (At b l) (At b l):=mh.dY lH lF b l hl
@[reducible] noncomputable def M:MD:=⟨D,362,339,1,9,273,λQ=>∃x,Q [pI x],λr=>r.headD .aY,λQ=>∃xa xb xc xdf xd xef xe xf xgf xg xh xi,Q [pI xa,pB xb,pS xc,.list 6 xdf xd,.list 6 xef xe,pB xf,.list 7 xgf xg,pI xh,pA xi],.agg,[pI (0),pB false,pS ⟨#[]⟩,.list 6 .nil [],.list 6 .nil [],pB false,.list 7 .nil [],pI (0),pA none]⟩
abbrev cr(m:Nat)(l:List El):aR:=dH M pv m l
theorem cAt(k:KY):Pure prog 273 [cY k] (arg (k,z)):=au.of (gQ.c rfl)
theorem Hw:MOk M pv arg pk cY pl gP z key ck:=⟨mh,λ_ _=>rfl,λ_=>rfl,λ_=>rfl,λ_=>rfl,λk Q h=>⟨_,h⟩,λ_=>rfl,λv Q h=>⟨_,_,_,_,_,_,_,_,_,_,_,_,h⟩,λ_=>rfl,λ_=>rfl,λQ h=>⟨_,_,_,_,_,_,_,_,_,_,_,_,_,h⟩,λQ h=>⟨_,_,_,_,_,_,_,_,_,_,_,_,h⟩,rfl,rfl,by decide,cAt,λ_ _ _ _ h=>h,λ_ _ _=>rfl⟩
theorem tg{k:KY}{a0:Option Addr}{u0:Mem}{K:Kq}(h:M.get a0 u0 K (cY k) 272):aa prog 238 [pA a0,cY k] u0 K:=VC [4,6] [] [(5,⟨[(7,.one (.raw .ptr)),(8,.one (.raw .bool))],[]⟩)] [] [] [] [] func238 h
def gO:=Hw.gO kj tg
theorem td{k:KY}{v:VL}{a0:Option Addr}{u0:Mem}{K:Kq}(h:M.put a0 u0 K (cY k) 272 274 275 (arg (k,v)) (pl v)):aa prog 227 [pA a0,cY k,gP v] u0 K:=VC [5] [] [(4,⟨[(7,.one (.raw .ptr)),(8,.one (.raw .bool))],[]⟩)] [] [] [] [] func227 h
def mP:=Hw.mP kj fL gA td
theorem u_{k:KY}{a0:Option Addr}{u0:Mem}{K:Kq}(h:M.drop a0 u0 K (cY k) 272 275):aa prog 239 [pA a0,cY k] u0 K:=VC [4,6] [] [(5,⟨[(7,.one (.raw .ptr)),(8,.one (.raw .bool))],[]⟩),(7,⟨[],[]⟩)] [] [] [] [] func239 h
def oE:=Hw.oE kj gA u_
theorem te{u0:Mem}{K:Kq}(h:M.new u0 K 242):aa prog 181 [] u0 K:=VC [] [] [] [] [] [] [] func181 h
def BE:=MD.gj (M:=M) (pr:=pv) te λ_ _ hO _ hk=>gj hO .nil [] (by simp) hk
theorem AI{f:Fn}{f1 f2 c0:List PV}{u0:Mem}{K:Kq}(h:M.zc u0 K 268 f f1 f2 c0):aa prog 267 [.fn f f1 f2,.bj c0 0] u0 K:=VC [3] [] [] [(11,[360])] [] [] [] func267 h
@[reducible] def yA(m:Nat):PV:=.fn (.func 267) [] [.bj [pP m 0] 0]
theorem vK(m:Nat):Pure prog 212 [pP m 0] (yA m):=au.of (fN.c rfl)
theorem gn(m:Nat)(l:List El)(hl:l.length<=4000000000000000000):gG prog (yA m) (l.map λx=>[cY x.1,gP x.2]) (cr m l) (cr m l):=Hw.gn AI pn dY m l hl
end AM
def gX(l:List Test):List Test:=l.filter λt=>aF t.var ⟨#[]⟩
def bt(c:ae):ae:=.mk 1 c.goal ⟨#[]⟩ (gX c.attr) (gX c.value) c.acc []
def WM(c:ae):ae:=.mk c.kind c.goal ⟨#[120]⟩ c.attr c.value c.acc c.conds
def bg(c:ae)(e:aj):Bool:=(c_ (WM c) e []).isSome
theorem sO(l:List Test):(gX l).length<=l.length:=List.length_filter_le _ _
theorem BK{c:ae}(h:cW c):cW (bt c):=by
 obtain⟨_,h1,h2,h3,h4,_⟩:=(bG c).1 h;have a:=sO c.attr;have b:=sO c.value;refine(bG _).2 ⟨by show(⟨#[]⟩:ByteArray).size<=100;decide,le_trans a h1,le_trans b h2,λt ht=>h3 t (mem_filter.1 ht).1,λt ht=>h4 t (mem_filter.1 ht).1,trivial⟩
structure Ei(c:ae):Prop where
 kind:c.kind=1
 id:c.id=⟨#[]⟩
 conds:c.conds=[]
 sk:cW c
theorem Ee{c:ae}(h:cW c):Ei (bt c):=⟨rfl,rfl,rfl,BK h⟩
theorem Ei.eq{c d:ae}(hc:Ei c)(hd:Ei d)(h1:c.goal=d.goal)(h2:c.acc=d.acc)(h3:c.attr=d.attr)(h4:c.value=d.value):c=d:=
 zK (hc.kind.trans hd.kind.symm) h1 (hc.id.trans hd.id.symm) h3 h4 h2 (hc.conds.trans hd.conds.symm)
structure dX where
 c:ae
 aM:Int
 b:Nat
 l:List aj
def dX.acn(m:dX):OZ:=⟨m.c,m.aM,some ⟨m.b,0,none⟩⟩
abbrev dg:=List (Int×dX)
def mY(e:aj):AE.El:=(e.tag,e)
def iL(x:Int×dX):AM.El:=(x.1,x.2.acn)
def dn(x:Int×dX):aR:=AT.At x.2.b x.2.l
def aG(e:aj):Int:=e.tag
def bO(x:Int×dX):Int:=x.1
def bB(n:Nat)(es:List aj)(ms:dg):aR:=λμ=>∃me mm,Ow (Pt n 294 [pP me 0,pP mm 0]::AE.cr me (es.map mY)::AM.cr mm (ms.map iL)::ms.map dn) μ
theorem bB.open_{n:Nat}{es:List aj}{ms:dg}{L:List aR}{μ:Mem}(h:Ow (bB n es ms::L) μ):∃me mm,Ow (Pt n 294 [pP me 0,pP mm 0]::AE.cr me (es.map mY)::AM.cr mm (ms.map iL)::(ms.map dn++L)) μ:=by
 obtain⟨me,h⟩:=Ow.ex h;obtain⟨mm,h⟩:=Ow.ex h;exact⟨me,mm,h.nest⟩
theorem bB.shut{n me mm:Nat}{es:List aj}{ms:dg}{L:List aR}{μ:Mem}(h:Ow (Pt n 294 [pP me 0,pP mm 0]::AE.cr me (es.map mY)::AM.cr mm (ms.map iL)::(ms.map dn++L)) μ):Ow (bB n es ms::L) μ:=
 (Ow.pack (L1:=Pt n 294 [pP me 0,pP mm 0]::AE.cr me (es.map mY)::AM.cr mm (ms.map iL)::ms.map dn) h).imp λ_ hν=>⟨me,mm,hν⟩
structure dr(es:List aj)(ms:dg):Prop where
 wC:b_ aw aG es
 mX:b_ aw bO ms
 has:∀x∈ms,x.2.l=es.filter (bg x.2.c)
 bare:∀x∈ms,Ei x.2.c
 num:∀x∈ms,0<=x.1/\x.1<1000000
 aM:∀x∈ms,1<=x.2.aM/\x.2.aM<1000000
 inj:∀x∈ms,∀y∈ms,x.2.c=y.2.c->x=y
 le:es.length<1000000
 lm:ms.length<1000000
theorem dr.ue{es:List aj}{ms:dg}(h:dr es ms):b_ AE.ck AE.key (es.map mY):=b_.map h.wC
theorem dr.um{es:List aj}{ms:dg}(h:dr es ms):b_ AM.ck AM.key (ms.map iL):=b_.map h.mX
theorem dr.ul{es:List aj}{ms:dg}(h:dr es ms){x:Int×dX}(hx:x∈ms):b_ AT.ck AT.key x.2.l/\x.2.l.length<1000000:=by
 rw[h.has x hx];exact⟨b_.filter h.wC _,Nat.lt_of_le_of_lt (List.length_filter_le _ _) h.le⟩
theorem dr.nil:dr [] []:=⟨Pairwise.nil,Pairwise.nil,by simp,by simp,by simp,by simp,by simp,by simp,by simp⟩
def least(ms:dg):Int:=ms.foldl (λa x=>if x.1=a then a+1 else a) 0
theorem Ba{ms:dg}{k:Nat}(hk:k<ms.length):least (ms.take (k+1))=if ms[k].1=least (ms.take k)then least (ms.take k)+1 else least (ms.take k):=by
 unfold least;rw[take_add_one,getElem?_eq_getElem hk,List.foldl_append];rfl
theorem Bb:∀(ms:dg),b_ aw bO ms->(∀x∈ms,0<=x.1)->0<=least ms/\least ms<=ms.length/\(∀j:Int,0<=j->j<least ms->∃x∈ms,x.1=j)/\∀x∈ms,x.1≠least ms:=by
 intro ms hu h0;have key:∀k,k<=ms.length->0<=least (ms.take k)/\least (ms.take k)<=k/\(∀j:Int,0<=j->j<least (ms.take k)->∃x∈ms.take k,x.1=j)/\(∀x∈ms.take k,x.1≠least (ms.take k)):=by
  intro k;induction k with
  |zero=>
   intro _;refine⟨by simp[least],by simp[least],λj h1 h2=>?_,by simp⟩;have:least (ms.take 0)=0:=rfl;omega
  |succ k ih=>
   intro hk;obtain⟨i1,i2,i3,i4⟩:=ih (by omega);have bZ:k<ms.length:=by omega
   have eJ:∀x,x∈ms.take (k+1)↔x∈ms.take k\/x=ms[k]:=λx=>by
    rw[take_add_one,getElem?_eq_getElem bZ,List.mem_append];simp
   have bI:∀x∈ms.take k,x.1<ms[k].1:=λx hx=>by
    obtain⟨i,hi,rfl⟩:=mem_iff_getElem.1 hx;rw[getElem_take];simp only[length_take]at hi;have:=List.pairwise_iff_getElem.1 hu i k (by omega) bZ (by omega);exact vF.1 this
   rw[Ba bZ];split
   ·rename_i e;refine⟨by omega,by omega,λj h1 h2=>?_,λx hx=>?_⟩
    ·by_cases hj:j<least (ms.take k)
     ·obtain⟨x,hx,ex⟩:=i3 j h1 hj;exact⟨x,(eJ x).2 (.inl hx),ex⟩
     ·exact⟨ms[k],(eJ _).2 (.inr rfl),by omega⟩
    ·rcases(eJ x).1 hx with h|rfl
     ·have:=bI x h;omega
     ·omega
   ·rename_i e;refine⟨i1,by omega,λj h1 h2=>?_,λx hx=>?_⟩
    ·obtain⟨x,hx,ex⟩:=i3 j h1 h2;exact⟨x,(eJ x).2 (.inl hx),ex⟩
    ·rcases(eJ x).1 hx with h|rfl
     ·exact i4 x h
     ·exact e
 have:=key ms.length (Nat.le_refl _);rw[take_length]at this;exact this
theorem Hb{es:List aj}{ms:dg}(hI:dr es ms){x x':Int×dX}(hx:x∈ms)(hk:x'.1=x.1)(hs:dn x'=dn x):(aZ aw bO x' ms).map dn=ms.map dn:=by
 obtain⟨A,B,e,_,h⟩:=hI.mX.at_ ar hx;have h2:=h x' hk;rw[h2]
 conv=>rhs;rw[e]
 simp[hs]
theorem dr.del{es:List aj}{ms:dg}(h:dr es ms)(k:Int):dr es (bY aw bO k ms):=by
 have hm:∀x,x∈bY aw bO k ms->x∈ms:=λx hx=>(mem_filter.1 hx).1;exact⟨h.wC,h.mX.del k,λx hx=>h.has x (hm x hx),λx hx=>h.bare x (hm x hx),λx hx=>h.num x (hm x hx),λx hx=>h.aM x (hm x hx),λx hx y hy=>h.inj x (hm x hx) y (hm y hy),h.le,Nat.lt_of_le_of_lt vE h.lm⟩
theorem dr.iM{es:List aj}{ms:dg}(h:dr es ms){x x':Int×dX}(hx:x∈ms)(hk:x'.1=x.1)(hc:x'.2.c=x.2.c)(hl:x'.2.l=x.2.l)(hu:1<=x'.2.aM/\x'.2.aM<1000000):dr es (aZ aw bO x' ms):=by
 obtain⟨A,B,e,_,h2⟩:=h.mX.at_ ar hx;have hi:=h2 x' hk;have hm:∀y,y∈aZ aw bO x' ms->y=x'\/y∈ms:=λy hy=>((bh ar).1 hy).imp id λh=>h.1
 have hlen:(aZ aw bO x' ms).length=ms.length:=by rw[hi];conv=>rhs;rw[e]
                                                 simp
 refine⟨h.wC,h.mX.ins ar x',λy hy=>?_,λy hy=>?_,λy hy=>?_,λy hy=>?_,λy hy z hz e'=>?_,h.le,by rw[hlen];exact h.lm⟩
 ·rcases hm y hy with rfl|hy
  ·rw[hl,hc];exact h.has x hx
  ·exact h.has y hy
 ·rcases hm y hy with rfl|hy
  ·rw[hc];exact h.bare x hx
  ·exact h.bare y hy
 ·rcases hm y hy with rfl|hy
  ·rw[hk];exact h.num x hx
  ·exact h.num y hy
 ·rcases hm y hy with rfl|hy
  ·exact hu
  ·exact h.aM y hy
 ·rcases(bh ar).1 hy with ey|⟨Mf,Fc⟩<;>rcases(bh ar).1 hz with ez|⟨QZ,hz2⟩
  ·rw[ey,ez]
  ·rw[ey,hc]at e';have:=h.inj x hx z QZ e';exact absurd (by rw[<- this];exact hk.symm) hz2
  ·rw[ez,hc]at e';have:=h.inj y Mf x hx e';exact absurd (by rw[this];exact hk.symm) Fc
  ·exact h.inj y Mf z QZ e'
theorem dr.new{es:List aj}{ms:dg}(h:dr es ms){c:ae}(hc:Ei c)(hn:∀x∈ms,x.2.c≠c)(b:Nat)(hlm:ms.length+1<1000000):aL aw bO (least ms) ms=none/\dr es (aZ aw bO (least ms,⟨c,1,b,es.filter (bg c)⟩) ms):=by
 obtain⟨l0,l1,_,l3⟩:=Bb ms h.mX λx hx=>(h.num x hx).1;have hm:∀y,y∈aZ aw bO (least ms,⟨c,1,b,es.filter (bg c)⟩) ms->y=(least ms,⟨c,1,b,es.filter (bg c)⟩)\/y∈ms:=λy hy=>((bh ar).1 hy).imp id λh=>h.1;have hlen:=vl (ck:=aw) (key:=bO) (x:=(least ms,⟨c,1,b,es.filter (bg c)⟩)) (L:=ms);refine⟨(bz ar).2 λx hx=>l3 x hx,h.wC,h.mX.ins ar _,λy hy=>?_,λy hy=>?_,λy hy=>?_,λy hy=>?_,λy hy z hz e'=>?_,h.le,by omega⟩
 ·rcases hm y hy with rfl|hy
  ·rfl
  ·exact h.has y hy
 ·rcases hm y hy with rfl|hy
  ·exact hc
  ·exact h.bare y hy
 ·rcases hm y hy with rfl|hy
  ·exact⟨l0,by show least ms<1000000;omega⟩
  ·exact h.num y hy
 ·rcases hm y hy with rfl|hy
  ·exact⟨by show(1:Int)<=1;omega,by show(1:Int)<1000000;omega⟩
  ·exact h.aM y hy
 ·rcases hm y hy with rfl|hy<;>rcases hm z hz with rfl|hz
  ·rfl
  ·exact absurd e'.symm (hn z hz)
  ·exact absurd e' (hn y hy)
  ·exact h.inj y hy z hz e'
def xn(e:aj)(x:Int×dX):Int×dX:=(x.1,{x.2 with l:=if bg x.2.c e then dq aw aG e x.2.l else x.2.l})
def oX(t:Int)(x:Int×dX):Int×dX:=(x.1,{x.2 with l:=bY aw aG t x.2.l})
def et(e:aj)(ms:dg):List Int:=(ms.filter λx=>bg x.2.c e).map (·.1)
theorem dr.xn{es:List aj}{ms:dg}(h:dr es ms){e:aj}(hn:aL aw aG e.tag es=none)(hle:es.length+1<1000000):dr (aZ aw aG e es) (ms.map (xn e)):=by
 have hnn:=(bz ar).1 hn;have hlen:=vl (ck:=aw) (key:=aG) (x:=e) (L:=es);have hm:∀y∈ms.map (Go.Proofs.YtbodiiomcfgokaaGreat.xn e),∃x∈ms,y=Go.Proofs.YtbodiiomcfgokaaGreat.xn e x:=λy hy=>by obtain⟨x,hx,rfl⟩:=mem_map.1 hy;exact⟨x,hx,rfl⟩
 refine⟨h.wC.ins ar e,b_.map (f:=Go.Proofs.YtbodiiomcfgokaaGreat.xn e) h.mX,λy hy=>?_,λy hy=>?_,λy hy=>?_,λy hy=>?_,λy hy z hz e'=>?_,by omega,by simpa using h.lm⟩
 ·obtain⟨x,hx,rfl⟩:=hm y hy;show(if bg x.2.c e then dq aw aG e x.2.l else x.2.l)=_;rw[h.has x hx];have Ty:aL aw aG e.tag (es.filter (bg x.2.c))=none:=(bz ar).2 λy hy=>hnn y (mem_filter.1 hy).1;split
  ·rename_i hme;rw[dq];have:aL aw aG (aG e) (es.filter (bg x.2.c))=none:=Ty;rw[this];refine b_.ext ar (b_.ins ar (h.wC.filter _) e) ((h.wC.ins ar e).filter _) λy=>?_;show y∈aZ aw aG e _↔_;rw[bh ar,mem_filter,mem_filter,bh ar];constructor
   ·rintro(rfl|⟨⟨h1,h2⟩,h3⟩)
    ·exact⟨.inl rfl,hme⟩
    ·exact⟨.inr ⟨h1,h3⟩,h2⟩
   ·rintro⟨rfl|⟨h1,h3⟩,h2⟩
    ·exact .inl rfl
    ·exact .inr ⟨⟨h1,h2⟩,h3⟩
  ·rename_i hme;refine b_.ext ar (h.wC.filter _) ((h.wC.ins ar e).filter _) λy=>?_;rw[mem_filter,mem_filter,bh ar];constructor
   ·rintro⟨h1,h2⟩;exact⟨.inr ⟨h1,hnn y h1⟩,h2⟩
   ·rintro⟨rfl|⟨h1,h3⟩,h2⟩
    ·exact absurd h2 hme
    ·exact⟨h1,h2⟩
 ·obtain⟨x,hx,rfl⟩:=hm y hy;exact h.bare x hx
 ·obtain⟨x,hx,rfl⟩:=hm y hy;exact h.num x hx
 ·obtain⟨x,hx,rfl⟩:=hm y hy;exact h.aM x hx
 ·obtain⟨x,hx,rfl⟩:=hm y hy;obtain⟨x',Mg,rfl⟩:=hm z hz;rw[h.inj x hx x' Mg e']
theorem dr.oX{es:List aj}{ms:dg}(h:dr es ms)(t:Int):dr (bY aw aG t es) (ms.map (oX t)):=by
 have hm:∀y∈ms.map (Go.Proofs.YtbodiiomcfgokaaGreat.oX t),∃x∈ms,y=Go.Proofs.YtbodiiomcfgokaaGreat.oX t x:=λy hy=>by obtain⟨x,hx,rfl⟩:=mem_map.1 hy;exact⟨x,hx,rfl⟩
 refine⟨h.wC.del t,b_.map (f:=Go.Proofs.YtbodiiomcfgokaaGreat.oX t) h.mX,λy hy=>?_,λy hy=>?_,λy hy=>?_,λy hy=>?_,λy hy z hz e'=>?_,Nat.lt_of_le_of_lt vE h.le,by simpa using h.lm⟩
 ·obtain⟨x,hx,rfl⟩:=hm y hy;show bY aw aG t x.2.l=_;rw[h.has x hx];unfold bY;rw[List.filter_filter,List.filter_filter];exact List.filter_congr λy _=>Bool.and_comm _ _
 ·obtain⟨x,hx,rfl⟩:=hm y hy;exact h.bare x hx
 ·obtain⟨x,hx,rfl⟩:=hm y hy;exact h.num x hx
 ·obtain⟨x,hx,rfl⟩:=hm y hy;exact h.aM x hx
 ·obtain⟨x,hx,rfl⟩:=hm y hy;obtain⟨x',Mg,rfl⟩:=hm z hz;rw[h.inj x hx x' Mg e']
end Go.Proofs.YtbodiiomcfgokaaGreat
