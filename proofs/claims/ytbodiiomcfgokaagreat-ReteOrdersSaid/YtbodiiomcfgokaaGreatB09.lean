import Derived.Test.YtbodiiomcfgokaaGreatB08
set_option linter.all false
namespace Go.aK
open Go.RowKit
section
variable {T κ:Type} (ck:κ->κ->Int) (key:T->κ)
def ca(L:List T):Prop:=L.Pairwise λa b=>ck (key a) (key b)<0
def Db(k:κ)(y:T):Bool:=decide (ck (key y) k<0)
def HT(k:κ)(y:T):Bool:=decide (0<ck (key y) k)
def DQ(k:κ)(y:T):Bool:=decide (ck (key y) k=0)
def aL(k:κ)(L:List T):Option T:=L.find? (DQ ck key k)
def Xe(k:κ)(L:List T):Nat:=(L.filter (Db ck key k)).length
def bc(x:T)(L:List T):List T:=L.filter (Db ck key (key x))++x::L.filter (HT ck key (key x))
def bq(k:κ)(L:List T):List T:=L.filter λy=> !DQ ck key k y
def et(x:T)(L:List T):List T:=if(aL ck key (key x) L).isSome then L else bc ck key x L
end
section
variable {T κ:Type} {ck:κ->κ->Int} {key:T->κ}
theorem oF.self(hc:oF ck)(a:κ):ck a a=0:=(hc.zero a a).2 rfl
theorem ca.up{L:List T}(h:ca ck key L):Up ck (L.map key):=by
 unfold Up;rw[List.pairwise_map];exact h
theorem oY{α:Type}{p:α->Bool}{L:List α}{k:Nat}(hk:k<=L.length)(h1:∀(i:Nat) (h:i<L.length),i<k->p L[i]=true)(h2:∀(i:Nat) (h:i<L.length),k<=i->p L[i]=false):L.filter p=L.take k:=by
 have e:=List.take_append_drop k L
 rw[<- e,List.filter_append]
 rw[List.filter_eq_self.2 λx hx=>?_,List.filter_eq_nil_iff.2 λx hx=>?_]
 ·simp[Nat.min_eq_left hk]
 ·obtain⟨i,hi,rfl⟩:=List.mem_iff_getElem.1 hx
  rw[List.getElem_drop]
  simp only[List.length_drop]at hi
  simp[h2 (k+i) (by omega) (by omega)]
 ·obtain⟨i,hi,rfl⟩:=List.mem_iff_getElem.1 hx
  rw[List.getElem_take]
  simp only[List.length_take]at hi
  exact h1 i (by omega) (by omega)
theorem sU{α:Type}{p:α->Bool}{L:List α}{k:Nat}(hk:k<=L.length)(h1:∀(i:Nat) (h:i<L.length),i<k->p L[i]=false)(h2:∀(i:Nat) (h:i<L.length),k<=i->p L[i]=true):L.filter p=L.drop k:=by
 have e:=List.take_append_drop k L
 rw[<- e,List.filter_append]
 rw[List.filter_eq_nil_iff.2 λx hx=>?_,List.filter_eq_self.2 λx hx=>?_]
 ·simp[Nat.min_eq_left hk]
 ·obtain⟨i,hi,rfl⟩:=List.mem_iff_getElem.1 hx
  rw[List.getElem_drop]
  simp only[List.length_drop]at hi
  exact h2 (k+i) (by omega) (by omega)
 ·obtain⟨i,hi,rfl⟩:=List.mem_iff_getElem.1 hx
  rw[List.getElem_take]
  simp only[List.length_take]at hi
  simp[h1 i (by omega) (by omega)]
section
variable {L:List T} {x:κ} {k:Nat}
theorem cE.Tn{there:Bool}(h:cE ck (L.map key) x k there)(i:Nat)(hi:i<L.length)(ym:i<k):ck (key L[i]) x<0:=by
 have:=h.low i (by simpa using hi) ym
 simpa using this
theorem cE.leK{there:Bool}(h:cE ck (L.map key) x k there):k<=L.length:=by simpa using h.le
theorem cE.Oz(h:cE ck (L.map key) x k false)(i:Nat)(hi:i<L.length)(ym:k<=i):0<ck (key L[i]) x:=by
 have:=h.HB rfl i (by simpa using hi) ym
 simpa using this
theorem cE.abx(h:cE ck (L.map key) x k true):∃hk:k<L.length,key L[k]=x:=by
 obtain⟨h1,h2⟩:=h.QC rfl
 exact⟨by simpa using h1,by simpa using h2⟩
theorem cE.pos{there:Bool}(hc:oF ck)(h:cE ck (L.map key) x k there)(hu:ca ck key L):k=Xe ck key x L:=by
 unfold Xe
 rw[oY (k:=k) h.leK (λi hi ym=>?_) (λi hi ym=>?_)]
 ·simp[h.leK]
 ·have:=h.Tn i hi ym;simp[Db];omega
 ·cases there with
  |false=>have:=h.Oz i hi ym;simp[Db];omega
  |true=>
   obtain⟨hk,e⟩:=h.abx
   by_cases hik':i=k
   ·subst hik';simp[Db,e,hc.self]
   ·have h1:=hu.up.lt (i:=k) (j:=i) (by omega) (by simpa using hi)
    simp only[List.getElem_map]at h1
    rw[e]at h1
    have:=(hc.flip _ _).1 h1
    simp[Db];omega
theorem cE.none(hc:oF ck)(h:cE ck (L.map key) x k false):aL ck key x L=Option.none:=by
 unfold aL
 rw[List.find?_eq_none]
 intro y hy
 obtain⟨i,hi,rfl⟩:=List.mem_iff_getElem.1 hy
 by_cases ym:i<k
 ·have:=h.Tn i hi ym;simp[DQ];omega
 ·have:=h.Oz i hi (by omega);simp[DQ];omega
theorem ra(hc:oF ck)(hu:ca ck key L)(hk:k<L.length)(e:key L[k]=x):aL ck key x L=some L[k]:=by
 unfold aL
 rw[List.find?_eq_some_iff_getElem]
 refine⟨by simp[DQ,e,hc.self],k,hk,rfl,λj hj=>?_⟩
 have h1:=hu.up.lt (i:=j) (j:=k) hj (by simpa using hk)
 simp only[List.getElem_map]at h1
 rw[e]at h1
 simp[DQ];omega
theorem cE.some(hc:oF ck)(h:cE ck (L.map key) x k true)(hu:ca ck key L):∃hk:k<L.length,aL ck key x L=Option.some L[k]:=by
 obtain⟨hk,e⟩:=h.abx
 exact⟨hk,ra hc hu hk e⟩
theorem cE.isSome{there:Bool}(hc:oF ck)(h:cE ck (L.map key) x k there)(hu:ca ck key L):there=(aL ck key x L).isSome:=by
 cases there with
 |false=>rw[h.none hc];rfl
 |true=>obtain⟨_,e⟩:=h.some hc hu;rw[e];rfl
theorem cE.ins(hc:oF ck){y:T}(h:cE ck (L.map key) (key y) k false):L.take k++y::L.drop k=bc ck key y L:=by
 unfold bc
 rw[oY (k:=k) h.leK (λi hi ym=>?_) (λi hi ym=>?_),sU (k:=k) h.leK (λi hi ym=>?_) (λi hi ym=>?_)]
 ·have:=h.Tn i hi ym;simp[HT];omega
 ·have:=h.Oz i hi ym;simp[HT];omega
 ·have:=h.Tn i hi ym;simp[Db];omega
 ·have:=h.Oz i hi ym;simp[Db];omega
theorem cE.del(hc:oF ck)(h:cE ck (L.map key) x k true)(hu:ca ck key L):L.eraseIdx k=bq ck key x L:=by
 obtain⟨hk,e⟩:=h.abx
 have e1:=List.take_append_drop k L
 have e2:L.drop k=L[k]::L.drop (k+1):=List.drop_eq_getElem_cons hk
 rw[List.eraseIdx_eq_take_drop_succ]
 unfold bq
 conv=>rhs;rw[<- e1,e2]
 rw[List.filter_append,List.filter_cons]
 have h0:DQ ck key x L[k]=true:=by simp[DQ,e,hc.self]
 simp only[h0,Bool.not_true,Bool.false_eq_true,if_false]
 rw[List.filter_eq_self.2 λz hz=>?_,List.filter_eq_self.2 λz hz=>?_]
 ·obtain⟨i,hi,rfl⟩:=List.mem_iff_getElem.1 hz
  rw[List.getElem_drop]
  simp only[List.length_drop]at hi
  have h1:=hu.up.lt (i:=k) (j:=k+1+i) (by omega) (by simp;omega)
  simp only[List.getElem_map]at h1
  rw[e]at h1
  have:=(hc.flip _ _).1 h1
  simp[DQ];omega
 ·obtain⟨i,hi,rfl⟩:=List.mem_iff_getElem.1 hz
  rw[List.getElem_take]
  simp only[List.length_take]at hi
  have:=h.Tn i (by omega) (by omega)
  simp[DQ];omega
end
theorem bj(hc:oF ck){x y:T}{L:List T}:y∈bc ck key x L↔y=x\/(y∈L/\key y≠key x):=by
 unfold bc
 simp only[List.mem_append,List.mem_cons,List.mem_filter,Db,HT,decide_eq_true_eq]
 have h0:key y=key x↔ck (key y) (key x)=0:=(hc.zero _ _).symm
 constructor
 ·rintro(⟨h,h1⟩|h|⟨h,h1⟩)
  ·exact .inr ⟨h,λe=>by rw[h0]at e;omega⟩
  ·exact .inl h
  ·exact .inr ⟨h,λe=>by rw[h0]at e;omega⟩
 ·rintro(h|⟨h,h1⟩)
  ·exact .inr (.inl h)
  ·rw[ne_eq,h0]at h1
   by_cases h2:ck (key y) (key x)<0
   ·exact .inl ⟨h,h2⟩
   ·exact .inr (.inr ⟨h,by omega⟩)
theorem eF(hc:oF ck){k:κ}{y:T}{L:List T}:y∈bq ck key k L↔y∈L/\key y≠k:=by
 unfold bq
 simp only[List.mem_filter,DQ,Bool.not_eq_true',decide_eq_false_iff_not,hc.zero,ne_eq]
theorem ca.filter{L:List T}(h:ca ck key L)(p:T->Bool):ca ck key (L.filter p):=List.Pairwise.filter _ h
theorem ca.ins(hc:oF ck){L:List T}(h:ca ck key L)(x:T):ca ck key (bc ck key x L):=by
 unfold bc ca
 rw[List.pairwise_append,List.pairwise_cons]
 refine⟨h.filter _,⟨λy hy=>?_,h.filter _⟩,λy hy z hz=>?_⟩
 ·simp only[List.mem_filter,HT,decide_eq_true_eq]at hy
  exact(hc.flip _ _).2 hy.2
 ·simp only[List.mem_filter,Db,decide_eq_true_eq]at hy
  rcases List.mem_cons.1 hz with rfl|hz
  ·exact hy.2
  ·simp only[List.mem_filter,HT,decide_eq_true_eq]at hz
   exact hc.trans _ _ _ hy.2 ((hc.flip _ _).2 hz.2)
theorem ca.del{L:List T}(h:ca ck key L)(k:κ):ca ck key (bq ck key k L):=h.filter _
theorem ca.put(hc:oF ck){L:List T}(h:ca ck key L)(x:T):ca ck key (et ck key x L):=by
 unfold et;split
 ·exact h
 ·exact h.ins hc x
theorem ca.inj(hc:oF ck){L:List T}(h:ca ck key L){a b:T}(ha:a∈L)(hb:b∈L)(e:key a=key b):a=b:=by
 obtain⟨i,hi,rfl⟩:=List.mem_iff_getElem.1 ha
 obtain⟨j,hj,rfl⟩:=List.mem_iff_getElem.1 hb
 rcases Nat.lt_trichotomy i j with hl|rfl|hl
 ·have:=List.pairwise_iff_getElem.1 h i j hi hj hl
  rw[e,hc.self]at this;omega
 ·rfl
 ·have:=List.pairwise_iff_getElem.1 h j i hj hi hl
  rw[e,hc.self]at this;omega
theorem aM(hc:oF ck){L:List T}(h:ca ck key L){k:κ}{x:T}:aL ck key k L=some x↔x∈L/\key x=k:=by
 constructor
 ·intro e
  have h1:=List.mem_of_find?_eq_some e
  have h2:=List.find?_some e
  exact⟨h1,(hc.zero _ _).1 (by simpa[DQ]using h2)⟩
 ·rintro⟨hx,e⟩
  obtain⟨i,hi,rfl⟩:=List.mem_iff_getElem.1 hx
  exact ra hc h hi e
theorem bx(hc:oF ck){L:List T}{k:κ}:aL ck key k L=none↔∀x∈L,key x≠k:=by
 unfold aL
 rw[List.find?_eq_none]
 simp only[DQ,decide_eq_true_eq,hc.zero,ne_eq]
theorem ca.ext(hc:oF ck):∀{L L':List T},ca ck key L->ca ck key L'->(∀x,x∈L↔x∈L')->L=L'
 |[],[],_,_,_=>rfl
 |[],y::L',_,_,h=>absurd ((h y).2 (by simp)) (by simp)
 |x::L,[],_,_,h=>absurd ((h x).1 (by simp)) (by simp)
 |x::L,y::L',h1,h2,h=>by
  have Gw:=List.pairwise_cons.1 h1
  have OQ:=List.pairwise_cons.1 h2
  have exy:x=y:=by
   rcases List.mem_cons.1 ((h x).1 (by simp))with e|hx
   ·exact e
   ·rcases List.mem_cons.1 ((h y).2 (by simp))with e|hy
    ·exact e.symm
    ·have a1:=OQ.1 x hx
     have a2:=Gw.1 y hy
     have:=(hc.flip _ _).1 a1
     omega
  subst exy
  congr 1
  refine ca.ext hc Gw.2 OQ.2 λz=>?_
  have hz:=h z
  simp only[List.mem_cons]at hz
  constructor
  ·intro hm
   rcases hz.1 (.inr hm)with e|uY
   ·subst e
    have:=Gw.1 z hm
    rw[hc.self]at this;omega
   ·exact uY
  ·intro hm
   rcases hz.2 (.inr hm)with e|uY
   ·subst e
    have:=OQ.1 z hm
    rw[hc.self]at this;omega
   ·exact uY
theorem yh{x:T}{L:List T}:(bc ck key x L).length<=L.length+1:=by
 have h:∀M:List T,(M.filter (Db ck key (key x))).length+(M.filter (HT ck key (key x))).length<=M.length:=by
  intro M
  induction M with
  |nil=>simp
  |cons y M ih=>
   simp only[List.filter_cons]
   by_cases h1:Db ck key (key x) y=true
   ·have h2:HT ck key (key x) y=false:=by
     simp only[Db,decide_eq_true_eq]at h1;simp[HT];omega
    simp only[h1,h2,if_true,List.length_cons];simp;omega
   ·simp only[Bool.not_eq_true]at h1
    simp only[h1,Bool.false_eq_true,if_false]
    split
    ·simp only[List.length_cons];omega
    ·simp only[List.length_cons];omega
 have:=h L
 unfold bc
 simp only[List.length_append,List.length_cons];omega
theorem CM{x:T}{L:List T}:(et ck key x L).length<=L.length+1:=by
 unfold et;split
 ·omega
 ·exact yh
theorem sY{k:κ}{L:List T}:(bq ck key k L).length<=L.length:=List.length_filter_le _ _
end
section
variable {S T κ:Type} {ck:κ->κ->Int} {key:T->κ}
theorem ca.map{f:S->T}{L:List S}(h:ca ck (λx=>key (f x)) L):ca ck key (L.map f):=by unfold ca;rw[List.pairwise_map];exact h
theorem ql{f:S->T}{L:List S}{k:κ}:aL ck key k (L.map f)=(aL ck (λx=>key (f x)) k L).map f:=by unfold aL;rw[List.find?_map];rfl
theorem nQ{f:S->T}{L:List S}{x:S}:bc ck key (f x) (L.map f)=(bc ck (λx=>key (f x)) x L).map f:=by
 unfold bc
 rw[List.filter_map,List.filter_map,List.map_append,List.map_cons];rfl
theorem sX{f:S->T}{L:List S}{k:κ}:bq ck key k (L.map f)=(bq ck (λx=>key (f x)) k L).map f:=by
 unfold bq
 rw[List.filter_map];rfl
theorem ca.split(hc:oF ck){L:List T}(hu:ca ck key L){x:T}(hx:x∈L):bc ck key x L=L:=by
 refine ca.ext hc (hu.ins hc x) hu λy=>?_
 rw[bj hc]
 constructor
 ·rintro(rfl|⟨h,_⟩)
  ·exact hx
  ·exact h
 ·intro h
  by_cases e:key y=key x
  ·exact .inl (hu.inj hc h hx e)
  ·exact .inr ⟨h,e⟩
theorem nc(hc:oF ck){L:List T}{x:T}(h:aL ck key (key x) L=none):(bc ck key x L).Perm (x::L):=by
 have hn:=(bx hc).1 h
 have e:L.filter (HT ck key (key x))=L.filter λy=> !Db ck key (key x) y:=List.filter_congr λy hy=>by
  have h0:=hn y hy
  rw[ne_eq,<- hc.zero]at h0
  simp only[HT,Db]
  by_cases h1:ck (key y) (key x)<0
  ·simp[h1];omega
  ·simp[h1];omega
 unfold bc
 rw[e]
 exact List.perm_middle.trans (List.Perm.cons x (List.filter_append_perm _ L))
theorem Qa(hc:oF ck){F:List T}{y:T}(h:∀x∈F,ck (key x) (key y)<0):et ck key y F=F++[y]:=by
 have hn:aL ck key (key y) F=none:=(bx hc).2 λx hx e=>by
  have:=h x hx
  rw[e,hc.self]at this;omega
 rw[et,hn]
 show bc ck key y F=_
 unfold bc
 have f1:F.filter (Db ck key (key y))=F:=List.filter_eq_self.2 λx hx=>by
  simp only[Db,decide_eq_true_eq];exact h x hx
 have f2:F.filter (HT ck key (key y))=[]:=List.filter_eq_nil_iff.2 λx hx=>by
  have:=h x hx
  simp only[HT,decide_eq_true_eq];omega
 rw[f1,f2]
theorem ca.at_(hc:oF ck){L:List T}(hu:ca ck key L){x:T}(hx:x∈L):∃A B,L=A++x::B/\bq ck key (key x) L=A++B/\∀y,key y=key x->bc ck key y L=A++y::B:=by
 refine⟨L.filter (Db ck key (key x)),L.filter (HT ck key (key x)),(hu.split hc hx).symm,?_,λy e=>by unfold bc;rw[e]⟩
 conv=>lhs;rw[<- hu.split hc hx]
 unfold bq bc
 rw[List.filter_append,List.filter_cons]
 have h0:DQ ck key (key x) x=true:=by simp[DQ,hc.self]
 simp only[h0,Bool.not_true,Bool.false_eq_true,if_false]
 congr 1
 ·exact List.filter_eq_self.2 λy hy=>by
   simp only[List.mem_filter,Db,decide_eq_true_eq]at hy
   simp[DQ];omega
 ·exact List.filter_eq_self.2 λy hy=>by
   simp only[List.mem_filter,HT,decide_eq_true_eq]at hy
   simp[DQ];omega
end
def aA(a b:Int):Int:=if a<b then -1 else if b<a then 1 else 0
theorem ax:oF aA:=⟨λa b=>by unfold aA;split<;>(try split)<;>omega,λa b=>by unfold aA;repeat' split<;>omega,λa b d=>by unfold aA;repeat' split<;>omega⟩
theorem tS{a b:Int}:aA a b<0↔a<b:=by unfold aA;split<;>(try split)<;>omega
def cT(Ts e:TypeId)(sz:Nat)(b:Nat)(rows:Lq):aY:=λμ=>∃F,jK Ts e sz μ b rows F
theorem cT.split{Ts e:TypeId}{sz b:Nat}{rows:Lq}{L:List aY}{μ:Mem}(hO:Ow (cT Ts e sz b rows::L) μ):∃F,jK Ts e sz μ b rows F/\∀{μ':Mem} {SH:Lq} {F':List Nat},Mv μ μ' F F'->jK Ts e sz μ' b SH F'->Ow (cT Ts e sz b SH::L) μ':=by
 obtain⟨μ1,μ2,hs,rfl,⟨F,h⟩,hL⟩:=hO
 refine⟨F,h.same λx hx=>?_,λ{μ' SH F'} hm h'=>?_⟩
 ·cases hy:μ1 x with
  |none=>exact absurd hy (h.at_.2 x hx)
  |some o=>rw[Mem.b_ hy]
 ·exact Ow.mv (A:=λ_=>True) ⟨μ1,μ2,hs,rfl,h.at_.2,hL⟩ hm λν hν=>⟨F',h'.same hν⟩
theorem SG{T:Type}{pv:T->List PV}{sz:Nat}(h:∀x,(pv x).length=sz)(L:List T):∀r∈L.map pv,r.length=sz:=λr hr=>by
 obtain⟨x,_,rfl⟩:=List.mem_map.1 hr;exact h x
theorem FR{T:Type}{pv:T->List PV}(h:∀x,br (pv x)=true)(L:List T):br (L.map pv).flatten=true:=by
 unfold br
 rw[List.all_eq_true]
 intro x hx
 obtain⟨r,hr,hx⟩:=List.mem_flatten.1 hx
 obtain⟨y,_,rfl⟩:=List.mem_map.1 hr
 exact List.all_eq_true.1 (h y) x hx
section
variable {T:Type} {pv:T->List PV}
theorem lC(L:List T)(j:Nat)(y:T):(L.take j++y::L.drop j).length=L.length+1:=by
 rw[List.length_append,List.length_cons,List.length_take,List.length_drop];omega
theorem JZ(L:List T)(j:Nat)(y:T)(h0:0<j)(hj:j<=L.length):((L.take j++y::L.drop j).map pv).set j (pv (L[j-1]'(by omega)))=(L.take (j-1)++(L[j-1]'(by omega))::L.drop (j-1)).map pv:=by
 have e:L.drop (j-1)=L[j-1]'(by omega)::L.drop j:=by
  rw[List.drop_eq_getElem_cons (by omega)];congr 2;omega
 have e2:L.take j=L.take (j-1)++[L[j-1]'(by omega)]:=by
  have:=List.take_add_one (l:=L) (i:=j-1)
  rw[show j-1+1=j by omega,List.getElem?_eq_getElem (by omega)]at this
  exact this
 have hlen:(L.take j).length=j:=by rw[List.length_take];omega
 rw[List.map_append,List.map_cons,List.set_append_right _ _ (by simp;omega)]
 simp only[List.length_map,hlen,Nat.sub_self,List.set_cons_zero]
 rw[e2,e,List.map_append,List.append_assoc,List.map_append]
 rfl
theorem OD(L:List T)(j:Nat)(x y:T)(hj:j<=L.length):((L.take j++y::L.drop j).map pv).set j (pv x)=(L.take j++x::L.drop j).map pv:=by
 have hlen:(L.take j).length=j:=by rw[List.length_take];omega
 rw[List.map_append,List.map_cons,List.set_append_right _ _ (by simp;omega)]
 simp only[List.length_map,hlen,Nat.sub_self,List.set_cons_zero]
 rw[List.map_append,List.map_cons]
theorem Ty(L:List T)(j:Nat)(y:T)(h0:0<j)(hj:j<=L.length):((L.take j++y::L.drop j).map pv)[j-1]?=some (pv (L[j-1]'(by omega))):=by
 rw[List.getElem?_map,List.getElem?_append_left (by rw[List.length_take];omega),List.getElem?_take,if_pos (by omega),List.getElem?_eq_getElem (by omega)]
 rfl
def xX(L:List T)(k j:Nat):List T:=L.take k++(L.drop (k+1)).take (j-k)++L.drop j
theorem aet(L:List T)(k:Nat):xX L k k=L:=by simp[xX,List.take_append_drop]
theorem Tf{L:List T}{k j:Nat}(h1:k<=j)(h2:j<L.length):(xX L k j).length=L.length:=by
 simp only[xX,List.length_append,List.length_take,List.length_drop];omega
theorem Xt{L:List T}{k j:Nat}(h1:k<=j)(h2:j+1<L.length):(xX L k j)[j+1]?=some (L[j+1]'h2):=by
 unfold xX
 have hl:(L.take k++(L.drop (k+1)).take (j-k)).length=j:=by
  simp only[List.length_append,List.length_take,List.length_drop];omega
 rw[List.getElem?_append_right (by omega),hl,List.getElem?_drop,List.getElem?_eq_getElem (by omega)]
 congr 2;omega
theorem Qj{L:List T}{k j:Nat}(h1:k<=j)(h2:j+1<L.length):(xX L k j).set j (L[j+1]'h2)=xX L k (j+1):=by
 unfold xX
 have hl:(L.take k++(L.drop (k+1)).take (j-k)).length=j:=by
  simp only[List.length_append,List.length_take,List.length_drop];omega
 rw[List.set_append_right _ _ (by omega),hl,Nat.sub_self]
 have e1:L.drop j=(L[j]'(by omega))::L.drop (j+1):=List.drop_eq_getElem_cons (by omega)
 rw[e1,List.set_cons_zero]
 have e2:(L.drop (k+1)).take (j+1-k)=(L.drop (k+1)).take (j-k)++[L[j+1]'h2]:=by
  rw[show j+1-k=j-k+1 by omega,List.take_add_one,List.getElem?_drop,List.getElem?_eq_getElem (by omega)]
  simp only[Option.toList_some]
  congr 3;omega
 rw[e2];simp
theorem Tg{L:List T}{k:Nat}(hk:k<L.length):xX L k (L.length-1)=L.eraseIdx k++[L[L.length-1]'(by omega)]:=by
 unfold xX
 rw[List.eraseIdx_eq_take_drop_succ]
 have e1:(L.drop (k+1)).take (L.length-1-k)=L.drop (k+1):=List.take_of_length_le (by simp;omega)
 have e2:L.drop (L.length-1)=[L[L.length-1]'(by omega)]:=by
  rw[List.drop_eq_getElem_cons (by omega)]
  congr 1
  exact List.drop_of_length_le (by omega)
 rw[e1,e2]
end
def NG(b:Nat)(cs:List PV)(μ:Mem):Prop:=∃T,μ b=some (.cells T cs)\/μ b=some (.ro T cs)
theorem NG.rd{b:Nat}{cs:List PV}{μ:Mem}(h:NG b cs μ){o n:Nat}(hl:o+n<=cs.length):aB μ b o n=some ((cs.drop o).take n):=by
 obtain⟨T,h|h⟩:=h
 ·exact aE h hl
 ·exact zk h hl
def Bn(μ μ':Mem):Prop:=∀b,μ b≠none->μ' b=μ b
theorem Bn.new{μ:Mem}{b:Nat}(hb:μ b=none)(o:Option Ob):Bn μ (μ.set b o):=λx hx=>Mem.aC _ _ (by rintro rfl;exact hx hb)
theorem NG.afJ{b:Nat}{cs:List PV}{μ μ':Mem}(h:NG b cs μ)(hg:Bn μ μ'):NG b cs μ':=by
 obtain⟨T,h⟩:=h
 refine⟨T,?_⟩
 rw[hg b (by rcases h with h|h<;>rw[h]<;>simp)];exact h
def W_(μ:Mem):Mem:=λb=>match μ b with|some (.cells T cs)=>some (.ro T cs)|some (.ro T cs)=>some (.ro T cs)|_=>none
theorem aaG{μ:Mem}{b:Nat}{T:TypeId}{cs:List PV}(h:μ b=some (.cells T cs)):NG b cs (W_ μ):=⟨T,.inr (by simp[W_,h])⟩
theorem dz.ah0{P:Program}{g:FuncId}{args:List PV}{μ:Mem}{K:Kq}{Kq:PV->Prop}(h:aa P g args (W_ μ) λp μ'=>Bn (W_ μ) μ'/\Kq p)(hk:∀p,Kq p->K p M0):dz P g args μ K:=λZ u vs hg hw ha=>by
 have Zv:∀b o,W_ μ b=some o->(o.rw=true->False)/\BA Z u b o/\Z b=none:=λb o ho=>by
  unfold W_ at ho
  split at ho
  ·rename_i T cs hb
   cases ho
   obtain⟨_,hz,hA⟩:=hg.mem b _ hb
   exact⟨λh=>(by cases h),⟨hz,hA⟩,hz⟩
  ·rename_i T cs hb
   cases ho
   obtain⟨_,hz,hA⟩:=hg.mem b _ hb
   exact⟨λh=>(by cases h),⟨hz,hA⟩,hz⟩
  ·cases ho
 obtain⟨hc,fu⟩:=h Z ⟨u.toWorld,λ_=>False⟩ vs ⟨hg.IP,λb o e=>⟨λhr=>(Zv b o e).1 hr,by
  have:=(Zv b o e).2.1
  cases o with
  |cells T cs=>exact this
  |pU n m=>exact this
  |obj o F S=>exact this
  |ro T cs=>exact this⟩⟩ (λ_ h=>h.elim) ha
 refine⟨hc,fu.Gf λv lo w' _ _ hp=>?_⟩
 obtain⟨Z',μ',p,e,g',hr,XW,hK⟩:=hp
 refine⟨Z',M0,p,⟨e.le,λb C hC _=>e.zs b C hC ?_,λb hb=>?_,λb hb=>absurd rfl hb,e.lt⟩,⟨g'.IP,λb o h=>by cases h⟩,hr,hk p hK⟩
 ·cases hx:W_ μ b with
  |none=>rfl
  |some o=>rw[(Zv b o hx).2.2]at hC;cases hC
 ·rcases e.zn b hb with h1|h1|h1
  ·exact .inl h1
  ·exfalso
   have hm:=XW b h1
   cases hx:W_ μ b with
   |none=>exact h1 hx
   |some o=>
    rw[hx]at hm
    have h2:=(g'.mem b o hm).2
    have h3:=(Zv b o hx)
    unfold W_ at hx
    split at hx
    ·cases hx;exact hb h2.1
    ·cases hx;exact hb h2.1
    ·cases hx
  ·exact .inr (.inr h1)
theorem PC{X:List PV}{sz o m:Nat}(h:o+m<=sz):(X.drop o).take m=((X.take sz).drop o).take m:=by
 rw[List.drop_take,List.take_take,Nat.min_eq_left (by omega)]
theorem aaL{cs r:List PV}{A sz o m:Nat}(hr:(cs.drop A).take sz=r)(h:o+m<=sz):(cs.drop (A+o)).take m=(r.drop o).take m:=by
 rw[<- hr,<- PC h,List.drop_drop]
theorem aar{cs r vs:List PV}{A sz o:Nat}(hA:A+sz<=cs.length)(hr:(cs.drop A).take sz=r)(h:o+vs.length<=sz):dN cs (A+o) vs=dN cs A (dN r o vs):=by
 have EC:r.length=sz:=by rw[<- hr,List.length_take,List.length_drop];omega
 unfold dN
 have e1:cs.take (A+o)=cs.take A++r.take o:=by
  rw[List.take_add,<- hr,List.take_take,Nat.min_eq_left (by omega)]
 have e2:cs.drop (A+o+vs.length)=r.drop (o+vs.length)++cs.drop (A+sz):=by
  have:cs.drop (A+o+vs.length)=(cs.drop A).drop (o+vs.length):=by rw[List.drop_drop];congr 1;omega
  rw[this]
  have h2:cs.drop A=r++cs.drop (A+sz):=by
   rw[<- hr,<- List.drop_drop,List.take_append_drop]
  conv=>lhs;rw[h2]
  rw[List.drop_append_of_le_length (by omega)]
 have e3:(r.take o++vs++r.drop (o+vs.length)).length=sz:=by
  simp only[List.length_append,List.length_take,List.length_drop];omega
 rw[e1,e2,e3]
 simp
theorem iW.at_{e:TypeId}{sz n c:Nat}{a:Option Addr}{rows:Lq}{L:List aY}{μ:Mem}(i:Nat)(hO:Ow L μ)(hi:L[i]?=some (iW e sz (.raw (.slice a n c)) rows))(hr:∀r∈rows,r.length=sz){j:Nat}(hj:j<rows.length):
  ∃b,a=some ⟨b,0,none⟩/\(∀o m,o+m<=sz->aB μ b (0+j*sz+o) m=some ((rows[j].drop o).take m))/\
   ∀(o:Nat) (vs:List PV) (K:Mem->Prop),o+vs.length<=sz->(∀μ',Ow (L.set i (iW e sz (.raw (.slice a n c)) (rows.set j (dN rows[j] o vs)))) μ'->K μ')->stM b (0+j*sz+o) vs μ K:=by
 have sd:=Ow.at i hi hO
 obtain⟨F,hv,μ1,μ2,hs,e0,hF,hL⟩:=iW.split sd
 rcases hv with⟨_,rfl,_⟩|⟨b,c',rest,hp,rfl,hm,hlen,hc⟩
 ·simp at hj
 ·simp only[PV.raw.injEq,Value.slice.injEq]at hp
  obtain⟨rfl,rfl,rfl⟩:=hp
  have pq:rows.flatten.length=rows.length*sz:=gj hr
  have hle:j*sz+sz<=rows.length*sz:=by rw[<- Nat.succ_mul];exact Nat.mul_le_mul_right _ hj
  have eT:((rows.flatten++rest).drop (j*sz)).take sz=rows[j]:=by
   have:=JD (s:=j) hr hm (List.getElem?_eq_getElem hj)
   simp only[aB,hm]at this
   split at this
   ·simpa using this
   ·cases this
  refine⟨b,rfl,λo m h=>?_,λo vs K h hK=>?_⟩
  ·have:aB μ b (0+j*sz+o) m=some (((rows.flatten++rest).drop (0+j*sz+o)).take m):=by
    simp only[aB,hm]
    rw[if_pos (by rw[List.length_append,pq];omega)]
   rw[this,Nat.zero_add,aaL eT h]
  ·have EC:rows[j].length=sz:=hr _ (List.getElem_mem hj)
   have RG:(dN rows[j] o vs).length=sz:=by
    unfold dN
    simp only[List.length_append,List.length_take,List.length_drop];omega
   refine⟨_,_,hm,by rw[List.length_append,pq];omega,hK _ (Ow.back i (tL hi) ?_)⟩
   rw[Nat.zero_add,aar (by rw[List.length_append,pq];omega) eT h,FA hr hj RG]
   refine Ow.mv (A:=λ_=>True) (F:=[b]) (F':=[b]) ⟨μ1,μ2,hs,e0,hF,hL⟩ ((Mv.set (.inl (by simp))).sub (by simp)) λν hν=>⟨[b],.inr ⟨b,c,rest,by simp,rfl,?_,by simpa using hlen,by simpa using hc⟩⟩
   rw[hν b (by simp),Mem.aq]
theorem iW.view{e:TypeId}{sz:Nat}{p:PV}{rows:Lq}{L:List aY}{μ:Mem}(i:Nat)(hO:Ow L μ)(hi:L[i]?=some (iW e sz p rows))(hr:∀r∈rows,r.length=sz)(hc:br rows.flatten=true):mi μ p (.list sz .sh rows):=by
 obtain⟨F,h,_⟩:=iW.split (Ow.at i hi hO)
 exact h.view hr hc
theorem Uy{Z:Fz}{u:UW}{μ:Mem}{b:Nat}{T:TypeId}{cs:List PV}{r:Value}(hg:Good Z u μ)(hb:μ b=some (.cells T cs))(hc:br cs=true)(hr:cy Z (pP b 0) r):cy (mU Z u λx=>if x∈[b]then μ x else none) (.bn cs 0) r:=by
 have gs:Good Z u (λx=>if x∈[b]then μ x else none):=hg.sub λx o hx=>by
  by_cases hm:x∈[b]
  ·simpa[hm]using hx
  ·simp[hm]at hx
 obtain⟨A,hz,hm⟩:=Pq (cs:=cs) gs (b:=b) (by simp[hb,cellsOf])
 rw[hr.ofRaw.1]
 have uX:=(hm.mono (jn gs)).c hc
 refine .bn cs 0 b 0 A.toList (λj=>(A.toList[j]?).getD undef) hz (λj hj=>?_) (λj p hp=>?_) (λj p hp=>?_)
 ·have cz:j<A.toList.length:=by rw[hm.1];exact hj
  rw[Nat.zero_add,List.getElem?_eq_getElem cz];rfl
 ·exact List.all_eq_true.1 hc p (List.mem_of_getElem? hp)
 ·have cz:j<A.toList.length:=by rw[hm.1];exact(List.getElem?_eq_some_iff.1 hp).1
  have:=uX.2 j p A.toList[j] hp (List.getElem?_eq_getElem cz)
  simp only[List.getElem?_eq_getElem cz,Option.getD_some];exact this.2
def Mem.inc(ν μ:Mem):Prop:=∀b o,ν b=some o->μ b=some o
theorem Ow.mem:∀{L:List aY} {μ:Mem},Ow L μ->∀A∈L,∃ν,A ν/\Mem.inc ν μ
 |[],_,_,A,hA=>by cases hA
 |B::L,μ,h,A,hA=>by
  obtain⟨μ1,μ2,hs,rfl,hB,hL⟩:=h
  rcases List.mem_cons.1 hA with rfl|hA
  ·exact⟨μ1,hB,λb o hb=>Mem.b_ hb⟩
  ·obtain⟨ν,h1,h2⟩:=Ow.mem hL A hA
   refine⟨ν,h1,λb o hb=>?_⟩
   have rU:=h2 b o hb
   rw[Mem.cj ((hs b).resolve_right (by rw[rU];simp))];exact rU
end Go.aK
namespace Go.Proofs.YtbodiiomcfgokaaGreat
open Go.Proofs.Tryz Go.aK Go.RowKit
abbrev DS(c:ae):List PV:=[pI c.kind,pB c.goal,pS c.id,.list 6 .sh (c.attr.map Test.pv),.list 6 .sh (c.value.map Test.pv),pB c.acc,.list 7 .sh (c.conds.map ae.pv)]
@[reducible] def Sx(c:ae)(l:List aK.Bind)(es:PV):PV:=.fn (.func 231) [] [.bn [es] 0,.bn (DS c) 0,.bn [.list 4 .sh (l.map Bind.pv)] 0]
theorem akm{L:List aY}{μ:Mem}(h:Ow L μ):Ow ((λ_=>True)::L) μ:=⟨M0,μ,Mem.vq μ,(Mem.GQ μ).symm,trivial,h⟩
theorem Vb(fe:Fn)(fa fb:List PV)(c:ae)(f1 f2 f3 fl:Fl)(l:List aK.Bind)(hn:l.length<=1000000):Pure prog 167 [.agg [pI c.kind,pB c.goal,pS c.id,.list 6 f1 (c.attr.map Test.pv),.list 6 f2 (c.value.map Test.pv),pB c.acc,.list 7 f3 (c.conds.map ae.pv)],.fn fe fa fb,.list 4 fl (l.map Bind.pv)] (Sx c l (.fn fe fa fb)):=by
 refine aa.freeze (K:=λv μ'=>∃b5,v=.fn (.func 231) [] [.bn [.fn fe fa fb] 0,.bn (DS c) 0,pP b5 0]/\μ' b5=some (.cells 84 [.list 4 .sh (l.map Bind.pv)])) (Lo.c λb5 ZS=>?_) ?_
 ·have O1:=(Ow.new (L:=[]) 84 [.list 4 fl (l.map Bind.pv)] trivial ZS)
  refine⟨_,_,O1.rd 0 rfl (by simp),(Nl _ l (by omega)).call ⟨_,_,rfl,O1.st 0 rfl (by simp) λu2 O2=>⟨b5,rfl,O2.get 0 rfl⟩⟩⟩
 ·rintro v μ' ⟨b5,rfl,hb⟩
  refine⟨_,M0,[b5],λZ u r hg hr=>?_,λb o h=>(by cases h),rfl⟩
  obtain⟨fv,cv,rfl,h1,h2⟩:=hr.ofFn
  obtain⟨v1,_,rfl,_,q1,h2⟩:=h2.inv
  obtain⟨v2,_,rfl,_,q2,h2⟩:=h2.inv
  obtain⟨v3,_,rfl,_,q3,h2⟩:=h2.inv
  obtain rfl:=h2.pj
  obtain rfl:=h1.pj
  have gs:aK.Good Z u (λx=>if x∈[b5]then μ' x else none):=hg.sub λx o hx=>by
   by_cases hm:x∈[b5]
   ·simpa[hm]using hx
   ·simp[hm]at hx
  have hle:=jn gs
  exact bf.GX (bf.nil _) (bf.cons rfl (q1.mono hle) (bf.cons rfl (q2.mono hle) (bf.cons rfl (Uy hg hb rfl q3) (bf.nil _))))
@[reducible] def Sv(x:af×List aK.Bind):List PV:=[.agg x.1.pv,.list 4 .sh (x.2.map Bind.pv)]
theorem SC{c:ae}{l:List aK.Bind}{es:List af}{fe:Fn}{fa fb:List PV}{A A':aY}(hs:iT prog (.fn fe fa fb) (es.map λe=>[.agg e.pv]) A A')(hn:l.length+1+c.attr.length+c.value.length<=1000000)(ha:∀t∈c.attr,t.list.length<=1000000)(hv:∀t∈c.value,t.list.length<=1000000):
  iT prog (Sx c l (.fn fe fa fb)) ((aN c l es).map Sv) A A':=by
 refine iT.mk λfy ya yb I S C μ hy hO h0 df=>?_
 show aa _ _ [.fn fy ya yb,.bn [.fn fe fa fb] 0,.bn (DS c) 0,.bn [.list 4 .sh (l.map Bind.pv)] 0] _ _
 refine Fk.c λb4 xv=>⟨_,_,_,rfl,_,_,_,rfl,?_⟩
 have O1:=hO.new 345 [.fn fy ya yb] xv
 refine bk.own hs O1.swap (λk u=>Ow [Pt b4 345 [.fn fy ya yb],I (aN c l (es.take k)).length] u) (λcd u=>cd=.ret/\Ow [S] u) (λk=>fJ.own _) (λcd=>fJ.and (fJ.own _)) (λμ' h'=>?_) ?_ ?_ ?_
 ·have h2:=h'.swap.tail h0
  simpa[aN]using h2
 ·intro k hk u R hI bU kg
  have bW:k<es.length:=by simpa using hk
  rw[List.getElem_map]
  have iB:=nz (c:=c) (l:=l) (es:=es) bW
  refine⟨_,_,_,_,_,_,_,_,_,_,_,_,rfl,_,_,_,_,_,_,_,_,_,_,rfl,_,_,rfl,?_⟩
  refine(Vu .sh .sh .sh .sh c es[k] l hn ha hv).call ?_
  cases hc:cO c es[k] l with
  |none=>
   refine⟨_,_,_,rfl,ab.f rfl (bU _ ?_)⟩
   rw[iB,hc];simpa using hI
  |some r=>
   refine⟨_,_,_,rfl,ab.t rfl ⟨_,_,_,hI.rd 0 rfl (by simp),?_⟩⟩
   obtain⟨hj,rJ⟩:=Sw bW hc
   have Kl:(aN c l (es.take k)).length<((aN c l es).map Sv).length:=by simpa using hj
   have gV:∀ν,I (aN c l (es.take k)).length ν->bY prog (.fn fy ya yb) [.agg es[k].pv,.list 4 .sh (r.map Bind.pv)] ν λv μ'=>(v=pB true/\Ow [I ((aN c l (es.take k)).length+1)] μ')\/(v=pB false/\Ow [S] μ'):=λν hν=>by
    have h:=df _ Kl ν hν
    rw[List.getElem_map,rJ]at h
    exact h
   refine Ow.va hI.swap gV λp u2 h3=>?_
   ·rcases Ow.qB (A:=I ((aN c l (es.take k)).length+1)) (B:=S) h3 with⟨rfl,h4⟩|⟨rfl,h4⟩
    ·refine⟨_,rfl,ab.f rfl (bU _ ?_)⟩
     rw[iB,hc]
     simpa using h4.swap
    ·exact⟨_,rfl,ab.t rfl (kg _ _ ⟨rfl,h4.swap.drop⟩)⟩
 ·intro u hI
  simp only[List.length_map]at hI |-
  rw[List.take_length]at hI
  exact .inl hI.drop
 ·rintro cd u ⟨rfl,h⟩
  exact .inr h
end Go.Proofs.YtbodiiomcfgokaaGreat
namespace Go.aK
open Go.RowKit
structure SD where
 P:Program
 TS:TypeId
 TE:TypeId
 W:Nat
 B:Nat
 fc:FuncId
 X:(List PV->Prop)->Prop
 E:List PV->PV
 Z:List PV
section
variable (D:SD) (a0:Option Addr) (u0:Mem) (K:Kq) (c:List PV) (e:PV)
def Ql(s:Int×Int):Int:=IntKind.wrap .i64 (s.1+(IntKind.wrap .i64 (Int.tdiv (IntKind.wrap .i64 (s.2-s.1)) (2))))
def SD.find:Prop:=
 nP a0 λb o=>
 ∃f l,aB u0 b o 1=some [.list D.W f l]/\
 ak (α:=Int×Int) (λnext s u=>
  ab (decide ((s.1:Int)<s.2))
  (((2):Int)≠0/\
   nP a0 λVG Tb=>
   ∃f l,aB u VG Tb 1=some [.list D.W f l]/\
   (0:Int)<=Ql s/\∃(r:List PV),l[Int.toNat (Ql s)]?=some r/\
   D.X λy=>ay r 0 D.W=some y/\
   (∀v,pv D.P (method (D.P.types.size+Made.depth) D.TE v "Compare")=some (D.fc,v))/\
   aa D.P D.fc [D.E (y.map cH),e] u λv tE=>
   ∃x,v=(pI x)/\
   ab ((x:Int) == (0))
   (K (.aD [pI (Ql s),pB true]) tE)
   (ab (decide ((x:Int)<(0)))
    (next ((IntKind.wrap .i64 (Ql s+(1))),s.2) tE)
    (next (s.1,Ql s) tE)))
  (K (.aD [pI s.1,pB false]) u))
 ((0),((List.length l:Nat):Int)) u0
def SD.place(ff:FuncId):Prop:=
 ab (Option.isNone a0)
 (K (.aD [pI (0),pB false]) u0)
 (aa D.P ff [pA a0,e] u0 λv u=>
  ∃p q,v=(.aD [pI p,pB q])/\K (.aD [pI p,pB q]) u)
def SD.get(ff:FuncId):Prop:=
 ab (Option.isNone a0)
 (K (.aD [D.E D.Z,pB false]) u0)
 (aa D.P ff [pA a0,e] u0 λv u=>
  ∃p q,v=(.aD [pI p,pB q])/\
  ab (!q)
  (K (.aD [D.E D.Z,pB false]) u)
  (nP a0 λb o=>
   ∃f l,aB u b o 1=some [.list D.W f l]/\
   (0:Int)<=p/\∃(r:List PV),l[Int.toNat p]?=some r/\
   D.X λy=>ay r 0 D.W=some y/\
   K (.aD [D.E y,pB true]) u))
def SD.QK(ff:FuncId):Prop:=
 ab (Option.isNone a0)
 (K (.aD [D.E D.Z,pB false]) u0)
 (aa D.P ff [pA a0,e] u0 λv u=>
  ∃p q,v=(.aD [pI p,pB q])/\
  ab (!q)
  (K (.aD [D.E D.Z,pB false]) u)
  (nP a0 λb o=>
   ∃s n m,aB u b o 1=some [pV s n m]/\
   cK s λVG Tb=>
   (0:Int)<=p/\p<((n:Nat):Int)/\
   D.X λy=>aB u VG (Tb+Int.toNat p*D.W) D.W=some y/\
   K (.aD [D.E y,pB true]) u))
def SD.len:Prop:=
 ab (Option.isNone a0)
 (K (pI (0)) u0)
 (nP a0 λb o=>
  ∃f l,aB u0 b o 1=some [.list D.W f l]/\
  K (pI ((List.length l:Nat):Int)) u0)
def SD.own:Prop:=
 nP a0 λb o=>
 ∃s,aB u0 b (o+1) 1=some [pB s]/\
 ab s
 (nP a0 λVG Tb=>
  ∃f1 l1,aB u0 VG Tb 1=some [.list D.W f1 l1]/\
  nP a0 λYI Xo=>
  ∃f l,aB u0 YI Xo 1=some [.list D.W f l]/\
  (0:Int)<=(0)/\(0)<=(IntKind.wrap .i64 (((List.length l1:Nat):Int)+(1)))/\(IntKind.wrap .i64 (((List.length l1:Nat):Int)+(1)))<(4611686018427387904:Int)/\Int.toNat (IntKind.wrap .i64 (((List.length l1:Nat):Int)+(1)))*D.B<=140737488355328/\
  ∀(Ef:Nat),u0 Ef=none->
  lZ D.W D.B D.TE (some ⟨Ef,0,none⟩) (Int.toNat (0)) (Int.toNat (IntKind.wrap .i64 (((List.length l1:Nat):Int)+(1)))) (.list D.W f l) (Mem.set u0 Ef (some (.cells D.TE (List.flatten (List.replicate (Int.toNat (IntKind.wrap .i64 (((List.length l1:Nat):Int)+(1)))) D.Z))))) λs18 ahP ahQ u=>
  nP a0 λYH Xn=>
  stM YH Xn [pV s18 ahP ahQ] u λtE=>
  nP a0 λb_4 o_4=>
  stM b_4 (o_4+1) [pB false] tE λtD=>
  K (.aD []) tD)
 (K (.aD []) u0)
def SD.put(ff fo:FuncId):Prop:=
 ab (Option.isNone a0)
 (K (pB false) u0)
 (aa D.P ff [pA a0,e] u0 λv u=>
  ∃p q,v=(.aD [pI p,pB q])/\
  ab q
  (K (pB false) u)
  (aa D.P fo [pA a0] u λJe tE=>
   Je=(.aD [])/\
   nP a0 λb o=>
   ∃x23 adH adI,aB tE b o 1=some [pV x23 adH adI]/\
   lZ D.W D.B D.TE x23 adH adI (.list D.W .nr [c]) tE λs26 ahN ahO tD=>
   nP a0 λVG Tb=>
   stM VG Tb [pV s26 ahN ahO] tD λIQ=>
   nP a0 λYI Xo=>
   ∃x32 adE aht,aB IQ YI Xo 1=some [pV x32 adE aht]/\
   ak (α:=Int) (λnext s EB=>
    ab (decide ((s:Int)>p))
    (nP a0 λYH Xn=>
     ∃x43 adz ahq,aB EB YH Xn 1=some [pV x43 adz ahq]/\
     nP a0 λb_4 o_4=>
     ∃x48 adw aho,aB EB b_4 o_4 1=some [pV x48 adw aho]/\
     cK x48 λb_5 o_5=>
     (0:Int)<=(IntKind.wrap .i64 (s-(1)))/\(IntKind.wrap .i64 (s-(1)))<((adw:Nat):Int)/\
     D.X λy=>aB EB b_5 (o_5+Int.toNat (IntKind.wrap .i64 (s-(1)))*D.W) D.W=some y/\
     cK x43 λb_6 o_6=>
     (0:Int)<=s/\s<((adz:Nat):Int)/\
     stM b_6 (o_6+Int.toNat s*D.W) y EB λNU=>
     next (IntKind.wrap .i64 (s-(1))) NU)
    (nP a0 λb_7 o_7=>
     ∃x57 adv ahl,aB EB b_7 o_7 1=some [pV x57 adv ahl]/\
     cK x57 λb_8 o_8=>
     (0:Int)<=p/\p<((adv:Nat):Int)/\
     stM b_8 (o_8+Int.toNat p*D.W) c EB λZc=>
     K (pB true) Zc))
   (IntKind.wrap .i64 (((adE:Nat):Int)-(1))) IQ))
def SD.drop(ff fo:FuncId):Prop:=
 ab (Option.isNone a0)
 (K (pB false) u0)
 (aa D.P ff [pA a0,e] u0 λv u=>
  ∃p q,v=(.aD [pI p,pB q])/\
  ab (!q)
  (K (pB false) u)
  (aa D.P fo [pA a0] u λJe tE=>
   Je=(.aD [])/\
   ak (α:=Int) (λnext s tD=>
    nP a0 λb o=>
    ∃x26 adF ahu,aB tD b o 1=some [pV x26 adF ahu]/\
    ab (decide (((IntKind.wrap .i64 (s+(1))):Int)<((adF:Nat):Int)))
    (nP a0 λVG Tb=>
     ∃x34 adC ahs,aB tD VG Tb 1=some [pV x34 adC ahs]/\
     nP a0 λYI Xo=>
     ∃YY adB ahr,aB tD YI Xo 1=some [pV YY adB ahr]/\
     cK YY λYH Xn=>
     (0:Int)<=(IntKind.wrap .i64 (s+(1)))/\(IntKind.wrap .i64 (s+(1)))<((adB:Nat):Int)/\
     D.X λy=>aB tD YH (Xn+Int.toNat (IntKind.wrap .i64 (s+(1)))*D.W) D.W=some y/\
     cK x34 λb_4 o_4=>
     (0:Int)<=s/\s<((adC:Nat):Int)/\
     stM b_4 (o_4+Int.toNat s*D.W) y tD λIQ=>
     next (IntKind.wrap .i64 (s+(1))) IQ)
    (nP a0 λb_5 o_5=>
     ∃x49 ahn Pw,aB tD b_5 o_5 1=some [pV x49 ahn Pw]/\
     nP a0 λb_6 o_6=>
     ∃x53 Ww ahm,aB tD b_6 o_6 1=some [pV x53 Ww ahm]/\
     ju x49/\(0:Int)<=(0:Int)/\(0:Int)<=(IntKind.wrap .i64 (((Ww:Nat):Int)-(1)))/\(IntKind.wrap .i64 (((Ww:Nat):Int)-(1)))<=((Pw:Nat):Int)/\((Pw:Nat):Int)<=((Pw:Nat):Int)/\
     nP a0 λb_7 o_7=>
     stM b_7 o_7 [pV (Br x49 (Int.toNat (0:Int)) (Int.toNat ((Pw:Nat):Int)) D.W) (Int.toNat (IntKind.wrap .i64 (((Ww:Nat):Int)-(1)))-Int.toNat (0:Int)) (Int.toNat ((Pw:Nat):Int)-Int.toNat (0:Int))] tD λEB=>
     K (pB true) EB))
   p tE))
def SD.new(fp:FuncId)(l:Lq):Prop:=
 bJ u0 D.TS [.list D.W .nil [],pB false] λb7 u=>
 ak (α:=Int) (λnext s tE=>
  ab (decide ((s:Int)<((List.length l:Nat):Int)))
  ((0:Int)<=s/\∃(r12:List PV),l[Int.toNat s]?=some r12/\
   D.X λy=>ay r12 0 D.W=some y/\
   aa D.P fp [pP b7 0,D.E (y.map cH)] tE λv tD=>
   ∃x16,v=(pB x16)/\
   next (IntKind.wrap .i64 (s+(1))) tD)
  (K (pP b7 0) tE))
 (0) u
def SD.from_(a1:Int)(a2:Fn)(EJ EI:List PV):Prop:=
 nP a0 λb o=>
 stM b (o+1) [pB true] u0 λu=>
 nP a0 λVG Tb=>
 ∃f l,aB u VG Tb 1=some [.list D.W f l]/\
 ak (α:=Int) (λnext s tE=>
  ab (decide ((s:Int)<((List.length l:Nat):Int)))
  ((0:Int)<=s/\∃(r25:List PV),l[Int.toNat s]?=some r25/\
   D.X λy=>ay r25 0 D.W=some y/\
   bY D.P (.fn a2 EJ EI) [D.E (y.map cH)] tE λv tD=>
   ∃YZ,v=(pB YZ)/\
   ab (!YZ)
   (K (.aD []) tD)
   (next (IntKind.wrap .i64 (s+(1))) tD))
  (K (.aD []) tE))
 a1 u
def SD.By(ff:FuncId)(a0:Fn)(EM EL c0:List PV):Prop:=
 ∃x3,ay c0 0 1=some [pA x3]/\
 ab (!(Option.isNone x3))
 (∃x5,ay c0 0 1=some [pA x5]/\
  aa D.P ff [pA x5,pI (0),.fn a0 EM EL] u0 λv u=>
  v=(.aD [])/\
  K (.aD []) u)
 (K (.aD []) u0)
end
structure Ps(D:SD){El κ:Type}(pr:El->List PV)(arg:El->PV)(key:El->κ)(ck:κ->κ->Int):Prop where
 hX:∀(x:El) (Q:List PV->Prop),Q (pr x)->D.X Q
 len:∀x,(pr x).length=D.W
 aae:∀x,br (pr x)=true
 wk:∀x,(pr x).map cH=pr x
 E:∀x,D.E (pr x)=arg x
 hc:oF ck
 cmp:∀a b,Pure D.P D.fc [arg a,arg b] (pI (ck (key a) (key b)))
 ah8:∀v,pv D.P (method (D.P.types.size+Made.depth) D.TE v "Compare")=some (D.fc,v)
 zl:D.Z.length=D.W
 W0:0<D.W
 B0:D.B<=1000
namespace Ps
variable {D:SD} {El κ:Type} {pr:El->List PV} {arg:El->PV} {key:El->κ} {ck:κ->κ->Int} (S:Ps D pr arg key ck)
include S
theorem each(l:List El):∀r∈l.map pr,r.length=D.W:=SG S.len l
theorem cell(l:List El):br (l.map pr).flatten=true:=FR S.aae l
theorem row(x:El):ay (pr x) 0 D.W=some (pr x):=by
 have:=S.W0
 unfold ay
 rw[if_pos ⟨by rw[S.len];omega,S.W0⟩,List.drop_zero,<- S.len x,List.take_length]
theorem E'(x:El):D.E ((pr x).map cH)=arg x:=by rw[S.wk,S.E]
variable {nf:FuncId} (hf:∀{x:El} {a0:Option Addr} {u0:Mem} {K:Kq},D.find a0 u0 K (arg x)->aa D.P nf [pA a0,arg x] u0 K)
section
include hf
theorem Np(b:Nat)(s:Bool)(l:List El)(hu:ca ck key l)(hl:l.length<=4000000000000000000)(x:El):aa D.P nf [pP b 0,arg x] (M0.set b (some (.ro D.TS [.list D.W .sh (l.map pr),pB s]))) λp _=>∃(k:Nat) (t:Bool),p=.aD [pI k,pB t]/\cE ck (l.map key) (key x) k t:=by
 have hc:=S.hc
 refine hf ?_
 refine⟨_,_,zk (Mem.aq _ _ _) (by simp),?_⟩
 have fB:∀u,u=M0.set b (some (.ro D.TS [.list D.W .sh (l.map pr),pB s]))->aB u b 0 1=some [.list D.W .sh (l.map pr)]:=λu h=>by rw[h];exact zk (Mem.aq _ _ _) (by simp)
 rw[List.length_map]
 have huu:=hu.up
 have sM:(l.map key).length=l.length:=by simp
 refine ak.bin (n:=l.length) (by omega) (λi=>if h:i<l.length then ck (key l[i]) (key x)else 1) (λu=>u=M0.set b (some (.ro D.TS [.list D.W .sh (l.map pr),pB s]))) rfl ?_ ?_ ?_ ?_
 ·intro i j LI hj h
  rw[dif_pos hj]at h
  rw[dif_pos (Nat.lt_trans LI hj)]
  have:=huu.Zl hc (x:=key x) LI (by simpa using hj) (by simpa using h)
  simpa using this
 ·intro i j LI hj h
  rw[dif_pos (Nat.lt_trans LI hj)]at h
  rw[dif_pos hj]
  have:=huu.Zk hc (x:=key x) LI (by simpa using hj) (by simpa using h)
  simpa using this
 ·intro lo hi AN u next cz hhi abo OL hA h1 h2 h3
  subst hA
  rw[dif_pos OL]at h1 h2 h3
  refine ab.t (by simpa using cz) ⟨by decide,?_⟩
  refine⟨_,_,fB _ rfl,?_⟩
  dsimp only[Ql]
  rw[aeu cz (by omega),<- abo]
  refine⟨by omega,_,aw OL,S.hX _ _ ⟨S.row _,S.ah8,?_⟩⟩
  rw[S.E']
  refine(S.cmp l[AN] x).call ⟨_,rfl,ab.mk (λh=>?_) (λh=>ab.mk (λh'=>?_) (λh'=>?_))⟩
  ·have h0:ck (key l[AN]) (key x)=0:=by simpa using h
   refine⟨AN,true,rfl,by rw[sM];omega,λi hi ym=>?_,λ_=>⟨by rw[sM];exact OL,by rw[List.getElem_map];exact(hc.zero _ _).1 h0⟩,λh=>by cases h⟩
   have:=h3 h0 i ym
   rw[dif_pos (by rw[sM]at hi;exact hi)]at this
   rw[List.getElem_map];exact this
  ·have h0:ck (key l[AN]) (key x)<0:=by simpa using h'
   have:=h1 h0 _ rfl
   rw[az (by omega) (by omega)]
   exact this
  ·have h0:0<ck (key l[AN]) (key x):=by
    have a1:ck (key l[AN]) (key x)≠0:=by simpa using h
    have a2:¬ck (key l[AN]) (key x)<0:=by simpa using h'
    omega
   exact h2 h0 _ rfl
 ·intro k u next hA hk h1 h2
  refine ab.f (by simp) ?_
  refine⟨k,false,rfl,by rw[sM];exact hk,λi hi ym=>?_,λh=>(by cases h),λ_ i hi ym=>?_⟩
  ·have:=h1 i ym;rw[sM]at hi;rw[dif_pos hi]at this;rw[List.getElem_map];exact this
  ·rw[sM]at hi;have:=h2 i ym hi;rw[dif_pos hi]at this;rw[List.getElem_map];exact this
theorem tT{μ:Mem}{b:Nat}{l:List El}{F:List Nat}(h:jK D.TS D.TE D.W μ b (l.map pr) F)(hu:ca ck key l)(hl:l.length<=4000000000000000000)(x:El){K:Kq}(hk:∀(k:Nat) (t:Bool),cE ck (l.map key) (key x) k t->K (.aD [pI k,pB t]) μ):aa D.P nf [pP b 0,arg x] μ K:=
 jK.query h (λs=>Np S hf b s l hu hl x) (λp ⟨k,t,e,_⟩=>by rw[e];rfl) λp ⟨k,t,e,hf⟩=>by rw[e];exact hk k t hf
theorem tc{n:FuncId}(hn:∀{x:El} {a0:Option Addr} {u0:Mem} {K:Kq},D.place a0 u0 K (arg x) nf->aa D.P n [pA a0,arg x] u0 K) ⦃L:List aY⦄ ⦃μ:Mem⦄ ⦃b:Nat⦄ ⦃l:List El⦄ (hO:Ow (cT D.TS D.TE D.W b (l.map pr)::L) μ) (hu:ca ck key l) (hl:l.length<=4000000000000000000) (x:El) ⦃K:Kq⦄ (hk:K (.aD [pI (Xe ck key (key x) l:Nat),pB (aL ck key (key x) l).isSome]) μ):aa D.P n [pP b 0,arg x] μ K:=by
 obtain⟨F,h,_⟩:=cT.split hO
 refine hn (ab.f rfl (S.tT hf h hu hl x λk t hf=>⟨_,_,rfl,?_⟩))
 rw[hf.pos S.hc hu,hf.isSome S.hc hu];exact hk
theorem lq{n:FuncId}(hn:∀{x:El} {a0:Option Addr} {u0:Mem} {K:Kq},D.get a0 u0 K (arg x) nf->aa D.P n [pA a0,arg x] u0 K)(hr:∀{x:El} {a0:Option Addr} {u0:Mem} {K:Kq},D.QK a0 u0 K (arg x) nf->aa D.P n [pA a0,arg x] u0 K) ⦃L:List aY⦄ ⦃μ:Mem⦄ ⦃b:Nat⦄ ⦃l:List El⦄ (hO:Ow (cT D.TS D.TE D.W b (l.map pr)::L) μ) (hu:ca ck key l) (hl:l.length<=4000000000000000000) (x:El) ⦃K:Kq⦄ (h1:∀y,aL ck key (key x) l=some y->K (.aD [arg y,pB true]) μ) (h0:aL ck key (key x) l=none->K (.aD [D.E D.Z,pB false]) μ):aa D.P n [pP b 0,arg x] μ K:=by
 have hc:=S.hc
 obtain⟨F,h,_⟩:=cT.split hO
 have aa5:∀k,cE ck (l.map key) (key x) k true->∃hk:k<l.length,K (.aD [arg l[k],pB true]) μ:=λk hf=>by
  obtain⟨hk,e⟩:=hf.some hc hu
  exact⟨hk,h1 _ e⟩
 have none_:∀{k},l.map pr=[]->cE ck (l.map key) (key x) k true->False:=λhn hf=>by
  obtain⟨hk,_⟩:=aa5 _ hf
  have:=congrArg List.length hn
  simp at this;subst this;simp at hk
 rcases h.Qr with⟨_,hm⟩|⟨_,Wj,hm⟩|LF
 ·refine hn (ab.f rfl (S.tT hf h hu hl x λk t hf=>⟨_,_,rfl,ab.mk (λht=>?_) (λht=>?_)⟩))
  ·have ht:t=false:=by simpa using ht
   subst ht;exact h0 (hf.none hc)
  ·have ht:t=true:=by simpa using ht
   subst ht
   obtain⟨hk,hK⟩:=aa5 k hf
   refine⟨_,_,aE hm (by simp),by omega,_,aw hk,S.hX _ _ ⟨S.row _,?_⟩⟩
   rw[S.E];exact hK
 ·refine hn (ab.f rfl (S.tT hf h hu hl x λk t hf=>⟨_,_,rfl,ab.mk (λht=>?_) (λht=>?_)⟩))
  ·have ht:t=false:=by simpa using ht
   subst ht;exact h0 (hf.none hc)
  ·have ht:t=true:=by simpa using ht
   subst ht
   exact(none_ Wj hf).elim
 ·refine hr (ab.f rfl (S.tT hf h hu hl x λk t hf=>⟨_,_,rfl,ab.mk (λht=>?_) (λht=>?_)⟩))
  ·have ht:t=false:=by simpa using ht
   subst ht;exact h0 (hf.none hc)
  ·have ht:t=true:=by simpa using ht
   subst ht
   obtain⟨hk,hK⟩:=aa5 k hf
   rcases LF with⟨_,Wj,_⟩|⟨b',c,rest,_,_,hm,uY,_⟩
   ·exact(none_ Wj hf).elim
   ·refine⟨_,_,_,aE hm (by simp),by omega,by simpa using hk,S.hX l[k] _ ⟨?_,?_⟩⟩
    ·rw[Int.toNat_natCast,Nat.zero_add]
     exact JD (S.each l) uY (by rw[List.getElem?_map,List.getElem?_eq_getElem hk];rfl)
    ·rw[S.E];exact hK
end
omit S in
theorem K_{n:FuncId}(hn:∀{a0:Option Addr} {u0:Mem} {K:Kq},D.len a0 u0 K->aa D.P n [pA a0] u0 K) ⦃L:List aY⦄ ⦃μ:Mem⦄ ⦃b:Nat⦄ ⦃l:List El⦄ (hO:Ow (cT D.TS D.TE D.W b (l.map pr)::L) μ) ⦃K:Kq⦄ (hk:K (pI (l.length:Nat)) μ):aa D.P n [pP b 0] μ K:=by
 obtain⟨F,h,_⟩:=cT.split hO
 refine jK.query h (Kq:=λp=>p=pI (l.length:Nat)) (λs=>hn (ab.f rfl ⟨_,_,zk (Mem.aq _ _ _) (by simp),by simp⟩)) (λp e=>by rw[e];rfl) λp e=>by rw[e];exact hk
section
variable {no:FuncId} (ho:∀{a0:Option Addr} {u0:Mem} {K:Kq},D.own a0 u0 K->aa D.P no [pA a0] u0 K)
include ho
theorem Nl{μ:Mem}{b:Nat}{l:List El}{F:List Nat}(h:jK D.TS D.TE D.W μ b (l.map pr) F)(hl:l.length<=1000000000){K:Kq}(hk:∀μ' F',vd D.TS D.TE D.W μ' b (l.map pr) F'->Mv μ μ' F F'->K (.aD []) μ'):aa D.P no [pP b 0] μ K:=by
 obtain⟨μ0,hG,RO,Ub⟩:=h.raw
 refine aa.pre hG (ho ?_)
 have hB:=S.B0
 have hmul:∀m,m<=1000000001->m*D.B<=140737488355328:=λm hm=>Nat.le_trans (Nat.mul_le_mul hm hB) (by decide)
 rcases Ub with⟨rfl,hm⟩|hr
 ·refine⟨true,aE hm (by simp),ab.t rfl ?_⟩
  refine⟨_,_,aE hm (by simp),?_⟩
  refine⟨_,_,aE hm (by simp),?_⟩
  rw[List.length_map,az (by omega) (by omega)]
  have hn:Int.toNat ((l.length:Int)+1)=l.length+1:=by omega
  rw[hn]
  refine⟨by omega,by omega,by omega,hmul _ (by omega),λEf HS=>?_⟩
  have aT:Ef≠b:=by rintro rfl;rw[hm]at HS;cases HS
  have Gn:=S.zl
  refine Lg (Mem.aq _ _ _) (by simp[Gn]) (by simp) (S.each l) (S.cell l) (by rw[List.length_map];exact hmul _ (by omega)) (by simp;omega) ?_
  rw[Mem.set_set]
  refine⟨_,_,by rw[Mem.aC _ _ (Ne.symm aT)];exact hm,by simp,?_⟩
  refine⟨_,_,Mem.aq _ _ _,by simp[dN],?_⟩
  rw[Mem.set_set]
  refine hk _ [b,Ef] (.inr ⟨Ef,l.length+1,_,rfl,aT,by first|(rw[Mem.aq];rfl)|rw[Mem.aq],by rw[Mem.aC _ _ aT,Mem.aq],?_,by simp⟩) (RO.trans ?_)
  ·simp only[List.length_drop,List.length_flatten,List.map_replicate,List.sum_replicate_nat,Gn,List.length_map]
   have:l.length*D.W<=(l.length+1)*D.W:=Nat.mul_le_mul_right _ (by omega)
   omega
  ·exact((Mv.set (F:=[b]) (.inr HS)).trans (Mv.set (.inl (by simp)))).sub (by simp)
 ·obtain⟨a,c,hm,_⟩:=hr.app (S.each l)
  exact⟨false,aE hm (by simp),ab.f rfl (hk μ0 F hr RO)⟩
include hf
theorem gW{n:FuncId}(hn:∀{x:El} {a0:Option Addr} {u0:Mem} {K:Kq},D.put a0 u0 K (pr x) (arg x) nf no->aa D.P n [pA a0,arg x] u0 K) ⦃L:List aY⦄ ⦃μ:Mem⦄ ⦃b:Nat⦄ ⦃l:List El⦄ (hO:Ow (cT D.TS D.TE D.W b (l.map pr)::L) μ) (hu:ca ck key l) (hl:l.length<=999999999) (x:El) ⦃K:Kq⦄ (hk:∀μ',Ow (cT D.TS D.TE D.W b ((et ck key x l).map pr)::L) μ'->K (pB (aL ck key (key x) l).isNone) μ'):aa D.P n [pP b 0,arg x] μ K:=by
 have hc:=S.hc
 have hB:=S.B0
 have each:=S.each
 obtain⟨F,h,AV⟩:=cT.split hO
 refine hn ?_
 refine ab.f rfl (S.tT hf h hu (by omega) x λk t hf=>⟨_,_,rfl,ab.mk (λht=>?_) (λht=>?_)⟩)
 ·subst ht
  obtain⟨_,e⟩:=hf.some hc hu
  have:=hk μ (by rw[et,e];exact hO)
  rw[e]at this;exact this
 ·subst ht
  have en:=hf.none hc
  have e1:et ck key x l=l.take k++x::l.drop k:=by rw[et,en,hf.ins hc];rfl
  rw[e1,en]at hk
  refine S.Nl ho h (by omega) λμ1 F1 hr AS=>⟨rfl,?_⟩
  obtain⟨a,c,hb,q_⟩:=hr.app (each l)
  refine⟨_,_,_,aE hb (by simp),?_⟩
  simp only[List.length_map]at q_
  rw[List.length_map]
  refine q_ (pr x) _ _ (S.len x) (S.aae x) (Nat.le_trans (Nat.mul_le_mul (show l.length+1<=1000000000 by omega) hB) (by decide)) (by omega) λb' c' rest μ2 aT e2 iK kQ rI uX=>?_
  refine⟨_,_,e2.trans hb,by simp,?_⟩
  refine⟨_,_,_,aE (Mem.aq _ _ _) (by simp[dN]),?_⟩
  have Zz:IntKind.wrap .i64 (((l.length+1:Nat):Int)-1)=(l.length:Int):=by rw[az (by omega) (by omega)];omega
  rw[Zz]
  have hle:=hf.leK
  have room:∀(j:Nat) (y:El) (i:Nat) (r:List PV),i<=l.length->r.length=D.W->0+i*D.W+r.length<=(((l.take j++y::l.drop j).map pr).flatten++rest).length:=λj y i r hi EC=>by
   have pq:=gj (each (l.take j++y::l.drop j))
   rw[List.length_map,lC]at pq
   rw[List.length_append,pq,EC,Nat.zero_add,<- Nat.succ_mul]
   exact Nat.le_trans (Nat.mul_le_mul_right _ (by omega)) (Nat.le_add_right _ _)
  refine ak.down hle (by omega) (λj u=>∃y,u b=some (.cells D.TS [.raw (.slice (some ⟨b',0,none⟩) (l.length+1) c'),pB false])/\u b'=some (.cells D.TE (((l.take j++y::l.drop j).map pr).flatten++rest))/\Mv μ2 u [b,b'] [b,b']) ⟨x,?_,?_,?_⟩ ?_ ?_
  ·rw[Mem.aq];rfl
  ·rw[Mem.aC _ _ aT,iK,List.take_length,List.drop_length]
   simp
  ·exact(Mv.set (.inl (by simp))).sub (by simp)
  ·rintro j u next hkj Wm ⟨y,i1,i2,i3⟩ ar
   refine ab.t (by simpa using hkj) ?_
   refine⟨_,_,_,aE i1 (by simp),?_⟩
   refine⟨_,_,_,aE i1 (by simp),?_⟩
   have MV:IntKind.wrap .i64 ((j:Int)-1)=((j-1:Nat):Int):=by rw[az (by omega) (by omega)];omega
   have fB:aB u b' (0+Int.toNat (IntKind.wrap .i64 ((j:Int)-1))*D.W) D.W=some (pr (l[j-1]'(by omega))):=by
    rw[MV,Int.toNat_natCast,Nat.zero_add]
    exact JD (each _) i2 (Ty l j y (by omega) Wm)
   refine⟨by rw[MV];omega,by rw[MV];omega,S.hX _ _ ⟨fB,?_⟩⟩
   refine⟨by omega,by omega,_,_,i2,?_,ar _ ⟨l[j-1]'(by omega),?_,?_,?_⟩⟩
   ·rw[Int.toNat_natCast];exact room j y j _ Wm (S.len _)
   ·rw[Mem.aC _ _ (Ne.symm aT)];exact i1
   ·rw[Mem.aq,Int.toNat_natCast,Nat.zero_add,FA (r:=pr (l[j-1]'(by omega))) (each _) (by rw[List.length_map,lC];omega) (S.len _),JZ l j y (by omega) Wm]
   ·exact(i3.trans (Mv.set (.inl (by simp)))).sub (by simp)
  ·rintro u next ⟨y,i1,i2,i3⟩
   refine ab.f (by simp) ?_
   refine⟨_,_,_,aE i1 (by simp),?_⟩
   refine⟨by omega,by omega,_,_,i2,?_,?_⟩
   ·rw[Int.toNat_natCast];exact room k y k _ hle (S.len _)
   ·rw[Int.toNat_natCast,Nat.zero_add,FA (r:=pr x) (each _) (by rw[List.length_map,lC];omega) (S.len _),OD l k x y hle]
    refine hk (u.set b' (some (.cells D.TE (((l.take k++x::l.drop k).map pr).flatten++rest)))) (AV (F':=[b,b']) (AS.trans (uX.trans ((i3.trans (Mv.set (.inl (by simp)))).sub (by simp)))) ⟨each _,S.cell _,.inr (.inr (.inr ⟨b',c',rest,rfl,aT,?_,Mem.aq _ _ _,?_,?_⟩))⟩)
    ·rw[Mem.aC _ _ (Ne.symm aT),i1,List.length_map,lC]
    ·rw[List.length_map,lC];exact kQ
    ·rw[List.length_map,lC];exact rI
theorem ia{n:FuncId}(hn:∀{x:El} {a0:Option Addr} {u0:Mem} {K:Kq},D.drop a0 u0 K (arg x) nf no->aa D.P n [pA a0,arg x] u0 K) ⦃L:List aY⦄ ⦃μ:Mem⦄ ⦃b:Nat⦄ ⦃l:List El⦄ (hO:Ow (cT D.TS D.TE D.W b (l.map pr)::L) μ) (hu:ca ck key l) (hl:l.length<=999999999) (x:El) ⦃K:Kq⦄ (hk:∀μ',Ow (cT D.TS D.TE D.W b ((bq ck key (key x) l).map pr)::L) μ'->K (pB (aL ck key (key x) l).isSome) μ'):aa D.P n [pP b 0,arg x] μ K:=by
 have hc:=S.hc
 have each:=S.each
 have hW:=S.W0
 obtain⟨F,h,AV⟩:=cT.split hO
 refine hn ?_
 refine ab.f rfl (S.tT hf h hu (by omega) x λk t hf=>⟨_,_,rfl,ab.mk (λht=>?_) (λht=>?_)⟩)
 ·have ht:t=false:=by simpa using ht
  subst ht
  have en:=hf.none hc
  have e1:bq ck key (key x) l=l:=by
   unfold bq
   refine List.filter_eq_self.2 λy hy=>?_
   have:=(bx hc).1 en y hy
   simp only[DQ,Bool.not_eq_true',decide_eq_false_iff_not,hc.zero];exact this
  rw[e1,en]at hk
  exact hk μ hO
 ·have ht:t=true:=by simpa using ht
  subst ht
  obtain⟨ED,es⟩:=hf.some hc hu
  rw[<- hf.del hc hu,es]at hk
  refine S.Nl ho h (by omega) λμ1 F1 hr AS=>⟨rfl,?_⟩
  rcases hr with⟨_,hn,_⟩|⟨b',c,rest,rfl,aT,hb,iK,kQ,OP⟩
  ·have:(l.map pr).length=0:=by rw[hn];rfl
   simp at this;subst this;simp at ED
  ·rw[List.length_map]at hb kQ OP
   refine ak.from (s:=k) (n:=l.length-1) (by omega) (by omega) (λj u=>u b=some (.cells D.TS [.raw (.slice (some ⟨b',0,none⟩) l.length c),pB false])/\u b'=some (.cells D.TE (((xX l k j).map pr).flatten++rest))/\Mv μ1 u [b,b'] [b,b']) ⟨hb,by rw[aet];exact iK,Mv.refl _ _⟩ ?_ ?_
   ·rintro j u next hkj Wm ⟨i1,i2,i3⟩ ar
    have MV:IntKind.wrap .i64 ((j:Int)+1)=((j+1:Nat):Int):=by rw[az (by omega) (by omega)];omega
    have nR:((xX l k j).map pr).length=l.length:=by rw[List.length_map,Tf hkj (by omega)]
    have fB:aB u b' (0+Int.toNat (IntKind.wrap .i64 ((j:Int)+1))*D.W) D.W=some (pr (l[j+1]'(by omega))):=by
     rw[MV,Int.toNat_natCast,Nat.zero_add]
     exact JD (each _) i2 (by rw[List.getElem?_map,Xt hkj (by omega)];rfl)
    refine⟨_,_,_,aE i1 (by simp),ab.t (by rw[MV];simp;omega) ?_⟩
    refine⟨_,_,_,aE i1 (by simp),?_⟩
    refine⟨_,_,_,aE i1 (by simp),?_⟩
    refine⟨by rw[MV];omega,by rw[MV];omega,S.hX _ _ ⟨fB,?_⟩⟩
    refine⟨by omega,by omega,_,_,i2,?_,ar _ ⟨?_,?_,?_⟩⟩
    ·have pq:=gj (each (xX l k j))
     rw[nR]at pq
     rw[List.length_append,pq,Int.toNat_natCast,S.len,Nat.zero_add,<- Nat.succ_mul]
     exact Nat.le_trans (Nat.mul_le_mul_right _ (by omega)) (Nat.le_add_right _ _)
    ·rw[Mem.aC _ _ (Ne.symm aT)];exact i1
    ·rw[Mem.aq,Int.toNat_natCast,Nat.zero_add,FA (r:=pr (l[j+1]'(by omega))) (each _) (by rw[nR];omega) (S.len _),<- List.map_set,Qj hkj (by omega)]
    ·exact(i3.trans (Mv.set (.inl (by simp)))).sub (by simp)
   ·rintro u next ⟨i1,i2,i3⟩
    have MV:IntKind.wrap .i64 (((l.length-1:Nat):Int)+1)=((l.length:Nat):Int):=by rw[az (by omega) (by omega)];omega
    have hj2:IntKind.wrap .i64 (((l.length:Nat):Int)-1)=((l.length-1:Nat):Int):=by rw[az (by omega) (by omega)];omega
    refine⟨_,_,_,aE i1 (by simp),ab.f (by rw[MV];simp) ?_⟩
    refine⟨_,_,_,aE i1 (by simp),?_⟩
    refine⟨_,_,_,aE i1 (by simp),?_⟩
    refine⟨λa ha=>by cases ha;rfl,by omega,by rw[hj2];omega,by rw[hj2];omega,by omega,_,_,i1,by simp,?_⟩
    rw[hj2]
    have IY:(l.eraseIdx k).length=l.length-1:=by rw[List.length_eraseIdx,if_pos ED]
    refine hk _ (AV (F':=[b,b']) (AS.trans ((i3.trans (Mv.set (.inl (by simp)))).sub (by simp))) ⟨each _,S.cell _,.inr (.inr (.inr ⟨b',c,pr (l[l.length-1]'(by omega))++rest,rfl,aT,?_,?_,?_,?_⟩))⟩)
    ·rw[Mem.aq,List.length_map,IY]
     have e0:Br (some ⟨b',0,none⟩) (Int.toNat 0) (Int.toNat ((c:Nat):Int)) D.W=some ⟨b',0,none⟩:=by
      unfold Br
      rw[if_neg (by simp;omega)];simp
     rw[e0]
     simp[dN]
    ·rw[Mem.aC _ _ aT,i2,Tg ED,List.map_append,List.flatten_append]
     simp
    ·rw[List.length_map,IY,List.length_append,S.len,<- Nat.add_assoc,<- Nat.succ_mul,show(l.length-1).succ=l.length by omega]
     exact kQ
    ·rw[List.length_map,IY];omega
end
theorem agi ⦃L:List aY⦄ ⦃μ:Mem⦄ ⦃b:Nat⦄ (hO:Ow L μ) (hb:μ b=none):Ow (cT D.TS D.TE D.W b (([]:List El).map pr)::L) (μ.set b (some (.cells D.TS [.list D.W .nil [],pB false]))):=
 (hO.new D.TS [.list D.W .nil [],pB false] hb).imp λν hν=>⟨[b],S.each [],S.cell [],.inr (.inl ⟨rfl,rfl,hν⟩)⟩
theorem iy{np n:FuncId}(hp:∀ ⦃L:List aY⦄ ⦃μ:Mem⦄ ⦃b:Nat⦄ ⦃l:List El⦄,Ow (cT D.TS D.TE D.W b (l.map pr)::L) μ->ca ck key l->l.length<=999999999->∀(x:El) ⦃K:Kq⦄,(∀μ',Ow (cT D.TS D.TE D.W b ((et ck key x l).map pr)::L) μ'->K (pB (aL ck key (key x) l).isNone) μ')->aa D.P np [pP b 0,arg x] μ K)
  (hn:∀{fl:Fl} {l:Lq} {u0:Mem} {K:Kq},D.new u0 K np l->aa D.P n [.list D.W fl l] u0 K) ⦃L:List aY⦄ ⦃μ:Mem⦄ (hO:Ow L μ) (fl:Fl) (xs:List El) (hx:xs.length<=1000000) ⦃K:Kq⦄ (hk:∀μ' b,Ow (cT D.TS D.TE D.W b ((xs.foldl (λl x=>et ck key x l) []).map pr)::L) μ'->K (pP b 0) μ'):aa D.P n [.list D.W fl (xs.map pr)] μ K:=by
 have hc:=S.hc
 refine hn λb hb=>?_
 have h0:=S.agi hO hb
 have IV:∀(ys:List El),ca ck key (ys.foldl (λl x=>et ck key x l) [])/\(ys.foldl (λl x=>et ck key x l) []).length<=ys.length:=λys=>by
  have ah_:∀(ys acc:List El),ca ck key acc->ca ck key (ys.foldl (λl x=>et ck key x l) acc)/\(ys.foldl (λl x=>et ck key x l) acc).length<=acc.length+ys.length:=by
   intro ys
   induction ys with
   |nil=>intro acc h;exact⟨h,by simp⟩
   |cons y ys ih=>
    intro acc h
    obtain⟨a1,a2⟩:=ih (et ck key y acc) (h.put hc y)
    refine⟨a1,?_⟩
    have:=CM (ck:=ck) (key:=key) (x:=y) (L:=acc)
    simp only[List.foldl_cons,List.length_cons]at a2 |-;omega
  have:=ah_ ys [] List.Pairwise.nil
  simpa using this
 refine ak.each (n:=xs.length) (by omega) (λi u=>Ow (cT D.TS D.TE D.W b (((xs.take i).foldl (λl x=>et ck key x l) []).map pr)::L) u) h0 ?_ ?_
 ·intro i u next hi hI ar
  obtain⟨a1,a2⟩:=IV (xs.take i)
  refine ab.t (by simpa using hi) ⟨by omega,_,aw hi,S.hX _ _ ⟨S.row _,?_⟩⟩
  rw[S.E']
  refine hp hI a1 (by simp at a2;omega) xs[i] λu' eU=>⟨_,rfl,ar _ ?_⟩
  rw[List.take_add_one,List.getElem?_eq_getElem hi,List.foldl_append]
  exact eU
 ·intro u next hI
  refine ab.f (by simp) (hk _ b ?_)
  rw[List.take_length]at hI;exact hI
theorem fN{na nfr:FuncId}(h1:∀{a0:Fn} {EM EL c0:List PV} {u0:Mem} {K:Kq},D.By u0 K nfr a0 EM EL c0->aa D.P na [.fn a0 EM EL,.bn c0 0] u0 K)
  (h2:∀{a0:Option Addr} {a1:Int} {a2:Fn} {EJ EI:List PV} {u0:Mem} {K:Kq},D.from_ a0 u0 K a1 a2 EJ EI->aa D.P nfr [pA a0,pI a1,.fn a2 EJ EI] u0 K)
  (b:Nat) (l:List El) (hl:l.length<=4000000000000000000):iT D.P (.fn (.func na) [] [.bn [pP b 0] 0]) (l.map λx=>[arg x]) (cT D.TS D.TE D.W b (l.map pr)) (cT D.TS D.TE D.W b (l.map pr)):=by
 refine iT.mk λfy ya yb I A C μ hy hO h0 df=>?_
 show aa _ _ [.fn fy ya yb,.bn [pP b 0] 0] _ _
 refine h1 ⟨_,rfl,ab.t rfl ⟨_,rfl,?_⟩⟩
 obtain⟨F,h,AV⟩:=cT.split hO
 obtain⟨μ0,s,hG,hm,RO⟩:=h.list
 refine aa.pre hG (h2 ?_)
 refine⟨_,_,hm,by simp,?_⟩
 have h1:Ow [cT D.TS D.TE D.W b (l.map pr),C] (μ0.set b (some (.cells D.TS (dN [.list D.W .sh (l.map pr),pB s] (0+1) [pB true])))):=AV (F':=[b]) ((RO.trans (Mv.set (.inl (by simp)))).sub (by simp)) ⟨S.each l,S.cell l,.inl ⟨rfl,by rw[Mem.aq];rfl⟩⟩
 refine⟨_,_,aE (Mem.aq _ _ _) (by simp[dN]),?_⟩
 rw[List.length_map]
 refine ak.each (n:=l.length) (by omega) (λi u=>Ow [I i] u) (h0 _ h1) ?_ ?_
 ·intro i u next hi hI ar
  have gV:=df i (by simpa using hi)
  rw[List.getElem_map]at gV
  refine ab.t (by simpa using hi) ⟨by omega,_,aw hi,S.hX _ _ ⟨S.row _,?_⟩⟩
  rw[S.E']
  refine Ow.va hI (λν hν=>gV ν hν) λv μ' Uu=>?_
  rcases Uu.qB with⟨rfl,h⟩|⟨rfl,h⟩
  ·exact⟨true,rfl,ab.f rfl (ar _ h)⟩
  ·exact⟨false,rfl,ab.t rfl ⟨rfl,.inr h⟩⟩
 ·intro u next hI
  refine ab.f (by simp) ⟨rfl,.inl ?_⟩
  simp only[List.length_map];exact hI
end Ps
end Go.aK
namespace Go.Proofs.YtbodiiomcfgokaaGreat
open Go.Proofs.Tryz Go.aK Go.RowKit
namespace RT
abbrev El:=af
@[reducible] def pv(x:El):List PV:=af.pv x
@[reducible] def arg(x:El):PV:=.agg x.pv
@[reducible] def zero:PV:=.agg [pI 0,pS ⟨#[]⟩,pI 0,pI 0,pS ⟨#[]⟩,pI 0,pI 0,pS ⟨#[]⟩,pI 0,pB false,pB false,pI 0]
def key(x:El):Int:=x.tag
abbrev ck:Int->Int->Int:=aA
theorem hc:oF ck:=ax
theorem wC(a b:El):Pure prog 325 [arg a,arg b] (pI (ck (key a) (key b))):=by
 refine ao.of (rZ.c ?_)
 refine ab.mk (λh=>?_) (λh=>ab.mk (λh1=>?_) (λh1=>?_))<;>simp only[decide_eq_true_eq,decide_eq_false_iff_not]at* <;>simp only[aA,wk,cH,key]
 ·rw[if_pos h]
 ·rw[if_neg h,if_pos h1]
 ·rw[if_neg h,if_neg h1]
@[reducible] noncomputable def D:SD:=⟨prog,251,163,12,112,325,λQ=>∃xa xb xc xd xe xf xg xh xi xj xk xl,Q [pI xa,pS xb,pI xc,pI xd,pS xe,pI xf,pI xg,pS xh,pI xi,pB xj,pB xk,pI xl],.agg,[pI (0),pS ⟨#[]⟩,pI (0),pI (0),pS ⟨#[]⟩,pI (0),pI (0),pS ⟨#[]⟩,pI (0),pB false,pB false,pI (0)]⟩
abbrev At(b:Nat)(l:List El):aY:=cT 251 163 12 b (l.map pv)
theorem ot:Ps D pv arg key ck:=⟨λx Q h=>⟨_,_,_,_,_,_,_,_,_,_,_,_,h⟩,λ_=>rfl,λ_=>rfl,λ_=>rfl,λ_=>rfl,hc,wC,λv=>by kernel_rfl,rfl,by decide,by decide⟩
theorem dP{x:El}{a0:Option Addr}{u0:Mem}{K:Kq}(h:D.find a0 u0 K (arg x)):aa prog 152 [pA a0,arg x] u0 K:=VC [3] [(2,⟨[(6,.one (.raw (.int .i64))),(7,.one (.raw (.int .i64)))],[]⟩)] [] [] [] [] [] func152 h
theorem Hu{x:El}{a0:Option Addr}{u0:Mem}{K:Kq}(h:D.place a0 u0 K (arg x) 152):aa prog 94 [pA a0,arg x] u0 K:=VC [3] [] [] [] [] [] [] func94 h
def tc:=ot.tc dP Hu
theorem xV{x:El}{a0:Option Addr}{u0:Mem}{K:Kq}(h:D.get a0 u0 K (arg x) 152):aa prog 151 [pA a0,arg x] u0 K:=VC [3,4,6] [] [] [] [] [] [] func151 h
theorem qO{x:El}{a0:Option Addr}{u0:Mem}{K:Kq}(h:D.QK a0 u0 K (arg x) 152):aa prog 151 [pA a0,arg x] u0 K:=VC [3,4,6] [] [] [] [] [] [24] func151 h
def lq:=ot.lq dP xV qO
theorem Ta{a0:Option Addr}{u0:Mem}{K:Kq}(h:D.len a0 u0 K):aa prog 155 [pA a0] u0 K:=VC [] [] [] [] [] [] [] func155 h
def K_:=Ps.K_ (D:=D) (pr:=pv) Ta
theorem iZ{a0:Option Addr}{u0:Mem}{K:Kq}(h:D.own a0 u0 K):aa prog 153 [pA a0] u0 K:=VC [] [] [] [] [] [] [] func153 h
theorem nH{x:El}{a0:Option Addr}{u0:Mem}{K:Kq}(h:D.put a0 u0 K (pv x) (arg x) 152 153):aa prog 93 [pA a0,arg x] u0 K:=VC [3] [(9,⟨[(7,.one (.raw (.int .i64)))],[]⟩)] [] [] [] [] [23,32,43,48,57] func93 h
def gW:=ot.gW dP iZ nH
theorem nK{x:El}{a0:Option Addr}{u0:Mem}{K:Kq}(h:D.drop a0 u0 K (arg x) 152 153):aa prog 154 [pA a0,arg x] u0 K:=VC [3] [(8,⟨[(7,.one (.raw (.int .i64)))],[]⟩)] [] [] [] [] [26,34,39,49,53,56] func154 h
def ia:=ot.ia dP iZ nK
theorem nI{fl:Fl}{l:Lq}{u0:Mem}{K:Kq}(h:D.new u0 K 93 l):aa prog 91 [.list 12 fl l] u0 K:=VC [5] [(3,⟨[(10,.one (.raw (.int .i64)))],[]⟩)] [] [] [] [] [] func91 h
def iy:=ot.iy gW nI
theorem nJ{a0:Option Addr}{a1:Int}{a2:Fn}{EJ EI:List PV}{u0:Mem}{K:Kq}(h:D.from_ a0 u0 K a1 a2 EJ EI):aa prog 144 [pA a0,pI a1,.fn a2 EJ EI] u0 K:=VC [] [(3,⟨[(7,.one (.raw (.int .i64)))],[]⟩)] [] [] [] [] [] func144 h
theorem nL{a0:Fn}{EM EL c0:List PV}{u0:Mem}{K:Kq}(h:D.By u0 K 144 a0 EM EL c0):aa prog 143 [.fn a0 EM EL,.bn c0 0] u0 K:=VC [] [] [] [] [] [] [] func143 h
@[reducible] def tn(b:Nat):PV:=.fn (.func 143) [] [.bn [pP b 0] 0]
theorem rX(b:Nat):Pure prog 87 [pP b 0] (tn b):=ao.of (mX.c rfl)
theorem fN(b:Nat)(l:List El)(hl:l.length<=4000000000000000000):iT prog (tn b) (l.map λx=>[arg x]) (At b l) (At b l):=ot.fN nL nJ b l hl
end RT
end Go.Proofs.YtbodiiomcfgokaaGreat
namespace Go.aK
open Go.RowKit
structure MD where
 S:SD
 TM:TypeId
 TY:TypeId
 WK:Nat
 WV:Nat
 at_:FuncId
 XK:(List PV->Prop)->Prop
 EK:List PV->PV
 XV:(List PV->Prop)->Prop
 EV:List PV->PV
 ZV:List PV
section
variable (M:MD) (a0:Option Addr) (u0:Mem) (K:Kq) (ek:PV) (fg fp fd:FuncId)
def MD.look(J:Option Addr×Bool->Mem->Prop):Prop:=
 nP a0 λb o=>
 ∃x,aB u0 b o 1=some [pA x]/\
 (dz M.S.P M.at_ [ek] u0 λv tE=>
  M.S.X λy=>v=M.S.E y/\
  (aa M.S.P fg [pA x,M.S.E (y.map cH)] (Mem.or u0 tE) λJe tD=>
   M.S.X λy2=>∃q,Je=(.aD [M.S.E y2,pB q])/\
   ∀(b7:Nat),tD b7=none->
   stM b7 0 y2 (Mem.set tD b7 (some (.cells M.S.TE M.S.Z))) λIQ=>
   J ((some ⟨b7,0,none⟩),q) IQ)/\
  (∀(b7:Nat),(Mem.or u0 tE) b7=none->
   aa M.S.P fg [pA x,M.S.E (y.map cH)] (Mem.set (Mem.or u0 tE) b7 (some (.cells M.S.TE M.S.Z))) λSc EB=>
   M.S.X λy2=>∃q,Sc=(.aD [M.S.E y2,pB q])/\
   stM b7 0 y2 EB λNU=>
   J ((some ⟨b7,0,none⟩),q) NU))/\
 (∀(b7:Nat),u0 b7=none->
  dz M.S.P M.at_ [ek] (Mem.set u0 b7 (some (.cells M.S.TE M.S.Z))) λv_3 Zc=>
  M.S.X λy=>v_3=M.S.E y/\
  aa M.S.P fg [pA x,M.S.E (y.map cH)] (Mem.or (Mem.set u0 b7 (some (.cells M.S.TE M.S.Z))) Zc) λv_4 Zb=>
  M.S.X λy2=>∃q,v_4=(.aD [M.S.E y2,pB q])/\
  stM b7 0 y2 Zb λWB=>
  J ((some ⟨b7,0,none⟩),q) WB)
def MD.get:Prop:=
 ab (Option.isNone a0)
 (K (.aD [M.EV M.ZV,pB false]) u0)
 (bZ (α:=Option Addr×Bool) (λJ=>M.look a0 u0 ek fg J)
  (λs u=>
   aF (.raw (.pointer s.1)) λb o=>
   M.XV λy=>aB u b (o+M.WK) M.WV=some y/\
   K (.aD [M.EV y,pB s.2]) u))
def MD.put(pg:PV)(cv:List PV):Prop:=
 ab (Option.isNone a0)
 (K (pB false) u0)
 (bZ (α:=Option Addr×Bool) (λJ=>M.look a0 u0 ek fg J)
  (λs u=>
   ab (!s.2)
   (nP a0 λb o=>
    ∃x,aB u b o 1=some [pA x]/\
    aa M.S.P fp [pA x,pg] u λv u_9=>
    ∃r,v=(pB r)/\
    K (pB r) u_9)
   (nP a0 λb o=>
    ∃x,aB u b o 1=some [pA x]/\
    aF (.raw (.pointer s.1)) λYH Xn=>
    M.S.X λy=>aB u YH Xn M.S.W=some y/\
    aa M.S.P fd [pA x,M.S.E (y.map cH)] u λv Se=>
    ∃r,v=(pB r)/\
    nP a0 λb_4 o_4=>
    ∃x1,aB Se b_4 o_4 1=some [pA x1]/\
    aF (.raw (.pointer s.1)) λb_5 o_5=>
    M.XK λyk=>aB Se b_5 o_5 M.WK=some yk/\
    aa M.S.P fp [pA x1,.agg (yk++cv)] Se λv_7 Py=>
    ∃r,v_7=(pB r)/\
    K (pB false) Py)))
def MD.drop:Prop:=
 ab (Option.isNone a0)
 (K (.aD [M.EV M.ZV,pB false]) u0)
 (bZ (α:=Option Addr×Bool) (λJ=>M.look a0 u0 ek fg J)
  (λs u=>
   bZ (α:=Unit) (λJ_1=>
    ab s.2
    (nP a0 λb o=>
     ∃x,aB u b o 1=some [pA x]/\
     aF (.raw (.pointer s.1)) λYI Xo=>
     M.S.X λy=>aB u YI Xo M.S.W=some y/\
     aa M.S.P fd [pA x,M.S.E (y.map cH)] u λv Se=>
     ∃r,v=(pB r)/\
     J_1 () Se)
    (J_1 () u))
   (λBR u_9=>
    aF (.raw (.pointer s.1)) λYH Xn=>
    M.XV λy=>aB u_9 YH (Xn+M.WK) M.WV=some y/\
    K (.aD [M.EV y,pB s.2]) u_9)))
def MD.new(fn:FuncId):Prop:=
 aa M.S.P fn [.list M.S.W .nil []] u0 λv u=>
 ∃x,v=(pA x)/\
 bJ u M.TM [pA x] λb3 tE=>
 K (pP b3 0) tE
def MD.By(fa:FuncId)(f:Fn)(fa1 fb1 c0:List PV):Prop:=
 bJ u0 M.TY [.fn f fa1 fb1] λb2 NU=>
 ∃x4,ay c0 0 1=some [pA x4]/\
 ab (Option.isNone x4)
 (K (.aD []) NU)
 (∃x6,ay c0 0 1=some [pA x6]/\
  nP x6 λb o=>
   ∃x9,aB NU b o 1=some [pA x9]/\
   aa M.S.P fa [pA x9] NU λv u=>
   ∃(Y_:Fn) (adO adN:List PV),v=(.fn Y_ adO adN)/\
   bk M.S.P (.fn Y_ adO adN) (λvs RR tE=>
    M.S.X λy=>vs=[M.S.E y]/\
    ∃(x12:Fn) (adK adJ:List PV),aB tE b2 0 1=some [(.fn x12 adK adJ)]/\
    bY M.S.P (.fn x12 adK adJ) [M.EK (y.take M.WK),M.EV ((y.drop M.WK).map cH)] tE λJe IQ=>
    ∃x17,Je=(pB x17)/\
    ab (!x17)
    (RR (some .ret) IQ)
    (RR none IQ))
   (λp tD=>
    PK p
    (K (.aD []) tD)
    (K (.aD []) tD)
    [])
   u)
end
section
variable (D:SD) {El κ:Type} (pr:El->List PV) (arg:El->PV) (key:El->κ) (ck:κ->κ->Int) (n:FuncId)
abbrev agm:Prop:=∀ ⦃L:List aY⦄ ⦃μ:Mem⦄ ⦃b:Nat⦄ ⦃l:List El⦄,Ow (cT D.TS D.TE D.W b (l.map pr)::L) μ->ca ck key l->l.length<=4000000000000000000->∀(x:El) ⦃K:Kq⦄,(∀y,aL ck key (key x) l=some y->K (.aD [arg y,pB true]) μ)->(aL ck key (key x) l=none->K (.aD [D.E D.Z,pB false]) μ)->aa D.P n [pP b 0,arg x] μ K
abbrev akq:Prop:=∀ ⦃L:List aY⦄ ⦃μ:Mem⦄ ⦃b:Nat⦄ ⦃l:List El⦄,Ow (cT D.TS D.TE D.W b (l.map pr)::L) μ->ca ck key l->l.length<=999999999->∀(x:El) ⦃K:Kq⦄,(∀μ',Ow (cT D.TS D.TE D.W b ((et ck key x l).map pr)::L) μ'->K (pB (aL ck key (key x) l).isNone) μ')->aa D.P n [pP b 0,arg x] μ K
abbrev aaq:Prop:=∀ ⦃L:List aY⦄ ⦃μ:Mem⦄ ⦃b:Nat⦄ ⦃l:List El⦄,Ow (cT D.TS D.TE D.W b (l.map pr)::L) μ->ca ck key l->l.length<=999999999->∀(x:El) ⦃K:Kq⦄,(∀μ',Ow (cT D.TS D.TE D.W b ((bq ck key (key x) l).map pr)::L) μ'->K (pB (aL ck key (key x) l).isSome) μ')->aa D.P n [pP b 0,arg x] μ K
end
def eV(M:MD){El:Type}(pr:El->List PV)(m:Nat)(l:List El):aY:=λμ=>∃s,Ow [Pt m M.TM [pP s 0],cT M.S.TS M.S.TE M.S.W s (l.map pr)] μ
theorem eV.open_{M:MD}{El:Type}{pr:El->List PV}{m:Nat}{l:List El}{L:List aY}{μ:Mem}(h:Ow (eV M pr m l::L) μ):∃s,Ow (Pt m M.TM [pP s 0]::cT M.S.TS M.S.TE M.S.W s (l.map pr)::L) μ:=by
 obtain⟨s,h⟩:=Ow.ex h
 exact⟨s,h.nest⟩
theorem eV.shut{M:MD}{El:Type}{pr:El->List PV}{m s:Nat}{l:List El}{L:List aY}{μ:Mem}(h:Ow (Pt m M.TM [pP s 0]::cT M.S.TS M.S.TE M.S.W s (l.map pr)::L) μ):Ow (eV M pr m l::L) μ:=
 (Ow.pack (L1:=[Pt m M.TM [pP s 0],cT M.S.TS M.S.TE M.S.W s (l.map pr)]) h).imp λ_ hν=>⟨s,hν⟩
theorem Wy{cs vs:List PV}(h:vs.length=cs.length):dN cs 0 vs=vs:=by
 unfold dN
 rw[List.take_zero,List.nil_append,Nat.zero_add,h,List.drop_length,List.append_nil]
structure Wu(M:MD){KY VL κ:Type}(pr:KY×VL->List PV)(arg:KY×VL->PV)(pk:KY->List PV)(db:KY->PV)(pl:VL->List PV)(gI:VL->PV)(z:VL)(key:KY×VL->κ)(ck:κ->κ->Int):Prop where
 S:Ps M.S pr arg key ck
 hp:∀k v,pr (k,v)=pk k++pl v
 ha:∀x,arg x=.agg (pr x)
 lk:∀k,(pk k).length=M.WK
 lv:∀v,(pl v).length=M.WV
 hK:∀k Q,Q (pk k)->M.XK Q
 EK:∀k,M.EK (pk k)=db k
 hV:∀v Q,Q (pl v)->M.XV Q
 EV:∀v,M.EV (pl v)=gI v
 EVw:∀v,M.EV ((pl v).map cH)=gI v
 hz:∀Q,Q M.S.Z->M.S.X Q
 hzV:∀Q,Q M.ZV->M.XV Q
 zV:M.S.Z.drop M.WK=M.ZV
 zl:M.ZV.length=M.WV
 WV0:0<M.WV
 at_:∀k,Pure M.S.P M.at_ [db k] (arg (k,z))
 inj:∀a v k w,key (a,v)=key (k,w)->a=k
 kv:∀a v w,key (a,v)=key (a,w)
section
variable {κ T:Type} {ck:κ->κ->Int} {key:T->κ}
theorem SQ{x:T}{l:List T}(h:aL ck key (key x) l=none):et ck key x l=bc ck key x l:=by rw[et,h];rfl
theorem XA(hc:oF ck){x y:T}{l:List T}(hu:ca ck key l)(e:key x=key y):et ck key x (bq ck key (key y) l)=bc ck key x l:=by
 have hn:aL ck key (key x) (bq ck key (key y) l)=none:=(bx hc).2 λa ha=>by
  have:=((eF hc).1 ha).2
  rw[e];exact this
 rw[et,hn]
 refine ca.ext hc ((hu.del _).ins hc x) (hu.ins hc x) λa=>?_
 show a∈bc ck key x _↔_
 rw[bj hc,bj hc,eF hc,e]
 constructor
 ·rintro(h|⟨⟨h,_⟩,h2⟩)
  ·exact .inl h
  ·exact .inr ⟨h,h2⟩
 ·rintro(h|⟨h,h2⟩)
  ·exact .inl h
  ·exact .inr ⟨⟨h,h2⟩,h2⟩
end
namespace Wu
variable {M:MD} {KY VL κ:Type} {pr:KY×VL->List PV} {arg:KY×VL->PV} {pk:KY->List PV} {db:KY->PV} {pl:VL->List PV} {gI:VL->PV} {z:VL} {key:KY×VL->κ} {ck:κ->κ->Int} (O:Wu M pr arg pk db pl gI z key ck)
def In(M:MD)(pr:KY×VL->List PV)(z:VL)(key:KY×VL->κ)(ck:κ->κ->Int)(m s b7:Nat)(l:List (KY×VL))(L:List aY)(k:KY)(t:Bool):aY:=λu=>
 (∃y,aL ck key (key (k,z)) l=some y/\t=true/\Ow (Pt b7 M.S.TE (pr y)::Pt m M.TM [pP s 0]::cT M.S.TS M.S.TE M.S.W s (l.map pr)::L) u)\/
 (aL ck key (key (k,z)) l=none/\t=false/\Ow (Pt b7 M.S.TE M.S.Z::Pt m M.TM [pP s 0]::cT M.S.TS M.S.TE M.S.W s (l.map pr)::L) u)
include O
theorem len(x:KY×VL):(pr x).length=M.WK+M.WV:=by
 obtain⟨k,v⟩:=x
 rw[O.hp,List.length_append,O.lk,O.lv]
theorem W:M.S.W=M.WK+M.WV:=by rw[<- O.S.zl,<- List.take_append_drop M.WK M.S.Z,O.zV,List.length_append,O.zl,List.length_take,Nat.min_eq_left];(have h1:=O.zl;rw[<- O.zV,List.length_drop]at h1;have:=O.WV0;omega)
theorem fst(x:KY×VL):(pr x).take M.WK=pk x.1:=by
 obtain⟨k,v⟩:=x
 rw[O.hp,<- O.lk k,List.take_left]
theorem snd(x:KY×VL):(pr x).drop M.WK=pl x.2:=by
 obtain⟨k,v⟩:=x
 rw[O.hp,<- O.lk k,List.drop_left]
theorem look{fg:FuncId}(hg:agm M.S pr arg key ck fg){L:List aY}{μ:Mem}{m s:Nat}{l:List (KY×VL)}(hO:Ow (Pt m M.TM [pP s 0]::cT M.S.TS M.S.TE M.S.W s (l.map pr)::L) μ)(hu:ca ck key l)(hl:l.length<=4000000000000000000)(k:KY){J:Option Addr×Bool->Mem->Prop}(hJ:∀b7 t u,In M pr z key ck m s b7 l L k t u->J (some ⟨b7,0,none⟩,t) u):
  M.look (some ⟨m,0,none⟩) μ (db k) fg J:=by
 have e1:∀y,M.S.E (pr y)=arg y:=O.S.E
 have e2:∀y,M.S.E ((pr y).map cH)=arg y:=O.S.E'
 have stp:∀{b7:Nat} {u:Mem} {L':List aY} {t:Bool} {c:List PV},c.length=M.S.Z.length->Ow (Pt b7 M.S.TE M.S.Z::L') u->(∀u',Ow (Pt b7 M.S.TE c::L') u'->J (some ⟨b7,0,none⟩,t) u')->stM b7 0 c u λu'=>J (some ⟨b7,0,none⟩,t) u':=λhc h hk=>h.st 0 rfl (by omega) λu' h'=>hk u' (by
  have h'':=h'
  rw[Wy hc]at h'';exact h'')
 have ln:∀y,(pr y).length=M.S.Z.length:=λy=>by rw[O.S.len,O.S.zl]
 have two:∀{b7:Nat} {u:Mem},Ow (Pt b7 M.S.TE M.S.Z::Pt m M.TM [pP s 0]::cT M.S.TS M.S.TE M.S.W s (l.map pr)::L) u->aa M.S.P fg [pA (some ⟨s,0,none⟩),arg (k,z)] u λSc EB=>M.S.X λy2=>∃q,Sc=(.aD [M.S.E y2,pB q])/\stM b7 0 y2 EB λNU=>J ((some ⟨b7,0,none⟩),q) NU:=λ{b7 u} h=>
  hg (Ow.at 2 rfl h) hu hl (k,z) (λy hy=>O.S.hX y _ ⟨true,by rw[e1],stp (ln y) h λu' h'=>hJ _ _ _ (.inl ⟨y,hy,rfl,h'⟩)⟩) (λhy=>O.hz _ ⟨false,rfl,stp rfl h λu' h'=>hJ _ _ _ (.inr ⟨hy,rfl,h'⟩)⟩)
 refine⟨_,hO.rd 0 rfl (by simp),(O.at_ k).q (O.S.hX (k,z) _ ⟨(e1 _).symm,?_⟩),λb7 rT=>(O.at_ k).q (O.S.hX (k,z) _ ⟨(e1 _).symm,?_⟩)⟩
 ·rw[Mem.oM,e2]
  refine⟨hg hO.swap hu hl (k,z) (λy hy=>O.S.hX y _ ⟨true,by rw[e1],λb7 rT=>?_⟩) (λhy=>O.hz _ ⟨false,rfl,λb7 rT=>?_⟩),λb7 rT=>two (hO.new _ _ rT)⟩
  ·exact stp (ln y) (hO.new _ _ rT) λu' h'=>hJ _ _ _ (.inl ⟨y,hy,rfl,h'⟩)
  ·exact stp rfl (hO.new _ _ rT) λu' h'=>hJ _ _ _ (.inr ⟨hy,rfl,h'⟩)
 ·rw[Mem.oM,e2]
  exact two (hO.new _ _ rT)
theorem rdV{b7:Nat}{L:List aY}{u:Mem}{y:KY×VL}(h:Ow (Pt b7 M.S.TE (pr y)::L) u):aB u b7 (0+M.WK) M.WV=some (pl y.2):=by
 have:=h.rd 0 rfl (o:=0+M.WK) (n:=M.WV) (by rw[O.len];omega)
 rw[this,Nat.zero_add,O.snd,<- O.lv y.2,List.take_length]
theorem rdZ{b7:Nat}{L:List aY}{u:Mem}(h:Ow (Pt b7 M.S.TE M.S.Z::L) u):aB u b7 (0+M.WK) M.WV=some M.ZV:=by
 have:=h.rd 0 rfl (o:=0+M.WK) (n:=M.WV) (by rw[O.S.zl,O.W];omega)
 rw[this,Nat.zero_add,O.zV,<- O.zl,List.take_length]
theorem rdE{b7:Nat}{L:List aY}{u:Mem}{y:KY×VL}{i:Nat}(h:Ow L u)(hi:L[i]?=some (Pt b7 M.S.TE (pr y))):aB u b7 0 M.S.W=some (pr y):=by
 have:=h.rd i hi (o:=0) (n:=M.S.W) (by rw[O.S.len];omega)
 rw[this,List.drop_zero,<- O.S.len y,List.take_length]
theorem rdK{b7:Nat}{L:List aY}{u:Mem}{y:KY×VL}{i:Nat}(h:Ow L u)(hi:L[i]?=some (Pt b7 M.S.TE (pr y))):aB u b7 0 M.WK=some (pk y.1):=by
 have:=h.rd i hi (o:=0) (n:=M.WK) (by rw[O.len];omega)
 rw[this,List.drop_zero,O.fst]
section
variable {fg:FuncId} (hg:agm M.S pr arg key ck fg)
include hg
theorem gO{n:FuncId}(hn:∀{k:KY} {a0:Option Addr} {u0:Mem} {K:Kq},M.get a0 u0 K (db k) fg->aa M.S.P n [pA a0,db k] u0 K) ⦃L:List aY⦄ ⦃μ:Mem⦄ ⦃m:Nat⦄ ⦃l:List (KY×VL)⦄ (hO:Ow (eV M pr m l::L) μ) (hu:ca ck key l) (hl:l.length<=4000000000000000000) (k:KY) ⦃K:Kq⦄ (h1:∀y μ',aL ck key (key (k,z)) l=some y->Ow (eV M pr m l::L) μ'->K (.aD [gI y.2,pB true]) μ') (h0:∀μ',aL ck key (key (k,z)) l=none->Ow (eV M pr m l::L) μ'->K (.aD [M.EV M.ZV,pB false]) μ'):aa M.S.P n [pP m 0,db k] μ K:=by
 obtain⟨s,hO⟩:=eV.open_ hO
 refine hn (ab.f rfl ⟨λr u=>∃b7,r.1=some ⟨b7,0,none⟩/\In M pr z key ck m s b7 l L k r.2 u,O.look hg hO hu hl k λb7 t u h=>⟨b7,rfl,h⟩,?_⟩)
 rintro⟨_,t⟩ u ⟨b7,rfl,⟨y,hy,rfl,iu⟩|⟨hy,rfl,iu⟩⟩
 ·exact O.hV y.2 _ ⟨O.rdV iu,by rw[O.EV];exact h1 y _ hy (eV.shut iu.drop)⟩
 ·exact O.hzV _ ⟨O.rdZ iu,h0 _ hy (eV.shut iu.drop)⟩
theorem oZ{fp fd n:FuncId}(E_:akq M.S pr arg key ck fp)(Uh:aaq M.S pr arg key ck fd)(hn:∀{k:KY} {v:VL} {a0:Option Addr} {u0:Mem} {K:Kq},M.put a0 u0 K (db k) fg fp fd (arg (k,v)) (pl v)->aa M.S.P n [pA a0,db k,gI v] u0 K) ⦃L:List aY⦄ ⦃μ:Mem⦄ ⦃m:Nat⦄ ⦃l:List (KY×VL)⦄ (hO:Ow (eV M pr m l::L) μ) (hu:ca ck key l) (hl:l.length<=999999998) (k:KY) (v:VL) ⦃K:Kq⦄ (hk:∀μ',Ow (eV M pr m (bc ck key (k,v) l)::L) μ'->K (pB (aL ck key (key (k,z)) l).isNone) μ'):aa M.S.P n [pP m 0,db k,gI v] μ K:=by
 have hc:=O.S.hc
 obtain⟨s,hO⟩:=eV.open_ hO
 have ekz:key (k,v)=key (k,z):=O.kv _ _ _
 refine hn (ab.f rfl ⟨λr u=>∃b7,r.1=some ⟨b7,0,none⟩/\In M pr z key ck m s b7 l L k r.2 u,O.look hg hO hu (by omega) k λb7 t u h=>⟨b7,rfl,h⟩,?_⟩)
 rintro⟨_,t⟩ u ⟨b7,rfl,⟨y,hy,rfl,iu⟩|⟨hy,rfl,iu⟩⟩
 ·obtain⟨hym,hyk⟩:=(aM hc hu).1 hy
  have aif:y.1=k:=O.inj y.1 y.2 k z hyk
  refine ab.f rfl ⟨_,iu.rd 1 rfl (by simp),O.S.hX y _ ⟨O.rdE iu (i:=0) rfl,?_⟩⟩
  rw[O.S.E']
  refine Uh (Ow.at 2 rfl iu) hu (by omega) y λu2 IW=>⟨_,rfl,?_⟩
  have hlen:=sY (ck:=ck) (key:=key) (k:=key y) (L:=l)
  refine⟨_,IW.rd 2 rfl (by simp),O.hK y.1 _ ⟨O.rdK IW (i:=1) rfl,?_⟩⟩
  have e2:(PV.agg (pk y.1++pl v))=arg (k,v):=by rw[O.ha,O.hp,aif]
  rw[e2]
  refine E_ (x:=(k,v)) IW (hu.del _) (by omega) λu4 hu4=>⟨_,rfl,?_⟩
  rw[XA hc hu (x:=(k,v)) (y:=y) (by rw[ekz,hyk])]at hu4
  have:=hk u4 (eV.shut ((Ow.at 2 rfl hu4).tail λ_ h=>h.tail λ_ h=>h.drop))
  rw[hy]at this
  exact this
 ·refine ab.t rfl ⟨_,iu.rd 1 rfl (by simp),?_⟩
  refine E_ (Ow.at 2 rfl iu) hu (by omega) (k,v) λu2 IW=>⟨_,rfl,?_⟩
  rw[ekz,hy]
  rw[SQ (by rw[ekz];exact hy)]at IW
  have:=hk u2 (eV.shut ((Ow.at 2 rfl IW).tail λ_ h=>h.tail λ_ h=>h.drop))
  rw[hy]at this
  exact this
theorem jA{fd n:FuncId}(Uh:aaq M.S pr arg key ck fd)(hn:∀{k:KY} {a0:Option Addr} {u0:Mem} {K:Kq},M.drop a0 u0 K (db k) fg fd->aa M.S.P n [pA a0,db k] u0 K) ⦃L:List aY⦄ ⦃μ:Mem⦄ ⦃m:Nat⦄ ⦃l:List (KY×VL)⦄ (hO:Ow (eV M pr m l::L) μ) (hu:ca ck key l) (hl:l.length<=999999998) (k:KY) ⦃K:Kq⦄ (h1:∀y μ',aL ck key (key (k,z)) l=some y->Ow (eV M pr m (bq ck key (key (k,z)) l)::L) μ'->K (.aD [gI y.2,pB true]) μ') (h0:∀μ',aL ck key (key (k,z)) l=none->Ow (eV M pr m l::L) μ'->K (.aD [M.EV M.ZV,pB false]) μ'):aa M.S.P n [pP m 0,db k] μ K:=by
 have hc:=O.S.hc
 obtain⟨s,hO⟩:=eV.open_ hO
 refine hn (ab.f rfl ⟨λr u=>∃b7,r.1=some ⟨b7,0,none⟩/\In M pr z key ck m s b7 l L k r.2 u,O.look hg hO hu (by omega) k λb7 t u h=>⟨b7,rfl,h⟩,?_⟩)
 rintro⟨_,t⟩ u ⟨b7,rfl,⟨y,hy,rfl,iu⟩|⟨hy,rfl,iu⟩⟩
 ·obtain⟨hym,hyk⟩:=(aM hc hu).1 hy
  refine⟨λ_ u2=>Ow (Pt b7 M.S.TE (pr y)::Pt m M.TM [pP s 0]::cT M.S.TS M.S.TE M.S.W s ((bq ck key (key (k,z)) l).map pr)::L) u2,ab.t rfl ⟨_,iu.rd 1 rfl (by simp),O.S.hX y _ ⟨O.rdE iu (i:=0) rfl,?_⟩⟩,?_⟩
  ·rw[O.S.E']
   refine Uh (Ow.at 2 rfl iu) hu (by omega) y λu2 IW=>⟨_,rfl,?_⟩
   rw[hyk]at IW
   exact IW.swap.tail λ_ h=>h.swap
  ·intro _ u2 IW
   exact O.hV y.2 _ ⟨O.rdV IW,by rw[O.EV];exact h1 y _ hy (eV.shut IW.drop)⟩
 ·refine⟨λ_ u2=>u2=u,ab.f rfl rfl,?_⟩
  rintro _ _ rfl
  exact O.hzV _ ⟨O.rdZ iu,h0 _ hy (eV.shut iu.drop)⟩
end
theorem fG{na fa nal:FuncId}(hn:∀{f:Fn} {f1 f2 c0:List PV} {u0:Mem} {K:Kq},M.By u0 K fa f f1 f2 c0->aa M.S.P na [.fn f f1 f2,.bn c0 0] u0 K)
  (iP:∀b:Nat,Pure M.S.P fa [pP b 0] (.fn (.func nal) [] [.bn [pP b 0] 0]))
  (aiB:∀(b:Nat) (l:List (KY×VL)),l.length<=4000000000000000000->iT M.S.P (.fn (.func nal) [] [.bn [pP b 0] 0]) (l.map λx=>[arg x]) (cT M.S.TS M.S.TE M.S.W b (l.map pr)) (cT M.S.TS M.S.TE M.S.W b (l.map pr)))
  (m:Nat) (l:List (KY×VL)) (hl:l.length<=4000000000000000000):iT M.S.P (.fn (.func na) [] [.bn [pP m 0] 0]) (l.map λx=>[db x.1,gI x.2]) (eV M pr m l) (eV M pr m l):=by
 refine iT.mk λfy ya yb I S C μ hy hO h0 df=>?_
 show aa _ _ [.fn fy ya yb,.bn [pP m 0] 0] _ _
 obtain⟨s,hO⟩:=eV.open_ hO
 refine hn λb2 rU=>⟨_,rfl,ab.f rfl ⟨_,rfl,?_⟩⟩
 have jd:=hO.new M.TY [.fn fy ya yb] rU
 refine⟨_,jd.rd 1 rfl (by simp),(iP s).call ⟨_,_,_,rfl,?_⟩⟩
 have rS:(l.map λx:KY×VL=>[db x.1,gI x.2]).length=l.length:=by simp
 refine bk.own (aiB s l hl) (Ow.at 2 rfl jd) (λk=>Ow [Pt b2 M.TY [.fn fy ya yb],I k]) (λc=>λu=>c=.ret/\Ow [S] u) (λk=>fJ.own _) (λc=>fJ.and (fJ.own _)) (λμ' h=>?_) ?_ ?_ ?_
 ·have h3:Ow (Pt b2 M.TY [.fn fy ya yb]::(Pt m M.TM [pP s 0]::cT M.S.TS M.S.TE M.S.W s (l.map pr)::[C])) μ':=h.swap.tail λ_ h=>h.swap
  exact h3.tail λν hν=>h0 ν (eV.shut hν)
 ·intro k hk u R hI bU kg
  have bW:k<l.length:=by simpa using hk
  have gV:=df k (by rw[rS];exact bW)
  rw[List.getElem_map]at gV |-
  refine O.S.hX l[k] _ ⟨by rw[O.S.E],_,_,_,hI.rd 0 rfl (by simp),?_⟩
  rw[O.fst,O.snd,O.EK,O.EVw]
  refine Ow.va hI.swap (λν hν=>gV ν hν) λv μ' Uu=>?_
  rcases Uu.qB with⟨rfl,h⟩|⟨rfl,h⟩
  ·exact⟨true,rfl,ab.f rfl (bU _ h.swap)⟩
  ·exact⟨false,rfl,ab.t rfl (kg _ _ ⟨rfl,h.swap.drop⟩)⟩
 ·intro u hI
  rw[List.length_map]at hI
  exact .inl (by rw[rS];exact hI.drop)
 ·rintro c u ⟨rfl,h⟩
  exact .inr h
end Wu
theorem MD.iy{M:MD}{El:Type}{pr:El->List PV}{n fn:FuncId}(hn:∀{u0:Mem} {K:Kq},M.new u0 K fn->aa M.S.P n [] u0 K)
  (ll:∀ ⦃L:List aY⦄ ⦃μ:Mem⦄,Ow L μ->∀ ⦃K:Kq⦄,(∀μ' b,Ow (cT M.S.TS M.S.TE M.S.W b (([]:List El).map pr)::L) μ'->K (pP b 0) μ')->aa M.S.P fn [.list M.S.W .nil []] μ K)
  ⦃L:List aY⦄ ⦃μ:Mem⦄ (hO:Ow L μ) ⦃K:Kq⦄ (hk:∀μ' m,Ow (eV M pr m ([]:List El)::L) μ'->K (pP m 0) μ'):aa M.S.P n [] μ K:=
 hn (ll hO λμ1 b h1=>⟨_,rfl,λm hm=>hk _ m (eV.shut (h1.new M.TM [pP b 0] hm))⟩)
end Go.aK
namespace Go.Proofs.YtbodiiomcfgokaaGreat
open Go.Proofs.Tryz Go.aK Go.RowKit
theorem Tq{A B T:Type}{c1:A->A->Int}{c2:B->B->Int}(h1:oF c1)(h2:oF c2)(f:T->A)(g:T->B)(inj:∀a b,f a=f b->g a=g b->a=b):oF λa b:T=>if c1 (f a) (f b)=0 then c2 (g a) (g b)else c1 (f a) (f b):=by
 have s1:∀{a b:A},c1 a b=0->c1 b a=0:=λ{a b} h=>(h1.zero b a).2 ((h1.zero a b).1 h).symm
 refine⟨λa b=>?_,λa b=>?_,λa b d h k=>?_⟩
 ·constructor
  ·intro h
   split at h
   ·rename_i e;exact inj a b ((h1.zero _ _).1 e) ((h2.zero _ _).1 h)
   ·rename_i e;exact absurd h e
  ·rintro rfl
   rw[if_pos ((h1.zero _ _).2 rfl)];exact(h2.zero _ _).2 rfl
 ·by_cases e:c1 (f a) (f b)=0
  ·rw[if_pos e,if_pos (s1 e)];exact h2.flip _ _
  ·rw[if_neg e,if_neg λh=>e (s1 h)];exact h1.flip _ _
 ·by_cases e:c1 (f a) (f b)=0
  ·rw[if_pos e]at h
   have e':=(h1.zero _ _).1 e
   rw[<- e']at k
   by_cases e2:c1 (f a) (f d)=0
   ·rw[if_pos e2]at k |-;exact h2.trans _ _ _ h k
   ·rw[if_neg e2]at k |-;exact k
  ·rw[if_neg e]at h
   by_cases e2:c1 (f b) (f d)=0
   ·rw[<- (h1.zero _ _).1 e2,if_neg e];exact h
   ·rw[if_neg e2]at k
    have:=h1.trans _ _ _ h k
    rw[if_neg (by omega)];exact this
def gN(a b:Sym):Int:=if aA a.k b.k=0 then(if aI a.t b.t=0 then aA a.n b.n else aI a.t b.t)else aA a.k b.k
theorem bX:oF gN:=
 Tq ax (Tq aP ax (λp:ByteArray×Int=>p.1) (λp=>p.2) λa b h1 h2=>Prod.ext h1 h2) (λs:Sym=>s.k) (λs=>(s.t,s.n)) λa b h1 h2=>by
  obtain⟨a,b,c⟩:=a
  simp only[Prod.mk.injEq]at h1 h2
  obtain⟨rfl,rfl⟩:=h2
  subst h1;rfl
theorem Pk(a b:Int):Pure prog 315 [pI a,pI b] (pI (aA a b)):=by
 refine ao.of (yW.c ?_)
 have nan:∀x:Int,Pure prog 317 [pI x] (pB false):=λx=>ao.of (BK.c (by show wk (pB (x != x))=pB false;rw[bne_self_eq_false];rfl))
 refine(nan a).call ⟨_,rfl,(nan b).call ⟨_,rfl,ab.f rfl (ab.f rfl (ab.mk (λh=>?_) (λh=>ab.mk (λh1=>?_) (λh1=>?_))))⟩⟩<;>simp only[decide_eq_true_eq,decide_eq_false_iff_not]at* <;>simp only[aA,wk,cH]
 ·rw[if_pos h]
 ·rw[if_neg h,if_pos h1]
 ·rw[if_neg h,if_neg h1]
theorem YA(a b:ByteArray):Pure prog 316 [pS a,pS b] (pI (aI a b)):=by
 refine ao.of (tz.c ?_)
 have nan:∀x:ByteArray,Pure prog 318 [pS x] (pB false):=λx=>ao.of (wZ.c (by show wk (pB (!aJ x x))=pB false;rw[dX];rfl))
 refine(nan a).call ⟨_,rfl,(nan b).call ⟨_,rfl,ab.f rfl (ab.f rfl (ab.mk (λh=>?_) (λh=>ab.mk (λh1=>?_) (λh1=>?_))))⟩⟩<;>simp only[aI,wk,cH]
 ·rw[h];rfl
 ·rw[h1,h];rfl
 ·rw[h1,h];rfl
theorem O_(a b:Sym):Pure prog 314 [.agg a.pv,.agg b.pv] (pI (gN a b)):=by
 refine ao.of (yX.c ?_)
 refine(Pk _ _).call ⟨_,rfl,ab.mk (λh=>?_) (λh=>(YA _ _).call ⟨_,rfl,ab.mk (λh1=>?_) (λh1=>(Pk _ _).call ⟨_,rfl,?_⟩)⟩)⟩<;>simp only[gN,wk,cH]
 ·rw[if_neg (by simpa using h)]
 ·rw[if_pos (by simpa using h),if_neg (by simpa using h1)]
 ·rw[if_pos (by simpa using h),if_pos (by simpa using h1)]
namespace RI
abbrev KY:=Sym
abbrev VL:=Option Addr
abbrev El:=Sym×Option Addr
@[reducible] def pv(x:El):List PV:=[pI x.1.k,pS x.1.t,pI x.1.n,.raw (.pointer x.2)]
@[reducible] def arg(x:El):PV:=.agg (pv x)
@[reducible] def db(k:Sym):PV:=.agg k.pv
@[reducible] def pk(k:Sym):List PV:=k.pv
@[reducible] def pl(v:Option Addr):List PV:=[.raw (.pointer v)]
@[reducible] def gI(v:Option Addr):PV:=.raw (.pointer v)
def z:Option Addr:=none
def key(x:El):Sym:=x.1
abbrev ck:Sym->Sym->Int:=gN
theorem hc:oF ck:=bX
theorem wC(a b:El):Pure prog 360 [arg a,arg b] (pI (ck (key a) (key b))):=by
 refine ao.of (fK.c ?_)
 first
  |exact(O_ _ _).call ⟨_,rfl,rfl⟩
  |exact⟨λv=>by kernel_rfl,(O_ _ _).call ⟨_,rfl,rfl⟩⟩
@[reducible] noncomputable def D:SD:=⟨prog,365,298,4,40,360,λQ=>∃xa xb xc xd,Q [pI xa,pS xb,pI xc,pA xd],.agg,[pI (0),pS ⟨#[]⟩,pI (0),pA none]⟩
theorem ot:Ps D pv arg key ck:=⟨λx Q h=>⟨_,_,_,_,h⟩,λ_=>rfl,λ_=>rfl,λ_=>rfl,λ_=>rfl,hc,wC,λv=>by kernel_rfl,rfl,by decide,by decide⟩
theorem dP{x:El}{a0:Option Addr}{u0:Mem}{K:Kq}(h:D.find a0 u0 K (arg x)):aa prog 261 [pA a0,arg x] u0 K:=VC [3] [(2,⟨[(6,.one (.raw (.int .i64))),(7,.one (.raw (.int .i64)))],[]⟩)] [] [] [] [] [] func261 h
theorem xV{x:El}{a0:Option Addr}{u0:Mem}{K:Kq}(h:D.get a0 u0 K (arg x) 261):aa prog 206 [pA a0,arg x] u0 K:=VC [3,4,6] [] [] [] [] [] [] func206 h
theorem qO{x:El}{a0:Option Addr}{u0:Mem}{K:Kq}(h:D.QK a0 u0 K (arg x) 261):aa prog 206 [pA a0,arg x] u0 K:=VC [3,4,6] [] [] [] [] [] [24] func206 h
def lq:=ot.lq dP xV qO
theorem iZ{a0:Option Addr}{u0:Mem}{K:Kq}(h:D.own a0 u0 K):aa prog 262 [pA a0] u0 K:=VC [] [] [] [] [] [] [] func262 h
theorem nH{x:El}{a0:Option Addr}{u0:Mem}{K:Kq}(h:D.put a0 u0 K (pv x) (arg x) 261 262):aa prog 208 [pA a0,arg x] u0 K:=VC [3] [(9,⟨[(7,.one (.raw (.int .i64)))],[]⟩)] [] [] [] [] [23,32,43,48,57] func208 h
def gW:=ot.gW dP iZ nH
theorem nK{x:El}{a0:Option Addr}{u0:Mem}{K:Kq}(h:D.drop a0 u0 K (arg x) 261 262):aa prog 209 [pA a0,arg x] u0 K:=VC [3] [(8,⟨[(7,.one (.raw (.int .i64)))],[]⟩)] [] [] [] [] [26,34,39,49,53,56] func209 h
def ia:=ot.ia dP iZ nK
theorem nI{fl:Fl}{l:Lq}{u0:Mem}{K:Kq}(h:D.new u0 K 208 l):aa prog 182 [.list 4 fl l] u0 K:=VC [5] [(3,⟨[(10,.one (.raw (.int .i64)))],[]⟩)] [] [] [] [] [] func182 h
def iy:=ot.iy gW nI
@[reducible] noncomputable def M:MD:=⟨D,300,242,3,1,207,λQ=>∃xa xb xc,Q [pI xa,pS xb,pI xc],.agg,λQ=>∃x,Q [pA x],λr=>r.headD .bd,[pA none]⟩
abbrev cU(m:Nat)(l:List El):aY:=eV M pv m l
theorem cAt(k:KY):Pure prog 207 [db k] (arg (k,z)):=ao.of (ic.c rfl)
theorem Hy:Wu M pv arg pk db pl gI z key ck:=⟨ot,λ_ _=>rfl,λ_=>rfl,λ_=>rfl,λ_=>rfl,λk Q h=>⟨_,_,_,h⟩,λ_=>rfl,λv Q h=>⟨_,h⟩,λ_=>rfl,λ_=>rfl,λQ h=>⟨_,_,_,_,h⟩,λQ h=>⟨_,h⟩,rfl,rfl,by decide,cAt,λ_ _ _ _ h=>h,λ_ _ _=>rfl⟩
theorem vG{k:KY}{a0:Option Addr}{u0:Mem}{K:Kq}(h:M.get a0 u0 K (db k) 206):aa prog 145 [pA a0,db k] u0 K:=VC [3] [] [(5,⟨[(7,.one (.raw .ptr)),(8,.one (.raw .bool))],[]⟩)] [] [] [] [] func145 h
def gO:=Hy.gO lq vG
theorem vE{k:KY}{v:VL}{a0:Option Addr}{u0:Mem}{K:Kq}(h:M.put a0 u0 K (db k) 206 208 209 (arg (k,v)) (pl v)):aa prog 146 [pA a0,db k,gI v] u0 K:=VC [4] [] [(4,⟨[(7,.one (.raw .ptr)),(8,.one (.raw .bool))],[]⟩)] [] [] [] [] func146 h
def oZ:=Hy.oZ lq gW ia vE
theorem mN{k:KY}{a0:Option Addr}{u0:Mem}{K:Kq}(h:M.drop a0 u0 K (db k) 206 209):aa prog 156 [pA a0,db k] u0 K:=VC [3] [] [(5,⟨[(7,.one (.raw .ptr)),(8,.one (.raw .bool))],[]⟩),(7,⟨[],[]⟩)] [] [] [] [] func156 h
def jA:=Hy.jA lq ia mN
theorem vF{u0:Mem}{K:Kq}(h:M.new u0 K 182):aa prog 117 [] u0 K:=VC [] [] [] [] [] [] [] func117 h
def DX:=MD.iy (M:=M) (pr:=pv) vF λ_ _ hO _ hk=>iy hO .nil [] (by simp) hk
end RI
structure Lz where
 p:Prod
 way:List Nat
theorem yB(a b:ByteArray):Pure prog 324 [pS a,pS b] (pI (aI a b)):=by
 refine ao.of (uy.c ?_)
 refine ab.mk (λh=>?_) (λh=>ab.mk (λh1=>?_) (λh1=>?_))<;>simp only[aI,wk,cH]
 ·rw[h];rfl
 ·rw[h1,h];rfl
 ·rw[h1,h];rfl
namespace RP
abbrev KY:=ByteArray
abbrev VL:=Lz
abbrev El:=ByteArray×Lz
@[reducible] def pv(x:El):List PV:=[pS x.1,pS x.2.p.name,.list 7 .sh (x.2.p.conds.map ae.pv),.list 19 .sh (x.2.p.bp.map dh.pv),.list 1 .sh (x.2.way.map λb=>[pP b 0])]
@[reducible] def arg(x:El):PV:=.agg (pv x)
@[reducible] def db(k:ByteArray):PV:=pS k
@[reducible] def pk(k:ByteArray):List PV:=[pS k]
@[reducible] def pl(m:Lz):List PV:=[pS m.p.name,.list 7 .sh (m.p.conds.map ae.pv),.list 19 .sh (m.p.bp.map dh.pv),.list 1 .sh (m.way.map λb=>[pP b 0])]
@[reducible] def gI(m:Lz):PV:=.agg [pS m.p.name,.list 7 .sh (m.p.conds.map ae.pv),.list 19 .sh (m.p.bp.map dh.pv),.list 1 .sh (m.way.map λb=>[pP b 0])]
def z:Lz:=⟨⟨⟨#[]⟩,[],[]⟩,[]⟩
def key(x:El):ByteArray:=x.1
abbrev ck:ByteArray->ByteArray->Int:=aI
theorem hc:oF ck:=aP
theorem wC(a b:El):Pure prog 340 [arg a,arg b] (pI (ck (key a) (key b))):=by
 refine ao.of (gZ.c ?_)
 first
  |exact(yB _ _).call ⟨_,rfl,rfl⟩
  |exact⟨λv=>by kernel_rfl,(yB _ _).call ⟨_,rfl,rfl⟩⟩
@[reducible] noncomputable def D:SD:=⟨prog,316,220,5,104,340,λQ=>∃xa xb xcf xc xdf xd xef xe,Q [pS xa,pS xb,.list 7 xcf xc,.list 19 xdf xd,.list 1 xef xe],.agg,[pS ⟨#[]⟩,pS ⟨#[]⟩,.list 7 .nil [],.list 19 .nil [],.list 1 .nil []]⟩
abbrev At(b:Nat)(l:List El):aY:=cT 316 220 5 b (l.map pv)
theorem ot:Ps D pv arg key ck:=⟨λx Q h=>⟨_,_,_,_,_,_,_,_,h⟩,λ_=>rfl,λ_=>rfl,λ_=>rfl,λ_=>rfl,hc,wC,λv=>by kernel_rfl,rfl,by decide,by decide⟩
theorem dP{x:El}{a0:Option Addr}{u0:Mem}{K:Kq}(h:D.find a0 u0 K (arg x)):aa prog 197 [pA a0,arg x] u0 K:=VC [3] [(2,⟨[(6,.one (.raw (.int .i64))),(7,.one (.raw (.int .i64)))],[]⟩)] [] [] [] [] [] func197 h
theorem xV{x:El}{a0:Option Addr}{u0:Mem}{K:Kq}(h:D.get a0 u0 K (arg x) 197):aa prog 132 [pA a0,arg x] u0 K:=VC [3,4,6] [] [] [] [] [] [] func132 h
theorem qO{x:El}{a0:Option Addr}{u0:Mem}{K:Kq}(h:D.QK a0 u0 K (arg x) 197):aa prog 132 [pA a0,arg x] u0 K:=VC [3,4,6] [] [] [] [] [] [24] func132 h
def lq:=ot.lq dP xV qO
theorem iZ{a0:Option Addr}{u0:Mem}{K:Kq}(h:D.own a0 u0 K):aa prog 205 [pA a0] u0 K:=VC [] [] [] [] [] [] [] func205 h
theorem nH{x:El}{a0:Option Addr}{u0:Mem}{K:Kq}(h:D.put a0 u0 K (pv x) (arg x) 197 205):aa prog 172 [pA a0,arg x] u0 K:=VC [3] [(9,⟨[(7,.one (.raw (.int .i64)))],[]⟩)] [] [] [] [] [23,32,43,48,57] func172 h
def gW:=ot.gW dP iZ nH
theorem nK{x:El}{a0:Option Addr}{u0:Mem}{K:Kq}(h:D.drop a0 u0 K (arg x) 197 205):aa prog 142 [pA a0,arg x] u0 K:=VC [3] [(8,⟨[(7,.one (.raw (.int .i64)))],[]⟩)] [] [] [] [] [26,34,39,49,53,56] func142 h
def ia:=ot.ia dP iZ nK
theorem nI{fl:Fl}{l:Lq}{u0:Mem}{K:Kq}(h:D.new u0 K 172 l):aa prog 183 [.list 5 fl l] u0 K:=VC [5] [(3,⟨[(10,.one (.raw (.int .i64)))],[]⟩)] [] [] [] [] [] func183 h
def iy:=ot.iy gW nI
theorem nJ{a0:Option Addr}{a1:Int}{a2:Fn}{EJ EI:List PV}{u0:Mem}{K:Kq}(h:D.from_ a0 u0 K a1 a2 EJ EI):aa prog 216 [pA a0,pI a1,.fn a2 EJ EI] u0 K:=VC [] [(3,⟨[(7,.one (.raw (.int .i64)))],[]⟩)] [] [] [] [] [] func216 h
theorem nL{a0:Fn}{EM EL c0:List PV}{u0:Mem}{K:Kq}(h:D.By u0 K 216 a0 EM EL c0):aa prog 215 [.fn a0 EM EL,.bn c0 0] u0 K:=VC [] [] [] [] [] [] [] func215 h
@[reducible] def tn(b:Nat):PV:=.fn (.func 215) [] [.bn [pP b 0] 0]
theorem rX(b:Nat):Pure prog 149 [pP b 0] (tn b):=ao.of (gd.c rfl)
theorem fN(b:Nat)(l:List El)(hl:l.length<=4000000000000000000):iT prog (tn b) (l.map λx=>[arg x]) (At b l) (At b l):=ot.fN nL nJ b l hl
@[reducible] noncomputable def M:MD:=⟨D,224,189,1,4,133,λQ=>∃x,Q [pS x],λr=>r.headD .bd,λQ=>∃xa xbf xb xcf xc xdf xd,Q [pS xa,.list 7 xbf xb,.list 19 xcf xc,.list 1 xdf xd],.agg,[pS ⟨#[]⟩,.list 7 .nil [],.list 19 .nil [],.list 1 .nil []]⟩
abbrev cU(m:Nat)(l:List El):aY:=eV M pv m l
theorem cAt(k:KY):Pure prog 133 [db k] (arg (k,z)):=ao.of (lA.c rfl)
theorem Hy:Wu M pv arg pk db pl gI z key ck:=⟨ot,λ_ _=>rfl,λ_=>rfl,λ_=>rfl,λ_=>rfl,λk Q h=>⟨_,h⟩,λ_=>rfl,λv Q h=>⟨_,_,_,_,_,_,_,h⟩,λ_=>rfl,λ_=>rfl,λQ h=>⟨_,_,_,_,_,_,_,_,h⟩,λQ h=>⟨_,_,_,_,_,_,_,h⟩,rfl,rfl,by decide,cAt,λ_ _ _ _ h=>h,λ_ _ _=>rfl⟩
theorem vG{k:KY}{a0:Option Addr}{u0:Mem}{K:Kq}(h:M.get a0 u0 K (db k) 132):aa prog 75 [pA a0,db k] u0 K:=VC [4,6] [] [(5,⟨[(7,.one (.raw .ptr)),(8,.one (.raw .bool))],[]⟩)] [] [] [] [] func75 h
def gO:=Hy.gO lq vG
theorem vE{k:KY}{v:VL}{a0:Option Addr}{u0:Mem}{K:Kq}(h:M.put a0 u0 K (db k) 132 172 142 (arg (k,v)) (pl v)):aa prog 108 [pA a0,db k,gI v] u0 K:=VC [5] [] [(4,⟨[(7,.one (.raw .ptr)),(8,.one (.raw .bool))],[]⟩)] [] [] [] [] func108 h
def oZ:=Hy.oZ lq gW ia vE
theorem vF{u0:Mem}{K:Kq}(h:M.new u0 K 183):aa prog 118 [] u0 K:=VC [] [] [] [] [] [] [] func118 h
def DX:=MD.iy (M:=M) (pr:=pv) vF λ_ _ hO _ hk=>iy hO .nil [] (by simp) hk
theorem CU{f:Fn}{f1 f2 c0:List PV}{u0:Mem}{K:Kq}(h:M.By u0 K 149 f f1 f2 c0):aa prog 148 [.fn f f1 f2,.bn c0 0] u0 K:=VC [3] [] [] [(11,[220])] [] [] [] func148 h
@[reducible] def AO(m:Nat):PV:=.fn (.func 148) [] [.bn [pP m 0] 0]
theorem o_(m:Nat):Pure prog 89 [pP m 0] (AO m):=ao.of (jh.c rfl)
theorem fG(m:Nat)(l:List El)(hl:l.length<=4000000000000000000):iT prog (AO m) (l.map λx=>[db x.1,gI x.2]) (cU m l) (cU m l):=Hy.fG CU rX fN m l hl
end RP
theorem yA(a b:Int):Pure prog 349 [pI a,pI b] (pI (aA a b)):=by
 refine ao.of (rB.c ?_)
 refine ab.mk (λh=>?_) (λh=>ab.mk (λh1=>?_) (λh1=>?_))<;>simp only[decide_eq_true_eq,decide_eq_false_iff_not]at* <;>simp only[aA,wk,cH]
 ·rw[if_pos h]
 ·rw[if_neg h,if_pos h1]
 ·rw[if_neg h,if_neg h1]
namespace AT
abbrev El:=af
@[reducible] def pv(x:El):List PV:=af.pv x
@[reducible] def arg(x:El):PV:=.agg x.pv
def key(x:El):Int:=x.tag
abbrev ck:Int->Int->Int:=aA
theorem hc:oF ck:=ax
theorem wC(a b:El):Pure prog 361 [arg a,arg b] (pI (ck (key a) (key b))):=by
 refine ao.of (rA.c ?_)
 exact(yA _ _).call ⟨_,rfl,rfl⟩
@[reducible] noncomputable def D:SD:=⟨prog,385,334,12,112,361,λQ=>∃xa xb xc xd xe xf xg xh xi xj xk xl,Q [pI xa,pS xb,pI xc,pI xd,pS xe,pI xf,pI xg,pS xh,pI xi,pB xj,pB xk,pI xl],.agg,[pI (0),pS ⟨#[]⟩,pI (0),pI (0),pS ⟨#[]⟩,pI (0),pI (0),pS ⟨#[]⟩,pI (0),pB false,pB false,pI (0)]⟩
abbrev At(b:Nat)(l:List El):aY:=cT 385 334 12 b (l.map pv)
theorem ot:Ps D pv arg key ck:=⟨λx Q h=>⟨_,_,_,_,_,_,_,_,_,_,_,_,h⟩,λ_=>rfl,λ_=>rfl,λ_=>rfl,λ_=>rfl,hc,wC,λv=>by kernel_rfl,rfl,by decide,by decide⟩
theorem dP{x:El}{a0:Option Addr}{u0:Mem}{K:Kq}(h:D.find a0 u0 K (arg x)):aa prog 269 [pA a0,arg x] u0 K:=VC [3] [(2,⟨[(6,.one (.raw (.int .i64))),(7,.one (.raw (.int .i64)))],[]⟩)] [] [] [] [] [] func269 h
theorem iZ{a0:Option Addr}{u0:Mem}{K:Kq}(h:D.own a0 u0 K):aa prog 270 [pA a0] u0 K:=VC [] [] [] [] [] [] [] func270 h
theorem nH{x:El}{a0:Option Addr}{u0:Mem}{K:Kq}(h:D.put a0 u0 K (pv x) (arg x) 269 270):aa prog 214 [pA a0,arg x] u0 K:=VC [3] [(9,⟨[(7,.one (.raw (.int .i64)))],[]⟩)] [] [] [] [] [23,32,43,48,57] func214 h
def gW:=ot.gW dP iZ nH
theorem nK{x:El}{a0:Option Addr}{u0:Mem}{K:Kq}(h:D.drop a0 u0 K (arg x) 269 270):aa prog 219 [pA a0,arg x] u0 K:=VC [3] [(8,⟨[(7,.one (.raw (.int .i64)))],[]⟩)] [] [] [] [] [26,34,39,49,53,56] func219 h
def ia:=ot.ia dP iZ nK
theorem nI{fl:Fl}{l:Lq}{u0:Mem}{K:Kq}(h:D.new u0 K 214 l):aa prog 228 [.list 12 fl l] u0 K:=VC [5] [(3,⟨[(10,.one (.raw (.int .i64)))],[]⟩)] [] [] [] [] [] func228 h
def iy:=ot.iy gW nI
theorem nJ{a0:Option Addr}{a1:Int}{a2:Fn}{EJ EI:List PV}{u0:Mem}{K:Kq}(h:D.from_ a0 u0 K a1 a2 EJ EI):aa prog 298 [pA a0,pI a1,.fn a2 EJ EI] u0 K:=VC [] [(3,⟨[(7,.one (.raw (.int .i64)))],[]⟩)] [] [] [] [] [] func298 h
theorem nL{a0:Fn}{EM EL c0:List PV}{u0:Mem}{K:Kq}(h:D.By u0 K 298 a0 EM EL c0):aa prog 297 [.fn a0 EM EL,.bn c0 0] u0 K:=VC [] [] [] [] [] [] [] func297 h
@[reducible] def tn(b:Nat):PV:=.fn (.func 297) [] [.bn [pP b 0] 0]
theorem rX(b:Nat):Pure prog 281 [pP b 0] (tn b):=ao.of (mg.c rfl)
theorem fN(b:Nat)(l:List El)(hl:l.length<=4000000000000000000):iT prog (tn b) (l.map λx=>[arg x]) (At b l) (At b l):=ot.fN nL nJ b l hl
end AT
namespace AE
abbrev KY:=Int
abbrev VL:=af
abbrev El:=Int×af
@[reducible] def pv(x:El):List PV:=[pI x.1,pI x.2.id.k,pS x.2.id.t,pI x.2.id.n,pI x.2.attr.k,pS x.2.attr.t,pI x.2.attr.n,pI x.2.value.k,pS x.2.value.t,pI x.2.value.n,pB x.2.acc,pB x.2.goal,pI x.2.tag]
@[reducible] def arg(x:El):PV:=.agg (pv x)
@[reducible] def db(k:Int):PV:=pI k
@[reducible] def pk(k:Int):List PV:=[pI k]
@[reducible] def pl(e:af):List PV:=e.pv
@[reducible] def gI(e:af):PV:=.agg e.pv
def z:af:=⟨⟨0,⟨#[]⟩,0⟩,⟨0,⟨#[]⟩,0⟩,⟨0,⟨#[]⟩,0⟩,false,false,0⟩
def key(x:El):Int:=x.1
abbrev ck:Int->Int->Int:=aA
theorem hc:oF ck:=ax
theorem wC(a b:El):Pure prog 365 [arg a,arg b] (pI (ck (key a) (key b))):=by
 refine ao.of (gP.c ?_)
 first
  |exact(yA _ _).call ⟨_,rfl,rfl⟩
  |exact⟨λv=>by kernel_rfl,(yA _ _).call ⟨_,rfl,rfl⟩⟩
@[reducible] noncomputable def D:SD:=⟨prog,398,354,13,120,365,λQ=>∃xa xb xc xd xe xf xg xh xi xj xk xl xm,Q [pI xa,pI xb,pS xc,pI xd,pI xe,pS xf,pI xg,pI xh,pS xi,pI xj,pB xk,pB xl,pI xm],.agg,[pI (0),pI (0),pS ⟨#[]⟩,pI (0),pI (0),pS ⟨#[]⟩,pI (0),pI (0),pS ⟨#[]⟩,pI (0),pB false,pB false,pI (0)]⟩
abbrev At(b:Nat)(l:List El):aY:=cT 398 354 13 b (l.map pv)
theorem ot:Ps D pv arg key ck:=⟨λx Q h=>⟨_,_,_,_,_,_,_,_,_,_,_,_,_,h⟩,λ_=>rfl,λ_=>rfl,λ_=>rfl,λ_=>rfl,hc,wC,λv=>by kernel_rfl,rfl,by decide,by decide⟩
theorem dP{x:El}{a0:Option Addr}{u0:Mem}{K:Kq}(h:D.find a0 u0 K (arg x)):aa prog 288 [pA a0,arg x] u0 K:=VC [3] [(2,⟨[(6,.one (.raw (.int .i64))),(7,.one (.raw (.int .i64)))],[]⟩)] [] [] [] [] [] func288 h
theorem xV{x:El}{a0:Option Addr}{u0:Mem}{K:Kq}(h:D.get a0 u0 K (arg x) 288):aa prog 263 [pA a0,arg x] u0 K:=VC [3,4,6] [] [] [] [] [] [] func263 h
theorem qO{x:El}{a0:Option Addr}{u0:Mem}{K:Kq}(h:D.QK a0 u0 K (arg x) 288):aa prog 263 [pA a0,arg x] u0 K:=VC [3,4,6] [] [] [] [] [] [24] func263 h
def lq:=ot.lq dP xV qO
theorem iZ{a0:Option Addr}{u0:Mem}{K:Kq}(h:D.own a0 u0 K):aa prog 289 [pA a0] u0 K:=VC [] [] [] [] [] [] [] func289 h
theorem nH{x:El}{a0:Option Addr}{u0:Mem}{K:Kq}(h:D.put a0 u0 K (pv x) (arg x) 288 289):aa prog 265 [pA a0,arg x] u0 K:=VC [3] [(9,⟨[(7,.one (.raw (.int .i64)))],[]⟩)] [] [] [] [] [23,32,43,48,57] func265 h
def gW:=ot.gW dP iZ nH
theorem nK{x:El}{a0:Option Addr}{u0:Mem}{K:Kq}(h:D.drop a0 u0 K (arg x) 288 289):aa prog 266 [pA a0,arg x] u0 K:=VC [3] [(8,⟨[(7,.one (.raw (.int .i64)))],[]⟩)] [] [] [] [] [26,34,39,49,53,56] func266 h
def ia:=ot.ia dP iZ nK
theorem nI{fl:Fl}{l:Lq}{u0:Mem}{K:Kq}(h:D.new u0 K 265 l):aa prog 241 [.list 13 fl l] u0 K:=VC [5] [(3,⟨[(10,.one (.raw (.int .i64)))],[]⟩)] [] [] [] [] [] func241 h
def iy:=ot.iy gW nI
theorem nJ{a0:Option Addr}{a1:Int}{a2:Fn}{EJ EI:List PV}{u0:Mem}{K:Kq}(h:D.from_ a0 u0 K a1 a2 EJ EI):aa prog 295 [pA a0,pI a1,.fn a2 EJ EI] u0 K:=VC [] [(3,⟨[(7,.one (.raw (.int .i64)))],[]⟩)] [] [] [] [] [] func295 h
theorem nL{a0:Fn}{EM EL c0:List PV}{u0:Mem}{K:Kq}(h:D.By u0 K 295 a0 EM EL c0):aa prog 294 [.fn a0 EM EL,.bn c0 0] u0 K:=VC [] [] [] [] [] [] [] func294 h
@[reducible] def tn(b:Nat):PV:=.fn (.func 294) [] [.bn [pP b 0] 0]
theorem rX(b:Nat):Pure prog 277 [pP b 0] (tn b):=ao.of (fU.c rfl)
theorem fN(b:Nat)(l:List El)(hl:l.length<=4000000000000000000):iT prog (tn b) (l.map λx=>[arg x]) (At b l) (At b l):=ot.fN nL nJ b l hl
@[reducible] noncomputable def M:MD:=⟨D,356,328,1,12,264,λQ=>∃x,Q [pI x],λr=>r.headD .bd,λQ=>∃xa xb xc xd xe xf xg xh xi xj xk xl,Q [pI xa,pS xb,pI xc,pI xd,pS xe,pI xf,pI xg,pS xh,pI xi,pB xj,pB xk,pI xl],.agg,[pI (0),pS ⟨#[]⟩,pI (0),pI (0),pS ⟨#[]⟩,pI (0),pI (0),pS ⟨#[]⟩,pI (0),pB false,pB false,pI (0)]⟩
abbrev cU(m:Nat)(l:List El):aY:=eV M pv m l
theorem cAt(k:KY):Pure prog 264 [db k] (arg (k,z)):=ao.of (kK.c rfl)
theorem Hy:Wu M pv arg pk db pl gI z key ck:=⟨ot,λ_ _=>rfl,λ_=>rfl,λ_=>rfl,λ_=>rfl,λk Q h=>⟨_,h⟩,λ_=>rfl,λv Q h=>⟨_,_,_,_,_,_,_,_,_,_,_,_,h⟩,λ_=>rfl,λ_=>rfl,λQ h=>⟨_,_,_,_,_,_,_,_,_,_,_,_,_,h⟩,λQ h=>⟨_,_,_,_,_,_,_,_,_,_,_,_,h⟩,rfl,rfl,by decide,cAt,λ_ _ _ _ h=>h,λ_ _ _=>rfl⟩
theorem vG{k:KY}{a0:Option Addr}{u0:Mem}{K:Kq}(h:M.get a0 u0 K (db k) 263):aa prog 210 [pA a0,db k] u0 K:=VC [4,6] [] [(5,⟨[(7,.one (.raw .ptr)),(8,.one (.raw .bool))],[]⟩)] [] [] [] [] func210 h
def gO:=Hy.gO lq vG
theorem vE{k:KY}{v:VL}{a0:Option Addr}{u0:Mem}{K:Kq}(h:M.put a0 u0 K (db k) 263 265 266 (arg (k,v)) (pl v)):aa prog 211 [pA a0,db k,gI v] u0 K:=VC [5] [] [(4,⟨[(7,.one (.raw .ptr)),(8,.one (.raw .bool))],[]⟩)] [] [] [] [] func211 h
def oZ:=Hy.oZ lq gW ia vE
theorem mN{k:KY}{a0:Option Addr}{u0:Mem}{K:Kq}(h:M.drop a0 u0 K (db k) 263 266):aa prog 218 [pA a0,db k] u0 K:=VC [4,6] [] [(5,⟨[(7,.one (.raw .ptr)),(8,.one (.raw .bool))],[]⟩),(7,⟨[],[]⟩)] [] [] [] [] func218 h
def jA:=Hy.jA lq ia mN
theorem vF{u0:Mem}{K:Kq}(h:M.new u0 K 241):aa prog 180 [] u0 K:=VC [] [] [] [] [] [] [] func180 h
def DX:=MD.iy (M:=M) (pr:=pv) vF λ_ _ hO _ hk=>iy hO .nil [] (by simp) hk
theorem CU{f:Fn}{f1 f2 c0:List PV}{u0:Mem}{K:Kq}(h:M.By u0 K 277 f f1 f2 c0):aa prog 276 [.fn f f1 f2,.bn c0 0] u0 K:=VC [3] [] [] [(11,[354])] [] [] [] func276 h
@[reducible] def AO(m:Nat):PV:=.fn (.func 276) [] [.bn [pP m 0] 0]
theorem o_(m:Nat):Pure prog 229 [pP m 0] (AO m):=ao.of (iU.c rfl)
theorem fG(m:Nat)(l:List El)(hl:l.length<=4000000000000000000):iT prog (AO m) (l.map λx=>[db x.1,gI x.2]) (cU m l) (cU m l):=Hy.fG CU rX fN m l hl
end AE
structure Rz where
 c:ae
 aU:Int
 has:Option Addr
namespace AM
abbrev KY:=Int
abbrev VL:=Rz
abbrev El:=Int×Rz
@[reducible] def pv(x:El):List PV:=[pI x.1,pI x.2.c.kind,pB x.2.c.goal,pS x.2.c.id,.list 6 .sh (x.2.c.attr.map Test.pv),.list 6 .sh (x.2.c.value.map Test.pv),pB x.2.c.acc,.list 7 .sh (x.2.c.conds.map ae.pv),pI x.2.aU,.raw (.pointer x.2.has)]
@[reducible] def arg(x:El):PV:=.agg (pv x)
@[reducible] def db(k:Int):PV:=pI k
@[reducible] def pk(k:Int):List PV:=[pI k]
@[reducible] def pl(m:Rz):List PV:=[pI m.c.kind,pB m.c.goal,pS m.c.id,.list 6 .sh (m.c.attr.map Test.pv),.list 6 .sh (m.c.value.map Test.pv),pB m.c.acc,.list 7 .sh (m.c.conds.map ae.pv),pI m.aU,.raw (.pointer m.has)]
@[reducible] def gI(m:Rz):PV:=.agg [pI m.c.kind,pB m.c.goal,pS m.c.id,.list 6 .sh (m.c.attr.map Test.pv),.list 6 .sh (m.c.value.map Test.pv),pB m.c.acc,.list 7 .sh (m.c.conds.map ae.pv),pI m.aU,.raw (.pointer m.has)]
def z:Rz:=⟨.mk 0 false ⟨#[]⟩ [] [] false [],0,none⟩
def key(x:El):Int:=x.1
abbrev ck:Int->Int->Int:=aA
theorem hc:oF ck:=ax
theorem wC(a b:El):Pure prog 369 [arg a,arg b] (pI (ck (key a) (key b))):=by
 refine ao.of (gi.c ?_)
 first
  |exact(yA _ _).call ⟨_,rfl,rfl⟩
  |exact⟨λv=>by kernel_rfl,(yA _ _).call ⟨_,rfl,rfl⟩⟩
@[reducible] noncomputable def D:SD:=⟨prog,401,360,10,136,369,λQ=>∃xa xb xc xd xef xe xff xf xg xhf xh xi xj,Q [pI xa,pI xb,pB xc,pS xd,.list 6 xef xe,.list 6 xff xf,pB xg,.list 7 xhf xh,pI xi,pA xj],.agg,[pI (0),pI (0),pB false,pS ⟨#[]⟩,.list 6 .nil [],.list 6 .nil [],pB false,.list 7 .nil [],pI (0),pA none]⟩
abbrev At(b:Nat)(l:List El):aY:=cT 401 360 10 b (l.map pv)
theorem ot:Ps D pv arg key ck:=⟨λx Q h=>⟨_,_,_,_,_,_,_,_,_,_,_,_,_,h⟩,λ_=>rfl,λ_=>rfl,λ_=>rfl,λ_=>rfl,hc,wC,λv=>by kernel_rfl,rfl,by decide,by decide⟩
theorem dP{x:El}{a0:Option Addr}{u0:Mem}{K:Kq}(h:D.find a0 u0 K (arg x)):aa prog 292 [pA a0,arg x] u0 K:=VC [3] [(2,⟨[(6,.one (.raw (.int .i64))),(7,.one (.raw (.int .i64)))],[]⟩)] [] [] [] [] [] func292 h
theorem xV{x:El}{a0:Option Addr}{u0:Mem}{K:Kq}(h:D.get a0 u0 K (arg x) 292):aa prog 272 [pA a0,arg x] u0 K:=VC [3,4,6] [] [] [] [] [] [] func272 h
theorem qO{x:El}{a0:Option Addr}{u0:Mem}{K:Kq}(h:D.QK a0 u0 K (arg x) 292):aa prog 272 [pA a0,arg x] u0 K:=VC [3,4,6] [] [] [] [] [] [24] func272 h
def lq:=ot.lq dP xV qO
theorem iZ{a0:Option Addr}{u0:Mem}{K:Kq}(h:D.own a0 u0 K):aa prog 293 [pA a0] u0 K:=VC [] [] [] [] [] [] [] func293 h
theorem nH{x:El}{a0:Option Addr}{u0:Mem}{K:Kq}(h:D.put a0 u0 K (pv x) (arg x) 292 293):aa prog 274 [pA a0,arg x] u0 K:=VC [3] [(9,⟨[(7,.one (.raw (.int .i64)))],[]⟩)] [] [] [] [] [23,32,43,48,57] func274 h
def gW:=ot.gW dP iZ nH
theorem nK{x:El}{a0:Option Addr}{u0:Mem}{K:Kq}(h:D.drop a0 u0 K (arg x) 292 293):aa prog 275 [pA a0,arg x] u0 K:=VC [3] [(8,⟨[(7,.one (.raw (.int .i64)))],[]⟩)] [] [] [] [] [26,34,39,49,53,56] func275 h
def ia:=ot.ia dP iZ nK
theorem nI{fl:Fl}{l:Lq}{u0:Mem}{K:Kq}(h:D.new u0 K 274 l):aa prog 242 [.list 10 fl l] u0 K:=VC [5] [(3,⟨[(10,.one (.raw (.int .i64)))],[]⟩)] [] [] [] [] [] func242 h
def iy:=ot.iy gW nI
theorem nJ{a0:Option Addr}{a1:Int}{a2:Fn}{EJ EI:List PV}{u0:Mem}{K:Kq}(h:D.from_ a0 u0 K a1 a2 EJ EI):aa prog 291 [pA a0,pI a1,.fn a2 EJ EI] u0 K:=VC [] [(3,⟨[(7,.one (.raw (.int .i64)))],[]⟩)] [] [] [] [] [] func291 h
theorem nL{a0:Fn}{EM EL c0:List PV}{u0:Mem}{K:Kq}(h:D.By u0 K 291 a0 EM EL c0):aa prog 290 [.fn a0 EM EL,.bn c0 0] u0 K:=VC [] [] [] [] [] [] [] func290 h
@[reducible] def tn(b:Nat):PV:=.fn (.func 290) [] [.bn [pP b 0] 0]
theorem rX(b:Nat):Pure prog 268 [pP b 0] (tn b):=ao.of (fA.c rfl)
theorem fN(b:Nat)(l:List El)(hl:l.length<=4000000000000000000):iT prog (tn b) (l.map λx=>[arg x]) (At b l) (At b l):=ot.fN nL nJ b l hl
@[reducible] noncomputable def M:MD:=⟨D,362,339,1,9,273,λQ=>∃x,Q [pI x],λr=>r.headD .bd,λQ=>∃xa xb xc xdf xd xef xe xf xgf xg xh xi,Q [pI xa,pB xb,pS xc,.list 6 xdf xd,.list 6 xef xe,pB xf,.list 7 xgf xg,pI xh,pA xi],.agg,[pI (0),pB false,pS ⟨#[]⟩,.list 6 .nil [],.list 6 .nil [],pB false,.list 7 .nil [],pI (0),pA none]⟩
abbrev cU(m:Nat)(l:List El):aY:=eV M pv m l
theorem cAt(k:KY):Pure prog 273 [db k] (arg (k,z)):=ao.of (jg.c rfl)
theorem Hy:Wu M pv arg pk db pl gI z key ck:=⟨ot,λ_ _=>rfl,λ_=>rfl,λ_=>rfl,λ_=>rfl,λk Q h=>⟨_,h⟩,λ_=>rfl,λv Q h=>⟨_,_,_,_,_,_,_,_,_,_,_,_,h⟩,λ_=>rfl,λ_=>rfl,λQ h=>⟨_,_,_,_,_,_,_,_,_,_,_,_,_,h⟩,λQ h=>⟨_,_,_,_,_,_,_,_,_,_,_,_,h⟩,rfl,rfl,by decide,cAt,λ_ _ _ _ h=>h,λ_ _ _=>rfl⟩
theorem vG{k:KY}{a0:Option Addr}{u0:Mem}{K:Kq}(h:M.get a0 u0 K (db k) 272):aa prog 238 [pA a0,db k] u0 K:=VC [4,6] [] [(5,⟨[(7,.one (.raw .ptr)),(8,.one (.raw .bool))],[]⟩)] [] [] [] [] func238 h
def gO:=Hy.gO lq vG
theorem vE{k:KY}{v:VL}{a0:Option Addr}{u0:Mem}{K:Kq}(h:M.put a0 u0 K (db k) 272 274 275 (arg (k,v)) (pl v)):aa prog 227 [pA a0,db k,gI v] u0 K:=VC [5] [] [(4,⟨[(7,.one (.raw .ptr)),(8,.one (.raw .bool))],[]⟩)] [] [] [] [] func227 h
def oZ:=Hy.oZ lq gW ia vE
theorem mN{k:KY}{a0:Option Addr}{u0:Mem}{K:Kq}(h:M.drop a0 u0 K (db k) 272 275):aa prog 239 [pA a0,db k] u0 K:=VC [4,6] [] [(5,⟨[(7,.one (.raw .ptr)),(8,.one (.raw .bool))],[]⟩),(7,⟨[],[]⟩)] [] [] [] [] func239 h
def jA:=Hy.jA lq ia mN
theorem vF{u0:Mem}{K:Kq}(h:M.new u0 K 242):aa prog 181 [] u0 K:=VC [] [] [] [] [] [] [] func181 h
def DX:=MD.iy (M:=M) (pr:=pv) vF λ_ _ hO _ hk=>iy hO .nil [] (by simp) hk
theorem CU{f:Fn}{f1 f2 c0:List PV}{u0:Mem}{K:Kq}(h:M.By u0 K 268 f f1 f2 c0):aa prog 267 [.fn f f1 f2,.bn c0 0] u0 K:=VC [3] [] [] [(11,[360])] [] [] [] func267 h
@[reducible] def AO(m:Nat):PV:=.fn (.func 267) [] [.bn [pP m 0] 0]
theorem o_(m:Nat):Pure prog 212 [pP m 0] (AO m):=ao.of (g_.c rfl)
theorem fG(m:Nat)(l:List El)(hl:l.length<=4000000000000000000):iT prog (AO m) (l.map λx=>[db x.1,gI x.2]) (cU m l) (cU m l):=Hy.fG CU rX fN m l hl
end AM
def jr(l:List Test):List Test:=l.filter λt=>aJ t.var ⟨#[]⟩
def bO(c:ae):ae:=.mk 1 c.goal ⟨#[]⟩ (jr c.attr) (jr c.value) c.acc []
def Zo(c:ae):ae:=.mk c.kind c.goal ⟨#[120]⟩ c.attr c.value c.acc c.conds
def bw(c:ae)(e:af):Bool:=(cO (Zo c) e []).isSome
theorem vn(l:List Test):(jr l).length<=l.length:=List.length_filter_le _ _
theorem Eb{c:ae}(h:cr c):cr (bO c):=by
 obtain⟨_,h1,h2,h3,h4,_⟩:=(bu c).1 h
 have a:=vn c.attr
 have b:=vn c.value
 refine(bu _).2 ⟨by show(⟨#[]⟩:ByteArray).size<=100;decide,Nat.le_trans a h1,Nat.le_trans b h2,λt ht=>h3 t (List.mem_filter.1 ht).1,λt ht=>h4 t (List.mem_filter.1 ht).1,trivial⟩
structure GR(c:ae):Prop where
 kind:c.kind=1
 id:c.id=⟨#[]⟩
 conds:c.conds=[]
 qf:cr c
theorem GO{c:ae}(h:cr c):GR (bO c):=⟨rfl,rfl,rfl,Eb h⟩
theorem GR.eq{c d:ae}(hc:GR c)(hd:GR d)(h1:c.goal=d.goal)(h2:c.acc=d.acc)(h3:c.attr=d.attr)(h4:c.value=d.value):c=d:=
 yx (hc.kind.trans hd.kind.symm) h1 (hc.id.trans hd.id.symm) h3 h4 h2 (hc.conds.trans hd.conds.symm)
structure fM where
 c:ae
 aU:Int
 b:Nat
 l:List af
def fM.aev(m:fM):Rz:=⟨m.c,m.aU,some ⟨m.b,0,none⟩⟩
abbrev dL:=List (Int×fM)
def pK(e:af):AE.El:=(e.tag,e)
def ku(x:Int×fM):AM.El:=(x.1,x.2.aev)
def eo(x:Int×fM):aY:=AT.At x.2.b x.2.l
def aH(e:af):Int:=e.tag
def cA(x:Int×fM):Int:=x.1
def bV(n:Nat)(es:List af)(ms:dL):aY:=λμ=>∃me mm,Ow (Pt n 294 [pP me 0,pP mm 0]::AE.cU me (es.map pK)::AM.cU mm (ms.map ku)::ms.map eo) μ
theorem bV.open_{n:Nat}{es:List af}{ms:dL}{L:List aY}{μ:Mem}(h:Ow (bV n es ms::L) μ):∃me mm,Ow (Pt n 294 [pP me 0,pP mm 0]::AE.cU me (es.map pK)::AM.cU mm (ms.map ku)::(ms.map eo++L)) μ:=by
 obtain⟨me,h⟩:=Ow.ex h
 obtain⟨mm,h⟩:=Ow.ex h
 exact⟨me,mm,h.nest⟩
theorem bV.shut{n me mm:Nat}{es:List af}{ms:dL}{L:List aY}{μ:Mem}(h:Ow (Pt n 294 [pP me 0,pP mm 0]::AE.cU me (es.map pK)::AM.cU mm (ms.map ku)::(ms.map eo++L)) μ):Ow (bV n es ms::L) μ:=
 (Ow.pack (L1:=Pt n 294 [pP me 0,pP mm 0]::AE.cU me (es.map pK)::AM.cU mm (ms.map ku)::ms.map eo) h).imp λ_ hν=>⟨me,mm,hν⟩
structure eC(es:List af)(ms:dL):Prop where
 ua:ca aA aH es
 pJ:ca aA cA ms
 has:∀x∈ms,x.2.l=es.filter (bw x.2.c)
 bare:∀x∈ms,GR x.2.c
 num:∀x∈ms,0<=x.1/\x.1<1000000
 aU:∀x∈ms,1<=x.2.aU/\x.2.aU<1000000
 inj:∀x∈ms,∀y∈ms,x.2.c=y.2.c->x=y
 le:es.length<1000000
 lm:ms.length<1000000
theorem eC.ue{es:List af}{ms:dL}(h:eC es ms):ca AE.ck AE.key (es.map pK):=ca.map h.ua
theorem eC.um{es:List af}{ms:dL}(h:eC es ms):ca AM.ck AM.key (ms.map ku):=ca.map h.pJ
theorem eC.ul{es:List af}{ms:dL}(h:eC es ms){x:Int×fM}(hx:x∈ms):ca AT.ck AT.key x.2.l/\x.2.l.length<1000000:=by
 rw[h.has x hx]
 exact⟨ca.filter h.ua _,Nat.lt_of_le_of_lt (List.length_filter_le _ _) h.le⟩
theorem eC.nil:eC [] []:=⟨List.Pairwise.nil,List.Pairwise.nil,by simp,by simp,by simp,by simp,by simp,by simp,by simp⟩
def least(ms:dL):Int:=ms.foldl (λa x=>if x.1=a then a+1 else a) 0
theorem Dj{ms:dL}{k:Nat}(hk:k<ms.length):least (ms.take (k+1))=if ms[k].1=least (ms.take k)then least (ms.take k)+1 else least (ms.take k):=by
 unfold least
 rw[List.take_add_one,List.getElem?_eq_getElem hk,List.foldl_append];rfl
theorem Dk:∀(ms:dL),ca aA cA ms->(∀x∈ms,0<=x.1)->0<=least ms/\least ms<=ms.length/\(∀j:Int,0<=j->j<least ms->∃x∈ms,x.1=j)/\∀x∈ms,x.1≠least ms:=by
 intro ms hu h0
 have key:∀k,k<=ms.length->0<=least (ms.take k)/\least (ms.take k)<=k/\(∀j:Int,0<=j->j<least (ms.take k)->∃x∈ms.take k,x.1=j)/\(∀x∈ms.take k,x.1≠least (ms.take k)):=by
  intro k
  induction k with
  |zero=>
   intro _
   refine⟨by simp[least],by simp[least],λj h1 h2=>?_,by simp⟩
   have:least (ms.take 0)=0:=rfl
   omega
  |succ k ih=>
   intro hk
   obtain⟨i1,i2,i3,i4⟩:=ih (by omega)
   have bW:k<ms.length:=by omega
   have gw:∀x,x∈ms.take (k+1)↔x∈ms.take k\/x=ms[k]:=λx=>by
    rw[List.take_add_one,List.getElem?_eq_getElem bW,List.mem_append];simp
   have cz:∀x∈ms.take k,x.1<ms[k].1:=λx hx=>by
    obtain⟨i,hi,rfl⟩:=List.mem_iff_getElem.1 hx
    rw[List.getElem_take]
    simp only[List.length_take]at hi
    have:=List.pairwise_iff_getElem.1 hu i k (by omega) bW (by omega)
    exact tS.1 this
   rw[Dj bW]
   split
   ·rename_i e
    refine⟨by omega,by omega,λj h1 h2=>?_,λx hx=>?_⟩
    ·by_cases hj:j<least (ms.take k)
     ·obtain⟨x,hx,ex⟩:=i3 j h1 hj
      exact⟨x,(gw x).2 (.inl hx),ex⟩
     ·exact⟨ms[k],(gw _).2 (.inr rfl),by omega⟩
    ·rcases(gw x).1 hx with h|rfl
     ·have:=cz x h;omega
     ·omega
   ·rename_i e
    refine⟨i1,by omega,λj h1 h2=>?_,λx hx=>?_⟩
    ·obtain⟨x,hx,ex⟩:=i3 j h1 h2
     exact⟨x,(gw x).2 (.inl hx),ex⟩
    ·rcases(gw x).1 hx with h|rfl
     ·exact i4 x h
     ·exact e
 have:=key ms.length (Nat.le_refl _)
 rw[List.take_length]at this
 exact this
theorem Jw{es:List af}{ms:dL}(hI:eC es ms){x x':Int×fM}(hx:x∈ms)(hk:x'.1=x.1)(hs:eo x'=eo x):(bc aA cA x' ms).map eo=ms.map eo:=by
 obtain⟨A,B,e,_,h⟩:=hI.pJ.at_ ax hx
 have h2:=h x' hk
 rw[h2]
 conv=>rhs;rw[e]
 simp[hs]
theorem eC.del{es:List af}{ms:dL}(h:eC es ms)(k:Int):eC es (bq aA cA k ms):=by
 have hm:∀x,x∈bq aA cA k ms->x∈ms:=λx hx=>(List.mem_filter.1 hx).1
 exact⟨h.ua,h.pJ.del k,λx hx=>h.has x (hm x hx),λx hx=>h.bare x (hm x hx),λx hx=>h.num x (hm x hx),λx hx=>h.aU x (hm x hx),λx hx y hy=>h.inj x (hm x hx) y (hm y hy),h.le,Nat.lt_of_le_of_lt sY h.lm⟩
theorem eC.kB{es:List af}{ms:dL}(h:eC es ms){x x':Int×fM}(hx:x∈ms)(hk:x'.1=x.1)(hc:x'.2.c=x.2.c)(hl:x'.2.l=x.2.l)(hu:1<=x'.2.aU/\x'.2.aU<1000000):eC es (bc aA cA x' ms):=by
 obtain⟨A,B,e,_,h2⟩:=h.pJ.at_ ax hx
 have hi:=h2 x' hk
 have hm:∀y,y∈bc aA cA x' ms->y=x'\/y∈ms:=λy hy=>((bj ax).1 hy).imp id λh=>h.1
 have hlen:(bc aA cA x' ms).length=ms.length:=by rw[hi];conv=>rhs;rw[e]
                                                 simp
 refine⟨h.ua,h.pJ.ins ax x',λy hy=>?_,λy hy=>?_,λy hy=>?_,λy hy=>?_,λy hy z hz e'=>?_,h.le,by rw[hlen];exact h.lm⟩
 ·rcases hm y hy with rfl|hy
  ·rw[hl,hc];exact h.has x hx
  ·exact h.has y hy
 ·rcases hm y hy with rfl|hy
  ·rw[hc];exact h.bare x hx
  ·exact h.bare y hy
 ·rcases hm y hy with rfl|hy
  ·rw[hk];exact h.num x hx
  ·exact h.num y hy
 ·rcases hm y hy with rfl|hy
  ·exact hu
  ·exact h.aU y hy
 ·rcases(bj ax).1 hy with ey|⟨OG,HI⟩<;>rcases(bj ax).1 hz with ez|⟨Tz,hz2⟩
  ·rw[ey,ez]
  ·rw[ey,hc]at e'
   have:=h.inj x hx z Tz e'
   exact absurd (by rw[<- this];exact hk.symm) hz2
  ·rw[ez,hc]at e'
   have:=h.inj y OG x hx e'
   exact absurd (by rw[this];exact hk.symm) HI
  ·exact h.inj y OG z Tz e'
theorem eC.new{es:List af}{ms:dL}(h:eC es ms){c:ae}(hc:GR c)(hn:∀x∈ms,x.2.c≠c)(b:Nat)(hlm:ms.length+1<1000000):aL aA cA (least ms) ms=none/\eC es (bc aA cA (least ms,⟨c,1,b,es.filter (bw c)⟩) ms):=by
 obtain⟨l0,l1,_,l3⟩:=Dk ms h.pJ λx hx=>(h.num x hx).1
 have hm:∀y,y∈bc aA cA (least ms,⟨c,1,b,es.filter (bw c)⟩) ms->y=(least ms,⟨c,1,b,es.filter (bw c)⟩)\/y∈ms:=λy hy=>((bj ax).1 hy).imp id λh=>h.1
 have hlen:=yh (ck:=aA) (key:=cA) (x:=(least ms,⟨c,1,b,es.filter (bw c)⟩)) (L:=ms)
 refine⟨(bx ax).2 λx hx=>l3 x hx,h.ua,h.pJ.ins ax _,λy hy=>?_,λy hy=>?_,λy hy=>?_,λy hy=>?_,λy hy z hz e'=>?_,h.le,by omega⟩
 ·rcases hm y hy with rfl|hy
  ·rfl
  ·exact h.has y hy
 ·rcases hm y hy with rfl|hy
  ·exact hc
  ·exact h.bare y hy
 ·rcases hm y hy with rfl|hy
  ·exact⟨l0,by show least ms<1000000;omega⟩
  ·exact h.num y hy
 ·rcases hm y hy with rfl|hy
  ·exact⟨by show(1:Int)<=1;omega,by show(1:Int)<1000000;omega⟩
  ·exact h.aU y hy
 ·rcases hm y hy with rfl|hy<;>rcases hm z hz with rfl|hz
  ·rfl
  ·exact absurd e'.symm (hn z hz)
  ·exact absurd e' (hn y hy)
  ·exact h.inj y hy z hz e'
def zr(e:af)(x:Int×fM):Int×fM:=(x.1,{x.2 with l:=if bw x.2.c e then et aA aH e x.2.l else x.2.l})
def rM(t:Int)(x:Int×fM):Int×fM:=(x.1,{x.2 with l:=bq aA aH t x.2.l})
def fS(e:af)(ms:dL):List Int:=(ms.filter λx=>bw x.2.c e).map (·.1)
theorem eC.zr{es:List af}{ms:dL}(h:eC es ms){e:af}(hn:aL aA aH e.tag es=none)(hle:es.length+1<1000000):eC (bc aA aH e es) (ms.map (zr e)):=by
 have hnn:=(bx ax).1 hn
 have hlen:=yh (ck:=aA) (key:=aH) (x:=e) (L:=es)
 have hm:∀y∈ms.map (Go.Proofs.YtbodiiomcfgokaaGreat.zr e),∃x∈ms,y=Go.Proofs.YtbodiiomcfgokaaGreat.zr e x:=λy hy=>by obtain⟨x,hx,rfl⟩:=List.mem_map.1 hy;exact⟨x,hx,rfl⟩
 refine⟨h.ua.ins ax e,ca.map (f:=Go.Proofs.YtbodiiomcfgokaaGreat.zr e) h.pJ,λy hy=>?_,λy hy=>?_,λy hy=>?_,λy hy=>?_,λy hy z hz e'=>?_,by omega,by simpa using h.lm⟩
 ·obtain⟨x,hx,rfl⟩:=hm y hy
  show(if bw x.2.c e then et aA aH e x.2.l else x.2.l)=_
  rw[h.has x hx]
  have Wj:aL aA aH e.tag (es.filter (bw x.2.c))=none:=(bx ax).2 λy hy=>hnn y (List.mem_filter.1 hy).1
  split
  ·rename_i hme
   rw[et]
   have:aL aA aH (aH e) (es.filter (bw x.2.c))=none:=Wj
   rw[this]
   refine ca.ext ax (ca.ins ax (h.ua.filter _) e) ((h.ua.ins ax e).filter _) λy=>?_
   show y∈bc aA aH e _↔_
   rw[bj ax,List.mem_filter,List.mem_filter,bj ax]
   constructor
   ·rintro(rfl|⟨⟨h1,h2⟩,h3⟩)
    ·exact⟨.inl rfl,hme⟩
    ·exact⟨.inr ⟨h1,h3⟩,h2⟩
   ·rintro⟨rfl|⟨h1,h3⟩,h2⟩
    ·exact .inl rfl
    ·exact .inr ⟨⟨h1,h2⟩,h3⟩
  ·rename_i hme
   refine ca.ext ax (h.ua.filter _) ((h.ua.ins ax e).filter _) λy=>?_
   rw[List.mem_filter,List.mem_filter,bj ax]
   constructor
   ·rintro⟨h1,h2⟩
    exact⟨.inr ⟨h1,hnn y h1⟩,h2⟩
   ·rintro⟨rfl|⟨h1,h3⟩,h2⟩
    ·exact absurd h2 hme
    ·exact⟨h1,h2⟩
 ·obtain⟨x,hx,rfl⟩:=hm y hy;exact h.bare x hx
 ·obtain⟨x,hx,rfl⟩:=hm y hy;exact h.num x hx
 ·obtain⟨x,hx,rfl⟩:=hm y hy;exact h.aU x hx
 ·obtain⟨x,hx,rfl⟩:=hm y hy
  obtain⟨x',LD,rfl⟩:=hm z hz
  rw[h.inj x hx x' LD e']
theorem eC.rM{es:List af}{ms:dL}(h:eC es ms)(t:Int):eC (bq aA aH t es) (ms.map (rM t)):=by
 have hm:∀y∈ms.map (Go.Proofs.YtbodiiomcfgokaaGreat.rM t),∃x∈ms,y=Go.Proofs.YtbodiiomcfgokaaGreat.rM t x:=λy hy=>by obtain⟨x,hx,rfl⟩:=List.mem_map.1 hy;exact⟨x,hx,rfl⟩
 refine⟨h.ua.del t,ca.map (f:=Go.Proofs.YtbodiiomcfgokaaGreat.rM t) h.pJ,λy hy=>?_,λy hy=>?_,λy hy=>?_,λy hy=>?_,λy hy z hz e'=>?_,Nat.lt_of_le_of_lt sY h.le,by simpa using h.lm⟩
 ·obtain⟨x,hx,rfl⟩:=hm y hy
  show bq aA aH t x.2.l=_
  rw[h.has x hx]
  unfold bq
  rw[List.filter_filter,List.filter_filter]
  exact List.filter_congr λy _=>Bool.and_comm _ _
 ·obtain⟨x,hx,rfl⟩:=hm y hy;exact h.bare x hx
 ·obtain⟨x,hx,rfl⟩:=hm y hy;exact h.num x hx
 ·obtain⟨x,hx,rfl⟩:=hm y hy;exact h.aU x hx
 ·obtain⟨x,hx,rfl⟩:=hm y hy
  obtain⟨x',LD,rfl⟩:=hm z hz
  rw[h.inj x hx x' LD e']
@[reducible] def cc(c:ae):List PV:=[pI c.kind,pB c.goal,pS c.id,.list 6 .sh (c.attr.map Test.pv),.list 6 .sh (c.value.map Test.pv),pB c.acc,.list 7 .sh (c.conds.map ae.pv)]
theorem Jp{l:List Test}{k:Nat}(hk:k<l.length):jr (l.take (k+1))=jr (l.take k)++(if aJ l[k].var ⟨#[]⟩=true then[l[k]]else[]):=by
 unfold jr
 rw[List.take_add_one,List.getElem?_eq_getElem hk,List.filter_append]
 congr 1
 simp only[Option.toList_some,List.filter_cons,List.filter_nil]
theorem U_(f:Fl)(l:List Test)(hl:l.length<=1000)(ht:∀t∈l,t.list.length<=1000):Pure prog 271 [.list 6 f (l.map Test.pv)] (.list 6 .sh ((jr l).map Test.pv)):=by
 refine ao.of (Fx.c ?_)
 have hb:∀k,(jr (l.take k)).length<=1000:=λk=>by
  have:=vn (l.take k)
  have:=List.length_take_le k l
  have h3:(l.take k).length<=l.length:=by rw[List.length_take];omega
  omega
 refine ak.dm (n:=l.length) (by omega) (λk x u=>x.2=(jr (l.take k)).map Test.pv/\Ow [eH x.1 (jr (l.take k)).length 6] u) ⟨rfl,Ow.nil (L:=[]) trivial (.inl rfl)⟩ ?_ ?_
 ·rintro k ⟨fl,_⟩ u next hk ⟨rfl,hO⟩ ar
  have hft:=Jp hk
  have hbk:=hb k
  have iB:=ht _ (List.getElem_mem hk)
  refine ab.t (by simpa using hk) ⟨by omega,_,aw hk,_,_,_,_,_,_,_,rfl,ab.mk (λhv=>?_) (λhv=>?_)⟩
  ·rw[if_pos hv]at hft
   refine Ow.app (Ow.nil (n:=0) hO (.inl rfl)) rfl (by simp only[List.length_map];omega) (by simp only[List.length_map];omega) λf1 u1 sd=>?_
   refine Ow.app sd.drop (by simp only[List.length_map]) (by simp only[List.length_singleton];omega) (by simp only[List.length_singleton];omega) λf2 u2 jd=>ar _ _ ⟨?_,?_⟩
   ·rw[hft,List.map_append];rfl
   ·rw[hft,List.length_append];exact jd
  ·rw[if_neg (by simp[hv]),List.append_nil]at hft
   exact ar _ _ ⟨by rw[hft],by rw[hft];exact hO⟩
 ·rintro⟨fl,_⟩ u next ⟨rfl,hO⟩
  refine ab.f (by simp) ?_
  rw[List.take_length];rfl
theorem Gk{l:List Test}(h:∀t∈l,qU t):∀t∈l,t.list.length<=1000:=λt ht=>by have:=(h t ht).1;omega
theorem af7(c:ae)(fa fv fc:Fl)(hl:cr c):Pure prog 225 [.agg [pI c.kind,pB c.goal,pS c.id,.list 6 fa (c.attr.map Test.pv),.list 6 fv (c.value.map Test.pv),pB c.acc,.list 7 fc (c.conds.map ae.pv)]] (.agg (cc (bO c))):=by
 obtain⟨_,h1,h2,h3,h4,_⟩:=(bu c).1 hl
 refine ao.of (IN.c ?_)
 refine(U_ _ c.attr (by omega) (Gk h3)).q ⟨_,_,rfl,(U_ _ c.value (by omega) (Gk h4)).q ⟨_,_,rfl,rfl⟩⟩
theorem aaf(f g:Fl)(l m:List Test)(hl:l.length<=1000000)(ht:∀t∈l,t.list.length<=1000000):aZ 226 [.list 6 f (l.map Test.pv),.list 6 g (m.map Test.pv)] (l=m):=by
 refine ao.of (IM.c (ab.mk (λh=>aZ.no (i_ h)) (λh=>?_)))
 refine fE (l:=l) (m:=m) (n:=l.length) rfl (ix h) (by omega) (λk hk bW u next hy cm=>?_) (λu next e=>ab.f (by simp) (aZ.yes e))
 refine ab.t (by simpa using hk) ⟨by omega,_,aw hk,_,_,_,_,_,_,_,rfl,by omega,_,aw bW,_,_,_,_,_,_,_,rfl,ab.mk (λh1=>aZ.no (cm λe=>?_)) (λh1=>ab.mk (λh2=>aZ.no (cm λe=>?_)) (λh2=>ab.mk (λh3=>aZ.no (cm λe=>?_)) (λh3=>ab.mk (λh4=>aZ.no (cm λe=>?_)) (λh4=>?_))))⟩
 ·rw[e]at h1;simp at h1
 ·rw[e,dX]at h2;cases h2
 ·have h':gf l[k].sym m[k].sym=false:=nb h3
  rw[cF.2 (by rw[e])]at h';cases h'
 ·exact absurd (by rw[e]) (i_ h4)
 ·have HM:=ht _ (List.getElem_mem hk)
  refine fE (l:=l[k].list) (m:=m[k].list) (n:=l[k].list.length) rfl (ix h4) (by omega) (λi hi vX u1 iJ OG TT=>?_) (λu1 iJ e=>ab.f (by simp) (hy (BN (by simpa using h1) (bI.1 (nt h2)) (cF.1 (nt h3)) e) _))
  refine ab.t (by simpa using hi) ⟨by omega,_,aw hi,_,_,_,rfl,by omega,_,aw vX,_,_,_,rfl,ab.mk (λh5=>aZ.no (cm λe=>TT (λe'=>?_) (by rw[e]))) (λh5=>OG (cF.1 (nt h5)) _)⟩
  have h':gf l[k].list[i] m[k].list[i]=false:=nb h5
  rw[cF.2 e']at h';cases h'
theorem Vn(c:ae)(e:af)(fa fv fc:Fl)(hl:cr c):Pure prog 213 [.agg [pI c.kind,pB c.goal,pS c.id,.list 6 fa (c.attr.map Test.pv),.list 6 fv (c.value.map Test.pv),pB c.acc,.list 7 fc (c.conds.map ae.pv)],.agg e.pv] (pB (bw c e)):=by
 obtain⟨_,h1,h2,h3,h4,_⟩:=(bu c).1 hl
 refine ao.of (Fy.c ?_)
 refine(Vu .sh .sh .sh .nil (Zo c) e [] (by show 0+1+c.attr.length+c.value.length<=1000000;omega) (cI h3) (cI h4)).call ?_
 unfold bw
 cases cO (Zo c) e []with
 |none=>exact⟨_,_,_,rfl,rfl⟩
 |some r=>exact⟨_,_,_,rfl,rfl⟩
theorem af9{L:List aY}{μ:Mem}(hO:Ow L μ){K:Kq}(hk:∀μ' n,Ow (bV n [] []::L) μ'->K (pP n 0) μ'):aa prog 116 [] μ K:=by
 refine Ly.c (AE.DX hO λu1 me h1=>⟨_,rfl,AM.DX h1 λu2 mm h2=>⟨_,rfl,λn hn=>hk _ n ?_⟩⟩)
 exact bV.shut (ms:=[]) ((h2.swap.new 294 [pP me 0,pP mm 0] hn))
end Go.Proofs.YtbodiiomcfgokaaGreat
