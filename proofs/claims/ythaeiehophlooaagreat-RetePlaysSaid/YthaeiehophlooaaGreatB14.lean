import Derived.Test.YthaeiehophlooaaGreatB13
open Go.IntKind (wrap)
open Int (toNat toNat_natCast)
open List (all_cons all_nil cons_append count_append drop_length getElem?_eq_getElem getElem_map getElem_mem length_append length_map length_set length_take map_append map_cons mem_append mem_cons mem_cons_of_mem mem_cons_self mem_map not_mem_nil take_add_one take_length)
open Nat (add_assoc le_refl zero_add)
set_option linter.all false
namespace Go.Proofs.YthaeiehophlooaaGreat
open Go.Proofs.Tryz Go.aP Go.RowKit
def LQ{L:List aO}{g:Mem}(j:Ow L g)(f:Fl)(l:List Sym)(r:l.length<=1000000){K:Kq}(i:∀a c e,Ow (ca oD 3 (.raw (.slice a l.length c)) (l.map Sym.pv)::L) e->K (.raw (.slice a l.length c)) e):aa prog 196 [.list 3 f (l.map Sym.pv)] g K:=by
 refine lz.c (rZ j (AK l) (Ag l) (by simp;omega) (by simp;omega) λa c e h=>?_);rw[length_map]at h |-;exact i a c e h
def AD{d:Bool}{X:List (Test×PV)}{a:Option Addr}{n c:Nat}{L:List aO}{u:Mem}(Q:Ow (ca dN 6 (.raw (.slice a n c)) (X.map nN)::(X.map (oE d)++L)) u)(t:Test)(q:PV)(y:q.cell=true)(O:X.length+1<=1000000){L2:List aO}{j:Mem}(G:Ow (oE d (t,q)::(ca dN 6 (.raw (.slice a n c)) (X.map nN)::(X.map (oE d)++L))) j){K:Option Addr->Nat->Nat->Mem->Prop}
  (A:∀i g e,Ow (ca dN 6 (.raw (.slice i (X.length+1) g)) ((X++[(t,q)]).map nN)::((X++[(t,q)]).map (oE d)++L)) e->K i (X.length+1) g e):
  eB 6 80 dN a n c (.list 6 .nr [[pI t.rel,pS t.var,pI t.sym.k,pS t.sym.t,pI t.sym.n,q]]) j K:=by
 obtain⟨Y,U,hp,r⟩:=ca.app G.swap (Vh X);simp only[PV.raw.injEq,Value.slice.injEq,length_map]at hp;obtain⟨rfl,rfl,rfl⟩:=hp;simp only[length_map]at r;refine r (nN (t,q)) _ _ rfl (by simp only[aV,nN,all_cons,all_nil,y];rfl) (by omega) (by omega) λi g e C=>A _ g e ?_;have I:(X++[(t,q)]).map nN=X.map nN++[nN (t,q)]:=by simp
 have H:(X++[(t,q)]).map (oE d)++L=X.map (oE d)++oE d (t,q)::L:=by simp
 rw[I,H];exact C.tail λJ h=>Ow.Mu h
def zB{L:List aO}{r:Mem}(e:Ow L r)(f:Fl)(l:List Test)(Y:l.length<=100000)(G:∀t∈l,t.list.length<=1000000){K:Kq}(H:∀a c g,Ow (bw true l (.raw (.slice a l.length c))::L) g->K (.raw (.slice a l.length c)) g):aa prog 141 [.list 6 f (l.map Test.pv)] r K:=by
 refine nB.c ?_;refine ak.cX (n:=l.length) (by omega) (λi x u=>∃X:List (Test×PV),X.map (·.1)=l.take i/\(∀x∈X,x.2.cell=true)/\x.2.1=X.length/\Ow (ca dN 6 (.raw (.slice x.1 x.2.1 x.2.2)) (X.map nN)::(X.map (oE true)++L)) u) ⟨[],rfl,by simp,rfl,ca.nil _ _ e⟩ ?_ ?_
 .rintro i ⟨a,n,c⟩ u next j ⟨X,hX,hc,rfl,e⟩ I
  have Yy:X.length=i:=by have:=congrArg List.length hX;rw[length_map,length_take]at this;omega
  refine ab.t (by simpa using j) ⟨by omega,_,aA j,_,_,_,_,_,_,_,rfl,by omega,_,aA j,_,_,rfl,?_⟩;refine LQ e .sh l[i].list (G _ (getElem_mem j)) λA y U O=>⟨_,_,_,rfl,?_⟩;refine AD e l[i] (.raw (.slice A l[i].list.length y)) rfl (by omega) (L2:=L) O λb' c' Q J=>I _ _ ⟨X++[(l[i],.raw (.slice A l[i].list.length y))],?_,?_,by simp,J⟩
  .rw[map_append,hX,take_add_one,getElem?_eq_getElem j];rfl
  .intro x C;rcases mem_append.1 C with h|h
   .exact hc x h
   .simp at h;subst h;rfl
 .rintro⟨a,n,c⟩ u next ⟨X,hX,hc,rfl,e⟩
  rw[take_length]at hX;refine ab.f (by simp) ?_;subst hX;have:=H a c u;rw[length_map]at this;exact this (bw.shut hc e)
def Jr{d:Bool}{e:Nat}{X:List (ae×PV×PV×PV)}{a:Option Addr}{n c:Nat}{L:List aO}(x:ae×PV×PV×PV)(j:x.2.1.cell=true/\x.2.2.1.cell=true/\x.2.2.2.cell=true)(Q:X.length+1<=1000000){y:Mem}(H:Ow (jH d e x::(ca dn 7 (.raw (.slice a n c)) (X.map fR)::(X.map (jH d e)++L))) y){K:Option Addr->Nat->Nat->Mem->Prop}
  (C:∀r h g,Ow (ca dn 7 (.raw (.slice r (X.length+1) h)) ((X++[x]).map fR)::((X++[x]).map (jH d e)++L)) g->K r (X.length+1) h g):
  eB 7 112 dn a n c (.list 7 .nr [fR x]) y K:=by
 obtain⟨Y,U,hp,A⟩:=ca.app H.swap (ND X);simp only[PV.raw.injEq,Value.slice.injEq,length_map]at hp;obtain⟨rfl,rfl,rfl⟩:=hp;simp only[length_map]at A;refine A (fR x) _ _ rfl (by simp only[aV,fR,all_cons,all_nil,j.1,j.2.1,j.2.2];rfl) (by omega) (by omega) λr h g G=>C _ h g ?_;have J:(X++[x]).map fR=X.map fR++[fR x]:=by simp
 have I:(X++[x]).map (jH d e)++L=X.map (jH d e)++jH d e x::L:=by simp
 rw[J,I];exact G.tail λO i=>Ow.Mu i
def Jx:∀(n:Nat) {L:List aO} {y:Mem} (e:Ow L y) (f:Fl) (l:List ae) (C:ah l<=n) (Y:ah l<=100000) (G:bO l) {K:Kq} (j:∀a c g,Ow (cm true n l (.raw (.slice a l.length c))::L) g->K (.raw (.slice a l.length c)) g),aa prog 39 [.list 7 f (l.map ae.pv)] y K:=by
 intro n;induction n with
 |zero=>
  intro L y e f l C Y G K j;have:l=[]:=by
   cases l with
   |nil=>rfl
   |cons c l=>simp[ah,bN]at C
  subst this;refine h_.c ?_;refine ak.cX (n:=0) (by omega) (λ_ x u=>x=(none,0,0)/\Ow L u) ⟨rfl,e⟩ (λk x u next j=>by omega) λx u next A=>ab.f (by simp) ?_
  obtain⟨rfl,e⟩:=A;exact j none 0 u ((ca.nil dn 7 e).imp λ_ h=>⟨rfl,h⟩)
 |succ n ih=>
  intro L y e f l C Y G K j;have se:=cz l;refine h_.c ?_;refine ak.cX (n:=l.length) (by omega) (λi x u=>∃X:List (ae×PV×PV×PV),X.map (·.1)=l.take i/\(∀x∈X,x.2.1.cell=true/\x.2.2.1.cell=true/\x.2.2.2.cell=true)/\x.2.1=X.length/\Ow (ca dn 7 (.raw (.slice x.1 x.2.1 x.2.2)) (X.map fR)::(X.map (jH true n)++L)) u) ⟨[],rfl,by simp,rfl,ca.nil _ _ e⟩ ?_ ?_
  .rintro i ⟨a,m,c⟩ u next r ⟨X,hX,hc,rfl,e⟩ au
   have Yy:X.length=i:=by have:=congrArg List.length hX;rw[length_map,length_take]at this;omega
   have hm:=di (getElem_mem r);obtain⟨_,ha,hv,Ht,Lk,nu⟩:=(bJ _).1 (cG.1 G _ (getElem_mem r));refine ab.t (by simpa using r) ⟨by omega,_,aA r,_,_,_,_,_,_,_,_,_,_,jT _,?_⟩;refine oA.c ?_;refine zB e .sh l[i].attr (by omega) (cD Ht) λU J u1 O1=>⟨_,_,_,rfl,?_⟩;refine zB O1 .sh l[i].value (by omega) (cD Lk) λQ I u2 O2=>⟨_,_,_,rfl,?_⟩;refine ih O2 .sh l[i].conds (by omega) (by omega) nu λO H u3 O3=>⟨_,_,_,rfl,_,_,_,_,_,_,_,_,_,_,_,_,_,rfl,?_⟩;have O4:Ow (jH true n (l[i],.raw (.slice U l[i].attr.length J),.raw (.slice Q l[i].value.length I),.raw (.slice O l[i].conds.length H))::(ca dn 7 (.raw (.slice a X.length c)) (X.map fR)::(X.map (jH true n)++L))) u3:=
    Ow.pack (L1:=[_,_,_]) ((O3.swap.tail λ_ h=>h.swap).swap.tail λ_ h=>h)
   refine Jr (l[i],.raw (.slice U l[i].attr.length J),.raw (.slice Q l[i].value.length I),.raw (.slice O l[i].conds.length H)) ⟨rfl,rfl,rfl⟩ (by omega) O4 λb' c' u4 O5=>au _ _ ⟨X++[(l[i],.raw (.slice U l[i].attr.length J),.raw (.slice Q l[i].value.length I),.raw (.slice O l[i].conds.length H))],?_,?_,by simp,O5⟩
   .rw[map_append,hX,take_add_one,getElem?_eq_getElem r];rfl
   .intro x A;rcases mem_append.1 A with h|h
    .exact hc x h
    .simp at h;subst h;exact⟨rfl,rfl,rfl⟩
  .rintro⟨a,m,c⟩ u next ⟨X,hX,hc,rfl,e⟩
   rw[take_length]at hX;refine ab.f (by simp) ?_;subst hX;have:=j a c u;rw[length_map]at this;exact this (cm.shut hc e)
abbrev kC:TypeId:=43
def CA(l:List cI):∀r∈l.map cI.pv,r.length=19:=Bg (pv:=cI.pv) (λ_=>rfl) l
def GS(l:List cI):aV (l.map cI.pv).flatten=true:=nR (pv:=cI.pv) (λ_=>rfl) l
def LV{L:List aO}{g:Mem}(j:Ow L g)(f:Fl)(l:List cI)(r:l.length<=1000000){K:Kq}(i:∀a c e,Ow (ca kC 19 (.raw (.slice a l.length c)) (l.map cI.pv)::L) e->K (.raw (.slice a l.length c)) e):aa prog 40 [.list 19 f (l.map cI.pv)] g K:=by
 refine lA.c (rZ j (CA l) (GS l) (by simp;omega) (by simp;omega) λa c e h=>?_);rw[length_map]at h |-;exact i a c e h
def LR{L:List aO}{y:Mem}(J:Ow L y)(fc fa:Fl)(p:Prod)(n:Nat)(G:ah p.conds<=n)(O:ah p.conds<=100000)(H:bO p.conds)(ha:p.bd.length<=1000000){K:Kq}
  (I:∀r g j i e,Ow (cm true n p.conds (.raw (.slice r p.conds.length g))::ca kC 19 (.raw (.slice j p.bd.length i)) (p.bd.map cI.pv)::L) e->K (.agg [pS p.name,.raw (.slice r p.conds.length g),.raw (.slice j p.bd.length i)]) e):
  aa prog 9 [.agg [pS p.name,.list 7 fc (p.conds.map ae.pv),.list 19 fa (p.bd.map cI.pv)]] y K:=by
 refine oz.c ?_;refine aa.q (K:=λq e=>∃a g,q=.raw (.slice a p.conds.length g)/\Ow [cm true n p.conds q] e) (Jx n (L:=[]) trivial fc p.conds G O H λa c e h=>⟨a,c,rfl,h⟩) ?_;rintro q C Y ⟨r,g,rfl,U⟩;refine⟨_,_,_,rfl,?_⟩;refine aa.q (K:=λq e=>∃a g,q=.raw (.slice a p.bd.length g)/\Ow [ca kC 19 q (p.bd.map cI.pv)] e) (LV (L:=[]) trivial fa p.bd ha λa c e h=>⟨a,c,rfl,h⟩) ?_;rintro q A Ao ⟨j,i,rfl,Q⟩;refine⟨_,_,_,rfl,?_⟩;exact I r g j i _ (Ow.swap ((J.side Y U).side Ao Q))
structure Rw(b o sz:Nat)(A:List PV->aO):Prop where
 rd:∀{row:List PV} {L:List aO} {μ:Mem},row.length=sz->Ow (A row::L) μ->∀k m,k+m<=sz->ay μ b (o+k) m=some ((row.drop k).take m)
 st:∀{row:List PV} {L:List aO} {μ:Mem},row.length=sz->Ow (A row::L) μ->∀(k:Nat) (vs:List PV) (K:Mem->Prop),k+vs.length<=sz->(∀μ',Ow (A (du row k vs)::L) μ'->K μ')->stM b (o+k) vs μ K
def UX{row e:List PV}{k:Nat}(h:k+e.length<=row.length):(du row k e).length=row.length:=by
 unfold du;simp only[length_append,length_take,List.length_drop];omega
def Rw.vec{e:TypeId}{i n c b j:Nat}{g:Lq}(U:∀r∈g,r.length=i)(I:j<g.length):Rw b (0+j*i) i λrow=>ca e i (.raw (.slice (some ⟨b,0,none⟩) n c)) (g.set j row):=by
 have C:∀{row:List PV},row.length=i->∀r∈g.set j row,r.length=i:=λy r h=>by
  rcases List.mem_or_eq_of_mem_set h with h|rfl
  .exact U r h
  .exact y
 refine⟨λ{row L O} y H k m h=>?_,λ{row L O} y H k Q K h hK=>?_⟩
 .obtain⟨b',A,dF,_⟩:=ca.at_ 0 H rfl (C y) (j:=j) (by simpa using I);simp only[Option.some.injEq,Addr.mk.injEq]at A;obtain⟨rfl,_⟩:=A;have:=dF k m h;rw[List.getElem_set_self]at this;exact this
 .obtain⟨b',A,_,Y⟩:=ca.at_ 0 H rfl (C y) (j:=j) (by simpa using I);simp only[Option.some.injEq,Addr.mk.injEq]at A;obtain⟨rfl,_⟩:=A;refine Y k Q K h λG J=>hK G ?_;rw[List.getElem_set_self,List.set_set]at J;exact J
def CF{T:Type}(f:T->List PV)(X:List T)(g i:Nat)(e:Lq):Prop:=
 e.length=X.length/\(∀r∈e,r.length=g)/\∀(j:Nat) (h:j<X.length),i<=j->e[j]?=some (f X[j])
def CF.start{T:Type}{f:T->List PV}{X:List T}{e:Nat}(h:∀x,(f x).length=e):CF f X e 0 (X.map f):=by
 refine⟨by simp,λr g=>?_,λj i _=>by rw[List.getElem?_map,getElem?_eq_getElem i];rfl⟩;obtain⟨x,_,rfl⟩:=mem_map.1 g;exact h x
def CF.step{T:Type}{f:T->List PV}{X:List T}{g i:Nat}{e:Lq}{r:List PV}(h:CF f X g i e)(C:r.length=g):CF f X g (i+1) (e.set i r):=by
 refine⟨by rw[length_set];exact h.1,λA y=>?_,λj G H=>?_⟩
 .rcases List.mem_or_eq_of_mem_set y with y|rfl
  .exact h.2.1 A y
  .exact C
 .rw[List.getElem?_set_ne (by omega)];exact h.2.2 j G (by omega)
def Ot{q:PV}{l:List Sym}{L:List aO}{u:Mem}(r:Ow (ca oD 3 q (l.map Sym.pv)::L) u)(Q:l.length<=1000000){g:(Int->Mem->Prop)->Int->Mem->Prop}
  (J:∀(a:Option Addr) (c:Nat),q=.raw (.slice a l.length c)->∀(k:Nat) (u:Mem) (next:Int->Mem->Prop),k<l.length->(∃e,Ow (ca oD 3 (.raw (.slice a l.length c)) e::L) u)->bh a (λb o=>(0:Int)<=k/\(k:Int)<((l.length:Nat):Int)/\stM b (o+toNat (k:Int)*3) [pI 0,pS ⟨#[]⟩,pI 0] u λu'=>next (wrap .i64 ((k:Int)+1)) u')->g next (k:Int) u)
  (O:∀(a:Option Addr) (c:Nat),q=.raw (.slice a l.length c)->∀(u:Mem) (next:Int->Mem->Prop),Ow L u->(∃e,Ow (ca oD 3 (.raw (.slice a l.length c)) e::L) u)->g next (l.length:Int) u):ak g 0 u:=by
 obtain⟨a,c,rfl⟩:=ca.xQ r;rw[length_map]at r;refine ak.each (n:=l.length) (by omega) (λi u=>∃e:Lq,e.length=l.length/\(∀x∈e,x.length=3)/\Ow (ca oD 3 (.raw (.slice a l.length c)) e::L) u) ⟨_,by simp,AK l,r⟩ ?_ ?_
 .rintro i u next G ⟨e,A,y,r⟩ I
  refine J a c (by rw[length_map]) i u next G ⟨e,r⟩ ?_
  obtain⟨b,rfl,_,H⟩:=ca.at_ 0 r rfl y (j:=i) (by omega);refine⟨by omega,by omega,?_⟩;rw[toNat_natCast];refine H 0 [pI 0,pS ⟨#[]⟩,pI 0] _ (by simp) λu' h=>I _ ⟨_,by rw[length_set];exact A,λx C=>?_,h⟩;rcases List.mem_or_eq_of_mem_set C with h|rfl
  .exact y x h
  .rw[UX (by rw[y _ (getElem_mem (by omega))];simp)];exact y _ (getElem_mem (by omega))
 .rintro u next ⟨e,A,y,r⟩
  exact O a c (by rw[length_map]) u next r.drop ⟨e,r⟩
@[reducible] def zd(b o:Nat):Option Addr:=some ⟨b,o,none⟩
def oF{f b o:Nat}{A:List PV->aO}(hA:Rw b o 7 A){row:List PV}(eh:row.length=7){q:PV}(hf:f+1<=7)(hq:(row.drop f).take 1=[q]){l:List Test}(hl:l.length<=100000)(ht:∀t∈l,t.list.length<=100000){L:List aO}{u:Mem}(g:Ow (A row::bw true l q::L) u){E:Mem->Prop}(hk:∀u',Ow (A row::L) u'->E u'):
  ak (α:=Int) (λnext s u=>
   nn (zd b o)
   (aM (.raw (.pointer (zd b o))) λb o=>
    ∃(x11:Option Addr) (acF ag6:Nat),ay u b (o+f) 1=some [(.raw (.slice x11 acF ag6))]/\
    ab (decide ((s:Int)<((acF:Nat):Int)))
    (ak (α:=Int) (λZL I r=>
      nn (zd b o)
      (aM (.raw (.pointer (zd b o))) λPR OK=>
       ∃(H:Option Addr) (acC ag2:Nat),ay r PR (OK+f) 1=some [(.raw (.slice H acC ag2))]/\
       bh H λUm RJ=>
       (0:Int)<=s/\s<((acC:Nat):Int)/\
       ∃(x24:Option Addr) (U ag1:Nat),ay r Um ((RJ+toNat s*6)+5) 1=some [(.raw (.slice x24 U ag1))]/\
       ab (decide ((I:Int)<((U:Nat):Int)))
       (nn (zd b o)
        (aM (.raw (.pointer (zd b o))) λUl RH=>
         ∃(G:Option Addr) (Qy YV:Nat),ay r Ul (RH+f) 1=some [(.raw (.slice G Qy YV))]/\
         bh G λXr VQ=>
         (0:Int)<=s/\s<((Qy:Nat):Int)/\
         ∃(C:Option Addr) (Y agY:Nat),ay r Xr ((VQ+toNat s*6)+5) 1=some [(.raw (.slice C Y agY))]/\
         bh C λb_5 ZH=>
         (0:Int)<=I/\I<((Y:Nat):Int)/\
         stM b_5 (ZH+toNat I*3) [(pI (0)),(pS ⟨#[]⟩),(pI (0))] r λxq=>
         ZL (wrap .i64 (I+(1))) xq))
       (nn (zd b o)
        (aM (.raw (.pointer (zd b o))) λb_6 o_6=>
         ∃(XG:Option Addr) (Qx YU:Nat),ay r b_6 (o_6+f) 1=some [(.raw (.slice XG Qx YU))]/\
         bh XG λb_7 o_7=>
         (0:Int)<=s/\s<((Qx:Nat):Int)/\
         stM b_7 (o_7+toNat s*6) [(pI (-1)),(pS ⟨#[]⟩),(pI (0)),(pS ⟨#[]⟩),(pI (0)),(.raw (.slice none 0 0))] r λMz=>
         next (wrap .i64 (s+(1))) Mz))))
     (0) u)
    (E u))) 0 u:=by
 obtain⟨X,rfl,hXc,g⟩:=bw.open_ g.swap;obtain⟨a,c,rfl⟩:=ca.xQ g;rw[length_map]at g hl;have rQ:Ow (A row::ca dN 6 (.raw (.slice a X.length c)) (X.map nN)::((X.drop 0).map (oE true)++L)) u:=(g.tail λ_ h=>h.xu).swap;have J:(row.drop f).take 1=[.raw (.slice a X.length c)]:=by rw[hq,length_map]
 refine ak.each (n:=X.length) (by omega) (λi u=>∃e,CF nN X 6 i e/\Ow (A row::ca dN 6 (.raw (.slice a X.length c)) e::((X.drop i).map (oE true)++L)) u) ⟨_,CF.start (λ_=>rfl),rQ⟩ ?_ ?_
 .rintro i u next hi ⟨e,O,g⟩ au
  have hdr:X.drop i=X[i]::X.drop (i+1):=List.drop_eq_getElem_cons hi;have Sr:∀{L':List aO} {u':Mem},Ow (A row::L') u'->ay u' b (o+f) 1=some [.raw (.slice a X.length c)]:=λh=>by rw[hA.rd eh h f 1 hf,J]
  refine⟨_,_,_,Sr g,ab.t (by simpa using hi) ?_⟩;have gy:Ow (ca oD 3 X[i].2 (X[i].1.list.map Sym.pv)::A row::ca dN 6 (.raw (.slice a X.length c)) e::((X.drop (i+1)).map (oE true)++L)) u:=by
   rw[hdr,map_cons,cons_append]at g;exact(Ow.at 2 rfl g).imp λν hν=>hν
  have hri:e[i]?=some (nN X[i]):=O.2.2 i hi (le_refl _);obtain⟨bK,Lm⟩:=List.getElem?_eq_some_iff.1 hri;refine Ot gy (by have:=ht X[i].1 (mem_map.2 ⟨_,getElem_mem hi,rfl⟩);omega) ?_ ?_
  .rintro a' c' IJ k u1 jr hk ⟨cr,y⟩ aeO;have qo:=y.swap;obtain⟨b2,rfl,Q,_⟩:=ca.at_ 2 y rfl O.2.1 (j:=i) bK;rw[Lm]at Q;have h5:ay u1 b2 (0+i*6+5) 1=some [.raw (.slice a' X[i].1.list.length c')]:=by rw[Q 5 1 (by omega)];show some [X[i].2]=_;rw[IJ]
   have bZ:decide ((k:Int)<((X[i].1.list.length:Nat):Int))=true:=by simpa using hk
   refine⟨_,_,_,Sr qo,by omega,by omega,_,_,_,by rw[toNat_natCast];exact h5,ab.t bZ ⟨_,_,_,Sr qo,by omega,by omega,_,_,_,by rw[toNat_natCast];exact h5,aeO⟩⟩
  .rintro a' c' IJ u1 jr y ⟨cr,anL⟩;obtain⟨b2,rfl,Q,fF⟩:=ca.at_ 1 y rfl O.2.1 (j:=i) bK;rw[Lm]at Q;have h5:ay u1 b2 (0+i*6+5) 1=some [.raw (.slice a' X[i].1.list.length c')]:=by rw[Q 5 1 (by omega)];show some [X[i].2]=_;rw[IJ]
   refine⟨_,_,_,Sr y,by omega,by omega,_,_,_,by rw[toNat_natCast];exact h5,ab.f (by simp) ⟨_,_,_,Sr y,by omega,by omega,?_⟩⟩;rw[toNat_natCast];refine fF 0 _ _ (by simp) λu' h'=>au _ ⟨_,O.step ?_,h'⟩;rw[Lm];rfl
 .rintro u next ⟨e,O,g⟩
  rw[drop_length]at g;exact⟨_,_,_,by rw[hA.rd eh g f 1 hf,J],ab.f (by simp) (hk _ (g.tail λ_ h=>h.drop))⟩
def LJ:∀(n:Nat) {b o:Nat} {A:List PV->aO} (r:Rw b o 7 A) (x:ae×PV×PV×PV) (U:cU x.1) (hs:ah x.1.conds<=100000) {L:List aO} {u:Mem} (g:Ow (A (fR x)::jH true n x::L) u) {K:Kq} (I:∀y row,row.length=7->Ow (A row::L) y->K (.aB []) y),aa prog 104 [pP b o] u K:=by
 intro n;induction n with
 |zero=>
  intro b o A r x U hs L u g K I;obtain⟨_,l1,l2,l3,l4,_⟩:=(bJ _).1 U;have g:Ow (A (fR x)::bw true x.1.attr x.2.1::bw true x.1.value x.2.2.1::cm true 0 x.1.conds x.2.2.2::L) u:=g.tail λ_ h=>Ow.nest h;refine i_.c ?_;refine oF (f:=3) r rfl (by omega) rfl (by omega) (λt C=>by have:=(l3 t C).1;omega) g λu1 O1=>?_;refine oF (f:=4) r rfl (by omega) rfl (by omega) (λt C=>by have:=(l4 t C).1;omega) O1 λu2 O2=>?_;obtain⟨h0,G⟩:=Ow.and O2.swap;obtain⟨a,c,Q⟩:=ca.xQ G;have O:∀{L':List aO} {H:Mem},Ow (A (fR x)::L') H->ay H b (o+6) 1=some [.raw (.slice a 0 c)]:=λh=>by rw[r.rd rfl h 6 1 (by omega)];show some [x.2.2.2]=_;rw[Q];rfl
  refine ak.each (n:=0) (by omega) (λ_ u=>Ow (A (fR x)::L) u) G.drop (λk u next I=>by omega) λu next O4=>?_
  refine⟨_,_,_,O O4,ab.f (by simp) ?_⟩;exact r.st rfl O4 2 [pS ⟨#[103,111,110,101]⟩] _ (by simp) λu5 O5=>I u5 _ rfl O5
 |succ n ih=>
  intro b o A r x U hs L u g K I;obtain⟨_,l1,l2,l3,l4,l5⟩:=(bJ _).1 U;have g:Ow (A (fR x)::bw true x.1.attr x.2.1::bw true x.1.value x.2.2.1::cm true (n+1) x.1.conds x.2.2.2::L) u:=g.tail λ_ h=>Ow.nest h;refine i_.c ?_;refine oF (f:=3) r rfl (by omega) rfl (by omega) (λt C=>by have:=(l3 t C).1;omega) g λu1 O1=>?_;refine oF (f:=4) r rfl (by omega) rfl (by omega) (λt C=>by have:=(l4 t C).1;omega) O1 λu2 O2=>?_;obtain⟨X,hX,hXc,G⟩:=cm.open_ O2.swap;obtain⟨a,c,Q⟩:=ca.xQ G;rw[Q,length_map]at G;have fK:=cz x.1.conds;have Yy:X.length<=100000:=by have:=congrArg List.length hX;rw[length_map]at this;omega
  have O:∀{L':List aO} {H:Mem},Ow (A (fR x)::L') H->ay H b (o+6) 1=some [.raw (.slice a X.length c)]:=λh=>by rw[r.rd rfl h 6 1 (by omega)];show some [x.2.2.2]=_;rw[Q,length_map]
  have O4:Ow (A (fR x)::ca dn 7 (.raw (.slice a X.length c)) (X.map fR)::((X.drop 0).map (jH true n)++L)) u2:=(G.tail λ_ h=>h.xu).swap;refine ak.each (n:=X.length) (by omega) (λi u=>∃e,CF fR X 7 i e/\Ow (A (fR x)::ca dn 7 (.raw (.slice a X.length c)) e::((X.drop i).map (jH true n)++L)) u) ⟨_,CF.start (λ_=>rfl),O4⟩ ?_ ?_
  .rintro i u next Y ⟨e,J,g⟩ au
   have hdr:X.drop i=X[i]::X.drop (i+1):=List.drop_eq_getElem_cons Y;have hri:e[i]?=some (fR X[i]):=J.2.2 i Y (le_refl _);obtain⟨bK,Lm⟩:=List.getElem?_eq_some_iff.1 hri;obtain⟨b2,rfl,_,_⟩:=ca.at_ 1 g rfl J.2.1 (j:=i) bK;refine⟨_,_,_,O g,ab.t (by simpa using Y) ⟨_,_,_,O g,by omega,by omega,?_⟩⟩;rw[toNat_natCast];have Am:X[i].1∈x.1.conds:=by rw[<- hX];exact mem_map.2 ⟨_,getElem_mem Y,rfl⟩
   have gy:Ow ((λrow=>ca dn 7 (.raw (.slice (some ⟨b2,0,none⟩) X.length c)) (e.set i row)) (fR X[i])::jH true n X[i]::(A (fR x)::((X.drop (i+1)).map (jH true n)++L))) u:=by
    rw[hdr,map_cons,cons_append]at g;have h1:=g.swap.tail λ_ h=>h.swap;show Ow (ca dn 7 _ (e.set i (fR X[i]))::_) u;rw[<- Lm,List.set_getElem_self];exact h1
   have hm:=di Am;refine ih (Rw.vec J.2.1 bK) X[i] (cG.1 l5 _ Am) (by omega) gy λy row sS h=>⟨rfl,au _ ⟨_,J.step sS,h.swap⟩⟩
  .rintro u next ⟨e,J,g⟩
   rw[drop_length]at g;refine⟨_,_,_,O g,ab.f (by simp) ?_⟩;exact r.st rfl g 2 [pS ⟨#[103,111,110,101]⟩] _ (by simp) λu5 O5=>I u5 _ rfl (O5.tail λ_ h=>h.drop)
open K6
def wx{L:List aO}{r:Mem}(e:Ow L r)(f:Fl)(l:List Test)(hl:l.length<=100000)(I:∀t∈l,t.list.length<=1000000){K:Kq}(J:∀a c g,Ow (bw true l (.raw (.slice a l.length c))::L) g->K (.raw (.slice a l.length c)) g):aa prog 162 [.list 6 f (l.map Test.pv)] r K:=by
 refine CK.c ?_;refine ak.cX (n:=l.length) (by omega) (λi x u=>∃X:List (Test×PV),X.map (·.1)=l.take i/\(∀x∈X,x.2.cell=true)/\x.2.1=X.length/\Ow (ca dN 6 (.raw (.slice x.1 x.2.1 x.2.2)) (X.map nN)::(X.map (oE true)++L)) u) ⟨[],rfl,by simp,rfl,ca.nil _ _ e⟩ ?_ ?_
 .rintro i ⟨a,n,c⟩ u next j ⟨X,hX,hc,rfl,e⟩ O
  have Yy:X.length=i:=by have:=congrArg List.length hX;rw[length_map,length_take]at this;omega
  refine ab.t (by simpa using j) ⟨by omega,_,aA j,_,_,_,_,_,_,_,rfl,?_⟩;have H:=I _ (getElem_mem j);refine rZ e (AK _) (Ag _) (by simp;omega) (by simp;omega) λA y Y C=>?_;rw[length_map]at C |-;refine AD e l[i] (.raw (.slice A l[i].list.length y)) rfl (by omega) (L2:=L) C λb' c' U Q=>O _ _ ⟨X++[(l[i],.raw (.slice A l[i].list.length y))],?_,?_,by simp,Q⟩
  .rw[map_append,hX,take_add_one,getElem?_eq_getElem j];rfl
  .intro x G;rcases mem_append.1 G with h|h
   .exact hc x h
   .simp at h;subst h;rfl
 .rintro⟨a,n,c⟩ u next ⟨X,hX,hc,rfl,e⟩
  rw[take_length]at hX;refine ab.f (by simp) ?_;subst hX;have:=J a c u;rw[length_map]at this;exact this (bw.shut hc e)
def Jt:∀(n:Nat) {L:List aO} {y:Mem} (e:Ow L y) (f:Fl) (l:List ae) (C:ah l<=n) (Y:ah l<=100000) (G:bO l) {K:Kq} (j:∀a c g,Ow (cm true n l (.raw (.slice a l.length c))::L) g->K (.raw (.slice a l.length c)) g),aa prog 109 [.list 7 f (l.map ae.pv)] y K:=by
 intro n;induction n with
 |zero=>
  intro L y e f l C Y G K j;have:l=[]:=by
   cases l with
   |nil=>rfl
   |cons c l=>simp[ah,bN]at C
  subst this;refine rz.c ?_;refine ak.cX (n:=0) (by omega) (λ_ x u=>x=(none,0,0)/\Ow L u) ⟨rfl,e⟩ (λk x u next j=>by omega) λx u next A=>ab.f (by simp) ?_
  obtain⟨rfl,e⟩:=A;exact j none 0 u ((ca.nil dn 7 e).imp λ_ h=>⟨rfl,h⟩)
 |succ n ih=>
  intro L y e f l C Y G K j;have se:=cz l;refine rz.c ?_;refine ak.cX (n:=l.length) (by omega) (λi x u=>∃X:List (ae×PV×PV×PV),X.map (·.1)=l.take i/\(∀x∈X,x.2.1.cell=true/\x.2.2.1.cell=true/\x.2.2.2.cell=true)/\x.2.1=X.length/\Ow (ca dn 7 (.raw (.slice x.1 x.2.1 x.2.2)) (X.map fR)::(X.map (jH true n)++L)) u) ⟨[],rfl,by simp,rfl,ca.nil _ _ e⟩ ?_ ?_
  .rintro i ⟨a,m,c⟩ u next r ⟨X,hX,hc,rfl,e⟩ au
   have Yy:X.length=i:=by have:=congrArg List.length hX;rw[length_map,length_take]at this;omega
   have hm:=di (getElem_mem r);obtain⟨_,ha,hv,Ht,Lk,nu⟩:=(bJ _).1 (cG.1 G _ (getElem_mem r));refine ab.t (by simpa using r) ⟨by omega,_,aA r,_,_,_,_,_,_,_,_,_,_,jT _,?_⟩;refine pW.c ?_;refine wx e .sh l[i].attr (by omega) (cD Ht) λU J u1 O1=>⟨_,_,_,rfl,?_⟩;refine wx O1 .sh l[i].value (by omega) (cD Lk) λQ I u2 O2=>⟨_,_,_,rfl,?_⟩;refine ih O2 .sh l[i].conds (by omega) (by omega) nu λO H u3 O3=>⟨_,_,_,rfl,_,_,_,_,_,_,_,_,_,_,_,_,_,rfl,?_⟩;have O4:Ow (jH true n (l[i],.raw (.slice U l[i].attr.length J),.raw (.slice Q l[i].value.length I),.raw (.slice O l[i].conds.length H))::(ca dn 7 (.raw (.slice a X.length c)) (X.map fR)::(X.map (jH true n)++L))) u3:=
    Ow.pack (L1:=[_,_,_]) ((O3.swap.tail λ_ h=>h.swap).swap.tail λ_ h=>h)
   refine Jr (l[i],.raw (.slice U l[i].attr.length J),.raw (.slice Q l[i].value.length I),.raw (.slice O l[i].conds.length H)) ⟨rfl,rfl,rfl⟩ (by omega) O4 λb' c' u4 O5=>au _ _ ⟨X++[(l[i],.raw (.slice U l[i].attr.length J),.raw (.slice Q l[i].value.length I),.raw (.slice O l[i].conds.length H))],?_,?_,by simp,O5⟩
   .rw[map_append,hX,take_add_one,getElem?_eq_getElem r];rfl
   .intro x A;rcases mem_append.1 A with h|h
    .exact hc x h
    .simp at h;subst h;exact⟨rfl,rfl,rfl⟩
  .rintro⟨a,m,c⟩ u next ⟨X,hX,hc,rfl,e⟩
   rw[take_length]at hX;refine ab.f (by simp) ?_;subst hX;have:=j a c u;rw[length_map]at this;exact this (cm.shut hc e)
def Xe{L:List aO}{C:Mem}(Y:Ow L C)(fc fa:Fl)(p:Prod)(n:Nat)(O:ah p.conds<=n)(h6:ah p.conds<=100000)(Q:bO p.conds)(ha:p.bd.length<=100000){K:Kq}
  (U:∀y r j i e,Ow (cm true n p.conds (.raw (.slice y p.conds.length r))::ca kC 19 (.raw (.slice j p.bd.length i)) (p.bd.map cI.pv)::L) e->K (.agg [pS p.name,.raw (.slice y p.conds.length r),.raw (.slice j p.bd.length i)]) e):
  aa prog 62 [.agg [pS p.name,.list 7 fc (p.conds.map ae.pv),.list 19 fa (p.bd.map cI.pv)]] C K:=by
 refine DF.c ?_;have g:∀{G:Kq},(∀y r e,(∀{H:Option Addr->Nat->Nat->Mem->Prop},(∀j i u,K (.agg [pS p.name,.raw (.slice y p.conds.length r),.raw (.slice j p.bd.length i)]) u->H j p.bd.length i u)->eB 19 224 43 none 0 0 (.list 19 fa (p.bd.map cI.pv)) e H)->G (.raw (.slice y p.conds.length r)) e)->aa prog 109 [.list 7 fc (p.conds.map ae.pv)] C G:=λ{G} hG=>by
  refine Jt n Y fc p.conds O h6 Q λa c e h=>hG a c e λ{H} hH=>?_;refine rZ h (CA _) (GS _) (by simp;omega) (by simp;omega) λj i I J=>?_;rw[length_map]at J |-;exact hH j i I (U a c j i I (Ow.swap J))
 have A1:∀{X:Kq},True:=λ{_}=>trivial;refine⟨⟨⟨?_,trivial⟩,?_,trivial⟩,⟨?_,trivial⟩,?_,trivial⟩
 all_goals first
  |exact g λy r u h=>⟨_,_,_,rfl,h λ_ _ _ A=>⟨A,trivial⟩,trivial⟩
  |exact g λy r u h=>⟨_,_,_,rfl,⟨h λ_ _ _ A=>⟨A,trivial⟩,trivial⟩,h λ_ _ _ A=>⟨A,trivial⟩,trivial⟩
def aa4(nm:ByteArray)(n:Nat)(p:Prod)(hs:ah p.conds<=100000)(hl:bO p.conds)(ha:p.bd.length<=100000){O C:Option Addr}{H A:Nat}{L:List aO}{Q:Mem}(g:Ow (cm true (n+1) p.conds (.raw (.slice O p.conds.length H))::ca kC 19 (.raw (.slice C p.bd.length A)) (p.bd.map cI.pv)::L) Q){K:Kq}(hk:∀y,Ow L y->K (.aB []) y):
  aa prog 53 [.agg [pS nm,.raw (.slice O p.conds.length H),.raw (.slice C p.bd.length A)]] Q K:=by
 obtain⟨X,hX,hXc,O3⟩:=cm.open_ g;have Yy:X.length=p.conds.length:=by have:=congrArg List.length hX;rwa [length_map]at this
 have ij:p.conds.length<=100000:=by have:=cz p.conds;omega
 refine uU.c ?_;have O4:Ow (ca dn 7 (.raw (.slice O p.conds.length H)) (X.map fR)::((X.drop 0).map (jH true n)++(ca kC 19 (.raw (.slice C p.bd.length A)) (p.bd.map cI.pv)::L))) Q:=O3;refine ak.each (n:=p.conds.length) (by omega) (λi u=>∃e,CF fR X 7 i e/\Ow (ca dn 7 (.raw (.slice O p.conds.length H)) e::((X.drop i).map (jH true n)++(ca kC 19 (.raw (.slice C p.bd.length A)) (p.bd.map cI.pv)::L))) u) ⟨_,CF.start (λ_=>rfl),O4⟩ ?_ ?_
 .rintro i u next hi ⟨e,G,g⟩ au
  have U:i<X.length:=by omega
  have hdr:X.drop i=X[i]::X.drop (i+1):=List.drop_eq_getElem_cons U;have Y:e[i]?=some (fR X[i]):=G.2.2 i U (le_refl _);obtain⟨bK,Lm⟩:=List.getElem?_eq_some_iff.1 Y;obtain⟨b2,rfl,_,_⟩:=ca.at_ 0 g rfl G.2.1 (j:=i) bK;refine ab.t (by simpa using hi) ⟨by omega,by omega,?_⟩;rw[toNat_natCast];have Am:X[i].1∈p.conds:=by rw[<- hX];exact mem_map.2 ⟨_,getElem_mem U,rfl⟩
  have gy:Ow ((λrow=>ca dn 7 (.raw (.slice (some ⟨b2,0,none⟩) p.conds.length H)) (e.set i row)) (fR X[i])::jH true n X[i]::((X.drop (i+1)).map (jH true n)++(ca kC 19 (.raw (.slice C p.bd.length A)) (p.bd.map cI.pv)::L))) u:=by
   rw[hdr,map_cons,cons_append]at g;show Ow (ca dn 7 _ (e.set i (fR X[i]))::_) u;rw[<- Lm,List.set_getElem_self];exact g
  have hm:=di Am;exact LJ n (Rw.vec G.2.1 bK) X[i] (cG.1 hl _ Am) (by omega) gy λy row I h=>⟨rfl,au _ ⟨_,G.step I,h⟩⟩
 .rintro u next ⟨e,G,g⟩
  rw[<- Yy,drop_length]at g;refine ab.f (by simp) ?_;refine ak.each (n:=p.bd.length) (by omega) (λi u=>∃e:Lq,e.length=p.bd.length/\(∀r∈e,r.length=19)/\Ow (ca kC 19 (.raw (.slice C p.bd.length A)) e::L) u) ⟨_,by simp,CA _,g.drop⟩ ?_ ?_
  .rintro i u next hi ⟨e,I,J,g⟩ au
   obtain⟨b2,rfl,_,fF⟩:=ca.at_ 0 g rfl J (j:=i) (by omega);refine ab.t (by simpa using hi) ⟨by omega,by omega,?_⟩;rw[toNat_natCast];have hl:e[i].length=19:=J _ (getElem_mem (by omega));refine fF 0 _ _ (by simp) λu' h'=>au _ ⟨_,by rw[length_set];exact I,λr yd=>?_,h'⟩;rcases List.mem_or_eq_of_mem_set yd with h|rfl
   .exact J r h
   .unfold du;simp only[length_append,length_take,List.length_drop,List.length_cons,List.length_nil];omega
  .rintro u next ⟨e,I,J,g⟩
   exact ab.f (by simp) (hk _ g.drop)
def NB{L:List aO}{A:Mem}(g:Ow L A)(f:Fl)(l:List Test)(hl:l.length<=1000)(Q:∀t∈l,t.list.length<=1000){K:Kq}(C:∀a c j,Ow (bw true (cO l) (.raw (.slice a (cO l).length c))::L) j->K (.raw (.slice a (cO l).length c)) j):aa prog 214 [.list 6 f (l.map Test.pv)] A K:=by
 refine Ab.c ?_;refine ak.cX (n:=l.length) (by omega) (λi x u=>∃X:List (Test×PV),X.map (·.1)=cO (l.take i)/\X.length<=i/\(∀x∈X,x.2.cell=true)/\x.2.1=X.length/\Ow (ca dN 6 (.raw (.slice x.1 x.2.1 x.2.2)) (X.map nN)::(X.map (oE true)++L)) u) ⟨[],rfl,by simp,by simp,rfl,ca.nil _ _ g⟩ ?_ ?_
 .rintro i ⟨a,n,c⟩ u next r ⟨X,hX,U,hc,rfl,g⟩ H
  have e:=HP r;have gF:=Q _ (getElem_mem r);refine ab.t (by simpa using r) ⟨by omega,_,aA r,_,_,_,_,_,_,_,rfl,ab.mk (λy=>?_) (λy=>?_)⟩
  .rw[if_pos y]at e;refine rZ g (AK l[i].list) (Ag l[i].list) (by simp;omega) (by simp;omega) λI G u1 J=>?_;rw[length_map]at J |-;refine AD g l[i] (.raw (.slice I l[i].list.length G)) rfl (by omega) (L2:=L) J λb' c' u3 Y=>H _ _ ⟨X++[(l[i],.raw (.slice I l[i].list.length G))],?_,by simp;omega,?_,by simp,Y⟩
   .rw[map_append,hX,e];rfl
   .intro x O;rcases mem_append.1 O with h|h
    .exact hc x h
    .simp at h;subst h;rfl
  .rw[if_neg (by simp[y]),List.append_nil]at e;exact H _ _ ⟨X,by rw[e];exact hX,by omega,hc,rfl,g⟩
 .rintro⟨a,n,c⟩ u next ⟨X,hX,U,hc,rfl,g⟩
  rw[take_length]at hX;refine ab.f (by simp) ?_;rw[<- hX]at C;have:=C a c u;rw[length_map]at this;exact this (bw.shut hc g)
def abp{L:List aO}{H:Mem}(U:Ow L H)(c:ae)(fa fv fc:Fl)(O:cU c){K:Kq}
  (Q:∀C g A r e,Ow (bw true (cO c.attr) (.raw (.slice C (cO c.attr).length g))::bw true (cO c.value) (.raw (.slice A (cO c.value).length r))::L) e->K (.agg [pI 1,pB c.goal,pS ⟨#[]⟩,.raw (.slice C (cO c.attr).length g),.raw (.slice A (cO c.value).length r),pB c.acc,.raw (.slice none 0 0)]) e):
  aa prog 166 [.agg [pI c.kind,pB c.goal,pS c.id,.list 6 fa (c.attr.map Test.pv),.list 6 fv (c.value.map Test.pv),pB c.acc,.list 7 fc (c.conds.map ae.pv)]] H K:=by
 obtain⟨_,h1,h2,h3,Y,_⟩:=(bJ c).1 O;refine aa.conv (CR.c ?_);refine aa.q (K:=λp e=>∃a g,p=.raw (.slice a (cO c.attr).length g)/\Ow [bw true (cO c.attr) p] e) (NB (L:=[]) trivial _ c.attr (by omega) (Es h3) λa g e h=>⟨a,g,rfl,h⟩) ?_;rintro p J Gh ⟨C,g,rfl,O1⟩;refine⟨_,_,_,rfl,?_⟩;refine aa.q (K:=λp e=>∃a g,p=.raw (.slice a (cO c.value).length g)/\Ow [bw true (cO c.value) p] e) (NB (L:=[]) trivial _ c.value (by omega) (Es Y) λa g e h=>⟨a,g,rfl,h⟩) ?_;rintro p I Ao ⟨A,r,rfl,O2⟩;refine⟨_,_,_,rfl,?_⟩;have O3:=(U.side Gh O1).side Ao O2;refine⟨.agg [pI 1,pB c.goal,pS ⟨#[]⟩,.raw (.slice C (cO c.attr).length g),.raw (.slice A (cO c.value).length r),pB c.acc,.raw (.slice none 0 0)],.agg rfl rfl λi x y j G=>?_,Q C g A r _ (Ow.swap O3)⟩
 match i with
 |0|1|2|3|4|5=>simp at j G;subst j G;exact .same _
 |6=>simp at j G;subst j G;exact .nil 7 []
 |i+7=>simp at j
variable {u0:Mem} {K:Kq}
set_option maxRecDepth 100000
def rr.c{n:Option Addr}{b D:Nat}{o d:Int}{e:Fn}{f g:List PV}(h: ak (α:=Int×Int) (λF a i=> ab (decide (a.2<((b:Nat):Int))) (bh n λE G=> 0<=a.2/\a.2<((b:Nat):Int)/\ ∃r s t u w v x z y A j l k,ay i E (G+toNat a.2*7) 7=some [pI r,pB s,pS t,pV u w v,pV x z y,pB A,pV j l k]/\ bP prog (.fn e f g) [pI a.1,pI d,.agg [pI r,pB s,pS t,pV u w v,pV x z y,pB A,pV j l k]] i λH p=> ∃B,H=(pB B)/\ ab (!B) (K (.aB [pI a.1,pB false]) p) (aa prog 164 [pV j l k,pI (wrap .i64 (a.1+1)),pI (wrap .i64 (d+1)),.fn e f g] p λI q=> ∃m C,I=(.aB [pI m,pB C])/\ ab (!C) (K (.aB [pI m,pB false]) q) (F (m,(wrap .i64 (a.2+1))) q))) (K (.aB [pI a.1,pB true]) i)) (o,0) u0):aa prog 164 [pV n b D,pI o,pI d,.fn e f g] u0 K:= VC [11] [(2,⟨[(1,.one (.raw (.int .i64))),(15,.one (.raw (.int .i64)))],[]⟩)] [] [] [] [] [0,11,13,18,22,28] func164 h
def CH.c{a:Option Addr}{d b:Nat}(h: K (.fn (.func 163) [] [.bt [pV a d b] 0]) u0):aa prog 113 [pV a d b] u0 K:= VC [] [] [] [] [1] [] [0,1] func113 h
def yI.c{a:Fn}{b d e:List PV}(h: ∃f i g,az e 0 1=some [pV f i g]/\ aa prog 164 [pV f i g,pI 0,pI 0,.fn (.func 165) [] [.bt [.fn a b d] 0]] u0 λk j=> ∃l m,k=(.aB [pI l,pB m])/\ K (.aB []) j):aa prog 163 [.fn a b d,.bt e 0] u0 K:= VC [] [] [] [] [2] [] [1,3] func163 h
def uC.c{a v b:Int}{d m:Bool}{e:ByteArray}{f j n:Option Addr}{i g l k p o:Nat}{q:List PV}(h: ∃s t u,az q 0 1=some [.fn s t u]/\ bP prog (.fn s t u) [pI a,.agg [pI b,pB d,pS e,pV f i g,pV j l k,pB m,pV n p o]] u0 λx w=> ∃r,x=(pB r)/\ K (pB r) w):aa prog 165 [pI a,pI v,.agg [pI b,pB d,pS e,pV f i g,pV j l k,pB m,pV n p o],.bt q 0] u0 K:= VC [6] [] [] [] [] [] [2,6,10] func165 h
def wM.c{a3 G J O:Option Addr}{D:Int}{E N:Bool}{F:ByteArray}{I H M L Q P:Nat}(h: cl u0 45 [pA a3] λe8 j0=> aa prog 112 [.agg [pI D,pB E,pS F,pV G I H,pV J M L,pB N,pV O Q P]] j0 λl6 j1=> ∃d5 d6 d7 d9 d8 e1 e0 e2 e4 e3,l6=(.agg [pI d5,pB d6,pS d7,.list 6 d9 d8,.list 6 e1 e0,pB e2,.list 7 e4 e3])/\ cl j1 126 [pI d5,pB d6,pS d7,.list 6 d9 d8,.list 6 e1 e0,pB e2,.list 7 e4 e3,pV none 0 0,.list 1 .nil [],.list 2 .nil [],.list 1 .nil [],pI 0,.list 2 .nil [],.list 1 .nil []] λe6 j9=> cl j9 110 [pA none] λb k7=> stM b 0 [pP e6 0] k7 λl2=> cl l2 84 [pI D,pB E,pS F,pV G I H,pV J M L,pB N,pV O Q P] λe7 l3=> aa prog 113 [pV (some ⟨e7,0,none⟩) 1 1] l3 λl7 l4=> ∃b4 b5 b6,l7=(.fn b4 b5 b6)/\ bk prog (.fn b4 b5 b6) (λm4 d a=> ∃m5 e f g i k j l n m o p r q,m4=[pI m5,.agg [pI e,pB f,pS g,pV i k j,pV l n m,pB o,pV p r q]]/\ ab (e == 3) (∃b9,ay a b 0 1=some [pA b9]/\ nP b9 λe5 h4=> ∃T u,ay a e5 (h4+8) 1=some [.list 1 T u]/\ (∃b7,ay a b 0 1=some [pA b7]/\ ((aR false 1 8 T u [[pI (-1)]] a λg3 l5=> nP b7 λe9 h5=> (stM e9 (h5+8) [.list 1 g3 (u++[[pI (-1)]])] l5 λj2=> d none j2)/\ True)/\ True)/\ True)/\ ((aR false 1 8 T u [[pI (-1)]] a λg4 a8=> ∃b8,ay a8 b 0 1=some [pA b8]/\ nP b8 λf7 i3=> (stM f7 (i3+8) [.list 1 g4 (u++[[pI (-1)]])] a8 λj3=> d none j3)/\ True)/\ True)/\ True) (∃d3,ay a e8 0 1=some [pA d3]/\ nP d3 λf8 i4=> ∃s,ay a f8 (i4+3) 1=some [pA s]/\ (∃C,ay a b 0 1=some [pA C]/\ (∃c6,ay a b 0 1=some [pA c6]/\ nP c6 λa4 a6=> (∃d2 U,ay a a4 (a6+8) 1=some [.list 1 d2 U]/\ (aa prog 114 [pA s,.agg [pI e,pB f,pS g,pV i k j,pV l n m,pB o,pV p r q]] a λl8 j4=> ∃a0,l8=(pI a0)/\ ((aR false 1 8 d2 U [[pI a0]] j4 λg5 j5=> nP C λf9 i5=> (stM f9 (i5+8) [.list 1 g5 (U++[[pI a0]])] j5 λj6=> d none j6)/\ True)/\ True)/\ True)/\ True)/\ (aa prog 114 [pA s,.agg [pI e,pB f,pS g,pV i k j,pV l n m,pB o,pV p r q]] a λl9 a9=> ∃a1,l9=(pI a1)/\ ∃d0 V,ay a9 a4 (a6+8) 1=some [.list 1 d0 V]/\ ((aR false 1 8 d0 V [[pI a1]] a9 λg6 j7=> nP C λg0 i6=> (stM g0 (i6+8) [.list 1 g6 (V++[[pI a1]])] j7 λj8=> d none j8)/\ True)/\ True)/\ True)/\ True)/\ (aa prog 114 [pA s,.agg [pI e,pB f,pS g,pV i k j,pV l n m,pB o,pV p r q]] a λm0 R=> ∃a2,m0=(pI a2)/\ ∃c7,ay R b 0 1=some [pA c7]/\ nP c7 λg1 i7=> ∃d1 W,ay R g1 (i7+8) 1=some [.list 1 d1 W]/\ ((aR false 1 8 d1 W [[pI a2]] R λg7 k0=> nP C λg2 i8=> (stM g2 (i8+8) [.list 1 g7 (W++[[pI a2]])] k0 λk1=> d none k1)/\ True)/\ True)/\ True)/\ True)/\ (∃c8,ay a b 0 1=some [pA c8]/\ nP c8 λa5 a7=> (∃X v,ay a a5 (a7+8) 1=some [.list 1 X v]/\ (aa prog 114 [pA s,.agg [pI e,pB f,pS g,pV i k j,pV l n m,pB o,pV p r q]] a λm1 S=> ∃y,m1=(pI y)/\ (∃c0,ay S b 0 1=some [pA c0]/\ ((aR false 1 8 X v [[pI y]] S λg8 k2=> nP c0 λf0 h6=> (stM f0 (h6+8) [.list 1 g8 (v++[[pI y]])] k2 λk3=> d none k3)/\ True)/\ True)/\ True)/\ ((aR false 1 8 X v [[pI y]] S λg9 b0=> ∃c1,ay b0 b 0 1=some [pA c1]/\ nP c1 λf1 h7=> (stM f1 (h7+8) [.list 1 g9 (v++[[pI y]])] b0 λk4=> d none k4)/\ True)/\ True)/\ True)/\ True)/\ (aa prog 114 [pA s,.agg [pI e,pB f,pS g,pV i k j,pV l n m,pB o,pV p r q]] a λm2 B=> ∃z,m2=(pI z)/\ ∃Y w,ay B a5 (a7+8) 1=some [.list 1 Y w]/\ (∃c2,ay B b 0 1=some [pA c2]/\ ((aR false 1 8 Y w [[pI z]] B λh0 k5=> nP c2 λf2 h8=> (stM f2 (h8+8) [.list 1 h0 (w++[[pI z]])] k5 λk6=> d none k6)/\ True)/\ True)/\ True)/\ ((aR false 1 8 Y w [[pI z]] B λh1 b1=> ∃c3,ay b1 b 0 1=some [pA c3]/\ nP c3 λf3 h9=> (stM f3 (h9+8) [.list 1 h1 (w++[[pI z]])] b1 λk8=> d none k8)/\ True)/\ True)/\ True)/\ True)/\ (aa prog 114 [pA s,.agg [pI e,pB f,pS g,pV i k j,pV l n m,pB o,pV p r q]] a λm3 t=> ∃A,m3=(pI A)/\ ∃c9,ay t b 0 1=some [pA c9]/\ nP c9 λf4 i0=> ∃Z x,ay t f4 (i0+8) 1=some [.list 1 Z x]/\ (∃c4,ay t b 0 1=some [pA c4]/\ ((aR false 1 8 Z x [[pI A]] t λh2 k9=> nP c4 λf5 i1=> (stM f5 (i1+8) [.list 1 h2 (x++[[pI A]])] k9 λl0=> d none l0)/\ True)/\ True)/\ True)/\ ((aR false 1 8 Z x [[pI A]] t λh3 b2=> ∃c5,ay b2 b 0 1=some [pA c5]/\ nP c5 λf6 i2=> (stM f6 (i2+8) [.list 1 h3 (x++[[pI A]])] b2 λl1=> d none l1)/\ True)/\ True)/\ True)/\ True)) (λi9 b3=> PK i9 (∃d4,ay b3 b 0 1=some [pA d4]/\ K (pA d4) b3) (False) []) l4):aa prog 66 [pA a3,.agg [pI D,pB E,pS F,pV G I H,pV J M L,pB N,pV O Q P]] u0 K:= VC [3,7,1000005,1000006] [] [] [(15,[3,84])] [] [13] [1,3,7,8,12,13,15,16,38,2011007] func66 h
def Hl.c{f k n r:Option Addr}{g:Int}{i q:Bool}{j:ByteArray}{m l p o t s:Nat}(h: nP f λE I=> ∃v d N,ay u0 E (I+7) 1=some [pV v d N]/\ ak (α:=Int) (λH a b=> ab (decide (a<((d:Nat):Int))) (bh v λF J=> 0<=a/\a<((d:Nat):Int)/\ ∃e,ay b F (J+toNat a*1) 1=some [pA e]/\ nP e λG L=> ∃w x y O z P A B Q C,ay b G L 7=some [pI w,pB x,pS y,.list 6 O z,.list 6 P A,pB B,.list 7 Q C]/\ aa prog 111 [.agg [pI w,pB x,pS y,.list 6 .sh z,.list 6 .sh A,pB B,.list 7 .sh C],.agg [pI g,pB i,pS j,pV k m l,pV n p o,pB q,pV r t s]] b λM u=> ∃D,M=(pB D)/\ ab D (K (pA e) u) (H (wrap .i64 (a+1)) u)) (K (pA none) b)) (0) u0):aa prog 65 [pA f,.agg [pI g,pB i,pS j,pV k m l,pV n p o,pB q,pV r t s]] u0 K:= VC [3] [(2,⟨[(12,.one (.raw (.int .i64)))],[]⟩)] [] [] [] [] [1,3,9,10,20] func65 h
def uY.c{V Z a2 a6:Option Addr}{W:Int}{X a5:Bool}{Y:ByteArray}{a1 a0 a4 a3 a8 a7:Nat}(h: cl u0 111 [pA V] λi k9=> cl k9 84 [pI W,pB X,pS Y,pV Z a1 a0,pV a2 a4 a3,pB a5,pV a6 a8 a7] λa l0=> cl l0 3 [pI 0] λj b4=> ∃b9 c0 c1 c2 c4 c3 c5 c7 c6 c8 c9 d1 d0,ay b4 a 0 7=some [pI b9,pB c0,pS c1,pV c2 c4 c3,pV c5 c7 c6,pB c8,pV c9 d1 d0]/\ aa prog 166 [.agg [pI b9,pB c0,pS c1,pV c2 c4 c3,pV c5 c7 c6,pB c8,pV c9 d1 d0]] b4 λm5 m1=> ∃d2 d3 d4 d6 d5 d8 d7 d9 e1 e0,m5=(.agg [pI d2,pB d3,pS d4,.list 6 d6 d5,.list 6 d8 d7,pB d9,.list 7 e1 e0])/\ stM a 0 [pI d2,pB d3,pS d4,.list 6 d6 d5,.list 6 d8 d7,pB d9,.list 7 e1 e0] m1 λm2=> cl m2 191 [pI 0] λb m3=> stM b 0 [pI 0] m3 λr=> ∃e2,ay r i 0 1=some [pA e2]/\ nP e2 λj5 k1=> ∃e3,ay r j5 (k1+1) 1=some [pA e3]/\ aa prog 167 [pA e3] r λm6 m4=> ∃e4 e5 e6,m6=(.fn e4 e5 e6)/\ bk prog (.fn e4 e5 e6) (λn6 n d=> ∃m e7 s e8 e9 t f0 u v n8 f1 f2 f3,n6=[pI m,.agg [pI e7,pB s,pS e8,.list 6 e9 t,.list 6 f0 u,pB v,.list 7 n8 f1,pI f2,pA f3]]/\ cg (α:=Unit) (λg=> ∃f4,ay d a 1 1=some [pB f4]/\ ab (s == f4) (∃f5,ay d a 5 1=some [pB f5]/\ ab (v == f5) (∃f7 f6,ay d a 3 1=some [.list 6 f7 f6]/\ aa prog 168 [.list 6 e9 t,.list 6 f7 f6] d λm8 o=> ∃f8,m8=(pB f8)/\ ab f8 (∃g0 f9,ay o a 4 1=some [.list 6 g0 f9]/\ aa prog 168 [.list 6 f0 u,.list 6 g0 f9] o λm9 l=> ∃g1,m9=(pB g1)/\ ab g1 (∃g2,ay l i 0 1=some [pA g2]/\ nP g2 λj6 k2=> ∃g3,ay l j6 (k2+1) 1=some [pA g3]/\ aa prog 169 [pA g3,pI m,.agg [pI e7,pB s,pS e8,.list 6 .sh t,.list 6 .sh u,pB v,.list 7 .sh f1,pI (wrap .i64 (f2+1)),pA f3]] l λn0 l1=> ∃n9,n0=(pB n9)/\ stM j 0 [pI m] l1 λl2=> n (some .ret) l2) (g () l)) (g () o)) (g () d)) (g () d)) (λo9 k=> ∃g4,ay k b 0 1=some [pI g4]/\ ab (m == g4) (∃g5,ay k b 0 1=some [pI g5]/\ stM b 0 [pI (wrap .i64 (g5+1))] k λl3=> n none l3) (n none k))) (λk7 e=> PK k7 (cg (α:=Option Addr) (λT=> ∃w x y A z C B D F E,ay e a 0 7=some [pI w,pB x,pS y,.list 6 A z,.list 6 C B,pB D,.list 7 F E]/\ (dh prog 170 [.list 12 .nil []] e λn1 l4=> ∃g6,n1=(pA g6)/\ cl (Mem.or e l4) 196 [pI 0,pB false,pS ⟨#[]⟩,.list 6 .nil [],.list 6 .nil [],pB false,.list 7 .nil [],pI 0,pA none] λa9 l5=> stM a9 0 [pI w,pB x,pS y,.list 6 A z,.list 6 C B,pB D,.list 7 F E,pI 1,pA g6] l5 λl6=> T (some ⟨a9,0,none⟩) l6)/\ (cl e 196 [pI 0,pB false,pS ⟨#[]⟩,.list 6 .nil [],.list 6 .nil [],pB false,.list 7 .nil [],pI 0,pA none] λb0 b5=> dh prog 170 [.list 12 .nil []] b5 λn2 l7=> ∃g7,n2=(pA g7)/\ stM b0 0 [pI w,pB x,pS y,.list 6 A z,.list 6 C B,pB D,.list 7 F E,pI 1,pA g7] (Mem.or b5 l7) λl8=> T (some ⟨b0,0,none⟩) l8)) (λb3 p=> ∃g8,ay p i 0 1=some [pA g8]/\ nP g8 λj7 k3=> ∃g9,ay p j7 k3 1=some [pA g9]/\ aa prog 171 [pA g9] p λn3 l9=> ∃h0 h1 h2,n3=(.fn h0 h1 h2)/\ bk prog (.fn h0 h1 h2) (λn7 U b6=> ∃o0 G H I J L M N O P Q R S,n7=[pI o0,.agg [pI G,pS H,pI I,pI J,pS L,pI M,pI N,pS O,pI P,pB Q,pB R,pI S]]/\ ∃h3 h4 h5 o1 h6 o2 h7 h8 o3 h9,ay b6 a 0 7=some [pI h3,pB h4,pS h5,.list 6 o1 h6,.list 6 o2 h7,pB h8,.list 7 o3 h9]/\ aa prog 172 [.agg [pI h3,pB h4,pS h5,.list 6 .sh h6,.list 6 .sh h7,pB h8,.list 7 .sh h9],.agg [pI G,pS H,pI I,pI J,pS L,pI M,pI N,pS O,pI P,pB Q,pB R,pI S]] b6 λn4 q=> ∃i0,n4=(pB i0)/\ ab i0 (aM (pA b3) λj8 k4=> ∃i1,ay q j8 (k4+8) 1=some [pA i1]/\ aa prog 173 [pA i1,.agg [pI G,pS H,pI I,pI J,pS L,pI M,pI N,pS O,pI P,pB Q,pB R,pI S]] q λn5 m0=> ∃o4,n5=(pB o4)/\ U none m0) (U none q)) (λk8 f=> PK k8 (∃i2,ay f i 0 1=some [pA i2]/\ nP i2 λj9 k5=> ∃i3,ay f j9 (k5+1) 1=some [pA i3]/\ ∃i4,ay f b 0 1=some [pI i4]/\ aM (pA b3) λk0 k6=> ∃i5 i6 i7 o5 i8 o6 i9 j0 o7 j1 j2 j3,ay f k0 k6 9=some [pI i5,pB i6,pS i7,.list 6 o5 i8,.list 6 o6 i9,pB j0,.list 7 o7 j1,pI j2,pA j3]/\ aa prog 169 [pA i3,pI i4,.agg [pI i5,pB i6,pS i7,.list 6 .sh i8,.list 6 .sh i9,pB j0,.list 7 .sh j1,pI j2,pA j3]] f λm7 b7=> ∃o8,m7=(pB o8)/\ ∃j4,ay b7 b 0 1=some [pI j4]/\ stM j 0 [pI j4] b7 λb8=> ∃b1,ay b8 j 0 1=some [pI b1]/\ K (pI b1) b8) (False) []) l9)) (∃b2,ay e j 0 1=some [pI b2]/\ K (pI b2) e) []) m4):aa prog 114 [pA V,.agg [pI W,pB X,pS Y,pV Z a1 a0,pV a2 a4 a3,pB a5,pV a6 a8 a7]] u0 K:= VC [7,10] [] [(10,⟨[],[(7,9)]⟩),(13,⟨[(8,.one (.raw .ptr))],[]⟩)] [(18,[191,196]),(75,[191,88])] [] [] [1,11] func114 h
def yP.c{b j o:Option Addr}{f:ByteArray}{g n q p:Nat}(h: aa prog 64 [.agg [pS f,pV j g n,pV o q p]] u0 λi7 m=> ∃k8 y,i7=(.aB [pI k8,pI y])/\ ab (y != 0) (K (pI y) m) (cg (α:=Unit) (λP=> nP b λe2 f7=> ∃z,ay m e2 (f7+6) 1=some [pA z]/\ (aa prog 44 [pA z,pS f] m λi8 h9=> ∃b1 b6 b3 c0 b7 c4 c1 c5,i8=(.aB [.agg [pS b1,.list 7 b6 b3,.list 19 c0 b7,.list 1 c4 c1],pB c5])/\ cl h9 108 [pS ⟨#[]⟩,.list 7 .nil [],.list 19 .nil [],.list 1 .nil []] λe3 i4=> stM e3 0 [pS b1,.list 7 b6 b3,.list 19 c0 b7,.list 1 c4 c1] i4 λX=> ab c5 (K (pI 3) X) (P () X))/\ (cl m 108 [pS ⟨#[]⟩,.list 7 .nil [],.list 19 .nil [],.list 1 .nil []] λe4 i5=> aa prog 44 [pA z,pS f] i5 λj4 i6=> ∃b2 b5 b4 b9 b8 c3 c2 c6,j4=(.aB [.agg [pS b2,.list 7 b5 b4,.list 19 b9 b8,.list 1 c3 c2],pB c6])/\ stM e4 0 [pS b2,.list 7 b5 b4,.list 19 b9 b8,.list 1 c3 c2] i6 λY=> ab c6 (K (pI 3) Y) (P () Y))) (λk9 R=> nP b λe5 f8=> ∃c7,ay R e5 (f8+2) 1=some [pA c7]/\ ak (α:=Option Addr×(Fl×Lq)×Int) (λf6 a d=> ab (decide (a.2.2<((g:Nat):Int))) (bh j λe9 g2=> 0<=a.2.2/\a.2.2<((g:Nat):Int)/\ ∃A B C D F E G I H J L N M,ay d e9 (g2+toNat a.2.2*7) 7=some [pI A,pB B,pS C,pV D F E,pV G I H,pB J,pV L N M]/\ aa prog 65 [pA a.1,.agg [pI A,pB B,pS C,pV D F E,pV G I H,pB J,pV L N M]] d λj5 Z=> ∃O,j5=(pA O)/\ cg (α:=Option Addr) (λQ=> ab (Option.isNone O) (aa prog 66 [pA b,.agg [pI A,pB B,pS C,pV D F E,pV G I H,pB J,pV L N M]] Z λj6 S=> ∃e,j6=(pA e)/\ nP a.1 λf0 g3=> ∃c9 c8,ay S f0 (g3+9) 1=some [.list 2 c9 c8]/\ aa prog 67 [pA b,pA e,.list 2 c9 c8] S λj7 T=> ∃d1 d0 d3 d2 d4,j7=(.aB [.list 2 d1 d0,.list 1 d3 d2,pB d4])/\ ab (!d4) (aa prog 68 [pA b,pA e] T λj8 h3=>
 j8=(.aB [])/\ aa prog 69 [pA b,.list 1 a.2.1.1 a.2.1.2] h3 λj9 h4=>
 j9=(.aB [])/\ K (pI 25) h4) (nP e λf1 g4=> stM f1 (g4+9) [.list 2 d1 d0] T λh5=> nP e λf2 g5=> stM f2 (g5+10) [.list 1 d3 d2] h5 λU=> nP a.1 λf3 g6=> ∃d5 d7 d6,ay U f3 (g6+7) 1=some [pV d5 d7 d6]/\ eB 1 8 110 d5 d7 d6 (.list 1 .nr [[pA e]]) U λg8 h0 g9 h6=> nP a.1 λf4 g7=> stM f4 (g7+7) [pV g8 h0 g9] h6 λh7=> Q e h7)) (Q O Z)) (λt h2=> aR false 1 8 a.2.1.1 a.2.1.2 [[pA t]] h2 λf5 h8=> f6 (t,(f5,(a.2.1.2++[[pA t]])),(wrap .i64 (a.2.2+1))) h8)) (cg (α:=Bool) (λi=> nP a.1 λr s=> nP b λk l=> (∃k4 x,ay d r (s+9) 1=some [.list 2 k4 x]/\ (∃a2,ay d k (l+1) 1=some [pI a2]/\ (aa prog 70 [pA b] d λk0 i0=> ∃d8,k0=(pI d8)/\ i (decide (((wrap .i64 (d8+(x.length:Int))):Int)>a2)) i0)/\ True)/\ (aa prog 70 [pA b] d λk1 V=> ∃d9,k1=(pI d9)/\ ∃a3,ay V k (l+1) 1=some [pI a3]/\ i (decide (((wrap .i64 (d9+(x.length:Int))):Int)>a3)) V)/\ True)/\ (∃a4,ay d k (l+1) 1=some [pI a4]/\ (aa prog 70 [pA b] d λi9 W=> ∃e0,i9=(pI e0)/\ ∃k2 a0,ay W r (s+9) 1=some [.list 2 k2 a0]/\ i (decide (((wrap .i64 (e0+(a0.length:Int))):Int)>a4)) W)/\ True)/\ (aa prog 70 [pA b] d λj0 v=> ∃e1,j0=(pI e1)/\ ∃k3 a1,ay v r (s+9) 1=some [.list 2 k3 a1]/\ ∃a5,ay v k (l+1) 1=some [pI a5]/\ i (decide (((wrap .i64 (e1+(a1.length:Int))):Int)>a5)) v)/\ True) (λh1 u=> ab h1 (aa prog 69 [pA b,.list 1 a.2.1.1 a.2.1.2] u λj1 i1=>
 j1=(.aB [])/\ K (pI 26) i1) (nP a.1 λe6 f9=> ∃a6,ay u e6 (f9+11) 1=some [pI a6]/\ nP a.1 λe7 g0=> stM e7 (g0+11) [pI (wrap .i64 (a6+1))] u λw=> nP b λe8 g1=> ∃a7,ay w e8 (g1+6) 1=some [pA a7]/\ dh prog 62 [.agg [pS f,pV j g n,pV o q p]] w λj2 i2=> ∃a8 k5 a9 k6 b0,j2=(.agg [pS a8,.list 7 k5 a9,.list 19 k6 b0])/\ aa prog 71 [pA a7,pS f,.agg [pS a8,.list 7 .sh a9,.list 19 .sh b0,.list 1 .sh a.2.1.2]] (Mem.or w i2) λj3 i3=> ∃k7,j3=(pB k7)/\ K (pI 0) i3)))) (c7,(.nil,[]),0) R))):aa prog 32 [pA b,.agg [pS f,pV j g n,pV o q p]] u0 K:= VC [3,12,1000026] [(10,⟨[(9,.one (.raw .ptr)),(10,.one (.list 1)),(43,.one (.raw (.int .i64)))],[]⟩)] [(7,⟨[],[]⟩),(23,⟨[(13,.one (.raw .ptr))],[]⟩),(27,⟨[(110,.one (.raw .bool))],[]⟩)] [] [] [] [1,12,18,41,46,48,53,85,86,89,91,124,127] func32 h
def sr.c{U F:Option Addr}{g n8:Nat}{n9:Fl}{G:Lq}(h: cl u0 45 [pA U] λa q7=> ak (α:=Int×Int) (λo9 e I=> ab (decide (e.2<((g:Nat):Int))) (bh F λo0 p3=> 0<=e.2/\e.2<((g:Nat):Int)/\ ∃k0 k1 k2 k3 k4 k5 k6 k7 k8 k9 l0 T,ay I o0 (p3+toNat e.2*12) 12=some [pI k0,pS k1,pI k2,pI k3,pS k4,pI k5,pI k6,pS k7,pI k8,pB k9,pB l0,pI T]/\ aa prog 72 [.agg [pI k0,pS k1,pI k2,pI k3,pS k4,pI k5,pI k6,pS k7,pI k8,pB k9,pB l0,pI T]] I λt1 L=> ∃l1,t1=(pB l1)/\ ab (!l1) (K (pI 9) L) (ab (decide (T<1)) (K (pI 9) L) (o9 (e.1,(wrap .i64 (e.2+1))) L))) (aa prog 48 [.list 12 .nil []] I λt2 r8=> ∃j,t2=(pA j)/\ ak (α:=Int×Int) (λp0 f Q=> ab (decide (f.2<(G.length:Int))) (0<=f.2/\∃(Z:List PV),(G)[toNat f.2]?=some Z/\ ∃l2,az Z 0 1=some [pI l2]/\ ∃l3,ay Q a 0 1=some [pA l3]/\ aa prog 73 [pA l3,pI l2] Q λu4 a7=> ∃l4 l5 l6 l7 l8 l9 m0 m1 m2 m3 m4 m5 m6,u4=(.aB [.agg [pI l4,pS l5,pI l6,pI l7,pS l8,pI l9,pI m0,pS m1,pI m2,pB m3,pB m4,pI m5],pB m6])/\ ab (!m6) (K (pI 4) a7) (aa prog 74 [pA j,.agg [pI l4,pS l5,pI l6,pI l7,pS l8,pI l9,pI m0,pS m1,pI m2,pB m3,pB m4,pI m5]] a7 λu8 a8=> ∃m7,u8=(pB m7)/\ ab (!m7) (K (pI 4) a8) (p0 (f.1,(wrap .i64 (f.2+1))) a8))) (aa prog 48 [.list 12 .nil []] Q λu9 s9=> ∃k,u9=(pA k)/\ ak (α:=Int×Int) (λV b r=> ab (decide (b.2<((g:Nat):Int))) (bh F λo1 p4=> 0<=b.2/\b.2<((g:Nat):Int)/\ ∃t u v w x y z A B C D l,ay r o1 (p4+toNat b.2*12) 12=some [pI t,pS u,pI v,pI w,pS x,pI y,pI z,pS A,pI B,pB C,pB D,pI l]/\ ∃m8,ay r a 0 1=some [pA m8]/\ aa prog 73 [pA m8,pI l] r λv0 t0=> ∃x6 x7 x8 x9 y0 y1 y2 y3 y4 y5 y6 y7 m9,v0=(.aB [.agg [pI x6,pS x7,pI x8,pI x9,pS y0,pI y1,pI y2,pS y3,pI y4,pB y5,pB y6,pI y7],pB m9])/\ aa prog 75 [pA j,.agg [pI t,pS u,pI v,pI w,pS x,pI y,pI z,pS A,pI B,pB C,pB D,pI l]] t0 λv1 J=> ∃y8 n0,v1=(.aB [pI y8,pB n0])/\ ab m9 (ab (!n0) (K (pI 3) J) (aa prog 74 [pA k,.agg [pI t,pS u,pI v,pI w,pS x,pI y,pI z,pS A,pI B,pB C,pB D,pI l]] J λv2 a0=> ∃n1,v2=(pB n1)/\ ab (!n1) (K (pI 3) a0) (V (b.1,(wrap .i64 (b.2+1))) a0))) (aa prog 74 [pA k,.agg [pI t,pS u,pI v,pI w,pS x,pI y,pI z,pS A,pI B,pB C,pB D,pI l]] J λv3 a1=> ∃n2,v3=(pB n2)/\ ab (!n2) (K (pI 3) a1) (V (b.1,(wrap .i64 (b.2+1))) a1))) (aa prog 76 [.list 1 .nil []] r λv4 q8=> ∃a9,v4=(pA a9)/\ cl q8 156 [pA none] λm q9=> stM m 0 [pA a9] q9 λr0=> aa prog 77 [pA j] r0 λt3 r1=> ∃b0 b1 b2,t3=(.fn b0 b1 b2)/\ bk prog (.fn b0 b1 b2) (λv5 n3 a2=> ∃b3 b4 b5 b6 b7 b8 b9 c0 c1 c2 c3 c4,v5=[.agg [pI b3,pS b4,pI b5,pI b6,pS b7,pI b8,pI b9,pS c0,pI c1,pB c2,pB c3,pI c4]]/\ ∃c5,ay a2 a 0 1=some [pA c5]/\ aa prog 78 [pA c5,.agg [pI b3,pS b4,pI b5,pI b6,pS b7,pI b8,pI b9,pS c0,pI c1,pB c2,pB c3,pI c4]] a2 λt4 r3=> ∃w0 R,t4=(.list 1 w0 R)/\ ak (α:=Int) (λp1 o M=> ab (decide (o<(R.length:Int))) (0<=o/\∃(W:List PV),(R)[toNat o]?=some W/\ ∃c6,az W 0 1=some [pI c6]/\ ∃c7,ay M m 0 1=some [pA c7]/\ aa prog 79 [pA c7,pI c6] M λt5 r4=> ∃w1,t5=(pB w1)/\ p1 (wrap .i64 (o+1)) r4) (n3 none M)) (0) r3) (λq2 r2=> PK q2 (aa prog 77 [pA k] r2 λt6 r5=> ∃c8 c9 d0,t6=(.fn c8 c9 d0)/\ bk prog (.fn c8 c9 d0) (λv6 n4 a3=> ∃d1 d2 d3 d4 d5 d6 d7 d8 d9 e0 e1 e2,v6=[.agg [pI d1,pS d2,pI d3,pI d4,pS d5,pI d6,pI d7,pS d8,pI d9,pB e0,pB e1,pI e2]]/\ ∃e3,ay a3 a 0 1=some [pA e3]/\ aa prog 80 [pA e3,.agg [pI d1,pS d2,pI d3,pI d4,pS d5,pI d6,pI d7,pS d8,pI d9,pB e0,pB e1,pI e2]] a3 λt7 r6=> ∃w2 S,t7=(.list 1 w2 S)/\ ak (α:=Int) (λp2 p N=> ab (decide (p<(S.length:Int))) (0<=p/\∃(X:List PV),(S)[toNat p]?=some X/\ ∃e4,az X 0 1=some [pI e4]/\ ∃e5,ay N m 0 1=some [pA e5]/\ aa prog 79 [pA e5,pI e4] N λt8 r7=> ∃w3,t8=(pB w3)/\ p2 (wrap .i64 (p+1)) r7) (n4 none N)) (0) r6) (λq3 d=> PK q3 (cg (α:=Int) (λE=> ∃e6,ay d a 0 1=some [pA e6]/\ ∃e7,ay d a 0 1=some [pA e7]/\ nP e7 λo2 p5=> ∃e8,ay d o2 (p5+2) 1=some [pA e8]/\ ∃e9,ay d a 0 1=some [pA e9]/\ nP e9 λo3 p6=> ∃f0,ay d o3 (p6+2) 1=some [pA f0]/\ nP f0 λo4 p7=> ∃f2 f1,ay d o4 (p7+9) 1=some [.list 2 f2 f1]/\ ∃f3,ay d m 0 1=some [pA f3]/\ aa prog 81 [pA e6,pA e8,.list 2 f2 f1,pB false,pA f3] d λt9 a4=> ∃f4,t9=(pB f4)/\ ab (!f4) (E 25 a4) (cl a4 3 [pI 0] λn r9=> stM n 0 [pI 0] r9 λO=> ∃f5,ay O a 0 1=some [pA f5]/\ nP f5 λo5 p8=> ∃f6,ay O o5 (p8+6) 1=some [pA f6]/\ aa prog 61 [pA f6] O λu1 s0=> ∃f7 f8 f9,u1=(.fn f7 f8 f9)/\ bk prog (.fn f7 f8 f9) (λv7 n5 P=> ∃w4 w5 w7 w6 w9 w8 x0 s,v7=[pS w4,.agg [pS w5,.list 7 w7 w6,.list 19 w9 w8,.list 1 x0 s]]/\ ∃g0,ay P n 0 1=some [pI g0]/\ 0<=(wrap .i64 ((s.length:Int)-1))/\∃(Y:List PV),(s)[toNat (wrap .i64 ((s.length:Int)-1))]?=some Y/\ ∃g1,az Y 0 1=some [pA g1]/\ nP g1 λo6 p9=> ∃x1 g2,ay P o6 (p9+12) 1=some [.list 2 x1 g2]/\ stM n 0 [pI (wrap .i64 (g0+(g2.length:Int)))] P λs1=> n5 none s1) (λq4 i=> PK q4 (∃g3,ay i n 0 1=some [pI g3]/\ ∃g4,ay i a 0 1=some [pA g4]/\ nP g4 λo7 q0=> ∃g5,ay i o7 (q0+1) 1=some [pI g5]/\ ab (decide (g3>g5)) (E 26 i) (E 0 i)) (False) []) s0)) (λH q=> ab (H == 0) (∃g6,ay q a 0 1=some [pA g6]/\ nP g6 λo8 q1=> ∃g7,ay q o8 (q1+2) 1=some [pA g7]/\ aa prog 82 [pA g7] q λu2 s2=>
 u2=(.aB [])/\ K (pI H) s2) (aa prog 77 [pA k] q λu3 s3=> ∃g8 g9 h0,u3=(.fn g8 g9 h0)/\ bk prog (.fn g8 g9 h0) (λv8 n6 a5=> ∃h1 h2 h3 h4 h5 h6 h7 h8 h9 i0 i1 i2,v8=[.agg [pI h1,pS h2,pI h3,pI h4,pS h5,pI h6,pI h7,pS h8,pI h9,pB i0,pB i1,pI i2]]/\ ∃i3,ay a5 a 0 1=some [pA i3]/\ aa prog 78 [pA i3,.agg [pI h1,pS h2,pI h3,pI h4,pS h5,pI h6,pI h7,pS h8,pI h9,pB i0,pB i1,pI i2]] a5 λu5 s5=> ∃x3 x2,u5=(.list 1 x3 x2)/\ n6 none s5) (λq5 s4=> PK q5 (aa prog 77 [pA j] s4 λu6 s6=> ∃i4 i5 i6,u6=(.fn i4 i5 i6)/\ bk prog (.fn i4 i5 i6) (λv9 n7 a6=> ∃i7 i8 i9 j0 j1 j2 j3 j4 j5 j6 j7 j8,v9=[.agg [pI i7,pS i8,pI i9,pI j0,pS j1,pI j2,pI j3,pS j4,pI j5,pB j6,pB j7,pI j8]]/\ ∃j9,ay a6 a 0 1=some [pA j9]/\ aa prog 80 [pA j9,.agg [pI i7,pS i8,pI i9,pI j0,pS j1,pI j2,pI j3,pS j4,pI j5,pB j6,pB j7,pI j8]] a6 λu7 s8=> ∃x5 x4,u7=(.list 1 x5 x4)/\ n7 none s8) (λq6 s7=> PK q6 (K (pI H) s7) (False) []) s6) (False) []) s3))) (False) []) r5) (False) []) r1)) (f.1,0) s9)) (e.1,0) r8)) (0,0) q7):aa prog 33 [pA U,pV F g n8,.list 1 n9 G] u0 K:= VC [8,12,16,17,22,25,31,32,33] [(2,⟨[(6,.one (.raw (.int .i64))),(36,.one (.raw (.int .i64)))],[]⟩),(9,⟨[(6,.one (.raw (.int .i64))),(52,.one (.raw (.int .i64)))],[]⟩),(17,⟨[(6,.one (.raw (.int .i64))),(74,.one (.raw (.int .i64)))],[]⟩),(28,⟨[(111,.one (.raw (.int .i64)))],[]⟩),(35,⟨[(126,.one (.raw (.int .i64)))],[]⟩)] [(48,⟨[(28,.one (.raw (.int .i64)))],[]⟩)] [(106,[129]),(121,[129]),(154,[118,108]),(186,[129]),(192,[129])] [] [] [1,34,72] func33 h
def uQ.c{e d:Option Addr}{z:Int}{a:ByteArray}{U V u B:Fl}{g i t A:Lq}(h: aa prog 51 [pI z,pI 9] u0 λb5 v=> ∃b,b5=(pI b)/\ cg (α:=Bool) (λs=> ab (b == 0) (s (b == 0) v) (ab (b == 1) (s (b == 1) v) (s (b == 2) v))) (λZ j=> ab Z (aa prog 9 [.agg [pS a,.list 7 .sh g,.list 19 .sh i]] j λb6 a8=> ∃k l n m o q p,b6=(.agg [pS k,pV l n m,pV o q p])/\ aa prog 32 [pA e,.agg [pS k,pV l n m,pV o q p]] a8 λc3 a9=> ∃E,c3=(pI E)/\ aa prog 9 [.agg [pS a,.list 7 .sh g,.list 19 .sh i]] a9 λc4 b0=> ∃F d1 G d2 H,c4=(.agg [pS F,.list 7 d1 G,.list 19 d2 H])/\ aa prog 41 [pA d,.agg [pS F,.list 7 .sh G,.list 19 .sh H]] b0 λc5 b1=> ∃I,c5=(pI I)/\ aa prog 52 [.agg [pS k,pV l n m,pV o q p],.agg [pS a,.list 7 .sh g,.list 19 .sh i]] b1 λc6 D=> ∃J,c6=(pB J)/\ ab (!J) (K (pB false) D) (aa prog 53 [.agg [pS k,pV l n m,pV o q p]] D λc7 b2=>
 c7=(.aB [])/\ K (pB (E == I)) b2)) (ab (b == 3) (((aa prog 54 [pA e,pS a] j λc8 b3=> ∃L,c8=(pB L)/\ (aa prog 55 [pA d,pS a] b3 λc9 b4=> ∃N,c9=(pB N)/\ K (pB (L == N)) b4)/\ True)/\ True)/\ (aa prog 54 [pA e,pS a] j λd0 a0=> ∃M,d0=(pB M)/\ (aa prog 55 [pA d,pS a] a0 λb7 a1=> ∃O,b7=(pB O)/\ K (pB (M == O)) a1)/\ True)/\ True) (aa prog 56 [pA d,.list 1 B A] j λb8 a2=> ∃x w,b8=(.list 1 x w)/\ aa prog 57 [.list 12 u t] a2 λb9 a3=> ∃y r P,b9=(pV y r P)/\ aa prog 33 [pA e,pV y r P,.list 1 x w] a3 λc0 a4=> ∃Q,c0=(pI Q)/\ aa prog 57 [.list 12 u t] a4 λc1 a5=> ∃S R,c1=(.list 12 S R)/\ aa prog 42 [pA d,.list 12 S R,.list 1 x w] a5 λc2 a6=> ∃T,c2=(pI T)/\ ak (α:=Int) (λX f C=> ab (decide (f<((r:Nat):Int))) (bh y λW Y=> 0<=f/\f<((r:Nat):Int)/\ stM W ((Y+toNat f*12)+11) [pI (-9)] C λa7=> X (wrap .i64 (f+1)) a7) (K (pB (Q == T)) C)) (0) a6)))):aa prog 18 [pA e,pA d,.agg [pI z,pS a,.list 7 U g,.list 19 V i,.list 12 u t,.list 1 B A]] u0 K:= VC [5,7,1000013] [(19,⟨[(14,.one (.raw (.int .i64)))],[]⟩)] [(5,⟨[(18,.one (.raw .bool))],[]⟩)] [] [] [] [7,11,24,26,33,38,62,64,74,79] func18 h
def qk.c(h: aa prog 16 [pI 10,pI 10] u0 λd2 m=> ∃f s,d2=(.aB [pA f,pI s])/\ ab (s != 0) (K (pB false) m) (ab (Option.isNone f) (K (pB false) m) (aa prog 29 [pS ⟨#[120]⟩] m λd3 b8=> ∃t u v,d3=(.agg [pI t,pS u,pI v])/\ aa prog 28 [pS ⟨#[]⟩,.agg [pI t,pS u,pI v]] b8 λe3 c3=> ∃w y x,e3=(pV w y x)/\ aa prog 28 [pS ⟨#[118]⟩,.agg [pI 0,pS ⟨#[]⟩,pI 0]] c3 λe4 c5=> ∃z B A,e4=(pV z B A)/\ aa prog 29 [pS ⟨#[121]⟩] c5 λe5 c6=> ∃C D E,e5=(.agg [pI C,pS D,pI E])/\ aa prog 28 [pS ⟨#[]⟩,.agg [pI C,pS D,pI E]] c6 λe6 c7=> ∃F H G,e6=(pV F H G)/\ aa prog 28 [pS ⟨#[118]⟩,.agg [pI 0,pS ⟨#[]⟩,pI 0]] c7 λe7 c8=> ∃I L J,e7=(pV I L J)/\ cl c8 84 [pI 1,pB true,pS ⟨#[115]⟩,pV w y x,pV z B A,pB false,.list 7 .sh [],pI 2,pB false,pS ⟨#[115]⟩,pV F H G,pV I L J,pB false,.list 7 .sh []] λb5 c9=> aa prog 29 [pS ⟨#[122]⟩] c9 λe8 d0=> ∃M N O,e8=(.agg [pI M,pS N,pI O])/\ cl d0 43 [pS ⟨#[115]⟩,pS ⟨#[]⟩,pI M,pS N,pI O,pI 0,pS ⟨#[118]⟩,pI 0,pS ⟨#[]⟩,pI 0,pS ⟨#[]⟩,pI 0,pS ⟨#[]⟩,pI 0,pI 1,pS ⟨#[]⟩,pI 0,pS ⟨#[]⟩,pI 0] λb6 d1=> aa prog 30 [pS ⟨#[83]⟩,pI 1] d1 λe9 a=> ∃i j k,e9=(.agg [pI i,pS j,pI k])/\ dh prog 29 [pS ⟨#[120]⟩] a λf0 b=> ∃P Q R,f0=(.agg [pI P,pS Q,pI R])/\ dh prog 31 [pI 1] (Mem.or a b) λd4 d=> ∃S T U,d4=(.agg [pI S,pS T,pI U])/\ dh prog 29 [pS ⟨#[120]⟩] (Mem.or (Mem.or a b) d) λd5 g=> ∃V W X,d5=(.agg [pI V,pS W,pI X])/\ dh prog 31 [pI 2] (Mem.or (Mem.or (Mem.or a b) d) g) λd6 n=> ∃Y Z a0,d6=(.agg [pI Y,pS Z,pI a0])/\ dh prog 29 [pS ⟨#[121]⟩] (Mem.or (Mem.or (Mem.or (Mem.or a b) d) g) n) λd7 r=> ∃a1 a2 a3,d7=(.agg [pI a1,pS a2,pI a3])/\ dh prog 31 [pI 2] (Mem.or (Mem.or (Mem.or (Mem.or (Mem.or a b) d) g) n) r) λd8 b9=> ∃a4 a5 a6,d8=(.agg [pI a4,pS a5,pI a6])/\ cl (Mem.or (Mem.or (Mem.or (Mem.or (Mem.or (Mem.or a b) d) g) n) r) b9) 88 [pI i,pS j,pI k,pI P,pS Q,pI R,pI S,pS T,pI U,pB false,pB true,pI 1,pI i,pS j,pI k,pI V,pS W,pI X,pI Y,pS Z,pI a0,pB false,pB true,pI 2,pI i,pS j,pI k,pI a1,pS a2,pI a3,pI a4,pS a5,pI a6,pB false,pB true,pI 3] λb7 c0=> aa prog 32 [pA f,.agg [pS ⟨#[97]⟩,pV (some ⟨b5,0,none⟩) 2 2,pV (some ⟨b6,0,none⟩) 1 1]] c0 λd9 c1=> ∃a7,d9=(pI a7)/\ aa prog 33 [pA f,pV (some ⟨b7,0,none⟩) 3 3,.list 1 .nil []] c1 λe0 c2=> ∃a8,e0=(pI a8)/\ aa prog 34 [pA f] c2 λe1 c4=> ∃a9 b0 b1,e1=(.fn a9 b0 b1)/\ aa prog 13 [.fn a9 b0 b1] c4 λe2 e=> ∃f1 l,e2=(.list 2 f1 l)/\ ab (a7 == 0) (ab (a8 == 0) (ab ((l.length:Int) == 1) ((0:Int)<=0/\∃(o:List PV),(l)[toNat 0]?=some o/\ ∃f2 b2,az o 1 1=some [.list 1 f2 b2]/\ ab ((b2.length:Int) == 1) ((0:Int)<=0/\∃(p:List PV),(l)[toNat 0]?=some p/\ ∃f3 b3,az p 1 1=some [.list 1 f3 b3]/\ (0:Int)<=0/\∃(q:List PV),(b3)[toNat 0]?=some q/\ ∃b4,az q 0 1=some [pI b4]/\ K (pB (b4 == 1)) e) (K (pB false) e)) (K (pB false) e)) (K (pB false) e)) (K (pB false) e)))):aa prog 7 [] u0 K:= VC [3,4] [] [] [] [] [29,35,50] [3,5,20,22,23,25,27,28,29,35,36,50,52,55,2029006,2029013] func7 h
def uS.c{a d:ByteArray}{b e:Int}(h: cl u0 102 [pI 1,pS a,pI b,pS d,pI e,.list 3 .sh []] λf g=> K (pV (some ⟨f,0,none⟩) 1 1) g):aa prog 28 [pS a,.agg [pI b,pS d,pI e]] u0 K:= VC [3] [] [] [] [] [8] [4,7,8] func28 h
end Go.Proofs.YthaeiehophlooaaGreat
namespace Go.Proofs.YthaeiehophlooaaGreat
open Go.Proofs.Tryz Go.aP Go.RowKit
abbrev SA:=Option Addr×Nat
@[reducible] def cP(c:ae)(h g e:SA):List PV:=[pI c.kind,pB c.goal,pS c.id,.raw (.slice h.1 c.attr.length h.2),.raw (.slice g.1 c.value.length g.2),pB c.acc,.raw (.slice e.1 c.conds.length e.2)]
structure pn(ν:Mem)(c:ae)(s1 s2 s3:SA):Prop where
 a:dL ν (.raw (.slice s1.1 c.attr.length s1.2)) (.list 6 .sh (c.attr.map Test.pv))
 v:dL ν (.raw (.slice s2.1 c.value.length s2.2)) (.list 6 .sh (c.value.map Test.pv))
 k:dL ν (.raw (.slice s3.1 c.conds.length s3.2)) (.list 7 .sh (c.conds.map ae.pv))
def pn.inc{g i:Mem}(e:Mem.inc g i){c:ae}{y r j:SA}(h:pn g c y r j):pn i c y r j:=⟨h.a.inc e,h.v.inc e,h.k.inc e⟩
def pn.abu{e:Mem}{c:ae}{j i g:SA}(h:pn e c j i g):cA e (cP c j i g) (cc c):=cA.cons (.same _) (cA.cons (.same _) (cA.cons (.same _) (cA.cons h.a (cA.cons h.v (cA.cons (.same _) (cA.cons h.k (cA.nil _)))))))
def pn.LZ{e:Mem}{c:ae}{j i g:SA}(h:pn e c j i g):dL e (.agg (cP c j i g)) (.agg (cc c)):=.agg rfl rfl h.abu.2
def Dx(e:Mem):Nat->List ae->Option Addr->Prop
 |0,l,_=>l=[]
 |n+1,l,a=>∀(i:Nat) (h:i<l.length),∃b r j g,a=some ⟨b,0,none⟩/\ay e b (0+i*7) 7=some (cP l[i] r j g)/\pn e l[i] r j g/\Dx e n l[i].conds g.1
def Dx.inc{g j:Mem}(e:Mem.inc g j):∀{n:Nat} {l:List ae} {a:Option Addr},Dx g n l a->Dx j n l a
 |0,_,_,h=>h
 |n+1,l,a,h=>λi C=>by
  obtain⟨b,A,y,r,J,I,H,G⟩:=h i C
  exact⟨b,A,y,r,J,oN e I,H.inc e,G.inc e⟩
def cm.ade:∀{n:Nat} {l:List ae} {a:Option Addr} {c:Nat} {A r:Mem},cm true n l (.raw (.slice a l.length c)) A->Mem.inc A r->Dx r n l a
 |0,l,a,c,A,r,h,H=>h.1
 |n+1,l,a,c,A,r,h,H=>by
  obtain⟨X,rfl,_,Y⟩:=h
  intro i U;have UM:i<X.length:=by simpa using U
  obtain⟨b,e,dF,_⟩:=ca.at_ 0 Y rfl (ND X) (j:=i) (by simpa using U);obtain⟨g,y,Hv⟩:=Y.mem (jH true n X[i]) (mem_cons_of_mem _ (mem_map.2 ⟨_,getElem_mem UM,rfl⟩));have y:Ow [bw true X[i].1.attr X[i].2.1,bw true X[i].1.value X[i].2.2.1,cm true n X[i].1.conds X[i].2.2.2] g:=y;have C:∀{I},Mem.inc I g->Mem.inc I r:=λhk b o hb=>H b o (Hv b o (hk b o hb));obtain⟨κ1,a1,b1⟩:=y.mem _ (mem_cons_self ..);obtain⟨κ2,a2,b2⟩:=y.mem _ (mem_cons_of_mem _ (mem_cons_self ..));obtain⟨κ3,G,b3⟩:=y.mem _ (mem_cons_of_mem _ (mem_cons_of_mem _ (mem_cons_self ..)));obtain⟨p1,q1,e1⟩:=a1.raw;obtain⟨p2,q2,e2⟩:=a2.raw;obtain⟨p3,q3,e3⟩:=G.raw;have O:=bw.view a1 (C b1);have L:=bw.view a2 (C b2);have J:=cm.view G (C b3);rw[e1]at O;rw[e2]at L;rw[e3]at J G;have Q:=dF 0 7 (by omega);refine⟨b,(p1,q1),(p2,q2),(p3,q3),e,oN H ?_,?_,?_⟩
  .rw[Nat.add_zero]at Q;rw[Q,getElem_map,getElem_map];show some [pI X[i].1.kind,pB X[i].1.goal,pS X[i].1.id,X[i].2.1,X[i].2.2.1,pB X[i].1.acc,X[i].2.2.2]=_;rw[e1,e2,e3]
  .rw[getElem_map];exact⟨O,L,J⟩
  .rw[getElem_map];exact G.ade (C b3)
structure oq(ν:Mem)(n:Nat)(p:Prod)(s1 s2:SA):Prop where
 c:dL ν (.raw (.slice s1.1 p.conds.length s1.2)) (.list 7 .sh (p.conds.map ae.pv))
 a:dL ν (.raw (.slice s2.1 p.bd.length s2.2)) (.list 19 .sh (p.bd.map cI.pv))
 t:Dx ν n p.conds s1.1
@[reducible] def VD(p:Prod)(g e:SA):PV:=.agg [pS p.name,.raw (.slice g.1 p.conds.length g.2),.raw (.slice e.1 p.bd.length e.2)]
def oq.inc{g i:Mem}(e:Mem.inc g i){n:Nat}{p:Prod}{r j:SA}(h:oq g n p r j):oq i n p r j:=⟨h.c.inc e,h.a.inc e,h.t.inc e⟩
def oq.LZ{e:Mem}{n:Nat}{p:Prod}{i g:SA}(h:oq e n p i g):dL e (VD p i g) (.agg p.pv):=
 .agg rfl rfl (cA.cons (.same _) (cA.cons h.c (cA.cons h.a (cA.nil _)))).2
def oq.own{n:Nat}{p:Prod}{A y:Option Addr}{r j:Nat}{e:Mem}(i:Ow [cm true n p.conds (.raw (.slice A p.conds.length r)),ca kC 19 (.raw (.slice y p.bd.length j)) (p.bd.map cI.pv)] e):oq e n p (A,r) (y,j):=by
 obtain⟨C,h,g⟩:=i.mem _ (mem_cons_self ..);exact⟨h.view g,ca.view 1 i rfl (CA _) (GS _),h.ade g⟩
def Xo{g:Mem}{p q:PV}(h:dL g p q)(r:q.ok=true):∀(i:Nat) x y,[p][i]?=some x->[q][i]?=some y->dL g x y/\y.ok=true:=λi x y e j=>by
 match i with
 |0=>simp at e j;subst e j;exact⟨h,r⟩
 |i+1=>simp at e
def afE{j:Mem}{p q A r:PV}(h:dL j p q)(C:q.ok=true)(G:dL j A r)(H:r.ok=true):∀(i:Nat) x y,[p,A][i]?=some x->[q,r][i]?=some y->dL j x y/\y.ok=true:=λi x y e g=>by
 match i with
 |0=>simp at e g;subst e g;exact⟨h,C⟩
 |1=>simp at e g;subst e g;exact⟨G,H⟩
 |i+2=>simp at e
def m_{g:Type}{f:g->List PV}{X:List g}(h:∀x∈X,∀y∈f x,y.iV=true):∀y∈(X.map f).flatten,y.iV=true:=λy e=>by
 obtain⟨r,j,e⟩:=List.mem_flatten.1 e;obtain⟨x,i,rfl⟩:=mem_map.1 j;exact h x i y e
def CD.fl{l:List Sym}{q:PV}:Flat (CD true l q):=Flat.vec (m_ λx _ y e=>by simp[Sym.pv]at e;rcases e with rfl|rfl|rfl<;>rfl)
def bw.fl{l:List Test}{p:PV}:Flat (bw true l p):=λC ⟨X,I,H,j⟩=>by
 refine⟨X,I,H,Flat.own (λA h=>?_) C j⟩;rcases mem_cons.1 h with rfl|h
 .refine Flat.vec (m_ λx G y i=>?_);obtain⟨r,g,_⟩:=j.mem (oE true x) (mem_cons_of_mem _ (mem_map.2 ⟨x,G,rfl⟩));obtain⟨a,c,e⟩:=ca.raw (show ca oD 3 x.2 _ r from g);simp only[mem_cons,not_mem_nil,or_false]at i;rcases i with rfl|rfl|rfl|rfl|rfl|rfl<;>first|rfl|(rw[e];rfl)
 .obtain⟨x,_,rfl⟩:=mem_map.1 h;exact CD.fl
def cm.fl:∀{n:Nat} {l:List ae} {p:PV},Flat (cm true n l p)
 |0,l,p=>λj h=>⟨h.1,Flat.vec (by simp) j h.2⟩
 |n+1,l,p=>λj ⟨X,O,L,C⟩=>by
  refine⟨X,O,L,Flat.own (λA e=>?_) j C⟩
  rcases mem_cons.1 e with rfl|e
  .refine Flat.vec (m_ λx J y r=>?_)
   obtain⟨i,g,Hv⟩:=C.mem (jH true n x) (mem_cons_of_mem _ (mem_map.2 ⟨x,J,rfl⟩))
   have g:Ow [bw true x.1.attr x.2.1,bw true x.1.value x.2.2.1,cm true n x.1.conds x.2.2.2] i:=g;obtain⟨I,a1,_⟩:=g.mem _ (mem_cons_self ..);obtain⟨H,a2,_⟩:=g.mem _ (mem_cons_of_mem _ (mem_cons_self ..));obtain⟨G,a3,_⟩:=g.mem _ (mem_cons_of_mem _ (mem_cons_of_mem _ (mem_cons_self ..)));obtain⟨p1,q1,Y⟩:=a1.raw;obtain⟨p2,q2,U⟩:=a2.raw;obtain⟨p3,q3,Q⟩:=a3.raw;simp only[mem_cons,not_mem_nil,or_false]at r;rcases r with rfl|rfl|rfl|rfl|rfl|rfl|rfl<;>first|rfl|(rw[Y];rfl)|(rw[U];rfl)|(rw[Q];rfl)
  .obtain⟨x,_,rfl⟩:=mem_map.1 e;refine Flat.own λA e=>?_;simp only[mem_cons,not_mem_nil,or_false]at e;rcases e with rfl|rfl|rfl
   .exact bw.fl
   .exact bw.fl
   .exact cm.fl
def abA{p:PV}{l:List cI}:Flat (ca kC 19 p (l.map cI.pv)):=Flat.vec (m_ λx _ y e=>by
 have:∀z∈x.pv,z.iV=true:=by
  intro z hz
  have:x.pv.all PV.iV=true:=rfl
  exact List.all_eq_true.1 this z hz
 exact this y e)
def adD{G:Mem}{c:ae}{J I H:SA}(h:pn G c J I H)(hl:cU c){K:Kq}(hk:K (.agg (cc (bz c))) G):aa prog 166 [.agg (cP c J I H)] G K:=by
 refine aa.ady (iz:=[.agg (cc c)]) (A:=λp y=>∃r i j g,p=.agg [pI 1,pB c.goal,pS ⟨#[]⟩,.raw (.slice r (cO c.attr).length i),.raw (.slice j (cO c.value).length g),pB c.acc,.raw (.slice none 0 0)]/\Ow [bw true (cO c.attr) (.raw (.slice r (cO c.attr).length i)),bw true (cO c.value) (.raw (.slice j (cO c.value).length g))] y) (abp (L:=[]) trivial c .sh .sh .sh hl λr i j g Q h'=>⟨r,i,j,g,rfl,h'⟩) rfl (Xo h.LZ rfl) ?_ ?_ ?_
 .rintro p y ⟨r,i,j,g,e,C⟩;refine⟨r,i,j,g,e,Flat.own (λA O=>?_) y C⟩;simp only[mem_cons,not_mem_nil,or_false]at O;rcases O with rfl|rfl<;>exact bw.fl
 .rintro p y ⟨r,i,j,g,rfl,_⟩;rfl
 .rintro p y ⟨r,i,j,g,rfl,C⟩;obtain⟨Y,t1,i1⟩:=C.mem _ (mem_cons_self ..);obtain⟨U,t2,i2⟩:=C.mem _ (mem_cons_of_mem _ (mem_cons_self ..));exact⟨.agg (cc (bz c)),.agg rfl rfl (cA.cons (.same _) (cA.cons (.same _) (cA.cons (.same _) (cA.cons (t1.view i1) (cA.cons (t2.view i2) (cA.cons (.same _) (cA.cons (.Dk none 0 7 (.inl rfl)) (cA.nil _)))))))).2,hk⟩
def PH(n:Nat){L:List aO}{j:Mem}(H:Ow L j)(c:ae)(A:ah c.conds<=n)(I:ah c.conds<=100000)(C:cU c){K:Kq}(G:∀i h g e,Ow (cm true n c.conds (.raw (.slice g.1 c.conds.length g.2))::bw true c.value (.raw (.slice h.1 c.value.length h.2))::bw true c.attr (.raw (.slice i.1 c.attr.length i.2))::L) e->K (.agg (cP c i h g)) e):
  aa prog 112 [.agg (cc c)] j K:=by
 obtain⟨_,ha,hv,Ht,Lk,y⟩:=(bJ _).1 C;refine pW.c ?_;refine wx H .sh c.attr (by omega) (cD Ht) λa1 Q u1 O1=>⟨_,_,_,rfl,?_⟩;refine wx O1 .sh c.value (by omega) (cD Lk) λY O u2 O2=>⟨_,_,_,rfl,?_⟩;exact Jt n O2 .sh c.conds A I y λU J r O3=>⟨_,_,_,rfl,G (a1,Q) (Y,O) (U,J) r O3⟩
def Wa{C:Mem}{c:ae}{j i g:SA}(h:pn C c j i g)(h6:ah c.conds<=100000)(hl:cU c){K:Kq}(hk:K (.agg (cc c)) C):aa prog 112 [.agg (cP c j i g)] C K:=by
 refine aa.ady (iz:=[.agg (cc c)]) (A:=λp r=>∃j i g,p=.agg (cP c j i g)/\Ow [cm true (ah c.conds) c.conds (.raw (.slice g.1 c.conds.length g.2)),bw true c.value (.raw (.slice i.1 c.value.length i.2)),bw true c.attr (.raw (.slice j.1 c.attr.length j.2))] r) (PH (ah c.conds) (L:=[]) trivial c (le_refl _) h6 hl λj i g H h'=>⟨j,i,g,rfl,h'⟩) rfl (Xo h.LZ rfl) ?_ ?_ ?_
 .rintro p r ⟨j,i,g,e,y⟩;refine⟨j,i,g,e,Flat.own (λA G=>?_) r y⟩;simp only[mem_cons,not_mem_nil,or_false]at G;rcases G with rfl|rfl|rfl
  .exact cm.fl
  .exact bw.fl
  .exact bw.fl
 .rintro p r ⟨j,i,g,rfl,_⟩;rfl
 .rintro p r ⟨j,i,g,rfl,y⟩;obtain⟨I,Q,i3⟩:=y.mem _ (mem_cons_self ..);obtain⟨J,U,i2⟩:=y.mem _ (mem_cons_of_mem _ (mem_cons_self ..));obtain⟨O,Y,i1⟩:=y.mem _ (mem_cons_of_mem _ (mem_cons_of_mem _ (mem_cons_self ..)));exact⟨_,pn.LZ ⟨Y.view i1,U.view i2,Q.view i3⟩,hk⟩
def adB{G:Mem}{n:Nat}{p:Prod}{I H:SA}(h:oq G n p I H)(Y:ah p.conds<=100000)(Q:bO p.conds)(ha:p.bd.length<=100000){K:Kq}(U:K (.agg p.pv) M0):dh prog 62 [VD p I H] G K:=by
 refine aa.XY (iz:=[.agg p.pv]) (A:=λq y=>∃r i j g,q=VD p (r,i) (j,g)/\Ow [cm true (ah p.conds) p.conds (.raw (.slice r p.conds.length i)),ca kC 19 (.raw (.slice j p.bd.length g)) (p.bd.map cI.pv)] y) (Xe (L:=[]) trivial .sh .sh p (ah p.conds) (le_refl _) Y Q ha λr i j g O h'=>⟨r,i,j,g,rfl,h'⟩) rfl (Xo h.LZ rfl) ?_ ?_ ?_
 .rintro q y ⟨r,i,j,g,e,C⟩;refine⟨r,i,j,g,e,Flat.own (λA J=>?_) y C⟩;simp only[mem_cons,not_mem_nil,or_false]at J;rcases J with rfl|rfl
  .exact cm.fl
  .exact abA
 .rintro q y ⟨r,i,j,g,rfl,_⟩;rfl
 .rintro q y ⟨r,i,j,g,rfl,C⟩;exact⟨_,(oq.own C).LZ,U⟩
def adE(e:Mem)(x:Nat×Nat×ae)(j:List PV):Prop:=∃i h g,j=[pI (x.1:Nat),pI (x.2.1:Nat),.agg (cP x.2.2 i h g)]/\pn e x.2.2 i h g
def Si(e:Mem)(x:Nat×Nat×ae)(j:List PV):Prop:=∃i h g,j=[pI (x.1:Nat),.agg (cP x.2.2 i h g)]/\pn e x.2.2 i h g
def adA(r:Mem)(fy:Fn)(ya yb:List PV)(hy:Cb fy True)(I:Nat->Mem->Prop)(S:Mem->Prop)(aav:∀k g,I k g->Mem.inc r g):∀(n:Nat) (l:List ae) (J:Option Addr) (cp a d j:Nat) (g:Mem),Dx r n l J->a+ah l<=1000000->d+ah l<=1000000->I j g->
  (∀(k:Nat) (x:Nat×Nat×ae) (G:List PV) (g:Mem),(dd l a d)[k]?=some x->adE r x G->I (j+k) g->bP prog (.fn fy ya yb) G g λv e=>(v=pB true/\I (j+k+1) e)\/(v=pB false/\S e))->
  aa prog 164 [.raw (.slice J l.length cp),pI (a:Nat),pI (d:Nat),.fn fy ya yb] g λp e=>(p=.aB [pI ((a+ah l:Nat):Int),pB true]/\I (j+ah l) e)\/∃x:Int,p=.aB [pI x,pB false]/\S e:=by
 intro n;induction n with
 |zero=>
  intro l J cp a d j g h _ _ hI _;have:l=[]:=h;subst this;refine rr.c ?_;exact ak.cX (n:=0) (by omega) (λk x u=>x=(a:Int)/\I j u) ⟨rfl,hI⟩ (λk x u next i=>by omega) (λx u next y=>by obtain⟨rfl,y⟩:=y;exact ab.f (by simp) (.inl ⟨rfl,y⟩))
 |succ n ih=>
  intro l J cp a d j g hT ha hd hI cV;refine rr.c ?_;have se:=cz l;refine ak.cX (n:=l.length) (by omega) (λk x u=>x=((a+ah (l.take k):Nat):Int)/\I (j+ah (l.take k)) u) ⟨by simp[ah],by simpa[ah]using hI⟩ ?_ ?_
  .rintro k _ u next i ⟨rfl,C⟩ au
   have hm:=di (getElem_mem i);have hs:=iw l (k+1);rw[dw i]at hs;have fD:=FL i a d;have nH:=j_ (l.take k) a d;obtain⟨b,s1,s2,O,rfl,dF,hB,U⟩:=hT k i;have ah9:=oN (aav _ _ C) dF;refine ab.t (by simpa using i) ⟨by omega,by omega,?_⟩;rw[toNat_natCast];refine⟨_,_,_,_,_,_,_,_,_,_,_,_,_,ah9,?_⟩
   have h0:=cV (ah (l.take k)) (a+ah (l.take k),d,l[k]) _ u (by
    rw[fD,List.append_assoc,List.getElem?_append_right (by omega),nH];simp) ⟨s1,s2,O,rfl,hB⟩ C
   refine h0.mono ?_;rintro v L (⟨rfl,kP⟩|⟨rfl,Y⟩)
   .refine⟨_,rfl,ab.f rfl ?_⟩;rw[aD (by omega) (by omega),aD (by omega) (by omega)]
    have Q:=ih l[k].conds O.1 O.2 (a+ah (l.take k)+1) (d+1) (j+ah (l.take k)+1) L U (by omega) (by omega) kP (λH x G e y CV dP=>by
     have A:=j_ l[k].conds (a+ah (l.take k)+1) (d+1)
     have bZ:H<ah l[k].conds:=by rw[<- A];exact(List.getElem?_eq_some_iff.1 y).1
     have:=cV (ah (l.take k)+1+H) x G e (by
      rw[fD,List.append_assoc,List.getElem?_append_right (by omega),nH]
      have:ah (l.take k)+1+H-ah (l.take k)=H+1:=by omega
      rw[this,cons_append,List.getElem?_cons_succ,List.getElem?_append_left (by omega)]
      exact y) CV (by rw[<- add_assoc,<- add_assoc];exact dP)
     rw[<- add_assoc,<- add_assoc]at this
     exact this)
    refine aa.mono Q ?_;rintro v μ2 (⟨rfl,xz⟩|⟨x,rfl,Y⟩)
    .refine⟨_,_,rfl,ab.f rfl (au _ _ ⟨by rw[dw i];omega,?_⟩)⟩;rw[dw i,<- add_assoc,<- add_assoc];exact xz
    .exact⟨_,_,rfl,ab.t rfl (.inr ⟨x,rfl,Y⟩)⟩
   .exact⟨_,rfl,ab.t rfl (.inr ⟨_,rfl,Y⟩)⟩
  .rintro _ u next ⟨rfl,C⟩
   refine ab.f (by simp) (.inl ?_);rw[take_length]at C |-;exact⟨rfl,C⟩
@[reducible] def Tn(a:Option Addr)(n c:Nat):PV:=.fn (.func 163) [] [.bt [.raw (.slice a n c)] 0]
def adC(a:Option Addr)(n c:Nat):Pure prog 113 [.raw (.slice a n c)] (Tn a n c):=av.of (CH.c rfl)
def Sd{e:Mem}{n:Nat}{l:List ae}{a:Option Addr}{c:Nat}(U:Dx e n l a)(hs:ah l<=1000000):UC prog (Tn a l.length c) ((dd l 0 0).map (Si e)) e:=by
 refine UC.mk λO A y I S r hy j h0 cV=>?_;show aa _ _ [.fn O A y,.bt [.raw (.slice a l.length c)] 0] _ _;refine yI.c ⟨_,_,_,rfl,?_⟩;refine aa.mono (adA e (.func 165) [] [.bt [.fn O A y] 0] trivial I S j _ l a c 0 0 0 _ U (by omega) (by omega) h0 λk x vs r J CV L=>?_) ?_
 .have Q:k<(dd l 0 0).length:=(List.getElem?_eq_some_iff.1 J).1;have i:(dd l 0 0)[k]=x:=(List.getElem?_eq_some_iff.1 J).2;obtain⟨H,G,C,rfl,Y⟩:=CV;rw[zero_add]at L |-;have:=cV k (by simpa using Q) [pI (x.1:Nat),.agg (cP x.2.2 H G C)] r (by rw[getElem_map,i];exact⟨H,G,C,rfl,Y⟩) L;show aa _ _ _ _ _;refine uC.c ⟨_,_,_,rfl,bP.mono this ?_⟩;rintro v g (⟨rfl,h⟩|⟨rfl,h⟩)
  .exact⟨_,rfl,.inl ⟨rfl,h⟩⟩
  .exact⟨_,rfl,.inr ⟨rfl,h⟩⟩
 .rintro v g (⟨rfl,h⟩|⟨x,rfl,h⟩)
  .refine⟨_,_,rfl,.inl ?_⟩;rw[zero_add]at h;rw[length_map,j_];exact h
  .exact⟨_,_,rfl,.inr h⟩
theorem ZT{L:List aO}{μ:Mem}{n:Nat}{es:List aj}{ms:dq}(hO:Ow (bH n es ms::L) μ)(hI:dE es ms)(ais:ms.length+1<1000000)(Pb:∀x∈ms,x.2.aN+1<1000000)(c:ae)(hl:cU c){ν0:Mem}(hν:∀ρ,Ow L ρ->Mem.inc ν0 ρ){s1 s2 s3:SA}(hB:pn ν0 c s1 s2 s3){K:Kq}
  (jJ:∀x∈ms,x.2.c=bz c->∀μ',Ow (bH n es (aZ aw bU (x.1,{x.2 with aN:=x.2.aN+1}) ms)::L) μ'->K (pI x.1) μ')
  (Gl:(∀x∈ms,x.2.c≠bz c)->∀μ' b,Ow (bH n es (aZ aw bU (least ms,⟨bz c,1,b,es.filter (bj (bz c))⟩) ms)::L) μ'->K (pI (least ms)) μ'):aa prog 114 [pP n 0,.agg (cP c s1 s2 s3)] μ K:=by
 obtain⟨me,mm,h⟩:=bH.open_ hO;have hlm:=hI.lm;have hle:=hI.le;have hbl:=Cw hl;have hbb:=EY hl;obtain⟨_,bl1,bl2,bl3,bl4,_⟩:=(bJ _).1 hbl;refine uY.c λb2 zN b3 Hw b4 Pl=>?_;have O1:=h.new 111 [pP n 0] zN;have O2:=O1.new 84 (cP c s1 s2 s3) Hw;have O3:=O2.new 3 [pI 0] Pl;refine⟨_,_,_,_,_,_,_,_,_,_,_,_,_,O3.rd 1 rfl (by simp),adD (hB.inc (hν _ (((hO.drop.ne zN).ne Hw).ne Pl))) hl ⟨_,_,_,_,_,_,_,_,_,_,rfl,O3.st 1 rfl (by simp) λu1 O4=>λb5 Yw=>?_⟩⟩;refine(O4.new 191 [pI 0] Yw).st 0 rfl (by simp) λu2 O5=>?_;refine⟨_,O5.rd 3 rfl (by simp),_,O5.rd 4 rfl (by simp),(AM.rm mm).call ⟨_,_,_,rfl,?_⟩⟩;have n_:((ms.map jc).map λx=>[AM.cY x.1,AM.gN x.2]).length=ms.length:=by simp
 refine bk.own (AM.fI mm (ms.map jc) (by simp;omega)) (Ow.at 6 rfl O5)
  (λk u=>(∀x∈ms.take k,x.2.c≠bz c)/\Ow (AM.cy mm (ms.map jc)::Pt b5 191 [pI (least (ms.take k))]::Pt b4 3 [pI 0]::Pt b3 84 (cc (bz c))::Pt b2 111 [pP n 0]::Pt n 198 [pP me 0,pP mm 0]::AE.cy me (es.map nE)::(ms.map dA++L)) u)
  (λcd u=>cd=.ret/\∃x∈ms,x.2.c=bz c/\Ow (Pt b4 3 [pI x.1]::bH n es (aZ aw bU (x.1,{x.2 with aN:=x.2.aN+1}) ms)::L) u)
  (λk=>eW.and (eW.own _)) (λcd=>eW.and λμ μ' hs ⟨x,h1,h2,h3⟩=>⟨x,h1,h2,h3.mono hs⟩) (λμ' h'=>⟨by simp,h'⟩) ?_ ?_ ?_
 .rintro k hk u R ⟨cM,hO⟩ bT iR;have bZ:k<ms.length:=by simpa using hk
  have Am:ms[k]∈ms:=getElem_mem bZ;have hb:=hI.bare _ Am;obtain⟨_,l1,l2,l3,l4,_⟩:=(bJ _).1 hb.vM;have hux:=hI.aN _ Am;have amp:=Pb _ Am;obtain⟨le0,le1,_,_⟩:=BK (ms.take k) (List.Pairwise.sublist (List.take_sublist _ _) hI.nD) λx hx=>(hI.num x (List.mem_of_mem_take hx)).1;rw[getElem_map,getElem_map];have XR:ms[k].2.c≠bz c->∀x∈ms.take (k+1),x.2.c≠bz c:=λaW x hx=>by
   rw[take_add_one,getElem?_eq_getElem bZ,mem_append]at hx;rcases hx with hx|hx
   .exact cM x hx
   .simp at hx;rw[hx];exact aW
  refine⟨_,_,_,_,_,_,_,_,_,_,_,_,_,rfl,λ_ u=>ms[k].2.c≠bz c/\Ow (AM.cy mm (ms.map jc)::Pt b5 191 [pI (least (ms.take k))]::Pt b4 3 [pI 0]::Pt b3 84 (cc (bz c))::Pt b2 111 [pP n 0]::Pt n 198 [pP me 0,pP mm 0]::AE.cy me (es.map nE)::(ms.map dA++L)) u,?_,?_⟩
  .refine⟨_,hO.rd 3 rfl (by simp),ab.mk (λg1=>⟨_,hO.rd 3 rfl (by simp),ab.mk (λg2=>⟨_,_,hO.rd 3 rfl (by simp),?_⟩) (λg2=>⟨λe=>?_,hO⟩)⟩) (λg1=>⟨λe=>?_,hO⟩)⟩
   .refine(YK _ _ ms[k].2.c.attr (bz c).attr (by omega) (cD l3)).call (λe1=>⟨_,rfl,ab.t rfl ⟨_,_,hO.rd 3 rfl (by simp),?_⟩⟩) (λaW=>⟨_,rfl,ab.f rfl ⟨λe=>aW (by rw[e]),hO⟩⟩);refine(YK _ _ ms[k].2.c.value (bz c).value (by omega) (cD l4)).call (λe2=>⟨_,rfl,ab.t rfl ⟨_,hO.rd 4 rfl (by simp),_,hO.rd 5 rfl (by simp),?_⟩⟩) (λaW=>⟨_,rfl,ab.f rfl ⟨λe=>aW (by rw[e]),hO⟩⟩);have g1':(ms[k].2.c.goal == (bz c).goal)=true:=g1;have g2':(ms[k].2.c.acc == (bz c).acc)=true:=g2;have ec:ms[k].2.c=bz c:=hb.eq hbb (by simpa using g1') (by simpa using g2') e1 e2;have hw:wrap .i64 (ms[k].2.aN+1)=ms[k].2.aN+1:=aD (by omega) (by omega);show aa _ _ [pP mm 0,pI ms[k].1,.agg [_,_,_,_,_,_,_,pI (wrap .i64 (ms[k].2.aN+1)),_]] _ _;rw[hw];refine AM.nh hO hI.um (by simp;omega) ms[k].1 ⟨ms[k].2.c,ms[k].2.aN+1,some ⟨ms[k].2.b,0,none⟩⟩ λμ2 h2=>⟨_,rfl,h2.st 2 rfl (by simp) λμ3 h3=>iR _ _ ⟨rfl,ms[k],Am,ec,?_⟩⟩;have e2:aZ AM.ck AM.key (ms[k].1,⟨ms[k].2.c,ms[k].2.aN+1,some ⟨ms[k].2.b,0,none⟩⟩) (ms.map jc)=(aZ aw bU (ms[k].1,{ms[k].2 with aN:=ms[k].2.aN+1}) ms).map jc:=l_ (f:=jc) (x:=(ms[k].1,{ms[k].2 with aN:=ms[k].2.aN+1}));rw[e2]at h3;refine(Ow.at 2 rfl h3).tail λν h4=>tI (mm:=mm) (me:=me) ?_;rw[HX hI Am (x':=(ms[k].1,{ms[k].2 with aN:=ms[k].2.aN+1})) rfl rfl];exact h4.tail λν h5=>h5.drop.drop.drop
   .have g2':(ms[k].2.c.acc == (bz c).acc)=false:=g2;rw[e]at g2';simp at g2'
   .have g1':(ms[k].2.c.goal == (bz c).goal)=false:=g1;rw[e]at g1';simp at g1'
  .rintro _ u ⟨aW,hO⟩;have bK:=BJ bZ;refine⟨_,hO.rd 1 rfl (by simp),ab.mk (λg=>⟨_,hO.rd 1 rfl (by simp),hO.st 1 rfl (by simp) λu3 h3=>bT _ ⟨XR aW,?_⟩⟩) (λg=>bT _ ⟨XR aW,?_⟩)⟩
   .have g:ms[k].1=least (ms.take k):=by simpa[jc]using g
    rw[if_pos g]at bK;rw[bK];have hw:wrap .i64 (least (ms.take k)+1)=least (ms.take k)+1:=aD (by omega) (by rw[length_take]at le1;omega);have YE:Ow (AM.cy mm (ms.map jc)::Pt b5 191 [pI (wrap .i64 (least (ms.take k)+1))]::Pt b4 3 [pI 0]::Pt b3 84 (cc (bz c))::Pt b2 111 [pP n 0]::Pt n 198 [pP me 0,pP mm 0]::AE.cy me (es.map nE)::(ms.map dA++L)) u3:=h3;rw[hw]at YE;exact YE
   .have g:ms[k].1≠least (ms.take k):=by simpa[jc]using g
    rw[if_neg g]at bK;rw[bK];exact hO
 .rintro u ⟨cM,hO⟩;rw[n_,take_length]at cM hO;obtain⟨aii,ak7⟩:=hI.new hbb cM 0 ais;have hun:ch AT.ck AT.key (es.filter (bj (bz c))):=ch.filter hI.xD _;refine⟨λs u=>∃b8 b,s=some ⟨b8,0,none⟩/\Ow (Pt b8 196 (cc (bz c)++[pI 1,pP b 0])::AT.At b []::AE.cy me (es.map nE)::AM.cy mm (ms.map jc)::Pt b5 191 [pI (least ms)]::Pt b4 3 [pI 0]::Pt b3 84 (cc (bz c))::Pt b2 111 [pP n 0]::Pt n 198 [pP me 0,pP mm 0]::(ms.map dA++L)) u,?_,?_⟩
  .have hO:=Ow.at 6 rfl hO;refine⟨_,_,_,_,_,_,_,_,_,_,hO.rd 4 rfl (by simp),?_,λb8 Pk=>?_⟩
   .refine aa.q (AT.gB (L:=[]) trivial .nil [] (by simp) (K:=λp μ'=>∃b,p=pP b 0/\Ow [AT.At b []] μ') λμ' b hb=>⟨b,rfl,hb⟩) ?_;rintro _ ν tT ⟨b,rfl,hb⟩;refine⟨_,rfl,λb8 Pk=>?_⟩;have h1:=hO.side tT hb;exact(h1.new 196 _ Pk).st 0 rfl (by simp) λu3 h3=>⟨b8,b,rfl,h3⟩
   .have h1:=hO.new 196 [pI 0,pB false,pS ⟨#[]⟩,.list 6 .nil [],.list 6 .nil [],pB false,.list 7 .nil [],pI 0,.raw (.pointer none)] Pk;refine aa.q (AT.gB (L:=[]) trivial .nil [] (by simp) (K:=λp μ'=>∃b,p=pP b 0/\Ow [AT.At b []] μ') λμ' b hb=>⟨b,rfl,hb⟩) ?_;rintro _ ν tT ⟨b,rfl,hb⟩;have h2:=h1.side tT hb;exact⟨_,rfl,h2.st 1 rfl (by simp) λu3 h3=>⟨b8,b,rfl,Ow.swap h3⟩⟩
  .rintro _ u ⟨b8,b,rfl,hO⟩;refine⟨_,hO.rd 7 rfl (by simp),_,hO.rd 8 rfl (by simp),(AE.rm me).call ⟨_,_,_,rfl,?_⟩⟩;have Np:((es.map nE).map λx=>[AE.cY x.1,AE.gN x.2]).length=es.length:=by simp
   refine bk.own (AE.fI me (es.map nE) (by simp;omega)) (Ow.at 2 rfl hO)
    (λk u=>Ow (AT.At b ((es.take k).filter (bj (bz c)))::AE.cy me (es.map nE)::Pt b8 196 (cc (bz c)++[pI 1,pP b 0])::AM.cy mm (ms.map jc)::Pt b5 191 [pI (least ms)]::Pt b4 3 [pI 0]::Pt b3 84 (cc (bz c))::Pt b2 111 [pP n 0]::Pt n 198 [pP me 0,pP mm 0]::(ms.map dA++L)) u)
    (λ_ _=>False) (λk=>eW.own _) (λ_ _ _ _ h=>h.elim) (λμ' h'=>(h'.tail λ_ h=>h.swap).swap) ?_ ?_ ?_
   .rintro k hk u R hO bT _;have bZ:k<es.length:=by simpa using hk
    rw[getElem_map,getElem_map];have gF:(es.take (k+1)).filter (bj (bz c))=(es.take k).filter (bj (bz c))++(if bj (bz c) es[k]=true then[es[k]]else[]):=by
     rw[take_add_one,getElem?_eq_getElem bZ,List.filter_append];congr 1;simp only[Option.toList_some,List.filter_cons,List.filter_nil]
    have iQ:∀x∈es.take k,aw (aF x) (aF es[k])<0:=λx hx=>by
     obtain⟨i,hi,rfl⟩:=List.mem_iff_getElem.1 hx;rw[List.getElem_take];simp only[length_take]at hi;exact List.pairwise_iff_getElem.1 hI.xD i k (by omega) bZ (by omega)
    refine⟨_,_,_,_,_,_,_,_,_,_,_,_,_,rfl,_,_,_,_,_,_,_,_,_,_,hO.rd 6 rfl (by simp),(TP (bz c) es[k] .sh .sh .sh hbl).call ⟨_,rfl,ab.mk (λhm=>?_) (λhm=>?_)⟩⟩
    .refine⟨_,hO.rd 2 rfl (by simp),AT.fX hO (ch.filter (List.Pairwise.sublist (List.take_sublist _ _) hI.xD) _) (by
      have:=List.length_filter_le (bj (bz c)) (es.take k)
      have:(es.take k).length<=es.length:=by rw[length_take];omega
      omega) es[k] λu3 h3=>⟨_,rfl,bT _ ?_⟩⟩
     rw[gF,if_pos hm];have hp:dB AT.ck AT.key es[k] ((es.take k).filter (bj (bz c)))=(es.take k).filter (bj (bz c))++[es[k]]:=OE AT.hc λx hx=>iQ x (List.mem_filter.1 hx).1;rw[hp]at h3;exact h3
    .refine bT _ ?_;rw[gF,if_neg (by simp[hm]),List.append_nil];exact hO
   .intro u hO;rw[Np,take_length]at hO;refine⟨_,hO.rd 7 rfl (by simp),_,hO.rd 8 rfl (by simp),_,hO.rd 4 rfl (by simp),_,_,_,_,_,_,_,_,_,_,_,_,hO.rd 2 rfl (by simp),?_⟩;have xy:=Ow.at 3 rfl hO;refine AM.nh xy hI.um (by simp;omega) (least ms) ⟨bz c,1,some ⟨b,0,none⟩⟩ λu3 h3=>⟨_,rfl,_,h3.rd 4 rfl (by simp),h3.st 5 rfl (by simp) λu4 h4=>⟨_,h4.rd 5 rfl (by simp[du]),Gl cM u4 b ?_⟩⟩;have e2:aZ AM.ck AM.key (least ms,⟨bz c,1,some ⟨b,0,none⟩⟩) (ms.map jc)=(aZ aw bU (least ms,⟨bz c,1,b,es.filter (bj (bz c))⟩) ms).map jc:=l_ (f:=jc) (x:=(least ms,⟨bz c,1,b,es.filter (bj (bz c))⟩));rw[e2]at h4;refine tI (mm:=mm) (me:=me) ?_;have pO:=(nZ ar (x:=(least ms,(⟨bz c,1,b,es.filter (bj (bz c))⟩:eF))) (L:=ms) aii).map dA;have h5:Ow (AM.cy mm ((aZ aw bU (least ms,⟨bz c,1,b,es.filter (bj (bz c))⟩) ms).map jc)::AT.At b (es.filter (bj (bz c)))::AE.cy me (es.map nE)::Pt n 198 [pP me 0,pP mm 0]::(ms.map dA++L)) u4:=h4.tail λ_ h=>h.tail λ_ h=>h.tail λ_ h=>h.drop.drop.drop.drop.drop;refine h5.tail λ_ h6=>?_;have h7:=(h6.tail λ_ h=>h.swap);have h8:Ow (Pt n 198 [pP me 0,pP mm 0]::AE.cy me (es.map nE)::(AT.At b (es.filter (bj (bz c)))::(ms.map dA++L))) _:=(h7.swap).tail λ_ h=>h.swap;refine h8.tail λ_ h=>h.tail λ_ h9=>?_;exact h9.perm (List.Perm.append_right L pO.symm)
   .intro _ _ h;exact h.elim
 .rintro cd u ⟨rfl,x,hx,ec,hO⟩;exact⟨_,hO.rd 0 rfl (by simp),jJ x hx ec u hO.drop⟩
def bQ.view{g:FuncId}{j A:List PV}{y:Prop}(h:bQ g A y){r:Mem}{K:Kq}(I:j.length=A.length)(J:∀(i:Nat) p q,j[i]?=some p->A[i]?=some q->dL r p q/\q.ok=true)(G:y->K (pB true) r)(H:¬y->K (pB false) r):aa prog g j r K:=
 aa.view h I J (λp ⟨q,e,_⟩=>by rw[e];rfl) λp ⟨q,e,C⟩=>by
  subst e;cases q with
  |true=>exact G (C.1 rfl)
  |false=>exact H λh=>by have:=C.2 h;cases this
section
variable {n:Nat} {x:NC} {es:List aj} {ids:pq}
def ZS{C:dq}{l:List Int}(j:fE es C l)(hl:l.length<=900000)(c:ae)(i:cU c){g:Mem}{s1 s2 Y:SA}(hB:pn g c s1 s2 Y){L:List aO}(G:∀r,Ow L r->Mem.inc g r){U:Mem}(hO:Ow (an n x es C ids::L) U){K:Kq}
  (hk:∀k A,fE es A (k::l)->dO A k c->iD C A->∀e,Ow (an n x es A ids::L) e->K (pI k) e):aa prog 114 [pP x.al 0,.agg (cP c s1 s2 Y)] U K:=by
 have hle:=j.len;refine ZT (an.alpha hO) j.inv (by omega) (λy H=>by have:=j.us y H;omega) c i (λr h=>G r h.drop.drop) hB (λy H hc e Q=>?_) (λhn e b Q=>?_)
 .obtain⟨O,J,I⟩:=j.one hl H hc;exact hk _ _ O J I e (an.back Q)
 .obtain⟨O,J,I⟩:=j.new hl i hn b;exact hk _ _ O J I e (an.back Q)
def ZR{ms:dq}{l:List Int}(hU:fE es ms l)(hl:l.length<=800000)(c:ae)(aJ:tE c)(hs:aQ c<=100){I:Mem}{s1 s2 J:SA}(hB:pn I c s1 s2 J){m:Nat}(hT:Dx I m c.conds J.1){L:List aO}(hν:∀ρ,Ow L ρ->Mem.inc I ρ){μ:Mem}(hO:Ow (an n x es ms ids::L) μ){K:Kq}
  (hk:∀xb f Q aC,fE es Q (aC++l)->aC.length=aQ c->kG Q aC 0 c->iD ms Q->(∀j∈aC,-1<=j)->∀μ',Ow (an n x es Q ids::Pt xb 126 (iN c f aC).pv::L) μ'->K (pP xb 0) μ'):
  aa prog 66 [pP n 0,.agg (cP c s1 s2 J)] μ K:=by
 obtain⟨ij,SR,Nr⟩:=(mT _).1 aJ;have Gh:=bN c;have nH:dd [c] 0 0=gW c 0 0:=by simp[dd]
 refine wM.c λb2 zN=>Wa (hB.inc (hν _ (hO.drop.ne zN))) (by omega) ij ⟨_,_,_,_,_,_,_,_,_,_,rfl,λA aiZ b5 Yw=>?_⟩;have O1:=hO.new 45 [pP n 0] zN;have O2:=O1.new 126 (iN c .nil []).pv aiZ;have O3:=O2.new 110 [.raw (.pointer none)] Yw;refine O3.st 0 rfl (by simp) λu h=>?_;have h0:Ow (Pt A 126 (iN c .nil []).pv::an n x es ms ids::Pt b5 110 [pP A 0]::Pt b2 45 [pP n 0]::L) u:=Ow.ord [1,2,0] h;have h1:Ow (an n x es ms ids::Pt A 126 (iN c .nil []).pv::eX .nil 0 1::Pt b5 110 [pP A 0]::Pt b2 45 [pP n 0]::L) u:=(Ow.swap h0).tail λ_ h=>h.tail λ_ h=>h.nil (.inl rfl);intro O yj;have G:=h1.new 84 (cP c s1 s2 J) yj;have aiz:Mem.inc I u:=hν _ h1.drop.drop.drop.drop.drop;have ail:I O=none:=by
  cases hx:I O with
  |none=>rfl
  |some o=>rw[aiz _ _ hx]at yj;cases yj
 obtain⟨ν1,hν1⟩:∃ν1,ν1=I.or (M0.set O (some (.cells 84 (cP c s1 s2 J)))):=⟨_,rfl⟩;have Lt:Mem.inc I ν1:=λb o hb=>by rw[hν1];exact Mem.bB hb
 have xA:ν1 O=some (.cells 84 (cP c s1 s2 J)):=by rw[hν1,Mem.bp ail,Mem.ao]
 have hνL:∀ρ,Ow (Pt O 84 (cP c s1 s2 J)::L) ρ->Mem.inc ν1 ρ:=λρ h b o hb=>by
  by_cases e:b=O
  .subst e;rw[xA]at hb;cases hb;exact h.get 0 rfl
  .refine hν ρ h.drop b o ?_;rw[hν1]at hb;cases hx:I b with
   |some o'=>rw[Mem.bB hx]at hb;exact hb
   |none=>rw[Mem.bp hx,Mem.ax _ _ e]at hb;cases hb
 have hT1:Dx ν1 (m+1) [c] (some ⟨O,0,none⟩):=λi hi=>by
  have:i=0:=by simp only[List.length_singleton]at hi;omega
  subst this;exact⟨O,s1,s2,J,rfl,aH xA (by simp),hB.inc Lt,hT.inc Lt⟩
 refine(adC _ 1 1).call ⟨_,_,_,rfl,?_⟩;have aas:((dd [c] 0 0).map (Si ν1)).length=aQ c:=by rw[length_map,nH,nU]
 refine bk.ahE (Sd (c:=1) hT1 (by simp only[ah];omega))
  (λk u=>∃f Q aC,(aC.length=k/\(fE es Q (aC++l)/\∀j∈aC,-1<=j)/\iD ms Q/\(∀(q:Nat) (y:Nat×Nat×ae),(gW c 0 0)[q]?=some y->∀hq:q<aC.length,y.2.2.kind=3\/dO Q aC[q] y.2.2))/\Ow (an n x es Q ids::Pt A 126 (iN c f aC).pv::eX f aC.length 1::Pt b5 110 [pP A 0]::Pt b2 45 [pP n 0]::Pt O 84 (cP c s1 s2 J)::L) u)
  (λ_ _=>False) (λk μ ⟨f,Q,aC,_,h⟩=>hνL μ h.drop.drop.drop.drop.drop) ⟨.nil,ms,[],⟨rfl,⟨hU,by simp⟩,iD.refl ms,λq y _ hq=>by simp at hq⟩,Ow.ord [1,1,1,1,1,0] G⟩ ?_ ?_ (λ_ _ h=>h.elim)
 .rintro k hk vs u R CV ⟨f,Q,aC,⟨n_,⟨WM,xx⟩,hK,hm⟩,H⟩ bT _;have bZ:k<(gW c 0 0).length:=by rw[<- nH];simpa using hk
  have qV:k<aQ c:=by rw[<- nU c 0 0];exact bZ
  have CV:Si ν1 ((gW c 0 0)[k]) vs:=by
   rw[getElem_map]at CV;simp only[nH]at CV;exact CV
  obtain⟨t1,t2,t3,rfl,hBk⟩:=CV;have pR:(gW c 0 0)[k]?=some (gW c 0 0)[k]:=getElem?_eq_getElem bZ;generalize hy:(gW c 0 0)[k]=y at pR hBk |-;have Qk:cU y.2.2:=BG c 0 0 y ij (by rw[<- hy];exact getElem_mem bZ);have qR:∀{f:Fl} {g:dq} {j:Int} {u:Mem} {Kx:Fl->Mem->Prop},Ow (an n x es g ids::Pt A 126 (iN c f aC).pv::eX f aC.length 1::Pt b5 110 [pP A 0]::Pt b2 45 [pP n 0]::Pt O 84 (cP c s1 s2 J)::L) u->(∀r C,Ow (eX r (aC.length+1) 1::an n x es g ids::Pt A 126 (iN c f aC).pv::Pt b5 110 [pP A 0]::Pt b2 45 [pP n 0]::Pt O 84 (cP c s1 s2 J)::L) C->Kx r C)->aR false 1 8 f (aC.map fO) [[pI j]] u Kx:=λ{f g j u Kx} h hK=>by
   have h':Ow (eX f aC.length 1::an n x es g ids::Pt A 126 (iN c f aC).pv::Pt b5 110 [pP A 0]::Pt b2 45 [pP n 0]::Pt O 84 (cP c s1 s2 J)::L) u:=Ow.ord [2] h;exact h'.app (by simp) (by simp;omega) (by simp;omega) λr C G=>hK r C G
  have XZ:∀{f r:Fl} {g:dq} {j:Int} {u:Mem} {Kx:Mem->Prop},Ow (eX r (aC.length+1) 1::an n x es g ids::Pt A 126 (iN c f aC).pv::Pt b5 110 [pP A 0]::Pt b2 45 [pP n 0]::Pt O 84 (cP c s1 s2 J)::L) u->(∀C,Ow (an n x es g ids::Pt A 126 (iN c r (aC++[j])).pv::eX r (aC++[j]).length 1::Pt b5 110 [pP A 0]::Pt b2 45 [pP n 0]::Pt O 84 (cP c s1 s2 J)::L) C->Kx C)->stM A 8 [.list 1 r (aC.map fO++[[pI j]])] u Kx:=λ{f r g j u Kx} h hK=>by
   refine h.st 2 rfl (by simp) λC G=>hK C ?_;have e:du (iN c f aC).pv 8 [.list 1 r (aC.map fO++[[pI j]])]=(iN c r (aC++[j])).pv:=by
    simp only[iN,mr.pv,map_append];rfl
   rw[e]at G;rw[show(aC++[j]).length=aC.length+1 from by simp];exact Ow.ord [1,1,0] G
  have fin:∀{r:Fl} {g:dq} {j:Int} {u:Mem},(0<=j/\fE es g (j::(aC++l)))\/(j= -1/\fE es g (aC++l))->iD Q g->(y.2.2.kind=3\/dO g j y.2.2)->Ow (an n x es g ids::Pt A 126 (iN c r (aC++[j])).pv::eX r (aC++[j]).length 1::Pt b5 110 [pP A 0]::Pt b2 45 [pP n 0]::Pt O 84 (cP c s1 s2 J)::L) u->R none u:=λ{r g j u} hu dY hmj h=>by
   refine bT _ ⟨r,g,aC++[j],⟨by simp[n_],⟨?_,λj' Kj=>?_⟩,hK.trans dY,λq z hz hq=>?_⟩,h⟩
   .rcases hu with⟨_,hu⟩|⟨rfl,hu⟩
    .exact hu.perm (by simpa using(List.perm_middle (a:=j) (l₁:=aC) (l₂:=l)).symm)
    .refine hu.as λk hk=>?_;rw[count_append,count_append,count_append,List.count_cons,if_neg (by simp;omega)];simp
   .rcases mem_append.1 Kj with Kj|Kj
    .exact xx j' Kj
    .simp only[List.mem_singleton]at Kj;subst Kj;rcases hu with⟨h0,_⟩|⟨rfl,_⟩<;>omega
   .by_cases hql:q<aC.length
    .rw[List.getElem_append_left hql];exact(hm q z hz hql).imp id (dY _ _)
    .have hqk:q=aC.length:=by simp at hq;omega
     subst hqk;rw[n_,pR]at hz;cases hz;rw[List.getElem_append_right (by omega)];simpa using hmj
  refine⟨_,_,_,_,_,_,_,_,_,_,_,_,_,_,rfl,ab.mk (λh3=>?_) (λh3=>?_)⟩
  .have YE:y.2.2.kind=3:=by simpa using h3
   have lf:∀{r C} (_:Ow (eX r (aC.length+1) 1::an n x es Q ids::Pt A 126 (iN c f aC).pv::Pt b5 110 [pP A 0]::Pt b2 45 [pP n 0]::Pt O 84 (cP c s1 s2 J)::L) C),stM A 8 [.list 1 r (aC.map fO++[[pI (-1)]])] C λVa=>R none Va:=λh=>XZ h λVa h'=>fin (.inr ⟨rfl,WM⟩) (iD.refl _) (.inl YE) h';refine⟨_,H.rd 3 rfl (by simp),_,_,H.rd 1 rfl (by simp[iN]),⟨_,H.rd 3 rfl (by simp),⟨qR H λr C h=>⟨lf h,trivial⟩,trivial⟩,trivial⟩,⟨qR H λr C h=>⟨_,h.rd 3 rfl (by simp),lf h,trivial⟩,trivial⟩,trivial⟩
  .have dc:∀{u:Mem} {Kx:Kq},Ow (an n x es Q ids::Pt A 126 (iN c f aC).pv::eX f aC.length 1::Pt b5 110 [pP A 0]::Pt b2 45 [pP n 0]::Pt O 84 (cP c s1 s2 J)::L) u->(∀j g,fE es g (j::(aC++l))->iD Q g->dO g j y.2.2->∀C,Ow (an n x es g ids::Pt A 126 (iN c f aC).pv::eX f aC.length 1::Pt b5 110 [pP A 0]::Pt b2 45 [pP n 0]::Pt O 84 (cP c s1 s2 J)::L) C->Kx (pI j) C)->aa prog 114 [pP x.al 0,.agg (cP y.2.2 t1 t2 t3)] u Kx:=λh hK=>ZS WM (by rw[length_append];omega) y.2.2 Qk hBk (λρ h=>hνL ρ h.drop.drop.drop.drop) h λj g Y a2 U C h'=>hK j g Y U a2 C h';have lf:∀{r C j g} (_:fE es g (j::(aC++l))) (_:iD Q g) (_:dO g j y.2.2) (_:Ow (eX r (aC.length+1) 1::an n x es g ids::Pt A 126 (iN c f aC).pv::Pt b5 110 [pP A 0]::Pt b2 45 [pP n 0]::Pt O 84 (cP c s1 s2 J)::L) C),stM A 8 [.list 1 r (aC.map fO++[[pI j]])] C λVa=>R none Va:=λY a2 U h=>XZ h λVa h'=>fin (.inl ⟨adx Y U,Y⟩) a2 (.inr U) h';refine⟨_,H.rd 4 rfl (by simp),_,aH (an.xt (x:=x) (es:=es) (ms:=Q) (ids:=ids) H (by simp)) (by simp),?_,?_,?_,trivial⟩
   .refine⟨_,H.rd 3 rfl (by simp),⟨_,H.rd 3 rfl (by simp),⟨_,_,H.rd 1 rfl (by simp[iN]),dc H λj g Y a2 U C h=>⟨_,rfl,⟨qR h λr u2 G=>⟨lf Y a2 U G,trivial⟩,trivial⟩,trivial⟩,trivial⟩,dc H λj g Y a2 U C h=>⟨_,rfl,_,_,h.rd 1 rfl (by simp[iN]),⟨qR h λr u2 G=>⟨lf Y a2 U G,trivial⟩,trivial⟩,trivial⟩,trivial⟩,dc H λj g Y a2 U C h=>⟨_,rfl,_,h.rd 3 rfl (by simp),_,_,h.rd 1 rfl (by simp[iN]),⟨qR h λr u2 G=>⟨lf Y a2 U G,trivial⟩,trivial⟩,trivial⟩,trivial⟩
   .refine⟨_,H.rd 3 rfl (by simp),⟨_,_,H.rd 1 rfl (by simp[iN]),dc H λj g Y a2 U C h=>⟨_,rfl,⟨_,h.rd 3 rfl (by simp),⟨qR h λr u2 G=>⟨lf Y a2 U G,trivial⟩,trivial⟩,trivial⟩,⟨qR h λr u2 G=>⟨_,G.rd 3 rfl (by simp),lf Y a2 U G,trivial⟩,trivial⟩,trivial⟩,trivial⟩,dc H λj g Y a2 U C h=>⟨_,rfl,_,_,h.rd 1 rfl (by simp[iN]),⟨_,h.rd 3 rfl (by simp),⟨qR h λr u2 G=>⟨lf Y a2 U G,trivial⟩,trivial⟩,trivial⟩,⟨qR h λr u2 G=>⟨_,G.rd 3 rfl (by simp),lf Y a2 U G,trivial⟩,trivial⟩,trivial⟩,trivial⟩
   .exact dc H λj g Y a2 U C h=>⟨_,rfl,_,h.rd 3 rfl (by simp),_,_,h.rd 1 rfl (by simp[iN]),⟨_,h.rd 3 rfl (by simp),⟨qR h λr u2 G=>⟨lf Y a2 U G,trivial⟩,trivial⟩,trivial⟩,⟨qR h λr u2 G=>⟨_,G.rd 3 rfl (by simp),lf Y a2 U G,trivial⟩,trivial⟩,trivial⟩
 .rintro u ⟨f,Q,aC,⟨n_,⟨WM,xx⟩,hK,hm⟩,H⟩;rw[aas]at n_;dsimp only[PK];refine⟨_,H.rd 3 rfl (by simp),hk A f Q aC WM n_ (WT c 0 0 aJ (λq y hy=>?_) λq y hy h3 h=>by omega) hK xx u ?_⟩
  .have hq:q<(gW c 0 0).length:=(List.getElem?_eq_some_iff.1 hy).1;rw[nU]at hq;refine⟨by omega,?_⟩;simp only[zero_add];exact hm q y hy (by omega)
  .exact H.tail λ_ h=>h.tail λ_ h=>h.drop.drop.drop.drop
end
section
variable {T:Tree} {tk:Path->List bY} {ct:Path->List Nat} {fr:Path->List bY} {mn:Path->List Nat}
def ahF(h:sf T){p:Path}(hp:p∈T.D)(c:ae){I H G:SA}{L:List aO}{j:Mem}(U:pn j c I H G)(C:Ow (cj T tk ct fr mn::L) j){K:Kq}
  (Y:p++[c]∈T.D->K (pP (T.B (p++[c])) 0) j) (h0:p++[c]∉T.D->K (.raw (.pointer none)) j):
  aa prog 65 [pP (T.B p) 0,.agg (cP c I H G)] j K:=by
 have Hu:=h.kl hp;have BV:=h.EG;obtain⟨F,Q⟩:=cj.rd hp C;refine Hl.c ⟨_,_,_,aH Q (by simp),?_⟩;refine ak.each (n:=(T.K p).length) (by omega) (λi u=>u=j/\c∉(T.K p).take i) ⟨rfl,by simp⟩ ?_ ?_
 .rintro i u next r ⟨rfl,A⟩ au
  have y:=h.Sh hp r;obtain⟨eH,Wn⟩:=h.OJ y;obtain⟨b,O,dF⟩:=cj.kid hp C r;obtain⟨F2,Lz⟩:=cj.rd y C;dsimp only[gK];rw[O];refine ab.t (by simpa using r) ⟨by omega,by simpa using r,_,by simpa using dF,?_⟩;refine⟨_,_,_,_,_,_,_,_,_,_,aH Lz (by simp),?_⟩;have J:Iz (p++[(T.K p)[i]])=(T.K p)[i]:=oX _ _;have Gh:=bN (T.K p)[i];dsimp only[gK];rw[J];refine(adf (ah (T.K p)[i].conds) .sh .sh .sh .sh .sh .sh (T.K p)[i] c (le_refl _) (by omega) ((mT _).1 eH).1).view rfl (afE (.same _) rfl U.LZ rfl) (λe=>⟨_,rfl,ab.t rfl ?_⟩) (λe=>⟨_,rfl,ab.f rfl (au _ ⟨rfl,λg=>?_⟩)⟩)
  .rw[e]at y |-;exact Y y
  .rw[take_add_one,getElem?_eq_getElem r,mem_append]at g;rcases g with g|g
   .exact A g
   .simp only[Option.toList_some,List.mem_singleton]at g;exact e g.symm
 .rintro u next ⟨rfl,A⟩
  rw[take_length]at A;exact ab.f (by simp) (h0 λg=>A ((h.kids p hp c).2 g))
end
open K6
section
variable {n:Nat} {x:NC} {es:List aj} {ps:List Prod} {w:Nat}
def X_(hw:w<100)(p:Prod)(hlp:bO p.conds)(Gg:ah p.conds<=100000)(SY:p.bd.length<=100000){ν0:Mem}{m:Nat}{s1 s2:SA}(hP:oq ν0 (m+1) p s1 s2){L:List aO}(hν:∀ρ,Ow L ρ->Mem.inc ν0 ρ){μ:Mem}(hO:Ow (fi n x es ps w::L) μ){K:Kq}
  (hk:∀e Ec C,vb x.T x.M es ps p e Ec->Ow (fi n x es Ec (w+1)::L) C->K (pI e) C):
  aa prog 32 [pP n 0,VD p s1 s2] μ K:=by
 obtain⟨a1,c1⟩:=s1;obtain⟨T,ms,ids,tk,ct,fr,mn,⟨g,mF⟩,h1⟩:=fi.open_ hO;obtain⟨ht1,ht2⟩:=g.tb;obtain⟨zi,sT⟩:=g.mb;have aea:=g.Kb;refine yP.c (aa.view (abo .sh .sh p hlp (by omega) (by omega)) rfl (Xo (hP.inc (hν _ hO.drop)).LZ rfl) (λq e=>by rw[e];rfl) λq e=>?_);subst e;refine⟨_,_,rfl,ab.mk (λhc=>?_) (λhc=>?_)⟩
 .exact hk _ _ _ (.form (by simpa using hc)) (fi.shut (g.mono (by omega) λ_ h=>h) mF (show Ow (gf n x es ms ids T tk ct fr mn ps L) μ from h1))
 have IY:(b_ p).2.1=0:=by simpa using hc
 have hpk:si p:=⟨IY,hlp⟩;obtain⟨aif,amN,adY,adX,hac,aW,hlen⟩:=hpk.facts;have YA:(ps.map (gl T.B)).length<=100:=by rw[length_map];have:=g.Kb;omega
 refine⟨λ_ u=>aL bc eQ p.name ps=none/\Ow (gf n x es ms ids T tk ct fr mn ps L) u,?_,?_⟩
 .
  dsimp only[nP,nn,aM];refine⟨_,aH (an.xt (x:=x) (es:=es) (ms:=ms) (ids:=ids) h1 (by simp)) (by simp),?_,λb7 IZ=>?_⟩
  .refine RP.jx (Ow.at 2 rfl h1) g.u (by omega) p.name (λy C U J=>?_) (λC U J=>?_)
   .refine⟨_,_,_,_,_,_,_,_,rfl,λb7 IZ=>?_⟩;refine(J.new 108 _ IZ).st 0 rfl (by simp) λu2 O=>ab.t rfl (hk _ _ _ (.there IY ?_) (fi.shut (fr:=fr) (mn:=mn) (g.mono (by omega) λ_ h=>h) mF ?_))
    .rw[EB]at U;cases hg:aL bc eQ p.name ps with
     |some z=>rfl
     |none=>rw[hg]at U;cases U
    .exact Ow.ord [1,1,0] O.drop
   .refine⟨_,_,_,_,_,_,_,_,rfl,λb7 IZ=>?_⟩;refine(J.new 108 _ IZ).st 0 rfl (by simp) λu2 O=>ab.f rfl ⟨?_,?_⟩
    .rw[EB]at U;cases hg:aL bc eQ p.name ps with
     |some z=>rw[hg]at U;cases U
     |none=>rfl
    .exact Ow.ord [1,1,0] O.drop
  .have h1b:=h1.new 108 [pS ⟨#[]⟩,.list 7 .nil [],.list 19 .nil [],.list 1 .nil []] IZ;refine RP.jx (Ow.at 3 rfl h1b) g.u (by omega) p.name (λy C U J=>?_) (λC U J=>?_)
   .refine⟨_,_,_,_,_,_,_,_,rfl,?_⟩;refine J.st 1 rfl (by simp) λu2 O=>ab.t rfl (hk _ _ _ (.there IY ?_) (fi.shut (fr:=fr) (mn:=mn) (g.mono (by omega) λ_ h=>h) mF ?_))
    .rw[EB]at U;cases hg:aL bc eQ p.name ps with
     |some z=>rfl
     |none=>rw[hg]at U;cases U
    .exact Ow.ord [1,1,0] (Ow.drop (Ow.ord [1] O))
   .refine⟨_,_,_,_,_,_,_,_,rfl,?_⟩;refine J.st 1 rfl (by simp) λu2 O=>ab.f rfl ⟨?_,?_⟩
    .rw[EB]at U;cases hg:aL bc eQ p.name ps with
     |some z=>rw[hg]at U;cases U
     |none=>rfl
    .exact Ow.ord [1,1,0] (Ow.drop (Ow.ord [1] O))
 rintro _ u1 ⟨hg,J⟩;dsimp only[nP,nn,aM];refine⟨_,aH (an.xt (x:=x) (es:=es) (ms:=ms) (ids:=ids) J (by simp)) (by simp),?_⟩;refine ak.YI (n:=p.conds.length) (by omega) (λi s y u=>∃T ms tk ct fr mn,(s=some ⟨T.B (p.conds.take i),0,none⟩/\y.2=(dQ T.B (p.conds.take i)).map (λb=>[pP b 0])/\ta x T es ms ids tk ct ps (w+1) (λr=>r <+: p.conds.take i)/\p.conds.take i∈T.D/\T.D.length<=1+16*w+i)/\Ow (gf n x es ms ids T tk ct fr mn ps (eX y.1 i 1::L)) u) ?_ ?_ ?_
 .refine⟨T,ms,tk,ct,fr,mn,⟨?_,by simp[dQ],g.mono (by omega) λ_ h=>h.elim,g.core.tree.root,by have:=g.dl;omega⟩,?_⟩
  .rw[List.take_zero,<- g.root]
  .exact J.tail λ_ h=>h.tail λ_ h=>h.tail λ_ h=>h.tail λ_ h=>h.nil (.inl rfl)
 .have So:=mF;clear g mF h1 J YA;rintro i s ⟨fl,_⟩ u next hi ⟨T,ms,tk,ct,fr,mn,⟨rfl,rfl,g,Q,hdl⟩,J⟩ au
  obtain⟨bb,t1,t2,t3,ea,dF,hBc,hTc⟩:=hP.t i hi;have hνu:=hν _ J.drop.drop.drop.drop.drop;have ep:p.conds.take (i+1)=p.conds.take i++[p.conds[i]]:=by rw[take_add_one,getElem?_eq_getElem hi];rfl
  have hql:(p.conds.take i).length=i:=by rw[length_take];omega
  have eH:=lQ.1 aif _ (getElem_mem hi);have Wn:ah (p.conds.take (i+1))<=16:=Nat.le_trans (gV _ _) adX;have akz:aQ p.conds[i]<=16:=by rw[mQ hi]at Wn;omega
  generalize hq:p.conds.take i=q at*
  have hci:p.conds[i]=p.conds[i]:=rfl;generalize hc:p.conds[i]=c at*
  have hqE:dQ T.B q=dQ T.B (p.conds.take i):=by rw[hq]
  dsimp only;rw[show a1=some ⟨bb,0,none⟩from ea];refine ab.t (by simpa using hi) ⟨by omega,by omega,?_⟩;rw[toNat_natCast];refine⟨_,_,_,_,_,_,_,_,_,_,_,_,_,oN hνu dF,?_⟩;have Yp:∀(G:Tree) (Y:dq) (vd:Path->List bY) (zw:Path->List Nat) (oc:Path->List bY) (nG:Path->List Nat) (H:Mem),ta x G es Y ids vd zw ps (w+1) (λr=>r <+: q++[c])->q++[c]∈G.D->G.D.length<=1+16*w+(i+1)->dQ G.B q=dQ T.B q->Ow (gf n x es Y ids G vd zw oc nG ps (eX fl i 1::L)) H->aR false 1 8 fl ((dQ T.B q).map λb=>[pP b 0]) [[pP (G.B (q++[c])) 0]] H λf95 ahh=>next (some ⟨G.B (q++[c]),0,none⟩,(f95,(((dQ T.B q).map λb=>[pP b 0])++[[pP (G.B (q++[c])) 0]])),(wrap .i64 ((i:Int)+(1)))) ahh:=λG Y vd zw oc nG H hR' Pn aaA ZZ O=>by
   have I:Ow (eX fl i 1::an n x es Y ids::cj G vd zw oc nG::RP.cy x.pr (ps.map (gl G.B))::RT.At x.el es::L) H:=Ow.ord [4] O;refine I.app (by rw[length_map,jA,hql]) (by simp;omega) (by simp;omega) λf' u2 h5=>au _ _ _ ⟨G,Y,vd,zw,oc,nG,⟨by rw[ep],?_,by rw[ep];exact hR',by rw[ep];exact Pn,aaA⟩,?_⟩
   .rw[Ks G.B p.conds hi,map_append,hq,ep,ZZ];rfl
   .exact Ow.ord [1,1,1,1,0] h5
  refine ahF g.core.tree Q c (hBc.inc hνu) (Ow.swap J) (λfL=>⟨_,rfl,?_⟩) (λaal=>⟨_,rfl,?_⟩)
  .refine⟨λs H=>s=some ⟨T.B (q++[c]),0,none⟩/\H=u,ab.f rfl ⟨rfl,rfl⟩,?_⟩;rintro s H ⟨rfl,rfl⟩;exact Yp T ms tk ct fr mn H (g.mono (le_refl _) λr (hr:r <+: q)=>hr.trans (List.prefix_append _ _)) fL (by omega) rfl J
  .have jK:=g.core.tree.EG;have Yk:=g.core.adq;have amC:=g.core.tree.len q Q;refine⟨λs H=>∃G Y vd zw oc nG,(s=some ⟨G.B (q++[c]),0,none⟩/\ta x G es Y ids vd zw ps (w+1) (λr=>r <+: q++[c])/\q++[c]∈G.D/\G.D.length<=1+16*w+(i+1)/\dQ G.B q=dQ T.B q)/\Ow (gf n x es Y ids G vd zw oc nG ps (eX fl i 1::L)) H,ab.t rfl ?_,?_⟩
   .refine ZR g.core.use (by omega) c eH (by omega) hBc hTc (λρ h=>hν ρ h.drop.drop.drop.drop) J λxb f Y aC gw n_ tY zj xx u2 O=>⟨_,rfl,?_⟩;dsimp only[nP,nn,aM];have h3n:Ow (cj T tk ct fr mn::an n x es Y ids::Pt xb 126 (iN c f aC).pv::RP.cy x.pr (ps.map (gl T.B))::RT.At x.el es::eX fl i 1::L) u2:=Ow.ord [2] O;obtain⟨F,hF⟩:=cj.rd Q h3n;have gF:=g.core.dW.tok q Q;refine⟨_,_,aH hF (by simp),?_⟩;dsimp only[gK];rw[gF];have hlq:(aE es q).length<=1000001:=by
     by_cases e:q=[]
     .subst e;simp[aE]
     .obtain⟨r,d,rfl⟩:=oH e;have I:=g.core.dW.le r d Q 0;rw[jM,<- dv]at I;omega
    have hbb:=xE (es:=es) (oO (g.core.tree.ZD q Q));have hsq:=g.core.tree.size q Q;refine NF (n:=n) (x:=x) (ids:=ids) gw.inv g.ids ⟨by omega,by omega⟩ (xb:=xb) (iN c f aC) eH (by show aQ c<=100;omega) tY n_ (aE es q) _ hlq (λt ht=>by have:=hbb t ht;omega) O (λhle f2 u3 I=>⟨_,_,_,_,_,rfl,ab.f rfl ?_⟩) (λYq u3 I=>⟨_,_,_,_,_,rfl,ab.t rfl ?_⟩)
    .
     have hle:∀j,((dI es c (aE es q) j:Nat):Int)<=x.T:=hle;refine I.st 1 rfl (by simp) λu4 h5=>?_;refine h5.st 1 rfl (by simp[du]) λu5 h6=>?_;have h6n:Ow (cj T tk ct fr mn::Pt xb 126 (sW c f aC f2 (stepT es c (aE es q)) .sh (km es c (aE es q))).pv::an n x es Y ids::RP.cy x.pr (ps.map (gl T.B))::RT.At x.el es::eX fl i 1::L) u5:=by
      have e:(sW c f aC f2 (stepT es c (aE es q)) .sh (km es c (aE es q))).pv=du (du (iN c f aC).pv 9 [.list 2 f2 ((stepT es c (aE es q)).map bY.pv)]) 10 [.list 1 .sh ((km es c (aE es q)).map kD)]:=rfl;rw[e];exact Ow.ord [2,1] h6
     obtain⟨F2,Lz⟩:=cj.rd Q h6n;refine⟨_,_,_,aH Lz (by simp),?_⟩;dsimp only[gK];refine cj.abz g.core.tree Q aal h6n (K:=_) λs u6 h7=>?_;have aik:∀r∈T.D,r≠q++[c]:=λr hr e=>aal (e▸hr);have hBo:∀r∈T.D,(T.add q c xb aC s).B r=T.B r:=λr hr=>aS (aik r hr);refine⟨T.add q c xb aC s,Y,aI tk (q++[c]) (stepT es c (aE es q)),aI ct (q++[c]) (km es c (aE es q)),aI fr (q++[c]) [],aI mn (q++[c]) [],⟨?_,g.add Q aal (by omega) eH (by rw[<- ep];omega) n_ (by omega) gw zj tY hle (by omega) xx,?_,?_,?_⟩,?_⟩
     .show some (⟨xb,0,none⟩:Addr)=some ⟨aI T.B (q++[c]) xb (q++[c]),0,none⟩;rw[cB]
     .show q++[c]∈T.D++[q++[c]];simp
     .show(T.D++[q++[c]]).length<=_;rw[length_append,List.length_singleton];omega
     .exact MT g.core.tree hBo Q
     .show Ow (an n x es Y ids::cj _ _ _ _ _::RP.cy x.pr (ps.map (gl (T.add q c xb aC s).B))::RT.At x.el es::eX fl i 1::L) u6;rw[Rx g.core.tree hBo g.pD];exact Ow.swap h7
    .
     obtain⟨j,hj⟩:=Yq;have hj:x.T<((dI es c (aE es q) j:Nat):Int):=hj;refine NJ (iN c f aC) (l:=T.D.flatMap T.M) gw (by show aC.length<=1000;omega) I λKc Hs hK2 u4 h5=>⟨rfl,?_⟩;have hC2:jz x.T T es Kc tk ct:=⟨g.core.tree,Hs,λr d hd=>t_ (λj hj d' hm=>hK2 j d' (List.mem_flatMap.2 ⟨_,hd,hj⟩) (zj j d' hm)) d 0 (g.core.fit r d hd),g.core.dW⟩;have h6:Ow (an n x es Kc ids::cj T tk ct fr mn::RP.cy x.pr (ps.map (gl T.B))::RT.At x.el es::eX fl i 1::L) u4:=h5.tail λ_ h=>h.drop;refine LM q (by omega) hC2 Q g.Dj g.root _ h6 λG XS u5 hC3 hN3 YC hE3 iQ pQ h7=>⟨rfl,?_⟩;have hR2:ta x T es Kc ids tk ct ps (w+1) (λr=>r <+: q):=⟨hC2,g.Dj,g.ids,g.root,g.tb,g.mb,g.Dc,g.Ee,g.pD,g.ends,g.tags,g.Kb,g.dl⟩;refine hk _ _ _ (.dW IY hg ⟨i,hi,j,?_⟩) (fi.shut (fr:=fr) (mn:=mn) (hR2.KU hC3 hN3 YC hE3 iQ pQ) ?_ ?_)
     .rw[hc,hq];exact hj
     .exact So
     .show Ow (an n x es XS ids::cj G tk ct fr mn::RP.cy x.pr (ps.map (gl G.B))::RT.At x.el es::L) u5;rw[YC];exact h7.tail λ_ h=>h.tail λ_ h=>h.tail λ_ h=>h.tail λ_ h=>h.drop
   .rintro s H ⟨G,Y,vd,zw,oc,nG,⟨rfl,hR',Pn,aaA,ZZ⟩,O⟩;exact Yp G Y vd zw oc nG H hR' Pn aaA ZZ O
 .have So:=mF;clear g mF h1 J YA;rintro s ⟨fl,_⟩ u next ⟨T,ms,tk,ct,fr,mn,⟨rfl,rfl,g,Q,hdl⟩,J⟩
  dsimp only;rw[take_length]at g Q |-;refine ab.f (by simp) ?_;have gF:=g.core.dW.tok _ Q;have BV:=g.core.tree.EG;have aeq:∀r∈T.D,(tk r).length<=1024:=λr hr=>by
   rw[g.core.dW.tok r hr];by_cases e:r=[]
   .subst e;simp[aE]
   .obtain⟨q,d,rfl⟩:=oH e;have I:=g.core.dW.le q d hr 0;rw[jM,<- dv]at I;omega
  have IL:¬dG x.T es p.conds:=by
   rintro⟨i,hi,j,hj⟩;have hD1:p.conds.take i++[p.conds[i]]∈T.D:=by
    have:p.conds.take (i+1)=p.conds.take i++[p.conds[i]]:=by rw[take_add_one,getElem?_eq_getElem hi];rfl
    rw[<- this];exact g.core.tree.OG Q (List.take_prefix _ _)
   have:=g.core.dW.le _ _ hD1 j;omega
  have adZ:(ps.map λq=>(tk q.conds).length).sum=cJ es ps:=by
   unfold cJ;congr 1;exact List.map_congr_left λq hq=>by rw[g.core.dW.tok _ (g.pD q hq)]
  have Yj:ps.length<=100:=by have:=g.Kb;omega
  have WB:∀{H:Mem} {Kx:Kq},Ow (gf n x es ms ids T tk ct fr mn ps (eX fl p.conds.length 1::L)) H->(∀C,Ow (gf n x es ms ids T tk ct fr mn ps (eX fl p.conds.length 1::L)) C->Kx (pI ((cJ es ps:Nat):Int)) C)->aa prog 70 [pP n 0] H Kx:=λ{H Kx} O hKx=>by
   refine ajC (by omega) (λq hq=>?_) (λq hq=>Nat.le_succ_of_le (aeq _ (g.pD q hq))) O λC I=>?_
   .obtain⟨_,_,_,_,_,g1,g2⟩:=(g.Ee q hq).facts;exact⟨g.pD q hq,g1,by omega⟩
   .rw[adZ];exact hKx C I
  have aad:∀{H:Mem},Ow (gf n x es ms ids T tk ct fr mn ps (eX fl p.conds.length 1::L)) H->∃f,ay H (T.B p.conds) (0+9) 1=some [.list 2 f ((aE es p.conds).map bY.pv)]:=λ{H} O=>by
   obtain⟨F,hF⟩:=cj.rd Q (Ow.swap O);have:=aH (o:=0+9) (n:=1) hF (by simp);dsimp only[gK]at this;rw[gF]at this;exact⟨_,this⟩
  have Ws:∀{H:Mem},Ow (gf n x es ms ids T tk ct fr mn ps (eX fl p.conds.length 1::L)) H->ay H n (0+1) 1=some [pI x.M]:=λ{H} O=>aH (an.xt (x:=x) (es:=es) (ms:=ms) (ids:=ids) O (by simp)) (by simp);have hJ:decide (wrap .i64 (((cJ es ps:Nat):Int)+((((aE es p.conds).map bY.pv).length:Nat):Int))>x.M)=decide (x.M<((cJ es ps+(aE es p.conds).length:Nat):Int)):=by
   have h5:=aeq _ Q;rw[gF]at h5;rw[length_map,aD (by omega) (by omega)];congr 1
  refine⟨λb H=>b=decide (x.M<((cJ es ps+(aE es p.conds).length:Nat):Int))/\Ow (gf n x es ms ids T tk ct fr mn ps (eX fl p.conds.length 1::L)) H,?_,?_⟩
  .dsimp only[nP,nn,aM];obtain⟨f0,hf0⟩:=aad J;refine⟨⟨_,_,hf0,⟨_,Ws J,WB J λC I=>⟨_,rfl,hJ,I⟩,trivial⟩,WB J λC I=>⟨_,rfl,_,Ws I,hJ,I⟩,trivial⟩,⟨_,Ws J,WB J λC I=>?_,trivial⟩,WB J λC I=>?_,trivial⟩
   .obtain⟨f1,hf1⟩:=aad I;exact⟨_,rfl,_,_,hf1,hJ,I⟩
   .obtain⟨f1,hf1⟩:=aad I;exact⟨_,rfl,_,_,hf1,_,Ws I,hJ,I⟩
  .rintro b H ⟨rfl,O⟩;refine ab.mk (λhb=>?_) (λhb=>?_)
   .have jh:x.M<((cJ es ps+(aE es p.conds).length:Nat):Int):=by simpa using hb
    refine LM p.conds (by omega) g.core Q g.Dj g.root _ O λG XS u5 hC3 hN3 YC hE3 iQ pQ h7=>⟨rfl,?_⟩;refine hk _ _ _ (.eb IY hg IL jh) (fi.shut (fr:=fr) (mn:=mn) (g.KU hC3 hN3 YC hE3 iQ pQ) So ?_);show Ow (an n x es XS ids::cj G tk ct fr mn::RP.cy x.pr (ps.map (gl G.B))::RT.At x.el es::L) u5;rw[YC];exact h7.tail λ_ h=>h.tail λ_ h=>h.tail λ_ h=>h.tail λ_ h=>h.drop
   .have jh:((cJ es ps+(aE es p.conds).length:Nat):Int)<=x.M:=by
     have:¬x.M<((cJ es ps+(aE es p.conds).length:Nat):Int):=by simpa using hb
     omega
    have ajj:T.E p.conds<=100:=by
     rw[g.ends _ Q];exact Nat.le_trans (List.length_filter_le _ _) Yj
    obtain⟨A,B,F,eD,I⟩:=cj.out Q (Ow.swap O);refine⟨_,I.rd 0 rfl (by simp),?_⟩;refine I.st 0 rfl (by simp) λu2 h5=>?_;have Yc:wrap .i64 (((T.E p.conds:Nat):Int)+1)=((T.E p.conds+1:Nat):Int):=by rw[aD (by omega) (by omega)];omega
    rw[Yc]at h5;have h6:Ow (cj (T.ends p.conds (T.E p.conds+1)) tk ct fr mn::an n x es ms ids::RP.cy x.pr (ps.map (gl T.B))::RT.At x.el es::eX fl p.conds.length 1::L) u2:=cj.ends g.core.tree.nodup eD h5;refine⟨_,aH (an.xt (x:=x) (es:=es) (ms:=ms) (ids:=ids) h6 (by simp)) (by simp),?_⟩;refine adB (hP.inc (hν _ h6.drop.drop.drop.drop.drop)) Gg hlp SY ⟨_,_,_,_,_,rfl,?_⟩;rw[Mem.pK];refine RP.nh (l:=ps.map (gl T.B)) (Ow.at 2 rfl h6) g.u (by rw[length_map];omega) p.name ⟨p,dQ T.B p.conds⟩ λu3 h7=>⟨_,rfl,?_⟩;have ye:ps.length+1<=w+1:=by
     have aiL:=g.Kb;have:=aea;omega
    refine hk _ _ _ (.ok IY hg IL jh) (fi.shut (fr:=fr) (mn:=mn) (g.put hpk Q hg ye) ?_ ?_)
    .rw[xG (nZ (ck:=bc) (key:=eQ) bX (L:=ps) (x:=p) hg)];show(((((p::ps).map λq=>(aE es q.conds).length).sum:Nat)):Int)<=x.M;rw[map_cons,List.sum_cons];unfold cJ at jh;omega
    .show Ow (an n x es ms ids::cj (T.ends p.conds (T.E p.conds+1)) tk ct fr mn::RP.cy x.pr ((aZ bc eQ p ps).map (gl T.B))::RT.At x.el es::L) u3;have e2:aZ RP.ck RP.key (p.name,⟨p,dQ T.B p.conds⟩) (ps.map (gl T.B))=(aZ bc eQ p ps).map (gl T.B):=l_ (f:=gl T.B) (x:=p);rw[e2]at h7;exact(Ow.ord [2,1,0] h7).tail λ_ h=>h.tail λ_ h=>h.tail λ_ h=>h.tail λ_ h=>h.drop
end
end Go.Proofs.YthaeiehophlooaaGreat
