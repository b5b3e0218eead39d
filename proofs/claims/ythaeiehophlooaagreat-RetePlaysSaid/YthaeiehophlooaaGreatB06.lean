import Derived.Test.YthaeiehophlooaaGreatB05
open Go.IntKind (wrap)
open List (all_eq_true append_assoc drop_drop filter_append filter_cons filter_eq_self filter_map getElem?_eq_getElem getElem_drop getElem_map getElem_mem getElem_take length_append length_cons length_drop length_map length_take map_append map_cons mem_append mem_cons mem_filter mem_iff_getElem mem_map pairwise_cons set_cons_zero take_add_one take_append_drop)
open Nat (le_refl lt_trans min_eq_left sub_self zero_add)
set_option linter.all false
namespace Go.aP
open Go.RowKit
def fH(a:ByteArray):aG a a=true:=bM.2 rfl
def qw{a b:ByteArray}:aG a b=false↔a≠b:=by
 cases h:aG a b with
 |true=>simp[bM.1 h]
 |false=>
  simp only[true_iff];intro e;rw[bM.2 e]at h;cases h
structure Sym where
 k:Int
 t:ByteArray
 n:Int
@[reducible] def Sym.pv(s:Sym):List PV:=[pI s.k,pS s.t,pI s.n]
structure Bind where
 v:ByteArray
 s:Sym
@[reducible] def Bind.pv(b:Bind):List PV:=[pS b.v,pI b.s.k,pS b.s.t,pI b.s.n]
structure Test where
 rel:Int
 var:ByteArray
 sym:Sym
 list:List Sym
@[reducible] def Test.pv(t:Test):List PV:=[pI t.rel,pS t.var,pI t.sym.k,pS t.sym.t,pI t.sym.n,.list 3 .sh (t.list.map Sym.pv)]
structure aj where
 id:Sym
 attr:Sym
 value:Sym
 acc:Bool
 goal:Bool
 tag:Int
@[reducible] def aj.pv(e:aj):List PV:=[pI e.id.k,pS e.id.t,pI e.id.n,pI e.attr.k,pS e.attr.t,pI e.attr.n,pI e.value.k,pS e.value.t,pI e.value.n,pB e.acc,pB e.goal,pI e.tag]
inductive ae where
 |mk (kind:Int) (goal:Bool) (id:ByteArray) (attr value:List Test) (acc:Bool) (conds:List ae)
namespace ae
def kind:ae->Int| .mk k _ _ _ _ _ _=>k
def goal:ae->Bool| .mk _ g _ _ _ _ _=>g
def id:ae->ByteArray| .mk _ _ i _ _ _ _=>i
def attr:ae->List Test| .mk _ _ _ a _ _ _=>a
def value:ae->List Test| .mk _ _ _ _ v _ _=>v
def acc:ae->Bool| .mk _ _ _ _ _ a _=>a
def conds:ae->List ae| .mk _ _ _ _ _ _ c=>c
end ae
mutual
def ae.pv:ae->List PV
 | .mk k g i a v ac cs=>[pI k,pB g,pS i,.list 6 .sh (a.map Test.pv),.list 6 .sh (v.map Test.pv),pB ac,.list 7 .sh (ae.pvs cs)]
def ae.pvs:List ae->Lq
 |[]=>[]
 |c::cs=>ae.pv c::ae.pvs cs
end
def ae.Rs:∀cs:List ae,ae.pvs cs=cs.map ae.pv
 |[]=>rfl
 |c::cs=>by simp[ae.pvs,ae.Rs cs]
def ae.de(c:ae):c.pv=[pI c.kind,pB c.goal,pS c.id,.list 6 .sh (c.attr.map Test.pv),.list 6 .sh (c.value.map Test.pv),pB c.acc,.list 7 .sh (c.conds.map ae.pv)]:=by
 cases c;simp only[ae.pv,ae.Rs];rfl
def ae.ind{Q:ae->Prop}(h:∀c:ae,(∀d∈c.conds,Q d)->Q c):∀c,Q c:=by
 intro c
 exact ae.rec (motive_1:=Q) (motive_2:=λl=>∀d∈l,Q d) (λk g i a v A y j=>h _ j) (λd e=>by cases e) (λc y w r d e=>by
  rcases mem_cons.1 e with rfl|e
  .exact w
  .exact r d e) c
structure Atom where
 var:ByteArray
 sym:Sym
@[reducible] def Atom.pv(a:Atom):List PV:=[pS a.var,pI a.sym.k,pS a.sym.t,pI a.sym.n]
structure Term where
 op:Int
 a:Atom
 b:Atom
@[reducible] def Term.pv(t:Term):List PV:=[pI t.op,pS t.a.var,pI t.a.sym.k,pS t.a.sym.t,pI t.a.sym.n,pS t.b.var,pI t.b.sym.k,pS t.b.sym.t,pI t.b.sym.n]
structure cI where
 id:ByteArray
 attr:Atom
 value:Term
 qF:Int
 other:Atom
@[reducible] def cI.pv(a:cI):List PV:=[pS a.id,pS a.attr.var,pI a.attr.sym.k,pS a.attr.sym.t,pI a.attr.sym.n,pI a.value.op,pS a.value.a.var,pI a.value.a.sym.k,pS a.value.a.sym.t,pI a.value.a.sym.n,pS a.value.b.var,pI a.value.b.sym.k,pS a.value.b.sym.t,pI a.value.b.sym.n,pI a.qF,pS a.other.var,pI a.other.sym.k,pS a.other.sym.t,pI a.other.sym.n]
structure Prod where
 name:ByteArray
 conds:List ae
 bd:List cI
@[reducible] def Prod.pv(p:Prod):List PV:=[pS p.name,.list 7 .sh (p.conds.map ae.pv),.list 19 .sh (p.bd.map cI.pv)]
@[reducible] def fu(x y:Sym):Bool:=(x.k == y.k)&&(aG x.t y.t&&((x.n == y.n)&&true))
def cH{x y:Sym}:fu x y=true↔x=y:=by
 obtain⟨a,b,c⟩:=x;obtain⟨h,g,e⟩:=y;simp[fu,bM]
def AL(x:Sym):fu x x=true:=cH.2 rfl
def Cy{e:Type}{p:e->Bool}{l:List e}{k:Nat}(g:k<l.length)(h:(l.take k).any p=false):(l.take (k+1)).any p=p l[k]:=by
 rw[take_add_one,List.any_append,h,getElem?_eq_getElem g];simp
def Md{e:Type}{p:e->Bool}{l:List e}{k:Nat}(g:k<l.length)(h:p l[k]=true):l.any p=true:=List.any_eq_true.2 ⟨_,getElem_mem g,h⟩
def GQ{e:Type}{p:e->Bool}{l:List e}{k:Nat}(g:k<l.length)(h:(l.take k).all p=true):(l.take (k+1)).all p=p l[k]:=by
 rw[take_add_one,List.all_append,h,getElem?_eq_getElem g];simp
def GR{e:Type}{p:e->Bool}{l:List e}{k:Nat}(g:k<l.length)(h:p l[k]=false):l.all p=false:=by
 cases ha:l.all p with
 |false=>rfl
 |true=>rw[all_eq_true.1 ha _ (getElem_mem g)]at h;cases h
def eZ{e g:Type}{f:e->g}{l:List e}{k:Nat}(h:k<l.length):(l.take (k+1)).map f=(l.take k).map f++[f l[k]]:=by
 rw[take_add_one,getElem?_eq_getElem h,map_append];rfl
def Ve{e:Type}{l:List e}{k:Nat}(h:¬k<l.length):l.take k=l:=List.take_of_length_le (by omega)
def ak.each{g:Type}{e:(Int->g->Prop)->Int->g->Prop}{u:g}{n:Nat}(j:n<9223372036854775808)(I:Nat->g->Prop)(r:I 0 u)
  (y:∀(k:Nat) (u:g) (next:Int->g->Prop),k<n->I k u->(∀u',I (k+1) u'->next (wrap .i64 ((k:Int)+1)) u')->e next (k:Int) u) (w:∀(u:g) (next:Int->g->Prop),I n u->e next (n:Int) u):ak e 0 u:=by
 refine ak.up n j I r λk u next C h A=>?_
 by_cases i:k<n
 .exact y k u next i h (A i)
 .have:k=n:=by omega
  subst this;exact w u next h
def ak.cX{h g:Type}{e:(h×Int->g->Prop)->h×Int->g->Prop}{x:h}{u:g}{n:Nat}(r:n<9223372036854775808)(I:Nat->h->g->Prop)(w:I 0 x u)
  (A:∀(k:Nat) (x:h) (u:g) (next:h×Int->g->Prop),k<n->I k x u->(∀x' u',I (k+1) x' u'->next (x',wrap .i64 ((k:Int)+1)) u')->e next (x,(k:Int)) u) (y:∀(x:h) (u:g) (next:h×Int->g->Prop),I n x u->e next (x,(n:Int)) u):ak e (x,0) u:=by
 refine ak.up2 n r I w λk x u next G i C=>?_
 by_cases j:k<n
 .exact A k x u next j i (C j)
 .have:k=n:=by omega
  subst this;exact y x u next i
def ak.from{g:Type}{e:(Int->g->Prop)->Int->g->Prop}{u:g}{n s:Nat}(j:s<=n)(G:n<9223372036854775808)(I:Nat->g->Prop)(r:I s u)
  (y:∀(k:Nat) (u:g) (next:Int->g->Prop),s<=k->k<n->I k u->(∀u',I (k+1) u'->next (wrap .i64 ((k:Int)+1)) u')->e next (k:Int) u) (w:∀(u:g) (next:Int->g->Prop),I n u->e next (n:Int) u):ak e (s:Int) u:=by
 refine⟨λm x u=>∃k:Nat,x=(k:Int)/\s<=k/\k<=n/\I k u/\m=n-k,⟨n-s,s,rfl,le_refl _,j,r,rfl⟩,?_⟩;rintro _ _ u ⟨k,rfl,h,H,i,rfl⟩;by_cases C:k<n
 .refine y k u _ h C i λu' A=>?_;rw[aD (by omega) (by omega)];exact⟨n-(k+1),by omega,k+1,by omega,by omega,by omega,A,rfl⟩
 .have:k=n:=by omega
  subst this;exact w u _ i
@[reducible] def bL(t:ByteArray):List UInt8:=t.data.toList
def Cx(t:ByteArray):(bL t).length=t.size:=rfl
def GO{t:ByteArray}{k:Nat}(e:k<t.size):t[Int.toNat (k:Int)]?=some (bL t)[k]:=by
 rw[Int.toNat_natCast,getElem?_pos t k e];rfl
def adv{e g:Nat}(h:e<g)(r:g<4611686018427387904):wrap .i64 ((e:Int)+wrap .i64 (Int.tdiv (wrap .i64 ((g:Int)-(e:Int))) 2))=((e+(g-e)/2:Nat):Int):=by
 have j:wrap .i64 ((g:Int)-(e:Int))=((g-e:Nat):Int):=by rw[aD (by omega) (by omega)];omega
 rw[j];have i:Int.tdiv ((g-e:Nat):Int) 2=(((g-e)/2:Nat):Int):=by
  rw[Int.tdiv_eq_ediv_of_nonneg (by omega)];omega
 rw[i,aD (x:=(((g-e)/2:Nat):Int)) (by omega) (by omega),aD (by omega) (by omega)];omega
def ak.bin{r:(Int×Int->Mem->Prop)->Int×Int->Mem->Prop}{u:Mem}{n:Nat}(hn:n<4611686018427387904)(c:Nat->Int)(A:Mem->Prop)(Y:A u)
  (J:∀i j,i<j->j<n->c j<=0->c i<0) (Q:∀i j,i<j->j<n->0<=c i->0<c j)
  (fL:∀(g h xu:Nat) (u:Mem) (next:Int×Int->Mem->Prop),g<h->h<=n->xu=g+(h-g)/2->xu<n->A u->(c xu<0->∀u',A u'->next (((xu+1:Nat):Int),(h:Int)) u')->(0<c xu->∀u',A u'->next ((g:Int),(xu:Int)) u')->(c xu=0->∀i,i<xu->c i<0)->r next ((g:Int),(h:Int)) u)
  (fP:∀(k:Nat) (u:Mem) (next:Int×Int->Mem->Prop),A u->k<=n->(∀i,i<k->c i<0)->(∀i,k<=i->i<n->0<c i)->r next ((k:Int),(k:Int)) u):ak r (0,(n:Int)) u:=by
 refine⟨λm s w=>∃g h:Nat,s=((g:Int),(h:Int))/\g<=h/\h<=n/\m=h-g/\A w/\(∀i,i<g->c i<0)/\(∀i,h<=i->i<n->0<c i),⟨n,0,n,rfl,by omega,le_refl _,by omega,Y,λi h=>by omega,λi H G=>by omega⟩,?_⟩;rintro m s w ⟨g,h,rfl,U,y,rfl,O,H,G⟩;by_cases bK:g<h
 .refine fL g h (g+(h-g)/2) w _ bK y rfl (by omega) O (λhc u' C=>⟨h-(g+(h-g)/2+1),by omega,_,h,rfl,by omega,y,rfl,C,λi I=>?_,G⟩) (λhc u' C=>⟨(g+(h-g)/2)-g,by omega,g,_,rfl,by omega,by omega,rfl,C,H,λi Lt Hv=>?_⟩) (λhc i I=>J i _ I (by omega) (by omega))
  .by_cases e:i=g+(h-g)/2
   .subst e;exact hc
   .exact J i (g+(h-g)/2) (by omega) (by omega) (by omega)
  .by_cases e:i=g+(h-g)/2
   .subst e;exact hc
   .exact Q (g+(h-g)/2) i (by omega) Hv (by omega)
 .have:g=h:=by omega
  subst this;exact fP g w _ O y H G
structure nI{T:Type}(c:T->T->Int):Prop where
 zero:∀a b,c a b=0↔a=b
 flip:∀a b,c a b<0↔0<c b a
 trans:∀a b d,c a b<0->c b d<0->c a d<0
def Up{T:Type}(c:T->T->Int)(L:List T):Prop:=L.Pairwise λa b=>c a b<0
def Up.lt{T:Type}{c:T->T->Int}{L:List T}(h:Up c L){i j:Nat}(g:i<j)(e:j<L.length):c (L[i]'(lt_trans g e)) L[j]<0:=List.pairwise_iff_getElem.1 h i j _ e g
structure bV{T:Type}(c:T->T->Int)(L:List T)(x:T)(k:Nat)(there:Bool):Prop where
 le:k<=L.length
 low:∀(i:Nat) (h:i<L.length),i<k->c L[i] x<0
 CV:there=true->∃h:k<L.length,L[k]=x
 FY:there=false->∀(i:Nat) (h:i<L.length),k<=i->0<c L[i] x
def bV.mem{T:Type}{c:T->T->Int}(hc:nI c){L:List T}{x:T}{k:Nat}{there:Bool}(h:bV c L x k there):there=true↔x∈L:=by
 refine⟨λw=>?_,λr=>?_⟩
 .obtain⟨g,e⟩:=h.CV w;rw[<- e];exact getElem_mem g
 .cases there with
  |true=>rfl
  |false=>
   obtain⟨i,j,e⟩:=mem_iff_getElem.1 r;have hz:c L[i] x=0:=(hc.zero _ _).2 e;by_cases g:i<k
   .have:=h.low i j g;omega
   .have:=h.FY rfl i j (by omega);omega
def bV.put{T:Type}{c:T->T->Int}(hc:nI c){L:List T}{x:T}{k:Nat}(h:bV c L x k false)(w:Up c L):Up c (L.take k++x::L.drop k):=by
 have j:L.Pairwise λa b=>c a b<0:=w;rw[<- take_append_drop k L,List.pairwise_append]at j;refine List.pairwise_append.2 ⟨j.1,pairwise_cons.2 ⟨λb g=>?_,j.2.1⟩,λa ha b g=>?_⟩
 .obtain⟨i,r,e⟩:=mem_iff_getElem.1 g;rw[getElem_drop]at e;rw[<- e];exact(hc.flip _ _).2 (h.FY rfl _ _ (by omega))
 .rcases mem_cons.1 g with rfl|g
  .obtain⟨i,r,e⟩:=mem_iff_getElem.1 ha;rw[getElem_take]at e;rw[<- e];exact h.low _ _ (by simp at r;omega)
  .exact j.2.2 a ha b g
def bV.ZQ{T:Type}{L:List T}{x y:T}{k:Nat}:y∈L.take k++x::L.drop k↔y=x\/y∈L:=by
 rw[mem_append,mem_cons];have e:y∈L↔y∈L.take k\/y∈L.drop k:=by rw[<- mem_append,take_append_drop]
 rw[e];constructor
 .rintro(h|h|h)
  .exact .inr (.inl h)
  .exact .inl h
  .exact .inr (.inr h)
 .rintro(h|h|h)
  .exact .inr (.inl h)
  .exact .inl h
  .exact .inr (.inr h)
def Up.XU{T:Type}{c:T->T->Int}(hc:nI c){L:List T}(w:Up c L){x:T}{i j:Nat}(r:i<j)(g:j<L.length)(h:c L[j] x<=0):c (L[i]'(lt_trans r g)) x<0:=by
 have e:=w.lt r g;by_cases y:c L[j] x=0
 .rw[(hc.zero _ _).1 y]at e;exact e
 .exact hc.trans _ _ _ e (by omega)
def Up.XT{T:Type}{c:T->T->Int}(hc:nI c){L:List T}(w:Up c L){x:T}{i j:Nat}(g:i<j)(e:j<L.length)(h:0<=c (L[i]'(lt_trans g e)) x):0<c L[j] x:=by
 have r:=w.lt g e;by_cases A:c (L[i]'(lt_trans g e)) x=0
 .rw[(hc.zero _ _).1 A]at r;exact(hc.flip _ _).1 r
 .have y:c x (L[i]'(lt_trans g e))<0:=(hc.flip _ _).2 (by omega);exact(hc.flip _ _).1 (hc.trans _ _ _ y r)
def vN:∀a:List UInt8,Op.bytesLess a a=false
 |[]=>rfl
 |x::a=>by simp[Op.bytesLess,vN a]
def tP:∀{a b d:List UInt8},Op.bytesLess a b=true->Op.bytesLess b d=true->Op.bytesLess a d=true
 |[],[],_,h,_=>by simp[Op.bytesLess]at h
 |[],_::_,[],_,h=>by simp[Op.bytesLess]at h
 |[],_::_,_::_,_,_=>rfl
 |_::_,[],_,h,_=>by simp[Op.bytesLess]at h
 |_::_,_::_,[],_,h=>by simp[Op.bytesLess]at h
 |x::a,y::b,z::d,h,k=>by
  simp only[Op.bytesLess,Bool.or_eq_true,Bool.and_eq_true,decide_eq_true_eq,beq_iff_eq]at h k |-
  rcases h with h|⟨rfl,h⟩
  .rcases k with k|⟨rfl,k⟩
   .exact .inl (UInt8.lt_trans h k)
   .exact .inl h
  .rcases k with k|⟨rfl,k⟩
   .exact .inl k
   .exact .inr ⟨rfl,tP h k⟩
def BH:∀a b:List UInt8,Op.bytesLess a b=true\/a=b\/Op.bytesLess b a=true
 |[],[]=>.inr (.inl rfl)
 |[],_::_=>.inl rfl
 |_::_,[]=>.inr (.inr rfl)
 |x::a,y::b=>by
  simp only[Op.bytesLess,Bool.or_eq_true,Bool.and_eq_true,decide_eq_true_eq,beq_iff_eq,List.cons.injEq]
  rcases UInt8.lt_or_lt_of_ne (a:=x) (b:=y) |> λh=>(Classical.em (x=y))with e|e
  .subst e
   rcases BH a b with h|h|h
   .exact .inl (.inr ⟨rfl,h⟩)
   .exact .inr (.inl ⟨rfl,h⟩)
   .exact .inr (.inr (.inr ⟨rfl,h⟩))
  .rcases UInt8.lt_or_lt_of_ne e with h|h
   .exact .inl (.inl h)
   .exact .inr (.inr (.inl h))
def bc(a b:ByteArray):Int:=bif Op.bytesLess a.toList b.toList then -1 else bif !(Op.bytesLess a.toList b.toList||aG a b)then 1 else 0
def mi{a b:ByteArray}:bc a b<0↔Op.bytesLess a.toList b.toList=true:=by
 unfold bc;cases Op.bytesLess a.toList b.toList<;>cases aG a b<;>simp
def yu{a b:ByteArray}:bc a b=0↔a=b:=by
 unfold bc;rw[<- bM];cases h:Op.bytesLess a.toList b.toList
 .cases aG a b<;>simp
 .have:aG a b=false:=by
   cases e:aG a b with
   |false=>rfl
   |true=>rw[bM.1 e,vN]at h;cases h
  simp[this]
def Tw{a b:ByteArray}:0<bc a b↔Op.bytesLess b.toList a.toList=true:=by
 have e:0<bc a b↔¬bc a b<0/\¬bc a b=0:=by omega
 rw[e,mi,yu];constructor
 .rintro⟨g,i⟩;rcases BH a.toList b.toList with h|h|h
  .exact absurd h g
  .exact absurd (bM.1 (by unfold aG;rw[h];simp)) i
  .exact h
 .intro h;refine⟨λg=>?_,λg=>?_⟩
  .have:=tP h g;rw[vN]at this;cases this
  .rw[g,vN]at h;cases h
def bX:nI bc:=⟨λa b=>yu,λa b=>by rw[mi,Tw],λa b d g e=>mi.2 (tP (mi.1 g) (mi.1 e))⟩
abbrev aO:=Mem->Prop
def Ow:List aO->Mem->Prop
 |[],_=>True
 |A::L,h=>∃g e,Mem.sep g e/\h=g.or e/\A g/\Ow L e
def Mem.sep.symm{g e:Mem}(h:g.sep e):e.sep g:=λb=>(h b).symm
def Mem.or_comm{i g:Mem}(h:i.sep g):i.or g=g.or i:=by
 funext b;unfold Mem.or;rcases h b with e|e<;>rw[e]<;>cases r:i b<;>cases j:g b<;>simp_all
def Mem.or_assoc(a b c:Mem):(a.or b).or c=a.or (b.or c):=by
 funext x;unfold Mem.or;cases a x<;>rfl
def Mem.xL{a b c:Mem}:a.sep (b.or c)↔a.sep b/\a.sep c:=by
 constructor
 .intro h;refine⟨λx=>?_,λx=>?_⟩
  .rcases h x with e|e
   .exact .inl e
   .right;cases g:b x with
    |none=>rfl
    |some o=>rw[Mem.bB g]at e;cases e
  .rcases h x with e|e
   .exact .inl e
   .right;cases g:b x with
    |none=>rw[Mem.bp g]at e;exact e
    |some o=>rw[Mem.bB g]at e;cases e
 .rintro⟨r,j⟩ x;rcases r x with e|e
  .exact .inl e
  .rcases j x with i|i
   .exact .inl i
   .right;rw[Mem.bp e];exact i
def Mem.RC{a b c:Mem}:(a.or b).sep c↔a.sep c/\b.sep c:=by
 constructor
 .intro h;have:=Mem.xL.1 h.symm;exact⟨this.1.symm,this.2.symm⟩
 .rintro⟨g,e⟩;exact(Mem.xL.2 ⟨g.symm,e.symm⟩).symm
def Ow.mono:∀{L:List aO} {j g:Mem},(∀b o,j b=some o->g b=some o)->Ow L j->Ow L g
 |[],_,_,_,_=>trivial
 |A::L,j,g,h,C=>by
  obtain⟨e,w,y,rfl,H,G⟩:=C
  refine⟨e,λb=>match e b with|some _=>none|none=>g b,λb=>?_,?_,H,Ow.mono (λb o i=>?_) G⟩
  .cases i:e b with
   |none=>exact .inl rfl
   |some o=>exact .inr (by simp[i])
  .funext b;cases i:e b with
   |none=>rw[Mem.bp i];simp[i]
   |some o=>rw[Mem.bB i];exact h b o (Mem.bB i)
  .have r:e b=none:=(y b).resolve_right (by rw[i];simp);simp only[r];exact h b o (by rw[Mem.bp r];exact i)
def Ow.drop{A:aO}{L:List aO}{e:Mem}(h:Ow (A::L) e):Ow L e:=by
 obtain⟨j,i,r,rfl,_,w⟩:=h;exact w.mono λb o g=>by rw[Mem.bp ((r b).resolve_right (by rw[g];simp))];exact g
def Ow.imp{A B:aO}{L:List aO}{g:Mem}(h:Ow (A::L) g)(w:∀g,A g->B g):Ow (B::L) g:=by
 obtain⟨j,i,r,e,C,y⟩:=h;exact⟨j,i,r,e,w _ C,y⟩
def Ow.tail{A:aO}{L L':List aO}{g:Mem}(h:Ow (A::L) g)(w:∀g,Ow L g->Ow L' g):Ow (A::L') g:=by
 obtain⟨j,i,r,e,C,y⟩:=h;exact⟨j,i,r,e,C,w _ y⟩
def Ow.swap{A B:aO}{L:List aO}{j:Mem}(h:Ow (A::B::L) j):Ow (B::A::L) j:=by
 obtain⟨g,_,y,rfl,H,i,e,I,rfl,G,C⟩:=h;obtain⟨r,w⟩:=Mem.xL.1 y;exact⟨i,g.or e,Mem.xL.2 ⟨r.symm,I⟩,by rw[<- Mem.or_assoc,Mem.or_comm r,Mem.or_assoc],G,g,e,w,rfl,H,C⟩
def Ow.at:∀{L:List aO} (i:Nat) {A:aO} {e:Mem},L[i]?=some A->Ow L e->Ow (A::L.eraseIdx i) e
 |[],i,A,e,h,_=>by simp at h
 |B::L,0,A,e,h,g=>by
  simp only[List.getElem?_cons_zero,Option.some.injEq]at h
  subst h;exact g
 |B::L,i+1,A,e,h,g=>by
  simp only[List.getElem?_cons_succ]at h
  exact(g.tail λe j=>Ow.at i h j).swap
def Ow.back:∀{L:List aO} (i:Nat) {A:aO} {e:Mem},i<L.length->Ow (A::L.eraseIdx i) e->Ow (L.set i A) e
 |[],i,A,e,h,_=>by simp at h
 |B::L,0,A,e,h,g=>g
 |B::L,i+1,A,e,h,g=>(Ow.swap g).tail λe j=>Ow.back i (by simpa using h) j
def rO{e:Type}{L:List e}{i:Nat}{a:e}(h:L[i]?=some a):i<L.length:=(List.getElem?_eq_some_iff.1 h).1
def Ow.nest:∀{L1 L:List aO} {i:Mem},Ow (Ow L1::L) i->Ow (L1++L) i
 |[],L,i,h=>h.drop
 |A::L1,L,i,h=>by
  obtain⟨_,g,r,rfl,⟨j,e,I,rfl,C,y⟩,w⟩:=h
  obtain⟨H,G⟩:=Mem.RC.1 r;exact⟨j,e.or g,Mem.xL.2 ⟨I,H⟩,Mem.or_assoc _ _ _,C,Ow.nest ⟨e,g,G,rfl,y,w⟩⟩
def Ow.pack:∀{L1 L:List aO} {e:Mem},Ow (L1++L) e->Ow (Ow L1::L) e
 |[],L,e,h=>⟨M0,e,Mem.xM e,(Mem.JM e).symm,trivial,h⟩
 |A::L1,L,e,h=>by
  obtain⟨i,_,r,rfl,C,h⟩:=h
  obtain⟨g,j,I,rfl,y,w⟩:=Ow.pack h;obtain⟨H,G⟩:=Mem.xL.1 r;exact⟨i.or g,j,Mem.RC.2 ⟨G,I⟩,(Mem.or_assoc _ _ _).symm,⟨i,g,H,rfl,C,y⟩,w⟩
def Ow.JC{g L i:List aO}{e:Mem}(h:Ow (g++L) e)(j:∀e,Ow L e->Ow i e):Ow (g++i) e:=(h.pack.tail j).nest
def Ow.comm{L1 L:List aO}{e:Mem}(h:Ow (L1++L) e):Ow (L++L1) e:=by
 have i:Ow (Ow L::Ow L1::[]) e:=(h.pack.tail λe g=>(Ow.pack (L:=[]) (by simpa using g))).swap;refine i.nest.JC λe g=>?_;have:=g.nest;simpa using this
def Ow.perm{L g:List aO}(hp:L.Perm g){e:Mem}:Ow L e->Ow g e:=by
 induction hp generalizing e with
 |nil=>exact id
 |cons A _ i=>exact λh=>h.tail λ_ w=>i w
 |swap A B l=>exact λh=>h.swap
 |trans _ _ r j=>exact λh=>j (r h)
def Ow.pick{P A B L:List aO}{x:aO}{e:Mem}(h:Ow (P++((A++x::B)++L)) e):Ow (x::(P++((A++B)++L))) e:=by
 refine h.perm ?_;have i:P++((A++x::B)++L)=(P++A)++x::(B++L):=by simp
 have g:P++((A++B)++L)=(P++A)++(B++L):=by simp
 rw[i,g];exact List.perm_middle
def Ow.tn{P A B L:List aO}{x:aO}{e:Mem}(h:Ow (x::(P++((A++B)++L))) e):Ow (P++((A++x::B)++L)) e:=by
 refine h.perm ?_;have i:P++((A++x::B)++L)=(P++A)++x::(B++L):=by simp
 have g:P++((A++B)++L)=(P++A)++(B++L):=by simp
 rw[i,g];exact List.perm_middle.symm
def Ow.xu{L1 L:List aO}{A:aO}{e:Mem}(h:Ow (L1++A::L) e):Ow (A::(L1++L)) e:=h.perm List.perm_middle
def Ow.Mu{L1 L:List aO}{A:aO}{e:Mem}(h:Ow (A::(L1++L)) e):Ow (L1++A::L) e:=h.perm List.perm_middle.symm
def Ow.ex{r:Type}{A:r->aO}{L:List aO}{g:Mem}(h:Ow ((λg=>∃x,A x g)::L) g):∃x,Ow (A x::L) g:=by
 obtain⟨j,i,w,e,⟨x,C⟩,y⟩:=h;exact⟨x,j,i,w,e,C,y⟩
def Ow.and{p:Prop}{A:aO}{L:List aO}{g:Mem}(h:Ow ((λg=>p/\A g)::L) g):p/\Ow (A::L) g:=by
 obtain⟨j,i,r,e,⟨hp,y⟩,w⟩:=h;exact⟨hp,j,i,r,e,y,w⟩
def Ow.fact{p:Prop}{A:aO}{L:List aO}{g:Mem}(h:Ow (A::L) g)(hp:∀g,A g->p):p:=by
 obtain⟨j,i,w,e,r,y⟩:=h;exact hp _ r
def Pt(b:Nat)(T:TypeId)(cs:List PV):aO:=λe=>e b=some (.cells T cs)
def Ow.get{L:List aO}{e:Mem}(i:Nat){b:Nat}{T:TypeId}{cs:List PV}(r:Ow L e)(j:L[i]?=some (Pt b T cs)):e b=some (.cells T cs):=by
 obtain⟨h,g,y,rfl,w,_⟩:=Ow.at i j r;exact Mem.bB w
def Ow.rd{L:List aO}{e:Mem}(i:Nat){b:Nat}{T:TypeId}{cs:List PV}{o n:Nat}(j:Ow L e)(h:L[i]?=some (Pt b T cs))(g:o+n<=cs.length):ay e b o n=some ((cs.drop o).take n):=aH (j.get i h) g
def Ow.put{L:List aO}{i:Mem}{b:Nat}{T T':TypeId}{cs GF:List PV}(w:Ow (Pt b T cs::L) i):Ow (Pt b T' GF::L) (i.set b (some (.cells T' GF))):=by
 obtain⟨h,g,j,rfl,A,y⟩:=w;have r:g b=none:=(j b).resolve_left (by rw[A];simp);refine⟨h.set b (some (.cells T' GF)),g,λx=>?_,?_,Mem.ao _ _ _,y⟩
 .by_cases e:x=b
  .subst e;exact .inr r
  .rw[Mem.ax _ _ e];exact j x
 .funext x;by_cases e:x=b
  .subst e;rw[Mem.ao,Mem.bB (Mem.ao _ _ _)]
  .rw[Mem.ax _ _ e];unfold Mem.or;rw[Mem.ax _ _ e]
def Ow.st{L:List aO}{j:Mem}(i:Nat){b:Nat}{T:TypeId}{cs:List PV}{o:Nat}{g:List PV}{K:Mem->Prop}(r:Ow L j)(h:L[i]?=some (Pt b T cs))(w:o+g.length<=cs.length)(y:∀e,Ow (L.set i (Pt b T (du cs o g))) e->K e):stM b o g j K:=
 ⟨T,cs,r.get i h,w,y _ (Ow.back i (rO h) (Ow.at i h r).put)⟩
def Ow.new{L:List aO}{g:Mem}{b:Nat}(T:TypeId)(cs:List PV)(i:Ow L g)(h:g b=none):Ow (Pt b T cs::L) (g.set b (some (.cells T cs))):=by
 refine⟨M0.set b (some (.cells T cs)),g,λx=>?_,?_,Mem.ao _ _ _,i⟩
 .by_cases e:x=b
  .subst e;exact .inr h
  .rw[Mem.ax _ _ e];exact .inl rfl
 .funext x;by_cases e:x=b
  .subst e;rw[Mem.ao,Mem.bB (Mem.ao _ _ _)]
  .rw[Mem.ax _ _ e,Mem.bp (by rw[Mem.ax _ _ e];rfl)]
def Ow.ne{L:List aO}{e:Mem}{b:Nat}{o:Option Ob}(i:Ow L e)(h:e b=none):Ow L (e.set b o):=i.mono λx j g=>by
 have:x≠b:=by rintro rfl;rw[h]at g;cases g
 rw[Mem.ax _ _ this];exact g
def yT.frame{P:Program}{f:PV}{A:List PV}{r ν:Mem}{K:Kq}(h:yT P f A r K)(hs:r.sep ν):yT P f A (r.or ν) λv Y=>∃i,i.sep ν/\Y=i.or ν/\K v i:=λZ u fv vs hg hw hfv ha=>by
 have H:∀b o,r b=some o->(o.rw=true->u.gk b)/\zQ Z u b o:=λb o e=>hg.mem b o (Mem.bB e);have G:∀b o,ν b=some o->r b=none/\(o.rw=true->u.gk b)/\zQ Z u b o:=λb o e=>by
  have O:r b=none:=(hs b).resolve_right (by rw[e];simp);exact⟨O,hg.mem b o (by rw[Mem.bp O];exact e)⟩
 have Ph:Good Z ⟨u.toWorld,λb=>∃o,r b=some o/\o.rw=true⟩ r:=⟨hg.Da,λb o e=>⟨λI=>⟨o,e,I⟩,(H b o e).2⟩⟩;obtain⟨F,hF,dc⟩:=jP.1 (h Z ⟨u.toWorld,λb=>∃o,r b=some o/\o.rw=true⟩ fv vs Ph (λb ⟨o,w,_⟩=>Ph.Qi (by rw[w];simp)) hfv ha);refine jP.2 ⟨F,λb y=>?_,dc.mono λv lo w' hm Ww _ hp=>?_⟩
 .obtain⟨o,w,I⟩:=hF b y;exact(H b o w).1 I
 .obtain⟨Z',i,p,e,g',I,hK⟩:=hp;have J:∀b o,ν b=some o->w'.heap[b]?=u.heap[b]?/\Z' b=Z b/\i b=none:=λb o y=>by
   obtain⟨U,_,h2⟩:=G b o y;have bK:=h2.lt;refine⟨hm.cu b bK λhf=>(by obtain⟨o',Pe,_⟩:=hF b hf;rw[U]at Pe;cases Pe),?_,?_⟩
   .cases hz:Z b with
    |some C=>exact e.zs b C hz U
    |none=>
     cases Li:Z' b with
     |none=>rfl
     |some C=>
      rcases e.zn b (by rw[Li];simp)with g|g|g
      .exact absurd hz g
      .exact absurd U g
      .have:u.heap.size<=b:=g;omega
   .cases j:i b with
    |none=>rfl
    |some o'=>
     rcases e.mn b (by rw[j];simp)with g|g
     .exact absurd U g
     .have:u.heap.size<=b:=g;omega
  refine⟨Z',i.or ν,p,⟨e.le,λb C y O=>?_,λb y=>?_,λb y=>?_,e.lt⟩,⟨g'.Da,λb o w=>?_⟩,I,i,λb=>?_,rfl,hK⟩
  .refine e.zs b C y ?_;cases j:r b with
   |none=>rfl
   |some o=>rw[Mem.bB j]at O;cases O
  .rcases e.zn b y with g|g|g
   .exact .inl g
   .refine .inr (.inl ?_);cases j:r b with
    |none=>exact absurd j g
    |some o=>rw[Mem.bB j];simp
   .exact .inr (.inr g)
  .rcases Mem.RD y with g|g
   .rcases e.mn b g with Q|Q
    .left;cases j:r b with
     |none=>exact absurd j Q
     |some o=>rw[Mem.bB j];simp
    .exact .inr Q
   .cases j:ν b with
    |none=>exact absurd j g
    |some o=>exact .inl (by rw[Mem.bp (G b o j).1,j];simp)
  .cases j:i b with
   |some o'=>
    rw[Mem.bB j]at w;cases w;obtain⟨p1,p2⟩:=g'.mem b _ j;refine⟨λKg=>?_,p2⟩;rcases p1 Kg with⟨o2,hy,Ex⟩|p1
    .exact .inl ((H b o2 hy).1 Ex)
    .exact .inr p1
   |none=>
    rw[Mem.bp j]at w;obtain⟨U,h2,g⟩:=G b o w;obtain⟨Q,h5,h6⟩:=J b o w;exact⟨λKg=>.inl (h2 Kg),g.go e.le h5 Q⟩
  .cases j:ν b with
   |none=>exact .inr rfl
   |some o=>exact .inl (J b o j).2.2
def bP.frame{P:Program}{f:PV}{e:List PV}{j ν:Mem}{K:Kq}(h:bP P f e j K)(r:j.sep ν):bP P f e (j.or ν) λv i=>∃g,g.sep ν/\i=g.or ν/\K v g:=by
 unfold bP at h |-;split at h
 .exact h.frame r
 .exact yT.frame h r
def Ow.Cp{P:Program}{f:PV}{j:List PV}{A:aO}{B:PV->aO}{L:List aO}{y:Mem}{K:Kq}(H:Ow (A::L) y)(h:∀g,A g->bP P f j g B)(G:∀p i,Ow (B p::L) i->K p i):bP P f j y K:=by
 obtain⟨g,w,C,rfl,O,I⟩:=H;refine(bP.frame (h g O) C).mono λv i ⟨r,Q,e,J⟩=>G v i ?_;subst e;exact⟨r,w,Q,rfl,J,I⟩
def Ow.mv{A:aO}{L:List aO}{C i:Mem}{F F':List Nat}{B:aO}(U:∃g e,Mem.sep g e/\C=g.or e/\(∀x∈F,g x≠none)/\Ow L e)(H:Mv C i F F')(hB:∀y,(∀x∈F',y x=i x)->B y):Ow (B::L) i:=by
 obtain⟨g,e,Q,rfl,hF,Y⟩:=U;have I:∀x o,e x=some o->i x=some o/\x∉F':=λx o j=>by
  have J:g x=none:=(Q x).resolve_right (by rw[j];simp);have r:(g.or e) x=some o:=by rw[Mem.bp J];exact j
  have G:x∉F:=λw=>hF x w J;refine⟨by rw[H.cu x (by rw[r];simp) G];exact r,λw=>?_⟩;rcases H.grow x w with h|h
  .exact G h
  .rw[r]at h;cases h
 refine⟨λx=>match e x with|some _=>none|none=>i x,e,λx=>?_,?_,hB _ λx j=>?_,Y⟩
 .cases j:e x with
  |none=>exact .inr rfl
  |some o=>exact .inl (by simp[j])
 .funext x;cases j:e x with
  |none=>
   unfold Mem.or;simp only[j];cases i x<;>rfl
  |some o=>
   rw[Mem.bp (by simp[j]),j];exact(I x o j).1
 .cases O:e x with
  |none=>simp[O]
  |some o=>exact absurd j (I x o O).2
def aa.q{P:Program}{g:FuncId}{j:List PV}{r:Mem}{K A:Kq}(h:aa P g j M0 K)(J:∀p i,r.sep i->K p i->A p i):dh P g j r A:=λZ u C y hw ha=>by
 obtain⟨hc,Q⟩:=h Z ⟨u.toWorld,λ_=>False⟩ C ⟨y.Da,λb o e=>by cases e⟩ (λ_ h=>h.elim) ha;refine⟨hc,Q.Bz λv lo Y _ _ hp=>?_⟩;obtain⟨U,i,p,e,O,I,hK⟩:=hp;refine⟨U,i,p,e,O,I,J p i (λb=>?_) hK⟩;cases H:r b with
 |none=>exact .inl rfl
 |some o=>
  right;cases G:i b with
  |none=>rfl
  |some o'=>
   have bK:=y.Qi (b:=b) (by rw[H];simp);rcases e.mn b (by rw[G];simp)with w|w
   .exact absurd rfl w
   .have:u.heap.size<=b:=w;omega
def Ow.side{L M:List aO}{g e:Mem}(h:Ow L g)(i:g.sep e)(k:Ow M e):Ow (M++L) (g.or e):=Ow.nest ⟨e,g,i.symm,Mem.or_comm i,k,h⟩
def eX(fl:Fl)(n size:Nat):aO:=mq fl n size
def Ow.nil{L:List aO}{e:Mem}(g:Ow L e){n size:Nat}{fl:Fl}(h:fl=.nil\/fl=.nr):Ow (eX fl n size::L) e:=
 ⟨M0,e,Mem.xM e,(Mem.JM e).symm,by rcases h with rfl|rfl<;>exact trivial,g⟩
def Ow.app{L:List aO}{G:Mem}{size j:Nat}{fl:Fl}{n:Nat}{i new:Lq}{K:Fl->Mem->Prop}(hO:Ow (eX fl n size::L) G)(U:i.length=n)(hb:(n+new.length)*j<=140737488355328)(J:n+new.length<4611686018427387904)
  (Y:∀w e,Ow (eX w (n+new.length) size::L) e->K w e):aR false size j fl i new G K:=by
 subst U;obtain⟨r,g,Q,rfl,A,hL⟩:=hO;have I_:mq fl i.length size (r.or g):=by
  cases fl with
  |nM b c=>exact Mem.bB A
  |sh=>exact A
  |nr=>trivial
  |nil=>trivial
 refine aR.go I_ hb J λw e I h2=>Y w e ?_;have H:∀x o,g x=some o->e x=some o/\¬w.at x:=λx o h=>by
  have C:r x=none:=(Q x).resolve_right (by rw[h];simp);refine h2 x o (by rw[Mem.bp C];exact h) λy=>?_;cases fl with
  |nM b c=>
   have:x=b:=y;subst this;have:r x=_:=A;rw[this]at C;cases C
  |sh=>exact y
  |nr=>exact y
  |nil=>exact y
 refine⟨λx=>match g x with|some _=>none|none=>e x,g,λx=>?_,?_,?_,hL⟩
 .cases h:g x with
  |none=>exact .inr rfl
  |some o=>exact .inl (by simp[h])
 .funext x;cases h:g x with
  |none=>
   unfold Mem.or;simp only[h];cases e x<;>rfl
  |some o=>rw[Mem.bp (by simp[h]),h];exact(H x o h).1
 .show mq _ _ _ _;cases w with
  |nM b c=>
   have O:e b=_:=I;cases h:g b with
   |none=>simp only[mq,h];exact O
   |some o=>exact absurd rfl (H b o h).2
  |sh=>exact I
  |nr=>trivial
  |nil=>trivial
def ca(e:TypeId)(i:Nat)(p:PV)(g:Lq):aO:=λh=>∃F,wF e i h p g F
def ca.nil(e:TypeId)(h:Nat){L:List aO}{g:Mem}(i:Ow L g):Ow (ca e h (.raw (.slice none 0 0)) []::L) g:=⟨M0,g,Mem.xM g,(Mem.JM g).symm,⟨[],.inl ⟨rfl,rfl,rfl⟩⟩,i⟩
def ca.split{e:TypeId}{w:Nat}{p:PV}{j:Lq}{L:List aO}{r:Mem}(G:Ow (ca e w p j::L) r):∃F,wF e w r p j F/\∃g i,Mem.sep g i/\r=g.or i/\(∀x∈F,g x≠none)/\Ow L i:=by
 obtain⟨g,i,C,rfl,⟨F,h⟩,H⟩:=G;refine⟨F,h.same λx A=>?_,g,i,C,rfl,h.at_,H⟩;cases y:g x with
 |none=>exact absurd y (h.at_ x A)
 |some o=>rw[Mem.bB y]
def ca.app{e:TypeId}{y:Nat}{p:PV}{g:Lq}{L:List aO}{I:Mem}(hO:Ow (ca e y p g::L) I)(hr:∀r∈g,r.length=y):∃a c,p=.raw (.slice a g.length c)/\
  ∀(r:List PV) (i:Nat) (K:Option Addr->Nat->Nat->Mem->Prop),r.length=y->aV r=true->(g.length+1)*i<=140737488355328->g.length+1<4611686018427387904->
   (∀w G j,Ow (ca e y (.raw (.slice (some ⟨w,0,none⟩) (g.length+1) G)) (g++[r])::L) j->K (some ⟨w,0,none⟩) (g.length+1) G j)->
   eB y i e a g.length c (.list y .nr [r]) I K:=by
 obtain⟨F,h,Gg⟩:=ca.split hO;obtain⟨a,c,rfl,Q⟩:=h.app hr;refine⟨a,c,rfl,λr i K hl ij hb O hK=>Q r i K hl ij hb O λw G C j Y U J hm=>hK w G j ?_⟩;refine Ow.mv (A:=λ_=>True) Gg hm λν H=>⟨[w],.inr ⟨w,G,C,by simp,rfl,?_,by simpa using U,by simpa using J⟩⟩;rw[H w (by simp)];exact Y
def eW(A:aO):Prop:=∀g e:Mem,(∀b o,g b=some o->e b=some o)->A g->A e
def eW.own(L:List aO):eW (Ow L):=λ_ _ h e=>e.mono h
def eW.ex{i:Type}{A:i->aO}(h:∀x,eW (A x)):eW λg=>∃x,A x g:=λg e r ⟨x,j⟩=>⟨x,h x g e r j⟩
def eW.and{p:Prop}{A:aO}(h:eW A):eW λg=>p/\A g:=λg e j ⟨hp,i⟩=>⟨hp,h g e j i⟩
def eW.one{A:aO}(h:eW A){g:Mem}(r:Ow [A] g):A g:=by
 obtain⟨e,i,y,rfl,w,_⟩:=r;exact h e _ (λb o j=>Mem.bB j) w
def Ow.one{A:aO}{e:Mem}(h:A e):Ow [A] e:=⟨e,M0,(Mem.xM e).symm,(Mem.pK e).symm,h,trivial⟩
def Ow.VM{L:List aO}{e:Mem}(h:Ow [Ow L] e):Ow L e:=(eW.own L).one h
def Rc(l:Nat)(o:Ob):aO:=λe=>e l=some o
def iI(P:Program)(f:PV)(i:Lq)(A G:aO):Prop:=
 (∃g a b,f=.fn (.func g) a b)/\∀(r:Fn) (y w:List PV) (I:Nat->aO) (S:aO) (C:aO) (j:Mem),Cb r True->Ow [A,C] j->(∀e,Ow [G,C] e->Ow [I 0] e)->
  (∀(k:Nat) (h:k<i.length) (j:Mem),I k j->bP P (.fn r y w) i[k] j λv e=>(v=pB true/\Ow [I (k+1)] e)\/(v=pB false/\Ow [S] e))->
  bP P f [.fn r y w] j λ_ e=>Ow [I i.length] e\/Ow [S] e
def iI.mk{P:Program}{g:FuncId}{a b:List PV}{e:Lq}{A G:aO}
  (h:∀(r:Fn) (y w:List PV) (I:Nat->aO) (S:aO) (C:aO) (j:Mem),Cb r True->Ow [A,C] j->(∀i,Ow [G,C] i->Ow [I 0] i)->
   (∀(k:Nat) (h:k<e.length) (j:Mem),I k j->bP P (.fn r y w) e[k] j λv i=>(v=pB true/\Ow [I (k+1)] i)\/(v=pB false/\Ow [S] i))->
   aa P g (a++[.fn r y w]++b) j λ_ i=>Ow [I e.length] i\/Ow [S] i):iI P (.fn (.func g) a b) e A G:=
 ⟨⟨g,a,b,rfl⟩,λr y w I S C j H O J Q=>h r y w I S C j H O J Q⟩
def Ow.tt{p q:Prop}{A B:aO}{L:List aO}{e:Mem}(h:Ow ((λe=>(p/\Ow [A] e)\/(q/\Ow [B] e))::L) e):(p/\Ow (A::L) e)\/(q/\Ow (B::L) e):=by
 obtain⟨i,g,r,rfl,(⟨hp,j⟩|⟨hp,j⟩),w⟩:=h
 .exact .inl ⟨hp,Ow.nest (L1:=[A]) ⟨i,g,r,rfl,j,w⟩⟩
 .exact .inr ⟨hp,Ow.nest (L1:=[B]) ⟨i,g,r,rfl,j,w⟩⟩
def bk.own{P:Program}{f:PV}{r:Lq}{A A':aO}{L:List aO}{U:List PV->(Option Code->Mem->Prop)->Mem->Prop}{K:Option Code->Mem->Prop}{G:Mem}(hs:iI P f r A A')(hO:Ow (A::L) G)
  (I:Nat->aO) (S:Code->aO) (hI:∀k,eW (I k)) (hS:∀c,eW (S c)) (h0:∀i,Ow (A'::L) i->I 0 i)
  (cV:∀(k:Nat) (h:k<r.length) (G:Mem) (R:Option Code->Mem->Prop),I k G->(∀i,I (k+1) i->R none i)->(∀c i,S c i->R (some c) i)->U r[k] R G)
  (Lu:∀G,I r.length G->K none G) (IH:∀c G,S c G->K (some c) G):bk P f U K G:=by
 obtain⟨hf,hs⟩:=hs;refine⟨hf,λl y hl hy=>?_⟩;have cut:∀{j:Mem} {o:Ob} {M:List aO},Ow (Rc l o::M) j->j l=some o/\Ow M (j.set l none):=λ{j o M} h=>by
  obtain⟨w,C,tT,rfl,hR,hM⟩:=h;refine⟨Mem.bB hR,hM.mono λb o' hb=>?_⟩;have Kk:w b=none:=(tT b).resolve_right (by rw[hb];simp);have aW:b≠l:=by
   rintro rfl;have:w b=_:=hR;rw[this]at Kk;cases Kk
  rw[Mem.ax _ _ aW,Mem.bp Kk];exact hb
 have J:∀{j:Mem} {o:Ob},j l=some o->j=(j.set l none).set l (some o):=λ{j o} h=>by
  rw[Mem.set_set,Mem.Bb h]
 have O:∀{j g:Mem} {o:Ob} {w C:Mem},g l=none->w=g.set l (some o)->Mem.sep w C->j=w.or C->j l=some o/\∀b o',g b=some o'->(j.set l none) b=some o':=λ{j g o w C} H h2 tT e=>by
  subst h2 e;refine⟨Mem.bB (Mem.ao _ _ _),λb o' hb=>?_⟩;have aW:b≠l:=by rintro rfl;rw[H]at hb;cases hb
  rw[Mem.ax _ _ aW];exact Mem.bB (by rw[Mem.ax _ _ aW];exact hb)
 refine(hs (.yield l) [] [] (λk j=>∃g,g l=none/\j=g.set l (some (y none))/\I k g) (λj=>∃c g,g l=none/\j=g.set l (some (y (some c)))/\S c g) (Ow (Rc l (y none)::L)) _ trivial ?_ (λi Tb=>Ow.one ?_) ?_).mono ?_
 .have H:Ow (Rc l (y none)::A::L) (G.set l (some (y none))):=by
   refine⟨M0.set l (some (y none)),G,λx=>?_,?_,Mem.ao _ _ _,hO⟩
   .by_cases e:x=l
    .subst e;exact .inr hl
    .rw[Mem.ax _ _ e];exact .inl rfl
   .funext x;by_cases e:x=l
    .subst e;rw[Mem.ao,Mem.bB (Mem.ao _ _ _)]
    .rw[Mem.ax _ _ e,Mem.bp (by rw[Mem.ax _ _ e];rfl)]
  refine H.swap.tail λj Y=>Ow.one Y
 .have H:Ow (A'::(Rc l (y none)::L)) i:=Tb.tail λj Y=>Y.VM;obtain⟨h2,Q⟩:=cut H.swap;exact⟨_,Mem.ao _ _ _,J h2,h0 _ Q⟩
 .rintro k hk _ ⟨g,H,rfl,Kl⟩;refine(hy r[k] g (λp i=>match p with|none=>I (k+1) i|some c=>S c i) H (cV k hk g _ Kl (λi h=>h) (λc i h=>h))).mono ?_;rintro v μ2 ⟨p,μ4,rfl,Q,rfl,hR⟩;cases p with
  |none=>exact .inl ⟨rfl,Ow.one ⟨μ4,Q,rfl,hR⟩⟩
  |some c=>exact .inr ⟨rfl,Ow.one ⟨c,μ4,Q,rfl,hR⟩⟩
 .rintro v j (h|h)
  .obtain⟨w,C,tT,e,⟨g,H,h2,Q⟩,_⟩:=h;obtain⟨h4,h5⟩:=O H h2 tT e;exact⟨none,j.set l none,Mem.ao _ _ _,J h4,Lu _ (hI _ _ _ h5 Q)⟩
  .obtain⟨w,C,tT,e,⟨c,g,H,h2,Q⟩,_⟩:=h;obtain⟨h4,h5⟩:=O H h2 tT e;exact⟨some c,j.set l none,Mem.ao _ _ _,J h4,IH c _ (hS _ _ _ h5 Q)⟩
section
variable {T κ:Type} (ck:κ->κ->Int) (key:T->κ)
def ch(L:List T):Prop:=L.Pairwise λa b=>ck (key a) (key b)<0
def BB(k:κ)(y:T):Bool:=decide (ck (key y) k<0)
def Gr(k:κ)(y:T):Bool:=decide (0<ck (key y) k)
def Ck(k:κ)(y:T):Bool:=decide (ck (key y) k=0)
def aL(k:κ)(L:List T):Option T:=L.find? (Ck ck key k)
def VH(k:κ)(L:List T):Nat:=(L.filter (BB ck key k)).length
def aZ(x:T)(L:List T):List T:=L.filter (BB ck key (key x))++x::L.filter (Gr ck key (key x))
def bu(k:κ)(L:List T):List T:=L.filter λy=> !Ck ck key k y
def dB(x:T)(L:List T):List T:=if(aL ck key (key x) L).isSome then L else aZ ck key x L
end
section
variable {T κ:Type} {ck:κ->κ->Int} {key:T->κ}
def nI.self(hc:nI ck)(a:κ):ck a a=0:=(hc.zero a a).2 rfl
def ch.up{L:List T}(h:ch ck key L):Up ck (L.map key):=by
 unfold Up;rw[List.pairwise_map];exact h
def nc{r:Type}{p:r->Bool}{L:List r}{k:Nat}(w:k<=L.length)(A:∀(i:Nat) (h:i<L.length),i<k->p L[i]=true)(y:∀(i:Nat) (h:i<L.length),k<=i->p L[i]=false):L.filter p=L.take k:=by
 have e:=take_append_drop k L;rw[<- e,filter_append];rw[filter_eq_self.2 λx g=>?_,List.filter_eq_nil_iff.2 λx g=>?_]
 .simp[min_eq_left w]
 .obtain⟨i,j,rfl⟩:=mem_iff_getElem.1 g;rw[getElem_drop];simp only[length_drop]at j;simp[y (k+i) (by omega) (by omega)]
 .obtain⟨i,j,rfl⟩:=mem_iff_getElem.1 g;rw[getElem_take];simp only[length_take]at j;exact A i (by omega) (by omega)
def rb{r:Type}{p:r->Bool}{L:List r}{k:Nat}(w:k<=L.length)(A:∀(i:Nat) (h:i<L.length),i<k->p L[i]=false)(y:∀(i:Nat) (h:i<L.length),k<=i->p L[i]=true):L.filter p=L.drop k:=by
 have e:=take_append_drop k L;rw[<- e,filter_append];rw[List.filter_eq_nil_iff.2 λx g=>?_,filter_eq_self.2 λx g=>?_]
 .simp[min_eq_left w]
 .obtain⟨i,j,rfl⟩:=mem_iff_getElem.1 g;rw[getElem_drop];simp only[length_drop]at j;exact y (k+i) (by omega) (by omega)
 .obtain⟨i,j,rfl⟩:=mem_iff_getElem.1 g;rw[getElem_take];simp only[length_take]at j;simp[A i (by omega) (by omega)]
section
variable {L:List T} {x:κ} {k:Nat}
def bV.RX{there:Bool}(h:bV ck (L.map key) x k there)(i:Nat)(g:i<L.length)(e:i<k):ck (key L[i]) x<0:=by
 have:=h.low i (by simpa using g) e;simpa using this
def bV.leK{there:Bool}(h:bV ck (L.map key) x k there):k<=L.length:=by simpa using h.le
def bV.Nc(h:bV ck (L.map key) x k false)(i:Nat)(g:i<L.length)(e:k<=i):0<ck (key L[i]) x:=by
 have:=h.FY rfl i (by simpa using g) e;simpa using this
def bV.aat(h:bV ck (L.map key) x k true):∃i:k<L.length,key L[k]=x:=by
 obtain⟨g,e⟩:=h.CV rfl;exact⟨by simpa using g,by simpa using e⟩
def bV.pos{there:Bool}(hc:nI ck)(h:bV ck (L.map key) x k there)(A:ch ck key L):k=VH ck key x L:=by
 unfold VH;rw[nc (k:=k) h.leK (λi r w=>?_) (λi r w=>?_)]
 .simp[h.leK]
 .have:=h.RX i r w;simp[BB];omega
 .cases there with
  |false=>have:=h.Nc i r w;simp[BB];omega
  |true=>
   obtain⟨C,e⟩:=h.aat;by_cases g:i=k
   .subst g;simp[BB,e,hc.self]
   .have y:=A.up.lt (i:=k) (j:=i) (by omega) (by simpa using r);simp only[getElem_map]at y;rw[e]at y;have:=(hc.flip _ _).1 y;simp[BB];omega
def bV.none(hc:nI ck)(h:bV ck (L.map key) x k false):aL ck key x L=Option.none:=by
 unfold aL;rw[List.find?_eq_none];intro y j;obtain⟨i,e,rfl⟩:=mem_iff_getElem.1 j;by_cases g:i<k
 .have:=h.RX i e g;simp[Ck];omega
 .have:=h.Nc i e (by omega);simp[Ck];omega
def Av(hc:nI ck)(r:ch ck key L)(g:k<L.length)(e:key L[k]=x):aL ck key x L=some L[k]:=by
 unfold aL;rw[List.find?_eq_some_iff_getElem];refine⟨by simp[Ck,e,hc.self],k,g,rfl,λj w=>?_⟩;have h:=r.up.lt (i:=j) (j:=k) w (by simpa using g);simp only[getElem_map]at h;rw[e]at h;simp[Ck];omega
def bV.some(hc:nI ck)(h:bV ck (L.map key) x k true)(i:ch ck key L):∃g:k<L.length,aL ck key x L=Option.some L[k]:=by
 obtain⟨g,e⟩:=h.aat;exact⟨g,Av hc i g e⟩
def bV.isSome{there:Bool}(hc:nI ck)(h:bV ck (L.map key) x k there)(g:ch ck key L):there=(aL ck key x L).isSome:=by
 cases there with
 |false=>rw[h.none hc];rfl
 |true=>obtain⟨_,e⟩:=h.some hc g;rw[e];rfl
def bV.ins(hc:nI ck){y:T}(h:bV ck (L.map key) (key y) k false):L.take k++y::L.drop k=aZ ck key y L:=by
 unfold aZ;rw[nc (k:=k) h.leK (λi g e=>?_) (λi g e=>?_),rb (k:=k) h.leK (λi g e=>?_) (λi g e=>?_)]
 .have:=h.RX i g e;simp[Gr];omega
 .have:=h.Nc i g e;simp[Gr];omega
 .have:=h.RX i g e;simp[BB];omega
 .have:=h.Nc i g e;simp[BB];omega
def bV.del(hc:nI ck)(h:bV ck (L.map key) x k true)(w:ch ck key L):L.eraseIdx k=bu ck key x L:=by
 obtain⟨y,e⟩:=h.aat;have G:=take_append_drop k L;have C:L.drop k=L[k]::L.drop (k+1):=List.drop_eq_getElem_cons y;rw[List.eraseIdx_eq_take_drop_succ];unfold bu
 conv=>rhs;rw[<- G,C]
 rw[filter_append,filter_cons];have A:Ck ck key x L[k]=true:=by simp[Ck,e,hc.self]
 simp only[A,Bool.not_true,Bool.false_eq_true,if_false];rw[filter_eq_self.2 λz hz=>?_,filter_eq_self.2 λz hz=>?_]
 .obtain⟨i,g,rfl⟩:=mem_iff_getElem.1 hz;rw[getElem_drop];simp only[length_drop]at g;have r:=w.up.lt (i:=k) (j:=k+1+i) (by omega) (by simp;omega);simp only[getElem_map]at r;rw[e]at r;have:=(hc.flip _ _).1 r;simp[Ck];omega
 .obtain⟨i,g,rfl⟩:=mem_iff_getElem.1 hz;rw[getElem_take];simp only[length_take]at g;have:=h.RX i (by omega) (by omega);simp[Ck];omega
end
def bq(hc:nI ck){x y:T}{L:List T}:y∈aZ ck key x L↔y=x\/(y∈L/\key y≠key x):=by
 unfold aZ;simp only[mem_append,mem_cons,mem_filter,BB,Gr,decide_eq_true_eq];have i:key y=key x↔ck (key y) (key x)=0:=(hc.zero _ _).symm;constructor
 .rintro(⟨h,g⟩|h|⟨h,g⟩)
  .exact .inr ⟨h,λe=>by rw[i]at e;omega⟩
  .exact .inl h
  .exact .inr ⟨h,λe=>by rw[i]at e;omega⟩
 .rintro(h|⟨h,g⟩)
  .exact .inr (.inl h)
  .rw[ne_eq,i]at g;by_cases j:ck (key y) (key x)<0
   .exact .inl ⟨h,j⟩
   .exact .inr (.inr ⟨h,by omega⟩)
def ee(hc:nI ck){k:κ}{y:T}{L:List T}:y∈bu ck key k L↔y∈L/\key y≠k:=by
 unfold bu;simp only[mem_filter,Ck,Bool.not_eq_true',decide_eq_false_iff_not,hc.zero,ne_eq]
def ch.filter{L:List T}(h:ch ck key L)(p:T->Bool):ch ck key (L.filter p):=List.Pairwise.filter _ h
def ch.ins(hc:nI ck){L:List T}(h:ch ck key L)(x:T):ch ck key (aZ ck key x L):=by
 unfold aZ ch;rw[List.pairwise_append,pairwise_cons];refine⟨h.filter _,⟨λy e=>?_,h.filter _⟩,λy e z hz=>?_⟩
 .simp only[mem_filter,Gr,decide_eq_true_eq]at e;exact(hc.flip _ _).2 e.2
 .simp only[mem_filter,BB,decide_eq_true_eq]at e;rcases mem_cons.1 hz with rfl|hz
  .exact e.2
  .simp only[mem_filter,Gr,decide_eq_true_eq]at hz;exact hc.trans _ _ _ e.2 ((hc.flip _ _).2 hz.2)
def ch.del{L:List T}(h:ch ck key L)(k:κ):ch ck key (bu ck key k L):=h.filter _
def ch.put(hc:nI ck){L:List T}(h:ch ck key L)(x:T):ch ck key (dB ck key x L):=by
 unfold dB;split
 .exact h
 .exact h.ins hc x
def ch.inj(hc:nI ck){L:List T}(h:ch ck key L){a b:T}(ha:a∈L)(y:b∈L)(e:key a=key b):a=b:=by
 obtain⟨i,w,rfl⟩:=mem_iff_getElem.1 ha;obtain⟨j,r,rfl⟩:=mem_iff_getElem.1 y;rcases Nat.lt_trichotomy i j with g|rfl|g
 .have:=List.pairwise_iff_getElem.1 h i j w r g;rw[e,hc.self]at this;omega
 .rfl
 .have:=List.pairwise_iff_getElem.1 h j i r w g;rw[e,hc.self]at this;omega
def bf(hc:nI ck){L:List T}(h:ch ck key L){k:κ}{x:T}:aL ck key k L=some x↔x∈L/\key x=k:=by
 constructor
 .intro e;have w:=List.mem_of_find?_eq_some e;have r:=List.find?_some e;exact⟨w,(hc.zero _ _).1 (by simpa[Ck]using r)⟩
 .rintro⟨g,e⟩;obtain⟨i,j,rfl⟩:=mem_iff_getElem.1 g;exact Av hc h j e
def bD(hc:nI ck){L:List T}{k:κ}:aL ck key k L=none↔∀x∈L,key x≠k:=by
 unfold aL;rw[List.find?_eq_none];simp only[Ck,decide_eq_true_eq,hc.zero,ne_eq]
def ch.ext(hc:nI ck):∀{L i:List T},ch ck key L->ch ck key i->(∀x,x∈L↔x∈i)->L=i
 |[],[],_,_,_=>rfl
 |[],y::i,_,_,h=>absurd ((h y).2 (by simp)) (by simp)
 |x::L,[],_,_,h=>absurd ((h x).1 (by simp)) (by simp)
 |x::L,y::i,I,H,h=>by
  have A:=pairwise_cons.1 I
  have w:=pairwise_cons.1 H;have r:x=y:=by
   rcases mem_cons.1 ((h x).1 (by simp))with e|G
   .exact e
   .rcases mem_cons.1 ((h y).2 (by simp))with e|C
    .exact e.symm
    .have J:=w.1 x G;have O:=A.1 y C;have:=(hc.flip _ _).1 J;omega
  subst r;congr 1;refine ch.ext hc A.2 w.2 λz=>?_;have hz:=h z;simp only[mem_cons]at hz;constructor
  .intro g;rcases hz.1 (.inr g)with e|j
   .subst e;have:=A.1 z g;rw[hc.self]at this;omega
   .exact j
  .intro g;rcases hz.2 (.inr g)with e|j
   .subst e;have:=w.1 z g;rw[hc.self]at this;omega
   .exact j
def vS{x:T}{L:List T}:(aZ ck key x L).length<=L.length+1:=by
 have h:∀M:List T,(M.filter (BB ck key (key x))).length+(M.filter (Gr ck key (key x))).length<=M.length:=by
  intro M;induction M with
  |nil=>simp
  |cons y M i=>
   simp only[filter_cons];by_cases e:BB ck key (key x) y=true
   .have g:Gr ck key (key x) y=false:=by
     simp only[BB,decide_eq_true_eq]at e;simp[Gr];omega
    simp only[e,g,if_true,length_cons];simp;omega
   .simp only[Bool.not_eq_true]at e;simp only[e,Bool.false_eq_true,if_false];split
    .simp only[length_cons];omega
    .simp only[length_cons];omega
 have:=h L;unfold aZ;simp only[length_append,length_cons];omega
def Bl{x:T}{L:List T}:(dB ck key x L).length<=L.length+1:=by
 unfold dB;split
 .omega
 .exact vS
def rh{k:κ}{L:List T}:(bu ck key k L).length<=L.length:=List.length_filter_le _ _
end
section
variable {S T κ:Type} {ck:κ->κ->Int} {key:T->κ}
def ch.map{f:S->T}{L:List S}(h:ch ck (λx=>key (f x)) L):ch ck key (L.map f):=by unfold ch;rw[List.pairwise_map];exact h
def oa{f:S->T}{L:List S}{k:κ}:aL ck key k (L.map f)=(aL ck (λx=>key (f x)) k L).map f:=by unfold aL;rw[List.find?_map];rfl
def l_{f:S->T}{L:List S}{x:S}:aZ ck key (f x) (L.map f)=(aZ ck (λx=>key (f x)) x L).map f:=by
 unfold aZ;rw[filter_map,filter_map,map_append,map_cons];rfl
def wo{f:S->T}{L:List S}{k:κ}:bu ck key k (L.map f)=(bu ck (λx=>key (f x)) k L).map f:=by
 unfold bu;rw[filter_map];rfl
def ch.split(hc:nI ck){L:List T}(g:ch ck key L){x:T}(i:x∈L):aZ ck key x L=L:=by
 refine ch.ext hc (g.ins hc x) g λy=>?_;rw[bq hc];constructor
 .rintro(rfl|⟨h,_⟩)
  .exact i
  .exact h
 .intro h;by_cases e:key y=key x
  .exact .inl (g.inj hc h i e)
  .exact .inr ⟨h,e⟩
def nZ(hc:nI ck){L:List T}{x:T}(h:aL ck key (key x) L=none):(aZ ck key x L).Perm (x::L):=by
 have j:=(bD hc).1 h;have e:L.filter (Gr ck key (key x))=L.filter λy=> !BB ck key (key x) y:=List.filter_congr λy i=>by
  have r:=j y i;rw[ne_eq,<- hc.zero]at r;simp only[Gr,BB];by_cases g:ck (key y) (key x)<0
  .simp[g];omega
  .simp[g];omega
 unfold aZ;rw[e];exact List.perm_middle.trans (List.Perm.cons x (List.filter_append_perm _ L))
def OE(hc:nI ck){F:List T}{y:T}(h:∀x∈F,ck (key x) (key y)<0):dB ck key y F=F++[y]:=by
 have i:aL ck key (key y) F=none:=(bD hc).2 λx g e=>by
  have:=h x g;rw[e,hc.self]at this;omega
 rw[dB,i];show aZ ck key y F=_;unfold aZ;have r:F.filter (BB ck key (key y))=F:=filter_eq_self.2 λx g=>by
  simp only[BB,decide_eq_true_eq];exact h x g
 have j:F.filter (Gr ck key (key y))=[]:=List.filter_eq_nil_iff.2 λx g=>by
  have:=h x g;simp only[Gr,decide_eq_true_eq];omega
 rw[r,j]
def ch.at_(hc:nI ck){L:List T}(i:ch ck key L){x:T}(h:x∈L):∃A B,L=A++x::B/\bu ck key (key x) L=A++B/\∀y,key y=key x->aZ ck key y L=A++y::B:=by
 refine⟨L.filter (BB ck key (key x)),L.filter (Gr ck key (key x)),(i.split hc h).symm,?_,λy e=>by unfold aZ;rw[e]⟩
 conv=>lhs;rw[<- i.split hc h]
 unfold bu aZ;rw[filter_append,filter_cons];have j:Ck ck key (key x) x=true:=by simp[Ck,hc.self]
 simp only[j,Bool.not_true,Bool.false_eq_true,if_false];congr 1
 .exact filter_eq_self.2 λy g=>by
   simp only[mem_filter,BB,decide_eq_true_eq]at g;simp[Ck];omega
 .exact filter_eq_self.2 λy g=>by
   simp only[mem_filter,Gr,decide_eq_true_eq]at g;simp[Ck];omega
end
def aw(a b:Int):Int:=if a<b then -1 else if b<a then 1 else 0
def ar:nI aw:=⟨λa b=>by unfold aw;split<;>(try split)<;>omega,λa b=>by unfold aw;repeat' split<;>omega,λa b d=>by unfold aw;repeat' split<;>omega⟩
def wq{a b:Int}:aw a b<0↔a<b:=by unfold aw;split<;>(try split)<;>omega
def cq(j e:TypeId)(i:Nat)(b:Nat)(g:Lq):aO:=λh=>∃F,iB j e i h b g F
def cq.split{w e:TypeId}{r b:Nat}{i:Lq}{L:List aO}{C:Mem}(U:Ow (cq w e r b i::L) C):∃F,iB w e r C b i F/\∀{g:Mem} {H:Lq} {F':List Nat},Mv C g F F'->iB w e r g b H F'->Ow (cq w e r b H::L) g:=by
 obtain⟨j,y,O,rfl,⟨F,h⟩,Y⟩:=U;refine⟨F,h.same λx J=>?_,λ{g H F'} Q h'=>?_⟩
 .cases I:j x with
  |none=>exact absurd I (h.at_.2 x J)
  |some o=>rw[Mem.bB I]
 .exact Ow.mv (A:=λ_=>True) ⟨j,y,O,rfl,h.at_.2,Y⟩ Q λν G=>⟨F',h'.same G⟩
def Bg{T:Type}{pv:T->List PV}{e:Nat}(h:∀x,(pv x).length=e)(L:List T):∀r∈L.map pv,r.length=e:=λr g=>by
 obtain⟨x,_,rfl⟩:=mem_map.1 g;exact h x
def nR{T:Type}{pv:T->List PV}(h:∀x,aV (pv x)=true)(L:List T):aV (L.map pv).flatten=true:=by
 unfold aV;rw[all_eq_true];intro x e;obtain⟨r,g,e⟩:=List.mem_flatten.1 e;obtain⟨y,_,rfl⟩:=mem_map.1 g;exact all_eq_true.1 (h y) x e
section
variable {T:Type} {pv:T->List PV}
def jR(L:List T)(j:Nat)(y:T):(L.take j++y::L.drop j).length=L.length+1:=by
 rw[length_append,length_cons,length_take,length_drop];omega
def IC(L:List T)(j:Nat)(y:T)(w:0<j)(r:j<=L.length):((L.take j++y::L.drop j).map pv).set j (pv (L[j-1]'(by omega)))=(L.take (j-1)++(L[j-1]'(by omega))::L.drop (j-1)).map pv:=by
 have e:L.drop (j-1)=L[j-1]'(by omega)::L.drop j:=by
  rw[List.drop_eq_getElem_cons (by omega)];congr 2;omega
 have h:L.take j=L.take (j-1)++[L[j-1]'(by omega)]:=by
  have:=take_add_one (l:=L) (i:=j-1);rw[show j-1+1=j by omega,getElem?_eq_getElem (by omega)]at this;exact this
 have g:(L.take j).length=j:=by rw[length_take];omega
 rw[map_append,map_cons,List.set_append_right _ _ (by simp;omega)];simp only[length_map,g,sub_self,set_cons_zero];rw[h,e,map_append,append_assoc,map_append];rfl
def Ng(L:List T)(j:Nat)(x y:T)(g:j<=L.length):((L.take j++y::L.drop j).map pv).set j (pv x)=(L.take j++x::L.drop j).map pv:=by
 have e:(L.take j).length=j:=by rw[length_take];omega
 rw[map_append,map_cons,List.set_append_right _ _ (by simp;omega)];simp only[length_map,e,sub_self,set_cons_zero];rw[map_append,map_cons]
def Sl(L:List T)(j:Nat)(y:T)(g:0<j)(e:j<=L.length):((L.take j++y::L.drop j).map pv)[j-1]?=some (pv (L[j-1]'(by omega))):=by
 rw[List.getElem?_map,List.getElem?_append_left (by rw[length_take];omega),List.getElem?_take,if_pos (by omega),getElem?_eq_getElem (by omega)];rfl
def vI(L:List T)(k j:Nat):List T:=L.take k++(L.drop (k+1)).take (j-k)++L.drop j
def adu(L:List T)(k:Nat):vI L k k=L:=by simp[vI,take_append_drop]
def RQ{L:List T}{k j:Nat}(g:k<=j)(e:j<L.length):(vI L k j).length=L.length:=by
 simp only[vI,length_append,length_take,length_drop];omega
def VW{L:List T}{k j:Nat}(h:k<=j)(g:j+1<L.length):(vI L k j)[j+1]?=some (L[j+1]'g):=by
 unfold vI;have e:(L.take k++(L.drop (k+1)).take (j-k)).length=j:=by
  simp only[length_append,length_take,length_drop];omega
 rw[List.getElem?_append_right (by omega),e,List.getElem?_drop,getElem?_eq_getElem (by omega)];congr 2;omega
def OQ{L:List T}{k j:Nat}(r:k<=j)(e:j+1<L.length):(vI L k j).set j (L[j+1]'e)=vI L k (j+1):=by
 unfold vI;have g:(L.take k++(L.drop (k+1)).take (j-k)).length=j:=by
  simp only[length_append,length_take,length_drop];omega
 rw[List.set_append_right _ _ (by omega),g,sub_self];have i:L.drop j=(L[j]'(by omega))::L.drop (j+1):=List.drop_eq_getElem_cons (by omega);rw[i,set_cons_zero];have h:(L.drop (k+1)).take (j+1-k)=(L.drop (k+1)).take (j-k)++[L[j+1]'e]:=by
  rw[show j+1-k=j-k+1 by omega,take_add_one,List.getElem?_drop,getElem?_eq_getElem (by omega)];simp only[Option.toList_some];congr 3;omega
 rw[h];simp
def RS{L:List T}{k:Nat}(h:k<L.length):vI L k (L.length-1)=L.eraseIdx k++[L[L.length-1]'(by omega)]:=by
 unfold vI;rw[List.eraseIdx_eq_take_drop_succ];have g:(L.drop (k+1)).take (L.length-1-k)=L.drop (k+1):=List.take_of_length_le (by simp;omega);have e:L.drop (L.length-1)=[L[L.length-1]'(by omega)]:=by
  rw[List.drop_eq_getElem_cons (by omega)];congr 1;exact List.drop_of_length_le (by omega)
 rw[g,e]
end
def Mh(b:Nat)(cs:List PV)(e:Mem):Prop:=∃T,e b=some (.cells T cs)\/e b=some (.ro T cs)
def Mh.rd{b:Nat}{cs:List PV}{e:Mem}(h:Mh b cs e){o n:Nat}(g:o+n<=cs.length):ay e b o n=some ((cs.drop o).take n):=by
 obtain⟨T,h|h⟩:=h
 .exact aH h g
 .exact xO h g
def zE(g e:Mem):Prop:=∀b,g b≠none->e b=g b
def zE.new{e:Mem}{b:Nat}(h:e b=none)(o:Option Ob):zE e (e.set b o):=λx g=>Mem.ax _ _ (by rintro rfl;exact g h)
def Mh.afc{b:Nat}{cs:List PV}{g e:Mem}(h:Mh b cs g)(i:zE g e):Mh b cs e:=by
 obtain⟨T,h⟩:=h;refine⟨T,?_⟩;rw[i b (by rcases h with h|h<;>rw[h]<;>simp)];exact h
def Vx(e:Mem):Mem:=λb=>match e b with|some (.cells T cs)=>some (.ro T cs)|some (.ro T cs)=>some (.ro T cs)|_=>none
def Zl{e:Mem}{b:Nat}{T:TypeId}{cs:List PV}(h:e b=some (.cells T cs)):Mh b cs (Vx e):=⟨T,.inr (by simp[Vx,h])⟩
def dh.ahy{P:Program}{g:FuncId}{r:List PV}{w:Mem}{K:Kq}{Kq:PV->Prop}(h:aa P g r (Vx w) λp A=>zE (Vx w) A/\Kq p)(hk:∀p,Kq p->K p M0):dh P g r w K:=λZ u vs J hw ha=>by
 have H:∀b o,Vx w b=some o->(o.rw=true->False)/\zQ Z u b o/\Z b=none:=λb o G=>by
  unfold Vx at G;split at G
  .rename_i T U j;cases G;obtain⟨_,hz,Q⟩:=J.mem b _ j;exact⟨λh=>(by cases h),⟨hz,Q⟩,hz⟩
  .rename_i T U j;cases G;obtain⟨_,hz,Q⟩:=J.mem b _ j;exact⟨λh=>(by cases h),⟨hz,Q⟩,hz⟩
  .cases G
 obtain⟨hc,dc⟩:=h Z ⟨u.toWorld,λ_=>False⟩ vs ⟨J.Da,λb o e=>⟨λI=>(H b o e).1 I,by
  have:=(H b o e).2.1
  cases o with
  |cells T U=>exact this
  |nM n m=>exact this
  |obj o F S=>exact this
  |ro T U=>exact this⟩⟩ (λ_ h=>h.elim) ha
 refine⟨hc,dc.Bz λv lo w' _ _ hp=>?_⟩;obtain⟨Z',A,p,e,g',I,WD,hK⟩:=hp;refine⟨Z',M0,p,⟨e.le,λb C O _=>e.zs b C O ?_,λb j=>?_,λb j=>absurd rfl j,e.lt⟩,⟨g'.Da,λb o h=>by cases h⟩,I,hk p hK⟩
 .cases i:Vx w b with
  |none=>rfl
  |some o=>rw[(H b o i).2.2]at O;cases O
 .rcases e.zn b j with y|y|y
  .exact .inl y
  .exfalso;have Y:=WD b y;cases i:Vx w b with
   |none=>exact y i
   |some o=>
    rw[i]at Y;have h2:=(g'.mem b o Y).2;have h3:=(H b o i);unfold Vx at i;split at i
    .cases i;exact j h2.1
    .cases i;exact j h2.1
    .cases i
  .exact .inr (.inr y)
def Oe{X:List PV}{e o m:Nat}(h:o+m<=e):(X.drop o).take m=((X.take e).drop o).take m:=by
 rw[List.drop_take,List.take_take,min_eq_left (by omega)]
def Zs{cs r:List PV}{A e o m:Nat}(g:(cs.drop A).take e=r)(h:o+m<=e):(cs.drop (A+o)).take m=(r.drop o).take m:=by
 rw[<- g,<- Oe h,drop_drop]
def YW{cs r e:List PV}{A g o:Nat}(H:A+g<=cs.length)(i:(cs.drop A).take g=r)(h:o+e.length<=g):du cs (A+o) e=du cs A (du r o e):=by
 have G:r.length=g:=by rw[<- i,length_take,length_drop];omega
 unfold du;have C:cs.take (A+o)=cs.take A++r.take o:=by
  rw[List.take_add,<- i,List.take_take,min_eq_left (by omega)]
 have y:cs.drop (A+o+e.length)=r.drop (o+e.length)++cs.drop (A+g):=by
  have:cs.drop (A+o+e.length)=(cs.drop A).drop (o+e.length):=by rw[drop_drop];congr 1;omega
  rw[this];have j:cs.drop A=r++cs.drop (A+g):=by
   rw[<- i,<- drop_drop,take_append_drop]
  conv=>lhs;rw[j]
  rw[List.drop_append_of_le_length (by omega)]
 have w:(r.take o++e++r.drop (o+e.length)).length=g:=by
  simp only[length_append,length_take,length_drop];omega
 rw[C,y,w];simp
def ca.at_{e:TypeId}{w n c:Nat}{a:Option Addr}{g:Lq}{L:List aO}{J:Mem}(i:Nat)(hO:Ow L J)(hi:L[i]?=some (ca e w (.raw (.slice a n c)) g))(O:∀r∈g,r.length=w){j:Nat}(I:j<g.length):
  ∃b,a=some ⟨b,0,none⟩/\(∀o m,o+m<=w->ay J b (0+j*w+o) m=some ((g[j].drop o).take m))/\
   ∀(o:Nat) (G:List PV) (K:Mem->Prop),o+G.length<=w->(∀C,Ow (L.set i (ca e w (.raw (.slice a n c)) (g.set j (du g[j] o G)))) C->K C)->stM b (0+j*w+o) G J K:=by
 have rQ:=Ow.at i hi hO;obtain⟨F,hv,Y,U,hs,e0,hF,hL⟩:=ca.split rQ;rcases hv with⟨_,rfl,_⟩|⟨b,c',y,hp,rfl,Q,H,hc⟩
 .simp at I
 .simp only[PV.raw.injEq,Value.slice.injEq]at hp;obtain⟨rfl,rfl,rfl⟩:=hp;have lj:g.flatten.length=g.length*w:=eo O;have hle:j*w+w<=g.length*w:=by rw[<- Nat.succ_mul];exact Nat.mul_le_mul_right _ I
  have eh:((g.flatten++y).drop (j*w)).take w=g[j]:=by
   have:=Ig (s:=j) O Q (getElem?_eq_getElem I);simp only[ay,Q]at this;split at this
   .simpa using this
   .cases this
  refine⟨b,rfl,λo m h=>?_,λo G K h hK=>?_⟩
  .have:ay J b (0+j*w+o) m=some (((g.flatten++y).drop (0+j*w+o)).take m):=by
    simp only[ay,Q];rw[if_pos (by rw[length_append,lj];omega)]
   rw[this,zero_add,Zs eh h]
  .have sS:g[j].length=w:=O _ (getElem_mem I);have hwl:(du g[j] o G).length=w:=by
    unfold du;simp only[length_append,length_take,length_drop];omega
   refine⟨_,_,Q,by rw[length_append,lj];omega,hK _ (Ow.back i (rO hi) ?_)⟩;rw[zero_add,YW (by rw[length_append,lj];omega) eh h,DI O I hwl];refine Ow.mv (A:=λ_=>True) (F:=[b]) (F':=[b]) ⟨Y,U,hs,e0,hF,hL⟩ ((Mv.set (.inl (by simp))).sub (by simp)) λν hν=>⟨[b],.inr ⟨b,c,y,by simp,rfl,?_,by simpa using H,by simpa using hc⟩⟩;rw[hν b (by simp),Mem.ao]
def rZ{e:TypeId}{j i:Nat}{f:Fl}{g:Lq}{L:List aO}{y:Mem}{K:Option Addr->Nat->Nat->Mem->Prop}(G:Ow L y)(Q:∀r∈g,r.length=j)(hc:aV g.flatten=true)(Y:g.length*i<=140737488355328)(O:g.length<4611686018427387904)
  (C:∀a c w,Ow (ca e j (.raw (.slice a g.length c)) g::L) w->K a g.length c w):eB j i e none 0 0 (.list j f g) y K:=by
 have ZC:qJ j j g=true:=by simp[qJ,Nat.beq_refl]
 unfold eB FV;simp only[ZC,cond_true,zero_add];refine⟨Y,O,le_refl _,?_⟩;cases g with
 |nil=>exact .inl ⟨rfl,λh=>absurd rfl h,C none 0 y (ca.nil e j G)⟩
 |cons r rs=>
  refine .inr ⟨by simp,hc,λh=>by simp at h,λ_=>⟨[],.inl ⟨trivial,rfl⟩,λI H U J=>?_⟩⟩;rw[List.nil_append];refine C _ H _ ?_;have lj:(r::rs).flatten.length=(r::rs).length*j:=eo Q;refine(G.new e _ U).imp λν A=>⟨[I],.inr ⟨I,H,_,rfl,rfl,A,?_,J⟩⟩;rw[List.length_replicate,<- Nat.add_mul];congr 1;omega
def ca.view{e:TypeId}{j:Nat}{p:PV}{g:Lq}{L:List aO}{w:Mem}(i:Nat)(C:Ow L w)(A:L[i]?=some (ca e j p g))(y:∀r∈g,r.length=j)(hc:aV g.flatten=true):dL w p (.list j .sh g):=by
 obtain⟨F,h,_⟩:=ca.split (Ow.at i A C);exact h.view y hc
def Te{Z:Fz}{u:UW}{g:Mem}{b:Nat}{T:TypeId}{cs:List PV}{r:Value}(H:Good Z u g)(I:g b=some (.cells T cs))(hc:aV cs=true)(C:bW Z (pP b 0) r):bW (hY Z u λx=>if x∈[b]then g x else none) (.bt cs 0) r:=by
 have w:Good Z u (λx=>if x∈[b]then g x else none):=H.sub λx o i=>by
  by_cases e:x∈[b]
  .simpa[e]using i
  .simp[e]at i
 obtain⟨A,hz,e⟩:=NU (cs:=cs) w (b:=b) (by simp[I,cellsOf]);rw[C.ofRaw.1];have y:=(e.mono (gP w)).c hc;refine .bt cs 0 b 0 A.toList (λj=>(A.toList[j]?).getD undef) hz (λj G=>?_) (λj p hp=>?_) (λj p hp=>?_)
 .have h:j<A.toList.length:=by rw[e.1];exact G
  rw[zero_add,getElem?_eq_getElem h];rfl
 .exact all_eq_true.1 hc p (List.mem_of_getElem? hp)
 .have h:j<A.toList.length:=by rw[e.1];exact(List.getElem?_eq_some_iff.1 hp).1
  have:=y.2 j p A.toList[j] hp (getElem?_eq_getElem h);simp only[getElem?_eq_getElem h,Option.getD_some];exact this.2
def Mem.inc(e g:Mem):Prop:=∀b o,e b=some o->g b=some o
def oN{g j:Mem}(h:Mem.inc g j){b o n:Nat}{cs:List PV}(e:ay g b o n=some cs):ay j b o n=some cs:=by
 unfold ay at e |-;cases i:g b with
 |none=>rw[i]at e;cases e
 |some r=>rw[i]at e;rw[h b r i];exact e
def dL.inc{j r:Mem}(h:Mem.inc j r){c d:PV}(w:dL j c d):dL r c d:=by
 induction w with
 |same c=>exact .same c
 |wk c=>exact .wk c
 |nil e rows=>exact .nil e rows
 |Dk a k e spot=>exact .Dk a k e spot
 |XW b o k e rows cs cap each cell read _ g=>exact .XW b o k e rows cs cap each cell (oN h read) g
 |agg i cell _ g=>exact .agg i cell g
 |aB i ok _ g=>exact .aB i ok g
def cA.append{r:Mem}{cs y A e:List PV}(h:cA r cs y)(k:cA r A e):cA r (cs++A) (y++e):=by
 refine⟨by rw[length_append,length_append,h.1,k.1],λi c d j g=>?_⟩;by_cases w:i<cs.length
 .rw[List.getElem?_append_left w]at j;rw[List.getElem?_append_left (by rw[<- h.1];exact w)]at g;exact h.2 i c d j g
 .rw[List.getElem?_append_right (by omega)]at j;rw[List.getElem?_append_right (by rw[<- h.1];omega),<- h.1]at g;exact k.2 _ c d j g
def cA.flat{T:Type}{e:Mem}{f g:T->List PV}:∀{X:List T},(∀x∈X,cA e (f x) (g x))->cA e (X.map f).flatten (X.map g).flatten
 |[],_=>cA.nil e
 |x::X,h=>by
  simp only[map_cons,List.flatten_cons]
  exact(h x (by simp)).append (cA.flat λy i=>h y (by simp[i]))
def Ow.mem:∀{L:List aO} {j:Mem},Ow L j->∀A∈L,∃g,A g/\Mem.inc g j
 |[],_,_,A,e=>by cases e
 |B::L,j,h,A,e=>by
  obtain⟨i,y,C,rfl,H,G⟩:=h
  rcases mem_cons.1 e with rfl|e
  .exact⟨i,H,λb o r=>Mem.bB r⟩
  .obtain⟨g,J,I⟩:=Ow.mem G A e;refine⟨g,J,λb o r=>?_⟩;have w:=I b o r;rw[Mem.bp ((C b).resolve_right (by rw[w];simp))];exact w
def ca.raw{e:TypeId}{r:Nat}{p:PV}{g:Lq}{j:Mem}(h:ca e r p g j):∃a c,p=.raw (.slice a g.length c):=by
 obtain⟨F,h⟩:=h;rcases h with⟨rfl,rfl,_⟩|⟨b,c,i,rfl,_⟩
 .exact⟨none,0,rfl⟩
 .exact⟨_,c,rfl⟩
def ca.xQ{e:TypeId}{j:Nat}{p:PV}{g:Lq}{L:List aO}{i:Mem}(h:Ow (ca e j p g::L) i):∃a c,p=.raw (.slice a g.length c):=h.fact λ_ r=>ca.raw r
def ca.deep{T:Type}{e:TypeId}{j:Nat}{p:PV}{f g:T->List PV}{X:List T}{O H:Mem}(I:ca e j p (X.map f) O)(hi:Mem.inc O H)(hf:∀x∈X,(f x).length=j)(hg:∀x∈X,(g x).length=j)(hc:∀x∈X,aV (g x)=true)(h:∀x∈X,cA H (f x) (g x)):dL H p (.list j .sh (X.map g)):=by
 obtain⟨F,I⟩:=I;have lj:∀r∈X.map f,r.length=j:=λr C=>by obtain⟨x,w,rfl⟩:=mem_map.1 C;exact hf x w
 have WE:∀r∈X.map g,r.length=j:=λr C=>by obtain⟨x,w,rfl⟩:=mem_map.1 C;exact hg x w
 rcases I with⟨rfl,h0,_⟩|⟨b,c,Q,rfl,_,hm,U,J⟩
 .have:X=[]:=by cases X with|nil=>rfl|cons x X=>simp at h0
  subst this;exact .Dk none 0 j (.inl rfl)
 .have G:(X.map f).flatten.length=(X.map f).length*j:=eo lj;have A:(X.map f).length=(X.map g).length:=by simp
  rw[A];refine .XW b 0 c j (X.map g) (X.map f).flatten (by rw[<- A];exact J) WE ?_ ?_ λi c d h1 h2=>(cA.flat h).2 i c d h1 h2
  .refine all_eq_true.2 λx w=>?_;obtain⟨r,C,w⟩:=List.mem_flatten.1 w;obtain⟨y,hy,rfl⟩:=mem_map.1 C;exact all_eq_true.1 (hc y hy) x w
  .have Y:=hi b _ hm;rw[<- A];simp only[ay,Y];rw[if_pos (by simp[G]),List.drop_zero,<- G,List.take_left'];rfl
def kB(b:Nat)(T:TypeId)(g:Nat)(e:Lq):aO:=λh=>∃f,Ow [Pt b T [.list g f e],eX f e.length g] h
def kB.new{b:Nat}{T:TypeId}{e:Nat}{L:List aO}{g:Mem}(h:Ow (Pt b T [.list e .nil []]::L) g):Ow (kB b T e []::L) g:=by
 have i:Ow ([Pt b T [.list e .nil []],eX .nil 0 e]++L) g:=h.tail λ_ h=>h.nil (.inl rfl);exact i.pack.imp λ_ h=>⟨.nil,h⟩
def kB.rd{L:List aO}{j:Mem}(i:Nat){b:Nat}{T:TypeId}{g:Nat}{e:Lq}(w:Ow L j)(r:L[i]?=some (kB b T g e)):∃f,ay j b 0 1=some [.list g f e]:=by
 obtain⟨f,h⟩:=Ow.ex (Ow.at i r w);exact⟨f,(h.nest (L1:=[Pt b T [.list g f e],eX f e.length g])).rd 0 rfl (by simp)⟩
def kB.go{L:List aO}{y:Mem}(i:Nat){b:Nat}{T:TypeId}{g j:Nat}{e new:Lq}{K:Mem->Prop}(O:Ow L y)(C:L[i]?=some (kB b T g e))(J:(e.length+new.length)*j<=140737488355328)(H:e.length+new.length<4611686018427387904)
  (I:∀w,Ow (L.set i (kB b T g (e++new))) w->K w):∃(f:Fl) (A:Lq),ay y b 0 1=some [.list g f A]/\aR false g j f A new y λr u=>stM b 0 [.list g r (A++new)] u λu'=>K u':=by
 obtain⟨f,h⟩:=Ow.ex (Ow.at i C O);have G:Ow (Pt b T [.list g f e]::eX f e.length g::L.eraseIdx i) y:=h.nest (L1:=[Pt b T [.list g f e],eX f e.length g]);refine⟨f,e,G.rd 0 rfl (by simp),Ow.app G.swap rfl J H λr u h2=>?_⟩;refine h2.st 1 rfl (by simp) λu' Y=>I u' (Ow.back i (rO C) ?_);have U:Ow (eX r (e.length+new.length) g::Pt b T [.list g r (e++new)]::L.eraseIdx i) u':=Y;have Q:Ow ([Pt b T [.list g r (e++new)],eX r (e++new).length g]++L.eraseIdx i) u':=by
  rw[length_append];exact U.swap
 exact Q.pack.imp λ_ h=>⟨r,h⟩
def kB.end_{L:List aO}{j:Mem}(i:Nat){b:Nat}{T:TypeId}{g:Nat}{e:Lq}(w:Ow L j)(r:L[i]?=some (kB b T g e)):∃f,Ow (L.set i (Pt b T [.list g f e])) j:=by
 obtain⟨f,h⟩:=Ow.ex (Ow.at i r w);have y:Ow (Pt b T [.list g f e]::eX f e.length g::L.eraseIdx i) j:=h.nest (L1:=[Pt b T [.list g f e],eX f e.length g]);exact⟨f,Ow.back i (rO r) (y.tail λ_ h=>h.drop)⟩
def Ow.abx{L:List aO}{w:Mem}{q:Bool}{size g:Nat}{e new:Lq}{K:Fl->Mem->Prop}(C:Ow L w)(r:(e.length+new.length)*g<=140737488355328)(y:e.length+new.length<4611686018427387904)
  (A:∀j i,Ow L i->K j i):aR q size g .nr e new w K:=
 aR.go (fl:=.nr) trivial r y (λj i _ h=>A j i (C.mono λb o r=>(h b o r id).1)) (λ_ b c h=>by cases h)
def Ow.ahb{L:List aO}{j:Mem}{b:Nat}{e:TypeId}{sz:Nat}{g:Lq}(h:Ow (Pt b e g.flatten::L) j):Ow (ca e sz (.raw (.slice (some ⟨b,0,none⟩) g.length g.length)) g::L) j:=
 h.imp λr i=>⟨[b],.inr ⟨b,g.length,[],rfl,rfl,by rw[List.append_nil];exact i,by simp,le_refl _⟩⟩
def ca.frz{e:TypeId}{w:Nat}{p:PV}{g:Lq}{L:List aO}{y:Mem}(U:Ow (ca e w p g::L) y)(O:∀r∈g,r.length=w)(hc:aV g.flatten=true):
  ∃(A:Mem) (H:List Nat),(∀b o,A b=some o->y b=some o/\b∉H)/\Ow L A/\dL (λb=>if b∈H then y b else none) p (.list w .sh g):=by
 obtain⟨F,h,j,i,J,rfl,hF,Y⟩:=ca.split U;refine⟨i,F,λb o C=>?_,Y,?_⟩
 .have G:j b=none:=(J b).resolve_right (by rw[C];simp);exact⟨by rw[Mem.bp G];exact C,λQ=>hF b Q G⟩
 .have h2:wF e w (λb=>if b∈F then(j.or i) b else none) p g F:=h.same λx I=>by simp[I]
  exact h2.view O hc
def aa.ajs{P:Program}{g:FuncId}{i:List PV}{C:Mem}{K H:Kq}(h:aa P g i C K)(J:∀v e,K v e->∃(w:PV) (y:Mem) (j:List Nat),dL (λb=>if b∈j then e b else none) v w/\(∀b o,y b=some o->e b=some o/\b∉j)/\H w y):aa P g i C H:=
 h.freeze λv e hK=>by
  obtain⟨w,y,j,Y,U,Q⟩:=J v e hK;refine⟨w,y,j,λZ u r O I=>?_,U,Q⟩;refine Y.rep (O.sub λb o A=>?_) I;by_cases G:b∈j
  .rw[if_pos G]at A;exact A
  .rw[if_neg G]at A;cases A
def VK:List Nat->List aO->List aO
 |[],L=>L
 |i::is,L=>match L[i]? with|some A=>A::VK is (L.eraseIdx i)|none=>VK is L
def Ow.ord:∀(e:List Nat) {L:List aO} {g:Mem},Ow L g->Ow (VK e L) g
 |[],_,_,h=>h
 |i::e,L,g,h=>by
  unfold VK
  split
  .rename_i A j
   exact(Ow.at i j h).tail λ_ r=>Ow.ord e r
  .exact Ow.ord e h
def kB.open_{L:List aO}{j:Mem}(i:Nat){b:Nat}{T:TypeId}{g:Nat}{e:Lq}(w:Ow L j)(r:L[i]?=some (kB b T g e)):∃f,Ow (Pt b T [.list g f e]::eX f e.length g::L.eraseIdx i) j:=by
 obtain⟨f,h⟩:=Ow.ex (Ow.at i r w);exact⟨f,h.nest (L1:=[Pt b T [.list g f e],eX f e.length g])⟩
def kB.shut{L:List aO}{i:Mem}{b:Nat}{T:TypeId}{g n:Nat}{f:Fl}{e:Lq}(h:Ow (eX f n g::Pt b T [.list g f e]::L) i)(j:n=e.length):Ow (kB b T g e::L) i:=by
 subst j;have r:Ow ([Pt b T [.list g f e],eX f e.length g]++L) i:=h.swap;exact r.pack.imp λ_ h=>⟨f,h⟩
def iV{e:Type}(f:e->PV)(xs:List e):(xs.map λx=>[f x]).flatten=xs.map f:=by
 induction xs with
 |nil=>rfl
 |cons x xs g=>simp only[map_cons,List.flatten_cons,g];rfl
def ca.cut{U:Type}{f:U->PV}{e:TypeId}{xs:List U}{L:List aO}{I:Mem}{a:Option Addr}{n c:Nat}(hO:Ow (ca e 1 (.raw (.slice a n c)) (xs.map λx=>[f x])::L) I)(hf:∀x,(f x).cell=true){k:Nat}(hk:k<xs.length)(ki:xs.length<=1000000){K:Option Addr->Nat->Nat->Mem->Prop}
  (hK:∀w,Ow (ca e 1 (.raw (.slice a (xs.length-1) c)) ((xs.eraseIdx k).map λx=>[f x])::L) w->K a (xs.length-1) c w):
  gq a/\n=xs.length/\n<=c/\eB 1 8 e (zI a 0 c 1) k c (.raw (.slice (zI a (k+1) c 1) (n-(k+1)) (c-(k+1)))) I K:=by
 obtain⟨F,h,Gg⟩:=ca.split hO;rcases h with⟨_,h2,_⟩|⟨b,c',g,O,rfl,C,hl,hc⟩
 .have:=congrArg List.length h2;simp at this;subst this;simp at hk
 .rw[length_map]at O hl hc;obtain⟨rfl,rfl,rfl⟩:a=some ⟨b,0,none⟩/\n=xs.length/\c=c':=by
   simp only[PV.raw.injEq,Value.slice.injEq]at O;exact O
  rw[iV]at C;refine⟨λy hy=>by cases hy;rfl,rfl,hc,?_⟩;have e0:zI (some ⟨b,0,none⟩) 0 c 1=some ⟨b,0,none⟩:=by
   unfold zI;split
   .rfl
   .simp
  obtain⟨o,Y,e1⟩:∃o,(o=k+1\/(o=0/\xs.length=k+1))/\zI (some ⟨b,0,none⟩) (k+1) c 1=some ⟨b,o,none⟩:=by
   unfold zI;by_cases e:c=k+1
   .rw[if_pos e];exact⟨0,.inr ⟨rfl,by omega⟩,rfl⟩
   .rw[if_neg e];exact⟨k+1,.inl rfl,by simp⟩
  rw[e0,e1];have j:(xs.map f++g).length=c:=by simp;omega
  have i:(xs.eraseIdx k).length=xs.length-1:=by rw[List.length_eraseIdx,if_pos hk]
  have Q:xs=xs.take k++xs[k]::xs.drop (k+1):=by simp
  have H:xs.eraseIdx k=xs.take k++xs.drop (k+1):=List.eraseIdx_eq_take_drop_succ xs k;refine⟨((xs.map f++g).drop o).take ((xs.length-(k+1))*1),aH C (by rw[j];rcases Y with rfl|⟨rfl,h⟩<;>omega),by omega,by omega,by omega,?_⟩;by_cases hm:xs.length-(k+1)=0
  .left;refine⟨hm,λ_=>⟨b,0,_,rfl,aH C (by rw[j];omega)⟩,?_⟩;have J:k=xs.length-1:=by omega
   have:K (some ⟨b,0,none⟩) (xs.length-1) c I:=by
    refine hK I ?_;refine Ow.mv (A:=λ_=>True) Gg (Mv.refl _ _) λν r=>⟨[b],.inr ⟨b,c,f xs[k]::g,by rw[length_map,i],rfl,?_,?_,?_⟩⟩
    .rw[r b (by simp),C,iV,H];have hd:xs.drop (k+1)=[]:=List.drop_eq_nil_of_le (by omega);rw[hd,List.append_nil]
     conv=>lhs;rw[Q,hd]
     rw[map_append,append_assoc];rfl
    .rw[length_map,i,length_cons];omega
    .rw[length_map,i];omega
   rw[<- J]at this;exact this
  .right;have aJ:o=k+1:=by rcases Y with h|⟨_,h⟩<;>omega
   subst aJ;have iH:((xs.map f++g).drop (k+1)).take ((xs.length-(k+1))*1)=(xs.drop (k+1)).map f:=by
    rw[List.drop_append_of_le_length (by simp;omega),Nat.mul_one,List.take_append_of_le_length (by simp),<- List.map_drop,List.take_of_length_le (by simp)]
   rw[iH];refine⟨hm,?_,λ_=>⟨b,0,_,_,rfl,C,by rw[j];omega,?_⟩,λh=>by omega⟩
   .rw[aV,all_eq_true];intro p hp;obtain⟨x,_,rfl⟩:=mem_map.1 hp;exact hf x
   .have G:k+(xs.length-(k+1))=xs.length-1:=by omega
    rw[G];refine hK _ (Ow.mv (A:=λ_=>True) Gg (Mv.set (.inl (by simp))) λν r=>⟨[b],.inr ⟨b,c,((xs.map f).drop (xs.length-1))++g,by rw[length_map,i],rfl,?_,?_,?_⟩⟩)
    .rw[r b (by simp),Mem.ao,iV,H];congr 2;unfold du;rw[zero_add,Nat.mul_one,List.take_append_of_le_length (by simp;omega),length_map,length_drop,List.drop_append_of_le_length (by simp;omega),G,map_append,List.map_take,append_assoc]
    .rw[length_map,i,length_append,length_drop,length_map];omega
    .rw[length_map,i];omega
def ak.afl{h:Type}{g:(Int->h->Prop)->Int->h->Prop}{u:h}(n:Nat)(I:Nat->h->Prop)(j:I n u)
  (w:∀(k:Nat) (u:h) (next:Int->h->Prop),k<n->I (k+1) u->(∀u',I k u'->next ((k:Int)-1) u')->g next (k:Int) u) (r:∀(u:h) (next:Int->h->Prop),I 0 u->g next (-1) u):ak g ((n:Int)-1) u:=by
 refine⟨λm s u=>s=(m:Int)-1/\m<=n/\I m u,⟨n,rfl,le_refl _,j⟩,?_⟩;rintro m s u ⟨rfl,A,i⟩;cases m with
 |zero=>exact r u _ i
 |succ k=>
  have e:((k+1:Nat):Int)-1=(k:Int):=by omega
  rw[e];exact w k u _ (by omega) i λu' y=>⟨k,by omega,rfl,by omega,y⟩
def GZ(P:Program)(f:PV)(e:Lq)(A:aO):Prop:=
 (∃g a b,f=.fn (.func g) a b)/\∀(r:Fn) (y w:List PV) (J:Nat->aO) (S:aO) (j:Mem),Cb r True->Ow [A,J 0] j->
  (∀(k:Nat) (h:k<e.length) (j:Mem),J k j->bP P (.fn r y w) e[k] j λv i=>(v=pB true/\Ow [J (k+1)] i)\/(v=pB false/\Ow [S] i))->
  bP P f [.fn r y w] j λ_ i=>Ow [A,J e.length] i\/Ow [A,S] i
def GZ.mk{P:Program}{g:FuncId}{a b:List PV}{e:Lq}{A:aO}
  (h:∀(r:Fn) (y w:List PV) (J:Nat->aO) (S:aO) (j:Mem),Cb r True->Ow [A,J 0] j->
   (∀(k:Nat) (h:k<e.length) (j:Mem),J k j->bP P (.fn r y w) e[k] j λv i=>(v=pB true/\Ow [J (k+1)] i)\/(v=pB false/\Ow [S] i))->
   aa P g (a++[.fn r y w]++b) j λ_ i=>Ow [A,J e.length] i\/Ow [A,S] i):GZ P (.fn (.func g) a b) e A:=
 ⟨⟨g,a,b,rfl⟩,λr y w J S j C G H=>h r y w J S j C G H⟩
def bk.adm{P:Program}{f:PV}{r:Lq}{A:aO}{L:List aO}{Q:List PV->(Option Code->Mem->Prop)->Mem->Prop}{K:Option Code->Mem->Prop}{C:Mem}(hs:GZ P f r A)(hO:Ow (A::L) C)
  (J:Nat->aO) (S:Code->aO) (hJ:∀k,eW (J k)) (hS:∀c,eW (S c)) (h0:∀j,Ow L j->J 0 j)
  (cV:∀(k:Nat) (h:k<r.length) (C:Mem) (R:Option Code->Mem->Prop),J k C->(∀j,J (k+1) j->R none j)->(∀c j,S c j->R (some c) j)->Q r[k] R C)
  (Lu:∀C,Ow [A,J r.length] C->K none C) (IH:∀c C,Ow [A,S c] C->K (some c) C):bk P f Q K C:=by
 obtain⟨hf,hs⟩:=hs;refine⟨hf,λl G hl hy=>?_⟩;have cut:∀{i:Mem} {o:Ob} {M:List aO},Ow (Rc l o::M) i->i l=some o/\Ow M (i.set l none):=λ{i o M} h=>by
  obtain⟨w,ν2,tT,rfl,hR,hM⟩:=h;refine⟨Mem.bB hR,hM.mono λb o' U=>?_⟩;have Kk:w b=none:=(tT b).resolve_right (by rw[U];simp);have aW:b≠l:=by
   rintro rfl;have:w b=_:=hR;rw[this]at Kk;cases Kk
  rw[Mem.ax _ _ aW,Mem.bp Kk];exact U
 have H:∀{i:Mem} {o:Ob},i l=some o->i=(i.set l none).set l (some o):=λ{i o} h=>by
  rw[Mem.set_set,Mem.Bb h]
 have O:∀{i:Mem} {o:Ob} {B:aO},eW B->Ow [A,λi=>∃g,g l=none/\i=g.set l (some o)/\B g] i->i l=some o/\Ow [A,B] (i.set l none):=λ{i o B} hB h=>by
  obtain⟨w,ν2,tT,rfl,hA,ν3,I,akB,rfl,⟨g,h1,rfl,Y⟩,_⟩:=h;have zM:w l=none:=by
   rcases tT l with h|h
   .exact h
   .rw[Mem.bB (Mem.ao _ _ _)]at h;cases h
  have e2:((g.set l (some o)).or I) l=some o:=Mem.bB (Mem.ao _ _ _);refine⟨by rw[Mem.bp zM];exact e2,w,((g.set l (some o)).or I).set l none,λb=>?_,?_,hA,Ow.one (hB g _ (λb o' U=>?_) Y)⟩
  .by_cases e:b=l
   .subst e;exact .inl zM
   .rw[Mem.ax _ _ e];exact tT b
  .funext b;by_cases e:b=l
   .subst e;rw[Mem.ao,Mem.bp zM,Mem.ao]
   .rw[Mem.ax _ _ e];show(w.or ((g.set l (some o)).or I)) b=(w.or (((g.set l (some o)).or I).set l none)) b;cases hx:w b with
    |some y=>rw[Mem.bB hx,Mem.bB hx]
    |none=>rw[Mem.bp hx,Mem.bp hx,Mem.ax _ _ e]
  .have aW:b≠l:=by rintro rfl;rw[h1]at U;cases U
   rw[Mem.ax _ _ aW];exact Mem.bB (by rw[Mem.ax _ _ aW];exact U)
 refine(hs (.yield l) [] [] (λk i=>∃g,g l=none/\i=g.set l (some (G none))/\J k g) (λi=>∃c g,g l=none/\i=g.set l (some (G (some c)))/\S c g) _ trivial ?_ ?_).mono ?_
 .have h1:Ow (Rc l (G none)::A::L) (C.set l (some (G none))):=by
   refine⟨M0.set l (some (G none)),C,λx=>?_,?_,Mem.ao _ _ _,hO⟩
   .by_cases e:x=l
    .subst e;exact .inr hl
    .rw[Mem.ax _ _ e];exact .inl rfl
   .funext x;by_cases e:x=l
    .subst e;rw[Mem.ao,Mem.bB (Mem.ao _ _ _)]
    .rw[Mem.ax _ _ e,Mem.bp (by rw[Mem.ax _ _ e];rfl)]
  refine h1.swap.tail λi hν=>Ow.one ?_;obtain⟨h2,Y⟩:=cut hν;exact⟨_,Mem.ao _ _ _,H h2,h0 _ Y⟩
 .rintro k hk _ ⟨g,h1,rfl,Kl⟩;refine(hy r[k] g (λp j=>match p with|none=>J (k+1) j|some c=>S c j) h1 (cV k hk g _ Kl (λj h=>h) (λc j h=>h))).mono ?_;rintro v μ2 ⟨p,μ4,rfl,Y,rfl,hR⟩;cases p with
  |none=>exact .inl ⟨rfl,Ow.one ⟨μ4,Y,rfl,hR⟩⟩
  |some c=>exact .inr ⟨rfl,Ow.one ⟨c,μ4,Y,rfl,hR⟩⟩
 .rintro v i (h|h)
  .obtain⟨h4,h5⟩:=O (hJ _) h;exact⟨none,i.set l none,Mem.ao _ _ _,H h4,Lu _ h5⟩
  .have h6:Ow [A,λi=>∃c,(λi=>∃g,g l=none/\i=g.set l (some (G (some c)))/\S c g) i] i:=h;obtain⟨c,h7⟩:=Ow.ex h6.swap;obtain⟨h4,h5⟩:=O (hS c) h7.swap;exact⟨some c,i.set l none,Mem.ao _ _ _,H h4,IH c _ h5⟩
def Is(e:Mem):aO:=λg=>g=e
def Ow.inc{L:List aO}{g ν0:Mem}(h:Ow L g)(j:Is ν0∈L):Mem.inc ν0 g:=by
 obtain⟨i,e,r⟩:=h.mem (Is ν0) j;have e:i=ν0:=e;subst e;exact r
def Ow.fix{A:aO}{L:List aO}{r:Mem}(h:Ow (A::L) r):∃g,A g/\Ow (Is g::L) r:=by
 obtain⟨i,j,w,e,C,y⟩:=h;exact⟨i,C,i,j,w,e,rfl,y⟩
def Ow.XH{A:aO}{L:List aO}{i g:Mem}(h:Ow (Is g::L) i)(j:A g):Ow (A::L) i:=h.imp λi e=>by
 have e:i=g:=e;subst e;exact j
def FB:PV->PV
 | .raw v=>.raw v
 |_=>.aU
def Mem.gQ(e:Mem):Mem:=λb=>match e b with|some (.cells T cs)=>some (.cells T (cs.map FB))|_=>none
def oI{e:Mem}{b:Nat}(h:e b=none):e.gQ b=none:=by unfold Mem.gQ;rw[h]
def Oy{g e:Mem}(h:g.sep e):g.gQ.sep e.gQ:=λb=>(h b).imp oI oI
def HZ{g e:Mem}{b:Nat}(h:g b=e b):g.gQ b=e.gQ b:=by unfold Mem.gQ;rw[h]
def Rf{g j:Mem}(h:g.sep j):(g.or j).gQ=g.gQ.or j.gQ:=by
 funext b;cases i:g b with
 |none=>
  rw[Mem.bp (oI i)];exact HZ (Mem.bp i)
 |some o=>
  have e:(g.or j).gQ b=g.gQ b:=HZ (by rw[Mem.bB i,i]);rw[e];cases r:g.gQ b with
  |none=>
   rw[Mem.bp r];exact(oI ((h b).resolve_left (by rw[i];simp))).symm
  |some w=>rw[Mem.bB r]
def Flat(A:aO):Prop:=∀e,A e->A e.gQ
def Flat.own:∀{L:List aO},(∀A∈L,Flat A)->Flat (Ow L)
 |[],_,_,_=>trivial
 |A::L,h,C,j=>by
  obtain⟨g,e,i,rfl,y,r⟩:=j
  exact⟨g.gQ,e.gQ,Oy i,Rf i,h A (by simp) _ y,Flat.own (λB w=>h B (by simp[w])) _ r⟩
def Flat.vec{e:TypeId}{A:Nat}{p:PV}{g:Lq}(h:∀x∈g.flatten,x.iV=true):Flat (ca e A p g):=λI j=>by
 obtain⟨F,j⟩:=j;rcases j with⟨y,w,r⟩|⟨b,c,i,y,w,r,H,G⟩
 .exact⟨F,.inl ⟨y,w,r⟩⟩
 .refine⟨F,.inr ⟨b,c,i.map FB,y,w,?_,by rw[length_map];exact H,G⟩⟩;unfold Mem.gQ;rw[r];simp only[map_append];rw[show g.flatten.map FB=g.flatten from(List.map_congr_left λx C=>?_).trans (List.map_id _)];have:=h x C;cases x<;>simp[PV.iV]at this;rfl
def aa.XY{P:Program}{g:FuncId}{j iz:List PV}{O:Mem}{A:PV->aO}{K:Kq}(h:aa P g iz M0 A)(hl:j.length=iz.length)(w:∀(i:Nat) p q,j[i]?=some p->iz[i]?=some q->dL O p q/\q.ok=true)(hA:∀p,Flat (A p))(hf:∀p Y,A p Y->p.flat=true)(hk:∀p Y,A p Y->∃q,dL Y p q/\K q M0):dh P g j O K:=λZ u vs I hw ha=>by
 have hgb:Good (hY Z u O) ⟨u.toWorld,λ_=>False⟩ M0:=⟨om I,λb o h=>by cases h⟩
 have ha':br (hY Z u O) iz vs:=⟨ha.1.trans hl,λi q v hq hv=>by
  have bK:i<j.length:=by rw[hl];exact(List.getElem?_eq_some_iff.1 hq).1
  have hp:j[i]?=some j[i]:=getElem?_eq_getElem bK
  obtain⟨h1,h2⟩:=w i _ q hp hq
  exact⟨h2,h1.rep I (ha.2 i _ v hp hv).2⟩⟩
 obtain⟨hc,F,hF,dc⟩:=h (hY Z u O) ⟨u.toWorld,λ_=>False⟩ vs hgb (λ_ h=>h.elim) ha';refine⟨hc,F,hF,dc.mono λv lo w' hm Ww hp=>?_⟩;obtain⟨Z',G,p,e,g',hr,hK⟩:=hp;obtain⟨q,h1,h2⟩:=hk p _ (hA p _ hK);have iH:∀b o,G.gQ b=some o->u.heap.size<=b/\∃T U,G b=some (.cells T U)/\o=.cells T (U.map FB):=λb o w=>by
  unfold Mem.gQ at w;split at w
  .rename_i T U H;cases w;exact⟨(e.mn b (by rw[H];simp)).resolve_left λh=>h rfl,T,U,H,rfl⟩
  .cases w
 have J:Good Z ((⟨u.toWorld,λ_=>False⟩:UW).ret lo w') G.gQ:=by
  refine⟨λb C Q=>?_,λb o ho=>?_⟩
  .have h3:=I.Da b C Q;rw[show((⟨u.toWorld,λ_=>False⟩:UW).ret lo w').heap[b]?=u.heap[b]? from hm.cu b (I.Al (by rw[Q];simp)) λhf=>hF b hf];exact h3
  .obtain⟨hN,T,U,h3,rfl⟩:=iH b o ho;obtain⟨h4,_,Ar,h5,h6⟩:=g'.mem b _ h3;refine⟨λ_=>h4 rfl,?_,Ar,h5,by rw[length_map];exact h6.1,λi x v H hv=>?_⟩
   .cases hz:Z b with
    |none=>rfl
    |some C=>have:=I.Al (b:=b) (by rw[hz];simp);omega
   .rw[List.getElem?_map]at H;obtain⟨y,hy,rfl⟩:=Option.map_eq_some_iff.1 H;have hry:=h6.2 i y v hy hv;cases y with
    |raw r=>exact hry.iV (by rfl)
    |_=>exact .aU v
 have Wj:∀b,b<u.heap.size->hY Z ((⟨u.toWorld,λ_=>False⟩:UW).ret lo w') G.gQ b=Z b:=λb w=>gO (by
  cases H:G.gQ b with
  |none=>rfl
  |some o=>have:=(iH b o H).1;omega)
 refine⟨_,M0,q,⟨gP J,λb C Q _=>?_,λb w=>?_,λb w=>absurd rfl w,λb w=>I.Al w⟩,⟨om J,λb o h=>by cases h⟩,h1.rep J (hr.flat (hf p _ hK)),h2⟩
 .rw[Wj b (I.Al (by rw[Q];simp))];exact Q
 .by_cases bK:b<u.heap.size
  .rw[Wj b bK]at w;exact .inl w
  .exact .inr (.inr (Nat.le_of_not_lt bK))
def dh.p{P:Program}{g:FuncId}{j:List PV}{w:Mem}{K:Kq}(h:dh P g j w K):aa P g j w λp H=>∃i,H=w.or i/\K p i:=λZ u vs O hw ha=>by
 obtain⟨hc,F,Q,dc⟩:=h Z u vs O hw ha;refine⟨hc,F,λb r=>(Q b r).elim,dc.mono λv lo w' hm Ww hp=>?_⟩;obtain⟨Y,i,p,e,U,y,hK⟩:=hp;have cu:∀b,b<u.heap.size->w'.heap[b]?=u.heap[b]?:=λb r=>hm.cu b r λhf=>Q b hf;refine⟨Y,w.or i,p,⟨e.le,λb C hC _=>e.zs b C hC rfl,λb r=>?_,λb r=>?_,e.lt⟩,⟨U.Da,λb o G=>?_⟩,y,i,rfl,hK⟩
 .rcases e.zn b r with h|h|h
  .exact .inl h
  .exact absurd rfl h
  .exact .inr (.inr h)
 .rcases Mem.RD r with h|h
  .exact .inl h
  .exact .inr ((e.mn b h).resolve_left λh=>h rfl)
 .cases I:w b with
  |some o'=>
   rw[Mem.bB I]at G;cases G;obtain⟨J,A⟩:=O.mem b _ I;refine⟨λy=>.inl (J y),A.go e.le ?_ (cu b A.lt)⟩;cases hz:Z b with
   |some C=>exact e.zs b C hz rfl
   |none=>
    cases Li:Y b with
    |none=>rfl
    |some C=>
     rcases e.zn b (by rw[Li];simp)with h|h|h
     .exact absurd hz h
     .exact absurd rfl h
     .have:u.heap.size<=b:=h;have:=A.lt;omega
  |none=>
   rw[Mem.bp I]at G;obtain⟨J,A⟩:=U.mem b _ G;exact⟨λy=>.inr ((J y).resolve_left id),A⟩
def aa.ady{P:Program}{g:FuncId}{j iz:List PV}{w:Mem}{A:PV->aO}{K:Kq}(h:aa P g iz M0 A)(G:j.length=iz.length)(J:∀(i:Nat) p q,j[i]?=some p->iz[i]?=some q->dL w p q/\q.ok=true)(O:∀p,Flat (A p))(I:∀p r,A p r->p.flat=true)(H:∀p r,A p r->∃q,dL r p q/\K q w):aa P g j w K:=
 (aa.XY (K:=λq r=>r=M0/\K q w) h G J O I λp r hp=>(H p r hp).imp λq h=>⟨h.1,rfl,h.2⟩).p.mono λp y ⟨C,e,Q,hK⟩=>by
  subst Q e;rw[Mem.pK];exact hK
def UC(P:Program)(f:PV)(e:List (List PV->Prop))(r:Mem):Prop:=
 (∃g a b,f=.fn (.func g) a b)/\∀(w:Fn) (A y:List PV) (J:Nat->Mem->Prop) (S:Mem->Prop) (j:Mem),Cb w True->(∀k j,J k j->Mem.inc r j)->J 0 j->
  (∀(k:Nat) (h:k<e.length) (C:List PV) (j:Mem),e[k] C->J k j->bP P (.fn w A y) C j λv i=>(v=pB true/\J (k+1) i)\/(v=pB false/\S i))->
  bP P f [.fn w A y] j λ_ i=>J e.length i\/S i
def UC.mk{P:Program}{g:FuncId}{a b:List PV}{e:List (List PV->Prop)}{r:Mem}
  (h:∀(w:Fn) (A y:List PV) (J:Nat->Mem->Prop) (S:Mem->Prop) (j:Mem),Cb w True->(∀k j,J k j->Mem.inc r j)->J 0 j->
   (∀(k:Nat) (h:k<e.length) (C:List PV) (j:Mem),e[k] C->J k j->bP P (.fn w A y) C j λv i=>(v=pB true/\J (k+1) i)\/(v=pB false/\S i))->
   aa P g (a++[.fn w A y]++b) j λ_ i=>J e.length i\/S i):UC P (.fn (.func g) a b) e r:=
 ⟨⟨g,a,b,rfl⟩,λw A y J S j G H I O=>h w A y J S j G H I O⟩
def bk.ahE{P:Program}{f:PV}{i:List (List PV->Prop)}{A:Mem}{w:List PV->(Option Code->Mem->Prop)->Mem->Prop}{K:Option Code->Mem->Prop}{j:Mem}(O:UC P f i A)
  (J:Nat->Mem->Prop) (S:Code->Mem->Prop) (hi:∀k j,J k j->Mem.inc A j) (h0:J 0 j)
  (cV:∀(k:Nat) (h:k<i.length) (G:List PV) (j:Mem) (R:Option Code->Mem->Prop),i[k] G->J k j->(∀g,J (k+1) g->R none g)->(∀c g,S c g->R (some c) g)->w G R j)
  (Lu:∀j,J i.length j->K none j) (IH:∀c j,S c j->K (some c) j):bk P f w K j:=by
 obtain⟨hf,O⟩:=O;refine⟨hf,λl H hl Y=>?_⟩;refine(O (.yield l) [] [] (λk I=>∃e,e l=none/\I=e.set l (some (H none))/\J k e) (λI=>∃c e,e l=none/\I=e.set l (some (H (some c)))/\S c e) _ trivial ?_ ⟨j,hl,rfl,h0⟩ ?_).mono ?_
 .rintro k _ ⟨e,y,rfl,r⟩ b o hb;have:=hi k e r b o hb;have aW:b≠l:=by rintro rfl;rw[y]at this;cases this
  rw[Mem.ax _ _ aW];exact this
 .rintro k hk G _ CV ⟨e,y,rfl,Kl⟩;refine(Y G e (λp g=>match p with|none=>J (k+1) g|some c=>S c g) y (cV k hk G e _ CV Kl (λg h=>h) (λc g h=>h))).mono ?_;rintro v U ⟨p,C,rfl,r,rfl,Q⟩;cases p with
  |none=>exact .inl ⟨rfl,C,r,rfl,Q⟩
  |some c=>exact .inr ⟨rfl,c,C,r,rfl,Q⟩
 .rintro v I (⟨e,y,rfl,r⟩|⟨c,e,y,rfl,r⟩)
  .exact⟨none,e,y,rfl,Lu _ r⟩
  .exact⟨some c,e,y,rfl,IH c _ r⟩
end Go.aP
