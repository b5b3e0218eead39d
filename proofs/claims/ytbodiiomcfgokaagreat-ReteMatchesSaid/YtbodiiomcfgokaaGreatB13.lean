import Derived.Test.YtbodiiomcfgokaaGreatB12
open Go.IntKind (wrap)
open List (Pairwise.nil append_nil drop_length filter_cons filter_nil flatMap_cons foldl_append foldl_cons getElem?_eq_getElem getElem_map getElem_mem getElem_take length_append length_cons length_map length_take map_append map_congr_left map_cons map_map map_nil map_take mem_append mem_cons mem_filter mem_flatMap mem_iff_getElem mem_map mem_of_mem_take mem_singleton nil_prefix pairwise_iff_getElem pairwise_map range sum_cons take_add_one take_length take_zero)
set_option linter.all false
namespace Go.Proofs.YtbodiiomcfgokaaGreat
open Go.aP Go.RowKit
def vS(es add:List aj)(drop:List Int)(pf:List aj):Prop:=b_ aw aG pf/\∀e,e∈pf↔(e∈add\/(e∈es/\e.tag∉drop))
theorem vS.uniq{es add:List aj}{drop:List Int}{a b:List aj}(h:vS es add drop a)(k:vS es add drop b):a=b:=b_.ext ar h.1 k.1 λe=>(h.2 e).trans (k.2 e).symm
def vt(add:List aj):Prop:=∀e∈add,j_ e=true/\1<=e.tag
def eQ(es:List aj)(drop:List Int):Prop:=drop.Nodup/\∀t∈drop,∃e∈es,e.tag=t
def eL(es add:List aj)(drop:List Int):Prop:=(add.map aG).Nodup/\∀e∈add,(∃e'∈es,e'.tag=e.tag)->e.tag∈drop
inductive mg(B M:Int)(es:List aj)(ps:List Prod)(add:List aj)(drop:List Int):Int->List aj->Prop
 |form (h:¬vt add):mg B M es ps add drop 9 es
 |none (h:vt add) (h2:¬eQ es drop):mg B M es ps add drop 4 es
 |there (h:vt add) (h2:eQ es drop) (h3:¬eL es add drop):mg B M es ps add drop 3 es
 |dN (h:vt add) (h2:eQ es drop) (h3:eL es add drop) (pf:List aj) (h4:vS es add drop pf) (h5:∃q∈ps,dj B pf q.conds):mg B M es ps add drop 25 es
 |dZ (h:vt add) (h2:eQ es drop) (h3:eL es add drop) (pf:List aj) (h4:vS es add drop pf) (h5:¬ ∃q∈ps,dj B pf q.conds) (h6:M<((cS pf ps:Nat):Int)):mg B M es ps add drop 26 es
 |ok (h:vt add) (h2:eQ es drop) (h3:eL es add drop) (pf:List aj) (h4:vS es add drop pf) (h5:¬ ∃q∈ps,dj B pf q.conds) (h6:((cS pf ps:Nat):Int)<=M):mg B M es ps add drop 0 pf
def aK(O es:List aj):List aj:=O.foldl (λl e=>bY aw aG e.tag l) es
def cm(A es:List aj):List aj:=A.foldl (λl e=>aZ aw aG e l) es
theorem gw{O:List aj}{k:Nat}(hk:k<O.length)(es:List aj):aK (O.take (k+1)) es=bY aw aG O[k].tag (aK (O.take k) es):=by
 unfold aK;rw[take_add_one,getElem?_eq_getElem hk,foldl_append];rfl
theorem ik{A:List aj}{k:Nat}(hk:k<A.length)(es:List aj):cm (A.take (k+1)) es=aZ aw aG A[k] (cm (A.take k) es):=by
 unfold cm;rw[take_add_one,getElem?_eq_getElem hk,foldl_append];rfl
theorem lR:∀(O:List aj) {es:List aj},b_ aw aG es->b_ aw aG (aK O es)
 |[],_,h=>h
 |o::O,_,h=>lR O (h.del _)
theorem lb:∀(A:List aj) {es:List aj},b_ aw aG es->b_ aw aG (cm A es)
 |[],_,h=>h
 |a::A,_,h=>lb A (h.ins ar a)
theorem db:∀{O es:List aj} {e:aj},e∈aK O es↔e∈es/\∀o∈O,e.tag≠o.tag
 |[],es,e=>by simp[aK]
 |o::O,es,e=>by
  show e∈aK O (bY aw aG o.tag es)↔_
  rw[db,eY ar]
  constructor
  ·rintro⟨⟨h1,h2⟩,h3⟩
   refine⟨h1,λo' ho=>?_⟩
   rcases mem_cons.1 ho with rfl|ho
   ·exact h2
   ·exact h3 o' ho
  ·rintro⟨h1,h2⟩
   exact⟨⟨h1,h2 o (by simp)⟩,λo' ho=>h2 o' (by simp[ho])⟩
theorem fu:∀{A es:List aj} {e:aj},(A.map aG).Nodup->(∀a∈A,∀y∈es,y.tag≠a.tag)->(e∈cm A es↔e∈A\/e∈es)
 |[],es,e,_,_=>by simp[cm]
 |a::A,es,e,hn,hd=>by
  rw[map_cons,List.nodup_cons]at hn
  show e∈cm A (aZ aw aG a es)↔_
  have hd2:∀b∈A,∀y∈aZ aw aG a es,y.tag≠b.tag:=λb hb y hy=>by
   rcases(bh ar).1 hy with rfl|⟨h,_⟩
   ·intro e;exact hn.1 (mem_map.2 ⟨b,hb,e.symm⟩)
   ·exact hd b (by simp[hb]) y h
  rw[fu hn.2 hd2,bh ar,mem_cons];constructor
  ·rintro(h|rfl|⟨h,_⟩)
   ·exact .inl (.inr h)
   ·exact .inl (.inl rfl)
   ·exact .inr h
  ·rintro((rfl|h)|h)
   ·exact .inr (.inl rfl)
   ·exact .inl h
   ·exact .inr (.inr ⟨h,hd a (by simp) e h⟩)
theorem NS{es:List aj}{e:aj}:(aZ aw aG e es).length<=es.length+1:=vl
theorem oH:∀(A:List aj) (es:List aj),(cm A es).length<=es.length+A.length
 |[],_=>by simp[cm]
 |a::A,es=>by
  show(cm A (aZ aw aG a es)).length<=_
  have h1:=oH A (aZ aw aG a es)
  have h2:=NS (es:=es) (e:=a);simp only[length_cons];omega
theorem qD:∀(O:List aj) (es:List aj),(aK O es).length<=es.length
 |[],_=>by simp[aK]
 |o::O,es=>by
  show(aK O (bY aw aG o.tag es)).length<=_
  have h1:=qD O (bY aw aG o.tag es)
  have h2:(bY aw aG o.tag es).length<=es.length:=vE;omega
structure Sets(es add:List aj)(drop:List Int)(O A:List aj):Prop where
 uO:b_ aw aG O
 mO:∀e,e∈O↔e∈es/\e.tag∈drop
 uA:b_ aw aG A
 mA:∀e,e∈A↔e∈add
theorem jm{A:List aj}(h:b_ aw aG A):(A.map aG).Nodup:=by
 have h1:(A.map aG).Pairwise λa b=>aw a b<0:=by rw[pairwise_map];exact h
 refine h1.imp λ{a b} yG e=>?_;rw[e]at yG;exact absurd yG (by rw[ar.self b];omega)
section
variable {es add O A:List aj} {drop:List Int}
theorem Sets.sep(h:Sets es add drop O A)(hu:b_ aw aG es)(ha:eL es add drop):∀a∈A,∀y∈aK O es,y.tag≠a.tag:=λa haA y hy e=>by
 obtain⟨h1,h2⟩:=db.1 hy;have:=ha.2 a ((h.mA a).1 haA) ⟨y,h1,e⟩;exact h2 y ((h.mO y).2 ⟨h1,by rw[e];exact this⟩) rfl
theorem Sets.new(h:Sets es add drop O A)(hu:b_ aw aG es)(hd:eQ es drop)(ha:eL es add drop):vS es add drop (cm A (aK O es)):=by
 refine⟨lb _ (lR _ hu),λe=>?_⟩;rw[fu (jm h.uA) (h.sep hu ha),h.mA,db];constructor
 ·rintro(h1|⟨h1,h2⟩)
  ·exact .inl h1
  ·exact .inr ⟨h1,λh3=>h2 e ((h.mO e).2 ⟨h1,h3⟩) rfl⟩
 ·rintro(h1|⟨h1,h2⟩)
  ·exact .inl h1
  ·refine .inr ⟨h1,λo ho e'=>?_⟩;exact h2 (e'▸((h.mO o).1 ho).2)
theorem Sets.fresh(h:Sets es add drop O A)(hu:b_ aw aG es)(ha:eL es add drop){k:Nat}(hk:k<A.length):aL aw aG A[k].tag (cm (A.take k) (aK O es))=none:=by
 refine(bz ar).2 λy hy e=>?_;have e:y.tag=A[k].tag:=e;have ke:∀a∈A.take k,a∈A:=λa ha=>mem_of_mem_take ha;rcases(fu (jm (List.Pairwise.sublist (List.take_sublist _ _) h.uA)) (λa ha'=>h.sep hu ha a (ke a ha'))).1 hy with h1|h1
 ·obtain⟨j,hj,rfl⟩:=mem_iff_getElem.1 h1;rw[getElem_take]at e;simp only[length_take]at hj;have:=pairwise_iff_getElem.1 h.uA j k (by omega) hk (by omega);have:=vF.1 this;simp only[aG]at this;omega
 ·exact h.sep hu ha A[k] (getElem_mem hk) y h1 e
theorem Sets.back(h:Sets es add drop O A)(hu:b_ aw aG es)(ha:eL es add drop):cm O (aK A (cm A (aK O es)))=es:=by
 have hm:∀y,y∈aK A (cm A (aK O es))↔y∈aK O es:=λy=>by
  rw[db,fu (jm h.uA) (h.sep hu ha)];constructor
  ·rintro⟨h1|h1,h2⟩
   ·exact absurd rfl (h2 y h1)
   ·exact h1
  ·intro h1;exact⟨.inr h1,λa haA=>h.sep hu ha a haA y h1⟩
 have hs:∀o∈O,∀y∈aK A (cm A (aK O es)),y.tag≠o.tag:=λo ho y hy=>(db.1 ((hm y).1 hy)).2 o ho;refine b_.ext ar (lb _ (lR _ (lb _ (lR _ hu)))) hu λy=>?_;rw[fu (jm h.uO) hs,hm,db];constructor
 ·rintro(h1|⟨h1,_⟩)
  ·exact((h.mO y).1 h1).1
  ·exact h1
 ·intro h1;by_cases hO:y∈O
  ·exact .inl hO
  ·refine .inr ⟨h1,λo ho e=>hO ?_⟩;have:=hu.inj ar h1 ((h.mO o).1 ho).1 e;rw[this];exact ho
theorem Sets.ZF(h:Sets es add drop O A)(hu:b_ aw aG es)(ha:eL es add drop){k:Nat}(hk:k<O.length):aL aw aG O[k].tag (cm (O.take k) (aK A (cm A (aK O es))))=none:=by
 refine(bz ar).2 λy hy e=>?_;have e:y.tag=O[k].tag:=e;have hm:∀y,y∈aK A (cm A (aK O es))->y∈aK O es:=λy hy=>by
  obtain⟨h1,h2⟩:=db.1 hy;rcases(fu (jm h.uA) (h.sep hu ha)).1 h1 with h3|h3
  ·exact absurd rfl (h2 y h3)
  ·exact h3
 have hs:∀o∈O.take k,∀y∈aK A (cm A (aK O es)),y.tag≠o.tag:=λo ho y hy=>(db.1 (hm y hy)).2 o (mem_of_mem_take ho);rcases(fu (jm (List.Pairwise.sublist (List.take_sublist _ _) h.uO)) hs).1 hy with h1|h1
 ·obtain⟨j,hj,rfl⟩:=mem_iff_getElem.1 h1;rw[getElem_take]at e;simp only[length_take]at hj;have:=pairwise_iff_getElem.1 h.uO j k (by omega) hk (by omega);have:=vF.1 this;simp only[aG]at this;omega
 ·exact(db.1 (hm y h1)).2 O[k] (getElem_mem hk) e
theorem Sets.loc(h:Sets es add drop O A)(hu:b_ aw aG es)(ha:eL es add drop){p:aj->Bool}(h1:∀o∈O,p o=false)(h2:∀a∈A,p a=false):es.filter p=(cm A (aK O es)).filter p:=by
 refine b_.ext ar (hu.filter _) ((lb _ (lR _ hu)).filter _) λy=>?_;rw[mem_filter,mem_filter,fu (jm h.uA) (h.sep hu ha),db];constructor
 ·rintro⟨g1,g2⟩;refine⟨.inr ⟨g1,λo ho e=>?_⟩,g2⟩;have:=hu.inj ar g1 ((h.mO o).1 ho).1 e;rw[this,h1 o ho]at g2;cases g2
 ·rintro⟨g1|⟨g1,_⟩,g2⟩
  ·rw[h2 y g1]at g2;cases g2
  ·exact⟨g1,g2⟩
end
def aaF(ms:dg)(S:List RN.El)(l:List aj):Prop:=∀y∈ms,¬NT S y.1->∀e∈l,bg y.2.c e=false
theorem DM{ms cu:dg}(hs:fj ms cu)(hu:b_ aw bO ms)(gd:b_ aw bO cu){y:Int×dX}(hy:y∈ms){e:aj}(hm:bg y.2.c e=true):y.1∈et e cu:=by
 have h1:aL aw bO y.1 ms=some y:=(a_ ar hu).2 ⟨hy,rfl⟩;have h2:=hs y.1;rw[h1]at h2;cases hg:aL aw bO y.1 cu with
 |none=>rw[hg]at h2;cases h2
 |some z=>
  rw[hg]at h2;simp only[Option.map_some,Option.some.injEq,Prod.mk.injEq]at h2;obtain⟨hz,Fb⟩:=(a_ ar gd).1 hg;exact mem_map.2 ⟨z,mem_filter.2 ⟨hz,by rw[h2.1];exact hm⟩,Fb⟩
open Go.Proofs.Tryz
set_option maxRecDepth 100000
theorem xA{l:List aj}(hu:b_ aw aG l){t:Int}:(aL aw aG t l).isSome=true↔∃e∈l,e.tag=t:=by
 constructor
 ·intro h;obtain⟨e,he⟩:=Option.isSome_iff_exists.1 h;obtain⟨h1,h2⟩:=(a_ ar hu).1 he;exact⟨e,h1,h2⟩
 ·rintro⟨e,h1,h2⟩;rw[(a_ ar hu).2 ⟨h1,h2⟩];rfl
theorem rn{l:List aj}{t:Int}:aL aw aG t l=none↔∀e∈l,e.tag≠t:=bz ar
theorem AN{α:Type}{l:List α}{k:Nat}(hk:k<l.length)(h:(l.take k).Nodup)(hn:l[k]∉l.take k):(l.take (k+1)).Nodup:=by
 rw[take_add_one,getElem?_eq_getElem hk];exact List.nodup_append.2 ⟨h,by simp,λa ha b hb e=>by simp at hb;subst e hb;exact hn ha⟩
theorem dO{α:Type}{l:List α}{k:Nat}(hk:k<l.length){a:α}:a∈l.take (k+1)↔a∈l.take k\/a=l[k]:=by
 rw[take_add_one,getElem?_eq_getElem hk,mem_append];simp
section
variable {n:Nat} {x:NC} {es:List aj} {ps:List Prod} {w:Nat}
theorem HR{bm:Nat}{S0:List RN.El}{l:List Int}{Jf:Nat}{Pre:List aR}{L:List aR}{u:Mem}{R:Mem->Prop}(hl:∀j∈l,-1<=j/\j<1000000)(rD:l.length<=1000000)(hS0:b_ RN.ck RN.key S0)(hb:S0.length+l.length<=900000000)
  (hO:Ow (RN.At bm S0::Pt Jf 177 [pP bm 0]::L) u)
  (hk:∀S u',b_ RN.ck RN.key S->S.length<=S0.length+l.length->(∀s,NT S0 s->NT S s)->(∀j∈l,NT S j)->Ow (RN.At bm S::Pt Jf 177 [pP bm 0]::L) u'->R u'):
  ak (α:=Int) (λYD s_3 XW=>
         ab (decide ((s_3:Int)<((List.length (l.map f_):Nat):Int)))
         ((0:Int)<=s_3/\∃(ab8:List PV),(l.map f_)[Int.toNat s_3]?=some ab8/\
          ∃(abB:Int),aA ab8 0 1=some [(pI abB)]/\
          ∃(abA:Option Addr),ay XW Jf 0 1=some [(.raw (.pointer abA))]/\
          aa prog 97 [(.raw (.pointer abA)),(pI abB)] XW λafS afU=>
          ∃(afK:Bool),afS=(pB afK)/\
          YD (wrap .i64 (s_3+(1))) afU)
         (R XW)) 0 u:=by
 refine ak.each (n:=l.length) (by omega) (λk u=>∃S,(b_ RN.ck RN.key S/\S.length<=S0.length+k/\(∀s,NT S0 s->NT S s)/\(∀j∈l.take k,NT S j))/\Ow (RN.At bm S::Pt Jf 177 [pP bm 0]::L) u) ⟨S0,⟨hS0,by omega,λs h=>h,by simp⟩,hO⟩ ?_ ?_
 ·rintro k u next eK ⟨S,⟨hS,Xm,h1,h2⟩,h3⟩ av
  have hj:=hl _ (getElem_mem eK);refine ab.t (by simpa using eK) ⟨by omega,_,tj eK,_,rfl,_,h3.rd 1 rfl (by simp),?_⟩;refine RN.fL (l:=S) h3 hS (by omega) ⟨l[k],hj⟩ λu2 h4=>⟨_,rfl,av _ ⟨_,⟨hS.put RN.hc _,?_,?_,?_⟩,h4⟩⟩
  ·have:=Ay (ck:=RN.ck) (key:=RN.key) (x:=(⟨l[k],hj⟩:RN.El)) (L:=S);omega
  ·rintro s hs;obtain⟨y,hy,rfl⟩:=h1 s hs;refine⟨y,?_,rfl⟩;unfold dq;split
   ·exact hy
   ·rename_i hn;have WZ:aL RN.ck RN.key (RN.key (⟨l[k],hj⟩:RN.El)) S=none:=by
     cases hg:aL RN.ck RN.key (RN.key (⟨l[k],hj⟩:RN.El)) S with
     |none=>rfl
     |some z=>rw[hg]at hn;exact absurd rfl hn
    exact(bh RN.hc).2 (.inr ⟨hy,(bz RN.hc).1 WZ y hy⟩)
  ·intro j Ch;have Yu:∀y∈S,y∈dq RN.ck RN.key (⟨l[k],hj⟩:RN.El) S:=λy hy=>by
    unfold dq;split
    ·exact hy
    ·rename_i hn;have WZ:aL RN.ck RN.key (RN.key (⟨l[k],hj⟩:RN.El)) S=none:=by
      cases hg:aL RN.ck RN.key (RN.key (⟨l[k],hj⟩:RN.El)) S with
      |none=>rfl
      |some z=>rw[hg]at hn;exact absurd rfl hn
     exact(bh RN.hc).2 (.inr ⟨hy,(bz RN.hc).1 WZ y hy⟩)
   rcases(dO eK).1 Ch with Ch|rfl
   ·obtain⟨y,hy,e⟩:=h2 j Ch;exact⟨y,Yu y hy,e⟩
   ·unfold dq;split
    ·rename_i hs;obtain⟨y,hy⟩:=Option.isSome_iff_exists.1 hs;obtain⟨a1,a2⟩:=(a_ RN.hc hS).1 hy;exact⟨y,a1,a2⟩
    ·exact⟨_,(bh RN.hc).2 (.inl rfl),rfl⟩
 ·rintro u next ⟨S,⟨hS,Xm,h1,h2⟩,h3⟩
  rw[take_length]at h2;exact ab.f (by simp) (hk S u hS Xm h1 h2 h3)
theorem HQ{e:aj}{ms:dg}(hA:dr es ms):∀j∈et e ms,-1<=j/\j<1000000:=λj hj=>by
 obtain⟨y,hy,rfl⟩:=mem_map.1 hj;have:=hA.num y (mem_filter.1 hy).1;exact⟨by omega,this.2⟩
theorem UD{T:Tree}{B:Int}{ms:dg}{tk:Path->List bW}{ct:Path->List Nat}(h:jf B T es ms tk ct):∀p∈T.D,∀j∈T.M p,-1<=j/\j<1000000:=λp hp j hj=>by
 refine⟨h.tree.mge p hp j hj,?_⟩;by_cases h0:0<=j
 ·have h1:=h.use.use j h0;have h2:0<(T.D.flatMap T.M).count j:=List.count_pos_iff.2 (mem_flatMap.2 ⟨p,hp,hj⟩);unfold fJ at h1;cases hg:aL aw bO j ms with
  |none=>
   rw[hg]at h1;have h1:(0:Int)=_:=h1;omega
  |some y=>
   obtain⟨h3,h4⟩:=(a_ ar h.use.inv.mX).1 hg;have h4:y.1=j:=h4;have:=(h.use.inv.num y h3).2;omega
 ·omega
theorem wJ.zP{T:Tree}{ms cu:dg}{ids iv:pq}{fs:List aj}{tk wE:Path->List bW}{ct yO:Path->List Nat}{W:Path->Prop}(h:wJ x T es ms ids tk ct ps w W)(hA:dr fs cu)(hI:iV fs iv)(hs:fj ms cu)(gf:Wn T x.T fs wE yO)(Bj:∀e∈fs,1<=e.tag/\e.tag<9223372036854775808):wJ x T fs cu iv wE yO ps w W:=
 ⟨⟨h.core.tree,hs.use h.core.use hA,λp c hp=>Bv hs.mem c 0 (h.core.fit p c hp),gf⟩,h.Hu,hI,h.root,h.tb,h.mb,h.Jo,h.Gt,h.pD,h.ends,Bj,h.JL,h.dl⟩
theorem Qu{T:Tree}{ms:dg}{ids:pq}{tk:Path->List bW}{ct:Path->List Nat}{fs:List aj}(h:wJ x T es ms ids tk ct ps w (λ_=>False)):(∃q c j,q++[c]∈T.D/\x.T<((du fs c (aE fs q) j:Nat):Int))↔∃p∈ps,dj x.T fs p.conds:=by
 constructor
 ·rintro⟨q,c,j,hD,hj⟩;have key:∀(m:Nat) (r:Path),r∈T.D->r≠[]->17-r.length<=m->∃p∈ps,r <+: p.conds:=by
   intro m;induction m with
   |zero=>intro r hr _ hm;have:=h.core.tree.len r hr;omega
   |succ m ih=>
    intro r hr Mh hm;rcases h.Hu r hr Mh (λh=>h)with hk|he
    ·cases hK:T.K r with
     |nil=>exact absurd hK hk
     |cons d l=>
      have hd:r++[d]∈T.D:=(h.core.tree.kids r hr d).1 (by rw[hK];simp);obtain⟨p,hp,fK⟩:=ih (r++[d]) hd (by simp) (by simp;omega);exact⟨p,hp,List.IsPrefix.trans (List.prefix_append _ _) fK⟩
    ·rw[h.ends r hr]at he;obtain⟨p,hp⟩:=List.exists_mem_of_length_pos he;obtain⟨h1,h2⟩:=mem_filter.1 hp;have h2:p.conds=r:=by simpa using h2
     exact⟨p,h1,by rw[h2];exact List.prefix_refl _⟩
  obtain⟨p,hp,s,hs⟩:=key 17 (q++[c]) hD (by simp) (by omega);have hl:q.length<p.conds.length:=by rw[<- hs];simp
  refine⟨p,hp,q.length,hl,j,?_⟩;have e1:p.conds.take q.length=q:=by rw[<- hs,List.append_assoc,List.take_left'];rfl
  have e2:p.conds[q.length]=c:=by
   have:p.conds[q.length]?=some c:=by rw[<- hs];simp
   rw[getElem?_eq_getElem hl]at this;simpa using this
  rw[e1,e2];exact hj
 ·rintro⟨p,hp,i,hi,j,hj⟩;refine⟨p.conds.take i,p.conds[i],j,?_,hj⟩;have:p.conds.take (i+1)=p.conds.take i++[p.conds[i]]:=by rw[take_add_one,getElem?_eq_getElem hi];rfl
  rw[<- this];exact h.core.tree.Qp (h.pD p hp) (List.take_prefix _ _)
theorem It(hw:w<=100)(fl1 fl2:Fl)(add:List aj)(drop:List Int)(hal:add.length<=400)(hdl:drop.length<=400)(Pn:es.length+add.length<=900000)(agA:∀e∈add,e.tag<9223372036854775808){L:List aR}{μ:Mem}(hO:Ow (gB n x es ps w::L) μ){K:Kq}
  (hk:∀e pf μ',mg x.T x.M es ps add drop e pf->Ow (gB n x pf ps w::L) μ'->K (pI e) μ'):
  aa prog 39 [pP n 0,.list 12 fl1 (add.map aj.pv),.list 1 fl2 (drop.map gq)] μ K:=by
 obtain⟨T,ms,ids,tk,ct,fr,mn,⟨hR,mV⟩,h1⟩:=gB.open_ hO;obtain⟨ht1,YO⟩:=hR.tb;obtain⟨yC,sq⟩:=hR.mb;have hA:=hR.core.use.inv;have hI:=hR.ids;have hu:=hA.wC;have hlen:=hA.le;refine v_.c λb3 Kr=>?_;have O1:Ow (an n x es ms ids::cg T tk ct fr mn::RP.cr x.pr (ps.map (iw T.B))::RT.At x.el es::Pt b3 39 [pP n 0]::L) _:=Ow.ord [1,1,1,1,0] (h1.new 39 [pP n 0] Kr);have Df:∀{u:Mem} {M:List aR},Ow (an n x es ms ids::cg T tk ct fr mn::RP.cr x.pr (ps.map (iw T.B))::RT.At x.el es::Pt b3 39 [pP n 0]::M) u->(∀μ,Ow M μ->Ow L μ)->Ow (gB n x es ps w::L) u:=λh hM=>gB.shut hR mV (h.tail λ_ h=>h.tail λ_ h=>h.tail λ_ h=>h.tail λ_ h=>hM _ h.drop);refine ak.dd (n:=add.length) (by omega) (λk s u=>(∀e∈add.take k,j_ e=true/\1<=e.tag)/\Ow (an n x es ms ids::cg T tk ct fr mn::RP.cr x.pr (ps.map (iw T.B))::RT.At x.el es::Pt b3 39 [pP n 0]::L) u) ⟨by simp,O1⟩ ?_ ?_
 ·rintro k s u next eK ⟨hv,h2⟩ av
  refine ab.t (by simpa using eK) ⟨by omega,_,aC eK,_,_,_,_,_,_,_,_,_,_,_,_,rfl,(OG add[k]).call ⟨_,rfl,ab.mk (λhb=>?_) (λhb=>ab.mk (λqv=>?_) (λqv=>av _ _ ⟨λe he=>?_,h2⟩))⟩⟩
  ·refine hk _ _ _ (.form λhg=>?_) (Df h2 λ_ h=>h);rw[(hg _ (getElem_mem eK)).1]at hb;cases hb
  ·refine hk _ _ _ (.form λhg=>?_) (Df h2 λ_ h=>h);have:=(hg _ (getElem_mem eK)).2;have aht:add[k].tag<1:=by simpa using qv
   omega
  ·rcases(dO eK).1 he with he|rfl
   ·exact hv e he
   ·have aht:¬add[k].tag<1:=by simpa using qv
    exact⟨nt hb,by omega⟩
 rintro s u next ⟨hv,h2⟩
 rw[take_length]at hv;have gN:vt add:=hv;refine ab.f (by simp) ?_;clear O1 h1;refine RT.gj h2 .nil [] (by simp) λu1 bo h3=>⟨_,rfl,?_⟩;have h3:Ow (an n x es ms ids::cg T tk ct fr mn::RP.cr x.pr (ps.map (iw T.B))::RT.At x.el es::Pt b3 39 [pP n 0]::RT.At bo []::L) u1:=Ow.ord [1,1,1,1,1,0] h3;dsimp only;refine ak.dd (n:=drop.length) (by omega) (λk s u=>∃O,(b_ aw aG O/\(∀e,e∈O↔e∈es/\e.tag∈drop.take k)/\(drop.take k).Nodup/\∀t∈drop.take k,∃e∈es,e.tag=t)/\Ow (an n x es ms ids::cg T tk ct fr mn::RP.cr x.pr (ps.map (iw T.B))::RT.At x.el es::Pt b3 39 [pP n 0]::RT.At bo O::L) u) ⟨[],⟨Pairwise.nil,by simp,by simp,by simp⟩,h3⟩ ?_ ?_
 ·rintro k s u next eK ⟨O,⟨TB,RQ,HO,fE⟩,h4⟩ av
  have hOl:O.length<=es.length:=by
   have:=jl (jm TB) (b:=es.map aG) λt ht=>by
    obtain⟨e,he,rfl⟩:=mem_map.1 ht;exact List.mem_map_of_mem ((RQ e).1 he).1
   simpa using this
  have bad:¬(drop[k]∉drop.take k/\∃e∈es,e.tag=drop[k])->¬eQ es drop:=λhb hd=>hb ⟨λhm=>by
   obtain⟨j,hj,e⟩:=mem_iff_getElem.1 hm
   rw[getElem_take]at e
   rw[length_take]at hj
   have:=(List.getElem_inj hd.1 (h₀:=by omega) (h₁:=eK)).1 e
   omega,hd.2 _ (getElem_mem eK)⟩
  refine ab.t (by simpa using eK) ⟨by omega,_,tj eK,_,rfl,_,h4.rd 4 rfl (by simp),?_⟩;refine XF hu (by omega) drop[k] (Ow.ord [0,2] h4) (λe he=>⟨_,_,_,_,_,_,_,_,_,_,_,_,_,rfl,ab.f rfl ?_⟩) (λhn=>⟨_,_,_,_,_,_,_,_,_,_,_,_,_,rfl,ab.t rfl ?_⟩)
  ·obtain⟨Og,het⟩:=(a_ ar hu).1 he;have het:e.tag=drop[k]:=het;refine RT.fL (l:=O) (Ow.ord [5] h4) TB (by omega) e λu2 h5=>⟨_,rfl,?_⟩;have h5':Ow (an n x es ms ids::cg T tk ct fr mn::RP.cr x.pr (ps.map (iw T.B))::RT.At x.el es::Pt b3 39 [pP n 0]::RT.At bo (dq RT.ck RT.key e O)::L) u2:=Ow.ord [1,1,1,1,1,0] h5;refine ab.mk (λhb=>?_) (λhb=>?_)
   ·refine hk _ _ _ (.none gN (bad λhh=>?_)) (Df h5' λ_ h=>h.drop);have hs:(aL aw aG e.tag O).isSome=true:=by
     have:(aL aw aG e.tag O).isNone=false:=nb hb;cases hg:aL aw aG e.tag O with
     |none=>rw[hg]at this;cases this
     |some z=>rfl
    obtain⟨z,QZ,hz2⟩:=(xA TB).1 hs;have:=((RQ z).1 QZ).2;rw[hz2,het]at this;exact hh.1 this
   ·have hn:aL aw aG e.tag O=none:=by
     have:(aL aw aG e.tag O).isNone=true:=nt hb;cases hg:aL aw aG e.tag O with
     |none=>rfl
     |some z=>rw[hg]at this;cases this
    have Cz:dq RT.ck RT.key e O=aZ aw aG e O:=by
     rw[dq,show aL RT.ck RT.key (RT.key e) O=none from hn];rfl
    rw[Cz]at h5';have hnm:drop[k]∉drop.take k:=λhm=>by
     have:e∈O:=(RQ e).2 ⟨Og,by rw[het];exact hm⟩;exact rn.1 hn e this rfl
    refine av _ _ ⟨_,⟨TB.ins ar e,λy=>?_,AN eK HO hnm,λt ht=>?_⟩,h5'⟩
    ·rw[bh ar,RQ,dO eK];constructor
     ·rintro(rfl|⟨⟨a1,a2⟩,_⟩)
      ·exact⟨Og,.inr het⟩
      ·exact⟨a1,.inl a2⟩
     ·rintro⟨a1,a2|a2⟩
      ·refine .inr ⟨⟨a1,a2⟩,λe'=>hnm ?_⟩;have e':y.tag=e.tag:=e';rw[<- het,<- e'];exact a2
      ·exact .inl (hu.inj ar a1 Og (by show y.tag=e.tag;rw[a2,het]))
    ·rcases(dO eK).1 ht with ht|rfl
     ·exact fE t ht
     ·exact⟨e,Og,het⟩
  ·refine hk _ _ _ (.none gN (bad λhh=>?_)) (Df h4 λ_ h=>h.drop);obtain⟨e,he,het⟩:=hh.2;exact rn.1 hn e he het
 rintro s u next ⟨O,⟨TB,RQ,HO,fE⟩,h4⟩
 rw[take_length]at RQ HO fE;have xy:eQ es drop:=⟨HO,fE⟩;refine ab.f (by simp) ?_;have hOl:O.length<=drop.length:=by
  have:=jl (jm TB) (b:=drop) λt ht=>by
   obtain⟨e,he,rfl⟩:=mem_map.1 ht;exact((RQ e).1 he).2
  simpa using this
 clear h3;refine RT.gj h4 .nil [] (by simp) λu1 bi h5=>⟨_,rfl,?_⟩;have h5:Ow (an n x es ms ids::cg T tk ct fr mn::RP.cr x.pr (ps.map (iw T.B))::RT.At x.el es::Pt b3 39 [pP n 0]::RT.At bo O::RT.At bi []::L) u1:=Ow.ord [1,1,1,1,1,1,0] h5;dsimp only;refine ak.dd (n:=add.length) (by omega) (λk s u=>∃A,(b_ aw aG A/\(∀e,e∈A↔e∈add.take k)/\((add.take k).map aG).Nodup/\∀e∈add.take k,(∃e'∈es,e'.tag=e.tag)->e.tag∈drop)/\Ow (an n x es ms ids::cg T tk ct fr mn::RP.cr x.pr (ps.map (iw T.B))::RT.At x.el es::Pt b3 39 [pP n 0]::RT.At bo O::RT.At bi A::L) u) ⟨[],⟨Pairwise.nil,by simp,by simp,by simp⟩,h5⟩ ?_ ?_
 ·rintro k s u next eK ⟨A,⟨Xq,Vv,Rp,Vi⟩,h6⟩ av
  have hAl:A.length<=add.length:=by
   have:=jl (jm Xq) (b:=add.map aG) λt ht=>by
    obtain⟨e,he,rfl⟩:=mem_map.1 ht;exact List.mem_map_of_mem (mem_of_mem_take ((Vv e).1 he))
   simpa using this
  have adS:(aL RT.ck RT.key (RT.key add[k]) O).isSome=true↔(∃e'∈es,e'.tag=add[k].tag)/\add[k].tag∈drop:=by
   rw[show aL RT.ck RT.key (RT.key add[k]) O=aL aw aG add[k].tag O from rfl,xA TB];constructor
   ·rintro⟨e,he,het⟩;obtain⟨a1,a2⟩:=(RQ e).1 he;exact⟨⟨e,a1,het⟩,by rw[<- het];exact a2⟩
   ·rintro⟨⟨e,he,het⟩,hd⟩;exact⟨e,(RQ e).2 ⟨he,by rw[het];exact hd⟩,het⟩
  have bad:¬(add[k].tag∉(add.take k).map aG/\((∃e'∈es,e'.tag=add[k].tag)->add[k].tag∈drop))->¬eL es add drop:=λhb hd=>hb ⟨λhm=>by
   obtain⟨e,he,het⟩:=mem_map.1 hm
   obtain⟨j,hj,rfl⟩:=mem_iff_getElem.1 he
   rw[getElem_take]at het
   rw[length_take]at hj
   have:=(List.getElem_inj hd.1 (i:=j) (j:=k) (h₀:=by simp;omega) (h₁:=by simpa using eK)).1 (by simpa[aG]using het)
   omega,hd.2 _ (getElem_mem eK)⟩
  have JI:((∃e'∈es,e'.tag=add[k].tag)->add[k].tag∈drop)->∀{u:Mem} {G:Mem->Prop},Ow (an n x es ms ids::cg T tk ct fr mn::RP.cr x.pr (ps.map (iw T.B))::RT.At x.el es::Pt b3 39 [pP n 0]::RT.At bo O::RT.At bi A::L) u->aa prog 93 [pP bi 0,.agg add[k].pv] u λv_8 Nb=>∃(Ws:Bool),v_8=(pB Ws)/\ab (!Ws) (K (pI (3)) Nb) (next (s,(wrap .i64 ((k:Int)+(1)))) Nb):=λwG {u G} h7=>by
   refine RT.fL (l:=A) (Ow.ord [6] h7) Xq (by omega) add[k] λu2 h8=>⟨_,rfl,?_⟩;have h8':Ow (an n x es ms ids::cg T tk ct fr mn::RP.cr x.pr (ps.map (iw T.B))::RT.At x.el es::Pt b3 39 [pP n 0]::RT.At bo O::RT.At bi (dq RT.ck RT.key add[k] A)::L) u2:=Ow.ord [1,1,1,1,1,1,0] h8;refine ab.mk (λhb=>?_) (λhb=>?_)
   ·refine hk _ _ _ (.there gN xy (bad λhh=>hh.1 ?_)) (Df h8' λ_ h=>h.drop.drop);have hs:(aL aw aG add[k].tag A).isSome=true:=by
     have:(aL aw aG add[k].tag A).isNone=false:=nb hb;cases hg:aL aw aG add[k].tag A with
     |none=>rw[hg]at this;cases this
     |some z=>rfl
    obtain⟨z,QZ,hz2⟩:=(xA Xq).1 hs;exact mem_map.2 ⟨z,(Vv z).1 QZ,hz2⟩
   ·have hn:aL aw aG add[k].tag A=none:=by
     have:(aL aw aG add[k].tag A).isNone=true:=nt hb;cases hg:aL aw aG add[k].tag A with
     |none=>rfl
     |some z=>rw[hg]at this;cases this
    have Cz:dq RT.ck RT.key add[k] A=aZ aw aG add[k] A:=by
     rw[dq,show aL RT.ck RT.key (RT.key add[k]) A=none from hn];rfl
    rw[Cz]at h8';have hnm:∀y∈add.take k,y.tag≠add[k].tag:=λy hy=>rn.1 hn y ((Vv y).2 hy);refine av _ _ ⟨_,⟨Xq.ins ar _,λy=>?_,?_,λe he=>?_⟩,h8'⟩
    ·rw[bh ar,Vv,dO eK];constructor
     ·rintro(rfl|⟨a1,_⟩)
      ·exact .inr rfl
      ·exact .inl a1
     ·rintro(a1|rfl)
      ·exact .inr ⟨a1,hnm y a1⟩
      ·exact .inl rfl
    ·have hk3:k<(add.map aG).length:=by simpa using eK
     rw[map_take]at Rp |-;refine AN hk3 Rp λhm=>?_;rw[<- map_take]at hm;obtain⟨y,hy,hyt⟩:=mem_map.1 hm;rw[getElem_map]at hyt;exact hnm y hy hyt
    ·rcases(dO eK).1 he with he|rfl
     ·exact Vi e he
     ·exact wG
  refine ab.t (by simpa using eK) ⟨by omega,_,aC eK,_,_,_,_,_,_,_,_,_,_,_,_,rfl,_,h6.rd 4 rfl (by simp),?_⟩;have place:∀{Kx:Kq},Kx (.az [pI ((Ut RT.ck RT.key (RT.key add[k]) O:Nat):Int),pB (aL RT.ck RT.key (RT.key add[k]) O).isSome]) u->aa prog 94 [pP bo 0,.agg add[k].pv] u Kx:=λhKx=>RT.qH (l:=O) (Ow.ord [5] h6) TB (by omega) add[k] hKx;refine XF hu (by omega) add[k].tag (Ow.ord [0,2] h6) (λe he=>⟨_,_,_,_,_,_,_,_,_,_,_,_,_,rfl,place ⟨_,_,rfl,ab.t rfl (ab.mk (λhb=>?_) (λhb=>?_))⟩⟩) (λhn=>⟨_,_,_,_,_,_,_,_,_,_,_,_,_,rfl,place ⟨_,_,rfl,ab.f rfl ?_⟩⟩)
  ·obtain⟨Og,het⟩:=(a_ ar hu).1 he;refine hk _ _ _ (.there gN xy (bad λhh=>?_)) (Df h6 λ_ h=>h.drop.drop);have:=adS.2 ⟨⟨e,Og,het⟩,hh.2 ⟨e,Og,het⟩⟩;rw[this]at hb;cases hb
  ·exact JI (λ_=>(adS.1 (nt hb)).2) (G:=λ_=>True) h6
  ·exact JI (λ⟨e,he,het⟩=>absurd het (rn.1 hn e he)) (G:=λ_=>True) h6
 rintro s u next ⟨A,⟨Xq,Vv,Rp,Vi⟩,h6⟩
 rw[take_length]at Vv Rp Vi;have yF:eL es add drop:=⟨Rp,Vi⟩;have hSt:Sets es add drop O A:=⟨TB,RQ,Xq,Vv⟩;have hAl:A.length<=add.length:=by
  have:=jl (jm Xq) (b:=add.map aG) λt ht=>by
   obtain⟨e,he,rfl⟩:=mem_map.1 ht;exact List.mem_map_of_mem ((Vv e).1 he)
  simpa using this
 refine ab.f (by simp) ?_;clear h5 h4;have acI:∀{k:Nat} (eK:k<O.length),O[k]∈aK (O.take k) es:=λ{k} eK=>by
  refine db.2 ⟨((RQ _).1 (getElem_mem eK)).1,λo ho e=>?_⟩;obtain⟨j,hj,rfl⟩:=mem_iff_getElem.1 ho;rw[getElem_take]at e;simp only[length_take]at hj;have:=pairwise_iff_getElem.1 TB j k (by omega) eK (by omega);have:=vF.1 this;simp only[aG]at this;omega
 have WY:=hR.core.acg;have ac4:∀{fs:List aj} {cu:dg},fj ms cu->dr fs cu->cu.length<=500000:=λhs yI=>Nat.le_trans (hs.use hR.core.use yI).len WY;refine RN.gj h6 .nil [] (by simp) λu1 bm h7=>⟨_,rfl,λJf ahs=>?_⟩;refine(h7.new 177 [.raw (.pointer none)] ahs).st 0 rfl (by simp) λu2 h8=>?_;have h9:Ow (an n x es ms ids::cg T tk ct fr mn::RP.cr x.pr (ps.map (iw T.B))::RT.At x.el es::Pt b3 39 [pP n 0]::RT.At bo O::RT.At bi A::RN.At bm []::Pt Jf 177 [pP bm 0]::L) u2:=Ow.ord [2,2,2,2,2,2,2,1,0] h8;clear h6 h7 h8;refine(RT.pn bo).call ⟨_,_,_,rfl,?_⟩;refine bu.own (RT.dY bo O (by omega)) (Ow.ord [5] h9)
  (λk u=>∃cu iv S,(dr (aK (O.take k) es) cu/\iV (aK (O.take k) es) iv/\fj ms cu/\b_ RN.ck RN.key S/\S.length<=k*500000/\aaF ms S (O.take k))/\Ow (an n x (aK (O.take k) es) cu iv::cg T tk ct fr mn::RP.cr x.pr (ps.map (iw T.B))::RT.At x.el (aK (O.take k) es)::Pt b3 39 [pP n 0]::RT.At bo O::RT.At bi A::RN.At bm S::Pt Jf 177 [pP bm 0]::L) u)
  (λ_ _=>False) (λk=>eC.ex λ_=>eC.ex λ_=>eC.ex λ_=>eC.and (eC.own _)) (λ_ _ _ _ h=>h.elim) (λμ' h'=>⟨ms,ids,[],⟨hA,hI,fj.refl ms,Pairwise.nil,by simp,λy _ _ e he=>by simp at he⟩,?_⟩) ?_ ?_ (λ_ _ h=>h.elim)
 ·have tG:Ow (RT.At bo O::an n x es ms ids::cg T tk ct fr mn::RP.cr x.pr (ps.map (iw T.B))::RT.At x.el es::Pt b3 39 [pP n 0]::RT.At bi A::RN.At bm []::Pt Jf 177 [pP bm 0]::L) μ':=h';exact Ow.ord [1,1,1,1,1,0] tG
 ·rintro k eK u R ⟨cu,iv,S,⟨yI,dG,hs,hS,Xm,hH⟩,tG⟩ ca _;have bZ:k<O.length:=by simpa using eK
  rw[getElem_map];refine⟨_,_,_,_,_,_,_,_,_,_,_,_,rfl,_,tG.rd 4 rfl (by simp),?_⟩;refine SC yI dG (acI bZ) (Ow.ord [0,2] tG) λI_ Cx f u3 Vw yH DK CE=>⟨_,_,rfl,?_⟩;have rD:=HQ (e:=O[k]) yI;have hhl:=rl O[k] cu;have pG:=ac4 hs yI;have lO:Ow (RN.At bm S::Pt Jf 177 [pP bm 0]::an n x (bY aw aG O[k].tag (aK (O.take k) es)) I_ Cx::RT.At x.el (bY aw aG O[k].tag (aK (O.take k) es))::cg T tk ct fr mn::RP.cr x.pr (ps.map (iw T.B))::Pt b3 39 [pP n 0]::RT.At bo O::RT.At bi A::L) u3:=Ow.ord [7,7] CE;refine HR (Pre:=[]) rD (by omega) hS (by omega) lO λS' u4 Ku ahE Pm Kn Bq=>ca _ ⟨I_,Cx,S',⟨by rw[gw bZ];exact Vw,by rw[gw bZ];exact yH,hs.trans DK,Ku,by omega,λy hy cQ e he=>?_⟩,?_⟩
  ·rcases(dO bZ).1 he with he|rfl
   ·exact hH y hy (λh=>cQ (Pm _ h)) e he
   ·cases hm:bg y.2.c O[k]with
    |false=>rfl
    |true=>exact absurd (Kn _ (DM hs hA.mX yI.mX hy hm)) cQ
  ·rw[gw bZ];exact Ow.ord [2,3,3,2,2,2,2,0,0] Bq
 rintro u ⟨Hv,iD,S1,⟨RW,k_,Kb,hS1,RM,hH1⟩,tG⟩;rw[length_map]at RW k_ RM hH1 tG;rw[take_length]at RW k_ hH1 tG;dsimp only[PK];clear h9;refine(RT.pn bi).call ⟨_,_,_,rfl,?_⟩;have alW:=qD O es;have Po:cm (A.take 0) (aK O es)=aK O es:=by rw[take_zero];rfl
 have ahD:S1.length<=O.length*500000+0*500000:=by rw[Nat.zero_mul,Nat.add_zero];exact RM
 refine bu.own (RT.dY bi A (by omega)) (Ow.ord [6] tG)
  (λk u=>∃cu iv S,(dr (cm (A.take k) (aK O es)) cu/\iV (cm (A.take k) (aK O es)) iv/\fj ms cu/\b_ RN.ck RN.key S/\S.length<=O.length*500000+k*500000/\aaF ms S O/\aaF ms S (A.take k))/\Ow (an n x (cm (A.take k) (aK O es)) cu iv::cg T tk ct fr mn::RP.cr x.pr (ps.map (iw T.B))::RT.At x.el (cm (A.take k) (aK O es))::Pt b3 39 [pP n 0]::RT.At bo O::RT.At bi A::RN.At bm S::Pt Jf 177 [pP bm 0]::L) u)
  (λ_ _=>False) (λk=>eC.ex λ_=>eC.ex λ_=>eC.ex λ_=>eC.and (eC.own _)) (λ_ _ _ _ h=>h.elim) (λμ' h'=>⟨Hv,iD,S1,⟨by rw[Po];exact RW,by rw[Po];exact k_,Kb,hS1,ahD,hH1,λy _ _ e he=>by simp at he⟩,?_⟩) ?_ ?_ (λ_ _ h=>h.elim)
 ·have CE:Ow (RT.At bi A::an n x (aK O es) Hv iD::cg T tk ct fr mn::RP.cr x.pr (ps.map (iw T.B))::RT.At x.el (aK O es)::Pt b3 39 [pP n 0]::RT.At bo O::RN.At bm S1::Pt Jf 177 [pP bm 0]::L) μ':=h';rw[Po];exact Ow.ord [1,1,1,1,1,1,0] CE
 ·rintro k eK u R ⟨cu,iv,S,⟨yI,dG,hs,hS,Xm,hHO,hH⟩,tG⟩ ca _;have bZ:k<A.length:=by simpa using eK
  rw[getElem_map];refine⟨_,_,_,_,_,_,_,_,_,_,_,_,rfl,_,tG.rd 4 rfl (by simp),?_⟩;have Zv:=oH (A.take k) (aK O es);rw[length_take]at Zv;refine XA yI dG (hSt.fresh hu yF bZ) (by omega) (Ow.ord [0,2] tG) λI_ Cx f u3 Vw yH DK CE=>⟨_,_,rfl,?_⟩;have rD:=HQ (e:=A[k]) yI;have hhl:=rl A[k] cu;have pG:=ac4 hs yI;have lO:Ow (RN.At bm S::Pt Jf 177 [pP bm 0]::an n x (aZ aw aG A[k] (cm (A.take k) (aK O es))) I_ Cx::RT.At x.el (aZ aw aG A[k] (cm (A.take k) (aK O es)))::cg T tk ct fr mn::RP.cr x.pr (ps.map (iw T.B))::Pt b3 39 [pP n 0]::RT.At bo O::RT.At bi A::L) u3:=Ow.ord [7,7] CE;refine HR (Pre:=[]) rD (by omega) hS (by omega) lO λS' u4 Ku ahE Pm Kn Bq=>ca _ ⟨I_,Cx,S',⟨by rw[ik bZ];exact Vw,by rw[ik bZ];exact yH,hs.trans DK,Ku,by omega,λy hy cQ e he=>hHO y hy (λh=>cQ (Pm _ h)) e he,λy hy cQ e he=>?_⟩,?_⟩
  ·rcases(dO bZ).1 he with he|rfl
   ·exact hH y hy (λh=>cQ (Pm _ h)) e he
   ·cases hm:bg y.2.c A[k]with
    |false=>rfl
    |true=>exact absurd (Kn _ (DM hs hA.mX yI.mX hy hm)) cQ
  ·rw[ik bZ];exact Ow.ord [2,3,3,2,2,2,2,0,0] Bq
 clear tG RW k_ Kb hS1 RM hH1;rintro u ⟨Hv,iD,S1,⟨RW,k_,Kb,hS1,RM,hHO,hHA⟩,tG⟩;rw[length_map]at RW k_ RM hHA tG;rw[take_length]at RW k_ hHA tG;dsimp only[PK];have jq:=hSt.new hu xy yF;generalize hfs:cm A (aK O es)=fs at*
 have Bj:∀e∈fs,1<=e.tag/\e.tag<9223372036854775808:=λe he=>by
  rcases(jq.2 e).1 he with h|⟨h,_⟩
  ·exact⟨(gN e h).2,agA e h⟩
  ·exact hR.tags e h
 have Zc:∀y∈Hv,¬NT S1 y.1->es.filter (bg y.2.c)=fs.filter (bg y.2.c):=λy hy cQ=>by
  have h1:aL aw bO y.1 Hv=some y:=(a_ ar RW.mX).2 ⟨hy,rfl⟩;have h2:=Kb y.1;rw[h1]at h2;cases hg:aL aw bO y.1 ms with
  |none=>rw[hg]at h2;cases h2
  |some z=>
   rw[hg]at h2;simp only[Option.map_some,Option.some.injEq,Prod.mk.injEq]at h2;obtain⟨hz,Fb⟩:=(a_ ar hA.mX).1 hg;have Fb:z.1=y.1:=Fb;rw[h2.1,<- hfs];exact hSt.loc hu yF (hHO z hz (by rw[Fb];exact cQ)) (hHA z hz (by rw[Fb];exact cQ))
 have Rj:=Qu (fs:=fs) hR;have YR:aE fs []=aE es []:=rfl;have acF:tk []=aE fs []:=hR.core.dN.tok [] hR.core.tree.root;have Vb:=hR.core.tree.root;refine⟨λe u=>∃nH mZ,((e=25/\∃q∈ps,dj x.T fs q.conds)\/(e=26/\(¬ ∃q∈ps,dj x.T fs q.conds)/\x.M<((cS fs ps:Nat):Int))\/(e=0/\(¬ ∃q∈ps,dj x.T fs q.conds)/\((cS fs ps:Nat):Int)<=x.M/\∀q∈T.D,q≠[]->nH q=aE fs q/\mZ q=mN fs q))/\Ow (an n x fs Hv iD::cg T tk ct nH mZ::RP.cr x.pr (ps.map (iw T.B))::RT.At x.el fs::Pt b3 39 [pP n 0]::RT.At bo O::RT.At bi A::L) u,?_,?_⟩
 ·obtain⟨F,hF⟩:=cg.rd Vb (Ow.swap tG);have hF':=hF;rw[<- hR.root]at hF';have hn2:=an.xp (n:=n) (x:=x) (es:=fs) (ms:=Hv) (ids:=iD) tG (by simp);refine⟨_,tG.rd 4 rfl (by simp),_,tG.rd 4 rfl (by simp),?_⟩;dsimp only[nP,nn,aN];refine⟨_,aJ hn2 (by simp),_,tG.rd 4 rfl (by simp),?_⟩;dsimp only;refine⟨_,aJ hn2 (by simp),?_⟩;dsimp only;refine⟨_,_,aJ hF' (by simp),_,tG.rd 8 rfl (by simp),?_⟩;dsimp only[gz];rw[acF,hR.root];refine ad0 hR.core.tree RW k_ ⟨by omega,by omega⟩ hR.core.dN hS1 (by omega) (λp c hp=>Bv Kb.mem c 0 (hR.core.fit p c hp)) (UD hR.core) Zc 17 [] fr mn _ false Vb (by simp) (by simp[aE]) (λ_=>YR.symm) (Ow.ord [0,0,5] tG) (λhC u3 CE=>⟨_,rfl,ab.f rfl λXM Ks=>?_⟩) (λXf nH mZ u3 CE=>⟨_,rfl,ab.t rfl ⟨nH,mZ,.inl ⟨rfl,Rj.1 Xf⟩,?_⟩⟩)
  ·have HM:¬ ∃q∈ps,dj x.T fs q.conds:=λh=>by
    obtain⟨q,c,j,hq,hj⟩:=Rj.2 h;have:=hC q c hq nil_prefix j;omega
   have UU:∀q∈T.D,q≠[]->under (T.K []) [] q=true:=λq hq hq0=>gl.2 ((hR.core.tree.below Vb hq).1 ⟨nil_prefix,hq0⟩);generalize Vn:mix (T.K []) [] (aE fs) fr=fr1 at CE;generalize Mm:mix (T.K []) [] (mN fs) mn=mn1 at CE;have Ry:∀q∈T.D,q≠[]->fr1 q=aE fs q/\mn1 q=mN fs q:=λq hq hq0=>by
    rw[<- Vn,<- Mm];unfold mix;rw[UU q hq hq0];exact⟨rfl,rfl⟩
   have lO:Ow (an n x fs Hv iD::cg T tk ct fr1 mn1::RP.cr x.pr (ps.map (iw T.B))::RT.At x.el fs::Pt b3 39 [pP n 0]::RT.At bo O::RT.At bi A::RN.At bm S1::Pt Jf 177 [pP bm 0]::L) u3:=Ow.ord [0,0,1,1,1,1,1,0] CE;have acY:∀q∈ps,(aE fs q.conds).length<=1024:=λq hq=>by
    obtain⟨_,_,_,_,_,g1,g2⟩:=(hR.Gt q hq).facts;obtain⟨r,d,e⟩:=nW g1;have h4:=hC r d (by rw[<- e];exact hR.pD q hq) nil_prefix 0;rw[jt,<- dh,<- e]at h4;omega
   have WX:ps.length<=100:=by have:=hR.JL;omega
   refine(lO.new 3 [pI 0] Ks).st 0 rfl (by simp) λu4 Bq=>?_;refine⟨_,Bq.rd 5 rfl (by simp),?_⟩;dsimp only;refine⟨_,aJ (an.xp (x:=x) (es:=fs) (ms:=Hv) (ids:=iD) Bq (by simp)) (by simp),(RP.vK x.pr).call ⟨_,_,_,rfl,?_⟩⟩;have pG:((ps.map (iw T.B)).map λy=>[RP.cY y.1,RP.gP y.2]).length=ps.length:=by simp
   refine bu.own (RP.gn x.pr (ps.map (iw T.B)) (by simp;omega)) (Ow.at 3 rfl Bq)
    (λk u=>Ow (an n x fs Hv iD::cg T tk ct fr1 mn1::RP.cr x.pr (ps.map (iw T.B))::RT.At x.el fs::Pt b3 39 [pP n 0]::RT.At bo O::RT.At bi A::Pt XM 3 [pI ((((ps.take k).map λq=>(aE fs q.conds).length).sum:Nat):Int)]::RN.At bm S1::Pt Jf 177 [pP bm 0]::L) u) (λ_ _=>False) (λk=>eC.own _) (λ_ _ _ _ h=>h.elim) (λμ' h'=>?_) ?_ ?_ (λ_ _ h=>h.elim)
   ·have h14:Ow (RP.cr x.pr (ps.map (iw T.B))::Pt XM 3 [pI 0]::an n x fs Hv iD::cg T tk ct fr1 mn1::RT.At x.el fs::Pt b3 39 [pP n 0]::RT.At bo O::RT.At bi A::RN.At bm S1::Pt Jf 177 [pP bm 0]::L) μ':=h';exact Ow.ord [2,2,0,1,1,1,1,0] h14
   ·rintro k eK u2 R h2 ca _;have bZ:k<ps.length:=by simpa using eK
    have hm:=getElem_mem bZ;have d1:=hR.pD _ hm;obtain⟨_,_,_,_,_,d2,d3⟩:=(hR.Gt _ hm).facts;obtain⟨F2,RV⟩:=cg.rd d1 (Ow.swap h2);obtain⟨w1,w2⟩:=Ek T.B d2 (by omega);rw[getElem_map,getElem_map];refine⟨_,_,_,_,_,_,_,_,rfl,_,h2.rd 7 rfl (by simp),w2,_,w1,_,rfl,?_⟩;dsimp only;refine⟨_,_,aJ RV (by simp),?_⟩;dsimp only[gz];rw[(Ry _ d1 d2).1];refine h2.st 7 rfl (by simp) λu3 h3=>ca _ ?_;have hs:((ps.take (k+1)).map λq=>(aE fs q.conds).length).sum=((ps.take k).map λq=>(aE fs q.conds).length).sum+(aE fs ps[k].conds).length:=by
     rw[eP bZ,List.sum_append];simp
    have h4:=acY _ hm;have h5:=Ew (l:=ps.take k) (f:=λq=>(aE fs q.conds).length) (b:=1024) λq hq=>acY q (mem_of_mem_take hq);rw[length_take]at h5;have e:dx [pI ((((ps.take k).map λq=>(aE fs q.conds).length).sum:Nat):Int)] 0 [pI (wrap .i64 (((((ps.take k).map λq=>(aE fs q.conds).length).sum:Nat):Int)+((((aE fs ps[k].conds).map bW.pv).length:Nat):Int)))]=[pI ((((ps.take (k+1)).map λq=>(aE fs q.conds).length).sum:Nat):Int)]:=by
     rw[hs,length_map,aD (by omega) (by omega)];show[pI _]=_;congr 2
    rw[e]at h3;exact h3
   ·intro u2 h2;rw[pG,take_length]at h2;dsimp only[PK];have h14:Ow (an n x fs Hv iD::cg T tk ct fr1 mn1::RP.cr x.pr (ps.map (iw T.B))::RT.At x.el fs::Pt b3 39 [pP n 0]::RT.At bo O::RT.At bi A::L) u2:=h2.tail λ_ h=>h.tail λ_ h=>h.tail λ_ h=>h.tail λ_ h=>h.tail λ_ h=>h.tail λ_ h=>h.tail λ_ h=>h.drop.drop.drop;refine⟨_,h2.rd 7 rfl (by simp),_,h2.rd 4 rfl (by simp),?_⟩;dsimp only;refine⟨_,aJ (an.xp (x:=x) (es:=fs) (ms:=Hv) (ids:=iD) h2 (by simp)) (by simp),ab.mk (λhb=>?_) (λhb=>?_)⟩
    ·have jY:x.M<((cS fs ps:Nat):Int):=by
      have:x.M<(((ps.map λq=>(aE fs q.conds).length).sum:Nat):Int):=by simpa using hb
      exact this
     exact⟨fr1,mn1,.inr (.inl ⟨rfl,HM,jY⟩),h14⟩
    ·have jY:((cS fs ps:Nat):Int)<=x.M:=by
      have:¬x.M<(((ps.map λq=>(aE fs q.conds).length).sum:Nat):Int):=by simpa using hb
      unfold cS;omega
     exact⟨fr1,mn1,.inr (.inr ⟨rfl,HM,jY,Ry⟩),h14⟩
  ·have lO:Ow (an n x fs Hv iD::cg T tk ct nH mZ::RP.cr x.pr (ps.map (iw T.B))::RT.At x.el fs::Pt b3 39 [pP n 0]::RT.At bo O::RT.At bi A::RN.At bm S1::Pt Jf 177 [pP bm 0]::L) u3:=Ow.ord [0,0,1,1,1,1,1,0] CE;exact lO.tail λ_ h=>h.tail λ_ h=>h.tail λ_ h=>h.tail λ_ h=>h.tail λ_ h=>h.tail λ_ h=>h.tail λ_ h=>h.drop.drop
 ·clear tG;rintro e u3 ⟨nH,mZ,Xk,CE⟩;refine ab.mk (λh0=>?_) (λh0=>?_)
  ·have Xs:e=0:=by simpa using h0
   obtain⟨_,HM,jO,Ry⟩:e=0/\(¬ ∃q∈ps,dj x.T fs q.conds)/\((cS fs ps:Nat):Int)<=x.M/\∀q∈T.D,q≠[]->nH q=aE fs q/\mZ q=mN fs q:=by
    rcases Xk with⟨h,_⟩|⟨h,_⟩|h
    ·omega
    ·omega
    ·exact h
   subst Xs;refine⟨_,CE.rd 4 rfl (by simp),?_⟩;dsimp only[nP,nn,aN];refine⟨_,aJ (an.xp (x:=x) (es:=fs) (ms:=Hv) (ids:=iD) CE (by simp)) (by simp),?_⟩;rw[hR.root];refine VK hR.core.tree 17 [] tk ct nH mZ Vb (by simp) (Ow.swap CE) λu4 lO=>⟨rfl,?_⟩;have UU:∀q∈T.D,q≠[]->under (T.K []) [] q=true:=λq hq hq0=>gl.2 ((hR.core.tree.below Vb hq).1 ⟨nil_prefix,hq0⟩);have acD:under (T.K []) [] []=false:=by
    cases h:under (T.K []) [] []with
    |false=>rfl
    |true=>
     obtain⟨c,_,hp⟩:=gl.1 h;have:=hp.length_le;simp at this
   have hTk:Wn T x.T fs (mix (T.K []) [] nH tk) (mix (T.K []) [] mZ ct):=by
    refine⟨λp hp=>?_,λp c hp=>?_,λp c hp j=>?_⟩
    ·unfold mix;by_cases e:p=[]
     ·subst e;rw[acD];exact acF
     ·rw[UU p hp e];exact(Ry p hp e).1
    ·unfold mix;rw[UU _ hp (by simp)];show mZ (p++[c])=_;rw[(Ry _ hp (by simp)).2,oD]
    ·by_cases hj:((du fs c (aE fs p) j:Nat):Int)<=x.T
     ·exact hj
     ·exact absurd (Rj.1 ⟨p,c,j,hp,by omega⟩) HM
   refine hk 0 fs u4 (.ok gN xy yF fs jq HM jO) (gB.shut (fr:=mix (T.K []) [] (λ_=>[]) nH) (mn:=mix (T.K []) [] (λ_=>[]) mZ) (hR.zP RW k_ Kb hTk Bj) jO ?_);exact(Ow.swap lO).tail λ_ h=>h.tail λ_ h=>h.tail λ_ h=>h.tail λ_ h=>h.drop.drop.drop
  ·have Zs:mg x.T x.M es ps add drop e es:=by
    rcases Xk with⟨rfl,h⟩|⟨rfl,h,h'⟩|⟨rfl,_⟩
    ·exact .dN gN xy yF fs jq h
    ·exact .dZ gN xy yF fs jq h h'
    ·simp at h0
   have hAd:∀{k:Nat} (eK:k<A.length),A[k]∈aK (A.take k) fs:=λ{k} eK=>by
    refine db.2 ⟨(jq.2 _).2 (.inl ((Vv _).1 (getElem_mem eK))),λo ho e=>?_⟩;obtain⟨j,hj,rfl⟩:=mem_iff_getElem.1 ho;rw[getElem_take]at e;simp only[length_take]at hj;have:=pairwise_iff_getElem.1 Xq j k (by omega) eK (by omega);have:=vF.1 this;simp only[aG]at this;omega
   refine(RT.pn bi).call ⟨_,_,_,rfl,?_⟩;refine bu.own (RT.dY bi A (by omega)) (Ow.ord [6] CE)
    (λk u=>∃cu iv,(dr (aK (A.take k) fs) cu/\iV (aK (A.take k) fs) iv/\fj ms cu)/\Ow (an n x (aK (A.take k) fs) cu iv::cg T tk ct nH mZ::RP.cr x.pr (ps.map (iw T.B))::RT.At x.el (aK (A.take k) fs)::Pt b3 39 [pP n 0]::RT.At bo O::RT.At bi A::L) u)
    (λ_ _=>False) (λk=>eC.ex λ_=>eC.ex λ_=>eC.and (eC.own _)) (λ_ _ _ _ h=>h.elim) (λμ' h'=>⟨Hv,iD,⟨RW,k_,Kb⟩,?_⟩) ?_ ?_ (λ_ _ h=>h.elim)
   ·have lO:Ow (RT.At bi A::an n x fs Hv iD::cg T tk ct nH mZ::RP.cr x.pr (ps.map (iw T.B))::RT.At x.el fs::Pt b3 39 [pP n 0]::RT.At bo O::L) μ':=h';exact Ow.ord [1,1,1,1,1,1,0] lO
   ·rintro k eK u R ⟨cu,iv,⟨yI,dG,hs⟩,lO⟩ ca _;have bZ:k<A.length:=by simpa using eK
    rw[getElem_map];refine⟨_,_,_,_,_,_,_,_,_,_,_,_,rfl,_,lO.rd 4 rfl (by simp),?_⟩;refine SC yI dG (hAd bZ) (Ow.ord [0,2] lO) λI_ Cx f u3 Vw yH DK Bq=>⟨_,_,rfl,ca _ ⟨I_,Cx,⟨by rw[gw bZ];exact Vw,by rw[gw bZ];exact yH,hs.trans DK⟩,?_⟩⟩;rw[gw bZ];exact Ow.ord [0,1,1,0] Bq
   rintro u4 ⟨I_,Cx,⟨Vw,yH,DK⟩,lO⟩;rw[length_map]at Vw yH lO;rw[take_length]at Vw yH lO;dsimp only[PK];refine(RT.pn bo).call ⟨_,_,_,rfl,?_⟩;have alV:=qD A fs;have kP:fs.length<=es.length+A.length:=by
    rw[<- hfs];have:=oH A (aK O es);omega
   have Po:cm (O.take 0) (aK A fs)=aK A fs:=by rw[take_zero];rfl
   refine bu.own (RT.dY bo O (by omega)) (Ow.ord [5] lO)
    (λk u=>∃cu iv,(dr (cm (O.take k) (aK A fs)) cu/\iV (cm (O.take k) (aK A fs)) iv/\fj ms cu)/\Ow (an n x (cm (O.take k) (aK A fs)) cu iv::cg T tk ct nH mZ::RP.cr x.pr (ps.map (iw T.B))::RT.At x.el (cm (O.take k) (aK A fs))::Pt b3 39 [pP n 0]::RT.At bo O::RT.At bi A::L) u)
    (λ_ _=>False) (λk=>eC.ex λ_=>eC.ex λ_=>eC.and (eC.own _)) (λ_ _ _ _ h=>h.elim) (λμ' h'=>⟨I_,Cx,⟨by rw[Po];exact Vw,by rw[Po];exact yH,DK⟩,?_⟩) ?_ ?_ (λ_ _ h=>h.elim)
   ·rw[Po];have Bq:Ow (RT.At bo O::an n x (aK A fs) I_ Cx::cg T tk ct nH mZ::RP.cr x.pr (ps.map (iw T.B))::RT.At x.el (aK A fs)::Pt b3 39 [pP n 0]::RT.At bi A::L) μ':=h';exact Ow.ord [1,1,1,1,1,0] Bq
   ·rintro k eK u R ⟨cu,iv,⟨yI,dG,hs⟩,Bq⟩ ca _;have bZ:k<O.length:=by simpa using eK
    rw[getElem_map];refine⟨_,_,_,_,_,_,_,_,_,_,_,_,rfl,_,Bq.rd 4 rfl (by simp),?_⟩;have Zv:=oH (O.take k) (aK A fs);rw[length_take]at Zv;have adn:=hSt.ZF hu yF bZ;rw[hfs]at adn;refine XA yI dG adn (by omega) (Ow.ord [0,2] Bq) λms3 acu f u3 hA3 RU hs3 h14=>⟨_,_,rfl,ca _ ⟨ms3,acu,⟨by rw[ik bZ];exact hA3,by rw[ik bZ];exact RU,hs.trans hs3⟩,?_⟩⟩;rw[ik bZ];exact Ow.ord [0,1,1,0] h14
   rintro u5 ⟨ms3,acu,⟨hA3,RU,hs3⟩,Bq⟩;rw[length_map]at hA3 RU Bq;rw[take_length]at hA3 RU Bq;have yE:=hSt.back hu yF;rw[hfs]at yE;rw[yE]at hA3 RU Bq;dsimp only[PK];refine hk e es u5 Zs (gB.shut (fr:=nH) (mn:=mZ) (hR.zP hA3 RU hs3 hR.core.dN hR.tags) mV ?_);exact Bq.tail λ_ h=>h.tail λ_ h=>h.tail λ_ h=>h.tail λ_ h=>h.drop.drop.drop
end
end Go.Proofs.YtbodiiomcfgokaaGreat
namespace Go.aP
open Go.RowKit
def F_(P:Program)(f:PV)(items:Lq)(A:aR):Prop:=
 (∃g a b,f=.fn (.func g) a b)/\∀(fy:Fn) (ya yb:List PV) (J:Nat->aR) (S:aR) (μ:Mem),Bu fy True->Ow [A,J 0] μ->
  (∀(k:Nat) (h:k<items.length) (μ:Mem),J k μ->bJ P (.fn fy ya yb) items[k] μ λv μ'=>(v=pB true/\Ow [J (k+1)] μ')\/(v=pB false/\Ow [S] μ'))->
  bJ P f [.fn fy ya yb] μ λ_ μ'=>Ow [A,J items.length] μ'\/Ow [A,S] μ'
theorem F_.mk{P:Program}{g:FuncId}{a b:List PV}{items:Lq}{A:aR}
  (h:∀(fy:Fn) (ya yb:List PV) (J:Nat->aR) (S:aR) (μ:Mem),Bu fy True->Ow [A,J 0] μ->
   (∀(k:Nat) (h:k<items.length) (μ:Mem),J k μ->bJ P (.fn fy ya yb) items[k] μ λv μ'=>(v=pB true/\Ow [J (k+1)] μ')\/(v=pB false/\Ow [S] μ'))->
   aa P g (a++[.fn fy ya yb]++b) μ λ_ μ'=>Ow [A,J items.length] μ'\/Ow [A,S] μ'):F_ P (.fn (.func g) a b) items A:=
 ⟨⟨g,a,b,rfl⟩,λfy ya yb J S μ hy h0 cO=>h fy ya yb J S μ hy h0 cO⟩
theorem bu.acb{P:Program}{f:PV}{items:Lq}{A:aR}{L:List aR}{body:List PV->(Option Code->Mem->Prop)->Mem->Prop}{K:Option Code->Mem->Prop}{μ:Mem}(hs:F_ P f items A)(hO:Ow (A::L) μ)
  (J:Nat->aR) (S:Code->aR) (hJ:∀k,eC (J k)) (hS:∀c,eC (S c)) (h0:∀μ',Ow L μ'->J 0 μ')
  (cO:∀(k:Nat) (h:k<items.length) (μ:Mem) (R:Option Code->Mem->Prop),J k μ->(∀μ',J (k+1) μ'->R none μ')->(∀c μ',S c μ'->R (some c) μ')->body items[k] R μ)
  (RA:∀μ,Ow [A,J items.length] μ->K none μ) (Rb:∀c μ,Ow [A,S c] μ->K (some c) μ):bu P f body K μ:=by
 obtain⟨hf,hs⟩:=hs;refine⟨hf,λl rec hl hy=>?_⟩;have cut:∀{ν:Mem} {o:Ob} {M:List aR},Ow (Rc l o::M) ν->ν l=some o/\Ow M (ν.set l none):=λ{ν o M} h=>by
  obtain⟨ν1,ν2,tx,rfl,hR,hM⟩:=h;refine⟨Mem.bD hR,hM.mono λb o' hb=>?_⟩;have Je:ν1 b=none:=(tx b).resolve_right (by rw[hb];simp);have aQ:b≠l:=by
   rintro rfl;have:ν1 b=_:=hR;rw[this]at Je;cases Je
  rw[Mem.ax _ _ aQ,Mem.bH Je];exact hb
 have glue:∀{ν:Mem} {o:Ob},ν l=some o->ν=(ν.set l none).set l (some o):=λ{ν o} h=>by
  rw[Mem.set_set,Mem.An h]
 have lift:∀{ν:Mem} {o:Ob} {B:aR},eC B->Ow [A,λν=>∃μ3,μ3 l=none/\ν=μ3.set l (some o)/\B μ3] ν->ν l=some o/\Ow [A,B] (ν.set l none):=λ{ν o B} hB h=>by
  obtain⟨ν1,ν2,tx,rfl,hA,ν3,ν4,ajf,rfl,⟨μ3,h1,rfl,h3⟩,_⟩:=h;have zb:ν1 l=none:=by
   rcases tx l with h|h
   ·exact h
   ·rw[Mem.bD (Mem.ao _ _ _)]at h;cases h
  have e2:((μ3.set l (some o)).or ν4) l=some o:=Mem.bD (Mem.ao _ _ _);refine⟨by rw[Mem.bH zb];exact e2,ν1,((μ3.set l (some o)).or ν4).set l none,λb=>?_,?_,hA,Ow.one (hB μ3 _ (λb o' hb=>?_) h3)⟩
  ·by_cases e:b=l
   ·subst e;exact .inl zb
   ·rw[Mem.ax _ _ e];exact tx b
  ·funext b;by_cases e:b=l
   ·subst e;rw[Mem.ao,Mem.bH zb,Mem.ao]
   ·rw[Mem.ax _ _ e];show(ν1.or ((μ3.set l (some o)).or ν4)) b=(ν1.or (((μ3.set l (some o)).or ν4).set l none)) b;cases hx:ν1 b with
    |some y=>rw[Mem.bD hx,Mem.bD hx]
    |none=>rw[Mem.bH hx,Mem.bH hx,Mem.ax _ _ e]
  ·have aQ:b≠l:=by rintro rfl;rw[h1]at hb;cases hb
   rw[Mem.ax _ _ aQ];exact Mem.bD (by rw[Mem.ax _ _ aQ];exact hb)
 refine(hs (.yield l) [] [] (λk ν=>∃μ3,μ3 l=none/\ν=μ3.set l (some (rec none))/\J k μ3) (λν=>∃c μ3,μ3 l=none/\ν=μ3.set l (some (rec (some c)))/\S c μ3) _ trivial ?_ ?_).mono ?_
 ·have h1:Ow (Rc l (rec none)::A::L) (μ.set l (some (rec none))):=by
   refine⟨M0.set l (some (rec none)),μ,λx=>?_,?_,Mem.ao _ _ _,hO⟩
   ·by_cases e:x=l
    ·subst e;exact .inr hl
    ·rw[Mem.ax _ _ e];exact .inl rfl
   ·funext x;by_cases e:x=l
    ·subst e;rw[Mem.ao,Mem.bD (Mem.ao _ _ _)]
    ·rw[Mem.ax _ _ e,Mem.bH (by rw[Mem.ax _ _ e];rfl)]
  refine h1.swap.tail λν hν=>Ow.one ?_;obtain⟨h2,h3⟩:=cut hν;exact⟨_,Mem.ao _ _ _,glue h2,h0 _ h3⟩
 ·rintro k hk _ ⟨μ3,h1,rfl,Xp⟩;refine(hy items[k] μ3 (λp μ'=>match p with|none=>J (k+1) μ'|some c=>S c μ') h1 (cO k hk μ3 _ Xp (λμ' h=>h) (λc μ' h=>h))).mono ?_;rintro v μ2 ⟨p,μ4,rfl,h3,rfl,hR⟩;cases p with
  |none=>exact .inl ⟨rfl,Ow.one ⟨μ4,h3,rfl,hR⟩⟩
  |some c=>exact .inr ⟨rfl,Ow.one ⟨c,μ4,h3,rfl,hR⟩⟩
 ·rintro v ν (h|h)
  ·obtain⟨h4,h5⟩:=lift (hJ _) h;exact⟨none,ν.set l none,Mem.ao _ _ _,glue h4,RA _ h5⟩
  ·have h6:Ow [A,λν=>∃c,(λν=>∃μ3,μ3 l=none/\ν=μ3.set l (some (rec (some c)))/\S c μ3) ν] ν:=h;obtain⟨c,h7⟩:=Ow.ex h6.swap;obtain⟨h4,h5⟩:=lift (hS c) h7.swap;exact⟨some c,ν.set l none,Mem.ao _ _ _,glue h4,Rb c _ h5⟩
end Go.aP
namespace Go.Proofs.YtbodiiomcfgokaaGreat
open Go.Proofs.Tryz Go.aP Go.RowKit
theorem Nr{c:ae}{b:List aP.Bind}{es:List aj}{y:aj×List aP.Bind}(h:y∈aX c b es):y.1∈es:=by
 unfold aX at h;obtain⟨e,he,h2⟩:=List.mem_filterMap.1 h;cases hc:c_ c e b with
 |none=>rw[hc]at h2;cases h2
 |some q=>
  rw[hc]at h2;simp only[Option.map_some,Option.some.injEq]at h2;subst h2;exact he
theorem PN{es:List aj}(hu:es.Pairwise λa b=>a.tag≠b.tag){c:ae}{ts:List bW}(h:ts.Pairwise λa b=>a.tags≠b.tags):(stepT es c ts).Pairwise λa b=>a.tags≠b.tags:=by
 unfold stepT;split
 ·rw[List.pairwise_flatMap];refine⟨λt ht=>?_,h.imp λ{a b} yG x hx y hy e=>?_⟩
  ·rw[pairwise_map];unfold aX;refine List.Pairwise.filterMap _ (R:=λa b:aj=>a.tag≠b.tag) (λa a' haa b hb b' jY e=>?_) hu;have e1:b.1=a:=by
    cases hc:c_ c a t.binds with
    |none=>rw[hc]at hb;cases hb
    |some q=>rw[hc]at hb;simp only[Option.map_some,Option.some.injEq]at hb;rw[<- hb]
   have e2:b'.1=a':=by
    cases hc:c_ c a' t.binds with
    |none=>rw[hc]at jY;cases jY
    |some q=>rw[hc]at jY;simp only[Option.map_some,Option.some.injEq]at jY;rw[<- jY]
   have:=List.append_inj_right' e rfl;simp only[List.cons.injEq,and_true]at this;rw[e1,e2]at this;exact haa this
  ·obtain⟨x',_,rfl⟩:=mem_map.1 hx;obtain⟨y',_,rfl⟩:=mem_map.1 hy;exact yG (List.append_inj_left' e rfl)
 ·exact h.filter _
theorem lj{es:List aj}(hu:es.Pairwise λa b=>a.tag≠b.tag)(p:Path):(aE es p).Pairwise λa b=>a.tags≠b.tags:=by
 have key:∀(p:Path) (ts:List bW),(ts.Pairwise λa b=>a.tags≠b.tags)->(p.foldl (λts c=>stepT es c ts) ts).Pairwise λa b=>a.tags≠b.tags:=by
  intro p;induction p with
  |nil=>intro ts h;exact h
  |cons c p ih=>intro ts h;exact ih _ (PN hu h)
 exact key p _ (List.pairwise_singleton _ _)
theorem Jw{es:List aj}{c:ae}{ts:List bW}(h:∀t∈ts,∀x∈t.tags,∃e∈es,e.tag=x):∀t∈stepT es c ts,∀x∈t.tags,∃e∈es,e.tag=x:=by
 intro t ht x hx;unfold stepT at ht;split at ht
 ·obtain⟨t',zD,hm⟩:=mem_flatMap.1 ht;obtain⟨y,hy,rfl⟩:=mem_map.1 hm;rcases mem_append.1 hx with hx|hx
  ·exact h t' zD x hx
  ·simp only[mem_singleton]at hx;exact⟨y.1,Nr hy,hx.symm⟩
 ·exact h t (mem_filter.1 ht).1 x hx
theorem Jq{es:List aj}(p:Path):∀t∈aE es p,∀x∈t.tags,∃e∈es,e.tag=x:=by
 have key:∀(p:Path) (ts:List bW),(∀t∈ts,∀x∈t.tags,∃e∈es,e.tag=x)->∀t∈p.foldl (λts c=>stepT es c ts) ts,∀x∈t.tags,∃e∈es,e.tag=x:=by
  intro p;induction p with
  |nil=>intro ts h;exact h
  |cons c p ih=>intro ts h;exact ih _ (Jw h)
 exact key p _ (by intro t ht x hx;simp only[mem_singleton]at ht;subst ht;simp[En]at hx)
theorem ym{es:List aj}(hu:b_ aw aG es):es.Pairwise λa b=>a.tag≠b.tag:=hu.imp λ{a b} yG e=>by
 have e:aG a=aG b:=e;rw[e]at yG;exact absurd yG (by rw[ar.self];omega)
theorem eh:m_ bd:=⟨sU,sV,pW⟩
def iY(ts:List bW):List bW:=ts.foldl (λl t=>dq bd bW.tags t l) []
theorem Ak:∀(ts acc:List bW),b_ bd bW.tags acc->(ts.Pairwise λa b=>a.tags≠b.tags)->(∀t∈ts,∀a∈acc,a.tags≠t.tags)->b_ bd bW.tags (ts.foldl (λl t=>dq bd bW.tags t l) acc)/\∀y,y∈ts.foldl (λl t=>dq bd bW.tags t l) acc↔y∈ts\/y∈acc
 |[],acc,h,_,_=>⟨h,by simp⟩
 |t::ts,acc,h,hp,hd=>by
  obtain⟨h1,h2⟩:=List.pairwise_cons.1 hp
  have hn:aL bd bW.tags t.tags acc=none:=(bz eh).2 λa ha=>hd t (by simp) a ha;have Cz:dq bd bW.tags t acc=aZ bd bW.tags t acc:=by rw[dq,hn];rfl
  simp only[foldl_cons];rw[Cz];obtain⟨r1,r2⟩:=Ak ts _ (h.ins eh t) h2 λt' zD a ha=>by
   rcases(bh eh).1 ha with rfl|⟨ha,_⟩
   ·exact h1 t' zD
   ·exact hd t' (by simp[zD]) a ha
  refine⟨r1,λy=>?_⟩;rw[r2,bh eh,mem_cons];constructor
  ·rintro(h|rfl|⟨h,_⟩)
   ·exact .inl (.inr h)
   ·exact .inl (.inl rfl)
   ·exact .inr h
  ·rintro((rfl|h)|h)
   ·exact .inr (.inl rfl)
   ·exact .inl h
   ·exact .inr (.inr ⟨h,hd t (by simp) y h⟩)
theorem jG{ts:List bW}(h:ts.Pairwise λa b=>a.tags≠b.tags):b_ bd bW.tags (iY ts)/\∀y,y∈iY ts↔y∈ts:=by
 obtain⟨h1,h2⟩:=Ak ts [] Pairwise.nil h (by simp);exact⟨h1,λy=>by unfold iY;rw[h2 y];simp⟩
theorem GY{ts l:List bW}(h:ts.Pairwise λa b=>a.tags≠b.tags)(hl:b_ bd bW.tags l)(hm:∀y,y∈l↔y∈ts):l=iY ts:=
 b_.ext eh hl (jG h).1 λy=>(hm y).trans ((jG h).2 y).symm
theorem JA{ts us:List bW}(h:ts.Pairwise λa b=>a.tags≠b.tags)(hp:ts.Perm us):iY ts=iY us:=by
 have h2:us.Pairwise λa b=>a.tags≠b.tags:=hp.pairwise h λ{a b} yG e=>yG e.symm;exact GY h2 (jG h).1 λy=>((jG h).2 y).trans hp.mem_iff
theorem rb{ts:List bW}(h:ts.Pairwise λa b=>a.tags≠b.tags):(iY ts).length=ts.length:=by
 have h1:=(jG h).1;have hn:∀l:List bW,(l.Pairwise λa b=>a.tags≠b.tags)->(l.map bW.tags).Nodup:=λl hl=>by rw[List.Nodup,pairwise_map];exact hl
 have h2:(iY ts).Pairwise λa b=>a.tags≠b.tags:=h1.imp λ{a b} yG e=>by
  rw[e]at yG;exact absurd yG (by rw[eh.self];omega)
 have:=NF (hn _ h2) (hn _ h) λx=>by
  rw[mem_map,mem_map];constructor
  ·rintro⟨t,ht,e⟩;exact⟨t,((jG h).2 t).1 ht,e⟩
  ·rintro⟨t,ht,e⟩;exact⟨t,((jG h).2 t).2 ht,e⟩
 simpa using this
structure Mt where
 name:ByteArray
 tags:List Int
@[reducible] def Mt.pv(m:Mt):List PV:=[pS m.name,.list 1 .sh (m.tags.map gq)]
def mi(es:List aj)(p:Prod):List Mt:=(iY (aE es p.conds)).map λt=>⟨p.name,t.tags⟩
def allM(es:List aj)(ps:List Prod):List Mt:=ps.flatMap (mi es)
theorem Da:∀(xs acc:List RK.El),(xs.foldl (λl x=>dq RK.ck RK.key x l) acc).map Subtype.val=(xs.map Subtype.val).foldl (λl t=>dq bd bW.tags t l) (acc.map Subtype.val)
 |[],_=>rfl
 |x::xs,acc=>by
  simp only[foldl_cons,map_cons]
  rw[Da xs]
  congr 1
  unfold dq
  have e1:aL bd bW.tags x.1.tags (acc.map Subtype.val)=(aL RK.ck RK.key (RK.key x) acc).map Subtype.val:=nG (f:=(Subtype.val:RK.El->bW))
  have e2:aZ bd bW.tags x.1 (acc.map Subtype.val)=(aZ RK.ck RK.key x acc).map Subtype.val:=lL (f:=(Subtype.val:RK.El->bW)) (x:=x);rw[e1,e2,Option.isSome_map];split<;>rfl
section
variable {n:Nat} {x:NC} {es:List aj} {ms:dg} {ids:pq} {T:Tree} {tk:Path->List bW} {ct:Path->List Nat} {fr:Path->List bW} {mn:Path->List Nat} {ps:List Prod} {w:Nat}
theorem XX(Bj:∀e∈es,1<=e.tag/\e.tag<9223372036854775808){p:Path}(hp:bX p)(hl:p.length<=1000):∀t∈aE es p,Gb t.tags:=λt ht=>by
 refine⟨by have:=(wM (es:=es) hp t ht).2;omega,λx hx=>?_⟩;obtain⟨e,he,rfl⟩:=Jq p t ht x hx;have:=Bj e he;omega
theorem cOf(s:ByteArray){p:Prod}(Bj:∀e∈es,1<=e.tag/\e.tag<9223372036854775808)(hp:qL p)(hD:p.conds∈T.D)(gf:tk p.conds=aE es p.conds)(Bi:(aE es p.conds).length<=1024)(f1 f2 f3:Fl){L:List aR}{μ:Mem}(hO:Ow (cg T tk ct fr mn::L) μ){K:Kq}
  (hk:∀f μ',Ow (cg T tk ct fr mn::L) μ'->K (.list 2 f (((iY (aE es p.conds)).map λt=>(⟨s,t.tags⟩:Mt)).map Mt.pv)) μ'):
  aa prog 76 [pS s,.agg [pS p.name,.list 7 f1 (p.conds.map ae.pv),.list 19 f2 (p.bk.map cT.pv),.list 1 f3 ((dE T.B p.conds).map λb=>[pP b 0])]] μ K:=by
 obtain⟨_,_,_,_,_,g1,g2⟩:=hp.facts;obtain⟨w1,w2⟩:=Ek T.B g1 (by omega);have aI:=XX (p:=p.conds) Bj hp.sk (by omega);refine O_.c λb2 qv=>?_;have O1:=hO.new 9 [pS s] qv;refine⟨w2,_,w1,_,rfl,?_⟩;dsimp only[nP,nn,aN];obtain⟨F,hF⟩:=cg.rd hD (Ow.swap O1);refine⟨_,_,aJ hF (by simp),?_⟩;dsimp only[gz];rw[gf];let xs:List RK.El:=(aE es p.conds).attach.map λt=>⟨t.1,aI t.1 t.2⟩;have hxs:xs.map Subtype.val=aE es p.conds:=by
  show((aE es p.conds).attach.map λt=>(⟨t.1,aI t.1 t.2⟩:RK.El)).map Subtype.val=_;rw[map_map];exact List.attach_map_subtype_val _
 have Re:(aE es p.conds).map bW.pv=xs.map RK.pv:=by rw[<- hxs,map_map];rfl
 have hxl:xs.length=(aE es p.conds).length:=by rw[<- hxs];simp
 rw[Re];refine RK.gj O1 _ xs (by omega) λu b h2=>⟨_,rfl,λb6 Fo=>?_⟩;generalize hS:xs.foldl (λl x=>dq RK.ck RK.key x l) []=S at h2;have hSv:S.map Subtype.val=iY (aE es p.conds):=by
  rw[<- hS,Da,hxs];rfl
 have Xm:S.length<=1024:=by
  have h3:S.length=(iY (aE es p.conds)).length:=by rw[<- hSv];simp
  have hle:∀(ts acc:List bW),(ts.foldl (λl t=>dq bd bW.tags t l) acc).length<=acc.length+ts.length:=by
   intro ts;induction ts with
   |nil=>intro acc;simp
   |cons t ts ih=>
    intro acc;have h4:=ih (dq bd bW.tags t acc);have h5:=Ay (ck:=bd) (key:=bW.tags) (x:=t) (L:=acc);simp only[foldl_cons,length_cons];omega
  have h6:=hle (aE es p.conds) [];unfold iY at h3;simp only[List.length_nil]at h6;omega
 have h3:Ow (RK.At b S::jy b6 48 2 []::Pt b2 9 [pS s]::cg T tk ct fr mn::L) _:=Ow.ord [1,0] (jy.new (h2.new 48 [.list 2 .nil []] Fo));refine(RK.pn b).call ⟨_,_,_,rfl,?_⟩;refine bu.own (RK.dY b S (by omega)) h3 (λk u=>Ow (jy b6 48 2 (((S.take k).map λt=>(⟨s,t.1.tags⟩:Mt)).map Mt.pv)::Pt b2 9 [pS s]::cg T tk ct fr mn::L) u) (λ_ _=>False) (λk=>eC.own _) (λ_ _ _ _ h=>h.elim) (λμ' h'=>h'.drop) ?_ ?_ (λ_ _ h=>h.elim)
 ·rintro k eK u2 R h4 ca _;have bZ:k<S.length:=by simpa using eK
  have hle:=(S[k]).2.le;rw[getElem_map];obtain⟨f,ho⟩:=jy.open_ 0 h4 rfl;refine⟨_,_,_,_,rfl,_,_,ho.rd 0 rfl (by simp),_,ho.rd 2 rfl (by simp),?_⟩;refine aT.go (fl:=.nil) trivial (by simp;omega) (by simp;omega) (λjZ u4 _ fE=>?_) (λ_ b c h=>by cases h);have ho2:Ow (Pt b6 48 [.list 2 f (((S.take k).map λt=>(⟨s,t.1.tags⟩:Mt)).map Mt.pv)]::e_ f (((S.take k).map λt=>(⟨s,t.1.tags⟩:Mt)).map Mt.pv).length 2::Pt b2 9 [pS s]::cg T tk ct fr mn::L) u4:=Ow.mono (λb o hb=>(fE b o hb id).1) ho;refine Ow.app ho2.swap rfl (by simp;omega) (by simp;omega) λf2 u5 h5=>h5.st 1 rfl (by simp) λu6 h6=>ca _ ?_;have h7:=jy.shut h6 (by simp only[length_append,length_cons,List.length_nil]);have e:((S.take (k+1)).map λt=>(⟨s,t.1.tags⟩:Mt)).map Mt.pv=((S.take k).map λt=>(⟨s,t.1.tags⟩:Mt)).map Mt.pv++[[pS s,.list 1 .sh ([]++S[k].1.tags.map λx=>[pI x])]]:=by
   rw[eP bZ,map_append];rfl
  rw[e];exact h7
 ·intro u2 h4;rw[length_map,take_length]at h4;dsimp only[PK];obtain⟨f,hf⟩:=jy.rd 0 h4 rfl;refine⟨_,_,hf,?_⟩;have e:(S.map λt=>(⟨s,t.1.tags⟩:Mt))=(iY (aE es p.conds)).map λt=>(⟨s,t.tags⟩:Mt):=by rw[<- hSv,map_map];rfl
  rw[e];exact hk f u2 h4.drop.drop
end
theorem ZI{α β:Type}(f:α->List β):∀(l:List α) (i:Nat) (hi:i<l.length) (k:Nat) (hk:k<(f l[i]).length),∃h:((l.take i).flatMap f).length+k<(l.flatMap f).length,(l.flatMap f)[((l.take i).flatMap f).length+k]=(f l[i])[k]:=by
 intro l i hi k hk;have e:l.flatMap f=(l.take i).flatMap f++(f l[i]++(l.drop (i+1)).flatMap f):=by
  rw[<- flatMap_cons,<- List.flatMap_append];congr 1;rw[<- List.drop_eq_getElem_cons hi,List.take_append_drop]
 have h:((l.take i).flatMap f).length+k<(l.flatMap f).length:=by rw[e,length_append,length_append];omega
 refine⟨h,?_⟩;have h2:(l.flatMap f)[((l.take i).flatMap f).length+k]?=some (f l[i])[k]:=by
  rw[e,List.getElem?_append_right (by omega),show((l.take i).flatMap f).length+k-((l.take i).flatMap f).length=k from by omega,List.getElem?_append_left hk,getElem?_eq_getElem hk]
 rw[getElem?_eq_getElem h]at h2;simpa using h2
section
variable {n:Nat} {x:NC} {es:List aj} {ps:List Prod} {w:Nat}
theorem wJ.len{ms:dg}{ids:pq}{T:Tree}{tk:Path->List bW}{ct:Path->List Nat}{W:Path->Prop}(h:wJ x T es ms ids tk ct ps w W){p:Path}(hp:p∈T.D):(aE es p).length<=1024:=by
 obtain⟨t1,t2⟩:=h.tb;by_cases e:p=[]
 ·subst e;simp[aE]
 ·obtain⟨q,d,rfl⟩:=nW e;have h4:=h.core.dN.le q d hp 0;rw[jt,<- dh]at h4;omega
theorem XC(t m:Int){L:List aR}{μ:Mem}(hO:Ow L μ){K:Kq}
  (h0:¬(1<=t/\t<=1024/\1<=m/\m<=1024)->K (.az [.raw (.pointer none),pI 1]) μ)
  (h1:1<=t/\t<=1024/\1<=m/\m<=1024->∀n x μ',x.T=t->x.M=m->Ow (gB n x [] [] 0::L) μ'->K (.az [pP n 0,pI 0]) μ'):
  aa prog 52 [pI t,pI m] μ K:=by
 refine Lm.c ?_;refine ab.mk (λh=>h0 λh'=>?_) (λg1=>ab.mk (λh=>h0 λh'=>?_) (λg2=>ab.mk (λh=>h0 λh'=>?_) (λg3=>ab.mk (λh=>h0 λh'=>?_) (λg4 b25 ahr=>?_))))
 ·have:t<1:=by simpa using h
  omega
 ·have:t>1024:=by simpa using h
  omega
 ·have:m<1:=by simpa using h
  omega
 ·have:m>1024:=by simpa using h
  omega
 have hb:1<=t/\t<=1024/\1<=m/\m<=1024:=by
  have a1:¬t<1:=by simpa using g1
  have a2:¬t>1024:=by simpa using g2
  have a3:¬m<1:=by simpa using g3
  have a4:¬m>1024:=by simpa using g4
  omega
 let T:Tree:=⟨[[]],λ_=>b25,λ_=>[],λ_=>0,λ_=>[],λ_=>(none,0)⟩;have O1:=hO.new 156 (gz T (λ_=>[En]) (λ_=>[]) (λ_=>[]) (λ_=>[]) [] ⟨.nil,.nil,.nil,.nil,.nr,.nil,.nil,.nil⟩).pv ahr;have mkN:∀ν,Ow (Pt b25 156 (gz T (λ_=>[En]) (λ_=>[]) (λ_=>[]) (λ_=>[]) [] ⟨.nil,.nil,.nil,.nil,.nr,.nil,.nil,.nil⟩).pv::L) ν->Ow (cg T (λ_=>[En]) (λ_=>[]) (λ_=>[]) (λ_=>[])::L) ν:=λν hν0=>by
  refine cg.in_ (T:=T) (p:=[]) (A:=[]) (B:=[]) rfl (F:=⟨.nil,.nil,.nil,.nil,.nr,.nil,.nil,.nil⟩) ?_;refine hν0.tail λν hν=>?_;have h2:Ow (cA 131 1 (.raw (.slice none 0 0)) []::L) ν:=cA.nil _ _ hν;exact h2.tail λν2 h3=>⟨M0,ν2,Mem.sT ν2,(Mem.Eh ν2).symm,trivial,h3⟩
 have O2:=mkN _ O1;refine aee O2 λu al h2=>⟨_,rfl,?_⟩;refine RT.gj h2 .nil [] (by simp) λu1 el h3=>⟨_,rfl,?_⟩;refine RI.BE h3 λu2 id h4=>⟨_,rfl,?_⟩;refine RP.BE h4 λu3 pr h5=>⟨_,rfl,λb31 ahq=>?_⟩;have O3:=h5.new 137 [pI t,pI m,pP b25 0,pP al 0,pP el 0,pP id 0,pP pr 0] ahq;let x:NC:=⟨t,m,b25,al,el,id,pr⟩;refine h1 hb b31 x _ rfl rfl (gB.shut (T:=T) (ms:=[]) (ids:=[]) (tk:=λ_=>[En]) (ct:=λ_=>[]) (fr:=λ_=>[]) (mn:=λ_=>[]) ?_ (by show((cS [] []:Nat):Int)<=m;unfold cS;simp;omega) ?_)
 ·have tz:∀(p:Path) (c:ae),¬p++[c]∈T.D:=λp c h=>by
   have:p++[c]∈[([]:Path)]:=h;simp at this
  refine⟨⟨⟨by show[([]:Path)].Nodup;simp,by show[]∈[([]:Path)];simp,λp hp c=>⟨λh=>(by cases h),λh=>absurd h (tz p c)⟩,λp hp=>List.nodup_nil,λp c h=>absurd h (tz p c),λp hp=>?_,λp hp=>?_,λp hp=>?_,λp c h=>absurd h (tz p c),rfl,by show 1<=5000;omega,λp hp j hj=>by cases hj⟩,⟨dr.nil,λk _=>rfl⟩,λp c h=>absurd h (tz p c),⟨λp hp=>?_,λp c h=>absurd h (tz p c),λp c h=>absurd h (tz p c)⟩⟩,λr hr Mh _=>?_,⟨Pairwise.nil,by simp,by simp,by simp,by simp⟩,rfl,by show 1<=t/\t<=1024;omega,by show 1<=m/\m<=1024;omega,Pairwise.nil,by simp,by simp,λp hp=>rfl,by simp,by simp,by show 1<=1+16*0;omega⟩
  ·have:p∈[([]:Path)]:=hp;simp at this;subst this;simp
  ·have:p∈[([]:Path)]:=hp;simp at this;subst this;trivial
  ·have:p∈[([]:Path)]:=hp;simp at this;subst this;simp[ah]
  ·have:p∈[([]:Path)]:=hp;simp at this;subst this;rfl
  ·have:r∈[([]:Path)]:=hr;simp at this;exact absurd this Mh
 ·have h6:Ow (Pt b31 137 x.pv::bB al [] []::RI.cr id []::cg T (λ_=>[En]) (λ_=>[]) (λ_=>[]) (λ_=>[])::RP.cr pr []::RT.At el []::L) _:=Ow.ord [0,3,1,2,0,0] O3;have h7:Ow (Pt b31 137 x.pv::bB al [] []::gC id []::cg T (λ_=>[En]) (λ_=>[]) (λ_=>[]) (λ_=>[])::RP.cr pr []::RT.At el []::L) _:=h6.tail λ_ h=>h.tail λ_ h=>h.imp λν hν=>Ow.one hν;exact Ow.pack (L1:=[Pt b31 137 x.pv,bB al [] [],gC id []]) h7
@[reducible] def Qj(n:Nat):PV:=.fn (.func 120) [] [.bj [pP n 0] 0]
theorem SF(n:Nat):Pure prog 58 [pP n 0] (Qj n):=au.of (Cc.c rfl)
theorem EC(hw:w<=1000):F_ prog (Qj n) ((allM es ps).map λm=>[.agg m.pv]) (gB n x es ps w):=by
 refine F_.mk λfy ya yb J S μ hy hO cO=>?_;show aa _ _ [.fn fy ya yb,.bj [pP n 0] 0] _ _;obtain⟨T,ms,ids,tk,ct,fr,mn,⟨hR,mV⟩,h1⟩:=gB.open_ hO;have oA:ps.length<=1000:=Nat.le_trans hR.JL hw;refine x_.c λb2 qv=>⟨_,rfl,?_⟩;have O1:=h1.new 126 [.fn fy ya yb] qv;dsimp only[nP,nn,aN];refine⟨_,aJ (an.xp (x:=x) (es:=es) (ms:=ms) (ids:=ids) O1 (by simp)) (by simp),(RP.vK x.pr).call ⟨_,_,_,rfl,?_⟩⟩;have pG:((ps.map (iw T.B)).map λy=>[RP.cY y.1,RP.gP y.2]).length=ps.length:=by simp
 have shut:∀{u:Mem} {M:List aR},Ow (fQ n x es ms ids T tk ct fr mn ps M) u->Ow (gB n x es ps w::M) u:=λh=>gB.shut hR mV h;refine bu.own (RP.gn x.pr (ps.map (iw T.B)) (by simp;omega)) (Ow.ord [3] O1)
  (λi u=>Ow (fQ n x es ms ids T tk ct fr mn ps [Pt b2 126 [.fn fy ya yb],J (allM es (ps.take i)).length]) u) (λcd u=>cd=.ret/\Ow [gB n x es ps w,S] u) (λi=>eC.own _) (λcd=>eC.and (eC.own _)) (λμ' h'=>?_) ?_ ?_ ?_
 ·have h2:Ow (RP.cr x.pr (ps.map (iw T.B))::Pt b2 126 [.fn fy ya yb]::an n x es ms ids::cg T tk ct fr mn::RT.At x.el es::[J 0]) μ':=h';exact Ow.ord [2,2,0,1,0] h2
 ·rintro i Kn u R h2 ca iE;have hi:i<ps.length:=by simpa using Kn
  have hm:=getElem_mem hi;have aI:=hR.Gt _ hm;have hD:=hR.pD _ hm;obtain⟨_,_,_,_,_,g1,g2⟩:=aI.facts;have Bi:=hR.len hD;rw[getElem_map,getElem_map];refine⟨_,_,_,_,_,_,_,_,rfl,?_⟩;refine cOf ps[i].name hR.tags aI hD (hR.core.dN.tok _ hD) Bi _ _ _ (Ow.swap h2) λf u3 h3=>⟨_,_,rfl,?_⟩;have aQ:=lj (ym hR.core.use.inv.wC) ps[i].conds;have Zb:((iY (aE es ps[i].conds)).map λt=>(⟨ps[i].name,t.tags⟩:Mt))=mi es ps[i]:=rfl;rw[Zb];have ac5:(mi es ps[i]).length<=1024:=by unfold mi;rw[length_map,rb aQ];exact Bi
  have adC:(allM es (ps.take (i+1))).length=(allM es (ps.take i)).length+(mi es ps[i]).length:=by unfold allM;rw[FB hi,length_append]
  refine ak.each (n:=(mi es ps[i]).length) (by omega) (λk u=>Ow (fQ n x es ms ids T tk ct fr mn ps [Pt b2 126 [.fn fy ya yb],J ((allM es (ps.take i)).length+k)]) u) (Ow.swap h3) ?_ ?_
  ·rintro k u4 next hk h4 av
   obtain⟨bI,nE⟩:∃h:(allM es (ps.take i)).length+k<(allM es ps).length,(allM es ps)[(allM es (ps.take i)).length+k]=(mi es ps[i])[k]:=ZI (mi es) ps i hi k hk;refine ab.t (by simpa using hk) ⟨by omega,_,aC hk,_,_,_,rfl,_,_,_,h4.rd 4 rfl (by simp),?_⟩;have fC:∀ν,J ((allM es (ps.take i)).length+k) ν->bJ prog (.fn fy ya yb) [.agg (mi es ps[i])[k].pv] ν λv μ'=>(v=pB true/\Ow [J ((allM es (ps.take i)).length+k+1)] μ')\/(v=pB false/\Ow [S] μ'):=λν hν=>by
    have h:=cO ((allM es (ps.take i)).length+k) (by rw[length_map];exact bI) ν hν;rw[getElem_map]at h;rw[nE]at h;exact h
   refine Ow.yQ (Ow.ord [5] h4) fC λv u5 h5=>?_;rcases h5.sR with⟨rfl,h6⟩|⟨rfl,h6⟩
   ·exact⟨_,rfl,ab.f rfl (av _ (Ow.ord [1,1,1,1,1,0] h6))⟩
   ·refine⟨_,rfl,ab.t rfl (iE _ _ ⟨rfl,?_⟩)⟩;have h7:Ow (fQ n x es ms ids T tk ct fr mn ps [S]) u5:=(Ow.ord [1,1,1,1,1,0] h6).tail λ_ h=>h.tail λ_ h=>h.tail λ_ h=>h.tail λ_ h=>h.drop;exact shut h7
  ·rintro u4 next h4
   refine ab.f (by simp) (ca _ ?_);rw[adC];exact h4
 ·intro u h2;rw[pG,take_length]at h2;dsimp only[PK];rw[length_map];exact .inl (shut (h2.tail λ_ h=>h.tail λ_ h=>h.tail λ_ h=>h.tail λ_ h=>h.drop))
 ·rintro cd u ⟨rfl,h⟩;exact .inr h
end
def zL(es:List aj)(l:List ae):List Nat:=(range l.length).flatMap λi=>mN es (l.take (i+1))
def jM(l:List Nat):Nat:=l.foldl max 0
theorem foldl_max(l:List Nat)(a:Nat):l.foldl max a=max a (jM l):=by
 unfold jM;induction l generalizing a with
 |nil=>simp
 |cons b l ih=>simp only[foldl_cons];rw[ih (max a b),ih (max 0 b)];omega
theorem ql(a b:List Nat):jM (a++b)=max (jM a) (jM b):=by
 conv=>lhs;unfold jM
 rw[foldl_append,foldl_max];rfl
theorem Hz(a:Nat):jM [a]=a:=by simp[jM]
theorem UK{l:List Nat}{b:Nat}(h:∀x∈l,x<=b):jM l<=b:=by
 induction l with
 |nil=>simp[jM]
 |cons a l ih=>
  have h1:=h a (by simp);have h2:=ih λx hx=>h x (by simp[hx]);have:jM (a::l)=max (jM [a]) (jM l):=ql [a] l;rw[this,Hz];omega
section
variable {n:Nat} {x:NC} {es:List aj} {ps:List Prod} {w:Nat}
theorem XD{L:List aR}{μ:Mem}(hO:Ow (gB n x es ps w::L) μ){K:Kq}(hk:∀μ',Ow (gB n x es ps w::L) μ'->K (pI ((ps.length:Nat):Int)) μ'):aa prog 57 [pP n 0] μ K:=by
 obtain⟨T,ms,ids,tk,ct,fr,mn,⟨hR,mV⟩,h1⟩:=gB.open_ hO;refine Cb.c ⟨_,aJ (an.xp (x:=x) (es:=es) (ms:=ms) (ids:=ids) h1 (by simp)) (by simp),?_⟩;refine RP.ad_ (l:=ps.map (iw T.B)) (Ow.ord [2] h1) ⟨_,rfl,?_⟩;rw[length_map];exact hk μ hO
end
structure cx where
 tags:List Int
 binds:List aP.Bind
 at_:Int
@[reducible] def cx.pv(t:cx):List PV:=[.list 1 .sh (t.tags.map gq),.list 4 .sh (t.binds.map Bind.pv),pI t.at_]
def cx.tok(t:cx):bW:=⟨t.tags,t.binds⟩
def la(ts:List cx):List (List aP.Bind):=ts.map cx.binds
def bA(es:List aj)(c:ae)(ts:List cx):List cx:=
 if c.kind=1 then ts.flatMap λt=>(aX c t.binds es).map λx=>⟨t.tags++[x.1.tag],x.2,t.at_⟩else ts.filter λt=> !(iQ es c t.binds).isEmpty
def cq(es:List aj)(l:List ae)(ts:List cx):List cx:=l.foldl (λts c=>bA es c ts) ts
theorem ra(es:List aj)(c:ae)(a b:List cx):bA es c (a++b)=bA es c a++bA es c b:=by
 unfold bA;split
 ·rw[List.flatMap_append]
 ·rw[List.filter_append]
theorem Ac(es:List aj):∀(l:List ae) (a b:List cx),cq es l (a++b)=cq es l a++cq es l b
 |[],_,_=>rfl
 |c::l,a,b=>by
  show cq es l (bA es c (a++b))=cq es l (bA es c a)++cq es l (bA es c b)
  rw[ra];exact Ac es l _ _
theorem GW(es:List aj)(l:List ae)(c:ae)(ts:List cx):cq es (l++[c]) ts=bA es c (cq es l ts):=by unfold cq;rw[foldl_append];rfl
theorem mB{es:List aj}{l:List ae}{i:Nat}(hi:i<l.length)(ts:List cx):cq es (l.take (i+1)) ts=bA es l[i] (cq es (l.take i) ts):=by
 have e:l.take (i+1)=l.take i++[l[i]]:=by rw[take_add_one,getElem?_eq_getElem hi];rfl
 rw[e,GW]
theorem Vx{es:List aj}{c:ae}(hk:c.kind≠1)(b:List aP.Bind):iQ es c b=if(iQ es c b).isEmpty then[]else[b]:=by
 rw[lP,if_neg hk]
 repeat' split
 all_goals first|rfl|simp_all
theorem pR(es:List aj)(c:ae)(ts:List cx):la (bA es c ts)=(la ts).flatMap λb=>iQ es c b:=by
 induction ts with
 |nil=>unfold bA la;simp
 |cons t ts ih=>
  have e:t::ts=[t]++ts:=rfl;rw[e,ra];unfold la at ih |-;rw[map_append,ih,map_append,List.flatMap_append];congr 1;unfold bA;by_cases hk:c.kind=1
  ·rw[if_pos hk];simp only[flatMap_cons,List.flatMap_nil,append_nil,map_map,map_cons,map_nil];rw[lP,if_pos hk];rfl
  ·rw[if_neg hk];simp only[map_cons,map_nil,flatMap_cons,List.flatMap_nil,append_nil,filter_cons,filter_nil];rw[Vx hk t.binds];split<;>split<;>simp_all
theorem ix(es:List aj):∀(l:List ae) (ts:List cx),la (cq es l ts)=jz es l (la ts)
 |[],_=>rfl
 |c::l,ts=>by
  show la (cq es l (bA es c ts))=_
  rw[ix es l,pR];rfl
theorem Nm(es:List aj)(c:ae)(ts:List cx):(bA es c ts).map cx.tok=stepT es c (ts.map cx.tok):=by
 unfold bA stepT;by_cases hk:c.kind=1
 ·rw[if_pos hk,if_pos hk,List.map_flatMap,List.flatMap_map];congr 1;funext t;rw[map_map];rfl
 ·rw[if_neg hk,if_neg hk,List.filter_map];rfl
theorem Ab(es:List aj):∀(l:List ae) (ts:List cx),(cq es l ts).map cx.tok=l.foldl (λts c=>stepT es c ts) (ts.map cx.tok)
 |[],_=>rfl
 |c::l,ts=>by
  show(cq es l (bA es c ts)).map _=_
  rw[Ab es l,Nm];rfl
def Cr:cx:=⟨[],[],0⟩
theorem mz(es:List aj)(l:List ae):(cq es l [Cr]).map cx.tok=aE es l:=Ab es l _
theorem PQ{es:List aj}{c:ae}{ts:List cx}{i:Int}(h:∀t∈ts,t.at_=i):∀t∈bA es c ts,t.at_=i:=by
 intro t ht;unfold bA at ht;split at ht
 ·obtain⟨t',h1,h2⟩:=mem_flatMap.1 ht;obtain⟨x,_,rfl⟩:=mem_map.1 h2;exact h t' h1
 ·exact h t (mem_filter.1 ht).1
theorem Db{es:List aj}:∀{l:List ae} {ts:List cx} {i:Int},(∀t∈ts,t.at_=i)->∀t∈cq es l ts,t.at_=i
 |[],_,_,h=>h
 |c::l,ts,i,h=>Db (l:=l) (PQ h)
def oz(k:Nat):List cx->List cx
 |[]=>[]
 |t::ts=>⟨[],t.binds,(k:Nat)⟩::oz (k+1) ts
theorem ow:∀(k:Nat) (ts:List cx),la (oz k ts)=la ts
 |_,[]=>rfl
 |k,t::ts=>by
  have:=ow (k+1) ts
  unfold la at this |-;simp only[oz,map_cons,this]
theorem Bh:∀(k:Nat) (ts:List cx),(oz k ts).length=ts.length
 |_,[]=>rfl
 |k,t::ts=>by simp only[oz,length_cons,Bh (k+1) ts]
theorem Fa:∀(k:Nat) (ts:List cx),∀t∈oz k ts,((k:Nat):Int)<=t.at_/\t.tags=[]
 |_,[],_,h=>by simp[oz]at h
 |k,t::ts,x,h=>by
  simp only[oz,mem_cons]at h
  rcases h with rfl|h
  ·exact⟨Int.le_refl _,rfl⟩
  ·have:=Fa (k+1) ts x h
   exact⟨by omega,this.2⟩
def DO(l:List cx)(i:Int):Bool:=l.any λt=>t.at_ == i
theorem Bp(es:List aj)(l:List ae):∀(ts:List cx) (k i:Nat) (h:i<ts.length),DO (cq es l (oz k ts)) ((k+i:Nat):Int)= !(jz es l [ts[i].binds]).isEmpty
 |[],_,_,h=>by simp at h
 |t::ts,k,i,h=>by
  have e:oz k (t::ts)=[⟨[],t.binds,(k:Nat)⟩]++oz (k+1) ts:=rfl
  have h1:∀x∈cq es l [(⟨[],t.binds,(k:Nat)⟩:cx)],x.at_=(k:Nat):=Db (by simp);have wH:∀(l:List ae) (k:Nat) (us:List cx),(∀t∈us,((k:Nat):Int)<=t.at_)->∀t∈cq es l us,((k:Nat):Int)<=t.at_:=by
   intro l k;induction l with
   |nil=>intro us h;exact h
   |cons c l ih=>
    intro us h;refine ih _ λt ht=>?_;have ht:t∈bA es c us:=ht;unfold bA at ht;split at ht
    ·obtain⟨t',h1,h2⟩:=mem_flatMap.1 ht;obtain⟨x,_,rfl⟩:=mem_map.1 h2;exact h t' h1
    ·exact h t (mem_filter.1 ht).1
  rw[e,Ac];unfold DO;rw[List.any_append];cases i with
  |zero=>
   have h2:(cq es l (oz (k+1) ts)).any (λt=>t.at_ == ((k+0:Nat):Int))=false:=by
    rw[List.any_eq_false];intro x hx;have:=wH l (k+1) _ (λt ht=>(Fa (k+1) ts t ht).1) x hx;simp only[beq_iff_eq];omega
   rw[h2,Bool.or_false];have h3:=ix es l [(⟨[],t.binds,(k:Nat)⟩:cx)];have h4:la [(⟨[],t.binds,(k:Nat)⟩:cx)]=[t.binds]:=rfl;rw[h4]at h3;simp only[List.getElem_cons_zero];rw[<- h3];cases hs:cq es l [(⟨[],t.binds,(k:Nat)⟩:cx)]with
   |nil=>rfl
   |cons x r=>
    rw[hs]at h1;have:=h1 x (by simp);simp[la,this]
  |succ i=>
   have h2:(cq es l [(⟨[],t.binds,(k:Nat)⟩:cx)]).any (λt=>t.at_ == ((k+(i+1):Nat):Int))=false:=by
    rw[List.any_eq_false];intro x hx;have:=h1 x hx;simp only[beq_iff_eq];omega
   rw[h2,Bool.false_or];have:=Bp es l ts (k+1) i (by simpa using h);unfold DO at this;rw[show k+(i+1)=k+1+i from by omega,this];rfl
theorem GP{α β:Type}(f:β->Nat)(g:α->List β):∀l:List α,((l.flatMap g).map f).sum=(l.map λa=>((g a).map f).sum).sum
 |[]=>rfl
 |x::l=>by rw[flatMap_cons,map_append,List.sum_append,GP f g l];rfl
theorem FN(es:List aj):∀(cs:List ae) (rows:List (List aP.Bind)) (j:Nat),cL es cs rows j=(rows.map λb=>cL es cs [b] j).sum
 |[],rows,j=>by simp only[cL];induction rows with
  |nil=>rfl
  |cons b rows ih=>simp only[map_cons,sum_cons,<- ih]
 |c::cs,rows,j=>by
  simp only[cL]
  by_cases h:j<aO c
  ·simp only[if_pos h,map_cons,map_nil,sum_cons,List.sum_nil,Nat.add_zero]
  ·simp only[if_neg h]
   rw[FN es cs,GP]
   congr 1
   refine map_congr_left λb _=>?_
   rw[FN es cs ([b].flatMap _)]
   simp
theorem No{es:List aj}{c:ae}{ts:List cx}(hk:c.kind≠1):(bA es c ts).length<=ts.length:=by
 unfold bA;rw[if_neg hk];exact List.length_filter_le _ _
theorem Np(es:List aj)(c:ae)(ts:List cx):(bA es c ts).length=((la ts).flatMap λb=>iQ es c b).length:=by
 rw[<- pR];unfold la;simp
theorem sP{es:List aj}{l:List ae}{i:Nat}(hi:i<l.length)(ts:List cx):(cq es (l.take (i+1)) ts).length=dm es l[i] (jz es (l.take i) (la ts)) 0:=by
 rw[mB hi,Np,ix,wO]
theorem Af{es:List aj}{c:ae}{ts:List cx}{m:Nat}(h:∀t∈ts,t.tags.length<=m):∀t∈bA es c ts,t.tags.length<=m+1:=by
 intro t ht;unfold bA at ht;split at ht
 ·obtain⟨t',h1,h2⟩:=mem_flatMap.1 ht;obtain⟨x,_,rfl⟩:=mem_map.1 h2;have:=h t' h1;simp;omega
 ·exact Nat.le_succ_of_le (h t (mem_filter.1 ht).1)
theorem pQ{es:List aj}:∀{l:List ae} {ts:List cx} {m:Nat},(∀t∈ts,t.tags.length<=m)->∀t∈cq es l ts,t.tags.length<=m+l.length
 |[],_,_,h=>h
 |c::l,ts,m,h=>λt ht=>by
  have:=pQ (l:=l) (Af h) t ht
  simp only[length_cons];omega
theorem pM(es:List aj)(l:List ae):(aE es l).map bW.binds=jz es l [[]]:=by
 have h1:=mz es l;have h2:=ix es l [Cr];rw[<- h1,map_map];exact h2
theorem BD(es:List aj)(c:ae)(ts:List bW)(j:Nat):du es c ts j=dm es c (ts.map bW.binds) j:=by
 unfold du dm;rw[map_map];rfl
theorem FO(es:List aj)(B:Int):∀(l:List ae) (rows:List (List aP.Bind)),(∃j,B<((cL es l rows j:Nat):Int))↔B<0\/∃(i:Nat) (h:i<l.length) (j:Nat),B<((dm es l[i] (jz es (l.take i) rows) j:Nat):Int)
 |[],rows=>by
  constructor
  ·rintro⟨j,h⟩;simp only[cL]at h;exact .inl h
  ·rintro(h|⟨i,h,_⟩)
   ·exact⟨0,h⟩
   ·simp at h
 |c::cs,rows=>by
  have ih:=FO es B cs (rows.flatMap λb=>iQ es c b)
  constructor
  ·rintro⟨j,h⟩;simp only[cL]at h;by_cases hj:j<aO c
   ·rw[if_pos hj]at h;exact .inr ⟨0,by simp,j,h⟩
   ·rw[if_neg hj]at h;rcases ih.1 ⟨_,h⟩with h|⟨i,hi,j',h⟩
    ·exact .inl h
    ·exact .inr ⟨i+1,by simpa using hi,j',h⟩
  ·rintro(h|⟨i,hi,j,h⟩)
   ·exact⟨0,by omega⟩
   ·cases i with
    |zero=>
     by_cases hj:j<aO c
     ·refine⟨j,?_⟩;simp only[cL];rw[if_pos hj];exact h
     ·have:dm es c rows j=0:=GS es c rows (by omega);simp only[List.getElem_cons_zero,take_zero,jz]at h;rw[this]at h;exact⟨0,by omega⟩
    |succ i=>
     obtain⟨j',h'⟩:=ih.2 (.inr ⟨i,by simpa using hi,j,h⟩);refine⟨aO c+j',?_⟩;simp only[cL];rw[if_neg (by omega),Nat.add_sub_cancel_left];exact h'
theorem LQ{es:List aj}{B:Int}(hB:0<=B)(l:List ae):(∃j,B<((cL es l [[]] j:Nat):Int))↔dj B es l:=by
 rw[FO];constructor
 ·rintro(h|⟨i,hi,j,h⟩)
  ·omega
  ·exact⟨i,hi,j,by rw[BD,pM];exact h⟩
 ·rintro⟨i,hi,j,h⟩;exact .inr ⟨i,hi,j,by rw[BD,pM]at h;exact h⟩
theorem s_{es fs:List aj}(h:es.Perm fs){B:Int}{l:List ae}:dj B es l↔dj B fs l:=by
 unfold dj;constructor
 ·rintro⟨i,hi,j,k⟩;exact⟨i,hi,j,by rw[<- DY h l[i] (lh h _)];exact k⟩
 ·rintro⟨i,hi,j,k⟩;exact⟨i,hi,j,by rw[DY h l[i] (lh h _)];exact k⟩
theorem Hk(f:Nat->Nat)(a b:Nat):(range (a+b)).map f=(range a).map f++(range b).map λj=>f (a+j):=by
 rw[List.range_add,map_append,map_map];rfl
theorem MJ(es:List aj):∀(l:List ae) (rows:List (List aP.Bind)),(range (ah l)).map (cL es l rows)=(range l.length).flatMap λi=>(range (aO (l[i]?.getD GF))).map (dm es (l[i]?.getD GF) (jz es (l.take i) rows))
 |[],_=>rfl
 |c::cs,rows=>by
  have ih:=MJ es cs (rows.flatMap λb=>iQ es c b)
  simp only[ah,length_cons];rw[Hk,List.range_succ_eq_map,flatMap_cons,List.flatMap_map];congr 1
  ·refine map_congr_left λj hj=>?_;have hj:=List.mem_range.1 hj;simp only[cL];rw[if_pos hj];rfl
  ·have e:(λj=>cL es (c::cs) rows (aO c+j))=cL es cs (rows.flatMap λb=>iQ es c b):=by
    funext j;simp only[cL];rw[if_neg (by omega),Nat.add_sub_cancel_left]
   rw[e,ih];rfl
theorem KG(es:List aj)(l:List ae):zL es l=(range (ah l)).map (cL es l [[]]):=by
 rw[MJ];unfold zL;rw[List.flatMap_def,List.flatMap_def];congr 1;refine map_congr_left λi hi=>?_;have hi:=List.mem_range.1 hi;have e:l.take (i+1)=l.take i++[l[i]]:=by rw[take_add_one,getElem?_eq_getElem hi];rfl
 rw[e,oD,getElem?_eq_getElem hi];unfold kB;refine map_congr_left λj _=>?_;rw[BD,pM];rfl
theorem NN{l:List Nat}(h:∀x∈l,x=0):jM l=0:=Nat.le_zero.1 (UK λx hx=>Nat.le_of_eq (h x hx))
theorem JV{f:Nat->Nat}{N M:Nat}(hN:∀j,N<=j->f j=0)(hM:∀j,M<=j->f j=0):jM ((range N).map f)=jM ((range M).map f):=by
 have key:∀{N M:Nat},N<=M->(∀j,N<=j->f j=0)->jM ((range M).map f)=jM ((range N).map f):=λ{N M} h h0=>by
  obtain⟨k,rfl⟩:∃k,M=N+k:=⟨M-N,by omega⟩;rw[Hk,ql,NN (l:=(range k).map _)]
  ·omega
  ·intro x hx;obtain⟨j,_,rfl⟩:=mem_map.1 hx;exact h0 _ (by omega)
 rcases Nat.le_total N M with h|h
 ·exact(key h hN).symm
 ·exact key h hM
theorem QX{T:Type}{key:T->List Int}{L:List T}(hu:b_ bd key L){x:T}{i:Nat}(hi:i<=L.length)(hx:∀y∈L,key y≠key x)(h1:∀(j:Nat) (h:j<L.length),i<=j->bd (key x) (key L[j])<0)(h0:i=0\/∃h:i-1<L.length,¬bd (key x) (key L[i-1])<0):L.take i++x::L.drop i=aZ bd key x L:=by
 have za:∀(j:Nat) (h:j<L.length),j<i->bd (key L[j]) (key x)<0:=λj h hj=>by
  rcases h0 with h0|⟨hl,h0⟩
  ·omega
  ·have e1:bd (key L[i-1]) (key x)<0:=by
    have:=(eh.flip (key L[i-1]) (key x));have hz:bd (key L[i-1]) (key x)≠0:=λe=>hx _ (getElem_mem hl) ((eh.zero _ _).1 e);have hz2:bd (key x) (key L[i-1])≠0:=λe=>hx _ (getElem_mem hl) ((eh.zero _ _).1 e).symm;omega
   by_cases e:j=i-1
   ·subst e;exact e1
   ·have:=pairwise_iff_getElem.1 hu j (i-1) h hl (by omega);exact eh.trans _ _ _ this e1
 have HT:∀(j:Nat) (h:j<L.length),i<=j->0<bd (key L[j]) (key x):=λj h hj=>by
  have:=h1 j h hj;have:=eh.flip (key x) (key L[j]);omega
 unfold aZ
 rw[mM (k:=i) hi (λj h hj=>by simp[AS,za j h hj]) (λj h hj=>by have:=HT j h hj;simp[AS];omega),
  qB (k:=i) hi (λj h hj=>by have:=za j h hj;simp[Ft];omega) (λj h hj=>by simp[Ft,HT j h hj])]
abbrev tN(N:Nat)(cv:Nat->Nat):Lq:=(range N).map λi=>[pI ((cv i:Nat):Int)]
def oY(z:Nat)(R:Int)(o:Bool)(N:Nat)(cv:Nat->Nat):aR:=λμ=>∃a c,Ow [Pt z 198 [pV a N c,pI R,pB o],cA 3 1 (pV a N c) (tN N cv)] μ
theorem oY.open_{z:Nat}{R:Int}{o:Bool}{N:Nat}{cv:Nat->Nat}{L:List aR}{μ:Mem}(h:Ow (oY z R o N cv::L) μ):∃a c,Ow (Pt z 198 [pV a N c,pI R,pB o]::cA 3 1 (pV a N c) (tN N cv)::L) μ:=by
 obtain⟨a,h⟩:=Ow.ex h;obtain⟨c,h⟩:=Ow.ex h;exact⟨a,c,h.nest⟩
theorem oY.shut{z:Nat}{R:Int}{o:Bool}{N c:Nat}{a:Option Addr}{cv:Nat->Nat}{L:List aR}{μ:Mem}(h:Ow (Pt z 198 [pV a N c,pI R,pB o]::cA 3 1 (pV a N c) (tN N cv)::L) μ):Ow (oY z R o N cv::L) μ:=
 (Ow.pack (L1:=[_,_]) h).imp λ_ hν=>⟨a,c,hν⟩
theorem OB{N:Nat}{cv:Nat->Nat}(h:cv N=0):tN N cv++[[pI 0]]=tN (N+1) cv:=by
 unfold tN;rw[List.range_succ,map_append,List.map_singleton,h];rfl
theorem ad9{z N:Nat}{R:Int}{o:Bool}{cv:Nat->Nat}(hz:∀j,N<=j->cv j=0)(n k:Nat)(hn:n<=100000)(hN:N<=100000){L:List aR}{μ:Mem}(hO:Ow (oY z R o N cv::L) μ){K:Kq}
  (hk:∀μ',Ow (oY z R (o||decide (R<(k:Int))) (max N (n+1)) (my cv n k)::L) μ'->K (.az []) μ'):aa prog 176 [pP z 0,pI (n:Nat),pI (k:Nat)] μ K:=by
 refine mW.c ?_;refine⟨λm _ u=>∃N',N<=N'/\N'<=max N (n+1)/\m=max N (n+1)-N'/\Ow (oY z R o N' cv::L) u,⟨_,N,Nat.le_refl _,by omega,rfl,hO⟩,?_⟩;rintro m _ u ⟨N',h1,h2,rfl,hO⟩;obtain⟨a,c,hO⟩:=oY.open_ hO;refine⟨_,_,_,hO.rd 0 rfl (by simp),ab.mk (λh=>?_) (λh=>?_)⟩
 ·have h:N'<=n:=by simp at h;omega
  obtain⟨a',c',e,kg⟩:=cA.app hO.swap (xG N' cv);have hl:(tN N' cv).length=N':=by simp
  simp only[PV.raw.injEq,Value.slice.injEq]at e;obtain⟨rfl,_,rfl⟩:=e;rw[hl]at kg;refine⟨_,_,_,hO.rd 0 rfl (by simp),?_⟩;refine kg _ _ _ rfl rfl (by omega) (by omega) λb2 c2 u2 gg=>?_;rw[OB (hz N' h1)]at gg;refine gg.st 1 rfl (by simp) λu3 wI=>⟨_,?_,N'+1,by omega,by omega,rfl,oY.shut wI.swap⟩;omega
 ·have h:n<N':=by simp at h;omega
  have hm:max N (n+1)=N':=by omega
  have hl:n<(tN N' cv).length:=by simpa using h
  obtain⟨b,rfl,_,fC⟩:=cA.at_ 1 hO rfl (xG N' cv) (j:=n) hl;refine⟨_,_,_,hO.rd 0 rfl (by simp),by omega,by omega,?_⟩;rw[Int.toNat_natCast];refine fC 0 _ _ (by simp) λu2 gg=>?_;have e:(tN N' cv).set n (dx (tN N' cv)[n] 0 [pI (k:Nat)])=tN N' (my cv n k):=by
   have e1:dx (tN N' cv)[n] 0 [pI (k:Nat)]=[pI ((k:Nat):Int)]:=by simp[dx]
   rw[e1];exact Sm h
  have gg:Ow (Pt z 198 [pV (some ⟨b,0,none⟩) N' c,pI R,pB o]::cA 3 1 (pV (some ⟨b,0,none⟩) N' c) ((tN N' cv).set n (dx (tN N' cv)[n] 0 [pI (k:Nat)]))::L) u2:=gg;rw[e]at gg;rw[hm]at hk;refine⟨_,gg.rd 0 rfl (by simp),ab.mk (λho=>?_) (λho=>⟨_,gg.rd 0 rfl (by simp),?_⟩)⟩
  ·subst ho;exact gg.st 0 rfl (by simp) λu3 wI=>hk _ (oY.shut wI)
  ·subst ho;exact gg.st 0 rfl (by simp) λu3 wI=>hk _ (oY.shut wI)
theorem aaf(f:Fl)(l:List cx)(hl:l.length<=100000000)(i:Int):Pure prog 240 [.list 3 f (l.map cx.pv),pI i] (pB (DO l i)):=by
 refine au.of (t_.c ?_);refine ak.each (n:=l.length) (by omega) (λk u=>(l.take k).any (λt=>t.at_ == i)=false) (by simp) ?_ ?_
 ·intro k u next hk hg av
  refine ab.t (by simpa using hk) ⟨by omega,_,aC hk,_,rfl,ab.mk (λhe=>?_) (λhe=>av _ (by rw[BN hk hg];exact he))⟩;show wk (pB true)=_;rw[DO,K_ (p:=λt:cx=>t.at_ == i) hk he];rfl
 ·intro u next hg
  rw[take_length]at hg;exact ab.f (by simp) (by rw[DO,hg];rfl)
def mI:List Int->List Int->Bool
 |[],b=> !b.isEmpty
 |_::_,[]=>false
 |x::a,y::b=>if x=y then mI a b else decide (x<y)
theorem xt:∀(k:Nat) (a b:List Int),k<=a.length->k<=b.length->a.take k=b.take k->mI a b=mI (a.drop k) (b.drop k)
 |0,_,_,_,_,_=>rfl
 |k+1,[],_,h,_,_=>by simp at h
 |k+1,_::_,[],_,h,_=>by simp at h
 |k+1,x::a,y::b,h1,h2,h=>by
  simp only[List.take_succ_cons,List.cons.injEq]at h
  obtain⟨rfl,h⟩:=h
  simp only[mI,if_true,List.drop_succ_cons];exact xt k a b (by simpa using h1) (by simpa using h2) h
theorem SK(f g:Fl)(a b:List Int)(ha:a.length<=100000000)(hb:b.length<=100000000):Pure prog 112 [.list 1 f (a.map gq),.list 1 g (b.map gq)] (pB (mI a b)):=by
 refine au.of (ua.c ⟨λ_ _=>∃k,k<=a.length/\k<=b.length/\a.take k=b.take k/\(k=a.length\/k=b.length),?_,?_⟩)
 ·refine ak.each (n:=a.length) (by omega) (λk u=>k<=b.length/\a.take k=b.take k) ⟨by omega,rfl⟩ ?_ ?_
  ·rintro k u next hk ⟨h1,h2⟩ av
   refine ab.t (by simpa using hk) (ab.mk (λh=>?_) (λh=>?_))
   ·have h:k<b.length:=by simpa using h
    refine⟨by omega,_,aC hk,_,rfl,by omega,_,aC h,_,rfl,ab.mk (λaQ=>?_) (λhe=>av _ ⟨by omega,?_⟩)⟩
    ·have aQ:a[k]≠b[k]:=by simpa using aQ
     refine⟨by omega,_,aC hk,_,rfl,by omega,_,aC h,_,rfl,?_⟩;show wk (pB (decide (a[k]<b[k])))=_;rw[xt k a b (by omega) h1 h2,List.drop_eq_getElem_cons hk,List.drop_eq_getElem_cons h,mI,if_neg aQ];rfl
    ·have he:a[k]=b[k]:=by simpa using he
     rw[take_add_one,take_add_one,getElem?_eq_getElem hk,getElem?_eq_getElem h,h2,he]
   ·have h:¬k<b.length:=by simpa using h
    exact⟨k,by omega,by omega,h2,.inr (by omega)⟩
  ·rintro u next ⟨h1,h2⟩
   exact ab.f (by simp) ⟨a.length,by omega,h1,h2,.inl rfl⟩
 ·rintro _ u ⟨k,h1,h2,h3,h4⟩;show wk (pB (decide ((((a.map gq).length:Nat):Int)<(((b.map gq).length:Nat):Int))))=_;rw[xt k a b h1 h2 h3];have e:decide ((((a.map gq).length:Nat):Int)<(((b.map gq).length:Nat):Int))=mI (a.drop k) (b.drop k):=by
   rcases h4 with rfl|rfl
   ·rw[drop_length];simp only[mI,length_map];cases hd:b.drop a.length with
    |nil=>have:=congrArg List.length hd;simp at this;simp;omega
    |cons y r=>have:=congrArg List.length hd;simp at this;simp;omega
   ·rw[drop_length];simp only[length_map];cases hd:a.drop b.length with
    |nil=>have:=congrArg List.length hd;simp at this;simp[mI];omega
    |cons y r=>have:=congrArg List.length hd;simp at this;simp[mI];omega
  rw[e];rfl
theorem PZ(n:Nat)(f:Nat->Nat)(j:Nat):sh n f j=(if j=n then f 0 else 0)+sh (n+1) (λj=>f (j+1)) j:=by
 unfold sh;by_cases e:j=n
 ·subst e;rw[if_pos (Nat.le_refl _),Nat.sub_self,if_pos rfl,if_neg (by omega)];omega
 ·rw[if_neg e];by_cases h:n<=j
  ·rw[if_pos h,if_pos (by omega),show j-n=j-(n+1)+1 from by omega,Nat.zero_add]
  ·rw[if_neg h,if_neg (by omega)]
theorem Ex{es:List aj}{c:ae}(h:¬(c.kind=1\/c.kind=2))(rows:List (List aP.Bind)):(λj=>dm es c rows (j+1))=cL es c.conds rows:=by
 funext j;rw[FN];unfold dm;congr 1;exact map_congr_left λb _=>by rw[vM,if_neg h]
theorem LB{es:List aj}{c:ae}(h:c.kind=1\/c.kind=2)(rows:List (List aP.Bind))(j:Nat):dm es c rows (j+1)=0:=by
 unfold dm;induction rows with
 |nil=>rfl
 |cons b rows ih=>rw[map_cons,sum_cons,ih,vM,if_pos h]
theorem sQ{es:List aj}{c:ae}{ts:List cx}{k:Nat}(hk:k<ts.length):bA es c (ts.take (k+1))=bA es c (ts.take k)++bA es c [ts[k]]:=by
 rw[<- ra,take_add_one,getElem?_eq_getElem hk];rfl
theorem DG:∀(a:Nat) {ts:List cx} {k:Nat} (hk:k<ts.length),oz a (ts.take (k+1))=oz a (ts.take k)++[⟨[],ts[k].binds,((a+k:Nat):Int)⟩]
 |a,t::ts,0,_=>rfl
 |a,t::ts,k+1,hk=>by
  simp only[List.take_succ_cons,oz,List.cons_append,List.getElem_cons_succ]
  rw[DG (a+1) (by simpa using hk),show a+1+k=a+(k+1)from by omega]
mutual
def QS:ae->Prop
 | .mk k g i a v ac cs=>(k=1\/k=2\/k=3)/\Cw cs
def Cw:List ae->Prop
 |[]=>True
 |c::cs=>QS c/\Cw cs
end
theorem Mb(c:ae):QS c↔(c.kind=1\/c.kind=2\/c.kind=3)/\Cw c.conds:=by cases c;rfl
theorem QO{l:List ae}:Cw l↔∀c∈l,QS c:=by
 induction l with
 |nil=>simp[Cw]
 |cons c l ih=>simp[Cw,ih]
section
variable {es:List aj} {R:Int}
def aen(es:List aj)(R:Int)(c:ae)(n:Nat)(ts:List cx)(cv:Nat->Nat)(o:Bool)(ph:Nat->Nat)(out:List cx):Prop:=
 (o=false/\(∀j,((dm es c (la ts) (j+1):Nat):Int)<=R)/\ph=(λj=>cv j+sh (n+1) (λj=>dm es c (la ts) (j+1)) j)/\(out=bA es c ts\/(R<((bA es c ts).length:Nat)/\R<(out.length:Nat))))\/(o=true/\∃j,R<((dm es c (la ts) (j+1):Nat):Int))
def qK(es:List aj)(R:Int)(c:ae):Prop:=∀(fa fv fc ft fe:Fl) (n N z:Nat) (cv:Nat->Nat) (ts:List cx) {L:List aR} {μ:Mem} {K:Kq},tc c->QS c->n+aO c<=2000->N<=n->(∀j,N<=j->cv j=0)->ts.length<=1000000->(∀t∈ts,t.binds.length+100*aO c<=900000/\t.tags.length+1<=900000)->Ow (oY z R false N cv::L) μ->
    (∀f o N' ph out μ',aen es R c n ts cv o ph out->N'<=n+aO c->(∀j,N'<=j->ph j=0)->out.length<=1000001->(∀t∈out,t.tags.length<=900000)->Ow (oY z R o N' ph::L) μ'->K (.list 3 f (out.map cx.pv)) μ')->
    aa prog 175 [.agg [pI c.kind,pB c.goal,pS c.id,.list 6 fa (c.attr.map Test.pv),.list 6 fv (c.value.map Test.pv),pB c.acc,.list 7 fc (c.conds.map ae.pv)],pI (n:Nat),.list 3 ft (ts.map cx.pv),.list 12 fe (es.map aj.pv),pP z 0] μ K
def GoR(es:List aj)(R:Int)(l:List ae)(n:Nat)(ts:List cx)(cv:Nat->Nat)(o:Bool)(ph:Nat->Nat)(out:List cx):Prop:=
 (o=false/\(∀j,((cL es l (la ts) j:Nat):Int)<=R)/\ph=(λj=>cv j+sh n (cL es l (la ts)) j)/\out=cq es l ts)\/(o=true/\∃j,R<((cL es l (la ts) j:Nat):Int))
def Lf(es:List aj)(R:Int)(l:List ae):Prop:=∀(fl ft fe:Fl) (n N z:Nat) (cv:Nat->Nat) (ts:List cx) {L:List aR} {μ:Mem} {K:Kq},ta l->Cw l->n+ah l<=2000->N<=n->(∀j,N<=j->cv j=0)->ts.length<=1000000->(∀t∈ts,t.binds.length+100*ah l<=900000/\t.tags.length+ah l<=900000)->Ow (oY z R false N cv::L) μ->
    (∀f o N' ph out μ',GoR es R l n ts cv o ph out->N'<=n+ah l->(∀j,N'<=j->ph j=0)->out.length<=1000001->(∀t∈out,t.tags.length<=900000)->Ow (oY z R o N' ph::L) μ'->K (.list 3 f (out.map cx.pv)) μ')->
    aa prog 113 [.list 7 fl (l.map ae.pv),pI (n:Nat),.list 3 ft (ts.map cx.pv),.list 12 fe (es.map aj.pv),pP z 0] μ K
theorem GX{c:ae}(hl:cW c){ts:List cx}{m:Nat}(h:∀t∈ts,t.binds.length<=m):∀t∈bA es c ts,t.binds.length<=m+100*aO c:=by
 intro t ht;have h1:t.binds∈la (bA es c ts):=mem_map.2 ⟨t,ht,rfl⟩;rw[pR]at h1;obtain⟨b,hb,h2⟩:=mem_flatMap.1 h1;obtain⟨t',h3,rfl⟩:=mem_map.1 hb;have:=Mu hl h2;have:=h t' h3;omega
theorem uJ:∀{l:List ae} (_:bX l) {ts:List cx} {m:Nat} (_:∀t∈ts,t.binds.length<=m),∀t∈cq es l ts,t.binds.length<=m+100*ah l
 |[],_,_,_,h=>λt ht=>by have:=h t ht;simp[ah];exact this
 |c::l,hl,ts,m,h=>λt ht=>by
  have:=uJ (l:=l) hl.2 (GX (es:=es) hl.1 h) t ht;simp only[ah];omega
theorem adT(hR:0<=R/\R<=1000000){l:List ae}(hs:∀c∈l,qK es R c):Lf es R l:=by
 intro fl ft fe n N z cv ts L μ K aI Rt fw hN hz Bi y_ hO hk;have rD:=cK l;refine ye.c ?_
 refine⟨λm s u=>∃i,s.2.2=((i:Nat):Int)/\i<=l.length/\m=l.length-i/\s.1=((n+ah (l.take i):Nat):Int)/\∃o N' ph out,s.2.1.2=out.map cx.pv/\(o=false->GoR es R (l.take i) n ts cv false ph out)/\(o=true->∃j,R<((cL es l (la ts) j:Nat):Int))/\N'<=n+ah (l.take i)/\(∀j,N'<=j->ph j=0)/\out.length<=1000001/\(∀t∈out,t.tags.length<=900000)/\Ow (oY z R o N' ph::L) u,
  ⟨_,0,rfl,by omega,rfl,by simp[ah],false,N,cv,ts,rfl,λ_=>.inl ⟨rfl,λj=>by simp[cL];omega,?_,rfl⟩,(λh=>by cases h),by simp[ah];omega,hz,by omega,λt ht=>by have:=(y_ t ht).2;omega,hO⟩,?_⟩
 ·funext j;simp only[take_zero];rw[JC];rfl
 rintro m ⟨_,⟨f,_⟩,_⟩ u ⟨i,rfl,hi,rfl,rfl,o,N',ph,out,rfl,hg,zF,Zx,NU,hol,hot,hO⟩;dsimp only;have fin:(o=false->i=l.length)->K (.list 3 f (out.map cx.pv)) u:=λh=>by
  refine hk f o N' ph out u ?_ (by have:=gJ l i;omega) NU hol hot hO;cases o with
  |true=>exact .inr ⟨rfl,zF rfl⟩
  |false=>
   have hg:=hg rfl;rw[h rfl,take_length]at hg;exact hg
 refine ab.mk (λh=>?_) (λh=>fin λ_=>by simp at h;omega);have hi:i<l.length:=by simpa using h
 obtain⟨a,cc,sv⟩:=oY.open_ hO;refine⟨_,sv.rd 0 rfl (by simp),ab.mk (λho=>?_) (λho=>fin λe=>by rw[e]at ho;cases ho)⟩;have ho:o=false:=by simpa using ho
 subst ho;obtain⟨_,hle,rfl,rfl⟩:=(hg rfl).resolve_right λh=>by cases h.1
 have hm:=getElem_mem hi;have agB:=mD hi;have ak6:=gJ l (i+1);have UZ:1<=aO l[i]:=by rw[bN];omega
 have eb:=lC.1 aI _ hm;have Je:la (cq es (l.take i) ts)=jz es (l.take i) (la ts):=ix es _ ts;have hln:(cq es (l.take i) ts).length<=1000000:=by
  by_cases h0:i=0
  ·subst h0;exact Bi
  ·obtain⟨k,rfl⟩:∃k,i=k+1:=⟨i-1,by omega⟩;rw[sP (by omega) ts];have h1:=hle (ah (l.take k));rw[zM es (by omega) (la ts),Ha]at h1;omega
 refine⟨by omega,_,aC hi,_,_,_,_,_,_,_,_,_,_,jD _,?_⟩;have bI:bX (l.take i):=cE.2 λc hc=>cE.1 (oc aI) c (mem_of_mem_take hc);refine hs _ hm .sh .sh .sh f fe (n+ah (l.take i)) N' z _ _ eb (QO.1 Rt _ hm) (by omega) Zx NU hln (λt ht=>⟨?_,?_⟩) hO λf1 o1 N1 cv1 JO u1 hr hN1 QZ zb ht1 gg=>⟨_,_,rfl,?_⟩
 ·have h1:=uJ (es:=es) bI (m:=900000-100*ah l) (ts:=ts) (λt ht=>by have:=(y_ t ht).1;omega) t ht;have N_:∀t∈ts,100*ah l<=900000:=λt ht=>by have:=(y_ t ht).1;omega
  cases ts with
  |nil=>
   have:∀l:List ae,cq es l []=[]:=λl=>by
    induction l with
    |nil=>rfl
    |cons c l ih=>show cq es l (bA es c [])=[];unfold bA;simp;exact ih
   rw[this]at ht;cases ht
  |cons t0 ts=>have:=N_ t0 (by simp);omega
 ·have N_:∀t∈ts,t.tags.length<=900000-ah l/\ah l<=900000:=λt ht=>by have:=(y_ t ht).2;omega
  have h1:=pQ (es:=es) (l:=l.take i) (m:=900000-ah l) (ts:=ts) (λt ht=>(N_ t ht).1) t ht;have h2:=cK (l.take i);rw[length_take,Nat.min_eq_left (by omega)]at h1 h2;omega
 rw[length_map];refine ad9 QZ (n+ah (l.take i)) JO.length (by omega) (by omega) gg λu2 wI=>⟨rfl,by omega,_,aC hi,.sh,l[i].conds.map ae.pv,by rw[ae.cH];rfl,?_⟩;refine(qF _ .sh l[i].conds (Nat.le_refl _) (by rw[bN]at agB;omega)).call ⟨_,rfl,?_⟩;refine⟨l.length-(i+1),by omega,i+1,by rw[aD (by omega) (by omega)];rfl,by omega,rfl,?_,_,_,_,JO,rfl,λho=>?_,λho=>?_,by omega,λj hj=>?_,zb,ht1,wI⟩
 ·have:=bN l[i];rw[aD (x:=1+((ah l[i].conds:Nat):Int)) (by omega) (by omega),aD (by omega) (by omega)];omega
 ·obtain⟨h1,h2⟩:=Bool.or_eq_false_iff.1 ho;subst h1;obtain⟨_,r1,rfl,r2⟩:=hr.resolve_right λh=>by cases h.1
  have h2:((JO.length:Nat):Int)<=R:=by simpa using h2
  obtain rfl:=r2.resolve_right λh=>by omega
  rw[Je]at r1;have RD:=sP (es:=es) hi ts;rw[mB hi]at RD;refine .inl ⟨rfl,λj=>?_,?_,(mB hi ts).symm⟩
  ·have h4:∀j,((dm es l[i] (jz es (l.take i) (la ts)) j:Nat):Int)<=R:=λj=>by
    cases j with
    |zero=>rw[<- RD];exact h2
    |succ j=>exact r1 j
   rw[zM es hi];unfold sh;split
   ·rename_i h5;rw[FQ es _ _ _ h5,Nat.zero_add];exact h4 _
   ·rw[Nat.add_zero];exact hle j
  ·funext j;rw[RD];have e:sh n (λq=>cL es (l.take i) (la ts) q+sh (ah (l.take i)) (dm es l[i] (jz es (l.take i) (la ts))) q) j=sh n (cL es (l.take i) (la ts)) j+sh (n+ah (l.take i)) (dm es l[i] (jz es (l.take i) (la ts))) j:=by rw[JD,Wz]
   have e2:sh n (cL es (l.take (i+1)) (la ts)) j=sh n (λq=>cL es (l.take i) (la ts) q+sh (ah (l.take i)) (dm es l[i] (jz es (l.take i) (la ts))) q) j:=uK (λq=>zM es hi _ q) j;have e3:sh n (cL es (l.take (i+1)) (la ts)) j=sh n (cL es (l.take i) (la ts)) j+sh (n+ah (l.take i)) (dm es l[i] (jz es (l.take i) (la ts))) j:=e2.trans e;have e4:=PZ (n+ah (l.take i)) (dm es l[i] (jz es (l.take i) (la ts))) j;show my _ _ _ j=cv j+sh n (cL es (l.take (i+1)) (la ts)) j;rw[e3,e4];unfold my;by_cases hj:j=n+ah (l.take i)
   ·rw[if_pos hj,if_pos hj];have z1:=NU j (by omega);have z1:cv j+sh n (cL es (l.take i) (la ts)) j=0:=z1;have z2:sh (n+ah (l.take i)+1) (λj=>dm es l[i] (jz es (l.take i) (la ts)) (j+1)) j=0:=by unfold sh;rw[if_neg (by omega)]
    omega
   ·rw[if_neg hj,if_neg hj,Je];dsimp only;omega
 ·have h4:∃j,R<((dm es l[i] (jz es (l.take i) (la ts)) j:Nat):Int):=by
   rcases hr with⟨rfl,r1,rfl,r2⟩|⟨_,j,h⟩
   ·have h2:R<((JO.length:Nat):Int):=by simpa using ho
    refine⟨0,?_⟩;rw[<- sP hi ts,mB hi];rcases r2 with rfl|⟨h3,_⟩
    ·exact h2
    ·exact h3
   ·exact⟨j+1,by rw[<- Je];exact h⟩
  obtain⟨j,h4⟩:=h4;exact(FO es R l (la ts)).2 (.inr ⟨i,hi,j,h4⟩)
 ·unfold my;rw[if_neg (by omega)];exact QZ j (by omega)
end
section
variable {es:List aj} {R:Int}
theorem Jz{c:ae}(hk:c.kind=1)(t:cx):bA es c [t]=(aX c t.binds es).map λx=>(⟨t.tags++[x.1.tag],x.2,t.at_⟩:cx):=by unfold bA;rw[if_pos hk];simp
theorem Ah{c:ae}(hk:c.kind=2)(t:cx):bA es c [t]=if(aX c t.binds es).isEmpty then[t]else[]:=by
 unfold bA;have h1:¬c.kind=1:=by omega
 rw[if_neg h1,filter_cons,filter_nil,lP,if_neg h1,if_pos hk];cases(aX c t.binds es).isEmpty<;>rfl
theorem Ag{c:ae}(hk:¬(c.kind=1\/c.kind=2))(t:cx):bA es c [t]=if(jz es c.conds [t.binds]).isEmpty then[t]else[]:=by
 unfold bA;rw[if_neg (λh=>hk (.inl h)),filter_cons,filter_nil,lP,if_neg (λh=>hk (.inl h)),if_neg (λh=>hk (.inr h))];cases(jz es c.conds [t.binds]).isEmpty<;>rfl
theorem Nn{c:ae}{ts us:List cx}(h:∀t∈us,t∈ts):∀t∈bA es c us,t∈bA es c ts:=by
 intro t ht;unfold bA at ht |-;by_cases hk:c.kind=1
 ·rw[if_pos hk]at ht |-;obtain⟨a,ha,hb⟩:=mem_flatMap.1 ht;exact mem_flatMap.2 ⟨a,h a ha,hb⟩
 ·rw[if_neg hk]at ht |-;obtain⟨a,b⟩:=mem_filter.1 ht;exact mem_filter.2 ⟨h t a,b⟩
theorem abM(hR:0<=R/\R<=1000000)(Of:es.length<=1000000){c:ae}(wG:Lf es R c.conds)(h3:c.kind=3):qK es R c:=by
 intro fa fv fc ft fe n N z cv ts L μ K aI Rt fw hN hz Bi y_ hO hk;have Ru:¬(c.kind=1\/c.kind=2):=by omega
 have UZ:=bN c;refine lX.c (ab.t (by rw[h3];rfl) ?_);refine ak.dd (n:=ts.length) (by omega) (λi x u=>x.2=(oz 0 (ts.take i)).map cx.pv/\Ow (e_ x.1 i 3::oY z R false N cv::L) u) ⟨rfl,hO.nil (.inl rfl)⟩ ?_ ?_
 ·rintro i ⟨f,_⟩ u next hi ⟨rfl,h⟩ av
  refine ab.t (by simpa using hi) ⟨by omega,_,aC hi,_,_,rfl,?_⟩;refine h.app (by rw[length_map,Bh,length_take];omega) (by simp;omega) (by simp;omega) λf1 u1 h1=>av _ _ ⟨?_,h1⟩;rw[DG 0 hi,map_append,Nat.zero_add];rfl
 ·rintro⟨f,_⟩ u next ⟨rfl,h⟩
  refine ab.f (by simp) ?_;rw[take_length,show wrap .i64 (((n:Nat):Int)+1)=((n+1:Nat):Int)from by rw[aD (by omega) (by omega)];rfl];refine wG fc f fe (n+1) N z cv (oz 0 ts) ((mG c).1 aI).2.2 ((Mb c).1 Rt).2 (by omega) (by omega) hz (by rw[Bh];exact Bi) (λt ht=>⟨?_,?_⟩) h.drop λf1 o N1 cv1 JO u1 hg hN1 QZ zb ht1 sv=>⟨_,_,rfl,?_⟩
  ·have h1:t.binds∈la (oz 0 ts):=mem_map.2 ⟨t,ht,rfl⟩;rw[ow]at h1;obtain⟨t',h2,h3⟩:=mem_map.1 h1;have:=(y_ t' h2).1;rw[<- h3];omega
  ·rw[(Fa 0 ts t ht).2];simp;omega
  refine ak.dd (n:=ts.length) (by omega) (λk x u=>∃q:List cx,x.2=q.map cx.pv/\q.length<=k/\(∀t∈q,t∈ts)/\(JO=cq es c.conds (oz 0 ts)->q=bA es c (ts.take k))/\Ow (e_ x.1 q.length 3::oY z R o N1 cv1::L) u) ⟨[],rfl,by simp,by simp,λ_=>by unfold bA;simp,sv.nil (.inl rfl)⟩ ?_ ?_
  ·rintro k ⟨f2,_⟩ u2 next bZ ⟨q,rfl,hq1,Mj,HK,gg⟩ av
   refine ab.t (by simpa using bZ) ((aaf f1 JO (by omega) k).call ⟨_,rfl,ab.mk (λhn=>?_) (λhy=>?_)⟩)
   ·refine⟨by omega,_,aC bZ,_,_,_,_,_,rfl,?_⟩;refine gg.app (by rw[length_map]) (by simp;omega) (by simp;omega) λf3 u3 Xr=>av _ _ ⟨q++[ts[k]],by rw[map_append];rfl,by simp;omega,λt ht=>?_,λe=>?_,by rw[length_append];exact Xr⟩
    ·rcases mem_append.1 ht with ht|ht
     ·exact Mj t ht
     ·simp only[mem_singleton]at ht;subst ht;exact getElem_mem bZ
    ·rw[sQ bZ,HK e,Ag Ru];rw[e]at hn;have:=Bp es c.conds ts 0 k bZ;rw[Nat.zero_add]at this;rw[this]at hn;rw[if_pos (by simpa using hn)]
   ·refine av _ _ ⟨q,rfl,by omega,Mj,λe=>?_,gg⟩;rw[sQ bZ,HK e,Ag Ru];rw[e]at hy;have:=Bp es c.conds ts 0 k bZ;rw[Nat.zero_add]at this;rw[this]at hy;rw[if_neg (by simpa using hy),append_nil]
  ·rintro⟨f2,_⟩ u2 next ⟨q,rfl,hq1,Mj,HK,gg⟩
   refine ab.f (by simp) ?_;rw[take_length]at HK;refine hk f2 o N1 cv1 q u2 ?_ (by omega) QZ (by omega) (λt ht=>by have:=(y_ t (Mj t ht)).2;omega) gg.drop;rcases hg with⟨rfl,g1,g2,g3⟩|⟨rfl,g1⟩
   ·rw[ow]at g1 g2;refine .inl ⟨rfl,λj=>?_,?_,.inl (HK g3)⟩
    ·have:=congrFun (Ex (es:=es) Ru (la ts)) j;rw[this];exact g1 j
    ·rw[Ex Ru];exact g2
   ·rw[ow]at g1;obtain⟨j,hj⟩:=g1;refine .inr ⟨rfl,j,?_⟩;have:=congrFun (Ex (es:=es) Ru (la ts)) j;rw[this];exact hj
theorem PR(hR:0<=R/\R<=1000000)(Of:es.length<=1000000){c:ae}(Mo:c.kind=1\/c.kind=2):qK es R c:=by
 intro fa fv fc ft fe n N z cv ts L μ K aI Rt fw hN hz Bi y_ hO hk;have Kk:=((mG c).1 aI).1;obtain⟨_,l1,l2,l3,l4,_⟩:=(bG c).1 Kk;have UZ:1<=aO c:=by rw[bN];omega
 have fin:∀(f:Fl) (out:List cx) (u:Mem),(out=bA es c ts\/(R<((bA es c ts).length:Nat)/\R<(out.length:Nat)))->out.length<=1000001->(∀t∈out,t∈bA es c ts)->Ow (oY z R false N cv::L) u->K (.list 3 f (out.map cx.pv)) u:=λf out u h1 h2 h3 hO=>by
  refine hk f false N cv out u (.inl ⟨rfl,λj=>by rw[LB Mo];omega,?_,h1⟩) (by omega) hz h2 (λt ht=>?_) hO
  ·funext j;have:sh (n+1) (λj=>dm es c (la ts) (j+1)) j=0:=by unfold sh;split<;>simp[LB Mo]
   omega
  ·exact Af (m:=899999) (λt ht=>by have:=(y_ t ht).2;omega) t (h3 t ht)
 refine lX.c (ab.f (by rcases Mo with e|e<;>rw[e]<;>rfl) ?_);refine ak.dd (n:=ts.length) (by omega) (λi x u=>x.2=(bA es c (ts.take i)).map cx.pv/\(bA es c (ts.take i)).length<=1000000/\(c.kind=1->(((bA es c (ts.take i)).length:Nat):Int)<=R)/\Ow (e_ x.1 (bA es c (ts.take i)).length 3::oY z R false N cv::L) u) ?_ ?_ ?_
 ·have e:bA es c (ts.take 0)=[]:=by unfold bA;simp
  rw[e];exact⟨rfl,by simp,λ_=>hR.1,hO.nil (.inl rfl)⟩
 ·rintro i ⟨f,_⟩ u next hi ⟨rfl,Ze,hle,h⟩ av
  have hbt:=(y_ _ (getElem_mem hi)).1;have gf:=sQ (es:=es) (c:=c) hi;generalize hD:bA es c (ts.take i)=D at h hle Ze gf |-;refine ab.t (by simpa using hi) ?_;refine⟨λs u=>s.2=(aX c ts[i].binds es).isEmpty/\∃o:List cx,s.1.2=o.map cx.pv/\o=(if c.kind=1 then bA es c (ts.take (i+1))else D)/\o.length<=1000000/\(c.kind=1->((o.length:Nat):Int)<=R)/\Ow (e_ s.1.1 o.length 3::oY z R false N cv::L) u,?_,?_⟩
  ·let mk:aj×List aP.Bind->cx:=λx=>⟨ts[i].tags++[x.1.tag],x.2,ts[i].at_⟩;let P:Nat->List cx:=λk=>D++(if c.kind=1 then(aX c ts[i].binds (es.take k)).map mk else[]);have hPt:c.kind=1->bA es c (ts.take (i+1))=P es.length:=λh1=>by
    rw[gf,Jz h1];show _=D++_;rw[if_pos h1,take_length]
   have hP0:P 0=D:=by
    show D++_=D;split<;>simp[aX]
   have hPn:c.kind≠1->∀k,P k=D:=λh1 k=>by show D++_=D;rw[if_neg h1,append_nil]
   refine ak.Xx (n:=es.length) (by omega) (λk x y u=>y=(aX c ts[i].binds (es.take k)).isEmpty/\x.2=(P k).map cx.pv/\(P k).length<=1000000/\(c.kind=1->(((P k).length:Nat):Int)<=R)/\Ow (e_ x.1 (P k).length 3::oY z R false N cv::L) u) ⟨by simp[aX],by rw[hP0],by rw[hP0];exact Ze,by rw[hP0];exact hle,by rw[hP0];exact h⟩ ?_ ?_
   ·rintro k ⟨f1,_⟩ y u1 iZ bZ ⟨rfl,rfl,p0,p1,h1⟩ g_;dsimp only at h1 |-;refine⟨λ_ u'=>(c.kind=1\/(aX c ts[i].binds (es.take k)).isEmpty=true)/\u'=u1,ab.t (by simpa using bZ) (ab.mk (λe=>⟨.inl (by simpa using e),rfl⟩) (λe=>ab.mk (λe2=>⟨.inr e2,rfl⟩) (λe2=>?_))),?_⟩
    ·have e:c.kind≠1:=by simpa using e
     refine⟨?_,P k,rfl,by rw[if_neg e,hPn e],p0,p1,h1⟩;have e2:(aX c ts[i].binds (es.take k)).isEmpty=false:=e2;rw[e2,mC (es:=es) k];cases hs:aX c ts[i].binds (es.take k)with
     |nil=>rw[hs]at e2;cases e2
     |cons a r=>rfl
    ·rintro _ _ ⟨wG,rfl⟩;refine⟨by omega,_,aC bZ,_,_,_,_,_,_,_,_,_,_,_,_,rfl,by omega,_,aC hi,_,_,rfl,?_⟩;refine au.call (VQ .sh .sh .sh .sh c es[k] ts[i].binds (by omega) (cI l3) (cI l4)) λp hp=>?_;obtain⟨l',rfl,Xd⟩:=hp;refine⟨_,_,_,rfl,ab.mk (λcQ=>?_) (λCy=>?_)⟩
     ·have cQ:c_ c es[k] ts[i].binds=none:=by
       cases hc:c_ c es[k] ts[i].binds with
       |none=>rfl
       |some r=>rw[hc]at cQ;cases cQ
      have e1:aX c ts[i].binds (es.take (k+1))=aX c ts[i].binds (es.take k):=by rw[nV bZ,cQ];simp
      have e2:P (k+1)=P k:=by show D++_=D++_;rw[e1]
      exact g_ _ _ _ ⟨by rw[e1],by rw[e2],by rw[e2];exact p0,by rw[e2];exact p1,by rw[e2];exact h1⟩
     ·obtain⟨r,hc⟩:∃r,c_ c es[k] ts[i].binds=some r:=by
       cases hc:c_ c es[k] ts[i].binds with
       |none=>rw[hc]at Cy;cases Cy
       |some r=>exact⟨r,rfl⟩
      have:=Xd r hc;subst this;have e1:aX c ts[i].binds (es.take (k+1))=aX c ts[i].binds (es.take k)++[(es[k],l')]:=by rw[nV bZ,hc];simp
      have aQ:(aX c ts[i].binds (es.take (k+1))).isEmpty=false:=by rw[e1];simp
      refine ab.mk (λjB=>?_) (λjB=>?_)
      ·have jB:c.kind=1:=by simpa using jB
       have e2:P (k+1)=P k++[mk (es[k],l')]:=by
        show D++_=D++_++_;rw[if_pos jB,if_pos jB,e1,map_append,List.append_assoc];rfl
       have e3:[mk (es[k],l')].map cx.pv=[[.list 1 .sh (([]++ts[i].tags.map gq)++[[pI es[k].tag]]),.list 4 .sh (l'.map Bind.pv),pI ts[i].at_]]:=by simp[mk]
       have oA:=p1 jB;have ak4:=(y_ _ (getElem_mem hi)).2;refine⟨λs u'=>s.2=(P (k+1)).map cx.pv/\Ow (e_ s.1 (P (k+1)).length 3::oY z R false N cv::L) u',?_,?_⟩
       ·have a3:∀{u:Mem} (O:Ow (e_ f1 (P k).length 3::oY z R false N cv::L) u),aT false 3 56 f1 ((P k).map cx.pv) [[.list 1 .sh (([]++ts[i].tags.map gq)++[[pI es[k].tag]]),.list 4 .sh (l'.map Bind.pv),pI ts[i].at_]] u λf u'=>(f,(P k).map cx.pv++[[.list 1 .sh (([]++ts[i].tags.map gq)++[[pI es[k].tag]]),.list 4 .sh (l'.map Bind.pv),pI ts[i].at_]]).2=(P (k+1)).map cx.pv/\Ow (e_ f (P (k+1)).length 3::oY z R false N cv::L) u':=λO=>
         O.app (by rw[length_map]) (by simp;omega) (by simp;omega) λf' u' h'=>⟨(congrArg (λq=>(P k).map cx.pv++q) e3.symm).trans (map_append.symm.trans (congrArg (List.map cx.pv) e2.symm)),by rw[e2,length_append];exact h'⟩
        have a2:∀{u:Mem} {f:Fl} {F:Fl->Mem->Prop} (O:Ow (e_ f ts[i].tags.length 1::e_ f1 (P k).length 3::oY z R false N cv::L) u) (_:∀f' u',Ow (e_ f1 (P k).length 3::oY z R false N cv::L) u'->F f' u'),aT false 1 8 f ([]++ts[i].tags.map gq) [[pI es[k].tag]] u F:=λO hF=>
         O.app (by simp) (by simp;omega) (by simp;omega) λf' u' h'=>hF _ _ h'.drop
        have a1:∀{u:Mem} {F:Fl->Mem->Prop} (O:Ow (e_ f1 (P k).length 3::oY z R false N cv::L) u) (_:∀f' u',Ow (e_ f' ts[i].tags.length 1::e_ f1 (P k).length 3::oY z R false N cv::L) u'->F f' u'),aT false 1 8 .nil [] (ts[i].tags.map gq) u F:=λO hF=>
         (O.nil (n:=0) (.inl rfl)).app rfl (by simp;omega) (by simp;omega) λf' u' h'=>hF _ _ (by simpa using h')
        refine⟨by omega,_,aC hi,_,_,rfl,by omega,_,aC bZ,by omega,_,aC hi,?_⟩
        repeat' first
         |exact trivial
         |exact a3 ‹_›
         |refine a2 ‹_› λ_ _ _=>?_
         |refine a1 ‹_› λ_ _ _=>?_
         |refine⟨_,rfl,?_⟩
         |refine⟨?_,?_⟩
       ·rintro⟨f2,_⟩ u2 ⟨rfl,h2⟩;obtain⟨a,cc,Ms⟩:=oY.open_ (h2.drop);refine⟨_,Ms.rd 0 rfl (by simp),ab.mk (λzF=>?_) (λcQ=>?_)⟩
        ·rw[length_map]at zF;have zF:R<(((P (k+1)).length:Nat):Int):=by simpa using zF
         have ke:∀t∈P (k+1),t∈bA es c ts:=λt ht=>by
          refine Nn (us:=ts.take (i+1)) (λt ht=>mem_of_mem_take ht) t ?_;rw[hPt jB];rcases mem_append.1 ht with ht|ht
          ·exact mem_append.2 (.inl ht)
          ·refine mem_append.2 (.inr ?_);rw[if_pos jB]at ht |-;rw[take_length];obtain⟨x,hx,e⟩:=mem_map.1 ht;refine mem_map.2 ⟨x,?_,e⟩;rw[mC (es:=es) (k+1)];exact mem_append.2 (.inl hx)
         refine fin f2 _ u2 (.inr ⟨?_,zF⟩) (by rw[e2,length_append,List.length_singleton];omega) ke h2.drop;have q1:(P (k+1)).length<=(P es.length).length:=by
          show(D++_).length<=(D++_).length;rw[if_pos jB,if_pos jB,length_append,length_append,length_map,length_map,take_length,mC (es:=es) (k+1),length_append];omega
         have q2:(bA es c ts).length=(bA es c (ts.take (i+1))).length+(bA es c (ts.drop (i+1))).length:=by rw[<- length_append,<- ra,List.take_append_drop]
         rw[hPt jB]at q2;omega
        ·rw[length_map]at cQ;have cQ:(((P (k+1)).length:Nat):Int)<=R:=by simpa using cQ
         exact g_ _ _ _ ⟨aQ.symm,rfl,by omega,λ_=>cQ,h2⟩
      ·have jB:c.kind≠1:=by simpa using jB
       have e:P (k+1)=P k:=by rw[hPn jB,hPn jB]
       exact g_ _ _ _ ⟨aQ.symm,by rw[e],by rw[e];exact p0,λe=>absurd e jB,by rw[e];exact h1⟩
   ·rintro⟨f1,_⟩ y u1 iZ ⟨rfl,rfl,p0,p1,h1⟩;refine⟨λ_ _=>False,ab.f (by simp) ⟨by rw[take_length],P es.length,rfl,?_,p0,p1,h1⟩,λ_ _ h=>h.elim⟩;by_cases jB:c.kind=1
    ·rw[if_pos jB,hPt jB]
    ·rw[if_neg jB,hPn jB]
  ·rintro⟨⟨f1,_⟩,y⟩ u1 ⟨rfl,o,rfl,ho,o0,o1,h1⟩;dsimp only at h1 |-;refine ab.mk (λeK=>ab.mk (λOg=>?_) (λOg=>?_)) (λeK=>?_)
   ·have eK:c.kind=2:=by simpa using eK
    rw[if_neg (by omega)]at ho;subst ho;refine⟨by omega,_,aC hi,_,_,_,_,_,rfl,?_⟩;have e:bA es c (ts.take (i+1))=o++[ts[i]]:=by rw[gf,Ah eK,if_pos Og]
    have bI:o.length<=i:=by
     rw[<- hD];have:=No (es:=es) (c:=c) (ts:=ts.take i) (by omega);rw[length_take]at this;omega
    refine h1.app (by rw[length_map]) (by simp;omega) (by simp;omega) λf2 u2 h2=>av _ _ ⟨by rw[e,map_append];rfl,by rw[e];simp;omega,(λh=>by omega),by rw[e,length_append];exact h2⟩
   ·have eK:c.kind=2:=by simpa using eK
    rw[if_neg (by omega)]at ho;subst ho;have e:bA es c (ts.take (i+1))=o:=by rw[gf,Ah eK,if_neg (by rw[Og];simp),append_nil]
    exact av _ _ ⟨by rw[e],by rw[e];exact o0,(λh=>by omega),by rw[e];exact h1⟩
   ·have jB:c.kind=1:=Mo.resolve_right (by simpa using eK);rw[if_pos jB]at ho;subst ho;exact av _ _ ⟨rfl,o0,o1,h1⟩
 ·rintro⟨f,_⟩ u next ⟨rfl,Ze,hle,h⟩
  refine ab.f (by simp) ?_;rw[take_length]at*
  exact fin f _ u (.inl rfl) (by omega) (λt ht=>ht) h.drop
theorem Uc(hR:0<=R/\R<=1000000)(Of:es.length<=1000000)(c:ae):qK es R c:=by
 refine ae.ind (Q:=qK es R) (λc ih=>?_) c;intro fa fv fc ft fe n N z cv ts L μ K aI Rt;rcases((Mb c).1 Rt).1 with h|h|h
 ·exact PR hR Of (.inl h) fa fv fc ft fe n N z cv ts aI Rt
 ·exact PR hR Of (.inr h) fa fv fc ft fe n N z cv ts aI Rt
 ·exact abM hR Of (adT hR ih) h fa fv fc ft fe n N z cv ts aI Rt
theorem aii(hR:0<=R/\R<=1000000)(Of:es.length<=1000000)(l:List ae):Lf es R l:=adT hR λc _=>Uc hR Of c
end
theorem nA:∀a b:List Int,mI a b=true↔bd a b<0
 |[],b=>by cases b<;>simp[mI,bd]<;>omega
 |a::l,[]=>by simp[mI,bd];omega
 |a::l,b::r=>by
  simp only[mI,bd]
  by_cases e:a=b
  ·rw[if_pos e,if_pos e];exact nA l r
  ·rw[if_neg e,if_neg e];simp;omega
abbrev UG(ts:List cx):Prop:=ts.Pairwise λa b=>a.tags≠b.tags
def Aj(ts:List cx):List cx:=ts.foldl (λl t=>aZ bd cx.tags t l) []
theorem Dd(ts:List cx)(t:cx):Aj (ts++[t])=aZ bd cx.tags t (Aj ts):=by unfold Aj;rw[foldl_append];rfl
theorem Ai{ts:List cx}(h:UG ts):b_ bd cx.tags (Aj ts)/\∀y,y∈Aj ts↔y∈ts:=by
 have key:∀(ts acc:List cx),b_ bd cx.tags acc->UG ts->(∀t∈ts,∀a∈acc,a.tags≠t.tags)->b_ bd cx.tags (ts.foldl (λl t=>aZ bd cx.tags t l) acc)/\∀y,y∈ts.foldl (λl t=>aZ bd cx.tags t l) acc↔y∈ts\/y∈acc:=by
  intro ts;induction ts with
  |nil=>intro acc h _ _;exact⟨h,by simp⟩
  |cons t ts ih=>
   intro acc h hp hd;obtain⟨h1,h2⟩:=List.pairwise_cons.1 hp;obtain⟨r1,r2⟩:=ih (aZ bd cx.tags t acc) (h.ins eh t) h2 λt' zD a ha=>by
    rcases(bh eh).1 ha with rfl|⟨ha,_⟩
    ·exact h1 t' zD
    ·exact hd t' (by simp[zD]) a ha
   refine⟨r1,λy=>?_⟩;simp only[foldl_cons];rw[r2,bh eh,mem_cons];constructor
   ·rintro(h|rfl|⟨h,_⟩)
    ·exact .inl (.inr h)
    ·exact .inl (.inl rfl)
    ·exact .inr h
   ·rintro((rfl|h)|h)
    ·exact .inr (.inl rfl)
    ·exact .inl h
    ·exact .inr (.inr ⟨h,hd t (by simp) y h⟩)
 obtain⟨a,b⟩:=key ts [] Pairwise.nil h (by simp);exact⟨a,λy=>by unfold Aj;rw[b];simp⟩
theorem PT{ts:List cx}(h:UG ts):(Aj ts).map cx.tok=iY (ts.map cx.tok):=by
 obtain⟨h1,h2⟩:=Ai h;refine GY (by rw[pairwise_map];exact h) (b_.map h1) λy=>?_;simp only[mem_map];constructor
 ·rintro⟨t,ht,e⟩;exact⟨t,(h2 t).1 ht,e⟩
 ·rintro⟨t,ht,e⟩;exact⟨t,(h2 t).2 ht,e⟩
theorem pN(ts:List cx):∀r∈ts.map cx.pv,r.length=3:=λr hr=>by obtain⟨x,_,rfl⟩:=mem_map.1 hr;rfl
theorem TR(ts:List cx):aU (ts.map cx.pv).flatten=true:=ri (pv:=cx.pv) (λ_=>rfl) ts
theorem Sv(f:Fl)(ts:List cx)(hl:ts.length<=10000000)(ht:∀t∈ts,t.tags.length<=1000000):au prog 174 [.list 3 f (ts.map cx.pv)] λp=>∃out:List cx,p=.list 3 .sh (out.map cx.pv)/\out.length=ts.length/\(UG ts->out=Aj ts):=by
 refine aa.abR (qP.c ?_);refine ak.dd (n:=ts.length) (by omega) (λk x u=>∃out:List cx,x.2.1=out.length/\out.length=k/\(UG (ts.take k)->out=Aj (ts.take k))/\(∀t∈out,t∈ts)/\Ow [cA 170 3 (pV x.1 x.2.1 x.2.2) (out.map cx.pv)] u) ⟨[],rfl,rfl,λ_=>rfl,by simp,cA.nil _ _ (L:=[]) trivial⟩ ?_ ?_
 ·rintro k ⟨a,n,c⟩ u next hk ⟨out,rfl,hol,hs,fE,hO⟩ av
  dsimp only at hO |-;have gf:=ht _ (getElem_mem hk);refine ab.t (by simpa using hk) ?_;refine⟨λs u'=>∃i:Nat,s=(i:Int)/\i<=out.length/\(∀(j:Nat) (h:j<out.length),i<=j->bd ts[k].tags out[j].tags<0)/\(i=0\/∃h:i-1<out.length,¬bd ts[k].tags out[i-1].tags<0)/\u'=u,?_,?_⟩
  ·refine ak.down (n:=out.length) (k:=0) (by omega) (by omega) (λi u'=>(∀(j:Nat) (h:j<out.length),i<=j->bd ts[k].tags out[j].tags<0)/\u'=u) ⟨λj h1 h2=>by omega,rfl⟩ ?_ ?_
   ·rintro j u' iZ h0 hj ⟨fR,rfl⟩ g_;obtain⟨b,rfl,dS,_⟩:=cA.at_ 0 hO rfl (pN out) (j:=j-1) (by simp;omega);have e1:wrap .i64 ((j:Int)-1)=((j-1:Nat):Int):=by rw[aD (by omega) (by omega)];omega
    rw[e1]at g_ |-;refine ab.t (by simpa using h0) ⟨by omega,_,aC hk,_,_,rfl,?_⟩;refine⟨by omega,by omega,.sh,(out[j-1]'(by omega)).tags.map gq,?_,?_⟩
    ·rw[Int.toNat_natCast];have:=dS 0 1 (by omega);rw[getElem_map]at this;exact this
    refine(SK .sh .sh _ _ (by omega) (by have:=ht _ (fE _ (getElem_mem (show j-1<out.length by omega)));omega)).call ⟨_,rfl,ab.mk (λh=>?_) (λh=>?_)⟩
    ·have h:=(nA _ _).1 h;refine g_ _ ⟨λq hq hjq=>?_,rfl⟩;by_cases e:q=j-1
     ·subst e;exact h
     ·exact fR q hq (by omega)
    ·refine⟨j,rfl,hj,fR,.inr ⟨by omega,λbI=>?_⟩,rfl⟩;rw[(nA _ _).2 bI]at h;cases h
   ·rintro u' iZ ⟨fR,rfl⟩;exact ab.f (by simp) ⟨0,rfl,by omega,fR,.inl rfl,rfl⟩
  ·rintro _ _ ⟨i,rfl,hi,fR,h0,rfl⟩;obtain⟨a',c',e,kg⟩:=cA.app hO (pN out);simp only[PV.raw.injEq,Value.slice.injEq,length_map]at e kg;obtain⟨rfl,_,rfl⟩:=e;refine kg _ _ _ rfl rfl (by omega) (by omega) λb2 c2 u2 gg=>?_;have e1:wrap .i64 (((out.length+1:Nat):Int)-1)=((out.length:Nat):Int):=by rw[aD (by omega) (by omega)];omega
   rw[e1];refine ak.down hi (by omega) (λj u=>∃y:cx,Ow [cA 170 3 (pV (some ⟨b2,0,none⟩) (out.length+1) c2) ((out.take j++y::out.drop j).map cx.pv)] u) ⟨⟨[],[],0⟩,?_⟩ ?_ ?_
   ·rw[take_length,drop_length,map_append];exact gg
   ·rintro j u3 QD Km Tz ⟨y,wI⟩ Fh;have hlen:((out.take j++y::out.drop j).map cx.pv).length=out.length+1:=by rw[length_map,jA]
    obtain⟨b3,e3,dS,_⟩:=cA.at_ 0 wI rfl (pN _) (j:=j-1) (by rw[hlen];omega);simp only[Option.some.injEq,Addr.mk.injEq]at e3;obtain⟨rfl,_⟩:=e3;obtain⟨b4,e4,_,fC⟩:=cA.at_ 0 wI rfl (pN _) (j:=j) (by rw[hlen];omega);simp only[Option.some.injEq,Addr.mk.injEq]at e4;obtain⟨rfl,_⟩:=e4;have ej:wrap .i64 ((j:Int)-1)=((j-1:Nat):Int):=by rw[aD (by omega) (by omega)];omega
    rw[ej]at Fh |-;have nE:=QY (pv:=cx.pv) out j y (by omega) Tz;refine ab.t (by simpa using Km) ⟨by omega,by omega,.sh,(out[j-1]'(by omega)).tags.map gq,.sh,(out[j-1]'(by omega)).binds.map Bind.pv,(out[j-1]'(by omega)).at_,?_,by omega,by omega,?_⟩
    ·rw[Int.toNat_natCast];have:=dS 0 3 (by omega);rw[(List.getElem?_eq_some_iff.1 nE).2]at this;exact this
    ·rw[Int.toNat_natCast];refine fC 0 _ _ (by simp) λu4 pH=>Fh _ ⟨out[j-1]'(by omega),?_⟩;have ew:∀r:List PV,r.length=3->dx r 0 (out[j-1]'(by omega)).pv=(out[j-1]'(by omega)).pv:=λr hr=>by
      unfold dx;simp[hr]
     have pH:Ow [cA 170 3 (pV (some ⟨b2,0,none⟩) (out.length+1) c2) (((out.take j++y::out.drop j).map cx.pv).set j (dx _ 0 (out[j-1]'(by omega)).pv))] u4:=pH;rw[ew _ (pN _ _ (getElem_mem _)),HF (pv:=cx.pv) out j y (by omega) Tz]at pH;exact pH
   ·rintro u3 QD ⟨y,wI⟩;have hlen:((out.take i++y::out.drop i).map cx.pv).length=out.length+1:=by rw[length_map,jA]
    obtain⟨b4,e4,_,fC⟩:=cA.at_ 0 wI rfl (pN _) (j:=i) (by rw[hlen];omega);simp only[Option.some.injEq,Addr.mk.injEq]at e4;obtain⟨rfl,_⟩:=e4;refine ab.f (by simp) ⟨by omega,_,aC hk,_,_,_,_,_,rfl,by omega,by omega,?_⟩;rw[Int.toNat_natCast];refine fC 0 _ _ (by simp) λu4 pH=>av _ _ ⟨out.take i++ts[k]::out.drop i,by rw[jA],by rw[jA];omega,λhn=>?_,λt h=>?_,?_⟩
    ·have agz:ts.take (k+1)=ts.take k++[ts[k]]:=by rw[take_add_one,getElem?_eq_getElem hk];rfl
     have hn:UG (ts.take (k+1)):=hn;rw[agz]at hn |-;obtain⟨n1,_,n3⟩:=List.pairwise_append.1 hn;have Kb:=hs n1;obtain⟨m1,m2⟩:=Ai n1;rw[Dd];subst Kb;exact QX m1 hi (λy hy=>n3 y ((m2 y).1 hy) _ (by simp)) fR h0
    ·rcases mem_append.1 h with h|h
     ·exact fE t (mem_of_mem_take h)
     ·rcases mem_cons.1 h with rfl|h
      ·exact getElem_mem hk
      ·exact fE t (List.mem_of_mem_drop h)
    ·have ew:∀r:List PV,r.length=3->dx r 0 ts[k].pv=ts[k].pv:=λr hr=>by unfold dx;simp[hr]
     have pH:Ow [cA 170 3 (pV (some ⟨b2,0,none⟩) (out.length+1) c2) (((out.take i++y::out.drop i).map cx.pv).set i (dx _ 0 ts[k].pv))] u4:=pH;rw[ew _ (pN _ _ (getElem_mem _)),Md (pv:=cx.pv) out i ts[k] y hi]at pH;exact pH
 ·rintro⟨a,n,c⟩ u next ⟨out,rfl,hol,hs,fE,hO⟩
  rw[take_length]at hs;exact ab.f (by simp) ⟨_,cA.view 0 hO rfl (pN out) (TR out),out,rfl,hol,hs⟩
end Go.Proofs.YtbodiiomcfgokaaGreat
