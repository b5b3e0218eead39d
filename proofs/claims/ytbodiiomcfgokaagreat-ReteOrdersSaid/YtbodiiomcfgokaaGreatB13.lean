import Derived.Test.YtbodiiomcfgokaaGreatB12
set_option linter.all false
namespace Go.Proofs.YtbodiiomcfgokaaGreat
open Go.aK Go.RowKit
def oC(es add:List af)(drop:List Int)(kA:List af):Prop:=ca aA aH kA/\∀e,e∈kA↔(e∈add\/(e∈es/\e.tag∉drop))
theorem oC.uniq{es add:List af}{drop:List Int}{a b:List af}(h:oC es add drop a)(k:oC es add drop b):a=b:=ca.ext ax h.1 k.1 λe=>(h.2 e).trans (k.2 e).symm
def nU(add:List af):Prop:=∀e∈add,jR e=true/\1<=e.tag
def eN(es:List af)(drop:List Int):Prop:=drop.Nodup/\∀t∈drop,∃e∈es,e.tag=t
def fi(es add:List af)(drop:List Int):Prop:=(add.map aH).Nodup/\∀e∈add,(∃e'∈es,e'.tag=e.tag)->e.tag∈drop
inductive iA(B M:Int)(es:List af)(ps:List Prod)(add:List af)(drop:List Int):Int->List af->Prop
 |form (h:¬nU add):iA B M es ps add drop 9 es
 |none (h:nU add) (h2:¬eN es drop):iA B M es ps add drop 4 es
 |there (h:nU add) (h2:eN es drop) (h3:¬fi es add drop):iA B M es ps add drop 3 es
 |dH (h:nU add) (h2:eN es drop) (h3:fi es add drop) (kA:List af) (h4:oC es add drop kA) (h5:∃q∈ps,du B kA q.conds):iA B M es ps add drop 25 es
 |eK (h:nU add) (h2:eN es drop) (h3:fi es add drop) (kA:List af) (h4:oC es add drop kA) (h5:¬ ∃q∈ps,du B kA q.conds) (h6:M<((bK kA ps:Nat):Int)):iA B M es ps add drop 26 es
 |ok (h:nU add) (h2:eN es drop) (h3:fi es add drop) (kA:List af) (h4:oC es add drop kA) (h5:¬ ∃q∈ps,du B kA q.conds) (h6:((bK kA ps:Nat):Int)<=M):iA B M es ps add drop 0 kA
def aS(O es:List af):List af:=O.foldl (λl e=>bq aA aH e.tag l) es
def cY(A es:List af):List af:=A.foldl (λl e=>bc aA aH e l) es
theorem iH{O:List af}{k:Nat}(hk:k<O.length)(es:List af):aS (O.take (k+1)) es=bq aA aH O[k].tag (aS (O.take k) es):=by
 unfold aS;rw[List.take_add_one,List.getElem?_eq_getElem hk,List.foldl_append];rfl
theorem jJ{A:List af}{k:Nat}(hk:k<A.length)(es:List af):cY (A.take (k+1)) es=bc aA aH A[k] (cY (A.take k) es):=by
 unfold cY;rw[List.take_add_one,List.getElem?_eq_getElem hk,List.foldl_append];rfl
theorem nW:∀(O:List af) {es:List af},ca aA aH es->ca aA aH (aS O es)
 |[],_,h=>h
 |o::O,_,h=>nW O (h.del _)
theorem nm:∀(A:List af) {es:List af},ca aA aH es->ca aA aH (cY A es)
 |[],_,h=>h
 |a::A,_,h=>nm A (h.ins ax a)
theorem dO:∀{O es:List af} {e:af},e∈aS O es↔e∈es/\∀o∈O,e.tag≠o.tag
 |[],es,e=>by simp[aS]
 |o::O,es,e=>by
  show e∈aS O (bq aA aH o.tag es)↔_
  rw[dO,eF ax]
  constructor
  ·rintro⟨⟨h1,h2⟩,h3⟩
   refine⟨h1,λo' ho=>?_⟩
   rcases List.mem_cons.1 ho with rfl|ho
   ·exact h2
   ·exact h3 o' ho
  ·rintro⟨h1,h2⟩
   exact⟨⟨h1,h2 o (by simp)⟩,λo' ho=>h2 o' (by simp[ho])⟩
theorem gF:∀{A es:List af} {e:af},(A.map aH).Nodup->(∀a∈A,∀y∈es,y.tag≠a.tag)->(e∈cY A es↔e∈A\/e∈es)
 |[],es,e,_,_=>by simp[cY]
 |a::A,es,e,hn,hd=>by
  rw[List.map_cons,List.nodup_cons]at hn
  show e∈cY A (bc aA aH a es)↔_
  have hd2:∀b∈A,∀y∈bc aA aH a es,y.tag≠b.tag:=λb hb y hy=>by
   rcases(bj ax).1 hy with rfl|⟨h,_⟩
   ·intro e;exact hn.1 (List.mem_map.2 ⟨b,hb,e.symm⟩)
   ·exact hd b (by simp[hb]) y h
  rw[gF hn.2 hd2,bj ax,List.mem_cons]
  constructor
  ·rintro(h|rfl|⟨h,_⟩)
   ·exact .inl (.inr h)
   ·exact .inl (.inl rfl)
   ·exact .inr h
  ·rintro((rfl|h)|h)
   ·exact .inr (.inl rfl)
   ·exact .inl h
   ·exact .inr (.inr ⟨h,hd a (by simp) e h⟩)
theorem Qt{es:List af}{e:af}:(bc aA aH e es).length<=es.length+1:=yh
theorem rl:∀(A:List af) (es:List af),(cY A es).length<=es.length+A.length
 |[],_=>by simp[cY]
 |a::A,es=>by
  show(cY A (bc aA aH a es)).length<=_
  have h1:=rl A (bc aA aH a es)
  have h2:=Qt (es:=es) (e:=a)
  simp only[List.length_cons];omega
theorem sW:∀(O:List af) (es:List af),(aS O es).length<=es.length
 |[],_=>by simp[aS]
 |o::O,es=>by
  show(aS O (bq aA aH o.tag es)).length<=_
  have h1:=sW O (bq aA aH o.tag es)
  have h2:(bq aA aH o.tag es).length<=es.length:=sY
  omega
structure Sets(es add:List af)(drop:List Int)(O A:List af):Prop where
 uO:ca aA aH O
 mO:∀e,e∈O↔e∈es/\e.tag∈drop
 uA:ca aA aH A
 mA:∀e,e∈A↔e∈add
theorem iO{A:List af}(h:ca aA aH A):(A.map aH).Nodup:=by
 have h1:(A.map aH).Pairwise λa b=>aA a b<0:=by rw[List.pairwise_map];exact h
 refine h1.imp λ{a b} uk e=>?_
 rw[e]at uk
 exact absurd uk (by rw[ax.self b];omega)
section
variable {es add O A:List af} {drop:List Int}
theorem Sets.sep(h:Sets es add drop O A)(hu:ca aA aH es)(ha:fi es add drop):∀a∈A,∀y∈aS O es,y.tag≠a.tag:=λa haA y hy e=>by
 obtain⟨h1,h2⟩:=dO.1 hy
 have:=ha.2 a ((h.mA a).1 haA) ⟨y,h1,e⟩
 exact h2 y ((h.mO y).2 ⟨h1,by rw[e];exact this⟩) rfl
theorem Sets.new(h:Sets es add drop O A)(hu:ca aA aH es)(hd:eN es drop)(ha:fi es add drop):oC es add drop (cY A (aS O es)):=by
 refine⟨nm _ (nW _ hu),λe=>?_⟩
 rw[gF (iO h.uA) (h.sep hu ha),h.mA,dO]
 constructor
 ·rintro(h1|⟨h1,h2⟩)
  ·exact .inl h1
  ·exact .inr ⟨h1,λh3=>h2 e ((h.mO e).2 ⟨h1,h3⟩) rfl⟩
 ·rintro(h1|⟨h1,h2⟩)
  ·exact .inl h1
  ·refine .inr ⟨h1,λo ho e'=>?_⟩
   exact h2 (e'▸((h.mO o).1 ho).2)
theorem Sets.fresh(h:Sets es add drop O A)(hu:ca aA aH es)(ha:fi es add drop){k:Nat}(hk:k<A.length):aL aA aH A[k].tag (cY (A.take k) (aS O es))=none:=by
 refine(bx ax).2 λy hy e=>?_
 have e:y.tag=A[k].tag:=e
 have eZ:∀a∈A.take k,a∈A:=λa ha=>List.mem_of_mem_take ha
 rcases(gF (iO (List.Pairwise.sublist (List.take_sublist _ _) h.uA)) (λa ha'=>h.sep hu ha a (eZ a ha'))).1 hy with h1|h1
 ·obtain⟨j,hj,rfl⟩:=List.mem_iff_getElem.1 h1
  rw[List.getElem_take]at e
  simp only[List.length_take]at hj
  have:=List.pairwise_iff_getElem.1 h.uA j k (by omega) hk (by omega)
  have:=tS.1 this
  simp only[aH]at this
  omega
 ·exact h.sep hu ha A[k] (List.getElem_mem hk) y h1 e
theorem Sets.back(h:Sets es add drop O A)(hu:ca aA aH es)(ha:fi es add drop):cY O (aS A (cY A (aS O es)))=es:=by
 have hm:∀y,y∈aS A (cY A (aS O es))↔y∈aS O es:=λy=>by
  rw[dO,gF (iO h.uA) (h.sep hu ha)]
  constructor
  ·rintro⟨h1|h1,h2⟩
   ·exact absurd rfl (h2 y h1)
   ·exact h1
  ·intro h1
   exact⟨.inr h1,λa haA=>h.sep hu ha a haA y h1⟩
 have hs:∀o∈O,∀y∈aS A (cY A (aS O es)),y.tag≠o.tag:=λo ho y hy=>(dO.1 ((hm y).1 hy)).2 o ho
 refine ca.ext ax (nm _ (nW _ (nm _ (nW _ hu)))) hu λy=>?_
 rw[gF (iO h.uO) hs,hm,dO]
 constructor
 ·rintro(h1|⟨h1,_⟩)
  ·exact((h.mO y).1 h1).1
  ·exact h1
 ·intro h1
  by_cases hO:y∈O
  ·exact .inl hO
  ·refine .inr ⟨h1,λo ho e=>hO ?_⟩
   have:=hu.inj ax h1 ((h.mO o).1 ho).1 e
   rw[this];exact ho
theorem Sets.ab2(h:Sets es add drop O A)(hu:ca aA aH es)(ha:fi es add drop){k:Nat}(hk:k<O.length):aL aA aH O[k].tag (cY (O.take k) (aS A (cY A (aS O es))))=none:=by
 refine(bx ax).2 λy hy e=>?_
 have e:y.tag=O[k].tag:=e
 have hm:∀y,y∈aS A (cY A (aS O es))->y∈aS O es:=λy hy=>by
  obtain⟨h1,h2⟩:=dO.1 hy
  rcases(gF (iO h.uA) (h.sep hu ha)).1 h1 with h3|h3
  ·exact absurd rfl (h2 y h3)
  ·exact h3
 have hs:∀o∈O.take k,∀y∈aS A (cY A (aS O es)),y.tag≠o.tag:=λo ho y hy=>(dO.1 (hm y hy)).2 o (List.mem_of_mem_take ho)
 rcases(gF (iO (List.Pairwise.sublist (List.take_sublist _ _) h.uO)) hs).1 hy with h1|h1
 ·obtain⟨j,hj,rfl⟩:=List.mem_iff_getElem.1 h1
  rw[List.getElem_take]at e
  simp only[List.length_take]at hj
  have:=List.pairwise_iff_getElem.1 h.uO j k (by omega) hk (by omega)
  have:=tS.1 this
  simp only[aH]at this
  omega
 ·exact(dO.1 (hm y h1)).2 O[k] (List.getElem_mem hk) e
theorem Sets.loc(h:Sets es add drop O A)(hu:ca aA aH es)(ha:fi es add drop){p:af->Bool}(h1:∀o∈O,p o=false)(h2:∀a∈A,p a=false):es.filter p=(cY A (aS O es)).filter p:=by
 refine ca.ext ax (hu.filter _) ((nm _ (nW _ hu)).filter _) λy=>?_
 rw[List.mem_filter,List.mem_filter,gF (iO h.uA) (h.sep hu ha),dO]
 constructor
 ·rintro⟨g1,g2⟩
  refine⟨.inr ⟨g1,λo ho e=>?_⟩,g2⟩
  have:=hu.inj ax g1 ((h.mO o).1 ho).1 e
  rw[this,h1 o ho]at g2;cases g2
 ·rintro⟨g1|⟨g1,_⟩,g2⟩
  ·rw[h2 y g1]at g2;cases g2
  ·exact⟨g1,g2⟩
end
def acP(ms:dL)(S:List RN.El)(l:List af):Prop:=∀y∈ms,¬Qu S y.1->∀e∈l,bw y.2.c e=false
theorem Gs{ms dd:dL}(hs:gE ms dd)(hu:ca aA cA ms)(iu:ca aA cA dd){y:Int×fM}(hy:y∈ms){e:af}(hm:bw y.2.c e=true):y.1∈fS e dd:=by
 have h1:aL aA cA y.1 ms=some y:=(aM ax hu).2 ⟨hy,rfl⟩
 have h2:=hs y.1
 rw[h1]at h2
 cases hg:aL aA cA y.1 dd with
 |none=>rw[hg]at h2;cases h2
 |some z=>
  rw[hg]at h2
  simp only[Option.map_some,Option.some.injEq,Prod.mk.injEq]at h2
  obtain⟨hz,HH⟩:=(aM ax iu).1 hg
  exact List.mem_map.2 ⟨z,List.mem_filter.2 ⟨hz,by rw[h2.1];exact hm⟩,HH⟩
open Go.Proofs.Tryz
set_option maxRecDepth 100000
theorem zJ{l:List af}(hu:ca aA aH l){t:Int}:(aL aA aH t l).isSome=true↔∃e∈l,e.tag=t:=by
 constructor
 ·intro h
  obtain⟨e,he⟩:=Option.isSome_iff_exists.1 h
  obtain⟨h1,h2⟩:=(aM ax hu).1 he
  exact⟨e,h1,h2⟩
 ·rintro⟨e,h1,h2⟩
  rw[(aM ax hu).2 ⟨h1,h2⟩];rfl
theorem tP{l:List af}{t:Int}:aL aA aH t l=none↔∀e∈l,e.tag≠t:=bx ax
theorem CY{α:Type}{l:List α}{k:Nat}(hk:k<l.length)(h:(l.take k).Nodup)(hn:l[k]∉l.take k):(l.take (k+1)).Nodup:=by
 rw[List.take_add_one,List.getElem?_eq_getElem hk]
 exact List.nodup_append.2 ⟨h,by simp,λa ha b hb e=>by simp at hb;subst e hb;exact hn ha⟩
theorem dg{α:Type}{l:List α}{k:Nat}(hk:k<l.length){a:α}:a∈l.take (k+1)↔a∈l.take k\/a=l[k]:=by
 rw[List.take_add_one,List.getElem?_eq_getElem hk,List.mem_append];simp
section
variable {n:Nat} {x:NC} {es:List af} {ps:List Prod} {w:Nat}
theorem Kn{bm:Nat}{S0:List RN.El}{l:List Int}{LK:Nat}{Pre:List aY}{L:List aY}{u:Mem}{R:Mem->Prop}(hl:∀j∈l,-1<=j/\j<1000000)(sM:l.length<=1000000)(hS0:ca RN.ck RN.key S0)(hb:S0.length+l.length<=900000000)
  (hO:Ow (RN.At bm S0::Pt LK 177 [pP bm 0]::L) u)
  (hk:∀S u',ca RN.ck RN.key S->S.length<=S0.length+l.length->(∀s,Qu S0 s->Qu S s)->(∀j∈l,Qu S j)->Ow (RN.At bm S::Pt LK 177 [pP bm 0]::L) u'->R u'):
  ak (α:=Int) (λaaY s_3 aax=>
         ab (decide ((s_3:Int)<((List.length (l.map ir):Nat):Int)))
         ((0:Int)<=s_3/\∃(aek:List PV),(l.map ir)[Int.toNat s_3]?=some aek/\
          ∃(adM:Int),ay aek 0 1=some [(pI adM)]/\
          ∃(adL:Option Addr),aB aax LK 0 1=some [(.raw (.pointer adL))]/\
          aa prog 97 [(.raw (.pointer adL)),(pI adM)] aax λahD ahF=>
          ∃(ahy:Bool),ahD=(pB ahy)/\
          aaY (IntKind.wrap .i64 (s_3+(1))) ahF)
         (R aax)) 0 u:=by
 refine ak.each (n:=l.length) (by omega) (λk u=>∃S,(ca RN.ck RN.key S/\S.length<=S0.length+k/\(∀s,Qu S0 s->Qu S s)/\(∀j∈l.take k,Qu S j))/\Ow (RN.At bm S::Pt LK 177 [pP bm 0]::L) u) ⟨S0,⟨hS0,by omega,λs h=>h,by simp⟩,hO⟩ ?_ ?_
 ·rintro k u next fH ⟨S,⟨hS,Yd,h1,h2⟩,h3⟩ ar
  have hj:=hl _ (List.getElem_mem fH)
  refine ab.t (by simpa using fH) ⟨by omega,_,vK fH,_,rfl,_,h3.rd 1 rfl (by simp),?_⟩
  refine RN.gW (l:=S) h3 hS (by omega) ⟨l[k],hj⟩ λu2 h4=>⟨_,rfl,ar _ ⟨_,⟨hS.put RN.hc _,?_,?_,?_⟩,h4⟩⟩
  ·have:=CM (ck:=RN.ck) (key:=RN.key) (x:=(⟨l[k],hj⟩:RN.El)) (L:=S)
   omega
  ·rintro s hs
   obtain⟨y,hy,rfl⟩:=h1 s hs
   refine⟨y,?_,rfl⟩
   unfold et
   split
   ·exact hy
   ·rename_i hn
    have ZA:aL RN.ck RN.key (RN.key (⟨l[k],hj⟩:RN.El)) S=none:=by
     cases hg:aL RN.ck RN.key (RN.key (⟨l[k],hj⟩:RN.El)) S with
     |none=>rfl
     |some z=>rw[hg]at hn;exact absurd rfl hn
    exact(bj RN.hc).2 (.inr ⟨hy,(bx RN.hc).1 ZA y hy⟩)
  ·intro j EF
   have aaP:∀y∈S,y∈et RN.ck RN.key (⟨l[k],hj⟩:RN.El) S:=λy hy=>by
    unfold et
    split
    ·exact hy
    ·rename_i hn
     have ZA:aL RN.ck RN.key (RN.key (⟨l[k],hj⟩:RN.El)) S=none:=by
      cases hg:aL RN.ck RN.key (RN.key (⟨l[k],hj⟩:RN.El)) S with
      |none=>rfl
      |some z=>rw[hg]at hn;exact absurd rfl hn
     exact(bj RN.hc).2 (.inr ⟨hy,(bx RN.hc).1 ZA y hy⟩)
   rcases(dg fH).1 EF with EF|rfl
   ·obtain⟨y,hy,e⟩:=h2 j EF
    exact⟨y,aaP y hy,e⟩
   ·unfold et
    split
    ·rename_i hs
     obtain⟨y,hy⟩:=Option.isSome_iff_exists.1 hs
     obtain⟨a1,a2⟩:=(aM RN.hc hS).1 hy
     exact⟨y,a1,a2⟩
    ·exact⟨_,(bj RN.hc).2 (.inl rfl),rfl⟩
 ·rintro u next ⟨S,⟨hS,Yd,h1,h2⟩,h3⟩
  rw[List.take_length]at h2
  exact ab.f (by simp) (hk S u hS Yd h1 h2 h3)
theorem Km{e:af}{ms:dL}(hA:eC es ms):∀j∈fS e ms,-1<=j/\j<1000000:=λj hj=>by
 obtain⟨y,hy,rfl⟩:=List.mem_map.1 hj
 have:=hA.num y (List.mem_filter.1 hy).1
 exact⟨by omega,this.2⟩
theorem Xp{T:Tree}{B:Int}{ms:dL}{tk:Path->List cf}{ct:Path->List Nat}(h:kV B T es ms tk ct):∀p∈T.D,∀j∈T.M p,-1<=j/\j<1000000:=λp hp j hj=>by
 refine⟨h.tree.mge p hp j hj,?_⟩
 by_cases h0:0<=j
 ·have h1:=h.use.use j h0
  have h2:0<(T.D.flatMap T.M).count j:=List.count_pos_iff.2 (List.mem_flatMap.2 ⟨p,hp,hj⟩)
  unfold gT at h1
  cases hg:aL aA cA j ms with
  |none=>
   rw[hg]at h1
   have h1:(0:Int)=_:=h1
   omega
  |some y=>
   obtain⟨h3,h4⟩:=(aM ax h.use.inv.pJ).1 hg
   have h4:y.1=j:=h4
   have:=(h.use.inv.num y h3).2
   omega
 ·omega
theorem pd.Cf{T:Tree}{ms dd:dL}{ids jP:pt}{fs:List af}{tk xq:Path->List cf}{ct Bh:Path->List Nat}{W:Path->Prop}(h:pd x T es ms ids tk ct ps w W)(hA:eC fs dd)(hI:kJ fs jP)(hs:gE ms dd)(iB:YS T x.T fs xq Bh)(Dt:∀e∈fs,1<=e.tag/\e.tag<9223372036854775808):pd x T fs dd jP xq Bh ps w W:=
 ⟨⟨h.core.tree,hs.use h.core.use hA,λp c hp=>DJ hs.mem c 0 (h.core.fit p c hp),iB⟩,h.uf,hI,h.root,h.tb,h.mb,h.si,h.rE,h.pD,h.ends,Dt,h.xt,h.dl⟩
theorem SX{T:Tree}{ms:dL}{ids:pt}{tk:Path->List cf}{ct:Path->List Nat}{fs:List af}(h:pd x T es ms ids tk ct ps w (λ_=>False)):(∃q c j,q++[c]∈T.D/\x.T<((dZ fs c (au fs q) j:Nat):Int))↔∃p∈ps,du x.T fs p.conds:=by
 constructor
 ·rintro⟨q,c,j,hD,hj⟩
  have key:∀(m:Nat) (r:Path),r∈T.D->r≠[]->17-r.length<=m->∃p∈ps,r <+: p.conds:=by
   intro m
   induction m with
   |zero=>intro r hr _ hm;have:=h.core.tree.len r hr;omega
   |succ m ih=>
    intro r hr AP hm
    rcases h.uf r hr AP (λh=>h)with hk|he
    ·cases hK:T.K r with
     |nil=>exact absurd hK hk
     |cons d l=>
      have hd:r++[d]∈T.D:=(h.core.tree.kids r hr d).1 (by rw[hK];simp)
      obtain⟨p,hp,cZ⟩:=ih (r++[d]) hd (by simp) (by simp;omega)
      exact⟨p,hp,List.IsPrefix.trans (List.prefix_append _ _) cZ⟩
    ·rw[h.ends r hr]at he
     obtain⟨p,hp⟩:=List.exists_mem_of_length_pos he
     obtain⟨h1,h2⟩:=List.mem_filter.1 hp
     have h2:p.conds=r:=by simpa using h2
     exact⟨p,h1,by rw[h2];exact List.prefix_refl _⟩
  obtain⟨p,hp,s,hs⟩:=key 17 (q++[c]) hD (by simp) (by omega)
  have hl:q.length<p.conds.length:=by rw[<- hs];simp
  refine⟨p,hp,q.length,hl,j,?_⟩
  have e1:p.conds.take q.length=q:=by rw[<- hs,List.append_assoc,List.take_left'];rfl
  have e2:p.conds[q.length]=c:=by
   have:p.conds[q.length]?=some c:=by rw[<- hs];simp
   rw[List.getElem?_eq_getElem hl]at this
   simpa using this
  rw[e1,e2];exact hj
 ·rintro⟨p,hp,i,hi,j,hj⟩
  refine⟨p.conds.take i,p.conds[i],j,?_,hj⟩
  have:p.conds.take (i+1)=p.conds.take i++[p.conds[i]]:=by rw[List.take_add_one,List.getElem?_eq_getElem hi];rfl
  rw[<- this]
  exact h.core.tree.xR (h.pD p hp) (List.take_prefix _ _)
theorem kj(hw:w<=100)(fl1 fl2:Fl)(add:List af)(drop:List Int)(hal:add.length<=400)(hdl:drop.length<=400)(IY:es.length+add.length<=900000)(aiv:∀e∈add,e.tag<9223372036854775808){L:List aY}{μ:Mem}(hO:Ow (bR n x es ps w::L) μ){K:Kq}
  (hk:∀e kA μ',iA x.T x.M es ps add drop e kA->Ow (bR n x kA ps w::L) μ'->K (pI e) μ'):
  aa prog 39 [pP n 0,.list 12 fl1 (add.map af.pv),.list 1 fl2 (drop.map gz)] μ K:=by
 obtain⟨T,ms,ids,tk,ct,fr,mn,⟨hR,dQ⟩,h1⟩:=bR.open_ hO
 obtain⟨ht1,XG⟩:=hR.tb
 obtain⟨AS,uX⟩:=hR.mb
 have hA:=hR.core.use.inv
 have hI:=hR.ids
 have hu:=hA.ua
 have hlen:=hA.le
 refine yO.c λb3 DB=>?_
 have O1:Ow (an n x es ms ids::cb T tk ct fr mn::RP.cU x.pr (ps.map (fZ T.B))::RT.At x.el es::Pt b3 39 [pP n 0]::L) _:=Ow.ord [1,1,1,1,0] (h1.new 39 [pP n 0] DB)
 have FK:∀{u:Mem} {M:List aY},Ow (an n x es ms ids::cb T tk ct fr mn::RP.cU x.pr (ps.map (fZ T.B))::RT.At x.el es::Pt b3 39 [pP n 0]::M) u->(∀μ,Ow M μ->Ow L μ)->Ow (bR n x es ps w::L) u:=λh hM=>bR.shut hR dQ (h.tail λ_ h=>h.tail λ_ h=>h.tail λ_ h=>h.tail λ_ h=>hM _ h.drop)
 refine ak.dm (n:=add.length) (by omega) (λk s u=>(∀e∈add.take k,jR e=true/\1<=e.tag)/\Ow (an n x es ms ids::cb T tk ct fr mn::RP.cU x.pr (ps.map (fZ T.B))::RT.At x.el es::Pt b3 39 [pP n 0]::L) u) ⟨by simp,O1⟩ ?_ ?_
 ·rintro k s u next fH ⟨hv,h2⟩ ar
  refine ab.t (by simpa using fH) ⟨by omega,_,aw fH,_,_,_,_,_,_,_,_,_,_,_,_,rfl,(Rj add[k]).call ⟨_,rfl,ab.mk (λhb=>?_) (λhb=>ab.mk (λrU=>?_) (λrU=>ar _ _ ⟨λe he=>?_,h2⟩))⟩⟩
  ·refine hk _ _ _ (.form λhg=>?_) (FK h2 λ_ h=>h)
   rw[(hg _ (List.getElem_mem fH)).1]at hb;cases hb
  ·refine hk _ _ _ (.form λhg=>?_) (FK h2 λ_ h=>h)
   have:=(hg _ (List.getElem_mem fH)).2
   have ajo:add[k].tag<1:=by simpa using rU
   omega
  ·rcases(dg fH).1 he with he|rfl
   ·exact hv e he
   ·have ajo:¬add[k].tag<1:=by simpa using rU
    exact⟨nt hb,by omega⟩
 rintro s u next ⟨hv,h2⟩
 rw[List.take_length]at hv
 have iv:nU add:=hv
 refine ab.f (by simp) ?_
 clear O1 h1
 refine RT.iy h2 .nil [] (by simp) λu1 bo h3=>⟨_,rfl,?_⟩
 have h3:Ow (an n x es ms ids::cb T tk ct fr mn::RP.cU x.pr (ps.map (fZ T.B))::RT.At x.el es::Pt b3 39 [pP n 0]::RT.At bo []::L) u1:=Ow.ord [1,1,1,1,1,0] h3
 dsimp only
 refine ak.dm (n:=drop.length) (by omega) (λk s u=>∃O,(ca aA aH O/\(∀e,e∈O↔e∈es/\e.tag∈drop.take k)/\(drop.take k).Nodup/\∀t∈drop.take k,∃e∈es,e.tag=t)/\Ow (an n x es ms ids::cb T tk ct fr mn::RP.cU x.pr (ps.map (fZ T.B))::RT.At x.el es::Pt b3 39 [pP n 0]::RT.At bo O::L) u) ⟨[],⟨List.Pairwise.nil,by simp,by simp,by simp⟩,h3⟩ ?_ ?_
 ·rintro k s u next fH ⟨O,⟨Wo,Ut,Bv,gG⟩,h4⟩ ar
  have hOl:O.length<=es.length:=by
   have:=k_ (iO Wo) (b:=es.map aH) λt ht=>by
    obtain⟨e,he,rfl⟩:=List.mem_map.1 ht
    exact List.mem_map_of_mem ((Ut e).1 he).1
   simpa using this
  have bad:¬(drop[k]∉drop.take k/\∃e∈es,e.tag=drop[k])->¬eN es drop:=λhb hd=>hb ⟨λhm=>by
   obtain⟨j,hj,e⟩:=List.mem_iff_getElem.1 hm
   rw[List.getElem_take]at e
   rw[List.length_take]at hj
   have:=(List.getElem_inj hd.1 (h₀:=by omega) (h₁:=fH)).1 e
   omega,hd.2 _ (List.getElem_mem fH)⟩
  refine ab.t (by simpa using fH) ⟨by omega,_,vK fH,_,rfl,_,h4.rd 4 rfl (by simp),?_⟩
  refine aaj hu (by omega) drop[k] (Ow.ord [0,2] h4) (λe he=>⟨_,_,_,_,_,_,_,_,_,_,_,_,_,rfl,ab.f rfl ?_⟩) (λhn=>⟨_,_,_,_,_,_,_,_,_,_,_,_,_,rfl,ab.t rfl ?_⟩)
  ·obtain⟨QF,het⟩:=(aM ax hu).1 he
   have het:e.tag=drop[k]:=het
   refine RT.gW (l:=O) (Ow.ord [5] h4) Wo (by omega) e λu2 h5=>⟨_,rfl,?_⟩
   have h5':Ow (an n x es ms ids::cb T tk ct fr mn::RP.cU x.pr (ps.map (fZ T.B))::RT.At x.el es::Pt b3 39 [pP n 0]::RT.At bo (et RT.ck RT.key e O)::L) u2:=Ow.ord [1,1,1,1,1,0] h5
   refine ab.mk (λhb=>?_) (λhb=>?_)
   ·refine hk _ _ _ (.none iv (bad λhh=>?_)) (FK h5' λ_ h=>h.drop)
    have hs:(aL aA aH e.tag O).isSome=true:=by
     have:(aL aA aH e.tag O).isNone=false:=nb hb
     cases hg:aL aA aH e.tag O with
     |none=>rw[hg]at this;cases this
     |some z=>rfl
    obtain⟨z,Tz,hz2⟩:=(zJ Wo).1 hs
    have:=((Ut z).1 Tz).2
    rw[hz2,het]at this
    exact hh.1 this
   ·have hn:aL aA aH e.tag O=none:=by
     have:(aL aA aH e.tag O).isNone=true:=nt hb
     cases hg:aL aA aH e.tag O with
     |none=>rfl
     |some z=>rw[hg]at this;cases this
    have E_:et RT.ck RT.key e O=bc aA aH e O:=by
     rw[et,show aL RT.ck RT.key (RT.key e) O=none from hn];rfl
    rw[E_]at h5'
    have hnm:drop[k]∉drop.take k:=λhm=>by
     have:e∈O:=(Ut e).2 ⟨QF,by rw[het];exact hm⟩
     exact tP.1 hn e this rfl
    refine ar _ _ ⟨_,⟨Wo.ins ax e,λy=>?_,CY fH Bv hnm,λt ht=>?_⟩,h5'⟩
    ·rw[bj ax,Ut,dg fH]
     constructor
     ·rintro(rfl|⟨⟨a1,a2⟩,_⟩)
      ·exact⟨QF,.inr het⟩
      ·exact⟨a1,.inl a2⟩
     ·rintro⟨a1,a2|a2⟩
      ·refine .inr ⟨⟨a1,a2⟩,λe'=>hnm ?_⟩
       have e':y.tag=e.tag:=e'
       rw[<- het,<- e'];exact a2
      ·exact .inl (hu.inj ax a1 QF (by show y.tag=e.tag;rw[a2,het]))
    ·rcases(dg fH).1 ht with ht|rfl
     ·exact gG t ht
     ·exact⟨e,QF,het⟩
  ·refine hk _ _ _ (.none iv (bad λhh=>?_)) (FK h4 λ_ h=>h.drop)
   obtain⟨e,he,het⟩:=hh.2
   exact tP.1 hn e he het
 rintro s u next ⟨O,⟨Wo,Ut,Bv,gG⟩,h4⟩
 rw[List.take_length]at Ut Bv gG
 have zG:eN es drop:=⟨Bv,gG⟩
 refine ab.f (by simp) ?_
 have hOl:O.length<=drop.length:=by
  have:=k_ (iO Wo) (b:=drop) λt ht=>by
   obtain⟨e,he,rfl⟩:=List.mem_map.1 ht
   exact((Ut e).1 he).2
  simpa using this
 clear h3
 refine RT.iy h4 .nil [] (by simp) λu1 bi h5=>⟨_,rfl,?_⟩
 have h5:Ow (an n x es ms ids::cb T tk ct fr mn::RP.cU x.pr (ps.map (fZ T.B))::RT.At x.el es::Pt b3 39 [pP n 0]::RT.At bo O::RT.At bi []::L) u1:=Ow.ord [1,1,1,1,1,1,0] h5
 dsimp only
 refine ak.dm (n:=add.length) (by omega) (λk s u=>∃A,(ca aA aH A/\(∀e,e∈A↔e∈add.take k)/\((add.take k).map aH).Nodup/\∀e∈add.take k,(∃e'∈es,e'.tag=e.tag)->e.tag∈drop)/\Ow (an n x es ms ids::cb T tk ct fr mn::RP.cU x.pr (ps.map (fZ T.B))::RT.At x.el es::Pt b3 39 [pP n 0]::RT.At bo O::RT.At bi A::L) u) ⟨[],⟨List.Pairwise.nil,by simp,by simp,by simp⟩,h5⟩ ?_ ?_
 ·rintro k s u next fH ⟨A,⟨ZY,Yf,TW,XT⟩,h6⟩ ar
  have hAl:A.length<=add.length:=by
   have:=k_ (iO ZY) (b:=add.map aH) λt ht=>by
    obtain⟨e,he,rfl⟩:=List.mem_map.1 ht
    exact List.mem_map_of_mem (List.mem_of_mem_take ((Yf e).1 he))
   simpa using this
  have afK:(aL RT.ck RT.key (RT.key add[k]) O).isSome=true↔(∃e'∈es,e'.tag=add[k].tag)/\add[k].tag∈drop:=by
   rw[show aL RT.ck RT.key (RT.key add[k]) O=aL aA aH add[k].tag O from rfl,zJ Wo]
   constructor
   ·rintro⟨e,he,het⟩
    obtain⟨a1,a2⟩:=(Ut e).1 he
    exact⟨⟨e,a1,het⟩,by rw[<- het];exact a2⟩
   ·rintro⟨⟨e,he,het⟩,hd⟩
    exact⟨e,(Ut e).2 ⟨he,by rw[het];exact hd⟩,het⟩
  have bad:¬(add[k].tag∉(add.take k).map aH/\((∃e'∈es,e'.tag=add[k].tag)->add[k].tag∈drop))->¬fi es add drop:=λhb hd=>hb ⟨λhm=>by
   obtain⟨e,he,het⟩:=List.mem_map.1 hm
   obtain⟨j,hj,rfl⟩:=List.mem_iff_getElem.1 he
   rw[List.getElem_take]at het
   rw[List.length_take]at hj
   have:=(List.getElem_inj hd.1 (i:=j) (j:=k) (h₀:=by simp;omega) (h₁:=by simpa using fH)).1 (by simpa[aH]using het)
   omega,hd.2 _ (List.getElem_mem fH)⟩
  have Ms:((∃e'∈es,e'.tag=add[k].tag)->add[k].tag∈drop)->∀{u:Mem} {G:Mem->Prop},Ow (an n x es ms ids::cb T tk ct fr mn::RP.cU x.pr (ps.map (fZ T.B))::RT.At x.el es::Pt b3 39 [pP n 0]::RT.At bo O::RT.At bi A::L) u->aa prog 93 [pP bi 0,.agg add[k].pv] u λv_8 Py=>∃(YW:Bool),v_8=(pB YW)/\ab (!YW) (K (pI (3)) Py) (next (s,(IntKind.wrap .i64 ((k:Int)+(1)))) Py):=λy_ {u G} h7=>by
   refine RT.gW (l:=A) (Ow.ord [6] h7) ZY (by omega) add[k] λu2 h8=>⟨_,rfl,?_⟩
   have h8':Ow (an n x es ms ids::cb T tk ct fr mn::RP.cU x.pr (ps.map (fZ T.B))::RT.At x.el es::Pt b3 39 [pP n 0]::RT.At bo O::RT.At bi (et RT.ck RT.key add[k] A)::L) u2:=Ow.ord [1,1,1,1,1,1,0] h8
   refine ab.mk (λhb=>?_) (λhb=>?_)
   ·refine hk _ _ _ (.there iv zG (bad λhh=>hh.1 ?_)) (FK h8' λ_ h=>h.drop.drop)
    have hs:(aL aA aH add[k].tag A).isSome=true:=by
     have:(aL aA aH add[k].tag A).isNone=false:=nb hb
     cases hg:aL aA aH add[k].tag A with
     |none=>rw[hg]at this;cases this
     |some z=>rfl
    obtain⟨z,Tz,hz2⟩:=(zJ ZY).1 hs
    exact List.mem_map.2 ⟨z,(Yf z).1 Tz,hz2⟩
   ·have hn:aL aA aH add[k].tag A=none:=by
     have:(aL aA aH add[k].tag A).isNone=true:=nt hb
     cases hg:aL aA aH add[k].tag A with
     |none=>rfl
     |some z=>rw[hg]at this;cases this
    have E_:et RT.ck RT.key add[k] A=bc aA aH add[k] A:=by
     rw[et,show aL RT.ck RT.key (RT.key add[k]) A=none from hn];rfl
    rw[E_]at h8'
    have hnm:∀y∈add.take k,y.tag≠add[k].tag:=λy hy=>tP.1 hn y ((Yf y).2 hy)
    refine ar _ _ ⟨_,⟨ZY.ins ax _,λy=>?_,?_,λe he=>?_⟩,h8'⟩
    ·rw[bj ax,Yf,dg fH]
     constructor
     ·rintro(rfl|⟨a1,_⟩)
      ·exact .inr rfl
      ·exact .inl a1
     ·rintro(a1|rfl)
      ·exact .inr ⟨a1,hnm y a1⟩
      ·exact .inl rfl
    ·have hk3:k<(add.map aH).length:=by simpa using fH
     rw[List.map_take]at TW |-
     refine CY hk3 TW λhm=>?_
     rw[<- List.map_take]at hm
     obtain⟨y,hy,hyt⟩:=List.mem_map.1 hm
     rw[List.getElem_map]at hyt
     exact hnm y hy hyt
    ·rcases(dg fH).1 he with he|rfl
     ·exact XT e he
     ·exact y_
  refine ab.t (by simpa using fH) ⟨by omega,_,aw fH,_,_,_,_,_,_,_,_,_,_,_,_,rfl,_,h6.rd 4 rfl (by simp),?_⟩
  have place:∀{Kx:Kq},Kx (.aD [pI ((Xe RT.ck RT.key (RT.key add[k]) O:Nat):Int),pB (aL RT.ck RT.key (RT.key add[k]) O).isSome]) u->aa prog 94 [pP bo 0,.agg add[k].pv] u Kx:=λhKx=>RT.tc (l:=O) (Ow.ord [5] h6) Wo (by omega) add[k] hKx
  refine aaj hu (by omega) add[k].tag (Ow.ord [0,2] h6) (λe he=>⟨_,_,_,_,_,_,_,_,_,_,_,_,_,rfl,place ⟨_,_,rfl,ab.t rfl (ab.mk (λhb=>?_) (λhb=>?_))⟩⟩) (λhn=>⟨_,_,_,_,_,_,_,_,_,_,_,_,_,rfl,place ⟨_,_,rfl,ab.f rfl ?_⟩⟩)
  ·obtain⟨QF,het⟩:=(aM ax hu).1 he
   refine hk _ _ _ (.there iv zG (bad λhh=>?_)) (FK h6 λ_ h=>h.drop.drop)
   have:=afK.2 ⟨⟨e,QF,het⟩,hh.2 ⟨e,QF,het⟩⟩
   rw[this]at hb;cases hb
  ·exact Ms (λ_=>(afK.1 (nt hb)).2) (G:=λ_=>True) h6
  ·exact Ms (λ⟨e,he,het⟩=>absurd het (tP.1 hn e he)) (G:=λ_=>True) h6
 rintro s u next ⟨A,⟨ZY,Yf,TW,XT⟩,h6⟩
 rw[List.take_length]at Yf TW XT
 have AX:fi es add drop:=⟨TW,XT⟩
 have hSt:Sets es add drop O A:=⟨Wo,Ut,ZY,Yf⟩
 have hAl:A.length<=add.length:=by
  have:=k_ (iO ZY) (b:=add.map aH) λt ht=>by
   obtain⟨e,he,rfl⟩:=List.mem_map.1 ht
   exact List.mem_map_of_mem ((Yf e).1 he)
  simpa using this
 refine ab.f (by simp) ?_
 clear h5 h4
 have aeM:∀{k:Nat} (fH:k<O.length),O[k]∈aS (O.take k) es:=λ{k} fH=>by
  refine dO.2 ⟨((Ut _).1 (List.getElem_mem fH)).1,λo ho e=>?_⟩
  obtain⟨j,hj,rfl⟩:=List.mem_iff_getElem.1 ho
  rw[List.getElem_take]at e
  simp only[List.length_take]at hj
  have:=List.pairwise_iff_getElem.1 Wo j k (by omega) fH (by omega)
  have:=tS.1 this
  simp only[aH]at this
  omega
 have Zx:=hR.core.aer
 have ae7:∀{fs:List af} {dd:dL},gE ms dd->eC fs dd->dd.length<=500000:=λhs AZ=>Nat.le_trans (hs.use hR.core.use AZ).len Zx
 refine RN.iy h6 .nil [] (by simp) λu1 bm h7=>⟨_,rfl,λLK ajn=>?_⟩
 refine(h7.new 177 [.raw (.pointer none)] ajn).st 0 rfl (by simp) λu2 h8=>?_
 have h9:Ow (an n x es ms ids::cb T tk ct fr mn::RP.cU x.pr (ps.map (fZ T.B))::RT.At x.el es::Pt b3 39 [pP n 0]::RT.At bo O::RT.At bi A::RN.At bm []::Pt LK 177 [pP bm 0]::L) u2:=Ow.ord [2,2,2,2,2,2,2,1,0] h8
 clear h6 h7 h8
 refine(RT.rX bo).call ⟨_,_,_,rfl,?_⟩
 refine bk.own (RT.fN bo O (by omega)) (Ow.ord [5] h9)
  (λk u=>∃dd jP S,(eC (aS (O.take k) es) dd/\kJ (aS (O.take k) es) jP/\gE ms dd/\ca RN.ck RN.key S/\S.length<=k*500000/\acP ms S (O.take k))/\Ow (an n x (aS (O.take k) es) dd jP::cb T tk ct fr mn::RP.cU x.pr (ps.map (fZ T.B))::RT.At x.el (aS (O.take k) es)::Pt b3 39 [pP n 0]::RT.At bo O::RT.At bi A::RN.At bm S::Pt LK 177 [pP bm 0]::L) u)
  (λ_ _=>False) (λk=>fJ.ex λ_=>fJ.ex λ_=>fJ.ex λ_=>fJ.and (fJ.own _)) (λ_ _ _ _ h=>h.elim) (λμ' h'=>⟨ms,ids,[],⟨hA,hI,gE.refl ms,List.Pairwise.nil,by simp,λy _ _ e he=>by simp at he⟩,?_⟩) ?_ ?_ (λ_ _ h=>h.elim)
 ·have qk:Ow (RT.At bo O::an n x es ms ids::cb T tk ct fr mn::RP.cU x.pr (ps.map (fZ T.B))::RT.At x.el es::Pt b3 39 [pP n 0]::RT.At bi A::RN.At bm []::Pt LK 177 [pP bm 0]::L) μ':=h'
  exact Ow.ord [1,1,1,1,1,0] qk
 ·rintro k fH u R ⟨dd,jP,S,⟨AZ,eU,hs,hS,Yd,hH⟩,qk⟩ bU _
  have bW:k<O.length:=by simpa using fH
  rw[List.getElem_map]
  refine⟨_,_,_,_,_,_,_,_,_,_,_,_,rfl,_,qk.rd 4 rfl (by simp),?_⟩
  refine Vj AZ eU (aeM bW) (Ow.ord [0,2] qk) λLC EW f u3 Yg AY Du A_=>⟨_,_,rfl,?_⟩
  have sM:=Km (e:=O[k]) AZ
  have hhl:=tM O[k] dd
  have nR:=ae7 hs AZ
  have mw:Ow (RN.At bm S::Pt LK 177 [pP bm 0]::an n x (bq aA aH O[k].tag (aS (O.take k) es)) LC EW::RT.At x.el (bq aA aH O[k].tag (aS (O.take k) es))::cb T tk ct fr mn::RP.cU x.pr (ps.map (fZ T.B))::Pt b3 39 [pP n 0]::RT.At bo O::RT.At bi A::L) u3:=Ow.ord [7,7] A_
  refine Kn (Pre:=[]) sM (by omega) hS (by omega) mw λS' u4 MZ ajA ZJ QD Bx=>bU _ ⟨LC,EW,S',⟨by rw[iH bW];exact Yg,by rw[iH bW];exact AY,hs.trans Du,MZ,by omega,λy hy cm e he=>?_⟩,?_⟩
  ·rcases(dg bW).1 he with he|rfl
   ·exact hH y hy (λh=>cm (ZJ _ h)) e he
   ·cases hm:bw y.2.c O[k]with
    |false=>rfl
    |true=>exact absurd (QD _ (Gs hs hA.pJ AZ.pJ hy hm)) cm
  ·rw[iH bW]
   exact Ow.ord [2,3,3,2,2,2,2,0,0] Bx
 rintro u ⟨JT,ke,S1,⟨Ux,nh,MN,hS1,Uq,hH1⟩,qk⟩
 rw[List.length_map]at Ux nh Uq hH1 qk
 rw[List.take_length]at Ux nh hH1 qk
 dsimp only[PK]
 clear h9
 refine(RT.rX bi).call ⟨_,_,_,rfl,?_⟩
 have anS:=sW O es
 have RU:cY (A.take 0) (aS O es)=aS O es:=by rw[List.take_zero];rfl
 have ajz:S1.length<=O.length*500000+0*500000:=by rw[Nat.zero_mul,Nat.add_zero];exact Uq
 refine bk.own (RT.fN bi A (by omega)) (Ow.ord [6] qk)
  (λk u=>∃dd jP S,(eC (cY (A.take k) (aS O es)) dd/\kJ (cY (A.take k) (aS O es)) jP/\gE ms dd/\ca RN.ck RN.key S/\S.length<=O.length*500000+k*500000/\acP ms S O/\acP ms S (A.take k))/\Ow (an n x (cY (A.take k) (aS O es)) dd jP::cb T tk ct fr mn::RP.cU x.pr (ps.map (fZ T.B))::RT.At x.el (cY (A.take k) (aS O es))::Pt b3 39 [pP n 0]::RT.At bo O::RT.At bi A::RN.At bm S::Pt LK 177 [pP bm 0]::L) u)
  (λ_ _=>False) (λk=>fJ.ex λ_=>fJ.ex λ_=>fJ.ex λ_=>fJ.and (fJ.own _)) (λ_ _ _ _ h=>h.elim) (λμ' h'=>⟨JT,ke,S1,⟨by rw[RU];exact Ux,by rw[RU];exact nh,MN,hS1,ajz,hH1,λy _ _ e he=>by simp at he⟩,?_⟩) ?_ ?_ (λ_ _ h=>h.elim)
 ·have A_:Ow (RT.At bi A::an n x (aS O es) JT ke::cb T tk ct fr mn::RP.cU x.pr (ps.map (fZ T.B))::RT.At x.el (aS O es)::Pt b3 39 [pP n 0]::RT.At bo O::RN.At bm S1::Pt LK 177 [pP bm 0]::L) μ':=h'
  rw[RU]
  exact Ow.ord [1,1,1,1,1,1,0] A_
 ·rintro k fH u R ⟨dd,jP,S,⟨AZ,eU,hs,hS,Yd,hHO,hH⟩,qk⟩ bU _
  have bW:k<A.length:=by simpa using fH
  rw[List.getElem_map]
  refine⟨_,_,_,_,_,_,_,_,_,_,_,_,rfl,_,qk.rd 4 rfl (by simp),?_⟩
  have abN:=rl (A.take k) (aS O es)
  rw[List.length_take]at abN
  refine aah AZ eU (hSt.fresh hu AX bW) (by omega) (Ow.ord [0,2] qk) λLC EW f u3 Yg AY Du A_=>⟨_,_,rfl,?_⟩
  have sM:=Km (e:=A[k]) AZ
  have hhl:=tM A[k] dd
  have nR:=ae7 hs AZ
  have mw:Ow (RN.At bm S::Pt LK 177 [pP bm 0]::an n x (bc aA aH A[k] (cY (A.take k) (aS O es))) LC EW::RT.At x.el (bc aA aH A[k] (cY (A.take k) (aS O es)))::cb T tk ct fr mn::RP.cU x.pr (ps.map (fZ T.B))::Pt b3 39 [pP n 0]::RT.At bo O::RT.At bi A::L) u3:=Ow.ord [7,7] A_
  refine Kn (Pre:=[]) sM (by omega) hS (by omega) mw λS' u4 MZ ajA ZJ QD Bx=>bU _ ⟨LC,EW,S',⟨by rw[jJ bW];exact Yg,by rw[jJ bW];exact AY,hs.trans Du,MZ,by omega,λy hy cm e he=>hHO y hy (λh=>cm (ZJ _ h)) e he,λy hy cm e he=>?_⟩,?_⟩
  ·rcases(dg bW).1 he with he|rfl
   ·exact hH y hy (λh=>cm (ZJ _ h)) e he
   ·cases hm:bw y.2.c A[k]with
    |false=>rfl
    |true=>exact absurd (QD _ (Gs hs hA.pJ AZ.pJ hy hm)) cm
  ·rw[jJ bW]
   exact Ow.ord [2,3,3,2,2,2,2,0,0] Bx
 clear qk Ux nh MN hS1 Uq hH1
 rintro u ⟨JT,ke,S1,⟨Ux,nh,MN,hS1,Uq,hHO,hHA⟩,qk⟩
 rw[List.length_map]at Ux nh Uq hHA qk
 rw[List.take_length]at Ux nh hHA qk
 dsimp only[PK]
 have ll:=hSt.new hu zG AX
 generalize hfs:cY A (aS O es)=fs at*
 have Dt:∀e∈fs,1<=e.tag/\e.tag<9223372036854775808:=λe he=>by
  rcases(ll.2 e).1 he with h|⟨h,_⟩
  ·exact⟨(iv e h).2,aiv e h⟩
  ·exact hR.tags e h
 have abp:∀y∈JT,¬Qu S1 y.1->es.filter (bw y.2.c)=fs.filter (bw y.2.c):=λy hy cm=>by
  have h1:aL aA cA y.1 JT=some y:=(aM ax Ux.pJ).2 ⟨hy,rfl⟩
  have h2:=MN y.1
  rw[h1]at h2
  cases hg:aL aA cA y.1 ms with
  |none=>rw[hg]at h2;cases h2
  |some z=>
   rw[hg]at h2
   simp only[Option.map_some,Option.some.injEq,Prod.mk.injEq]at h2
   obtain⟨hz,HH⟩:=(aM ax hA.pJ).1 hg
   have HH:z.1=y.1:=HH
   rw[h2.1,<- hfs]
   exact hSt.loc hu AX (hHO z hz (by rw[HH];exact cm)) (hHA z hz (by rw[HH];exact cm))
 have Kg:=SX (fs:=fs) hR
 have abc:au fs []=au es []:=rfl
 have aeJ:tk []=au fs []:=hR.core.dH.tok [] hR.core.tree.root
 have EY:=hR.core.tree.root
 refine⟨λe u=>∃qm pL,((e=25/\∃q∈ps,du x.T fs q.conds)\/(e=26/\(¬ ∃q∈ps,du x.T fs q.conds)/\x.M<((bK fs ps:Nat):Int))\/(e=0/\(¬ ∃q∈ps,du x.T fs q.conds)/\((bK fs ps:Nat):Int)<=x.M/\∀q∈T.D,q≠[]->qm q=au fs q/\pL q=cQ fs q))/\Ow (an n x fs JT ke::cb T tk ct qm pL::RP.cU x.pr (ps.map (fZ T.B))::RT.At x.el fs::Pt b3 39 [pP n 0]::RT.At bo O::RT.At bi A::L) u,?_,?_⟩
 ·obtain⟨F,hF⟩:=cb.rd EY (Ow.swap qk)
  have hF':=hF
  rw[<- hR.root]at hF'
  have Zy:=an.qz (n:=n) (x:=x) (es:=fs) (ms:=JT) (ids:=ke) qk (by simp)
  refine⟨_,qk.rd 4 rfl (by simp),_,qk.rd 4 rfl (by simp),?_⟩
  dsimp only[nP,nn,aF]
  refine⟨_,aE Zy (by simp),_,qk.rd 4 rfl (by simp),?_⟩
  dsimp only
  refine⟨_,aE Zy (by simp),?_⟩
  dsimp only
  refine⟨_,_,aE hF' (by simp),_,qk.rd 8 rfl (by simp),?_⟩
  dsimp only[gK]
  rw[aeJ,hR.root]
  refine afU hR.core.tree Ux nh ⟨by omega,by omega⟩ hR.core.dH hS1 (by omega) (λp c hp=>DJ MN.mem c 0 (hR.core.fit p c hp)) (Xp hR.core) abp 17 [] fr mn _ false EY (by simp) (by simp[au]) (λ_=>abc.symm) (Ow.ord [0,0,5] qk) (λhC u3 A_=>⟨_,rfl,ab.f rfl λb29 MX=>?_⟩) (λWn qm pL u3 A_=>⟨_,rfl,ab.t rfl ⟨qm,pL,.inl ⟨rfl,Kg.1 Wn⟩,?_⟩⟩)
  ·have Kh:¬ ∃q∈ps,du x.T fs q.conds:=λh=>by
    obtain⟨q,c,j,hq,hj⟩:=Kg.2 h
    have:=hC q c hq List.nil_prefix j
    omega
   have XF:∀q∈T.D,q≠[]->under (T.K []) [] q=true:=λq hq hq0=>iD.2 ((hR.core.tree.below EY hq).1 ⟨List.nil_prefix,hq0⟩)
   generalize XX:mix (T.K []) [] (au fs) fr=fr1 at A_
   generalize OL:mix (T.K []) [] (cQ fs) mn=mn1 at A_
   have Ue:∀q∈T.D,q≠[]->fr1 q=au fs q/\mn1 q=cQ fs q:=λq hq hq0=>by
    rw[<- XX,<- OL]
    unfold mix
    rw[XF q hq hq0]
    exact⟨rfl,rfl⟩
   have mw:Ow (an n x fs JT ke::cb T tk ct fr1 mn1::RP.cU x.pr (ps.map (fZ T.B))::RT.At x.el fs::Pt b3 39 [pP n 0]::RT.At bo O::RT.At bi A::RN.At bm S1::Pt LK 177 [pP bm 0]::L) u3:=Ow.ord [0,0,1,1,1,1,1,0] A_
   have ae0:∀q∈ps,(au fs q.conds).length<=1024:=λq hq=>by
    obtain⟨_,_,_,_,_,g1,g2⟩:=(hR.rE q hq).facts
    obtain⟨r,d,e⟩:=qD g1
    have h4:=hC r d (by rw[<- e];exact hR.pD q hq) List.nil_prefix 0
    rw[jI,<- cV,<- e]at h4;omega
   have Zw:ps.length<=100:=by have:=hR.xt;omega
   refine(mw.new 3 [pI 0] MX).st 0 rfl (by simp) λu4 Bx=>?_
   refine⟨_,Bx.rd 5 rfl (by simp),?_⟩
   dsimp only
   refine⟨_,aE (an.qz (x:=x) (es:=fs) (ms:=JT) (ids:=ke) Bx (by simp)) (by simp),(RP.o_ x.pr).call ⟨_,_,_,rfl,?_⟩⟩
   have nR:((ps.map (fZ T.B)).map λy=>[RP.db y.1,RP.gI y.2]).length=ps.length:=by simp
   refine bk.own (RP.fG x.pr (ps.map (fZ T.B)) (by simp;omega)) (Ow.at 3 rfl Bx)
    (λk u=>Ow (an n x fs JT ke::cb T tk ct fr1 mn1::RP.cU x.pr (ps.map (fZ T.B))::RT.At x.el fs::Pt b3 39 [pP n 0]::RT.At bo O::RT.At bi A::Pt b29 3 [pI ((((ps.take k).map λq=>(au fs q.conds).length).sum:Nat):Int)]::RN.At bm S1::Pt LK 177 [pP bm 0]::L) u) (λ_ _=>False) (λk=>fJ.own _) (λ_ _ _ _ h=>h.elim) (λμ' h'=>?_) ?_ ?_ (λ_ _ h=>h.elim)
   ·have h14:Ow (RP.cU x.pr (ps.map (fZ T.B))::Pt b29 3 [pI 0]::an n x fs JT ke::cb T tk ct fr1 mn1::RT.At x.el fs::Pt b3 39 [pP n 0]::RT.At bo O::RT.At bi A::RN.At bm S1::Pt LK 177 [pP bm 0]::L) μ':=h'
    exact Ow.ord [2,2,0,1,1,1,1,0] h14
   ·rintro k fH u2 R h2 bU _
    have bW:k<ps.length:=by simpa using fH
    have hm:=List.getElem_mem bW
    have d1:=hR.pD _ hm
    obtain⟨_,_,_,_,_,d2,d3⟩:=(hR.rE _ hm).facts
    obtain⟨F2,DD⟩:=cb.rd d1 (Ow.swap h2)
    obtain⟨w1,w2⟩:=tC T.B d2 (by omega)
    rw[List.getElem_map,List.getElem_map]
    refine⟨_,_,_,_,_,_,_,_,rfl,_,h2.rd 7 rfl (by simp),w2,_,w1,_,rfl,?_⟩
    dsimp only
    refine⟨_,_,aE DD (by simp),?_⟩
    dsimp only[gK]
    rw[(Ue _ d1 d2).1]
    refine h2.st 7 rfl (by simp) λu3 h3=>bU _ ?_
    have hs:((ps.take (k+1)).map λq=>(au fs q.conds).length).sum=((ps.take k).map λq=>(au fs q.conds).length).sum+(au fs ps[k].conds).length:=by
     rw[dT bW,List.sum_append];simp
    have h4:=ae0 _ hm
    have h5:=L_ (l:=ps.take k) (f:=λq=>(au fs q.conds).length) (b:=1024) λq hq=>ae0 q (List.mem_of_mem_take hq)
    rw[List.length_take]at h5
    have e:dN [pI ((((ps.take k).map λq=>(au fs q.conds).length).sum:Nat):Int)] 0 [pI (IntKind.wrap .i64 (((((ps.take k).map λq=>(au fs q.conds).length).sum:Nat):Int)+((((au fs ps[k].conds).map cf.pv).length:Nat):Int)))]=[pI ((((ps.take (k+1)).map λq=>(au fs q.conds).length).sum:Nat):Int)]:=by
     rw[hs,List.length_map,az (by omega) (by omega)]
     show[pI _]=_
     congr 2
    rw[e]at h3
    exact h3
   ·intro u2 h2
    rw[nR,List.take_length]at h2
    dsimp only[PK]
    have h14:Ow (an n x fs JT ke::cb T tk ct fr1 mn1::RP.cU x.pr (ps.map (fZ T.B))::RT.At x.el fs::Pt b3 39 [pP n 0]::RT.At bo O::RT.At bi A::L) u2:=h2.tail λ_ h=>h.tail λ_ h=>h.tail λ_ h=>h.tail λ_ h=>h.tail λ_ h=>h.tail λ_ h=>h.tail λ_ h=>h.drop.drop.drop
    refine⟨_,h2.rd 7 rfl (by simp),_,h2.rd 4 rfl (by simp),?_⟩
    dsimp only
    refine⟨_,aE (an.qz (x:=x) (es:=fs) (ms:=JT) (ids:=ke) h2 (by simp)) (by simp),ab.mk (λhb=>?_) (λhb=>?_)⟩
    ·have iK:x.M<((bK fs ps:Nat):Int):=by
      have:x.M<(((ps.map λq=>(au fs q.conds).length).sum:Nat):Int):=by simpa using hb
      exact this
     exact⟨fr1,mn1,.inr (.inl ⟨rfl,Kh,iK⟩),h14⟩
    ·have iK:((bK fs ps:Nat):Int)<=x.M:=by
      have:¬x.M<(((ps.map λq=>(au fs q.conds).length).sum:Nat):Int):=by simpa using hb
      unfold bK;omega
     exact⟨fr1,mn1,.inr (.inr ⟨rfl,Kh,iK,Ue⟩),h14⟩
  ·have mw:Ow (an n x fs JT ke::cb T tk ct qm pL::RP.cU x.pr (ps.map (fZ T.B))::RT.At x.el fs::Pt b3 39 [pP n 0]::RT.At bo O::RT.At bi A::RN.At bm S1::Pt LK 177 [pP bm 0]::L) u3:=Ow.ord [0,0,1,1,1,1,1,0] A_
   exact mw.tail λ_ h=>h.tail λ_ h=>h.tail λ_ h=>h.tail λ_ h=>h.tail λ_ h=>h.tail λ_ h=>h.tail λ_ h=>h.drop.drop
 ·clear qk
  rintro e u3 ⟨qm,pL,ZQ,A_⟩
  refine ab.mk (λh0=>?_) (λh0=>?_)
  ·have h0':e=0:=by simpa using h0
   obtain⟨_,Kh,lM,Ue⟩:e=0/\(¬ ∃q∈ps,du x.T fs q.conds)/\((bK fs ps:Nat):Int)<=x.M/\∀q∈T.D,q≠[]->qm q=au fs q/\pL q=cQ fs q:=by
    rcases ZQ with⟨h,_⟩|⟨h,_⟩|h
    ·omega
    ·omega
    ·exact h
   subst h0'
   refine⟨_,A_.rd 4 rfl (by simp),?_⟩
   dsimp only[nP,nn,aF]
   refine⟨_,aE (an.qz (x:=x) (es:=fs) (ms:=JT) (ids:=ke) A_ (by simp)) (by simp),?_⟩
   rw[hR.root]
   refine Ys hR.core.tree 17 [] tk ct qm pL EY (by simp) (Ow.swap A_) λu4 mw=>⟨rfl,?_⟩
   have XF:∀q∈T.D,q≠[]->under (T.K []) [] q=true:=λq hq hq0=>iD.2 ((hR.core.tree.below EY hq).1 ⟨List.nil_prefix,hq0⟩)
   have aeI:under (T.K []) [] []=false:=by
    cases h:under (T.K []) [] []with
    |false=>rfl
    |true=>
     obtain⟨c,_,hp⟩:=iD.1 h
     have:=hp.length_le
     simp at this
   have hTk:YS T x.T fs (mix (T.K []) [] qm tk) (mix (T.K []) [] pL ct):=by
    refine⟨λp hp=>?_,λp c hp=>?_,λp c hp j=>?_⟩
    ·unfold mix
     by_cases e:p=[]
     ·subst e;rw[aeI];exact aeJ
     ·rw[XF p hp e];exact(Ue p hp e).1
    ·unfold mix
     rw[XF _ hp (by simp)]
     show pL (p++[c])=_
     rw[(Ue _ hp (by simp)).2,dY]
    ·by_cases hj:((dZ fs c (au fs p) j:Nat):Int)<=x.T
     ·exact hj
     ·exact absurd (Kg.1 ⟨p,c,j,hp,by omega⟩) Kh
   refine hk 0 fs u4 (.ok iv zG AX fs ll Kh lM) (bR.shut (fr:=mix (T.K []) [] (λ_=>[]) qm) (mn:=mix (T.K []) [] (λ_=>[]) pL) (hR.Cf Ux nh MN hTk Dt) lM ?_)
   exact(Ow.swap mw).tail λ_ h=>h.tail λ_ h=>h.tail λ_ h=>h.tail λ_ h=>h.drop.drop.drop
  ·have abJ:iA x.T x.M es ps add drop e es:=by
    rcases ZQ with⟨rfl,h⟩|⟨rfl,h,h'⟩|⟨rfl,_⟩
    ·exact .dH iv zG AX fs ll h
    ·exact .eK iv zG AX fs ll h h'
    ·simp at h0
   have hAd:∀{k:Nat} (fH:k<A.length),A[k]∈aS (A.take k) fs:=λ{k} fH=>by
    refine dO.2 ⟨(ll.2 _).2 (.inl ((Yf _).1 (List.getElem_mem fH))),λo ho e=>?_⟩
    obtain⟨j,hj,rfl⟩:=List.mem_iff_getElem.1 ho
    rw[List.getElem_take]at e
    simp only[List.length_take]at hj
    have:=List.pairwise_iff_getElem.1 ZY j k (by omega) fH (by omega)
    have:=tS.1 this
    simp only[aH]at this
    omega
   refine(RT.rX bi).call ⟨_,_,_,rfl,?_⟩
   refine bk.own (RT.fN bi A (by omega)) (Ow.ord [6] A_)
    (λk u=>∃dd jP,(eC (aS (A.take k) fs) dd/\kJ (aS (A.take k) fs) jP/\gE ms dd)/\Ow (an n x (aS (A.take k) fs) dd jP::cb T tk ct qm pL::RP.cU x.pr (ps.map (fZ T.B))::RT.At x.el (aS (A.take k) fs)::Pt b3 39 [pP n 0]::RT.At bo O::RT.At bi A::L) u)
    (λ_ _=>False) (λk=>fJ.ex λ_=>fJ.ex λ_=>fJ.and (fJ.own _)) (λ_ _ _ _ h=>h.elim) (λμ' h'=>⟨JT,ke,⟨Ux,nh,MN⟩,?_⟩) ?_ ?_ (λ_ _ h=>h.elim)
   ·have mw:Ow (RT.At bi A::an n x fs JT ke::cb T tk ct qm pL::RP.cU x.pr (ps.map (fZ T.B))::RT.At x.el fs::Pt b3 39 [pP n 0]::RT.At bo O::L) μ':=h'
    exact Ow.ord [1,1,1,1,1,1,0] mw
   ·rintro k fH u R ⟨dd,jP,⟨AZ,eU,hs⟩,mw⟩ bU _
    have bW:k<A.length:=by simpa using fH
    rw[List.getElem_map]
    refine⟨_,_,_,_,_,_,_,_,_,_,_,_,rfl,_,mw.rd 4 rfl (by simp),?_⟩
    refine Vj AZ eU (hAd bW) (Ow.ord [0,2] mw) λLC EW f u3 Yg AY Du Bx=>⟨_,_,rfl,bU _ ⟨LC,EW,⟨by rw[iH bW];exact Yg,by rw[iH bW];exact AY,hs.trans Du⟩,?_⟩⟩
    rw[iH bW]
    exact Ow.ord [0,1,1,0] Bx
   rintro u4 ⟨LC,EW,⟨Yg,AY,Du⟩,mw⟩
   rw[List.length_map]at Yg AY mw
   rw[List.take_length]at Yg AY mw
   dsimp only[PK]
   refine(RT.rX bo).call ⟨_,_,_,rfl,?_⟩
   have anR:=sW A fs
   have pq:fs.length<=es.length+A.length:=by
    rw[<- hfs]
    have:=rl A (aS O es)
    omega
   have RU:cY (O.take 0) (aS A fs)=aS A fs:=by rw[List.take_zero];rfl
   refine bk.own (RT.fN bo O (by omega)) (Ow.ord [5] mw)
    (λk u=>∃dd jP,(eC (cY (O.take k) (aS A fs)) dd/\kJ (cY (O.take k) (aS A fs)) jP/\gE ms dd)/\Ow (an n x (cY (O.take k) (aS A fs)) dd jP::cb T tk ct qm pL::RP.cU x.pr (ps.map (fZ T.B))::RT.At x.el (cY (O.take k) (aS A fs))::Pt b3 39 [pP n 0]::RT.At bo O::RT.At bi A::L) u)
    (λ_ _=>False) (λk=>fJ.ex λ_=>fJ.ex λ_=>fJ.and (fJ.own _)) (λ_ _ _ _ h=>h.elim) (λμ' h'=>⟨LC,EW,⟨by rw[RU];exact Yg,by rw[RU];exact AY,Du⟩,?_⟩) ?_ ?_ (λ_ _ h=>h.elim)
   ·rw[RU]
    have Bx:Ow (RT.At bo O::an n x (aS A fs) LC EW::cb T tk ct qm pL::RP.cU x.pr (ps.map (fZ T.B))::RT.At x.el (aS A fs)::Pt b3 39 [pP n 0]::RT.At bi A::L) μ':=h'
    exact Ow.ord [1,1,1,1,1,0] Bx
   ·rintro k fH u R ⟨dd,jP,⟨AZ,eU,hs⟩,Bx⟩ bU _
    have bW:k<O.length:=by simpa using fH
    rw[List.getElem_map]
    refine⟨_,_,_,_,_,_,_,_,_,_,_,_,rfl,_,Bx.rd 4 rfl (by simp),?_⟩
    have abN:=rl (O.take k) (aS A fs)
    rw[List.length_take]at abN
    have afk:=hSt.ab2 hu AX bW
    rw[hfs]at afk
    refine aah AZ eU afk (by omega) (Ow.ord [0,2] Bx) λWe aeA f u3 hA3 Uv hs3 h14=>⟨_,_,rfl,bU _ ⟨We,aeA,⟨by rw[jJ bW];exact hA3,by rw[jJ bW];exact Uv,hs.trans hs3⟩,?_⟩⟩
    rw[jJ bW]
    exact Ow.ord [0,1,1,0] h14
   rintro u5 ⟨We,aeA,⟨hA3,Uv,hs3⟩,Bx⟩
   rw[List.length_map]at hA3 Uv Bx
   rw[List.take_length]at hA3 Uv Bx
   have AV:=hSt.back hu AX
   rw[hfs]at AV
   rw[AV]at hA3 Uv Bx
   dsimp only[PK]
   refine hk e es u5 abJ (bR.shut (fr:=qm) (mn:=pL) (hR.Cf hA3 Uv hs3 hR.core.dH hR.tags) dQ ?_)
   exact Bx.tail λ_ h=>h.tail λ_ h=>h.tail λ_ h=>h.tail λ_ h=>h.drop.drop.drop
end
end Go.Proofs.YtbodiiomcfgokaaGreat
namespace Go.aK
open Go.RowKit
def Ag(P:Program)(f:PV)(items:Lq)(A:aY):Prop:=
 (∃g a b,f=.fn (.func g) a b)/\∀(fy:Fn) (ya yb:List PV) (J:Nat->aY) (S:aY) (μ:Mem),DI fy True->Ow [A,J 0] μ->
  (∀(k:Nat) (h:k<items.length) (μ:Mem),J k μ->bY P (.fn fy ya yb) items[k] μ λv μ'=>(v=pB true/\Ow [J (k+1)] μ')\/(v=pB false/\Ow [S] μ'))->
  bY P f [.fn fy ya yb] μ λ_ μ'=>Ow [A,J items.length] μ'\/Ow [A,S] μ'
theorem Ag.mk{P:Program}{g:FuncId}{a b:List PV}{items:Lq}{A:aY}
  (h:∀(fy:Fn) (ya yb:List PV) (J:Nat->aY) (S:aY) (μ:Mem),DI fy True->Ow [A,J 0] μ->
   (∀(k:Nat) (h:k<items.length) (μ:Mem),J k μ->bY P (.fn fy ya yb) items[k] μ λv μ'=>(v=pB true/\Ow [J (k+1)] μ')\/(v=pB false/\Ow [S] μ'))->
   aa P g (a++[.fn fy ya yb]++b) μ λ_ μ'=>Ow [A,J items.length] μ'\/Ow [A,S] μ'):Ag P (.fn (.func g) a b) items A:=
 ⟨⟨g,a,b,rfl⟩,λfy ya yb J S μ hy h0 df=>h fy ya yb J S μ hy h0 df⟩
theorem bk.aen{P:Program}{f:PV}{items:Lq}{A:aY}{L:List aY}{body:List PV->(Option Code->Mem->Prop)->Mem->Prop}{K:Option Code->Mem->Prop}{μ:Mem}(hs:Ag P f items A)(hO:Ow (A::L) μ)
  (J:Nat->aY) (S:Code->aY) (hJ:∀k,fJ (J k)) (hS:∀c,fJ (S c)) (h0:∀μ',Ow L μ'->J 0 μ')
  (df:∀(k:Nat) (h:k<items.length) (μ:Mem) (R:Option Code->Mem->Prop),J k μ->(∀μ',J (k+1) μ'->R none μ')->(∀c μ',S c μ'->R (some c) μ')->body items[k] R μ)
  (abD:∀μ,Ow [A,J items.length] μ->K none μ) (TF:∀c μ,Ow [A,S c] μ->K (some c) μ):bk P f body K μ:=by
 obtain⟨hf,hs⟩:=hs
 refine⟨hf,λl rec hl hy=>?_⟩
 have cut:∀{ν:Mem} {o:Ob} {M:List aY},Ow (Rc l o::M) ν->ν l=some o/\Ow M (ν.set l none):=λ{ν o M} h=>by
  obtain⟨ν1,ν2,vU,rfl,hR,hM⟩:=h
  refine⟨Mem.b_ hR,hM.mono λb o' hb=>?_⟩
  have LJ:ν1 b=none:=(vU b).resolve_right (by rw[hb];simp)
  have aT:b≠l:=by
   rintro rfl
   have:ν1 b=_:=hR
   rw[this]at LJ;cases LJ
  rw[Mem.aC _ _ aT,Mem.cj LJ];exact hb
 have glue:∀{ν:Mem} {o:Ob},ν l=some o->ν=(ν.set l none).set l (some o):=λ{ν o} h=>by
  rw[Mem.set_set,Mem.CD h]
 have lift:∀{ν:Mem} {o:Ob} {B:aY},fJ B->Ow [A,λν=>∃μ3,μ3 l=none/\ν=μ3.set l (some o)/\B μ3] ν->ν l=some o/\Ow [A,B] (ν.set l none):=λ{ν o B} hB h=>by
  obtain⟨ν1,ν2,vU,rfl,hA,ν3,ν4,alf,rfl,⟨μ3,h1,rfl,h3⟩,_⟩:=h
  have zE:ν1 l=none:=by
   rcases vU l with h|h
   ·exact h
   ·rw[Mem.b_ (Mem.aq _ _ _)]at h;cases h
  have e2:((μ3.set l (some o)).or ν4) l=some o:=Mem.b_ (Mem.aq _ _ _)
  refine⟨by rw[Mem.cj zE];exact e2,ν1,((μ3.set l (some o)).or ν4).set l none,λb=>?_,?_,hA,Ow.one (hB μ3 _ (λb o' hb=>?_) h3)⟩
  ·by_cases e:b=l
   ·subst e;exact .inl zE
   ·rw[Mem.aC _ _ e];exact vU b
  ·funext b
   by_cases e:b=l
   ·subst e;rw[Mem.aq,Mem.cj zE,Mem.aq]
   ·rw[Mem.aC _ _ e]
    show(ν1.or ((μ3.set l (some o)).or ν4)) b=(ν1.or (((μ3.set l (some o)).or ν4).set l none)) b
    cases hx:ν1 b with
    |some y=>rw[Mem.b_ hx,Mem.b_ hx]
    |none=>rw[Mem.cj hx,Mem.cj hx,Mem.aC _ _ e]
  ·have aT:b≠l:=by rintro rfl;rw[h1]at hb;cases hb
   rw[Mem.aC _ _ aT]
   exact Mem.b_ (by rw[Mem.aC _ _ aT];exact hb)
 refine(hs (.yield l) [] [] (λk ν=>∃μ3,μ3 l=none/\ν=μ3.set l (some (rec none))/\J k μ3) (λν=>∃c μ3,μ3 l=none/\ν=μ3.set l (some (rec (some c)))/\S c μ3) _ trivial ?_ ?_).mono ?_
 ·have h1:Ow (Rc l (rec none)::A::L) (μ.set l (some (rec none))):=by
   refine⟨M0.set l (some (rec none)),μ,λx=>?_,?_,Mem.aq _ _ _,hO⟩
   ·by_cases e:x=l
    ·subst e;exact .inr hl
    ·rw[Mem.aC _ _ e];exact .inl rfl
   ·funext x
    by_cases e:x=l
    ·subst e;rw[Mem.aq,Mem.b_ (Mem.aq _ _ _)]
    ·rw[Mem.aC _ _ e,Mem.cj (by rw[Mem.aC _ _ e];rfl)]
  refine h1.swap.tail λν hν=>Ow.one ?_
  obtain⟨h2,h3⟩:=cut hν
  exact⟨_,Mem.aq _ _ _,glue h2,h0 _ h3⟩
 ·rintro k hk _ ⟨μ3,h1,rfl,ZX⟩
  refine(hy items[k] μ3 (λp μ'=>match p with|none=>J (k+1) μ'|some c=>S c μ') h1 (df k hk μ3 _ ZX (λμ' h=>h) (λc μ' h=>h))).mono ?_
  rintro v μ2 ⟨p,μ4,rfl,h3,rfl,hR⟩
  cases p with
  |none=>exact .inl ⟨rfl,Ow.one ⟨μ4,h3,rfl,hR⟩⟩
  |some c=>exact .inr ⟨rfl,Ow.one ⟨c,μ4,h3,rfl,hR⟩⟩
 ·rintro v ν (h|h)
  ·obtain⟨h4,h5⟩:=lift (hJ _) h
   exact⟨none,ν.set l none,Mem.aq _ _ _,glue h4,abD _ h5⟩
  ·have h6:Ow [A,λν=>∃c,(λν=>∃μ3,μ3 l=none/\ν=μ3.set l (some (rec (some c)))/\S c μ3) ν] ν:=h
   obtain⟨c,h7⟩:=Ow.ex h6.swap
   obtain⟨h4,h5⟩:=lift (hS c) h7.swap
   exact⟨some c,ν.set l none,Mem.aq _ _ _,glue h4,TF c _ h5⟩
end Go.aK
namespace Go.Proofs.YtbodiiomcfgokaaGreat
open Go.Proofs.Tryz Go.aK Go.RowKit
theorem PR{c:ae}{b:List aK.Bind}{es:List af}{y:af×List aK.Bind}(h:y∈aN c b es):y.1∈es:=by
 unfold aN at h
 obtain⟨e,he,h2⟩:=List.mem_filterMap.1 h
 cases hc:cO c e b with
 |none=>rw[hc]at h2;cases h2
 |some q=>
  rw[hc]at h2
  simp only[Option.map_some,Option.some.injEq]at h2
  subst h2;exact he
theorem Sp{es:List af}(hu:es.Pairwise λa b=>a.tag≠b.tag){c:ae}{ts:List cf}(h:ts.Pairwise λa b=>a.tags≠b.tags):(stepT es c ts).Pairwise λa b=>a.tags≠b.tags:=by
 unfold stepT
 split
 ·rw[List.pairwise_flatMap]
  refine⟨λt ht=>?_,h.imp λ{a b} uk x hx y hy e=>?_⟩
  ·rw[List.pairwise_map]
   unfold aN
   refine List.Pairwise.filterMap _ (R:=λa b:af=>a.tag≠b.tag) (λa a' haa b hb b' iK e=>?_) hu
   have e1:b.1=a:=by
    cases hc:cO c a t.binds with
    |none=>rw[hc]at hb;cases hb
    |some q=>rw[hc]at hb;simp only[Option.map_some,Option.some.injEq]at hb;rw[<- hb]
   have e2:b'.1=a':=by
    cases hc:cO c a' t.binds with
    |none=>rw[hc]at iK;cases iK
    |some q=>rw[hc]at iK;simp only[Option.map_some,Option.some.injEq]at iK;rw[<- iK]
   have:=List.append_inj_right' e rfl
   simp only[List.cons.injEq,and_true]at this
   rw[e1,e2]at this
   exact haa this
  ·obtain⟨x',_,rfl⟩:=List.mem_map.1 hx
   obtain⟨y',_,rfl⟩:=List.mem_map.1 hy
   exact uk (List.append_inj_left' e rfl)
 ·exact h.filter _
theorem dv{es:List af}(hu:es.Pairwise λa b=>a.tag≠b.tag)(p:Path):(au es p).Pairwise λa b=>a.tags≠b.tags:=by
 have key:∀(p:Path) (ts:List cf),(ts.Pairwise λa b=>a.tags≠b.tags)->(p.foldl (λts c=>stepT es c ts) ts).Pairwise λa b=>a.tags≠b.tags:=by
  intro p
  induction p with
  |nil=>intro ts h;exact h
  |cons c p ih=>intro ts h;exact ih _ (Sp hu h)
 exact key p _ (List.pairwise_singleton _ _)
theorem Mb{es:List af}{c:ae}{ts:List cf}(h:∀t∈ts,∀x∈t.tags,∃e∈es,e.tag=x):∀t∈stepT es c ts,∀x∈t.tags,∃e∈es,e.tag=x:=by
 intro t ht x hx
 unfold stepT at ht
 split at ht
 ·obtain⟨t',BU,hm⟩:=List.mem_flatMap.1 ht
  obtain⟨y,hy,rfl⟩:=List.mem_map.1 hm
  rcases List.mem_append.1 hx with hx|hx
  ·exact h t' BU x hx
  ·simp only[List.mem_singleton]at hx
   exact⟨y.1,PR hy,hx.symm⟩
 ·exact h t (List.mem_filter.1 ht).1 x hx
theorem LV{es:List af}(p:Path):∀t∈au es p,∀x∈t.tags,∃e∈es,e.tag=x:=by
 have key:∀(p:Path) (ts:List cf),(∀t∈ts,∀x∈t.tags,∃e∈es,e.tag=x)->∀t∈p.foldl (λts c=>stepT es c ts) ts,∀x∈t.tags,∃e∈es,e.tag=x:=by
  intro p
  induction p with
  |nil=>intro ts h;exact h
  |cons c p ih=>intro ts h;exact ih _ (Mb h)
 exact key p _ (by intro t ht x hx;simp only[List.mem_singleton]at ht;subst ht;simp[EO]at hx)
theorem kM{es:List af}(hu:ca aA aH es):es.Pairwise λa b=>a.tag≠b.tag:=hu.imp λ{a b} uk e=>by
 have e:aH a=aH b:=e
 rw[e]at uk
 exact absurd uk (by rw[ax.self];omega)
theorem dU:oF bG:=⟨vr,vt,ss⟩
def cR(ts:List cf):List cf:=ts.foldl (λl t=>et bG cf.tags t l) []
theorem Cz:∀(ts acc:List cf),ca bG cf.tags acc->(ts.Pairwise λa b=>a.tags≠b.tags)->(∀t∈ts,∀a∈acc,a.tags≠t.tags)->ca bG cf.tags (ts.foldl (λl t=>et bG cf.tags t l) acc)/\∀y,y∈ts.foldl (λl t=>et bG cf.tags t l) acc↔y∈ts\/y∈acc
 |[],acc,h,_,_=>⟨h,by simp⟩
 |t::ts,acc,h,hp,hd=>by
  obtain⟨h1,h2⟩:=List.pairwise_cons.1 hp
  have hn:aL bG cf.tags t.tags acc=none:=(bx dU).2 λa ha=>hd t (by simp) a ha
  have E_:et bG cf.tags t acc=bc bG cf.tags t acc:=by rw[et,hn];rfl
  simp only[List.foldl_cons]
  rw[E_]
  obtain⟨r1,r2⟩:=Cz ts _ (h.ins dU t) h2 λt' BU a ha=>by
   rcases(bj dU).1 ha with rfl|⟨ha,_⟩
   ·exact h1 t' BU
   ·exact hd t' (by simp[BU]) a ha
  refine⟨r1,λy=>?_⟩
  rw[r2,bj dU,List.mem_cons]
  constructor
  ·rintro(h|rfl|⟨h,_⟩)
   ·exact .inl (.inr h)
   ·exact .inl (.inl rfl)
   ·exact .inr h
  ·rintro((rfl|h)|h)
   ·exact .inr (.inl rfl)
   ·exact .inl h
   ·exact .inr (.inr ⟨h,hd t (by simp) y h⟩)
theorem fQ{ts:List cf}(h:ts.Pairwise λa b=>a.tags≠b.tags):ca bG cf.tags (cR ts)/\∀y,y∈cR ts↔y∈ts:=by
 obtain⟨h1,h2⟩:=Cz ts [] List.Pairwise.nil h (by simp)
 exact⟨h1,λy=>by unfold cR;rw[h2 y];simp⟩
theorem CA{ts l:List cf}(h:ts.Pairwise λa b=>a.tags≠b.tags)(hl:ca bG cf.tags l)(hm:∀y,y∈l↔y∈ts):l=cR ts:=
 ca.ext dU hl (fQ h).1 λy=>(hm y).trans ((fQ h).2 y).symm
theorem gQ{ts:List cf}(h:ts.Pairwise λa b=>a.tags≠b.tags):(cR ts).length=ts.length:=by
 have h1:=(fQ h).1
 have hn:∀l:List cf,(l.Pairwise λa b=>a.tags≠b.tags)->(l.map cf.tags).Nodup:=λl hl=>by rw[List.Nodup,List.pairwise_map];exact hl
 have h2:(cR ts).Pairwise λa b=>a.tags≠b.tags:=h1.imp λ{a b} uk e=>by
  rw[e]at uk;exact absurd uk (by rw[dU.self];omega)
 have:=qb (hn _ h2) (hn _ h) λx=>by
  rw[List.mem_map,List.mem_map]
  constructor
  ·rintro⟨t,ht,e⟩;exact⟨t,((fQ h).2 t).1 ht,e⟩
  ·rintro⟨t,ht,e⟩;exact⟨t,((fQ h).2 t).2 ht,e⟩
 simpa using this
structure Mt where
 name:ByteArray
 tags:List Int
@[reducible] def Mt.pv(m:Mt):List PV:=[pS m.name,.list 1 .sh (m.tags.map gz)]
def eB(es:List af)(p:Prod):List Mt:=(cR (au es p.conds)).map λt=>⟨p.name,t.tags⟩
def allM(es:List af)(ps:List Prod):List Mt:=ps.flatMap (eB es)
theorem FE:∀(xs acc:List RK.El),(xs.foldl (λl x=>et RK.ck RK.key x l) acc).map Subtype.val=(xs.map Subtype.val).foldl (λl t=>et bG cf.tags t l) (acc.map Subtype.val)
 |[],_=>rfl
 |x::xs,acc=>by
  simp only[List.foldl_cons,List.map_cons]
  rw[FE xs]
  congr 1
  unfold et
  have e1:aL bG cf.tags x.1.tags (acc.map Subtype.val)=(aL RK.ck RK.key (RK.key x) acc).map Subtype.val:=ql (f:=(Subtype.val:RK.El->cf))
  have e2:bc bG cf.tags x.1 (acc.map Subtype.val)=(bc RK.ck RK.key x acc).map Subtype.val:=nQ (f:=(Subtype.val:RK.El->cf)) (x:=x)
  rw[e1,e2,Option.isSome_map]
  split<;>rfl
section
variable {n:Nat} {x:NC} {es:List af} {ms:dL} {ids:pt} {T:Tree} {tk:Path->List cf} {ct:Path->List Nat} {fr:Path->List cf} {mn:Path->List Nat} {ps:List Prod} {w:Nat}
theorem LW(Dt:∀e∈es,1<=e.tag/\e.tag<9223372036854775808){p:Path}(hp:bD p)(hl:p.length<=1000):∀t∈au es p,Ai t.tags:=λt ht=>by
 refine⟨by have:=(pR (es:=es) hp t ht).2;omega,λx hx=>?_⟩
 obtain⟨e,he,rfl⟩:=LV p t ht x hx
 have:=Dt e he
 omega
theorem cOf(s:ByteArray){p:Prod}(Dt:∀e∈es,1<=e.tag/\e.tag<9223372036854775808)(hp:l_ p)(hD:p.conds∈T.D)(iB:tk p.conds=au es p.conds)(zC:(au es p.conds).length<=1024)(f1 f2 f3:Fl){L:List aY}{μ:Mem}(hO:Ow (cb T tk ct fr mn::L) μ){K:Kq}
  (hk:∀f μ',Ow (cb T tk ct fr mn::L) μ'->K (.list 2 f (((cR (au es p.conds)).map λt=>(⟨s,t.tags⟩:Mt)).map Mt.pv)) μ'):
  aa prog 76 [pS s,.agg [pS p.name,.list 7 f1 (p.conds.map ae.pv),.list 19 f2 (p.bp.map dh.pv),.list 1 f3 ((dE T.B p.conds).map λb=>[pP b 0])]] μ K:=by
 obtain⟨_,_,_,_,_,g1,g2⟩:=hp.facts
 obtain⟨w1,w2⟩:=tC T.B g1 (by omega)
 have aO:=LW (p:=p.conds) Dt hp.qf (by omega)
 refine RA.c λb2 rU=>?_
 have O1:=hO.new 9 [pS s] rU
 refine⟨w2,_,w1,_,rfl,?_⟩
 dsimp only[nP,nn,aF]
 obtain⟨F,hF⟩:=cb.rd hD (Ow.swap O1)
 refine⟨_,_,aE hF (by simp),?_⟩
 dsimp only[gK]
 rw[iB]
 let xs:List RK.El:=(au es p.conds).attach.map λt=>⟨t.1,aO t.1 t.2⟩
 have hxs:xs.map Subtype.val=au es p.conds:=by
  show((au es p.conds).attach.map λt=>(⟨t.1,aO t.1 t.2⟩:RK.El)).map Subtype.val=_
  rw[List.map_map]
  exact List.attach_map_subtype_val _
 have TH:(au es p.conds).map cf.pv=xs.map RK.pv:=by rw[<- hxs,List.map_map];rfl
 have hxl:xs.length=(au es p.conds).length:=by rw[<- hxs];simp
 rw[TH]
 refine RK.iy O1 _ xs (by omega) λu b h2=>⟨_,rfl,λb6 HR=>?_⟩
 generalize hS:xs.foldl (λl x=>et RK.ck RK.key x l) []=S at h2
 have hSv:S.map Subtype.val=cR (au es p.conds):=by
  rw[<- hS,FE,hxs];rfl
 have Yd:S.length<=1024:=by
  have h3:S.length=(cR (au es p.conds)).length:=by rw[<- hSv];simp
  have hle:∀(ts acc:List cf),(ts.foldl (λl t=>et bG cf.tags t l) acc).length<=acc.length+ts.length:=by
   intro ts
   induction ts with
   |nil=>intro acc;simp
   |cons t ts ih=>
    intro acc
    have h4:=ih (et bG cf.tags t acc)
    have h5:=CM (ck:=bG) (key:=cf.tags) (x:=t) (L:=acc)
    simp only[List.foldl_cons,List.length_cons];omega
  have h6:=hle (au es p.conds) []
  unfold cR at h3
  simp only[List.length_nil]at h6
  omega
 have h3:Ow (RK.At b S::lU b6 48 2 []::Pt b2 9 [pS s]::cb T tk ct fr mn::L) _:=Ow.ord [1,0] (lU.new (h2.new 48 [.list 2 .nil []] HR))
 refine(RK.rX b).call ⟨_,_,_,rfl,?_⟩
 refine bk.own (RK.fN b S (by omega)) h3 (λk u=>Ow (lU b6 48 2 (((S.take k).map λt=>(⟨s,t.1.tags⟩:Mt)).map Mt.pv)::Pt b2 9 [pS s]::cb T tk ct fr mn::L) u) (λ_ _=>False) (λk=>fJ.own _) (λ_ _ _ _ h=>h.elim) (λμ' h'=>h'.drop) ?_ ?_ (λ_ _ h=>h.elim)
 ·rintro k fH u2 R h4 bU _
  have bW:k<S.length:=by simpa using fH
  have hle:=(S[k]).2.le
  rw[List.getElem_map]
  obtain⟨f,ho⟩:=lU.open_ 0 h4 rfl
  refine⟨_,_,_,_,rfl,_,_,ho.rd 0 rfl (by simp),_,ho.rd 2 rfl (by simp),?_⟩
  refine aV.go (fl:=.nil) trivial (by simp;omega) (by simp;omega) (λlT u4 _ gG=>?_) (λ_ b c h=>by cases h)
  have ho2:Ow (Pt b6 48 [.list 2 f (((S.take k).map λt=>(⟨s,t.1.tags⟩:Mt)).map Mt.pv)]::eH f (((S.take k).map λt=>(⟨s,t.1.tags⟩:Mt)).map Mt.pv).length 2::Pt b2 9 [pS s]::cb T tk ct fr mn::L) u4:=Ow.mono (λb o hb=>(gG b o hb id).1) ho
  refine Ow.app ho2.swap rfl (by simp;omega) (by simp;omega) λf2 u5 h5=>h5.st 1 rfl (by simp) λu6 h6=>bU _ ?_
  have h7:=lU.shut h6 (by simp only[List.length_append,List.length_cons,List.length_nil])
  have e:((S.take (k+1)).map λt=>(⟨s,t.1.tags⟩:Mt)).map Mt.pv=((S.take k).map λt=>(⟨s,t.1.tags⟩:Mt)).map Mt.pv++[[pS s,.list 1 .sh ([]++S[k].1.tags.map λx=>[pI x])]]:=by
   rw[dT bW,List.map_append];rfl
  rw[e]
  exact h7
 ·intro u2 h4
  rw[List.length_map,List.take_length]at h4
  dsimp only[PK]
  obtain⟨f,hf⟩:=lU.rd 0 h4 rfl
  refine⟨_,_,hf,?_⟩
  have e:(S.map λt=>(⟨s,t.1.tags⟩:Mt))=(cR (au es p.conds)).map λt=>(⟨s,t.tags⟩:Mt):=by rw[<- hSv,List.map_map];rfl
  rw[e]
  exact hk f u2 h4.drop.drop
end
theorem ab4{α β:Type}(f:α->List β):∀(l:List α) (i:Nat) (hi:i<l.length) (k:Nat) (hk:k<(f l[i]).length),∃h:((l.take i).flatMap f).length+k<(l.flatMap f).length,(l.flatMap f)[((l.take i).flatMap f).length+k]=(f l[i])[k]:=by
 intro l i hi k hk
 have e:l.flatMap f=(l.take i).flatMap f++(f l[i]++(l.drop (i+1)).flatMap f):=by
  rw[<- List.flatMap_cons,<- List.flatMap_append]
  congr 1
  rw[<- List.drop_eq_getElem_cons hi,List.take_append_drop]
 have h:((l.take i).flatMap f).length+k<(l.flatMap f).length:=by rw[e,List.length_append,List.length_append];omega
 refine⟨h,?_⟩
 have h2:(l.flatMap f)[((l.take i).flatMap f).length+k]?=some (f l[i])[k]:=by
  rw[e,List.getElem?_append_right (by omega),show((l.take i).flatMap f).length+k-((l.take i).flatMap f).length=k from by omega,List.getElem?_append_left hk,List.getElem?_eq_getElem hk]
 rw[List.getElem?_eq_getElem h]at h2
 simpa using h2
section
variable {n:Nat} {x:NC} {es:List af} {ps:List Prod} {w:Nat}
theorem pd.len{ms:dL}{ids:pt}{T:Tree}{tk:Path->List cf}{ct:Path->List Nat}{W:Path->Prop}(h:pd x T es ms ids tk ct ps w W){p:Path}(hp:p∈T.D):(au es p).length<=1024:=by
 obtain⟨t1,t2⟩:=h.tb
 by_cases e:p=[]
 ·subst e;simp[au]
 ·obtain⟨q,d,rfl⟩:=qD e
  have h4:=h.core.dH.le q d hp 0
  rw[jI,<- cV]at h4;omega
theorem KZ(t m:Int){L:List aY}{μ:Mem}(hO:Ow L μ){K:Kq}
  (h0:¬(1<=t/\t<=1024/\1<=m/\m<=1024)->K (.aD [.raw (.pointer none),pI 1]) μ)
  (h1:1<=t/\t<=1024/\1<=m/\m<=1024->∀n x μ',x.T=t->x.M=m->Ow (bR n x [] [] 0::L) μ'->K (.aD [pP n 0,pI 0]) μ'):
  aa prog 52 [pI t,pI m] μ K:=by
 refine NO.c ?_
 refine ab.mk (λh=>h0 λh'=>?_) (λg1=>ab.mk (λh=>h0 λh'=>?_) (λg2=>ab.mk (λh=>h0 λh'=>?_) (λg3=>ab.mk (λh=>h0 λh'=>?_) (λg4 b25 ajm=>?_))))
 ·have:t<1:=by simpa using h
  omega
 ·have:t>1024:=by simpa using h
  omega
 ·have:m<1:=by simpa using h
  omega
 ·have:m>1024:=by simpa using h
  omega
 have hb:1<=t/\t<=1024/\1<=m/\m<=1024:=by
  have a1:¬t<1:=by simpa using g1
  have a2:¬t>1024:=by simpa using g2
  have a3:¬m<1:=by simpa using g3
  have a4:¬m>1024:=by simpa using g4
  omega
 let T:Tree:=⟨[[]],λ_=>b25,λ_=>[],λ_=>0,λ_=>[],λ_=>(none,0)⟩
 have O1:=hO.new 156 (gK T (λ_=>[EO]) (λ_=>[]) (λ_=>[]) (λ_=>[]) [] ⟨.nil,.nil,.nil,.nil,.nr,.nil,.nil,.nil⟩).pv ajm
 have mkN:∀ν,Ow (Pt b25 156 (gK T (λ_=>[EO]) (λ_=>[]) (λ_=>[]) (λ_=>[]) [] ⟨.nil,.nil,.nil,.nil,.nr,.nil,.nil,.nil⟩).pv::L) ν->Ow (cb T (λ_=>[EO]) (λ_=>[]) (λ_=>[]) (λ_=>[])::L) ν:=λν hν0=>by
  refine cb.in_ (T:=T) (p:=[]) (A:=[]) (B:=[]) rfl (F:=⟨.nil,.nil,.nil,.nil,.nr,.nil,.nil,.nil⟩) ?_
  refine hν0.tail λν hν=>?_
  have h2:Ow (iW 131 1 (.raw (.slice none 0 0)) []::L) ν:=iW.nil _ _ hν
  exact h2.tail λν2 h3=>⟨M0,ν2,Mem.vq ν2,(Mem.GQ ν2).symm,trivial,h3⟩
 have O2:=mkN _ O1
 refine af9 O2 λu al h2=>⟨_,rfl,?_⟩
 refine RT.iy h2 .nil [] (by simp) λu1 el h3=>⟨_,rfl,?_⟩
 refine RI.DX h3 λu2 id h4=>⟨_,rfl,?_⟩
 refine RP.DX h4 λu3 pr h5=>⟨_,rfl,λb31 ajl=>?_⟩
 have O3:=h5.new 137 [pI t,pI m,pP b25 0,pP al 0,pP el 0,pP id 0,pP pr 0] ajl
 let x:NC:=⟨t,m,b25,al,el,id,pr⟩
 refine h1 hb b31 x _ rfl rfl (bR.shut (T:=T) (ms:=[]) (ids:=[]) (tk:=λ_=>[EO]) (ct:=λ_=>[]) (fr:=λ_=>[]) (mn:=λ_=>[]) ?_ (by show((bK [] []:Nat):Int)<=m;unfold bK;simp;omega) ?_)
 ·have vV:∀(p:Path) (c:ae),¬p++[c]∈T.D:=λp c h=>by
   have:p++[c]∈[([]:Path)]:=h
   simp at this
  refine⟨⟨⟨by show[([]:Path)].Nodup;simp,by show[]∈[([]:Path)];simp,λp hp c=>⟨λh=>(by cases h),λh=>absurd h (vV p c)⟩,λp hp=>List.nodup_nil,λp c h=>absurd h (vV p c),λp hp=>?_,λp hp=>?_,λp hp=>?_,λp c h=>absurd h (vV p c),rfl,by show 1<=5000;omega,λp hp j hj=>by cases hj⟩,⟨eC.nil,λk _=>rfl⟩,λp c h=>absurd h (vV p c),⟨λp hp=>?_,λp c h=>absurd h (vV p c),λp c h=>absurd h (vV p c)⟩⟩,λr hr AP _=>?_,⟨List.Pairwise.nil,by simp,by simp,by simp,by simp⟩,rfl,by show 1<=t/\t<=1024;omega,by show 1<=m/\m<=1024;omega,List.Pairwise.nil,by simp,by simp,λp hp=>rfl,by simp,by simp,by show 1<=1+16*0;omega⟩
  ·have:p∈[([]:Path)]:=hp
   simp at this;subst this;simp
  ·have:p∈[([]:Path)]:=hp
   simp at this;subst this;trivial
  ·have:p∈[([]:Path)]:=hp
   simp at this;subst this;simp[aj]
  ·have:p∈[([]:Path)]:=hp
   simp at this;subst this;rfl
  ·have:r∈[([]:Path)]:=hr
   simp at this;exact absurd this AP
 ·have h6:Ow (Pt b31 137 x.pv::bV al [] []::RI.cU id []::cb T (λ_=>[EO]) (λ_=>[]) (λ_=>[]) (λ_=>[])::RP.cU pr []::RT.At el []::L) _:=Ow.ord [0,3,1,2,0,0] O3
  have h7:Ow (Pt b31 137 x.pv::bV al [] []::iM id []::cb T (λ_=>[EO]) (λ_=>[]) (λ_=>[]) (λ_=>[])::RP.cU pr []::RT.At el []::L) _:=h6.tail λ_ h=>h.tail λ_ h=>h.imp λν hν=>Ow.one hν
  exact Ow.pack (L1:=[Pt b31 137 x.pv,bV al [] [],iM id []]) h7
@[reducible] def JH(n:Nat):PV:=.fn (.func 120) [] [.bn [pP n 0] 0]
theorem DW(n:Nat):Pure prog 58 [pP n 0] (JH n):=ao.of (Ew.c rfl)
theorem BP(hw:w<=1000):Ag prog (JH n) ((allM es ps).map λm=>[.agg m.pv]) (bR n x es ps w):=by
 refine Ag.mk λfy ya yb J S μ hy hO df=>?_
 show aa _ _ [.fn fy ya yb,.bn [pP n 0] 0] _ _
 obtain⟨T,ms,ids,tk,ct,fr,mn,⟨hR,dQ⟩,h1⟩:=bR.open_ hO
 have ow:ps.length<=1000:=Nat.le_trans hR.xt hw
 refine Ar.c λb2 rU=>⟨_,rfl,?_⟩
 have O1:=h1.new 126 [.fn fy ya yb] rU
 dsimp only[nP,nn,aF]
 refine⟨_,aE (an.qz (x:=x) (es:=es) (ms:=ms) (ids:=ids) O1 (by simp)) (by simp),(RP.o_ x.pr).call ⟨_,_,_,rfl,?_⟩⟩
 have nR:((ps.map (fZ T.B)).map λy=>[RP.db y.1,RP.gI y.2]).length=ps.length:=by simp
 have shut:∀{u:Mem} {M:List aY},Ow (dc n x es ms ids T tk ct fr mn ps M) u->Ow (bR n x es ps w::M) u:=λh=>bR.shut hR dQ h
 refine bk.own (RP.fG x.pr (ps.map (fZ T.B)) (by simp;omega)) (Ow.ord [3] O1)
  (λi u=>Ow (dc n x es ms ids T tk ct fr mn ps [Pt b2 126 [.fn fy ya yb],J (allM es (ps.take i)).length]) u) (λcd u=>cd=.ret/\Ow [bR n x es ps w,S] u) (λi=>fJ.own _) (λcd=>fJ.and (fJ.own _)) (λμ' h'=>?_) ?_ ?_ ?_
 ·have h2:Ow (RP.cU x.pr (ps.map (fZ T.B))::Pt b2 126 [.fn fy ya yb]::an n x es ms ids::cb T tk ct fr mn::RT.At x.el es::[J 0]) μ':=h'
  exact Ow.ord [2,2,0,1,0] h2
 ·rintro i QD u R h2 bU kg
  have hi:i<ps.length:=by simpa using QD
  have hm:=List.getElem_mem hi
  have aO:=hR.rE _ hm
  have hD:=hR.pD _ hm
  obtain⟨_,_,_,_,_,g1,g2⟩:=aO.facts
  have zC:=hR.len hD
  rw[List.getElem_map,List.getElem_map]
  refine⟨_,_,_,_,_,_,_,_,rfl,?_⟩
  refine cOf ps[i].name hR.tags aO hD (hR.core.dH.tok _ hD) zC _ _ _ (Ow.swap h2) λf u3 h3=>⟨_,_,rfl,?_⟩
  have aT:=dv (kM hR.core.use.inv.ua) ps[i].conds
  have TZ:((cR (au es ps[i].conds)).map λt=>(⟨ps[i].name,t.tags⟩:Mt))=eB es ps[i]:=rfl
  rw[TZ]
  have ZC:(eB es ps[i]).length<=1024:=by unfold eB;rw[List.length_map,gQ aT];exact zC
  have afv:(allM es (ps.take (i+1))).length=(allM es (ps.take i)).length+(eB es ps[i]).length:=by unfold allM;rw[zL hi,List.length_append]
  refine ak.each (n:=(eB es ps[i]).length) (by omega) (λk u=>Ow (dc n x es ms ids T tk ct fr mn ps [Pt b2 126 [.fn fy ya yb],J ((allM es (ps.take i)).length+k)]) u) (Ow.swap h3) ?_ ?_
  ·rintro k u4 next hk h4 ar
   obtain⟨cz,rJ⟩:∃h:(allM es (ps.take i)).length+k<(allM es ps).length,(allM es ps)[(allM es (ps.take i)).length+k]=(eB es ps[i])[k]:=ab4 (eB es) ps i hi k hk
   refine ab.t (by simpa using hk) ⟨by omega,_,aw hk,_,_,_,rfl,_,_,_,h4.rd 4 rfl (by simp),?_⟩
   have gV:∀ν,J ((allM es (ps.take i)).length+k) ν->bY prog (.fn fy ya yb) [.agg (eB es ps[i])[k].pv] ν λv μ'=>(v=pB true/\Ow [J ((allM es (ps.take i)).length+k+1)] μ')\/(v=pB false/\Ow [S] μ'):=λν hν=>by
    have h:=df ((allM es (ps.take i)).length+k) (by rw[List.length_map];exact cz) ν hν
    rw[List.getElem_map]at h
    rw[rJ]at h
    exact h
   refine Ow.va (Ow.ord [5] h4) gV λv u5 h5=>?_
   rcases h5.qB with⟨rfl,h6⟩|⟨rfl,h6⟩
   ·exact⟨_,rfl,ab.f rfl (ar _ (Ow.ord [1,1,1,1,1,0] h6))⟩
   ·refine⟨_,rfl,ab.t rfl (kg _ _ ⟨rfl,?_⟩)⟩
    have h7:Ow (dc n x es ms ids T tk ct fr mn ps [S]) u5:=(Ow.ord [1,1,1,1,1,0] h6).tail λ_ h=>h.tail λ_ h=>h.tail λ_ h=>h.tail λ_ h=>h.drop
    exact shut h7
  ·rintro u4 next h4
   refine ab.f (by simp) (bU _ ?_)
   rw[afv];exact h4
 ·intro u h2
  rw[nR,List.take_length]at h2
  dsimp only[PK]
  rw[List.length_map]
  exact .inl (shut (h2.tail λ_ h=>h.tail λ_ h=>h.tail λ_ h=>h.tail λ_ h=>h.drop))
 ·rintro cd u ⟨rfl,h⟩
  exact .inr h
end
def jl(es:List af)(l:List ae):List Nat:=(List.range l.length).flatMap λi=>cQ es (l.take (i+1))
def bz(l:List Nat):Nat:=l.foldl max 0
theorem foldl_max(l:List Nat)(a:Nat):l.foldl max a=max a (bz l):=by
 unfold bz
 induction l generalizing a with
 |nil=>simp
 |cons b l ih=>simp only[List.foldl_cons];rw[ih (max a b),ih (max 0 b)];omega
theorem cl(a b:List Nat):bz (a++b)=max (bz a) (bz b):=by
 conv=>lhs;unfold bz
 rw[List.foldl_append,foldl_max];rfl
theorem jZ(a:Nat):bz [a]=a:=by simp[bz]
theorem OA{l:List Nat}{b:Nat}(h:∀x∈l,x<=b):bz l<=b:=by
 induction l with
 |nil=>simp[bz]
 |cons a l ih=>
  have h1:=h a (by simp)
  have h2:=ih λx hx=>h x (by simp[hx])
  have:bz (a::l)=max (bz [a]) (bz l):=cl [a] l
  rw[this,jZ];omega
structure dr where
 tags:List Int
 binds:List aK.Bind
 at_:Int
@[reducible] def dr.pv(t:dr):List PV:=[.list 1 .sh (t.tags.map gz),.list 4 .sh (t.binds.map Bind.pv),pI t.at_]
def dr.tok(t:dr):cf:=⟨t.tags,t.binds⟩
def nj(ts:List dr):List (List aK.Bind):=ts.map dr.binds
def bT(es:List af)(c:ae)(ts:List dr):List dr:=
 if c.kind=1 then ts.flatMap λt=>(aN c t.binds es).map λx=>⟨t.tags++[x.1.tag],x.2,t.at_⟩else ts.filter λt=> !(jQ es c t.binds).isEmpty
def c_(es:List af)(l:List ae)(ts:List dr):List dr:=l.foldl (λts c=>bT es c ts) ts
theorem tG(es:List af)(c:ae)(a b:List dr):bT es c (a++b)=bT es c a++bT es c b:=by
 unfold bT;split
 ·rw[List.flatMap_append]
 ·rw[List.filter_append]
theorem Ct(es:List af):∀(l:List ae) (a b:List dr),c_ es l (a++b)=c_ es l a++c_ es l b
 |[],_,_=>rfl
 |c::l,a,b=>by
  show c_ es l (bT es c (a++b))=c_ es l (bT es c a)++c_ es l (bT es c b)
  rw[tG];exact Ct es l _ _
theorem Jq(es:List af)(l:List ae)(c:ae)(ts:List dr):c_ es (l++[c]) ts=bT es c (c_ es l ts):=by unfold c_;rw[List.foldl_append];rfl
theorem oJ{es:List af}{l:List ae}{i:Nat}(hi:i<l.length)(ts:List dr):c_ es (l.take (i+1)) ts=bT es l[i] (c_ es (l.take i) ts):=by
 have e:l.take (i+1)=l.take i++[l[i]]:=by rw[List.take_add_one,List.getElem?_eq_getElem hi];rfl
 rw[e,Jq]
theorem Yi{es:List af}{c:ae}(hk:c.kind≠1)(b:List aK.Bind):jQ es c b=if(jQ es c b).isEmpty then[]else[b]:=by
 rw[iQ,if_neg hk]
 repeat' split
 all_goals first|rfl|simp_all
theorem so(es:List af)(c:ae)(ts:List dr):nj (bT es c ts)=(nj ts).flatMap λb=>jQ es c b:=by
 induction ts with
 |nil=>unfold bT nj;simp
 |cons t ts ih=>
  have e:t::ts=[t]++ts:=rfl
  rw[e,tG]
  unfold nj at ih |-
  rw[List.map_append,ih,List.map_append,List.flatMap_append]
  congr 1
  unfold bT
  by_cases hk:c.kind=1
  ·rw[if_pos hk]
   simp only[List.flatMap_cons,List.flatMap_nil,List.append_nil,List.map_map,List.map_cons,List.map_nil]
   rw[iQ,if_pos hk];rfl
  ·rw[if_neg hk]
   simp only[List.map_cons,List.map_nil,List.flatMap_cons,List.flatMap_nil,List.append_nil,List.filter_cons,List.filter_nil]
   rw[Yi hk t.binds]
   split<;>split<;>simp_all
theorem jT(es:List af):∀(l:List ae) (ts:List dr),nj (c_ es l ts)=kD es l (nj ts)
 |[],_=>rfl
 |c::l,ts=>by
  show nj (c_ es l (bT es c ts))=_
  rw[jT es l,so];rfl
theorem PL(es:List af)(c:ae)(ts:List dr):(bT es c ts).map dr.tok=stepT es c (ts.map dr.tok):=by
 unfold bT stepT
 by_cases hk:c.kind=1
 ·rw[if_pos hk,if_pos hk,List.map_flatMap,List.flatMap_map]
  congr 1;funext t
  rw[List.map_map];rfl
 ·rw[if_neg hk,if_neg hk,List.filter_map];rfl
theorem Cs(es:List af):∀(l:List ae) (ts:List dr),(c_ es l ts).map dr.tok=l.foldl (λts c=>stepT es c ts) (ts.map dr.tok)
 |[],_=>rfl
 |c::l,ts=>by
  show(c_ es l (bT es c ts)).map _=_
  rw[Cs es l,PL];rfl
def ub:dr:=⟨[],[],0⟩
theorem gC(es:List af)(l:List ae):(c_ es l [ub]).map dr.tok=au es l:=Cs es l _
theorem Sr{es:List af}{c:ae}{ts:List dr}{i:Int}(h:∀t∈ts,t.at_=i):∀t∈bT es c ts,t.at_=i:=by
 intro t ht
 unfold bT at ht
 split at ht
 ·obtain⟨t',h1,h2⟩:=List.mem_flatMap.1 ht
  obtain⟨x,_,rfl⟩:=List.mem_map.1 h2
  exact h t' h1
 ·exact h t (List.mem_filter.1 ht).1
theorem FG{es:List af}:∀{l:List ae} {ts:List dr} {i:Int},(∀t∈ts,t.at_=i)->∀t∈c_ es l ts,t.at_=i
 |[],_,_,h=>h
 |c::l,ts,i,h=>FG (l:=l) (Sr h)
def qY(k:Nat):List dr->List dr
 |[]=>[]
 |t::ts=>⟨[],t.binds,(k:Nat)⟩::qY (k+1) ts
theorem qX:∀(k:Nat) (ts:List dr),nj (qY k ts)=nj ts
 |_,[]=>rfl
 |k,t::ts=>by
  have:=qX (k+1) ts
  unfold nj at this |-
  simp only[qY,List.map_cons,this]
theorem Ds:∀(k:Nat) (ts:List dr),(qY k ts).length=ts.length
 |_,[]=>rfl
 |k,t::ts=>by simp only[qY,List.length_cons,Ds (k+1) ts]
theorem HG:∀(k:Nat) (ts:List dr),∀t∈qY k ts,((k:Nat):Int)<=t.at_/\t.tags=[]
 |_,[],_,h=>by simp[qY]at h
 |k,t::ts,x,h=>by
  simp only[qY,List.mem_cons]at h
  rcases h with rfl|h
  ·exact⟨Int.le_refl _,rfl⟩
  ·have:=HG (k+1) ts x h
   exact⟨by omega,this.2⟩
def Gu(l:List dr)(i:Int):Bool:=l.any λt=>t.at_ == i
theorem DC(es:List af)(l:List ae):∀(ts:List dr) (k i:Nat) (h:i<ts.length),Gu (c_ es l (qY k ts)) ((k+i:Nat):Int)= !(kD es l [ts[i].binds]).isEmpty
 |[],_,_,h=>by simp at h
 |t::ts,k,i,h=>by
  have e:qY k (t::ts)=[⟨[],t.binds,(k:Nat)⟩]++qY (k+1) ts:=rfl
  have h1:∀x∈c_ es l [(⟨[],t.binds,(k:Nat)⟩:dr)],x.at_=(k:Nat):=FG (by simp)
  have vY:∀(l:List ae) (k:Nat) (us:List dr),(∀t∈us,((k:Nat):Int)<=t.at_)->∀t∈c_ es l us,((k:Nat):Int)<=t.at_:=by
   intro l k
   induction l with
   |nil=>intro us h;exact h
   |cons c l ih=>
    intro us h
    refine ih _ λt ht=>?_
    have ht:t∈bT es c us:=ht
    unfold bT at ht
    split at ht
    ·obtain⟨t',h1,h2⟩:=List.mem_flatMap.1 ht
     obtain⟨x,_,rfl⟩:=List.mem_map.1 h2
     exact h t' h1
    ·exact h t (List.mem_filter.1 ht).1
  rw[e,Ct]
  unfold Gu
  rw[List.any_append]
  cases i with
  |zero=>
   have h2:(c_ es l (qY (k+1) ts)).any (λt=>t.at_ == ((k+0:Nat):Int))=false:=by
    rw[List.any_eq_false]
    intro x hx
    have:=vY l (k+1) _ (λt ht=>(HG (k+1) ts t ht).1) x hx
    simp only[beq_iff_eq];omega
   rw[h2,Bool.or_false]
   have h3:=jT es l [(⟨[],t.binds,(k:Nat)⟩:dr)]
   have h4:nj [(⟨[],t.binds,(k:Nat)⟩:dr)]=[t.binds]:=rfl
   rw[h4]at h3
   simp only[List.getElem_cons_zero]
   rw[<- h3]
   cases hs:c_ es l [(⟨[],t.binds,(k:Nat)⟩:dr)]with
   |nil=>rfl
   |cons x r=>
    rw[hs]at h1
    have:=h1 x (by simp)
    simp[nj,this]
  |succ i=>
   have h2:(c_ es l [(⟨[],t.binds,(k:Nat)⟩:dr)]).any (λt=>t.at_ == ((k+(i+1):Nat):Int))=false:=by
    rw[List.any_eq_false]
    intro x hx
    have:=h1 x hx
    simp only[beq_iff_eq];omega
   rw[h2,Bool.false_or]
   have:=DC es l ts (k+1) i (by simpa using h)
   unfold Gu at this
   rw[show k+(i+1)=k+1+i from by omega,this]
   rfl
theorem Jk{α β:Type}(f:β->Nat)(g:α->List β):∀l:List α,((l.flatMap g).map f).sum=(l.map λa=>((g a).map f).sum).sum
 |[]=>rfl
 |x::l=>by rw[List.flatMap_cons,List.map_append,List.sum_append,Jk f g l];rfl
theorem Im(es:List af):∀(cs:List ae) (rows:List (List aK.Bind)) (j:Nat),cL es cs rows j=(rows.map λb=>cL es cs [b] j).sum
 |[],rows,j=>by simp only[cL];induction rows with
  |nil=>rfl
  |cons b rows ih=>simp only[List.map_cons,List.sum_cons,<- ih]
 |c::cs,rows,j=>by
  simp only[cL]
  by_cases h:j<aR c
  ·simp only[if_pos h,List.map_cons,List.map_nil,List.sum_cons,List.sum_nil,Nat.add_zero]
  ·simp only[if_neg h]
   rw[Im es cs,Jk]
   congr 1
   refine List.map_congr_left λb _=>?_
   rw[Im es cs ([b].flatMap _)]
   simp
theorem PN{es:List af}{c:ae}{ts:List dr}(hk:c.kind≠1):(bT es c ts).length<=ts.length:=by
 unfold bT;rw[if_neg hk];exact List.length_filter_le _ _
theorem PO(es:List af)(c:ae)(ts:List dr):(bT es c ts).length=((nj ts).flatMap λb=>jQ es c b).length:=by
 rw[<- so];unfold nj;simp
theorem vo{es:List af}{l:List ae}{i:Nat}(hi:i<l.length)(ts:List dr):(c_ es (l.take (i+1)) ts).length=eh es l[i] (kD es (l.take i) (nj ts)) 0:=by
 rw[oJ hi,PO,jT,ze]
theorem Cw{es:List af}{c:ae}{ts:List dr}{m:Nat}(h:∀t∈ts,t.tags.length<=m):∀t∈bT es c ts,t.tags.length<=m+1:=by
 intro t ht
 unfold bT at ht
 split at ht
 ·obtain⟨t',h1,h2⟩:=List.mem_flatMap.1 ht
  obtain⟨x,_,rfl⟩:=List.mem_map.1 h2
  have:=h t' h1
  simp;omega
 ·exact Nat.le_succ_of_le (h t (List.mem_filter.1 ht).1)
theorem jC{es:List af}:∀{l:List ae} {ts:List dr} {m:Nat},(∀t∈ts,t.tags.length<=m)->∀t∈c_ es l ts,t.tags.length<=m+l.length
 |[],_,_,h=>h
 |c::l,ts,m,h=>λt ht=>by
  have:=jC (l:=l) (Cw h) t ht
  simp only[List.length_cons];omega
theorem oH(es:List af)(l:List ae):(au es l).map cf.binds=kD es l [[]]:=by
 have h1:=gC es l
 have h2:=jT es l [ub]
 rw[<- h1,List.map_map];exact h2
theorem DU(es:List af)(c:ae)(ts:List cf)(j:Nat):dZ es c ts j=eh es c (ts.map cf.binds) j:=by
 unfold dZ eh;rw[List.map_map];rfl
theorem Ip(es:List af)(B:Int):∀(l:List ae) (rows:List (List aK.Bind)),(∃j,B<((cL es l rows j:Nat):Int))↔B<0\/∃(i:Nat) (h:i<l.length) (j:Nat),B<((eh es l[i] (kD es (l.take i) rows) j:Nat):Int)
 |[],rows=>by
  constructor
  ·rintro⟨j,h⟩;simp only[cL]at h;exact .inl h
  ·rintro(h|⟨i,h,_⟩)
   ·exact⟨0,h⟩
   ·simp at h
 |c::cs,rows=>by
  have ih:=Ip es B cs (rows.flatMap λb=>jQ es c b)
  constructor
  ·rintro⟨j,h⟩
   simp only[cL]at h
   by_cases hj:j<aR c
   ·rw[if_pos hj]at h;exact .inr ⟨0,by simp,j,h⟩
   ·rw[if_neg hj]at h
    rcases ih.1 ⟨_,h⟩with h|⟨i,hi,j',h⟩
    ·exact .inl h
    ·exact .inr ⟨i+1,by simpa using hi,j',h⟩
  ·rintro(h|⟨i,hi,j,h⟩)
   ·exact⟨0,by omega⟩
   ·cases i with
    |zero=>
     by_cases hj:j<aR c
     ·refine⟨j,?_⟩
      simp only[cL];rw[if_pos hj];exact h
     ·have:eh es c rows j=0:=Jo es c rows (by omega)
      simp only[List.getElem_cons_zero,List.take_zero,kD]at h
      rw[this]at h
      exact⟨0,by omega⟩
    |succ i=>
     obtain⟨j',h'⟩:=ih.2 (.inr ⟨i,by simpa using hi,j,h⟩)
     refine⟨aR c+j',?_⟩
     simp only[cL];rw[if_neg (by omega),Nat.add_sub_cancel_left];exact h'
theorem Hr{es:List af}{B:Int}(hB:0<=B)(l:List ae):(∃j,B<((cL es l [[]] j:Nat):Int))↔du B es l:=by
 rw[Ip]
 constructor
 ·rintro(h|⟨i,hi,j,h⟩)
  ·omega
  ·exact⟨i,hi,j,by rw[DU,oH];exact h⟩
 ·rintro⟨i,hi,j,h⟩
  exact .inr ⟨i,hi,j,by rw[DU,oH]at h;exact h⟩
theorem qM{es fs:List af}(h:es.Perm fs){B:Int}{l:List ae}:du B es l↔du B fs l:=by
 unfold du
 constructor
 ·rintro⟨i,hi,j,k⟩;exact⟨i,hi,j,by rw[<- GG h l[i] (kX h _)];exact k⟩
 ·rintro⟨i,hi,j,k⟩;exact⟨i,hi,j,by rw[GG h l[i] (kX h _)];exact k⟩
theorem JG(f:Nat->Nat)(a b:Nat):(List.range (a+b)).map f=(List.range a).map f++(List.range b).map λj=>f (a+j):=by
 rw[List.range_add,List.map_append,List.map_map];rfl
theorem Pg(es:List af):∀(l:List ae) (rows:List (List aK.Bind)),(List.range (aj l)).map (cL es l rows)=(List.range l.length).flatMap λi=>(List.range (aR (l[i]?.getD Ja))).map (eh es (l[i]?.getD Ja) (kD es (l.take i) rows))
 |[],_=>rfl
 |c::cs,rows=>by
  have ih:=Pg es cs (rows.flatMap λb=>jQ es c b)
  simp only[aj,List.length_cons]
  rw[JG,List.range_succ_eq_map,List.flatMap_cons,List.flatMap_map]
  congr 1
  ·refine List.map_congr_left λj hj=>?_
   have hj:=List.mem_range.1 hj
   simp only[cL];rw[if_pos hj];rfl
  ·have e:(λj=>cL es (c::cs) rows (aR c+j))=cL es cs (rows.flatMap λb=>jQ es c b):=by
    funext j
    simp only[cL];rw[if_neg (by omega),Nat.add_sub_cancel_left]
   rw[e,ih]
   rfl
theorem wo(es:List af)(l:List ae):jl es l=(List.range (aj l)).map (cL es l [[]]):=by
 rw[Pg]
 unfold jl
 rw[List.flatMap_def,List.flatMap_def]
 congr 1
 refine List.map_congr_left λi hi=>?_
 have hi:=List.mem_range.1 hi
 have e:l.take (i+1)=l.take i++[l[i]]:=by rw[List.take_add_one,List.getElem?_eq_getElem hi];rfl
 rw[e,dY,List.getElem?_eq_getElem hi]
 unfold je
 refine List.map_congr_left λj _=>?_
 rw[DU,oH];rfl
theorem Qn{l:List Nat}(h:∀x∈l,x=0):bz l=0:=Nat.le_zero.1 (OA λx hx=>Nat.le_of_eq (h x hx))
theorem MI{f:Nat->Nat}{N M:Nat}(hN:∀j,N<=j->f j=0)(hM:∀j,M<=j->f j=0):bz ((List.range N).map f)=bz ((List.range M).map f):=by
 have key:∀{N M:Nat},N<=M->(∀j,N<=j->f j=0)->bz ((List.range M).map f)=bz ((List.range N).map f):=λ{N M} h h0=>by
  obtain⟨k,rfl⟩:∃k,M=N+k:=⟨M-N,by omega⟩
  rw[JG,cl,Qn (l:=(List.range k).map _)]
  ·omega
  ·intro x hx
   obtain⟨j,_,rfl⟩:=List.mem_map.1 hx
   exact h0 _ (by omega)
 rcases Nat.le_total N M with h|h
 ·exact(key h hN).symm
 ·exact key h hM
theorem aa6{T:Type}{key:T->List Int}{L:List T}(hu:ca bG key L){x:T}{i:Nat}(hi:i<=L.length)(hx:∀y∈L,key y≠key x)(h1:∀(j:Nat) (h:j<L.length),i<=j->bG (key x) (key L[j])<0)(h0:i=0\/∃h:i-1<L.length,¬bG (key x) (key L[i-1])<0):L.take i++x::L.drop i=bc bG key x L:=by
 have Bw:∀(j:Nat) (h:j<L.length),j<i->bG (key L[j]) (key x)<0:=λj h hj=>by
  rcases h0 with h0|⟨hl,h0⟩
  ·omega
  ·have e1:bG (key L[i-1]) (key x)<0:=by
    have:=(dU.flip (key L[i-1]) (key x))
    have hz:bG (key L[i-1]) (key x)≠0:=λe=>hx _ (List.getElem_mem hl) ((dU.zero _ _).1 e)
    have hz2:bG (key x) (key L[i-1])≠0:=λe=>hx _ (List.getElem_mem hl) ((dU.zero _ _).1 e).symm
    omega
   by_cases e:j=i-1
   ·subst e;exact e1
   ·have:=List.pairwise_iff_getElem.1 hu j (i-1) h hl (by omega)
    exact dU.trans _ _ _ this e1
 have Kr:∀(j:Nat) (h:j<L.length),i<=j->0<bG (key L[j]) (key x):=λj h hj=>by
  have:=h1 j h hj
  have:=dU.flip (key x) (key L[j])
  omega
 unfold bc
 rw[oY (k:=i) hi (λj h hj=>by simp[Db,Bw j h hj]) (λj h hj=>by have:=Kr j h hj;simp[Db];omega),
  sU (k:=i) hi (λj h hj=>by have:=Bw j h hj;simp[HT];omega) (λj h hj=>by simp[HT,Kr j h hj])]
abbrev wq(N:Nat)(cv:Nat->Nat):Lq:=(List.range N).map λi=>[pI ((cv i:Nat):Int)]
def rY(z:Nat)(R:Int)(o:Bool)(N:Nat)(cv:Nat->Nat):aY:=λμ=>∃a c,Ow [Pt z 198 [pV a N c,pI R,pB o],iW 3 1 (pV a N c) (wq N cv)] μ
theorem rY.open_{z:Nat}{R:Int}{o:Bool}{N:Nat}{cv:Nat->Nat}{L:List aY}{μ:Mem}(h:Ow (rY z R o N cv::L) μ):∃a c,Ow (Pt z 198 [pV a N c,pI R,pB o]::iW 3 1 (pV a N c) (wq N cv)::L) μ:=by
 obtain⟨a,h⟩:=Ow.ex h
 obtain⟨c,h⟩:=Ow.ex h
 exact⟨a,c,h.nest⟩
theorem rY.shut{z:Nat}{R:Int}{o:Bool}{N c:Nat}{a:Option Addr}{cv:Nat->Nat}{L:List aY}{μ:Mem}(h:Ow (Pt z 198 [pV a N c,pI R,pB o]::iW 3 1 (pV a N c) (wq N cv)::L) μ):Ow (rY z R o N cv::L) μ:=
 (Ow.pack (L1:=[_,_]) h).imp λ_ hν=>⟨a,c,hν⟩
theorem Ra{N:Nat}{cv:Nat->Nat}(h:cv N=0):wq N cv++[[pI 0]]=wq (N+1) cv:=by
 unfold wq;rw[List.range_succ,List.map_append,List.map_singleton,h];rfl
theorem af2{z N:Nat}{R:Int}{o:Bool}{cv:Nat->Nat}(hz:∀j,N<=j->cv j=0)(n k:Nat)(hn:n<=100000)(hN:N<=100000){L:List aY}{μ:Mem}(hO:Ow (rY z R o N cv::L) μ){K:Kq}
  (hk:∀μ',Ow (rY z R (o||decide (R<(k:Int))) (max N (n+1)) (oG cv n k)::L) μ'->K (.aD []) μ'):aa prog 176 [pP z 0,pI (n:Nat),pI (k:Nat)] μ K:=by
 refine pz.c ?_
 refine⟨λm _ u=>∃N',N<=N'/\N'<=max N (n+1)/\m=max N (n+1)-N'/\Ow (rY z R o N' cv::L) u,⟨_,N,Nat.le_refl _,by omega,rfl,hO⟩,?_⟩
 rintro m _ u ⟨N',h1,h2,rfl,hO⟩
 obtain⟨a,c,hO⟩:=rY.open_ hO
 refine⟨_,_,_,hO.rd 0 rfl (by simp),ab.mk (λh=>?_) (λh=>?_)⟩
 ·have h:N'<=n:=by simp at h;omega
  obtain⟨a',c',e,q_⟩:=iW.app hO.swap (zR N' cv)
  have hl:(wq N' cv).length=N':=by simp
  simp only[PV.raw.injEq,Value.slice.injEq]at e
  obtain⟨rfl,_,rfl⟩:=e
  rw[hl]at q_
  refine⟨_,_,_,hO.rd 0 rfl (by simp),?_⟩
  refine q_ _ _ _ rfl rfl (by omega) (by omega) λb2 c2 u2 jd=>?_
  rw[Ra (hz N' h1)]at jd
  refine jd.st 1 rfl (by simp) λu3 Fe=>⟨_,?_,N'+1,by omega,by omega,rfl,rY.shut Fe.swap⟩
  omega
 ·have h:n<N':=by simp at h;omega
  have hm:max N (n+1)=N':=by omega
  have hl:n<(wq N' cv).length:=by simpa using h
  obtain⟨b,rfl,_,gV⟩:=iW.at_ 1 hO rfl (zR N' cv) (j:=n) hl
  refine⟨_,_,_,hO.rd 0 rfl (by simp),by omega,by omega,?_⟩
  rw[Int.toNat_natCast]
  refine gV 0 _ _ (by simp) λu2 jd=>?_
  have e:(wq N' cv).set n (dN (wq N' cv)[n] 0 [pI (k:Nat)])=wq N' (oG cv n k):=by
   have e1:dN (wq N' cv)[n] 0 [pI (k:Nat)]=[pI ((k:Nat):Int)]:=by simp[dN]
   rw[e1];exact UQ h
  have jd:Ow (Pt z 198 [pV (some ⟨b,0,none⟩) N' c,pI R,pB o]::iW 3 1 (pV (some ⟨b,0,none⟩) N' c) ((wq N' cv).set n (dN (wq N' cv)[n] 0 [pI (k:Nat)]))::L) u2:=jd
  rw[e]at jd
  rw[hm]at hk
  refine⟨_,jd.rd 0 rfl (by simp),ab.mk (λho=>?_) (λho=>⟨_,jd.rd 0 rfl (by simp),?_⟩)⟩
  ·subst ho
   exact jd.st 0 rfl (by simp) λu3 Fe=>hk _ (rY.shut Fe)
  ·subst ho
   exact jd.st 0 rfl (by simp) λu3 Fe=>hk _ (rY.shut Fe)
theorem acq(f:Fl)(l:List dr)(hl:l.length<=100000000)(i:Int):Pure prog 240 [.list 3 f (l.map dr.pv),pI i] (pB (Gu l i)):=by
 refine ao.of (wN.c ?_)
 refine ak.each (n:=l.length) (by omega) (λk u=>(l.take k).any (λt=>t.at_ == i)=false) (by simp) ?_ ?_
 ·intro k u next hk hg ar
  refine ab.t (by simpa using hk) ⟨by omega,_,aw hk,_,rfl,ab.mk (λhe=>?_) (λhe=>ar _ (by rw[Eg hk hg];exact he))⟩
  show wk (pB true)=_
  rw[Gu,NA (p:=λt:dr=>t.at_ == i) hk he];rfl
 ·intro u next hg
  rw[List.take_length]at hg
  exact ab.f (by simp) (by rw[Gu,hg];rfl)
def oT:List Int->List Int->Bool
 |[],b=> !b.isEmpty
 |_::_,[]=>false
 |x::a,y::b=>if x=y then oT a b else decide (x<y)
theorem zw:∀(k:Nat) (a b:List Int),k<=a.length->k<=b.length->a.take k=b.take k->oT a b=oT (a.drop k) (b.drop k)
 |0,_,_,_,_,_=>rfl
 |k+1,[],_,h,_,_=>by simp at h
 |k+1,_::_,[],_,h,_=>by simp at h
 |k+1,x::a,y::b,h1,h2,h=>by
  simp only[List.take_succ_cons,List.cons.injEq]at h
  obtain⟨rfl,h⟩:=h
  simp only[oT,if_true,List.drop_succ_cons]
  exact zw k a b (by simpa using h1) (by simpa using h2) h
theorem ack(f g:Fl)(a b:List Int)(ha:a.length<=100000000)(hb:b.length<=100000000):Pure prog 112 [.list 1 f (a.map gz),.list 1 g (b.map gz)] (pB (oT a b)):=by
 refine ao.of (wO.c ⟨λ_ _=>∃k,k<=a.length/\k<=b.length/\a.take k=b.take k/\(k=a.length\/k=b.length),?_,?_⟩)
 ·refine ak.each (n:=a.length) (by omega) (λk u=>k<=b.length/\a.take k=b.take k) ⟨by omega,rfl⟩ ?_ ?_
  ·rintro k u next hk ⟨h1,h2⟩ ar
   refine ab.t (by simpa using hk) (ab.mk (λh=>?_) (λh=>?_))
   ·have h:k<b.length:=by simpa using h
    refine⟨by omega,_,aw hk,_,rfl,by omega,_,aw h,_,rfl,ab.mk (λaT=>?_) (λhe=>ar _ ⟨by omega,?_⟩)⟩
    ·have aT:a[k]≠b[k]:=by simpa using aT
     refine⟨by omega,_,aw hk,_,rfl,by omega,_,aw h,_,rfl,?_⟩
     show wk (pB (decide (a[k]<b[k])))=_
     rw[zw k a b (by omega) h1 h2,List.drop_eq_getElem_cons hk,List.drop_eq_getElem_cons h,oT,if_neg aT];rfl
    ·have he:a[k]=b[k]:=by simpa using he
     rw[List.take_add_one,List.take_add_one,List.getElem?_eq_getElem hk,List.getElem?_eq_getElem h,h2,he]
   ·have h:¬k<b.length:=by simpa using h
    exact⟨k,by omega,by omega,h2,.inr (by omega)⟩
  ·rintro u next ⟨h1,h2⟩
   exact ab.f (by simp) ⟨a.length,by omega,h1,h2,.inl rfl⟩
 ·rintro _ u ⟨k,h1,h2,h3,h4⟩
  show wk (pB (decide ((((a.map gz).length:Nat):Int)<(((b.map gz).length:Nat):Int))))=_
  rw[zw k a b h1 h2 h3]
  have e:decide ((((a.map gz).length:Nat):Int)<(((b.map gz).length:Nat):Int))=oT (a.drop k) (b.drop k):=by
   rcases h4 with rfl|rfl
   ·rw[List.drop_length]
    simp only[oT,List.length_map]
    cases hd:b.drop a.length with
    |nil=>have:=congrArg List.length hd;simp at this;simp;omega
    |cons y r=>have:=congrArg List.length hd;simp at this;simp;omega
   ·rw[List.drop_length]
    simp only[List.length_map]
    cases hd:a.drop b.length with
    |nil=>have:=congrArg List.length hd;simp at this;simp[oT];omega
    |cons y r=>have:=congrArg List.length hd;simp at this;simp[oT];omega
  rw[e];rfl
theorem SA(n:Nat)(f:Nat->Nat)(j:Nat):sh n f j=(if j=n then f 0 else 0)+sh (n+1) (λj=>f (j+1)) j:=by
 unfold sh
 by_cases e:j=n
 ·subst e;rw[if_pos (Nat.le_refl _),Nat.sub_self,if_pos rfl,if_neg (by omega)];omega
 ·rw[if_neg e]
  by_cases h:n<=j
  ·rw[if_pos h,if_pos (by omega),show j-n=j-(n+1)+1 from by omega,Nat.zero_add]
  ·rw[if_neg h,if_neg (by omega)]
theorem Hb{es:List af}{c:ae}(h:¬(c.kind=1\/c.kind=2))(rows:List (List aK.Bind)):(λj=>eh es c rows (j+1))=cL es c.conds rows:=by
 funext j
 rw[Im]
 unfold eh
 congr 1
 exact List.map_congr_left λb _=>by rw[tV,if_neg h]
theorem NZ{es:List af}{c:ae}(h:c.kind=1\/c.kind=2)(rows:List (List aK.Bind))(j:Nat):eh es c rows (j+1)=0:=by
 unfold eh
 induction rows with
 |nil=>rfl
 |cons b rows ih=>rw[List.map_cons,List.sum_cons,ih,tV,if_pos h]
theorem vp{es:List af}{c:ae}{ts:List dr}{k:Nat}(hk:k<ts.length):bT es c (ts.take (k+1))=bT es c (ts.take k)++bT es c [ts[k]]:=by
 rw[<- tG,List.take_add_one,List.getElem?_eq_getElem hk];rfl
theorem Gm:∀(a:Nat) {ts:List dr} {k:Nat} (hk:k<ts.length),qY a (ts.take (k+1))=qY a (ts.take k)++[⟨[],ts[k].binds,((a+k:Nat):Int)⟩]
 |a,t::ts,0,_=>rfl
 |a,t::ts,k+1,hk=>by
  simp only[List.take_succ_cons,qY,List.cons_append,List.getElem_cons_succ]
  rw[Gm (a+1) (by simpa using hk),show a+1+k=a+(k+1)from by omega]
mutual
def Tv:ae->Prop
 | .mk k g i a v ac cs=>(k=1\/k=2\/k=3)/\Dp cs
def Dp:List ae->Prop
 |[]=>True
 |c::cs=>Tv c/\Dp cs
end
theorem OB(c:ae):Tv c↔(c.kind=1\/c.kind=2\/c.kind=3)/\Dp c.conds:=by cases c;rfl
theorem Dn{l:List ae}:Dp l↔∀c∈l,Tv c:=by
 induction l with
 |nil=>simp[Dp]
 |cons c l ih=>simp[Dp,ih]
section
variable {es:List af} {R:Int}
def agl(es:List af)(R:Int)(c:ae)(n:Nat)(ts:List dr)(cv:Nat->Nat)(o:Bool)(rV:Nat->Nat)(out:List dr):Prop:=
 (o=false/\(∀j,((eh es c (nj ts) (j+1):Nat):Int)<=R)/\rV=(λj=>cv j+sh (n+1) (λj=>eh es c (nj ts) (j+1)) j)/\(out=bT es c ts\/(R<((bT es c ts).length:Nat)/\R<(out.length:Nat))))\/(o=true/\∃j,R<((eh es c (nj ts) (j+1):Nat):Int))
def tp(es:List af)(R:Int)(c:ae):Prop:=∀(fa fv fc ft fe:Fl) (n N z:Nat) (cv:Nat->Nat) (ts:List dr) {L:List aY} {μ:Mem} {K:Kq},vC c->Tv c->n+aR c<=2000->N<=n->(∀j,N<=j->cv j=0)->ts.length<=1000000->(∀t∈ts,t.binds.length+100*aR c<=900000/\t.tags.length+1<=900000)->Ow (rY z R false N cv::L) μ->
    (∀f o N' rV out μ',agl es R c n ts cv o rV out->N'<=n+aR c->(∀j,N'<=j->rV j=0)->out.length<=1000001->(∀t∈out,t.tags.length<=900000)->Ow (rY z R o N' rV::L) μ'->K (.list 3 f (out.map dr.pv)) μ')->
    aa prog 175 [.agg [pI c.kind,pB c.goal,pS c.id,.list 6 fa (c.attr.map Test.pv),.list 6 fv (c.value.map Test.pv),pB c.acc,.list 7 fc (c.conds.map ae.pv)],pI (n:Nat),.list 3 ft (ts.map dr.pv),.list 12 fe (es.map af.pv),pP z 0] μ K
def GoR(es:List af)(R:Int)(l:List ae)(n:Nat)(ts:List dr)(cv:Nat->Nat)(o:Bool)(rV:Nat->Nat)(out:List dr):Prop:=
 (o=false/\(∀j,((cL es l (nj ts) j:Nat):Int)<=R)/\rV=(λj=>cv j+sh n (cL es l (nj ts)) j)/\out=c_ es l ts)\/(o=true/\∃j,R<((cL es l (nj ts) j:Nat):Int))
def NH(es:List af)(R:Int)(l:List ae):Prop:=∀(fl ft fe:Fl) (n N z:Nat) (cv:Nat->Nat) (ts:List dr) {L:List aY} {μ:Mem} {K:Kq},ud l->Dp l->n+aj l<=2000->N<=n->(∀j,N<=j->cv j=0)->ts.length<=1000000->(∀t∈ts,t.binds.length+100*aj l<=900000/\t.tags.length+aj l<=900000)->Ow (rY z R false N cv::L) μ->
    (∀f o N' rV out μ',GoR es R l n ts cv o rV out->N'<=n+aj l->(∀j,N'<=j->rV j=0)->out.length<=1000001->(∀t∈out,t.tags.length<=900000)->Ow (rY z R o N' rV::L) μ'->K (.list 3 f (out.map dr.pv)) μ')->
    aa prog 113 [.list 7 fl (l.map ae.pv),pI (n:Nat),.list 3 ft (ts.map dr.pv),.list 12 fe (es.map af.pv),pP z 0] μ K
theorem Jr{c:ae}(hl:cr c){ts:List dr}{m:Nat}(h:∀t∈ts,t.binds.length<=m):∀t∈bT es c ts,t.binds.length<=m+100*aR c:=by
 intro t ht
 have h1:t.binds∈nj (bT es c ts):=List.mem_map.2 ⟨t,ht,rfl⟩
 rw[so]at h1
 obtain⟨b,hb,h2⟩:=List.mem_flatMap.1 h1
 obtain⟨t',h3,rfl⟩:=List.mem_map.1 hb
 have:=OS hl h2
 have:=h t' h3
 omega
theorem xE:∀{l:List ae} (_:bD l) {ts:List dr} {m:Nat} (_:∀t∈ts,t.binds.length<=m),∀t∈c_ es l ts,t.binds.length<=m+100*aj l
 |[],_,_,_,h=>λt ht=>by have:=h t ht;simp[aj];exact this
 |c::l,hl,ts,m,h=>λt ht=>by
  have:=xE (l:=l) hl.2 (Jr (es:=es) hl.1 h) t ht
  simp only[aj];omega
theorem afL(hR:0<=R/\R<=1000000){l:List ae}(hs:∀c∈l,tp es R c):NH es R l:=by
 intro fl ft fe n N z cv ts L μ K aO QB gD hN hz zC Bu hO hk
 have sM:=ch l
 refine As.c ?_
 refine⟨λm s u=>∃i,s.2.2=((i:Nat):Int)/\i<=l.length/\m=l.length-i/\s.1=((n+aj (l.take i):Nat):Int)/\∃o N' rV out,s.2.1.2=out.map dr.pv/\(o=false->GoR es R (l.take i) n ts cv false rV out)/\(o=true->∃j,R<((cL es l (nj ts) j:Nat):Int))/\N'<=n+aj (l.take i)/\(∀j,N'<=j->rV j=0)/\out.length<=1000001/\(∀t∈out,t.tags.length<=900000)/\Ow (rY z R o N' rV::L) u,
  ⟨_,0,rfl,by omega,rfl,by simp[aj],false,N,cv,ts,rfl,λ_=>.inl ⟨rfl,λj=>by simp[cL];omega,?_,rfl⟩,(λh=>by cases h),by simp[aj];omega,hz,by omega,λt ht=>by have:=(Bu t ht).2;omega,hO⟩,?_⟩
 ·funext j;simp only[List.take_zero];rw[Mg];rfl
 rintro m ⟨_,⟨f,_⟩,_⟩ u ⟨i,rfl,hi,rfl,rfl,o,N',rV,out,rfl,hg,AR,hN',Qv,hol,hot,hO⟩
 dsimp only
 have fin:(o=false->i=l.length)->K (.list 3 f (out.map dr.pv)) u:=λh=>by
  refine hk f o N' rV out u ?_ (by have:=fX l i;omega) Qv hol hot hO
  cases o with
  |true=>exact .inr ⟨rfl,AR rfl⟩
  |false=>
   have hg:=hg rfl
   rw[h rfl,List.take_length]at hg
   exact hg
 refine ab.mk (λh=>?_) (λh=>fin λ_=>by simp at h;omega)
 have hi:i<l.length:=by simpa using h
 obtain⟨a,cc,sd⟩:=rY.open_ hO
 refine⟨_,sd.rd 0 rfl (by simp),ab.mk (λho=>?_) (λho=>fin λe=>by rw[e]at ho;cases ho)⟩
 have ho:o=false:=by simpa using ho
 subst ho
 obtain⟨_,hle,rfl,rfl⟩:=(hg rfl).resolve_right λh=>by cases h.1
 have hm:=List.getElem_mem hi
 have aiw:=jE hi
 have am1:=fX l (i+1)
 have Ke:1<=aR l[i]:=by rw[bM];omega
 have fO:=jX.1 aO _ hm
 have LJ:nj (c_ es (l.take i) ts)=kD es (l.take i) (nj ts):=jT es _ ts
 have hln:(c_ es (l.take i) ts).length<=1000000:=by
  by_cases h0:i=0
  ·subst h0;exact zC
  ·obtain⟨k,rfl⟩:∃k,i=k+1:=⟨i-1,by omega⟩
   rw[vo (by omega) ts]
   have h1:=hle (aj (l.take k))
   rw[Ca es (by omega) (nj ts),Jv]at h1
   omega
 refine⟨by omega,_,aw hi,_,_,_,_,_,_,_,_,_,_,iI _,?_⟩
 have cz:bD (l.take i):=bH.2 λc hc=>bH.1 (nG aO) c (List.mem_of_mem_take hc)
 refine hs _ hm .sh .sh .sh f fe (n+aj (l.take i)) N' z _ _ fO (Dn.1 QB _ hm) (by omega) hN' Qv hln (λt ht=>⟨?_,?_⟩) hO λf1 o1 N1 cv1 MA u1 hr hN1 Tz zE ht1 jd=>⟨_,_,rfl,?_⟩
 ·have h1:=xE (es:=es) cz (m:=900000-100*aj l) (ts:=ts) (λt ht=>by have:=(Bu t ht).1;omega) t ht
  have Qy:∀t∈ts,100*aj l<=900000:=λt ht=>by have:=(Bu t ht).1;omega
  cases ts with
  |nil=>
   have:∀l:List ae,c_ es l []=[]:=λl=>by
    induction l with
    |nil=>rfl
    |cons c l ih=>show c_ es l (bT es c [])=[];unfold bT;simp;exact ih
   rw[this]at ht;cases ht
  |cons t0 ts=>have:=Qy t0 (by simp);omega
 ·have Qy:∀t∈ts,t.tags.length<=900000-aj l/\aj l<=900000:=λt ht=>by have:=(Bu t ht).2;omega
  have h1:=jC (es:=es) (l:=l.take i) (m:=900000-aj l) (ts:=ts) (λt ht=>(Qy t ht).1) t ht
  have h2:=ch (l.take i)
  rw[List.length_take,Nat.min_eq_left (by omega)]at h1 h2
  omega
 rw[List.length_map]
 refine af2 Tz (n+aj (l.take i)) MA.length (by omega) (by omega) jd λu2 Fe=>⟨rfl,by omega,_,aw hi,.sh,l[i].conds.map ae.pv,by rw[ae.cP];rfl,?_⟩
 refine(s_ _ .sh l[i].conds (Nat.le_refl _) (by rw[bM]at aiw;omega)).call ⟨_,rfl,?_⟩
 refine⟨l.length-(i+1),by omega,i+1,by rw[az (by omega) (by omega)];rfl,by omega,rfl,?_,_,_,_,MA,rfl,λho=>?_,λho=>?_,by omega,λj hj=>?_,zE,ht1,Fe⟩
 ·have:=bM l[i]
  rw[az (x:=1+((aj l[i].conds:Nat):Int)) (by omega) (by omega),az (by omega) (by omega)];omega
 ·obtain⟨h1,h2⟩:=Bool.or_eq_false_iff.1 ho
  subst h1
  obtain⟨_,r1,rfl,r2⟩:=hr.resolve_right λh=>by cases h.1
  have h2:((MA.length:Nat):Int)<=R:=by simpa using h2
  obtain rfl:=r2.resolve_right λh=>by omega
  rw[LJ]at r1
  have HQ:=vo (es:=es) hi ts
  rw[oJ hi]at HQ
  refine .inl ⟨rfl,λj=>?_,?_,(oJ hi ts).symm⟩
  ·have h4:∀j,((eh es l[i] (kD es (l.take i) (nj ts)) j:Nat):Int)<=R:=λj=>by
    cases j with
    |zero=>rw[<- HQ];exact h2
    |succ j=>exact r1 j
   rw[Ca es hi]
   unfold sh
   split
   ·rename_i h5
    rw[Iq es _ _ _ h5,Nat.zero_add];exact h4 _
   ·rw[Nat.add_zero];exact hle j
  ·funext j
   rw[HQ]
   have e:sh n (λq=>cL es (l.take i) (nj ts) q+sh (aj (l.take i)) (eh es l[i] (kD es (l.take i) (nj ts))) q) j=sh n (cL es (l.take i) (nj ts)) j+sh (n+aj (l.take i)) (eh es l[i] (kD es (l.take i) (nj ts))) j:=by rw[Mh,Ze]
   have e2:sh n (cL es (l.take (i+1)) (nj ts)) j=sh n (λq=>cL es (l.take i) (nj ts) q+sh (aj (l.take i)) (eh es l[i] (kD es (l.take i) (nj ts))) q) j:=xF (λq=>Ca es hi _ q) j
   have e3:sh n (cL es (l.take (i+1)) (nj ts)) j=sh n (cL es (l.take i) (nj ts)) j+sh (n+aj (l.take i)) (eh es l[i] (kD es (l.take i) (nj ts))) j:=e2.trans e
   have e4:=SA (n+aj (l.take i)) (eh es l[i] (kD es (l.take i) (nj ts))) j
   show oG _ _ _ j=cv j+sh n (cL es (l.take (i+1)) (nj ts)) j
   rw[e3,e4]
   unfold oG
   by_cases hj:j=n+aj (l.take i)
   ·rw[if_pos hj,if_pos hj]
    have z1:=Qv j (by omega)
    have z1:cv j+sh n (cL es (l.take i) (nj ts)) j=0:=z1
    have z2:sh (n+aj (l.take i)+1) (λj=>eh es l[i] (kD es (l.take i) (nj ts)) (j+1)) j=0:=by unfold sh;rw[if_neg (by omega)]
    omega
   ·rw[if_neg hj,if_neg hj,LJ];dsimp only;omega
 ·have h4:∃j,R<((eh es l[i] (kD es (l.take i) (nj ts)) j:Nat):Int):=by
   rcases hr with⟨rfl,r1,rfl,r2⟩|⟨_,j,h⟩
   ·have h2:R<((MA.length:Nat):Int):=by simpa using ho
    refine⟨0,?_⟩
    rw[<- vo hi ts,oJ hi]
    rcases r2 with rfl|⟨h3,_⟩
    ·exact h2
    ·exact h3
   ·exact⟨j+1,by rw[<- LJ];exact h⟩
  obtain⟨j,h4⟩:=h4
  exact(Ip es R l (nj ts)).2 (.inr ⟨i,hi,j,h4⟩)
 ·unfold oG
  rw[if_neg (by omega)]
  exact Tz j (by omega)
end
section
variable {es:List af} {R:Int}
theorem Me{c:ae}(hk:c.kind=1)(t:dr):bT es c [t]=(aN c t.binds es).map λx=>(⟨t.tags++[x.1.tag],x.2,t.at_⟩:dr):=by unfold bT;rw[if_pos hk];simp
theorem Cy{c:ae}(hk:c.kind=2)(t:dr):bT es c [t]=if(aN c t.binds es).isEmpty then[t]else[]:=by
 unfold bT
 have h1:¬c.kind=1:=by omega
 rw[if_neg h1,List.filter_cons,List.filter_nil,iQ,if_neg h1,if_pos hk]
 cases(aN c t.binds es).isEmpty<;>rfl
theorem Cx{c:ae}(hk:¬(c.kind=1\/c.kind=2))(t:dr):bT es c [t]=if(kD es c.conds [t.binds]).isEmpty then[t]else[]:=by
 unfold bT
 rw[if_neg (λh=>hk (.inl h)),List.filter_cons,List.filter_nil,iQ,if_neg (λh=>hk (.inl h)),if_neg (λh=>hk (.inr h))]
 cases(kD es c.conds [t.binds]).isEmpty<;>rfl
theorem PM{c:ae}{ts us:List dr}(h:∀t∈us,t∈ts):∀t∈bT es c us,t∈bT es c ts:=by
 intro t ht
 unfold bT at ht |-
 by_cases hk:c.kind=1
 ·rw[if_pos hk]at ht |-
  obtain⟨a,ha,hb⟩:=List.mem_flatMap.1 ht
  exact List.mem_flatMap.2 ⟨a,h a ha,hb⟩
 ·rw[if_neg hk]at ht |-
  obtain⟨a,b⟩:=List.mem_filter.1 ht
  exact List.mem_filter.2 ⟨h t a,b⟩
theorem ad0(hR:0<=R/\R<=1000000)(RS:es.length<=1000000){c:ae}(y_:NH es R c.conds)(h3:c.kind=3):tp es R c:=by
 intro fa fv fc ft fe n N z cv ts L μ K aO QB gD hN hz zC Bu hO hk
 have Uc:¬(c.kind=1\/c.kind=2):=by omega
 have Ke:=bM c
 refine od.c (ab.t (by rw[h3];rfl) ?_)
 refine ak.dm (n:=ts.length) (by omega) (λi x u=>x.2=(qY 0 (ts.take i)).map dr.pv/\Ow (eH x.1 i 3::rY z R false N cv::L) u) ⟨rfl,hO.nil (.inl rfl)⟩ ?_ ?_
 ·rintro i ⟨f,_⟩ u next hi ⟨rfl,h⟩ ar
  refine ab.t (by simpa using hi) ⟨by omega,_,aw hi,_,_,rfl,?_⟩
  refine h.app (by rw[List.length_map,Ds,List.length_take];omega) (by simp;omega) (by simp;omega) λf1 u1 h1=>ar _ _ ⟨?_,h1⟩
  rw[Gm 0 hi,List.map_append,Nat.zero_add];rfl
 ·rintro⟨f,_⟩ u next ⟨rfl,h⟩
  refine ab.f (by simp) ?_
  rw[List.take_length,show IntKind.wrap .i64 (((n:Nat):Int)+1)=((n+1:Nat):Int)from by rw[az (by omega) (by omega)];rfl]
  refine y_ fc f fe (n+1) N z cv (qY 0 ts) ((oO c).1 aO).2.2 ((OB c).1 QB).2 (by omega) (by omega) hz (by rw[Ds];exact zC) (λt ht=>⟨?_,?_⟩) h.drop λf1 o N1 cv1 MA u1 hg hN1 Tz zE ht1 sd=>⟨_,_,rfl,?_⟩
  ·have h1:t.binds∈nj (qY 0 ts):=List.mem_map.2 ⟨t,ht,rfl⟩
   rw[qX]at h1
   obtain⟨t',h2,h3⟩:=List.mem_map.1 h1
   have:=(Bu t' h2).1
   rw[<- h3];omega
  ·rw[(HG 0 ts t ht).2];simp;omega
  refine ak.dm (n:=ts.length) (by omega) (λk x u=>∃q:List dr,x.2=q.map dr.pv/\q.length<=k/\(∀t∈q,t∈ts)/\(MA=c_ es c.conds (qY 0 ts)->q=bT es c (ts.take k))/\Ow (eH x.1 q.length 3::rY z R o N1 cv1::L) u) ⟨[],rfl,by simp,by simp,λ_=>by unfold bT;simp,sd.nil (.inl rfl)⟩ ?_ ?_
  ·rintro k ⟨f2,_⟩ u2 next bW ⟨q,rfl,hq1,Gr,Dw,jd⟩ ar
   refine ab.t (by simpa using bW) ((acq f1 MA (by omega) k).call ⟨_,rfl,ab.mk (λhn=>?_) (λhy=>?_)⟩)
   ·refine⟨by omega,_,aw bW,_,_,_,_,_,rfl,?_⟩
    refine jd.app (by rw[List.length_map]) (by simp;omega) (by simp;omega) λf3 u3 Z_=>ar _ _ ⟨q++[ts[k]],by rw[List.map_append];rfl,by simp;omega,λt ht=>?_,λe=>?_,by rw[List.length_append];exact Z_⟩
    ·rcases List.mem_append.1 ht with ht|ht
     ·exact Gr t ht
     ·simp only[List.mem_singleton]at ht;subst ht;exact List.getElem_mem bW
    ·rw[vp bW,Dw e,Cx Uc]
     rw[e]at hn
     have:=DC es c.conds ts 0 k bW
     rw[Nat.zero_add]at this
     rw[this]at hn
     rw[if_pos (by simpa using hn)]
   ·refine ar _ _ ⟨q,rfl,by omega,Gr,λe=>?_,jd⟩
    rw[vp bW,Dw e,Cx Uc]
    rw[e]at hy
    have:=DC es c.conds ts 0 k bW
    rw[Nat.zero_add]at this
    rw[this]at hy
    rw[if_neg (by simpa using hy),List.append_nil]
  ·rintro⟨f2,_⟩ u2 next ⟨q,rfl,hq1,Gr,Dw,jd⟩
   refine ab.f (by simp) ?_
   rw[List.take_length]at Dw
   refine hk f2 o N1 cv1 q u2 ?_ (by omega) Tz (by omega) (λt ht=>by have:=(Bu t (Gr t ht)).2;omega) jd.drop
   rcases hg with⟨rfl,g1,g2,g3⟩|⟨rfl,g1⟩
   ·rw[qX]at g1 g2
    refine .inl ⟨rfl,λj=>?_,?_,.inl (Dw g3)⟩
    ·have:=congrFun (Hb (es:=es) Uc (nj ts)) j
     rw[this];exact g1 j
    ·rw[Hb Uc];exact g2
   ·rw[qX]at g1
    obtain⟨j,hj⟩:=g1
    refine .inr ⟨rfl,j,?_⟩
    have:=congrFun (Hb (es:=es) Uc (nj ts)) j
    rw[this];exact hj
theorem Ss(hR:0<=R/\R<=1000000)(RS:es.length<=1000000){c:ae}(ON:c.kind=1\/c.kind=2):tp es R c:=by
 intro fa fv fc ft fe n N z cv ts L μ K aO QB gD hN hz zC Bu hO hk
 have MT:=((oO c).1 aO).1
 obtain⟨_,l1,l2,l3,l4,_⟩:=(bu c).1 MT
 have Ke:1<=aR c:=by rw[bM];omega
 have fin:∀(f:Fl) (out:List dr) (u:Mem),(out=bT es c ts\/(R<((bT es c ts).length:Nat)/\R<(out.length:Nat)))->out.length<=1000001->(∀t∈out,t∈bT es c ts)->Ow (rY z R false N cv::L) u->K (.list 3 f (out.map dr.pv)) u:=λf out u h1 h2 h3 hO=>by
  refine hk f false N cv out u (.inl ⟨rfl,λj=>by rw[NZ ON];omega,?_,h1⟩) (by omega) hz h2 (λt ht=>?_) hO
  ·funext j
   have:sh (n+1) (λj=>eh es c (nj ts) (j+1)) j=0:=by unfold sh;split<;>simp[NZ ON]
   omega
  ·exact Cw (m:=899999) (λt ht=>by have:=(Bu t ht).2;omega) t (h3 t ht)
 refine od.c (ab.f (by rcases ON with e|e<;>rw[e]<;>rfl) ?_)
 refine ak.dm (n:=ts.length) (by omega) (λi x u=>x.2=(bT es c (ts.take i)).map dr.pv/\(bT es c (ts.take i)).length<=1000000/\(c.kind=1->(((bT es c (ts.take i)).length:Nat):Int)<=R)/\Ow (eH x.1 (bT es c (ts.take i)).length 3::rY z R false N cv::L) u) ?_ ?_ ?_
 ·have e:bT es c (ts.take 0)=[]:=by unfold bT;simp
  rw[e];exact⟨rfl,by simp,λ_=>hR.1,hO.nil (.inl rfl)⟩
 ·rintro i ⟨f,_⟩ u next hi ⟨rfl,abq,hle,h⟩ ar
  have hbt:=(Bu _ (List.getElem_mem hi)).1
  have iB:=vp (es:=es) (c:=c) hi
  generalize hD:bT es c (ts.take i)=D at h hle abq iB |-
  refine ab.t (by simpa using hi) ?_
  refine⟨λs u=>s.2=(aN c ts[i].binds es).isEmpty/\∃o:List dr,s.1.2=o.map dr.pv/\o=(if c.kind=1 then bT es c (ts.take (i+1))else D)/\o.length<=1000000/\(c.kind=1->((o.length:Nat):Int)<=R)/\Ow (eH s.1.1 o.length 3::rY z R false N cv::L) u,?_,?_⟩
  ·let mk:af×List aK.Bind->dr:=λx=>⟨ts[i].tags++[x.1.tag],x.2,ts[i].at_⟩
   let P:Nat->List dr:=λk=>D++(if c.kind=1 then(aN c ts[i].binds (es.take k)).map mk else[])
   have hPt:c.kind=1->bT es c (ts.take (i+1))=P es.length:=λh1=>by
    rw[iB,Me h1];show _=D++_;rw[if_pos h1,List.take_length]
   have hP0:P 0=D:=by
    show D++_=D
    split<;>simp[aN]
   have hPn:c.kind≠1->∀k,P k=D:=λh1 k=>by show D++_=D;rw[if_neg h1,List.append_nil]
   refine ak.UI (n:=es.length) (by omega) (λk x y u=>y=(aN c ts[i].binds (es.take k)).isEmpty/\x.2=(P k).map dr.pv/\(P k).length<=1000000/\(c.kind=1->(((P k).length:Nat):Int)<=R)/\Ow (eH x.1 (P k).length 3::rY z R false N cv::L) u) ⟨by simp[aN],by rw[hP0],by rw[hP0];exact abq,by rw[hP0];exact hle,by rw[hP0];exact h⟩ ?_ ?_
   ·rintro k ⟨f1,_⟩ y u1 iJ bW ⟨rfl,rfl,p0,p1,h1⟩ gu
    dsimp only at h1 |-
    refine⟨λ_ u'=>(c.kind=1\/(aN c ts[i].binds (es.take k)).isEmpty=true)/\u'=u1,ab.t (by simpa using bW) (ab.mk (λe=>⟨.inl (by simpa using e),rfl⟩) (λe=>ab.mk (λe2=>⟨.inr e2,rfl⟩) (λe2=>?_))),?_⟩
    ·have e:c.kind≠1:=by simpa using e
     refine⟨?_,P k,rfl,by rw[if_neg e,hPn e],p0,p1,h1⟩
     have e2:(aN c ts[i].binds (es.take k)).isEmpty=false:=e2
     rw[e2,oK (es:=es) k]
     cases hs:aN c ts[i].binds (es.take k)with
     |nil=>rw[hs]at e2;cases e2
     |cons a r=>rfl
    ·rintro _ _ ⟨y_,rfl⟩
     refine⟨by omega,_,aw bW,_,_,_,_,_,_,_,_,_,_,_,_,rfl,by omega,_,aw hi,_,_,rfl,?_⟩
     refine ao.call (Pc .sh .sh .sh .sh c es[k] ts[i].binds (by omega) (cI l3) (cI l4)) λp hp=>?_
     obtain⟨l',rfl,XQ⟩:=hp
     refine⟨_,_,_,rfl,ab.mk (λcm=>?_) (λEX=>?_)⟩
     ·have cm:cO c es[k] ts[i].binds=none:=by
       cases hc:cO c es[k] ts[i].binds with
       |none=>rfl
       |some r=>rw[hc]at cm;cases cm
      have e1:aN c ts[i].binds (es.take (k+1))=aN c ts[i].binds (es.take k):=by rw[nz bW,cm];simp
      have e2:P (k+1)=P k:=by show D++_=D++_;rw[e1]
      exact gu _ _ _ ⟨by rw[e1],by rw[e2],by rw[e2];exact p0,by rw[e2];exact p1,by rw[e2];exact h1⟩
     ·obtain⟨r,hc⟩:∃r,cO c es[k] ts[i].binds=some r:=by
       cases hc:cO c es[k] ts[i].binds with
       |none=>rw[hc]at EX;cases EX
       |some r=>exact⟨r,rfl⟩
      have:=XQ r hc
      subst this
      have e1:aN c ts[i].binds (es.take (k+1))=aN c ts[i].binds (es.take k)++[(es[k],l')]:=by rw[nz bW,hc];simp
      have aT:(aN c ts[i].binds (es.take (k+1))).isEmpty=false:=by rw[e1];simp
      refine ab.mk (λjw=>?_) (λjw=>?_)
      ·have jw:c.kind=1:=by simpa using jw
       have e2:P (k+1)=P k++[mk (es[k],l')]:=by
        show D++_=D++_++_
        rw[if_pos jw,if_pos jw,e1,List.map_append,List.append_assoc];rfl
       have e3:[mk (es[k],l')].map dr.pv=[[.list 1 .sh (([]++ts[i].tags.map gz)++[[pI es[k].tag]]),.list 4 .sh (l'.map Bind.pv),pI ts[i].at_]]:=by simp[mk]
       have ow:=p1 jw
       have amZ:=(Bu _ (List.getElem_mem hi)).2
       refine⟨λs u'=>s.2=(P (k+1)).map dr.pv/\Ow (eH s.1 (P (k+1)).length 3::rY z R false N cv::L) u',?_,?_⟩
       ·have a3:∀{u:Mem} (O:Ow (eH f1 (P k).length 3::rY z R false N cv::L) u),aV false 3 56 f1 ((P k).map dr.pv) [[.list 1 .sh (([]++ts[i].tags.map gz)++[[pI es[k].tag]]),.list 4 .sh (l'.map Bind.pv),pI ts[i].at_]] u λf u'=>(f,(P k).map dr.pv++[[.list 1 .sh (([]++ts[i].tags.map gz)++[[pI es[k].tag]]),.list 4 .sh (l'.map Bind.pv),pI ts[i].at_]]).2=(P (k+1)).map dr.pv/\Ow (eH f (P (k+1)).length 3::rY z R false N cv::L) u':=λO=>
         O.app (by rw[List.length_map]) (by simp;omega) (by simp;omega) λf' u' h'=>⟨(congrArg (λq=>(P k).map dr.pv++q) e3.symm).trans (List.map_append.symm.trans (congrArg (List.map dr.pv) e2.symm)),by rw[e2,List.length_append];exact h'⟩
        have a2:∀{u:Mem} {f:Fl} {F:Fl->Mem->Prop} (O:Ow (eH f ts[i].tags.length 1::eH f1 (P k).length 3::rY z R false N cv::L) u) (_:∀f' u',Ow (eH f1 (P k).length 3::rY z R false N cv::L) u'->F f' u'),aV false 1 8 f ([]++ts[i].tags.map gz) [[pI es[k].tag]] u F:=λO hF=>
         O.app (by simp) (by simp;omega) (by simp;omega) λf' u' h'=>hF _ _ h'.drop
        have a1:∀{u:Mem} {F:Fl->Mem->Prop} (O:Ow (eH f1 (P k).length 3::rY z R false N cv::L) u) (_:∀f' u',Ow (eH f' ts[i].tags.length 1::eH f1 (P k).length 3::rY z R false N cv::L) u'->F f' u'),aV false 1 8 .nil [] (ts[i].tags.map gz) u F:=λO hF=>
         (O.nil (n:=0) (.inl rfl)).app rfl (by simp;omega) (by simp;omega) λf' u' h'=>hF _ _ (by simpa using h')
        refine⟨by omega,_,aw hi,_,_,rfl,by omega,_,aw bW,by omega,_,aw hi,?_⟩
        repeat' first
         |exact trivial
         |exact a3 ‹_›
         |refine a2 ‹_› λ_ _ _=>?_
         |refine a1 ‹_› λ_ _ _=>?_
         |refine⟨_,rfl,?_⟩
         |refine⟨?_,?_⟩
       ·rintro⟨f2,_⟩ u2 ⟨rfl,h2⟩
        obtain⟨a,cc,OQ⟩:=rY.open_ (h2.drop)
        refine⟨_,OQ.rd 0 rfl (by simp),ab.mk (λAR=>?_) (λcm=>?_)⟩
        ·rw[List.length_map]at AR
         have AR:R<(((P (k+1)).length:Nat):Int):=by simpa using AR
         have eZ:∀t∈P (k+1),t∈bT es c ts:=λt ht=>by
          refine PM (us:=ts.take (i+1)) (λt ht=>List.mem_of_mem_take ht) t ?_
          rw[hPt jw]
          rcases List.mem_append.1 ht with ht|ht
          ·exact List.mem_append.2 (.inl ht)
          ·refine List.mem_append.2 (.inr ?_)
           rw[if_pos jw]at ht |-
           rw[List.take_length]
           obtain⟨x,hx,e⟩:=List.mem_map.1 ht
           refine List.mem_map.2 ⟨x,?_,e⟩
           rw[oK (es:=es) (k+1)];exact List.mem_append.2 (.inl hx)
         refine fin f2 _ u2 (.inr ⟨?_,AR⟩) (by rw[e2,List.length_append,List.length_singleton];omega) eZ h2.drop
         have q1:(P (k+1)).length<=(P es.length).length:=by
          show(D++_).length<=(D++_).length
          rw[if_pos jw,if_pos jw,List.length_append,List.length_append,List.length_map,List.length_map,List.take_length,oK (es:=es) (k+1),List.length_append];omega
         have q2:(bT es c ts).length=(bT es c (ts.take (i+1))).length+(bT es c (ts.drop (i+1))).length:=by rw[<- List.length_append,<- tG,List.take_append_drop]
         rw[hPt jw]at q2
         omega
        ·rw[List.length_map]at cm
         have cm:(((P (k+1)).length:Nat):Int)<=R:=by simpa using cm
         exact gu _ _ _ ⟨aT.symm,rfl,by omega,λ_=>cm,h2⟩
      ·have jw:c.kind≠1:=by simpa using jw
       have e:P (k+1)=P k:=by rw[hPn jw,hPn jw]
       exact gu _ _ _ ⟨aT.symm,by rw[e],by rw[e];exact p0,λe=>absurd e jw,by rw[e];exact h1⟩
   ·rintro⟨f1,_⟩ y u1 iJ ⟨rfl,rfl,p0,p1,h1⟩
    refine⟨λ_ _=>False,ab.f (by simp) ⟨by rw[List.take_length],P es.length,rfl,?_,p0,p1,h1⟩,λ_ _ h=>h.elim⟩
    by_cases jw:c.kind=1
    ·rw[if_pos jw,hPt jw]
    ·rw[if_neg jw,hPn jw]
  ·rintro⟨⟨f1,_⟩,y⟩ u1 ⟨rfl,o,rfl,ho,o0,o1,h1⟩
   dsimp only at h1 |-
   refine ab.mk (λfH=>ab.mk (λQF=>?_) (λQF=>?_)) (λfH=>?_)
   ·have fH:c.kind=2:=by simpa using fH
    rw[if_neg (by omega)]at ho
    subst ho
    refine⟨by omega,_,aw hi,_,_,_,_,_,rfl,?_⟩
    have e:bT es c (ts.take (i+1))=o++[ts[i]]:=by rw[iB,Cy fH,if_pos QF]
    have cz:o.length<=i:=by
     rw[<- hD]
     have:=PN (es:=es) (c:=c) (ts:=ts.take i) (by omega)
     rw[List.length_take]at this;omega
    refine h1.app (by rw[List.length_map]) (by simp;omega) (by simp;omega) λf2 u2 h2=>ar _ _ ⟨by rw[e,List.map_append];rfl,by rw[e];simp;omega,(λh=>by omega),by rw[e,List.length_append];exact h2⟩
   ·have fH:c.kind=2:=by simpa using fH
    rw[if_neg (by omega)]at ho
    subst ho
    have e:bT es c (ts.take (i+1))=o:=by rw[iB,Cy fH,if_neg (by rw[QF];simp),List.append_nil]
    exact ar _ _ ⟨by rw[e],by rw[e];exact o0,(λh=>by omega),by rw[e];exact h1⟩
   ·have jw:c.kind=1:=ON.resolve_right (by simpa using fH)
    rw[if_pos jw]at ho
    subst ho
    exact ar _ _ ⟨rfl,o0,o1,h1⟩
 ·rintro⟨f,_⟩ u next ⟨rfl,abq,hle,h⟩
  refine ab.f (by simp) ?_
  rw[List.take_length]at*
  exact fin f _ u (.inl rfl) (by omega) (λt ht=>ht) h.drop
theorem WQ(hR:0<=R/\R<=1000000)(RS:es.length<=1000000)(c:ae):tp es R c:=by
 refine ae.ind (Q:=tp es R) (λc ih=>?_) c
 intro fa fv fc ft fe n N z cv ts L μ K aO QB
 rcases((OB c).1 QB).1 with h|h|h
 ·exact Ss hR RS (.inl h) fa fv fc ft fe n N z cv ts aO QB
 ·exact Ss hR RS (.inr h) fa fv fc ft fe n N z cv ts aO QB
 ·exact ad0 hR RS (afL hR ih) h fa fv fc ft fe n N z cv ts aO QB
theorem akc(hR:0<=R/\R<=1000000)(RS:es.length<=1000000)(l:List ae):NH es R l:=afL hR λc _=>WQ hR RS c
end
theorem zz:∀a b:List Int,oT a b=true↔bG a b<0
 |[],b=>by cases b<;>simp[oT,bG]<;>omega
 |a::l,[]=>by simp[oT,bG];omega
 |a::l,b::r=>by
  simp only[oT,bG]
  by_cases e:a=b
  ·rw[if_pos e,if_pos e];exact zz l r
  ·rw[if_neg e,if_neg e];simp;omega
abbrev neT(ts:List dr):Prop:=ts.Pairwise λa b=>a.tags≠b.tags
def EP(ts:List dr):List dr:=ts.foldl (λl t=>bc bG dr.tags t l) []
theorem PQ(ts:List dr)(t:dr):EP (ts++[t])=bc bG dr.tags t (EP ts):=by unfold EP;rw[List.foldl_append];rfl
theorem Js{ts:List dr}(h:neT ts):ca bG dr.tags (EP ts)/\∀y,y∈EP ts↔y∈ts:=by
 have key:∀(ts acc:List dr),ca bG dr.tags acc->neT ts->(∀t∈ts,∀a∈acc,a.tags≠t.tags)->ca bG dr.tags (ts.foldl (λl t=>bc bG dr.tags t l) acc)/\∀y,y∈ts.foldl (λl t=>bc bG dr.tags t l) acc↔y∈ts\/y∈acc:=by
  intro ts
  induction ts with
  |nil=>intro acc h _ _;exact⟨h,by simp⟩
  |cons t ts ih=>
   intro acc h hp hd
   obtain⟨h1,h2⟩:=List.pairwise_cons.1 hp
   obtain⟨r1,r2⟩:=ih (bc bG dr.tags t acc) (h.ins dU t) h2 λt' BU a ha=>by
    rcases(bj dU).1 ha with rfl|⟨ha,_⟩
    ·exact h1 t' BU
    ·exact hd t' (by simp[BU]) a ha
   refine⟨r1,λy=>?_⟩
   simp only[List.foldl_cons]
   rw[r2,bj dU,List.mem_cons]
   constructor
   ·rintro(h|rfl|⟨h,_⟩)
    ·exact .inl (.inr h)
    ·exact .inl (.inl rfl)
    ·exact .inr h
   ·rintro((rfl|h)|h)
    ·exact .inr (.inl rfl)
    ·exact .inl h
    ·exact .inr (.inr ⟨h,hd t (by simp) y h⟩)
 obtain⟨a,b⟩:=key ts [] List.Pairwise.nil h (by simp)
 exact⟨a,λy=>by unfold EP;rw[b];simp⟩
theorem Su{ts:List dr}(h:neT ts):(EP ts).map dr.tok=cR (ts.map dr.tok):=by
 obtain⟨h1,h2⟩:=Js h
 refine CA (by rw[List.pairwise_map];exact h) (ca.map h1) λy=>?_
 simp only[List.mem_map]
 constructor
 ·rintro⟨t,ht,e⟩;exact⟨t,(h2 t).1 ht,e⟩
 ·rintro⟨t,ht,e⟩;exact⟨t,(h2 t).2 ht,e⟩
theorem sj(ts:List dr):∀r∈ts.map dr.pv,r.length=3:=λr hr=>by obtain⟨x,_,rfl⟩:=List.mem_map.1 hr;rfl
theorem WE(ts:List dr):br (ts.map dr.pv).flatten=true:=FR (pv:=dr.pv) (λ_=>rfl) ts
theorem Va(f:Fl)(ts:List dr)(hl:ts.length<=10000000)(ht:∀t∈ts,t.tags.length<=1000000):ao prog 174 [.list 3 f (ts.map dr.pv)] λp=>∃out:List dr,p=.list 3 .sh (out.map dr.pv)/\out.length=ts.length/\(neT ts->out=EP ts):=by
 refine aa.ad5 (tu.c ?_)
 refine ak.dm (n:=ts.length) (by omega) (λk x u=>∃out:List dr,x.2.1=out.length/\out.length=k/\(neT (ts.take k)->out=EP (ts.take k))/\(∀t∈out,t∈ts)/\Ow [iW 170 3 (pV x.1 x.2.1 x.2.2) (out.map dr.pv)] u) ⟨[],rfl,rfl,λ_=>rfl,by simp,iW.nil _ _ (L:=[]) trivial⟩ ?_ ?_
 ·rintro k ⟨a,n,c⟩ u next hk ⟨out,rfl,hol,hs,gG,hO⟩ ar
  dsimp only at hO |-
  have iB:=ht _ (List.getElem_mem hk)
  refine ab.t (by simpa using hk) ?_
  refine⟨λs u'=>∃i:Nat,s=(i:Int)/\i<=out.length/\(∀(j:Nat) (h:j<out.length),i<=j->bG ts[k].tags out[j].tags<0)/\(i=0\/∃h:i-1<out.length,¬bG ts[k].tags out[i-1].tags<0)/\u'=u,?_,?_⟩
  ·refine ak.down (n:=out.length) (k:=0) (by omega) (by omega) (λi u'=>(∀(j:Nat) (h:j<out.length),i<=j->bG ts[k].tags out[j].tags<0)/\u'=u) ⟨λj h1 h2=>by omega,rfl⟩ ?_ ?_
   ·rintro j u' iJ h0 hj ⟨iP,rfl⟩ gu
    obtain⟨b,rfl,fB,_⟩:=iW.at_ 0 hO rfl (sj out) (j:=j-1) (by simp;omega)
    have e1:IntKind.wrap .i64 ((j:Int)-1)=((j-1:Nat):Int):=by rw[az (by omega) (by omega)];omega
    rw[e1]at gu |-
    refine ab.t (by simpa using h0) ⟨by omega,_,aw hk,_,_,rfl,?_⟩
    refine⟨by omega,by omega,.sh,(out[j-1]'(by omega)).tags.map gz,?_,?_⟩
    ·rw[Int.toNat_natCast]
     have:=fB 0 1 (by omega)
     rw[List.getElem_map]at this
     exact this
    refine(ack .sh .sh _ _ (by omega) (by have:=ht _ (gG _ (List.getElem_mem (show j-1<out.length by omega)));omega)).call ⟨_,rfl,ab.mk (λh=>?_) (λh=>?_)⟩
    ·have h:=(zz _ _).1 h
     refine gu _ ⟨λq hq hjq=>?_,rfl⟩
     by_cases e:q=j-1
     ·subst e;exact h
     ·exact iP q hq (by omega)
    ·refine⟨j,rfl,hj,iP,.inr ⟨by omega,λcz=>?_⟩,rfl⟩
     rw[(zz _ _).2 cz]at h;cases h
   ·rintro u' iJ ⟨iP,rfl⟩
    exact ab.f (by simp) ⟨0,rfl,by omega,iP,.inl rfl,rfl⟩
  ·rintro _ _ ⟨i,rfl,hi,iP,h0,rfl⟩
   obtain⟨a',c',e,q_⟩:=iW.app hO (sj out)
   simp only[PV.raw.injEq,Value.slice.injEq,List.length_map]at e q_
   obtain⟨rfl,_,rfl⟩:=e
   refine q_ _ _ _ rfl rfl (by omega) (by omega) λb2 c2 u2 jd=>?_
   have e1:IntKind.wrap .i64 (((out.length+1:Nat):Int)-1)=((out.length:Nat):Int):=by rw[az (by omega) (by omega)];omega
   rw[e1]
   refine ak.down hi (by omega) (λj u=>∃y:dr,Ow [iW 170 3 (pV (some ⟨b2,0,none⟩) (out.length+1) c2) ((out.take j++y::out.drop j).map dr.pv)] u) ⟨⟨[],[],0⟩,?_⟩ ?_ ?_
   ·rw[List.take_length,List.drop_length,List.map_append];exact jd
   ·rintro j u3 uU LI Wm ⟨y,Fe⟩ lW
    have hlen:((out.take j++y::out.drop j).map dr.pv).length=out.length+1:=by rw[List.length_map,lC]
    obtain⟨b3,e3,fB,_⟩:=iW.at_ 0 Fe rfl (sj _) (j:=j-1) (by rw[hlen];omega)
    simp only[Option.some.injEq,Addr.mk.injEq]at e3
    obtain⟨rfl,_⟩:=e3
    obtain⟨b4,e4,_,gV⟩:=iW.at_ 0 Fe rfl (sj _) (j:=j) (by rw[hlen];omega)
    simp only[Option.some.injEq,Addr.mk.injEq]at e4
    obtain⟨rfl,_⟩:=e4
    have ej:IntKind.wrap .i64 ((j:Int)-1)=((j-1:Nat):Int):=by rw[az (by omega) (by omega)];omega
    rw[ej]at lW |-
    have rJ:=Ty (pv:=dr.pv) out j y (by omega) Wm
    refine ab.t (by simpa using LI) ⟨by omega,by omega,.sh,(out[j-1]'(by omega)).tags.map gz,.sh,(out[j-1]'(by omega)).binds.map Bind.pv,(out[j-1]'(by omega)).at_,?_,by omega,by omega,?_⟩
    ·rw[Int.toNat_natCast]
     have:=fB 0 3 (by omega)
     rw[(List.getElem?_eq_some_iff.1 rJ).2]at this
     exact this
    ·rw[Int.toNat_natCast]
     refine gV 0 _ _ (by simp) λu4 uo=>lW _ ⟨out[j-1]'(by omega),?_⟩
     have ew:∀r:List PV,r.length=3->dN r 0 (out[j-1]'(by omega)).pv=(out[j-1]'(by omega)).pv:=λr hr=>by
      unfold dN;simp[hr]
     have uo:Ow [iW 170 3 (pV (some ⟨b2,0,none⟩) (out.length+1) c2) (((out.take j++y::out.drop j).map dr.pv).set j (dN _ 0 (out[j-1]'(by omega)).pv))] u4:=uo
     rw[ew _ (sj _ _ (List.getElem_mem _)),JZ (pv:=dr.pv) out j y (by omega) Wm]at uo
     exact uo
   ·rintro u3 uU ⟨y,Fe⟩
    have hlen:((out.take i++y::out.drop i).map dr.pv).length=out.length+1:=by rw[List.length_map,lC]
    obtain⟨b4,e4,_,gV⟩:=iW.at_ 0 Fe rfl (sj _) (j:=i) (by rw[hlen];omega)
    simp only[Option.some.injEq,Addr.mk.injEq]at e4
    obtain⟨rfl,_⟩:=e4
    refine ab.f (by simp) ⟨by omega,_,aw hk,_,_,_,_,_,rfl,by omega,by omega,?_⟩
    rw[Int.toNat_natCast]
    refine gV 0 _ _ (by simp) λu4 uo=>ar _ _ ⟨out.take i++ts[k]::out.drop i,by rw[lC],by rw[lC];omega,λhn=>?_,λt h=>?_,?_⟩
    ·have aiu:ts.take (k+1)=ts.take k++[ts[k]]:=by rw[List.take_add_one,List.getElem?_eq_getElem hk];rfl
     have hn:neT (ts.take (k+1)):=hn
     rw[aiu]at hn |-
     obtain⟨n1,_,n3⟩:=List.pairwise_append.1 hn
     have MN:=hs n1
     obtain⟨m1,m2⟩:=Js n1
     rw[PQ]
     subst MN
     exact aa6 m1 hi (λy hy=>n3 y ((m2 y).1 hy) _ (by simp)) iP h0
    ·rcases List.mem_append.1 h with h|h
     ·exact gG t (List.mem_of_mem_take h)
     ·rcases List.mem_cons.1 h with rfl|h
      ·exact List.getElem_mem hk
      ·exact gG t (List.mem_of_mem_drop h)
    ·have ew:∀r:List PV,r.length=3->dN r 0 ts[k].pv=ts[k].pv:=λr hr=>by unfold dN;simp[hr]
     have uo:Ow [iW 170 3 (pV (some ⟨b2,0,none⟩) (out.length+1) c2) (((out.take i++y::out.drop i).map dr.pv).set i (dN _ 0 ts[k].pv))] u4:=uo
     rw[ew _ (sj _ _ (List.getElem_mem _)),OD (pv:=dr.pv) out i ts[k] y hi]at uo
     exact uo
 ·rintro⟨a,n,c⟩ u next ⟨out,rfl,hol,hs,gG,hO⟩
  rw[List.take_length]at hs
  exact ab.f (by simp) ⟨_,iW.view 0 hO rfl (sj out) (WE out),out,rfl,hol,hs⟩
end Go.Proofs.YtbodiiomcfgokaaGreat
