import Derived.Test.YthaeiehophlooaaGreatB12
open Go.IntKind (wrap)
open Int (toNat toNat_natCast)
open List (Pairwise.cons Pairwise.nil any_eq_true append_nil drop drop_length drop_zero filter_cons filter_nil flatMap_cons flatMap_map foldl_append foldl_cons getElem?_eq_getElem getElem_map getElem_mem isEmpty_map length_append length_cons length_map length_take map_append map_congr_left map_cons map_drop map_flatMap map_map map_nil map_take mem_append mem_cons mem_filter mem_flatMap mem_map mem_range mem_singleton not_mem_nil pairwise_map range sum_append sum_cons sum_nil take take_add_one take_length)
open Nat (le_refl zero_add)
open Option (bind_some map_some)
set_option linter.all false
namespace Go.Proofs.YthaeiehophlooaaGreat
open Go.Proofs.Tryz Go.aO Go.RowKit
theorem NJ{c:ae}{b:List aO.Bind}{es:List aj}{y:aj×List aO.Bind}(h:y∈aP c b es):y.1∈es:=by
 unfold aP at h;obtain⟨e,he,h2⟩:=List.mem_filterMap.1 h;cases hc:cH c e b with
 |none=>rw[hc]at h2;cases h2
 |some q=>
  rw[hc]at h2;simp only[map_some,Option.some.injEq]at h2;subst h2;exact he
theorem Qk{es:List aj}(hu:es.Pairwise λa b=>a.tag≠b.tag){c:ae}{ts:List bR}(h:ts.Pairwise λa b=>a.tags≠b.tags):(stepT es c ts).Pairwise λa b=>a.tags≠b.tags:=by
 unfold stepT;split
 ·rw[List.pairwise_flatMap];refine⟨λt ht=>?_,h.imp λ{a b} xw x hx y hy e=>?_⟩
  ·rw[pairwise_map];unfold aP;refine List.Pairwise.filterMap _ (R:=λa b:aj=>a.tag≠b.tag) (λa a' haa b hb b' je e=>?_) hu;have e1:b.1=a:=by
    cases hc:cH c a t.binds with
    |none=>rw[hc]at hb;cases hb
    |some q=>rw[hc]at hb;simp only[map_some,Option.some.injEq]at hb;rw[<- hb]
   have e2:b'.1=a':=by
    cases hc:cH c a' t.binds with
    |none=>rw[hc]at je;cases je
    |some q=>rw[hc]at je;simp only[map_some,Option.some.injEq]at je;rw[<- je]
   have:=List.append_inj_right' e rfl;simp only[List.cons.injEq,and_true]at this;rw[e1,e2]at this;exact haa this
  ·obtain⟨x',_,rfl⟩:=mem_map.1 hx;obtain⟨y',_,rfl⟩:=mem_map.1 hy;exact xw (List.append_inj_left' e rfl)
 ·exact h.filter _
theorem jL{es:List aj}(hu:es.Pairwise λa b=>a.tag≠b.tag)(p:Path):(az es p).Pairwise λa b=>a.tags≠b.tags:=by
 have key:∀(p:Path) (ts:List bR),(ts.Pairwise λa b=>a.tags≠b.tags)->(p.foldl (λts c=>stepT es c ts) ts).Pairwise λa b=>a.tags≠b.tags:=by
  intro p;induction p with
  |nil=>intro ts h;exact h
  |cons c p ih=>intro ts h;exact ih _ (Qk hu h)
 exact key p _ (List.pairwise_singleton _ _)
theorem JE{es:List aj}{c:ae}{ts:List bR}(h:∀t∈ts,∀x∈t.tags,∃e∈es,e.tag=x):∀t∈stepT es c ts,∀x∈t.tags,∃e∈es,e.tag=x:=by
 intro t ht x hx;unfold stepT at ht;split at ht
 ·obtain⟨t',wB,hm⟩:=mem_flatMap.1 ht;obtain⟨y,hy,rfl⟩:=mem_map.1 hm;rcases mem_append.1 hx with hx|hx
  ·exact h t' wB x hx
  ·simp only[mem_singleton]at hx;exact⟨y.1,NJ hy,hx.symm⟩
 ·exact h t (mem_filter.1 ht).1 x hx
theorem Jy{es:List aj}(p:Path):∀t∈az es p,∀x∈t.tags,∃e∈es,e.tag=x:=by
 have key:∀(p:Path) (ts:List bR),(∀t∈ts,∀x∈t.tags,∃e∈es,e.tag=x)->∀t∈p.foldl (λts c=>stepT es c ts) ts,∀x∈t.tags,∃e∈es,e.tag=x:=by
  intro p;induction p with
  |nil=>intro ts h;exact h
  |cons c p ih=>intro ts h;exact ih _ (JE h)
 exact key p _ (by intro t ht x hx;simp only[mem_singleton]at ht;subst ht;simp[Co]at hx)
theorem Ly{es:List aj}(hu:bY au aD es):es.Pairwise λa b=>a.tag≠b.tag:=hu.imp λ{a b} xw e=>by
 have e:aD a=aD b:=e;rw[e]at xw;exact absurd xw (by rw[ar.self];omega)
theorem eC:ns bj:=⟨tc,td,qm⟩
def gH(ts:List bR):List bR:=ts.foldl (λl t=>dw bj bR.tags t l) []
theorem Ak:∀(ts acc:List bR),bY bj bR.tags acc->(ts.Pairwise λa b=>a.tags≠b.tags)->(∀t∈ts,∀a∈acc,a.tags≠t.tags)->bY bj bR.tags (ts.foldl (λl t=>dw bj bR.tags t l) acc)/\∀y,y∈ts.foldl (λl t=>dw bj bR.tags t l) acc↔y∈ts\/y∈acc
 |[],acc,h,_,_=>⟨h,by simp⟩
 |t::ts,acc,h,hp,hd=>by
  obtain⟨h1,h2⟩:=List.pairwise_cons.1 hp
  have hn:aL bj bR.tags t.tags acc=none:=(bx eC).2 λa ha=>hd t (by simp) a ha;have CE:dw bj bR.tags t acc=aY bj bR.tags t acc:=by rw[dw,hn];rfl
  simp only[foldl_cons];rw[CE];obtain⟨r1,r2⟩:=Ak ts _ (h.ins eC t) h2 λt' wB a ha=>by
   rcases(bg eC).1 ha with rfl|⟨ha,_⟩
   ·exact h1 t' wB
   ·exact hd t' (by simp[wB]) a ha
  refine⟨r1,λy=>?_⟩;rw[r2,bg eC,mem_cons];constructor
  ·rintro(h|rfl|⟨h,_⟩)
   ·exact .inl (.inr h)
   ·exact .inl (.inl rfl)
   ·exact .inr h
  ·rintro((rfl|h)|h)
   ·exact .inr (.inl rfl)
   ·exact .inl h
   ·exact .inr (.inr ⟨h,hd t (by simp) y h⟩)
theorem lE{ts:List bR}(h:ts.Pairwise λa b=>a.tags≠b.tags):bY bj bR.tags (gH ts)/\∀y,y∈gH ts↔y∈ts:=by
 obtain⟨h1,h2⟩:=Ak ts [] Pairwise.nil h (by simp);exact⟨h1,λy=>by unfold gH;rw[h2 y];simp⟩
theorem Hc{ts l:List bR}(h:ts.Pairwise λa b=>a.tags≠b.tags)(hl:bY bj bR.tags l)(hm:∀y,y∈l↔y∈ts):l=gH ts:=
 bY.ext eC hl (lE h).1 λy=>(hm y).trans ((lE h).2 y).symm
theorem rB{ts:List bR}(h:ts.Pairwise λa b=>a.tags≠b.tags):(gH ts).length=ts.length:=by
 have h1:=(lE h).1;have hn:∀l:List bR,(l.Pairwise λa b=>a.tags≠b.tags)->(l.map bR.tags).Nodup:=λl hl=>by rw[List.Nodup,pairwise_map];exact hl
 have h2:(gH ts).Pairwise λa b=>a.tags≠b.tags:=h1.imp λ{a b} xw e=>by
  rw[e]at xw;exact absurd xw (by rw[eC.self];omega)
 have:=NZ (hn _ h2) (hn _ h) λx=>by
  rw[mem_map,mem_map];constructor
  ·rintro⟨t,ht,e⟩;exact⟨t,((lE h).2 t).1 ht,e⟩
  ·rintro⟨t,ht,e⟩;exact⟨t,((lE h).2 t).2 ht,e⟩
 simpa using this
structure Mt where
 name:ByteArray
 tags:List Int
@[reducible] def Mt.pv(m:Mt):List PV:=[pS m.name,.list 1 .sh (m.tags.map gV)]
def jz(es:List aj)(p:Prod):List Mt:=(gH (az es p.conds)).map λt=>⟨p.name,t.tags⟩
def allM(es:List aj)(ps:List Prod):List Mt:=ps.flatMap (jz es)
theorem Dh:∀(xs acc:List RK.El),(xs.foldl (λl x=>dw RK.ck RK.key x l) acc).map Subtype.val=(xs.map Subtype.val).foldl (λl t=>dw bj bR.tags t l) (acc.map Subtype.val)
 |[],_=>rfl
 |x::xs,acc=>by
  simp only[foldl_cons,map_cons]
  rw[Dh xs]
  congr 1
  unfold dw
  have e1:aL bj bR.tags x.1.tags (acc.map Subtype.val)=(aL RK.ck RK.key (RK.key x) acc).map Subtype.val:=nO (f:=(Subtype.val:RK.El->bR))
  have e2:aY bj bR.tags x.1 (acc.map Subtype.val)=(aY RK.ck RK.key x acc).map Subtype.val:=lQ (f:=(Subtype.val:RK.El->bR)) (x:=x);rw[e1,e2,Option.isSome_map];split<;>rfl
section
variable {n:Nat} {x:NC} {es:List aj} {ms:dj} {ids:pQ} {T:Tree} {tk:Path->List bR} {ct:Path->List Nat} {fr:Path->List bR} {mn:Path->List Nat} {ps:List Prod} {w:Nat}
theorem Yl(Bg:∀e∈es,1<=e.tag/\e.tag<9223372036854775808){p:Path}(hp:bW p)(hl:p.length<=1000):∀t∈az es p,Gh t.tags:=λt ht=>by
 refine⟨by have:=(wH (es:=es) hp t ht).2;omega,λx hx=>?_⟩;obtain⟨e,he,rfl⟩:=Jy p t ht x hx;have:=Bg e he;omega
theorem cOf(s:ByteArray){p:Prod}(Bg:∀e∈es,1<=e.tag/\e.tag<9223372036854775808)(hp:rX p)(hD:p.conds∈T.D)(gX:tk p.conds=az es p.conds)(DP:(az es p.conds).length<=1024)(f1 f2 f3:Fl){L:List aX}{μ:Mem}(hO:Ow (ca T tk ct fr mn::L) μ){K:Kq}
  (hk:∀f μ',Ow (ca T tk ct fr mn::L) μ'->K (.list 2 f (((gH (az es p.conds)).map λt=>(⟨s,t.tags⟩:Mt)).map Mt.pv)) μ'):
  aa prog 45 [pS s,.agg [pS p.name,.list 7 f1 (p.conds.map ae.pv),.list 19 f2 (p.bh.map cN.pv),.list 1 f3 ((dJ T.B p.conds).map λb=>[pP b 0])]] μ K:=by
 obtain⟨_,_,_,_,_,g1,g2⟩:=hp.facts;obtain⟨w1,w2⟩:=Ev T.B g1 (by omega);have aG:=Yl (p:=p.conds) Bg hp.AW (by omega);refine Ps.c λb2 ph=>?_;have O1:=hO.new 9 [pS s] ph;refine⟨w2,_,w1,_,rfl,?_⟩;dsimp only[nP,nn,aU];obtain⟨F,hF⟩:=ca.rd hD (Ow.swap O1);refine⟨_,_,aI hF (by simp),?_⟩;dsimp only[gJ];rw[gX];let xs:List RK.El:=(az es p.conds).attach.map λt=>⟨t.1,aG t.1 t.2⟩;have hxs:xs.map Subtype.val=az es p.conds:=by
  show((az es p.conds).attach.map λt=>(⟨t.1,aG t.1 t.2⟩:RK.El)).map Subtype.val=_;rw[map_map];exact List.attach_map_subtype_val _
 have RG:(az es p.conds).map bR.pv=xs.map RK.pv:=by rw[<- hxs,map_map];rfl
 have hxl:xs.length=(az es p.conds).length:=by rw[<- hxs];simp
 rw[RG];refine RK.gu O1 _ xs (by omega) λu b h2=>⟨_,rfl,λb6 CI=>?_⟩;generalize hS:xs.foldl (λl x=>dw RK.ck RK.key x l) []=S at h2;have hSv:S.map Subtype.val=gH (az es p.conds):=by
  rw[<- hS,Dh,hxs];rfl
 have XF:S.length<=1024:=by
  have h3:S.length=(gH (az es p.conds)).length:=by rw[<- hSv];simp
  have hle:∀(ts acc:List bR),(ts.foldl (λl t=>dw bj bR.tags t l) acc).length<=acc.length+ts.length:=by
   intro ts;induction ts with
   |nil=>intro acc;simp
   |cons t ts ih=>
    intro acc;have h4:=ih (dw bj bR.tags t acc);have h5:=Ax (ck:=bj) (key:=bR.tags) (x:=t) (L:=acc);simp only[foldl_cons,length_cons];omega
  have h6:=hle (az es p.conds) [];unfold gH at h3;simp only[List.length_nil]at h6;omega
 have h3:Ow (RK.At b S::mq b6 54 2 []::Pt b2 9 [pS s]::ca T tk ct fr mn::L) _:=Ow.ord [1,0] (mq.new (h2.new 54 [.list 2 .nil []] CI));refine(RK.pN b).call ⟨_,_,_,rfl,?_⟩;refine bu.own (RK.d_ b S (by omega)) h3 (λk u=>Ow (mq b6 54 2 (((S.take k).map λt=>(⟨s,t.1.tags⟩:Mt)).map Mt.pv)::Pt b2 9 [pS s]::ca T tk ct fr mn::L) u) (λ_ _=>False) (λk=>eJ.own _) (λ_ _ _ _ h=>h.elim) (λμ' h'=>h'.drop) ?_ ?_ (λ_ _ h=>h.elim)
 ·rintro k eT u2 R h4 bX _;have cj:k<S.length:=by simpa using eT
  have hle:=(S[k]).2.le;rw[getElem_map];obtain⟨f,ho⟩:=mq.open_ 0 h4 rfl;refine⟨_,_,_,_,rfl,_,_,ho.rd 0 rfl (by simp),_,ho.rd 2 rfl (by simp),?_⟩;refine aW.go (fl:=.nil) trivial (by simp;omega) (by simp;omega) (λkm u4 _ fT=>?_) (λ_ b c h=>by cases h);have ho2:Ow (Pt b6 54 [.list 2 f (((S.take k).map λt=>(⟨s,t.1.tags⟩:Mt)).map Mt.pv)]::fB f (((S.take k).map λt=>(⟨s,t.1.tags⟩:Mt)).map Mt.pv).length 2::Pt b2 9 [pS s]::ca T tk ct fr mn::L) u4:=Ow.mono (λb o hb=>(fT b o hb id).1) ho;refine Ow.app ho2.swap rfl (by simp;omega) (by simp;omega) λf2 u5 h5=>h5.st 1 rfl (by simp) λu6 h6=>bX _ ?_;have h7:=mq.shut h6 (by simp only[length_append,length_cons,List.length_nil]);have e:((S.take (k+1)).map λt=>(⟨s,t.1.tags⟩:Mt)).map Mt.pv=((S.take k).map λt=>(⟨s,t.1.tags⟩:Mt)).map Mt.pv++[[pS s,.list 1 .sh ([]++S[k].1.tags.map λx=>[pI x])]]:=by
   rw[eV cj,map_append];rfl
  rw[e];exact h7
 ·intro u2 h4;rw[length_map,take_length]at h4;dsimp only[PK];obtain⟨f,hf⟩:=mq.rd 0 h4 rfl;refine⟨_,_,hf,?_⟩;have e:(S.map λt=>(⟨s,t.1.tags⟩:Mt))=(gH (az es p.conds)).map λt=>(⟨s,t.tags⟩:Mt):=by rw[<- hSv,map_map];rfl
  rw[e];exact hk f u2 h4.drop.drop
end
theorem aac{α β:Type}(f:α->List β):∀(l:List α) (i:Nat) (hi:i<l.length) (k:Nat) (hk:k<(f l[i]).length),∃h:((l.take i).flatMap f).length+k<(l.flatMap f).length,(l.flatMap f)[((l.take i).flatMap f).length+k]=(f l[i])[k]:=by
 intro l i hi k hk;have e:l.flatMap f=(l.take i).flatMap f++(f l[i]++(l.drop (i+1)).flatMap f):=by
  rw[<- flatMap_cons,<- List.flatMap_append];congr 1;rw[<- List.drop_eq_getElem_cons hi,List.take_append_drop]
 have h:((l.take i).flatMap f).length+k<(l.flatMap f).length:=by rw[e,length_append,length_append];omega
 refine⟨h,?_⟩;have h2:(l.flatMap f)[((l.take i).flatMap f).length+k]?=some (f l[i])[k]:=by
  rw[e,List.getElem?_append_right (by omega),show((l.take i).flatMap f).length+k-((l.take i).flatMap f).length=k from by omega,List.getElem?_append_left hk,getElem?_eq_getElem hk]
 rw[getElem?_eq_getElem h]at h2;simpa using h2
section
variable {n:Nat} {x:NC} {es:List aj} {ps:List Prod} {w:Nat}
theorem wE.len{ms:dj}{ids:pQ}{T:Tree}{tk:Path->List bR}{ct:Path->List Nat}{W:Path->Prop}(h:wE x T es ms ids tk ct ps w W){p:Path}(hp:p∈T.D):(az es p).length<=1024:=by
 obtain⟨t1,t2⟩:=h.tb;by_cases e:p=[]
 ·subst e;simp[az]
 ·obtain⟨q,d,rfl⟩:=oh e;have h4:=h.core.dO.le q d hp 0;rw[jE,<- dk]at h4;omega
theorem XW(t m:Int){L:List aX}{μ:Mem}(hO:Ow L μ){K:Kq}
  (h0:¬(1<=t/\t<=1024/\1<=m/\m<=1024)->K (.aA [.raw (.pointer none),pI 1]) μ)
  (h1:1<=t/\t<=1024/\1<=m/\m<=1024->∀n x μ',x.T=t->x.M=m->Ow (ko n x [] [] 0::L) μ'->K (.aA [pP n 0,pI 0]) μ'):
  aa prog 16 [pI t,pI m] μ K:=by
 refine Lt.c ?_;refine ab.mk (λh=>h0 λh'=>?_) (λg1=>ab.mk (λh=>h0 λh'=>?_) (λg2=>ab.mk (λh=>h0 λh'=>?_) (λg3=>ab.mk (λh=>h0 λh'=>?_) (λg4 b25 ahP=>?_))))
 ·have:t<1:=by simpa using h
  omega
 ·have:t>1024:=by simpa using h
  omega
 ·have:m<1:=by simpa using h
  omega
 ·have:m>1024:=by simpa using h
  omega
 have hb:1<=t/\t<=1024/\1<=m/\m<=1024:=by
  have a1:¬t<1:=by simpa using g1
  have a2:¬t>1024:=by simpa using g2
  have a3:¬m<1:=by simpa using g3
  have a4:¬m>1024:=by simpa using g4
  omega
 let T:Tree:=⟨[[]],λ_=>b25,λ_=>[],λ_=>0,λ_=>[],λ_=>(none,0)⟩;have O1:=hO.new 126 (gJ T (λ_=>[Co]) (λ_=>[]) (λ_=>[]) (λ_=>[]) [] ⟨.nil,.nil,.nil,.nil,.nr,.nil,.nil,.nil⟩).pv ahP;have mkN:∀ν,Ow (Pt b25 126 (gJ T (λ_=>[Co]) (λ_=>[]) (λ_=>[]) (λ_=>[]) [] ⟨.nil,.nil,.nil,.nil,.nr,.nil,.nil,.nil⟩).pv::L) ν->Ow (ca T (λ_=>[Co]) (λ_=>[]) (λ_=>[]) (λ_=>[])::L) ν:=λν hν0=>by
  refine ca.in_ (T:=T) (p:=[]) (A:=[]) (B:=[]) rfl (F:=⟨.nil,.nil,.nil,.nil,.nr,.nil,.nil,.nil⟩) ?_;refine hν0.tail λν hν=>?_;have h2:Ow (cA 110 1 (.raw (.slice none 0 0)) []::L) ν:=cA.nil _ _ hν;exact h2.tail λν2 h3=>⟨M0,ν2,Mem.qk ν2,(Mem.BQ ν2).symm,trivial,h3⟩
 have O2:=mkN _ O1;refine aez O2 λu al h2=>⟨_,rfl,?_⟩;refine RT.gu h2 .nil [] (by simp) λu1 el h3=>⟨_,rfl,?_⟩;refine RI.BB h3 λu2 id h4=>⟨_,rfl,?_⟩;refine RP.BB h4 λu3 pr h5=>⟨_,rfl,λb31 ahO=>?_⟩;have O3:=h5.new 116 [pI t,pI m,pP b25 0,pP al 0,pP el 0,pP id 0,pP pr 0] ahO;let x:NC:=⟨t,m,b25,al,el,id,pr⟩;refine h1 hb b31 x _ rfl rfl (ko.shut (T:=T) (ms:=[]) (ids:=[]) (tk:=λ_=>[Co]) (ct:=λ_=>[]) (fr:=λ_=>[]) (mn:=λ_=>[]) ?_ (by show((cW [] []:Nat):Int)<=m;unfold cW;simp;omega) ?_)
 ·have tI:∀(p:Path) (c:ae),¬p++[c]∈T.D:=λp c h=>by
   have:p++[c]∈[([]:Path)]:=h;simp at this
  refine⟨⟨⟨by show[([]:Path)].Nodup;simp,by show[]∈[([]:Path)];simp,λp hp c=>⟨λh=>(by cases h),λh=>absurd h (tI p c)⟩,λp hp=>List.nodup_nil,λp c h=>absurd h (tI p c),λp hp=>?_,λp hp=>?_,λp hp=>?_,λp c h=>absurd h (tI p c),rfl,by show 1<=5000;omega,λp hp j hj=>by cases hj⟩,⟨dx.nil,λk _=>rfl⟩,λp c h=>absurd h (tI p c),⟨λp hp=>?_,λp c h=>absurd h (tI p c),λp c h=>absurd h (tI p c)⟩⟩,λr hr Mq _=>?_,⟨Pairwise.nil,by simp,by simp,by simp,by simp⟩,rfl,by show 1<=t/\t<=1024;omega,by show 1<=m/\m<=1024;omega,Pairwise.nil,by simp,by simp,λp hp=>rfl,by simp,by simp,by show 1<=1+16*0;omega⟩
  ·have:p∈[([]:Path)]:=hp;simp at this;subst this;simp
  ·have:p∈[([]:Path)]:=hp;simp at this;subst this;trivial
  ·have:p∈[([]:Path)]:=hp;simp at this;subst this;simp[ah]
  ·have:p∈[([]:Path)]:=hp;simp at this;subst this;rfl
  ·have:r∈[([]:Path)]:=hr;simp at this;exact absurd this Mq
 ·have h6:Ow (Pt b31 116 x.pv::bA al [] []::RI.cq id []::ca T (λ_=>[Co]) (λ_=>[]) (λ_=>[]) (λ_=>[])::RP.cq pr []::RT.At el []::L) _:=Ow.ord [0,3,1,2,0,0] O3;have h7:Ow (Pt b31 116 x.pv::bA al [] []::gL id []::ca T (λ_=>[Co]) (λ_=>[]) (λ_=>[]) (λ_=>[])::RP.cq pr []::RT.At el []::L) _:=h6.tail λ_ h=>h.tail λ_ h=>h.imp λν hν=>Ow.one hν;exact Ow.pack (L1:=[Pt b31 116 x.pv,bA al [] [],gL id []]) h7
@[reducible] def W_(n:Nat):PV:=.fn (.func 83) [] [.bk [pP n 0] 0]
theorem aer(n:Nat):Pure prog 34 [pP n 0] (W_ n):=av.of (BY.c rfl)
theorem Uz(hw:w<=1000):Gf prog (W_ n) ((allM es ps).map λm=>[.agg m.pv]) (ko n x es ps w):=by
 refine Gf.mk λfy ya yb J S μ hy hO cO=>?_;show aa _ _ [.fn fy ya yb,.bk [pP n 0] 0] _ _;obtain⟨T,ms,ids,tk,ct,fr,mn,⟨hR,pH⟩,h1⟩:=ko.open_ hO;have pJ:ps.length<=1000:=Nat.le_trans hR.LS hw;refine x_.c λb2 ph=>⟨_,rfl,?_⟩;have O1:=h1.new 105 [.fn fy ya yb] ph;dsimp only[nP,nn,aU];refine⟨_,aI (ak.zb (x:=x) (es:=es) (ms:=ms) (ids:=ids) O1 (by simp)) (by simp),(RP.vO x.pr).call ⟨_,_,_,rfl,?_⟩⟩;have oK:((ps.map (iP T.B)).map λy=>[RP.cX y.1,RP.g_ y.2]).length=ps.length:=by simp
 have shut:∀{u:Mem} {M:List aX},Ow (gw n x es ms ids T tk ct fr mn ps M) u->Ow (ko n x es ps w::M) u:=λh=>ko.shut hR pH h;refine bu.own (RP.gB x.pr (ps.map (iP T.B)) (by simp;omega)) (Ow.ord [3] O1)
  (λi u=>Ow (gw n x es ms ids T tk ct fr mn ps [Pt b2 105 [.fn fy ya yb],J (allM es (ps.take i)).length]) u) (λcd u=>cd=.ret/\Ow [ko n x es ps w,S] u) (λi=>eJ.own _) (λcd=>eJ.and (eJ.own _)) (λμ' h'=>?_) ?_ ?_ ?_
 ·have h2:Ow (RP.cq x.pr (ps.map (iP T.B))::Pt b2 105 [.fn fy ya yb]::ak n x es ms ids::ca T tk ct fr mn::RT.At x.el es::[J 0]) μ':=h';exact Ow.ord [2,2,0,1,0] h2
 ·rintro i OB u R h2 bX jW;have hi:i<ps.length:=by simpa using OB
  have hm:=getElem_mem hi;have aG:=hR.Ji _ hm;have hD:=hR.pD _ hm;obtain⟨_,_,_,_,_,g1,g2⟩:=aG.facts;have DP:=hR.len hD;rw[getElem_map,getElem_map];refine⟨_,_,_,_,_,_,_,_,rfl,?_⟩;refine cOf ps[i].name hR.tags aG hD (hR.core.dO.tok _ hD) DP _ _ _ (Ow.swap h2) λf u3 h3=>⟨_,_,rfl,?_⟩;have aZ:=jL (Ly hR.core.use.inv.wz) ps[i].conds;have Zv:((gH (az es ps[i].conds)).map λt=>(⟨ps[i].name,t.tags⟩:Mt))=jz es ps[i]:=rfl;rw[Zv];have adq:(jz es ps[i]).length<=1024:=by unfold jz;rw[length_map,rB aZ];exact DP
  have adU:(allM es (ps.take (i+1))).length=(allM es (ps.take i)).length+(jz es ps[i]).length:=by unfold allM;rw[Sw hi,length_append]
  refine ao.each (n:=(jz es ps[i]).length) (by omega) (λk u=>Ow (gw n x es ms ids T tk ct fr mn ps [Pt b2 105 [.fn fy ya yb],J ((allM es (ps.take i)).length+k)]) u) (Ow.swap h3) ?_ ?_
  ·rintro k u4 next hk h4 aw
   obtain⟨bG,pj⟩:∃h:(allM es (ps.take i)).length+k<(allM es ps).length,(allM es ps)[(allM es (ps.take i)).length+k]=(jz es ps[i])[k]:=aac (jz es) ps i hi k hk;refine ab.t (by simpa using hk) ⟨by omega,_,aH hk,_,_,_,rfl,_,_,_,h4.rd 4 rfl (by simp),?_⟩;have fK:∀ν,J ((allM es (ps.take i)).length+k) ν->bJ prog (.fn fy ya yb) [.agg (jz es ps[i])[k].pv] ν λv μ'=>(v=pB true/\Ow [J ((allM es (ps.take i)).length+k+1)] μ')\/(v=pB false/\Ow [S] μ'):=λν hν=>by
    have h:=cO ((allM es (ps.take i)).length+k) (by rw[length_map];exact bG) ν hν;rw[getElem_map]at h;rw[pj]at h;exact h
   refine Ow.yQ (Ow.ord [5] h4) fK λv u5 h5=>?_;rcases h5.s_ with⟨rfl,h6⟩|⟨rfl,h6⟩
   ·exact⟨_,rfl,ab.f rfl (aw _ (Ow.ord [1,1,1,1,1,0] h6))⟩
   ·refine⟨_,rfl,ab.t rfl (jW _ _ ⟨rfl,?_⟩)⟩;have h7:Ow (gw n x es ms ids T tk ct fr mn ps [S]) u5:=(Ow.ord [1,1,1,1,1,0] h6).tail λ_ h=>h.tail λ_ h=>h.tail λ_ h=>h.tail λ_ h=>h.drop;exact shut h7
  ·rintro u4 next h4
   refine ab.f (by simp) (bX _ ?_);rw[adU];exact h4
 ·intro u h2;rw[oK,take_length]at h2;dsimp only[PK];rw[length_map];exact .inl (shut (h2.tail λ_ h=>h.tail λ_ h=>h.tail λ_ h=>h.tail λ_ h=>h.drop))
 ·rintro cd u ⟨rfl,h⟩;exact .inr h
end
def zL(es:List aj)(l:List ae):List Nat:=(range l.length).flatMap λi=>mV es (l.take (i+1))
def jT(l:List Nat):Nat:=l.foldl max 0
theorem foldl_max(l:List Nat)(a:Nat):l.foldl max a=max a (jT l):=by
 unfold jT;induction l generalizing a with
 |nil=>simp
 |cons b l ih=>simp only[foldl_cons];rw[ih (max a b),ih (max 0 b)];omega
theorem qA(a b:List Nat):jT (a++b)=max (jT a) (jT b):=by
 conv=>lhs;unfold jT
 rw[foldl_append,foldl_max];rfl
theorem HG(a:Nat):jT [a]=a:=by simp[jT]
theorem Vk{l:List Nat}{b:Nat}(h:∀x∈l,x<=b):jT l<=b:=by
 induction l with
 |nil=>simp[jT]
 |cons a l ih=>
  have h1:=h a (by simp);have h2:=ih λx hx=>h x (by simp[hx]);have:jT (a::l)=max (jT [a]) (jT l):=qA [a] l;rw[this,HG];omega
structure cI where
 tags:List Int
 binds:List aO.Bind
 at_:Int
@[reducible] def cI.pv(t:cI):List PV:=[.list 1 .sh (t.tags.map gV),.list 4 .sh (t.binds.map Bind.pv),pI t.at_]
def cI.tok(t:cI):bR:=⟨t.tags,t.binds⟩
def lz(ts:List cI):List (List aO.Bind):=ts.map cI.binds
def bz(es:List aj)(c:ae)(ts:List cI):List cI:=
 if c.kind=1 then ts.flatMap λt=>(aP c t.binds es).map λx=>⟨t.tags++[x.1.tag],x.2,t.at_⟩else ts.filter λt=> !(iu es c t.binds).isEmpty
def cl(es:List aj)(l:List ae)(ts:List cI):List cI:=l.foldl (λts c=>bz es c ts) ts
theorem rA(es:List aj)(c:ae)(a b:List cI):bz es c (a++b)=bz es c a++bz es c b:=by
 unfold bz;split
 ·rw[List.flatMap_append]
 ·rw[List.filter_append]
theorem Ae(es:List aj):∀(l:List ae) (a b:List cI),cl es l (a++b)=cl es l a++cl es l b
 |[],_,_=>rfl
 |c::l,a,b=>by
  show cl es l (bz es c (a++b))=cl es l (bz es c a)++cl es l (bz es c b)
  rw[rA];exact Ae es l _ _
theorem G_(es:List aj)(l:List ae)(c:ae)(ts:List cI):cl es (l++[c]) ts=bz es c (cl es l ts):=by unfold cl;rw[foldl_append];rfl
theorem mF{es:List aj}{l:List ae}{i:Nat}(hi:i<l.length)(ts:List cI):cl es (l.take (i+1)) ts=bz es l[i] (cl es (l.take i) ts):=by
 have e:l.take (i+1)=l.take i++[l[i]]:=by rw[take_add_one,getElem?_eq_getElem hi];rfl
 rw[e,G_]
theorem VX{es:List aj}{c:ae}(hk:c.kind≠1)(b:List aO.Bind):iu es c b=if(iu es c b).isEmpty then[]else[b]:=by
 rw[jD,if_neg hk]
 repeat' split
 all_goals first|rfl|simp_all
theorem qg(es:List aj)(c:ae)(ts:List cI):lz (bz es c ts)=(lz ts).flatMap λb=>iu es c b:=by
 induction ts with
 |nil=>unfold bz lz;simp
 |cons t ts ih=>
  have e:t::ts=[t]++ts:=rfl;rw[e,rA];unfold lz at ih |-;rw[map_append,ih,map_append,List.flatMap_append];congr 1;unfold bz;by_cases hk:c.kind=1
  ·rw[if_pos hk];simp only[flatMap_cons,List.flatMap_nil,append_nil,map_map,map_cons,map_nil];rw[jD,if_pos hk];rfl
  ·rw[if_neg hk];simp only[map_cons,map_nil,flatMap_cons,List.flatMap_nil,append_nil,filter_cons,filter_nil];rw[VX hk t.binds];split<;>split<;>simp_all
theorem iM(es:List aj):∀(l:List ae) (ts:List cI),lz (cl es l ts)=iz es l (lz ts)
 |[],_=>rfl
 |c::l,ts=>by
  show lz (cl es l (bz es c ts))=_
  rw[iM es l,qg];rfl
theorem NB(es:List aj)(c:ae)(ts:List cI):(bz es c ts).map cI.tok=stepT es c (ts.map cI.tok):=by
 unfold bz stepT;by_cases hk:c.kind=1
 ·rw[if_pos hk,if_pos hk,map_flatMap,flatMap_map];congr 1;funext t;rw[map_map];rfl
 ·rw[if_neg hk,if_neg hk,List.filter_map];rfl
theorem Ad(es:List aj):∀(l:List ae) (ts:List cI),(cl es l ts).map cI.tok=l.foldl (λts c=>stepT es c ts) (ts.map cI.tok)
 |[],_=>rfl
 |c::l,ts=>by
  show(cl es l (bz es c ts)).map _=_
  rw[Ad es l,NB];rfl
def Cr:cI:=⟨[],[],0⟩
theorem mE(es:List aj)(l:List ae):(cl es l [Cr]).map cI.tok=az es l:=Ad es l _
theorem Qm{es:List aj}{c:ae}{ts:List cI}{i:Int}(h:∀t∈ts,t.at_=i):∀t∈bz es c ts,t.at_=i:=by
 intro t ht;unfold bz at ht;split at ht
 ·obtain⟨t',h1,h2⟩:=mem_flatMap.1 ht;obtain⟨x,_,rfl⟩:=mem_map.1 h2;exact h t' h1
 ·exact h t (mem_filter.1 ht).1
theorem Dj{es:List aj}:∀{l:List ae} {ts:List cI} {i:Int},(∀t∈ts,t.at_=i)->∀t∈cl es l ts,t.at_=i
 |[],_,_,h=>h
 |c::l,ts,i,h=>Dj (l:=l) (Qm h)
def oI(k:Nat):List cI->List cI
 |[]=>[]
 |t::ts=>⟨[],t.binds,(k:Nat)⟩::oI (k+1) ts
theorem oH:∀(k:Nat) (ts:List cI),lz (oI k ts)=lz ts
 |_,[]=>rfl
 |k,t::ts=>by
  have:=oH (k+1) ts
  unfold lz at this |-;simp only[oI,map_cons,this]
theorem Bf:∀(k:Nat) (ts:List cI),(oI k ts).length=ts.length
 |_,[]=>rfl
 |k,t::ts=>by simp only[oI,length_cons,Bf (k+1) ts]
theorem Fh:∀(k:Nat) (ts:List cI),∀t∈oI k ts,((k:Nat):Int)<=t.at_/\t.tags=[]
 |_,[],_,h=>by simp[oI]at h
 |k,t::ts,x,h=>by
  simp only[oI,mem_cons]at h
  rcases h with rfl|h
  ·exact⟨Int.le_refl _,rfl⟩
  ·have:=Fh (k+1) ts x h
   exact⟨by omega,this.2⟩
def DV(l:List cI)(i:Int):Bool:=l.any λt=>t.at_ == i
theorem Bl(es:List aj)(l:List ae):∀(ts:List cI) (k i:Nat) (h:i<ts.length),DV (cl es l (oI k ts)) ((k+i:Nat):Int)= !(iz es l [ts[i].binds]).isEmpty
 |[],_,_,h=>by simp at h
 |t::ts,k,i,h=>by
  have e:oI k (t::ts)=[⟨[],t.binds,(k:Nat)⟩]++oI (k+1) ts:=rfl
  have h1:∀x∈cl es l [(⟨[],t.binds,(k:Nat)⟩:cI)],x.at_=(k:Nat):=Dj (by simp);have wD:∀(l:List ae) (k:Nat) (us:List cI),(∀t∈us,((k:Nat):Int)<=t.at_)->∀t∈cl es l us,((k:Nat):Int)<=t.at_:=by
   intro l k;induction l with
   |nil=>intro us h;exact h
   |cons c l ih=>
    intro us h;refine ih _ λt ht=>?_;have ht:t∈bz es c us:=ht;unfold bz at ht;split at ht
    ·obtain⟨t',h1,h2⟩:=mem_flatMap.1 ht;obtain⟨x,_,rfl⟩:=mem_map.1 h2;exact h t' h1
    ·exact h t (mem_filter.1 ht).1
  rw[e,Ae];unfold DV;rw[List.any_append];cases i with
  |zero=>
   have h2:(cl es l (oI (k+1) ts)).any (λt=>t.at_ == ((k+0:Nat):Int))=false:=by
    rw[List.any_eq_false];intro x hx;have:=wD l (k+1) _ (λt ht=>(Fh (k+1) ts t ht).1) x hx;simp only[beq_iff_eq];omega
   rw[h2,Bool.or_false];have h3:=iM es l [(⟨[],t.binds,(k:Nat)⟩:cI)];have h4:lz [(⟨[],t.binds,(k:Nat)⟩:cI)]=[t.binds]:=rfl;rw[h4]at h3;simp only[List.getElem_cons_zero];rw[<- h3];cases hs:cl es l [(⟨[],t.binds,(k:Nat)⟩:cI)]with
   |nil=>rfl
   |cons x r=>
    rw[hs]at h1;have:=h1 x (by simp);simp[lz,this]
  |succ i=>
   have h2:(cl es l [(⟨[],t.binds,(k:Nat)⟩:cI)]).any (λt=>t.at_ == ((k+(i+1):Nat):Int))=false:=by
    rw[List.any_eq_false];intro x hx;have:=h1 x hx;simp only[beq_iff_eq];omega
   rw[h2,Bool.false_or];have:=Bl es l ts (k+1) i (by simpa using h);unfold DV at this;rw[show k+(i+1)=k+1+i from by omega,this];rfl
theorem GV{α β:Type}(f:β->Nat)(g:α->List β):∀l:List α,((l.flatMap g).map f).sum=(l.map λa=>((g a).map f).sum).sum
 |[]=>rfl
 |x::l=>by rw[flatMap_cons,map_append,sum_append,GV f g l];rfl
theorem FU(es:List aj):∀(cs:List ae) (rows:List (List aO.Bind)) (j:Nat),cL es cs rows j=(rows.map λb=>cL es cs [b] j).sum
 |[],rows,j=>by simp only[cL];induction rows with
  |nil=>rfl
  |cons b rows ih=>simp only[map_cons,sum_cons,<- ih]
 |c::cs,rows,j=>by
  simp only[cL]
  by_cases h:j<aN c
  ·simp only[if_pos h,map_cons,map_nil,sum_cons,sum_nil,Nat.add_zero]
  ·simp only[if_neg h]
   rw[FU es cs,GV]
   congr 1
   refine map_congr_left λb _=>?_
   rw[FU es cs ([b].flatMap _)]
   simp
theorem NF{es:List aj}{c:ae}{ts:List cI}(hk:c.kind≠1):(bz es c ts).length<=ts.length:=by
 unfold bz;rw[if_neg hk];exact List.length_filter_le _ _
theorem NG(es:List aj)(c:ae)(ts:List cI):(bz es c ts).length=((lz ts).flatMap λb=>iu es c b).length:=by
 rw[<- qg];unfold lz;simp
theorem sY{es:List aj}{l:List ae}{i:Nat}(hi:i<l.length)(ts:List cI):(cl es (l.take (i+1)) ts).length=du es l[i] (iz es (l.take i) (lz ts)) 0:=by
 rw[mF hi,NG,iM,wJ]
theorem Ah{es:List aj}{c:ae}{ts:List cI}{m:Nat}(h:∀t∈ts,t.tags.length<=m):∀t∈bz es c ts,t.tags.length<=m+1:=by
 intro t ht;unfold bz at ht;split at ht
 ·obtain⟨t',h1,h2⟩:=mem_flatMap.1 ht;obtain⟨x,_,rfl⟩:=mem_map.1 h2;have:=h t' h1;simp;omega
 ·exact Nat.le_succ_of_le (h t (mem_filter.1 ht).1)
theorem qf{es:List aj}:∀{l:List ae} {ts:List cI} {m:Nat},(∀t∈ts,t.tags.length<=m)->∀t∈cl es l ts,t.tags.length<=m+l.length
 |[],_,_,h=>h
 |c::l,ts,m,h=>λt ht=>by
  have:=qf (l:=l) (Ah h) t ht
  simp only[length_cons];omega
theorem qc(es:List aj)(l:List ae):(az es l).map bR.binds=iz es l [[]]:=by
 have h1:=mE es l;have h2:=iM es l [Cr];rw[<- h1,map_map];exact h2
theorem BA(es:List aj)(c:ae)(ts:List bR)(j:Nat):dB es c ts j=du es c (ts.map bR.binds) j:=by
 unfold dB du;rw[map_map];rfl
theorem FV(es:List aj)(B:Int):∀(l:List ae) (rows:List (List aO.Bind)),(∃j,B<((cL es l rows j:Nat):Int))↔B<0\/∃(i:Nat) (h:i<l.length) (j:Nat),B<((du es l[i] (iz es (l.take i) rows) j:Nat):Int)
 |[],rows=>by
  constructor
  ·rintro⟨j,h⟩;simp only[cL]at h;exact .inl h
  ·rintro(h|⟨i,h,_⟩)
   ·exact⟨0,h⟩
   ·simp at h
 |c::cs,rows=>by
  have ih:=FV es B cs (rows.flatMap λb=>iu es c b)
  constructor
  ·rintro⟨j,h⟩;simp only[cL]at h;by_cases hj:j<aN c
   ·rw[if_pos hj]at h;exact .inr ⟨0,by simp,j,h⟩
   ·rw[if_neg hj]at h;rcases ih.1 ⟨_,h⟩with h|⟨i,hi,j',h⟩
    ·exact .inl h
    ·exact .inr ⟨i+1,by simpa using hi,j',h⟩
  ·rintro(h|⟨i,hi,j,h⟩)
   ·exact⟨0,by omega⟩
   ·cases i with
    |zero=>
     by_cases hj:j<aN c
     ·refine⟨j,?_⟩;simp only[cL];rw[if_pos hj];exact h
     ·have:du es c rows j=0:=GY es c rows (by omega);simp only[List.getElem_cons_zero,List.take_zero,iz]at h;rw[this]at h;exact⟨0,by omega⟩
    |succ i=>
     obtain⟨j',h'⟩:=ih.2 (.inr ⟨i,by simpa using hi,j,h⟩);refine⟨aN c+j',?_⟩;simp only[cL];rw[if_neg (by omega),Nat.add_sub_cancel_left];exact h'
theorem LY{es:List aj}{B:Int}(hB:0<=B)(l:List ae):(∃j,B<((cL es l [[]] j:Nat):Int))↔dz B es l:=by
 rw[FV];constructor
 ·rintro(h|⟨i,hi,j,h⟩)
  ·omega
  ·exact⟨i,hi,j,by rw[BA,qc];exact h⟩
 ·rintro⟨i,hi,j,h⟩;exact .inr ⟨i,hi,j,by rw[BA,qc]at h;exact h⟩
theorem tj{es fs:List aj}(h:es.Perm fs){B:Int}{l:List ae}:dz B es l↔dz B fs l:=by
 unfold dz;constructor
 ·rintro⟨i,hi,j,k⟩;exact⟨i,hi,j,by rw[<- Eg h l[i] (od h _)];exact k⟩
 ·rintro⟨i,hi,j,k⟩;exact⟨i,hi,j,by rw[Eg h l[i] (od h _)];exact k⟩
theorem Hq(f:Nat->Nat)(a b:Nat):(range (a+b)).map f=(range a).map f++(range b).map λj=>f (a+j):=by
 rw[List.range_add,map_append,map_map];rfl
theorem MU(es:List aj):∀(l:List ae) (rows:List (List aO.Bind)),(range (ah l)).map (cL es l rows)=(range l.length).flatMap λi=>(range (aN (l[i]?.getD GI))).map (du es (l[i]?.getD GI) (iz es (l.take i) rows))
 |[],_=>rfl
 |c::cs,rows=>by
  have ih:=MU es cs (rows.flatMap λb=>iu es c b)
  simp only[ah,length_cons];rw[Hq,List.range_succ_eq_map,flatMap_cons,flatMap_map];congr 1
  ·refine map_congr_left λj hj=>?_;have hj:=mem_range.1 hj;simp only[cL];rw[if_pos hj];rfl
  ·have e:(λj=>cL es (c::cs) rows (aN c+j))=cL es cs (rows.flatMap λb=>iu es c b):=by
    funext j;simp only[cL];rw[if_neg (by omega),Nat.add_sub_cancel_left]
   rw[e,ih];rfl
theorem KO(es:List aj)(l:List ae):zL es l=(range (ah l)).map (cL es l [[]]):=by
 rw[MU];unfold zL;rw[List.flatMap_def,List.flatMap_def];congr 1;refine map_congr_left λi hi=>?_;have hi:=mem_range.1 hi;have e:l.take (i+1)=l.take i++[l[i]]:=by rw[take_add_one,getElem?_eq_getElem hi];rfl
 rw[e,oN,getElem?_eq_getElem hi];unfold kK;refine map_congr_left λj _=>?_;rw[BA,qc];rfl
theorem Ok{l:List Nat}(h:∀x∈l,x=0):jT l=0:=Nat.le_zero.1 (Vk λx hx=>Nat.le_of_eq (h x hx))
theorem Kc{f:Nat->Nat}{N M:Nat}(hN:∀j,N<=j->f j=0)(hM:∀j,M<=j->f j=0):jT ((range N).map f)=jT ((range M).map f):=by
 have key:∀{N M:Nat},N<=M->(∀j,N<=j->f j=0)->jT ((range M).map f)=jT ((range N).map f):=λ{N M} h h0=>by
  obtain⟨k,rfl⟩:∃k,M=N+k:=⟨M-N,by omega⟩;rw[Hq,qA,Ok (l:=(range k).map _)]
  ·omega
  ·intro x hx;obtain⟨j,_,rfl⟩:=mem_map.1 hx;exact h0 _ (by omega)
 rcases Nat.le_total N M with h|h
 ·exact(key h hN).symm
 ·exact key h hM
theorem Y_{T:Type}{key:T->List Int}{L:List T}(hu:bY bj key L){x:T}{i:Nat}(hi:i<=L.length)(hx:∀y∈L,key y≠key x)(h1:∀(j:Nat) (h:j<L.length),i<=j->bj (key x) (key L[j])<0)(h0:i=0\/∃h:i-1<L.length,¬bj (key x) (key L[i-1])<0):L.take i++x::L.drop i=aY bj key x L:=by
 have zd:∀(j:Nat) (h:j<L.length),j<i->bj (key L[j]) (key x)<0:=λj h hj=>by
  rcases h0 with h0|⟨hl,h0⟩
  ·omega
  ·have e1:bj (key L[i-1]) (key x)<0:=by
    have:=(eC.flip (key L[i-1]) (key x));have hz:bj (key L[i-1]) (key x)≠0:=λe=>hx _ (getElem_mem hl) ((eC.zero _ _).1 e);have hz2:bj (key x) (key L[i-1])≠0:=λe=>hx _ (getElem_mem hl) ((eC.zero _ _).1 e).symm;omega
   by_cases e:j=i-1
   ·subst e;exact e1
   ·have:=List.pairwise_iff_getElem.1 hu j (i-1) h hl (by omega);exact eC.trans _ _ _ this e1
 have Ib:∀(j:Nat) (h:j<L.length),i<=j->0<bj (key L[j]) (key x):=λj h hj=>by
  have:=h1 j h hj;have:=eC.flip (key x) (key L[j]);omega
 unfold aY
 rw[mT (k:=i) hi (λj h hj=>by simp[AP,zd j h hj]) (λj h hj=>by have:=Ib j h hj;simp[AP];omega),
  qO (k:=i) hi (λj h hj=>by have:=zd j h hj;simp[FA];omega) (λj h hj=>by simp[FA,Ib j h hj])]
abbrev tU(N:Nat)(cv:Nat->Nat):Lq:=(range N).map λi=>[pI ((cv i:Nat):Int)]
def pO(z:Nat)(R:Int)(o:Bool)(N:Nat)(cv:Nat->Nat):aX:=λμ=>∃a c,Ow [Pt z 262 [pV a N c,pI R,pB o],cA 3 1 (pV a N c) (tU N cv)] μ
theorem pO.open_{z:Nat}{R:Int}{o:Bool}{N:Nat}{cv:Nat->Nat}{L:List aX}{μ:Mem}(h:Ow (pO z R o N cv::L) μ):∃a c,Ow (Pt z 262 [pV a N c,pI R,pB o]::cA 3 1 (pV a N c) (tU N cv)::L) μ:=by
 obtain⟨a,h⟩:=Ow.ex h;obtain⟨c,h⟩:=Ow.ex h;exact⟨a,c,h.nest⟩
theorem pO.shut{z:Nat}{R:Int}{o:Bool}{N c:Nat}{a:Option Addr}{cv:Nat->Nat}{L:List aX}{μ:Mem}(h:Ow (Pt z 262 [pV a N c,pI R,pB o]::cA 3 1 (pV a N c) (tU N cv)::L) μ):Ow (pO z R o N cv::L) μ:=
 (Ow.pack (L1:=[_,_]) h).imp λ_ hν=>⟨a,c,hν⟩
theorem OU{N:Nat}{cv:Nat->Nat}(h:cv N=0):tU N cv++[[pI 0]]=tU (N+1) cv:=by
 unfold tU;rw[List.range_succ,map_append,List.map_singleton,h];rfl
theorem aeu{z N:Nat}{R:Int}{o:Bool}{cv:Nat->Nat}(hz:∀j,N<=j->cv j=0)(n k:Nat)(hn:n<=100000)(hN:N<=100000){L:List aX}{μ:Mem}(hO:Ow (pO z R o N cv::L) μ){K:Kq}
  (hk:∀μ',Ow (pO z R (o||decide (R<(k:Int))) (max N (n+1)) (mD cv n k)::L) μ'->K (.aA []) μ'):aa prog 236 [pP z 0,pI (n:Nat),pI (k:Nat)] μ K:=by
 refine ng.c ?_;refine⟨λm _ u=>∃N',N<=N'/\N'<=max N (n+1)/\m=max N (n+1)-N'/\Ow (pO z R o N' cv::L) u,⟨_,N,le_refl _,by omega,rfl,hO⟩,?_⟩;rintro m _ u ⟨N',h1,h2,rfl,hO⟩;obtain⟨a,c,hO⟩:=pO.open_ hO;refine⟨_,_,_,hO.rd 0 rfl (by simp),ab.mk (λh=>?_) (λh=>?_)⟩
 ·have h:N'<=n:=by simp at h;omega
  obtain⟨a',c',e,jf⟩:=cA.app hO.swap (xE N' cv);have hl:(tU N' cv).length=N':=by simp
  simp only[PV.raw.injEq,Value.slice.injEq]at e;obtain⟨rfl,_,rfl⟩:=e;rw[hl]at jf;refine⟨_,_,_,hO.rd 0 rfl (by simp),?_⟩;refine jf _ _ _ rfl rfl (by omega) (by omega) λb2 c2 u2 gg=>?_;rw[OU (hz N' h1)]at gg;refine gg.st 1 rfl (by simp) λu3 CK=>⟨_,?_,N'+1,by omega,by omega,rfl,pO.shut CK.swap⟩;omega
 ·have h:n<N':=by simp at h;omega
  have hm:max N (n+1)=N':=by omega
  have hl:n<(tU N' cv).length:=by simpa using h
  obtain⟨b,rfl,_,fK⟩:=cA.at_ 1 hO rfl (xE N' cv) (j:=n) hl;refine⟨_,_,_,hO.rd 0 rfl (by simp),by omega,by omega,?_⟩;rw[toNat_natCast];refine fK 0 _ _ (by simp) λu2 gg=>?_;have e:(tU N' cv).set n (dy (tU N' cv)[n] 0 [pI (k:Nat)])=tU N' (mD cv n k):=by
   have e1:dy (tU N' cv)[n] 0 [pI (k:Nat)]=[pI ((k:Nat):Int)]:=by simp[dy]
   rw[e1];exact SP h
  have gg:Ow (Pt z 262 [pV (some ⟨b,0,none⟩) N' c,pI R,pB o]::cA 3 1 (pV (some ⟨b,0,none⟩) N' c) ((tU N' cv).set n (dy (tU N' cv)[n] 0 [pI (k:Nat)]))::L) u2:=gg;rw[e]at gg;rw[hm]at hk;refine⟨_,gg.rd 0 rfl (by simp),ab.mk (λho=>?_) (λho=>⟨_,gg.rd 0 rfl (by simp),?_⟩)⟩
  ·subst ho;exact gg.st 0 rfl (by simp) λu3 CK=>hk _ (pO.shut CK)
  ·subst ho;exact gg.st 0 rfl (by simp) λu3 CK=>hk _ (pO.shut CK)
theorem aaA(f:Fl)(l:List cI)(hl:l.length<=100000000)(i:Int):Pure prog 260 [.list 3 f (l.map cI.pv),pI i] (pB (DV l i)):=by
 refine av.of (ug.c ?_);refine ao.each (n:=l.length) (by omega) (λk u=>(l.take k).any (λt=>t.at_ == i)=false) (by simp) ?_ ?_
 ·intro k u next hk hg aw
  refine ab.t (by simpa using hk) ⟨by omega,_,aH hk,_,rfl,ab.mk (λhe=>?_) (λhe=>aw _ (by rw[BJ hk hg];exact he))⟩;show wk (pB true)=_;rw[DV,Lg (p:=λt:cI=>t.at_ == i) hk he];rfl
 ·intro u next hg
  rw[take_length]at hg;exact ab.f (by simp) (by rw[DV,hg];rfl)
def mP:List Int->List Int->Bool
 |[],b=> !b.isEmpty
 |_::_,[]=>false
 |x::a,y::b=>if x=y then mP a b else decide (x<y)
theorem xn:∀(k:Nat) (a b:List Int),k<=a.length->k<=b.length->a.take k=b.take k->mP a b=mP (a.drop k) (b.drop k)
 |0,_,_,_,_,_=>rfl
 |k+1,[],_,h,_,_=>by simp at h
 |k+1,_::_,[],_,h,_=>by simp at h
 |k+1,x::a,y::b,h1,h2,h=>by
  simp only[List.take_succ_cons,List.cons.injEq]at h
  obtain⟨rfl,h⟩:=h
  simp only[mP,if_true,List.drop_succ_cons];exact xn k a b (by simpa using h1) (by simpa using h2) h
theorem aas(f g:Fl)(a b:List Int)(ha:a.length<=100000000)(hb:b.length<=100000000):Pure prog 198 [.list 1 f (a.map gV),.list 1 g (b.map gV)] (pB (mP a b)):=by
 refine av.of (uh.c ⟨λ_ _=>∃k,k<=a.length/\k<=b.length/\a.take k=b.take k/\(k=a.length\/k=b.length),?_,?_⟩)
 ·refine ao.each (n:=a.length) (by omega) (λk u=>k<=b.length/\a.take k=b.take k) ⟨by omega,rfl⟩ ?_ ?_
  ·rintro k u next hk ⟨h1,h2⟩ aw
   refine ab.t (by simpa using hk) (ab.mk (λh=>?_) (λh=>?_))
   ·have h:k<b.length:=by simpa using h
    refine⟨by omega,_,aH hk,_,rfl,by omega,_,aH h,_,rfl,ab.mk (λaZ=>?_) (λhe=>aw _ ⟨by omega,?_⟩)⟩
    ·have aZ:a[k]≠b[k]:=by simpa using aZ
     refine⟨by omega,_,aH hk,_,rfl,by omega,_,aH h,_,rfl,?_⟩;show wk (pB (decide (a[k]<b[k])))=_;rw[xn k a b (by omega) h1 h2,List.drop_eq_getElem_cons hk,List.drop_eq_getElem_cons h,mP,if_neg aZ];rfl
    ·have he:a[k]=b[k]:=by simpa using he
     rw[take_add_one,take_add_one,getElem?_eq_getElem hk,getElem?_eq_getElem h,h2,he]
   ·have h:¬k<b.length:=by simpa using h
    exact⟨k,by omega,by omega,h2,.inr (by omega)⟩
  ·rintro u next ⟨h1,h2⟩
   exact ab.f (by simp) ⟨a.length,by omega,h1,h2,.inl rfl⟩
 ·rintro _ u ⟨k,h1,h2,h3,h4⟩;show wk (pB (decide ((((a.map gV).length:Nat):Int)<(((b.map gV).length:Nat):Int))))=_;rw[xn k a b h1 h2 h3];have e:decide ((((a.map gV).length:Nat):Int)<(((b.map gV).length:Nat):Int))=mP (a.drop k) (b.drop k):=by
   rcases h4 with rfl|rfl
   ·rw[drop_length];simp only[mP,length_map];cases hd:b.drop a.length with
    |nil=>have:=congrArg List.length hd;simp at this;simp;omega
    |cons y r=>have:=congrArg List.length hd;simp at this;simp;omega
   ·rw[drop_length];simp only[length_map];cases hd:a.drop b.length with
    |nil=>have:=congrArg List.length hd;simp at this;simp[mP];omega
    |cons y r=>have:=congrArg List.length hd;simp at this;simp[mP];omega
  rw[e];rfl
theorem Qt(n:Nat)(f:Nat->Nat)(j:Nat):sh n f j=(if j=n then f 0 else 0)+sh (n+1) (λj=>f (j+1)) j:=by
 unfold sh;by_cases e:j=n
 ·subst e;rw[if_pos (le_refl _),Nat.sub_self,if_pos rfl,if_neg (by omega)];omega
 ·rw[if_neg e];by_cases h:n<=j
  ·rw[if_pos h,if_pos (by omega),show j-n=j-(n+1)+1 from by omega,zero_add]
  ·rw[if_neg h,if_neg (by omega)]
theorem ED{es:List aj}{c:ae}(h:¬(c.kind=1\/c.kind=2))(rows:List (List aO.Bind)):(λj=>du es c rows (j+1))=cL es c.conds rows:=by
 funext j;rw[FU];unfold du;congr 1;exact map_congr_left λb _=>by rw[vQ,if_neg h]
theorem LH{es:List aj}{c:ae}(h:c.kind=1\/c.kind=2)(rows:List (List aO.Bind))(j:Nat):du es c rows (j+1)=0:=by
 unfold du;induction rows with
 |nil=>rfl
 |cons b rows ih=>rw[map_cons,sum_cons,ih,vQ,if_pos h]
theorem sZ{es:List aj}{c:ae}{ts:List cI}{k:Nat}(hk:k<ts.length):bz es c (ts.take (k+1))=bz es c (ts.take k)++bz es c [ts[k]]:=by
 rw[<- rA,take_add_one,getElem?_eq_getElem hk];rfl
theorem DM:∀(a:Nat) {ts:List cI} {k:Nat} (hk:k<ts.length),oI a (ts.take (k+1))=oI a (ts.take k)++[⟨[],ts[k].binds,((a+k:Nat):Int)⟩]
 |a,t::ts,0,_=>rfl
 |a,t::ts,k+1,hk=>by
  simp only[List.take_succ_cons,oI,List.cons_append,List.getElem_cons_succ]
  rw[DM (a+1) (by simpa using hk),show a+1+k=a+(k+1)from by omega]
mutual
def Ru:ae->Prop
 | .mk k g i a v ac cs=>(k=1\/k=2\/k=3)/\Cz cs
def Cz:List ae->Prop
 |[]=>True
 |c::cs=>Ru c/\Cz cs
end
theorem Mk(c:ae):Ru c↔(c.kind=1\/c.kind=2\/c.kind=3)/\Cz c.conds:=by cases c;rfl
theorem Rs{l:List ae}:Cz l↔∀c∈l,Ru c:=by
 induction l with
 |nil=>simp[Cz]
 |cons c l ih=>simp[Cz,ih]
section
variable {es:List aj} {R:Int}
def aeI(es:List aj)(R:Int)(c:ae)(n:Nat)(ts:List cI)(cv:Nat->Nat)(o:Bool)(pL:Nat->Nat)(out:List cI):Prop:=
 (o=false/\(∀j,((du es c (lz ts) (j+1):Nat):Int)<=R)/\pL=(λj=>cv j+sh (n+1) (λj=>du es c (lz ts) (j+1)) j)/\(out=bz es c ts\/(R<((bz es c ts).length:Nat)/\R<(out.length:Nat))))\/(o=true/\∃j,R<((du es c (lz ts) (j+1):Nat):Int))
def q_(es:List aj)(R:Int)(c:ae):Prop:=∀(fa fv fc ft fe:Fl) (n N z:Nat) (cv:Nat->Nat) (ts:List cI) {L:List aX} {μ:Mem} {K:Kq},tp c->Ru c->n+aN c<=2000->N<=n->(∀j,N<=j->cv j=0)->ts.length<=1000000->(∀t∈ts,t.binds.length+100*aN c<=900000/\t.tags.length+1<=900000)->Ow (pO z R false N cv::L) μ->
    (∀f o N' pL out μ',aeI es R c n ts cv o pL out->N'<=n+aN c->(∀j,N'<=j->pL j=0)->out.length<=1000001->(∀t∈out,t.tags.length<=900000)->Ow (pO z R o N' pL::L) μ'->K (.list 3 f (out.map cI.pv)) μ')->
    aa prog 235 [.agg [pI c.kind,pB c.goal,pS c.id,.list 6 fa (c.attr.map Test.pv),.list 6 fv (c.value.map Test.pv),pB c.acc,.list 7 fc (c.conds.map ae.pv)],pI (n:Nat),.list 3 ft (ts.map cI.pv),.list 12 fe (es.map aj.pv),pP z 0] μ K
def GoR(es:List aj)(R:Int)(l:List ae)(n:Nat)(ts:List cI)(cv:Nat->Nat)(o:Bool)(pL:Nat->Nat)(out:List cI):Prop:=
 (o=false/\(∀j,((cL es l (lz ts) j:Nat):Int)<=R)/\pL=(λj=>cv j+sh n (cL es l (lz ts)) j)/\out=cl es l ts)\/(o=true/\∃j,R<((cL es l (lz ts) j:Nat):Int))
def Ll(es:List aj)(R:Int)(l:List ae):Prop:=∀(fl ft fe:Fl) (n N z:Nat) (cv:Nat->Nat) (ts:List cI) {L:List aX} {μ:Mem} {K:Kq},tn l->Cz l->n+ah l<=2000->N<=n->(∀j,N<=j->cv j=0)->ts.length<=1000000->(∀t∈ts,t.binds.length+100*ah l<=900000/\t.tags.length+ah l<=900000)->Ow (pO z R false N cv::L) μ->
    (∀f o N' pL out μ',GoR es R l n ts cv o pL out->N'<=n+ah l->(∀j,N'<=j->pL j=0)->out.length<=1000001->(∀t∈out,t.tags.length<=900000)->Ow (pO z R o N' pL::L) μ'->K (.list 3 f (out.map cI.pv)) μ')->
    aa prog 197 [.list 7 fl (l.map ae.pv),pI (n:Nat),.list 3 ft (ts.map cI.pv),.list 12 fe (es.map aj.pv),pP z 0] μ K
theorem Ha{c:ae}(hl:cU c){ts:List cI}{m:Nat}(h:∀t∈ts,t.binds.length<=m):∀t∈bz es c ts,t.binds.length<=m+100*aN c:=by
 intro t ht;have h1:t.binds∈lz (bz es c ts):=mem_map.2 ⟨t,ht,rfl⟩;rw[qg]at h1;obtain⟨b,hb,h2⟩:=mem_flatMap.1 h1;obtain⟨t',h3,rfl⟩:=mem_map.1 hb;have:=MG hl h2;have:=h t' h3;omega
theorem uM:∀{l:List ae} (_:bW l) {ts:List cI} {m:Nat} (_:∀t∈ts,t.binds.length<=m),∀t∈cl es l ts,t.binds.length<=m+100*ah l
 |[],_,_,_,h=>λt ht=>by have:=h t ht;simp[ah];exact this
 |c::l,hl,ts,m,h=>λt ht=>by
  have:=uM (l:=l) hl.2 (Ha (es:=es) hl.1 h) t ht;simp only[ah];omega
theorem aec(hR:0<=R/\R<=1000000){l:List ae}(hs:∀c∈l,q_ es R c):Ll es R l:=by
 intro fl ft fe n N z cv ts L μ K aG RZ fH hN hz DP zc hO hk;have sF:=c_ l;refine yd.c ?_
 refine⟨λm s u=>∃i,s.2.2=((i:Nat):Int)/\i<=l.length/\m=l.length-i/\s.1=((n+ah (l.take i):Nat):Int)/\∃o N' pL out,s.2.1.2=out.map cI.pv/\(o=false->GoR es R (l.take i) n ts cv false pL out)/\(o=true->∃j,R<((cL es l (lz ts) j:Nat):Int))/\N'<=n+ah (l.take i)/\(∀j,N'<=j->pL j=0)/\out.length<=1000001/\(∀t∈out,t.tags.length<=900000)/\Ow (pO z R o N' pL::L) u,
  ⟨_,0,rfl,by omega,rfl,by simp[ah],false,N,cv,ts,rfl,λ_=>.inl ⟨rfl,λj=>by simp[cL];omega,?_,rfl⟩,(λh=>by cases h),by simp[ah];omega,hz,by omega,λt ht=>by have:=(zc t ht).2;omega,hO⟩,?_⟩
 ·funext j;simp only[List.take_zero];rw[JJ];rfl
 rintro m ⟨_,⟨f,_⟩,_⟩ u ⟨i,rfl,hi,rfl,rfl,o,N',pL,out,rfl,hg,CF,ZS,Ot,hol,hot,hO⟩;dsimp only;have fin:(o=false->i=l.length)->K (.list 3 f (out.map cI.pv)) u:=λh=>by
  refine hk f o N' pL out u ?_ (by have:=gT l i;omega) Ot hol hot hO;cases o with
  |true=>exact .inr ⟨rfl,CF rfl⟩
  |false=>
   have hg:=hg rfl;rw[h rfl,take_length]at hg;exact hg
 refine ab.mk (λh=>?_) (λh=>fin λ_=>by simp at h;omega);have hi:i<l.length:=by simpa using h
 obtain⟨a,cc,uD⟩:=pO.open_ hO;refine⟨_,uD.rd 0 rfl (by simp),ab.mk (λho=>?_) (λho=>fin λe=>by rw[e]at ho;cases ho)⟩;have ho:o=false:=by simpa using ho
 subst ho;obtain⟨_,hle,rfl,rfl⟩:=(hg rfl).resolve_right λh=>by cases h.1
 have hm:=getElem_mem hi;have agT:=mH hi;have alw:=gT l (i+1);have Vy:1<=aN l[i]:=by rw[bN];omega
 have ee:=lH.1 aG _ hm;have GD:lz (cl es (l.take i) ts)=iz es (l.take i) (lz ts):=iM es _ ts;have hln:(cl es (l.take i) ts).length<=1000000:=by
  by_cases h0:i=0
  ·subst h0;exact DP
  ·obtain⟨k,rfl⟩:∃k,i=k+1:=⟨i-1,by omega⟩;rw[sY (by omega) ts];have h1:=hle (ah (l.take k));rw[zM es (by omega) (lz ts),Hf]at h1;omega
 refine⟨by omega,_,aH hi,_,_,_,_,_,_,_,_,_,_,mU _,?_⟩;have bG:bW (l.take i):=b_.2 λc hc=>b_.1 (ou aG) c (List.mem_of_mem_take hc);refine hs _ hm .sh .sh .sh f fe (n+ah (l.take i)) N' z _ _ ee (Rs.1 RZ _ hm) (by omega) ZS Ot hln (λt ht=>⟨?_,?_⟩) hO λf1 o1 N1 cv1 JW u1 hr hN1 RA zH ht1 gg=>⟨_,_,rfl,?_⟩
 ·have h1:=uM (es:=es) bG (m:=900000-100*ah l) (ts:=ts) (λt ht=>by have:=(zc t ht).1;omega) t ht;have Kl:∀t∈ts,100*ah l<=900000:=λt ht=>by have:=(zc t ht).1;omega
  cases ts with
  |nil=>
   have:∀l:List ae,cl es l []=[]:=λl=>by
    induction l with
    |nil=>rfl
    |cons c l ih=>show cl es l (bz es c [])=[];unfold bz;simp;exact ih
   rw[this]at ht;cases ht
  |cons t0 ts=>have:=Kl t0 (by simp);omega
 ·have Kl:∀t∈ts,t.tags.length<=900000-ah l/\ah l<=900000:=λt ht=>by have:=(zc t ht).2;omega
  have h1:=qf (es:=es) (l:=l.take i) (m:=900000-ah l) (ts:=ts) (λt ht=>(Kl t ht).1) t ht;have h2:=c_ (l.take i);rw[length_take,Nat.min_eq_left (by omega)]at h1 h2;omega
 rw[length_map];refine aeu RA (n+ah (l.take i)) JW.length (by omega) (by omega) gg λu2 CK=>⟨rfl,by omega,_,aH hi,.sh,l[i].conds.map ae.pv,by rw[ae.cG];rfl,?_⟩;refine(qT _ .sh l[i].conds (le_refl _) (by rw[bN]at agT;omega)).call ⟨_,rfl,?_⟩;refine⟨l.length-(i+1),by omega,i+1,by rw[aC (by omega) (by omega)];rfl,by omega,rfl,?_,_,_,_,JW,rfl,λho=>?_,λho=>?_,by omega,λj hj=>?_,zH,ht1,CK⟩
 ·have:=bN l[i];rw[aC (x:=1+((ah l[i].conds:Nat):Int)) (by omega) (by omega),aC (by omega) (by omega)];omega
 ·obtain⟨h1,h2⟩:=Bool.or_eq_false_iff.1 ho;subst h1;obtain⟨_,r1,rfl,r2⟩:=hr.resolve_right λh=>by cases h.1
  have h2:((JW.length:Nat):Int)<=R:=by simpa using h2
  obtain rfl:=r2.resolve_right λh=>by omega
  rw[GD]at r1;have Sg:=sY (es:=es) hi ts;rw[mF hi]at Sg;refine .inl ⟨rfl,λj=>?_,?_,(mF hi ts).symm⟩
  ·have h4:∀j,((du es l[i] (iz es (l.take i) (lz ts)) j:Nat):Int)<=R:=λj=>by
    cases j with
    |zero=>rw[<- Sg];exact h2
    |succ j=>exact r1 j
   rw[zM es hi];unfold sh;split
   ·rename_i h5;rw[FW es _ _ _ h5,zero_add];exact h4 _
   ·rw[Nat.add_zero];exact hle j
  ·funext j;rw[Sg];have e:sh n (λq=>cL es (l.take i) (lz ts) q+sh (ah (l.take i)) (du es l[i] (iz es (l.take i) (lz ts))) q) j=sh n (cL es (l.take i) (lz ts)) j+sh (n+ah (l.take i)) (du es l[i] (iz es (l.take i) (lz ts))) j:=by rw[JK,WY]
   have e2:sh n (cL es (l.take (i+1)) (lz ts)) j=sh n (λq=>cL es (l.take i) (lz ts) q+sh (ah (l.take i)) (du es l[i] (iz es (l.take i) (lz ts))) q) j:=uN (λq=>zM es hi _ q) j;have e3:sh n (cL es (l.take (i+1)) (lz ts)) j=sh n (cL es (l.take i) (lz ts)) j+sh (n+ah (l.take i)) (du es l[i] (iz es (l.take i) (lz ts))) j:=e2.trans e;have e4:=Qt (n+ah (l.take i)) (du es l[i] (iz es (l.take i) (lz ts))) j;show mD _ _ _ j=cv j+sh n (cL es (l.take (i+1)) (lz ts)) j;rw[e3,e4];unfold mD;by_cases hj:j=n+ah (l.take i)
   ·rw[if_pos hj,if_pos hj];have z1:=Ot j (by omega);have z1:cv j+sh n (cL es (l.take i) (lz ts)) j=0:=z1;have z2:sh (n+ah (l.take i)+1) (λj=>du es l[i] (iz es (l.take i) (lz ts)) (j+1)) j=0:=by unfold sh;rw[if_neg (by omega)]
    omega
   ·rw[if_neg hj,if_neg hj,GD];dsimp only;omega
 ·have h4:∃j,R<((du es l[i] (iz es (l.take i) (lz ts)) j:Nat):Int):=by
   rcases hr with⟨rfl,r1,rfl,r2⟩|⟨_,j,h⟩
   ·have h2:R<((JW.length:Nat):Int):=by simpa using ho
    refine⟨0,?_⟩;rw[<- sY hi ts,mF hi];rcases r2 with rfl|⟨h3,_⟩
    ·exact h2
    ·exact h3
   ·exact⟨j+1,by rw[<- GD];exact h⟩
  obtain⟨j,h4⟩:=h4;exact(FV es R l (lz ts)).2 (.inr ⟨i,hi,j,h4⟩)
 ·unfold mD;rw[if_neg (by omega)];exact RA j (by omega)
end
section
variable {es:List aj} {R:Int}
theorem JH{c:ae}(hk:c.kind=1)(t:cI):bz es c [t]=(aP c t.binds es).map λx=>(⟨t.tags++[x.1.tag],x.2,t.at_⟩:cI):=by unfold bz;rw[if_pos hk];simp
theorem Aj{c:ae}(hk:c.kind=2)(t:cI):bz es c [t]=if(aP c t.binds es).isEmpty then[t]else[]:=by
 unfold bz;have h1:¬c.kind=1:=by omega
 rw[if_neg h1,filter_cons,filter_nil,jD,if_neg h1,if_pos hk];cases(aP c t.binds es).isEmpty<;>rfl
theorem Ai{c:ae}(hk:¬(c.kind=1\/c.kind=2))(t:cI):bz es c [t]=if(iz es c.conds [t.binds]).isEmpty then[t]else[]:=by
 unfold bz;rw[if_neg (λh=>hk (.inl h)),filter_cons,filter_nil,jD,if_neg (λh=>hk (.inl h)),if_neg (λh=>hk (.inr h))];cases(iz es c.conds [t.binds]).isEmpty<;>rfl
theorem ND{c:ae}{ts us:List cI}(h:∀t∈us,t∈ts):∀t∈bz es c us,t∈bz es c ts:=by
 intro t ht;unfold bz at ht |-;by_cases hk:c.kind=1
 ·rw[if_pos hk]at ht |-;obtain⟨a,ha,hb⟩:=mem_flatMap.1 ht;exact mem_flatMap.2 ⟨a,h a ha,hb⟩
 ·rw[if_neg hk]at ht |-;obtain⟨a,b⟩:=mem_filter.1 ht;exact mem_filter.2 ⟨h t a,b⟩
theorem acb(hR:0<=R/\R<=1000000)(PH:es.length<=1000000){c:ae}(wC:Ll es R c.conds)(h3:c.kind=3):q_ es R c:=by
 intro fa fv fc ft fe n N z cv ts L μ K aG RZ fH hN hz DP zc hO hk;have R_:¬(c.kind=1\/c.kind=2):=by omega
 have Vy:=bN c;refine l_.c (ab.t (by rw[h3];rfl) ?_);refine ao.dG (n:=ts.length) (by omega) (λi x u=>x.2=(oI 0 (ts.take i)).map cI.pv/\Ow (fB x.1 i 3::pO z R false N cv::L) u) ⟨rfl,hO.nil (.inl rfl)⟩ ?_ ?_
 ·rintro i ⟨f,_⟩ u next hi ⟨rfl,h⟩ aw
  refine ab.t (by simpa using hi) ⟨by omega,_,aH hi,_,_,rfl,?_⟩;refine h.app (by rw[length_map,Bf,length_take];omega) (by simp;omega) (by simp;omega) λf1 u1 h1=>aw _ _ ⟨?_,h1⟩;rw[DM 0 hi,map_append,zero_add];rfl
 ·rintro⟨f,_⟩ u next ⟨rfl,h⟩
  refine ab.f (by simp) ?_;rw[take_length,show wrap .i64 (((n:Nat):Int)+1)=((n+1:Nat):Int)from by rw[aC (by omega) (by omega)];rfl];refine wC fc f fe (n+1) N z cv (oI 0 ts) ((mL c).1 aG).2.2 ((Mk c).1 RZ).2 (by omega) (by omega) hz (by rw[Bf];exact DP) (λt ht=>⟨?_,?_⟩) h.drop λf1 o N1 cv1 JW u1 hg hN1 RA zH ht1 uD=>⟨_,_,rfl,?_⟩
  ·have h1:t.binds∈lz (oI 0 ts):=mem_map.2 ⟨t,ht,rfl⟩;rw[oH]at h1;obtain⟨t',h2,h3⟩:=mem_map.1 h1;have:=(zc t' h2).1;rw[<- h3];omega
  ·rw[(Fh 0 ts t ht).2];simp;omega
  refine ao.dG (n:=ts.length) (by omega) (λk x u=>∃q:List cI,x.2=q.map cI.pv/\q.length<=k/\(∀t∈q,t∈ts)/\(JW=cl es c.conds (oI 0 ts)->q=bz es c (ts.take k))/\Ow (fB x.1 q.length 3::pO z R o N1 cv1::L) u) ⟨[],rfl,by simp,by simp,λ_=>by unfold bz;simp,uD.nil (.inl rfl)⟩ ?_ ?_
  ·rintro k ⟨f2,_⟩ u2 next cj ⟨q,rfl,hq1,TZ,HS,gg⟩ aw
   refine ab.t (by simpa using cj) ((aaA f1 JW (by omega) k).call ⟨_,rfl,ab.mk (λhn=>?_) (λhy=>?_)⟩)
   ·refine⟨by omega,_,aH cj,_,_,_,_,_,rfl,?_⟩;refine gg.app (by rw[length_map]) (by simp;omega) (by simp;omega) λf3 u3 XL=>aw _ _ ⟨q++[ts[k]],by rw[map_append];rfl,by simp;omega,λt ht=>?_,λe=>?_,by rw[length_append];exact XL⟩
    ·rcases mem_append.1 ht with ht|ht
     ·exact TZ t ht
     ·simp only[mem_singleton]at ht;subst ht;exact getElem_mem cj
    ·rw[sZ cj,HS e,Ai R_];rw[e]at hn;have:=Bl es c.conds ts 0 k cj;rw[zero_add]at this;rw[this]at hn;rw[if_pos (by simpa using hn)]
   ·refine aw _ _ ⟨q,rfl,by omega,TZ,λe=>?_,gg⟩;rw[sZ cj,HS e,Ai R_];rw[e]at hy;have:=Bl es c.conds ts 0 k cj;rw[zero_add]at this;rw[this]at hy;rw[if_neg (by simpa using hy),append_nil]
  ·rintro⟨f2,_⟩ u2 next ⟨q,rfl,hq1,TZ,HS,gg⟩
   refine ab.f (by simp) ?_;rw[take_length]at HS;refine hk f2 o N1 cv1 q u2 ?_ (by omega) RA (by omega) (λt ht=>by have:=(zc t (TZ t ht)).2;omega) gg.drop;rcases hg with⟨rfl,g1,g2,g3⟩|⟨rfl,g1⟩
   ·rw[oH]at g1 g2;refine .inl ⟨rfl,λj=>?_,?_,.inl (HS g3)⟩
    ·have:=congrFun (ED (es:=es) R_ (lz ts)) j;rw[this];exact g1 j
    ·rw[ED R_];exact g2
   ·rw[oH]at g1;obtain⟨j,hj⟩:=g1;refine .inr ⟨rfl,j,?_⟩;have:=congrFun (ED (es:=es) R_ (lz ts)) j;rw[this];exact hj
theorem Qn(hR:0<=R/\R<=1000000)(PH:es.length<=1000000){c:ae}(My:c.kind=1\/c.kind=2):q_ es R c:=by
 intro fa fv fc ft fe n N z cv ts L μ K aG RZ fH hN hz DP zc hO hk;have Ku:=((mL c).1 aG).1;obtain⟨_,l1,l2,l3,l4,_⟩:=(bF c).1 Ku;have Vy:1<=aN c:=by rw[bN];omega
 have fin:∀(f:Fl) (out:List cI) (u:Mem),(out=bz es c ts\/(R<((bz es c ts).length:Nat)/\R<(out.length:Nat)))->out.length<=1000001->(∀t∈out,t∈bz es c ts)->Ow (pO z R false N cv::L) u->K (.list 3 f (out.map cI.pv)) u:=λf out u h1 h2 h3 hO=>by
  refine hk f false N cv out u (.inl ⟨rfl,λj=>by rw[LH My];omega,?_,h1⟩) (by omega) hz h2 (λt ht=>?_) hO
  ·funext j;have:sh (n+1) (λj=>du es c (lz ts) (j+1)) j=0:=by unfold sh;split<;>simp[LH My]
   omega
  ·exact Ah (m:=899999) (λt ht=>by have:=(zc t ht).2;omega) t (h3 t ht)
 refine l_.c (ab.f (by rcases My with e|e<;>rw[e]<;>rfl) ?_);refine ao.dG (n:=ts.length) (by omega) (λi x u=>x.2=(bz es c (ts.take i)).map cI.pv/\(bz es c (ts.take i)).length<=1000000/\(c.kind=1->(((bz es c (ts.take i)).length:Nat):Int)<=R)/\Ow (fB x.1 (bz es c (ts.take i)).length 3::pO z R false N cv::L) u) ?_ ?_ ?_
 ·have e:bz es c (ts.take 0)=[]:=by unfold bz;simp
  rw[e];exact⟨rfl,by simp,λ_=>hR.1,hO.nil (.inl rfl)⟩
 ·rintro i ⟨f,_⟩ u next hi ⟨rfl,Zy,hle,h⟩ aw
  have hbt:=(zc _ (getElem_mem hi)).1;have gX:=sZ (es:=es) (c:=c) hi;generalize hD:bz es c (ts.take i)=D at h hle Zy gX |-;refine ab.t (by simpa using hi) ?_;refine⟨λs u=>s.2=(aP c ts[i].binds es).isEmpty/\∃o:List cI,s.1.2=o.map cI.pv/\o=(if c.kind=1 then bz es c (ts.take (i+1))else D)/\o.length<=1000000/\(c.kind=1->((o.length:Nat):Int)<=R)/\Ow (fB s.1.1 o.length 3::pO z R false N cv::L) u,?_,?_⟩
  ·let mk:aj×List aO.Bind->cI:=λx=>⟨ts[i].tags++[x.1.tag],x.2,ts[i].at_⟩;let P:Nat->List cI:=λk=>D++(if c.kind=1 then(aP c ts[i].binds (es.take k)).map mk else[]);have hPt:c.kind=1->bz es c (ts.take (i+1))=P es.length:=λh1=>by
    rw[gX,JH h1];show _=D++_;rw[if_pos h1,take_length]
   have hP0:P 0=D:=by
    show D++_=D;split<;>simp[aP]
   have hPn:c.kind≠1->∀k,P k=D:=λh1 k=>by show D++_=D;rw[if_neg h1,append_nil]
   refine ao.XQ (n:=es.length) (by omega) (λk x y u=>y=(aP c ts[i].binds (es.take k)).isEmpty/\x.2=(P k).map cI.pv/\(P k).length<=1000000/\(c.kind=1->(((P k).length:Nat):Int)<=R)/\Ow (fB x.1 (P k).length 3::pO z R false N cv::L) u) ⟨by simp[aP],by rw[hP0],by rw[hP0];exact Zy,by rw[hP0];exact hle,by rw[hP0];exact h⟩ ?_ ?_
   ·rintro k ⟨f1,_⟩ y u1 mM cj ⟨rfl,rfl,p0,p1,h1⟩ kq;dsimp only at h1 |-;refine⟨λ_ u'=>(c.kind=1\/(aP c ts[i].binds (es.take k)).isEmpty=true)/\u'=u1,ab.t (by simpa using cj) (ab.mk (λe=>⟨.inl (by simpa using e),rfl⟩) (λe=>ab.mk (λe2=>⟨.inr e2,rfl⟩) (λe2=>?_))),?_⟩
    ·have e:c.kind≠1:=by simpa using e
     refine⟨?_,P k,rfl,by rw[if_neg e,hPn e],p0,p1,h1⟩;have e2:(aP c ts[i].binds (es.take k)).isEmpty=false:=e2;rw[e2,mG (es:=es) k];cases hs:aP c ts[i].binds (es.take k)with
     |nil=>rw[hs]at e2;cases e2
     |cons a r=>rfl
    ·rintro _ _ ⟨wC,rfl⟩;refine⟨by omega,_,aH cj,_,_,_,_,_,_,_,_,_,_,_,_,rfl,by omega,_,aH hi,_,_,rfl,?_⟩;refine av.call (Wm .sh .sh .sh .sh c es[k] ts[i].binds (by omega) (cS l3) (cS l4)) λp hp=>?_;obtain⟨l',rfl,Xv⟩:=hp;refine⟨_,_,_,rfl,ab.mk (λdc=>?_) (λCB=>?_)⟩
     ·have dc:cH c es[k] ts[i].binds=none:=by
       cases hc:cH c es[k] ts[i].binds with
       |none=>rfl
       |some r=>rw[hc]at dc;cases dc
      have e1:aP c ts[i].binds (es.take (k+1))=aP c ts[i].binds (es.take k):=by rw[og cj,dc];simp
      have e2:P (k+1)=P k:=by show D++_=D++_;rw[e1]
      exact kq _ _ _ ⟨by rw[e1],by rw[e2],by rw[e2];exact p0,by rw[e2];exact p1,by rw[e2];exact h1⟩
     ·obtain⟨r,hc⟩:∃r,cH c es[k] ts[i].binds=some r:=by
       cases hc:cH c es[k] ts[i].binds with
       |none=>rw[hc]at CB;cases CB
       |some r=>exact⟨r,rfl⟩
      have:=Xv r hc;subst this;have e1:aP c ts[i].binds (es.take (k+1))=aP c ts[i].binds (es.take k)++[(es[k],l')]:=by rw[og cj,hc];simp
      have aZ:(aP c ts[i].binds (es.take (k+1))).isEmpty=false:=by rw[e1];simp
      refine ab.mk (λjY=>?_) (λjY=>?_)
      ·have jY:c.kind=1:=by simpa using jY
       have e2:P (k+1)=P k++[mk (es[k],l')]:=by
        show D++_=D++_++_;rw[if_pos jY,if_pos jY,e1,map_append,List.append_assoc];rfl
       have e3:[mk (es[k],l')].map cI.pv=[[.list 1 .sh (([]++ts[i].tags.map gV)++[[pI es[k].tag]]),.list 4 .sh (l'.map Bind.pv),pI ts[i].at_]]:=by simp[mk]
       have pJ:=p1 jY;have alu:=(zc _ (getElem_mem hi)).2;refine⟨λs u'=>s.2=(P (k+1)).map cI.pv/\Ow (fB s.1 (P (k+1)).length 3::pO z R false N cv::L) u',?_,?_⟩
       ·have a3:∀{u:Mem} (O:Ow (fB f1 (P k).length 3::pO z R false N cv::L) u),aW false 3 56 f1 ((P k).map cI.pv) [[.list 1 .sh (([]++ts[i].tags.map gV)++[[pI es[k].tag]]),.list 4 .sh (l'.map Bind.pv),pI ts[i].at_]] u λf u'=>(f,(P k).map cI.pv++[[.list 1 .sh (([]++ts[i].tags.map gV)++[[pI es[k].tag]]),.list 4 .sh (l'.map Bind.pv),pI ts[i].at_]]).2=(P (k+1)).map cI.pv/\Ow (fB f (P (k+1)).length 3::pO z R false N cv::L) u':=λO=>
         O.app (by rw[length_map]) (by simp;omega) (by simp;omega) λf' u' h'=>⟨(congrArg (λq=>(P k).map cI.pv++q) e3.symm).trans (List.map_append.symm.trans (congrArg (List.map cI.pv) e2.symm)),by rw[e2,length_append];exact h'⟩
        have a2:∀{u:Mem} {f:Fl} {F:Fl->Mem->Prop} (O:Ow (fB f ts[i].tags.length 1::fB f1 (P k).length 3::pO z R false N cv::L) u) (_:∀f' u',Ow (fB f1 (P k).length 3::pO z R false N cv::L) u'->F f' u'),aW false 1 8 f ([]++ts[i].tags.map gV) [[pI es[k].tag]] u F:=λO hF=>
         O.app (by simp) (by simp;omega) (by simp;omega) λf' u' h'=>hF _ _ h'.drop
        have a1:∀{u:Mem} {F:Fl->Mem->Prop} (O:Ow (fB f1 (P k).length 3::pO z R false N cv::L) u) (_:∀f' u',Ow (fB f' ts[i].tags.length 1::fB f1 (P k).length 3::pO z R false N cv::L) u'->F f' u'),aW false 1 8 .nil [] (ts[i].tags.map gV) u F:=λO hF=>
         (O.nil (n:=0) (.inl rfl)).app rfl (by simp;omega) (by simp;omega) λf' u' h'=>hF _ _ (by simpa using h')
        refine⟨by omega,_,aH hi,_,_,rfl,by omega,_,aH cj,by omega,_,aH hi,?_⟩
        repeat' first
         |exact trivial
         |exact a3 ‹_›
         |refine a2 ‹_› λ_ _ _=>?_
         |refine a1 ‹_› λ_ _ _=>?_
         |refine⟨_,rfl,?_⟩
         |refine⟨?_,?_⟩
       ·rintro⟨f2,_⟩ u2 ⟨rfl,h2⟩;obtain⟨a,cc,ME⟩:=pO.open_ (h2.drop);refine⟨_,ME.rd 0 rfl (by simp),ab.mk (λCF=>?_) (λdc=>?_)⟩
        ·rw[length_map]at CF;have CF:R<(((P (k+1)).length:Nat):Int):=by simpa using CF
         have jV:∀t∈P (k+1),t∈bz es c ts:=λt ht=>by
          refine ND (us:=ts.take (i+1)) (λt ht=>List.mem_of_mem_take ht) t ?_;rw[hPt jY];rcases mem_append.1 ht with ht|ht
          ·exact mem_append.2 (.inl ht)
          ·refine mem_append.2 (.inr ?_);rw[if_pos jY]at ht |-;rw[take_length];obtain⟨x,hx,e⟩:=mem_map.1 ht;refine mem_map.2 ⟨x,?_,e⟩;rw[mG (es:=es) (k+1)];exact mem_append.2 (.inl hx)
         refine fin f2 _ u2 (.inr ⟨?_,CF⟩) (by rw[e2,length_append,List.length_singleton];omega) jV h2.drop;have q1:(P (k+1)).length<=(P es.length).length:=by
          show(D++_).length<=(D++_).length;rw[if_pos jY,if_pos jY,length_append,length_append,length_map,length_map,take_length,mG (es:=es) (k+1),length_append];omega
         have q2:(bz es c ts).length=(bz es c (ts.take (i+1))).length+(bz es c (ts.drop (i+1))).length:=by rw[<- length_append,<- rA,List.take_append_drop]
         rw[hPt jY]at q2;omega
        ·rw[length_map]at dc;have dc:(((P (k+1)).length:Nat):Int)<=R:=by simpa using dc
         exact kq _ _ _ ⟨aZ.symm,rfl,by omega,λ_=>dc,h2⟩
      ·have jY:c.kind≠1:=by simpa using jY
       have e:P (k+1)=P k:=by rw[hPn jY,hPn jY]
       exact kq _ _ _ ⟨aZ.symm,by rw[e],by rw[e];exact p0,λe=>absurd e jY,by rw[e];exact h1⟩
   ·rintro⟨f1,_⟩ y u1 mM ⟨rfl,rfl,p0,p1,h1⟩;refine⟨λ_ _=>False,ab.f (by simp) ⟨by rw[take_length],P es.length,rfl,?_,p0,p1,h1⟩,λ_ _ h=>h.elim⟩;by_cases jY:c.kind=1
    ·rw[if_pos jY,hPt jY]
    ·rw[if_neg jY,hPn jY]
  ·rintro⟨⟨f1,_⟩,y⟩ u1 ⟨rfl,o,rfl,ho,o0,o1,h1⟩;dsimp only at h1 |-;refine ab.mk (λeT=>ab.mk (λOD=>?_) (λOD=>?_)) (λeT=>?_)
   ·have eT:c.kind=2:=by simpa using eT
    rw[if_neg (by omega)]at ho;subst ho;refine⟨by omega,_,aH hi,_,_,_,_,_,rfl,?_⟩;have e:bz es c (ts.take (i+1))=o++[ts[i]]:=by rw[gX,Aj eT,if_pos OD]
    have bG:o.length<=i:=by
     rw[<- hD];have:=NF (es:=es) (c:=c) (ts:=ts.take i) (by omega);rw[length_take]at this;omega
    refine h1.app (by rw[length_map]) (by simp;omega) (by simp;omega) λf2 u2 h2=>aw _ _ ⟨by rw[e,map_append];rfl,by rw[e];simp;omega,(λh=>by omega),by rw[e,length_append];exact h2⟩
   ·have eT:c.kind=2:=by simpa using eT
    rw[if_neg (by omega)]at ho;subst ho;have e:bz es c (ts.take (i+1))=o:=by rw[gX,Aj eT,if_neg (by rw[OD];simp),append_nil]
    exact aw _ _ ⟨by rw[e],by rw[e];exact o0,(λh=>by omega),by rw[e];exact h1⟩
   ·have jY:c.kind=1:=My.resolve_right (by simpa using eT);rw[if_pos jY]at ho;subst ho;exact aw _ _ ⟨rfl,o0,o1,h1⟩
 ·rintro⟨f,_⟩ u next ⟨rfl,Zy,hle,h⟩
  refine ab.f (by simp) ?_;rw[take_length]at*
  exact fin f _ u (.inl rfl) (by omega) (λt ht=>ht) h.drop
theorem Ux(hR:0<=R/\R<=1000000)(PH:es.length<=1000000)(c:ae):q_ es R c:=by
 refine ae.ind (Q:=q_ es R) (λc ih=>?_) c;intro fa fv fc ft fe n N z cv ts L μ K aG RZ;rcases((Mk c).1 RZ).1 with h|h|h
 ·exact Qn hR PH (.inl h) fa fv fc ft fe n N z cv ts aG RZ
 ·exact Qn hR PH (.inr h) fa fv fc ft fe n N z cv ts aG RZ
 ·exact acb hR PH (aec hR ih) h fa fv fc ft fe n N z cv ts aG RZ
theorem aiE(hR:0<=R/\R<=1000000)(PH:es.length<=1000000)(l:List ae):Ll es R l:=aec hR λc _=>Ux hR PH c
end
theorem xo:∀a b:List Int,mP a b=true↔bj a b<0
 |[],b=>by cases b<;>simp[mP,bj]<;>omega
 |a::l,[]=>by simp[mP,bj];omega
 |a::l,b::r=>by
  simp only[mP,bj]
  by_cases e:a=b
  ·rw[if_pos e,if_pos e];exact xo l r
  ·rw[if_neg e,if_neg e];simp;omega
abbrev YT(ts:List cI):Prop:=ts.Pairwise λa b=>a.tags≠b.tags
def Cp(ts:List cI):List cI:=ts.foldl (λl t=>aY bj cI.tags t l) []
theorem NH(ts:List cI)(t:cI):Cp (ts++[t])=aY bj cI.tags t (Cp ts):=by unfold Cp;rw[foldl_append];rfl
theorem Hb{ts:List cI}(h:YT ts):bY bj cI.tags (Cp ts)/\∀y,y∈Cp ts↔y∈ts:=by
 have key:∀(ts acc:List cI),bY bj cI.tags acc->YT ts->(∀t∈ts,∀a∈acc,a.tags≠t.tags)->bY bj cI.tags (ts.foldl (λl t=>aY bj cI.tags t l) acc)/\∀y,y∈ts.foldl (λl t=>aY bj cI.tags t l) acc↔y∈ts\/y∈acc:=by
  intro ts;induction ts with
  |nil=>intro acc h _ _;exact⟨h,by simp⟩
  |cons t ts ih=>
   intro acc h hp hd;obtain⟨h1,h2⟩:=List.pairwise_cons.1 hp;obtain⟨r1,r2⟩:=ih (aY bj cI.tags t acc) (h.ins eC t) h2 λt' wB a ha=>by
    rcases(bg eC).1 ha with rfl|⟨ha,_⟩
    ·exact h1 t' wB
    ·exact hd t' (by simp[wB]) a ha
   refine⟨r1,λy=>?_⟩;simp only[foldl_cons];rw[r2,bg eC,mem_cons];constructor
   ·rintro(h|rfl|⟨h,_⟩)
    ·exact .inl (.inr h)
    ·exact .inl (.inl rfl)
    ·exact .inr h
   ·rintro((rfl|h)|h)
    ·exact .inr (.inl rfl)
    ·exact .inl h
    ·exact .inr (.inr ⟨h,hd t (by simp) y h⟩)
 obtain⟨a,b⟩:=key ts [] Pairwise.nil h (by simp);exact⟨a,λy=>by unfold Cp;rw[b];simp⟩
theorem Qo{ts:List cI}(h:YT ts):(Cp ts).map cI.tok=gH (ts.map cI.tok):=by
 obtain⟨h1,h2⟩:=Hb h;refine Hc (by rw[pairwise_map];exact h) (bY.map h1) λy=>?_;simp only[mem_map];constructor
 ·rintro⟨t,ht,e⟩;exact⟨t,(h2 t).1 ht,e⟩
 ·rintro⟨t,ht,e⟩;exact⟨t,(h2 t).2 ht,e⟩
theorem qd(ts:List cI):∀r∈ts.map cI.pv,r.length=3:=λr hr=>by obtain⟨x,_,rfl⟩:=mem_map.1 hr;rfl
theorem Ul(ts:List cI):aQ (ts.map cI.pv).flatten=true:=nC (pv:=cI.pv) (λ_=>rfl) ts
theorem SY(f:Fl)(ts:List cI)(hl:ts.length<=10000000)(ht:∀t∈ts,t.tags.length<=1000000):av prog 143 [.list 3 f (ts.map cI.pv)] λp=>∃out:List cI,p=.list 3 .sh (out.map cI.pv)/\out.length=ts.length/\(YT ts->out=Cp ts):=by
 refine aa.ach (re.c ?_);refine ao.dG (n:=ts.length) (by omega) (λk x u=>∃out:List cI,x.2.1=out.length/\out.length=k/\(YT (ts.take k)->out=Cp (ts.take k))/\(∀t∈out,t∈ts)/\Ow [cA 213 3 (pV x.1 x.2.1 x.2.2) (out.map cI.pv)] u) ⟨[],rfl,rfl,λ_=>rfl,by simp,cA.nil _ _ (L:=[]) trivial⟩ ?_ ?_
 ·rintro k ⟨a,n,c⟩ u next hk ⟨out,rfl,hol,hs,fT,hO⟩ aw
  dsimp only at hO |-;have gX:=ht _ (getElem_mem hk);refine ab.t (by simpa using hk) ?_;refine⟨λs u'=>∃i:Nat,s=(i:Int)/\i<=out.length/\(∀(j:Nat) (h:j<out.length),i<=j->bj ts[k].tags out[j].tags<0)/\(i=0\/∃h:i-1<out.length,¬bj ts[k].tags out[i-1].tags<0)/\u'=u,?_,?_⟩
  ·refine ao.down (n:=out.length) (k:=0) (by omega) (by omega) (λi u'=>(∀(j:Nat) (h:j<out.length),i<=j->bj ts[k].tags out[j].tags<0)/\u'=u) ⟨λj h1 h2=>by omega,rfl⟩ ?_ ?_
   ·rintro j u' mM h0 hj ⟨jC,rfl⟩ kq;obtain⟨b,rfl,eR,_⟩:=cA.at_ 0 hO rfl (qd out) (j:=j-1) (by simp;omega);have e1:wrap .i64 ((j:Int)-1)=((j-1:Nat):Int):=by rw[aC (by omega) (by omega)];omega
    rw[e1]at kq |-;refine ab.t (by simpa using h0) ⟨by omega,_,aH hk,_,_,rfl,?_⟩;refine⟨by omega,by omega,.sh,(out[j-1]'(by omega)).tags.map gV,?_,?_⟩
    ·rw[toNat_natCast];have:=eR 0 1 (by omega);rw[getElem_map]at this;exact this
    refine(aas .sh .sh _ _ (by omega) (by have:=ht _ (fT _ (getElem_mem (show j-1<out.length by omega)));omega)).call ⟨_,rfl,ab.mk (λh=>?_) (λh=>?_)⟩
    ·have h:=(xo _ _).1 h;refine kq _ ⟨λq hq hjq=>?_,rfl⟩;by_cases e:q=j-1
     ·subst e;exact h
     ·exact jC q hq (by omega)
    ·refine⟨j,rfl,hj,jC,.inr ⟨by omega,λbG=>?_⟩,rfl⟩;rw[(xo _ _).2 bG]at h;cases h
   ·rintro u' mM ⟨jC,rfl⟩;exact ab.f (by simp) ⟨0,rfl,by omega,jC,.inl rfl,rfl⟩
  ·rintro _ _ ⟨i,rfl,hi,jC,h0,rfl⟩;obtain⟨a',c',e,jf⟩:=cA.app hO (qd out);simp only[PV.raw.injEq,Value.slice.injEq,length_map]at e jf;obtain⟨rfl,_,rfl⟩:=e;refine jf _ _ _ rfl rfl (by omega) (by omega) λb2 c2 u2 gg=>?_;have e1:wrap .i64 (((out.length+1:Nat):Int)-1)=((out.length:Nat):Int):=by rw[aC (by omega) (by omega)];omega
   rw[e1];refine ao.down hi (by omega) (λj u=>∃y:cI,Ow [cA 213 3 (pV (some ⟨b2,0,none⟩) (out.length+1) c2) ((out.take j++y::out.drop j).map cI.pv)] u) ⟨⟨[],[],0⟩,?_⟩ ?_ ?_
   ·rw[take_length,drop_length,map_append];exact gg
   ·rintro j u3 Re MA Ua ⟨y,CK⟩ Ft;have hlen:((out.take j++y::out.drop j).map cI.pv).length=out.length+1:=by rw[length_map,jI]
    obtain⟨b3,e3,eR,_⟩:=cA.at_ 0 CK rfl (qd _) (j:=j-1) (by rw[hlen];omega);simp only[Option.some.injEq,Addr.mk.injEq]at e3;obtain⟨rfl,_⟩:=e3;obtain⟨b4,e4,_,fK⟩:=cA.at_ 0 CK rfl (qd _) (j:=j) (by rw[hlen];omega);simp only[Option.some.injEq,Addr.mk.injEq]at e4;obtain⟨rfl,_⟩:=e4;have ej:wrap .i64 ((j:Int)-1)=((j-1:Nat):Int):=by rw[aC (by omega) (by omega)];omega
    rw[ej]at Ft |-;have pj:=Rz (pv:=cI.pv) out j y (by omega) Ua;refine ab.t (by simpa using MA) ⟨by omega,by omega,.sh,(out[j-1]'(by omega)).tags.map gV,.sh,(out[j-1]'(by omega)).binds.map Bind.pv,(out[j-1]'(by omega)).at_,?_,by omega,by omega,?_⟩
    ·rw[toNat_natCast];have:=eR 0 3 (by omega);rw[(List.getElem?_eq_some_iff.1 pj).2]at this;exact this
    ·rw[toNat_natCast];refine fK 0 _ _ (by simp) λu4 rU=>Ft _ ⟨out[j-1]'(by omega),?_⟩;have ew:∀r:List PV,r.length=3->dy r 0 (out[j-1]'(by omega)).pv=(out[j-1]'(by omega)).pv:=λr hr=>by
      unfold dy;simp[hr]
     have rU:Ow [cA 213 3 (pV (some ⟨b2,0,none⟩) (out.length+1) c2) (((out.take j++y::out.drop j).map cI.pv).set j (dy _ 0 (out[j-1]'(by omega)).pv))] u4:=rU;rw[ew _ (qd _ _ (getElem_mem _)),HM (pv:=cI.pv) out j y (by omega) Ua]at rU;exact rU
   ·rintro u3 Re ⟨y,CK⟩;have hlen:((out.take i++y::out.drop i).map cI.pv).length=out.length+1:=by rw[length_map,jI]
    obtain⟨b4,e4,_,fK⟩:=cA.at_ 0 CK rfl (qd _) (j:=i) (by rw[hlen];omega);simp only[Option.some.injEq,Addr.mk.injEq]at e4;obtain⟨rfl,_⟩:=e4;refine ab.f (by simp) ⟨by omega,_,aH hk,_,_,_,_,_,rfl,by omega,by omega,?_⟩;rw[toNat_natCast];refine fK 0 _ _ (by simp) λu4 rU=>aw _ _ ⟨out.take i++ts[k]::out.drop i,by rw[jI],by rw[jI];omega,λhn=>?_,λt h=>?_,?_⟩
    ·have agR:ts.take (k+1)=ts.take k++[ts[k]]:=by rw[take_add_one,getElem?_eq_getElem hk];rfl
     have hn:YT (ts.take (k+1)):=hn;rw[agR]at hn |-;obtain⟨n1,_,n3⟩:=List.pairwise_append.1 hn;have HR:=hs n1;obtain⟨m1,m2⟩:=Hb n1;rw[NH];subst HR;exact Y_ m1 hi (λy hy=>n3 y ((m2 y).1 hy) _ (by simp)) jC h0
    ·rcases mem_append.1 h with h|h
     ·exact fT t (List.mem_of_mem_take h)
     ·rcases mem_cons.1 h with rfl|h
      ·exact getElem_mem hk
      ·exact fT t (List.mem_of_mem_drop h)
    ·have ew:∀r:List PV,r.length=3->dy r 0 ts[k].pv=ts[k].pv:=λr hr=>by unfold dy;simp[hr]
     have rU:Ow [cA 213 3 (pV (some ⟨b2,0,none⟩) (out.length+1) c2) (((out.take i++y::out.drop i).map cI.pv).set i (dy _ 0 ts[k].pv))] u4:=rU;rw[ew _ (qd _ _ (getElem_mem _)),Mm (pv:=cI.pv) out i ts[k] y hi]at rU;exact rU
 ·rintro⟨a,n,c⟩ u next ⟨out,rfl,hol,hs,fT,hO⟩
  rw[take_length]at hs;exact ab.f (by simp) ⟨_,cA.view 0 hO rfl (qd out) (Ul out),out,rfl,hol,hs⟩
open K6
theorem OT{c:ae}{d:Int}(h:bn c d=0):c.kind=1\/c.kind=2\/c.kind=3:=by
 by_cases h3:c.kind=3
 ·exact .inr (.inr h3)
 ·by_cases h1:c.kind=1
  ·exact .inl h1
  ·by_cases h2:c.kind=2
   ·exact .inr (.inl h2)
   ·unfold bn at h;have e3:(c.kind == 3)=false:=by simpa using h3
    have e1:(c.kind == 1)=false:=by simpa using h1
    have e2:(c.kind == 2)=false:=by simpa using h2
    rw[e3,e1,e2]at h;cases h
mutual
theorem Rt:∀(c:ae) (a d:Nat),(∀x∈f_ c a d,bn x.2.2 x.2.1=0)->Ru c
 | .mk k g i at_ v ac cs,a,d,h=>
   ⟨OT (h (a,d,.mk k g i at_ v ac cs) (by simp[f_])),Bb cs (a+1) (d+1) λx hx=>h x (by simp[f_,hx])⟩
theorem Bb:∀(l:List ae) (a d:Nat),(∀x∈cQ l a d,bn x.2.2 x.2.1=0)->Cz l
 |[],_,_,_=>trivial
 |c::cs,a,d,h=>⟨Rt c a d λx hx=>h x (by simp[cQ,hx]),Bb cs (a+aN c) d λx hx=>h x (by simp[cQ,hx])⟩
end
theorem rX.knd{p:Prod}(h:rX p):Cz p.conds:=Bb _ 0 0 (Am (xG h.chk).1)
theorem Qa{es:List aj}{B:Int}(hB:1<=B){l:List ae}(h:¬dz B es l):(((az es l).length:Nat):Int)<=B:=by
 rcases List.eq_nil_or_concat l with rfl|⟨m,c,e⟩
 ·simp[az];exact hB
 ·have e:l=m++[c]:=by rw[e];simp
  subst e;rw[dk,<- jE];refine Int.not_lt.1 λbG=>h ⟨m.length,by simp,0,?_⟩;rw[List.getElem_append_right (le_refl _),List.take_left];simpa using bG
theorem TB{q:Bool}{size bytes:Nat}{rows new:Lq}{μ:Mem}{K:Fl->Mem->Prop}(h:aW false size bytes .nil rows new μ K):aW q size bytes .nil rows new μ K:=by
 cases q<;>exact h
theorem Ow.WD{q:Bool}{L:List aX}{μ:Mem}{size bytes:Nat}{new:Lq}{K:Fl->Mem->Prop}(hO:Ow L μ)(hb:new.length*bytes<=140737488355328)(pY:new.length<4611686018427387904)
  (hk:∀km μ',Ow (fB km new.length size::L) μ'->K km μ'):aW q size bytes .nil [] new μ K:=
 TB ((hO.nil (n:=0) (.inl rfl)).app rfl (by simpa using hb) (by simpa using pY) λkm μ' h=>hk km μ' (by simpa using h))
theorem Vo{T κ:Type}{ck:κ->κ->Int}{key:T->κ}{L:List T}{x:T}{i:Nat}(hi:i<=L.length)(zd:∀(j:Nat) (h:j<L.length),j<i->ck (key L[j]) (key x)<0)(Ib:∀(j:Nat) (h:j<L.length),i<=j->0<ck (key L[j]) (key x)):L.take i++x::L.drop i=aY ck key x L:=by
 unfold aY
 rw[mT (k:=i) hi (λj h hj=>by simp[AP,zd j h hj]) (λj h hj=>by have:=Ib j h hj;simp[AP];omega),
  qO (k:=i) hi (λj h hj=>by have:=zd j h hj;simp[FA];omega) (λj h hj=>by simp[FA,Ib j h hj])]
structure BO where
 B:Int
 M:Int
 ps:List Prod
 es:List aj
 tk:List (List cI)
 mo:List Nat
abbrev RFl:=Fl×Fl×Fl×Fl
@[reducible] def yo(ts:List cI):List PV:=[.list 3 .sh (ts.map cI.pv)]
@[reducible] def BO.pv(x:BO)(f:RFl):List PV:=[pI x.B,pI x.M,.list 3 f.1 (x.ps.map Prod.pv),.list 12 f.2.1 (x.es.map aj.pv),.list 1 f.2.2.1 (x.tk.map yo),.list 1 f.2.2.2 (x.mo.map qx)]
def cw(r:Nat)(x:BO):aX:=λμ=>∃f,Pt r 53 (x.pv f) μ
theorem cw.open_{r:Nat}{x:BO}{L:List aX}{μ:Mem}(h:Ow (cw r x::L) μ):∃f,Ow (Pt r 53 (x.pv f)::L) μ:=Ow.ex h
theorem cw.shut{r:Nat}{x:BO}{f:RFl}{L:List aX}{μ:Mem}(h:Ow (Pt r 53 (x.pv f)::L) μ):Ow (cw r x::L) μ:=h.imp λ_ hν=>⟨f,hν⟩
def sV(es:List aj)(p:Prod):List cI:=Cp (cl es p.conds [Cr])
def qy(es:List aj)(p:Prod):Nat:=jT (zL es p.conds)
abbrev HB(es:List aj):Prop:=es.Pairwise λa b=>a.tag≠b.tag
theorem Di{es:List aj}(h:HB es)(l:List ae):YT (cl es l [Cr]):=by
 have:=jL h l;rw[<- mE,pairwise_map]at this;exact this
theorem Qb{es:List aj}(h:HB es)(p:Prod):(sV es p).map cI.tok=gH (az es p.conds):=by
 unfold sV;rw[Qo (Di h _),mE]
theorem GP{es:List aj}(h:HB es)(p:Prod):(sV es p).length=(az es p.conds).length:=by
 have:=congrArg List.length (Qb h p);rw[length_map,rB (jL h _)]at this;exact this
structure pw(x:BO):Prop where
 b:1<=x.B/\x.B<=1024
 m:x.M<=1024
 Nn:bY bE jQ x.ps
 Ji:∀p∈x.ps,rX p
 KJ:x.ps.length<=100
 en:x.es.length<=100000
 ne:HB x.es
 tk:x.tk=x.ps.map (sV x.es)
 mo:x.mo=x.ps.map (qy x.es)
 le:∀p∈x.ps,¬dz x.B x.es p.conds
 sum:((cW x.es x.ps:Nat):Int)<=x.M
theorem pO.new{b:Nat}{R:Int}{L:List aX}{μ:Mem}(h:Ow (Pt b 262 [pV none 0 0,pI R,pB false]::L) μ):Ow (pO b R false 0 (λ_=>0)::L) μ:=pO.shut (cA.nil _ _ h).swap
theorem aeb{es:List aj}{B:Int}(hB:0<=B/\B<=1000000)(PH:es.length<=1000000){l:List ae}(aG:tn l)(RZ:Cz l)(hs:ah l<=16){b:Nat}(fl fe:Fl){L:List aX}{μ:Mem}(hO:Ow (Pt b 262 [pV none 0 0,pI B,pB false]::L) μ){K:Kq}
  (hk:∀f o N cv out μ',(o=false->¬dz B es l/\out=cl es l [Cr]/\jT ((range N).map cv)=jT (zL es l))->(o=true->dz B es l)->N<=16->out.length<=1000001->(∀t∈out,t.tags.length<=900000)->Ow (pO b B o N cv::L) μ'->K (.list 3 f (out.map cI.pv)) μ'):
  aa prog 197 [.list 7 fl (l.map ae.pv),pI 0,.list 3 .nr [[.list 1 .sh [],.list 4 .sh [],pI 0]],.list 12 fe (es.map aj.pv),pP b 0] μ K:=by
 refine aiE hB PH l fl .nr fe 0 0 b (λ_=>0) [Cr] aG RZ (by omega) (le_refl _) (λ_ _=>rfl) (by simp) (λt ht=>?_) (pO.new hO) λf o N cv out μ' hg hN hz hl ht Sp=>hk f o N cv out μ' (λho=>?_) (λho=>?_) (by omega) hl ht Sp
 ·simp only[mem_singleton]at ht;subst ht;simp[Cr];omega
 ·rcases hg with⟨_,h1,rfl,h3⟩|⟨h,_⟩
  ·refine⟨λCF=>?_,h3,?_⟩
   ·obtain⟨j,hj⟩:=(LY hB.1 l).2 CF;have:=h1 j;have:((cL es l [[]] j:Nat):Int)<=B:=this;omega
   ·have e:(λj=>(λ_=>0) j+sh 0 (cL es l (lz [Cr])) j)=cL es l [[]]:=by
     funext j;rw[EF];exact zero_add _
    rw[e]at hz |-;rw[KO];exact Kc hz λj hj=>FW es l _ j hj
  ·rw[ho]at h;cases h
 ·rcases hg with⟨h,_⟩|⟨_,j,hj⟩
  ·rw[ho]at h;cases h
  ·exact(LY hB.1 l).1 ⟨j,hj⟩
section
variable {r:Nat} {x:BO}
theorem aaB(s:ByteArray)(hn:x.ps.length<=1000000){L:List aX}{μ:Mem}(hO:Ow (cw r x::L) μ){K:Kq}(h0:(∀p∈x.ps,p.name≠s)->K (.aA [pI 0,pB false]) μ)(h1:∀(i:Nat) (h:i<x.ps.length),x.ps[i].name=s->K (.aA [pI (i:Nat),pB true]) μ):
  aa prog 90 [pP r 0,pS s] μ K:=by
 obtain⟨f,hO⟩:=cw.open_ hO;refine oV.c ?_;refine ao.each (n:=x.ps.length) (by omega) (λk u=>(∀p∈x.ps.take k,p.name≠s)/\u=μ) ⟨by simp,rfl⟩ ?_ ?_
 ·rintro k u next hk ⟨hn,rfl⟩ aw
  refine⟨_,_,hO.rd 0 rfl (by simp),ab.t (by simpa using hk) ⟨_,_,hO.rd 0 rfl (by simp),by omega,_,aH hk,_,rfl,ab.mk (λh=>h1 k hk (bD.1 h)) (λh=>aw _ ⟨λp hp=>?_,rfl⟩)⟩⟩;rcases(eB hk).1 hp with hp|rfl
  ·exact hn p hp
  ·exact jN.1 h
 ·rintro u next ⟨hn,rfl⟩
  rw[take_length]at hn;exact⟨_,_,hO.rd 0 rfl (by simp),ab.f (by simp) (h0 hn)⟩
theorem SR(hB:0<=x.B/\x.B<=1000000)(PH:x.es.length<=100000)(aZ:HB x.es){p:Prod}(hp:rX p)(fc fa:Fl){L:List aX}{μ:Mem}(hO:Ow (cw r x::L) μ){K:Kq}
  (hk:∀(out:List cI) (eb:Nat) ok μ',(ok=true->¬dz x.B x.es p.conds/\out=sV x.es p/\eb=qy x.es p)->(ok=false->dz x.B x.es p.conds)->out.length<=1000001->Ow (cw r x::L) μ'->K (.aA [.list 3 .sh (out.map cI.pv),pI (eb:Nat),pB ok]) μ'):
  aa prog 91 [pP r 0,.agg [pS p.name,.list 7 fc (p.conds.map ae.pv),.list 19 fa (p.bh.map cN.pv)]] μ K:=by
 obtain⟨f,hO⟩:=cw.open_ hO;obtain⟨g1,_,_,g4,_⟩:=hp.facts;refine oU.c ?_;refine⟨_,_,hO.rd 0 rfl (by simp),_,hO.rd 0 rfl (by simp),?_⟩;refine rf.c λb hb=>?_;refine aeb hB (by omega) g1 hp.knd g4 .sh _ (hO.new _ _ hb) λf1 o N cv out u1 h1 h2 hN hl ht uD=>⟨_,_,rfl,_,_,_,rfl,?_⟩;obtain⟨a,c,gg⟩:=pO.open_ uD;refine ao.dG (n:=N) (by omega) (λk y u=>y=((jT ((range k).map cv):Nat):Int)/\u=u1) ⟨rfl,rfl⟩ ?_ ?_
 ·rintro k _ u next cj ⟨rfl,rfl⟩ aw
  have GB:k<(tU N cv).length:=by simpa using cj
  obtain⟨b1,rfl,eR,_⟩:=cA.at_ 1 gg rfl (xE N cv) (j:=k) GB;refine⟨_,_,_,gg.rd 0 rfl (by simp),ab.t (by simpa using cj) ⟨_,_,_,gg.rd 0 rfl (by simp),by omega,by omega,((cv k:Nat):Int),?_,aw _ _ ⟨?_,rfl⟩⟩⟩
  ·rw[toNat_natCast];have:=eR 0 1 (by omega);rw[getElem_map,List.getElem_range]at this;exact this
  ·rw[List.range_succ,map_append,qA];show(if((cv k:Nat):Int)>((jT ((range k).map cv):Nat):Int)then((cv k:Nat):Int)else((jT ((range k).map cv):Nat):Int))=((max (jT ((range k).map cv)) (jT [cv k]):Nat):Int);rw[HG];split<;>omega
 ·rintro _ u next ⟨rfl,rfl⟩
  refine⟨_,_,_,gg.rd 0 rfl (by simp),ab.f (by simp) ⟨_,gg.rd 0 rfl (by simp),?_⟩⟩;refine(SY f1 out (by omega) (λt h=>by have:=ht t h;omega)).q λq hq=>?_;obtain⟨ago,rfl,h3,h4⟩:=hq;refine⟨_,_,rfl,?_⟩;rw[Mem.mJ];refine hk ago _ _ u (λho=>?_) (λho=>h2 (by simpa using ho)) (by omega) (cw.shut (gg.drop.drop));obtain⟨e1,e2,e3⟩:=h1 (by simpa using ho);refine⟨e1,?_,e3⟩;have h5:=h4 (by rw[e2];exact Di aZ _);rw[h5,e2];rfl
end
theorem Nu{es:List aj}{ps:List Prod}{i:Nat}(hi:i<ps.length):cW es (ps.take (i+1))=cW es (ps.take i)+(az es ps[i].conds).length:=by
 unfold cW;rw[eV hi,sum_append];simp
section
variable {r:Nat} {x:BO}
theorem Tq(hb:1<=x.B/\x.B<=1024)(hp:∀p∈x.ps,rX p)(hf:x.ps.length<=100)(PH:x.es.length<=100000)(aZ:HB x.es){L:List aX}{μ:Mem}(hO:Ow (cw r x::L) μ){K:Kq}
  (h25:(∃p∈x.ps,dz x.B x.es p.conds)->∀μ',Ow (cw r x::L) μ'->K (pI 25) μ')
  (h26:(¬ ∃p∈x.ps,dz x.B x.es p.conds)->x.M<((cW x.es x.ps:Nat):Int)->∀μ',Ow (cw r x::L) μ'->K (pI 26) μ')
  (h0:(¬ ∃p∈x.ps,dz x.B x.es p.conds)->((cW x.es x.ps:Nat):Int)<=x.M->∀μ',Ow (cw r ⟨x.B,x.M,x.ps,x.es,x.ps.map (sV x.es),x.ps.map (qy x.es)⟩::L) μ'->K (pI 0) μ'):
  aa prog 93 [pP r 0] μ K:=by
 refine nX.c ?_
 refine⟨λm s u=>∃i,s.2.2.2.2=((i:Nat):Int)/\i<=x.ps.length/\m=x.ps.length-i/\∃(tk:List (List cI)) (mo:List Nat),s.1.2=tk.map yo/\s.2.1.2=mo.map qx/\tk.length=i/\mo.length=i/\s.2.2.1=(((tk.map List.length).sum:Nat):Int)/\(tk.map List.length).sum<=1000001*i/\(s.2.2.2.1=true->∃p∈x.ps,dz x.B x.es p.conds)/\
  (s.2.2.2.1=false->tk=(x.ps.take i).map (sV x.es)/\mo=(x.ps.take i).map (qy x.es)/\(tk.map List.length).sum=cW x.es (x.ps.take i)/\∀p∈x.ps.take i,¬dz x.B x.es p.conds)/\Ow (fB s.1.1 i 1::fB s.2.1.1 i 1::cw r x::L) u,
  ⟨_,0,rfl,by omega,rfl,[],[],rfl,rfl,rfl,rfl,rfl,by simp,(λh=>by cases h),λ_=>⟨rfl,rfl,rfl,by simp⟩,(hO.nil (.inl rfl)).nil (.inl rfl)⟩,?_⟩
 rintro m ⟨⟨f1,_⟩,⟨f2,_⟩,_,ov,_⟩ u ⟨i,rfl,hi,rfl,tk,mo,rfl,rfl,DP,oK,rfl,pH,CF,dc,hO⟩;dsimp only at CF dc hO |-;obtain⟨f,uD⟩:=cw.open_ (Ow.ord [2] hO);refine⟨_,_,uD.rd 0 rfl (by simp),ab.mk (λh=>?_) (λh=>?_)⟩
 ·have h:i<x.ps.length:=by simpa using h
  have hm:=getElem_mem h;refine⟨_,_,uD.rd 0 rfl (by simp),by omega,_,aH h,_,_,_,_,_,rfl,?_⟩;refine SR (r:=r) (x:=x) (by omega) PH aZ (hp _ hm) .sh .sh (Ow.ord [2] hO) λout eb ok u1 w1 w2 w3 gg=>⟨_,_,_,_,rfl,?_⟩;refine⟨λs u'=>s=(ov|| !ok)/\u'=u1,ab.mk (λh=>by subst h;exact⟨rfl,rfl⟩) (λh=>by subst h;exact⟨rfl,rfl⟩),?_⟩;rintro _ _ ⟨rfl,rfl⟩;have CK:Ow (fB f1 i 1::fB f2 i 1::cw r x::L) _:=Ow.ord [1,1,0] gg;refine CK.app (by rw[length_map,DP]) (by simp;omega) (by simp;omega) λf3 u2 rU=>?_;refine(Ow.swap rU).app (by rw[length_map,oK]) (by simp;omega) (by simp;omega) λf4 u3 xx=>?_;have e1:((tk++[out]).map List.length).sum=(tk.map List.length).sum+out.length:=by rw[map_append,sum_append];simp
  refine⟨x.ps.length-(i+1),by omega,i+1,by rw[aC (by omega) (by omega)];rfl,by omega,rfl,tk++[out],mo++[eb],by rw[map_append];rfl,by rw[map_append];rfl,by simp[DP],by simp[oK],?_,by rw[e1];omega,λho=>?_,λho=>?_,Ow.swap xx⟩
  ·rw[e1,length_map,aC (by omega) (by omega)];rfl
  ·rcases Bool.or_eq_true_iff.1 ho with h1|h1
   ·exact CF h1
   ·exact⟨_,hm,w2 (by simpa using h1)⟩
  ·obtain⟨h1,h2⟩:=Bool.or_eq_false_iff.1 ho;obtain⟨n1,n2,n3,n4⟩:=dc h1;obtain⟨v1,rfl,rfl⟩:=w1 (by simpa using h2);refine⟨by rw[n1,eV h],by rw[n2,eV h],by rw[e1,n3,Nu h,GP aZ],λp zG=>?_⟩;rcases(eB h).1 zG with zG|rfl
   ·exact n4 p zG
   ·exact v1
 ·have h:i=x.ps.length:=by simp at h;omega
  subst h;rw[take_length]at dc;have gg:=Ow.ord [2] hO;refine ab.mk (λho=>h25 (CF ho) _ (gg.tail λ_ h=>h.drop.drop)) (λho=>⟨_,uD.rd 0 rfl (by simp),?_⟩);obtain⟨n1,n2,n3,n4⟩:=dc ho;have hn:¬ ∃p∈x.ps,dz x.B x.es p.conds:=λ⟨p,zG,hv⟩=>n4 p zG hv;rw[n3];refine ab.mk (λhs=>h26 hn (by simpa using hs) _ (gg.tail λ_ h=>h.drop.drop)) (λhs=>?_);dsimp only[nP,nn,aU];refine uD.st 0 rfl (by simp) λu1 h1=>h1.st 0 rfl (by simp[dy]) λu2 h2=>h0 hn (by simpa using hs) _ ?_;subst n1 n2;exact(cw.shut (x:=⟨x.B,x.M,x.ps,x.es,x.ps.map (sV x.es),x.ps.map (qy x.es)⟩) (f:=(f.1,f.2.1,f1,f2)) h2).tail λ_ h=>h.drop.drop
theorem pw.add(h:pw x){p:Prod}(hp:rX p)(hn:aL bE jQ p.name x.ps=none)(hv:¬dz x.B x.es p.conds)(hs:((cW x.es x.ps+(az x.es p.conds).length:Nat):Int)<=x.M)(hl:x.ps.length+1<=100):pw ⟨x.B,x.M,aY bE jQ p x.ps,x.es,(aY bE jQ p x.ps).map (sV x.es),(aY bE jQ p x.ps).map (qy x.es)⟩:=by
 have sD:=nM (ck:=bE) (key:=jQ) cy (L:=x.ps) (x:=p) hn;have fw:∀q∈aY bE jQ p x.ps,q=p\/q∈x.ps:=λq hq=>by rw[sD.mem_iff]at hq;simpa using hq
 refine⟨h.b,h.m,h.Nn.ins cy p,λq hq=>?_,by show(aY bE jQ p x.ps).length<=100;rw[sD.length_eq];simpa using hl,h.en,h.ne,rfl,rfl,λq hq=>?_,?_⟩
 ·rcases fw q hq with rfl|hq
  ·exact hp
  ·exact h.Ji q hq
 ·rcases fw q hq with rfl|hq
  ·exact hv
  ·exact h.le q hq
 ·show((cW x.es (aY bE jQ p x.ps):Nat):Int)<=x.M;rw[Dg sD];unfold cW at hs |-;simp only[map_cons,sum_cons];omega
theorem aaH(h:pw x)(hl:x.ps.length+1<=100)(fc fa:Fl)(p:Prod)(hlp:bW p.conds)(DQ:ah p.conds<=1000000)(PM:p.bh.length<=1000000){L:List aX}{μ:Mem}(hO:Ow (cw r x::L) μ){K:Kq}
  (hk:∀e Gw x' μ',rm x.B x.M x.es x.ps p e Gw->pw x'->x'.B=x.B->x'.M=x.M->x'.es=x.es->x'.ps=Gw->Ow (cw r x'::L) μ'->K (pI e) μ'):
  aa prog 41 [pP r 0,.agg [pS p.name,.list 7 fc (p.conds.map ae.pv),.list 19 fa (p.bh.map cN.pv)]] μ K:=by
 have Ky:=h.KJ;have hen:=h.en;obtain⟨b1,b2⟩:=h.b;refine pU.c ?_;refine(MQ .sh .sh p hlp DQ PM).call ⟨_,_,rfl,ab.mk (λhc=>?_) (λhc=>?_)⟩
 ·exact hk _ _ x _ (.form (by simpa using hc)) h rfl rfl rfl rfl hO
 have hc:(bQ p).2.1=0:=by simpa using hc
 have hp:rX p:=⟨hc,hlp⟩
 refine aaB p.name (by omega) hO (λbX=>⟨_,_,rfl,ab.f rfl ?_⟩) λi hi he=>⟨_,_,rfl,ab.t rfl (hk _ _ x _ (.there hc (by
  cases hg:aL bE jQ p.name x.ps with
  |none=>exact absurd he ((bx cy).1 hg _ (getElem_mem hi))
  |some q=>rfl)) h rfl rfl rfl rfl hO)⟩
 have hg:aL bE jQ p.name x.ps=none:=(bx cy).2 bX;refine SR (by omega) (by omega) h.ne hp .sh .sh hO λout eb ok u1 w1 w2 w3 uD=>⟨_,_,_,_,rfl,ab.mk (λho=>?_) (λho=>?_)⟩
 ·exact hk _ _ x _ (.dO hc hg (w2 (by simpa using ho))) h rfl rfl rfl rfl uD
 obtain⟨CF,rfl,rfl⟩:=w1 (by simpa using ho);have gX:=h.tk;have hmo:=h.mo;have DP:x.tk.length=x.ps.length:=by rw[gX,length_map]
 have Kt:x.mo.length=x.ps.length:=by rw[hmo,length_map]
 have hlen:=λq=>GP h.ne q;have al2:=Qa b1 CF;have Xm:∀k,((x.tk.take k).map List.length).sum=cW x.es (x.ps.take k):=λk=>by
  rw[gX,<- map_take,map_map];unfold cW;congr 1;exact map_congr_left λq _=>hlen q
 have jX:∀k,cW x.es (x.ps.take k)<=1024:=λk=>by
  have h1:=h.sum;have h2:cW x.es x.ps=cW x.es (x.ps.take k)+cW x.es (x.ps.drop k):=by
   unfold cW;rw[<- sum_append,<- map_append,List.take_append_drop]
  have h3:=h.m;omega
 obtain⟨f,gg⟩:=cw.open_ uD;refine ao.dG (n:=x.tk.length) (by omega) (λk y u=>y=(((sV x.es p).length+cW x.es (x.ps.take k):Nat):Int)/\u=u1) ⟨by simp[cW],rfl⟩ ?_ ?_
 ·rintro k _ u next cj ⟨rfl,rfl⟩ aw
  refine⟨_,_,gg.rd 0 rfl (by simp),ab.t (by simpa using cj) ⟨_,_,gg.rd 0 rfl (by simp),by omega,_,aH cj,_,_,rfl,aw _ _ ⟨?_,rfl⟩⟩⟩;have h1:=Xm (k+1);rw[eV cj,sum_append,Xm k]at h1;have h2:=jX (k+1);rw[length_map,hlen];simp only[sum_cons,sum_nil]at h1;rw[aC (by omega) (by omega)];omega
 rintro _ u next ⟨rfl,rfl⟩
 rw[DP,take_length,hlen];refine⟨_,_,gg.rd 0 rfl (by simp),ab.f (by simp[DP]) ⟨_,gg.rd 0 rfl (by simp),ab.mk (λhs=>?_) (λhs=>?_)⟩⟩
 ·have hs:x.M<(((az x.es p.conds).length+cW x.es x.ps:Nat):Int):=by simpa using hs
  exact hk _ _ x _ (.eb hc hg CF (by omega)) h rfl rfl rfl rfl uD
 have hs:(((az x.es p.conds).length+cW x.es x.ps:Nat):Int)<=x.M:=by simpa using hs
 refine⟨λs u'=>∃i:Nat,s=(i:Int)/\i<=x.ps.length/\(∀(j:Nat) (h:j<x.ps.length),j<i->bE x.ps[j].name p.name<0)/\(∀h:i<x.ps.length,¬bE x.ps[i].name p.name<0)/\u'=u,?_,?_⟩
 ·refine ao.each (n:=x.ps.length) (by omega) (λk u'=>(∀(j:Nat) (h:j<x.ps.length),j<k->bE x.ps[j].name p.name<0)/\u'=u) ⟨λj h1 h2=>by omega,rfl⟩ ?_ ?_
  ·rintro k u' mM cj ⟨zd,rfl⟩ kq;refine⟨_,_,gg.rd 0 rfl (by simp),ab.t (by simpa using cj) ⟨_,_,gg.rd 0 rfl (by simp),by omega,_,aH cj,_,rfl,ab.mk (λhl=>kq _ ⟨λj h1 h2=>?_,rfl⟩) (λhl=>⟨k,rfl,by omega,zd,λ_ bG=>?_,rfl⟩)⟩⟩
   ·by_cases e:j=k
    ·subst e;exact lW.2 hl
    ·exact zd j h1 (by omega)
   ·rw[lW.1 bG]at hl;cases hl
  ·rintro u' mM ⟨zd,rfl⟩;exact⟨_,_,gg.rd 0 rfl (by simp),ab.f (by simp) ⟨x.ps.length,rfl,by omega,zd,λh=>absurd h (by omega),rfl⟩⟩
 ·rintro _ _ ⟨i,rfl,hi,zd,pj,rfl⟩;have ZF:x.ps.take i++p::x.ps.drop i=aY bE jQ p x.ps:=by
   refine Vo hi zd λj hj MA=>?_;have aZ:∀(q:Nat) (h:q<x.ps.length),bE x.ps[q].name p.name≠0:=λq hq e=>bX _ (getElem_mem hq) ((cy.zero _ _).1 e);have h1:0<bE (jQ x.ps[i]) (jQ p):=by
    have a1:=pj (by omega);have a2:=aZ i (by omega);show 0<bE x.ps[i].name p.name;omega
   by_cases e:j=i
   ·subst e;exact h1
   ·have h2:=List.pairwise_iff_getElem.1 h.Nn i j (by omega) hj (by omega);have h3:=(cy.flip (jQ p) (jQ x.ps[i])).2 h1;exact(cy.flip _ _).1 (cy.trans _ _ _ h3 h2)
  have e0:toNat (0:Int)=0:=rfl;have ei:toNat ((i:Nat):Int)=i:=rfl;refine⟨λs u'=>s.2=((x.ps.take i++[p]).map Prod.pv)/\Ow (fB s.1 (i+1) 3::Pt r 53 (x.pv f)::L) u',?_,?_⟩
  ·have go:∀{u:Mem} (O:Ow (Pt r 53 (x.pv f)::L) u),aW true 3 64 .nil [] (drop (toNat (0:Int)) (take (toNat ((i:Nat):Int)) (x.ps.map Prod.pv))) u λf98 WT=>aW false 3 64 f98 ([]++(drop (toNat (0:Int)) (take (toNat ((i:Nat):Int)) (x.ps.map Prod.pv)))) [[pS p.name,.list 7 .sh (p.conds.map ae.pv),.list 19 .sh (p.bh.map cN.pv)]] WT λf101 Uj=>([]++drop (toNat (0:Int)) (take (toNat ((i:Nat):Int)) (x.ps.map Prod.pv)))++[[pS p.name,.list 7 .sh (p.conds.map ae.pv),.list 19 .sh (p.bh.map cN.pv)]]=((x.ps.take i++[p]).map Prod.pv)/\Ow (fB f101 (i+1) 3::Pt r 53 (x.pv f)::L) Uj:=λO=>by
    rw[e0,ei,drop_zero,<- map_take,List.nil_append];have ZA:(x.ps.take i).length=i:=by rw[length_take];omega
    refine Ow.WD O (by simp;omega) (by simp;omega) λf1 u1 h1=>h1.app rfl (by simp;omega) (by simp;omega) λf2 u2 h2=>⟨by rw[map_append];rfl,?_⟩;rw[length_map,ZA]at h2;exact h2
   exact⟨_,_,gg.rd 0 rfl (by simp),by omega,by omega,by simpa using hi,go gg,go gg⟩
  ·rintro⟨f1,_⟩ u1 ⟨rfl,h1⟩;dsimp only at h1 |-;have hd:∀{T:Type} (l:List T) (g:T->List PV),l.length=x.ps.length->drop (toNat ((i:Nat):Int)) (take (toNat (((l.map g).length:Nat):Int)) (l.map g))=(l.drop i).map g:=λl g hl=>by
    rw[ei,toNat_natCast,take_length,<- map_drop]
   have ht:∀{T:Type} (l:List T) (g:T->List PV),[]++drop (toNat (0:Int)) (take (toNat ((i:Nat):Int)) (l.map g))=(l.take i).map g:=λl g=>by
    rw[e0,ei,drop_zero,<- map_take,List.nil_append]
   have wB:∀{T:Type} (l:List T) (g:T->List PV),drop (toNat (0:Int)) (take (toNat ((i:Nat):Int)) (l.map g))=(l.take i).map g:=λl g=>by
    rw[e0,ei,drop_zero,<- map_take]
   have Gw:(x.ps.take i++[p]).map Prod.pv++(x.ps.drop i).map Prod.pv=(aY bE jQ p x.ps).map Prod.pv:=by rw[<- ZF,<- map_append];simp
   have wA:((x.tk.take i).map yo++[[.list 3 .sh ((sV x.es p).map cI.pv)]])++(x.tk.drop i).map yo=((aY bE jQ p x.ps).map (sV x.es)).map yo:=by
    rw[<- ZF,gX,<- map_take,<- map_drop];simp
   have mo':((x.mo.take i).map qx++[[pI ((qy x.es p:Nat):Int)]])++(x.mo.drop i).map qx=((aY bE jQ p x.ps).map (qy x.es)).map qx:=by
    rw[<- ZF,hmo,<- map_take,<- map_drop];simp
   have ZA:(x.ps.take i).length=i:=by rw[length_take];omega
   refine⟨_,_,h1.rd 1 rfl (by simp),by omega,by simpa using hi,by omega,?_⟩;rw[hd x.ps Prod.pv rfl];refine h1.app (by simp[ZA];omega) (by simp;omega) (by simp;omega) λf2 u2 h2=>?_;dsimp only[nP,nn,aU];refine h2.st 1 rfl (by simp) λu3 h3=>?_;rw[Gw]at h3;refine⟨_,_,h3.rd 1 rfl (by simp[dy]),by omega,by omega,by simpa[DP]using hi,?_⟩;rw[ht x.tk yo,wB x.tk yo];have alv:(x.tk.take i).length=i:=by rw[length_take];omega
   refine Ow.WD h3.drop (by simp;omega) (by simp;omega) λf3 u4 h4=>h4.app (by simp) (by simp;omega) (by simp;omega) λf4 u5 h5=>?_;refine⟨_,_,h5.rd 1 rfl (by simp[dy]),by omega,by simpa[DP]using hi,by omega,?_⟩;rw[hd x.tk yo DP];refine h5.app (by simp) (by simp;omega) (by simp;omega) λf5 u6 h6=>?_;refine h6.st 1 rfl (by simp[dy]) λu7 h7=>?_;rw[wA]at h7;refine⟨_,_,h7.rd 1 rfl (by simp[dy]),by omega,by omega,by simpa[Kt]using hi,?_⟩;rw[ht x.mo qx,wB x.mo qx];refine Ow.WD h7.drop (by simp;omega) (by simp;omega) λf6 u8 h8=>h8.app (by simp) (by simp;omega) (by simp;omega) λf7 u9 h9=>?_;refine⟨_,_,h9.rd 1 rfl (by simp[dy]),by omega,by simpa[Kt]using hi,by omega,?_⟩;rw[hd x.mo qx Kt];refine h9.app (by simp) (by simp;omega) (by simp;omega) λf8 u10 tO=>?_;refine tO.st 1 rfl (by simp[dy]) λu11 CL=>?_;rw[mo']at CL;refine hk 0 (aY bE jQ p x.ps) ⟨x.B,x.M,aY bE jQ p x.ps,x.es,(aY bE jQ p x.ps).map (sV x.es),(aY bE jQ p x.ps).map (qy x.es)⟩ _ (.ok hc hg CF (by omega)) (h.add hp hg CF (by omega) hl) rfl rfl rfl rfl ?_;exact cw.shut (x:=⟨x.B,x.M,aY bE jQ p x.ps,x.es,(aY bE jQ p x.ps).map (sV x.es),(aY bE jQ p x.ps).map (qy x.es)⟩) (f:=(f2,f.2.1,f5,f8)) CL.drop
end
theorem GW{es fs:List aj}(h:es.Perm fs)(ps:List Prod):cW es ps=cW fs ps:=by
 unfold cW;congr 1;exact map_congr_left λp _=>(od h p.conds).length_eq
section
variable {B M:Int} {es fs:List aj} {ps:List Prod}
theorem rm.perm(hp:es.Perm fs){p:Prod}{e:Int}{Gw:List Prod}(h:rm B M fs ps p e Gw):rm B M es ps p e Gw:=by
 have ho:=tj hp (B:=B) (l:=p.conds);have hs:=GW hp ps;have hl:=(od hp p.conds).length_eq;cases h with
 |form h=>exact .form h
 |there h h2=>exact .there h h2
 |dO h h2 h3=>exact .dO h h2 (ho.2 h3)
 |eb h h2 h3 h4=>exact .eb h h2 (λh=>h3 (ho.1 h)) (by rw[hs,hl];exact h4)
 |ok h h2 h3 h4=>exact .ok h h2 (λh=>h3 (ho.1 h)) (by rw[hs,hl];exact h4)
theorem rm.uniq{p:Prod}{e e':Int}{rS ps2:List Prod}(h:rm B M es ps p e rS)(k:rm B M es ps p e' ps2):e=e'/\rS=ps2:=by
 cases h with
 |form h=>cases k with
  |form=>exact⟨rfl,rfl⟩
  |there k=>exact absurd k h
  |dO k=>exact absurd k h
  |eb k=>exact absurd k h
  |ok k=>exact absurd k h
 |there h h2=>cases k with
  |form k=>exact absurd h k
  |there=>exact⟨rfl,rfl⟩
  |dO _ k=>rw[k]at h2;cases h2
  |eb _ k=>rw[k]at h2;cases h2
  |ok _ k=>rw[k]at h2;cases h2
 |dO h h2 h3=>cases k with
  |form k=>exact absurd h k
  |there _ k=>rw[h2]at k;cases k
  |dO=>exact⟨rfl,rfl⟩
  |eb _ _ k=>exact absurd h3 k
  |ok _ _ k=>exact absurd h3 k
 |eb h h2 h3 h4=>cases k with
  |form k=>exact absurd h k
  |there _ k=>rw[h2]at k;cases k
  |dO _ _ k=>exact absurd k h3
  |eb=>exact⟨rfl,rfl⟩
  |ok _ _ _ k=>omega
 |ok h h2 h3 h4=>cases k with
  |form k=>exact absurd h k
  |there _ k=>rw[h2]at k;cases k
  |dO _ _ k=>exact absurd k h3
  |eb _ _ _ k=>omega
  |ok=>exact⟨rfl,rfl⟩
theorem FM(hp:es.Perm fs){d:List Int}:eW es d↔eW fs d:=by
 unfold eW;simp only[hp.mem_iff]
theorem IP(hp:es.Perm fs){a:List aj}{d:List Int}:eN es a d↔eN fs a d:=by
 unfold eN;simp only[hp.mem_iff]
theorem Pq(hp:es.Perm fs){a:List aj}{d:List Int}{l:List aj}:vV es a d l↔vV fs a d l:=by
 unfold vV;simp only[hp.mem_iff]
variable {add:List aj} {drop:List Int}
theorem mj.same(hp:es.Perm fs){e e':Int}{pq es2:List aj}(h:mj B M es ps add drop e pq)(k:mj B M fs ps add drop e' es2):e=e'/\pq.Perm es2:=by
 have hd:=FM hp (d:=drop);have ha:=IP hp (a:=add) (d:=drop);have hn:∀{l l':List aj},vV es add drop l->vV fs add drop l'->l=l':=λh k=>h.uniq ((Pq hp).2 k);cases h with
 |form h=>cases k with
  |form=>exact⟨rfl,hp⟩
  |none k=>exact absurd k h
  |there k=>exact absurd k h
  |dO k=>exact absurd k h
  |eb k=>exact absurd k h
  |ok k=>exact absurd k h
 |none h h2=>cases k with
  |form k=>exact absurd h k
  |none=>exact⟨rfl,hp⟩
  |there _ k=>exact absurd (hd.2 k) h2
  |dO _ k=>exact absurd (hd.2 k) h2
  |eb _ k=>exact absurd (hd.2 k) h2
  |ok _ k=>exact absurd (hd.2 k) h2
 |there h h2 h3=>cases k with
  |form k=>exact absurd h k
  |none _ k=>exact absurd (hd.1 h2) k
  |there=>exact⟨rfl,hp⟩
  |dO _ _ k=>exact absurd (ha.2 k) h3
  |eb _ _ k=>exact absurd (ha.2 k) h3
  |ok _ _ k=>exact absurd (ha.2 k) h3
 |dO h h2 h3 l h4 h5=>cases k with
  |form k=>exact absurd h k
  |none _ k=>exact absurd (hd.1 h2) k
  |there _ _ k=>exact absurd (ha.1 h3) k
  |dO=>exact⟨rfl,hp⟩
  |eb _ _ _ l' k4 k5=>rw[hn h4 k4]at h5;exact absurd h5 k5
  |ok _ _ _ l' k4 k5=>rw[hn h4 k4]at h5;exact absurd h5 k5
 |eb h h2 h3 l h4 h5 h6=>cases k with
  |form k=>exact absurd h k
  |none _ k=>exact absurd (hd.1 h2) k
  |there _ _ k=>exact absurd (ha.1 h3) k
  |dO _ _ _ l' k4 k5=>rw[<- hn h4 k4]at k5;exact absurd k5 h5
  |eb=>exact⟨rfl,hp⟩
  |ok _ _ _ l' k4 k5 k6=>rw[hn h4 k4]at h6;omega
 |ok h h2 h3 l h4 h5 h6=>cases k with
  |form k=>exact absurd h k
  |none _ k=>exact absurd (hd.1 h2) k
  |there _ _ k=>exact absurd (ha.1 h3) k
  |dO _ _ _ l' k4 k5=>rw[<- hn h4 k4]at k5;exact absurd k5 h5
  |eb _ _ _ l' k4 k5 k6=>rw[<- hn h4 k4]at k6;omega
  |ok _ _ _ l' k4=>rw[hn h4 k4];exact⟨rfl,List.Perm.refl _⟩
theorem mj.up(hu:bY au aD es){e:Int}{pq:List aj}(h:mj B M es ps add drop e pq):bY au aD pq:=by
 cases h with
 |ok _ _ _ _ h4=>exact h4.1
 |_=>exact hu
end
structure TV(x:NC)(es:List aj)(ps:List Prod)(y:BO):Prop where
 ok:pw y
 B:y.B=x.T
 M:y.M=x.M
 ps:y.ps=ps
 up:bY au aD es
 es:es.Perm y.es
theorem zX{l:List aj}(h:(l.map aD).Nodup):l.Nodup:=List.Pairwise.of_map aD (λa b h e=>h (congrArg aD e)) h
theorem GM{l:List aj}(h:bY au aD l):l.Nodup:=zX (jy h)
theorem Oe{l:List aj}(h:HB l):(l.map aD).Nodup:=by rw[List.nodup_iff_pairwise_ne,pairwise_map];exact h
theorem N_{l:List aj}(h:(l.map aD).Nodup):HB l:=by rw[List.nodup_iff_pairwise_ne,pairwise_map]at h;exact h
theorem ace{l:List aj}(h:HB l):∃l',bY au aD l'/\l'.Perm l:=by
 have hn:=Oe h;have hu:bY au aD (ch l []):=lA l Pairwise.nil;refine⟨ch l [],hu,(List.perm_ext_iff_of_nodup (GM hu) (zX hn)).2 λe=>?_⟩;rw[fG hn (by simp)];simp
def dt(es:List aj)(d:List Int):List aj:=es.filter λe=>decide (e.tag∉d)
theorem lj{α:Type}{l:List α}{i:Nat}(h:i<l.length):l.take (i+1)=l.take i++[l[i]]:=by rw[take_add_one,getElem?_eq_getElem h];rfl
theorem tS{es:List aj}{d:List Int}{i:Nat}(h:i<d.length):(dt es (d.take i)).filter (λe=> !(e.tag == d[i]))=dt es (d.take (i+1)):=by
 unfold dt;rw[List.filter_filter,lj h];refine List.filter_congr λe _=>?_;simp only[mem_append,mem_singleton,not_or];by_cases h1:e.tag=d[i]<;>by_cases h2:e.tag∈d.take i<;>simp[h1,h2]<;>simp_all
theorem vG{α:Type}{p:α->Bool}:∀{l:List α},(l.filter p).length=l.length->∀x∈l,p x=true
 |[],_,_,h=>by simp at h
 |y::l,h,x,hx=>by
  have h1:=List.length_filter_le p l
  rw[filter_cons]at h;cases hp:p y with
  |false=>
   rw[hp]at h;simp only[Bool.false_eq_true,if_false,length_cons]at h;omega
  |true=>
   rw[hp]at h;simp only[if_true,length_cons]at h;rcases mem_cons.1 hx with rfl|hx
   ·exact hp
   ·exact vG (by omega) x hx
theorem KL{es:List aj}{d:List Int}{i:Nat}(h:i<d.length)(hl:(dt es (d.take (i+1))).length=(dt es (d.take i)).length):¬eW es d:=by
 rintro⟨hn,hd⟩;rw[<- tS h]at hl;obtain⟨e,he,ht⟩:=hd _ (getElem_mem h);have HV:d[i]∉d.take i:=λhm=>by
  obtain⟨j,hj,e⟩:=List.mem_iff_getElem.1 hm;rw[List.getElem_take]at e;rw[length_take]at hj;have:=(List.getElem_inj hn).1 e;omega
 have:=vG hl e (mem_filter.2 ⟨he,by rw[ht];simpa using HV⟩);simp[ht]at this
theorem FL{es:List aj}{d:List Int}{i:Nat}(h:i<d.length)(ho:eW es (d.take i))(hl:(dt es (d.take (i+1))).length≠(dt es (d.take i)).length):eW es (d.take (i+1)):=by
 obtain⟨hn,hd⟩:=ho;have:∃e∈dt es (d.take i),e.tag=d[i]:=by
  refine Classical.byContradiction λhc=>hl ?_;rw[<- tS h];congr 1;refine List.filter_eq_self.2 λe he=>?_;have:e.tag≠d[i]:=λe'=>hc ⟨e,he,e'⟩;simpa using this
 obtain⟨e,he,ht⟩:=this;obtain⟨h1,h2⟩:=mem_filter.1 he;rw[lj h];refine⟨?_,λt hm=>?_⟩
 ·rw[List.nodup_append];refine⟨hn,by simp,λa ha b hb=>?_⟩;simp only[mem_singleton]at hb;subst hb;rintro rfl;rw[ht]at h2;simp[ha]at h2
 ·rcases mem_append.1 hm with hm|hm
  ·exact hd t hm
  ·simp only[mem_singleton]at hm;exact⟨e,h1,by rw[hm,ht]⟩
theorem Ph{es add:List aj}{d:List Int}{k:Nat}(h:k<add.length)(hh:∃e∈dt es d++add.take k,e.tag=add[k].tag):¬eN es add d:=by
 rintro⟨hn,ha⟩;obtain⟨e,he,ht⟩:=hh;rcases mem_append.1 he with he|he
 ·obtain⟨h1,h2⟩:=mem_filter.1 he;have:=ha _ (getElem_mem h) ⟨e,h1,ht⟩;rw[<- ht]at this;simp[this]at h2
 ·obtain⟨j,hj,rfl⟩:=List.mem_iff_getElem.1 he;rw[List.getElem_take]at ht;rw[length_take]at hj;have Jn:j<(add.map aD).length:=by rw[length_map];omega
  have cj:k<(add.map aD).length:=by rw[length_map];omega
  have:(add.map aD)[j]=(add.map aD)[k]:=by rw[getElem_map,getElem_map];exact ht
  have:=(List.getElem_inj hn).1 this;omega
theorem IN{es add:List aj}{d:List Int}{k:Nat}(h:k<add.length)(ho:eN es (add.take k) d)(dc:∀e∈dt es d++add.take k,e.tag≠add[k].tag):eN es (add.take (k+1)) d:=by
 obtain⟨hn,ha⟩:=ho;rw[lj h];refine⟨?_,λa hm=>?_⟩
 ·rw[map_append,List.nodup_append];refine⟨hn,by simp,λa ha b hb=>?_⟩;simp only[map_cons,map_nil,mem_singleton]at hb;subst hb;rintro rfl;obtain⟨x,hx,e⟩:=mem_map.1 ha;exact dc x (mem_append.2 (.inr hx)) e
 ·rcases mem_append.1 hm with hm|hm
  ·exact ha a hm
  ·simp only[mem_singleton]at hm;subst hm;rintro⟨e,he,ht⟩;refine Classical.byContradiction λhc=>dc e (mem_append.2 (.inl (mem_filter.2 ⟨he,?_⟩))) ht;rw[ht];simpa using hc
theorem aah{es add:List aj}{d:List Int}(hn:HB es)(ha:eN es add d):HB (dt es d++add):=by
 refine List.pairwise_append.2 ⟨hn.filter _,N_ ha.1,λa h1 b h2 e=>?_⟩;obtain⟨h3,h4⟩:=mem_filter.1 h1;have:=ha.2 b h2 ⟨a,h3,e⟩;rw[<- e]at this;simp[this]at h4
theorem Wg{es add:List aj}{d:List Int}{l':List aj}(hu:bY au aD l')(hp:l'.Perm (dt es d++add)):vV es add d l':=by
 refine⟨hu,λe=>?_⟩;rw[hp.mem_iff,mem_append,dt,mem_filter];simp only[decide_eq_true_eq];exact or_comm
theorem Nb{s t:ByteArray}(h:bL s=bL t):s=t:=ByteArray.ext (Array.ext' h)
def kF(c:UInt8):UInt8:=UInt8.ofNat (zS c.toNat)
def WW:List UInt8->List UInt8
 |c::l=>kF c::l
 |[]=>[]
theorem PZ:∀(L:List UInt8) (h:0<L.length),kF (L[0]'h)::L.drop 1=WW L
 |c::l,_=>rfl
theorem ve(s:ByteArray):bL (dn s)=WW (bL s):=by
 have fH:s.size=(bL s).length:=rfl;have e1:∀h0:0<s.size,bL (ByteArray.empty.push (UInt8.ofNat (zS (s[0]'h0).toNat))++s.extract 1 s.size)=kF ((bL s)[0]'(by omega))::(bL s).drop 1:=λh0=>by
  have e0:s[0]'h0=(bL s)[0]'(by omega):=rfl;rw[e0];simp[bL,ByteArray.data_append,ByteArray.data_extract,kF];exact List.take_of_length_le (by rw[List.length_tail];exact Nat.le_of_eq rfl)
 unfold dn;split
 ·rename_i h0;rw[e1 h0];exact PZ _ _
 ·rename_i h0;have:bL s=[]:=List.eq_nil_of_length_eq_zero (by omega);rw[this];rfl
theorem Oc(s:ByteArray):(dn s).size=s.size:=by
 show(bL (dn s)).length=(bL s).length;rw[ve];cases bL s<;>rfl
theorem yn{c:UInt8}(h:fF c=true):fF (kF c)=true/\kF (kF c)=c:=by
 unfold fF at h;simp only[Bool.and_eq_true,decide_eq_true_eq]at h;have e:(kF c).toNat=97+(c.toNat-97+13) % 26:=by
  unfold kF zS;rw[UInt8.toNat_ofNat'];omega
 refine⟨?_,UInt8.toNat_inj.1 ?_⟩
 ·unfold fF;simp only[Bool.and_eq_true,decide_eq_true_eq];rw[e];omega
 ·have e2:(kF (kF c)).toNat=97+((kF c).toNat-97+13) % 26:=by
   show(UInt8.ofNat (zS (kF c).toNat)).toNat=_;unfold zS;rw[UInt8.toNat_ofNat',e];omega
  rw[e2,e];omega
theorem Ve:IS dn:=by
 have hd:∀a,eP a=true->∃c l,bL a=c::l/\fF c=true:=λa h=>by
  unfold eP mC at h;cases hb:bL a with
  |nil=>rw[hb]at h;simp at h
  |cons c l=>rw[hb]at h;simp only[Bool.and_eq_true]at h;exact⟨c,l,rfl,h.2.2.1⟩
 refine⟨Nb (by rw[ve];rfl),λa h=>?_,λa h=>?_⟩
 ·obtain⟨c,l,hb,hs⟩:=hd a h;unfold eP at h |-;rw[ve,hb];rw[hb]at h;show mC (kF c::l)=true;unfold mC at h |-;simp only[Bool.and_eq_true,decide_eq_true_eq,length_cons,List.all_cons]at h |-;have h1:=(yn hs).1;exact⟨h.1,h.2.1,h1,by unfold kI;rw[h1,Bool.true_or],h.2.2.2.2⟩
 ·obtain⟨c,l,hb,hs⟩:=hd a h;refine Nb ?_;rw[ve,ve,hb];show kF (kF c)::l=c::l;rw[(yn hs).2]
theorem Br{α β:Type}{f g:α->List β}:∀{l:List α},(∀x∈l,f x=g x)->l.flatMap f=l.flatMap g
 |[],_=>rfl
 |x::l,h=>by rw[flatMap_cons,flatMap_cons,h x (by simp),Br λy hy=>h y (by simp[hy])]
def gM(r:ByteArray->ByteArray)(b:aO.Bind):aO.Bind:={b with v:=r b.v}
def Gy(l:List aO.Bind):Prop:=∀b∈l,nm b.v
section
variable {r:ByteArray->ByteArray} (hr:IS r)
include hr
theorem Su{l:List aO.Bind}{v:ByteArray}(hl:Gy l)(hv:nm v):fA (l.map (gM r)) (r v)=fA l v:=by
 induction l with
 |nil=>rfl
 |cons b l ih=>
  simp only[map_cons,fA];have e:aK (gM r b).v (r v)=aK b.v v:=hr.eq (hl b (by simp)) hv;rw[e,ih λx hx=>hl x (by simp[hx])];rfl
theorem Mh{t:Test}{s:Sym}{l:List aO.Bind}(ht:nm t.var)(hl:Gy l):met (jv r t) s (l.map (gM r))=(met t s l).map (List.map (gM r))/\∀l',met t s l=some l'->Gy l':=by
 have hg:=Su hr hl ht;have he:(r t.var=⟨#[]⟩)↔t.var=⟨#[]⟩:=by
  have:=hr.emp ht;constructor
  ·intro h;rw[h,fE]at this;exact bD.1 this.symm
  ·intro h;rw[h];exact hr.e0
 unfold met;show(if t.rel=8 then(if t.list.any (λx=>eZ x s)=true then some (l.map (gM r))else none)else if t.rel<1\/t.rel>7 then none else if r t.var=⟨#[]⟩then(if holds t.rel s t.sym=true then some (l.map (gM r))else none)else match fA (l.map (gM r)) (r t.var)with|some x=>if holds t.rel s x=true then some (l.map (gM r))else none|none=>if t.rel=1 then some (l.map (gM r)++[⟨r t.var,s⟩])else none)=_/\_;rw[hg];simp only[he];by_cases h1:t.rel=8
 ·simp only[h1,if_true];split
  ·exact⟨rfl,λl' h=>by cases h;exact hl⟩
  ·exact⟨rfl,λl' h=>by cases h⟩
 ·rw[if_neg h1,if_neg h1];by_cases h2:t.rel<1\/t.rel>7
  ·rw[if_pos h2,if_pos h2];exact⟨rfl,λl' h=>by cases h⟩
  ·rw[if_neg h2,if_neg h2];by_cases h3:t.var=⟨#[]⟩
   ·rw[if_pos h3,if_pos h3];split
    ·exact⟨rfl,λl' h=>by cases h;exact hl⟩
    ·exact⟨rfl,λl' h=>by cases h⟩
   ·rw[if_neg h3,if_neg h3];cases fA l t.var with
    |some x=>
     simp only;split
     ·exact⟨rfl,λl' h=>by cases h;exact hl⟩
     ·exact⟨rfl,λl' h=>by cases h⟩
    |none=>
     simp only;split
     ·refine⟨by simp[gM],λl' h=>?_⟩;cases h;intro b hb;rcases mem_append.1 hb with hb|hb
      ·exact hl b hb
      ·simp only[mem_singleton]at hb;subst hb;exact ht
     ·exact⟨rfl,λl' h=>by cases h⟩
theorem BL:∀{ts:List Test} {s:Sym} {l:List aO.Bind},(∀t∈ts,nm t.var)->Gy l->eM (ts.map (jv r)) s (l.map (gM r))=(eM ts s l).map (List.map (gM r))/\∀l',eM ts s l=some l'->Gy l'
 |[],s,l,_,hl=>⟨rfl,λl' h=>by cases h;exact hl⟩
 |t::ts,s,l,ht,hl=>by
  obtain⟨h1,h2⟩:=Mh hr (s:=s) (ht t (by simp)) hl
  simp only[map_cons,eM];rw[h1];cases hm:met t s l with
  |none=>exact⟨rfl,λl' h=>by cases h⟩
  |some l1=>exact BL (λt' h=>ht t' (by simp[h])) (h2 l1 hm)
theorem Ed{c:ae}{e:aj}{l:List aO.Bind}(hc:Vc c)(hl:Gy l):cH (fi r c) e (l.map (gM r))=(cH c e l).map (List.map (gM r))/\∀l',cH c e l=some l'->Gy l':=by
 obtain⟨c1,c2,c3,_⟩:=(Rb c).1 hc;rw[zD];unfold cH;show(if(c.kind=1\/c.kind=2)/\(c.goal=true->e.goal=true)/\c.acc=e.acc then(met (fR (r c.id)) e.id (l.map (gM r))).bind λl1=>(eM (c.attr.map (jv r)) e.attr l1).bind λl2=>eM (c.value.map (jv r)) e.value l2 else none)=_/\_;split
 ·obtain⟨a1,a2⟩:=Mh hr (t:=fR c.id) (s:=e.id) c1 hl;have ei:jv r (fR c.id)=fR (r c.id):=rfl;rw[<- ei,a1];cases hm:met (fR c.id) e.id l with
  |none=>exact⟨rfl,λl' h=>by cases h⟩
  |some l1=>
   simp only[map_some,bind_some];obtain⟨b1,b2⟩:=BL hr (s:=e.attr) c2 (a2 l1 hm);rw[b1];cases rH:eM c.attr e.attr l1 with
   |none=>exact⟨rfl,λl' h=>by cases h⟩
   |some l2=>
    simp only[map_some,bind_some];exact BL hr (s:=e.value) c3 (b2 l2 rH)
 ·exact⟨rfl,λl' h=>by cases h⟩
theorem wL{c:ae}{l:List aO.Bind}(es:List aj)(hc:Vc c)(hl:Gy l):aP (fi r c) (l.map (gM r)) es=(aP c l es).map (λx=>(x.1,x.2.map (gM r)))/\∀x∈aP c l es,Gy x.2:=by
 unfold aP;constructor
 ·rw[List.map_filterMap];congr 1;funext e;rw[(Ed hr (e:=e) hc hl).1];cases cH c e l<;>rfl
 ·intro x hx;obtain⟨e,_,he⟩:=List.mem_filterMap.1 hx;obtain⟨l',h1,rfl⟩:=Option.map_eq_some_iff.1 he;exact(Ed hr (e:=e) hc hl).2 l' h1
mutual
theorem MF(es:List aj):∀(c:ae) (b:List aO.Bind),Vc c->Gy b->iu es (fi r c) (b.map (gM r))=(iu es c b).map (List.map (gM r))/\∀x∈iu es c b,Gy x
 | .mk k g i a v ac cs,b,hc,hb=>by
   obtain⟨s1,s2⟩:=wL hr es hc hb
   have nN:tu cs:=((Rb _).1 hc).2.2.2;have ho:=L_ es cs [b] nN (λx hx=>by simp only[mem_singleton]at hx;subst hx;exact hb);rw[jD,jD];have k1:(fi r (.mk k g i a v ac cs)).kind=k:=rfl;have k2:(fi r (.mk k g i a v ac cs)).conds=Cu r cs:=rfl;rw[k1,k2];show(if k=1 then _ else if k=2 then _ else _)=List.map _ (if k=1 then _ else if k=2 then _ else(if(iz es cs [b]).isEmpty=true then[b]else[]))/\∀x∈(if k=1 then _ else if k=2 then _ else(if(iz es cs [b]).isEmpty=true then[b]else[])),Gy x;have eo:(iz es (Cu r cs) [b.map (gM r)]).isEmpty=(iz es cs [b]).isEmpty:=by
    have:=ho.1;simp only[map_cons,map_nil]at this;rw[this,isEmpty_map]
   rw[s1,eo];by_cases h1:k=1
   ·rw[if_pos h1,if_pos h1];refine⟨by rw[map_map,map_map];rfl,λx hx=>?_⟩;obtain⟨y,hy,rfl⟩:=mem_map.1 hx;exact s2 y hy
   ·rw[if_neg h1,if_neg h1];have one:∀q:Bool,(if q=true then[b.map (gM r)]else[])=List.map (List.map (gM r)) (if q=true then[b]else[])/\∀x∈(if q=true then[b]else[]),Gy x:=λq=>by
     cases q with
     |true=>exact⟨rfl,λx hx=>by simp at hx;subst hx;exact hb⟩
     |false=>exact⟨rfl,λx hx=>by simp at hx⟩
    by_cases h2:k=2
    ·rw[if_pos h2,if_pos h2,isEmpty_map];exact one _
    ·rw[if_neg h2,if_neg h2];exact one _
theorem L_(es:List aj):∀(cs:List ae) (rows:List (List aO.Bind)),tu cs->(∀b∈rows,Gy b)->iz es (Cu r cs) (rows.map (List.map (gM r)))=(iz es cs rows).map (List.map (gM r))/\∀x∈iz es cs rows,Gy x
 |[],rows,_,hb=>⟨rfl,hb⟩
 |c::cs,rows,hc,hb=>by
  have ZN:Vc c:=nH.1 hc c (by simp)
  have hc2:tu cs:=nH.2 λx hx=>nH.1 hc x (by simp[hx]);have hg:=λb hb=>MF es c b ZN hb;simp only[iz,Cu];have e:(rows.map (List.map (gM r))).flatMap (λb=>iu es (fi r c) b)=(rows.flatMap λb=>iu es c b).map (List.map (gM r)):=by
   rw[flatMap_map,map_flatMap];exact Br λb hbm=>(hg b (hb b hbm)).1
  rw[e];refine L_ es cs _ hc2 λx hx=>?_;obtain⟨b,GD,hx⟩:=mem_flatMap.1 hx;exact(hg b (hb b GD)).2 x hx
end
theorem Nw(es:List aj){c:ae}{ts:List bR}(hc:Vc c)(hb:∀t∈ts,Gy t.binds):stepT es (fi r c) (ts.map λt=>⟨t.tags,t.binds.map (gM r)⟩)=(stepT es c ts).map (λt=>⟨t.tags,t.binds.map (gM r)⟩)/\∀t∈stepT es c ts,Gy t.binds:=by
 have hk:(fi r c).kind=c.kind:=by cases c;rfl
 unfold stepT;rw[hk];by_cases h1:c.kind=1
 ·simp only[h1,if_true];constructor
  ·rw[flatMap_map,map_flatMap];refine Br λt ht=>?_;rw[(wL hr es hc (hb t ht)).1,map_map,map_map];rfl
  ·intro t ht;obtain⟨t0,h0,ht⟩:=mem_flatMap.1 ht;obtain⟨x,hx,rfl⟩:=mem_map.1 ht;exact(wL hr es hc (hb t0 h0)).2 x hx
 ·rw[if_neg h1,if_neg h1];constructor
  ·rw[List.filter_map];congr 1;refine List.filter_congr λt ht=>?_;show(!(iu es (fi r c) (t.binds.map (gM r))).isEmpty)=_;rw[(MF hr es c t.binds hc (hb t ht)).1,isEmpty_map]
  ·intro t ht;exact hb t (mem_filter.1 ht).1
theorem Nr(es:List aj)(l:List ae)(hl:tu l):az es (l.map (fi r))=(az es l).map (λt=>⟨t.tags,t.binds.map (gM r)⟩):=by
 have key:∀(l:List ae) (ts:List bR),tu l->(∀t∈ts,Gy t.binds)->(l.map (fi r)).foldl (λts c=>stepT es c ts) (ts.map λt=>⟨t.tags,t.binds.map (gM r)⟩)=(l.foldl (λts c=>stepT es c ts) ts).map (λt=>⟨t.tags,t.binds.map (gM r)⟩):=by
  intro l;induction l with
  |nil=>intro ts _ _;rfl
  |cons c l ih=>
   intro ts hc hb;obtain⟨h1,h2⟩:=Nw hr es (nH.1 hc c (by simp)) hb;simp only[map_cons,foldl_cons];rw[h1];exact ih _ (nH.2 λx hx=>nH.1 hc x (by simp[hx])) h2
 exact key l [Co] hl (λt ht=>by simp only[mem_singleton]at ht;subst ht;intro b hb;cases hb)
theorem NI{es:List aj}(hn:HB es){l:List ae}(hl:tu l):(gH (az es (l.map (fi r)))).map bR.tags=(gH (az es l)).map bR.tags:=by
 let g:bR->bR:=λt=>⟨t.tags,t.binds.map (gM r)⟩;have aZ:=jL hn l;obtain⟨h1,h2⟩:=lE aZ;have e:(gH (az es l)).map g=gH (az es (l.map (fi r))):=by
  refine Hc (jL hn _) ?_ λy=>?_
  ·exact pairwise_map.2 h1
  ·rw[Nr hr es l hl,mem_map,mem_map];constructor
   ·rintro⟨t,ht,rfl⟩;exact⟨t,(h2 t).1 ht,rfl⟩
   ·rintro⟨t,ht,rfl⟩;exact⟨t,(h2 t).2 ht,rfl⟩
 rw[<- e,map_map];rfl
end
theorem YH(f g:Fl)(l m:List Int)(hl:l.length<=1000000000):dU 46 [.list 1 f (l.map gV),.list 1 g (m.map gV)] (l=m):=by
 refine av.of (wu.c (ab.mk (λh=>dU.no (DF h)) (λh=>?_)));refine qQ (l:=l) (m:=m) (n:=l.length) rfl (yN h) (by omega) (λk hk cj u next hy dc=>?_) (λu next e=>ab.f (by simp) (dU.yes e));exact ab.t (by simpa using hk) ⟨by omega,_,aH hk,_,rfl,by omega,_,aH cj,_,rfl,ab.mk (λh=>dU.no (dc λe=>by rw[e]at h;simp at h)) (λh=>hy (by simpa using h) _)⟩
theorem acH{a b:Mt}(h1:a.name=b.name)(h2:a.tags=b.tags):a=b:=by cases a;cases b;simp_all
theorem QF(f g:Fl)(l m:List Mt)(hl:l.length<=1000000000)(ht:∀x∈l,x.tags.length<=1000000000):dU 15 [.list 2 f (l.map Mt.pv),.list 2 g (m.map Mt.pv)] (l=m):=by
 refine av.of (rj.c (ab.mk (λh=>dU.no (DF h)) (λh=>?_)));refine qQ (l:=l) (m:=m) (n:=l.length) rfl (yN h) (by omega) (λk hk cj u next hy dc=>?_) (λu next e=>ab.f (by simp) (dU.yes e));refine ab.t (by simpa using hk) ⟨by omega,_,aH hk,_,rfl,by omega,_,aH cj,_,rfl,ab.mk (λh=>dU.no (dc λe=>?_)) (λh=>⟨by omega,_,aH hk,_,_,rfl,by omega,_,aH cj,_,_,rfl,?_⟩)⟩
 ·rw[e,fE]at h;cases h
 ·have hn:l[k].name=m[k].name:=bD.1 (nt h);exact(YH .sh .sh _ _ (ht _ (getElem_mem hk))).call (λe=>⟨_,rfl,ab.f rfl (hy (acH hn e) _)⟩) (λaZ=>⟨_,rfl,ab.t rfl (dU.no (dc λe=>aZ (by rw[e])))⟩)
def Ro(p:Prod):Prop:=bW p.conds/\ah p.conds<=50/\p.bh.length<=50
theorem La(f:Fl)(l:List cN)(hl:l.length<=1000000):Pure prog 40 [.list 19 f (l.map cN.pv)] (.list 19 .sh (l.map cN.pv)):=by
 refine av.of (mB.c ?_);exact aW.PN (by trivial) (by simp;omega) (by simp;omega) λf1 μ1 t1=>rfl
theorem BD(f1 f2:Fl)(p:Prod)(h:Ro p):Pure prog 9 [.agg [pS p.name,.list 7 f1 (p.conds.map ae.pv),.list 19 f2 (p.bh.map cN.pv)]] (.agg [pS p.name,.list 7 .sh (p.conds.map ae.pv),.list 19 .sh (p.bh.map cN.pv)]):=by
 obtain⟨h1,h2,h3⟩:=h;refine av.of (pW.c ?_);refine(KZ _ f1 p.conds (le_refl _) (by omega) h1).q ⟨_,_,rfl,?_⟩;refine(La f2 p.bh (by omega)).q ⟨_,_,rfl,?_⟩;rfl
theorem Ti{fn:Fn}{a b:List PV}{A:aX}{l:List Mt}(hs:Gf prog (.fn fn a b) (l.map λm=>[.agg m.pv]) A)(hl:l.length<=1000000){L:List aX}{μ:Mem}(hO:Ow (A::L) μ){K:Kq}(hk:∀f μ',Ow (A::L) μ'->K (.list 2 f (l.map Mt.pv)) μ'):
  aa prog 13 [.fn fn a b] μ K:=by
 refine k_.c λb3 DU=>?_;have O1:=mq.new (hO.new 54 [.list 2 .nil []] DU);refine bu.acB hs (Ow.swap O1) (λk u=>Ow (mq b3 54 2 ((l.take k).map Mt.pv)::L) u) (λ_ _=>False) (λk=>eJ.own _) (λ_ _ _ _ h=>h.elim) (λμ' h'=>h') ?_ ?_ (λc u h=>?_)
 ·rintro k eT u R h2 bX _;have cj:k<l.length:=by simpa using eT
  rw[getElem_map];refine⟨_,_,_,rfl,?_⟩;refine mq.go 0 h2 rfl (by simp;omega) (by simp;omega) λu4 h4=>bX _ ?_;rw[eV cj];exact h4
 ·intro u h;rw[length_map]at h;have h2:Ow (A::mq b3 54 2 ((l.take l.length).map Mt.pv)::L) u:=h.tail λ_ h=>h.US;rw[take_length]at h2;obtain⟨f,hf⟩:=mq.rd 1 h2 rfl;dsimp only[PK];exact⟨_,_,hf,hk f u (h2.tail λ_ h=>h.drop)⟩
 ·obtain⟨_,_,_,_,_,_,_,_,_,h,_⟩:=h;exact h.elim
def LZ(B:Int)(es:List aj)(l:List ae):Bool:=(range l.length).any λi=>(range (aN (l[i]?.getD GI))).any λj=>decide (B<((dB es (l[i]?.getD GI) (az es (l.take i)) j:Nat):Int))
theorem DA{B:Int}(hB:0<=B){es:List aj}{l:List ae}:LZ B es l=true↔dz B es l:=by
 unfold LZ dz;rw[any_eq_true];constructor
 ·rintro⟨i,hi,h⟩;have xt:=mem_range.1 hi;obtain⟨j,hj,h2⟩:=any_eq_true.1 h;rw[getElem?_eq_getElem xt]at h2;exact⟨i,xt,j,by simpa using h2⟩
 ·rintro⟨i,hi,j,h⟩;refine⟨i,mem_range.2 hi,any_eq_true.2 ⟨j,?_,?_⟩⟩
  ·rw[getElem?_eq_getElem hi];refine mem_range.2 ?_;by_cases hj:j<aN l[i]
   ·exact hj
   ·rw[SN es l[i] _ (by omega)]at h;omega
  ·rw[getElem?_eq_getElem hi];simpa using h
theorem OV(t:ByteArray):Pure prog 29 [pS t] (.agg [pI 3,pS t,pI 0]):=av.of (zq.c rfl)
theorem aaq(k:Int):Pure prog 31 [pI k] (.agg [pI 2,pS ⟨#[]⟩,pI k]):=av.of (zr.c rfl)
theorem aiC(t:ByteArray)(k:Int):Pure prog 30 [pS t,pI k] (.agg [pI 1,pS t,pI k]):=av.of (zt.c rfl)
def wS(t:ByteArray):Sym:=⟨3,t,0⟩
def nS(k:Int):Sym:=⟨2,⟨#[]⟩,k⟩
def iS(t:ByteArray)(k:Int):Sym:=⟨1,t,k⟩
def CQ(v:ByteArray)(s:Sym):List Test:=[⟨1,v,s,[]⟩]
theorem MW(v:ByteArray)(s:Sym):Pure prog 28 [pS v,.agg s.pv] (.list 6 .sh ((CQ v s).map Test.pv)):=av.of (ye.c rfl)
def Pu:Prod:=⟨⟨#[97]⟩,[.mk 1 true ⟨#[115]⟩ (CQ ⟨#[]⟩ (wS ⟨#[120]⟩)) (CQ ⟨#[118]⟩ ⟨0,⟨#[]⟩,0⟩) false [],.mk 2 false ⟨#[115]⟩ (CQ ⟨#[]⟩ (wS ⟨#[121]⟩)) (CQ ⟨#[118]⟩ ⟨0,⟨#[]⟩,0⟩) false []],[⟨⟨#[115]⟩,⟨⟨#[]⟩,wS ⟨#[122]⟩⟩,⟨0,⟨⟨#[118]⟩,⟨0,⟨#[]⟩,0⟩⟩,⟨⟨#[]⟩,⟨0,⟨#[]⟩,0⟩⟩⟩,1,⟨⟨#[]⟩,⟨0,⟨#[]⟩,0⟩⟩⟩]⟩
def Jr:List aj:=[⟨iS ⟨#[83]⟩ 1,wS ⟨#[120]⟩,nS 1,false,true,1⟩,⟨iS ⟨#[83]⟩ 1,wS ⟨#[120]⟩,nS 2,false,true,2⟩,⟨iS ⟨#[83]⟩ 1,wS ⟨#[121]⟩,nS 2,false,true,3⟩]
theorem bV:(bQ Pu).2.1=0:=by kernel_rfl
theorem yX:LZ 10 [] Pu.conds=false:=by kernel_rfl
theorem wk3:LZ 10 Jr Pu.conds=false:=by kernel_rfl
theorem wk4:cW [] []+(az [] Pu.conds).length=0:=by kernel_rfl
theorem wk5:cW Jr [Pu]=1:=by kernel_rfl
theorem wk6:allM Jr [Pu]=[⟨⟨#[97]⟩,[1]⟩]:=by kernel_rfl
theorem wkL:bW Pu.conds:=by
 refine⟨⟨by decide,by decide,by decide,?_,?_,trivial⟩,⟨by decide,by decide,by decide,?_,?_,trivial⟩,trivial⟩<;>intro t ht<;>simp[CQ]at ht<;>subst ht<;>exact⟨by decide,by decide,by decide⟩
theorem wk7:vz Jr:=by
 intro e he;simp only[Jr,mem_cons,not_mem_nil,or_false]at he;rcases he with rfl|rfl|rfl<;>exact⟨by kernel_rfl,by decide⟩
theorem wk8:bY au aD Jr:=by
 refine Pairwise.cons ?_ (Pairwise.cons ?_ (Pairwise.cons ?_ Pairwise.nil))<;>intro e he<;>simp only[mem_cons,not_mem_nil,or_false]at he
 ·rcases he with rfl|rfl<;>decide
 ·subst he;decide
theorem wk9:(Jr.map aD).Nodup:=jy wk8
theorem ab7{B M:Int}(hB:B=10)(hM:M=10){e:Int}{Gw:List Prod}(h:rm B M [] [] Pu e Gw):e=0/\Gw=[Pu]:=by
 subst hB hM;cases h with
 |form h=>exact absurd bV h
 |there _ h2=>cases h2
 |dO _ _ h3=>
  have:=(DA (by omega)).2 h3;rw[yX]at this;cases this
 |eb _ _ _ h4=>rw[wk4]at h4;simp at h4
 |ok=>exact⟨rfl,rfl⟩
theorem ab6{B M:Int}(hB:B=10)(hM:M=10){e:Int}{pK:List aj}(h:mj B M [] [Pu] Jr [] e pK):e=0/\pK=Jr:=by
 subst hB hM;have hd:eW [] []:=⟨List.nodup_nil,by simp⟩;have ha:eN [] Jr []:=⟨wk9,by simp⟩;have hn:vV [] Jr [] Jr:=⟨wk8,by simp⟩;cases h with
 |form h=>exact absurd wk7 h
 |none _ h=>exact absurd hd h
 |there _ _ h=>exact absurd ha h
 |dO _ _ _ pK h4 h5=>
  have:=h4.uniq hn;subst this;obtain⟨q,hq,ho⟩:=h5;simp only[mem_singleton]at hq;subst hq;have:=(DA (by omega)).2 ho;rw[wk3]at this;cases this
 |eb _ _ _ pK h4 _ h6=>
  have:=h4.uniq hn;subst this;rw[wk5]at h6;simp at h6
 |ok _ _ _ pK h4=>exact⟨rfl,h4.uniq hn⟩
theorem SU:Pure prog 7 [] (pB true):=by
 refine av.of (so.c ?_);refine XW 10 10 (L:=[]) trivial (λh=>absurd (by omega) h) λ_ n x u hT hM h1=>⟨_,_,rfl,ab.f rfl (ab.f rfl ?_)⟩;refine(OV _).call ⟨_,_,_,rfl,(MW _ (wS _)).call ⟨_,_,rfl,(MW _ ⟨0,⟨#[]⟩,0⟩).call ⟨_,_,rfl,(OV _).call ⟨_,_,_,rfl,(MW _ (wS _)).call ⟨_,_,rfl,(MW _ ⟨0,⟨#[]⟩,0⟩).call ⟨_,_,rfl,(OV _).call ⟨_,_,_,rfl,(aiC _ _).call ⟨_,_,_,rfl,?_⟩⟩⟩⟩⟩⟩⟩⟩;refine(OV _).q ⟨_,_,_,rfl,?_⟩;refine(aaq _).q ⟨_,_,_,rfl,?_⟩;refine(OV _).q ⟨_,_,_,rfl,?_⟩;refine(aaq _).q ⟨_,_,_,rfl,?_⟩;refine(OV _).q ⟨_,_,_,rfl,?_⟩;refine(aaq _).q ⟨_,_,_,rfl,?_⟩;simp only[Mem.mJ];refine XX (by omega) .sh .sh Pu wkL (by decide) (by decide) h1 λe Gw u2 CJ h2=>⟨_,rfl,?_⟩;obtain⟨rfl,rfl⟩:=ab7 hT hM CJ;refine IC (by omega) .nr .nil Jr [] (by decide) (by decide) (by decide) (λe he=>?_) h2 λe pK u3 ahI h3=>⟨_,rfl,?_⟩
 ·simp only[Jr,mem_cons,not_mem_nil,or_false]at he;rcases he with rfl|rfl|rfl<;>decide
 obtain⟨rfl,rfl⟩:=ab6 hT hM ahI;refine(aer n).call ⟨_,_,_,rfl,Ti (l:=allM Jr [Pu]) (Uz (by omega)) (by rw[wk6];decide) h3 λf u4 h4=>⟨_,_,rfl,ab.t rfl (ab.t rfl ?_)⟩⟩;rw[wk6];exact ab.t rfl ⟨by omega,_,rfl,_,_,rfl,ab.t rfl ⟨by omega,_,rfl,_,_,rfl,by omega,_,rfl,_,rfl,rfl⟩⟩
end Go.Proofs.YthaeiehophlooaaGreat
