import Derived.Test.YthaeiehophlooaaGreatB10
open List (Perm.refl append_assoc append_inj' append_nil append_of_mem count_append count_cons filter_append filter_cons filter_eq_self flatMap_append flatMap_cons flatten getElem?_eq_getElem getElem_map getElem_mem isEmpty_iff length_append length_cons length_map length_nil length_take map_append map_cons map_nil mem_append mem_filter mem_map mem_singleton nodup_append nodup_cons range sum_cons take take_add_one take_length take_zero)
open Nat (add_assoc le_refl)
set_option linter.all false
namespace Go.aO
open Go.RowKit
def mq(b:Nat)(T:TypeId)(sz:Nat)(rows:Lq):aX:=λμ=>∃f,Ow [Pt b T [.list sz f rows],fB f rows.length sz] μ
theorem mq.new{b:Nat}{T:TypeId}{sz:Nat}{L:List aX}{μ:Mem}(h:Ow (Pt b T [.list sz .nil []]::L) μ):Ow (mq b T sz []::L) μ:=by
 have h1:Ow ([Pt b T [.list sz .nil []],fB .nil 0 sz]++L) μ:=h.tail λ_ h=>h.nil (.inl rfl);exact h1.pack.imp λ_ h=>⟨.nil,h⟩
theorem mq.rd{L:List aX}{μ:Mem}(i:Nat){b:Nat}{T:TypeId}{sz:Nat}{rows:Lq}(hO:Ow L μ)(hi:L[i]?=some (mq b T sz rows)):∃f,ay μ b 0 1=some [.list sz f rows]:=by
 obtain⟨f,h⟩:=Ow.ex (Ow.at i hi hO);exact⟨f,(h.nest (L1:=[Pt b T [.list sz f rows],fB f rows.length sz])).rd 0 rfl (by simp)⟩
theorem mq.go{L:List aX}{μ:Mem}(i:Nat){b:Nat}{T:TypeId}{sz bytes:Nat}{rows new:Lq}{K:Mem->Prop}(hO:Ow L μ)(hi:L[i]?=some (mq b T sz rows))(hb:(rows.length+new.length)*bytes<=140737488355328)(pY:rows.length+new.length<4611686018427387904)
  (hk:∀μ',Ow (L.set i (mq b T sz (rows++new))) μ'->K μ'):∃(f:Fl) (rs:Lq),ay μ b 0 1=some [.list sz f rs]/\aW false sz bytes f rs new μ λf' u=>stM b 0 [.list sz f' (rs++new)] u λu'=>K u':=by
 obtain⟨f,h⟩:=Ow.ex (Ow.at i hi hO);have h1:Ow (Pt b T [.list sz f rows]::fB f rows.length sz::L.eraseIdx i) μ:=h.nest (L1:=[Pt b T [.list sz f rows],fB f rows.length sz]);refine⟨f,rows,h1.rd 0 rfl (by simp),Ow.app h1.swap rfl hb pY λf' u h2=>?_⟩;refine h2.st 1 rfl (by simp) λu' h3=>hk u' (Ow.back i (rG hi) ?_);have h4:Ow (fB f' (rows.length+new.length) sz::Pt b T [.list sz f' (rows++new)]::L.eraseIdx i) u':=h3;have h5:Ow ([Pt b T [.list sz f' (rows++new)],fB f' (rows++new).length sz]++L.eraseIdx i) u':=by
  rw[length_append];exact h4.swap
 exact h5.pack.imp λ_ h=>⟨f',h⟩
theorem mq.end_{L:List aX}{μ:Mem}(i:Nat){b:Nat}{T:TypeId}{sz:Nat}{rows:Lq}(hO:Ow L μ)(hi:L[i]?=some (mq b T sz rows)):∃f,Ow (L.set i (Pt b T [.list sz f rows])) μ:=by
 obtain⟨f,h⟩:=Ow.ex (Ow.at i hi hO);have h1:Ow (Pt b T [.list sz f rows]::fB f rows.length sz::L.eraseIdx i) μ:=h.nest (L1:=[Pt b T [.list sz f rows],fB f rows.length sz]);exact⟨f,Ow.back i (rG hi) (h1.tail λ_ h=>h.drop)⟩
theorem Ow.aaM{L:List aX}{μ:Mem}{q:Bool}{size bytes:Nat}{rows new:Lq}{K:Fl->Mem->Prop}(hO:Ow L μ)(hb:(rows.length+new.length)*bytes<=140737488355328)(pY:rows.length+new.length<4611686018427387904)
  (hk:∀km μ',Ow L μ'->K km μ'):aW q size bytes .nr rows new μ K:=
 aW.go (fl:=.nr) trivial hb pY (λkm μ' _ h=>hk km μ' (hO.mono λb o hb=>(h b o hb id).1)) (λ_ b c h=>by cases h)
theorem Ow.af5{L:List aX}{μ:Mem}{b:Nat}{e:TypeId}{sz:Nat}{rows:Lq}(h:Ow (Pt b e rows.flatten::L) μ):Ow (cA e sz (.raw (.slice (some ⟨b,0,none⟩) rows.length rows.length)) rows::L) μ:=
 h.imp λν hν=>⟨[b],.inr ⟨b,rows.length,[],rfl,rfl,by rw[append_nil];exact hν,by simp,le_refl _⟩⟩
theorem cA.frz{e:TypeId}{sz:Nat}{p:PV}{rows:Lq}{L:List aX}{μ:Mem}(hO:Ow (cA e sz p rows::L) μ)(hr:∀r∈rows,r.length=sz)(hc:aQ rows.flatten=true):
  ∃(mZ:Mem) (bs:List Nat),(∀b o,mZ b=some o->μ b=some o/\b∉bs)/\Ow L mZ/\gf (λb=>if b∈bs then μ b else none) p (.list sz .sh rows):=by
 obtain⟨F,h,μ1,μ2,hs,rfl,hF,hL⟩:=cA.split hO;refine⟨μ2,F,λb o hb=>?_,hL,?_⟩
 ·have h1:μ1 b=none:=(hs b).resolve_right (by rw[hb];simp);exact⟨by rw[Mem.bI h1];exact hb,λhf=>hF b hf h1⟩
 ·have h2:vU e sz (λb=>if b∈F then(μ1.or μ2) b else none) p rows F:=h.same λx hx=>by simp[hx]
  exact h2.view hr hc
theorem aa.aiq{P:Program}{g:FuncId}{args:List PV}{μ:Mem}{K K':Kq}(h:aa P g args μ K)(hk:∀v μ',K v μ'->∃(v':PV) (mZ:Mem) (bs:List Nat),gf (λb=>if b∈bs then μ' b else none) v v'/\(∀b o,mZ b=some o->μ' b=some o/\b∉bs)/\K' v' mZ):aa P g args μ K':=
 h.freeze λv μ' hK=>by
  obtain⟨v',mZ,bs,h1,h2,h3⟩:=hk v μ' hK;refine⟨v',mZ,bs,λZ u r hg hr=>?_,h2,h3⟩;refine h1.rep (hg.sub λb o hb=>?_) hr;by_cases hm:b∈bs
  ·rw[if_pos hm]at hb;exact hb
  ·rw[if_neg hm]at hb;cases hb
def UR:List Nat->List aX->List aX
 |[],L=>L
 |i::is,L=>match L[i]? with|some A=>A::UR is (L.eraseIdx i)|none=>UR is L
theorem Ow.ord:∀(is:List Nat) {L:List aX} {μ:Mem},Ow L μ->Ow (UR is L) μ
 |[],_,_,h=>h
 |i::is,L,μ,h=>by
  unfold UR
  split
  ·rename_i A hA
   exact(Ow.at i hA h).tail λ_ h'=>Ow.ord is h'
  ·exact Ow.ord is h
theorem mq.open_{L:List aX}{μ:Mem}(i:Nat){b:Nat}{T:TypeId}{sz:Nat}{rows:Lq}(hO:Ow L μ)(hi:L[i]?=some (mq b T sz rows)):∃f,Ow (Pt b T [.list sz f rows]::fB f rows.length sz::L.eraseIdx i) μ:=by
 obtain⟨f,h⟩:=Ow.ex (Ow.at i hi hO);exact⟨f,h.nest (L1:=[Pt b T [.list sz f rows],fB f rows.length sz])⟩
theorem mq.shut{L:List aX}{μ:Mem}{b:Nat}{T:TypeId}{sz n:Nat}{f:Fl}{rows:Lq}(h:Ow (fB f n sz::Pt b T [.list sz f rows]::L) μ)(hn:n=rows.length):Ow (mq b T sz rows::L) μ:=by
 subst hn;have h5:Ow ([Pt b T [.list sz f rows],fB f rows.length sz]++L) μ:=h.swap;exact h5.pack.imp λ_ h=>⟨f,h⟩
theorem po{α:Type}(f:α->PV)(xs:List α):(xs.map λx=>[f x]).flatten=xs.map f:=by
 induction xs with
 |nil=>rfl
 |cons x xs ih=>simp only[map_cons,List.flatten_cons,ih];rfl
theorem cA.cut{α:Type}{f:α->PV}{e:TypeId}{xs:List α}{L:List aX}{μ:Mem}{a:Option Addr}{n c:Nat}(hO:Ow (cA e 1 (.raw (.slice a n c)) (xs.map λx=>[f x])::L) μ)(hf:∀x,(f x).cell=true){k:Nat}(hk:k<xs.length)(jX:xs.length<=1000000){K:Option Addr->Nat->Nat->Mem->Prop}
  (hK:∀μ',Ow (cA e 1 (.raw (.slice a (xs.length-1) c)) ((xs.eraseIdx k).map λx=>[f x])::L) μ'->K a (xs.length-1) c μ'):
  iq a/\n=xs.length/\n<=c/\gP 1 8 e (yZ a 0 c 1) k c (.raw (.slice (yZ a (k+1) c 1) (n-(k+1)) (c-(k+1)))) μ K:=by
 obtain⟨F,h,DQ⟩:=cA.split hO;rcases h with⟨_,h2,_⟩|⟨b,c',rest,h1,rfl,hb,hl,hc⟩
 ·have:=congrArg List.length h2;simp at this;subst this;simp at hk
 ·rw[length_map]at h1 hl hc;obtain⟨rfl,rfl,rfl⟩:a=some ⟨b,0,none⟩/\n=xs.length/\c=c':=by
   simp only[PV.raw.injEq,Value.slice.injEq]at h1;exact h1
  rw[po]at hb;refine⟨λy hy=>by cases hy;rfl,rfl,hc,?_⟩;have e0:yZ (some ⟨b,0,none⟩) 0 c 1=some ⟨b,0,none⟩:=by
   unfold yZ;split
   ·rfl
   ·simp
  obtain⟨o,ho,e1⟩:∃o,(o=k+1\/(o=0/\xs.length=k+1))/\yZ (some ⟨b,0,none⟩) (k+1) c 1=some ⟨b,o,none⟩:=by
   unfold yZ;by_cases e:c=k+1
   ·rw[if_pos e];exact⟨0,.inr ⟨rfl,by omega⟩,rfl⟩
   ·rw[if_neg e];exact⟨k+1,.inl rfl,by simp⟩
  rw[e0,e1];have hlen:(xs.map f++rest).length=c:=by simp;omega
  have her:(xs.eraseIdx k).length=xs.length-1:=by rw[List.length_eraseIdx,if_pos hk]
  have Zf:xs=xs.take k++xs[k]::xs.drop (k+1):=by simp
  have adJ:xs.eraseIdx k=xs.take k++xs.drop (k+1):=List.eraseIdx_eq_take_drop_succ xs k;refine⟨((xs.map f++rest).drop o).take ((xs.length-(k+1))*1),aI hb (by rw[hlen];rcases ho with rfl|⟨rfl,h⟩<;>omega),by omega,by omega,by omega,?_⟩;by_cases hm:xs.length-(k+1)=0
  ·left;refine⟨hm,λ_=>⟨b,0,_,rfl,aI hb (by rw[hlen];omega)⟩,?_⟩;have hke:k=xs.length-1:=by omega
   have:K (some ⟨b,0,none⟩) (xs.length-1) c μ:=by
    refine hK μ ?_;refine Ow.mv (A:=λ_=>True) DQ (Mv.refl _ _) λν hν=>⟨[b],.inr ⟨b,c,f xs[k]::rest,by rw[length_map,her],rfl,?_,?_,?_⟩⟩
    ·rw[hν b (by simp),hb,po,adJ];have hd:xs.drop (k+1)=[]:=List.drop_eq_nil_of_le (by omega);rw[hd,append_nil]
     conv=>lhs;rw[Zf,hd]
     rw[map_append,append_assoc];rfl
    ·rw[length_map,her,length_cons];omega
    ·rw[length_map,her];omega
   rw[<- hke]at this;exact this
  ·right;have aG:o=k+1:=by rcases ho with h|⟨_,h⟩<;>omega
   subst aG;have jB:((xs.map f++rest).drop (k+1)).take ((xs.length-(k+1))*1)=(xs.drop (k+1)).map f:=by
    rw[List.drop_append_of_le_length (by simp;omega),Nat.mul_one,List.take_append_of_le_length (by simp),<- List.map_drop,List.take_of_length_le (by simp)]
   rw[jB];refine⟨hm,?_,λ_=>⟨b,0,_,_,rfl,hb,by rw[hlen];omega,?_⟩,λh=>by omega⟩
   ·rw[aQ,List.all_eq_true];intro p hp;obtain⟨x,_,rfl⟩:=mem_map.1 hp;exact hf x
   ·have ekm:k+(xs.length-(k+1))=xs.length-1:=by omega
    rw[ekm];refine hK _ (Ow.mv (A:=λ_=>True) DQ (Mv.set (.inl (by simp))) λν hν=>⟨[b],.inr ⟨b,c,((xs.map f).drop (xs.length-1))++rest,by rw[length_map,her],rfl,?_,?_,?_⟩⟩)
    ·rw[hν b (by simp),Mem.an,po,adJ];congr 2;unfold dy;rw[Nat.zero_add,Nat.mul_one,List.take_append_of_le_length (by simp;omega),length_map,List.length_drop,List.drop_append_of_le_length (by simp;omega),ekm,map_append,List.map_take,append_assoc]
    ·rw[length_map,her,length_append,List.length_drop,length_map];omega
    ·rw[length_map,her];omega
theorem ao.aeh{γ:Type}{body:(Int->γ->Prop)->Int->γ->Prop}{u:γ}(n:Nat)(I:Nat->γ->Prop)(h0:I n u)
  (fT:∀(k:Nat) (u:γ) (next:Int->γ->Prop),k<n->I (k+1) u->(∀u',I k u'->next ((k:Int)-1) u')->body next (k:Int) u) (fL:∀(u:γ) (next:Int->γ->Prop),I 0 u->body next (-1) u):ao body ((n:Int)-1) u:=by
 refine⟨λm s u=>s=(m:Int)-1/\m<=n/\I m u,⟨n,rfl,le_refl _,h0⟩,?_⟩;rintro m s u ⟨rfl,hm,hI⟩;cases m with
 |zero=>exact fL u _ hI
 |succ k=>
  have e:((k+1:Nat):Int)-1=(k:Int):=by omega
  rw[e];exact fT k u _ (by omega) hI λu' dK=>⟨k,by omega,rfl,by omega,dK⟩
end Go.aO
namespace Go.Proofs.YthaeiehophlooaaGreat
open Go.Proofs.Tryz Go.aO Go.RowKit K6
theorem vb(X Y L:List aX){μ:Mem}(h:Ow (X++(Y++L)) μ):Ow (Y++(X++L)) μ:=h.perm (by
 rw[<- append_assoc,<- append_assoc]
 exact List.perm_append_comm.append_right L)
@[reducible] def acw(b:List aO.Bind):List PV:=[.list 4 .sh (b.map Bind.pv)]
def fY(rows:List (List aO.Bind)):Lq:=rows.map acw
mutual
def kt(ms:dj)(aB:List Int):Nat->ae->Prop
 |at_,.mk k g i a v ac cs=>at_<aB.length/\(if k=1\/k=2 then(∀h:at_<aB.length,dH ms aB[at_] (.mk k g i a v ac cs))/\i≠⟨#[]⟩else vE ms aB (at_+1) cs)
def vE(ms:dj)(aB:List Int):Nat->List ae->Prop
 |_,[]=>True
 |at_,c::cs=>kt ms aB at_ c/\vE ms aB (at_+aN c) cs
end
theorem vF(ms:dj)(aB:List Int)(a:Nat)(c:ae):kt ms aB a c↔a<aB.length/\(if c.kind=1\/c.kind=2 then(∀h:a<aB.length,dH ms aB[a] c)/\c.id≠⟨#[]⟩else vE ms aB (a+1) c.conds):=by cases c;rfl
theorem It{ms:dj}{aB:List Int}:∀{l:List ae} {a i:Nat} (hi:i<l.length),vE ms aB a l->kt ms aB (a+ah (l.take i)) l[i]
 |c::cs,a,0,_,h=>by simpa[ah]using h.1
 |c::cs,a,i+1,hi,h=>by
  have:=It (l:=cs) (a:=a+aN c) (i:=i) (by simpa using hi) h.2
  simp only[List.take_succ_cons,ah,List.getElem_cons_succ];rw[<- add_assoc];exact this
theorem PW{cv:Nat->Nat}{a m:Nat}{f:Nat->Nat}(h0:f 0=m)(h1:∀j,f (j+1)=0):mD cv a (cv a+m)=λj=>cv j+sh a f j:=by
 funext j;unfold mD sh;by_cases e:j=a
 ·subst e;rw[if_pos rfl,if_pos (le_refl _),Nat.sub_self,h0]
 ·rw[if_neg e];by_cases h:a<=j
  ·rw[if_pos h];obtain⟨q,hq⟩:∃q,j-a=q+1:=⟨j-a-1,by omega⟩;rw[hq,h1];rfl
  ·rw[if_neg h];rfl
mutual
def tp:ae->Prop
 | .mk k g i a v ac cs=>cU (.mk k g i a v ac cs)/\((k=1\/k=2)->i≠⟨#[]⟩)/\tn cs
def tn:List ae->Prop
 |[]=>True
 |c::cs=>tp c/\tn cs
end
theorem mL(c:ae):tp c↔cU c/\((c.kind=1\/c.kind=2)->c.id≠⟨#[]⟩)/\tn c.conds:=by cases c;rfl
theorem lH{l:List ae}:tn l↔∀c∈l,tp c:=by
 induction l with
 |nil=>simp[tn]
 |cons c l ih=>simp[tn,ih]
theorem ou{l:List ae}(h:tn l):bW l:=b_.2 λc hc=>((mL c).1 (lH.1 h c hc)).1
theorem Tx(rows:List (List aO.Bind)){k:Nat}(hk:k<rows.length):(fY rows)[Int.toNat (k:Int)]?=some (acw rows[k]):=aH hk
theorem Dt(a b:List (List aO.Bind)):fY (a++b)=fY a++fY b:=map_append
theorem iy(a:List (List aO.Bind)):(fY a).length=a.length:=length_map _
theorem xK{es:List aj}{c:ae}(b:List aO.Bind)(h:c.kind=1\/c.kind=2)(j:Nat):cC es c b (j+1)=0:=by rw[vQ,if_pos h]
theorem JJ(a:Nat)(es:List aj)(r:List (List aO.Bind))(j:Nat):sh a (cL es [] r) j=0:=by unfold sh;split<;>rfl
theorem Tr{es:List aj}{c:ae}{b:List aO.Bind}(h:¬(c.kind=1\/c.kind=2))(a j:Nat):sh a (cC es c b) j=(if j=a then(iu es c b).length else 0)+sh (a+1) (cL es c.conds [b]) j:=by
 unfold sh;by_cases e:j=a
 ·subst e;rw[if_pos (le_refl _),Nat.sub_self,oP,if_pos rfl,if_neg (by omega)];rfl
 ·rw[if_neg e];by_cases h1:a<=j
  ·rw[if_pos h1,if_pos (by omega)];obtain⟨q,hq⟩:∃q,j-a=q+1:=⟨j-a-1,by omega⟩;rw[hq,vQ,if_neg h,show j-(a+1)=q from by omega];omega
  ·rw[if_neg h1,if_neg (by omega)]
theorem GX{es:List aj}{c:ae}{rows:List (List aO.Bind)}{k:Nat}(hk:k<rows.length)(a j:Nat):sh a (du es c (rows.take (k+1))) j=sh a (du es c (rows.take k)) j+sh a (cC es c rows[k]) j:=by
 rw[<- JK];exact uN (λq=>Nv es c hk q) j
theorem Sw{α β:Type}{f:α->List β}{l:List α}{k:Nat}(hk:k<l.length):(l.take (k+1)).flatMap f=(l.take k).flatMap f++f l[k]:=by
 rw[take_add_one,getElem?_eq_getElem hk,flatMap_append];simp
section
variable {w:Nat} {W:WC} {x:NC} {es:List aj} {ms:dj} {ids:pQ}
theorem EU{b4 b7 b8 b9:Nat}{cv:Nat->Nat}{pa:PV}{B:aX}{L:List aX}{u:Mem}{R:Kq}
  (h:Ow (Pt w 226 W.pv::eI W cv::ak W.n x es ms ids::B::Pt b9 4 [pB false]::Pt b8 234 [.list 1 .nil []]::Pt b7 3 [pa]::Pt b4 224 [pP w 0]::L) u)
  (hR:∀μ',Ow (Pt w 226 W.pv::eI W cv::ak W.n x es ms ids::L) μ'->R (.aA [.list 1 .nil [],pB false]) μ'):
  stM b8 0 [(.list 1 .nil [])] u λWT=>stM b9 0 [(pB false)] WT λUj=>∃(r0f:Fl) (r0:Lq),ay Uj b8 0 1=some [(.list 1 r0f r0)]/\∃(r1:Bool),ay Uj b9 0 1=some [(pB r1)]/\R (.aA [(.list 1 r0f r0),(pB r1)]) Uj:=by
 refine h.st 5 rfl (by simp) λu1 h1=>h1.st 4 rfl (by simp) λu2 h2=>?_;refine⟨_,_,h2.rd 5 rfl (by simp[dy]),_,h2.rd 4 rfl (by simp[dy]),?_⟩;exact hR u2 (h2.tail λ_ h=>h.tail λ_ h=>h.tail λ_ h=>h.drop.drop.drop.drop.drop)
theorem cOn(hA:dx es ms)(hI:ji es ids)(hT:0<=x.T/\x.T<=1000000)(hN:W.aB.length=W.N):∀(n:Nat) (l:List ae) (f fl:Fl) (b:List aO.Bind) (a:Nat) (cv:Nat->Nat) {L:List aX} {μ:Mem},ah l<=n->tn l->vE ms W.aB a l->a+ah l<=1000->(∀j,((cv j:Nat):Int)<=x.T)->b.length+100*ah l<=900000->
  Ow (Pt w 226 W.pv::eI W cv::ak W.n x es ms ids::L) μ->∀{K:Kq},
  ((∀j,((cv j+sh a (cL es l [b]) j:Nat):Int)<=x.T)->∀f μ',Ow (Pt w 226 W.pv::eI W (λj=>cv j+sh a (cL es l [b]) j)::ak W.n x es ms ids::L) μ'->K (.aA [.list 1 f (fY (iz es l [b])),pB true]) μ')->
  ((∃j,x.T<((cv j+sh a (cL es l [b]) j:Nat):Int))->∀pL μ',Ow (Pt w 226 W.pv::eI W pL::ak W.n x es ms ids::L) μ'->K (.aA [.list 1 .nil [],pB false]) μ')->
  aa prog 118 [pP w 0,.list 7 f (l.map ae.pv),.list 4 fl (b.map Bind.pv),pI ((a:Nat):Int)] μ K:=by
 intro n;induction n using Nat.strongRecOn with
 |ind n ih=>
 intro l f fl b a cv L μ hs aG tM ha hcv hb hO K h1 h0;have sF:=c_ l;have Ku:=ou aG;obtain⟨hT0,hT1⟩:=hT;refine BT.c λb4 GC b7 Ih b8 OE b9 ZP=>?_;have O1:=(((hO.new 224 [pP w 0] GC).new 3 [pI ((a:Nat):Int)] Ih).new 234 [.list 1 .nil []] OE).new 4 [pB false] ZP;have O2:=vb [Pt b9 4 [pB false],Pt b8 234 [.list 1 .nil []],Pt b7 3 [pI ((a:Nat):Int)],Pt b4 224 [pP w 0]] [Pt w 226 W.pv,eI W cv,ak W.n x es ms ids] L O1;refine ao.dG (n:=l.length) (by omega) (λi s u=>s.2=fY (iz es (l.take i) [b])/\(iz es (l.take i) [b]).length<=1000001/\(∀j,((cv j+sh a (cL es (l.take i) [b]) j:Nat):Int)<=x.T)/\Ow (Pt w 226 W.pv::eI W (λj=>cv j+sh a (cL es (l.take i) [b]) j)::ak W.n x es ms ids::Pt b9 4 [pB false]::Pt b8 234 [.list 1 .nil []]::Pt b7 3 [pI ((a+ah (l.take i):Nat):Int)]::Pt b4 224 [pP w 0]::L) u) ⟨rfl,by simp[iz],λj=>?_,?_⟩ ?_ ?_
 ·rw[take_zero,JJ];exact hcv j
 ·have e:(λj=>cv j+sh a (cL es (l.take 0) [b]) j)=cv:=by funext j;rw[take_zero,JJ];rfl
  rw[e];exact O2
 ·rintro i ⟨fr,_⟩ u next hi ⟨rfl,hRl,hC,CK⟩ aw
  dsimp only;refine ab.t (by simpa using hi) ⟨by omega,_,aH hi,_,_,_,_,_,_,_,_,_,_,mU _,λCg Fy=>?_⟩;generalize hRi:iz es (l.take i) [b]=Ri at*
  generalize hai:a+ah (l.take i)=ai at*
  generalize hCi:(λj=>cv j+sh a (cL es (l.take i) [b]) j)=Ci at*
  have ad6:∀j,cv j+sh a (cL es (l.take i) [b]) j=Ci j:=λj=>by rw[<- hCi]
  simp only[ad6]at hC;have hc:tp l[i]:=lH.1 aG _ (getElem_mem hi);have hfc:kt ms W.aB ai l[i]:=by rw[<- hai];exact It hi tM
  have fH:ai+aN l[i]<=a+ah l:=by
   have h1:=mH hi;have h2:=gT l (i+1);omega
  have ac5:aN l[i]=1+ah l[i].conds:=bN _;obtain⟨iA,Sh,MC⟩:=(mL _).1 hc;obtain⟨KB,Fx⟩:=(vF ms W.aB ai l[i]).1 hfc;have hRb:∀r∈Ri,r.length<=b.length+100*ah (l.take i):=by
   rw[<- hRi];refine Ma (b_.2 λd hd=>b_.1 Ku d (List.mem_of_mem_take hd)) λr hr=>?_;simp only[mem_singleton]at hr;subst hr;exact le_refl _
  have fK:ah (l.take i)<=ah l:=gT l i;have adB:iz es (l.take (i+1)) [b]=Ri.flatMap λr=>iu es l[i] r:=by rw[QV es hi,hRi]
  have Sf:∀j,cv j+sh a (cL es (l.take (i+1)) [b]) j=Ci j+sh ai (du es l[i] Ri) j:=λj=>by
   rw[<- ad6 j,show sh a (cL es (l.take (i+1)) [b]) j=sh a (cL es (l.take i) [b]) j+sh ai (du es l[i] Ri) j from ?_]
   ·omega
   ·rw[uN (λq=>zM es hi [b] q),JK,WY,hai,hRi]
  have adF:∀j k,Ci j+sh ai (du es l[i] (Ri.take k)) j<=cv j+sh a (cL es l [b]) j:=λj k=>by
   have h2:sh ai (du es l[i] (Ri.take k)) j<=sh ai (du es l[i] Ri) j:=WZ (λq=>Uv es l[i] Ri k q) j;have h3:sh a (cL es (l.take (i+1)) [b]) j<=sh a (cL es l [b]) j:=WZ (λq=>aev es l (i+1) [b] q) j;have h4:=Sf j;omega
  have O4:=vb [mq Cg 234 1 []] [Pt w 226 W.pv,eI W Ci,ak W.n x es ms ids] _ (mq.new (CK.new 234 [.list 1 .nil []] Fy));refine ao.each (n:=Ri.length) (by omega) (λk u=>(∀j,((Ci j+sh ai (du es l[i] (Ri.take k)) j:Nat):Int)<=x.T)/\Ow (Pt w 226 W.pv::eI W (λj=>Ci j+sh ai (du es l[i] (Ri.take k)) j)::ak W.n x es ms ids::mq Cg 234 1 (fY ((Ri.take k).flatMap λr=>iu es l[i] r))::Pt b9 4 [pB false]::Pt b8 234 [.list 1 .nil []]::Pt b7 3 [pI ((ai:Nat):Int)]::Pt b4 224 [pP w 0]::L) u) ⟨λj=>?_,?_⟩ ?_ ?_
  ·have:sh ai (du es l[i] (Ri.take 0)) j=0:=by unfold sh;split<;>rfl
   rw[this];exact hC j
  ·have e:(λj=>Ci j+sh ai (du es l[i] (Ri.take 0)) j)=Ci:=by
    funext j;have:sh ai (du es l[i] (Ri.take 0)) j=0:=by unfold sh;split<;>rfl
    rw[this];rfl
   rw[e];exact O4
  ·intro k u1 mM hk ⟨hD,xx⟩ kq;have hbk:=hRb _ (getElem_mem hk);generalize hDf:(λj=>Ci j+sh ai (du es l[i] (Ri.take k)) j)=D at xx;have OG:∀j,Ci j+sh ai (du es l[i] (Ri.take k)) j=D j:=λj=>by rw[<- hDf]
   simp only[OG]at hD;have hFl:((((Ri.take k).flatMap λr=>iu es l[i] r).length:Nat):Int)<=x.T:=by
    have h2:=hD ai;rw[<- OG ai,Hf,wJ]at h2;omega
   have dS:∀u',(∀j,((D j+sh ai (cC es l[i] Ri[k]) j:Nat):Int)<=x.T)->Ow (Pt w 226 W.pv::eI W (λj=>D j+sh ai (cC es l[i] Ri[k]) j)::ak W.n x es ms ids::mq Cg 234 1 (fY ((Ri.take k).flatMap λr=>iu es l[i] r)++fY (iu es l[i] Ri[k]))::Pt b9 4 [pB false]::Pt b8 234 [.list 1 .nil []]::Pt b7 3 [pI ((ai:Nat):Int)]::Pt b4 224 [pP w 0]::L) u'->mM (IntKind.wrap .i64 ((k:Int)+1)) u':=λu' h2 h3=>by
    have e:(λj=>D j+sh ai (cC es l[i] Ri[k]) j)=λj=>Ci j+sh ai (du es l[i] (Ri.take (k+1))) j:=by
     funext j;rw[GX hk,<- OG j];omega
    refine kq u' ⟨λj=>?_,?_⟩
    ·rw[<- congrFun e j];exact h2 j
    ·rw[<- e,Sw hk,Dt];exact h3
   have Bk:(∃q,x.T<((D q+sh ai (cC es l[i] Ri[k]) q:Nat):Int))->∀pL μ',Ow (Pt w 226 W.pv::eI W pL::ak W.n x es ms ids::L) μ'->K (.aA [.list 1 .nil [],pB false]) μ':=λ⟨q,hq⟩=>h0 ⟨q,by
    have h2:=adF q (k+1)
    rw[GX hk]at h2
    have h3:=OG q
    omega⟩
   refine ab.t (by simpa[fY]using hk) ⟨by omega,_,Tx Ri hk,_,_,rfl,?_⟩;refine ab.mk (λjY=>?_) (λjY=>ab.mk (λeT=>?_) (λeT=>?_))
   ·have qH:l[i].kind=1:=by simpa using jY
    rw[if_pos (.inl qH)]at Fx;have hco:Ca l[i]:=⟨iA,Sh (.inl qH)⟩;refine⟨_,xx.rd 7 rfl (by simp),_,xx.rd 0 rfl (by simp),_,xx.rd 7 rfl (by simp),_,_,xx.rd 0 rfl (by simp),_,xx.rd 6 rfl (by simp),by omega,_,tx KB,_,rfl,?_⟩;refine FR (ak.zb (x:=x) (es:=es) (ms:=ms) (ids:=ids) xx (by simp)) l[i] _ _ _ _ Ri[k] (by omega) W.aB[ai] ?_;obtain⟨fe,ga,gb,hf⟩:=wI W.n x.al W.aB[ai] (fA Ri[k] l[i].id);rw[hf];refine⟨_,_,_,rfl,?_⟩;rw[Mem.mJ];refine(SZ fe ga gb l[i] _ _ _ _ Ri[k] (by omega)).call ⟨_,_,_,rfl,?_⟩;have wC:iu es l[i] Ri[k]=(aP l[i] Ri[k] es).map (·.2):=by rw[jD,if_pos qH]
    have Ig:cC es l[i] Ri[k] 0=(aP l[i] Ri[k] es).length:=by rw[oP,wC,length_map]
    have nN:∀j,cC es l[i] Ri[k] (j+1)=0:=λj=>xK _ (.inl qH) j;refine bu.own (wT hA hI hco (Fx.1 KB) (by omega) hf) (Ow.at 2 rfl xx)
     (λm u=>(((D ai+m:Nat):Int)<=x.T)/\Ow (Pt w 226 W.pv::eI W (mD D ai (D ai+m))::ak W.n x es ms ids::mq Cg 234 1 (fY ((Ri.take k).flatMap λr=>iu es l[i] r)++fY (((aP l[i] Ri[k] es).take m).map (·.2)))::Pt b9 4 [pB false]::Pt b8 234 [.list 1 .nil []]::Pt b7 3 [pI ((ai:Nat):Int)]::Pt b4 224 [pP w 0]::L) u)
     (λcd u=>cd=.ret/\(∃q,x.T<((D q+sh ai (cC es l[i] Ri[k]) q:Nat):Int))/\∃pL rs,Ow (Pt w 226 W.pv::eI W pL::ak W.n x es ms ids::mq Cg 234 1 rs::Pt b9 4 [pB false]::Pt b8 234 [.list 1 .nil []]::Pt b7 3 [pI ((ai:Nat):Int)]::Pt b4 224 [pP w 0]::L) u)
     (λm=>eJ.and (eJ.own _)) (λcd=>eJ.and (eJ.and (eJ.ex λ_=>eJ.ex λ_=>eJ.own _))) (λμ' h'=>⟨by simpa using hD ai,?_⟩) ?_ ?_ ?_
    ·have e:mD D ai (D ai+0)=D:=by funext j;unfold mD;split<;>simp_all
     rw[e];have h'':Ow ([ak W.n x es ms ids]++([Pt w 226 W.pv,eI W D]++(mq Cg 234 1 (fY ((Ri.take k).flatMap λr=>iu es l[i] r))::Pt b9 4 [pB false]::Pt b8 234 [.list 1 .nil []]::Pt b7 3 [pI ((ai:Nat):Int)]::Pt b4 224 [pP w 0]::L))) μ':=h';simpa[fY]using vb _ _ _ h''
    ·rintro m hm u2 R ⟨ZW,mw⟩ bX jW;have sE:m<(aP l[i] Ri[k] es).length:=by simpa using hm
     rw[getElem_map];refine⟨_,_,_,_,_,_,_,_,_,_,_,_,_,_,rfl,_,mw.rd 7 rfl (by simp),_,mw.rd 6 rfl (by simp),?_⟩;refine vP mw ai (by omega) (by unfold mD;rw[if_pos rfl];omega) λu3 h3=>⟨_,rfl,?_⟩;have eu:mD (mD D ai (D ai+m)) ai (mD D ai (D ai+m) ai+1)=mD D ai (D ai+(m+1)):=by
      funext j;unfold mD;by_cases e:j=ai
      ·simp[e];omega
      ·simp[e]
     have ev:mD D ai (D ai+m) ai=D ai+m:=by unfold mD;simp
     rw[eu]at h3;rw[ev];refine ab.mk (λdc=>?_) (λCB=>?_)
     ·have RS:x.T<((D ai+m+1:Nat):Int):=by simpa using dc
      refine h3.st 5 rfl (by simp) λu4 h4=>h4.st 4 rfl (by simp) λu5 h5=>jW _ _ ⟨rfl,⟨ai,?_⟩,_,_,h5⟩;rw[Hf,Ig];omega
     ·have HP:((D ai+m+1:Nat):Int)<=x.T:=by simpa using CB
      have hlen:(fY ((Ri.take k).flatMap λr=>iu es l[i] r)++fY (((aP l[i] Ri[k] es).take m).map (·.2))).length<=2000000:=by
       rw[length_append,iy,iy,length_map,length_take];omega
      refine mq.go 3 h3 rfl (by simp only[length_cons,length_nil];omega) (by simp only[length_cons,length_nil];omega) λu4 h4=>bX _ ⟨by omega,?_⟩;have e2:fY ((Ri.take k).flatMap λr=>iu es l[i] r)++fY (((aP l[i] Ri[k] es).take (m+1)).map (·.2))=(fY ((Ri.take k).flatMap λr=>iu es l[i] r)++fY (((aP l[i] Ri[k] es).take m).map (·.2)))++[[.list 4 .sh ((aP l[i] Ri[k] es)[m].2.map Bind.pv)]]:=by
       rw[eV sE,Dt,append_assoc];rfl
      rw[e2];exact h4
    ·rintro u2 ⟨ZW,mw⟩;rw[length_map]at ZW mw;dsimp only[PK];have e:=PW (cv:=D) (a:=ai) (f:=cC es l[i] Ri[k]) Ig nN;refine dS u2 (λj=>?_) ?_
     ·rw[<- congrFun e j];unfold mD;split
      ·exact ZW
      ·exact hD j
     ·rw[<- e,wC];rw[take_length]at mw;exact mw
    ·rintro cd u2 ⟨rfl,hq,pL,rs,mw⟩;dsimp only[PK];refine⟨_,_,mw.rd 5 rfl (by simp),_,mw.rd 4 rfl (by simp),?_⟩;exact Bk hq pL u2 (mw.tail λ_ h=>h.tail λ_ h=>h.tail λ_ h=>h.drop.drop.drop.drop.drop)
   ·have Kv:l[i].kind=2:=by simpa using eT
    have qH:¬l[i].kind=1:=by simpa using jY
    rw[if_pos (.inr Kv)]at Fx;have hco:Ca l[i]:=⟨iA,Sh (.inr Kv)⟩;have wC:iu es l[i] Ri[k]=if(aP l[i] Ri[k] es).isEmpty then[Ri[k]]else[]:=by rw[jD,if_neg qH,if_pos Kv]
    have nN:∀j,cC es l[i] Ri[k] (j+1)=0:=λj=>xK _ (.inr Kv) j;refine⟨_,xx.rd 7 rfl (by simp),_,xx.rd 6 rfl (by simp),?_⟩;refine aak hA hI (xx.tail λ_ h=>h.swap) hco _ _ _ _ (by omega) KB (Fx.1 KB) λu2 ad2=>⟨_,rfl,?_⟩;have mw:=ad2.tail λ_ h=>h.swap;clear ad2;refine ab.mk (λjX=>?_) (λjX=>?_)
    ·have hz:(aP l[i] Ri[k] es).isEmpty=false:=nb jX;rw[hz]at wC;simp only[Bool.false_eq_true,if_false]at wC;have hcz:∀j,sh ai (cC es l[i] Ri[k]) j=0:=λj=>by
      unfold sh;split
      ·cases j-ai with
       |zero=>rw[oP,wC];rfl
       |succ q=>exact nN q
      ·rfl
     have e:(λj=>D j+sh ai (cC es l[i] Ri[k]) j)=D:=by funext j;rw[hcz];rfl
     refine dS u2 (λj=>by rw[hcz];exact hD j) ?_;rw[e,wC];simpa[fY]using mw
    ·have hz:(aP l[i] Ri[k] es).isEmpty=true:=nt jX;rw[hz]at wC;simp only[if_true]at wC;have Ig:cC es l[i] Ri[k] 0=1:=by rw[oP,wC];rfl
     have e:=PW (cv:=D) (a:=ai) (f:=cC es l[i] Ri[k]) Ig nN;have hDa:=hD ai;refine⟨_,mw.rd 7 rfl (by simp),_,mw.rd 6 rfl (by simp),vP mw ai (by omega) (by omega) λu3 h3=>⟨_,rfl,ab.mk (λdc=>?_) (λCB=>?_)⟩⟩
     ·have RS:x.T<((D ai+1:Nat):Int):=by simpa using dc
      exact EU h3 (Bk ⟨ai,by rw[Hf,Ig];exact RS⟩ _)
     ·have HP:((D ai+1:Nat):Int)<=x.T:=by simpa using CB
      refine mq.go 3 h3 rfl (by rw[iy];simp only[length_cons,length_nil];omega) (by rw[iy];simp only[length_cons,length_nil];omega) λu4 h4=>dS u4 (λj=>?_) ?_
      ·rw[<- congrFun e j];unfold mD;split
       ·exact HP
       ·exact hD j
      ·rw[<- e,wC];exact h4
   ·have Kv:¬l[i].kind=2:=by simpa using eT
    have qH:¬l[i].kind=1:=by simpa using jY
    have hk3:¬(l[i].kind=1\/l[i].kind=2):=λh=>h.elim qH Kv;rw[if_neg hk3]at Fx;have wC:iu es l[i] Ri[k]=if(iz es l[i].conds [Ri[k]]).isEmpty then[Ri[k]]else[]:=by rw[jD,if_neg qH,if_neg Kv]
    have VP:=Tr (es:=es) (b:=Ri[k]) hk3 ai;refine⟨_,xx.rd 7 rfl (by simp),_,xx.rd 6 rfl (by simp),?_⟩;rw[aC (by omega) (by omega),show((ai:Int)+1)=((ai+1:Nat):Int)from by omega];refine ih (ah l[i].conds) (by omega) l[i].conds .sh .sh Ri[k] (ai+1) D (le_refl _) MC Fx (by omega) hD (by omega) xx (λhE fr2 u2 mw=>⟨_,_,_,rfl,ab.f rfl ?_⟩) (λ⟨q,hq⟩ pL u2 mw=>⟨_,_,_,rfl,ab.t rfl ?_⟩)
    ·simp only[iy];refine ab.mk (λjX=>?_) (λjX=>?_)
     ·have aZ:0<(iz es l[i].conds [Ri[k]]).length:=by simpa using jX
      have hz:(iz es l[i].conds [Ri[k]]).isEmpty=false:=by
       cases hx:iz es l[i].conds [Ri[k]]with
       |nil=>rw[hx]at aZ;simp at aZ
       |cons y ys=>rfl
      rw[hz]at wC;simp only[Bool.false_eq_true,if_false]at wC;have e:∀j,sh ai (cC es l[i] Ri[k]) j=sh (ai+1) (cL es l[i].conds [Ri[k]]) j:=λj=>by rw[VP j,wC];simp
      refine dS u2 (λj=>by rw[e j];exact hE j) ?_;rw[show(λj=>D j+sh ai (cC es l[i] Ri[k]) j)=(λj=>D j+sh (ai+1) (cL es l[i].conds [Ri[k]]) j)from funext λj=>by rw[e j],wC];simpa[fY]using mw
     ·have aZ:(iz es l[i].conds [Ri[k]]).length=0:=by simpa using jX
      have hz:(iz es l[i].conds [Ri[k]]).isEmpty=true:=by rw[isEmpty_iff];exact List.eq_nil_of_length_eq_zero aZ
      rw[hz]at wC;simp only[if_true]at wC;have ZU:sh (ai+1) (cL es l[i].conds [Ri[k]]) ai=0:=by unfold sh;rw[if_neg (by omega)]
      have aif:=hE ai;rw[ZU]at aif;have e:mD (λj=>D j+sh (ai+1) (cL es l[i].conds [Ri[k]]) j) ai ((D ai+sh (ai+1) (cL es l[i].conds [Ri[k]]) ai)+1)=λj=>D j+sh ai (cC es l[i] Ri[k]) j:=by
       funext j;rw[VP j,wC];unfold mD;by_cases e:j=ai
       ·subst e;rw[if_pos rfl,if_pos rfl,ZU];rfl
       ·rw[if_neg e,if_neg e];dsimp only;omega
      refine⟨_,mw.rd 7 rfl (by simp),_,mw.rd 6 rfl (by simp),vP mw ai (by omega) (by rw[ZU];omega) λu3 h3=>⟨_,rfl,ab.mk (λdc=>?_) (λCB=>?_)⟩⟩
      ·have RS:x.T<((D ai+1:Nat):Int):=by
        have h2:x.T<((D ai+sh (ai+1) (cL es l[i].conds [Ri[k]]) ai+1:Nat):Int):=by simpa using dc
        rw[ZU]at h2;exact h2
       refine EU h3 (Bk ⟨ai,?_⟩ _);rw[VP ai,wC,if_pos rfl,ZU];exact RS
      ·have HP:((D ai+1:Nat):Int)<=x.T:=by
        have h2:((D ai+sh (ai+1) (cL es l[i].conds [Ri[k]]) ai+1:Nat):Int)<=x.T:=by simpa using CB
        rw[ZU]at h2;exact h2
       refine mq.go 3 h3 rfl (by rw[iy];simp only[length_cons,length_nil];omega) (by rw[iy];simp only[length_cons,length_nil];omega) λu4 h4=>dS u4 (λj=>?_) ?_
       ·rw[<- congrFun e j];unfold mD;split
        ·rw[ZU];exact HP
        ·exact hE j
       ·rw[<- e,wC];exact h4
    ·refine EU mw (Bk ⟨q,?_⟩ pL);rw[VP q];omega
  ·intro u1 mM ⟨hD,xx⟩;refine ab.f (by simp[fY]) ?_;rw[take_length]at xx hD;obtain⟨f2,hf2⟩:=mq.rd 3 xx rfl;have hS:=aam .nr [l[i]] (by simp only[ah];omega);rw[show[l[i]].map ae.pv=[l[i].pv]from rfl,ae.cG]at hS;refine⟨_,_,hf2,_,xx.rd 6 rfl (by simp),hS.q ⟨_,rfl,?_⟩⟩;rw[Mem.mJ];refine xx.st 6 rfl (by simp) λu2 h2=>aw _ _ ⟨by rw[adB],?_,λj=>by rw[Sf j];exact hD j,?_⟩
   ·have h3:=hD ai;rw[Hf,wJ]at h3;rw[adB];omega
   ·have e1:(λj=>cv j+sh a (cL es (l.take (i+1)) [b]) j)=λj=>Ci j+sh ai (du es l[i] Ri) j:=funext Sf;rw[e1];have e2:dy [pI ((ai:Nat):Int)] 0 [pI (IntKind.wrap .i64 (((ai:Nat):Int)+((ah [l[i]]:Nat):Int)))]=[pI ((a+ah (l.take (i+1)):Nat):Int)]:=by
     have h3:=mH hi;have h4:ah [l[i]]=aN l[i]:=by simp[ah]
     rw[h4,aC (by omega) (by omega)];show[pI _]=_;congr 2;omega
    rw[e2]at h2;exact h2.tail λ_ h=>h.tail λ_ h=>h.tail λ_ h=>h.drop
 ·rintro⟨fr,_⟩ u next ⟨rfl,hRl,hC,CK⟩
  refine ab.f (by simp) ?_;rw[take_length]at hC CK |-;refine CK.st 4 rfl (by simp) λu1 GF=>GF.st 3 rfl (by simp) λu2 h2=>?_;refine⟨_,_,h2.rd 4 rfl (by simp[dy]),_,h2.rd 3 rfl (by simp[dy]),?_⟩;exact h1 hC _ _ (h2.tail λ_ h=>h.tail λ_ h=>h.tail λ_ h=>h.drop.drop.drop.drop)
end
mutual
def nJ(es fs:List aj):ae->Prop
 | .mk k g i a v ac cs=>if k=1\/k=2 then es.filter (bf (bt (.mk k g i a v ac cs)))=fs.filter (bf (bt (.mk k g i a v ac cs)))else vi es fs cs
def vi(es fs:List aj):List ae->Prop
 |[]=>True
 |c::cs=>nJ es fs c/\vi es fs cs
end
theorem Al{es fs:List aj}{c:ae}(h:es.filter (bf (bt c))=fs.filter (bf (bt c)))(l:List aO.Bind):aP c l es=aP c l fs:=by
 rw[<- kQ (es:=es) (p:=bf (bt c)) λe he=>xC he,h,kQ λe he=>xC he]
mutual
theorem vB{es fs:List aj}:∀(c:ae) (b:List aO.Bind),nJ es fs c->iu es c b=iu fs c b
 | .mk k g i a v ac cs,b,h=>by
   unfold nJ at h
   by_cases hk:k=1\/k=2
   ·rw[if_pos hk]at h
    simp only[iu]
    rw[Al h b]
    by_cases h1:k=1
    ·rw[if_pos h1,if_pos h1]
    ·rw[if_neg h1,if_neg h1,if_pos (hk.resolve_left h1),if_pos (hk.resolve_left h1)]
   ·rw[if_neg hk]at h
    simp only[iu]
    rw[if_neg (λe=>hk (.inl e)),if_neg (λe=>hk (.inr e)),if_neg (λe=>hk (.inl e)),if_neg (λe=>hk (.inr e)),Hw cs [b] h]
theorem Hw{es fs:List aj}:∀(cs:List ae) (rows:List (List aO.Bind)),vi es fs cs->iz es cs rows=iz fs cs rows
 |[],rows,_=>rfl
 |c::cs,rows,h=>by
  unfold vi at h
  simp only[iz]
  rw[show(λb=>iu es c b)=(λb=>iu fs c b)from funext λb=>vB c b h.1]
  exact Hw cs _ h.2
end
mutual
theorem MZ{es fs:List aj}:∀(c:ae) (b:List aO.Bind) (j:Nat),nJ es fs c->cC es c b j=cC fs c b j
 | .mk k g i a v ac cs,b,0,h=>by
   simp only[cC];rw[vB _ b h]
 | .mk k g i a v ac cs,b,j+1,h=>by
   simp only[cC]
   unfold nJ at h
   by_cases hk:k=1\/k=2
   ·rw[if_pos hk,if_pos hk]
   ·rw[if_neg hk]at h
    rw[if_neg hk,if_neg hk,MV cs [b] j h]
theorem MV{es fs:List aj}:∀(cs:List ae) (rows:List (List aO.Bind)) (j:Nat),vi es fs cs->cL es cs rows j=cL fs cs rows j
 |[],rows,j,_=>rfl
 |c::cs,rows,j,h=>by
  unfold vi at h
  simp only[cL]
  rw[show(λb=>cC es c b j)=(λb=>cC fs c b j)from funext λb=>MZ c b j h.1,show(λb=>iu es c b)=(λb=>iu fs c b)from funext λb=>vB c b h.1,MV cs _ _ h.2]
end
theorem Ag{es fs:List aj}{c:ae}(h:nJ es fs c)(ts:List bR):stepT es c ts=stepT fs c ts:=by
 unfold stepT;by_cases hk:c.kind=1
 ·rw[if_pos hk,if_pos hk];congr 1;funext t;cases c with|mk k g i a v ac cs=>
  have hk:k=1:=hk;unfold nJ at h;rw[if_pos (.inl hk)]at h;rw[Al h]
 ·rw[if_neg hk,if_neg hk];congr 1;funext t;rw[vB c t.binds h]
theorem Eh{es fs:List aj}{c:ae}(h:nJ es fs c)(ts:List bR)(j:Nat):dB es c ts j=dB fs c ts j:=by
 unfold dB;rw[show(λt:bR=>cC es c t.binds j)=(λt:bR=>cC fs c t.binds j)from funext λt=>MZ c t.binds j h]
theorem Sz{ms:dj}{aB:List Int}{es fs:List aj}(h:∀k∈aB,∀x,aL au bO k ms=some x->es.filter (bf x.2.c)=fs.filter (bf x.2.c)):(∀(c:ae) (a:Nat),kt ms aB a c->nJ es fs c):=by
 intro c;refine ae.ind (Q:=λc=>∀a,kt ms aB a c->nJ es fs c) (λc ih a hf=>?_) c;have hl:∀(l:List ae),(∀d∈l,∀a,kt ms aB a d->nJ es fs d)->∀a,vE ms aB a l->vi es fs l:=by
  intro l;induction l with
  |nil=>intro _ _ _;unfold vi;trivial
  |cons d l ih2=>
   intro h1 a h2;unfold vE at h2;unfold vi;exact⟨h1 d (by simp) _ h2.1,ih2 (λd' hd=>h1 d' (by simp[hd])) _ h2.2⟩
 obtain⟨ha,hf⟩:=(vF ms aB a c).1 hf;cases c with|mk k g i at' v ac cs=>
 unfold nJ;have HY:(ae.mk k g i at' v ac cs).kind=k:=rfl;rw[HY]at hf;by_cases hk:k=1\/k=2
 ·rw[if_pos hk]at hf |-;obtain⟨x,hx,hc⟩:=hf.1 ha;have:=h _ (getElem_mem ha) x hx;rw[hc]at this;exact this
 ·rw[if_neg hk]at hf |-;exact hl cs (λd hd=>ih d hd) _ hf
theorem FF{α β:Type}{f g:α->List β}{a b:List α}(h:a.Perm b)(hf:∀x,(f x).Perm (g x)):(a.flatMap f).Perm (b.flatMap g):=by
 have h1:∀l:List α,(l.flatMap f).Perm (l.flatMap g):=λl=>by
  induction l with
  |nil=>exact Perm.refl _
  |cons x l ih=>rw[flatMap_cons,flatMap_cons];exact(hf x).append ih
 refine(h1 a).trans ?_;induction h with
 |nil=>exact Perm.refl _
 |cons x _ ih=>rw[flatMap_cons,flatMap_cons];exact ih.append_left _
 |swap x y l=>
  rw[flatMap_cons,flatMap_cons,flatMap_cons,flatMap_cons,<- append_assoc,<- append_assoc];exact List.perm_append_comm.append_right _
 |trans _ _ i1 i2=>exact i1.trans i2
theorem tR{α:Type}{a b:List α}(h:a.Perm b):a.isEmpty=b.isEmpty:=by
 have:=h.length_eq;cases a<;>cases b<;>simp_all
theorem Ab{a b:List Nat}(h:a.Perm b):a.sum=b.sum:=by
 induction h with
 |nil=>rfl
 |cons x _ ih=>simp[ih]
 |swap x y l=>simp only[sum_cons];omega
 |trans _ _ i1 i2=>rw[i1,i2]
theorem ta{es fs:List aj}(h:es.Perm fs)(c:ae)(l:List aO.Bind):(aP c l es).Perm (aP c l fs):=h.filterMap _
mutual
theorem vA{es fs:List aj}(h:es.Perm fs):∀(c:ae) (b:List aO.Bind),(iu es c b).Perm (iu fs c b)
 | .mk k g i a v ac cs,b=>by
   simp only[iu]
   by_cases h1:k=1
   ·rw[if_pos h1,if_pos h1];exact(ta h _ b).map _
   ·rw[if_neg h1,if_neg h1]
    by_cases h2:k=2
    ·rw[if_pos h2,if_pos h2,tR (ta h _ b)]
    ·rw[if_neg h2,if_neg h2,tR (Hv h cs (Perm.refl [b]))]
theorem Hv{es fs:List aj}(h:es.Perm fs):∀(cs:List ae) {r s:List (List aO.Bind)},r.Perm s->(iz es cs r).Perm (iz fs cs s)
 |[],_,_,hr=>by simpa only[iz]using hr
 |c::cs,_,_,hr=>by
  simp only[iz]
  exact Hv h cs (FF hr λb=>vA h c b)
end
mutual
theorem MY{es fs:List aj}(h:es.Perm fs):∀(c:ae) (b:List aO.Bind) (j:Nat),cC es c b j=cC fs c b j
 | .mk k g i a v ac cs,b,0=>by simp only[cC];exact(vA h _ b).length_eq
 | .mk k g i a v ac cs,b,j+1=>by
   simp only[cC]
   by_cases hk:k=1\/k=2
   ·rw[if_pos hk,if_pos hk]
   ·rw[if_neg hk,if_neg hk,MT h cs (Perm.refl [b]) j]
theorem MT{es fs:List aj}(h:es.Perm fs):∀(cs:List ae) {r s:List (List aO.Bind)},r.Perm s->∀j:Nat,cL es cs r j=cL fs cs s j
 |[],_,_,_,_=>rfl
 |c::cs,r,s,hr,j=>by
  simp only[cL]
  by_cases hj:j<aN c
  ·rw[if_pos hj,if_pos hj,show(λb=>cC es c b j)=(λb=>cC fs c b j)from funext λb=>MY h c b j]
   exact Ab (hr.map _)
  ·rw[if_neg hj,if_neg hj]
   exact MT h cs (FF hr λb=>vA h c b) _
end
theorem JF{es fs:List aj}(h:es.Perm fs)(c:ae){ts us:List bR}(ht:ts.Perm us):(stepT es c ts).Perm (stepT fs c us):=by
 unfold stepT;by_cases hk:c.kind=1
 ·rw[if_pos hk,if_pos hk];exact FF ht λt=>(ta h c t.binds).map _
 ·rw[if_neg hk,if_neg hk,show(λt:bR=> !(iu es c t.binds).isEmpty)=(λt:bR=> !(iu fs c t.binds).isEmpty)from funext λt=>by rw[tR (vA h c t.binds)]];exact ht.filter _
theorem Bp{es fs:List aj}(h:es.Perm fs):∀(p:List ae) {ts us:List bR},ts.Perm us->(p.foldl (λts c=>stepT es c ts) ts).Perm (p.foldl (λts c=>stepT fs c ts) us)
 |[],_,_,ht=>ht
 |c::p,_,_,ht=>by simp only[List.foldl_cons];exact Bp h p (JF h c ht)
theorem od{es fs:List aj}(h:es.Perm fs)(p:List ae):(az es p).Perm (az fs p):=Bp h p (Perm.refl _)
theorem Eg{es fs:List aj}(h:es.Perm fs)(c:ae){ts us:List bR}(ht:ts.Perm us)(j:Nat):dB es c ts j=dB fs c us j:=by
 unfold dB;rw[show(λt:bR=>cC es c t.binds j)=(λt:bR=>cC fs c t.binds j)from funext λt=>MY h c t.binds j];exact Ab (ht.map _)
theorem Af(es:List aj)(c:ae)(a b:List bR):stepT es c (a++b)=stepT es c a++stepT es c b:=by
 unfold stepT;split
 ·rw[flatMap_append]
 ·rw[filter_append]
theorem xD(es:List aj)(c:ae)(a b:List bR)(j:Nat):dB es c (a++b) j=dB es c a j+dB es c b j:=by unfold dB;rw[map_append,List.sum_append]
theorem jE(es:List aj)(c:ae)(ts:List bR):dB es c ts 0=(stepT es c ts).length:=by
 induction ts with
 |nil=>unfold dB stepT;simp
 |cons t ts ih=>
  have e:t::ts=[t]++ts:=rfl;rw[e,xD,Af,length_append,ih];congr 1;unfold dB stepT;simp only[map_cons,map_nil,sum_cons,List.sum_nil,Nat.add_zero,oP];by_cases hk:c.kind=1
  ·rw[if_pos hk,jD,if_pos hk];simp
  ·rw[if_neg hk];have h1:(iu es c t.binds).length=if(iu es c t.binds).isEmpty then 0 else 1:=by
    rw[jD,if_neg hk];split<;>split<;>rfl
   rw[h1,filter_cons,List.filter_nil];cases(iu es c t.binds).isEmpty<;>rfl
@[reducible] def qx(k:Nat):List PV:=[pI ((k:Nat):Int)]
structure lZ where
 c:ae
 fa:Fl
 fv:Fl
 fc:Fl
 ka:Option Addr
 kn:Nat
 kc:Nat
 fm:Fl
 aB:List Int
 ft:Fl
 dO:List bR
 fk:Fl
 cnt:List Nat
 ends:Int
 ff:Fl
 fr:List bR
 fq:Fl
 mn:List Nat
@[reducible] def lZ.pv(x:lZ):List PV:=[pI x.c.kind,pB x.c.goal,pS x.c.id,.list 6 x.fa (x.c.attr.map Test.pv),.list 6 x.fv (x.c.value.map Test.pv),pB x.c.acc,.list 7 x.fc (x.c.conds.map ae.pv),.raw (.slice x.ka x.kn x.kc),.list 1 x.fm (x.aB.map gV),.list 2 x.ft (x.dO.map bR.pv),.list 1 x.fk (x.cnt.map qx),pI x.ends,.list 2 x.ff (x.fr.map bR.pv),.list 1 x.fq (x.mn.map qx)]
def kK(es:List aj)(c:ae)(ts:List bR):List Nat:=(range (aN c)).map λj=>dB es c ts j
theorem SO(es:List aj)(c:ae)(j:Nat):dB es c [] j=0:=rfl
theorem Ef(es:List aj)(c:ae){ts:List bR}{k:Nat}(hk:k<ts.length)(j:Nat):dB es c (ts.take (k+1)) j=dB es c (ts.take k) j+cC es c ts[k].binds j:=by
 rw[take_add_one,getElem?_eq_getElem hk,xD];simp[dB]
theorem Wc(es:List aj)(c:ae)(ts:List bR)(k j:Nat):dB es c (ts.take k) j<=dB es c ts j:=by
 have:=xD es c (ts.take k) (ts.drop k) j;rw[List.take_append_drop]at this;omega
theorem JD(es:List aj)(c:ae){ts:List bR}{k:Nat}(hk:k<ts.length):stepT es c (ts.take (k+1))=stepT es c (ts.take k)++stepT es c [ts[k]]:=by
 rw[take_add_one,getElem?_eq_getElem hk,Af];rfl
theorem Nx{es:List aj}{c:ae}(h:c.kind=1)(t:bR):stepT es c [t]=(aP c t.binds es).map λx=>⟨t.tags++[x.1.tag],x.2⟩:=by
 unfold stepT;rw[if_pos h];simp
theorem Ny{es:List aj}{c:ae}(h:¬c.kind=1)(t:bR):stepT es c [t]=if(iu es c t.binds).isEmpty then[]else[t]:=by
 unfold stepT;rw[if_neg h,filter_cons,List.filter_nil];cases(iu es c t.binds).isEmpty<;>rfl
theorem SN(es:List aj)(c:ae)(ts:List bR){j:Nat}(h:aN c<=j):dB es c ts j=0:=by
 unfold dB;induction ts with
 |nil=>rfl
 |cons b ts ih=>rw[map_cons,sum_cons,ih,Tt es c _ h]
theorem Ym{ts:List bR}{k:Nat}(hk:k<ts.length):(ts.map bR.pv)[Int.toNat (k:Int)]?=some (bR.pv ts[k]):=aH hk
theorem We(N:Nat)(cv:Nat->Nat):aQ ((range N).map λi=>[pI ((cv i:Nat):Int)]).flatten=true:=by
 rw[aQ,List.all_eq_true];intro p hp;obtain⟨r,hr,hp⟩:=List.mem_flatten.1 hp;obtain⟨i,_,rfl⟩:=mem_map.1 hr;simp only[mem_singleton]at hp;subst hp;rfl
section
variable {n:Nat} {x:NC} {es:List aj} {ms:dj} {ids:pQ}
theorem MP(hA:dx es ms)(hI:ji es ids)(hT:0<=x.T/\x.T<=1000000){xb:Nat}(d:lZ)(aG:tp d.c)(hs:aN d.c<=100)(tM:kt ms d.aB 0 d.c)(hN:d.aB.length=aN d.c)(ahead:List bR)(fl:Fl)(hal:ahead.length<=1000001)(xw:∀t∈ahead,t.binds.length<=800000/\t.tags.length<=100000)
  {L:List aX} {μ:Mem} (hO:Ow (ak n x es ms ids::Pt xb 126 d.pv::L) μ) {K:Kq}
  (h1:(∀j,((dB es d.c ahead j:Nat):Int)<=x.T)->∀f μ',Ow (ak n x es ms ids::Pt xb 126 d.pv::L) μ'->K (.aA [.list 2 f ((stepT es d.c ahead).map bR.pv),.list 1 .sh ((kK es d.c ahead).map qx),pB true]) μ')
  (h0:(∃j,x.T<((dB es d.c ahead j:Nat):Int))->∀μ',Ow (ak n x es ms ids::Pt xb 126 d.pv::L) μ'->K (.aA [.list 2 .nil [],.list 1 .sh [],pB false]) μ'):
  aa prog 67 [pP n 0,pP xb 0,.list 2 fl (ahead.map bR.pv)] μ K:=by
 have HR:1<=aN d.c:=by rw[bN];omega
 obtain⟨hT0,hT1⟩:=hT
 refine aa.aiq (K:=λv μ'=>((∀j,((dB es d.c ahead j:Nat):Int)<=x.T)/\∃f a c,v=.aA [.list 2 f ((stepT es d.c ahead).map bR.pv),.raw (.slice a (aN d.c) c),pB true]/\Ow (cA 3 1 (.raw (.slice a (aN d.c) c)) ((range (aN d.c)).map λi=>[pI ((dB es d.c ahead i:Nat):Int)])::ak n x es ms ids::Pt xb 126 d.pv::L) μ')\/
  ((∃j,x.T<((dB es d.c ahead j:Nat):Int))/\v=.aA [.list 2 .nil [],.raw (.slice none 0 0),pB false]/\Ow (ak n x es ms ids::Pt xb 126 d.pv::L) μ')) ?_ ?_
 ·refine wc.c λb6 CI b7 Ih b8 OE=>?_;have O1:=((hO.new 124 [.list 2 .nil []] CI).new 51 [.raw (.slice none 0 0)] Ih).new 4 [pB false] OE;have adH:flatten (List.replicate (aN d.c) [pI 0])=((range (aN d.c)).map λi=>[pI (((λ_=>0:Nat->Nat) i:Nat):Int)]).flatten:=by
   congr 1;refine List.ext_getElem (by simp) λi h1 h2=>?_;simp
  have fin:∀{b9 w zN:Nat} {u:Mem},Ow (Pt w 226 (WC.mk n d.fm d.aB (some ⟨zN,0,none⟩) (aN d.c) (aN d.c)).pv::Pt zN 3 (flatten (List.replicate (aN d.c) [pI 0]))::ak n x es ms ids::Pt xb 126 d.pv::Pt b9 224 [pP w 0]::Pt b8 4 [pB false]::Pt b7 51 [.raw (.slice none 0 0)]::Pt b6 124 [.list 2 .nil []]::L) u->
    Ow (Pt w 226 (WC.mk n d.fm d.aB (some ⟨zN,0,none⟩) (aN d.c) (aN d.c)).pv::eI (WC.mk n d.fm d.aB (some ⟨zN,0,none⟩) (aN d.c) (aN d.c)) (λ_=>0)::ak n x es ms ids::Pt xb 126 d.pv::Pt b9 224 [pP w 0]::Pt b8 4 [pB false]::Pt b7 51 [.raw (.slice none 0 0)]::Pt b6 124 [.list 2 .nil []]::L) u:=λ{b9 w zN u} h=>by
   rw[adH]at h;refine h.tail λ_ h2=>?_;have h3:=Ow.af5 (sz:=1) h2;rw[length_map,List.length_range]at h3;exact h3
  refine⟨λs u=>∃b9 w zN,s=some ⟨b9,0,none⟩/\Ow (Pt w 226 (WC.mk n d.fm d.aB (some ⟨zN,0,none⟩) (aN d.c) (aN d.c)).pv::eI (WC.mk n d.fm d.aB (some ⟨zN,0,none⟩) (aN d.c) (aN d.c)) (λ_=>0)::ak n x es ms ids::Pt xb 126 d.pv::Pt b9 224 [pP w 0]::Pt b8 4 [pB false]::Pt b7 51 [.raw (.slice none 0 0)]::Pt b6 124 [.list 2 .nil []]::L) u,?_,?_⟩
  ·refine⟨_,_,O1.rd 4 rfl (by simp),_,_,O1.rd 4 rfl (by simp),?_⟩;rw[show Int.toNat (((d.aB.map gV).length:Nat):Int)=aN d.c from by simp[hN],show(((d.aB.map gV).length:Nat):Int)=((aN d.c:Nat):Int)from by simp[hN]];refine⟨⟨by omega,by omega,by omega,by omega,λzN VR=>⟨λYb KA b9 ZP=>?_,λb9 ZP Yb KA=>?_⟩⟩,λb9 ZP=>⟨by omega,by omega,by omega,by omega,λzN VR Yb KA=>?_⟩⟩
   ·refine(((O1.new _ _ VR).new _ _ KA).new _ _ ZP).st 0 rfl (by simp) λu h=>⟨b9,Yb,zN,rfl,fin ?_⟩;exact Ow.ord [1,1,4,4,0] h
   ·refine(((O1.new _ _ VR).new _ _ ZP).new _ _ KA).st 1 rfl (by simp) λu h=>⟨b9,Yb,zN,rfl,fin ?_⟩;exact Ow.ord [0,1,4,4,0] h
   ·refine(((O1.new _ _ ZP).new _ _ VR).new _ _ KA).st 2 rfl (by simp) λu h=>⟨b9,Yb,zN,rfl,fin ?_⟩;exact Ow.ord [0,0,4,4,0] h
  ·rintro s u ⟨b9,w,zN,rfl,gg⟩ Yc ahU;generalize hW:WC.mk n d.fm d.aB (some ⟨zN,0,none⟩) (aN d.c) (aN d.c)=W at gg;have hWn:W.n=n:=by rw[<- hW]
   have hWm:W.aB=d.aB:=by rw[<- hW]
   have hWN:W.N=aN d.c:=by rw[<- hW]
   have hWc:W.pv=[pP n 0,.list 1 d.fm (d.aB.map gV),.raw (.slice (some ⟨zN,0,none⟩) (aN d.c) (aN d.c))]:=by rw[<- hW]
   have ZY:∀cv,eI W cv=cA 3 1 (.raw (.slice (some ⟨zN,0,none⟩) (aN d.c) (aN d.c))) ((range (aN d.c)).map λi=>[pI ((cv i:Nat):Int)]):=λcv=>by rw[<- hW];rfl
   rw[<- hWn]at gg |-;have O3:=Ow.ord [1,1,1,0] (mq.new (gg.new 124 [.list 2 .nil []] ahU));have O3:Ow (Pt w 226 W.pv::eI W (λ_=>0)::ak W.n x es ms ids::mq Yc 124 2 []::Pt xb 126 d.pv::Pt b9 224 [pP w 0]::Pt b8 4 [pB false]::Pt b7 51 [.raw (.slice none 0 0)]::Pt b6 124 [.list 2 .nil []]::L) _:=O3;refine ao.each (n:=ahead.length) (by omega) (λk u=>(∀j,((dB es d.c (ahead.take k) j:Nat):Int)<=x.T)/\Ow (Pt w 226 W.pv::eI W (λj=>dB es d.c (ahead.take k) j)::ak W.n x es ms ids::mq Yc 124 2 ((stepT es d.c (ahead.take k)).map bR.pv)::Pt xb 126 d.pv::Pt b9 224 [pP w 0]::Pt b8 4 [pB false]::Pt b7 51 [.raw (.slice none 0 0)]::Pt b6 124 [.list 2 .nil []]::L) u) ⟨λj=>by rw[take_zero,SO];exact hT0,?_⟩ ?_ ?_
   ·have e:stepT es d.c (ahead.take 0)=[]:=by unfold stepT;split<;>simp
    rw[e];exact O3
   ·rintro k u1 next hk ⟨hD,xx⟩ aw
    obtain⟨htb,htt⟩:=xw _ (getElem_mem hk);generalize hDf:(λj=>dB es d.c (ahead.take k) j)=D at xx;have OG:∀j,dB es d.c (ahead.take k) j=D j:=λj=>by rw[<- hDf]
    simp only[OG]at hD;have hFl:(((stepT es d.c (ahead.take k)).length:Nat):Int)<=x.T:=by
     have h2:=hD 0;rw[<- OG 0,jE]at h2;exact h2
    have dS:∀u',(∀j,((D j+cC es d.c ahead[k].binds j:Nat):Int)<=x.T)->Ow (Pt w 226 W.pv::eI W (λj=>D j+cC es d.c ahead[k].binds j)::ak W.n x es ms ids::mq Yc 124 2 ((stepT es d.c (ahead.take k)).map bR.pv++(stepT es d.c [ahead[k]]).map bR.pv)::Pt xb 126 d.pv::Pt b9 224 [pP w 0]::Pt b8 4 [pB false]::Pt b7 51 [.raw (.slice none 0 0)]::Pt b6 124 [.list 2 .nil []]::L) u'->next (IntKind.wrap .i64 ((k:Int)+1)) u':=λu' h2 h3=>by
     have e:(λj=>D j+cC es d.c ahead[k].binds j)=λj=>dB es d.c (ahead.take (k+1)) j:=by
      funext j;rw[Ef es d.c hk,OG]
     refine aw u' ⟨λj=>?_,?_⟩
     ·rw[<- congrFun e j];exact h2 j
     ·rw[<- e,JD es d.c hk,map_append];exact h3
    have Bk:(∃q,x.T<((D q+cC es d.c ahead[k].binds q:Nat):Int))->∃j,x.T<((dB es d.c ahead j:Nat):Int):=λ⟨q,hq⟩=>⟨q,by
     have h2:=Wc es d.c ahead (k+1) q
     rw[Ef es d.c hk,OG]at h2
     omega⟩
    refine ab.t (by simpa using hk) ⟨by omega,_,Ym hk,_,_,_,_,rfl,λb12 ahS=>?_⟩;refine(xx.new 123 [.list 1 .nil [],.list 4 .nil []] ahS).st 0 rfl (by simp) λu5 h5=>?_;have mw:Ow (Pt w 226 W.pv::eI W D::ak W.n x es ms ids::mq Yc 124 2 ((stepT es d.c (ahead.take k)).map bR.pv)::Pt b12 123 (bR.pv ahead[k])::Pt xb 126 d.pv::Pt b9 224 [pP w 0]::Pt b8 4 [pB false]::Pt b7 51 [.raw (.slice none 0 0)]::Pt b6 124 [.list 2 .nil []]::L) u5:=Ow.ord [1,1,1,1,0] h5;refine⟨_,mw.rd 5 rfl (by simp),ab.mk (λjY=>?_) (λjY=>?_)⟩
    ·have qH:d.c.kind=1:=by simpa using jY
     obtain⟨iA,Sh,MC⟩:=(mL _).1 aG;obtain⟨KB,Fx⟩:=(vF ms d.aB 0 d.c).1 tM;rw[if_pos (.inl qH)]at Fx;have hco:Ca d.c:=⟨iA,Sh (.inl qH)⟩;refine⟨_,_,_,_,_,_,_,_,_,_,mw.rd 5 rfl (by simp),_,_,_,_,_,_,_,_,_,_,mw.rd 5 rfl (by simp),_,_,mw.rd 4 rfl (by simp),_,_,mw.rd 5 rfl (by simp),by omega,_,tx KB,_,rfl,_,_,mw.rd 4 rfl (by simp),?_⟩;refine FR (ak.zb (x:=x) (es:=es) (ms:=ms) (ids:=ids) mw (by simp)) d.c _ _ _ _ ahead[k].binds (by omega) d.aB[0] ?_;obtain⟨fe,ga,gb,hf⟩:=wI W.n x.al d.aB[0] (fA ahead[k].binds d.c.id);rw[hf];refine⟨_,_,_,rfl,?_⟩;rw[Mem.mJ];refine(SZ fe ga gb d.c _ _ _ _ ahead[k].binds (by omega)).call ⟨_,_,_,rfl,?_⟩;have wC:iu es d.c ahead[k].binds=(aP d.c ahead[k].binds es).map (·.2):=by rw[jD,if_pos qH]
     have Ig:cC es d.c ahead[k].binds 0=(aP d.c ahead[k].binds es).length:=by rw[oP,wC,length_map]
     have nN:∀j,cC es d.c ahead[k].binds (j+1)=0:=λj=>xK _ (.inl qH) j;have fK:=Nx (es:=es) qH ahead[k];refine bu.own (wT hA hI hco (Fx.1 KB) (by omega) hf) (Ow.at 2 rfl mw)
      (λm u=>(((D 0+m:Nat):Int)<=x.T)/\Ow (Pt w 226 W.pv::eI W (mD D 0 (D 0+m))::ak W.n x es ms ids::mq Yc 124 2 ((stepT es d.c (ahead.take k)).map bR.pv++((stepT es d.c [ahead[k]]).take m).map bR.pv)::Pt b12 123 (bR.pv ahead[k])::Pt xb 126 d.pv::Pt b9 224 [pP w 0]::Pt b8 4 [pB false]::Pt b7 51 [.raw (.slice none 0 0)]::Pt b6 124 [.list 2 .nil []]::L) u)
      (λcd u=>cd=.ret/\(∃q,x.T<((D q+cC es d.c ahead[k].binds q:Nat):Int))/\∃pL rs,Ow (Pt w 226 W.pv::eI W pL::ak W.n x es ms ids::mq Yc 124 2 rs::Pt b12 123 (bR.pv ahead[k])::Pt xb 126 d.pv::Pt b9 224 [pP w 0]::Pt b8 4 [pB false]::Pt b7 51 [.raw (.slice none 0 0)]::Pt b6 124 [.list 2 .nil []]::L) u)
      (λm=>eJ.and (eJ.own _)) (λcd=>eJ.and (eJ.and (eJ.ex λ_=>eJ.ex λ_=>eJ.own _))) (λμ' h'=>⟨by simpa using hD 0,?_⟩) ?_ ?_ ?_
     ·have e:mD D 0 (D 0+0)=D:=by funext j;unfold mD;split<;>simp_all
      rw[e,take_zero,map_nil,append_nil];exact Ow.ord [1,1,0] h'
     ·rintro m hm u2 R ⟨ZW,Ij⟩ bX jW;have sE:m<(aP d.c ahead[k].binds es).length:=by simpa using hm
      have rH:m<(stepT es d.c [ahead[k]]).length:=by rw[fK,length_map];exact sE
      rw[getElem_map];refine⟨_,_,_,_,_,_,_,_,_,_,_,_,_,_,rfl,_,Ij.rd 6 rfl (by simp),?_⟩;refine vP Ij 0 (by omega) (by unfold mD;rw[if_pos rfl];omega) λu3 h3=>⟨_,rfl,?_⟩;have eu:mD (mD D 0 (D 0+m)) 0 (mD D 0 (D 0+m) 0+1)=mD D 0 (D 0+(m+1)):=by
       funext j;unfold mD;by_cases e:j=0
       ·simp[e];omega
       ·simp[e]
      have ev:mD D 0 (D 0+m) 0=D 0+m:=by unfold mD;simp
      rw[eu]at h3;rw[ev];refine ab.mk (λdc=>?_) (λCB=>?_)
      ·have RS:x.T<((D 0+m+1:Nat):Int):=by simpa using dc
       refine h3.st 9 rfl (by simp) λu4 h4=>h4.st 8 rfl (by simp) λu5 h5=>h5.st 7 rfl (by simp) λu6 h6=>jW _ _ ⟨rfl,⟨0,?_⟩,_,_,h6⟩;rw[Ig];omega
      ·have HP:((D 0+m+1:Nat):Int)<=x.T:=by simpa using CB
       obtain⟨f,ho⟩:=mq.open_ 3 h3 rfl;have hlen:((stepT es d.c (ahead.take k)).map bR.pv++((stepT es d.c [ahead[k]]).take m).map bR.pv).length<=2000000:=by
        rw[length_append,length_map,length_map,length_take];omega
       refine⟨_,_,ho.rd 0 rfl (by simp),_,_,ho.rd 5 rfl (by simp),_,_,ho.rd 5 rfl (by simp),_,_,ho.rd 5 rfl (by simp),by omega,by omega,by omega,rfl,?_⟩;refine Ow.aaM ho (by simp;omega) (by simp;omega) λf1 u4 h4=>?_;refine Ow.app h4.swap rfl (by simp only[length_cons,length_nil];omega) (by simp only[length_cons,length_nil];omega) λf2 u5 h5=>h5.st 1 rfl (by simp) λu6 h6=>bX _ ⟨by omega,?_⟩;have e2:(stepT es d.c (ahead.take k)).map bR.pv++((stepT es d.c [ahead[k]]).take (m+1)).map bR.pv=((stepT es d.c (ahead.take k)).map bR.pv++((stepT es d.c [ahead[k]]).take m).map bR.pv)++[[.list 1 .sh (List.drop (Int.toNat 0) (take (Int.toNat (((ahead[k].tags.map λx=>[pI x]).length:Nat):Int)) (ahead[k].tags.map λx=>[pI x]))++[[pI (aP d.c ahead[k].binds es)[m].1.tag]]),.list 4 .sh ((aP d.c ahead[k].binds es)[m].2.map Bind.pv)]]:=by
        rw[eV rH,append_assoc];congr 2;have e3:(stepT es d.c [ahead[k]])[m]=⟨ahead[k].tags++[(aP d.c ahead[k].binds es)[m].1.tag],(aP d.c ahead[k].binds es)[m].2⟩:=by
         simp only[fK,getElem_map]
        rw[e3];have e4:take ahead[k].tags.length (ahead[k].tags.map λx=>[pI x])=ahead[k].tags.map λx=>[pI x]:=List.take_of_length_le (by simp);simp[e4]
       rw[e2];have h7:=Ow.ord [1,1,1,0] (mq.shut h6 (by simp only[length_append,length_cons,length_nil]));exact h7
     ·rintro u2 ⟨ZW,Ij⟩;rw[length_map]at ZW Ij;dsimp only[PK];have hfn:mD D 0 (D 0+(aP d.c ahead[k].binds es).length)=λj=>D j+cC es d.c ahead[k].binds j:=by
       funext j;unfold mD;cases j with
       |zero=>rw[if_pos rfl,Ig]
       |succ j=>rw[if_neg (by omega),nN];rfl
      refine dS u2 (λj=>?_) ?_
      ·rw[<- congrFun hfn j];unfold mD;split
       ·exact ZW
       ·exact hD j
      ·rw[<- hfn];have hl:(aP d.c ahead[k].binds es).length=(stepT es d.c [ahead[k]]).length:=by rw[fK,length_map]
       rw[hl,take_length]at Ij;rw[hl];exact Ow.drop (Ow.ord [4] Ij)
     ·rintro cd u2 ⟨rfl,hq,pL,rs,Ij⟩;dsimp only[PK];refine⟨_,_,Ij.rd 9 rfl (by simp),_,_,_,Ij.rd 8 rfl (by simp),_,Ij.rd 7 rfl (by simp),?_⟩;exact .inr ⟨Bk hq,rfl,Ow.ord [0,2] (Ow.drop (Ow.drop Ij)) |> λh=>(Ow.tail h λ_ h=>h.tail λ_ h=>h.drop.drop.drop.drop.drop.drop)⟩
    ·have qH:¬d.c.kind=1:=by simpa using jY
     have fK:=Ny (es:=es) qH ahead[k];have hon:iz es [d.c] [ahead[k].binds]=iu es d.c ahead[k].binds:=by simp[iz]
     have iA:∀j,sh 0 (cL es [d.c] [ahead[k].binds]) j=cC es d.c ahead[k].binds j:=λj=>by rw[EF,Tj];simp[du]
     refine⟨_,mw.rd 6 rfl (by simp),_,_,_,_,_,_,_,_,_,_,mw.rd 5 rfl (by simp),_,_,mw.rd 4 rfl (by simp),?_⟩;have e1:[[pI d.c.kind,pB d.c.goal,pS d.c.id,.list 6 .sh (d.c.attr.map Test.pv),.list 6 .sh (d.c.value.map Test.pv),pB d.c.acc,.list 7 .sh (d.c.conds.map ae.pv)]]=[d.c].map ae.pv:=by rw[map_cons,map_nil,ae.cG]
     rw[e1];have ac5:ah [d.c]=aN d.c:=by simp[ah]
     refine cOn (W:=W) hA hI ⟨hT0,hT1⟩ (by rw[hWm,hWN,hN]) (ah [d.c]) [d.c] .nr .sh ahead[k].binds 0 D (le_refl _) ⟨aG,trivial⟩ ⟨by rw[hWm];exact tM,trivial⟩ (by omega) hD (by omega) mw (λhE fr2 u2 Ij=>⟨_,_,_,rfl,ab.f rfl ?_⟩) (λ⟨q,hq⟩ pL u2 Ij=>⟨_,_,_,rfl,ab.t rfl ?_⟩)
     ·simp only[iA]at hE Ij;rw[hon,iy];refine ab.mk (λjX=>?_) (λjX=>?_)
      ·have hz:(iu es d.c ahead[k].binds).isEmpty=false:=by
        have aZ:0<(iu es d.c ahead[k].binds).length:=by simpa using jX
        cases hx:iu es d.c ahead[k].binds with
        |nil=>rw[hx]at aZ;simp at aZ
        |cons y ys=>rfl
       rw[hz]at fK;obtain⟨f,ho⟩:=mq.open_ 3 Ij rfl;refine⟨_,_,ho.rd 0 rfl (by simp),_,_,_,_,ho.rd 5 rfl (by simp),?_⟩;refine Ow.app ho.swap rfl (by simp only[length_cons,length_nil,length_map];omega) (by simp only[length_cons,length_nil,length_map];omega) λf2 u5 h5=>h5.st 1 rfl (by simp) λu6 h6=>dS _ hE ?_;rw[fK];have h7:=Ow.ord [1,1,1,0] (mq.shut h6 (by simp;done));exact Ow.drop (Ow.ord [4] h7)
      ·have hz:(iu es d.c ahead[k].binds).isEmpty=true:=by
        have aZ:(iu es d.c ahead[k].binds).length=0:=by simpa using jX
        rw[isEmpty_iff];exact List.eq_nil_of_length_eq_zero aZ
       rw[hz]at fK;refine dS _ hE ?_;rw[fK];simp only[if_true,map_nil,append_nil];exact Ow.drop (Ow.ord [4] Ij)
     ·rw[iA]at hq;refine Ij.st 9 rfl (by simp) λu4 h4=>h4.st 8 rfl (by simp) λu5 h5=>h5.st 7 rfl (by simp) λu6 h6=>?_;refine⟨_,_,h6.rd 9 rfl (by simp[dy]),_,_,_,h6.rd 8 rfl (by simp[dy]),_,h6.rd 7 rfl (by simp[dy]),?_⟩;exact .inr ⟨Bk ⟨q,hq⟩,rfl,Ow.ord [0,2] (Ow.drop (Ow.drop h6)) |> λh=>(Ow.tail h λ_ h=>h.tail λ_ h=>h.drop.drop.drop.drop.drop.drop)⟩
   ·rintro u1 next ⟨hD,xx⟩
    refine ab.f (by simp) ?_;rw[take_length]at hD xx;obtain⟨f,mw⟩:=mq.end_ 3 xx rfl;have mw:Ow (Pt w 226 W.pv::eI W (λj=>dB es d.c ahead j)::ak W.n x es ms ids::Pt Yc 124 [.list 2 f ((stepT es d.c ahead).map bR.pv)]::Pt xb 126 d.pv::Pt b9 224 [pP w 0]::Pt b8 4 [pB false]::Pt b7 51 [.raw (.slice none 0 0)]::Pt b6 124 [.list 2 .nil []]::L) u1:=mw;have key:∀u',Ow (Pt w 226 W.pv::eI W (λj=>dB es d.c ahead j)::ak W.n x es ms ids::Pt Yc 124 [.list 2 f ((stepT es d.c ahead).map bR.pv)]::Pt xb 126 d.pv::Pt b9 224 [pP w 0]::Pt b8 4 [pB true]::Pt b7 51 [.raw (.slice W.a W.N W.c)]::Pt b6 124 [.list 2 f ((stepT es d.c ahead).map bR.pv)]::L) u'->
      ∃a c,ay u' b6 0 1=some [.list 2 f ((stepT es d.c ahead).map bR.pv)]/\ay u' b7 0 1=some [.raw (.slice a (aN d.c) c)]/\ay u' b8 0 1=some [pB true]/\Ow (cA 3 1 (.raw (.slice a (aN d.c) c)) ((range (aN d.c)).map λi=>[pI ((dB es d.c ahead i:Nat):Int)])::ak W.n x es ms ids::Pt xb 126 d.pv::L) u':=λu' h7=>by
     have h8:Ow (eI W (λj=>dB es d.c ahead j)::ak W.n x es ms ids::Pt xb 126 d.pv::L) u':=(Ow.ord [0,0,1] h7.drop).tail λ_ h=>h.tail λ_ h=>h.tail λ_ h=>h.drop.drop.drop.drop.drop;rw[ZY]at h8;refine⟨some ⟨zN,0,none⟩,aN d.c,h7.rd 8 rfl (by simp),?_,h7.rd 6 rfl (by simp),h8⟩;have h9:=h7.rd 7 (o:=0) (n:=1) rfl (by simp);subst hW;exact h9
    refine⟨_,_,mw.rd 3 rfl (by simp),⟨_,mw.rd 5 rfl (by simp),⟨_,_,_,mw.rd 0 rfl (by simp),mw.st 8 rfl (by simp) λu2 h2=>⟨h2.st 7 rfl (by simp) λu3 h3=>⟨h3.st 6 rfl (by simp) λu4 h4=>(let ⟨a,c,r1,r2,r3,hv⟩:=key _ h4;⟨_,_,r1,_,_,_,r2,_,r3,.inl ⟨hD,f,a,c,rfl,hv⟩⟩),trivial⟩,trivial⟩,trivial⟩,mw.st 8 rfl (by simp) λu2 h2=>⟨_,_,_,h2.rd 0 rfl (by simp),h2.st 7 rfl (by simp) λu3 h3=>⟨h3.st 6 rfl (by simp) λu4 h4=>(let ⟨a,c,r1,r2,r3,hv⟩:=key _ h4;⟨_,_,r1,_,_,_,r2,_,r3,.inl ⟨hD,f,a,c,rfl,hv⟩⟩),trivial⟩,trivial⟩,trivial⟩,mw.st 8 rfl (by simp) λu2 h2=>⟨_,h2.rd 5 rfl (by simp),_,_,_,h2.rd 0 rfl (by simp),h2.st 7 rfl (by simp) λu3 h3=>⟨h3.st 6 rfl (by simp) λu4 h4=>(let ⟨a,c,r1,r2,r3,hv⟩:=key _ h4;⟨_,_,r1,_,_,_,r2,_,r3,.inl ⟨hD,f,a,c,rfl,hv⟩⟩),trivial⟩,trivial⟩,trivial⟩
 ·rintro v μ' (⟨hc,f,a,c,rfl,h⟩|⟨hc,rfl,h⟩)
  ·obtain⟨mZ,bs,h2,h3,hb⟩:=cA.frz h (xE _ _) (We _ _);have e:((range (aN d.c)).map λi=>[pI ((dB es d.c ahead i:Nat):Int)])=(kK es d.c ahead).map qx:=by unfold kK;rw[List.map_map];rfl
   rw[e]at hb;refine⟨_,mZ,bs,gf.aA (ds:=[.list 2 f ((stepT es d.c ahead).map bR.pv),.list 1 .sh ((kK es d.c ahead).map qx),pB true]) rfl (by simp[PV.ok,PV.cell]) (λi p q hp hq=>?_),h2,h1 hc f mZ h3⟩
   match i with
   |0=>cases hp;cases hq;exact .same _
   |1=>cases hp;cases hq;exact hb
   |2=>cases hp;cases hq;exact .same _
   |i+3=>simp at hp
  ·refine⟨_,μ',[],gf.aA (ds:=[.list 2 .nil [],.list 1 .sh [],pB false]) rfl (by simp[PV.ok,PV.cell]) (λi p q hp hq=>?_),λb o h=>⟨h,by simp⟩,h0 hc μ' h⟩
   match i with
   |0=>cases hp;cases hq;exact .same _
   |1=>cases hp;cases hq;exact .Ke none 0 1 (.inl rfl)
   |2=>cases hp;cases hq;exact .same _
   |i+3=>simp at hp
end
theorem lT{ms:dj}(hu:bY au bO ms)(y:Int×dZ)(k:Int):aL au bO k (aY au bO y ms)=if k=y.1 then some y else aL au bO k ms:=by
 by_cases e:k=y.1
 ·rw[if_pos e];exact(a_ ar (hu.ins ar y)).2 ⟨(bg ar).2 (.inl rfl),e.symm⟩
 ·rw[if_neg e];cases hg:aL au bO k ms with
  |some x=>
   obtain⟨h1,h2⟩:=(a_ ar hu).1 hg;refine(a_ ar (hu.ins ar y)).2 ⟨(bg ar).2 (.inr ⟨h1,λh=>e ?_⟩),h2⟩;exact h2.symm.trans h
  |none=>
   refine(bx ar).2 λx hx h=>?_;rcases(bg ar).1 hx with rfl|⟨h1,_⟩
   ·exact e h.symm
   ·exact(bx ar).1 hg x h1 h
theorem Io{ms:dj}(hu:bY au bO ms)(j k:Int):aL au bO k (bU au bO j ms)=if k=j then none else aL au bO k ms:=by
 by_cases e:k=j
 ·rw[if_pos e];exact(bx ar).2 λx hx h=>((fu ar).1 hx).2 (h.trans e)
 ·rw[if_neg e];cases hg:aL au bO k ms with
  |some x=>
   obtain⟨h1,h2⟩:=(a_ ar hu).1 hg;exact(a_ ar (hu.del j)).2 ⟨(fu ar).2 ⟨h1,λh=>e (h2.symm.trans h)⟩,h2⟩
  |none=>exact(bx ar).2 λx hx h=>(bx ar).1 hg x ((fu ar).1 hx).1 h
def fQ(k:Int)(ms:dj):Int:=((aL au bO k ms).map λx=>x.2.aM).getD 0
theorem sU{ms:dj}(hu:bY au bO ms)(y:Int×dZ)(k:Int):fQ k (aY au bO y ms)=if k=y.1 then y.2.aM else fQ k ms:=by
 unfold fQ;rw[lT hu];split<;>rfl
theorem Jw{ms:dj}(hu:bY au bO ms)(j k:Int):fQ k (bU au bO j ms)=if k=j then 0 else fQ k ms:=by
 unfold fQ;rw[Io hu];split<;>rfl
theorem AY:∀{a b:List Int},a.Nodup->(∀x∈a,x∈b)->a.length<=b.length
 |[],_,_,_=>Nat.zero_le _
 |x::a,b,hn,hs=>by
  obtain⟨h1,h2⟩:=nodup_cons.1 hn
  have hx:=hs x (by simp);have:=AY (b:=b.erase x) h2 λy hy=>(List.mem_erase_of_ne (by rintro rfl;exact h1 hy)).2 (hs y (by simp[hy]));rw[List.length_erase_of_mem hx]at this;have hp:0<b.length:=List.length_pos_of_mem hx;simp only[length_cons];omega
structure fC(es:List aj)(ms:dj)(l:List Int):Prop where
 inv:dx es ms
 use:∀k,0<=k->fQ k ms=(l.count k:Nat)
theorem fC.len{es:List aj}{ms:dj}{l:List Int}(h:fC es ms l):ms.length<=l.length:=by
 have:=AY (a:=ms.map bO) (b:=l) ?_ ?_
 ·simpa using this
 ·have h1:(ms.map bO).Pairwise λa b=>au a b<0:=by rw[List.pairwise_map];exact h.inv.ni
  refine h1.imp λ{a b} xw e=>?_;rw[e]at xw;exact absurd xw (by rw[ar.self b];omega)
 ·intro k hk;obtain⟨x,hx,rfl⟩:=mem_map.1 hk;have h2:=h.use (bO x) (h.inv.num x hx).1;have h3:aL au bO (bO x) ms=some x:=(a_ ar h.inv.ni).2 ⟨hx,rfl⟩;unfold fQ at h2;rw[h3]at h2;have h4:x.2.aM=((l.count (bO x):Nat):Int):=h2;have h5:=(h.inv.aM x hx).1;exact List.count_pos_iff.1 (by omega)
theorem fC.us{es:List aj}{ms:dj}{l:List Int}(h:fC es ms l):∀x∈ms,x.2.aM<=(l.length:Nat):=λx hx=>by
 have h2:=h.use (bO x) (h.inv.num x hx).1;have h3:aL au bO (bO x) ms=some x:=(a_ ar h.inv.ni).2 ⟨hx,rfl⟩;unfold fQ at h2;rw[h3]at h2;have h4:x.2.aM=((l.count (bO x):Nat):Int):=h2;have:=List.count_le_length (a:=bO x) (l:=l);omega
theorem fC.as{es:List aj}{ms:dj}{l l':List Int}(h:fC es ms l)(e:∀k,0<=k->l.count k=l'.count k):fC es ms l':=⟨h.inv,λk hk=>by rw[h.use k hk,e k hk]⟩
theorem fC.perm{es:List aj}{ms:dj}{l l':List Int}(h:fC es ms l)(e:l.Perm l'):fC es ms l':=h.as λk _=>e.count_eq k
def iG(ms cr:dj):Prop:=∀j d,dH ms j d->dH cr j d
theorem iG.refl(ms:dj):iG ms ms:=λ_ _ h=>h
theorem iG.trans{a b c:dj}(h:iG a b)(k:iG b c):iG a c:=λj d hm=>k j d (h j d hm)
theorem tP{ms cr:dj}{aB:List Int}(hk:∀j∈aB,∀d,dH ms j d->dH cr j d):∀(c:ae) (a:Nat),kt ms aB a c->kt cr aB a c:=by
 intro c;refine ae.ind (Q:=λc=>∀a,kt ms aB a c->kt cr aB a c) (λc ih a hf=>?_) c;have hl:∀(l:List ae),(∀d∈l,∀a,kt ms aB a d->kt cr aB a d)->∀a,vE ms aB a l->vE cr aB a l:=by
  intro l;induction l with
  |nil=>intro _ _ _;unfold vE;trivial
  |cons d l ih2=>
   intro h1 a h2;unfold vE at h2 |-;exact⟨h1 d (by simp) _ h2.1,ih2 (λd' hd=>h1 d' (by simp[hd])) _ h2.2⟩
 rw[vF]at hf |-;obtain⟨ha,hf⟩:=hf;refine⟨ha,?_⟩;by_cases h:c.kind=1\/c.kind=2
 ·rw[if_pos h]at hf |-;exact⟨λh'=>hk _ (getElem_mem ha) _ (hf.1 ha),hf.2⟩
 ·rw[if_neg h]at hf |-;exact hl _ ih _ hf
theorem Bs{ms cr:dj}{aB:List Int}(hk:iG ms cr)(c:ae)(a:Nat)(h:kt ms aB a c):kt cr aB a c:=tP (λj _ d=>hk j d) c a h
theorem VZ{ms:dj}{aB:List Int}:∀(c:ae) (a dp:Nat),tp c->(∀(q:Nat) (y:Nat×Nat×ae),(f_ c a dp)[q]?=some y->∃h:a+q<aB.length,y.2.2.kind=3\/dH ms aB[a+q] y.2.2)->(∀(q:Nat) (y:Nat×Nat×ae),(f_ c a dp)[q]?=some y->y.2.2.kind=3->¬(y.2.2.kind=1\/y.2.2.kind=2))->kt ms aB a c:=by
 intro c;refine ae.ind (Q:=λc=>∀(a dp:Nat),tp c->(∀(q:Nat) (y:Nat×Nat×ae),(f_ c a dp)[q]?=some y->∃h:a+q<aB.length,y.2.2.kind=3\/dH ms aB[a+q] y.2.2)->(∀(q:Nat) (y:Nat×Nat×ae),(f_ c a dp)[q]?=some y->y.2.2.kind=3->¬(y.2.2.kind=1\/y.2.2.kind=2))->kt ms aB a c) (λc ih a dp aG hp hx=>?_) c;have hl:∀(l:List ae),(∀d∈l,∀(a dp:Nat),tp d->(∀(q:Nat) (y:Nat×Nat×ae),(f_ d a dp)[q]?=some y->∃h:a+q<aB.length,y.2.2.kind=3\/dH ms aB[a+q] y.2.2)->(∀(q:Nat) (y:Nat×Nat×ae),(f_ d a dp)[q]?=some y->y.2.2.kind=3->¬(y.2.2.kind=1\/y.2.2.kind=2))->kt ms aB a d)->∀a dp,tn l->(∀(q:Nat) (y:Nat×Nat×ae),(cQ l a dp)[q]?=some y->∃h:a+q<aB.length,y.2.2.kind=3\/dH ms aB[a+q] y.2.2)->(∀(q:Nat) (y:Nat×Nat×ae),(cQ l a dp)[q]?=some y->y.2.2.kind=3->¬(y.2.2.kind=1\/y.2.2.kind=2))->vE ms aB a l:=by
  intro l;induction l with
  |nil=>intro _ _ _ _ _ _;unfold vE;trivial
  |cons d l ih2=>
   intro h1 a dp aG h2 h3;unfold tn at aG;unfold vE;have hlen:=nG d a dp;refine⟨h1 d (by simp) a dp aG.1 (λq y hy=>h2 q y ?_) (λq y hy=>h3 q y ?_),ih2 (λd' hd=>h1 d' (by simp[hd])) (a+aN d) dp aG.2 (λq y hy=>?_) (λq y hy=>?_)⟩
   ·simp only[cQ];rw[List.getElem?_append_left (List.getElem?_eq_some_iff.1 hy).1];exact hy
   ·simp only[cQ];rw[List.getElem?_append_left (List.getElem?_eq_some_iff.1 hy).1];exact hy
   ·have:=h2 (aN d+q) y (by simp only[cQ];rw[List.getElem?_append_right (by omega),hlen];simpa using hy);simpa[add_assoc]using this
   ·exact h3 (aN d+q) y (by simp only[cQ];rw[List.getElem?_append_right (by omega),hlen];simpa using hy)
 rw[LV]at hp hx;rw[vF];obtain⟨_,Bj,MC⟩:=(mL c).1 aG;obtain⟨h0,h1⟩:=hp 0 _ rfl;refine⟨h0,?_⟩;by_cases h:c.kind=1\/c.kind=2
 ·rw[if_pos h];refine⟨λ_=>h1.resolve_left λh3=>hx 0 _ rfl h3 h,Bj h⟩
 ·rw[if_neg h];refine hl c.conds ih (a+1) (dp+1) MC (λq y hy=>?_) (λq y hy=>hx (q+1) y (by simpa using hy));have:=hp (q+1) y (by simpa using hy);simpa[add_assoc,Nat.add_comm 1]using this
theorem fC.one{es:List aj}{ms:dj}{l:List Int}(h:fC es ms l)(hl:l.length<=900000){x:Int×dZ}(hx:x∈ms){c:ae}(hc:x.2.c=bt c):
  fC es (aY au bO (x.1,{x.2 with aM:=x.2.aM+1}) ms) (x.1::l)/\dH (aY au bO (x.1,{x.2 with aM:=x.2.aM+1}) ms) x.1 c/\iG ms (aY au bO (x.1,{x.2 with aM:=x.2.aM+1}) ms):=by
 have hu:=h.inv.aM x hx;have Ov:=h.us x hx;have hg:aL au bO x.1 ms=some x:=(a_ ar h.inv.ni).2 ⟨hx,rfl⟩;refine⟨⟨h.inv.i_ hx (x':=(x.1,{x.2 with aM:=x.2.aM+1})) rfl rfl rfl ⟨by show 1<=x.2.aM+1;omega,by show x.2.aM+1<1000000;omega⟩,λk hk=>?_⟩,⟨(x.1,{x.2 with aM:=x.2.aM+1}),by rw[lT h.inv.ni,if_pos rfl],hc⟩,λj d ⟨y,hy,hd⟩=>?_⟩
 ·rw[sU h.inv.ni,count_cons];by_cases e:k=x.1
  ·have h2:=h.use k hk;unfold fQ at h2;rw[e,hg]at h2;have h2:x.2.aM=((l.count x.1:Nat):Int):=h2;rw[if_pos e,e,if_pos (by simp)];show x.2.aM+1=_;omega
  ·rw[if_neg e,if_neg (by simpa using Ne.symm e),h.use k hk];rfl
 ·unfold dH;rw[lT h.inv.ni];by_cases e:j=x.1
  ·rw[if_pos e];rw[e,hg]at hy;cases hy;exact⟨_,rfl,hd⟩
  ·rw[if_neg e];exact⟨y,hy,hd⟩
theorem fC.new{es:List aj}{ms:dj}{l:List Int}(h:fC es ms l)(hl:l.length<=900000){c:ae}(hlc:cU c)(hn:∀x∈ms,x.2.c≠bt c)(b:Nat):
  fC es (aY au bO (least ms,⟨bt c,1,b,es.filter (bf (bt c))⟩) ms) (least ms::l)/\dH (aY au bO (least ms,⟨bt c,1,b,es.filter (bf (bt c))⟩) ms) (least ms) c/\iG ms (aY au bO (least ms,⟨bt c,1,b,es.filter (bf (bt c))⟩) ms):=by
 have hle:=h.len;obtain⟨hg,hi⟩:=h.inv.new (Eo hlc) hn b (by omega);refine⟨⟨hi,λk hk=>?_⟩,⟨_,by rw[lT h.inv.ni,if_pos rfl],rfl⟩,λj d ⟨y,hy,hd⟩=>?_⟩
 ·rw[sU h.inv.ni,count_cons];by_cases e:k=least ms
  ·have h2:=h.use k hk;unfold fQ at h2;rw[e,hg]at h2;have h2:(0:Int)=((l.count (least ms):Nat):Int):=h2;rw[if_pos e,e,if_pos (by simp)];show(1:Int)=_;omega
  ·rw[if_neg e,if_neg (by simpa using Ne.symm e),h.use k hk];rfl
 ·unfold dH;rw[lT h.inv.ni];by_cases e:j=least ms
  ·rw[e,hg]at hy;cases hy
  ·rw[if_neg e];exact⟨y,hy,hd⟩
theorem fC.less{es:List aj}{ms:dj}{k:Int}{l l':List Int}(h:fC es ms l)(e:∀j,l.count j=l'.count j+(if j=k then 1 else 0)):fC es (jA k ms) l'/\∀j d,j∈l'->dH ms j d->dH (jA k ms) j d:=by
 refine⟨⟨h.inv.leave k,λj hj=>?_⟩,λj d hj ⟨y,hy,hd⟩=>?_⟩
 ·have h2:=h.use j hj;have h3:=e j;unfold jA;cases hg:aL au bO k ms with
  |none=>
   dsimp only;rw[h2];by_cases ejk:j=k
   ·rw[if_pos ejk]at h3;unfold fQ at h2;rw[ejk,hg]at h2;have h2:(0:Int)=((l.count k:Nat):Int):=h2;rw[ejk]at h3;omega
   ·rw[if_neg ejk]at h3;omega
  |some x=>
   obtain⟨hx,hxk⟩:=(a_ ar h.inv.ni).1 hg;dsimp only;split
   ·rename_i h1;rw[Jw h.inv.ni];by_cases ejk:j=k
    ·rw[if_pos ejk]at h3 |-;unfold fQ at h2;rw[ejk,hg]at h2;have h2:x.2.aM=((l.count k:Nat):Int):=h2;rw[ejk]at h3 |-;omega
    ·rw[if_neg ejk]at h3 |-;omega
   ·rename_i h1;rw[sU h.inv.ni];by_cases ejk:j=k
    ·rw[if_pos ejk]at h3;rw[if_pos (show j=(k,({x.2 with aM:=x.2.aM-1}:dZ)).1 from ejk)];unfold fQ at h2;rw[ejk,hg]at h2;have h2:x.2.aM=((l.count k:Nat):Int):=h2;show x.2.aM-1=_;rw[ejk]at h3 |-;omega
    ·rw[if_neg ejk]at h3;rw[if_neg (show ¬j=(k,({x.2 with aM:=x.2.aM-1}:dZ)).1 from ejk)];omega
 ·unfold dH jA;cases hg:aL au bO k ms with
  |none=>exact⟨y,hy,hd⟩
  |some x=>
   obtain⟨hx,hxk⟩:=(a_ ar h.inv.ni).1 hg;dsimp only;by_cases ejk:j=k
   ·rw[ejk,hg]at hy;cases hy;have h0:=h.inv.num y hx;have acV:y.1=k:=hxk;have h2:=h.use k (by omega);have h3:=e k;rw[if_pos rfl]at h3;unfold fQ at h2;rw[hg]at h2;have h2:y.2.aM=((l.count k:Nat):Int):=h2;have h4:0<l'.count k:=List.count_pos_iff.2 (ejk▸hj);rw[if_neg (by omega),lT h.inv.ni,if_pos (show j=(k,({y.2 with aM:=y.2.aM-1}:dZ)).1 from ejk)];exact⟨_,rfl,hd⟩
   ·split
    ·rw[Io h.inv.ni,if_neg ejk];exact⟨y,hy,hd⟩
    ·rw[lT h.inv.ni,if_neg (show ¬j=(k,({x.2 with aM:=x.2.aM-1}:dZ)).1 from ejk)];exact⟨y,hy,hd⟩
section
variable {n:Nat} {x:NC} {es:List aj} {ids:pQ}
theorem ak.alpha{ms:dj}{L:List aX}{μ:Mem}(h:Ow (ak n x es ms ids::L) μ):Ow (bA x.al es ms::Pt n 116 x.pv::gL x.id ids::L) μ:=(h.nest (L1:=[Pt n 116 x.pv,bA x.al es ms,gL x.id ids])).swap
theorem ak.back{ms:dj}{L:List aX}{μ:Mem}(h:Ow (bA x.al es ms::Pt n 116 x.pv::gL x.id ids::L) μ):Ow (ak n x es ms ids::L) μ:=Ow.pack (L1:=[Pt n 116 x.pv,bA x.al es ms,gL x.id ids]) h.swap
theorem aaj{ms:dj}{l:List Int}(hU:fC es ms l)(hl:l.length<=900000)(c:ae)(hlc:cU c){L:List aX}{μ:Mem}(hO:Ow (ak n x es ms ids::L) μ){K:Kq}
  (hk:∀k cr,fC es cr (k::l)->dH cr k c->iG ms cr->∀μ',Ow (ak n x es cr ids::L) μ'->K (pI k) μ'):aa prog 114 [pP x.al 0,.agg [pI c.kind,pB c.goal,pS c.id,.list 6 .sh (c.attr.map Test.pv),.list 6 .sh (c.value.map Test.pv),pB c.acc,.list 7 .sh (c.conds.map ae.pv)]] μ K:=by
 have hle:=hU.len;refine aaI (ak.alpha hO) hU.inv (by omega) (λy hy=>by have:=hU.us y hy;omega) c hlc (λy hy hc μ' h'=>?_) (λhn μ' b h'=>?_)
 ·obtain⟨h1,h2,h3⟩:=hU.one hl hy hc;exact hk _ _ h1 h2 h3 μ' (ak.back h')
 ·obtain⟨h1,h2,h3⟩:=hU.new hl hlc hn b;exact hk _ _ h1 h2 h3 μ' (ak.back h')
theorem Wp{ms:dj}{k:Int}{l l':List Int}(hU:fC es ms l)(e:∀j,l.count j=l'.count j+(if j=k then 1 else 0)){L:List aX}{μ:Mem}(hO:Ow (ak n x es ms ids::L) μ){K:Kq}
  (hk:∀b cr,fC es cr l'->(∀j d,j∈l'->dH ms j d->dH cr j d)->∀μ',Ow (ak n x es cr ids::L) μ'->K (pB b) μ'):aa prog 119 [pP x.al 0,pI k] μ K:=by
 obtain⟨h1,h2⟩:=hU.less e;exact Wv (ak.alpha hO) hU.inv k λμ' h'=>hk _ _ h1 h2 μ' (ak.back h')
end
def iQ(c:ae)(f:Fl)(aB:List Int):lZ:=⟨c,.sh,.sh,.sh,none,0,0,f,aB,.nil,[],.nil,[],0,.nil,[],.nil,[]⟩
theorem SJ(c:ae):[[pI c.kind,pB c.goal,pS c.id,.list 6 .sh (c.attr.map Test.pv),.list 6 .sh (c.value.map Test.pv),pB c.acc,.list 7 .sh (c.conds.map ae.pv)]]=[c].map ae.pv:=by rw[map_cons,map_nil,ae.cG]
theorem acL{es:List aj}{ms:dj}{l:List Int}{j:Int}{d:ae}(h:fC es ms l)(hm:dH ms j d):0<=j:=by
 obtain⟨y,hy,_⟩:=hm;obtain⟨h1,h2⟩:=(a_ ar h.inv.ni).1 hy;have:=(h.inv.num y h1).1;have h2:y.1=j:=h2;omega
section
variable {n:Nat} {x:NC} {es:List aj} {ids:pQ}
theorem aai{ms:dj}{l:List Int}(hU:fC es ms l)(hl:l.length<=800000)(c:ae)(aG:tp c)(hs:aN c<=100)(fa fv fc:Fl){L:List aX}{μ:Mem}(hO:Ow (ak n x es ms ids::L) μ){K:Kq}
  (hk:∀xb f cr aB,fC es cr (aB++l)->aB.length=aN c->kt cr aB 0 c->iG ms cr->(∀j∈aB,-1<=j)->∀μ',Ow (ak n x es cr ids::Pt xb 126 (iQ c f aB).pv::L) μ'->K (pP xb 0) μ'):
  aa prog 66 [pP n 0,.agg [pI c.kind,pB c.goal,pS c.id,.list 6 fa (c.attr.map Test.pv),.list 6 fv (c.value.map Test.pv),pB c.acc,.list 7 fc (c.conds.map ae.pv)]] μ K:=by
 obtain⟨iA,Sh,MC⟩:=(mL _).1 aG;have HR:=bN c;have hcp:=UL .sh .sh .sh c (by omega) iA;rw[ae.cG]at hcp;have pJ:cQ [c] 0 0=f_ c 0 0:=by simp[cQ]
 refine zk.c λb2 ph=>hcp.call ⟨_,_,_,_,_,_,_,_,_,_,rfl,λuE ahT b5 XD=>?_⟩;have O1:=hO.new 45 [pP n 0] ph;have O2:=O1.new 126 (iQ c .nil []).pv ahT;have O3:=O2.new 110 [.raw (.pointer none)] XD;refine O3.st 0 rfl (by simp) λu h=>?_;have h0:Ow (Pt uE 126 (iQ c .nil []).pv::ak n x es ms ids::Pt b5 110 [pP uE 0]::Pt b2 45 [pP n 0]::L) u:=Ow.ord [1,2,0] h;have h1:Ow (ak n x es ms ids::Pt uE 126 (iQ c .nil []).pv::fB .nil 0 1::Pt b5 110 [pP uE 0]::Pt b2 45 [pP n 0]::L) u:=(Ow.swap h0).tail λ_ h=>h.tail λ_ h=>h.nil (.inl rfl);rw[SJ];refine(aew .nr [c]).call ⟨_,_,_,rfl,?_⟩;have ZD:((cQ [c] 0 0).map λx=>[pI (x.1:Nat),.agg x.2.2.pv]).length=aN c:=by rw[length_map,pJ,nG]
 refine bu.own (gQ.ofP (UA [c] (by simp only[ah];omega))) (aiN h1)
  (λk u=>∃f cr aB,(aB.length=k/\(fC es cr (aB++l)/\∀j∈aB,-1<=j)/\iG ms cr/\(∀(q:Nat) (y:Nat×Nat×ae),(f_ c 0 0)[q]?=some y->∀hq:q<aB.length,y.2.2.kind=3\/dH cr aB[q] y.2.2))/\Ow (ak n x es cr ids::Pt uE 126 (iQ c f aB).pv::fB f aB.length 1::Pt b5 110 [pP uE 0]::Pt b2 45 [pP n 0]::L) u)
  (λ_ _=>False) (λk=>eJ.ex λ_=>eJ.ex λ_=>eJ.ex λ_=>eJ.and (eJ.own _)) (λ_ _ _ _ h=>h.elim) (λμ' h'=>⟨.nil,ms,[],⟨rfl,⟨hU,by simp⟩,iG.refl ms,λq y _ hq=>by simp at hq⟩,h'.drop⟩) ?_ ?_ (λ_ _ h=>h.elim)
 ·rintro k hk u R ⟨f,cr,aB,⟨oK,⟨VT,wD⟩,hK,hm⟩,rU⟩ bX _;have cj:k<(f_ c 0 0).length:=by rw[<- pJ];simpa using hk
  have qG:k<aN c:=by rw[<- nG c 0 0];exact cj
  have e0:((cQ [c] 0 0).map λx=>[pI (x.1:Nat),.agg x.2.2.pv])[k]=[pI ((f_ c 0 0)[k].1:Nat),.agg (f_ c 0 0)[k].2.2.pv]:=by
   rw[getElem_map];simp only[pJ]
  rw[e0,ae.cG];have pj:(f_ c 0 0)[k]?=some (f_ c 0 0)[k]:=getElem?_eq_getElem cj;generalize hy:(f_ c 0 0)[k]=y at pj;have Ou:cU y.2.2:=AV c 0 0 y iA (by rw[<- hy];exact getElem_mem cj);have qC:∀{f:Fl} {m2:dj} {j:Int} {u:Mem} {Kx:Fl->Mem->Prop},Ow (ak n x es m2 ids::Pt uE 126 (iQ c f aB).pv::fB f aB.length 1::Pt b5 110 [pP uE 0]::Pt b2 45 [pP n 0]::L) u->(∀f' u',Ow (fB f' (aB.length+1) 1::ak n x es m2 ids::Pt uE 126 (iQ c f aB).pv::Pt b5 110 [pP uE 0]::Pt b2 45 [pP n 0]::L) u'->Kx f' u')->aW false 1 8 f (aB.map gV) [[pI j]] u Kx:=λ{f m2 j u Kx} h hK=>by
   have h':Ow (fB f aB.length 1::ak n x es m2 ids::Pt uE 126 (iQ c f aB).pv::Pt b5 110 [pP uE 0]::Pt b2 45 [pP n 0]::L) u:=Ow.ord [2] h;exact h'.app (by simp) (by simp;omega) (by simp;omega) λf' u' h2=>hK f' u' h2
  have Xf:∀{f f':Fl} {m2:dj} {j:Int} {u:Mem} {Kx:Mem->Prop},Ow (fB f' (aB.length+1) 1::ak n x es m2 ids::Pt uE 126 (iQ c f aB).pv::Pt b5 110 [pP uE 0]::Pt b2 45 [pP n 0]::L) u->(∀u',Ow (ak n x es m2 ids::Pt uE 126 (iQ c f' (aB++[j])).pv::fB f' (aB++[j]).length 1::Pt b5 110 [pP uE 0]::Pt b2 45 [pP n 0]::L) u'->Kx u')->stM uE 8 [.list 1 f' (aB.map gV++[[pI j]])] u Kx:=λ{f f' m2 j u Kx} h hK=>by
   refine h.st 2 rfl (by simp) λu' h2=>hK u' ?_;have e:dy (iQ c f aB).pv 8 [.list 1 f' (aB.map gV++[[pI j]])]=(iQ c f' (aB++[j])).pv:=by
    simp only[iQ,lZ.pv,map_append];rfl
   rw[e]at h2;rw[show(aB++[j]).length=aB.length+1 from by simp];exact Ow.ord [1,1,0] h2
  have fin:∀{f':Fl} {m2:dj} {j:Int} {u:Mem},(0<=j/\fC es m2 (j::(aB++l)))\/(j= -1/\fC es m2 (aB++l))->iG cr m2->(y.2.2.kind=3\/dH m2 j y.2.2)->Ow (ak n x es m2 ids::Pt uE 126 (iQ c f' (aB++[j])).pv::fB f' (aB++[j]).length 1::Pt b5 110 [pP uE 0]::Pt b2 45 [pP n 0]::L) u->R none u:=λ{f' m2 j u} hu eT hmj h=>by
   refine bX _ ⟨f',m2,aB++[j],⟨by simp[oK],⟨?_,λj' Jn=>?_⟩,hK.trans eT,λq z hz hq=>?_⟩,h⟩
   ·rcases hu with⟨_,hu⟩|⟨rfl,hu⟩
    ·exact hu.perm (by simpa using(List.perm_middle (a:=j) (l₁:=aB) (l₂:=l)).symm)
    ·refine hu.as λk hk=>?_;rw[count_append,count_append,count_append,count_cons,if_neg (by simp;omega)];simp
   ·rcases mem_append.1 Jn with Jn|Jn
    ·exact wD j' Jn
    ·simp only[mem_singleton]at Jn;subst Jn;rcases hu with⟨h0,_⟩|⟨rfl,_⟩<;>omega
   ·by_cases hql:q<aB.length
    ·rw[List.getElem_append_left hql];exact(hm q z hz hql).imp id (eT _ _)
    ·have hqk:q=aB.length:=by simp at hq;omega
     subst hqk;rw[oK,pj]at hz;cases hz;rw[List.getElem_append_right (by omega)];simpa using hmj
  refine⟨_,_,_,_,_,_,_,_,_,_,_,rfl,ab.mk (λh3=>?_) (λh3=>?_)⟩
  ·have XL:y.2.2.kind=3:=by simpa using h3
   have lf:∀{f' u'} (_:Ow (fB f' (aB.length+1) 1::ak n x es cr ids::Pt uE 126 (iQ c f aB).pv::Pt b5 110 [pP uE 0]::Pt b2 45 [pP n 0]::L) u'),stM uE 8 [.list 1 f' (aB.map gV++[[pI (-1)]])] u' λUk=>R none Uk:=λh=>Xf h λUk h'=>fin (.inr ⟨rfl,VT⟩) (iG.refl _) (.inl XL) h';refine⟨_,rU.rd 3 rfl (by simp),_,_,rU.rd 1 rfl (by simp[iQ]),⟨_,rU.rd 3 rfl (by simp),⟨qC rU λf' u' h=>⟨lf h,trivial⟩,trivial⟩,trivial⟩,⟨qC rU λf' u' h=>⟨_,h.rd 3 rfl (by simp),lf h,trivial⟩,trivial⟩,trivial⟩
  ·have dr:∀{u:Mem} {Kx:Kq},Ow (ak n x es cr ids::Pt uE 126 (iQ c f aB).pv::fB f aB.length 1::Pt b5 110 [pP uE 0]::Pt b2 45 [pP n 0]::L) u->(∀j m2,fC es m2 (j::(aB++l))->iG cr m2->dH m2 j y.2.2->∀u',Ow (ak n x es m2 ids::Pt uE 126 (iQ c f aB).pv::fB f aB.length 1::Pt b5 110 [pP uE 0]::Pt b2 45 [pP n 0]::L) u'->Kx (pI j) u')->aa prog 114 [pP x.al 0,.agg [pI y.2.2.kind,pB y.2.2.goal,pS y.2.2.id,.list 6 .sh (y.2.2.attr.map Test.pv),.list 6 .sh (y.2.2.value.map Test.pv),pB y.2.2.acc,.list 7 .sh (y.2.2.conds.map ae.pv)]] u Kx:=λh hK=>aaj VT (by rw[length_append];omega) y.2.2 Ou h λj m2 a1 a2 a3 u' h'=>hK j m2 a1 a3 a2 u' h';have lf:∀{f' u' j m2} (_:fC es m2 (j::(aB++l))) (_:iG cr m2) (_:dH m2 j y.2.2) (_:Ow (fB f' (aB.length+1) 1::ak n x es m2 ids::Pt uE 126 (iQ c f aB).pv::Pt b5 110 [pP uE 0]::Pt b2 45 [pP n 0]::L) u'),stM uE 8 [.list 1 f' (aB.map gV++[[pI j]])] u' λUk=>R none Uk:=λa1 a2 a3 h=>Xf h λUk h'=>fin (.inl ⟨acL a1 a3,a1⟩) a2 (.inr a3) h';refine⟨_,rU.rd 4 rfl (by simp),_,aI (ak.zb (x:=x) (es:=es) (ms:=cr) (ids:=ids) rU (by simp)) (by simp),?_,?_,?_,trivial⟩
   ·refine⟨_,rU.rd 3 rfl (by simp),⟨_,rU.rd 3 rfl (by simp),⟨_,_,rU.rd 1 rfl (by simp[iQ]),dr rU λj m2 a1 a2 a3 u' h=>⟨_,rfl,⟨qC h λf' u2 h2=>⟨lf a1 a2 a3 h2,trivial⟩,trivial⟩,trivial⟩,trivial⟩,dr rU λj m2 a1 a2 a3 u' h=>⟨_,rfl,_,_,h.rd 1 rfl (by simp[iQ]),⟨qC h λf' u2 h2=>⟨lf a1 a2 a3 h2,trivial⟩,trivial⟩,trivial⟩,trivial⟩,dr rU λj m2 a1 a2 a3 u' h=>⟨_,rfl,_,h.rd 3 rfl (by simp),_,_,h.rd 1 rfl (by simp[iQ]),⟨qC h λf' u2 h2=>⟨lf a1 a2 a3 h2,trivial⟩,trivial⟩,trivial⟩,trivial⟩
   ·refine⟨_,rU.rd 3 rfl (by simp),⟨_,_,rU.rd 1 rfl (by simp[iQ]),dr rU λj m2 a1 a2 a3 u' h=>⟨_,rfl,⟨_,h.rd 3 rfl (by simp),⟨qC h λf' u2 h2=>⟨lf a1 a2 a3 h2,trivial⟩,trivial⟩,trivial⟩,⟨qC h λf' u2 h2=>⟨_,h2.rd 3 rfl (by simp),lf a1 a2 a3 h2,trivial⟩,trivial⟩,trivial⟩,trivial⟩,dr rU λj m2 a1 a2 a3 u' h=>⟨_,rfl,_,_,h.rd 1 rfl (by simp[iQ]),⟨_,h.rd 3 rfl (by simp),⟨qC h λf' u2 h2=>⟨lf a1 a2 a3 h2,trivial⟩,trivial⟩,trivial⟩,⟨qC h λf' u2 h2=>⟨_,h2.rd 3 rfl (by simp),lf a1 a2 a3 h2,trivial⟩,trivial⟩,trivial⟩,trivial⟩
   ·exact dr rU λj m2 a1 a2 a3 u' h=>⟨_,rfl,_,h.rd 3 rfl (by simp),_,_,h.rd 1 rfl (by simp[iQ]),⟨_,h.rd 3 rfl (by simp),⟨qC h λf' u2 h2=>⟨lf a1 a2 a3 h2,trivial⟩,trivial⟩,trivial⟩,⟨qC h λf' u2 h2=>⟨_,h2.rd 3 rfl (by simp),lf a1 a2 a3 h2,trivial⟩,trivial⟩,trivial⟩
 ·rintro u ⟨f,cr,aB,⟨oK,⟨VT,wD⟩,hK,hm⟩,rU⟩;rw[ZD]at oK;dsimp only[PK];refine⟨_,rU.rd 3 rfl (by simp),hk uE f cr aB VT oK (VZ c 0 0 aG (λq y hy=>?_) λq y hy h3 h=>by omega) hK wD u ?_⟩
  ·have hq:q<(f_ c 0 0).length:=(List.getElem?_eq_some_iff.1 hy).1;rw[nG]at hq;refine⟨by omega,?_⟩;simp only[Nat.zero_add];exact hm q y hy (by omega)
  ·exact rU.tail λ_ h=>h.tail λ_ h=>h.drop.drop.drop
theorem MS{ms:dj}{l:List Int}{xb:Nat}(d:lZ)(hU:fC es ms (d.aB++l))(hd:d.aB.length<=1000){L:List aX}{μ:Mem}(hO:Ow (ak n x es ms ids::Pt xb 126 d.pv::L) μ){K:Kq}
  (hk:∀cr,fC es cr l->(∀j d,j∈l->dH ms j d->dH cr j d)->∀μ',Ow (ak n x es cr ids::Pt xb 126 d.pv::L) μ'->K (.aA []) μ'):aa prog 68 [pP n 0,pP xb 0] μ K:=by
 refine xZ.c ⟨_,_,hO.rd 1 rfl (by simp),?_⟩;refine ao.each (n:=d.aB.length) (by omega) (λk u=>∃cr,(fC es cr (d.aB.drop k++l)/\(∀j d,j∈l->dH ms j d->dH cr j d))/\Ow (ak n x es cr ids::Pt xb 126 d.pv::L) u) ⟨ms,⟨by simpa using hU,λj d _ h=>h⟩,hO⟩ ?_ ?_
 ·rintro k u next cj ⟨cr,⟨VT,hK⟩,h⟩ aw
  refine ab.t (by simpa using cj) ⟨by omega,_,tx cj,_,rfl,?_⟩;refine⟨_,aI (ak.zb (x:=x) (es:=es) (ms:=cr) (ids:=ids) h (by simp)) (by simp),Wp VT (l':=d.aB.drop (k+1)++l) (λj=>?_) h λb m2 hU2 hK2 u2 h2=>⟨_,rfl,aw _ ⟨m2,⟨hU2,λj d hj hm=>hK2 j d (by simp[hj]) (hK j d hj hm)⟩,h2⟩⟩⟩;rw[List.drop_eq_getElem_cons cj,count_append,count_append,count_cons];by_cases e:j=d.aB[k]
  ·rw[if_pos (by simp[e]),if_pos e];omega
  ·rw[if_neg (by simpa using Ne.symm e),if_neg e];omega
 ·rintro u next ⟨cr,⟨VT,hK⟩,h⟩
  refine ab.f (by simp) ?_;rw[List.drop_length]at VT;exact hk cr (by simpa using VT) hK u h
end
namespace RN
abbrev El:={n:Int // -1<=n/\n<1000000}
@[reducible] def pv(x:El):List PV:=[pI x.1]
@[reducible] def arg(x:El):PV:=pI x.1
def key(x:El):Int:=x.1
def ck(a b:Int):Int:=a-b
theorem hc:ns ck:=⟨λa b=>by unfold ck;omega,λa b=>by unfold ck;omega,λa b d h k=>by unfold ck at *;omega⟩
theorem tY(a b:El):Pure prog 306 [arg a,arg b] (pI (ck (key a) (key b))):=by
 refine av.of (pT.c ?_);obtain⟨a,ha⟩:=a;obtain⟨b,hb⟩:=b;show _=pI (a-b);simp only[wk,bV];rw[aC (by omega) (by omega)]
@[reducible] noncomputable def D:SD:=⟨prog,244,158,1,8,306,λQ=>∃x,Q [pI x],λr=>r.headD .aV,[pI (0)]⟩
abbrev At(b:Nat)(l:List El):aX:=cb 244 158 1 b (l.map pv)
theorem mr:Pp D pv arg key ck:=⟨λx Q h=>⟨_,h⟩,λ_=>rfl,λ_=>rfl,λ_=>rfl,λ_=>rfl,hc,tY,λv=>by kernel_rfl,rfl,by decide,by decide⟩
theorem dd{x:El}{a0:Option Addr}{u0:Mem}{K:Kq}(h:D.find a0 u0 K (arg x)):aa prog 133 [pA a0,arg x] u0 K:=VC [] [(2,⟨[(6,.one (.raw (.int .i64))),(7,.one (.raw (.int .i64)))],[]⟩)] [] [] [] [] [] func133 h
theorem EX{x:El}{a0:Option Addr}{u0:Mem}{K:Kq}(h:D.place a0 u0 K (arg x) 133):aa prog 194 [pA a0,arg x] u0 K:=VC [] [] [] [] [] [] [] func194 h
def qV:=mr.qV dd EX
theorem gU{a0:Option Addr}{u0:Mem}{K:Kq}(h:D.own a0 u0 K):aa prog 134 [pA a0] u0 K:=VC [] [] [] [] [] [] [] func134 h
theorem lI{x:El}{a0:Option Addr}{u0:Mem}{K:Kq}(h:D.put a0 u0 K (pv x) (arg x) 133 134):aa prog 79 [pA a0,arg x] u0 K:=VC [] [(9,⟨[(7,.one (.raw (.int .i64)))],[]⟩)] [] [] [] [] [23,32,43,48,57] func79 h
def fV:=mr.fV dd gU lI
theorem lJ{fl:Fl}{l:Lq}{u0:Mem}{K:Kq}(h:D.new u0 K 79 l):aa prog 76 [.list 1 fl l] u0 K:=VC [] [(3,⟨[(10,.one (.raw (.int .i64)))],[]⟩)] [] [] [] [] [] func76 h
def gu:=mr.gu fV lJ
end RN
def oD{α:Type}(f:α->α->Bool):List α->List α->Bool
 |[],[]=>true
 |a::l,b::r=>f a b&&oD f l r
 |_,_=>false
theorem tB{α:Type}{f:α->α->Bool}(h:∀a b,f a b=true↔a=b):∀a b:List α,oD f a b=true↔a=b
 |[],[]=>by simp[oD]
 |[],b::r=>by simp[oD]
 |a::l,[]=>by simp[oD]
 |a::l,b::r=>by simp only[oD,Bool.and_eq_true,h,tB h l r,List.cons.injEq]
def Uu(a b:Sym):Bool:=eZ a b
theorem uL(a b:Sym):Uu a b=true↔a=b:=dm
def EA(a b:Test):Bool:=(a.rel == b.rel)&&(aK a.var b.var&&(Uu a.sym b.sym&&oD Uu a.list b.list))
theorem JA(a b:Test):EA a b=true↔a=b:=by
 unfold EA;obtain⟨r,v,s,l⟩:=a;obtain⟨r',v',s',l'⟩:=b;simp only[Bool.and_eq_true,beq_iff_eq,bD,uL,tB uL,Test.mk.injEq]
mutual
def eqC:ae->ae->Bool
 | .mk k g i a v ac cs,d=>(k == d.kind)&&((g == d.goal)&&(aK i d.id&&(oD EA a d.attr&&(oD EA v d.value&&((ac == d.acc)&&eqL cs d.conds)))))
def eqL:List ae->List ae->Bool
 |[],ds=>ds.isEmpty
 |c::cs,ds=>match ds with|[]=>false|d::ds=>eqC c d&&eqL cs ds
end
mutual
theorem FK:∀(c d:ae),eqC c d=true↔c=d
 | .mk k g i a v ac cs,.mk k' g' i' a' v' ac' OR=>by
   simp only[eqC,ae.kind,ae.goal,ae.id,ae.attr,ae.value,ae.acc,ae.conds,Bool.and_eq_true,beq_iff_eq,bD,tB JA,ML cs,ae.mk.injEq]
theorem ML:∀(cs ds:List ae),eqL cs ds=true↔cs=ds
 |[],ds=>by simp only[eqL,isEmpty_iff];exact eq_comm
 |c::cs,[]=>by simp[eqL]
 |c::cs,d::ds=>by simp only[eqL,Bool.and_eq_true,FK c,ML cs,List.cons.injEq]
end
instance decCond:DecidableEq ae:=λc d=>if h:eqC c d=true then isTrue ((FK c d).1 h)else isFalse λe=>h ((FK c d).2 e)
abbrev Path:=List ae
structure Tree where
 D:List Path
 B:Path->Nat
 M:Path->List Int
 E:Path->Nat
 K:Path->List ae
 S:Path->Option Addr×Nat
def GI:ae:=.mk 0 false ⟨#[]⟩ [] [] false []
def HK(p:Path):ae:=p.getLast?.getD GI
@[simp] theorem oF(p:Path)(c:ae):HK (p++[c])=c:=by simp[HK]
structure Fls where
 a:Fl
 v:Fl
 c:Fl
 m:Fl
 t:Fl
 k:Fl
 f:Fl
 q:Fl
@[reducible] def gJ(T:Tree)(tk:Path->List bR)(ct:Path->List Nat)(fr:Path->List bR)(mn:Path->List Nat)(p:Path)(F:Fls):lZ:=⟨HK p,F.a,F.v,F.c,(T.S p).1,(T.K p).length,(T.S p).2,F.m,T.M p,F.t,tk p,F.k,ct p,(T.E p:Nat),F.f,fr p,F.q,mn p⟩
@[reducible] def ij(T:Tree)(p:Path):Lq:=(T.K p).map λc=>[pP (T.B (p++[c])) 0]
@[reducible] def Gz(T:Tree)(p:Path):aX:=cA 110 1 (.raw (.slice (T.S p).1 (T.K p).length (T.S p).2)) (ij T p)
def dW(T:Tree)(tk:Path->List bR)(ct:Path->List Nat)(fr:Path->List bR)(mn:Path->List Nat)(p:Path):aX:=λμ=>∃F,Ow [Pt (T.B p) 126 (gJ T tk ct fr mn p F).pv,Gz T p] μ
def ca(T:Tree)(tk:Path->List bR)(ct:Path->List Nat)(fr:Path->List bR)(mn:Path->List Nat):aX:=Ow (T.D.map (dW T tk ct fr mn))
section
variable {T:Tree} {tk:Path->List bR} {ct:Path->List Nat} {fr:Path->List bR} {mn:Path->List Nat} {L:List aX} {μ:Mem}
theorem ca.out{p:Path}(hp:p∈T.D)(h:Ow (ca T tk ct fr mn::L) μ):∃A B F,T.D=A++p::B/\Ow (Pt (T.B p) 126 (gJ T tk ct fr mn p F).pv::Gz T p::Ow ((A++B).map (dW T tk ct fr mn))::L) μ:=by
 obtain⟨A,B,e⟩:=append_of_mem hp;unfold ca at h;rw[e,map_append,map_cons]at h;have h1:Ow (dW T tk ct fr mn p::Ow ((A++B).map (dW T tk ct fr mn))::L) μ:=by
  have h2:=h.nest;rw[append_assoc]at h2;have h3:Ow (dW T tk ct fr mn p::(A.map (dW T tk ct fr mn)++(B.map (dW T tk ct fr mn)++L))) μ:=Ow.wZ (L1:=A.map (dW T tk ct fr mn)) h2;refine h3.tail λν hν=>Ow.pack ?_;rw[map_append,append_assoc];exact hν
 obtain⟨F,h2⟩:=Ow.ex h1;exact⟨A,B,F,e,h2.nest (L1:=[Pt (T.B p) 126 (gJ T tk ct fr mn p F).pv,Gz T p])⟩
theorem ca.in_{p:Path}{A B:List Path}(e:T.D=A++p::B){F:Fls}(h:Ow (Pt (T.B p) 126 (gJ T tk ct fr mn p F).pv::Gz T p::Ow ((A++B).map (dW T tk ct fr mn))::L) μ):Ow (ca T tk ct fr mn::L) μ:=by
 have h1:Ow (Ow [Pt (T.B p) 126 (gJ T tk ct fr mn p F).pv,Gz T p]::Ow ((A++B).map (dW T tk ct fr mn))::L) μ:=Ow.pack (L1:=[Pt (T.B p) 126 (gJ T tk ct fr mn p F).pv,Gz T p]) h;have h2:Ow (dW T tk ct fr mn p::Ow ((A++B).map (dW T tk ct fr mn))::L) μ:=h1.imp λν hν=>⟨F,hν⟩;unfold ca;rw[e,map_append,map_cons];refine Ow.pack ?_;rw[append_assoc];refine Ow.GN (L1:=A.map (dW T tk ct fr mn)) (L:=B.map (dW T tk ct fr mn)++L) (h2.tail λν hν=>?_);have h3:=hν.nest;rw[map_append,append_assoc]at h3;exact h3
theorem ca.congr{wA:Path->List bR}{yO:Path->List Nat}{nQ:Path->List bR}{nq:Path->List Nat}{A:List Path}(h:∀q∈A,wA q=tk q/\yO q=ct q/\nQ q=fr q/\nq q=mn q):A.map (dW T wA yO nQ nq)=A.map (dW T tk ct fr mn):=
 List.map_congr_left λq hq=>by
  obtain⟨h1,h2,h3,h4⟩:=h q hq;unfold dW gJ;rw[h1,h2,h3,h4]
theorem ca.set{wA:Path->List bR}{yO:Path->List Nat}{nQ:Path->List bR}{nq:Path->List Nat}{p:Path}{A B:List Path}(hn:T.D.Nodup)(e:T.D=A++p::B){F:Fls}(hq:∀q∈T.D,q≠p->wA q=tk q/\yO q=ct q/\nQ q=fr q/\nq q=mn q)
  (h:Ow (Pt (T.B p) 126 (gJ T wA yO nQ nq p F).pv::Gz T p::Ow ((A++B).map (dW T tk ct fr mn))::L) μ):Ow (ca T wA yO nQ nq::L) μ:=by
 refine ca.in_ e (F:=F) ?_;rw[ca.congr (tk:=tk) (ct:=ct) (fr:=fr) (mn:=mn)]
 ·exact h
 ·intro q hm;refine hq q (by rw[e];rcases mem_append.1 hm with h|h<;>simp[h]) λeq=>?_;subst eq;rw[e]at hn;have:=nodup_append.1 hn;rcases mem_append.1 hm with h|h
  ·exact this.2.2 q h q (by simp) rfl
  ·exact(nodup_cons.1 this.2.1).1 h
theorem ca.same{wA:Path->List bR}{yO:Path->List Nat}{nQ:Path->List bR}{nq:Path->List Nat}(hq:∀q∈T.D,wA q=tk q/\yO q=ct q/\nQ q=fr q/\nq q=mn q)(h:Ow (ca T tk ct fr mn::L) μ):Ow (ca T wA yO nQ nq::L) μ:=by
 unfold ca at h |-;rw[ca.congr (tk:=tk) (ct:=ct) (fr:=fr) (mn:=mn) hq];exact h
theorem ca.rd{p:Path}(hp:p∈T.D)(h:Ow (ca T tk ct fr mn::L) μ):∃F:Fls,μ (T.B p)=some (.cells 126 (gJ T tk ct fr mn p F).pv):=by
 obtain⟨A,B,F,e,h1⟩:=ca.out hp h;exact⟨F,h1.get 0 rfl⟩
theorem ca.kid{p:Path}(hp:p∈T.D)(h:Ow (ca T tk ct fr mn::L) μ){i:Nat}(hi:i<(T.K p).length):∃b,(T.S p).1=some ⟨b,0,none⟩/\ay μ b (0+i*1) 1=some [pP (T.B (p++[(T.K p)[i]])) 0]:=by
 obtain⟨A,B,F,e,h1⟩:=ca.out hp h;have hlen:i<(ij T p).length:=by simpa using hi
 obtain⟨b,ha,eR,_⟩:=cA.at_ 1 h1 rfl (λr hr=>by obtain⟨c,_,rfl⟩:=mem_map.1 hr;rfl) (j:=i) hlen;refine⟨b,ha,?_⟩;have:=eR 0 1 (by omega);simp only[getElem_map]at this;simpa using this
end
structure rV(T:Tree):Prop where
 nodup:T.D.Nodup
 root:[]∈T.D
 kids:∀p∈T.D,∀c,c∈T.K p↔p++[c]∈T.D
 HL:∀p∈T.D,(T.K p).Nodup
 up:∀p c,p++[c]∈T.D->p∈T.D
 len:∀p∈T.D,p.length<=16
 YK:∀p∈T.D,tn p
 size:∀p∈T.D,ah p<=100
 ml:∀p c,p++[c]∈T.D->(T.M (p++[c])).length=aN c
 m0:T.M []=[]
 KJ:T.D.length<=5000
 mge:∀p∈T.D,∀j∈T.M p,-1<=j
theorem oh{p:Path}(h:p≠[]):∃q c,p=q++[c]:=⟨p.dropLast,p.getLast h,(List.dropLast_concat_getLast h).symm⟩
theorem rV.pre{T:Tree}(h:rV T)(r s:Path):s++r∈T.D->s∈T.D:=by
 have key:∀(n:Nat) (r s:Path),r.length<=n->s++r∈T.D->s∈T.D:=by
  intro n;induction n with
  |zero=>
   intro r s hr hs;have:r=[]:=List.eq_nil_of_length_eq_zero (by omega);subst this;simpa using hs
  |succ n ih=>
   intro r s hr hs;by_cases e:r=[]
   ·subst e;simpa using hs
   ·obtain⟨q,c,rfl⟩:=oh e;rw[<- append_assoc]at hs;exact ih q s (by simp at hr;omega) (h.up _ _ hs)
 exact key r.length r s (le_refl _)
theorem rV.below{T:Tree}(h:rV T){p q:Path}(hp:p∈T.D)(hq:q∈T.D):(p <+: q/\q≠p)↔∃c∈T.K p,(p++[c]) <+: q:=by
 constructor
 ·rintro⟨⟨r,rfl⟩,aZ⟩;cases r with
  |nil=>simp at aZ
  |cons c r=>
   refine⟨c,(h.kids p hp c).2 ?_,⟨r,by simp⟩⟩;exact h.pre r (p++[c]) (by simpa using hq)
 ·rintro⟨c,hc,r,rfl⟩;exact⟨⟨c::r,by simp⟩,λe=>by have:=congrArg List.length e;simp at this⟩
theorem rV.QK{T:Tree}(h:rV T){p q:Path}(hq:q∈T.D)(hp:p <+: q):p∈T.D:=by
 obtain⟨r,rfl⟩:=hp;exact h.pre r p hq
theorem NZ{α:Type}[DecidableEq α]{a b:List α}(ha:a.Nodup)(hb:b.Nodup)(h:∀x,x∈a↔x∈b):a.length=b.length:=((List.perm_ext_iff_of_nodup ha hb).2 h).length_eq
def under(l:List ae)(p q:Path):Bool:=l.any λc=>decide ((p++[c]) <+: q)
def mix{α:Type}(l:List ae)(p:Path)(f g:Path->α):Path->α:=λq=>if under l p q then f q else g q
def aF{α:Type}(f:Path->α)(p:Path)(v:α):Path->α:=λq=>if q=p then v else f q
@[simp] theorem cx{α:Type}(f:Path->α)(p:Path)(v:α):aF f p v p=v:=by simp[aF]
theorem aT{α:Type}{f:Path->α}{p q:Path}{v:α}(h:q≠p):aF f p v q=f q:=by simp[aF,h]
theorem gz{l:List ae}{p q:Path}:under l p q=true↔∃c∈l,(p++[c]) <+: q:=by
 unfold under;rw[List.any_eq_true];simp
theorem rV.Rv{T:Tree}(h:rV T){p:Path}(hp:p∈T.D){i:Nat}(hi:i<(T.K p).length):p++[(T.K p)[i]]∈T.D:=(h.kids p hp _).1 (getElem_mem hi)
theorem jx{α:Type}[DecidableEq α]:∀{a b:List α},a.Nodup->(∀x∈a,x∈b)->a.length<=b.length:=by
 intro a;induction a with
 |nil=>intro b _ _;exact Nat.zero_le _
 |cons x a ih=>
  intro b hn hs;obtain⟨h1,h2⟩:=nodup_cons.1 hn;have hx:=hs x (by simp);have:=ih (b:=b.erase x) h2 λy hy=>(List.mem_erase_of_ne (by rintro rfl;exact h1 hy)).2 (hs y (by simp[hy]));rw[List.length_erase_of_mem hx]at this;have hp:0<b.length:=List.length_pos_of_mem hx;simp only[length_cons];omega
theorem rV.kl{T:Tree}(h:rV T){p:Path}(hp:p∈T.D):(T.K p).length<=T.D.length:=by
 have hn2:((T.K p).map λc=>p++[c]).Nodup:=List.Pairwise.map _ (λa b xw e=>xw (by simpa using e)) (h.HL p hp);have h1:=jx hn2 (b:=T.D) λx hx=>by
  obtain⟨c,hc,rfl⟩:=mem_map.1 hx;exact(h.kids p hp c).1 hc
 simpa using h1
theorem Qs{p q:Path}{c d:ae}(h1:(p++[c]) <+: q)(h2:(p++[d]) <+: q):c=d:=by
 have e2:p++[c]=p++[d]:=by
  rcases List.prefix_or_prefix_of_prefix h1 h2 with h3|h3
  ·exact h3.eq_of_length (by simp)
  ·exact(h3.eq_of_length (by simp)).symm
 simpa using e2
theorem rV.step{T:Tree}(h:rV T){p:Path}(hp:p∈T.D){i:Nat}(hi:i<(T.K p).length){q:Path}(hq:q∈T.D):
  (q=p++[(T.K p)[i]]/\under ((T.K p).take i) p q=false/\under (T.K (p++[(T.K p)[i]])) (p++[(T.K p)[i]]) q=false/\under ((T.K p).take (i+1)) p q=true)\/
  (q≠p++[(T.K p)[i]]/\under (T.K (p++[(T.K p)[i]])) (p++[(T.K p)[i]]) q=true/\under ((T.K p).take i) p q=false/\under ((T.K p).take (i+1)) p q=true)\/
  (q≠p++[(T.K p)[i]]/\under (T.K (p++[(T.K p)[i]])) (p++[(T.K p)[i]]) q=false/\under ((T.K p).take (i+1)) p q=under ((T.K p).take i) p q):=by
 have tL:=h.Rv hp hi;have aZ:∀q,(p++[(T.K p)[i]]) <+: q->under ((T.K p).take i) p q=false:=λq hq=>by
  cases hu:under ((T.K p).take i) p q with
  |false=>rfl
  |true=>
   obtain⟨c,hc,h2⟩:=gz.1 hu;have e:=Qs h2 hq;subst e;obtain⟨j,hj,e⟩:=List.mem_iff_getElem.1 hc;rw[List.getElem_take]at e;have hj2:j<i:=by rw[length_take]at hj;omega
   have:=(List.getElem_inj (h.HL p hp) (h₀:=by omega) (h₁:=hi)).1 e;omega
 have gX:under ((T.K p).take (i+1)) p q=(under ((T.K p).take i) p q||decide ((p++[(T.K p)[i]]) <+: q)):=by
  unfold under;rw[take_add_one,getElem?_eq_getElem hi,List.any_append];simp
 by_cases e:q=p++[(T.K p)[i]]
 ·left;have fS:(p++[(T.K p)[i]]) <+: q:=by rw[e];exact List.prefix_refl _
  refine⟨e,aZ q fS,?_,by rw[gX];simp[fS]⟩;cases hu:under (T.K (p++[(T.K p)[i]])) (p++[(T.K p)[i]]) q with
  |false=>rfl
  |true=>exact absurd e ((h.below tL hq).2 (gz.1 hu)).2
 ·right;by_cases fS:(p++[(T.K p)[i]]) <+: q
  ·left;exact⟨e,gz.2 ((h.below tL hq).1 ⟨fS,e⟩),aZ q fS,by rw[gX];simp[fS]⟩
  ·right;refine⟨e,?_,by rw[gX];simp[fS]⟩;cases hu:under (T.K (p++[(T.K p)[i]])) (p++[(T.K p)[i]]) q with
   |false=>rfl
   |true=>exact absurd ((h.below tL hq).2 (gz.1 hu)).1 fS
section
variable {T:Tree} {fr:Path->List bR} {mn:Path->List Nat}
theorem Wi(h:rV T):∀(n:Nat) (p:Path) (tk:Path->List bR) (ct:Path->List Nat) (fr:Path->List bR) (mn:Path->List Nat),p∈T.D->17-p.length<=n->∀{L:List aX} {μ:Mem},Ow (ca T tk ct fr mn::L) μ->∀{K:Kq},(∀μ',Ow (ca T (mix (T.K p) p fr tk) (mix (T.K p) p mn ct) (mix (T.K p) p (λ_=>[]) fr) (mix (T.K p) p (λ_=>[]) mn)::L) μ'->K (.aA []) μ')->aa prog 82 [pP (T.B p) 0] μ K:=by
 intro n;induction n with
 |zero=>intro p tk ct fr mn hp hn;have:=h.len p hp;omega
 |succ n ih=>
  intro p tk ct fr mn hp hn L μ hO K hk;obtain⟨F,hF⟩:=ca.rd hp hO;refine CX.c ⟨_,_,_,aI hF (by simp),?_⟩;have GB:=h.kl hp;have Ky:=h.KJ
  ·refine ao.each (n:=(T.K p).length) (by omega) (λi u=>Ow (ca T (mix ((T.K p).take i) p fr tk) (mix ((T.K p).take i) p mn ct) (mix ((T.K p).take i) p (λ_=>[]) fr) (mix ((T.K p).take i) p (λ_=>[]) mn)::L) u) ?_ ?_ ?_
   ·exact ca.same (λq _=>by simp[mix,under]) hO
   ·rintro i u next hi h2 aw
    have tL:=h.Rv hp hi;obtain⟨b,hb,eR⟩:=ca.kid hp h2 hi;dsimp only[gJ];rw[hb];refine ab.t (by simpa using hi) ⟨by omega,by simpa using hi,_,by simpa using eR,?_⟩;obtain⟨A,B,F1,e,h3⟩:=ca.out tL h2;dsimp only[nP,nn,aU];refine⟨_,_,h3.rd 0 rfl (by simp),?_⟩;refine h3.st 0 rfl (by simp) λu1 h4=>?_;refine⟨_,_,h4.rd 0 rfl (by simp[dy]),?_⟩;refine h4.st 0 rfl (by simp[dy]) λu2 h5=>?_;refine h5.st 0 rfl (by simp[dy]) λu3 h6=>?_;refine h6.st 0 rfl (by simp[dy]) λu4 h7=>?_;have h8:Ow (ca T (aF (mix ((T.K p).take i) p fr tk) (p++[(T.K p)[i]]) (mix ((T.K p).take i) p (λ_=>[]) fr (p++[(T.K p)[i]]))) (aF (mix ((T.K p).take i) p mn ct) (p++[(T.K p)[i]]) (mix ((T.K p).take i) p (λ_=>[]) mn (p++[(T.K p)[i]]))) (aF (mix ((T.K p).take i) p (λ_=>[]) fr) (p++[(T.K p)[i]]) []) (aF (mix ((T.K p).take i) p (λ_=>[]) mn) (p++[(T.K p)[i]]) [])::L) u4:=by
     refine ca.set (F:=⟨F1.a,F1.v,F1.c,F1.m,F1.f,F1.q,.nil,.nil⟩) h.nodup e (λq _ aZ=>⟨aT aZ,aT aZ,aT aZ,aT aZ⟩) ?_;have e2:(gJ T (aF (mix ((T.K p).take i) p fr tk) (p++[(T.K p)[i]]) (mix ((T.K p).take i) p (λ_=>[]) fr (p++[(T.K p)[i]]))) (aF (mix ((T.K p).take i) p mn ct) (p++[(T.K p)[i]]) (mix ((T.K p).take i) p (λ_=>[]) mn (p++[(T.K p)[i]]))) (aF (mix ((T.K p).take i) p (λ_=>[]) fr) (p++[(T.K p)[i]]) []) (aF (mix ((T.K p).take i) p (λ_=>[]) mn) (p++[(T.K p)[i]]) []) (p++[(T.K p)[i]]) ⟨F1.a,F1.v,F1.c,F1.m,F1.f,F1.q,.nil,.nil⟩).pv=dy (dy (dy (dy (gJ T (mix ((T.K p).take i) p fr tk) (mix ((T.K p).take i) p mn ct) (mix ((T.K p).take i) p (λ_=>[]) fr) (mix ((T.K p).take i) p (λ_=>[]) mn) (p++[(T.K p)[i]]) F1).pv 9 [.list 2 F1.f ((mix ((T.K p).take i) p (λ_=>[]) fr (p++[(T.K p)[i]])).map bR.pv)]) 10 [.list 1 F1.q ((mix ((T.K p).take i) p (λ_=>[]) mn (p++[(T.K p)[i]])).map qx)]) 12 [.list 2 .nil []]) 13 [.list 1 .nil []]:=by
      unfold gJ lZ.pv;simp only[cx];rfl
     rw[e2];exact h7
    refine ih _ _ _ _ _ tL (by simp;omega) h8 λu5 h9=>⟨rfl,aw _ (ca.same (λq hq=>?_) h9)⟩;rcases h.step hp hi hq with⟨e,a1,a2,a3⟩|⟨e,a1,a2,a3⟩|⟨e,a1,a2⟩
    ·subst e;simp[mix,aF,a1,a2,a3]
    ·simp[mix,aF,e,a1,a2,a3]
    ·simp[mix,aF,e,a1,a2]
   ·rintro u next h2
    refine ab.f (by simp) ?_;rw[take_length]at h2;exact hk u h2
end
theorem Nz{es:List aj}{c:ae}(hl:cU c){ts:List bR}{a b:Nat}(h:∀t∈ts,t.binds.length<=a/\t.tags.length<=b):∀t∈stepT es c ts,t.binds.length<=a+100*aN c/\t.tags.length<=b+1:=by
 intro t ht;obtain⟨_,l1,l2,_⟩:=(bF c).1 hl;have hs:1<=aN c:=by rw[bN];omega
 unfold stepT at ht;split at ht
 ·obtain⟨t',wB,hm⟩:=List.mem_flatMap.1 ht;obtain⟨y,hy,rfl⟩:=mem_map.1 hm;obtain⟨h1,h2⟩:=h t' wB;unfold aP at hy;obtain⟨e',_,he⟩:=List.mem_filterMap.1 hy;cases hc:cH c e' t'.binds with
  |none=>rw[hc]at he;cases he
  |some q=>
   rw[hc]at he;simp only[Option.map_some,Option.some.injEq]at he;subst he;have:=Ee hc;simp only[length_append,List.length_singleton];omega
 ·obtain⟨h1,h2⟩:=h t (mem_filter.1 ht).1;omega
theorem wH{es:List aj}:∀{p:Path},bW p->∀t∈az es p,t.binds.length<=100*ah p/\t.tags.length<=p.length:=by
 have key:∀(n:Nat) (p:Path),p.length=n->bW p->∀t∈az es p,t.binds.length<=100*ah p/\t.tags.length<=p.length:=by
  intro n;induction n with
  |zero=>
   intro p hp _ t ht;have:p=[]:=List.eq_nil_of_length_eq_zero hp;subst this;simp only[az,List.foldl_nil,mem_singleton]at ht;subst ht;simp[Co]
  |succ n ih=>
   intro p hp hl t ht;obtain⟨q,c,rfl⟩:=oh (p:=p) (by rintro rfl;simp at hp);have Xv:=b_.1 hl;rw[dk]at ht;have:=Nz (Xv c (by simp)) (ih q (by simpa using hp) (b_.2 λd hd=>Xv d (by simp[hd]))) t ht;rw[kS];simp only[ah,length_append,List.length_singleton];omega
 intro p hl;exact key _ p rfl hl
def mV(es:List aj)(p:Path):List Nat:=if p=[]then[]else kK es (HK p) (az es p.dropLast)
theorem oN(es:List aj)(p:Path)(c:ae):mV es (p++[c])=kK es c (az es p):=by
 unfold mV;rw[if_neg (by simp),oF,List.dropLast_concat]
section
variable {T:Tree} {tk:Path->List bR} {ct:Path->List Nat} {fr:Path->List bR} {mn:Path->List Nat}
def Oq(S:List RN.El)(j:Int):Prop:=∃s∈S,s.1=j
theorem SV{p:Path}{bl:Nat}{S:List RN.El}(hM:∀j∈T.M p,-1<=j/\j<1000000)(hm:(T.M p).length<=1000)(hp:p∈T.D)(hS:bY RN.ck RN.key S)(XF:S.length<=1000000000){L:List aX}{μ:Mem}(hO:Ow (ca T tk ct fr mn::RN.At bl S::L) μ){K:Kq}
  (h1:(∃j∈T.M p,Oq S j)->K (pB true) μ) (h0:(∀j∈T.M p,¬Oq S j)->K (pB false) μ):aa prog 137 [pP (T.B p) 0,pP bl 0] μ K:=by
 obtain⟨F,hF⟩:=ca.rd hp hO;refine BU.c ⟨_,_,aI hF (by simp),?_⟩;refine ao.each (n:=(T.M p).length) (by omega) (λk u=>u=μ/\∀j∈(T.M p).take k,¬Oq S j) ⟨rfl,by simp⟩ ?_ ?_
 ·rintro k u next hk ⟨rfl,dc⟩ aw
  have hj:=hM _ (getElem_mem hk);refine ab.t (by simpa using hk) ⟨by omega,_,tx hk,_,rfl,?_⟩;refine RN.qV (Ow.swap hO) hS (by omega) ⟨(T.M p)[k],hj⟩ ⟨_,_,rfl,?_⟩;refine ab.mk (λhs=>h1 ⟨(T.M p)[k],getElem_mem hk,?_⟩) (λhs=>aw _ ⟨rfl,λj Ce=>?_⟩)
  ·obtain⟨s,hs⟩:=Option.isSome_iff_exists.1 hs;obtain⟨a1,a2⟩:=(a_ RN.hc hS).1 hs;exact⟨s,a1,a2⟩
  ·rw[take_add_one,getElem?_eq_getElem hk,mem_append]at Ce;rcases Ce with Ce|Ce
   ·exact dc j Ce
   ·simp only[Option.toList_some,mem_singleton]at Ce;subst Ce;rintro⟨s,a1,a2⟩;have:aL RN.ck RN.key (T.M p)[k] S=some s:=(a_ RN.hc hS).2 ⟨a1,a2⟩;have PB:(aL RN.ck RN.key (T.M p)[k] S).isSome=false:=hs;rw[this]at PB;cases PB
 ·rintro u next ⟨rfl,dc⟩
  rw[take_length]at dc;exact ab.f (by simp) (h0 dc)
variable {n:Nat} {x:NC} {es fs:List aj} {ms:dj} {ids:pQ}
structure WM(T:Tree)(B:Int)(es:List aj)(tk:Path->List bR)(ct:Path->List Nat):Prop where
 tok:∀p∈T.D,tk p=az es p
 cnt:∀p c,p++[c]∈T.D->ct (p++[c])=kK es c (az es p)
 le:∀p c,p++[c]∈T.D->∀j,((dB es c (az es p) j:Nat):Int)<=B
theorem rV.Pw{T:Tree}(h:rV T){p:Path}{c:ae}(hp:p++[c]∈T.D):tp c/\aN c<=100:=by
 have h1:=lH.1 (h.YK _ hp) c (by simp);have h2:=h.size _ hp;rw[kS]at h2;simp only[ah]at h2;exact⟨h1,by omega⟩
theorem aek(h:rV T)(hA:dx fs ms)(hI:ji fs ids)(hT:0<=x.T/\x.T<=1000000)(HY:WM T x.T es tk ct){bl:Nat}{S:List RN.El}(hS:bY RN.ck RN.key S)(XF:S.length<=1000000000)(tM:∀p c,p++[c]∈T.D->kt ms (T.M (p++[c])) 0 c)(hM:∀p∈T.D,∀j∈T.M p,-1<=j/\j<1000000)
  (Zw:∀y∈ms,¬Oq S y.1->es.filter (bf y.2.c)=fs.filter (bf y.2.c)):
  ∀(n1:Nat) (p:Path) (fr:Path->List bR) (mn:Path->List Nat) (fl:Fl) (TC:Bool),p∈T.D->17-p.length<=n1->(az fs p).length<=1000001->(TC=false->az es p=az fs p)->∀{L:List aX} {μ:Mem},Ow (ak n x fs ms ids::ca T tk ct fr mn::RN.At bl S::L) μ->∀{K:Kq},
  ((∀q c,q++[c]∈T.D->p <+: q->∀j,((dB fs c (az fs q) j:Nat):Int)<=x.T)->∀μ',Ow (ak n x fs ms ids::ca T tk ct (mix (T.K p) p (az fs) fr) (mix (T.K p) p (mV fs) mn)::RN.At bl S::L) μ'->K (pB true) μ')->
  ((∃q c j,q++[c]∈T.D/\x.T<((dB fs c (az fs q) j:Nat):Int))->∀nQ nq μ',Ow (ak n x fs ms ids::ca T tk ct nQ nq::RN.At bl S::L) μ'->K (pB false) μ')->
  aa prog 81 [pP n 0,pP (T.B p) 0,.list 2 fl ((az fs p).map bR.pv),pB TC,pP bl 0] μ K:=by
 intro n1;induction n1 with
 |zero=>intro p fr mn fl TC hp hn;have:=h.len p hp;omega
 |succ n1 ih=>
  intro p fr mn fl TC hp hn pJ sC L μ hO K jY VG;have GB:=h.kl hp;have Ky:=h.KJ;obtain⟨F,hF⟩:=ca.rd hp (Ow.swap hO);refine zm.c ⟨_,_,_,aI hF (by simp),?_⟩;refine ao.each (n:=(T.K p).length) (by omega) (λi u=>(∀q c,q++[c]∈T.D->under ((T.K p).take i) p (q++[c])=true->∀j,((dB fs c (az fs q) j:Nat):Int)<=x.T)/\Ow (ak n x fs ms ids::ca T tk ct (mix ((T.K p).take i) p (az fs) fr) (mix ((T.K p).take i) p (mV fs) mn)::RN.At bl S::L) u) ⟨λq c _ hu=>by simp[under]at hu,?_⟩ ?_ ?_
  ·exact Ow.swap (ca.same (λq _=>by simp[mix,under]) (Ow.swap hO))
  ·rintro i u next hi ⟨hC,h2⟩ aw
   have tL:=h.Rv hp hi;have ME:=Ow.swap h2;obtain⟨b,hb,eR⟩:=ca.kid hp ME hi;generalize hFi:mix ((T.K p).take i) p (az fs) fr=Fi at h2 ME;generalize hMi:mix ((T.K p).take i) p (mV fs) mn=Mi at h2 ME;generalize hc:(T.K p)[i]=c at*
   obtain⟨ee,Vw⟩:=h.Pw tL;dsimp only[gJ];rw[hb];refine ab.t (by simpa using hi) ⟨by omega,by simpa using hi,_,by simpa using eR,?_⟩;dsimp only[nP,nn,aU];obtain⟨A,B,F1,e,h3⟩:=ca.out tL ME;refine⟨_,_,h3.rd 0 rfl (by simp),?_⟩;refine h3.st 0 rfl (by simp) λu1 h4=>?_;refine⟨_,_,h4.rd 0 rfl (by simp[dy]),?_⟩;refine h4.st 0 rfl (by simp[dy]) λu2 h5=>?_;have h6:Ow (ak n x fs ms ids::ca T tk ct (aF Fi (p++[c]) (tk (p++[c]))) (aF Mi (p++[c]) (ct (p++[c])))::RN.At bl S::L) u2:=by
    refine Ow.swap (ca.set (F:=⟨F1.a,F1.v,F1.c,F1.m,F1.t,F1.k,F1.t,F1.k⟩) h.nodup e (tk:=tk) (ct:=ct) (fr:=Fi) (mn:=Mi) (λq _ aZ=>⟨rfl,rfl,aT aZ,aT aZ⟩) ?_);have e2:(gJ T tk ct (aF Fi (p++[c]) (tk (p++[c]))) (aF Mi (p++[c]) (ct (p++[c]))) (p++[c]) ⟨F1.a,F1.v,F1.c,F1.m,F1.t,F1.k,F1.t,F1.k⟩).pv=dy (dy (gJ T tk ct Fi Mi (p++[c]) F1).pv 12 [.list 2 F1.t ((tk (p++[c])).map bR.pv)]) 13 [.list 1 F1.k ((ct (p++[c])).map qx)]:=by
     unfold gJ lZ.pv;simp only[cx];rfl
    rw[e2];exact h5
   have hmp:(T.M (p++[c])).length<=1000:=by rw[h.ml p c tL];omega
   have ac0:=HY.tok _ tL;rw[dk]at ac0;have Sg:=HY.cnt p c tL;refine⟨λs u=>(s=true\/(s=false/\TC=false/\∀j∈T.M (p++[c]),¬Oq S j))/\Ow (ak n x fs ms ids::ca T tk ct (aF Fi (p++[c]) (tk (p++[c]))) (aF Mi (p++[c]) (ct (p++[c])))::RN.At bl S::L) u,ab.mk (λha=>⟨.inl rfl,h6⟩) (λha=>?_),?_⟩
   ·have h7:Ow (ca T tk ct (aF Fi (p++[c]) (tk (p++[c]))) (aF Mi (p++[c]) (ct (p++[c])))::RN.At bl S::ak n x fs ms ids::L) u2:=Ow.ord [1,1,0] h6;exact SV (hM _ tL) hmp tL hS XF h7 (λ_=>⟨_,rfl,.inl rfl,h6⟩) (λdc=>⟨_,rfl,.inr ⟨rfl,ha,dc⟩,h6⟩)
   ·rintro s u3 ⟨hs,h7⟩;have Xu:s=false->nJ es fs c/\az es p=az fs p:=λes0=>by
     rcases hs with e|⟨_,ha,dc⟩
     ·rw[es0]at e;cases e
     ·refine⟨Sz (ms:=ms) (aB:=T.M (p++[c])) (λk hk y hy=>?_) c 0 (tM p c tL),sC ha⟩;obtain⟨Mo,Fk⟩:=(a_ ar hA.ni).1 hy;have Fk:y.1=k:=Fk;exact Zw y Mo (by rw[Fk];exact dc k hk)
    refine⟨λ_ u=>(∀j,((dB fs c (az fs p) j:Nat):Int)<=x.T)/\Ow (ak n x fs ms ids::ca T tk ct (aF Fi (p++[c]) (az fs (p++[c]))) (aF Mi (p++[c]) (mV fs (p++[c])))::RN.At bl S::L) u,ab.mk (λfK=>?_) (λhsf=>?_),?_⟩
    ·obtain⟨A2,B2,F2,e2,h8⟩:=ca.out tL (Ow.swap h7);have h9:Ow (ak n x fs ms ids::Pt (T.B (p++[c])) 126 (gJ T tk ct (aF Fi (p++[c]) (tk (p++[c]))) (aF Mi (p++[c]) (ct (p++[c]))) (p++[c]) F2).pv::Gz T (p++[c])::Ow ((A2++B2).map (dW T tk ct (aF Fi (p++[c]) (tk (p++[c]))) (aF Mi (p++[c]) (ct (p++[c])))))::RN.At bl S::L) u3:=Ow.ord [3] h8;have HW:(gJ T tk ct (aF Fi (p++[c]) (tk (p++[c]))) (aF Mi (p++[c]) (ct (p++[c]))) (p++[c]) F2).c=c:=oF p c;have sF:=ou (h.YK p hp);have fH:=h.size p hp;have hbb:=wH (es:=fs) sF;have hln:=h.len p hp;refine MP (n:=n) (x:=x) (ids:=ids) hA hI hT (xb:=T.B (p++[c])) (gJ T tk ct (aF Fi (p++[c]) (tk (p++[c]))) (aF Mi (p++[c]) (ct (p++[c]))) (p++[c]) F2) (by rw[HW];exact ee) (by rw[HW];exact Vw) (by rw[HW];exact tM p c tL) (by rw[HW];exact h.ml p c tL) (az fs p) _ pJ (λt ht=>by have:=hbb t ht;omega) h9 (λhle f u4 tO=>?_) (λXx u4 tO=>?_)
     ·rw[HW]at hle |-;refine⟨_,_,_,_,_,rfl,ab.f rfl ?_⟩;have CL:Ow (Pt (T.B (p++[c])) 126 (gJ T tk ct (aF Fi (p++[c]) (tk (p++[c]))) (aF Mi (p++[c]) (ct (p++[c]))) (p++[c]) F2).pv::Gz T (p++[c])::Ow ((A2++B2).map (dW T tk ct (aF Fi (p++[c]) (tk (p++[c]))) (aF Mi (p++[c]) (ct (p++[c])))))::ak n x fs ms ids::RN.At bl S::L) u4:=Ow.ord [1,1,1,0] tO;dsimp only[nP,nn,aU];refine CL.st 0 rfl (by simp) λu5 lS=>?_;refine lS.st 0 rfl (by simp[dy]) λu6 Bm=>⟨hle,?_⟩;refine Ow.swap (ca.set (F:=⟨F2.a,F2.v,F2.c,F2.m,F2.t,F2.k,f,.sh⟩) h.nodup e2 (tk:=tk) (ct:=ct) (fr:=aF Fi (p++[c]) (tk (p++[c]))) (mn:=aF Mi (p++[c]) (ct (p++[c]))) (λq _ aZ=>⟨rfl,rfl,by rw[aT aZ,aT aZ],by rw[aT aZ,aT aZ]⟩) ?_);have e3:(gJ T tk ct (aF Fi (p++[c]) (az fs (p++[c]))) (aF Mi (p++[c]) (mV fs (p++[c]))) (p++[c]) ⟨F2.a,F2.v,F2.c,F2.m,F2.t,F2.k,f,.sh⟩).pv=dy (dy (gJ T tk ct (aF Fi (p++[c]) (tk (p++[c]))) (aF Mi (p++[c]) (ct (p++[c]))) (p++[c]) F2).pv 12 [.list 2 f ((stepT fs c (az fs p)).map bR.pv)]) 13 [.list 1 .sh ((kK fs c (az fs p)).map qx)]:=by
       unfold gJ lZ.pv;simp only[cx,dk,oN];rfl
      rw[e3];exact Bm
     ·rw[HW]at Xx;obtain⟨j,hj⟩:=Xx;refine⟨_,_,_,_,_,rfl,ab.t rfl (VG ⟨p,c,j,tL,hj⟩ (aF Fi (p++[c]) (tk (p++[c]))) (aF Mi (p++[c]) (ct (p++[c]))) u4 ?_)⟩;exact Ow.swap (ca.in_ e2 (F:=F2) (Ow.ord [1,1,1,0] tO))
    ·obtain⟨zH,tK⟩:=Xu hsf;refine⟨λj=>?_,?_⟩
     ·rw[<- Eh zH,<- tK];exact HY.le p c tL j
     ·have e1:tk (p++[c])=az fs (p++[c]):=by rw[ac0,dk,tK,Ag zH]
      have e2:ct (p++[c])=mV fs (p++[c]):=by
       rw[Sg,oN,tK];unfold kK;exact List.map_congr_left λj _=>Eh zH _ j
      rw[<- e1,<- e2];exact h7
    ·rintro _ u4 ⟨hle,h8⟩;obtain⟨F3,hF3⟩:=ca.rd tL (Ow.swap h8);refine⟨_,_,aI hF3 (by simp),?_⟩;have VN:(gJ T tk ct (aF Fi (p++[c]) (az fs (p++[c]))) (aF Mi (p++[c]) (mV fs (p++[c]))) (p++[c]) F3).fr=az fs (p++[c]):=cx _ _ _;rw[VN];have hlen:(az fs (p++[c])).length<=1000001:=by
      have:=hle 0;rw[jE]at this;rw[dk];omega
     refine ih (p++[c]) _ _ _ s tL (by simp;omega) hlen (λhsf=>?_) h8 (λhC2 u5 h9=>⟨_,rfl,ab.f rfl (aw _ ⟨λq d hq hu j=>?_,?_⟩)⟩) (λXx nQ nq u5 h9=>⟨_,rfl,ab.t rfl (VG Xx nQ nq u5 h9)⟩)
     ·obtain⟨zH,tK⟩:=Xu hsf;rw[dk,dk,tK,Ag zH]
     ·rcases h.step hp hi hq with⟨e,a1,a2,a3⟩|⟨e,a1,a2,a3⟩|⟨e,a1,a2⟩
      ·rw[hc]at e;obtain⟨e1,e2⟩:=append_inj' e rfl;simp only[List.cons.injEq,and_true]at e2;rw[e1,e2];exact hle j
      ·rw[hc]at e a1;obtain⟨fS,aZ⟩:=(h.below tL hq).2 (gz.1 a1);refine hC2 q d hq ?_ j;obtain⟨r,hr⟩:=fS;cases DR:r.getLast? with
       |none=>
        rw[List.getLast?_eq_none_iff]at DR;subst DR;rw[append_nil]at hr;exact absurd hr.symm aZ
       |some z=>
        obtain⟨r',CD⟩:=List.getLast?_eq_some_iff.1 DR;rw[CD,<- append_assoc]at hr;obtain⟨e1,_⟩:=append_inj' hr rfl;exact⟨r',e1⟩
      ·rw[a2]at hu;exact hC q d hq hu j
     ·refine Ow.swap (ca.same (λq hq=>?_) (Ow.swap h9));have cO:=h.step hp hi hq;rw[hc]at cO;rw[<- hFi,<- hMi];rcases cO with⟨e,a1,a2,a3⟩|⟨e,a1,a2,a3⟩|⟨e,a1,a2⟩
      ·subst e;simp[mix,aF,a1,a2,a3]
      ·simp[mix,aF,e,a1,a2,a3]
      ·simp[mix,aF,e,a1,a2]
  ·rintro u next ⟨hC,h2⟩
   refine ab.f (by simp) ?_;rw[take_length]at hC h2;refine jY (λq c hq fS j=>hC q c hq (gz.2 ((h.below hp hq).1 ⟨fS.trans (List.prefix_append _ _),λe=>?_⟩)) j) u h2;have h4:=fS.length_le;have h5:=congrArg List.length e;simp at h5;omega
end
structure jq(B:Int)(T:Tree)(es:List aj)(ms:dj)(tk:Path->List bR)(ct:Path->List Nat):Prop where
 tree:rV T
 use:fC es ms (T.D.flatMap T.M)
 fit:∀p c,p++[c]∈T.D->kt ms (T.M (p++[c])) 0 c
 dO:WM T B es tk ct
theorem jq.acF{B:Int}{T:Tree}{es:List aj}{ms:dj}{tk:Path->List bR}{ct:Path->List Nat}(h:jq B T es ms tk ct):(T.D.flatMap T.M).length<=500000:=by
 rw[List.length_flatMap];have:∀D:List Path,(∀p∈D,(T.M p).length<=100)->(D.map λp=>(T.M p).length).sum<=100*D.length:=by
  intro D;induction D with
  |nil=>intro _;simp
  |cons p D ih=>
   intro h;have h1:=h p (by simp);have h2:=ih λq hq=>h q (by simp[hq]);simp only[map_cons,sum_cons,length_cons];omega
 have h1:=this T.D λp hp=>?_
 ·have:=h.tree.KJ;omega
 ·by_cases e:p=[]
  ·subst e;rw[h.tree.m0];simp
  ·obtain⟨q,c,rfl⟩:=oh e;rw[h.tree.ml q c hp];exact(h.tree.Pw hp).2
section
variable {T:Tree} {tk:Path->List bR} {ct:Path->List Nat} {fr:Path->List bR} {mn:Path->List Nat}
theorem ca.inj{L:List aX}{μ:Mem}{p q:Path}(hp:p∈T.D)(hq:q∈T.D)(h:Ow (ca T tk ct fr mn::L) μ)(e:T.B p=T.B q):p=q:=by
 obtain⟨A,B,F,eD,h1⟩:=ca.out hp h;by_cases aZ:q=p
 ·exact aZ.symm
 ·exfalso;have hm:q∈A++B:=by
   rw[eD,mem_append,List.mem_cons]at hq;rcases hq with h|h|h
   ·simp[h]
   ·exact absurd h aZ
   ·simp[h]
  obtain⟨A2,B2,e2⟩:=append_of_mem (List.mem_map_of_mem (f:=dW T tk ct fr mn) hm);rw[e2]at h1;obtain⟨μ1,μ2,hs,rfl,hP,h2⟩:=h1;obtain⟨ν1,ν2,Cc,rfl,hV,h3⟩:=h2;obtain⟨ρ1,ρ2,hs3,rfl,h4,h5⟩:=h3;obtain⟨σ,hσ,fT⟩:=h4.mem (dW T tk ct fr mn q) (by simp);obtain⟨F2,h6⟩:=hσ;have h7:=h6.get 0 rfl;have h8:=fT _ _ h7;have hP:μ1 (T.B p)=_:=hP;rw[<- e]at h8;have h9:=(hs (T.B p)).resolve_left (by rw[hP];simp);have tO:ν1 (T.B p)=none:=by
   rcases Cc (T.B p)with h|h
   ·exact h
   ·rw[Mem.bC h8]at h;cases h
  rw[Mem.bI tO,Mem.bC h8]at h9;cases h9
theorem aiB(h:rV T){p:Path}(hp:p∈T.D)(c:ae)(fa fv fc:Fl){L:List aX}{μ:Mem}(hO:Ow (ca T tk ct fr mn::L) μ){K:Kq}
  (h1:p++[c]∈T.D->K (pP (T.B (p++[c])) 0) μ) (h0:p++[c]∉T.D->K (.raw (.pointer none)) μ):
  aa prog 65 [pP (T.B p) 0,.agg [pI c.kind,pB c.goal,pS c.id,.list 6 fa (c.attr.map Test.pv),.list 6 fv (c.value.map Test.pv),pB c.acc,.list 7 fc (c.conds.map ae.pv)]] μ K:=by
 have GB:=h.kl hp;have Ky:=h.KJ;obtain⟨F,hF⟩:=ca.rd hp hO;refine Ls.c ⟨_,_,_,aI hF (by simp),?_⟩;refine ao.each (n:=(T.K p).length) (by omega) (λi u=>u=μ/\c∉(T.K p).take i) ⟨rfl,by simp⟩ ?_ ?_
 ·rintro i u next hi ⟨rfl,dc⟩ aw
  have tL:=h.Rv hp hi;obtain⟨ee,Vw⟩:=h.Pw tL;obtain⟨b,hb,eR⟩:=ca.kid hp hO hi;obtain⟨F2,Sr⟩:=ca.rd tL hO;dsimp only[gJ];rw[hb];refine ab.t (by simpa using hi) ⟨by omega,by simpa using hi,_,by simpa using eR,?_⟩;refine⟨_,_,_,_,_,_,_,_,_,_,aI Sr (by simp),?_⟩;have hl:HK (p++[(T.K p)[i]])=(T.K p)[i]:=oF _ _;have HR:=bN (T.K p)[i];dsimp only[gJ];rw[hl];refine(acy (ah (T.K p)[i].conds) .sh .sh .sh .sh .sh .sh (T.K p)[i] c (le_refl _) (by omega) ((mL _).1 ee).1).call (λe=>⟨_,rfl,ab.t rfl ?_⟩) (λe=>⟨_,rfl,ab.f rfl (aw _ ⟨rfl,λhm=>?_⟩)⟩)
  ·rw[e]at tL |-;exact h1 tL
  ·rw[take_add_one,getElem?_eq_getElem hi,mem_append]at hm;rcases hm with hm|hm
   ·exact dc hm
   ·simp only[Option.toList_some,mem_singleton]at hm;exact e hm.symm
 ·rintro u next ⟨rfl,dc⟩
  rw[take_length]at dc;exact ab.f (by simp) (h0 λhm=>dc ((h.kids p hp c).2 hm))
end
def Tree.del(T:Tree)(q:Path)(c:ae):Tree:=⟨T.D.filter λr=>decide (r≠q++[c]),T.B,T.M,T.E,aF T.K q ((T.K q).filter λd=>decide (d≠c)),T.S⟩
theorem rV.del{T:Tree}(h:rV T){q:Path}{c:ae}(Zm:q++[c]∈T.D)(hk:T.K (q++[c])=[]):rV (T.del q c):=by
 have hq:=h.up _ _ Zm;have hm:∀r,r∈(T.del q c).D↔r∈T.D/\r≠q++[c]:=λr=>by unfold Tree.del;simp
 have hK:∀p,p∈(T.del q c).D->∀d,d∈(T.del q c).K p↔p++[d]∈(T.del q c).D:=λp hp d=>by
  obtain⟨h1,h2⟩:=(hm p).1 hp;rw[hm];show d∈aF T.K q _ p↔_;by_cases e:p=q
  ·subst e;rw[cx,mem_filter,h.kids p h1 d];simp
  ·rw[aT e,h.kids p h1 d];refine⟨λhd=>⟨hd,λe2=>e ?_⟩,λhd=>hd.1⟩;exact(append_inj' e2 rfl).1
 refine⟨h.nodup.filter _,(hm _).2 ⟨h.root,by simp⟩,hK,λp hp=>?_,λp d hd=>?_,λp hp=>h.len p ((hm p).1 hp).1,λp hp=>h.YK p ((hm p).1 hp).1,λp hp=>h.size p ((hm p).1 hp).1,λp d hd=>h.ml p d ((hm _).1 hd).1,h.m0,Nat.le_trans (List.length_filter_le _ _) h.KJ,λp hp=>h.mge p ((hm p).1 hp).1⟩
 ·show(aF T.K q _ p).Nodup;by_cases e:p=q
  ·subst e;rw[cx];exact(h.HL p hq).filter _
  ·rw[aT e];exact h.HL p ((hm p).1 hp).1
 ·obtain⟨h1,h2⟩:=(hm _).1 hd;refine(hm p).2 ⟨h.up _ _ h1,λe=>?_⟩;subst e;have:=(h.kids _ Zm d).2 h1;rw[hk]at this;cases this
theorem SH{T:Tree}(h:rV T){p:Path}(hp:p∈T.D):(T.D.flatMap T.M).Perm (T.M p++(T.D.filter λr=>decide (r≠p)).flatMap T.M):=by
 obtain⟨A,B,e⟩:=append_of_mem hp;have hn:=h.nodup;rw[e]at hn;obtain⟨n1,n2,n3⟩:=nodup_append.1 hn;have n4:=(nodup_cons.1 n2).1;have e2:T.D.filter (λr=>decide (r≠p))=A++B:=by
  rw[e,filter_append,filter_cons,if_neg (by simp)];congr 1
  ·exact filter_eq_self.2 λa ha=>by simpa using λe=>n3 a ha p (by simp) e
  ·exact filter_eq_self.2 λa ha=>by simp only[decide_eq_true_eq];rintro rfl;exact n4 ha
 rw[e2,e,flatMap_append,flatMap_cons,flatMap_append,<- append_assoc,<- append_assoc];exact List.perm_append_comm.append_right _
theorem Ec{T:Tree}(h:rV T){p:Path}{A B:List Path}(e:T.D=A++p::B):T.D.filter (λr=>decide (r≠p))=A++B:=by
 have hn:=h.nodup;rw[e]at hn;obtain⟨n1,n2,n3⟩:=nodup_append.1 hn;have n4:=(nodup_cons.1 n2).1;rw[e,filter_append,filter_cons,if_neg (by simp)];congr 1
 ·exact filter_eq_self.2 λa ha=>by simpa using λe=>n3 a ha p (by simp) e
 ·exact filter_eq_self.2 λa ha=>by simp only[decide_eq_true_eq];rintro rfl;exact n4 ha
theorem erase_filter{c:ae}:∀{l:List ae} {j:Nat} (hj:j<l.length),l.Nodup->l[j]=c->l.eraseIdx j=l.filter λd=>decide (d≠c)
 |[],j,hj,_,_=>by simp at hj
 |d::l,0,_,hn,e=>by
  have e:d=c:=e
  subst e;obtain⟨h1,h2⟩:=nodup_cons.1 hn;rw[List.eraseIdx_cons_zero,filter_cons,if_neg (by simp)];exact(filter_eq_self.2 λa ha=>by simp only[decide_eq_true_eq];rintro rfl;exact h1 ha).symm
 |d::l,j+1,hj,hn,e=>by
  obtain⟨h1,h2⟩:=nodup_cons.1 hn;have e:l[j]'(by simpa using hj)=c:=e;rw[List.eraseIdx_cons_succ,filter_cons,if_pos,erase_filter (by simpa using hj) h2 e];simp only[decide_eq_true_eq];rintro rfl;exact h1 (e▸getElem_mem _)
theorem ca.KN{T T':Tree}{tk wA:Path->List bR}{ct yO:Path->List Nat}{fr nQ:Path->List bR}{mn nq:Path->List Nat}{r:Path}(hB:T'.B r=T.B r)(hM:T'.M r=T.M r)(hE:T'.E r=T.E r)(hK:T'.K r=T.K r)(hS:T'.S r=T.S r)(hKB:∀c∈T.K r,T'.B (r++[c])=T.B (r++[c]))(h1:wA r=tk r)(h2:yO r=ct r)(h3:nQ r=fr r)(h4:nq r=mn r):dW T' wA yO nQ nq r=dW T tk ct fr mn r:=by
 unfold dW Gz gJ ij;rw[hB,hM,hE,hK,hS,h1,h2,h3,h4,List.map_congr_left λc hc=>by rw[hKB c hc]]
theorem jq.del{B:Int}{T:Tree}{es:List aj}{ms cr:dj}{tk:Path->List bR}{ct:Path->List Nat}(h:jq B T es ms tk ct){q:Path}{c:ae}(Zm:q++[c]∈T.D)(hk:T.K (q++[c])=[])(hu:fC es cr ((T.del q c).D.flatMap T.M))(hK:∀j d,j∈(T.del q c).D.flatMap T.M->dH ms j d->dH cr j d):jq B (T.del q c) es cr tk ct:=by
 have hm:∀r,r∈(T.del q c).D->r∈T.D:=λr hr=>(mem_filter.1 hr).1;refine⟨h.tree.del Zm hk,hu,λp d hd=>?_,⟨λp hp=>h.dO.tok p (hm p hp),λp d hd=>h.dO.cnt p d (hm _ hd),λp d hd=>h.dO.le p d (hm _ hd)⟩⟩;exact tP (λj hj d'=>hK j d' (List.mem_flatMap.2 ⟨_,hd,hj⟩)) d 0 (h.fit p d (hm _ hd))
def TT(T:Tree)(W:Path->Prop):Prop:=∀r∈T.D,r≠[]->¬W r->T.K r≠[]\/0<T.E r
end Go.Proofs.YthaeiehophlooaaGreat
