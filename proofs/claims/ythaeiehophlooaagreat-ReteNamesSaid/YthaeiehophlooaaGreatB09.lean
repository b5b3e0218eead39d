import Derived.Test.YthaeiehophlooaaGreatB08
open Go.IntKind (wrap)
open Int (toNat toNat_natCast)
open List (Pairwise.nil append_nil drop_length drop_zero filter_append filter_cons filter_nil getElem?_eq_getElem getElem_map getElem_mem length_append length_filter_le length_map length_take map_append map_map mem_filter mem_map take_add_one take_length)
open Nat (le_trans succ_mul zero_add)
open Option (isNone map_eq_some_iff toList_some)
set_option linter.all false
namespace Go.aO
open Go.RowKit
structure SD where
 P:Program
 TS:TypeId
 TE:TypeId
 W:Nat
 B:Nat
 fc:FuncId
 X:(List PV->Prop)->Prop
 E:List PV->PV
 Z:List PV
section
variable (D:SD) (a0:Option Addr) (u0:Mem) (K:Kq) (c:List PV) (e:PV)
def Oi(s:Int×Int):Int:=wrap .i64 (s.1+(wrap .i64 (Int.tdiv (wrap .i64 (s.2-s.1)) (2))))
def SD.find:Prop:=
 nP a0 λb o=>
 ∃f l,ay u0 b o 1=some [.list D.W f l]/\
 ao (α:=Int×Int) (λnext s u=>
  ab (decide ((s.1:Int)<s.2))
  (((2):Int)≠0/\
   nP a0 λPd NY=>
   ∃f l,ay u Pd NY 1=some [.list D.W f l]/\
   (0:Int)<=Oi s/\∃(r:List PV),l[toNat (Oi s)]?=some r/\
   D.X λy=>aE r 0 D.W=some y/\
   (∀v,pv D.P (method (D.P.types.size+Made.depth) D.TE v "Compare")=some (D.fc,v))/\
   aa D.P D.fc [D.E (y.map bV),e] u λv ym=>
   ∃x,v=(pI x)/\
   ab ((x:Int) == (0))
   (K (.aA [pI (Oi s),pB true]) ym)
   (ab (decide ((x:Int)<(0)))
    (next ((wrap .i64 (Oi s+(1))),s.2) ym)
    (next (s.1,Oi s) ym)))
  (K (.aA [pI s.1,pB false]) u))
 ((0),(l.length:Int)) u0
def SD.place(ff:FuncId):Prop:=
 ab (isNone a0)
 (K (.aA [pI (0),pB false]) u0)
 (aa D.P ff [pA a0,e] u0 λv u=>
  ∃p q,v=(.aA [pI p,pB q])/\K (.aA [pI p,pB q]) u)
def SD.get(ff:FuncId):Prop:=
 ab (isNone a0)
 (K (.aA [D.E D.Z,pB false]) u0)
 (aa D.P ff [pA a0,e] u0 λv u=>
  ∃p q,v=(.aA [pI p,pB q])/\
  ab (!q)
  (K (.aA [D.E D.Z,pB false]) u)
  (nP a0 λb o=>
   ∃f l,ay u b o 1=some [.list D.W f l]/\
   (0:Int)<=p/\∃(r:List PV),l[toNat p]?=some r/\
   D.X λy=>aE r 0 D.W=some y/\
   K (.aA [D.E y,pB true]) u))
def SD.OH(ff:FuncId):Prop:=
 ab (isNone a0)
 (K (.aA [D.E D.Z,pB false]) u0)
 (aa D.P ff [pA a0,e] u0 λv u=>
  ∃p q,v=(.aA [pI p,pB q])/\
  ab (!q)
  (K (.aA [D.E D.Z,pB false]) u)
  (nP a0 λb o=>
   ∃s n m,ay u b o 1=some [pV s n m]/\
   bH s λPd NY=>
   (0:Int)<=p/\p<((n:Nat):Int)/\
   D.X λy=>ay u Pd (NY+toNat p*D.W) D.W=some y/\
   K (.aA [D.E y,pB true]) u))
def SD.len:Prop:=
 ab (isNone a0)
 (K (pI (0)) u0)
 (nP a0 λb o=>
  ∃f l,ay u0 b o 1=some [.list D.W f l]/\
  K (pI (l.length:Int)) u0)
def SD.own:Prop:=
 nP a0 λb o=>
 ∃s,ay u0 b (o+1) 1=some [pB s]/\
 ab s
 (nP a0 λPd NY=>
  ∃f1 l1,ay u0 Pd NY 1=some [.list D.W f1 l1]/\
  nP a0 λTy QZ=>
  ∃f l,ay u0 Ty QZ 1=some [.list D.W f l]/\
  (0:Int)<=(0)/\(0)<=(wrap .i64 ((l1.length:Int)+(1)))/\(wrap .i64 ((l1.length:Int)+(1)))<(4611686018427387904:Int)/\toNat (wrap .i64 ((l1.length:Int)+(1)))*D.B<=140737488355328/\
  ∀(Cg:Nat),u0 Cg=none->
  gP D.W D.B D.TE (some ⟨Cg,0,none⟩) (toNat (0)) (toNat (wrap .i64 ((l1.length:Int)+(1)))) (.list D.W f l) (Mem.set u0 Cg (some (.cells D.TE (List.flatten (List.replicate (toNat (wrap .i64 ((l1.length:Int)+(1)))) D.Z))))) λs18 agk agl u=>
  nP a0 λWy UZ=>
  stM Wy UZ [pV s18 agk agl] u λym=>
  nP a0 λb_4 YN=>
  stM b_4 (YN+1) [pB false] ym λyl=>
  K (.aA []) yl)
 (K (.aA []) u0)
def SD.put(ff fo:FuncId):Prop:=
 ab (isNone a0)
 (K (pB false) u0)
 (aa D.P ff [pA a0,e] u0 λv u=>
  ∃p q,v=(.aA [pI p,pB q])/\
  ab q
  (K (pB false) u)
  (aa D.P fo [pA a0] u λNm ym=>
   Nm=(.aA [])/\
   nP a0 λb o=>
   ∃x23 abW abX,ay ym b o 1=some [pV x23 abW abX]/\
   gP D.W D.B D.TE x23 abW abX (.list D.W .nr [c]) ym λs26 agi agj yl=>
   nP a0 λPd NY=>
   stM Pd NY [pV s26 agi agj] yl λDe=>
   nP a0 λTy QZ=>
   ∃x32 abT afV,ay De Ty QZ 1=some [pV x32 abT afV]/\
   ao (α:=Int) (λnext s Dd=>
    ab (decide ((s:Int)>p))
    (nP a0 λWy UZ=>
     ∃x43 abM afQ,ay Dd Wy UZ 1=some [pV x43 abM afQ]/\
     nP a0 λb_4 YN=>
     ∃x48 abJ afO,ay Dd b_4 YN 1=some [pV x48 abJ afO]/\
     bH x48 λb_5 o_5=>
     (0:Int)<=(wrap .i64 (s-(1)))/\(wrap .i64 (s-(1)))<((abJ:Nat):Int)/\
     D.X λy=>ay Dd b_5 (o_5+toNat (wrap .i64 (s-(1)))*D.W) D.W=some y/\
     bH x43 λb_6 o_6=>
     (0:Int)<=s/\s<((abM:Nat):Int)/\
     stM b_6 (o_6+toNat s*D.W) y Dd λJg=>
     next (wrap .i64 (s-(1))) Jg)
    (nP a0 λb_7 o_7=>
     ∃x57 abI afL,ay Dd b_7 o_7 1=some [pV x57 abI afL]/\
     bH x57 λb_8 o_8=>
     (0:Int)<=p/\p<((abI:Nat):Int)/\
     stM b_8 (o_8+toNat p*D.W) c Dd λWU=>
     K (pB true) WU))
   (wrap .i64 (((abT:Nat):Int)-(1))) De))
def SD.drop(ff fo:FuncId):Prop:=
 ab (isNone a0)
 (K (pB false) u0)
 (aa D.P ff [pA a0,e] u0 λv u=>
  ∃p q,v=(.aA [pI p,pB q])/\
  ab (!q)
  (K (pB false) u)
  (aa D.P fo [pA a0] u λNm ym=>
   Nm=(.aA [])/\
   ao (α:=Int) (λnext s yl=>
    nP a0 λb o=>
    ∃x26 abV afX,ay yl b o 1=some [pV x26 abV afX]/\
    ab (decide (((wrap .i64 (s+(1))):Int)<((abV:Nat):Int)))
    (nP a0 λPd NY=>
     ∃x34 abS afU,ay yl Pd NY 1=some [pV x34 abS afU]/\
     nP a0 λTy QZ=>
     ∃x39 abQ afS,ay yl Ty QZ 1=some [pV x39 abQ afS]/\
     bH x39 λWy UZ=>
     (0:Int)<=(wrap .i64 (s+(1)))/\(wrap .i64 (s+(1)))<((abQ:Nat):Int)/\
     D.X λy=>ay yl Wy (UZ+toNat (wrap .i64 (s+(1)))*D.W) D.W=some y/\
     bH x34 λb_4 YN=>
     (0:Int)<=s/\s<((abS:Nat):Int)/\
     stM b_4 (YN+toNat s*D.W) y yl λDe=>
     next (wrap .i64 (s+(1))) De)
    (nP a0 λb_5 o_5=>
     ∃x49 afN Nk,ay yl b_5 o_5 1=some [pV x49 afN Nk]/\
     nP a0 λb_6 o_6=>
     ∃x53 Ug afM,ay yl b_6 o_6 1=some [pV x53 Ug afM]/\
     iq x49/\(0:Int)<=(0:Int)/\(0:Int)<=(wrap .i64 (((Ug:Nat):Int)-(1)))/\(wrap .i64 (((Ug:Nat):Int)-(1)))<=((Nk:Nat):Int)/\((Nk:Nat):Int)<=((Nk:Nat):Int)/\
     nP a0 λb_7 o_7=>
     stM b_7 o_7 [pV (yZ x49 (toNat (0:Int)) (toNat ((Nk:Nat):Int)) D.W) (toNat (wrap .i64 (((Ug:Nat):Int)-(1)))-toNat (0:Int)) (toNat ((Nk:Nat):Int)-toNat (0:Int))] yl λDd=>
     K (pB true) Dd))
   p ym))
def SD.new(fp:FuncId)(l:Lq):Prop:=
 cg u0 D.TS [.list D.W .nil [],pB false] λb7 u=>
 ao (α:=Int) (λnext s ym=>
  ab (decide ((s:Int)<(l.length:Int)))
  ((0:Int)<=s/\∃(r12:List PV),l[toNat s]?=some r12/\
   D.X λy=>aE r12 0 D.W=some y/\
   aa D.P fp [pP b7 0,D.E (y.map bV)] ym λv yl=>
   ∃x16,v=(pB x16)/\
   next (wrap .i64 (s+(1))) yl)
  (K (pP b7 0) ym))
 (0) u
def SD.from_(a1:Int)(a2:Fn)(Cj Ch:List PV):Prop:=
 nP a0 λb o=>
 stM b (o+1) [pB true] u0 λu=>
 nP a0 λPd NY=>
 ∃f l,ay u Pd NY 1=some [.list D.W f l]/\
 ao (α:=Int) (λnext s ym=>
  ab (decide ((s:Int)<(l.length:Int)))
  ((0:Int)<=s/\∃(r25:List PV),l[toNat s]?=some r25/\
   D.X λy=>aE r25 0 D.W=some y/\
   bJ D.P (.fn a2 Cj Ch) [D.E (y.map bV)] ym λv yl=>
   ∃x27,v=(pB x27)/\
   ab (!x27)
   (K (.aA []) yl)
   (next (wrap .i64 (s+(1))) yl))
  (K (.aA []) ym))
 a1 u
def SD.ze(ff:FuncId)(a0:Fn)(Cm Ck c0:List PV):Prop:=
 ∃x3,aE c0 0 1=some [pA x3]/\
 ab (!(isNone x3))
 (∃x5,aE c0 0 1=some [pA x5]/\
  aa D.P ff [pA x5,pI (0),.fn a0 Cm Ck] u0 λv u=>
  v=(.aA [])/\
  K (.aA []) u)
 (K (.aA []) u0)
end
structure Pp(D:SD){El κ:Type}(pr:El->List PV)(arg:El->PV)(key:El->κ)(ck:κ->κ->Int):Prop where
 hX:∀(x:El) (Q:List PV->Prop),Q (pr x)->D.X Q
 len:∀x,(pr x).length=D.W
 XR:∀x,aQ (pr x)=true
 wk:∀x,(pr x).map bV=pr x
 E:∀x,D.E (pr x)=arg x
 hc:ns ck
 cmp:∀a b,Pure D.P D.fc [arg a,arg b] (pI (ck (key a) (key b)))
 agy:∀v,pv D.P (method (D.P.types.size+Made.depth) D.TE v "Compare")=some (D.fc,v)
 zl:D.Z.length=D.W
 W0:0<D.W
 B0:D.B<=1000
namespace Pp
variable {D:SD} {El κ:Type} {pr:El->List PV} {arg:El->PV} {key:El->κ} {ck:κ->κ->Int} (S:Pp D pr arg key ck)
include S
theorem each(l:List El):∀r∈l.map pr,r.length=D.W:=Ar S.len l
theorem cell(l:List El):aQ (l.map pr).flatten=true:=nC S.XR l
theorem row(x:El):aE (pr x) 0 D.W=some (pr x):=by
 have:=S.W0;unfold aE;rw[if_pos ⟨by rw[S.len];omega,S.W0⟩,drop_zero,<- S.len x,take_length]
theorem E'(x:El):D.E ((pr x).map bV)=arg x:=by rw[S.wk,S.E]
variable {nf:FuncId} (hf:∀{x:El} {a0:Option Addr} {u0:Mem} {K:Kq},D.find a0 u0 K (arg x)->aa D.P nf [pA a0,arg x] u0 K)
section
include hf
theorem KW(b:Nat)(s:Bool)(l:List El)(hu:bY ck key l)(hl:l.length<=4000000000000000000)(x:El):aa D.P nf [pP b 0,arg x] (M0.set b (some (.ro D.TS [.list D.W .sh (l.map pr),pB s]))) λp _=>∃(k:Nat) (t:Bool),p=.aA [pI k,pB t]/\bP ck (l.map key) (key x) k t:=by
 have hc:=S.hc;refine hf ?_;refine⟨_,_,wQ (Mem.an _ _ _) (by simp),?_⟩;have eR:∀u,u=M0.set b (some (.ro D.TS [.list D.W .sh (l.map pr),pB s]))->ay u b 0 1=some [.list D.W .sh (l.map pr)]:=λu h=>by rw[h];exact wQ (Mem.an _ _ _) (by simp)
 rw[length_map];have huu:=hu.up;have sF:(l.map key).length=l.length:=by simp
 refine ao.bin (n:=l.length) (by omega) (λi=>if h:i<l.length then ck (key l[i]) (key x)else 1) (λu=>u=M0.set b (some (.ro D.TS [.list D.W .sh (l.map pr),pB s]))) rfl ?_ ?_ ?_ ?_
 ·intro i j MA hj h;rw[dif_pos hj]at h;rw[dif_pos (Nat.lt_trans MA hj)];have:=huu.Xe hc (x:=key x) MA (by simpa using hj) (by simpa using h);simpa using this
 ·intro i j MA hj h;rw[dif_pos (Nat.lt_trans MA hj)]at h;rw[dif_pos hj];have:=huu.Xd hc (x:=key x) MA (by simpa using hj) (by simpa using h);simpa using this
 ·intro lo hi wZ u next bG hhi Zu Mu hA h1 h2 h3
  subst hA;rw[dif_pos Mu]at h1 h2 h3;refine ab.t (by simpa using bG) ⟨by decide,?_⟩;refine⟨_,_,eR _ rfl,?_⟩;dsimp only[Oi];rw[acJ bG (by omega),<- Zu];refine⟨by omega,_,aH Mu,S.hX _ _ ⟨S.row _,S.agy,?_⟩⟩;rw[S.E'];refine(S.cmp l[wZ] x).call ⟨_,rfl,ab.mk (λh=>?_) (λh=>ab.mk (λh'=>?_) (λh'=>?_))⟩
  ·have h0:ck (key l[wZ]) (key x)=0:=by simpa using h
   refine⟨wZ,true,rfl,by rw[sF];omega,λi hi vv=>?_,λ_=>⟨by rw[sF];exact Mu,by rw[getElem_map];exact(hc.zero _ _).1 h0⟩,λh=>by cases h⟩;have:=h3 h0 i vv;rw[dif_pos (by rw[sF]at hi;exact hi)]at this;rw[getElem_map];exact this
  ·have h0:ck (key l[wZ]) (key x)<0:=by simpa using h'
   have:=h1 h0 _ rfl;rw[aC (by omega) (by omega)];exact this
  ·have h0:0<ck (key l[wZ]) (key x):=by
    have a1:ck (key l[wZ]) (key x)≠0:=by simpa using h
    have a2:¬ck (key l[wZ]) (key x)<0:=by simpa using h'
    omega
   exact h2 h0 _ rfl
 ·intro k u next hA hk h1 h2
  refine ab.f (by simp) ?_;refine⟨k,false,rfl,by rw[sF];exact hk,λi hi vv=>?_,λh=>(by cases h),λ_ i hi vv=>?_⟩
  ·have:=h1 i vv;rw[sF]at hi;rw[dif_pos hi]at this;rw[getElem_map];exact this
  ·rw[sF]at hi;have:=h2 i vv hi;rw[dif_pos hi]at this;rw[getElem_map];exact this
theorem rL{μ:Mem}{b:Nat}{l:List El}{F:List Nat}(h:iE D.TS D.TE D.W μ b (l.map pr) F)(hu:bY ck key l)(hl:l.length<=4000000000000000000)(x:El){K:Kq}(hk:∀(k:Nat) (t:Bool),bP ck (l.map key) (key x) k t->K (.aA [pI k,pB t]) μ):aa D.P nf [pP b 0,arg x] μ K:=
 iE.query h (λs=>KW S hf b s l hu hl x) (λp ⟨k,t,e,_⟩=>by rw[e];rfl) λp ⟨k,t,e,hf⟩=>by rw[e];exact hk k t hf
theorem qV{n:FuncId}(hn:∀{x:El} {a0:Option Addr} {u0:Mem} {K:Kq},D.place a0 u0 K (arg x) nf->aa D.P n [pA a0,arg x] u0 K) ⦃L:List aX⦄ ⦃μ:Mem⦄ ⦃b:Nat⦄ ⦃l:List El⦄ (hO:Ow (cb D.TS D.TE D.W b (l.map pr)::L) μ) (hu:bY ck key l) (hl:l.length<=4000000000000000000) (x:El) ⦃K:Kq⦄ (hk:K (.aA [pI (UN ck key (key x) l:Nat),pB (aL ck key (key x) l).isSome]) μ):aa D.P n [pP b 0,arg x] μ K:=by
 obtain⟨F,h,_⟩:=cb.split hO;refine hn (ab.f rfl (S.rL hf h hu hl x λk t hf=>⟨_,_,rfl,?_⟩));rw[hf.pos S.hc hu,hf.isSome S.hc hu];exact hk
theorem ku{n:FuncId}(hn:∀{x:El} {a0:Option Addr} {u0:Mem} {K:Kq},D.get a0 u0 K (arg x) nf->aa D.P n [pA a0,arg x] u0 K)(hr:∀{x:El} {a0:Option Addr} {u0:Mem} {K:Kq},D.OH a0 u0 K (arg x) nf->aa D.P n [pA a0,arg x] u0 K) ⦃L:List aX⦄ ⦃μ:Mem⦄ ⦃b:Nat⦄ ⦃l:List El⦄ (hO:Ow (cb D.TS D.TE D.W b (l.map pr)::L) μ) (hu:bY ck key l) (hl:l.length<=4000000000000000000) (x:El) ⦃K:Kq⦄ (h1:∀y,aL ck key (key x) l=some y->K (.aA [arg y,pB true]) μ) (h0:aL ck key (key x) l=none->K (.aA [D.E D.Z,pB false]) μ):aa D.P n [pP b 0,arg x] μ K:=by
 have hc:=S.hc;obtain⟨F,h,_⟩:=cb.split hO;have YZ:∀k,bP ck (l.map key) (key x) k true->∃hk:k<l.length,K (.aA [arg l[k],pB true]) μ:=λk hf=>by
  obtain⟨hk,e⟩:=hf.some hc hu;exact⟨hk,h1 _ e⟩
 have none_:∀{k},l.map pr=[]->bP ck (l.map key) (key x) k true->False:=λhn hf=>by
  obtain⟨hk,_⟩:=YZ _ hf;have:=congrArg List.length hn;simp at this;subst this;simp at hk
 rcases h.Om with⟨_,hm⟩|⟨_,T_,hm⟩|Jl
 ·refine hn (ab.f rfl (S.rL hf h hu hl x λk t hf=>⟨_,_,rfl,ab.mk (λht=>?_) (λht=>?_)⟩))
  ·have ht:t=false:=by simpa using ht
   subst ht;exact h0 (hf.none hc)
  ·have ht:t=true:=by simpa using ht
   subst ht;obtain⟨hk,hK⟩:=YZ k hf;refine⟨_,_,aI hm (by simp),by omega,_,aH hk,S.hX _ _ ⟨S.row _,?_⟩⟩;rw[S.E];exact hK
 ·refine hn (ab.f rfl (S.rL hf h hu hl x λk t hf=>⟨_,_,rfl,ab.mk (λht=>?_) (λht=>?_)⟩))
  ·have ht:t=false:=by simpa using ht
   subst ht;exact h0 (hf.none hc)
  ·have ht:t=true:=by simpa using ht
   subst ht;exact(none_ T_ hf).elim
 ·refine hr (ab.f rfl (S.rL hf h hu hl x λk t hf=>⟨_,_,rfl,ab.mk (λht=>?_) (λht=>?_)⟩))
  ·have ht:t=false:=by simpa using ht
   subst ht;exact h0 (hf.none hc)
  ·have ht:t=true:=by simpa using ht
   subst ht;obtain⟨hk,hK⟩:=YZ k hf;rcases Jl with⟨_,T_,_⟩|⟨b',c,rest,_,_,hm,sE,_⟩
   ·exact(none_ T_ hf).elim
   ·refine⟨_,_,_,aI hm (by simp),by omega,by simpa using hk,S.hX l[k] _ ⟨?_,?_⟩⟩
    ·rw[toNat_natCast,zero_add];exact Ho (S.each l) sE (by rw[List.getElem?_map,getElem?_eq_getElem hk];rfl)
    ·rw[S.E];exact hK
end
omit S in
theorem aat{n:FuncId}(hn:∀{a0:Option Addr} {u0:Mem} {K:Kq},D.len a0 u0 K->aa D.P n [pA a0] u0 K) ⦃L:List aX⦄ ⦃μ:Mem⦄ ⦃b:Nat⦄ ⦃l:List El⦄ (hO:Ow (cb D.TS D.TE D.W b (l.map pr)::L) μ) ⦃K:Kq⦄ (hk:K (pI (l.length:Nat)) μ):aa D.P n [pP b 0] μ K:=by
 obtain⟨F,h,_⟩:=cb.split hO;refine iE.query h (Kq:=λp=>p=pI (l.length:Nat)) (λs=>hn (ab.f rfl ⟨_,_,wQ (Mem.an _ _ _) (by simp),by simp⟩)) (λp e=>by rw[e];rfl) λp e=>by rw[e];exact hk
section
variable {no:FuncId} (ho:∀{a0:Option Addr} {u0:Mem} {K:Kq},D.own a0 u0 K->aa D.P no [pA a0] u0 K)
include ho
theorem KT{μ:Mem}{b:Nat}{l:List El}{F:List Nat}(h:iE D.TS D.TE D.W μ b (l.map pr) F)(hl:l.length<=1000000000){K:Kq}(hk:∀μ' F',sN D.TS D.TE D.W μ' b (l.map pr) F'->Mv μ μ' F F'->K (.aA []) μ'):aa D.P no [pP b 0] μ K:=by
 obtain⟨μ0,hG,PF,RY⟩:=h.raw;refine aa.pre hG (ho ?_);have hB:=S.B0;have hmul:∀m,m<=1000000001->m*D.B<=140737488355328:=λm hm=>le_trans (Nat.mul_le_mul hm hB) (by decide);rcases RY with⟨rfl,hm⟩|hr
 ·refine⟨true,aI hm (by simp),ab.t rfl ?_⟩;refine⟨_,_,aI hm (by simp),?_⟩;refine⟨_,_,aI hm (by simp),?_⟩;rw[length_map,aC (by omega) (by omega)];have hn:toNat ((l.length:Int)+1)=l.length+1:=by omega
  rw[hn];refine⟨by omega,by omega,by omega,hmul _ (by omega),λCg Fy=>?_⟩;have aZ:Cg≠b:=by rintro rfl;rw[hm]at Fy;cases Fy
  have DN:=S.zl;refine IK (Mem.an _ _ _) (by simp[DN]) (by simp) (S.each l) (S.cell l) (by rw[length_map];exact hmul _ (by omega)) (by simp;omega) ?_;rw[Mem.set_set];refine⟨_,_,by rw[Mem.ax _ _ (Ne.symm aZ)];exact hm,by simp,?_⟩;refine⟨_,_,Mem.an _ _ _,by simp[dy],?_⟩;rw[Mem.set_set];refine hk _ [b,Cg] (.inr ⟨Cg,l.length+1,_,rfl,aZ,by first|(rw[Mem.an];rfl)|rw[Mem.an],by rw[Mem.ax _ _ aZ,Mem.an],?_,by simp⟩) (PF.trans ?_)
  ·simp only[List.length_drop,List.length_flatten,List.map_replicate,List.sum_replicate_nat,DN,length_map];have:l.length*D.W<=(l.length+1)*D.W:=Nat.mul_le_mul_right _ (by omega);omega
  ·exact((Mv.set (F:=[b]) (.inr Fy)).trans (Mv.set (.inl (by simp)))).sub (by simp)
 ·obtain⟨a,c,hm,_⟩:=hr.app (S.each l);exact⟨false,aI hm (by simp),ab.f rfl (hk μ0 F hr PF)⟩
include hf
theorem fV{n:FuncId}(hn:∀{x:El} {a0:Option Addr} {u0:Mem} {K:Kq},D.put a0 u0 K (pr x) (arg x) nf no->aa D.P n [pA a0,arg x] u0 K) ⦃L:List aX⦄ ⦃μ:Mem⦄ ⦃b:Nat⦄ ⦃l:List El⦄ (hO:Ow (cb D.TS D.TE D.W b (l.map pr)::L) μ) (hu:bY ck key l) (hl:l.length<=999999999) (x:El) ⦃K:Kq⦄ (hk:∀μ',Ow (cb D.TS D.TE D.W b ((dw ck key x l).map pr)::L) μ'->K (pB (aL ck key (key x) l).isNone) μ'):aa D.P n [pP b 0,arg x] μ K:=by
 have hc:=S.hc;have hB:=S.B0;have each:=S.each;obtain⟨F,h,yE⟩:=cb.split hO;refine hn ?_;refine ab.f rfl (S.rL hf h hu (by omega) x λk t hf=>⟨_,_,rfl,ab.mk (λht=>?_) (λht=>?_)⟩)
 ·subst ht;obtain⟨_,e⟩:=hf.some hc hu;have:=hk μ (by rw[dw,e];exact hO);rw[e]at this;exact this
 ·subst ht;have en:=hf.none hc;have e1:dw ck key x l=l.take k++x::l.drop k:=by rw[dw,en,hf.ins hc];rfl
  rw[e1,en]at hk;refine S.KT ho h (by omega) λμ1 F1 hr yC=>⟨rfl,?_⟩;obtain⟨a,c,hb,jf⟩:=hr.app (each l);refine⟨_,_,_,aI hb (by simp),?_⟩;simp only[length_map]at jf;rw[length_map];refine jf (pr x) _ _ (S.len x) (S.XR x) (le_trans (Nat.mul_le_mul (show l.length+1<=1000000000 by omega) hB) (by decide)) (by omega) λb' c' rest μ2 aZ e2 je jm sH rH=>?_;refine⟨_,_,e2.trans hb,by simp,?_⟩;refine⟨_,_,_,aI (Mem.an _ _ _) (by simp[dy]),?_⟩;have hn1:wrap .i64 (((l.length+1:Nat):Int)-1)=(l.length:Int):=by rw[aC (by omega) (by omega)];omega
  rw[hn1];have hle:=hf.leK;have room:∀(j:Nat) (y:El) (i:Nat) (r:List PV),i<=l.length->r.length=D.W->0+i*D.W+r.length<=(((l.take j++y::l.drop j).map pr).flatten++rest).length:=λj y i r hi Cd=>by
   have mu:=dV (each (l.take j++y::l.drop j));rw[length_map,jI]at mu;rw[length_append,mu,Cd,zero_add,<- succ_mul];exact le_trans (Nat.mul_le_mul_right _ (by omega)) (Nat.le_add_right _ _)
  refine ao.down hle (by omega) (λj u=>∃y,u b=some (.cells D.TS [.raw (.slice (some ⟨b',0,none⟩) (l.length+1) c'),pB false])/\u b'=some (.cells D.TE (((l.take j++y::l.drop j).map pr).flatten++rest))/\Mv μ2 u [b,b'] [b,b']) ⟨x,?_,?_,?_⟩ ?_ ?_
  ·rw[Mem.an];rfl
  ·rw[Mem.ax _ _ aZ,je,take_length,drop_length];simp
  ·exact(Mv.set (.inl (by simp))).sub (by simp)
  ·rintro j u next ZB Ua ⟨y,i1,i2,i3⟩ aw
   refine ab.t (by simpa using ZB) ?_;refine⟨_,_,_,aI i1 (by simp),?_⟩;refine⟨_,_,_,aI i1 (by simp),?_⟩;have Mz:wrap .i64 ((j:Int)-1)=((j-1:Nat):Int):=by rw[aC (by omega) (by omega)];omega
   have eR:ay u b' (0+toNat (wrap .i64 ((j:Int)-1))*D.W) D.W=some (pr (l[j-1]'(by omega))):=by
    rw[Mz,toNat_natCast,zero_add];exact Ho (each _) i2 (Rz l j y (by omega) Ua)
   refine⟨by rw[Mz];omega,by rw[Mz];omega,S.hX _ _ ⟨eR,?_⟩⟩;refine⟨by omega,by omega,_,_,i2,?_,aw _ ⟨l[j-1]'(by omega),?_,?_,?_⟩⟩
   ·rw[toNat_natCast];exact room j y j _ Ua (S.len _)
   ·rw[Mem.ax _ _ (Ne.symm aZ)];exact i1
   ·rw[Mem.an,toNat_natCast,zero_add,Da (r:=pr (l[j-1]'(by omega))) (each _) (by rw[length_map,jI];omega) (S.len _),HM l j y (by omega) Ua]
   ·exact(i3.trans (Mv.set (.inl (by simp)))).sub (by simp)
  ·rintro u next ⟨y,i1,i2,i3⟩
   refine ab.f (by simp) ?_;refine⟨_,_,_,aI i1 (by simp),?_⟩;refine⟨by omega,by omega,_,_,i2,?_,?_⟩
   ·rw[toNat_natCast];exact room k y k _ hle (S.len _)
   ·rw[toNat_natCast,zero_add,Da (r:=pr x) (each _) (by rw[length_map,jI];omega) (S.len _),Mm l k x y hle];refine hk (u.set b' (some (.cells D.TE (((l.take k++x::l.drop k).map pr).flatten++rest)))) (yE (F':=[b,b']) (yC.trans (rH.trans ((i3.trans (Mv.set (.inl (by simp)))).sub (by simp)))) ⟨each _,S.cell _,.inr (.inr (.inr ⟨b',c',rest,rfl,aZ,?_,Mem.an _ _ _,?_,?_⟩))⟩)
    ·rw[Mem.ax _ _ (Ne.symm aZ),i1,length_map,jI]
    ·rw[length_map,jI];exact jm
    ·rw[length_map,jI];exact sH
theorem gK{n:FuncId}(hn:∀{x:El} {a0:Option Addr} {u0:Mem} {K:Kq},D.drop a0 u0 K (arg x) nf no->aa D.P n [pA a0,arg x] u0 K) ⦃L:List aX⦄ ⦃μ:Mem⦄ ⦃b:Nat⦄ ⦃l:List El⦄ (hO:Ow (cb D.TS D.TE D.W b (l.map pr)::L) μ) (hu:bY ck key l) (hl:l.length<=999999999) (x:El) ⦃K:Kq⦄ (hk:∀μ',Ow (cb D.TS D.TE D.W b ((bU ck key (key x) l).map pr)::L) μ'->K (pB (aL ck key (key x) l).isSome) μ'):aa D.P n [pP b 0,arg x] μ K:=by
 have hc:=S.hc;have each:=S.each;have hW:=S.W0;obtain⟨F,h,yE⟩:=cb.split hO;refine hn ?_;refine ab.f rfl (S.rL hf h hu (by omega) x λk t hf=>⟨_,_,rfl,ab.mk (λht=>?_) (λht=>?_)⟩)
 ·have ht:t=false:=by simpa using ht
  subst ht;have en:=hf.none hc;have e1:bU ck key (key x) l=l:=by
   unfold bU;refine List.filter_eq_self.2 λy hy=>?_;have:=(bx hc).1 en y hy;simp only[FJ,Bool.not_eq_true',decide_eq_false_iff_not,hc.zero];exact this
  rw[e1,en]at hk;exact hk μ hO
 ·have ht:t=true:=by simpa using ht
  subst ht;obtain⟨GB,es⟩:=hf.some hc hu;rw[<- hf.del hc hu,es]at hk;refine S.KT ho h (by omega) λμ1 F1 hr yC=>⟨rfl,?_⟩;rcases hr with⟨_,hn,_⟩|⟨b',c,rest,rfl,aZ,hb,je,jm,MC⟩
  ·have:(l.map pr).length=0:=by rw[hn];rfl
   simp at this;subst this;simp at GB
  ·rw[length_map]at hb jm MC;refine ao.from (s:=k) (n:=l.length-1) (by omega) (by omega) (λj u=>u b=some (.cells D.TS [.raw (.slice (some ⟨b',0,none⟩) l.length c),pB false])/\u b'=some (.cells D.TE (((vg l k j).map pr).flatten++rest))/\Mv μ1 u [b,b'] [b,b']) ⟨hb,by rw[acI];exact je,Mv.refl _ _⟩ ?_ ?_
   ·rintro j u next ZB Ua ⟨i1,i2,i3⟩ aw
    have Mz:wrap .i64 ((j:Int)+1)=((j+1:Nat):Int):=by rw[aC (by omega) (by omega)];omega
    have oK:((vg l k j).map pr).length=l.length:=by rw[length_map,Rg ZB (by omega)]
    have eR:ay u b' (0+toNat (wrap .i64 ((j:Int)+1))*D.W) D.W=some (pr (l[j+1]'(by omega))):=by
     rw[Mz,toNat_natCast,zero_add];exact Ho (each _) i2 (by rw[List.getElem?_map,Vi ZB (by omega)];rfl)
    refine⟨_,_,_,aI i1 (by simp),ab.t (by rw[Mz];simp;omega) ?_⟩;refine⟨_,_,_,aI i1 (by simp),?_⟩;refine⟨_,_,_,aI i1 (by simp),?_⟩;refine⟨by rw[Mz];omega,by rw[Mz];omega,S.hX _ _ ⟨eR,?_⟩⟩;refine⟨by omega,by omega,_,_,i2,?_,aw _ ⟨?_,?_,?_⟩⟩
    ·have mu:=dV (each (vg l k j));rw[oK]at mu;rw[length_append,mu,toNat_natCast,S.len,zero_add,<- succ_mul];exact le_trans (Nat.mul_le_mul_right _ (by omega)) (Nat.le_add_right _ _)
    ·rw[Mem.ax _ _ (Ne.symm aZ)];exact i1
    ·rw[Mem.an,toNat_natCast,zero_add,Da (r:=pr (l[j+1]'(by omega))) (each _) (by rw[oK];omega) (S.len _),<- List.map_set,Oh ZB (by omega)]
    ·exact(i3.trans (Mv.set (.inl (by simp)))).sub (by simp)
   ·rintro u next ⟨i1,i2,i3⟩
    have Mz:wrap .i64 (((l.length-1:Nat):Int)+1)=((l.length:Nat):Int):=by rw[aC (by omega) (by omega)];omega
    have hj2:wrap .i64 (((l.length:Nat):Int)-1)=((l.length-1:Nat):Int):=by rw[aC (by omega) (by omega)];omega
    refine⟨_,_,_,aI i1 (by simp),ab.f (by rw[Mz];simp) ?_⟩;refine⟨_,_,_,aI i1 (by simp),?_⟩;refine⟨_,_,_,aI i1 (by simp),?_⟩;refine⟨λa ha=>by cases ha;rfl,by omega,by rw[hj2];omega,by rw[hj2];omega,by omega,_,_,i1,by simp,?_⟩;rw[hj2];have PI:(l.eraseIdx k).length=l.length-1:=by rw[List.length_eraseIdx,if_pos GB]
    refine hk _ (yE (F':=[b,b']) (yC.trans ((i3.trans (Mv.set (.inl (by simp)))).sub (by simp))) ⟨each _,S.cell _,.inr (.inr (.inr ⟨b',c,pr (l[l.length-1]'(by omega))++rest,rfl,aZ,?_,?_,?_,?_⟩))⟩)
    ·rw[Mem.an,length_map,PI];have e0:yZ (some ⟨b',0,none⟩) (toNat 0) (toNat ((c:Nat):Int)) D.W=some ⟨b',0,none⟩:=by
      unfold yZ;rw[if_neg (by simp;omega)];simp
     rw[e0];simp[dy]
    ·rw[Mem.ax _ _ aZ,i2,Rh GB,map_append,List.flatten_append];simp
    ·rw[length_map,PI,length_append,S.len,<- Nat.add_assoc,<- succ_mul,show(l.length-1).succ=l.length by omega];exact jm
    ·rw[length_map,PI];omega
end
theorem aeF ⦃L:List aX⦄ ⦃μ:Mem⦄ ⦃b:Nat⦄ (hO:Ow L μ) (hb:μ b=none):Ow (cb D.TS D.TE D.W b (([]:List El).map pr)::L) (μ.set b (some (.cells D.TS [.list D.W .nil [],pB false]))):=
 (hO.new D.TS [.list D.W .nil [],pB false] hb).imp λν hν=>⟨[b],S.each [],S.cell [],.inr (.inl ⟨rfl,rfl,hν⟩)⟩
theorem gu{np n:FuncId}(hp:∀ ⦃L:List aX⦄ ⦃μ:Mem⦄ ⦃b:Nat⦄ ⦃l:List El⦄,Ow (cb D.TS D.TE D.W b (l.map pr)::L) μ->bY ck key l->l.length<=999999999->∀(x:El) ⦃K:Kq⦄,(∀μ',Ow (cb D.TS D.TE D.W b ((dw ck key x l).map pr)::L) μ'->K (pB (aL ck key (key x) l).isNone) μ')->aa D.P np [pP b 0,arg x] μ K)
  (hn:∀{fl:Fl} {l:Lq} {u0:Mem} {K:Kq},D.new u0 K np l->aa D.P n [.list D.W fl l] u0 K) ⦃L:List aX⦄ ⦃μ:Mem⦄ (hO:Ow L μ) (fl:Fl) (xs:List El) (hx:xs.length<=1000000) ⦃K:Kq⦄ (hk:∀μ' b,Ow (cb D.TS D.TE D.W b ((xs.foldl (λl x=>dw ck key x l) []).map pr)::L) μ'->K (pP b 0) μ'):aa D.P n [.list D.W fl (xs.map pr)] μ K:=by
 have hc:=S.hc;refine hn λb hb=>?_;have h0:=S.aeF hO hb;have hup:∀(ys:List El),bY ck key (ys.foldl (λl x=>dw ck key x l) [])/\(ys.foldl (λl x=>dw ck key x l) []).length<=ys.length:=λys=>by
  have agz:∀(ys acc:List El),bY ck key acc->bY ck key (ys.foldl (λl x=>dw ck key x l) acc)/\(ys.foldl (λl x=>dw ck key x l) acc).length<=acc.length+ys.length:=by
   intro ys;induction ys with
   |nil=>intro acc h;exact⟨h,by simp⟩
   |cons y ys ih=>
    intro acc h;obtain⟨a1,a2⟩:=ih (dw ck key y acc) (h.put hc y);refine⟨a1,?_⟩;have:=Ax (ck:=ck) (key:=key) (x:=y) (L:=acc);simp only[List.foldl_cons,List.length_cons]at a2 |-;omega
  have:=agz ys [] Pairwise.nil;simpa using this
 refine ao.each (n:=xs.length) (by omega) (λi u=>Ow (cb D.TS D.TE D.W b (((xs.take i).foldl (λl x=>dw ck key x l) []).map pr)::L) u) h0 ?_ ?_
 ·intro i u next hi hI aw
  obtain⟨a1,a2⟩:=hup (xs.take i);refine ab.t (by simpa using hi) ⟨by omega,_,aH hi,S.hX _ _ ⟨S.row _,?_⟩⟩;rw[S.E'];refine hp hI a1 (by simp at a2;omega) xs[i] λu' dK=>⟨_,rfl,aw _ ?_⟩;rw[take_add_one,getElem?_eq_getElem hi,List.foldl_append];exact dK
 ·intro u next hI
  refine ab.f (by simp) (hk _ b ?_);rw[take_length]at hI;exact hI
theorem d_{na nfr:FuncId}(h1:∀{a0:Fn} {Cm Ck c0:List PV} {u0:Mem} {K:Kq},D.ze u0 K nfr a0 Cm Ck c0->aa D.P na [.fn a0 Cm Ck,.bk c0 0] u0 K)
  (h2:∀{a0:Option Addr} {a1:Int} {a2:Fn} {Cj Ch:List PV} {u0:Mem} {K:Kq},D.from_ a0 u0 K a1 a2 Cj Ch->aa D.P nfr [pA a0,pI a1,.fn a2 Cj Ch] u0 K)
  (b:Nat) (l:List El) (hl:l.length<=4000000000000000000):gQ D.P (.fn (.func na) [] [.bk [pP b 0] 0]) (l.map λx=>[arg x]) (cb D.TS D.TE D.W b (l.map pr)) (cb D.TS D.TE D.W b (l.map pr)):=by
 refine gQ.mk λfy ya yb I A C μ hy hO h0 cO=>?_;show aa _ _ [.fn fy ya yb,.bk [pP b 0] 0] _ _;refine h1 ⟨_,rfl,ab.t rfl ⟨_,rfl,?_⟩⟩;obtain⟨F,h,yE⟩:=cb.split hO;obtain⟨μ0,s,hG,hm,PF⟩:=h.list;refine aa.pre hG (h2 ?_);refine⟨_,_,hm,by simp,?_⟩;have h1:Ow [cb D.TS D.TE D.W b (l.map pr),C] (μ0.set b (some (.cells D.TS (dy [.list D.W .sh (l.map pr),pB s] (0+1) [pB true])))):=yE (F':=[b]) ((PF.trans (Mv.set (.inl (by simp)))).sub (by simp)) ⟨S.each l,S.cell l,.inl ⟨rfl,by rw[Mem.an];rfl⟩⟩;refine⟨_,_,aI (Mem.an _ _ _) (by simp[dy]),?_⟩;rw[length_map];refine ao.each (n:=l.length) (by omega) (λi u=>Ow [I i] u) (h0 _ h1) ?_ ?_
 ·intro i u next hi hI aw
  have fK:=cO i (by simpa using hi);rw[getElem_map]at fK;refine ab.t (by simpa using hi) ⟨by omega,_,aH hi,S.hX _ _ ⟨S.row _,?_⟩⟩;rw[S.E'];refine Ow.yQ hI (λν hν=>fK ν hν) λv μ' Sp=>?_;rcases Sp.s_ with⟨rfl,h⟩|⟨rfl,h⟩
  ·exact⟨true,rfl,ab.f rfl (aw _ h)⟩
  ·exact⟨false,rfl,ab.t rfl ⟨rfl,.inr h⟩⟩
 ·intro u next hI
  refine ab.f (by simp) ⟨rfl,.inl ?_⟩;simp only[length_map];exact hI
end Pp
end Go.aO
namespace Go.Proofs.YthaeiehophlooaaGreat
open Go.Proofs.Tryz Go.aO Go.RowKit
namespace RT
abbrev El:=aj
@[reducible] def pv(x:El):List PV:=aj.pv x
@[reducible] def arg(x:El):PV:=.agg x.pv
@[reducible] def zero:PV:=.agg [pI 0,pS ⟨#[]⟩,pI 0,pI 0,pS ⟨#[]⟩,pI 0,pI 0,pS ⟨#[]⟩,pI 0,pB false,pB false,pI 0]
def key(x:El):Int:=x.tag
abbrev ck:Int->Int->Int:=au
theorem hc:ns ck:=ar
theorem tY(a b:El):Pure prog 299 [arg a,arg b] (pI (ck (key a) (key b))):=by
 refine av.of (pR.c ?_);refine ab.mk (λh=>?_) (λh=>ab.mk (λh1=>?_) (λh1=>?_))<;>simp only[decide_eq_true_eq,decide_eq_false_iff_not]at* <;>simp only[au,wk,bV,key]
 ·rw[if_pos h]
 ·rw[if_neg h,if_pos h1]
 ·rw[if_neg h,if_neg h1]
@[reducible] noncomputable def D:SD:=⟨prog,201,129,12,112,299,λQ=>∃xa xb xc xd xe xf xg xh xi xj xk xl,Q [pI xa,pS xb,pI xc,pI xd,pS xe,pI xf,pI xg,pS xh,pI xi,pB xj,pB xk,pI xl],.agg,[pI (0),pS ⟨#[]⟩,pI (0),pI (0),pS ⟨#[]⟩,pI (0),pI (0),pS ⟨#[]⟩,pI (0),pB false,pB false,pI (0)]⟩
abbrev At(b:Nat)(l:List El):aX:=cb 201 129 12 b (l.map pv)
theorem mr:Pp D pv arg key ck:=⟨λx Q h=>⟨_,_,_,_,_,_,_,_,_,_,_,_,h⟩,λ_=>rfl,λ_=>rfl,λ_=>rfl,λ_=>rfl,hc,tY,λv=>by kernel_rfl,rfl,by decide,by decide⟩
theorem dd{x:El}{a0:Option Addr}{u0:Mem}{K:Kq}(h:D.find a0 u0 K (arg x)):aa prog 124 [pA a0,arg x] u0 K:=VC [3] [(2,⟨[(6,.one (.raw (.int .i64))),(7,.one (.raw (.int .i64)))],[]⟩)] [] [] [] [] [] func124 h
theorem EX{x:El}{a0:Option Addr}{u0:Mem}{K:Kq}(h:D.place a0 u0 K (arg x) 124):aa prog 75 [pA a0,arg x] u0 K:=VC [3] [] [] [] [] [] [] func75 h
def qV:=mr.qV dd EX
theorem vd{x:El}{a0:Option Addr}{u0:Mem}{K:Kq}(h:D.get a0 u0 K (arg x) 124):aa prog 123 [pA a0,arg x] u0 K:=VC [3,4,6] [] [] [] [] [] [] func123 h
theorem oz{x:El}{a0:Option Addr}{u0:Mem}{K:Kq}(h:D.OH a0 u0 K (arg x) 124):aa prog 123 [pA a0,arg x] u0 K:=VC [3,4,6] [] [] [] [] [] [24] func123 h
def ku:=mr.ku dd vd oz
theorem acC{a0:Option Addr}{u0:Mem}{K:Kq}(h:D.len a0 u0 K):aa prog 130 [pA a0] u0 K:=VC [] [] [] [] [] [] [] func130 h
def aat:=Pp.aat (D:=D) (pr:=pv) acC
theorem gU{a0:Option Addr}{u0:Mem}{K:Kq}(h:D.own a0 u0 K):aa prog 125 [pA a0] u0 K:=VC [] [] [] [] [] [] [] func125 h
theorem lI{x:El}{a0:Option Addr}{u0:Mem}{K:Kq}(h:D.put a0 u0 K (pv x) (arg x) 124 125):aa prog 74 [pA a0,arg x] u0 K:=VC [3] [(9,⟨[(7,.one (.raw (.int .i64)))],[]⟩)] [] [] [] [] [23,32,43,48,57] func74 h
def fV:=mr.fV dd gU lI
theorem lL{x:El}{a0:Option Addr}{u0:Mem}{K:Kq}(h:D.drop a0 u0 K (arg x) 124 125):aa prog 128 [pA a0,arg x] u0 K:=VC [3] [(8,⟨[(7,.one (.raw (.int .i64)))],[]⟩)] [] [] [] [] [26,34,39,49,53,56] func128 h
def gK:=mr.gK dd gU lL
theorem lJ{fl:Fl}{l:Lq}{u0:Mem}{K:Kq}(h:D.new u0 K 74 l):aa prog 48 [.list 12 fl l] u0 K:=VC [5] [(3,⟨[(10,.one (.raw (.int .i64)))],[]⟩)] [] [] [] [] [] func48 h
def gu:=mr.gu fV lJ
theorem lK{a0:Option Addr}{a1:Int}{a2:Fn}{Cj Ch:List PV}{u0:Mem}{K:Kq}(h:D.from_ a0 u0 K a1 a2 Cj Ch):aa prog 127 [pA a0,pI a1,.fn a2 Cj Ch] u0 K:=VC [] [(3,⟨[(7,.one (.raw (.int .i64)))],[]⟩)] [] [] [] [] [] func127 h
theorem lM{a0:Fn}{Cm Ck c0:List PV}{u0:Mem}{K:Kq}(h:D.ze u0 K 127 a0 Cm Ck c0):aa prog 126 [.fn a0 Cm Ck,.bk c0 0] u0 K:=VC [] [] [] [] [] [] [] func126 h
@[reducible] def qY(b:Nat):PV:=.fn (.func 126) [] [.bk [pP b 0] 0]
theorem pN(b:Nat):Pure prog 77 [pP b 0] (qY b):=av.of (lh.c rfl)
theorem d_(b:Nat)(l:List El)(hl:l.length<=4000000000000000000):gQ prog (qY b) (l.map λx=>[arg x]) (At b l) (At b l):=mr.d_ lM lK b l hl
end RT
end Go.Proofs.YthaeiehophlooaaGreat
namespace Go.aO
open Go.RowKit
structure MD where
 S:SD
 TM:TypeId
 TY:TypeId
 WK:Nat
 WV:Nat
 at_:FuncId
 XK:(List PV->Prop)->Prop
 EK:List PV->PV
 XV:(List PV->Prop)->Prop
 EV:List PV->PV
 ZV:List PV
section
variable (M:MD) (a0:Option Addr) (u0:Mem) (K:Kq) (ek:PV) (fg fp fd:FuncId)
def MD.look(J:Option Addr×Bool->Mem->Prop):Prop:=
 nP a0 λb o=>
 ∃x,ay u0 b o 1=some [pA x]/\
 (cV M.S.P M.at_ [ek] u0 λv ym=>
  M.S.X λy=>v=M.S.E y/\
  (aa M.S.P fg [pA x,M.S.E (y.map bV)] (Mem.or u0 ym) λNm yl=>
   M.S.X λy2=>∃q,Nm=(.aA [M.S.E y2,pB q])/\
   ∀(b7:Nat),yl b7=none->
   stM b7 0 y2 (Mem.set yl b7 (some (.cells M.S.TE M.S.Z))) λDe=>
   J ((some ⟨b7,0,none⟩),q) De)/\
  (∀(b7:Nat),(Mem.or u0 ym) b7=none->
   aa M.S.P fg [pA x,M.S.E (y.map bV)] (Mem.set (Mem.or u0 ym) b7 (some (.cells M.S.TE M.S.Z))) λYh Dd=>
   M.S.X λy2=>∃q,Yh=(.aA [M.S.E y2,pB q])/\
   stM b7 0 y2 Dd λJg=>
   J ((some ⟨b7,0,none⟩),q) Jg))/\
 (∀(b7:Nat),u0 b7=none->
  cV M.S.P M.at_ [ek] (Mem.set u0 b7 (some (.cells M.S.TE M.S.Z))) λv_3 WU=>
  M.S.X λy=>v_3=M.S.E y/\
  aa M.S.P fg [pA x,M.S.E (y.map bV)] (Mem.or (Mem.set u0 b7 (some (.cells M.S.TE M.S.Z))) WU) λv_4 WT=>
  M.S.X λy2=>∃q,v_4=(.aA [M.S.E y2,pB q])/\
  stM b7 0 y2 WT λUj=>
  J ((some ⟨b7,0,none⟩),q) Uj)
def MD.get:Prop:=
 ab (isNone a0)
 (K (.aA [M.EV M.ZV,pB false]) u0)
 (bZ (α:=Option Addr×Bool) (λJ=>M.look a0 u0 ek fg J)
  (λs u=>
   aU (.raw (.pointer s.1)) λb o=>
   M.XV λy=>ay u b (o+M.WK) M.WV=some y/\
   K (.aA [M.EV y,pB s.2]) u))
def MD.put(pg:PV)(cv:List PV):Prop:=
 ab (isNone a0)
 (K (pB false) u0)
 (bZ (α:=Option Addr×Bool) (λJ=>M.look a0 u0 ek fg J)
  (λs u=>
   ab (!s.2)
   (nP a0 λb o=>
    ∃x,ay u b o 1=some [pA x]/\
    aa M.S.P fp [pA x,pg] u λv u_9=>
    ∃r,v=(pB r)/\
    K (pB r) u_9)
   (nP a0 λb o=>
    ∃x,ay u b o 1=some [pA x]/\
    aU (.raw (.pointer s.1)) λWy UZ=>
    M.S.X λy=>ay u Wy UZ M.S.W=some y/\
    aa M.S.P fd [pA x,M.S.E (y.map bV)] u λv PX=>
    ∃r,v=(pB r)/\
    nP a0 λb_4 YN=>
    ∃x1,ay PX b_4 YN 1=some [pA x1]/\
    aU (.raw (.pointer s.1)) λb_5 o_5=>
    M.XK λyk=>ay PX b_5 o_5 M.WK=some yk/\
    aa M.S.P fp [pA x1,.agg (yk++cv)] PX λv_7 Np=>
    ∃r,v_7=(pB r)/\
    K (pB false) Np)))
def MD.drop:Prop:=
 ab (isNone a0)
 (K (.aA [M.EV M.ZV,pB false]) u0)
 (bZ (α:=Option Addr×Bool) (λJ=>M.look a0 u0 ek fg J)
  (λs u=>
   bZ (α:=Unit) (λJ_1=>
    ab s.2
    (nP a0 λb o=>
     ∃x,ay u b o 1=some [pA x]/\
     aU (.raw (.pointer s.1)) λTy QZ=>
     M.S.X λy=>ay u Ty QZ M.S.W=some y/\
     aa M.S.P fd [pA x,M.S.E (y.map bV)] u λv PX=>
     ∃r,v=(pB r)/\
     J_1 () PX)
    (J_1 () u))
   (λrQ u_9=>
    aU (.raw (.pointer s.1)) λWy UZ=>
    M.XV λy=>ay u_9 Wy (UZ+M.WK) M.WV=some y/\
    K (.aA [M.EV y,pB s.2]) u_9)))
def MD.new(fn:FuncId):Prop:=
 aa M.S.P fn [.list M.S.W .nil []] u0 λv u=>
 ∃x,v=(pA x)/\
 cg u M.TM [pA x] λb3 ym=>
 K (pP b3 0) ym
def MD.ze(fa:FuncId)(f:Fn)(fa1 fb1 c0:List PV):Prop:=
 cg u0 M.TY [.fn f fa1 fb1] λb2 Jg=>
 ∃x4,aE c0 0 1=some [pA x4]/\
 ab (isNone x4)
 (K (.aA []) Jg)
 (∃x6,aE c0 0 1=some [pA x6]/\
  nP x6 λb o=>
   ∃x9,ay Jg b o 1=some [pA x9]/\
   aa M.S.P fa [pA x9] Jg λv u=>
   ∃(x10:Fn) (ab3 ab2:List PV),v=(.fn x10 ab3 ab2)/\
   bu M.S.P (.fn x10 ab3 ab2) (λvs RR ym=>
    M.S.X λy=>vs=[M.S.E y]/\
    ∃(x12:Fn) (abZ abY:List PV),ay ym b2 0 1=some [(.fn x12 abZ abY)]/\
    bJ M.S.P (.fn x12 abZ abY) [M.EK (y.take M.WK),M.EV ((y.drop M.WK).map bV)] ym λNm De=>
    ∃x17,Nm=(pB x17)/\
    ab (!x17)
    (RR (some .ret) De)
    (RR none De))
   (λp yl=>
    PK p
    (K (.aA []) yl)
    (K (.aA []) yl)
    [])
   u)
end
section
variable (D:SD) {El κ:Type} (pr:El->List PV) (arg:El->PV) (key:El->κ) (ck:κ->κ->Int) (n:FuncId)
abbrev aeJ:Prop:=∀ ⦃L:List aX⦄ ⦃μ:Mem⦄ ⦃b:Nat⦄ ⦃l:List El⦄,Ow (cb D.TS D.TE D.W b (l.map pr)::L) μ->bY ck key l->l.length<=4000000000000000000->∀(x:El) ⦃K:Kq⦄,(∀y,aL ck key (key x) l=some y->K (.aA [arg y,pB true]) μ)->(aL ck key (key x) l=none->K (.aA [D.E D.Z,pB false]) μ)->aa D.P n [pP b 0,arg x] μ K
abbrev aiR:Prop:=∀ ⦃L:List aX⦄ ⦃μ:Mem⦄ ⦃b:Nat⦄ ⦃l:List El⦄,Ow (cb D.TS D.TE D.W b (l.map pr)::L) μ->bY ck key l->l.length<=999999999->∀(x:El) ⦃K:Kq⦄,(∀μ',Ow (cb D.TS D.TE D.W b ((dw ck key x l).map pr)::L) μ'->K (pB (aL ck key (key x) l).isNone) μ')->aa D.P n [pP b 0,arg x] μ K
abbrev Yd:Prop:=∀ ⦃L:List aX⦄ ⦃μ:Mem⦄ ⦃b:Nat⦄ ⦃l:List El⦄,Ow (cb D.TS D.TE D.W b (l.map pr)::L) μ->bY ck key l->l.length<=999999999->∀(x:El) ⦃K:Kq⦄,(∀μ',Ow (cb D.TS D.TE D.W b ((bU ck key (key x) l).map pr)::L) μ'->K (pB (aL ck key (key x) l).isSome) μ')->aa D.P n [pP b 0,arg x] μ K
end
def dT(M:MD){El:Type}(pr:El->List PV)(m:Nat)(l:List El):aX:=λμ=>∃s,Ow [Pt m M.TM [pP s 0],cb M.S.TS M.S.TE M.S.W s (l.map pr)] μ
theorem dT.open_{M:MD}{El:Type}{pr:El->List PV}{m:Nat}{l:List El}{L:List aX}{μ:Mem}(h:Ow (dT M pr m l::L) μ):∃s,Ow (Pt m M.TM [pP s 0]::cb M.S.TS M.S.TE M.S.W s (l.map pr)::L) μ:=by
 obtain⟨s,h⟩:=Ow.ex h;exact⟨s,h.nest⟩
theorem dT.shut{M:MD}{El:Type}{pr:El->List PV}{m s:Nat}{l:List El}{L:List aX}{μ:Mem}(h:Ow (Pt m M.TM [pP s 0]::cb M.S.TS M.S.TE M.S.W s (l.map pr)::L) μ):Ow (dT M pr m l::L) μ:=
 (Ow.pack (L1:=[Pt m M.TM [pP s 0],cb M.S.TS M.S.TE M.S.W s (l.map pr)]) h).imp λ_ hν=>⟨s,hν⟩
theorem Ui{cs vs:List PV}(h:vs.length=cs.length):dy cs 0 vs=vs:=by
 unfold dy;rw[List.take_zero,List.nil_append,zero_add,h,drop_length,append_nil]
structure MOk(M:MD){KY VL κ:Type}(pr:KY×VL->List PV)(arg:KY×VL->PV)(pk:KY->List PV)(cX:KY->PV)(pl:VL->List PV)(g_:VL->PV)(z:VL)(key:KY×VL->κ)(ck:κ->κ->Int):Prop where
 S:Pp M.S pr arg key ck
 hp:∀k v,pr (k,v)=pk k++pl v
 ha:∀x,arg x=.agg (pr x)
 lk:∀k,(pk k).length=M.WK
 lv:∀v,(pl v).length=M.WV
 hK:∀k Q,Q (pk k)->M.XK Q
 EK:∀k,M.EK (pk k)=cX k
 hV:∀v Q,Q (pl v)->M.XV Q
 EV:∀v,M.EV (pl v)=g_ v
 EVw:∀v,M.EV ((pl v).map bV)=g_ v
 hz:∀Q,Q M.S.Z->M.S.X Q
 hzV:∀Q,Q M.ZV->M.XV Q
 zV:M.S.Z.drop M.WK=M.ZV
 zl:M.ZV.length=M.WV
 WV0:0<M.WV
 at_:∀k,Pure M.S.P M.at_ [cX k] (arg (k,z))
 inj:∀a v k w,key (a,v)=key (k,w)->a=k
 kv:∀a v w,key (a,v)=key (a,w)
section
variable {κ T:Type} {ck:κ->κ->Int} {key:T->κ}
theorem QH{x:T}{l:List T}(h:aL ck key (key x) l=none):dw ck key x l=aY ck key x l:=by rw[dw,h];rfl
theorem Vp(hc:ns ck){x y:T}{l:List T}(hu:bY ck key l)(e:key x=key y):dw ck key x (bU ck key (key y) l)=aY ck key x l:=by
 have hn:aL ck key (key x) (bU ck key (key y) l)=none:=(bx hc).2 λa ha=>by
  have:=((fu hc).1 ha).2;rw[e];exact this
 rw[dw,hn];refine bY.ext hc ((hu.del _).ins hc x) (hu.ins hc x) λa=>?_;show a∈aY ck key x _↔_;rw[bg hc,bg hc,fu hc,e];constructor
 ·rintro(h|⟨⟨h,_⟩,h2⟩)
  ·exact .inl h
  ·exact .inr ⟨h,h2⟩
 ·rintro(h|⟨h,h2⟩)
  ·exact .inl h
  ·exact .inr ⟨⟨h,h2⟩,h2⟩
end
namespace MOk
variable {M:MD} {KY VL κ:Type} {pr:KY×VL->List PV} {arg:KY×VL->PV} {pk:KY->List PV} {cX:KY->PV} {pl:VL->List PV} {g_:VL->PV} {z:VL} {key:KY×VL->κ} {ck:κ->κ->Int} (O:MOk M pr arg pk cX pl g_ z key ck)
def In(M:MD)(pr:KY×VL->List PV)(z:VL)(key:KY×VL->κ)(ck:κ->κ->Int)(m s b7:Nat)(l:List (KY×VL))(L:List aX)(k:KY)(t:Bool):aX:=λu=>
 (∃y,aL ck key (key (k,z)) l=some y/\t=true/\Ow (Pt b7 M.S.TE (pr y)::Pt m M.TM [pP s 0]::cb M.S.TS M.S.TE M.S.W s (l.map pr)::L) u)\/
 (aL ck key (key (k,z)) l=none/\t=false/\Ow (Pt b7 M.S.TE M.S.Z::Pt m M.TM [pP s 0]::cb M.S.TS M.S.TE M.S.W s (l.map pr)::L) u)
include O
theorem len(x:KY×VL):(pr x).length=M.WK+M.WV:=by
 obtain⟨k,v⟩:=x;rw[O.hp,length_append,O.lk,O.lv]
theorem W:M.S.W=M.WK+M.WV:=by rw[<- O.S.zl,<- List.take_append_drop M.WK M.S.Z,O.zV,length_append,O.zl,length_take,Nat.min_eq_left];(have h1:=O.zl;rw[<- O.zV,List.length_drop]at h1;have:=O.WV0;omega)
theorem fst(x:KY×VL):(pr x).take M.WK=pk x.1:=by
 obtain⟨k,v⟩:=x;rw[O.hp,<- O.lk k,List.take_left]
theorem snd(x:KY×VL):(pr x).drop M.WK=pl x.2:=by
 obtain⟨k,v⟩:=x;rw[O.hp,<- O.lk k,List.drop_left]
theorem look{fg:FuncId}(hg:aeJ M.S pr arg key ck fg){L:List aX}{μ:Mem}{m s:Nat}{l:List (KY×VL)}(hO:Ow (Pt m M.TM [pP s 0]::cb M.S.TS M.S.TE M.S.W s (l.map pr)::L) μ)(hu:bY ck key l)(hl:l.length<=4000000000000000000)(k:KY){J:Option Addr×Bool->Mem->Prop}(hJ:∀b7 t u,In M pr z key ck m s b7 l L k t u->J (some ⟨b7,0,none⟩,t) u):
  M.look (some ⟨m,0,none⟩) μ (cX k) fg J:=by
 have e1:∀y,M.S.E (pr y)=arg y:=O.S.E;have e2:∀y,M.S.E ((pr y).map bV)=arg y:=O.S.E'
 have stp:∀{b7:Nat} {u:Mem} {L':List aX} {t:Bool} {c:List PV},c.length=M.S.Z.length->Ow (Pt b7 M.S.TE M.S.Z::L') u->(∀u',Ow (Pt b7 M.S.TE c::L') u'->J (some ⟨b7,0,none⟩,t) u')->stM b7 0 c u λu'=>J (some ⟨b7,0,none⟩,t) u':=λhc h hk=>h.st 0 rfl (by omega) λu' h'=>hk u' (by
  have h'':=h'
  rw[Ui hc]at h'';exact h'')
 have ln:∀y,(pr y).length=M.S.Z.length:=λy=>by rw[O.S.len,O.S.zl]
 have two:∀{b7:Nat} {u:Mem},Ow (Pt b7 M.S.TE M.S.Z::Pt m M.TM [pP s 0]::cb M.S.TS M.S.TE M.S.W s (l.map pr)::L) u->aa M.S.P fg [pA (some ⟨s,0,none⟩),arg (k,z)] u λYh Dd=>M.S.X λy2=>∃q,Yh=(.aA [M.S.E y2,pB q])/\stM b7 0 y2 Dd λJg=>J ((some ⟨b7,0,none⟩),q) Jg:=λ{b7 u} h=>
  hg (Ow.at 2 rfl h) hu hl (k,z) (λy hy=>O.S.hX y _ ⟨true,by rw[e1],stp (ln y) h λu' h'=>hJ _ _ _ (.inl ⟨y,hy,rfl,h'⟩)⟩) (λhy=>O.hz _ ⟨false,rfl,stp rfl h λu' h'=>hJ _ _ _ (.inr ⟨hy,rfl,h'⟩)⟩)
 refine⟨_,hO.rd 0 rfl (by simp),(O.at_ k).q (O.S.hX (k,z) _ ⟨(e1 _).symm,?_⟩),λb7 Ih=>(O.at_ k).q (O.S.hX (k,z) _ ⟨(e1 _).symm,?_⟩)⟩
 ·rw[Mem.mJ,e2];refine⟨hg hO.swap hu hl (k,z) (λy hy=>O.S.hX y _ ⟨true,by rw[e1],λb7 Ih=>?_⟩) (λhy=>O.hz _ ⟨false,rfl,λb7 Ih=>?_⟩),λb7 Ih=>two (hO.new _ _ Ih)⟩
  ·exact stp (ln y) (hO.new _ _ Ih) λu' h'=>hJ _ _ _ (.inl ⟨y,hy,rfl,h'⟩)
  ·exact stp rfl (hO.new _ _ Ih) λu' h'=>hJ _ _ _ (.inr ⟨hy,rfl,h'⟩)
 ·rw[Mem.mJ,e2];exact two (hO.new _ _ Ih)
theorem rdV{b7:Nat}{L:List aX}{u:Mem}{y:KY×VL}(h:Ow (Pt b7 M.S.TE (pr y)::L) u):ay u b7 (0+M.WK) M.WV=some (pl y.2):=by
 have:=h.rd 0 rfl (o:=0+M.WK) (n:=M.WV) (by rw[O.len];omega);rw[this,zero_add,O.snd,<- O.lv y.2,take_length]
theorem rdZ{b7:Nat}{L:List aX}{u:Mem}(h:Ow (Pt b7 M.S.TE M.S.Z::L) u):ay u b7 (0+M.WK) M.WV=some M.ZV:=by
 have:=h.rd 0 rfl (o:=0+M.WK) (n:=M.WV) (by rw[O.S.zl,O.W];omega);rw[this,zero_add,O.zV,<- O.zl,take_length]
theorem rdE{b7:Nat}{L:List aX}{u:Mem}{y:KY×VL}{i:Nat}(h:Ow L u)(hi:L[i]?=some (Pt b7 M.S.TE (pr y))):ay u b7 0 M.S.W=some (pr y):=by
 have:=h.rd i hi (o:=0) (n:=M.S.W) (by rw[O.S.len];omega);rw[this,drop_zero,<- O.S.len y,take_length]
theorem rdK{b7:Nat}{L:List aX}{u:Mem}{y:KY×VL}{i:Nat}(h:Ow L u)(hi:L[i]?=some (Pt b7 M.S.TE (pr y))):ay u b7 0 M.WK=some (pk y.1):=by
 have:=h.rd i hi (o:=0) (n:=M.WK) (by rw[O.len];omega);rw[this,drop_zero,O.fst]
section
variable {fg:FuncId} (hg:aeJ M.S pr arg key ck fg)
include hg
theorem iB{n:FuncId}(hn:∀{k:KY} {a0:Option Addr} {u0:Mem} {K:Kq},M.get a0 u0 K (cX k) fg->aa M.S.P n [pA a0,cX k] u0 K) ⦃L:List aX⦄ ⦃μ:Mem⦄ ⦃m:Nat⦄ ⦃l:List (KY×VL)⦄ (hO:Ow (dT M pr m l::L) μ) (hu:bY ck key l) (hl:l.length<=4000000000000000000) (k:KY) ⦃K:Kq⦄ (h1:∀y μ',aL ck key (key (k,z)) l=some y->Ow (dT M pr m l::L) μ'->K (.aA [g_ y.2,pB true]) μ') (h0:∀μ',aL ck key (key (k,z)) l=none->Ow (dT M pr m l::L) μ'->K (.aA [M.EV M.ZV,pB false]) μ'):aa M.S.P n [pP m 0,cX k] μ K:=by
 obtain⟨s,hO⟩:=dT.open_ hO;refine hn (ab.f rfl ⟨λr u=>∃b7,r.1=some ⟨b7,0,none⟩/\In M pr z key ck m s b7 l L k r.2 u,O.look hg hO hu hl k λb7 t u h=>⟨b7,rfl,h⟩,?_⟩);rintro⟨_,t⟩ u ⟨b7,rfl,⟨y,hy,rfl,gp⟩|⟨hy,rfl,gp⟩⟩
 ·exact O.hV y.2 _ ⟨O.rdV gp,by rw[O.EV];exact h1 y _ hy (dT.shut gp.drop)⟩
 ·exact O.hzV _ ⟨O.rdZ gp,h0 _ hy (dT.shut gp.drop)⟩
theorem mX{fp fd n:FuncId}(CE:aiR M.S pr arg key ck fp)(Se:Yd M.S pr arg key ck fd)(hn:∀{k:KY} {v:VL} {a0:Option Addr} {u0:Mem} {K:Kq},M.put a0 u0 K (cX k) fg fp fd (arg (k,v)) (pl v)->aa M.S.P n [pA a0,cX k,g_ v] u0 K) ⦃L:List aX⦄ ⦃μ:Mem⦄ ⦃m:Nat⦄ ⦃l:List (KY×VL)⦄ (hO:Ow (dT M pr m l::L) μ) (hu:bY ck key l) (hl:l.length<=999999998) (k:KY) (v:VL) ⦃K:Kq⦄ (hk:∀μ',Ow (dT M pr m (aY ck key (k,v) l)::L) μ'->K (pB (aL ck key (key (k,z)) l).isNone) μ'):aa M.S.P n [pP m 0,cX k,g_ v] μ K:=by
 have hc:=O.S.hc;obtain⟨s,hO⟩:=dT.open_ hO;have ekz:key (k,v)=key (k,z):=O.kv _ _ _;refine hn (ab.f rfl ⟨λr u=>∃b7,r.1=some ⟨b7,0,none⟩/\In M pr z key ck m s b7 l L k r.2 u,O.look hg hO hu (by omega) k λb7 t u h=>⟨b7,rfl,h⟩,?_⟩);rintro⟨_,t⟩ u ⟨b7,rfl,⟨y,hy,rfl,gp⟩|⟨hy,rfl,gp⟩⟩
 ·obtain⟨hym,hyk⟩:=(a_ hc hu).1 hy;have agF:y.1=k:=O.inj y.1 y.2 k z hyk;refine ab.f rfl ⟨_,gp.rd 1 rfl (by simp),O.S.hX y _ ⟨O.rdE gp (i:=0) rfl,?_⟩⟩;rw[O.S.E'];refine Se (Ow.at 2 rfl gp) hu (by omega) y λu2 GA=>⟨_,rfl,?_⟩;have hlen:=vI (ck:=ck) (key:=key) (k:=key y) (L:=l);refine⟨_,GA.rd 2 rfl (by simp),O.hK y.1 _ ⟨O.rdK GA (i:=1) rfl,?_⟩⟩;have e2:(PV.agg (pk y.1++pl v))=arg (k,v):=by rw[O.ha,O.hp,agF]
  rw[e2];refine CE (x:=(k,v)) GA (hu.del _) (by omega) λu4 hu4=>⟨_,rfl,?_⟩;rw[Vp hc hu (x:=(k,v)) (y:=y) (by rw[ekz,hyk])]at hu4;have:=hk u4 (dT.shut ((Ow.at 2 rfl hu4).tail λ_ h=>h.tail λ_ h=>h.drop));rw[hy]at this;exact this
 ·refine ab.t rfl ⟨_,gp.rd 1 rfl (by simp),?_⟩;refine CE (Ow.at 2 rfl gp) hu (by omega) (k,v) λu2 GA=>⟨_,rfl,?_⟩;rw[ekz,hy];rw[QH (by rw[ekz];exact hy)]at GA;have:=hk u2 (dT.shut ((Ow.at 2 rfl GA).tail λ_ h=>h.tail λ_ h=>h.drop));rw[hy]at this;exact this
theorem oO{fd n:FuncId}(Se:Yd M.S pr arg key ck fd)(hn:∀{k:KY} {a0:Option Addr} {u0:Mem} {K:Kq},M.drop a0 u0 K (cX k) fg fd->aa M.S.P n [pA a0,cX k] u0 K) ⦃L:List aX⦄ ⦃μ:Mem⦄ ⦃m:Nat⦄ ⦃l:List (KY×VL)⦄ (hO:Ow (dT M pr m l::L) μ) (hu:bY ck key l) (hl:l.length<=999999998) (k:KY) ⦃K:Kq⦄ (h1:∀y μ',aL ck key (key (k,z)) l=some y->Ow (dT M pr m (bU ck key (key (k,z)) l)::L) μ'->K (.aA [g_ y.2,pB true]) μ') (h0:∀μ',aL ck key (key (k,z)) l=none->Ow (dT M pr m l::L) μ'->K (.aA [M.EV M.ZV,pB false]) μ'):aa M.S.P n [pP m 0,cX k] μ K:=by
 have hc:=O.S.hc;obtain⟨s,hO⟩:=dT.open_ hO;refine hn (ab.f rfl ⟨λr u=>∃b7,r.1=some ⟨b7,0,none⟩/\In M pr z key ck m s b7 l L k r.2 u,O.look hg hO hu (by omega) k λb7 t u h=>⟨b7,rfl,h⟩,?_⟩);rintro⟨_,t⟩ u ⟨b7,rfl,⟨y,hy,rfl,gp⟩|⟨hy,rfl,gp⟩⟩
 ·obtain⟨hym,hyk⟩:=(a_ hc hu).1 hy;refine⟨λ_ u2=>Ow (Pt b7 M.S.TE (pr y)::Pt m M.TM [pP s 0]::cb M.S.TS M.S.TE M.S.W s ((bU ck key (key (k,z)) l).map pr)::L) u2,ab.t rfl ⟨_,gp.rd 1 rfl (by simp),O.S.hX y _ ⟨O.rdE gp (i:=0) rfl,?_⟩⟩,?_⟩
  ·rw[O.S.E'];refine Se (Ow.at 2 rfl gp) hu (by omega) y λu2 GA=>⟨_,rfl,?_⟩;rw[hyk]at GA;exact GA.swap.tail λ_ h=>h.swap
  ·intro _ u2 GA;exact O.hV y.2 _ ⟨O.rdV GA,by rw[O.EV];exact h1 y _ hy (dT.shut GA.drop)⟩
 ·refine⟨λ_ u2=>u2=u,ab.f rfl rfl,?_⟩;rintro _ _ rfl;exact O.hzV _ ⟨O.rdZ gp,h0 _ hy (dT.shut gp.drop)⟩
end
theorem gB{na fa nal:FuncId}(hn:∀{f:Fn} {f1 f2 c0:List PV} {u0:Mem} {K:Kq},M.ze u0 K fa f f1 f2 c0->aa M.S.P na [.fn f f1 f2,.bk c0 0] u0 K)
  (jC:∀b:Nat,Pure M.S.P fa [pP b 0] (.fn (.func nal) [] [.bk [pP b 0] 0]))
  (agY:∀(b:Nat) (l:List (KY×VL)),l.length<=4000000000000000000->gQ M.S.P (.fn (.func nal) [] [.bk [pP b 0] 0]) (l.map λx=>[arg x]) (cb M.S.TS M.S.TE M.S.W b (l.map pr)) (cb M.S.TS M.S.TE M.S.W b (l.map pr)))
  (m:Nat) (l:List (KY×VL)) (hl:l.length<=4000000000000000000):gQ M.S.P (.fn (.func na) [] [.bk [pP m 0] 0]) (l.map λx=>[cX x.1,g_ x.2]) (dT M pr m l) (dT M pr m l):=by
 refine gQ.mk λfy ya yb I S C μ hy hO h0 cO=>?_;show aa _ _ [.fn fy ya yb,.bk [pP m 0] 0] _ _;obtain⟨s,hO⟩:=dT.open_ hO;refine hn λb2 ph=>⟨_,rfl,ab.f rfl ⟨_,rfl,?_⟩⟩;have gg:=hO.new M.TY [.fn fy ya yb] ph;refine⟨_,gg.rd 1 rfl (by simp),(jC s).call ⟨_,_,_,rfl,?_⟩⟩;have tK:(l.map λx:KY×VL=>[cX x.1,g_ x.2]).length=l.length:=by simp
 refine bu.own (agY s l hl) (Ow.at 2 rfl gg) (λk=>Ow [Pt b2 M.TY [.fn fy ya yb],I k]) (λc=>λu=>c=.ret/\Ow [S] u) (λk=>eJ.own _) (λc=>eJ.and (eJ.own _)) (λμ' h=>?_) ?_ ?_ ?_
 ·have h3:Ow (Pt b2 M.TY [.fn fy ya yb]::(Pt m M.TM [pP s 0]::cb M.S.TS M.S.TE M.S.W s (l.map pr)::[C])) μ':=h.swap.tail λ_ h=>h.swap;exact h3.tail λν hν=>h0 ν (dT.shut hν)
 ·intro k hk u R hI bX jW;have cj:k<l.length:=by simpa using hk
  have fK:=cO k (by rw[tK];exact cj);rw[getElem_map]at fK |-;refine O.S.hX l[k] _ ⟨by rw[O.S.E],_,_,_,hI.rd 0 rfl (by simp),?_⟩;rw[O.fst,O.snd,O.EK,O.EVw];refine Ow.yQ hI.swap (λν hν=>fK ν hν) λv μ' Sp=>?_;rcases Sp.s_ with⟨rfl,h⟩|⟨rfl,h⟩
  ·exact⟨true,rfl,ab.f rfl (bX _ h.swap)⟩
  ·exact⟨false,rfl,ab.t rfl (jW _ _ ⟨rfl,h.swap.drop⟩)⟩
 ·intro u hI;rw[length_map]at hI;exact .inl (by rw[tK];exact hI.drop)
 ·rintro c u ⟨rfl,h⟩;exact .inr h
end MOk
theorem MD.gu{M:MD}{El:Type}{pr:El->List PV}{n fn:FuncId}(hn:∀{u0:Mem} {K:Kq},M.new u0 K fn->aa M.S.P n [] u0 K)
  (jB:∀ ⦃L:List aX⦄ ⦃μ:Mem⦄,Ow L μ->∀ ⦃K:Kq⦄,(∀μ' b,Ow (cb M.S.TS M.S.TE M.S.W b (([]:List El).map pr)::L) μ'->K (pP b 0) μ')->aa M.S.P fn [.list M.S.W .nil []] μ K)
  ⦃L:List aX⦄ ⦃μ:Mem⦄ (hO:Ow L μ) ⦃K:Kq⦄ (hk:∀μ' m,Ow (dT M pr m ([]:List El)::L) μ'->K (pP m 0) μ'):aa M.S.P n [] μ K:=
 hn (jB hO λμ1 b h1=>⟨_,rfl,λm hm=>hk _ m (dT.shut (h1.new M.TM [pP b 0] hm))⟩)
end Go.aO
namespace Go.Proofs.YthaeiehophlooaaGreat
open Go.Proofs.Tryz Go.aO Go.RowKit
theorem Rp{A B T:Type}{c1:A->A->Int}{c2:B->B->Int}(h1:ns c1)(h2:ns c2)(f:T->A)(g:T->B)(inj:∀a b,f a=f b->g a=g b->a=b):ns λa b:T=>if c1 (f a) (f b)=0 then c2 (g a) (g b)else c1 (f a) (f b):=by
 have s1:∀{a b:A},c1 a b=0->c1 b a=0:=λ{a b} h=>(h1.zero b a).2 ((h1.zero a b).1 h).symm;refine⟨λa b=>?_,λa b=>?_,λa b d h k=>?_⟩
 ·constructor
  ·intro h;split at h
   ·rename_i e;exact inj a b ((h1.zero _ _).1 e) ((h2.zero _ _).1 h)
   ·rename_i e;exact absurd h e
  ·rintro rfl;rw[if_pos ((h1.zero _ _).2 rfl)];exact(h2.zero _ _).2 rfl
 ·by_cases e:c1 (f a) (f b)=0
  ·rw[if_pos e,if_pos (s1 e)];exact h2.flip _ _
  ·rw[if_neg e,if_neg λh=>e (s1 h)];exact h1.flip _ _
 ·by_cases e:c1 (f a) (f b)=0
  ·rw[if_pos e]at h;have e':=(h1.zero _ _).1 e;rw[<- e']at k;by_cases e2:c1 (f a) (f d)=0
   ·rw[if_pos e2]at k |-;exact h2.trans _ _ _ h k
   ·rw[if_neg e2]at k |-;exact k
  ·rw[if_neg e]at h;by_cases e2:c1 (f b) (f d)=0
   ·rw[<- (h1.zero _ _).1 e2,if_neg e];exact h
   ·rw[if_neg e2]at k;have:=h1.trans _ _ _ h k;rw[if_neg (by omega)];exact this
def fM(a b:Sym):Int:=if au a.k b.k=0 then(if bE a.t b.t=0 then au a.n b.n else bE a.t b.t)else au a.k b.k
theorem bB:ns fM:=
 Rp ar (Rp cy ar (λp:ByteArray×Int=>p.1) (λp=>p.2) λa b h1 h2=>Prod.ext h1 h2) (λs:Sym=>s.k) (λs=>(s.t,s.n)) λa b h1 h2=>by
  obtain⟨a,b,c⟩:=a;simp only[Prod.mk.injEq]at h1 h2;obtain⟨rfl,rfl⟩:=h2;subst h1;rfl
theorem MX(a b:Int):Pure prog 287 [pI a,pI b] (pI (au a b)):=by
 refine av.of (wv.c ?_);have nan:∀x:Int,Pure prog 289 [pI x] (pB false):=λx=>av.of (zu.c (by show wk (pB (x != x))=pB false;rw[bne_self_eq_false];rfl));refine(nan a).call ⟨_,rfl,(nan b).call ⟨_,rfl,ab.f rfl (ab.f rfl (ab.mk (λh=>?_) (λh=>ab.mk (λh1=>?_) (λh1=>?_))))⟩⟩<;>simp only[decide_eq_true_eq,decide_eq_false_iff_not]at* <;>simp only[au,wk,bV]
 ·rw[if_pos h]
 ·rw[if_neg h,if_pos h1]
 ·rw[if_neg h,if_neg h1]
theorem Wt(a b:ByteArray):Pure prog 288 [pS a,pS b] (pI (bE a b)):=by
 refine av.of (rk.c ?_);have nan:∀x:ByteArray,Pure prog 290 [pS x] (pB false):=λx=>av.of (ux.c (by show wk (pB (!aK x x))=pB false;rw[fE];rfl));refine(nan a).call ⟨_,rfl,(nan b).call ⟨_,rfl,ab.f rfl (ab.f rfl (ab.mk (λh=>?_) (λh=>ab.mk (λh1=>?_) (λh1=>?_))))⟩⟩<;>simp only[bE,wk,bV]
 ·rw[h];rfl
 ·rw[h1,h];rfl
 ·rw[h1,h];rfl
theorem MO(a b:Sym):Pure prog 286 [.agg a.pv,.agg b.pv] (pI (fM a b)):=by
 refine av.of (wx.c ?_);refine(MX _ _).call ⟨_,rfl,ab.mk (λh=>?_) (λh=>(Wt _ _).call ⟨_,rfl,ab.mk (λh1=>?_) (λh1=>(MX _ _).call ⟨_,rfl,?_⟩)⟩)⟩<;>simp only[fM,wk,bV]
 ·rw[if_neg (by simpa using h)]
 ·rw[if_pos (by simpa using h),if_neg (by simpa using h1)]
 ·rw[if_pos (by simpa using h),if_pos (by simpa using h1)]
namespace RI
abbrev KY:=Sym
abbrev VL:=Option Addr
abbrev El:=Sym×Option Addr
@[reducible] def pv(x:El):List PV:=[pI x.1.k,pS x.1.t,pI x.1.n,.raw (.pointer x.2)]
@[reducible] def arg(x:El):PV:=.agg (pv x)
@[reducible] def cX(k:Sym):PV:=.agg k.pv
@[reducible] def pk(k:Sym):List PV:=k.pv
@[reducible] def pl(v:Option Addr):List PV:=[.raw (.pointer v)]
@[reducible] def g_(v:Option Addr):PV:=.raw (.pointer v)
def z:Option Addr:=none
def key(x:El):Sym:=x.1
abbrev ck:Sym->Sym->Int:=fM
theorem hc:ns ck:=bB
theorem tY(a b:El):Pure prog 327 [arg a,arg b] (pI (ck (key a) (key b))):=by
 refine av.of (dX.c ?_)
 first
  |exact(MO _ _).call ⟨_,rfl,rfl⟩
  |exact⟨λv=>by kernel_rfl,(MO _ _).call ⟨_,rfl,rfl⟩⟩
@[reducible] noncomputable def D:SD:=⟨prog,286,205,4,40,327,λQ=>∃xa xb xc xd,Q [pI xa,pS xb,pI xc,pA xd],.agg,[pI (0),pS ⟨#[]⟩,pI (0),pA none]⟩
theorem mr:Pp D pv arg key ck:=⟨λx Q h=>⟨_,_,_,_,h⟩,λ_=>rfl,λ_=>rfl,λ_=>rfl,λ_=>rfl,hc,tY,λv=>by kernel_rfl,rfl,by decide,by decide⟩
theorem dd{x:El}{a0:Option Addr}{u0:Mem}{K:Kq}(h:D.find a0 u0 K (arg x)):aa prog 203 [pA a0,arg x] u0 K:=VC [3] [(2,⟨[(6,.one (.raw (.int .i64))),(7,.one (.raw (.int .i64)))],[]⟩)] [] [] [] [] [] func203 h
theorem vd{x:El}{a0:Option Addr}{u0:Mem}{K:Kq}(h:D.get a0 u0 K (arg x) 203):aa prog 187 [pA a0,arg x] u0 K:=VC [3,4,6] [] [] [] [] [] [] func187 h
theorem oz{x:El}{a0:Option Addr}{u0:Mem}{K:Kq}(h:D.OH a0 u0 K (arg x) 203):aa prog 187 [pA a0,arg x] u0 K:=VC [3,4,6] [] [] [] [] [] [24] func187 h
def ku:=mr.ku dd vd oz
theorem gU{a0:Option Addr}{u0:Mem}{K:Kq}(h:D.own a0 u0 K):aa prog 204 [pA a0] u0 K:=VC [] [] [] [] [] [] [] func204 h
theorem lI{x:El}{a0:Option Addr}{u0:Mem}{K:Kq}(h:D.put a0 u0 K (pv x) (arg x) 203 204):aa prog 152 [pA a0,arg x] u0 K:=VC [3] [(9,⟨[(7,.one (.raw (.int .i64)))],[]⟩)] [] [] [] [] [23,32,43,48,57] func152 h
def fV:=mr.fV dd gU lI
theorem lL{x:El}{a0:Option Addr}{u0:Mem}{K:Kq}(h:D.drop a0 u0 K (arg x) 203 204):aa prog 189 [pA a0,arg x] u0 K:=VC [3] [(8,⟨[(7,.one (.raw (.int .i64)))],[]⟩)] [] [] [] [] [26,34,39,49,53,56] func189 h
def gK:=mr.gK dd gU lL
theorem lJ{fl:Fl}{l:Lq}{u0:Mem}{K:Kq}(h:D.new u0 K 152 l):aa prog 100 [.list 4 fl l] u0 K:=VC [5] [(3,⟨[(10,.one (.raw (.int .i64)))],[]⟩)] [] [] [] [] [] func100 h
def gu:=mr.gu fV lJ
@[reducible] noncomputable def M:MD:=⟨D,207,251,3,1,188,λQ=>∃xa xb xc,Q [pI xa,pS xb,pI xc],.agg,λQ=>∃x,Q [pA x],λr=>r.headD .aV,[pA none]⟩
abbrev cq(m:Nat)(l:List El):aX:=dT M pv m l
theorem cAt(k:KY):Pure prog 188 [cX k] (arg (k,z)):=av.of (gd.c rfl)
theorem HD:MOk M pv arg pk cX pl g_ z key ck:=⟨mr,λ_ _=>rfl,λ_=>rfl,λ_=>rfl,λ_=>rfl,λk Q h=>⟨_,_,_,h⟩,λ_=>rfl,λv Q h=>⟨_,h⟩,λ_=>rfl,λ_=>rfl,λQ h=>⟨_,_,_,_,h⟩,λQ h=>⟨_,h⟩,rfl,rfl,by decide,cAt,λ_ _ _ _ h=>h,λ_ _ _=>rfl⟩
theorem tt{k:KY}{a0:Option Addr}{u0:Mem}{K:Kq}(h:M.get a0 u0 K (cX k) 187):aa prog 129 [pA a0,cX k] u0 K:=VC [3] [] [(5,⟨[(7,.one (.raw .ptr)),(8,.one (.raw .bool))],[]⟩)] [] [] [] [] func129 h
def iB:=HD.iB ku tt
theorem tq{k:KY}{v:VL}{a0:Option Addr}{u0:Mem}{K:Kq}(h:M.put a0 u0 K (cX k) 187 152 189 (arg (k,v)) (pl v)):aa prog 135 [pA a0,cX k,g_ v] u0 K:=VC [4] [] [(4,⟨[(7,.one (.raw .ptr)),(8,.one (.raw .bool))],[]⟩)] [] [] [] [] func135 h
def mX:=HD.mX ku fV gK tq
theorem vc{k:KY}{a0:Option Addr}{u0:Mem}{K:Kq}(h:M.drop a0 u0 K (cX k) 187 189):aa prog 131 [pA a0,cX k] u0 K:=VC [3] [] [(5,⟨[(7,.one (.raw .ptr)),(8,.one (.raw .bool))],[]⟩),(7,⟨[],[]⟩)] [] [] [] [] func131 h
def oO:=HD.oO ku gK vc
theorem tr{u0:Mem}{K:Kq}(h:M.new u0 K 100):aa prog 49 [] u0 K:=VC [] [] [] [] [] [] [] func49 h
def BB:=MD.gu (M:=M) (pr:=pv) tr λ_ _ hO _ hk=>gu hO .nil [] (by simp) hk
end RI
structure Jf where
 p:Prod
 way:List Nat
theorem vN(a b:ByteArray):Pure prog 296 [pS a,pS b] (pI (bE a b)):=by
 refine av.of (sb.c ?_);refine ab.mk (λh=>?_) (λh=>ab.mk (λh1=>?_) (λh1=>?_))<;>simp only[bE,wk,bV]
 ·rw[h];rfl
 ·rw[h1,h];rfl
 ·rw[h1,h];rfl
namespace RP
abbrev KY:=ByteArray
abbrev VL:=Jf
abbrev El:=ByteArray×Jf
@[reducible] def pv(x:El):List PV:=[pS x.1,pS x.2.p.name,.list 7 .sh (x.2.p.conds.map ae.pv),.list 19 .sh (x.2.p.bh.map cN.pv),.list 1 .sh (x.2.way.map λb=>[pP b 0])]
@[reducible] def arg(x:El):PV:=.agg (pv x)
@[reducible] def cX(k:ByteArray):PV:=pS k
@[reducible] def pk(k:ByteArray):List PV:=[pS k]
@[reducible] def pl(m:Jf):List PV:=[pS m.p.name,.list 7 .sh (m.p.conds.map ae.pv),.list 19 .sh (m.p.bh.map cN.pv),.list 1 .sh (m.way.map λb=>[pP b 0])]
@[reducible] def g_(m:Jf):PV:=.agg [pS m.p.name,.list 7 .sh (m.p.conds.map ae.pv),.list 19 .sh (m.p.bh.map cN.pv),.list 1 .sh (m.way.map λb=>[pP b 0])]
def z:Jf:=⟨⟨⟨#[]⟩,[],[]⟩,[]⟩
def key(x:El):ByteArray:=x.1
abbrev ck:ByteArray->ByteArray->Int:=bE
theorem hc:ns ck:=cy
theorem tY(a b:El):Pure prog 307 [arg a,arg b] (pI (ck (key a) (key b))):=by
 refine av.of (fW.c ?_)
 first
  |exact(vN _ _).call ⟨_,rfl,rfl⟩
  |exact⟨λv=>by kernel_rfl,(vN _ _).call ⟨_,rfl,rfl⟩⟩
@[reducible] noncomputable def D:SD:=⟨prog,267,177,5,104,307,λQ=>∃xa xb xcf xc xdf xd xef xe,Q [pS xa,pS xb,.list 7 xcf xc,.list 19 xdf xd,.list 1 xef xe],.agg,[pS ⟨#[]⟩,pS ⟨#[]⟩,.list 7 .nil [],.list 19 .nil [],.list 1 .nil []]⟩
abbrev At(b:Nat)(l:List El):aX:=cb 267 177 5 b (l.map pv)
theorem mr:Pp D pv arg key ck:=⟨λx Q h=>⟨_,_,_,_,_,_,_,_,h⟩,λ_=>rfl,λ_=>rfl,λ_=>rfl,λ_=>rfl,hc,tY,λv=>by kernel_rfl,rfl,by decide,by decide⟩
theorem dd{x:El}{a0:Option Addr}{u0:Mem}{K:Kq}(h:D.find a0 u0 K (arg x)):aa prog 146 [pA a0,arg x] u0 K:=VC [3] [(2,⟨[(6,.one (.raw (.int .i64))),(7,.one (.raw (.int .i64)))],[]⟩)] [] [] [] [] [] func146 h
theorem vd{x:El}{a0:Option Addr}{u0:Mem}{K:Kq}(h:D.get a0 u0 K (arg x) 146):aa prog 94 [pA a0,arg x] u0 K:=VC [3,4,6] [] [] [] [] [] [] func94 h
theorem oz{x:El}{a0:Option Addr}{u0:Mem}{K:Kq}(h:D.OH a0 u0 K (arg x) 146):aa prog 94 [pA a0,arg x] u0 K:=VC [3,4,6] [] [] [] [] [] [24] func94 h
def ku:=mr.ku dd vd oz
theorem gU{a0:Option Addr}{u0:Mem}{K:Kq}(h:D.own a0 u0 K):aa prog 184 [pA a0] u0 K:=VC [] [] [] [] [] [] [] func184 h
theorem lI{x:El}{a0:Option Addr}{u0:Mem}{K:Kq}(h:D.put a0 u0 K (pv x) (arg x) 146 184):aa prog 120 [pA a0,arg x] u0 K:=VC [3] [(9,⟨[(7,.one (.raw (.int .i64)))],[]⟩)] [] [] [] [] [23,32,43,48,57] func120 h
def fV:=mr.fV dd gU lI
theorem lL{x:El}{a0:Option Addr}{u0:Mem}{K:Kq}(h:D.drop a0 u0 K (arg x) 146 184):aa prog 121 [pA a0,arg x] u0 K:=VC [3] [(8,⟨[(7,.one (.raw (.int .i64)))],[]⟩)] [] [] [] [] [26,34,39,49,53,56] func121 h
def gK:=mr.gK dd gU lL
theorem lJ{fl:Fl}{l:Lq}{u0:Mem}{K:Kq}(h:D.new u0 K 120 l):aa prog 101 [.list 5 fl l] u0 K:=VC [5] [(3,⟨[(10,.one (.raw (.int .i64)))],[]⟩)] [] [] [] [] [] func101 h
def gu:=mr.gu fV lJ
theorem lK{a0:Option Addr}{a1:Int}{a2:Fn}{Cj Ch:List PV}{u0:Mem}{K:Kq}(h:D.from_ a0 u0 K a1 a2 Cj Ch):aa prog 156 [pA a0,pI a1,.fn a2 Cj Ch] u0 K:=VC [] [(3,⟨[(7,.one (.raw (.int .i64)))],[]⟩)] [] [] [] [] [] func156 h
theorem lM{a0:Fn}{Cm Ck c0:List PV}{u0:Mem}{K:Kq}(h:D.ze u0 K 156 a0 Cm Ck c0):aa prog 155 [.fn a0 Cm Ck,.bk c0 0] u0 K:=VC [] [] [] [] [] [] [] func155 h
@[reducible] def qY(b:Nat):PV:=.fn (.func 155) [] [.bk [pP b 0] 0]
theorem pN(b:Nat):Pure prog 108 [pP b 0] (qY b):=av.of (eO.c rfl)
theorem d_(b:Nat)(l:List El)(hl:l.length<=4000000000000000000):gQ prog (qY b) (l.map λx=>[arg x]) (At b l) (At b l):=mr.d_ lM lK b l hl
@[reducible] noncomputable def M:MD:=⟨D,181,149,1,4,95,λQ=>∃x,Q [pS x],λr=>r.headD .aV,λQ=>∃xa xbf xb xcf xc xdf xd,Q [pS xa,.list 7 xbf xb,.list 19 xcf xc,.list 1 xdf xd],.agg,[pS ⟨#[]⟩,.list 7 .nil [],.list 19 .nil [],.list 1 .nil []]⟩
abbrev cq(m:Nat)(l:List El):aX:=dT M pv m l
theorem cAt(k:KY):Pure prog 95 [cX k] (arg (k,z)):=av.of (jG.c rfl)
theorem HD:MOk M pv arg pk cX pl g_ z key ck:=⟨mr,λ_ _=>rfl,λ_=>rfl,λ_=>rfl,λ_=>rfl,λk Q h=>⟨_,h⟩,λ_=>rfl,λv Q h=>⟨_,_,_,_,_,_,_,h⟩,λ_=>rfl,λ_=>rfl,λQ h=>⟨_,_,_,_,_,_,_,_,h⟩,λQ h=>⟨_,_,_,_,_,_,_,h⟩,rfl,rfl,by decide,cAt,λ_ _ _ _ h=>h,λ_ _ _=>rfl⟩
theorem tt{k:KY}{a0:Option Addr}{u0:Mem}{K:Kq}(h:M.get a0 u0 K (cX k) 94):aa prog 44 [pA a0,cX k] u0 K:=VC [4,6] [] [(5,⟨[(7,.one (.raw .ptr)),(8,.one (.raw .bool))],[]⟩)] [] [] [] [] func44 h
def iB:=HD.iB ku tt
theorem tq{k:KY}{v:VL}{a0:Option Addr}{u0:Mem}{K:Kq}(h:M.put a0 u0 K (cX k) 94 120 121 (arg (k,v)) (pl v)):aa prog 71 [pA a0,cX k,g_ v] u0 K:=VC [5] [] [(4,⟨[(7,.one (.raw .ptr)),(8,.one (.raw .bool))],[]⟩)] [] [] [] [] func71 h
def mX:=HD.mX ku fV gK tq
theorem tr{u0:Mem}{K:Kq}(h:M.new u0 K 101):aa prog 50 [] u0 K:=VC [] [] [] [] [] [] [] func50 h
def BB:=MD.gu (M:=M) (pr:=pv) tr λ_ _ hO _ hk=>gu hO .nil [] (by simp) hk
theorem AF{f:Fn}{f1 f2 c0:List PV}{u0:Mem}{K:Kq}(h:M.ze u0 K 108 f f1 f2 c0):aa prog 107 [.fn f f1 f2,.bk c0 0] u0 K:=VC [3] [] [] [(11,[177])] [] [] [] func107 h
@[reducible] def yA(m:Nat):PV:=.fn (.func 107) [] [.bk [pP m 0] 0]
theorem vO(m:Nat):Pure prog 61 [pP m 0] (yA m):=av.of (ib.c rfl)
theorem gB(m:Nat)(l:List El)(hl:l.length<=4000000000000000000):gQ prog (yA m) (l.map λx=>[cX x.1,g_ x.2]) (cq m l) (cq m l):=HD.gB AF pN d_ m l hl
end RP
theorem vM(a b:Int):Pure prog 316 [pI a,pI b] (pI (au a b)):=by
 refine av.of (oZ.c ?_);refine ab.mk (λh=>?_) (λh=>ab.mk (λh1=>?_) (λh1=>?_))<;>simp only[decide_eq_true_eq,decide_eq_false_iff_not]at* <;>simp only[au,wk,bV]
 ·rw[if_pos h]
 ·rw[if_neg h,if_pos h1]
 ·rw[if_neg h,if_neg h1]
namespace AT
abbrev El:=aj
@[reducible] def pv(x:El):List PV:=aj.pv x
@[reducible] def arg(x:El):PV:=.agg x.pv
def key(x:El):Int:=x.tag
abbrev ck:Int->Int->Int:=au
theorem hc:ns ck:=ar
theorem tY(a b:El):Pure prog 342 [arg a,arg b] (pI (ck (key a) (key b))):=by
 refine av.of (oY.c ?_);exact(vM _ _).call ⟨_,rfl,rfl⟩
@[reducible] noncomputable def D:SD:=⟨prog,355,305,12,112,342,λQ=>∃xa xb xc xd xe xf xg xh xi xj xk xl,Q [pI xa,pS xb,pI xc,pI xd,pS xe,pI xf,pI xg,pS xh,pI xi,pB xj,pB xk,pI xl],.agg,[pI (0),pS ⟨#[]⟩,pI (0),pI (0),pS ⟨#[]⟩,pI (0),pI (0),pS ⟨#[]⟩,pI (0),pB false,pB false,pI (0)]⟩
abbrev At(b:Nat)(l:List El):aX:=cb 355 305 12 b (l.map pv)
theorem mr:Pp D pv arg key ck:=⟨λx Q h=>⟨_,_,_,_,_,_,_,_,_,_,_,_,h⟩,λ_=>rfl,λ_=>rfl,λ_=>rfl,λ_=>rfl,hc,tY,λv=>by kernel_rfl,rfl,by decide,by decide⟩
theorem dd{x:El}{a0:Option Addr}{u0:Mem}{K:Kq}(h:D.find a0 u0 K (arg x)):aa prog 222 [pA a0,arg x] u0 K:=VC [3] [(2,⟨[(6,.one (.raw (.int .i64))),(7,.one (.raw (.int .i64)))],[]⟩)] [] [] [] [] [] func222 h
theorem gU{a0:Option Addr}{u0:Mem}{K:Kq}(h:D.own a0 u0 K):aa prog 223 [pA a0] u0 K:=VC [] [] [] [] [] [] [] func223 h
theorem lI{x:El}{a0:Option Addr}{u0:Mem}{K:Kq}(h:D.put a0 u0 K (pv x) (arg x) 222 223):aa prog 173 [pA a0,arg x] u0 K:=VC [3] [(9,⟨[(7,.one (.raw (.int .i64)))],[]⟩)] [] [] [] [] [23,32,43,48,57] func173 h
def fV:=mr.fV dd gU lI
theorem lL{x:El}{a0:Option Addr}{u0:Mem}{K:Kq}(h:D.drop a0 u0 K (arg x) 222 223):aa prog 191 [pA a0,arg x] u0 K:=VC [3] [(8,⟨[(7,.one (.raw (.int .i64)))],[]⟩)] [] [] [] [] [26,34,39,49,53,56] func191 h
def gK:=mr.gK dd gU lL
theorem lJ{fl:Fl}{l:Lq}{u0:Mem}{K:Kq}(h:D.new u0 K 173 l):aa prog 170 [.list 12 fl l] u0 K:=VC [5] [(3,⟨[(10,.one (.raw (.int .i64)))],[]⟩)] [] [] [] [] [] func170 h
def gu:=mr.gu fV lJ
theorem lK{a0:Option Addr}{a1:Int}{a2:Fn}{Cj Ch:List PV}{u0:Mem}{K:Kq}(h:D.from_ a0 u0 K a1 a2 Cj Ch):aa prog 259 [pA a0,pI a1,.fn a2 Cj Ch] u0 K:=VC [] [(3,⟨[(7,.one (.raw (.int .i64)))],[]⟩)] [] [] [] [] [] func259 h
theorem lM{a0:Fn}{Cm Ck c0:List PV}{u0:Mem}{K:Kq}(h:D.ze u0 K 259 a0 Cm Ck c0):aa prog 258 [.fn a0 Cm Ck,.bk c0 0] u0 K:=VC [] [] [] [] [] [] [] func258 h
@[reducible] def qY(b:Nat):PV:=.fn (.func 258) [] [.bk [pP b 0] 0]
theorem pN(b:Nat):Pure prog 227 [pP b 0] (qY b):=av.of (kC.c rfl)
theorem d_(b:Nat)(l:List El)(hl:l.length<=4000000000000000000):gQ prog (qY b) (l.map λx=>[arg x]) (At b l) (At b l):=mr.d_ lM lK b l hl
end AT
namespace AE
abbrev KY:=Int
abbrev VL:=aj
abbrev El:=Int×aj
@[reducible] def pv(x:El):List PV:=[pI x.1,pI x.2.id.k,pS x.2.id.t,pI x.2.id.n,pI x.2.attr.k,pS x.2.attr.t,pI x.2.attr.n,pI x.2.value.k,pS x.2.value.t,pI x.2.value.n,pB x.2.acc,pB x.2.goal,pI x.2.tag]
@[reducible] def arg(x:El):PV:=.agg (pv x)
@[reducible] def cX(k:Int):PV:=pI k
@[reducible] def pk(k:Int):List PV:=[pI k]
@[reducible] def pl(e:aj):List PV:=e.pv
@[reducible] def g_(e:aj):PV:=.agg e.pv
def z:aj:=⟨⟨0,⟨#[]⟩,0⟩,⟨0,⟨#[]⟩,0⟩,⟨0,⟨#[]⟩,0⟩,false,false,0⟩
def key(x:El):Int:=x.1
abbrev ck:Int->Int->Int:=au
theorem hc:ns ck:=ar
theorem tY(a b:El):Pure prog 331 [arg a,arg b] (pI (ck (key a) (key b))):=by
 refine av.of (fN.c ?_)
 first
  |exact(vM _ _).call ⟨_,rfl,rfl⟩
  |exact⟨λv=>by kernel_rfl,(vM _ _).call ⟨_,rfl,rfl⟩⟩
@[reducible] noncomputable def D:SD:=⟨prog,334,275,13,120,331,λQ=>∃xa xb xc xd xe xf xg xh xi xj xk xl xm,Q [pI xa,pI xb,pS xc,pI xd,pI xe,pS xf,pI xg,pI xh,pS xi,pI xj,pB xk,pB xl,pI xm],.agg,[pI (0),pI (0),pS ⟨#[]⟩,pI (0),pI (0),pS ⟨#[]⟩,pI (0),pI (0),pS ⟨#[]⟩,pI (0),pB false,pB false,pI (0)]⟩
abbrev At(b:Nat)(l:List El):aX:=cb 334 275 13 b (l.map pv)
theorem mr:Pp D pv arg key ck:=⟨λx Q h=>⟨_,_,_,_,_,_,_,_,_,_,_,_,_,h⟩,λ_=>rfl,λ_=>rfl,λ_=>rfl,λ_=>rfl,hc,tY,λv=>by kernel_rfl,rfl,by decide,by decide⟩
theorem dd{x:El}{a0:Option Addr}{u0:Mem}{K:Kq}(h:D.find a0 u0 K (arg x)):aa prog 237 [pA a0,arg x] u0 K:=VC [3] [(2,⟨[(6,.one (.raw (.int .i64))),(7,.one (.raw (.int .i64)))],[]⟩)] [] [] [] [] [] func237 h
theorem vd{x:El}{a0:Option Addr}{u0:Mem}{K:Kq}(h:D.get a0 u0 K (arg x) 237):aa prog 231 [pA a0,arg x] u0 K:=VC [3,4,6] [] [] [] [] [] [] func231 h
theorem oz{x:El}{a0:Option Addr}{u0:Mem}{K:Kq}(h:D.OH a0 u0 K (arg x) 237):aa prog 231 [pA a0,arg x] u0 K:=VC [3,4,6] [] [] [] [] [] [24] func231 h
def ku:=mr.ku dd vd oz
theorem gU{a0:Option Addr}{u0:Mem}{K:Kq}(h:D.own a0 u0 K):aa prog 238 [pA a0] u0 K:=VC [] [] [] [] [] [] [] func238 h
theorem lI{x:El}{a0:Option Addr}{u0:Mem}{K:Kq}(h:D.put a0 u0 K (pv x) (arg x) 237 238):aa prog 201 [pA a0,arg x] u0 K:=VC [3] [(9,⟨[(7,.one (.raw (.int .i64)))],[]⟩)] [] [] [] [] [23,32,43,48,57] func201 h
def fV:=mr.fV dd gU lI
theorem lL{x:El}{a0:Option Addr}{u0:Mem}{K:Kq}(h:D.drop a0 u0 K (arg x) 237 238):aa prog 233 [pA a0,arg x] u0 K:=VC [3] [(8,⟨[(7,.one (.raw (.int .i64)))],[]⟩)] [] [] [] [] [26,34,39,49,53,56] func233 h
def gK:=mr.gK dd gU lL
theorem lJ{fl:Fl}{l:Lq}{u0:Mem}{K:Kq}(h:D.new u0 K 201 l):aa prog 150 [.list 13 fl l] u0 K:=VC [5] [(3,⟨[(10,.one (.raw (.int .i64)))],[]⟩)] [] [] [] [] [] func150 h
def gu:=mr.gu fV lJ
theorem lK{a0:Option Addr}{a1:Int}{a2:Fn}{Cj Ch:List PV}{u0:Mem}{K:Kq}(h:D.from_ a0 u0 K a1 a2 Cj Ch):aa prog 256 [pA a0,pI a1,.fn a2 Cj Ch] u0 K:=VC [] [(3,⟨[(7,.one (.raw (.int .i64)))],[]⟩)] [] [] [] [] [] func256 h
theorem lM{a0:Fn}{Cm Ck c0:List PV}{u0:Mem}{K:Kq}(h:D.ze u0 K 256 a0 Cm Ck c0):aa prog 255 [.fn a0 Cm Ck,.bk c0 0] u0 K:=VC [] [] [] [] [] [] [] func255 h
@[reducible] def qY(b:Nat):PV:=.fn (.func 255) [] [.bk [pP b 0] 0]
theorem pN(b:Nat):Pure prog 221 [pP b 0] (qY b):=av.of (eH.c rfl)
theorem d_(b:Nat)(l:List El)(hl:l.length<=4000000000000000000):gQ prog (qY b) (l.map λx=>[arg x]) (At b l) (At b l):=mr.d_ lM lK b l hl
@[reducible] noncomputable def M:MD:=⟨D,277,327,1,12,232,λQ=>∃x,Q [pI x],λr=>r.headD .aV,λQ=>∃xa xb xc xd xe xf xg xh xi xj xk xl,Q [pI xa,pS xb,pI xc,pI xd,pS xe,pI xf,pI xg,pS xh,pI xi,pB xj,pB xk,pI xl],.agg,[pI (0),pS ⟨#[]⟩,pI (0),pI (0),pS ⟨#[]⟩,pI (0),pI (0),pS ⟨#[]⟩,pI (0),pB false,pB false,pI (0)]⟩
abbrev cq(m:Nat)(l:List El):aX:=dT M pv m l
theorem cAt(k:KY):Pure prog 232 [cX k] (arg (k,z)):=av.of (jk.c rfl)
theorem HD:MOk M pv arg pk cX pl g_ z key ck:=⟨mr,λ_ _=>rfl,λ_=>rfl,λ_=>rfl,λ_=>rfl,λk Q h=>⟨_,h⟩,λ_=>rfl,λv Q h=>⟨_,_,_,_,_,_,_,_,_,_,_,_,h⟩,λ_=>rfl,λ_=>rfl,λQ h=>⟨_,_,_,_,_,_,_,_,_,_,_,_,_,h⟩,λQ h=>⟨_,_,_,_,_,_,_,_,_,_,_,_,h⟩,rfl,rfl,by decide,cAt,λ_ _ _ _ h=>h,λ_ _ _=>rfl⟩
theorem tt{k:KY}{a0:Option Addr}{u0:Mem}{K:Kq}(h:M.get a0 u0 K (cX k) 231):aa prog 192 [pA a0,cX k] u0 K:=VC [4,6] [] [(5,⟨[(7,.one (.raw .ptr)),(8,.one (.raw .bool))],[]⟩)] [] [] [] [] func192 h
def iB:=HD.iB ku tt
theorem tq{k:KY}{v:VL}{a0:Option Addr}{u0:Mem}{K:Kq}(h:M.put a0 u0 K (cX k) 231 201 233 (arg (k,v)) (pl v)):aa prog 193 [pA a0,cX k,g_ v] u0 K:=VC [5] [] [(4,⟨[(7,.one (.raw .ptr)),(8,.one (.raw .bool))],[]⟩)] [] [] [] [] func193 h
def mX:=HD.mX ku fV gK tq
theorem vc{k:KY}{a0:Option Addr}{u0:Mem}{K:Kq}(h:M.drop a0 u0 K (cX k) 231 233):aa prog 190 [pA a0,cX k] u0 K:=VC [4,6] [] [(5,⟨[(7,.one (.raw .ptr)),(8,.one (.raw .bool))],[]⟩),(7,⟨[],[]⟩)] [] [] [] [] func190 h
def oO:=HD.oO ku gK vc
theorem tr{u0:Mem}{K:Kq}(h:M.new u0 K 150):aa prog 98 [] u0 K:=VC [] [] [] [] [] [] [] func98 h
def BB:=MD.gu (M:=M) (pr:=pv) tr λ_ _ hO _ hk=>gu hO .nil [] (by simp) hk
theorem AF{f:Fn}{f1 f2 c0:List PV}{u0:Mem}{K:Kq}(h:M.ze u0 K 221 f f1 f2 c0):aa prog 220 [.fn f f1 f2,.bk c0 0] u0 K:=VC [3] [] [] [(11,[275])] [] [] [] func220 h
@[reducible] def yA(m:Nat):PV:=.fn (.func 220) [] [.bk [pP m 0] 0]
theorem vO(m:Nat):Pure prog 171 [pP m 0] (yA m):=av.of (gR.c rfl)
theorem gB(m:Nat)(l:List El)(hl:l.length<=4000000000000000000):gQ prog (yA m) (l.map λx=>[cX x.1,g_ x.2]) (cq m l) (cq m l):=HD.gB AF pN d_ m l hl
end AE
structure Pr where
 c:ae
 aM:Int
 has:Option Addr
namespace AM
abbrev KY:=Int
abbrev VL:=Pr
abbrev El:=Int×Pr
@[reducible] def pv(x:El):List PV:=[pI x.1,pI x.2.c.kind,pB x.2.c.goal,pS x.2.c.id,.list 6 .sh (x.2.c.attr.map Test.pv),.list 6 .sh (x.2.c.value.map Test.pv),pB x.2.c.acc,.list 7 .sh (x.2.c.conds.map ae.pv),pI x.2.aM,.raw (.pointer x.2.has)]
@[reducible] def arg(x:El):PV:=.agg (pv x)
@[reducible] def cX(k:Int):PV:=pI k
@[reducible] def pk(k:Int):List PV:=[pI k]
@[reducible] def pl(m:Pr):List PV:=[pI m.c.kind,pB m.c.goal,pS m.c.id,.list 6 .sh (m.c.attr.map Test.pv),.list 6 .sh (m.c.value.map Test.pv),pB m.c.acc,.list 7 .sh (m.c.conds.map ae.pv),pI m.aM,.raw (.pointer m.has)]
@[reducible] def g_(m:Pr):PV:=.agg [pI m.c.kind,pB m.c.goal,pS m.c.id,.list 6 .sh (m.c.attr.map Test.pv),.list 6 .sh (m.c.value.map Test.pv),pB m.c.acc,.list 7 .sh (m.c.conds.map ae.pv),pI m.aM,.raw (.pointer m.has)]
def z:Pr:=⟨.mk 0 false ⟨#[]⟩ [] [] false [],0,none⟩
def key(x:El):Int:=x.1
abbrev ck:Int->Int->Int:=au
theorem hc:ns ck:=ar
theorem tY(a b:El):Pure prog 335 [arg a,arg b] (pI (ck (key a) (key b))):=by
 refine av.of (eU.c ?_)
 first
  |exact(vM _ _).call ⟨_,rfl,rfl⟩
  |exact⟨λv=>by kernel_rfl,(vM _ _).call ⟨_,rfl,rfl⟩⟩
@[reducible] noncomputable def D:SD:=⟨prog,338,281,10,136,335,λQ=>∃xa xb xc xd xef xe xff xf xg xhf xh xi xj,Q [pI xa,pI xb,pB xc,pS xd,.list 6 xef xe,.list 6 xff xf,pB xg,.list 7 xhf xh,pI xi,pA xj],.agg,[pI (0),pI (0),pB false,pS ⟨#[]⟩,.list 6 .nil [],.list 6 .nil [],pB false,.list 7 .nil [],pI (0),pA none]⟩
abbrev At(b:Nat)(l:List El):aX:=cb 338 281 10 b (l.map pv)
theorem mr:Pp D pv arg key ck:=⟨λx Q h=>⟨_,_,_,_,_,_,_,_,_,_,_,_,_,h⟩,λ_=>rfl,λ_=>rfl,λ_=>rfl,λ_=>rfl,hc,tY,λv=>by kernel_rfl,rfl,by decide,by decide⟩
theorem dd{x:El}{a0:Option Addr}{u0:Mem}{K:Kq}(h:D.find a0 u0 K (arg x)):aa prog 239 [pA a0,arg x] u0 K:=VC [3] [(2,⟨[(6,.one (.raw (.int .i64))),(7,.one (.raw (.int .i64)))],[]⟩)] [] [] [] [] [] func239 h
theorem vd{x:El}{a0:Option Addr}{u0:Mem}{K:Kq}(h:D.get a0 u0 K (arg x) 239):aa prog 217 [pA a0,arg x] u0 K:=VC [3,4,6] [] [] [] [] [] [] func217 h
theorem oz{x:El}{a0:Option Addr}{u0:Mem}{K:Kq}(h:D.OH a0 u0 K (arg x) 239):aa prog 217 [pA a0,arg x] u0 K:=VC [3,4,6] [] [] [] [] [] [24] func217 h
def ku:=mr.ku dd vd oz
theorem gU{a0:Option Addr}{u0:Mem}{K:Kq}(h:D.own a0 u0 K):aa prog 240 [pA a0] u0 K:=VC [] [] [] [] [] [] [] func240 h
theorem lI{x:El}{a0:Option Addr}{u0:Mem}{K:Kq}(h:D.put a0 u0 K (pv x) (arg x) 239 240):aa prog 202 [pA a0,arg x] u0 K:=VC [3] [(9,⟨[(7,.one (.raw (.int .i64)))],[]⟩)] [] [] [] [] [23,32,43,48,57] func202 h
def fV:=mr.fV dd gU lI
theorem lL{x:El}{a0:Option Addr}{u0:Mem}{K:Kq}(h:D.drop a0 u0 K (arg x) 239 240):aa prog 219 [pA a0,arg x] u0 K:=VC [3] [(8,⟨[(7,.one (.raw (.int .i64)))],[]⟩)] [] [] [] [] [26,34,39,49,53,56] func219 h
def gK:=mr.gK dd gU lL
theorem lJ{fl:Fl}{l:Lq}{u0:Mem}{K:Kq}(h:D.new u0 K 202 l):aa prog 151 [.list 10 fl l] u0 K:=VC [5] [(3,⟨[(10,.one (.raw (.int .i64)))],[]⟩)] [] [] [] [] [] func151 h
def gu:=mr.gu fV lJ
theorem lK{a0:Option Addr}{a1:Int}{a2:Fn}{Cj Ch:List PV}{u0:Mem}{K:Kq}(h:D.from_ a0 u0 K a1 a2 Cj Ch):aa prog 254 [pA a0,pI a1,.fn a2 Cj Ch] u0 K:=VC [] [(3,⟨[(7,.one (.raw (.int .i64)))],[]⟩)] [] [] [] [] [] func254 h
theorem lM{a0:Fn}{Cm Ck c0:List PV}{u0:Mem}{K:Kq}(h:D.ze u0 K 254 a0 Cm Ck c0):aa prog 253 [.fn a0 Cm Ck,.bk c0 0] u0 K:=VC [] [] [] [] [] [] [] func253 h
@[reducible] def qY(b:Nat):PV:=.fn (.func 253) [] [.bk [pP b 0] 0]
theorem pN(b:Nat):Pure prog 216 [pP b 0] (qY b):=av.of (dP.c rfl)
theorem d_(b:Nat)(l:List El)(hl:l.length<=4000000000000000000):gQ prog (qY b) (l.map λx=>[arg x]) (At b l) (At b l):=mr.d_ lM lK b l hl
@[reducible] noncomputable def M:MD:=⟨D,283,303,1,9,218,λQ=>∃x,Q [pI x],λr=>r.headD .aV,λQ=>∃xa xb xc xdf xd xef xe xf xgf xg xh xi,Q [pI xa,pB xb,pS xc,.list 6 xdf xd,.list 6 xef xe,pB xf,.list 7 xgf xg,pI xh,pA xi],.agg,[pI (0),pB false,pS ⟨#[]⟩,.list 6 .nil [],.list 6 .nil [],pB false,.list 7 .nil [],pI (0),pA none]⟩
abbrev cq(m:Nat)(l:List El):aX:=dT M pv m l
theorem cAt(k:KY):Pure prog 218 [cX k] (arg (k,z)):=av.of (ia.c rfl)
theorem HD:MOk M pv arg pk cX pl g_ z key ck:=⟨mr,λ_ _=>rfl,λ_=>rfl,λ_=>rfl,λ_=>rfl,λk Q h=>⟨_,h⟩,λ_=>rfl,λv Q h=>⟨_,_,_,_,_,_,_,_,_,_,_,_,h⟩,λ_=>rfl,λ_=>rfl,λQ h=>⟨_,_,_,_,_,_,_,_,_,_,_,_,_,h⟩,λQ h=>⟨_,_,_,_,_,_,_,_,_,_,_,_,h⟩,rfl,rfl,by decide,cAt,λ_ _ _ _ h=>h,λ_ _ _=>rfl⟩
theorem tt{k:KY}{a0:Option Addr}{u0:Mem}{K:Kq}(h:M.get a0 u0 K (cX k) 217):aa prog 182 [pA a0,cX k] u0 K:=VC [4,6] [] [(5,⟨[(7,.one (.raw .ptr)),(8,.one (.raw .bool))],[]⟩)] [] [] [] [] func182 h
def iB:=HD.iB ku tt
theorem tq{k:KY}{v:VL}{a0:Option Addr}{u0:Mem}{K:Kq}(h:M.put a0 u0 K (cX k) 217 202 219 (arg (k,v)) (pl v)):aa prog 169 [pA a0,cX k,g_ v] u0 K:=VC [5] [] [(4,⟨[(7,.one (.raw .ptr)),(8,.one (.raw .bool))],[]⟩)] [] [] [] [] func169 h
def mX:=HD.mX ku fV gK tq
theorem vc{k:KY}{a0:Option Addr}{u0:Mem}{K:Kq}(h:M.drop a0 u0 K (cX k) 217 219):aa prog 183 [pA a0,cX k] u0 K:=VC [4,6] [] [(5,⟨[(7,.one (.raw .ptr)),(8,.one (.raw .bool))],[]⟩),(7,⟨[],[]⟩)] [] [] [] [] func183 h
def oO:=HD.oO ku gK vc
theorem tr{u0:Mem}{K:Kq}(h:M.new u0 K 151):aa prog 99 [] u0 K:=VC [] [] [] [] [] [] [] func99 h
def BB:=MD.gu (M:=M) (pr:=pv) tr λ_ _ hO _ hk=>gu hO .nil [] (by simp) hk
theorem AF{f:Fn}{f1 f2 c0:List PV}{u0:Mem}{K:Kq}(h:M.ze u0 K 216 f f1 f2 c0):aa prog 215 [.fn f f1 f2,.bk c0 0] u0 K:=VC [3] [] [] [(11,[281])] [] [] [] func215 h
@[reducible] def yA(m:Nat):PV:=.fn (.func 215) [] [.bk [pP m 0] 0]
theorem vO(m:Nat):Pure prog 167 [pP m 0] (yA m):=av.of (fX.c rfl)
theorem gB(m:Nat)(l:List El)(hl:l.length<=4000000000000000000):gQ prog (yA m) (l.map λx=>[cX x.1,g_ x.2]) (cq m l) (cq m l):=HD.gB AF pN d_ m l hl
end AM
def il(l:List Test):List Test:=l.filter λt=>aK t.var ⟨#[]⟩
def bt(c:ae):ae:=.mk 1 c.goal ⟨#[]⟩ (il c.attr) (il c.value) c.acc []
def Xg(c:ae):ae:=.mk c.kind c.goal ⟨#[120]⟩ c.attr c.value c.acc c.conds
def bf(c:ae)(e:aj):Bool:=(cH (Xg c) e []).isSome
theorem sX(l:List Test):(il l).length<=l.length:=length_filter_le _ _
theorem BI{c:ae}(h:cU c):cU (bt c):=by
 obtain⟨_,h1,h2,h3,h4,_⟩:=(bF c).1 h;have a:=sX c.attr;have b:=sX c.value;refine(bF _).2 ⟨by show(⟨#[]⟩:ByteArray).size<=100;decide,le_trans a h1,le_trans b h2,λt ht=>h3 t (mem_filter.1 ht).1,λt ht=>h4 t (mem_filter.1 ht).1,trivial⟩
structure Er(c:ae):Prop where
 kind:c.kind=1
 id:c.id=⟨#[]⟩
 conds:c.conds=[]
 AW:cU c
theorem Eo{c:ae}(h:cU c):Er (bt c):=⟨rfl,rfl,rfl,BI h⟩
theorem Er.eq{c d:ae}(hc:Er c)(hd:Er d)(h1:c.goal=d.goal)(h2:c.acc=d.acc)(h3:c.attr=d.attr)(h4:c.value=d.value):c=d:=
 FO (hc.kind.trans hd.kind.symm) h1 (hc.id.trans hd.id.symm) h3 h4 h2 (hc.conds.trans hd.conds.symm)
structure dZ where
 c:ae
 aM:Int
 b:Nat
 l:List aj
def dZ.acK(m:dZ):Pr:=⟨m.c,m.aM,some ⟨m.b,0,none⟩⟩
abbrev dj:=List (Int×dZ)
def nj(e:aj):AE.El:=(e.tag,e)
def iZ(x:Int×dZ):AM.El:=(x.1,x.2.acK)
def dv(x:Int×dZ):aX:=AT.At x.2.b x.2.l
def aD(e:aj):Int:=e.tag
def bO(x:Int×dZ):Int:=x.1
def bA(n:Nat)(es:List aj)(ms:dj):aX:=λμ=>∃me mm,Ow (Pt n 198 [pP me 0,pP mm 0]::AE.cq me (es.map nj)::AM.cq mm (ms.map iZ)::ms.map dv) μ
theorem bA.open_{n:Nat}{es:List aj}{ms:dj}{L:List aX}{μ:Mem}(h:Ow (bA n es ms::L) μ):∃me mm,Ow (Pt n 198 [pP me 0,pP mm 0]::AE.cq me (es.map nj)::AM.cq mm (ms.map iZ)::(ms.map dv++L)) μ:=by
 obtain⟨me,h⟩:=Ow.ex h;obtain⟨mm,h⟩:=Ow.ex h;exact⟨me,mm,h.nest⟩
theorem bA.shut{n me mm:Nat}{es:List aj}{ms:dj}{L:List aX}{μ:Mem}(h:Ow (Pt n 198 [pP me 0,pP mm 0]::AE.cq me (es.map nj)::AM.cq mm (ms.map iZ)::(ms.map dv++L)) μ):Ow (bA n es ms::L) μ:=
 (Ow.pack (L1:=Pt n 198 [pP me 0,pP mm 0]::AE.cq me (es.map nj)::AM.cq mm (ms.map iZ)::ms.map dv) h).imp λ_ hν=>⟨me,mm,hν⟩
structure dx(es:List aj)(ms:dj):Prop where
 wz:bY au aD es
 ni:bY au bO ms
 has:∀x∈ms,x.2.l=es.filter (bf x.2.c)
 bare:∀x∈ms,Er x.2.c
 num:∀x∈ms,0<=x.1/\x.1<1000000
 aM:∀x∈ms,1<=x.2.aM/\x.2.aM<1000000
 inj:∀x∈ms,∀y∈ms,x.2.c=y.2.c->x=y
 le:es.length<1000000
 lm:ms.length<1000000
theorem dx.ue{es:List aj}{ms:dj}(h:dx es ms):bY AE.ck AE.key (es.map nj):=bY.map h.wz
theorem dx.um{es:List aj}{ms:dj}(h:dx es ms):bY AM.ck AM.key (ms.map iZ):=bY.map h.ni
theorem dx.ul{es:List aj}{ms:dj}(h:dx es ms){x:Int×dZ}(hx:x∈ms):bY AT.ck AT.key x.2.l/\x.2.l.length<1000000:=by
 rw[h.has x hx];exact⟨bY.filter h.wz _,Nat.lt_of_le_of_lt (length_filter_le _ _) h.le⟩
theorem dx.nil:dx [] []:=⟨Pairwise.nil,Pairwise.nil,by simp,by simp,by simp,by simp,by simp,by simp,by simp⟩
def least(ms:dj):Int:=ms.foldl (λa x=>if x.1=a then a+1 else a) 0
theorem AZ{ms:dj}{k:Nat}(hk:k<ms.length):least (ms.take (k+1))=if ms[k].1=least (ms.take k)then least (ms.take k)+1 else least (ms.take k):=by
 unfold least;rw[take_add_one,getElem?_eq_getElem hk,List.foldl_append];rfl
theorem A_:∀(ms:dj),bY au bO ms->(∀x∈ms,0<=x.1)->0<=least ms/\least ms<=ms.length/\(∀j:Int,0<=j->j<least ms->∃x∈ms,x.1=j)/\∀x∈ms,x.1≠least ms:=by
 intro ms hu h0;have key:∀k,k<=ms.length->0<=least (ms.take k)/\least (ms.take k)<=k/\(∀j:Int,0<=j->j<least (ms.take k)->∃x∈ms.take k,x.1=j)/\(∀x∈ms.take k,x.1≠least (ms.take k)):=by
  intro k;induction k with
  |zero=>
   intro _;refine⟨by simp[least],by simp[least],λj h1 h2=>?_,by simp⟩;have:least (ms.take 0)=0:=rfl;omega
  |succ k ih=>
   intro hk;obtain⟨i1,i2,i3,i4⟩:=ih (by omega);have cj:k<ms.length:=by omega
   have fw:∀x,x∈ms.take (k+1)↔x∈ms.take k\/x=ms[k]:=λx=>by
    rw[take_add_one,getElem?_eq_getElem cj,List.mem_append];simp
   have bG:∀x∈ms.take k,x.1<ms[k].1:=λx hx=>by
    obtain⟨i,hi,rfl⟩:=List.mem_iff_getElem.1 hx;rw[List.getElem_take];simp only[length_take]at hi;have:=List.pairwise_iff_getElem.1 hu i k (by omega) cj (by omega);exact vJ.1 this
   rw[AZ cj];split
   ·rename_i e;refine⟨by omega,by omega,λj h1 h2=>?_,λx hx=>?_⟩
    ·by_cases hj:j<least (ms.take k)
     ·obtain⟨x,hx,ex⟩:=i3 j h1 hj;exact⟨x,(fw x).2 (.inl hx),ex⟩
     ·exact⟨ms[k],(fw _).2 (.inr rfl),by omega⟩
    ·rcases(fw x).1 hx with h|rfl
     ·have:=bG x h;omega
     ·omega
   ·rename_i e;refine⟨i1,by omega,λj h1 h2=>?_,λx hx=>?_⟩
    ·obtain⟨x,hx,ex⟩:=i3 j h1 h2;exact⟨x,(fw x).2 (.inl hx),ex⟩
    ·rcases(fw x).1 hx with h|rfl
     ·exact i4 x h
     ·exact e
 have:=key ms.length (Nat.le_refl _);rw[take_length]at this;exact this
theorem Hg{es:List aj}{ms:dj}(hI:dx es ms){x x':Int×dZ}(hx:x∈ms)(hk:x'.1=x.1)(hs:dv x'=dv x):(aY au bO x' ms).map dv=ms.map dv:=by
 obtain⟨A,B,e,_,h⟩:=hI.ni.at_ ar hx;have h2:=h x' hk;rw[h2]
 conv=>rhs;rw[e]
 simp[hs]
theorem dx.del{es:List aj}{ms:dj}(h:dx es ms)(k:Int):dx es (bU au bO k ms):=by
 have hm:∀x,x∈bU au bO k ms->x∈ms:=λx hx=>(mem_filter.1 hx).1;exact⟨h.wz,h.ni.del k,λx hx=>h.has x (hm x hx),λx hx=>h.bare x (hm x hx),λx hx=>h.num x (hm x hx),λx hx=>h.aM x (hm x hx),λx hx y hy=>h.inj x (hm x hx) y (hm y hy),h.le,Nat.lt_of_le_of_lt vI h.lm⟩
theorem dx.i_{es:List aj}{ms:dj}(h:dx es ms){x x':Int×dZ}(hx:x∈ms)(hk:x'.1=x.1)(hc:x'.2.c=x.2.c)(hl:x'.2.l=x.2.l)(hu:1<=x'.2.aM/\x'.2.aM<1000000):dx es (aY au bO x' ms):=by
 obtain⟨A,B,e,_,h2⟩:=h.ni.at_ ar hx;have hi:=h2 x' hk;have hm:∀y,y∈aY au bO x' ms->y=x'\/y∈ms:=λy hy=>((bg ar).1 hy).imp id λh=>h.1
 have hlen:(aY au bO x' ms).length=ms.length:=by rw[hi];conv=>rhs;rw[e]
                                                 simp
 refine⟨h.wz,h.ni.ins ar x',λy hy=>?_,λy hy=>?_,λy hy=>?_,λy hy=>?_,λy hy z hz e'=>?_,h.le,by rw[hlen];exact h.lm⟩
 ·rcases hm y hy with rfl|hy
  ·rw[hl,hc];exact h.has x hx
  ·exact h.has y hy
 ·rcases hm y hy with rfl|hy
  ·rw[hc];exact h.bare x hx
  ·exact h.bare y hy
 ·rcases hm y hy with rfl|hy
  ·rw[hk];exact h.num x hx
  ·exact h.num y hy
 ·rcases hm y hy with rfl|hy
  ·exact hu
  ·exact h.aM y hy
 ·rcases(bg ar).1 hy with ey|⟨Mo,Fk⟩<;>rcases(bg ar).1 hz with ez|⟨RA,hz2⟩
  ·rw[ey,ez]
  ·rw[ey,hc]at e';have:=h.inj x hx z RA e';exact absurd (by rw[<- this];exact hk.symm) hz2
  ·rw[ez,hc]at e';have:=h.inj y Mo x hx e';exact absurd (by rw[this];exact hk.symm) Fk
  ·exact h.inj y Mo z RA e'
theorem dx.new{es:List aj}{ms:dj}(h:dx es ms){c:ae}(hc:Er c)(hn:∀x∈ms,x.2.c≠c)(b:Nat)(hlm:ms.length+1<1000000):aL au bO (least ms) ms=none/\dx es (aY au bO (least ms,⟨c,1,b,es.filter (bf c)⟩) ms):=by
 obtain⟨l0,l1,_,l3⟩:=A_ ms h.ni λx hx=>(h.num x hx).1;have hm:∀y,y∈aY au bO (least ms,⟨c,1,b,es.filter (bf c)⟩) ms->y=(least ms,⟨c,1,b,es.filter (bf c)⟩)\/y∈ms:=λy hy=>((bg ar).1 hy).imp id λh=>h.1;have hlen:=vo (ck:=au) (key:=bO) (x:=(least ms,⟨c,1,b,es.filter (bf c)⟩)) (L:=ms);refine⟨(bx ar).2 λx hx=>l3 x hx,h.wz,h.ni.ins ar _,λy hy=>?_,λy hy=>?_,λy hy=>?_,λy hy=>?_,λy hy z hz e'=>?_,h.le,by omega⟩
 ·rcases hm y hy with rfl|hy
  ·rfl
  ·exact h.has y hy
 ·rcases hm y hy with rfl|hy
  ·exact hc
  ·exact h.bare y hy
 ·rcases hm y hy with rfl|hy
  ·exact⟨l0,by show least ms<1000000;omega⟩
  ·exact h.num y hy
 ·rcases hm y hy with rfl|hy
  ·exact⟨by show(1:Int)<=1;omega,by show(1:Int)<1000000;omega⟩
  ·exact h.aM y hy
 ·rcases hm y hy with rfl|hy<;>rcases hm z hz with rfl|hz
  ·rfl
  ·exact absurd e'.symm (hn z hz)
  ·exact absurd e' (hn y hy)
  ·exact h.inj y hy z hz e'
def wW(e:aj)(x:Int×dZ):Int×dZ:=(x.1,{x.2 with l:=if bf x.2.c e then dw au aD e x.2.l else x.2.l})
def pt(t:Int)(x:Int×dZ):Int×dZ:=(x.1,{x.2 with l:=bU au aD t x.2.l})
def eF(e:aj)(ms:dj):List Int:=(ms.filter λx=>bf x.2.c e).map (·.1)
theorem dx.wW{es:List aj}{ms:dj}(h:dx es ms){e:aj}(hn:aL au aD e.tag es=none)(hle:es.length+1<1000000):dx (aY au aD e es) (ms.map (wW e)):=by
 have hnn:=(bx ar).1 hn;have hlen:=vo (ck:=au) (key:=aD) (x:=e) (L:=es);have hm:∀y∈ms.map (Go.Proofs.YthaeiehophlooaaGreat.wW e),∃x∈ms,y=Go.Proofs.YthaeiehophlooaaGreat.wW e x:=λy hy=>by obtain⟨x,hx,rfl⟩:=mem_map.1 hy;exact⟨x,hx,rfl⟩
 refine⟨h.wz.ins ar e,bY.map (f:=Go.Proofs.YthaeiehophlooaaGreat.wW e) h.ni,λy hy=>?_,λy hy=>?_,λy hy=>?_,λy hy=>?_,λy hy z hz e'=>?_,by omega,by simpa using h.lm⟩
 ·obtain⟨x,hx,rfl⟩:=hm y hy;show(if bf x.2.c e then dw au aD e x.2.l else x.2.l)=_;rw[h.has x hx];have T_:aL au aD e.tag (es.filter (bf x.2.c))=none:=(bx ar).2 λy hy=>hnn y (mem_filter.1 hy).1;split
  ·rename_i hme;rw[dw];have:aL au aD (aD e) (es.filter (bf x.2.c))=none:=T_;rw[this];refine bY.ext ar (bY.ins ar (h.wz.filter _) e) ((h.wz.ins ar e).filter _) λy=>?_;show y∈aY au aD e _↔_;rw[bg ar,mem_filter,mem_filter,bg ar];constructor
   ·rintro(rfl|⟨⟨h1,h2⟩,h3⟩)
    ·exact⟨.inl rfl,hme⟩
    ·exact⟨.inr ⟨h1,h3⟩,h2⟩
   ·rintro⟨rfl|⟨h1,h3⟩,h2⟩
    ·exact .inl rfl
    ·exact .inr ⟨⟨h1,h2⟩,h3⟩
  ·rename_i hme;refine bY.ext ar (h.wz.filter _) ((h.wz.ins ar e).filter _) λy=>?_;rw[mem_filter,mem_filter,bg ar];constructor
   ·rintro⟨h1,h2⟩;exact⟨.inr ⟨h1,hnn y h1⟩,h2⟩
   ·rintro⟨rfl|⟨h1,h3⟩,h2⟩
    ·exact absurd h2 hme
    ·exact⟨h1,h2⟩
 ·obtain⟨x,hx,rfl⟩:=hm y hy;exact h.bare x hx
 ·obtain⟨x,hx,rfl⟩:=hm y hy;exact h.num x hx
 ·obtain⟨x,hx,rfl⟩:=hm y hy;exact h.aM x hx
 ·obtain⟨x,hx,rfl⟩:=hm y hy;obtain⟨x',Mp,rfl⟩:=hm z hz;rw[h.inj x hx x' Mp e']
theorem dx.pt{es:List aj}{ms:dj}(h:dx es ms)(t:Int):dx (bU au aD t es) (ms.map (pt t)):=by
 have hm:∀y∈ms.map (Go.Proofs.YthaeiehophlooaaGreat.pt t),∃x∈ms,y=Go.Proofs.YthaeiehophlooaaGreat.pt t x:=λy hy=>by obtain⟨x,hx,rfl⟩:=mem_map.1 hy;exact⟨x,hx,rfl⟩
 refine⟨h.wz.del t,bY.map (f:=Go.Proofs.YthaeiehophlooaaGreat.pt t) h.ni,λy hy=>?_,λy hy=>?_,λy hy=>?_,λy hy=>?_,λy hy z hz e'=>?_,Nat.lt_of_le_of_lt vI h.le,by simpa using h.lm⟩
 ·obtain⟨x,hx,rfl⟩:=hm y hy;show bU au aD t x.2.l=_;rw[h.has x hx];unfold bU;rw[List.filter_filter,List.filter_filter];exact List.filter_congr λy _=>Bool.and_comm _ _
 ·obtain⟨x,hx,rfl⟩:=hm y hy;exact h.bare x hx
 ·obtain⟨x,hx,rfl⟩:=hm y hy;exact h.num x hx
 ·obtain⟨x,hx,rfl⟩:=hm y hy;exact h.aM x hx
 ·obtain⟨x,hx,rfl⟩:=hm y hy;obtain⟨x',Mp,rfl⟩:=hm z hz;rw[h.inj x hx x' Mp e']
@[reducible] def cc(c:ae):List PV:=[pI c.kind,pB c.goal,pS c.id,.list 6 .sh (c.attr.map Test.pv),.list 6 .sh (c.value.map Test.pv),pB c.acc,.list 7 .sh (c.conds.map ae.pv)]
theorem GZ{l:List Test}{k:Nat}(hk:k<l.length):il (l.take (k+1))=il (l.take k)++(if aK l[k].var ⟨#[]⟩=true then[l[k]]else[]):=by
 unfold il;rw[take_add_one,getElem?_eq_getElem hk,filter_append];congr 1;simp only[toList_some,filter_cons,filter_nil]
theorem SX(f:Fl)(l:List Test)(hl:l.length<=1000)(ht:∀t∈l,t.list.length<=1000):Pure prog 214 [.list 6 f (l.map Test.pv)] (.list 6 .sh ((il l).map Test.pv)):=by
 refine av.of (CZ.c ?_);have hb:∀k,(il (l.take k)).length<=1000:=λk=>by
  have:=sX (l.take k);have:=List.length_take_le k l;have h3:(l.take k).length<=l.length:=by rw[length_take];omega
  omega
 refine ao.dG (n:=l.length) (by omega) (λk x u=>x.2=(il (l.take k)).map Test.pv/\Ow [fB x.1 (il (l.take k)).length 6] u) ⟨rfl,Ow.nil (L:=[]) trivial (.inl rfl)⟩ ?_ ?_
 ·rintro k ⟨fl,_⟩ u next hk ⟨rfl,hO⟩ aw
  have hft:=GZ hk;have hbk:=hb k;have gX:=ht _ (getElem_mem hk);refine ab.t (by simpa using hk) ⟨by omega,_,aH hk,_,_,_,_,_,_,_,rfl,ab.mk (λhv=>?_) (λhv=>?_)⟩
  ·rw[if_pos hv]at hft;refine Ow.app (Ow.nil (n:=0) hO (.inl rfl)) rfl (by simp only[length_map];omega) (by simp only[length_map];omega) λf1 u1 uD=>?_;refine Ow.app uD.drop (by simp only[length_map]) (by simp only[List.length_singleton];omega) (by simp only[List.length_singleton];omega) λf2 u2 gg=>aw _ _ ⟨?_,?_⟩
   ·rw[hft,map_append];rfl
   ·rw[hft,length_append];exact gg
  ·rw[if_neg (by simp[hv]),append_nil]at hft;exact aw _ _ ⟨by rw[hft],by rw[hft];exact hO⟩
 ·rintro⟨fl,_⟩ u next ⟨rfl,hO⟩
  refine ab.f (by simp) ?_;rw[take_length];rfl
theorem DK{l:List Test}(h:∀t∈l,oE t):∀t∈l,t.list.length<=1000:=λt ht=>by have:=(h t ht).1;omega
theorem aex(c:ae)(fa fv fc:Fl)(hl:cU c):Pure prog 166 [.agg [pI c.kind,pB c.goal,pS c.id,.list 6 fa (c.attr.map Test.pv),.list 6 fv (c.value.map Test.pv),pB c.acc,.list 7 fc (c.conds.map ae.pv)]] (.agg (cc (bt c))):=by
 obtain⟨_,h1,h2,h3,h4,_⟩:=(bF c).1 hl;refine av.of (Gv.c ?_);refine(SX _ c.attr (by omega) (DK h3)).q ⟨_,_,rfl,(SX _ c.value (by omega) (DK h4)).q ⟨_,_,rfl,rfl⟩⟩
theorem XS(f g:Fl)(l m:List Test)(hl:l.length<=1000000)(ht:∀t∈l,t.list.length<=1000000):dU 168 [.list 6 f (l.map Test.pv),.list 6 g (m.map Test.pv)] (l=m):=by
 refine av.of (Gu.c (ab.mk (λh=>dU.no (DF h)) (λh=>?_)));refine qQ (l:=l) (m:=m) (n:=l.length) rfl (yN h) (by omega) (λk hk cj u next hy dc=>?_) (λu next e=>ab.f (by simp) (dU.yes e));refine ab.t (by simpa using hk) ⟨by omega,_,aH hk,_,_,_,_,_,_,_,rfl,by omega,_,aH cj,_,_,_,_,_,_,_,rfl,ab.mk (λh1=>dU.no (dc λe=>?_)) (λh1=>ab.mk (λh2=>dU.no (dc λe=>?_)) (λh2=>ab.mk (λh3=>dU.no (dc λe=>?_)) (λh3=>ab.mk (λh4=>dU.no (dc λe=>?_)) (λh4=>?_))))⟩
 ·rw[e]at h1;simp at h1
 ·rw[e,fE]at h2;cases h2
 ·have h':eZ l[k].sym m[k].sym=false:=nb h3;rw[dm.2 (by rw[e])]at h';cases h'
 ·exact absurd (by rw[e]) (DF h4)
 ·have Fu:=ht _ (getElem_mem hk);refine qQ (l:=l[k].list) (m:=m[k].list) (n:=l[k].list.length) rfl (yN h4) (by omega) (λi hi xt u1 mM Mo RQ=>?_) (λu1 mM e=>ab.f (by simp) (hy (LC (by simpa using h1) (bD.1 (nt h2)) (dm.1 (nt h3)) e) _));refine ab.t (by simpa using hi) ⟨by omega,_,aH hi,_,_,_,rfl,by omega,_,aH xt,_,_,_,rfl,ab.mk (λh5=>dU.no (dc λe=>RQ (λe'=>?_) (by rw[e]))) (λh5=>Mo (dm.1 (nt h5)) _)⟩;have h':eZ l[k].list[i] m[k].list[i]=false:=nb h5;rw[dm.2 e']at h';cases h'
theorem Th(c:ae)(e:aj)(fa fv fc:Fl)(hl:cU c):Pure prog 172 [.agg [pI c.kind,pB c.goal,pS c.id,.list 6 fa (c.attr.map Test.pv),.list 6 fv (c.value.map Test.pv),pB c.acc,.list 7 fc (c.conds.map ae.pv)],.agg e.pv] (pB (bf c e)):=by
 obtain⟨_,h1,h2,h3,h4,_⟩:=(bF c).1 hl;refine av.of (C_.c ?_);refine(To .sh .sh .sh .nil (Xg c) e [] (by show 0+1+c.attr.length+c.value.length<=1000000;omega) (cS h3) (cS h4)).call ?_;unfold bf;cases cH (Xg c) e []with
 |none=>exact⟨_,_,_,rfl,rfl⟩
 |some r=>exact⟨_,_,_,rfl,rfl⟩
theorem aez{L:List aX}{μ:Mem}(hO:Ow L μ){K:Kq}(hk:∀μ' n,Ow (bA n [] []::L) μ'->K (pP n 0) μ'):aa prog 47 [] μ K:=by
 refine Je.c (AE.BB hO λu1 me h1=>⟨_,rfl,AM.BB h1 λu2 mm h2=>⟨_,rfl,λn hn=>hk _ n ?_⟩⟩);exact bA.shut (ms:=[]) ((h2.swap.new 198 [pP me 0,pP mm 0] hn))
theorem tv{n me mm:Nat}{es:List aj}{ms:dj}{L:List aX}{μ:Mem}(h:Ow (AM.cq mm (ms.map iZ)::(Pt n 198 [pP me 0,pP mm 0]::AE.cq me (es.map nj)::(ms.map dv++L))) μ):Ow (bA n es ms::L) μ:=bA.shut (h.swap.tail λ_ h=>h.swap)
theorem getM(k:Int)(ms:dj):aL AM.ck AM.key (AM.key (k,AM.z)) (ms.map iZ)=(aL au bO k ms).map iZ:=nO
theorem OI(t:Int)(es:List aj):aL AE.ck AE.key (AE.key (t,AE.z)) (es.map nj)=(aL au aD t es).map nj:=nO
theorem map_none{α β:Type}{f:α->β}{o:Option α}(h:o.map f=none):o=none:=by
 cases o with
 |none=>rfl
 |some x=>cases h
def jA(k:Int)(ms:dj):dj:=
 match aL au bO k ms with
 |none=>ms
 |some x=>if x.2.aM=1 then bU au bO k ms else aY au bO (k,{x.2 with aM:=x.2.aM-1}) ms
theorem dx.leave{es:List aj}{ms:dj}(h:dx es ms)(k:Int):dx es (jA k ms):=by
 unfold jA;split
 ·exact h
 ·rename_i x hx;obtain⟨h1,h2⟩:=(a_ ar h.ni).1 hx;have hu:=h.aM x h1;split
  ·exact h.del k
  ·exact h.i_ h1 (x':=(k,{x.2 with aM:=x.2.aM-1})) h2.symm rfl rfl ⟨by show 1<=x.2.aM-1;omega,by show x.2.aM-1<1000000;omega⟩
theorem Wv{L:List aX}{μ:Mem}{n:Nat}{es:List aj}{ms:dj}(hO:Ow (bA n es ms::L) μ)(hI:dx es ms)(k:Int){K:Kq}(hk:∀μ',Ow (bA n es (jA k ms)::L) μ'->K (pB (aL au bO k ms).isSome) μ'):aa prog 119 [pP n 0,pI k] μ K:=by
 obtain⟨me,mm,h⟩:=bA.open_ hO;have hlm:=hI.lm;refine wy.c ⟨_,h.rd 0 rfl (by simp),AM.iB (Ow.at 2 rfl h) hI.um (by simp;omega) k (λy μ' hy h'=>?_) (λμ' hy h'=>?_)⟩
 ·rw[getM]at hy;obtain⟨x,hx,rfl⟩:=map_eq_some_iff.1 hy;obtain⟨CC,hxk⟩:=(a_ ar hI.ni).1 hx;have Ov:=hI.aM x CC;have hw:wrap .i64 (x.2.aM-1)=x.2.aM-1:=aC (by omega) (by omega);refine⟨_,_,_,_,_,_,_,_,_,_,_,_,_,rfl,ab.f rfl (ab.mk (λh1=>?_) (λh1=>?_))⟩
  ·have h1:x.2.aM=1:=by
    have:wrap .i64 (x.2.aM-1)=0:=by simpa[iZ,dZ.acK]using h1
    omega
   refine⟨_,h'.rd 1 rfl (by simp),AM.oO h' hI.um (by simp;omega) k (λy2 μ2 Fk h2=>?_) (λμ2 Fk h2=>?_)⟩
   ·refine⟨_,_,_,_,_,_,_,_,_,_,_,_,_,rfl,?_⟩;have:=hk μ2;rw[hx]at this;refine this ?_;have e1:jA k ms=bU au bO k ms:=by unfold jA;rw[hx];exact if_pos h1
    rw[e1];obtain⟨A,B,e,ed,_⟩:=hI.ni.at_ ar CC;have acV:bO x=k:=hxk;rw[acV]at ed;refine tv (mm:=mm) (me:=me) ?_;have hdm:bU AM.ck AM.key (AM.key (k,AM.z)) (ms.map iZ)=(bU au bO k ms).map iZ:=By;rw[hdm]at h2;have e2:ms.map dv=A.map dv++dv x::B.map dv:=by rw[e];simp
    rw[e2]at h2;have h3:=(Ow.pick (P:=[AM.cq mm ((bU au bO k ms).map iZ),Pt n 198 [pP me 0,pP mm 0],AE.cq me (es.map nj)]) h2).drop;have e3:(bU au bO k ms).map dv=A.map dv++B.map dv:=by rw[ed,map_append]
    rw[e3];exact h3
   ·rw[getM,hx]at Fk;cases Fk
  ·have h1:x.2.aM≠1:=λe=>by
    have GF:(wrap .i64 (x.2.aM-1) == 0)=false:=h1;rw[hw,e]at GF;simp at GF
   refine⟨_,h'.rd 1 rfl (by simp),?_⟩;show aa _ _ [pP mm 0,pI k,.agg [_,_,_,_,_,_,_,pI (wrap .i64 (x.2.aM-1)),_]] _ _;rw[hw];refine AM.mX h' hI.um (by simp;omega) k ⟨x.2.c,x.2.aM-1,some ⟨x.2.b,0,none⟩⟩ λμ2 h2=>⟨_,rfl,?_⟩;have:=hk μ2;rw[hx]at this;refine this ?_;have e1:jA k ms=aY au bO (k,{x.2 with aM:=x.2.aM-1}) ms:=by unfold jA;rw[hx];exact if_neg h1
   rw[e1];refine tv (mm:=mm) (me:=me) ?_;rw[Hg hI CC (x':=(k,{x.2 with aM:=x.2.aM-1})) hxk.symm rfl];have e2:aY AM.ck AM.key (k,⟨x.2.c,x.2.aM-1,some ⟨x.2.b,0,none⟩⟩) (ms.map iZ)=(aY au bO (k,{x.2 with aM:=x.2.aM-1}) ms).map iZ:=lQ (f:=iZ) (x:=(k,{x.2 with aM:=x.2.aM-1}));rw[e2]at h2;exact h2
 ·rw[getM]at hy;have hx:=map_none hy;refine⟨_,_,_,_,_,_,_,_,_,_,_,_,_,rfl,ab.t rfl ?_⟩;have:=hk μ';rw[hx]at this;refine this ?_;have e1:jA k ms=ms:=by unfold jA;rw[hx]
  rw[e1];exact tv h'
theorem aaI{L:List aX}{μ:Mem}{n:Nat}{es:List aj}{ms:dj}(hO:Ow (bA n es ms::L) μ)(hI:dx es ms)(ahl:ms.length+1<1000000)(Ov:∀x∈ms,x.2.aM+1<1000000)(c:ae)(hl:cU c){K:Kq}
  (jY:∀x∈ms,x.2.c=bt c->∀μ',Ow (bA n es (aY au bO (x.1,{x.2 with aM:=x.2.aM+1}) ms)::L) μ'->K (pI x.1) μ')
  (HY:(∀x∈ms,x.2.c≠bt c)->∀μ' b,Ow (bA n es (aY au bO (least ms,⟨bt c,1,b,es.filter (bf (bt c))⟩) ms)::L) μ'->K (pI (least ms)) μ'):aa prog 114 [pP n 0,.agg (cc c)] μ K:=by
 obtain⟨me,mm,h⟩:=bA.open_ hO;have hlm:=hI.lm;have hle:=hI.le;have hbl:=BI hl;have hbb:=Eo hl;obtain⟨_,bl1,bl2,bl3,bl4,_⟩:=(bF _).1 hbl;refine yf.c λb2 ph b3 DU b4 GC=>?_;have O1:=h.new 111 [pP n 0] ph;have O2:=O1.new 84 (cc c) DU;have O3:=O2.new 3 [pI 0] GC;refine⟨_,_,_,_,_,_,_,_,_,_,O3.rd 1 rfl (by simp),(aex c .sh .sh .sh hl).call ⟨_,_,_,_,_,_,_,_,_,_,rfl,O3.st 1 rfl (by simp) λu1 O4=>λb5 XD=>?_⟩⟩;refine(O4.new 191 [pI 0] XD).st 0 rfl (by simp) λu2 O5=>?_;refine⟨_,O5.rd 3 rfl (by simp),_,O5.rd 4 rfl (by simp),(AM.vO mm).call ⟨_,_,_,rfl,?_⟩⟩;have oK:((ms.map iZ).map λx=>[AM.cX x.1,AM.g_ x.2]).length=ms.length:=by simp
 refine bu.own (AM.gB mm (ms.map iZ) (by simp;omega)) (Ow.at 6 rfl O5)
  (λk u=>(∀x∈ms.take k,x.2.c≠bt c)/\Ow (AM.cq mm (ms.map iZ)::Pt b5 191 [pI (least (ms.take k))]::Pt b4 3 [pI 0]::Pt b3 84 (cc (bt c))::Pt b2 111 [pP n 0]::Pt n 198 [pP me 0,pP mm 0]::AE.cq me (es.map nj)::(ms.map dv++L)) u)
  (λcd u=>cd=.ret/\∃x∈ms,x.2.c=bt c/\Ow (Pt b4 3 [pI x.1]::bA n es (aY au bO (x.1,{x.2 with aM:=x.2.aM+1}) ms)::L) u)
  (λk=>eJ.and (eJ.own _)) (λcd=>eJ.and λμ μ' hs ⟨x,h1,h2,h3⟩=>⟨x,h1,h2,h3.mono hs⟩) (λμ' h'=>⟨by simp,h'⟩) ?_ ?_ ?_
 ·rintro k hk u R ⟨dc,hO⟩ bX jW;have cj:k<ms.length:=by simpa using hk
  have CC:ms[k]∈ms:=getElem_mem cj;have hb:=hI.bare _ CC;obtain⟨_,l1,l2,l3,l4,_⟩:=(bF _).1 hb.AW;have hux:=hI.aM _ CC;have alr:=Ov _ CC;obtain⟨le0,le1,_,_⟩:=A_ (ms.take k) (List.Pairwise.sublist (List.take_sublist _ _) hI.ni) λx hx=>(hI.num x (List.mem_of_mem_take hx)).1;rw[getElem_map,getElem_map];have Xc:ms[k].2.c≠bt c->∀x∈ms.take (k+1),x.2.c≠bt c:=λaZ x hx=>by
   rw[take_add_one,getElem?_eq_getElem cj,List.mem_append]at hx;rcases hx with hx|hx
   ·exact dc x hx
   ·simp at hx;rw[hx];exact aZ
  refine⟨_,_,_,_,_,_,_,_,_,_,_,_,_,rfl,λ_ u=>ms[k].2.c≠bt c/\Ow (AM.cq mm (ms.map iZ)::Pt b5 191 [pI (least (ms.take k))]::Pt b4 3 [pI 0]::Pt b3 84 (cc (bt c))::Pt b2 111 [pP n 0]::Pt n 198 [pP me 0,pP mm 0]::AE.cq me (es.map nj)::(ms.map dv++L)) u,?_,?_⟩
  ·refine⟨_,hO.rd 3 rfl (by simp),ab.mk (λg1=>⟨_,hO.rd 3 rfl (by simp),ab.mk (λg2=>⟨_,_,hO.rd 3 rfl (by simp),?_⟩) (λg2=>⟨λe=>?_,hO⟩)⟩) (λg1=>⟨λe=>?_,hO⟩)⟩
   ·refine(XS _ _ ms[k].2.c.attr (bt c).attr (by omega) (cS l3)).call (λe1=>⟨_,rfl,ab.t rfl ⟨_,_,hO.rd 3 rfl (by simp),?_⟩⟩) (λaZ=>⟨_,rfl,ab.f rfl ⟨λe=>aZ (by rw[e]),hO⟩⟩);refine(XS _ _ ms[k].2.c.value (bt c).value (by omega) (cS l4)).call (λe2=>⟨_,rfl,ab.t rfl ⟨_,hO.rd 4 rfl (by simp),_,hO.rd 5 rfl (by simp),?_⟩⟩) (λaZ=>⟨_,rfl,ab.f rfl ⟨λe=>aZ (by rw[e]),hO⟩⟩);have g1':(ms[k].2.c.goal == (bt c).goal)=true:=g1;have g2':(ms[k].2.c.acc == (bt c).acc)=true:=g2;have ec:ms[k].2.c=bt c:=hb.eq hbb (by simpa using g1') (by simpa using g2') e1 e2;have hw:wrap .i64 (ms[k].2.aM+1)=ms[k].2.aM+1:=aC (by omega) (by omega);show aa _ _ [pP mm 0,pI ms[k].1,.agg [_,_,_,_,_,_,_,pI (wrap .i64 (ms[k].2.aM+1)),_]] _ _;rw[hw];refine AM.mX hO hI.um (by simp;omega) ms[k].1 ⟨ms[k].2.c,ms[k].2.aM+1,some ⟨ms[k].2.b,0,none⟩⟩ λμ2 h2=>⟨_,rfl,h2.st 2 rfl (by simp) λμ3 h3=>jW _ _ ⟨rfl,ms[k],CC,ec,?_⟩⟩;have e2:aY AM.ck AM.key (ms[k].1,⟨ms[k].2.c,ms[k].2.aM+1,some ⟨ms[k].2.b,0,none⟩⟩) (ms.map iZ)=(aY au bO (ms[k].1,{ms[k].2 with aM:=ms[k].2.aM+1}) ms).map iZ:=lQ (f:=iZ) (x:=(ms[k].1,{ms[k].2 with aM:=ms[k].2.aM+1}));rw[e2]at h3;refine(Ow.at 2 rfl h3).tail λν h4=>tv (mm:=mm) (me:=me) ?_;rw[Hg hI CC (x':=(ms[k].1,{ms[k].2 with aM:=ms[k].2.aM+1})) rfl rfl];exact h4.tail λν h5=>h5.drop.drop.drop
   ·have g2':(ms[k].2.c.acc == (bt c).acc)=false:=g2;rw[e]at g2';simp at g2'
   ·have g1':(ms[k].2.c.goal == (bt c).goal)=false:=g1;rw[e]at g1';simp at g1'
  ·rintro _ u ⟨aZ,hO⟩;have bG:=AZ cj;refine⟨_,hO.rd 1 rfl (by simp),ab.mk (λg=>⟨_,hO.rd 1 rfl (by simp),hO.st 1 rfl (by simp) λu3 h3=>bX _ ⟨Xc aZ,?_⟩⟩) (λg=>bX _ ⟨Xc aZ,?_⟩)⟩
   ·have g:ms[k].1=least (ms.take k):=by simpa[iZ]using g
    rw[if_pos g]at bG;rw[bG];have hw:wrap .i64 (least (ms.take k)+1)=least (ms.take k)+1:=aC (by omega) (by rw[length_take]at le1;omega);have XL:Ow (AM.cq mm (ms.map iZ)::Pt b5 191 [pI (wrap .i64 (least (ms.take k)+1))]::Pt b4 3 [pI 0]::Pt b3 84 (cc (bt c))::Pt b2 111 [pP n 0]::Pt n 198 [pP me 0,pP mm 0]::AE.cq me (es.map nj)::(ms.map dv++L)) u3:=h3;rw[hw]at XL;exact XL
   ·have g:ms[k].1≠least (ms.take k):=by simpa[iZ]using g
    rw[if_neg g]at bG;rw[bG];exact hO
 ·rintro u ⟨dc,hO⟩;rw[oK,take_length]at dc hO;obtain⟨ahd,aka⟩:=hI.new hbb dc 0 ahl;have hun:bY AT.ck AT.key (es.filter (bf (bt c))):=bY.filter hI.wz _;refine⟨λs u=>∃b8 b,s=some ⟨b8,0,none⟩/\Ow (Pt b8 196 (cc (bt c)++[pI 1,pP b 0])::AT.At b []::AE.cq me (es.map nj)::AM.cq mm (ms.map iZ)::Pt b5 191 [pI (least ms)]::Pt b4 3 [pI 0]::Pt b3 84 (cc (bt c))::Pt b2 111 [pP n 0]::Pt n 198 [pP me 0,pP mm 0]::(ms.map dv++L)) u,?_,?_⟩
  ·have hO:=Ow.at 6 rfl hO;refine⟨_,_,_,_,_,_,_,_,_,_,hO.rd 4 rfl (by simp),?_,λb8 OE=>?_⟩
   ·refine aa.q (AT.gu (L:=[]) trivial .nil [] (by simp) (K:=λp μ'=>∃b,p=pP b 0/\Ow [AT.At b []] μ') λμ' b hb=>⟨b,rfl,hb⟩) ?_;rintro _ ν tH ⟨b,rfl,hb⟩;refine⟨_,rfl,λb8 OE=>?_⟩;have h1:=hO.side tH hb;exact(h1.new 196 _ OE).st 0 rfl (by simp) λu3 h3=>⟨b8,b,rfl,h3⟩
   ·have h1:=hO.new 196 [pI 0,pB false,pS ⟨#[]⟩,.list 6 .nil [],.list 6 .nil [],pB false,.list 7 .nil [],pI 0,.raw (.pointer none)] OE;refine aa.q (AT.gu (L:=[]) trivial .nil [] (by simp) (K:=λp μ'=>∃b,p=pP b 0/\Ow [AT.At b []] μ') λμ' b hb=>⟨b,rfl,hb⟩) ?_;rintro _ ν tH ⟨b,rfl,hb⟩;have h2:=h1.side tH hb;exact⟨_,rfl,h2.st 1 rfl (by simp) λu3 h3=>⟨b8,b,rfl,Ow.swap h3⟩⟩
  ·rintro _ u ⟨b8,b,rfl,hO⟩;refine⟨_,hO.rd 7 rfl (by simp),_,hO.rd 8 rfl (by simp),(AE.vO me).call ⟨_,_,_,rfl,?_⟩⟩;have PI:((es.map nj).map λx=>[AE.cX x.1,AE.g_ x.2]).length=es.length:=by simp
   refine bu.own (AE.gB me (es.map nj) (by simp;omega)) (Ow.at 2 rfl hO)
    (λk u=>Ow (AT.At b ((es.take k).filter (bf (bt c)))::AE.cq me (es.map nj)::Pt b8 196 (cc (bt c)++[pI 1,pP b 0])::AM.cq mm (ms.map iZ)::Pt b5 191 [pI (least ms)]::Pt b4 3 [pI 0]::Pt b3 84 (cc (bt c))::Pt b2 111 [pP n 0]::Pt n 198 [pP me 0,pP mm 0]::(ms.map dv++L)) u)
    (λ_ _=>False) (λk=>eJ.own _) (λ_ _ _ _ h=>h.elim) (λμ' h'=>(h'.tail λ_ h=>h.swap).swap) ?_ ?_ ?_
   ·rintro k hk u R hO bX _;have cj:k<es.length:=by simpa using hk
    rw[getElem_map,getElem_map];have gX:(es.take (k+1)).filter (bf (bt c))=(es.take k).filter (bf (bt c))++(if bf (bt c) es[k]=true then[es[k]]else[]):=by
     rw[take_add_one,getElem?_eq_getElem cj,filter_append];congr 1;simp only[toList_some,filter_cons,filter_nil]
    have jV:∀x∈es.take k,au (aD x) (aD es[k])<0:=λx hx=>by
     obtain⟨i,hi,rfl⟩:=List.mem_iff_getElem.1 hx;rw[List.getElem_take];simp only[length_take]at hi;exact List.pairwise_iff_getElem.1 hI.wz i k (by omega) cj (by omega)
    refine⟨_,_,_,_,_,_,_,_,_,_,_,_,_,rfl,_,_,_,_,_,_,_,_,_,_,hO.rd 6 rfl (by simp),(Th (bt c) es[k] .sh .sh .sh hbl).call ⟨_,rfl,ab.mk (λhm=>?_) (λhm=>?_)⟩⟩
    ·refine⟨_,hO.rd 2 rfl (by simp),AT.fV hO (bY.filter (List.Pairwise.sublist (List.take_sublist _ _) hI.wz) _) (by
      have:=length_filter_le (bf (bt c)) (es.take k)
      have:(es.take k).length<=es.length:=by rw[length_take];omega
      omega) es[k] λu3 h3=>⟨_,rfl,bX _ ?_⟩⟩
     rw[gX,if_pos hm];have hp:dw AT.ck AT.key es[k] ((es.take k).filter (bf (bt c)))=(es.take k).filter (bf (bt c))++[es[k]]:=NU AT.hc λx hx=>jV x (mem_filter.1 hx).1;rw[hp]at h3;exact h3
    ·refine bX _ ?_;rw[gX,if_neg (by simp[hm]),append_nil];exact hO
   ·intro u hO;rw[PI,take_length]at hO;refine⟨_,hO.rd 7 rfl (by simp),_,hO.rd 8 rfl (by simp),_,hO.rd 4 rfl (by simp),_,_,_,_,_,_,_,_,_,_,_,_,hO.rd 2 rfl (by simp),?_⟩;have CK:=Ow.at 3 rfl hO;refine AM.mX CK hI.um (by simp;omega) (least ms) ⟨bt c,1,some ⟨b,0,none⟩⟩ λu3 h3=>⟨_,rfl,_,h3.rd 4 rfl (by simp),h3.st 5 rfl (by simp) λu4 h4=>⟨_,h4.rd 5 rfl (by simp[dy]),HY dc u4 b ?_⟩⟩;have e2:aY AM.ck AM.key (least ms,⟨bt c,1,some ⟨b,0,none⟩⟩) (ms.map iZ)=(aY au bO (least ms,⟨bt c,1,b,es.filter (bf (bt c))⟩) ms).map iZ:=lQ (f:=iZ) (x:=(least ms,⟨bt c,1,b,es.filter (bf (bt c))⟩));rw[e2]at h4;refine tv (mm:=mm) (me:=me) ?_;have sD:=(nM ar (x:=(least ms,(⟨bt c,1,b,es.filter (bf (bt c))⟩:dZ))) (L:=ms) ahd).map dv;have h5:Ow (AM.cq mm ((aY au bO (least ms,⟨bt c,1,b,es.filter (bf (bt c))⟩) ms).map iZ)::AT.At b (es.filter (bf (bt c)))::AE.cq me (es.map nj)::Pt n 198 [pP me 0,pP mm 0]::(ms.map dv++L)) u4:=h4.tail λ_ h=>h.tail λ_ h=>h.tail λ_ h=>h.drop.drop.drop.drop.drop;refine h5.tail λ_ h6=>?_;have h7:=(h6.tail λ_ h=>h.swap);have h8:Ow (Pt n 198 [pP me 0,pP mm 0]::AE.cq me (es.map nj)::(AT.At b (es.filter (bf (bt c)))::(ms.map dv++L))) _:=(h7.swap).tail λ_ h=>h.swap;refine h8.tail λ_ h=>h.tail λ_ h9=>?_;exact h9.perm (List.Perm.append_right L sD.symm)
   ·intro _ _ h;exact h.elim
 ·rintro cd u ⟨rfl,x,hx,ec,hO⟩;exact⟨_,hO.rd 0 rfl (by simp),jY x hx ec u hO.drop⟩
@[reducible] def gn(k:Int):List PV:=[pI k]
@[reducible] def z12:List PV:=[pI 0,pS ⟨#[]⟩,pI 0,pI 0,pS ⟨#[]⟩,pI 0,pI 0,pS ⟨#[]⟩,pI 0,pB false,pB false,pI 0]
theorem Bi{e:aj}{ms:dj}{k:Nat}(hk:k<ms.length):eF e (ms.take (k+1))=eF e (ms.take k)++(if bf ms[k].2.c e=true then[ms[k].1]else[]):=by
 unfold eF;rw[take_add_one,getElem?_eq_getElem hk,filter_append,map_append];congr 1;simp only[toList_some,filter_cons,filter_nil];split<;>rfl
theorem rI(e:aj)(ms:dj):(eF e ms).length<=ms.length:=by
 unfold eF;rw[length_map];exact length_filter_le _ _
theorem zP{f:Int×dZ->Int×dZ}{ms:dj}{k:Nat}(hk:k<ms.length):((ms.take k).map f++ms.drop k).map dv=((ms.take k).map f).map dv++dv ms[k]::(ms.drop (k+1)).map dv:=by
 rw[map_append,List.drop_eq_getElem_cons hk,List.map_cons]
theorem zz{f:Int×dZ->Int×dZ}{ms:dj}{k:Nat}(hk:k<ms.length):((ms.take (k+1)).map f++ms.drop (k+1)).map dv=((ms.take k).map f).map dv++dv (f ms[k])::(ms.drop (k+1)).map dv:=by
 have e:(ms.take (k+1)).map f=(ms.take k).map f++[f ms[k]]:=eV hk;rw[e,map_append,map_append,List.append_assoc];rfl
theorem UP(e:aj)(ms:dj):(ms.map (wW e)).map iZ=ms.map iZ:=by rw[map_map];rfl
theorem QO(t:Int)(ms:dj):(ms.map (pt t)).map iZ=ms.map iZ:=by rw[map_map];rfl
theorem aey{L:List aX}{μ:Mem}{n:Nat}{es:List aj}{ms:dj}(hO:Ow (bA n es ms::L) μ)(hI:dx es ms)(e:aj){K:Kq}
  (jY:(aL au aD e.tag es).isSome=true->∀μ',Ow (bA n es ms::L) μ'->K (.aA [.list 1 .nil [],pI 3]) μ')
  (HY:aL au aD e.tag es=none->∀μ' fl,Ow (bA n (aY au aD e es) (ms.map (wW e))::L) μ'->K (.aA [.list 1 fl ((eF e ms).map gn),pI 0]) μ'):aa prog 136 [pP n 0,.agg e.pv] μ K:=by
 obtain⟨me,mm,h⟩:=bA.open_ hO;have hlm:=hI.lm;have hle:=hI.le;refine zv.c λb3 DU=>?_;have O1:=h.new 88 e.pv DU;refine⟨λs u=>aL au aD e.tag es=none/\Ow (Pt b3 88 e.pv::Pt n 198 [pP me 0,pP mm 0]::AE.cq me (es.map nj)::AM.cq mm (ms.map iZ)::(ms.map dv++L)) u,?_,?_⟩
 ·have fin:∀{cs:List PV} {b6:Nat} {u:Mem} {q:Bool},Ow (Pt b6 88 cs::Pt b3 88 e.pv::Pt n 198 [pP me 0,pP mm 0]::AE.cq me (es.map nj)::AM.cq mm (ms.map iZ)::(ms.map dv++L)) u->(q=true->(aL au aD e.tag es).isSome=true)->(q=false->aL au aD e.tag es=none)->ab q (K (.aA [.list 1 .nil [],pI 3]) u) (aL au aD e.tag es=none/\Ow (Pt b3 88 e.pv::Pt n 198 [pP me 0,pP mm 0]::AE.cq me (es.map nj)::AM.cq mm (ms.map iZ)::(ms.map dv++L)) u):=λ{cs b6 u q} hO h1 h2=>
   ab.mk (λhq=>jY (h1 hq) u (bA.shut hO.drop.drop)) (λhq=>⟨h2 hq,hO.drop⟩)
  refine⟨_,O1.rd 1 rfl (by simp),_,O1.rd 0 rfl (by simp),?_,λb6 CI=>?_⟩
  ·refine AE.iB (Ow.at 2 rfl O1) hI.ue (by simp;omega) e.tag (λy μ' hy h'=>?_) (λμ' hy h'=>?_)
   ·refine⟨_,_,_,_,_,_,_,_,_,_,_,_,_,rfl,λb6 CI=>((h'.swap.tail λ_ h=>h.swap).new 88 z12 CI).st 0 rfl (by simp) λu2 h2=>fin h2 (λ_=>?_) (λhq=>by cases hq)⟩;rw[OI]at hy;cases hx:aL au aD e.tag es with
    |none=>rw[hx]at hy;cases hy
    |some x=>rfl
   ·refine⟨_,_,_,_,_,_,_,_,_,_,_,_,_,rfl,λb6 CI=>((h'.swap.tail λ_ h=>h.swap).new 88 z12 CI).st 0 rfl (by simp) λu2 h2=>fin h2 (λhq=>by cases hq) (λ_=>?_)⟩;rw[OI]at hy;exact map_none hy
  ·have O2:=O1.new 88 z12 CI;refine AE.iB (Ow.at 3 rfl O2) hI.ue (by simp;omega) e.tag (λy μ' hy h'=>?_) (λμ' hy h'=>?_)
   ·refine⟨_,_,_,_,_,_,_,_,_,_,_,_,_,rfl,(Ow.at 1 rfl h').st 0 rfl (by simp) λu2 h2=>fin (h2.tail λ_ h=>h.swap.tail λ_ h=>h.swap) (λ_=>?_) (λhq=>by cases hq)⟩;rw[OI]at hy;cases hx:aL au aD e.tag es with
    |none=>rw[hx]at hy;cases hy
    |some x=>rfl
   ·refine⟨_,_,_,_,_,_,_,_,_,_,_,_,_,rfl,(Ow.at 1 rfl h').st 0 rfl (by simp) λu2 h2=>fin (h2.tail λ_ h=>h.swap.tail λ_ h=>h.swap) (λhq=>by cases hq) (λ_=>?_)⟩;rw[OI]at hy;exact map_none hy
 ·rintro⟨⟨_,_⟩,_⟩ u ⟨hn,hO⟩;refine⟨_,hO.rd 1 rfl (by simp),_,hO.rd 0 rfl (by simp),_,_,_,_,_,_,_,_,_,_,_,_,hO.rd 0 rfl (by simp),?_⟩;refine AE.mX (Ow.at 2 rfl hO) hI.ue (by simp;omega) e.tag e λu1 h1=>⟨_,rfl,λb8 OE=>?_⟩;have e1:aY AE.ck AE.key (e.tag,e) (es.map nj)=(aY au aD e es).map nj:=lQ (f:=nj) (x:=e);rw[e1]at h1;have h2:=h1.new 51 [.list 1 .nil []] OE;refine⟨_,h2.rd 3 rfl (by simp),(AM.vO mm).call ⟨_,_,_,rfl,?_⟩⟩;have oK:((ms.map iZ).map λx=>[AM.cX x.1,AM.g_ x.2]).length=ms.length:=by simp
  refine bu.own (AM.gB mm (ms.map iZ) (by simp;omega)) (Ow.at 4 rfl h2)
   (λk u=>∃fl,Ow (Pt b8 51 [.list 1 fl ((eF e (ms.take k)).map gn)]::fB fl (eF e (ms.take k)).length 1::Pt b3 88 e.pv::AM.cq mm (ms.map iZ)::AE.cq me ((aY au aD e es).map nj)::Pt n 198 [pP me 0,pP mm 0]::(((ms.take k).map (wW e)++ms.drop k).map dv++L)) u)
   (λ_ _=>False) (λk=>eJ.ex λ_=>eJ.own _) (λ_ _ _ _ h=>h.elim) (λμ' h'=>⟨.nil,?_⟩) ?_ ?_ ?_
  ·have h3:Ow (Pt b8 51 [.list 1 .nil []]::Pt b3 88 e.pv::AM.cq mm (ms.map iZ)::AE.cq me ((aY au aD e es).map nj)::Pt n 198 [pP me 0,pP mm 0]::(ms.map dv++L)) μ':=by
    have a1:=h'.swap;refine a1.tail λ_ h=>?_;have a2:=(Ow.at 2 rfl h);exact a2
   refine h3.tail λ_ h=>Ow.nil ?_ (.inl rfl);simpa using h
  ·rintro k hk u R ⟨fl,hO⟩ bX _;have cj:k<ms.length:=by simpa using hk
   have CC:ms[k]∈ms:=getElem_mem cj;have hb:=(hI.bare _ CC).AW;have Xj:=hI.ul CC;have hht:=Bi (e:=e) cj;have bG:=rI e (ms.take k);rw[length_take]at bG;rw[getElem_map,getElem_map];rw[zP cj]at hO;have gg:=Ow.pick (P:=[Pt b8 51 [.list 1 fl ((eF e (ms.take k)).map gn)],fB fl (eF e (ms.take k)).length 1,Pt b3 88 e.pv,AM.cq mm (ms.map iZ),AE.cq me ((aY au aD e es).map nj),Pt n 198 [pP me 0,pP mm 0]]) hO;refine⟨_,_,_,_,_,_,_,_,_,_,_,_,_,rfl,_,_,_,_,_,_,_,_,_,_,_,_,hO.rd 2 rfl (by simp),(Th ms[k].2.c e .sh .sh .sh hb).call ⟨_,rfl,ab.mk (λhm=>?_) (λhm=>?_)⟩⟩
   ·refine⟨_,_,_,_,_,_,_,_,_,_,_,_,hO.rd 2 rfl (by simp),AT.fV (l:=ms[k].2.l) gg Xj.1 (by omega) e λu3 h3=>⟨_,rfl,_,_,h3.rd 1 rfl (by simp),?_⟩⟩;have hs:dv (wW e ms[k])=AT.At ms[k].2.b (dw AT.ck AT.key e ms[k].2.l):=by
     show AT.At ms[k].2.b (if bf ms[k].2.c e then _ else _)=_;rw[if_pos hm];rfl
    have h4:=(Ow.at 2 rfl h3);refine Ow.app h4 (by simp) (by simp;omega) (by simp;omega) λf' u4 h5=>?_;refine h5.st 2 rfl (by simp) λu6 h6=>bX _ ⟨f',?_⟩;rw[zz cj,hs,hht,if_pos hm,map_append,length_append];refine Ow.qa (P:=[Pt b8 51 [.list 1 f' ((eF e (ms.take k)).map gn++[ms[k].1].map gn)],fB f' ((eF e (ms.take k)).length+[ms[k].1].length) 1,Pt b3 88 e.pv,AM.cq mm (ms.map iZ),AE.cq me ((aY au aD e es).map nj),Pt n 198 [pP me 0,pP mm 0]]) ?_;have h7:Ow (fB f' ((eF e (ms.take k)).length+1) 1::AT.At ms[k].2.b (dw AT.ck AT.key e ms[k].2.l)::Pt b8 51 [.list 1 f' ((eF e (ms.take k)).map gn++[[pI ms[k].1]])]::Pt b3 88 e.pv::AM.cq mm (ms.map iZ)::AE.cq me ((aY au aD e es).map nj)::Pt n 198 [pP me 0,pP mm 0]::((((ms.take k).map (wW e)).map dv++(ms.drop (k+1)).map dv)++L)) u6:=h6;exact h7.swap.tail λ_ h=>h.swap
   ·refine bX _ ⟨fl,?_⟩;have hs:dv (wW e ms[k])=dv ms[k]:=by
     show AT.At ms[k].2.b (if bf ms[k].2.c e then _ else _)=_;have sE:bf ms[k].2.c e=false:=hm;rw[if_neg (by simp[sE])];rfl
    have sE:bf ms[k].2.c e=false:=hm;rw[zz cj,hs,hht,if_neg (by simp[sE]),append_nil];exact hO
  ·rintro u ⟨fl,hO⟩;rw[oK,take_length,drop_length,append_nil]at hO;refine⟨_,_,hO.rd 0 rfl (by simp),HY hn u fl ?_⟩;refine bA.shut (me:=me) (mm:=mm) ?_;rw[UP];have h3:=hO.drop.drop.drop;have h4:=Ow.at 2 rfl h3;exact h4.tail λ_ h=>h.swap
  ·intro _ _ h;exact h.elim
theorem VH{es:List aj}{ms:dj}(hI:dx es ms){x:Int×dZ}(hx:x∈ms){e:aj}(he:e∈es):(aL AT.ck AT.key (AT.key e) x.2.l).isSome=bf x.2.c e:=by
 rw[hI.has x hx];cases hm:bf x.2.c e with
 |true=>
  have:aL AT.ck AT.key (AT.key e) (es.filter (bf x.2.c))=some e:=(a_ AT.hc (bY.filter hI.wz _)).2 ⟨mem_filter.2 ⟨he,hm⟩,rfl⟩;rw[this];rfl
 |false=>
  have:aL AT.ck AT.key (AT.key e) (es.filter (bf x.2.c))=none:=(bx AT.hc).2 λy hy ey=>by
   have Kk:=mem_filter.1 hy;have:=bY.inj ar hI.wz Kk.1 he ey;rw[this,hm]at Kk;cases Kk.2
  rw[this];rfl
theorem aaJ{L:List aX}{μ:Mem}{n:Nat}{es:List aj}{ms:dj}(hO:Ow (bA n es ms::L) μ)(hI:dx es ms)(t:Int){K:Kq}
  (HY:aL au aD t es=none->∀μ',Ow (bA n es ms::L) μ'->K (.aA [.list 1 .nil [],pI 4]) μ')
  (jY:∀e,aL au aD t es=some e->∀μ' fl,Ow (bA n (bU au aD t es) (ms.map (pt t))::L) μ'->K (.aA [.list 1 fl ((eF e ms).map gn),pI 0]) μ'):aa prog 132 [pP n 0,pI t] μ K:=by
 obtain⟨me,mm,h⟩:=bA.open_ hO;have hlm:=hI.lm;have hle:=hI.le;refine yh.c ⟨_,h.rd 0 rfl (by simp),AE.oO (Ow.at 1 rfl h) hI.ue (by simp;omega) t (λy u1 hy h1=>?_) (λu1 hy h1=>?_)⟩
 ·rw[OI]at hy;obtain⟨e,he,rfl⟩:=map_eq_some_iff.1 hy;obtain⟨OD,het⟩:=(a_ ar hI.wz).1 he;have het:e.tag=t:=het;refine⟨_,_,_,_,_,_,_,_,_,_,_,_,_,rfl,λb6 CI=>(h1.new 88 z12 CI).st 0 rfl (by simp) λu2 h2=>ab.f rfl λb8 OE=>?_⟩;have e1:bU AE.ck AE.key (AE.key (t,AE.z)) (es.map nj)=(bU au aD t es).map nj:=By;rw[e1]at h2;have h3:=h2.new 51 [.list 1 .nil []] OE;refine⟨_,h3.rd 3 rfl (by simp),(AM.vO mm).call ⟨_,_,_,rfl,?_⟩⟩;have oK:((ms.map iZ).map λx=>[AM.cX x.1,AM.g_ x.2]).length=ms.length:=by simp
  refine bu.own (AM.gB mm (ms.map iZ) (by simp;omega)) (Ow.at 4 rfl h3)
   (λk u=>∃fl,Ow (Pt b8 51 [.list 1 fl ((eF e (ms.take k)).map gn)]::fB fl (eF e (ms.take k)).length 1::Pt b6 88 e.pv::AM.cq mm (ms.map iZ)::AE.cq me ((bU au aD t es).map nj)::Pt n 198 [pP me 0,pP mm 0]::(((ms.take k).map (pt t)++ms.drop k).map dv++L)) u)
   (λ_ _=>False) (λk=>eJ.ex λ_=>eJ.own _) (λ_ _ _ _ h=>h.elim) (λμ' h'=>⟨.nil,?_⟩) ?_ ?_ ?_
  ·have h4:Ow (Pt b8 51 [.list 1 .nil []]::Pt b6 88 e.pv::AM.cq mm (ms.map iZ)::AE.cq me ((bU au aD t es).map nj)::Pt n 198 [pP me 0,pP mm 0]::(ms.map dv++L)) μ':=by
    refine h'.swap.tail λ_ h=>?_;exact h.swap
   refine h4.tail λ_ h=>Ow.nil ?_ (.inl rfl);simpa using h
  ·rintro k hk u R ⟨fl,hO⟩ bX _;have cj:k<ms.length:=by simpa using hk
   have CC:ms[k]∈ms:=getElem_mem cj;have Xj:=hI.ul CC;have hht:=Bi (e:=e) cj;have bG:=rI e (ms.take k);rw[length_take]at bG;have ahu:=VH hI CC OD;rw[getElem_map,getElem_map];rw[zP cj]at hO;have gg:=Ow.pick (P:=[Pt b8 51 [.list 1 fl ((eF e (ms.take k)).map gn)],fB fl (eF e (ms.take k)).length 1,Pt b6 88 e.pv,AM.cq mm (ms.map iZ),AE.cq me ((bU au aD t es).map nj),Pt n 198 [pP me 0,pP mm 0]]) hO;have hs:dv (pt t ms[k])=AT.At ms[k].2.b (bU AT.ck AT.key (AT.key e) ms[k].2.l):=by
    have:AT.key e=t:=het;rw[this];rfl
   refine⟨_,_,_,_,_,_,_,_,_,_,_,_,_,rfl,_,_,_,_,_,_,_,_,_,_,_,_,hO.rd 2 rfl (by simp),AT.gK (l:=ms[k].2.l) gg Xj.1 (by omega) e λu3 h3=>⟨_,rfl,?_⟩⟩;rw[ahu];refine ab.mk (λhm=>⟨_,_,h3.rd 1 rfl (by simp),?_⟩) (λhm=>?_)
   ·have h4:=(Ow.at 2 rfl h3);refine Ow.app h4 (by simp) (by simp;omega) (by simp;omega) λf' u4 h5=>?_;refine h5.st 2 rfl (by simp) λu6 h6=>bX _ ⟨f',?_⟩;rw[zz cj,hs,hht,if_pos hm,map_append,length_append];refine Ow.qa (P:=[Pt b8 51 [.list 1 f' ((eF e (ms.take k)).map gn++[ms[k].1].map gn)],fB f' ((eF e (ms.take k)).length+[ms[k].1].length) 1,Pt b6 88 e.pv,AM.cq mm (ms.map iZ),AE.cq me ((bU au aD t es).map nj),Pt n 198 [pP me 0,pP mm 0]]) ?_;have h7:Ow (fB f' ((eF e (ms.take k)).length+1) 1::AT.At ms[k].2.b (bU AT.ck AT.key (AT.key e) ms[k].2.l)::Pt b8 51 [.list 1 f' ((eF e (ms.take k)).map gn++[[pI ms[k].1]])]::Pt b6 88 e.pv::AM.cq mm (ms.map iZ)::AE.cq me ((bU au aD t es).map nj)::Pt n 198 [pP me 0,pP mm 0]::((((ms.take k).map (pt t)).map dv++(ms.drop (k+1)).map dv)++L)) u6:=h6;exact h7.swap.tail λ_ h=>h.swap
   ·refine bX _ ⟨fl,?_⟩;rw[zz cj,hs,hht,if_neg (by simp[hm]),append_nil];exact Ow.qa (P:=[Pt b8 51 [.list 1 fl ((eF e (ms.take k)).map gn)],fB fl (eF e (ms.take k)).length 1,Pt b6 88 e.pv,AM.cq mm (ms.map iZ),AE.cq me ((bU au aD t es).map nj),Pt n 198 [pP me 0,pP mm 0]]) h3
  ·rintro u ⟨fl,hO⟩;rw[oK,take_length,drop_length,append_nil]at hO;refine⟨_,_,hO.rd 0 rfl (by simp),jY e he u fl ?_⟩;refine bA.shut (me:=me) (mm:=mm) ?_;rw[QO];have h4:=Ow.at 2 rfl hO.drop.drop.drop;exact h4.tail λ_ h=>h.swap
  ·intro _ _ h;exact h.elim
 ·rw[OI]at hy;refine⟨_,_,_,_,_,_,_,_,_,_,_,_,_,rfl,λb6 CI=>(h1.new 88 z12 CI).st 0 rfl (by simp) λu2 h2=>ab.t rfl (HY (map_none hy) u2 (bA.shut (Ow.swap h2.drop)))⟩
@[reducible] def inF(n:Nat)(k:Int):PV:=.fn (.func 226) [] [.bk [pP n 0] 0,.bk [pI k] 0]
theorem cIn(n:Nat)(k:Int):Pure prog 178 [pP n 0,pI k] (inF n k):=av.of (B_.c rfl)
def Vt(k:Int)(ms:dj):List aj:=((aL au bO k ms).map λx=>x.2.l).getD []
theorem acg(n:Nat)(k:Int){es:List aj}{ms:dj}(hI:dx es ms):gQ prog (inF n k) ((Vt k ms).map λe=>[.agg e.pv]) (bA n es ms) (bA n es ms):=by
 refine gQ.mk λfy ya yb I S C μ hy hO h0 cO=>?_;show aa _ _ [.fn fy ya yb,.bk [pP n 0] 0,.bk [pI k] 0] _ _;obtain⟨me,mm,h⟩:=bA.open_ hO;have hlm:=hI.lm;refine yg.c λb3 DU=>?_;have O1:=h.new 150 [.fn fy ya yb] DU;refine⟨λs u=>∃b4,s.1=some ⟨b4,0,none⟩/\((∃x,aL au bO k ms=some x/\s.2=true/\Ow (Pt b4 196 (cc x.2.c++[pI x.2.aM,pP x.2.b 0])::AM.cq mm (ms.map iZ)::Pt b3 150 [.fn fy ya yb]::Pt n 198 [pP me 0,pP mm 0]::AE.cq me (es.map nj)::(ms.map dv++[C])) u)\/(aL au bO k ms=none/\s.2=false/\Ow (AM.cq mm (ms.map iZ)::Pt b3 150 [.fn fy ya yb]::Pt n 198 [pP me 0,pP mm 0]::AE.cq me (es.map nj)::(ms.map dv++[C])) u)),⟨_,rfl,_,O1.rd 1 rfl (by simp),_,rfl,?_,λb4 GC=>?_⟩,?_⟩
 ·refine AM.iB (Ow.at 3 rfl O1) hI.um (by simp;omega) k (λy μ' hy h'=>?_) (λμ' hy h'=>?_)
  ·rw[getM]at hy;obtain⟨x,hx,rfl⟩:=map_eq_some_iff.1 hy;exact⟨_,_,_,_,_,_,_,_,_,_,_,_,_,rfl,λb4 GC=>(h'.new 196 _ GC).st 0 rfl (by simp) λu2 h2=>⟨b4,rfl,.inl ⟨x,hx,rfl,h2⟩⟩⟩
  ·rw[getM]at hy;exact⟨_,_,_,_,_,_,_,_,_,_,_,_,_,rfl,λb4 GC=>(h'.new 196 _ GC).st 0 rfl (by simp) λu2 h2=>⟨b4,rfl,.inr ⟨map_none hy,rfl,h2.drop⟩⟩⟩
 ·have O2:=O1.new 196 [pI 0,pB false,pS ⟨#[]⟩,.list 6 .nil [],.list 6 .nil [],pB false,.list 7 .nil [],pI 0,.raw (.pointer none)] GC;refine AM.iB (Ow.at 4 rfl O2) hI.um (by simp;omega) k (λy μ' hy h'=>?_) (λμ' hy h'=>?_)
  ·rw[getM]at hy;obtain⟨x,hx,rfl⟩:=map_eq_some_iff.1 hy;exact⟨_,_,_,_,_,_,_,_,_,_,_,_,_,rfl,h'.st 1 rfl (by simp) λu2 h2=>⟨b4,rfl,.inl ⟨x,hx,rfl,Ow.swap h2⟩⟩⟩
  ·rw[getM]at hy;exact⟨_,_,_,_,_,_,_,_,_,_,_,_,_,rfl,h'.st 1 rfl (by simp) λu2 h2=>⟨b4,rfl,.inr ⟨map_none hy,rfl,(Ow.swap h2).drop⟩⟩⟩
 ·rintro⟨_,q⟩ u ⟨b4,rfl,⟨x,hx,rfl,hO⟩|⟨hx,rfl,hO⟩⟩
  ·obtain⟨CC,hxk⟩:=(a_ ar hI.ni).1 hx;have Xj:=hI.ul CC;have fT:Vt k ms=x.2.l:=by unfold Vt;rw[hx];rfl
   rw[fT]at cO |-;refine ab.f rfl ⟨_,hO.rd 0 rfl (by simp),(AT.pN x.2.b).call ⟨_,_,_,rfl,?_⟩⟩;obtain⟨A,B,eAB,_,_⟩:=hI.ni.at_ ar CC
   have e2:ms.map dv=A.map dv++dv x::B.map dv:=by conv=>lhs;rw[eAB]
                                                  simp
   have uD:=hO.drop;rw[e2]at uD;have gg:=Ow.pick (P:=[AM.cq mm (ms.map iZ),Pt b3 150 [.fn fy ya yb],Pt n 198 [pP me 0,pP mm 0],AE.cq me (es.map nj)]) uD;refine bu.own (AT.d_ x.2.b x.2.l (by omega)) gg (λi=>Ow [Pt b3 150 [.fn fy ya yb],I i]) (λcd u=>cd=.ret/\Ow [S] u) (λi=>eJ.own _) (λcd=>eJ.and (eJ.own _)) (λμ' h'=>?_) ?_ ?_ ?_
   ·have h3:=Ow.qa (P:=[AM.cq mm (ms.map iZ),Pt b3 150 [.fn fy ya yb],Pt n 198 [pP me 0,pP mm 0],AE.cq me (es.map nj)]) h';have h4:Ow (Pt b3 150 [.fn fy ya yb]::(AM.cq mm (ms.map iZ)::Pt n 198 [pP me 0,pP mm 0]::AE.cq me (es.map nj)::(ms.map dv++[C]))) μ':=by
     rw[e2];exact Ow.swap h3
    exact h4.tail λν hν=>h0 ν (tv hν)
   ·rintro i hi u1 R hO bX jW;have xt:i<x.2.l.length:=by simpa using hi
    have fK:=cO i (by simpa using xt);rw[getElem_map]at fK |-;refine⟨_,_,_,_,_,_,_,_,_,_,_,_,rfl,_,_,_,hO.rd 0 rfl (by simp),Ow.yQ hO.swap (λν hν=>fK ν hν) λv μ' Sp=>?_⟩;rcases Sp.s_ with⟨rfl,h⟩|⟨rfl,h⟩
    ·exact⟨true,rfl,ab.f rfl (bX _ h.swap)⟩
    ·exact⟨false,rfl,ab.t rfl (jW _ _ ⟨rfl,h.swap.drop⟩)⟩
   ·intro u1 hO;rw[length_map]at hO;exact .inl (by rw[length_map];exact hO.drop)
   ·rintro cd u1 ⟨rfl,h⟩;exact .inr h
  ·have fT:Vt k ms=[]:=by unfold Vt;rw[hx];rfl
   rw[fT];refine ab.t rfl (.inl (h0 u (tv (Ow.swap hO).drop)))
end Go.Proofs.YthaeiehophlooaaGreat
