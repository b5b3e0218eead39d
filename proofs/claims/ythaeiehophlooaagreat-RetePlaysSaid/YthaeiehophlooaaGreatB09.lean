import Derived.Test.YthaeiehophlooaaGreatB08
open Go.IntKind (wrap)
open Int (toNat toNat_natCast)
open List (Pairwise.nil append_nil drop_length drop_zero getElem?_eq_getElem getElem_map getElem_mem length_append length_filter_le length_map length_take map_append map_map mem_filter mem_map take_add_one take_length)
open Nat (le_trans succ_mul zero_add)
open Option (isNone map_eq_some_iff toList_some)
set_option linter.all false
namespace Go.aP
open Go.RowKit
structure SD where
 P:Program
 TS:TypeId
 TE:TypeId
 W:Nat
 B:Nat
 fc:FuncId
 X:(List PV->Prop)->Prop
 E:List PV->PV
 Z:List PV
section
variable (D:SD) (a0:Option Addr) (u0:Mem) (K:Kq) (c:List PV) (e:PV)
def OR(s:Int×Int):Int:=wrap .i64 (s.1+(wrap .i64 (Int.tdiv (wrap .i64 (s.2-s.1)) (2))))
def SD.find:Prop:=
 nP a0 λb o=>
 ∃f l,ay u0 b o 1=some [.list D.W f l]/\
 ak (α:=Int×Int) (λnext s u=>
  ab (decide ((s.1:Int)<s.2))
  (((2):Int)≠0/\
   nP a0 λPR OK=>
   ∃f l,ay u PR OK 1=some [.list D.W f l]/\
   (0:Int)<=OR s/\∃(r:List PV),l[toNat (OR s)]?=some r/\
   D.X λy=>az r 0 D.W=some y/\
   (∀v,pv D.P (method (D.P.types.size+Made.depth) D.TE v "Compare")=some (D.fc,v))/\
   aa D.P D.fc [D.E (y.map cb),e] u λv rH=>
   ∃x,v=(pI x)/\
   ab ((x:Int) == (0))
   (K (.aB [pI (OR s),pB true]) rH)
   (ab (decide ((x:Int)<(0)))
    (next ((wrap .i64 (OR s+(1))),s.2) rH)
    (next (s.1,OR s) rH)))
  (K (.aB [pI s.1,pB false]) u))
 ((0),(l.length:Int)) u0
def SD.place(ff:FuncId):Prop:=
 ab (isNone a0)
 (K (.aB [pI (0),pB false]) u0)
 (aa D.P ff [pA a0,e] u0 λv u=>
  ∃p q,v=(.aB [pI p,pB q])/\K (.aB [pI p,pB q]) u)
def SD.get(ff:FuncId):Prop:=
 ab (isNone a0)
 (K (.aB [D.E D.Z,pB false]) u0)
 (aa D.P ff [pA a0,e] u0 λv u=>
  ∃p q,v=(.aB [pI p,pB q])/\
  ab (!q)
  (K (.aB [D.E D.Z,pB false]) u)
  (nP a0 λb o=>
   ∃f l,ay u b o 1=some [.list D.W f l]/\
   (0:Int)<=p/\∃(r:List PV),l[toNat p]?=some r/\
   D.X λy=>az r 0 D.W=some y/\
   K (.aB [D.E y,pB true]) u))
def SD.Pp(ff:FuncId):Prop:=
 ab (isNone a0)
 (K (.aB [D.E D.Z,pB false]) u0)
 (aa D.P ff [pA a0,e] u0 λv u=>
  ∃p q,v=(.aB [pI p,pB q])/\
  ab (!q)
  (K (.aB [D.E D.Z,pB false]) u)
  (nP a0 λb o=>
   ∃s n m,ay u b o 1=some [pV s n m]/\
   bh s λg h=>
   (0:Int)<=p/\p<((n:Nat):Int)/\
   D.X λy=>ay u g (h+toNat p*D.W) D.W=some y/\
   K (.aB [D.E y,pB true]) u))
def SD.len:Prop:=
 ab (isNone a0)
 (K (pI (0)) u0)
 (nP a0 λb o=>
  ∃f l,ay u0 b o 1=some [.list D.W f l]/\
  K (pI (l.length:Int)) u0)
def SD.own:Prop:=
 nP a0 λb o=>
 ∃s,ay u0 b (o+1) 1=some [pB s]/\
 ab s
 (nP a0 λQ U=>
  ∃A g,ay u0 Q U 1=some [.list D.W A g]/\
  nP a0 λH J=>
  ∃f l,ay u0 H J 1=some [.list D.W f l]/\
  (0:Int)<=(0)/\(0)<=(wrap .i64 ((g.length:Int)+(1)))/\(wrap .i64 ((g.length:Int)+(1)))<(4611686018427387904:Int)/\toNat (wrap .i64 ((g.length:Int)+(1)))*D.B<=140737488355328/\
  ∀(i:Nat),u0 i=none->
  eB D.W D.B D.TE (some ⟨i,0,none⟩) (toNat (0)) (toNat (wrap .i64 ((g.length:Int)+(1)))) (.list D.W f l) (Mem.set u0 i (some (.cells D.TE (List.flatten (List.replicate (toNat (wrap .i64 ((g.length:Int)+(1)))) D.Z))))) λh r j u=>
  nP a0 λI L=>
  stM I L [pV h r j] u λy=>
  nP a0 λC G=>
  stM C (G+1) [pB false] y λw=>
  K (.aB []) w)
 (K (.aB []) u0)
def SD.put(ff fo:FuncId):Prop:=
 ab (isNone a0)
 (K (pB false) u0)
 (aa D.P ff [pA a0,e] u0 λv u=>
  ∃p q,v=(.aB [pI p,pB q])/\
  ab q
  (K (pB false) u)
  (aa D.P fo [pA a0] u λQB rH=>
   QB=(.aB [])/\
   nP a0 λb o=>
   ∃j C A,ay rH b o 1=some [pV j C A]/\
   eB D.W D.B D.TE j C A (.list D.W .nr [c]) rH λH aho ahp xq=>
   nP a0 λPR OK=>
   stM PR OK [pV H aho ahp] xq λMz=>
   nP a0 λUm RJ=>
   ∃G Qy YV,ay Mz Um RJ 1=some [pV G Qy YV]/\
   ak (α:=Int) (λnext s g=>
    ab (decide ((s:Int)>p))
    (nP a0 λUl RH=>
     ∃XG Qx YU,ay g Ul RH 1=some [pV XG Qx YU]/\
     nP a0 λXr VQ=>
     ∃i r agV,ay g Xr VQ 1=some [pV i r agV]/\
     bh i λb_5 ZH=>
     (0:Int)<=(wrap .i64 (s-(1)))/\(wrap .i64 (s-(1)))<((r:Nat):Int)/\
     D.X λy=>ay g b_5 (ZH+toNat (wrap .i64 (s-(1)))*D.W) D.W=some y/\
     bh XG λY L=>
     (0:Int)<=s/\s<((Qx:Nat):Int)/\
     stM Y (L+toNat s*D.W) y g λMy=>
     next (wrap .i64 (s-(1))) My)
    (nP a0 λU J=>
     ∃h w agS,ay g U J 1=some [pV h w agS]/\
     bh h λQ I=>
     (0:Int)<=p/\p<((w:Nat):Int)/\
     stM Q (I+toNat p*D.W) c g λXJ=>
     K (pB true) XJ))
   (wrap .i64 (((Qy:Nat):Int)-(1))) Mz))
def SD.drop(ff fo:FuncId):Prop:=
 ab (isNone a0)
 (K (pB false) u0)
 (aa D.P ff [pA a0,e] u0 λv u=>
  ∃p q,v=(.aB [pI p,pB q])/\
  ab (!q)
  (K (pB false) u)
  (aa D.P fo [pA a0] u λQB rH=>
   QB=(.aB [])/\
   ak (α:=Int) (λnext s g=>
    nP a0 λb o=>
    ∃I w ag0,ay g b o 1=some [pV I w ag0]/\
    ab (decide (((wrap .i64 (s+(1))):Int)<((w:Nat):Int)))
    (nP a0 λPR OK=>
     ∃r A agZ,ay g PR OK 1=some [pV r A agZ]/\
     nP a0 λUm RJ=>
     ∃j C agX,ay g Um RJ 1=some [pV j C agX]/\
     bh j λUl RH=>
     (0:Int)<=(wrap .i64 (s+(1)))/\(wrap .i64 (s+(1)))<((C:Nat):Int)/\
     D.X λy=>ay g Ul (RH+toNat (wrap .i64 (s+(1)))*D.W) D.W=some y/\
     bh r λXr VQ=>
     (0:Int)<=s/\s<((A:Nat):Int)/\
     stM Xr (VQ+toNat s*D.W) y g λMz=>
     next (wrap .i64 (s+(1))) Mz)
    (nP a0 λY ZH=>
     ∃h agU i,ay g Y ZH 1=some [pV h agU i]/\
     nP a0 λU L=>
     ∃H G agT,ay g U L 1=some [pV H G agT]/\
     gq h/\(0:Int)<=(0:Int)/\(0:Int)<=(wrap .i64 (((G:Nat):Int)-(1)))/\(wrap .i64 (((G:Nat):Int)-(1)))<=((i:Nat):Int)/\((i:Nat):Int)<=((i:Nat):Int)/\
     nP a0 λQ J=>
     stM Q J [pV (zI h (toNat (0:Int)) (toNat ((i:Nat):Int)) D.W) (toNat (wrap .i64 (((G:Nat):Int)-(1)))-toNat (0:Int)) (toNat ((i:Nat):Int)-toNat (0:Int))] g λHo=>
     K (pB true) Ho))
   p rH))
def SD.new(fp:FuncId)(l:Lq):Prop:=
 cl u0 D.TS [.list D.W .nil [],pB false] λj u=>
 ak (α:=Int) (λnext s i=>
  ab (decide ((s:Int)<(l.length:Int)))
  ((0:Int)<=s/\∃(g:List PV),l[toNat s]?=some g/\
   D.X λy=>az g 0 D.W=some y/\
   aa D.P fp [pP j 0,D.E (y.map cb)] i λv r=>
   ∃h,v=(pB h)/\
   next (wrap .i64 (s+(1))) r)
  (K (pP j 0) i))
 (0) u
def SD.from_(w:Int)(r:Fn)(G H:List PV):Prop:=
 nP a0 λb o=>
 stM b (o+1) [pB true] u0 λu=>
 nP a0 λA C=>
 ∃f l,ay u A C 1=some [.list D.W f l]/\
 ak (α:=Int) (λnext s j=>
  ab (decide ((s:Int)<(l.length:Int)))
  ((0:Int)<=s/\∃(h:List PV),l[toNat s]?=some h/\
   D.X λy=>az h 0 D.W=some y/\
   bP D.P (.fn r G H) [D.E (y.map cb)] j λv i=>
   ∃g,v=(pB g)/\
   ab (!g)
   (K (.aB []) i)
   (next (wrap .i64 (s+(1))) i))
  (K (.aB []) j))
 w u
def SD.zO(ff:FuncId)(a0:Fn)(j r i:List PV):Prop:=
 ∃h,az i 0 1=some [pA h]/\
 ab (!(isNone h))
 (∃g,az i 0 1=some [pA g]/\
  aa D.P ff [pA g,pI (0),.fn a0 j r] u0 λv u=>
  v=(.aB [])/\
  K (.aB []) u)
 (K (.aB []) u0)
end
structure NW(D:SD){El κ:Type}(pr:El->List PV)(arg:El->PV)(key:El->κ)(ck:κ->κ->Int):Prop where
 hX:∀(x:El) (Q:List PV->Prop),Q (pr x)->D.X Q
 len:∀x,(pr x).length=D.W
 YJ:∀x,aV (pr x)=true
 wk:∀x,(pr x).map cb=pr x
 E:∀x,D.E (pr x)=arg x
 hc:nI ck
 cmp:∀a b,Pure D.P D.fc [arg a,arg b] (pI (ck (key a) (key b)))
 ahD:∀v,pv D.P (method (D.P.types.size+Made.depth) D.TE v "Compare")=some (D.fc,v)
 zl:D.Z.length=D.W
 W0:0<D.W
 B0:D.B<=1000
namespace NW
variable {D:SD} {El κ:Type} {pr:El->List PV} {arg:El->PV} {key:El->κ} {ck:κ->κ->Int} (S:NW D pr arg key ck)
include S
def each(l:List El):∀r∈l.map pr,r.length=D.W:=Bg S.len l
def cell(l:List El):aV (l.map pr).flatten=true:=nR S.YJ l
def row(x:El):az (pr x) 0 D.W=some (pr x):=by
 have:=S.W0;unfold az;rw[if_pos ⟨by rw[S.len];omega,S.W0⟩,drop_zero,<- S.len x,take_length]
def E'(x:El):D.E ((pr x).map cb)=arg x:=by rw[S.wk,S.E]
variable {nf:FuncId} (hf:∀{x:El} {a0:Option Addr} {u0:Mem} {K:Kq},D.find a0 u0 K (arg x)->aa D.P nf [pA a0,arg x] u0 K)
section
include hf
def LP(b:Nat)(s:Bool)(l:List El)(hu:ch ck key l)(hl:l.length<=4000000000000000000)(x:El):aa D.P nf [pP b 0,arg x] (M0.set b (some (.ro D.TS [.list D.W .sh (l.map pr),pB s]))) λp _=>∃(k:Nat) (t:Bool),p=.aB [pI k,pB t]/\bV ck (l.map key) (key x) k t:=by
 have hc:=S.hc;refine hf ?_;refine⟨_,_,xO (Mem.ao _ _ _) (by simp),?_⟩;have dF:∀u,u=M0.set b (some (.ro D.TS [.list D.W .sh (l.map pr),pB s]))->ay u b 0 1=some [.list D.W .sh (l.map pr)]:=λu h=>by rw[h];exact xO (Mem.ao _ _ _) (by simp)
 rw[length_map];have C:=hu.up;have w:(l.map key).length=l.length:=by simp
 refine ak.bin (n:=l.length) (by omega) (λi=>if h:i<l.length then ck (key l[i]) (key x)else 1) (λu=>u=M0.set b (some (.ro D.TS [.list D.W .sh (l.map pr),pB s]))) rfl ?_ ?_ ?_ ?_
 .intro i j G r h;rw[dif_pos r]at h;rw[dif_pos (Nat.lt_trans G r)];have:=C.XU hc (x:=key x) G (by simpa using r) (by simpa using h);simpa using this
 .intro i j G r h;rw[dif_pos (Nat.lt_trans G r)]at h;rw[dif_pos r];have:=C.XT hc (x:=key x) G (by simpa using r) (by simpa using h);simpa using this
 .intro lo g xu u next bK hhi L Q U I H Y
  subst U;rw[dif_pos Q]at I H Y;refine ab.t (by simpa using bK) ⟨by decide,?_⟩;refine⟨_,_,dF _ rfl,?_⟩;dsimp only[OR];rw[adv bK (by omega),<- L];refine⟨by omega,_,aA Q,S.hX _ _ ⟨S.row _,S.ahD,?_⟩⟩;rw[S.E'];refine(S.cmp l[xu] x).call ⟨_,rfl,ab.mk (λh=>?_) (λh=>ab.mk (λJ=>?_) (λJ=>?_))⟩
  .have y:ck (key l[xu]) (key x)=0:=by simpa using h
   refine⟨xu,true,rfl,by rw[w];omega,λi g A=>?_,λ_=>⟨by rw[w];exact Q,by rw[getElem_map];exact(hc.zero _ _).1 y⟩,λh=>by cases h⟩;have:=Y y i A;rw[dif_pos (by rw[w]at g;exact g)]at this;rw[getElem_map];exact this
  .have y:ck (key l[xu]) (key x)<0:=by simpa using J
   have:=I y _ rfl;rw[aD (by omega) (by omega)];exact this
  .have y:0<ck (key l[xu]) (key x):=by
    have a1:ck (key l[xu]) (key x)≠0:=by simpa using h
    have a2:¬ck (key l[xu]) (key x)<0:=by simpa using J
    omega
   exact H y _ rfl
 .intro k u next U hk I H
  refine ab.f (by simp) ?_;refine⟨k,false,rfl,by rw[w];exact hk,λi g A=>?_,λh=>(by cases h),λ_ i g A=>?_⟩
  .have:=I i A;rw[w]at g;rw[dif_pos g]at this;rw[getElem_map];exact this
  .rw[w]at g;have:=H i A g;rw[dif_pos g]at this;rw[getElem_map];exact this
def rV{g:Mem}{b:Nat}{l:List El}{F:List Nat}(h:iB D.TS D.TE D.W g b (l.map pr) F)(i:ch ck key l)(j:l.length<=4000000000000000000)(x:El){K:Kq}(r:∀(k:Nat) (t:Bool),bV ck (l.map key) (key x) k t->K (.aB [pI k,pB t]) g):aa D.P nf [pP b 0,arg x] g K:=
 iB.query h (λs=>LP S hf b s l i j x) (λp ⟨k,t,e,_⟩=>by rw[e];rfl) λp ⟨k,t,e,hf⟩=>by rw[e];exact r k t hf
def rl{n:FuncId}(j:∀{x:El} {a0:Option Addr} {u0:Mem} {K:Kq},D.place a0 u0 K (arg x) nf->aa D.P n [pA a0,arg x] u0 K) ⦃L:List aO⦄ ⦃g:Mem⦄ ⦃b:Nat⦄ ⦃l:List El⦄ (y:Ow (cq D.TS D.TE D.W b (l.map pr)::L) g) (i:ch ck key l) (r:l.length<=4000000000000000000) (x:El) ⦃K:Kq⦄ (w:K (.aB [pI (VH ck key (key x) l:Nat),pB (aL ck key (key x) l).isSome]) g):aa D.P n [pP b 0,arg x] g K:=by
 obtain⟨F,h,_⟩:=cq.split y;refine j (ab.f rfl (S.rV hf h i r x λk t hf=>⟨_,_,rfl,?_⟩));rw[hf.pos S.hc i,hf.isSome S.hc i];exact w
theorem ko{n:FuncId}(hn:∀{x:El} {a0:Option Addr} {u0:Mem} {K:Kq},D.get a0 u0 K (arg x) nf->aa D.P n [pA a0,arg x] u0 K)(hr:∀{x:El} {a0:Option Addr} {u0:Mem} {K:Kq},D.Pp a0 u0 K (arg x) nf->aa D.P n [pA a0,arg x] u0 K) ⦃L:List aO⦄ ⦃μ:Mem⦄ ⦃b:Nat⦄ ⦃l:List El⦄ (hO:Ow (cq D.TS D.TE D.W b (l.map pr)::L) μ) (hu:ch ck key l) (hl:l.length<=4000000000000000000) (x:El) ⦃K:Kq⦄ (h1:∀y,aL ck key (key x) l=some y->K (.aB [arg y,pB true]) μ) (h0:aL ck key (key x) l=none->K (.aB [D.E D.Z,pB false]) μ):aa D.P n [pP b 0,arg x] μ K:=by
 have hc:=S.hc;obtain⟨F,h,_⟩:=cq.split hO;have ZW:∀k,bV ck (l.map key) (key x) k true->∃hk:k<l.length,K (.aB [arg l[k],pB true]) μ:=λk hf=>by
  obtain⟨hk,e⟩:=hf.some hc hu;exact⟨hk,h1 _ e⟩
 have none_:∀{k},l.map pr=[]->bV ck (l.map key) (key x) k true->False:=λhn hf=>by
  obtain⟨hk,_⟩:=ZW _ hf;have:=congrArg List.length hn;simp at this;subst this;simp at hk
 rcases h.OX with⟨_,hm⟩|⟨_,UK,hm⟩|Kg
 .refine hn (ab.f rfl (S.rV hf h hu hl x λk t hf=>⟨_,_,rfl,ab.mk (λht=>?_) (λht=>?_)⟩))
  .have ht:t=false:=by simpa using ht
   subst ht;exact h0 (hf.none hc)
  .have ht:t=true:=by simpa using ht
   subst ht;obtain⟨hk,hK⟩:=ZW k hf;refine⟨_,_,aH hm (by simp),by omega,_,aA hk,S.hX _ _ ⟨S.row _,?_⟩⟩;rw[S.E];exact hK
 .refine hn (ab.f rfl (S.rV hf h hu hl x λk t hf=>⟨_,_,rfl,ab.mk (λht=>?_) (λht=>?_)⟩))
  .have ht:t=false:=by simpa using ht
   subst ht;exact h0 (hf.none hc)
  .have ht:t=true:=by simpa using ht
   subst ht;exact(none_ UK hf).elim
 .refine hr (ab.f rfl (S.rV hf h hu hl x λk t hf=>⟨_,_,rfl,ab.mk (λht=>?_) (λht=>?_)⟩))
  .have ht:t=false:=by simpa using ht
   subst ht;exact h0 (hf.none hc)
  .have ht:t=true:=by simpa using ht
   subst ht;obtain⟨hk,hK⟩:=ZW k hf;rcases Kg with⟨_,UK,_⟩|⟨b',c,rest,_,_,hm,sU,_⟩
   .exact(none_ UK hf).elim
   .refine⟨_,_,_,aH hm (by simp),by omega,by simpa using hk,S.hX l[k] _ ⟨?_,?_⟩⟩
    .rw[toNat_natCast,zero_add];exact Ig (S.each l) sU (by rw[List.getElem?_map,getElem?_eq_getElem hk];rfl)
    .rw[S.E];exact hK
end
omit S in
def Ju{n:FuncId}(i:∀{a0:Option Addr} {u0:Mem} {K:Kq},D.len a0 u0 K->aa D.P n [pA a0] u0 K) ⦃L:List aO⦄ ⦃g:Mem⦄ ⦃b:Nat⦄ ⦃l:List El⦄ (r:Ow (cq D.TS D.TE D.W b (l.map pr)::L) g) ⦃K:Kq⦄ (j:K (pI (l.length:Nat)) g):aa D.P n [pP b 0] g K:=by
 obtain⟨F,h,_⟩:=cq.split r;refine iB.query h (Kq:=λp=>p=pI (l.length:Nat)) (λs=>i (ab.f rfl ⟨_,_,xO (Mem.ao _ _ _) (by simp),by simp⟩)) (λp e=>by rw[e];rfl) λp e=>by rw[e];exact j
section
variable {no:FuncId} (ho:∀{a0:Option Addr} {u0:Mem} {K:Kq},D.own a0 u0 K->aa D.P no [pA a0] u0 K)
include ho
theorem LN{μ:Mem}{b:Nat}{l:List El}{F:List Nat}(h:iB D.TS D.TE D.W μ b (l.map pr) F)(hl:l.length<=1000000000){K:Kq}(hk:∀μ' F',s_ D.TS D.TE D.W μ' b (l.map pr) F'->Mv μ μ' F F'->K (.aB []) μ'):aa D.P no [pP b 0] μ K:=by
 obtain⟨μ0,hG,Qq,SG⟩:=h.raw;refine aa.pre hG (ho ?_);have hB:=S.B0;have hmul:∀m,m<=1000000001->m*D.B<=140737488355328:=λm hm=>le_trans (Nat.mul_le_mul hm hB) (by decide);rcases SG with⟨rfl,hm⟩|hr
 .refine⟨true,aH hm (by simp),ab.t rfl ?_⟩;refine⟨_,_,aH hm (by simp),?_⟩;refine⟨_,_,aH hm (by simp),?_⟩;rw[length_map,aD (by omega) (by omega)];have hn:toNat ((l.length:Int)+1)=l.length+1:=by omega
  rw[hn];refine⟨by omega,by omega,by omega,hmul _ (by omega),λnv yj=>?_⟩;have aW:nv≠b:=by rintro rfl;rw[hm]at yj;cases yj
  have Ev:=S.zl;refine JD (Mem.ao _ _ _) (by simp[Ev]) (by simp) (S.each l) (S.cell l) (by rw[length_map];exact hmul _ (by omega)) (by simp;omega) ?_;rw[Mem.set_set];refine⟨_,_,by rw[Mem.ax _ _ (Ne.symm aW)];exact hm,by simp,?_⟩;refine⟨_,_,Mem.ao _ _ _,by simp[du],?_⟩;rw[Mem.set_set];refine hk _ [b,nv] (.inr ⟨nv,l.length+1,_,rfl,aW,by first|(rw[Mem.ao];rfl)|rw[Mem.ao],by rw[Mem.ax _ _ aW,Mem.ao],?_,by simp⟩) (Qq.trans ?_)
  .simp only[List.length_drop,List.length_flatten,List.map_replicate,List.sum_replicate_nat,Ev,length_map];have:l.length*D.W<=(l.length+1)*D.W:=Nat.mul_le_mul_right _ (by omega);omega
  .exact((Mv.set (F:=[b]) (.inr yj)).trans (Mv.set (.inl (by simp)))).sub (by simp)
 .obtain⟨a,c,hm,_⟩:=hr.app (S.each l);exact⟨false,aH hm (by simp),ab.f rfl (hk μ0 F hr Qq)⟩
include hf
def fX{n:FuncId}(hn:∀{x:El} {a0:Option Addr} {u0:Mem} {K:Kq},D.put a0 u0 K (pr x) (arg x) nf no->aa D.P n [pA a0,arg x] u0 K) ⦃L:List aO⦄ ⦃U:Mem⦄ ⦃b:Nat⦄ ⦃l:List El⦄ (hO:Ow (cq D.TS D.TE D.W b (l.map pr)::L) U) (hu:ch ck key l) (hl:l.length<=999999999) (x:El) ⦃K:Kq⦄ (hk:∀H,Ow (cq D.TS D.TE D.W b ((dB ck key x l).map pr)::L) H->K (pB (aL ck key (key x) l).isNone) H):aa D.P n [pP b 0,arg x] U K:=by
 have hc:=S.hc;have hB:=S.B0;have each:=S.each;obtain⟨F,h,zk⟩:=cq.split hO;refine hn ?_;refine ab.f rfl (S.rV hf h hu (by omega) x λk t hf=>⟨_,_,rfl,ab.mk (λht=>?_) (λht=>?_)⟩)
 .subst ht;obtain⟨_,e⟩:=hf.some hc hu;have:=hk U (by rw[dB,e];exact hO);rw[e]at this;exact this
 .subst ht;have en:=hf.none hc;have e1:dB ck key x l=l.take k++x::l.drop k:=by rw[dB,en,hf.ins hc];rfl
  rw[e1,en]at hk;refine S.LN ho h (by omega) λμ1 F1 hr zi=>⟨rfl,?_⟩;obtain⟨a,c,hb,kE⟩:=hr.app (each l);refine⟨_,_,_,aH hb (by simp),?_⟩;simp only[length_map]at kE;rw[length_map];refine kE (pr x) _ _ (S.len x) (S.YJ x) (le_trans (Nat.mul_le_mul (show l.length+1<=1000000000 by omega) hB) (by decide)) (by omega) λA c' g Q J e2 jh ju sV sT=>?_;refine⟨_,_,e2.trans hb,by simp,?_⟩;refine⟨_,_,_,aH (Mem.ao _ _ _) (by simp[du]),?_⟩;have hn1:wrap .i64 (((l.length+1:Nat):Int)-1)=(l.length:Int):=by rw[aD (by omega) (by omega)];omega
  rw[hn1];have C:=hf.leK;have w:∀(j:Nat) (y:El) (i:Nat) (r:List PV),i<=l.length->r.length=D.W->0+i*D.W+r.length<=(((l.take j++y::l.drop j).map pr).flatten++g).length:=λj y i r hi sS=>by
   have lj:=eo (each (l.take j++y::l.drop j));rw[length_map,jR]at lj;rw[length_append,lj,sS,zero_add,<- succ_mul];exact le_trans (Nat.mul_le_mul_right _ (by omega)) (Nat.le_add_right _ _)
  refine ak.down C (by omega) (λj u=>∃y,u b=some (.cells D.TS [.raw (.slice (some ⟨A,0,none⟩) (l.length+1) c'),pB false])/\u A=some (.cells D.TE (((l.take j++y::l.drop j).map pr).flatten++g))/\Mv Q u [b,A] [b,A]) ⟨x,?_,?_,?_⟩ ?_ ?_
  .rw[Mem.ao];rfl
  .rw[Mem.ax _ _ J,jh,take_length,drop_length];simp
  .exact(Mv.set (.inl (by simp))).sub (by simp)
  .rintro j u next hkj UN ⟨y,G,I,Y⟩ au
   refine ab.t (by simpa using hkj) ?_;refine⟨_,_,_,aH G (by simp),?_⟩;refine⟨_,_,_,aH G (by simp),?_⟩;have No:wrap .i64 ((j:Int)-1)=((j-1:Nat):Int):=by rw[aD (by omega) (by omega)];omega
   have dF:ay u A (0+toNat (wrap .i64 ((j:Int)-1))*D.W) D.W=some (pr (l[j-1]'(by omega))):=by
    rw[No,toNat_natCast,zero_add];exact Ig (each _) I (Sl l j y (by omega) UN)
   refine⟨by rw[No];omega,by rw[No];omega,S.hX _ _ ⟨dF,?_⟩⟩;refine⟨by omega,by omega,_,_,I,?_,au _ ⟨l[j-1]'(by omega),?_,?_,?_⟩⟩
   .rw[toNat_natCast];exact w j y j _ UN (S.len _)
   .rw[Mem.ax _ _ (Ne.symm J)];exact G
   .rw[Mem.ao,toNat_natCast,zero_add,DI (r:=pr (l[j-1]'(by omega))) (each _) (by rw[length_map,jR];omega) (S.len _),IC l j y (by omega) UN]
   .exact(Y.trans (Mv.set (.inl (by simp)))).sub (by simp)
  .rintro u next ⟨y,G,I,Y⟩
   refine ab.f (by simp) ?_;refine⟨_,_,_,aH G (by simp),?_⟩;refine⟨by omega,by omega,_,_,I,?_,?_⟩
   .rw[toNat_natCast];exact w k y k _ C (S.len _)
   .rw[toNat_natCast,zero_add,DI (r:=pr x) (each _) (by rw[length_map,jR];omega) (S.len _),Ng l k x y C];refine hk (u.set A (some (.cells D.TE (((l.take k++x::l.drop k).map pr).flatten++g)))) (zk (F':=[b,A]) (zi.trans (sT.trans ((Y.trans (Mv.set (.inl (by simp)))).sub (by simp)))) ⟨each _,S.cell _,.inr (.inr (.inr ⟨A,c',g,rfl,J,?_,Mem.ao _ _ _,?_,?_⟩))⟩)
    .rw[Mem.ax _ _ (Ne.symm J),G,length_map,jR]
    .rw[length_map,jR];exact ju
    .rw[length_map,jR];exact sV
def gC{n:FuncId}(hn:∀{x:El} {a0:Option Addr} {u0:Mem} {K:Kq},D.drop a0 u0 K (arg x) nf no->aa D.P n [pA a0,arg x] u0 K) ⦃L:List aO⦄ ⦃Y:Mem⦄ ⦃b:Nat⦄ ⦃l:List El⦄ (hO:Ow (cq D.TS D.TE D.W b (l.map pr)::L) Y) (hu:ch ck key l) (hl:l.length<=999999999) (x:El) ⦃K:Kq⦄ (Q:∀I,Ow (cq D.TS D.TE D.W b ((bu ck key (key x) l).map pr)::L) I->K (pB (aL ck key (key x) l).isSome) I):aa D.P n [pP b 0,arg x] Y K:=by
 have hc:=S.hc;have each:=S.each;have hW:=S.W0;obtain⟨F,h,zk⟩:=cq.split hO;refine hn ?_;refine ab.f rfl (S.rV hf h hu (by omega) x λk t hf=>⟨_,_,rfl,ab.mk (λA=>?_) (λA=>?_)⟩)
 .have A:t=false:=by simpa using A
  subst A;have en:=hf.none hc;have e1:bu ck key (key x) l=l:=by
   unfold bu;refine List.filter_eq_self.2 λy hy=>?_;have:=(bD hc).1 en y hy;simp only[Ck,Bool.not_eq_true',decide_eq_false_iff_not,hc.zero];exact this
  rw[e1,en]at Q;exact Q Y hO
 .have A:t=true:=by simpa using A
  subst A;obtain⟨Hu,es⟩:=hf.some hc hu;rw[<- hf.del hc hu,es]at Q;refine S.LN ho h (by omega) λU F1 hr zi=>⟨rfl,?_⟩;rcases hr with⟨_,hn,_⟩|⟨i,c,w,rfl,aW,hb,jh,ju,Nr⟩
  .have:(l.map pr).length=0:=by rw[hn];rfl
   simp at this;subst this;simp at Hu
  .rw[length_map]at hb ju Nr;refine ak.from (s:=k) (n:=l.length-1) (by omega) (by omega) (λj u=>u b=some (.cells D.TS [.raw (.slice (some ⟨i,0,none⟩) l.length c),pB false])/\u i=some (.cells D.TE (((vI l k j).map pr).flatten++w))/\Mv U u [b,i] [b,i]) ⟨hb,by rw[adu];exact jh,Mv.refl _ _⟩ ?_ ?_
   .rintro j u next C UN ⟨g,J,i3⟩ au
    have H:wrap .i64 ((j:Int)+1)=((j+1:Nat):Int):=by rw[aD (by omega) (by omega)];omega
    have n_:((vI l k j).map pr).length=l.length:=by rw[length_map,RQ C (by omega)]
    have dF:ay u i (0+toNat (wrap .i64 ((j:Int)+1))*D.W) D.W=some (pr (l[j+1]'(by omega))):=by
     rw[H,toNat_natCast,zero_add];exact Ig (each _) J (by rw[List.getElem?_map,VW C (by omega)];rfl)
    refine⟨_,_,_,aH g (by simp),ab.t (by rw[H];simp;omega) ?_⟩;refine⟨_,_,_,aH g (by simp),?_⟩;refine⟨_,_,_,aH g (by simp),?_⟩;refine⟨by rw[H];omega,by rw[H];omega,S.hX _ _ ⟨dF,?_⟩⟩;refine⟨by omega,by omega,_,_,J,?_,au _ ⟨?_,?_,?_⟩⟩
    .have lj:=eo (each (vI l k j));rw[n_]at lj;rw[length_append,lj,toNat_natCast,S.len,zero_add,<- succ_mul];exact le_trans (Nat.mul_le_mul_right _ (by omega)) (Nat.le_add_right _ _)
    .rw[Mem.ax _ _ (Ne.symm aW)];exact g
    .rw[Mem.ao,toNat_natCast,zero_add,DI (r:=pr (l[j+1]'(by omega))) (each _) (by rw[n_];omega) (S.len _),<- List.map_set,OQ C (by omega)]
    .exact(i3.trans (Mv.set (.inl (by simp)))).sub (by simp)
   .rintro u next ⟨g,J,i3⟩
    have H:wrap .i64 (((l.length-1:Nat):Int)+1)=((l.length:Nat):Int):=by rw[aD (by omega) (by omega)];omega
    have G:wrap .i64 (((l.length:Nat):Int)-1)=((l.length-1:Nat):Int):=by rw[aD (by omega) (by omega)];omega
    refine⟨_,_,_,aH g (by simp),ab.f (by rw[H];simp) ?_⟩;refine⟨_,_,_,aH g (by simp),?_⟩;refine⟨_,_,_,aH g (by simp),?_⟩;refine⟨λa ha=>by cases ha;rfl,by omega,by rw[G];omega,by rw[G];omega,by omega,_,_,g,by simp,?_⟩;rw[G];have Np:(l.eraseIdx k).length=l.length-1:=by rw[List.length_eraseIdx,if_pos Hu]
    refine Q _ (zk (F':=[b,i]) (zi.trans ((i3.trans (Mv.set (.inl (by simp)))).sub (by simp))) ⟨each _,S.cell _,.inr (.inr (.inr ⟨i,c,pr (l[l.length-1]'(by omega))++w,rfl,aW,?_,?_,?_,?_⟩))⟩)
    .rw[Mem.ao,length_map,Np];have e0:zI (some ⟨i,0,none⟩) (toNat 0) (toNat ((c:Nat):Int)) D.W=some ⟨i,0,none⟩:=by
      unfold zI;rw[if_neg (by simp;omega)];simp
     rw[e0];simp[du]
    .rw[Mem.ax _ _ aW,J,RS Hu,map_append,List.flatten_append];simp
    .rw[length_map,Np,length_append,S.len,<- Nat.add_assoc,<- succ_mul,show(l.length-1).succ=l.length by omega];exact ju
    .rw[length_map,Np];omega
end
def afH ⦃L:List aO⦄ ⦃g:Mem⦄ ⦃b:Nat⦄ (j:Ow L g) (i:g b=none):Ow (cq D.TS D.TE D.W b (([]:List El).map pr)::L) (g.set b (some (.cells D.TS [.list D.W .nil [],pB false]))):=
 (j.new D.TS [.list D.W .nil [],pB false] i).imp λr h=>⟨[b],S.each [],S.cell [],.inr (.inl ⟨rfl,rfl,h⟩)⟩
def gB{J n:FuncId}(hp:∀ ⦃L:List aO⦄ ⦃r:Mem⦄ ⦃b:Nat⦄ ⦃l:List El⦄,Ow (cq D.TS D.TE D.W b (l.map pr)::L) r->ch ck key l->l.length<=999999999->∀(x:El) ⦃K:Kq⦄,(∀j,Ow (cq D.TS D.TE D.W b ((dB ck key x l).map pr)::L) j->K (pB (aL ck key (key x) l).isNone) j)->aa D.P J [pP b 0,arg x] r K)
  (U:∀{fl:Fl} {l:Lq} {u0:Mem} {K:Kq},D.new u0 K J l->aa D.P n [.list D.W fl l] u0 K) ⦃L:List aO⦄ ⦃r:Mem⦄ (hO:Ow L r) (fl:Fl) (xs:List El) (hx:xs.length<=1000000) ⦃K:Kq⦄ (Y:∀j b,Ow (cq D.TS D.TE D.W b ((xs.foldl (λl x=>dB ck key x l) []).map pr)::L) j->K (pP b 0) j):aa D.P n [.list D.W fl (xs.map pr)] r K:=by
 have hc:=S.hc;refine U λb hb=>?_;have h0:=S.afH hO hb;have A:∀(g:List El),ch ck key (g.foldl (λl x=>dB ck key x l) [])/\(g.foldl (λl x=>dB ck key x l) []).length<=g.length:=λg=>by
  have G:∀(g acc:List El),ch ck key acc->ch ck key (g.foldl (λl x=>dB ck key x l) acc)/\(g.foldl (λl x=>dB ck key x l) acc).length<=acc.length+g.length:=by
   intro g;induction g with
   |nil=>intro acc h;exact⟨h,by simp⟩
   |cons y g Q=>
    intro acc h;obtain⟨I,H⟩:=Q (dB ck key y acc) (h.put hc y);refine⟨I,?_⟩;have:=Bl (ck:=ck) (key:=key) (x:=y) (L:=acc);simp only[List.foldl_cons,List.length_cons]at H |-;omega
  have:=G g [] Pairwise.nil;simpa using this
 refine ak.each (n:=xs.length) (by omega) (λi u=>Ow (cq D.TS D.TE D.W b (((xs.take i).foldl (λl x=>dB ck key x l) []).map pr)::L) u) h0 ?_ ?_
 .intro i u next C w au
  obtain⟨I,H⟩:=A (xs.take i);refine ab.t (by simpa using C) ⟨by omega,_,aA C,S.hX _ _ ⟨S.row _,?_⟩⟩;rw[S.E'];refine hp w I (by simp at H;omega) xs[i] λu' dP=>⟨_,rfl,au _ ?_⟩;rw[take_add_one,getElem?_eq_getElem C,List.foldl_append];exact dP
 .intro u next w
  refine ab.f (by simp) (Y _ b ?_);rw[take_length]at w;exact w
def eG{H g:FuncId}(G:∀{a0:Fn} {Y CZ L:List PV} {u0:Mem} {K:Kq},D.zO u0 K g a0 Y CZ L->aa D.P H [.fn a0 Y CZ,.bt L 0] u0 K)
  (h2:∀{a0:Option Addr} {U:Int} {Q:Fn} {CY CX:List PV} {u0:Mem} {K:Kq},D.from_ a0 u0 K U Q CY CX->aa D.P g [pA a0,pI U,.fn Q CY CX] u0 K)
  (b:Nat) (l:List El) (hl:l.length<=4000000000000000000):iI D.P (.fn (.func H) [] [.bt [pP b 0] 0]) (l.map λx=>[arg x]) (cq D.TS D.TE D.W b (l.map pr)) (cq D.TS D.TE D.W b (l.map pr)):=by
 refine iI.mk λfy ya yb I A C μ hy hO h0 cV=>?_;show aa _ _ [.fn fy ya yb,.bt [pP b 0] 0] _ _;refine G ⟨_,rfl,ab.t rfl ⟨_,rfl,?_⟩⟩;obtain⟨F,h,zk⟩:=cq.split hO;obtain⟨j,s,hG,hm,Qq⟩:=h.list;refine aa.pre hG (h2 ?_);refine⟨_,_,hm,by simp,?_⟩;have G:Ow [cq D.TS D.TE D.W b (l.map pr),C] (j.set b (some (.cells D.TS (du [.list D.W .sh (l.map pr),pB s] (0+1) [pB true])))):=zk (F':=[b]) ((Qq.trans (Mv.set (.inl (by simp)))).sub (by simp)) ⟨S.each l,S.cell l,.inl ⟨rfl,by rw[Mem.ao];rfl⟩⟩;refine⟨_,_,aH (Mem.ao _ _ _) (by simp[du]),?_⟩;rw[length_map];refine ak.each (n:=l.length) (by omega) (λi u=>Ow [I i] u) (h0 _ G) ?_ ?_
 .intro i u next w y au
  have J:=cV i (by simpa using w);rw[getElem_map]at J;refine ab.t (by simpa using w) ⟨by omega,_,aA w,S.hX _ _ ⟨S.row _,?_⟩⟩;rw[S.E'];refine Ow.Cp y (λν r=>J ν r) λv μ' Tb=>?_;rcases Tb.tt with⟨rfl,h⟩|⟨rfl,h⟩
  .exact⟨true,rfl,ab.f rfl (au _ h)⟩
  .exact⟨false,rfl,ab.t rfl ⟨rfl,.inr h⟩⟩
 .intro u next y
  refine ab.f (by simp) ⟨rfl,.inl ?_⟩;simp only[length_map];exact y
end NW
end Go.aP
namespace Go.Proofs.YthaeiehophlooaaGreat
open Go.Proofs.Tryz Go.aP Go.RowKit
namespace RT
abbrev El:=aj
@[reducible] def pv(x:El):List PV:=aj.pv x
@[reducible] def arg(x:El):PV:=.agg x.pv
@[reducible] def zero:PV:=.agg [pI 0,pS ⟨#[]⟩,pI 0,pI 0,pS ⟨#[]⟩,pI 0,pI 0,pS ⟨#[]⟩,pI 0,pB false,pB false,pI 0]
def key(x:El):Int:=x.tag
abbrev ck:Int->Int->Int:=aw
def hc:nI ck:=ar
def uq(a b:El):Pure prog 299 [arg a,arg b] (pI (ck (key a) (key b))):=by
 refine av.of (qe.c ?_);refine ab.mk (λh=>?_) (λh=>ab.mk (λg=>?_) (λg=>?_))<;>simp only[decide_eq_true_eq,decide_eq_false_iff_not]at* <;>simp only[aw,wk,cb,key]
 .rw[if_pos h]
 .rw[if_neg h,if_pos g]
 .rw[if_neg h,if_neg g]
@[reducible] noncomputable def D:SD:=⟨prog,201,129,12,112,299,λQ=>∃L J I H G C A y w r j i,Q [pI L,pS J,pI I,pI H,pS G,pI C,pI A,pS y,pI w,pB r,pB j,pI i],.agg,[pI (0),pS ⟨#[]⟩,pI (0),pI (0),pS ⟨#[]⟩,pI (0),pI (0),pS ⟨#[]⟩,pI (0),pB false,pB false,pI (0)]⟩
abbrev At(b:Nat)(l:List El):aO:=cq 201 129 12 b (l.map pv)
def mE:NW D pv arg key ck:=⟨λx Q h=>⟨_,_,_,_,_,_,_,_,_,_,_,_,h⟩,λ_=>rfl,λ_=>rfl,λ_=>rfl,λ_=>rfl,hc,uq,λv=>by kernel_rfl,rfl,by decide,by decide⟩
def dm{x:El}{a0:Option Addr}{u0:Mem}{K:Kq}(h:D.find a0 u0 K (arg x)):aa prog 124 [pA a0,arg x] u0 K:=VC [3] [(2,⟨[(6,.one (.raw (.int .i64))),(7,.one (.raw (.int .i64)))],[]⟩)] [] [] [] [] [] func124 h
def FQ{x:El}{a0:Option Addr}{u0:Mem}{K:Kq}(h:D.place a0 u0 K (arg x) 124):aa prog 75 [pA a0,arg x] u0 K:=VC [3] [] [] [] [] [] [] func75 h
def rl:=mE.rl dm FQ
def vG{x:El}{a0:Option Addr}{u0:Mem}{K:Kq}(h:D.get a0 u0 K (arg x) 124):aa prog 123 [pA a0,arg x] u0 K:=VC [3,4,6] [] [] [] [] [] [] func123 h
def oR{x:El}{a0:Option Addr}{u0:Mem}{K:Kq}(h:D.Pp a0 u0 K (arg x) 124):aa prog 123 [pA a0,arg x] u0 K:=VC [3,4,6] [] [] [] [] [] [24] func123 h
def ko:=mE.ko dm vG oR
def RG{a0:Option Addr}{u0:Mem}{K:Kq}(h:D.len a0 u0 K):aa prog 130 [pA a0] u0 K:=VC [] [] [] [] [] [] [] func130 h
def Ju:=NW.Ju (D:=D) (pr:=pv) RG
def gX{a0:Option Addr}{u0:Mem}{K:Kq}(h:D.own a0 u0 K):aa prog 125 [pA a0] u0 K:=VC [] [] [] [] [] [] [] func125 h
def lR{x:El}{a0:Option Addr}{u0:Mem}{K:Kq}(h:D.put a0 u0 K (pv x) (arg x) 124 125):aa prog 74 [pA a0,arg x] u0 K:=VC [3] [(9,⟨[(7,.one (.raw (.int .i64)))],[]⟩)] [] [] [] [] [23,32,43,48,57] func74 h
def fX:=mE.fX dm gX lR
def lU{x:El}{a0:Option Addr}{u0:Mem}{K:Kq}(h:D.drop a0 u0 K (arg x) 124 125):aa prog 128 [pA a0,arg x] u0 K:=VC [3] [(8,⟨[(7,.one (.raw (.int .i64)))],[]⟩)] [] [] [] [] [26,34,39,49,53,56] func128 h
def gC:=mE.gC dm gX lU
def lS{fl:Fl}{l:Lq}{u0:Mem}{K:Kq}(h:D.new u0 K 74 l):aa prog 48 [.list 12 fl l] u0 K:=VC [5] [(3,⟨[(10,.one (.raw (.int .i64)))],[]⟩)] [] [] [] [] [] func48 h
def gB:=mE.gB fX lS
def lT{a0:Option Addr}{i:Int}{g:Fn}{j r:List PV}{u0:Mem}{K:Kq}(h:D.from_ a0 u0 K i g j r):aa prog 127 [pA a0,pI i,.fn g j r] u0 K:=VC [] [(3,⟨[(7,.one (.raw (.int .i64)))],[]⟩)] [] [] [] [] [] func127 h
def lV{a0:Fn}{i j g:List PV}{u0:Mem}{K:Kq}(h:D.zO u0 K 127 a0 i j g):aa prog 126 [.fn a0 i j,.bt g 0] u0 K:=VC [] [] [] [] [] [] [] func126 h
@[reducible] def rp(b:Nat):PV:=.fn (.func 126) [] [.bt [pP b 0] 0]
theorem qc(b:Nat):Pure prog 77 [pP b 0] (rp b):=av.of (lC.c rfl)
def eG(b:Nat)(l:List El)(g:l.length<=4000000000000000000):iI prog (rp b) (l.map λx=>[arg x]) (At b l) (At b l):=mE.eG lV lT b l g
end RT
end Go.Proofs.YthaeiehophlooaaGreat
namespace Go.aP
open Go.RowKit
structure MD where
 S:SD
 TM:TypeId
 TY:TypeId
 WK:Nat
 WV:Nat
 at_:FuncId
 XK:(List PV->Prop)->Prop
 EK:List PV->PV
 XV:(List PV->Prop)->Prop
 EV:List PV->PV
 ZV:List PV
section
variable (M:MD) (a0:Option Addr) (u0:Mem) (K:Kq) (ek:PV) (fg fp fd:FuncId)
def MD.look(J:Option Addr×Bool->Mem->Prop):Prop:=
 nP a0 λb o=>
 ∃x,ay u0 b o 1=some [pA x]/\
 (dh M.S.P M.at_ [ek] u0 λv r=>
  M.S.X λy=>v=M.S.E y/\
  (aa M.S.P fg [pA x,M.S.E (y.map cb)] (Mem.or u0 r) λI w=>
   M.S.X λh=>∃q,I=(.aB [M.S.E h,pB q])/\
   ∀(g:Nat),w g=none->
   stM g 0 h (Mem.set w g (some (.cells M.S.TE M.S.Z))) λL=>
   J ((some ⟨g,0,none⟩),q) L)/\
  (∀(g:Nat),(Mem.or u0 r) g=none->
   aa M.S.P fg [pA x,M.S.E (y.map cb)] (Mem.set (Mem.or u0 r) g (some (.cells M.S.TE M.S.Z))) λA U=>
   M.S.X λh=>∃q,A=(.aB [M.S.E h,pB q])/\
   stM g 0 h U λQ=>
   J ((some ⟨g,0,none⟩),q) Q))/\
 (∀(g:Nat),u0 g=none->
  dh M.S.P M.at_ [ek] (Mem.set u0 g (some (.cells M.S.TE M.S.Z))) λj C=>
  M.S.X λy=>j=M.S.E y/\
  aa M.S.P fg [pA x,M.S.E (y.map cb)] (Mem.or (Mem.set u0 g (some (.cells M.S.TE M.S.Z))) C) λi G=>
  M.S.X λh=>∃q,i=(.aB [M.S.E h,pB q])/\
  stM g 0 h G λH=>
  J ((some ⟨g,0,none⟩),q) H)
def MD.get:Prop:=
 ab (isNone a0)
 (K (.aB [M.EV M.ZV,pB false]) u0)
 (cg (α:=Option Addr×Bool) (λJ=>M.look a0 u0 ek fg J)
  (λs u=>
   aM (.raw (.pointer s.1)) λb o=>
   M.XV λy=>ay u b (o+M.WK) M.WV=some y/\
   K (.aB [M.EV y,pB s.2]) u))
def MD.put(C:PV)(G:List PV):Prop:=
 ab (isNone a0)
 (K (pB false) u0)
 (cg (α:=Option Addr×Bool) (λJ=>M.look a0 u0 ek fg J)
  (λs u=>
   ab (!s.2)
   (nP a0 λb o=>
    ∃x,ay u b o 1=some [pA x]/\
    aa M.S.P fp [pA x,C] u λv h=>
    ∃r,v=(pB r)/\
    K (pB r) h)
   (nP a0 λb o=>
    ∃x,ay u b o 1=some [pA x]/\
    aM (.raw (.pointer s.1)) λQ U=>
    M.S.X λy=>ay u Q U M.S.W=some y/\
    aa M.S.P fd [pA x,M.S.E (y.map cb)] u λv j=>
    ∃r,v=(pB r)/\
    nP a0 λI L=>
    ∃A,ay j I L 1=some [pA A]/\
    aM (.raw (.pointer s.1)) λi H=>
    M.XK λw=>ay j i H M.WK=some w/\
    aa M.S.P fp [pA A,.agg (w++G)] j λg Y=>
    ∃r,g=(pB r)/\
    K (pB false) Y)))
def MD.drop:Prop:=
 ab (isNone a0)
 (K (.aB [M.EV M.ZV,pB false]) u0)
 (cg (α:=Option Addr×Bool) (λJ=>M.look a0 u0 ek fg J)
  (λs u=>
   cg (α:=Unit) (λh=>
    ab s.2
    (nP a0 λb o=>
     ∃x,ay u b o 1=some [pA x]/\
     aM (.raw (.pointer s.1)) λi w=>
     M.S.X λy=>ay u i w M.S.W=some y/\
     aa M.S.P fd [pA x,M.S.E (y.map cb)] u λv C=>
     ∃r,v=(pB r)/\
     h () C)
    (h () u))
   (λG g=>
    aM (.raw (.pointer s.1)) λj A=>
    M.XV λy=>ay g j (A+M.WK) M.WV=some y/\
    K (.aB [M.EV y,pB s.2]) g)))
def MD.len(fl:FuncId):Prop:=
 ab (isNone a0)
 (K (pI (0)) u0)
 (nP a0 λb o=>
  ∃x,ay u0 b o 1=some [pA x]/\
  aa M.S.P fl [pA x] u0 λv u=>
  ∃n,v=(pI n)/\
  K (pI n) u)
def MD.new(fn:FuncId):Prop:=
 aa M.S.P fn [.list M.S.W .nil []] u0 λv u=>
 ∃x,v=(pA x)/\
 cl u M.TM [pA x] λh g=>
 K (pP h 0) g
def MD.zO(fa:FuncId)(f:Fn)(G C Y:List PV):Prop:=
 cl u0 M.TY [.fn f G C] λb2 H=>
 ∃Q,az Y 0 1=some [pA Q]/\
 ab (isNone Q)
 (K (.aB []) H)
 (∃L,az Y 0 1=some [pA L]/\
  nP L λb o=>
   ∃J,ay H b o 1=some [pA J]/\
   aa M.S.P fa [pA J] H λv u=>
   ∃(i:Fn) (j r:List PV),v=(.fn i j r)/\
   bk M.S.P (.fn i j r) (λvs RR U=>
    M.S.X λy=>vs=[M.S.E y]/\
    ∃(h:Fn) (w A:List PV),ay U b2 0 1=some [(.fn h w A)]/\
    bP M.S.P (.fn h w A) [M.EK (y.take M.WK),M.EV ((y.drop M.WK).map cb)] U λQB Mz=>
    ∃g,QB=(pB g)/\
    ab (!g)
    (RR (some .ret) Mz)
    (RR none Mz))
   (λp I=>
    PK p
    (K (.aB []) I)
    (K (.aB []) I)
    [])
   u)
end
section
variable (D:SD) {El κ:Type} (pr:El->List PV) (arg:El->PV) (key:El->κ) (ck:κ->κ->Int) (n:FuncId)
abbrev afL:Prop:=∀ ⦃L:List aO⦄ ⦃g:Mem⦄ ⦃b:Nat⦄ ⦃l:List El⦄,Ow (cq D.TS D.TE D.W b (l.map pr)::L) g->ch ck key l->l.length<=4000000000000000000->∀(x:El) ⦃K:Kq⦄,(∀y,aL ck key (key x) l=some y->K (.aB [arg y,pB true]) g)->(aL ck key (key x) l=none->K (.aB [D.E D.Z,pB false]) g)->aa D.P n [pP b 0,arg x] g K
abbrev ajM:Prop:=∀ ⦃L:List aO⦄ ⦃h:Mem⦄ ⦃b:Nat⦄ ⦃l:List El⦄,Ow (cq D.TS D.TE D.W b (l.map pr)::L) h->ch ck key l->l.length<=999999999->∀(x:El) ⦃K:Kq⦄,(∀g,Ow (cq D.TS D.TE D.W b ((dB ck key x l).map pr)::L) g->K (pB (aL ck key (key x) l).isNone) g)->aa D.P n [pP b 0,arg x] h K
abbrev YT:Prop:=∀ ⦃L:List aO⦄ ⦃h:Mem⦄ ⦃b:Nat⦄ ⦃l:List El⦄,Ow (cq D.TS D.TE D.W b (l.map pr)::L) h->ch ck key l->l.length<=999999999->∀(x:El) ⦃K:Kq⦄,(∀g,Ow (cq D.TS D.TE D.W b ((bu ck key (key x) l).map pr)::L) g->K (pB (aL ck key (key x) l).isSome) g)->aa D.P n [pP b 0,arg x] h K
end
def dS(M:MD){El:Type}(pr:El->List PV)(m:Nat)(l:List El):aO:=λg=>∃s,Ow [Pt m M.TM [pP s 0],cq M.S.TS M.S.TE M.S.W s (l.map pr)] g
def dS.open_{M:MD}{El:Type}{pr:El->List PV}{m:Nat}{l:List El}{L:List aO}{g:Mem}(h:Ow (dS M pr m l::L) g):∃s,Ow (Pt m M.TM [pP s 0]::cq M.S.TS M.S.TE M.S.W s (l.map pr)::L) g:=by
 obtain⟨s,h⟩:=Ow.ex h;exact⟨s,h.nest⟩
def dS.shut{M:MD}{El:Type}{pr:El->List PV}{m s:Nat}{l:List El}{L:List aO}{i:Mem}(h:Ow (Pt m M.TM [pP s 0]::cq M.S.TS M.S.TE M.S.W s (l.map pr)::L) i):Ow (dS M pr m l::L) i:=
 (Ow.pack (L1:=[Pt m M.TM [pP s 0],cq M.S.TS M.S.TE M.S.W s (l.map pr)]) h).imp λ_ g=>⟨s,g⟩
def UY{cs g:List PV}(h:g.length=cs.length):du cs 0 g=g:=by
 unfold du;rw[List.take_zero,List.nil_append,zero_add,h,drop_length,append_nil]
structure MOk(M:MD){KY VL κ:Type}(pr:KY×VL->List PV)(arg:KY×VL->PV)(pk:KY->List PV)(cY:KY->PV)(pl:VL->List PV)(gN:VL->PV)(z:VL)(key:KY×VL->κ)(ck:κ->κ->Int):Prop where
 S:NW M.S pr arg key ck
 hp:∀k v,pr (k,v)=pk k++pl v
 ha:∀x,arg x=.agg (pr x)
 lk:∀k,(pk k).length=M.WK
 lv:∀v,(pl v).length=M.WV
 hK:∀k Q,Q (pk k)->M.XK Q
 EK:∀k,M.EK (pk k)=cY k
 hV:∀v Q,Q (pl v)->M.XV Q
 EV:∀v,M.EV (pl v)=gN v
 EVw:∀v,M.EV ((pl v).map cb)=gN v
 hz:∀Q,Q M.S.Z->M.S.X Q
 hzV:∀Q,Q M.ZV->M.XV Q
 zV:M.S.Z.drop M.WK=M.ZV
 zl:M.ZV.length=M.WV
 WV0:0<M.WV
 at_:∀k,Pure M.S.P M.at_ [cY k] (arg (k,z))
 inj:∀a v k w,key (a,v)=key (k,w)->a=k
 kv:∀a v w,key (a,v)=key (a,w)
section
variable {κ T:Type} {ck:κ->κ->Int} {key:T->κ}
def Rt{x:T}{l:List T}(h:aL ck key (key x) l=none):dB ck key x l=aZ ck key x l:=by rw[dB,h];rfl
def We(hc:nI ck){x y:T}{l:List T}(i:ch ck key l)(e:key x=key y):dB ck key x (bu ck key (key y) l)=aZ ck key x l:=by
 have j:aL ck key (key x) (bu ck key (key y) l)=none:=(bD hc).2 λa ha=>by
  have:=((ee hc).1 ha).2;rw[e];exact this
 rw[dB,j];refine ch.ext hc ((i.del _).ins hc x) (i.ins hc x) λa=>?_;show a∈aZ ck key x _↔_;rw[bq hc,bq hc,ee hc,e];constructor
 .rintro(h|⟨⟨h,_⟩,g⟩)
  .exact .inl h
  .exact .inr ⟨h,g⟩
 .rintro(h|⟨h,g⟩)
  .exact .inl h
  .exact .inr ⟨⟨h,g⟩,g⟩
end
namespace MOk
variable {M:MD} {KY VL κ:Type} {pr:KY×VL->List PV} {arg:KY×VL->PV} {pk:KY->List PV} {cY:KY->PV} {pl:VL->List PV} {gN:VL->PV} {z:VL} {key:KY×VL->κ} {ck:κ->κ->Int} (O:MOk M pr arg pk cY pl gN z key ck)
def In(M:MD)(pr:KY×VL->List PV)(z:VL)(key:KY×VL->κ)(ck:κ->κ->Int)(m s g:Nat)(l:List (KY×VL))(L:List aO)(k:KY)(t:Bool):aO:=λu=>
 (∃y,aL ck key (key (k,z)) l=some y/\t=true/\Ow (Pt g M.S.TE (pr y)::Pt m M.TM [pP s 0]::cq M.S.TS M.S.TE M.S.W s (l.map pr)::L) u)\/
 (aL ck key (key (k,z)) l=none/\t=false/\Ow (Pt g M.S.TE M.S.Z::Pt m M.TM [pP s 0]::cq M.S.TS M.S.TE M.S.W s (l.map pr)::L) u)
include O
def len(x:KY×VL):(pr x).length=M.WK+M.WV:=by
 obtain⟨k,v⟩:=x;rw[O.hp,length_append,O.lk,O.lv]
def W:M.S.W=M.WK+M.WV:=by rw[<- O.S.zl,<- List.take_append_drop M.WK M.S.Z,O.zV,length_append,O.zl,length_take,Nat.min_eq_left];(have g:=O.zl;rw[<- O.zV,List.length_drop]at g;have:=O.WV0;omega)
def fst(x:KY×VL):(pr x).take M.WK=pk x.1:=by
 obtain⟨k,v⟩:=x;rw[O.hp,<- O.lk k,List.take_left]
def snd(x:KY×VL):(pr x).drop M.WK=pl x.2:=by
 obtain⟨k,v⟩:=x;rw[O.hp,<- O.lk k,List.drop_left]
def look{fg:FuncId}(hg:afL M.S pr arg key ck fg){L:List aO}{U:Mem}{m s:Nat}{l:List (KY×VL)}(C:Ow (Pt m M.TM [pP s 0]::cq M.S.TS M.S.TE M.S.W s (l.map pr)::L) U)(hu:ch ck key l)(hl:l.length<=4000000000000000000)(k:KY){J:Option Addr×Bool->Mem->Prop}(I:∀g t u,In M pr z key ck m s g l L k t u->J (some ⟨g,0,none⟩,t) u):
  M.look (some ⟨m,0,none⟩) U (cY k) fg J:=by
 have Q:∀y,M.S.E (pr y)=arg y:=O.S.E;have e2:∀y,M.S.E ((pr y).map cb)=arg y:=O.S.E'
 have j:∀{g:Nat} {u:Mem} {L':List aO} {t:Bool} {c:List PV},c.length=M.S.Z.length->Ow (Pt g M.S.TE M.S.Z::L') u->(∀i,Ow (Pt g M.S.TE c::L') i->J (some ⟨g,0,none⟩,t) i)->stM g 0 c u λi=>J (some ⟨g,0,none⟩,t) i:=λhc h hk=>h.st 0 rfl (by omega) λi r=>hk i (by
  have H:=r
  rw[UY hc]at H;exact H)
 have ln:∀y,(pr y).length=M.S.Z.length:=λy=>by rw[O.S.len,O.S.zl]
 have G:∀{g:Nat} {u:Mem},Ow (Pt g M.S.TE M.S.Z::Pt m M.TM [pP s 0]::cq M.S.TS M.S.TE M.S.W s (l.map pr)::L) u->aa M.S.P fg [pA (some ⟨s,0,none⟩),arg (k,z)] u λZa Ho=>M.S.X λY=>∃q,Za=(.aB [M.S.E Y,pB q])/\stM g 0 Y Ho λMy=>J ((some ⟨g,0,none⟩),q) My:=λ{g u} h=>
  hg (Ow.at 2 rfl h) hu hl (k,z) (λy w=>O.S.hX y _ ⟨true,by rw[Q],j (ln y) h λi r=>I _ _ _ (.inl ⟨y,w,rfl,r⟩)⟩) (λw=>O.hz _ ⟨false,rfl,j rfl h λi r=>I _ _ _ (.inr ⟨w,rfl,r⟩)⟩)
 refine⟨_,C.rd 0 rfl (by simp),(O.at_ k).q (O.S.hX (k,z) _ ⟨(Q _).symm,?_⟩),λg A=>(O.at_ k).q (O.S.hX (k,z) _ ⟨(Q _).symm,?_⟩)⟩
 .rw[Mem.pK,e2];refine⟨hg C.swap hu hl (k,z) (λy w=>O.S.hX y _ ⟨true,by rw[Q],λg A=>?_⟩) (λw=>O.hz _ ⟨false,rfl,λg A=>?_⟩),λg A=>G (C.new _ _ A)⟩
  .exact j (ln y) (C.new _ _ A) λi r=>I _ _ _ (.inl ⟨y,w,rfl,r⟩)
  .exact j rfl (C.new _ _ A) λi r=>I _ _ _ (.inr ⟨w,rfl,r⟩)
 .rw[Mem.pK,e2];exact G (C.new _ _ A)
def rdV{g:Nat}{L:List aO}{u:Mem}{y:KY×VL}(h:Ow (Pt g M.S.TE (pr y)::L) u):ay u g (0+M.WK) M.WV=some (pl y.2):=by
 have:=h.rd 0 rfl (o:=0+M.WK) (n:=M.WV) (by rw[O.len];omega);rw[this,zero_add,O.snd,<- O.lv y.2,take_length]
def rdZ{g:Nat}{L:List aO}{u:Mem}(h:Ow (Pt g M.S.TE M.S.Z::L) u):ay u g (0+M.WK) M.WV=some M.ZV:=by
 have:=h.rd 0 rfl (o:=0+M.WK) (n:=M.WV) (by rw[O.S.zl,O.W];omega);rw[this,zero_add,O.zV,<- O.zl,take_length]
def rdE{g:Nat}{L:List aO}{u:Mem}{y:KY×VL}{i:Nat}(h:Ow L u)(j:L[i]?=some (Pt g M.S.TE (pr y))):ay u g 0 M.S.W=some (pr y):=by
 have:=h.rd i j (o:=0) (n:=M.S.W) (by rw[O.S.len];omega);rw[this,drop_zero,<- O.S.len y,take_length]
def rdK{g:Nat}{L:List aO}{u:Mem}{y:KY×VL}{i:Nat}(h:Ow L u)(j:L[i]?=some (Pt g M.S.TE (pr y))):ay u g 0 M.WK=some (pk y.1):=by
 have:=h.rd i j (o:=0) (n:=M.WK) (by rw[O.len];omega);rw[this,drop_zero,O.fst]
section
variable {fg:FuncId} (hg:afL M.S pr arg key ck fg)
include hg
def jx{n:FuncId}(H:∀{k:KY} {a0:Option Addr} {u0:Mem} {K:Kq},M.get a0 u0 K (cY k) fg->aa M.S.P n [pA a0,cY k] u0 K) ⦃L:List aO⦄ ⦃C:Mem⦄ ⦃m:Nat⦄ ⦃l:List (KY×VL)⦄ (A:Ow (dS M pr m l::L) C) (G:ch ck key l) (I:l.length<=4000000000000000000) (k:KY) ⦃K:Kq⦄ (J:∀y g,aL ck key (key (k,z)) l=some y->Ow (dS M pr m l::L) g->K (.aB [gN y.2,pB true]) g) (Q:∀g,aL ck key (key (k,z)) l=none->Ow (dS M pr m l::L) g->K (.aB [M.EV M.ZV,pB false]) g):aa M.S.P n [pP m 0,cY k] C K:=by
 obtain⟨s,A⟩:=dS.open_ A;refine H (ab.f rfl ⟨λr u=>∃j,r.1=some ⟨j,0,none⟩/\In M pr z key ck m s j l L k r.2 u,O.look hg A G I k λj t u h=>⟨j,rfl,h⟩,?_⟩);rintro⟨_,t⟩ u ⟨j,rfl,⟨y,w,rfl,i⟩|⟨w,rfl,i⟩⟩
 .exact O.hV y.2 _ ⟨O.rdV i,by rw[O.EV];exact J y _ w (dS.shut i.drop)⟩
 .exact O.hzV _ ⟨O.rdZ i,Q _ w (dS.shut i.drop)⟩
def nh{fp fd n:FuncId}(Dp:ajM M.S pr arg key ck fp)(SN:YT M.S pr arg key ck fd)(hn:∀{k:KY} {v:VL} {a0:Option Addr} {u0:Mem} {K:Kq},M.put a0 u0 K (cY k) fg fp fd (arg (k,v)) (pl v)->aa M.S.P n [pA a0,cY k,gN v] u0 K) ⦃L:List aO⦄ ⦃Y:Mem⦄ ⦃m:Nat⦄ ⦃l:List (KY×VL)⦄ (Q:Ow (dS M pr m l::L) Y) (w:ch ck key l) (hl:l.length<=999999998) (k:KY) (v:VL) ⦃K:Kq⦄ (hk:∀G,Ow (dS M pr m (aZ ck key (k,v) l)::L) G->K (pB (aL ck key (key (k,z)) l).isNone) G):aa M.S.P n [pP m 0,cY k,gN v] Y K:=by
 have hc:=O.S.hc;obtain⟨s,Q⟩:=dS.open_ Q;have g:key (k,v)=key (k,z):=O.kv _ _ _;refine hn (ab.f rfl ⟨λr u=>∃J,r.1=some ⟨J,0,none⟩/\In M pr z key ck m s J l L k r.2 u,O.look hg Q w (by omega) k λJ t u h=>⟨J,rfl,h⟩,?_⟩);rintro⟨_,t⟩ u ⟨J,rfl,⟨y,j,rfl,A⟩|⟨j,rfl,A⟩⟩
 .obtain⟨hym,H⟩:=(bf hc w).1 j;have U:y.1=k:=O.inj y.1 y.2 k z H;refine ab.f rfl ⟨_,A.rd 1 rfl (by simp),O.S.hX y _ ⟨O.rdE A (i:=0) rfl,?_⟩⟩;rw[O.S.E'];refine SN (Ow.at 2 rfl A) w (by omega) y λu2 C=>⟨_,rfl,?_⟩;have hlen:=rh (ck:=ck) (key:=key) (k:=key y) (L:=l);refine⟨_,C.rd 2 rfl (by simp),O.hK y.1 _ ⟨O.rdK C (i:=1) rfl,?_⟩⟩;have e2:(PV.agg (pk y.1++pl v))=arg (k,v):=by rw[O.ha,O.hp,U]
  rw[e2];refine Dp (x:=(k,v)) C (w.del _) (by omega) λu4 I=>⟨_,rfl,?_⟩;rw[We hc w (x:=(k,v)) (y:=y) (by rw[g,H])]at I;have:=hk u4 (dS.shut ((Ow.at 2 rfl I).tail λ_ h=>h.tail λ_ h=>h.drop));rw[j]at this;exact this
 .refine ab.t rfl ⟨_,A.rd 1 rfl (by simp),?_⟩;refine Dp (Ow.at 2 rfl A) w (by omega) (k,v) λu2 C=>⟨_,rfl,?_⟩;rw[g,j];rw[Rt (by rw[g];exact j)]at C;have:=hk u2 (dS.shut ((Ow.at 2 rfl C).tail λ_ h=>h.tail λ_ h=>h.drop));rw[j]at this;exact this
def kH{fd n:FuncId}(SN:YT M.S pr arg key ck fd)(Y:∀{k:KY} {a0:Option Addr} {u0:Mem} {K:Kq},M.drop a0 u0 K (cY k) fg fd->aa M.S.P n [pA a0,cY k] u0 K) ⦃L:List aO⦄ ⦃Q:Mem⦄ ⦃m:Nat⦄ ⦃l:List (KY×VL)⦄ (J:Ow (dS M pr m l::L) Q) (I:ch ck key l) (hl:l.length<=999999998) (k:KY) ⦃K:Kq⦄ (h1:∀y g,aL ck key (key (k,z)) l=some y->Ow (dS M pr m (bu ck key (key (k,z)) l)::L) g->K (.aB [gN y.2,pB true]) g) (h0:∀g,aL ck key (key (k,z)) l=none->Ow (dS M pr m l::L) g->K (.aB [M.EV M.ZV,pB false]) g):aa M.S.P n [pP m 0,cY k] Q K:=by
 have hc:=O.S.hc;obtain⟨s,J⟩:=dS.open_ J;refine Y (ab.f rfl ⟨λr u=>∃w,r.1=some ⟨w,0,none⟩/\In M pr z key ck m s w l L k r.2 u,O.look hg J I (by omega) k λw t u h=>⟨w,rfl,h⟩,?_⟩);rintro⟨_,t⟩ u ⟨w,rfl,⟨y,G,rfl,j⟩|⟨G,rfl,j⟩⟩
 .obtain⟨U,H⟩:=(bf hc I).1 G;refine⟨λ_ A=>Ow (Pt w M.S.TE (pr y)::Pt m M.TM [pP s 0]::cq M.S.TS M.S.TE M.S.W s ((bu ck key (key (k,z)) l).map pr)::L) A,ab.t rfl ⟨_,j.rd 1 rfl (by simp),O.S.hX y _ ⟨O.rdE j (i:=0) rfl,?_⟩⟩,?_⟩
  .rw[O.S.E'];refine SN (Ow.at 2 rfl j) I (by omega) y λA C=>⟨_,rfl,?_⟩;rw[H]at C;exact C.swap.tail λ_ h=>h.swap
  .intro _ A C;exact O.hV y.2 _ ⟨O.rdV C,by rw[O.EV];exact h1 y _ G (dS.shut C.drop)⟩
 .refine⟨λ_ A=>A=u,ab.f rfl rfl,?_⟩;rintro _ _ rfl;exact O.hzV _ ⟨O.rdZ j,h0 _ G (dS.shut j.drop)⟩
end
def fI{Q fa j:FuncId}(hn:∀{f:Fn} {f1 f2 c0:List PV} {u0:Mem} {K:Kq},M.zO u0 K fa f f1 f2 c0->aa M.S.P Q [.fn f f1 f2,.bt c0 0] u0 K)
  (jK:∀b:Nat,Pure M.S.P fa [pP b 0] (.fn (.func j) [] [.bt [pP b 0] 0]))
  (J:∀(b:Nat) (l:List (KY×VL)),l.length<=4000000000000000000->iI M.S.P (.fn (.func j) [] [.bt [pP b 0] 0]) (l.map λx=>[arg x]) (cq M.S.TS M.S.TE M.S.W b (l.map pr)) (cq M.S.TS M.S.TE M.S.W b (l.map pr)))
  (m:Nat) (l:List (KY×VL)) (hl:l.length<=4000000000000000000):iI M.S.P (.fn (.func Q) [] [.bt [pP m 0] 0]) (l.map λx=>[cY x.1,gN x.2]) (dS M pr m l) (dS M pr m l):=by
 refine iI.mk λA y w I S C μ hy H h0 cV=>?_;show aa _ _ [.fn A y w,.bt [pP m 0] 0] _ _;obtain⟨s,H⟩:=dS.open_ H;refine hn λb2 zN=>⟨_,rfl,ab.f rfl ⟨_,rfl,?_⟩⟩;have U:=H.new M.TY [.fn A y w] zN;refine⟨_,U.rd 1 rfl (by simp),(jK s).call ⟨_,_,_,rfl,?_⟩⟩;have L:(l.map λx:KY×VL=>[cY x.1,gN x.2]).length=l.length:=by simp
 refine bk.own (J s l hl) (Ow.at 2 rfl U) (λk=>Ow [Pt b2 M.TY [.fn A y w],I k]) (λc=>λu=>c=.ret/\Ow [S] u) (λk=>eW.own _) (λc=>eW.and (eW.own _)) (λi h=>?_) ?_ ?_ ?_
 .have h3:Ow (Pt b2 M.TY [.fn A y w]::(Pt m M.TM [pP s 0]::cq M.S.TS M.S.TE M.S.W s (l.map pr)::[C])) i:=h.swap.tail λ_ h=>h.swap;exact h3.tail λG g=>h0 G (dS.shut g)
 .intro k hk u R r bT iR;have bZ:k<l.length:=by simpa using hk
  have Y:=cV k (by rw[L];exact bZ);rw[getElem_map]at Y |-;refine O.S.hX l[k] _ ⟨by rw[O.S.E],_,_,_,r.rd 0 rfl (by simp),?_⟩;rw[O.fst,O.snd,O.EK,O.EVw];refine Ow.Cp r.swap (λG g=>Y G g) λv i Tb=>?_;rcases Tb.tt with⟨rfl,h⟩|⟨rfl,h⟩
  .exact⟨true,rfl,ab.f rfl (bT _ h.swap)⟩
  .exact⟨false,rfl,ab.t rfl (iR _ _ ⟨rfl,h.swap.drop⟩)⟩
 .intro u r;rw[length_map]at r;exact .inl (by rw[L];exact r.drop)
 .rintro c u ⟨rfl,h⟩;exact .inr h
end MOk
def MD.Ju{M:MD}{El:Type}{pr:El->List PV}{n fl:FuncId}(j:∀{a0:Option Addr} {u0:Mem} {K:Kq},M.len a0 u0 K fl->aa M.S.P n [pA a0] u0 K)
  (h:∀ ⦃L:List aO⦄ ⦃g:Mem⦄ ⦃b:Nat⦄ ⦃l:List El⦄,Ow (cq M.S.TS M.S.TE M.S.W b (l.map pr)::L) g->∀ ⦃K:Kq⦄,K (pI (l.length:Nat)) g->aa M.S.P fl [pP b 0] g K)
  ⦃L:List aO⦄ ⦃g:Mem⦄ ⦃m:Nat⦄ ⦃l:List El⦄ (i:Ow (dS M pr m l::L) g) ⦃K:Kq⦄ (r:K (pI (l.length:Nat)) g):aa M.S.P n [pP m 0] g K:=by
 obtain⟨s,i⟩:=dS.open_ i;exact j (ab.f rfl ⟨_,i.rd 0 rfl (by simp),h i.swap ⟨_,rfl,r⟩⟩)
def MD.gB{M:MD}{El:Type}{pr:El->List PV}{n fn:FuncId}(r:∀{u0:Mem} {K:Kq},M.new u0 K fn->aa M.S.P n [] u0 K)
  (j:∀ ⦃L:List aO⦄ ⦃h:Mem⦄,Ow L h->∀ ⦃K:Kq⦄,(∀g b,Ow (cq M.S.TS M.S.TE M.S.W b (([]:List El).map pr)::L) g->K (pP b 0) g)->aa M.S.P fn [.list M.S.W .nil []] h K)
  ⦃L:List aO⦄ ⦃h:Mem⦄ (A:Ow L h) ⦃K:Kq⦄ (y:∀g m,Ow (dS M pr m ([]:List El)::L) g->K (pP m 0) g):aa M.S.P n [] h K:=
 r (j A λi b C=>⟨_,rfl,λm w=>y _ m (dS.shut (C.new M.TM [pP b 0] w))⟩)
end Go.aP
namespace Go.Proofs.YthaeiehophlooaaGreat
open Go.Proofs.Tryz Go.aP Go.RowKit
def R_{A B T:Type}{i:A->A->Int}{C:B->B->Int}(j:nI i)(w:nI C)(f:T->A)(g:T->B)(inj:∀a b,f a=f b->g a=g b->a=b):nI λa b:T=>if i (f a) (f b)=0 then C (g a) (g b)else i (f a) (f b):=by
 have y:∀{a b:A},i a b=0->i b a=0:=λ{a b} h=>(j.zero b a).2 ((j.zero a b).1 h).symm;refine⟨λa b=>?_,λa b=>?_,λa b d h k=>?_⟩
 .constructor
  .intro h;split at h
   .rename_i e;exact inj a b ((j.zero _ _).1 e) ((w.zero _ _).1 h)
   .rename_i e;exact absurd h e
  .rintro rfl;rw[if_pos ((j.zero _ _).2 rfl)];exact(w.zero _ _).2 rfl
 .by_cases e:i (f a) (f b)=0
  .rw[if_pos e,if_pos (y e)];exact w.flip _ _
  .rw[if_neg e,if_neg λh=>e (y h)];exact j.flip _ _
 .by_cases e:i (f a) (f b)=0
  .rw[if_pos e]at h;have G:=(j.zero _ _).1 e;rw[<- G]at k;by_cases r:i (f a) (f d)=0
   .rw[if_pos r]at k |-;exact w.trans _ _ _ h k
   .rw[if_neg r]at k |-;exact k
  .rw[if_neg e]at h;by_cases r:i (f b) (f d)=0
   .rw[<- (j.zero _ _).1 r,if_neg e];exact h
   .rw[if_neg r]at k;have:=j.trans _ _ _ h k;rw[if_neg (by omega)];exact this
def fQ(a b:Sym):Int:=if aw a.k b.k=0 then(if bc a.t b.t=0 then aw a.n b.n else bc a.t b.t)else aw a.k b.k
def bI:nI fQ:=
 R_ ar (R_ bX ar (λp:ByteArray×Int=>p.1) (λp=>p.2) λa b h g=>Prod.ext h g) (λs:Sym=>s.k) (λs=>(s.t,s.n)) λa b h g=>by
  obtain⟨a,b,c⟩:=a;simp only[Prod.mk.injEq]at h g;obtain⟨rfl,rfl⟩:=g;subst h;rfl
def NM(a b:Int):Pure prog 287 [pI a,pI b] (pI (aw a b)):=by
 refine av.of (w_.c ?_);have g:∀x:Int,Pure prog 289 [pI x] (pB false):=λx=>av.of (Aa.c (by show wk (pB (x != x))=pB false;rw[bne_self_eq_false];rfl));refine(g a).call ⟨_,rfl,(g b).call ⟨_,rfl,ab.f rfl (ab.f rfl (ab.mk (λh=>?_) (λh=>ab.mk (λi=>?_) (λi=>?_))))⟩⟩<;>simp only[decide_eq_true_eq,decide_eq_false_iff_not]at* <;>simp only[aw,wk,cb]
 .rw[if_pos h]
 .rw[if_neg h,if_pos i]
 .rw[if_neg h,if_neg i]
def Xl(a b:ByteArray):Pure prog 288 [pS a,pS b] (pI (bc a b)):=by
 refine av.of (rE.c ?_);have g:∀x:ByteArray,Pure prog 290 [pS x] (pB false):=λx=>av.of (uX.c (by show wk (pB (!aG x x))=pB false;rw[fH];rfl));refine(g a).call ⟨_,rfl,(g b).call ⟨_,rfl,ab.f rfl (ab.f rfl (ab.mk (λh=>?_) (λh=>ab.mk (λi=>?_) (λi=>?_))))⟩⟩<;>simp only[bc,wk,cb]
 .rw[h];rfl
 .rw[i,h];rfl
 .rw[i,h];rfl
def NA(a b:Sym):Pure prog 286 [.agg a.pv,.agg b.pv] (pI (fQ a b)):=by
 refine av.of (xn.c ?_);refine(NM _ _).call ⟨_,rfl,ab.mk (λh=>?_) (λh=>(Xl _ _).call ⟨_,rfl,ab.mk (λg=>?_) (λg=>(NM _ _).call ⟨_,rfl,?_⟩)⟩)⟩<;>simp only[fQ,wk,cb]
 .rw[if_neg (by simpa using h)]
 .rw[if_pos (by simpa using h),if_neg (by simpa using g)]
 .rw[if_pos (by simpa using h),if_pos (by simpa using g)]
namespace RI
abbrev KY:=Sym
abbrev VL:=Option Addr
abbrev El:=Sym×Option Addr
@[reducible] def pv(x:El):List PV:=[pI x.1.k,pS x.1.t,pI x.1.n,.raw (.pointer x.2)]
@[reducible] def arg(x:El):PV:=.agg (pv x)
@[reducible] def cY(k:Sym):PV:=.agg k.pv
@[reducible] def pk(k:Sym):List PV:=k.pv
@[reducible] def pl(v:Option Addr):List PV:=[.raw (.pointer v)]
@[reducible] def gN(v:Option Addr):PV:=.raw (.pointer v)
def z:Option Addr:=none
def key(x:El):Sym:=x.1
abbrev ck:Sym->Sym->Int:=fQ
def hc:nI ck:=bI
def uq(a b:El):Pure prog 327 [arg a,arg b] (pI (ck (key a) (key b))):=by
 refine av.of (eC.c ?_)
 first
  |exact(NA _ _).call ⟨_,rfl,rfl⟩
  |exact⟨λv=>by kernel_rfl,(NA _ _).call ⟨_,rfl,rfl⟩⟩
@[reducible] noncomputable def D:SD:=⟨prog,286,205,4,40,327,λQ=>∃j i h g,Q [pI j,pS i,pI h,pA g],.agg,[pI (0),pS ⟨#[]⟩,pI (0),pA none]⟩
def mE:NW D pv arg key ck:=⟨λx Q h=>⟨_,_,_,_,h⟩,λ_=>rfl,λ_=>rfl,λ_=>rfl,λ_=>rfl,hc,uq,λv=>by kernel_rfl,rfl,by decide,by decide⟩
def dm{x:El}{a0:Option Addr}{u0:Mem}{K:Kq}(h:D.find a0 u0 K (arg x)):aa prog 203 [pA a0,arg x] u0 K:=VC [3] [(2,⟨[(6,.one (.raw (.int .i64))),(7,.one (.raw (.int .i64)))],[]⟩)] [] [] [] [] [] func203 h
def vG{x:El}{a0:Option Addr}{u0:Mem}{K:Kq}(h:D.get a0 u0 K (arg x) 203):aa prog 187 [pA a0,arg x] u0 K:=VC [3,4,6] [] [] [] [] [] [] func187 h
def oR{x:El}{a0:Option Addr}{u0:Mem}{K:Kq}(h:D.Pp a0 u0 K (arg x) 203):aa prog 187 [pA a0,arg x] u0 K:=VC [3,4,6] [] [] [] [] [] [24] func187 h
def ko:=mE.ko dm vG oR
def gX{a0:Option Addr}{u0:Mem}{K:Kq}(h:D.own a0 u0 K):aa prog 204 [pA a0] u0 K:=VC [] [] [] [] [] [] [] func204 h
def lR{x:El}{a0:Option Addr}{u0:Mem}{K:Kq}(h:D.put a0 u0 K (pv x) (arg x) 203 204):aa prog 152 [pA a0,arg x] u0 K:=VC [3] [(9,⟨[(7,.one (.raw (.int .i64)))],[]⟩)] [] [] [] [] [23,32,43,48,57] func152 h
def fX:=mE.fX dm gX lR
def lU{x:El}{a0:Option Addr}{u0:Mem}{K:Kq}(h:D.drop a0 u0 K (arg x) 203 204):aa prog 189 [pA a0,arg x] u0 K:=VC [3] [(8,⟨[(7,.one (.raw (.int .i64)))],[]⟩)] [] [] [] [] [26,34,39,49,53,56] func189 h
def gC:=mE.gC dm gX lU
def lS{fl:Fl}{l:Lq}{u0:Mem}{K:Kq}(h:D.new u0 K 152 l):aa prog 100 [.list 4 fl l] u0 K:=VC [5] [(3,⟨[(10,.one (.raw (.int .i64)))],[]⟩)] [] [] [] [] [] func100 h
def gB:=mE.gB fX lS
@[reducible] noncomputable def M:MD:=⟨D,207,251,3,1,188,λQ=>∃i h g,Q [pI i,pS h,pI g],.agg,λQ=>∃x,Q [pA x],λr=>r.headD .aU,[pA none]⟩
abbrev cy(m:Nat)(l:List El):aO:=dS M pv m l
def cAt(k:KY):Pure prog 188 [cY k] (arg (k,z)):=av.of (gi.c rfl)
def Hr:MOk M pv arg pk cY pl gN z key ck:=⟨mE,λ_ _=>rfl,λ_=>rfl,λ_=>rfl,λ_=>rfl,λk Q h=>⟨_,_,_,h⟩,λ_=>rfl,λv Q h=>⟨_,h⟩,λ_=>rfl,λ_=>rfl,λQ h=>⟨_,_,_,_,h⟩,λQ h=>⟨_,h⟩,rfl,rfl,by decide,cAt,λ_ _ _ _ h=>h,λ_ _ _=>rfl⟩
def tH{k:KY}{a0:Option Addr}{u0:Mem}{K:Kq}(h:M.get a0 u0 K (cY k) 187):aa prog 129 [pA a0,cY k] u0 K:=VC [3] [] [(5,⟨[(7,.one (.raw .ptr)),(8,.one (.raw .bool))],[]⟩)] [] [] [] [] func129 h
def jx:=Hr.jx ko tH
def tF{k:KY}{v:VL}{a0:Option Addr}{u0:Mem}{K:Kq}(h:M.put a0 u0 K (cY k) 187 152 189 (arg (k,v)) (pl v)):aa prog 135 [pA a0,cY k,gN v] u0 K:=VC [4] [] [(4,⟨[(7,.one (.raw .ptr)),(8,.one (.raw .bool))],[]⟩)] [] [] [] [] func135 h
def nh:=Hr.nh ko fX gC tF
def oQ{k:KY}{a0:Option Addr}{u0:Mem}{K:Kq}(h:M.drop a0 u0 K (cY k) 187 189):aa prog 131 [pA a0,cY k] u0 K:=VC [3] [] [(5,⟨[(7,.one (.raw .ptr)),(8,.one (.raw .bool))],[]⟩),(7,⟨[],[]⟩)] [] [] [] [] func131 h
def kH:=Hr.kH ko gC oQ
def tG{u0:Mem}{K:Kq}(h:M.new u0 K 100):aa prog 49 [] u0 K:=VC [] [] [] [] [] [] [] func49 h
def Cq:=MD.gB (M:=M) (pr:=pv) tG λ_ _ h _ g=>gB h .nil [] (by simp) g
end RI
structure J_ where
 p:Prod
 way:List Nat
def wz(a b:ByteArray):Pure prog 296 [pS a,pS b] (pI (bc a b)):=by
 refine av.of (sq.c ?_);refine ab.mk (λh=>?_) (λh=>ab.mk (λg=>?_) (λg=>?_))<;>simp only[bc,wk,cb]
 .rw[h];rfl
 .rw[g,h];rfl
 .rw[g,h];rfl
namespace RP
abbrev KY:=ByteArray
abbrev VL:=J_
abbrev El:=ByteArray×J_
@[reducible] def pv(x:El):List PV:=[pS x.1,pS x.2.p.name,.list 7 .sh (x.2.p.conds.map ae.pv),.list 19 .sh (x.2.p.bd.map cI.pv),.list 1 .sh (x.2.way.map λb=>[pP b 0])]
@[reducible] def arg(x:El):PV:=.agg (pv x)
@[reducible] def cY(k:ByteArray):PV:=pS k
@[reducible] def pk(k:ByteArray):List PV:=[pS k]
@[reducible] def pl(m:J_):List PV:=[pS m.p.name,.list 7 .sh (m.p.conds.map ae.pv),.list 19 .sh (m.p.bd.map cI.pv),.list 1 .sh (m.way.map λb=>[pP b 0])]
@[reducible] def gN(m:J_):PV:=.agg [pS m.p.name,.list 7 .sh (m.p.conds.map ae.pv),.list 19 .sh (m.p.bd.map cI.pv),.list 1 .sh (m.way.map λb=>[pP b 0])]
def z:J_:=⟨⟨⟨#[]⟩,[],[]⟩,[]⟩
def key(x:El):ByteArray:=x.1
abbrev ck:ByteArray->ByteArray->Int:=bc
def hc:nI ck:=bX
def uq(a b:El):Pure prog 307 [arg a,arg b] (pI (ck (key a) (key b))):=by
 refine av.of (fY.c ?_)
 first
  |exact(wz _ _).call ⟨_,rfl,rfl⟩
  |exact⟨λv=>by kernel_rfl,(wz _ _).call ⟨_,rfl,rfl⟩⟩
@[reducible] noncomputable def D:SD:=⟨prog,267,177,5,104,307,λQ=>∃A y i w h r g j,Q [pS A,pS y,.list 7 i w,.list 19 h r,.list 1 g j],.agg,[pS ⟨#[]⟩,pS ⟨#[]⟩,.list 7 .nil [],.list 19 .nil [],.list 1 .nil []]⟩
abbrev At(b:Nat)(l:List El):aO:=cq 267 177 5 b (l.map pv)
def mE:NW D pv arg key ck:=⟨λx Q h=>⟨_,_,_,_,_,_,_,_,h⟩,λ_=>rfl,λ_=>rfl,λ_=>rfl,λ_=>rfl,hc,uq,λv=>by kernel_rfl,rfl,by decide,by decide⟩
def dm{x:El}{a0:Option Addr}{u0:Mem}{K:Kq}(h:D.find a0 u0 K (arg x)):aa prog 146 [pA a0,arg x] u0 K:=VC [3] [(2,⟨[(6,.one (.raw (.int .i64))),(7,.one (.raw (.int .i64)))],[]⟩)] [] [] [] [] [] func146 h
def vG{x:El}{a0:Option Addr}{u0:Mem}{K:Kq}(h:D.get a0 u0 K (arg x) 146):aa prog 94 [pA a0,arg x] u0 K:=VC [3,4,6] [] [] [] [] [] [] func94 h
def oR{x:El}{a0:Option Addr}{u0:Mem}{K:Kq}(h:D.Pp a0 u0 K (arg x) 146):aa prog 94 [pA a0,arg x] u0 K:=VC [3,4,6] [] [] [] [] [] [24] func94 h
def ko:=mE.ko dm vG oR
def RG{a0:Option Addr}{u0:Mem}{K:Kq}(h:D.len a0 u0 K):aa prog 154 [pA a0] u0 K:=VC [] [] [] [] [] [] [] func154 h
def Ju:=NW.Ju (D:=D) (pr:=pv) RG
def gX{a0:Option Addr}{u0:Mem}{K:Kq}(h:D.own a0 u0 K):aa prog 184 [pA a0] u0 K:=VC [] [] [] [] [] [] [] func184 h
def lR{x:El}{a0:Option Addr}{u0:Mem}{K:Kq}(h:D.put a0 u0 K (pv x) (arg x) 146 184):aa prog 120 [pA a0,arg x] u0 K:=VC [3] [(9,⟨[(7,.one (.raw (.int .i64)))],[]⟩)] [] [] [] [] [23,32,43,48,57] func120 h
def fX:=mE.fX dm gX lR
def lU{x:El}{a0:Option Addr}{u0:Mem}{K:Kq}(h:D.drop a0 u0 K (arg x) 146 184):aa prog 121 [pA a0,arg x] u0 K:=VC [3] [(8,⟨[(7,.one (.raw (.int .i64)))],[]⟩)] [] [] [] [] [26,34,39,49,53,56] func121 h
def gC:=mE.gC dm gX lU
def lS{fl:Fl}{l:Lq}{u0:Mem}{K:Kq}(h:D.new u0 K 120 l):aa prog 101 [.list 5 fl l] u0 K:=VC [5] [(3,⟨[(10,.one (.raw (.int .i64)))],[]⟩)] [] [] [] [] [] func101 h
def gB:=mE.gB fX lS
def lT{a0:Option Addr}{i:Int}{g:Fn}{j r:List PV}{u0:Mem}{K:Kq}(h:D.from_ a0 u0 K i g j r):aa prog 156 [pA a0,pI i,.fn g j r] u0 K:=VC [] [(3,⟨[(7,.one (.raw (.int .i64)))],[]⟩)] [] [] [] [] [] func156 h
def lV{a0:Fn}{i j g:List PV}{u0:Mem}{K:Kq}(h:D.zO u0 K 156 a0 i j g):aa prog 155 [.fn a0 i j,.bt g 0] u0 K:=VC [] [] [] [] [] [] [] func155 h
@[reducible] def rp(b:Nat):PV:=.fn (.func 155) [] [.bt [pP b 0] 0]
theorem qc(b:Nat):Pure prog 108 [pP b 0] (rp b):=av.of (eU.c rfl)
def eG(b:Nat)(l:List El)(C:l.length<=4000000000000000000):iI prog (rp b) (l.map λx=>[arg x]) (At b l) (At b l):=mE.eG lV lT b l C
@[reducible] noncomputable def M:MD:=⟨D,181,149,1,4,95,λQ=>∃x,Q [pS x],λr=>r.headD .aU,λQ=>∃A i y h w g j,Q [pS A,.list 7 i y,.list 19 h w,.list 1 g j],.agg,[pS ⟨#[]⟩,.list 7 .nil [],.list 19 .nil [],.list 1 .nil []]⟩
abbrev cy(m:Nat)(l:List El):aO:=dS M pv m l
def cAt(k:KY):Pure prog 95 [cY k] (arg (k,z)):=av.of (jO.c rfl)
def Hr:MOk M pv arg pk cY pl gN z key ck:=⟨mE,λ_ _=>rfl,λ_=>rfl,λ_=>rfl,λ_=>rfl,λk Q h=>⟨_,h⟩,λ_=>rfl,λv Q h=>⟨_,_,_,_,_,_,_,h⟩,λ_=>rfl,λ_=>rfl,λQ h=>⟨_,_,_,_,_,_,_,_,h⟩,λQ h=>⟨_,_,_,_,_,_,_,h⟩,rfl,rfl,by decide,cAt,λ_ _ _ _ h=>h,λ_ _ _=>rfl⟩
def tH{k:KY}{a0:Option Addr}{u0:Mem}{K:Kq}(h:M.get a0 u0 K (cY k) 94):aa prog 44 [pA a0,cY k] u0 K:=VC [4,6] [] [(5,⟨[(7,.one (.raw .ptr)),(8,.one (.raw .bool))],[]⟩)] [] [] [] [] func44 h
def jx:=Hr.jx ko tH
def tF{k:KY}{v:VL}{a0:Option Addr}{u0:Mem}{K:Kq}(h:M.put a0 u0 K (cY k) 94 120 121 (arg (k,v)) (pl v)):aa prog 71 [pA a0,cY k,gN v] u0 K:=VC [5] [] [(4,⟨[(7,.one (.raw .ptr)),(8,.one (.raw .bool))],[]⟩)] [] [] [] [] func71 h
def nh:=Hr.nh ko fX gC tF
def oQ{k:KY}{a0:Option Addr}{u0:Mem}{K:Kq}(h:M.drop a0 u0 K (cY k) 94 121):aa prog 105 [pA a0,cY k] u0 K:=VC [4,6] [] [(5,⟨[(7,.one (.raw .ptr)),(8,.one (.raw .bool))],[]⟩),(7,⟨[],[]⟩)] [] [] [] [] func105 h
def kH:=Hr.kH ko gC oQ
def ZE{a0:Option Addr}{u0:Mem}{K:Kq}(h:M.len a0 u0 K 154):aa prog 106 [pA a0] u0 K:=VC [] [] [] [] [] [] [] func106 h
def afw:=MD.Ju (M:=M) (pr:=pv) ZE λ_ _ _ _ h _ g=>Ju h g
def tG{u0:Mem}{K:Kq}(h:M.new u0 K 101):aa prog 50 [] u0 K:=VC [] [] [] [] [] [] [] func50 h
def Cq:=MD.gB (M:=M) (pr:=pv) tG λ_ _ h _ g=>gB h .nil [] (by simp) g
def Bt{f:Fn}{i g j:List PV}{u0:Mem}{K:Kq}(h:M.zO u0 K 108 f i g j):aa prog 107 [.fn f i g,.bt j 0] u0 K:=VC [3] [] [] [(11,[177])] [] [] [] func107 h
@[reducible] def zg(m:Nat):PV:=.fn (.func 107) [] [.bt [pP m 0] 0]
def rm(m:Nat):Pure prog 61 [pP m 0] (zg m):=av.of (ib.c rfl)
def fI(m:Nat)(l:List El)(g:l.length<=4000000000000000000):iI prog (zg m) (l.map λx=>[cY x.1,gN x.2]) (cy m l) (cy m l):=Hr.fI Bt qc eG m l g
end RP
def wy(a b:Int):Pure prog 316 [pI a,pI b] (pI (aw a b)):=by
 refine av.of (pG.c ?_);refine ab.mk (λh=>?_) (λh=>ab.mk (λg=>?_) (λg=>?_))<;>simp only[decide_eq_true_eq,decide_eq_false_iff_not]at* <;>simp only[aw,wk,cb]
 .rw[if_pos h]
 .rw[if_neg h,if_pos g]
 .rw[if_neg h,if_neg g]
namespace AT
abbrev El:=aj
@[reducible] def pv(x:El):List PV:=aj.pv x
@[reducible] def arg(x:El):PV:=.agg x.pv
def key(x:El):Int:=x.tag
abbrev ck:Int->Int->Int:=aw
def hc:nI ck:=ar
def uq(a b:El):Pure prog 342 [arg a,arg b] (pI (ck (key a) (key b))):=by
 refine av.of (pF.c ?_);exact(wy _ _).call ⟨_,rfl,rfl⟩
@[reducible] noncomputable def D:SD:=⟨prog,355,305,12,112,342,λQ=>∃I H G C A y w r j i h g,Q [pI I,pS H,pI G,pI C,pS A,pI y,pI w,pS r,pI j,pB i,pB h,pI g],.agg,[pI (0),pS ⟨#[]⟩,pI (0),pI (0),pS ⟨#[]⟩,pI (0),pI (0),pS ⟨#[]⟩,pI (0),pB false,pB false,pI (0)]⟩
abbrev At(b:Nat)(l:List El):aO:=cq 355 305 12 b (l.map pv)
def mE:NW D pv arg key ck:=⟨λx Q h=>⟨_,_,_,_,_,_,_,_,_,_,_,_,h⟩,λ_=>rfl,λ_=>rfl,λ_=>rfl,λ_=>rfl,hc,uq,λv=>by kernel_rfl,rfl,by decide,by decide⟩
def dm{x:El}{a0:Option Addr}{u0:Mem}{K:Kq}(h:D.find a0 u0 K (arg x)):aa prog 222 [pA a0,arg x] u0 K:=VC [3] [(2,⟨[(6,.one (.raw (.int .i64))),(7,.one (.raw (.int .i64)))],[]⟩)] [] [] [] [] [] func222 h
def gX{a0:Option Addr}{u0:Mem}{K:Kq}(h:D.own a0 u0 K):aa prog 223 [pA a0] u0 K:=VC [] [] [] [] [] [] [] func223 h
def lR{x:El}{a0:Option Addr}{u0:Mem}{K:Kq}(h:D.put a0 u0 K (pv x) (arg x) 222 223):aa prog 173 [pA a0,arg x] u0 K:=VC [3] [(9,⟨[(7,.one (.raw (.int .i64)))],[]⟩)] [] [] [] [] [23,32,43,48,57] func173 h
def fX:=mE.fX dm gX lR
def lU{x:El}{a0:Option Addr}{u0:Mem}{K:Kq}(h:D.drop a0 u0 K (arg x) 222 223):aa prog 191 [pA a0,arg x] u0 K:=VC [3] [(8,⟨[(7,.one (.raw (.int .i64)))],[]⟩)] [] [] [] [] [26,34,39,49,53,56] func191 h
def gC:=mE.gC dm gX lU
def lS{fl:Fl}{l:Lq}{u0:Mem}{K:Kq}(h:D.new u0 K 173 l):aa prog 170 [.list 12 fl l] u0 K:=VC [5] [(3,⟨[(10,.one (.raw (.int .i64)))],[]⟩)] [] [] [] [] [] func170 h
def gB:=mE.gB fX lS
def lT{a0:Option Addr}{i:Int}{g:Fn}{j r:List PV}{u0:Mem}{K:Kq}(h:D.from_ a0 u0 K i g j r):aa prog 259 [pA a0,pI i,.fn g j r] u0 K:=VC [] [(3,⟨[(7,.one (.raw (.int .i64)))],[]⟩)] [] [] [] [] [] func259 h
def lV{a0:Fn}{i j g:List PV}{u0:Mem}{K:Kq}(h:D.zO u0 K 259 a0 i j g):aa prog 258 [.fn a0 i j,.bt g 0] u0 K:=VC [] [] [] [] [] [] [] func258 h
@[reducible] def rp(b:Nat):PV:=.fn (.func 258) [] [.bt [pP b 0] 0]
theorem qc(b:Nat):Pure prog 227 [pP b 0] (rp b):=av.of (kL.c rfl)
def eG(b:Nat)(l:List El)(g:l.length<=4000000000000000000):iI prog (rp b) (l.map λx=>[arg x]) (At b l) (At b l):=mE.eG lV lT b l g
end AT
namespace AE
abbrev KY:=Int
abbrev VL:=aj
abbrev El:=Int×aj
@[reducible] def pv(x:El):List PV:=[pI x.1,pI x.2.id.k,pS x.2.id.t,pI x.2.id.n,pI x.2.attr.k,pS x.2.attr.t,pI x.2.attr.n,pI x.2.value.k,pS x.2.value.t,pI x.2.value.n,pB x.2.acc,pB x.2.goal,pI x.2.tag]
@[reducible] def arg(x:El):PV:=.agg (pv x)
@[reducible] def cY(k:Int):PV:=pI k
@[reducible] def pk(k:Int):List PV:=[pI k]
@[reducible] def pl(e:aj):List PV:=e.pv
@[reducible] def gN(e:aj):PV:=.agg e.pv
def z:aj:=⟨⟨0,⟨#[]⟩,0⟩,⟨0,⟨#[]⟩,0⟩,⟨0,⟨#[]⟩,0⟩,false,false,0⟩
def key(x:El):Int:=x.1
abbrev ck:Int->Int->Int:=aw
def hc:nI ck:=ar
def uq(a b:El):Pure prog 331 [arg a,arg b] (pI (ck (key a) (key b))):=by
 refine av.of (fS.c ?_)
 first
  |exact(wy _ _).call ⟨_,rfl,rfl⟩
  |exact⟨λv=>by kernel_rfl,(wy _ _).call ⟨_,rfl,rfl⟩⟩
@[reducible] noncomputable def D:SD:=⟨prog,334,275,13,120,331,λQ=>∃J I H G C A y w r j i h g,Q [pI J,pI I,pS H,pI G,pI C,pS A,pI y,pI w,pS r,pI j,pB i,pB h,pI g],.agg,[pI (0),pI (0),pS ⟨#[]⟩,pI (0),pI (0),pS ⟨#[]⟩,pI (0),pI (0),pS ⟨#[]⟩,pI (0),pB false,pB false,pI (0)]⟩
abbrev At(b:Nat)(l:List El):aO:=cq 334 275 13 b (l.map pv)
def mE:NW D pv arg key ck:=⟨λx Q h=>⟨_,_,_,_,_,_,_,_,_,_,_,_,_,h⟩,λ_=>rfl,λ_=>rfl,λ_=>rfl,λ_=>rfl,hc,uq,λv=>by kernel_rfl,rfl,by decide,by decide⟩
def dm{x:El}{a0:Option Addr}{u0:Mem}{K:Kq}(h:D.find a0 u0 K (arg x)):aa prog 237 [pA a0,arg x] u0 K:=VC [3] [(2,⟨[(6,.one (.raw (.int .i64))),(7,.one (.raw (.int .i64)))],[]⟩)] [] [] [] [] [] func237 h
def vG{x:El}{a0:Option Addr}{u0:Mem}{K:Kq}(h:D.get a0 u0 K (arg x) 237):aa prog 231 [pA a0,arg x] u0 K:=VC [3,4,6] [] [] [] [] [] [] func231 h
def oR{x:El}{a0:Option Addr}{u0:Mem}{K:Kq}(h:D.Pp a0 u0 K (arg x) 237):aa prog 231 [pA a0,arg x] u0 K:=VC [3,4,6] [] [] [] [] [] [24] func231 h
def ko:=mE.ko dm vG oR
def gX{a0:Option Addr}{u0:Mem}{K:Kq}(h:D.own a0 u0 K):aa prog 238 [pA a0] u0 K:=VC [] [] [] [] [] [] [] func238 h
def lR{x:El}{a0:Option Addr}{u0:Mem}{K:Kq}(h:D.put a0 u0 K (pv x) (arg x) 237 238):aa prog 201 [pA a0,arg x] u0 K:=VC [3] [(9,⟨[(7,.one (.raw (.int .i64)))],[]⟩)] [] [] [] [] [23,32,43,48,57] func201 h
def fX:=mE.fX dm gX lR
def lU{x:El}{a0:Option Addr}{u0:Mem}{K:Kq}(h:D.drop a0 u0 K (arg x) 237 238):aa prog 233 [pA a0,arg x] u0 K:=VC [3] [(8,⟨[(7,.one (.raw (.int .i64)))],[]⟩)] [] [] [] [] [26,34,39,49,53,56] func233 h
def gC:=mE.gC dm gX lU
def lS{fl:Fl}{l:Lq}{u0:Mem}{K:Kq}(h:D.new u0 K 201 l):aa prog 150 [.list 13 fl l] u0 K:=VC [5] [(3,⟨[(10,.one (.raw (.int .i64)))],[]⟩)] [] [] [] [] [] func150 h
def gB:=mE.gB fX lS
def lT{a0:Option Addr}{i:Int}{g:Fn}{j r:List PV}{u0:Mem}{K:Kq}(h:D.from_ a0 u0 K i g j r):aa prog 256 [pA a0,pI i,.fn g j r] u0 K:=VC [] [(3,⟨[(7,.one (.raw (.int .i64)))],[]⟩)] [] [] [] [] [] func256 h
def lV{a0:Fn}{i j g:List PV}{u0:Mem}{K:Kq}(h:D.zO u0 K 256 a0 i j g):aa prog 255 [.fn a0 i j,.bt g 0] u0 K:=VC [] [] [] [] [] [] [] func255 h
@[reducible] def rp(b:Nat):PV:=.fn (.func 255) [] [.bt [pP b 0] 0]
theorem qc(b:Nat):Pure prog 221 [pP b 0] (rp b):=av.of (eO.c rfl)
def eG(b:Nat)(l:List El)(L:l.length<=4000000000000000000):iI prog (rp b) (l.map λx=>[arg x]) (At b l) (At b l):=mE.eG lV lT b l L
@[reducible] noncomputable def M:MD:=⟨D,277,327,1,12,232,λQ=>∃x,Q [pI x],λr=>r.headD .aU,λQ=>∃J I H G C A y w j i h g,Q [pI J,pS I,pI H,pI G,pS C,pI A,pI y,pS w,pI j,pB i,pB h,pI g],.agg,[pI (0),pS ⟨#[]⟩,pI (0),pI (0),pS ⟨#[]⟩,pI (0),pI (0),pS ⟨#[]⟩,pI (0),pB false,pB false,pI (0)]⟩
abbrev cy(m:Nat)(l:List El):aO:=dS M pv m l
def cAt(k:KY):Pure prog 232 [cY k] (arg (k,z)):=av.of (jo.c rfl)
def Hr:MOk M pv arg pk cY pl gN z key ck:=⟨mE,λ_ _=>rfl,λ_=>rfl,λ_=>rfl,λ_=>rfl,λk Q h=>⟨_,h⟩,λ_=>rfl,λv Q h=>⟨_,_,_,_,_,_,_,_,_,_,_,_,h⟩,λ_=>rfl,λ_=>rfl,λQ h=>⟨_,_,_,_,_,_,_,_,_,_,_,_,_,h⟩,λQ h=>⟨_,_,_,_,_,_,_,_,_,_,_,_,h⟩,rfl,rfl,by decide,cAt,λ_ _ _ _ h=>h,λ_ _ _=>rfl⟩
def tH{k:KY}{a0:Option Addr}{u0:Mem}{K:Kq}(h:M.get a0 u0 K (cY k) 231):aa prog 192 [pA a0,cY k] u0 K:=VC [4,6] [] [(5,⟨[(7,.one (.raw .ptr)),(8,.one (.raw .bool))],[]⟩)] [] [] [] [] func192 h
def jx:=Hr.jx ko tH
def tF{k:KY}{v:VL}{a0:Option Addr}{u0:Mem}{K:Kq}(h:M.put a0 u0 K (cY k) 231 201 233 (arg (k,v)) (pl v)):aa prog 193 [pA a0,cY k,gN v] u0 K:=VC [5] [] [(4,⟨[(7,.one (.raw .ptr)),(8,.one (.raw .bool))],[]⟩)] [] [] [] [] func193 h
def nh:=Hr.nh ko fX gC tF
def oQ{k:KY}{a0:Option Addr}{u0:Mem}{K:Kq}(h:M.drop a0 u0 K (cY k) 231 233):aa prog 190 [pA a0,cY k] u0 K:=VC [4,6] [] [(5,⟨[(7,.one (.raw .ptr)),(8,.one (.raw .bool))],[]⟩),(7,⟨[],[]⟩)] [] [] [] [] func190 h
def kH:=Hr.kH ko gC oQ
def tG{u0:Mem}{K:Kq}(h:M.new u0 K 150):aa prog 98 [] u0 K:=VC [] [] [] [] [] [] [] func98 h
def Cq:=MD.gB (M:=M) (pr:=pv) tG λ_ _ h _ g=>gB h .nil [] (by simp) g
def Bt{f:Fn}{i g j:List PV}{u0:Mem}{K:Kq}(h:M.zO u0 K 221 f i g j):aa prog 220 [.fn f i g,.bt j 0] u0 K:=VC [3] [] [] [(11,[275])] [] [] [] func220 h
@[reducible] def zg(m:Nat):PV:=.fn (.func 220) [] [.bt [pP m 0] 0]
def rm(m:Nat):Pure prog 171 [pP m 0] (zg m):=av.of (gT.c rfl)
def fI(m:Nat)(l:List El)(g:l.length<=4000000000000000000):iI prog (zg m) (l.map λx=>[cY x.1,gN x.2]) (cy m l) (cy m l):=Hr.fI Bt qc eG m l g
end AE
structure Qf where
 c:ae
 aN:Int
 has:Option Addr
namespace AM
abbrev KY:=Int
abbrev VL:=Qf
abbrev El:=Int×Qf
@[reducible] def pv(x:El):List PV:=[pI x.1,pI x.2.c.kind,pB x.2.c.goal,pS x.2.c.id,.list 6 .sh (x.2.c.attr.map Test.pv),.list 6 .sh (x.2.c.value.map Test.pv),pB x.2.c.acc,.list 7 .sh (x.2.c.conds.map ae.pv),pI x.2.aN,.raw (.pointer x.2.has)]
@[reducible] def arg(x:El):PV:=.agg (pv x)
@[reducible] def cY(k:Int):PV:=pI k
@[reducible] def pk(k:Int):List PV:=[pI k]
@[reducible] def pl(m:Qf):List PV:=[pI m.c.kind,pB m.c.goal,pS m.c.id,.list 6 .sh (m.c.attr.map Test.pv),.list 6 .sh (m.c.value.map Test.pv),pB m.c.acc,.list 7 .sh (m.c.conds.map ae.pv),pI m.aN,.raw (.pointer m.has)]
@[reducible] def gN(m:Qf):PV:=.agg [pI m.c.kind,pB m.c.goal,pS m.c.id,.list 6 .sh (m.c.attr.map Test.pv),.list 6 .sh (m.c.value.map Test.pv),pB m.c.acc,.list 7 .sh (m.c.conds.map ae.pv),pI m.aN,.raw (.pointer m.has)]
def z:Qf:=⟨.mk 0 false ⟨#[]⟩ [] [] false [],0,none⟩
def key(x:El):Int:=x.1
abbrev ck:Int->Int->Int:=aw
def hc:nI ck:=ar
def uq(a b:El):Pure prog 335 [arg a,arg b] (pI (ck (key a) (key b))):=by
 refine av.of (eY.c ?_)
 first
  |exact(wy _ _).call ⟨_,rfl,rfl⟩
  |exact⟨λv=>by kernel_rfl,(wy _ _).call ⟨_,rfl,rfl⟩⟩
@[reducible] noncomputable def D:SD:=⟨prog,338,281,10,136,335,λQ=>∃J I H G i C h A y g w r j,Q [pI J,pI I,pB H,pS G,.list 6 i C,.list 6 h A,pB y,.list 7 g w,pI r,pA j],.agg,[pI (0),pI (0),pB false,pS ⟨#[]⟩,.list 6 .nil [],.list 6 .nil [],pB false,.list 7 .nil [],pI (0),pA none]⟩
abbrev At(b:Nat)(l:List El):aO:=cq 338 281 10 b (l.map pv)
def mE:NW D pv arg key ck:=⟨λx Q h=>⟨_,_,_,_,_,_,_,_,_,_,_,_,_,h⟩,λ_=>rfl,λ_=>rfl,λ_=>rfl,λ_=>rfl,hc,uq,λv=>by kernel_rfl,rfl,by decide,by decide⟩
def dm{x:El}{a0:Option Addr}{u0:Mem}{K:Kq}(h:D.find a0 u0 K (arg x)):aa prog 239 [pA a0,arg x] u0 K:=VC [3] [(2,⟨[(6,.one (.raw (.int .i64))),(7,.one (.raw (.int .i64)))],[]⟩)] [] [] [] [] [] func239 h
def vG{x:El}{a0:Option Addr}{u0:Mem}{K:Kq}(h:D.get a0 u0 K (arg x) 239):aa prog 217 [pA a0,arg x] u0 K:=VC [3,4,6] [] [] [] [] [] [] func217 h
def oR{x:El}{a0:Option Addr}{u0:Mem}{K:Kq}(h:D.Pp a0 u0 K (arg x) 239):aa prog 217 [pA a0,arg x] u0 K:=VC [3,4,6] [] [] [] [] [] [24] func217 h
def ko:=mE.ko dm vG oR
def gX{a0:Option Addr}{u0:Mem}{K:Kq}(h:D.own a0 u0 K):aa prog 240 [pA a0] u0 K:=VC [] [] [] [] [] [] [] func240 h
def lR{x:El}{a0:Option Addr}{u0:Mem}{K:Kq}(h:D.put a0 u0 K (pv x) (arg x) 239 240):aa prog 202 [pA a0,arg x] u0 K:=VC [3] [(9,⟨[(7,.one (.raw (.int .i64)))],[]⟩)] [] [] [] [] [23,32,43,48,57] func202 h
def fX:=mE.fX dm gX lR
def lU{x:El}{a0:Option Addr}{u0:Mem}{K:Kq}(h:D.drop a0 u0 K (arg x) 239 240):aa prog 219 [pA a0,arg x] u0 K:=VC [3] [(8,⟨[(7,.one (.raw (.int .i64)))],[]⟩)] [] [] [] [] [26,34,39,49,53,56] func219 h
def gC:=mE.gC dm gX lU
def lS{fl:Fl}{l:Lq}{u0:Mem}{K:Kq}(h:D.new u0 K 202 l):aa prog 151 [.list 10 fl l] u0 K:=VC [5] [(3,⟨[(10,.one (.raw (.int .i64)))],[]⟩)] [] [] [] [] [] func151 h
def gB:=mE.gB fX lS
def lT{a0:Option Addr}{i:Int}{g:Fn}{j r:List PV}{u0:Mem}{K:Kq}(h:D.from_ a0 u0 K i g j r):aa prog 254 [pA a0,pI i,.fn g j r] u0 K:=VC [] [(3,⟨[(7,.one (.raw (.int .i64)))],[]⟩)] [] [] [] [] [] func254 h
def lV{a0:Fn}{i j g:List PV}{u0:Mem}{K:Kq}(h:D.zO u0 K 254 a0 i j g):aa prog 253 [.fn a0 i j,.bt g 0] u0 K:=VC [] [] [] [] [] [] [] func253 h
@[reducible] def rp(b:Nat):PV:=.fn (.func 253) [] [.bt [pP b 0] 0]
theorem qc(b:Nat):Pure prog 216 [pP b 0] (rp b):=av.of (dZ.c rfl)
def eG(b:Nat)(l:List El)(L:l.length<=4000000000000000000):iI prog (rp b) (l.map λx=>[arg x]) (At b l) (At b l):=mE.eG lV lT b l L
@[reducible] noncomputable def M:MD:=⟨D,283,303,1,9,218,λQ=>∃x,Q [pI x],λr=>r.headD .aU,λQ=>∃J I H i G h C A g y w j,Q [pI J,pB I,pS H,.list 6 i G,.list 6 h C,pB A,.list 7 g y,pI w,pA j],.agg,[pI (0),pB false,pS ⟨#[]⟩,.list 6 .nil [],.list 6 .nil [],pB false,.list 7 .nil [],pI (0),pA none]⟩
abbrev cy(m:Nat)(l:List El):aO:=dS M pv m l
def cAt(k:KY):Pure prog 218 [cY k] (arg (k,z)):=av.of (ia.c rfl)
def Hr:MOk M pv arg pk cY pl gN z key ck:=⟨mE,λ_ _=>rfl,λ_=>rfl,λ_=>rfl,λ_=>rfl,λk Q h=>⟨_,h⟩,λ_=>rfl,λv Q h=>⟨_,_,_,_,_,_,_,_,_,_,_,_,h⟩,λ_=>rfl,λ_=>rfl,λQ h=>⟨_,_,_,_,_,_,_,_,_,_,_,_,_,h⟩,λQ h=>⟨_,_,_,_,_,_,_,_,_,_,_,_,h⟩,rfl,rfl,by decide,cAt,λ_ _ _ _ h=>h,λ_ _ _=>rfl⟩
def tH{k:KY}{a0:Option Addr}{u0:Mem}{K:Kq}(h:M.get a0 u0 K (cY k) 217):aa prog 182 [pA a0,cY k] u0 K:=VC [4,6] [] [(5,⟨[(7,.one (.raw .ptr)),(8,.one (.raw .bool))],[]⟩)] [] [] [] [] func182 h
def jx:=Hr.jx ko tH
def tF{k:KY}{v:VL}{a0:Option Addr}{u0:Mem}{K:Kq}(h:M.put a0 u0 K (cY k) 217 202 219 (arg (k,v)) (pl v)):aa prog 169 [pA a0,cY k,gN v] u0 K:=VC [5] [] [(4,⟨[(7,.one (.raw .ptr)),(8,.one (.raw .bool))],[]⟩)] [] [] [] [] func169 h
def nh:=Hr.nh ko fX gC tF
def oQ{k:KY}{a0:Option Addr}{u0:Mem}{K:Kq}(h:M.drop a0 u0 K (cY k) 217 219):aa prog 183 [pA a0,cY k] u0 K:=VC [4,6] [] [(5,⟨[(7,.one (.raw .ptr)),(8,.one (.raw .bool))],[]⟩),(7,⟨[],[]⟩)] [] [] [] [] func183 h
def kH:=Hr.kH ko gC oQ
def tG{u0:Mem}{K:Kq}(h:M.new u0 K 151):aa prog 99 [] u0 K:=VC [] [] [] [] [] [] [] func99 h
def Cq:=MD.gB (M:=M) (pr:=pv) tG λ_ _ h _ g=>gB h .nil [] (by simp) g
def Bt{f:Fn}{i g j:List PV}{u0:Mem}{K:Kq}(h:M.zO u0 K 216 f i g j):aa prog 215 [.fn f i g,.bt j 0] u0 K:=VC [3] [] [] [(11,[281])] [] [] [] func215 h
@[reducible] def zg(m:Nat):PV:=.fn (.func 215) [] [.bt [pP m 0] 0]
def rm(m:Nat):Pure prog 167 [pP m 0] (zg m):=av.of (fZ.c rfl)
def fI(m:Nat)(l:List El)(g:l.length<=4000000000000000000):iI prog (zg m) (l.map λx=>[cY x.1,gN x.2]) (cy m l) (cy m l):=Hr.fI Bt qc eG m l g
end AM
def cO(l:List Test):List Test:=l.filter λt=>aG t.var ⟨#[]⟩
def bz(c:ae):ae:=.mk 1 c.goal ⟨#[]⟩ (cO c.attr) (cO c.value) c.acc []
def Ya(c:ae):ae:=.mk c.kind c.goal ⟨#[120]⟩ c.attr c.value c.acc c.conds
def bj(c:ae)(e:aj):Bool:=(dg (Ya c) e []).isSome
def AQ(l:List Test):(cO l).length<=l.length:=length_filter_le _ _
def Cw{c:ae}(h:cU c):cU (bz c):=by
 obtain⟨_,w,r,j,i,_⟩:=(bJ c).1 h;have a:=AQ c.attr;have b:=AQ c.value;refine(bJ _).2 ⟨by show(⟨#[]⟩:ByteArray).size<=100;decide,le_trans a w,le_trans b r,λt g=>j t (mem_filter.1 g).1,λt g=>i t (mem_filter.1 g).1,trivial⟩
structure E_(c:ae):Prop where
 kind:c.kind=1
 id:c.id=⟨#[]⟩
 conds:c.conds=[]
 vM:cU c
def EY{c:ae}(h:cU c):E_ (bz c):=⟨rfl,rfl,rfl,Cw h⟩
def E_.eq{c d:ae}(hc:E_ c)(g:E_ d)(r:c.goal=d.goal)(j:c.acc=d.acc)(i:c.attr=d.attr)(h:c.value=d.value):c=d:=
 Aw (hc.kind.trans g.kind.symm) r (hc.id.trans g.id.symm) i h j (hc.conds.trans g.conds.symm)
structure eF where
 c:ae
 aN:Int
 b:Nat
 l:List aj
def eF.adw(m:eF):Qf:=⟨m.c,m.aN,some ⟨m.b,0,none⟩⟩
abbrev dq:=List (Int×eF)
def nE(e:aj):AE.El:=(e.tag,e)
def jc(x:Int×eF):AM.El:=(x.1,x.2.adw)
def dA(x:Int×eF):aO:=AT.At x.2.b x.2.l
def aF(e:aj):Int:=e.tag
def bU(x:Int×eF):Int:=x.1
def bH(n:Nat)(es:List aj)(ms:dq):aO:=λμ=>∃me mm,Ow (Pt n 198 [pP me 0,pP mm 0]::AE.cy me (es.map nE)::AM.cy mm (ms.map jc)::ms.map dA) μ
theorem bH.open_{n:Nat}{es:List aj}{ms:dq}{L:List aO}{μ:Mem}(h:Ow (bH n es ms::L) μ):∃me mm,Ow (Pt n 198 [pP me 0,pP mm 0]::AE.cy me (es.map nE)::AM.cy mm (ms.map jc)::(ms.map dA++L)) μ:=by
 obtain⟨me,h⟩:=Ow.ex h;obtain⟨mm,h⟩:=Ow.ex h;exact⟨me,mm,h.nest⟩
theorem bH.shut{n me mm:Nat}{es:List aj}{ms:dq}{L:List aO}{μ:Mem}(h:Ow (Pt n 198 [pP me 0,pP mm 0]::AE.cy me (es.map nE)::AM.cy mm (ms.map jc)::(ms.map dA++L)) μ):Ow (bH n es ms::L) μ:=
 (Ow.pack (L1:=Pt n 198 [pP me 0,pP mm 0]::AE.cy me (es.map nE)::AM.cy mm (ms.map jc)::ms.map dA) h).imp λ_ hν=>⟨me,mm,hν⟩
structure dE(es:List aj)(ms:dq):Prop where
 xD:ch aw aF es
 nD:ch aw bU ms
 has:∀x∈ms,x.2.l=es.filter (bj x.2.c)
 bare:∀x∈ms,E_ x.2.c
 num:∀x∈ms,0<=x.1/\x.1<1000000
 aN:∀x∈ms,1<=x.2.aN/\x.2.aN<1000000
 inj:∀x∈ms,∀y∈ms,x.2.c=y.2.c->x=y
 le:es.length<1000000
 lm:ms.length<1000000
theorem dE.ue{es:List aj}{ms:dq}(h:dE es ms):ch AE.ck AE.key (es.map nE):=ch.map h.xD
theorem dE.um{es:List aj}{ms:dq}(h:dE es ms):ch AM.ck AM.key (ms.map jc):=ch.map h.nD
theorem dE.ul{es:List aj}{ms:dq}(h:dE es ms){x:Int×eF}(hx:x∈ms):ch AT.ck AT.key x.2.l/\x.2.l.length<1000000:=by
 rw[h.has x hx];exact⟨ch.filter h.xD _,Nat.lt_of_le_of_lt (length_filter_le _ _) h.le⟩
def dE.nil:dE [] []:=⟨Pairwise.nil,Pairwise.nil,by simp,by simp,by simp,by simp,by simp,by simp,by simp⟩
def least(g:dq):Int:=g.foldl (λa x=>if x.1=a then a+1 else a) 0
def BJ{g:dq}{k:Nat}(h:k<g.length):least (g.take (k+1))=if g[k].1=least (g.take k)then least (g.take k)+1 else least (g.take k):=by
 unfold least;rw[take_add_one,getElem?_eq_getElem h,List.foldl_append];rfl
def BK:∀(g:dq),ch aw bU g->(∀x∈g,0<=x.1)->0<=least g/\least g<=g.length/\(∀j:Int,0<=j->j<least g->∃x∈g,x.1=j)/\∀x∈g,x.1≠least g:=by
 intro g L h0;have key:∀k,k<=g.length->0<=least (g.take k)/\least (g.take k)<=k/\(∀j:Int,0<=j->j<least (g.take k)->∃x∈g.take k,x.1=j)/\(∀x∈g.take k,x.1≠least (g.take k)):=by
  intro k;induction k with
  |zero=>
   intro _;refine⟨by simp[least],by simp[least],λj y A=>?_,by simp⟩;have:least (g.take 0)=0:=rfl;omega
  |succ k H=>
   intro hk;obtain⟨J,i2,G,I⟩:=H (by omega);have C:k<g.length:=by omega
   have w:∀x,x∈g.take (k+1)↔x∈g.take k\/x=g[k]:=λx=>by
    rw[take_add_one,getElem?_eq_getElem C,List.mem_append];simp
   have Y:∀x∈g.take k,x.1<g[k].1:=λx r=>by
    obtain⟨i,U,rfl⟩:=List.mem_iff_getElem.1 r;rw[List.getElem_take];simp only[length_take]at U;have:=List.pairwise_iff_getElem.1 L i k (by omega) C (by omega);exact wq.1 this
   rw[BJ C];split
   .rename_i e;refine⟨by omega,by omega,λj y A=>?_,λx r=>?_⟩
    .by_cases Q:j<least (g.take k)
     .obtain⟨x,r,ex⟩:=G j y Q;exact⟨x,(w x).2 (.inl r),ex⟩
     .exact⟨g[k],(w _).2 (.inr rfl),by omega⟩
    .rcases(w x).1 r with h|rfl
     .have:=Y x h;omega
     .omega
   .rename_i e;refine⟨J,by omega,λj y A=>?_,λx r=>?_⟩
    .obtain⟨x,r,ex⟩:=G j y A;exact⟨x,(w x).2 (.inl r),ex⟩
    .rcases(w x).1 r with h|rfl
     .exact I x h
     .exact e
 have:=key g.length (Nat.le_refl _);rw[take_length]at this;exact this
def HX{es:List aj}{g:dq}(w:dE es g){x x':Int×eF}(i:x∈g)(r:x'.1=x.1)(j:dA x'=dA x):(aZ aw bU x' g).map dA=g.map dA:=by
 obtain⟨A,B,e,_,h⟩:=w.nD.at_ ar i;have y:=h x' r;rw[y]
 conv=>rhs;rw[e]
 simp[j]
def dE.del{es:List aj}{j:dq}(h:dE es j)(k:Int):dE es (bu aw bU k j):=by
 have i:∀x,x∈bu aw bU k j->x∈j:=λx g=>(mem_filter.1 g).1;exact⟨h.xD,h.nD.del k,λx g=>h.has x (i x g),λx g=>h.bare x (i x g),λx g=>h.num x (i x g),λx g=>h.aN x (i x g),λx g y r=>h.inj x (i x g) y (i y r),h.le,Nat.lt_of_le_of_lt rh h.lm⟩
theorem dE.jd{es:List aj}{ms:dq}(h:dE es ms){x x':Int×eF}(hx:x∈ms)(hk:x'.1=x.1)(hc:x'.2.c=x.2.c)(hl:x'.2.l=x.2.l)(hu:1<=x'.2.aN/\x'.2.aN<1000000):dE es (aZ aw bU x' ms):=by
 obtain⟨A,B,e,_,h2⟩:=h.nD.at_ ar hx;have hi:=h2 x' hk;have hm:∀y,y∈aZ aw bU x' ms->y=x'\/y∈ms:=λy hy=>((bq ar).1 hy).imp id λh=>h.1
 have hlen:(aZ aw bU x' ms).length=ms.length:=by rw[hi];conv=>rhs;rw[e]
                                                 simp
 refine⟨h.xD,h.nD.ins ar x',λy hy=>?_,λy hy=>?_,λy hy=>?_,λy hy=>?_,λy hy z hz e'=>?_,h.le,by rw[hlen];exact h.lm⟩
 .rcases hm y hy with rfl|hy
  .rw[hl,hc];exact h.has x hx
  .exact h.has y hy
 .rcases hm y hy with rfl|hy
  .rw[hc];exact h.bare x hx
  .exact h.bare y hy
 .rcases hm y hy with rfl|hy
  .rw[hk];exact h.num x hx
  .exact h.num y hy
 .rcases hm y hy with rfl|hy
  .exact hu
  .exact h.aN y hy
 .rcases(bq ar).1 hy with ey|⟨Ni,Gc⟩<;>rcases(bq ar).1 hz with ez|⟨Sm,Wj⟩
  .rw[ey,ez]
  .rw[ey,hc]at e';have:=h.inj x hx z Sm e';exact absurd (by rw[<- this];exact hk.symm) Wj
  .rw[ez,hc]at e';have:=h.inj y Ni x hx e';exact absurd (by rw[this];exact hk.symm) Gc
  .exact h.inj y Ni z Sm e'
def dE.new{es:List aj}{i:dq}(h:dE es i){c:ae}(hc:E_ c)(A:∀x∈i,x.2.c≠c)(b:Nat)(I:i.length+1<1000000):aL aw bU (least i) i=none/\dE es (aZ aw bU (least i,⟨c,1,b,es.filter (bj c)⟩) i):=by
 obtain⟨H,J,_,G⟩:=BK i h.nD λx r=>(h.num x r).1;have j:∀y,y∈aZ aw bU (least i,⟨c,1,b,es.filter (bj c)⟩) i->y=(least i,⟨c,1,b,es.filter (bj c)⟩)\/y∈i:=λy g=>((bq ar).1 g).imp id λh=>h.1;have C:=vS (ck:=aw) (key:=bU) (x:=(least i,⟨c,1,b,es.filter (bj c)⟩)) (L:=i);refine⟨(bD ar).2 λx r=>G x r,h.xD,h.nD.ins ar _,λy g=>?_,λy g=>?_,λy g=>?_,λy g=>?_,λy g z hz w=>?_,h.le,by omega⟩
 .rcases j y g with rfl|g
  .rfl
  .exact h.has y g
 .rcases j y g with rfl|g
  .exact hc
  .exact h.bare y g
 .rcases j y g with rfl|g
  .exact⟨H,by show least i<1000000;omega⟩
  .exact h.num y g
 .rcases j y g with rfl|g
  .exact⟨by show(1:Int)<=1;omega,by show(1:Int)<1000000;omega⟩
  .exact h.aN y g
 .rcases j y g with rfl|g<;>rcases j z hz with rfl|hz
  .rfl
  .exact absurd w.symm (A z hz)
  .exact absurd w (A y g)
  .exact h.inj y g z hz w
def xU(e:aj)(x:Int×eF):Int×eF:=(x.1,{x.2 with l:=if bj x.2.c e then dB aw aF e x.2.l else x.2.l})
def pU(t:Int)(x:Int×eF):Int×eF:=(x.1,{x.2 with l:=bu aw aF t x.2.l})
def eM(e:aj)(g:dq):List Int:=(g.filter λx=>bj x.2.c e).map (·.1)
def dE.xU{es:List aj}{G:dq}(h:dE es G){e:aj}(Q:aL aw aF e.tag es=none)(U:es.length+1<1000000):dE (aZ aw aF e es) (G.map (xU e)):=by
 have C:=(bD ar).1 Q;have I:=vS (ck:=aw) (key:=aF) (x:=e) (L:=es);have A:∀y∈G.map (Go.Proofs.YthaeiehophlooaaGreat.xU e),∃x∈G,y=Go.Proofs.YthaeiehophlooaaGreat.xU e x:=λy g=>by obtain⟨x,i,rfl⟩:=mem_map.1 g;exact⟨x,i,rfl⟩
 refine⟨h.xD.ins ar e,ch.map (f:=Go.Proofs.YthaeiehophlooaaGreat.xU e) h.nD,λy g=>?_,λy g=>?_,λy g=>?_,λy g=>?_,λy g z hz Y=>?_,by omega,by simpa using h.lm⟩
 .obtain⟨x,i,rfl⟩:=A y g;show(if bj x.2.c e then dB aw aF e x.2.l else x.2.l)=_;rw[h.has x i];have UK:aL aw aF e.tag (es.filter (bj x.2.c))=none:=(bD ar).2 λy g=>C y (mem_filter.1 g).1;split
  .rename_i w;rw[dB];have:aL aw aF (aF e) (es.filter (bj x.2.c))=none:=UK;rw[this];refine ch.ext ar (ch.ins ar (h.xD.filter _) e) ((h.xD.ins ar e).filter _) λy=>?_;show y∈aZ aw aF e _↔_;rw[bq ar,mem_filter,mem_filter,bq ar];constructor
   .rintro(rfl|⟨⟨r,j⟩,H⟩)
    .exact⟨.inl rfl,w⟩
    .exact⟨.inr ⟨r,H⟩,j⟩
   .rintro⟨rfl|⟨r,H⟩,j⟩
    .exact .inl rfl
    .exact .inr ⟨⟨r,j⟩,H⟩
  .rename_i w;refine ch.ext ar (h.xD.filter _) ((h.xD.ins ar e).filter _) λy=>?_;rw[mem_filter,mem_filter,bq ar];constructor
   .rintro⟨r,j⟩;exact⟨.inr ⟨r,C y r⟩,j⟩
   .rintro⟨rfl|⟨r,H⟩,j⟩
    .exact absurd j w
    .exact⟨r,j⟩
 .obtain⟨x,i,rfl⟩:=A y g;exact h.bare x i
 .obtain⟨x,i,rfl⟩:=A y g;exact h.num x i
 .obtain⟨x,i,rfl⟩:=A y g;exact h.aN x i
 .obtain⟨x,i,rfl⟩:=A y g;obtain⟨J,Kf,rfl⟩:=A z hz;rw[h.inj x i J Kf Y]
def dE.pU{es:List aj}{r:dq}(h:dE es r)(t:Int):dE (bu aw aF t es) (r.map (pU t)):=by
 have j:∀y∈r.map (Go.Proofs.YthaeiehophlooaaGreat.pU t),∃x∈r,y=Go.Proofs.YthaeiehophlooaaGreat.pU t x:=λy g=>by obtain⟨x,i,rfl⟩:=mem_map.1 g;exact⟨x,i,rfl⟩
 refine⟨h.xD.del t,ch.map (f:=Go.Proofs.YthaeiehophlooaaGreat.pU t) h.nD,λy g=>?_,λy g=>?_,λy g=>?_,λy g=>?_,λy g z hz A=>?_,Nat.lt_of_le_of_lt rh h.le,by simpa using h.lm⟩
 .obtain⟨x,i,rfl⟩:=j y g;show bu aw aF t x.2.l=_;rw[h.has x i];unfold bu;rw[List.filter_filter,List.filter_filter];exact List.filter_congr λy _=>Bool.and_comm _ _
 .obtain⟨x,i,rfl⟩:=j y g;exact h.bare x i
 .obtain⟨x,i,rfl⟩:=j y g;exact h.num x i
 .obtain⟨x,i,rfl⟩:=j y g;exact h.aN x i
 .obtain⟨x,i,rfl⟩:=j y g;obtain⟨w,C,rfl⟩:=j z hz;rw[h.inj x i w C A]
@[reducible] def cc(c:ae):List PV:=[pI c.kind,pB c.goal,pS c.id,.list 6 .sh (c.attr.map Test.pv),.list 6 .sh (c.value.map Test.pv),pB c.acc,.list 7 .sh (c.conds.map ae.pv)]
def HP{l:List Test}{k:Nat}(g:k<l.length):cO (l.take (k+1))=cO (l.take k)++(if aG l[k].var ⟨#[]⟩=true then[l[k]]else[]):=by
 unfold cO;rw[take_add_one,getElem?_eq_getElem g,List.filter_append];congr 1;simp only[toList_some,List.filter_cons,List.filter_nil]
def Es{l:List Test}(h:∀t∈l,oW t):∀t∈l,t.list.length<=1000:=λt g=>by have:=(h t g).1;omega
def YK(f g:Fl)(l m:List Test)(hl:l.length<=1000000)(Y:∀t∈l,t.list.length<=1000000):bQ 168 [.list 6 f (l.map Test.pv),.list 6 g (m.map Test.pv)] (l=m):=by
 refine av.of (Hn.c (ab.mk (λh=>bQ.no (pM h)) (λh=>?_)));refine iX (l:=l) (m:=m) (n:=l.length) rfl (ng h) (by omega) (λk A bZ u next U r=>?_) (λu next e=>ab.f (by simp) (bQ.yes e));refine ab.t (by simpa using A) ⟨by omega,_,aA A,_,_,_,_,_,_,_,rfl,by omega,_,aA bZ,_,_,_,_,_,_,_,rfl,ab.mk (λy=>bQ.no (r λe=>?_)) (λy=>ab.mk (λw=>bQ.no (r λe=>?_)) (λw=>ab.mk (λH=>bQ.no (r λe=>?_)) (λH=>ab.mk (λG=>bQ.no (r λe=>?_)) (λG=>?_))))⟩
 .rw[e]at y;simp at y
 .rw[e,fH]at w;cases w
 .have j:fu l[k].sym m[k].sym=false:=nb H;rw[cH.2 (by rw[e])]at j;cases j
 .exact absurd (by rw[e]) (pM G)
 .have Gk:=Y _ (getElem_mem A);refine iX (l:=l[k].list) (m:=m[k].list) (n:=l[k].list.length) rfl (ng G) (by omega) (λi I L J Q Ni Sx=>?_) (λJ Q e=>ab.f (by simp) (U (Fk (by simpa using y) (bM.1 (nt w)) (cH.1 (nt H)) e) _));refine ab.t (by simpa using I) ⟨by omega,_,aA I,_,_,_,rfl,by omega,_,aA L,_,_,_,rfl,ab.mk (λC=>bQ.no (r λe=>Sx (λe'=>?_) (by rw[e]))) (λC=>Ni (cH.1 (nt C)) _)⟩;have j:fu l[k].list[i] m[k].list[i]=false:=nb C;rw[cH.2 e']at j;cases j
def TP(c:ae)(e:aj)(fa fv fc:Fl)(g:cU c):Pure prog 172 [.agg [pI c.kind,pB c.goal,pS c.id,.list 6 fa (c.attr.map Test.pv),.list 6 fv (c.value.map Test.pv),pB c.acc,.list 7 fc (c.conds.map ae.pv)],.agg e.pv] (pB (bj c e)):=by
 obtain⟨_,w,j,i,h,_⟩:=(bJ c).1 g;refine av.of (DH.c ?_);refine(Ua .sh .sh .sh .nil (Ya c) e [] (by show 0+1+c.attr.length+c.value.length<=1000000;omega) (cD i) (cD h)).call ?_;unfold bj;cases dg (Ya c) e []with
 |none=>exact⟨_,_,_,rfl,rfl⟩
 |some r=>exact⟨_,_,_,rfl,rfl⟩
theorem afB{L:List aO}{μ:Mem}(hO:Ow L μ){K:Kq}(hk:∀μ' n,Ow (bH n [] []::L) μ'->K (pP n 0) μ'):aa prog 47 [] μ K:=by
 refine JZ.c (AE.Cq hO λu1 me h1=>⟨_,rfl,AM.Cq h1 λu2 mm h2=>⟨_,rfl,λn hn=>hk _ n ?_⟩⟩);exact bH.shut (ms:=[]) ((h2.swap.new 198 [pP me 0,pP mm 0] hn))
theorem tI{n me mm:Nat}{es:List aj}{ms:dq}{L:List aO}{μ:Mem}(h:Ow (AM.cy mm (ms.map jc)::(Pt n 198 [pP me 0,pP mm 0]::AE.cy me (es.map nE)::(ms.map dA++L))) μ):Ow (bH n es ms::L) μ:=bH.shut (h.swap.tail λ_ h=>h.swap)
theorem getM(k:Int)(ms:dq):aL AM.ck AM.key (AM.key (k,AM.z)) (ms.map jc)=(aL aw bU k ms).map jc:=oa
theorem Pq(t:Int)(es:List aj):aL AE.ck AE.key (AE.key (t,AE.z)) (es.map nE)=(aL aw aF t es).map nE:=oa
def map_none{g i:Type}{f:g->i}{o:Option g}(h:o.map f=none):o=none:=by
 cases o with
 |none=>rfl
 |some x=>cases h
def jG(k:Int)(g:dq):dq:=
 match aL aw bU k g with
 |none=>g
 |some x=>if x.2.aN=1 then bu aw bU k g else aZ aw bU (k,{x.2 with aN:=x.2.aN-1}) g
def dE.leave{es:List aj}{g:dq}(h:dE es g)(k:Int):dE es (jG k g):=by
 unfold jG;split
 .exact h
 .rename_i x j;obtain⟨i,r⟩:=(bf ar h.nD).1 j;have w:=h.aN x i;split
  .exact h.del k
  .exact h.jd i (x':=(k,{x.2 with aN:=x.2.aN-1})) r.symm rfl rfl ⟨by show 1<=x.2.aN-1;omega,by show x.2.aN-1<1000000;omega⟩
theorem Xn{L:List aO}{μ:Mem}{n:Nat}{es:List aj}{ms:dq}(hO:Ow (bH n es ms::L) μ)(hI:dE es ms)(k:Int){K:Kq}(hk:∀μ',Ow (bH n es (jG k ms)::L) μ'->K (pB (aL aw bU k ms).isSome) μ'):aa prog 119 [pP n 0,pI k] μ K:=by
 obtain⟨me,mm,h⟩:=bH.open_ hO;have hlm:=hI.lm;refine xo.c ⟨_,h.rd 0 rfl (by simp),AM.jx (Ow.at 2 rfl h) hI.um (by simp;omega) k (λy μ' hy h'=>?_) (λμ' hy h'=>?_)⟩
 .rw[getM]at hy;obtain⟨x,hx,rfl⟩:=map_eq_some_iff.1 hy;obtain⟨Am,hxk⟩:=(bf ar hI.nD).1 hx;have Pb:=hI.aN x Am;have hw:wrap .i64 (x.2.aN-1)=x.2.aN-1:=aD (by omega) (by omega);refine⟨_,_,_,_,_,_,_,_,_,_,_,_,_,rfl,ab.f rfl (ab.mk (λh1=>?_) (λh1=>?_))⟩
  .have h1:x.2.aN=1:=by
    have:wrap .i64 (x.2.aN-1)=0:=by simpa[jc,eF.adw]using h1
    omega
   refine⟨_,h'.rd 1 rfl (by simp),AM.kH h' hI.um (by simp;omega) k (λy2 μ2 Gc h2=>?_) (λμ2 Gc h2=>?_)⟩
   .refine⟨_,_,_,_,_,_,_,_,_,_,_,_,_,rfl,?_⟩;have:=hk μ2;rw[hx]at this;refine this ?_;have e1:jG k ms=bu aw bU k ms:=by unfold jG;rw[hx];exact if_pos h1
    rw[e1];obtain⟨A,B,e,ed,_⟩:=hI.nD.at_ ar Am;have adP:bU x=k:=hxk;rw[adP]at ed;refine tI (mm:=mm) (me:=me) ?_;have hdm:bu AM.ck AM.key (AM.key (k,AM.z)) (ms.map jc)=(bu aw bU k ms).map jc:=wo;rw[hdm]at h2;have e2:ms.map dA=A.map dA++dA x::B.map dA:=by rw[e];simp
    rw[e2]at h2;have h3:=(Ow.pick (P:=[AM.cy mm ((bu aw bU k ms).map jc),Pt n 198 [pP me 0,pP mm 0],AE.cy me (es.map nE)]) h2).drop;have e3:(bu aw bU k ms).map dA=A.map dA++B.map dA:=by rw[ed,map_append]
    rw[e3];exact h3
   .rw[getM,hx]at Gc;cases Gc
  .have h1:x.2.aN≠1:=λe=>by
    have Hx:(wrap .i64 (x.2.aN-1) == 0)=false:=h1;rw[hw,e]at Hx;simp at Hx
   refine⟨_,h'.rd 1 rfl (by simp),?_⟩;show aa _ _ [pP mm 0,pI k,.agg [_,_,_,_,_,_,_,pI (wrap .i64 (x.2.aN-1)),_]] _ _;rw[hw];refine AM.nh h' hI.um (by simp;omega) k ⟨x.2.c,x.2.aN-1,some ⟨x.2.b,0,none⟩⟩ λμ2 h2=>⟨_,rfl,?_⟩;have:=hk μ2;rw[hx]at this;refine this ?_;have e1:jG k ms=aZ aw bU (k,{x.2 with aN:=x.2.aN-1}) ms:=by unfold jG;rw[hx];exact if_neg h1
   rw[e1];refine tI (mm:=mm) (me:=me) ?_;rw[HX hI Am (x':=(k,{x.2 with aN:=x.2.aN-1})) hxk.symm rfl];have e2:aZ AM.ck AM.key (k,⟨x.2.c,x.2.aN-1,some ⟨x.2.b,0,none⟩⟩) (ms.map jc)=(aZ aw bU (k,{x.2 with aN:=x.2.aN-1}) ms).map jc:=l_ (f:=jc) (x:=(k,{x.2 with aN:=x.2.aN-1}));rw[e2]at h2;exact h2
 .rw[getM]at hy;have hx:=map_none hy;refine⟨_,_,_,_,_,_,_,_,_,_,_,_,_,rfl,ab.t rfl ?_⟩;have:=hk μ';rw[hx]at this;refine this ?_;have e1:jG k ms=ms:=by unfold jG;rw[hx]
  rw[e1];exact tI h'
@[reducible] def gu(k:Int):List PV:=[pI k]
@[reducible] def z12:List PV:=[pI 0,pS ⟨#[]⟩,pI 0,pI 0,pS ⟨#[]⟩,pI 0,pI 0,pS ⟨#[]⟩,pI 0,pB false,pB false,pI 0]
def BT{e:aj}{g:dq}{k:Nat}(h:k<g.length):eM e (g.take (k+1))=eM e (g.take k)++(if bj g[k].2.c e=true then[g[k].1]else[]):=by
 unfold eM;rw[take_add_one,getElem?_eq_getElem h,List.filter_append,map_append];congr 1;simp only[toList_some,List.filter_cons,List.filter_nil];split<;>rfl
def rP(e:aj)(g:dq):(eM e g).length<=g.length:=by
 unfold eM;rw[length_map];exact length_filter_le _ _
def Az{f:Int×eF->Int×eF}{g:dq}{k:Nat}(h:k<g.length):((g.take k).map f++g.drop k).map dA=((g.take k).map f).map dA++dA g[k]::(g.drop (k+1)).map dA:=by
 rw[map_append,List.drop_eq_getElem_cons h,List.map_cons]
def Af{f:Int×eF->Int×eF}{g:dq}{k:Nat}(h:k<g.length):((g.take (k+1)).map f++g.drop (k+1)).map dA=((g.take k).map f).map dA++dA (f g[k])::(g.drop (k+1)).map dA:=by
 have e:(g.take (k+1)).map f=(g.take k).map f++[f g[k]]:=eZ h;rw[e,map_append,map_append,List.append_assoc];rfl
theorem VJ(e:aj)(ms:dq):(ms.map (xU e)).map jc=ms.map jc:=by rw[map_map];rfl
theorem Ry(t:Int)(ms:dq):(ms.map (pU t)).map jc=ms.map jc:=by rw[map_map];rfl
theorem afA{L:List aO}{μ:Mem}{n:Nat}{es:List aj}{ms:dq}(hO:Ow (bH n es ms::L) μ)(hI:dE es ms)(e:aj){K:Kq}
  (jJ:(aL aw aF e.tag es).isSome=true->∀μ',Ow (bH n es ms::L) μ'->K (.aB [.list 1 .nil [],pI 3]) μ')
  (Gl:aL aw aF e.tag es=none->∀μ' fl,Ow (bH n (aZ aw aF e es) (ms.map (xU e))::L) μ'->K (.aB [.list 1 fl ((eM e ms).map gu),pI 0]) μ'):aa prog 136 [pP n 0,.agg e.pv] μ K:=by
 obtain⟨me,mm,h⟩:=bH.open_ hO;have hlm:=hI.lm;have hle:=hI.le;refine Ac.c λb3 Hw=>?_;have O1:=h.new 88 e.pv Hw;refine⟨λs u=>aL aw aF e.tag es=none/\Ow (Pt b3 88 e.pv::Pt n 198 [pP me 0,pP mm 0]::AE.cy me (es.map nE)::AM.cy mm (ms.map jc)::(ms.map dA++L)) u,?_,?_⟩
 .have fin:∀{cs:List PV} {b6:Nat} {u:Mem} {q:Bool},Ow (Pt b6 88 cs::Pt b3 88 e.pv::Pt n 198 [pP me 0,pP mm 0]::AE.cy me (es.map nE)::AM.cy mm (ms.map jc)::(ms.map dA++L)) u->(q=true->(aL aw aF e.tag es).isSome=true)->(q=false->aL aw aF e.tag es=none)->ab q (K (.aB [.list 1 .nil [],pI 3]) u) (aL aw aF e.tag es=none/\Ow (Pt b3 88 e.pv::Pt n 198 [pP me 0,pP mm 0]::AE.cy me (es.map nE)::AM.cy mm (ms.map jc)::(ms.map dA++L)) u):=λ{cs b6 u q} hO h1 h2=>
   ab.mk (λhq=>jJ (h1 hq) u (bH.shut hO.drop.drop)) (λhq=>⟨h2 hq,hO.drop⟩)
  refine⟨_,O1.rd 1 rfl (by simp),_,O1.rd 0 rfl (by simp),?_,λb6 Gp=>?_⟩
  .refine AE.jx (Ow.at 2 rfl O1) hI.ue (by simp;omega) e.tag (λy μ' hy h'=>?_) (λμ' hy h'=>?_)
   .refine⟨_,_,_,_,_,_,_,_,_,_,_,_,_,rfl,λb6 Gp=>((h'.swap.tail λ_ h=>h.swap).new 88 z12 Gp).st 0 rfl (by simp) λu2 h2=>fin h2 (λ_=>?_) (λhq=>by cases hq)⟩;rw[Pq]at hy;cases hx:aL aw aF e.tag es with
    |none=>rw[hx]at hy;cases hy
    |some x=>rfl
   .refine⟨_,_,_,_,_,_,_,_,_,_,_,_,_,rfl,λb6 Gp=>((h'.swap.tail λ_ h=>h.swap).new 88 z12 Gp).st 0 rfl (by simp) λu2 h2=>fin h2 (λhq=>by cases hq) (λ_=>?_)⟩;rw[Pq]at hy;exact map_none hy
  .have O2:=O1.new 88 z12 Gp;refine AE.jx (Ow.at 3 rfl O2) hI.ue (by simp;omega) e.tag (λy μ' hy h'=>?_) (λμ' hy h'=>?_)
   .refine⟨_,_,_,_,_,_,_,_,_,_,_,_,_,rfl,(Ow.at 1 rfl h').st 0 rfl (by simp) λu2 h2=>fin (h2.tail λ_ h=>h.swap.tail λ_ h=>h.swap) (λ_=>?_) (λhq=>by cases hq)⟩;rw[Pq]at hy;cases hx:aL aw aF e.tag es with
    |none=>rw[hx]at hy;cases hy
    |some x=>rfl
   .refine⟨_,_,_,_,_,_,_,_,_,_,_,_,_,rfl,(Ow.at 1 rfl h').st 0 rfl (by simp) λu2 h2=>fin (h2.tail λ_ h=>h.swap.tail λ_ h=>h.swap) (λhq=>by cases hq) (λ_=>?_)⟩;rw[Pq]at hy;exact map_none hy
 .rintro⟨⟨_,_⟩,_⟩ u ⟨hn,hO⟩;refine⟨_,hO.rd 1 rfl (by simp),_,hO.rd 0 rfl (by simp),_,_,_,_,_,_,_,_,_,_,_,_,hO.rd 0 rfl (by simp),?_⟩;refine AE.nh (Ow.at 2 rfl hO) hI.ue (by simp;omega) e.tag e λu1 h1=>⟨_,rfl,λb8 Pk=>?_⟩;have e1:aZ AE.ck AE.key (e.tag,e) (es.map nE)=(aZ aw aF e es).map nE:=l_ (f:=nE) (x:=e);rw[e1]at h1;have h2:=h1.new 51 [.list 1 .nil []] Pk;refine⟨_,h2.rd 3 rfl (by simp),(AM.rm mm).call ⟨_,_,_,rfl,?_⟩⟩;have n_:((ms.map jc).map λx=>[AM.cY x.1,AM.gN x.2]).length=ms.length:=by simp
  refine bk.own (AM.fI mm (ms.map jc) (by simp;omega)) (Ow.at 4 rfl h2)
   (λk u=>∃fl,Ow (Pt b8 51 [.list 1 fl ((eM e (ms.take k)).map gu)]::eX fl (eM e (ms.take k)).length 1::Pt b3 88 e.pv::AM.cy mm (ms.map jc)::AE.cy me ((aZ aw aF e es).map nE)::Pt n 198 [pP me 0,pP mm 0]::(((ms.take k).map (xU e)++ms.drop k).map dA++L)) u)
   (λ_ _=>False) (λk=>eW.ex λ_=>eW.own _) (λ_ _ _ _ h=>h.elim) (λμ' h'=>⟨.nil,?_⟩) ?_ ?_ ?_
  .have h3:Ow (Pt b8 51 [.list 1 .nil []]::Pt b3 88 e.pv::AM.cy mm (ms.map jc)::AE.cy me ((aZ aw aF e es).map nE)::Pt n 198 [pP me 0,pP mm 0]::(ms.map dA++L)) μ':=by
    have a1:=h'.swap;refine a1.tail λ_ h=>?_;have a2:=(Ow.at 2 rfl h);exact a2
   refine h3.tail λ_ h=>Ow.nil ?_ (.inl rfl);simpa using h
  .rintro k hk u R ⟨fl,hO⟩ bT _;have bZ:k<ms.length:=by simpa using hk
   have Am:ms[k]∈ms:=getElem_mem bZ;have hb:=(hI.bare _ Am).vM;have Ye:=hI.ul Am;have hht:=BT (e:=e) bZ;have bK:=rP e (ms.take k);rw[length_take]at bK;rw[getElem_map,getElem_map];rw[Az bZ]at hO;have gy:=Ow.pick (P:=[Pt b8 51 [.list 1 fl ((eM e (ms.take k)).map gu)],eX fl (eM e (ms.take k)).length 1,Pt b3 88 e.pv,AM.cy mm (ms.map jc),AE.cy me ((aZ aw aF e es).map nE),Pt n 198 [pP me 0,pP mm 0]]) hO;refine⟨_,_,_,_,_,_,_,_,_,_,_,_,_,rfl,_,_,_,_,_,_,_,_,_,_,_,_,hO.rd 2 rfl (by simp),(TP ms[k].2.c e .sh .sh .sh hb).call ⟨_,rfl,ab.mk (λhm=>?_) (λhm=>?_)⟩⟩
   .refine⟨_,_,_,_,_,_,_,_,_,_,_,_,hO.rd 2 rfl (by simp),AT.fX (l:=ms[k].2.l) gy Ye.1 (by omega) e λu3 h3=>⟨_,rfl,_,_,h3.rd 1 rfl (by simp),?_⟩⟩;have hs:dA (xU e ms[k])=AT.At ms[k].2.b (dB AT.ck AT.key e ms[k].2.l):=by
     show AT.At ms[k].2.b (if bj ms[k].2.c e then _ else _)=_;rw[if_pos hm];rfl
    have h4:=(Ow.at 2 rfl h3);refine Ow.app h4 (by simp) (by simp;omega) (by simp;omega) λf' u4 h5=>?_;refine h5.st 2 rfl (by simp) λu6 h6=>bT _ ⟨f',?_⟩;rw[Af bZ,hs,hht,if_pos hm,map_append,length_append];refine Ow.tn (P:=[Pt b8 51 [.list 1 f' ((eM e (ms.take k)).map gu++[ms[k].1].map gu)],eX f' ((eM e (ms.take k)).length+[ms[k].1].length) 1,Pt b3 88 e.pv,AM.cy mm (ms.map jc),AE.cy me ((aZ aw aF e es).map nE),Pt n 198 [pP me 0,pP mm 0]]) ?_;have h7:Ow (eX f' ((eM e (ms.take k)).length+1) 1::AT.At ms[k].2.b (dB AT.ck AT.key e ms[k].2.l)::Pt b8 51 [.list 1 f' ((eM e (ms.take k)).map gu++[[pI ms[k].1]])]::Pt b3 88 e.pv::AM.cy mm (ms.map jc)::AE.cy me ((aZ aw aF e es).map nE)::Pt n 198 [pP me 0,pP mm 0]::((((ms.take k).map (xU e)).map dA++(ms.drop (k+1)).map dA)++L)) u6:=h6;exact h7.swap.tail λ_ h=>h.swap
   .refine bT _ ⟨fl,?_⟩;have hs:dA (xU e ms[k])=dA ms[k]:=by
     show AT.At ms[k].2.b (if bj ms[k].2.c e then _ else _)=_;have sU:bj ms[k].2.c e=false:=hm;rw[if_neg (by simp[sU])];rfl
    have sU:bj ms[k].2.c e=false:=hm;rw[Af bZ,hs,hht,if_neg (by simp[sU]),append_nil];exact hO
  .rintro u ⟨fl,hO⟩;rw[n_,take_length,drop_length,append_nil]at hO;refine⟨_,_,hO.rd 0 rfl (by simp),Gl hn u fl ?_⟩;refine bH.shut (me:=me) (mm:=mm) ?_;rw[VJ];have h3:=hO.drop.drop.drop;have h4:=Ow.at 2 rfl h3;exact h4.tail λ_ h=>h.swap
  .intro _ _ h;exact h.elim
theorem Wz{es:List aj}{ms:dq}(hI:dE es ms){x:Int×eF}(hx:x∈ms){e:aj}(he:e∈es):(aL AT.ck AT.key (AT.key e) x.2.l).isSome=bj x.2.c e:=by
 rw[hI.has x hx];cases hm:bj x.2.c e with
 |true=>
  have:aL AT.ck AT.key (AT.key e) (es.filter (bj x.2.c))=some e:=(bf AT.hc (ch.filter hI.xD _)).2 ⟨mem_filter.2 ⟨he,hm⟩,rfl⟩;rw[this];rfl
 |false=>
  have:aL AT.ck AT.key (AT.key e) (es.filter (bj x.2.c))=none:=(bD AT.hc).2 λy hy ey=>by
   have Lj:=mem_filter.1 hy;have:=ch.inj ar hI.xD Lj.1 he ey;rw[this,hm]at Lj;cases Lj.2
  rw[this];rfl
theorem abt{L:List aO}{μ:Mem}{n:Nat}{es:List aj}{ms:dq}(hO:Ow (bH n es ms::L) μ)(hI:dE es ms)(t:Int){K:Kq}
  (Gl:aL aw aF t es=none->∀μ',Ow (bH n es ms::L) μ'->K (.aB [.list 1 .nil [],pI 4]) μ')
  (jJ:∀e,aL aw aF t es=some e->∀μ' fl,Ow (bH n (bu aw aF t es) (ms.map (pU t))::L) μ'->K (.aB [.list 1 fl ((eM e ms).map gu),pI 0]) μ'):aa prog 132 [pP n 0,pI t] μ K:=by
 obtain⟨me,mm,h⟩:=bH.open_ hO;have hlm:=hI.lm;have hle:=hI.le;refine yS.c ⟨_,h.rd 0 rfl (by simp),AE.kH (Ow.at 1 rfl h) hI.ue (by simp;omega) t (λy u1 hy h1=>?_) (λu1 hy h1=>?_)⟩
 .rw[Pq]at hy;obtain⟨e,he,rfl⟩:=map_eq_some_iff.1 hy;obtain⟨Pj,het⟩:=(bf ar hI.xD).1 he;have het:e.tag=t:=het;refine⟨_,_,_,_,_,_,_,_,_,_,_,_,_,rfl,λb6 Gp=>(h1.new 88 z12 Gp).st 0 rfl (by simp) λu2 h2=>ab.f rfl λb8 Pk=>?_⟩;have e1:bu AE.ck AE.key (AE.key (t,AE.z)) (es.map nE)=(bu aw aF t es).map nE:=wo;rw[e1]at h2;have h3:=h2.new 51 [.list 1 .nil []] Pk;refine⟨_,h3.rd 3 rfl (by simp),(AM.rm mm).call ⟨_,_,_,rfl,?_⟩⟩;have n_:((ms.map jc).map λx=>[AM.cY x.1,AM.gN x.2]).length=ms.length:=by simp
  refine bk.own (AM.fI mm (ms.map jc) (by simp;omega)) (Ow.at 4 rfl h3)
   (λk u=>∃fl,Ow (Pt b8 51 [.list 1 fl ((eM e (ms.take k)).map gu)]::eX fl (eM e (ms.take k)).length 1::Pt b6 88 e.pv::AM.cy mm (ms.map jc)::AE.cy me ((bu aw aF t es).map nE)::Pt n 198 [pP me 0,pP mm 0]::(((ms.take k).map (pU t)++ms.drop k).map dA++L)) u)
   (λ_ _=>False) (λk=>eW.ex λ_=>eW.own _) (λ_ _ _ _ h=>h.elim) (λμ' h'=>⟨.nil,?_⟩) ?_ ?_ ?_
  .have h4:Ow (Pt b8 51 [.list 1 .nil []]::Pt b6 88 e.pv::AM.cy mm (ms.map jc)::AE.cy me ((bu aw aF t es).map nE)::Pt n 198 [pP me 0,pP mm 0]::(ms.map dA++L)) μ':=by
    refine h'.swap.tail λ_ h=>?_;exact h.swap
   refine h4.tail λ_ h=>Ow.nil ?_ (.inl rfl);simpa using h
  .rintro k hk u R ⟨fl,hO⟩ bT _;have bZ:k<ms.length:=by simpa using hk
   have Am:ms[k]∈ms:=getElem_mem bZ;have Ye:=hI.ul Am;have hht:=BT (e:=e) bZ;have bK:=rP e (ms.take k);rw[length_take]at bK;have aiB:=Wz hI Am Pj;rw[getElem_map,getElem_map];rw[Az bZ]at hO;have gy:=Ow.pick (P:=[Pt b8 51 [.list 1 fl ((eM e (ms.take k)).map gu)],eX fl (eM e (ms.take k)).length 1,Pt b6 88 e.pv,AM.cy mm (ms.map jc),AE.cy me ((bu aw aF t es).map nE),Pt n 198 [pP me 0,pP mm 0]]) hO;have hs:dA (pU t ms[k])=AT.At ms[k].2.b (bu AT.ck AT.key (AT.key e) ms[k].2.l):=by
    have:AT.key e=t:=het;rw[this];rfl
   refine⟨_,_,_,_,_,_,_,_,_,_,_,_,_,rfl,_,_,_,_,_,_,_,_,_,_,_,_,hO.rd 2 rfl (by simp),AT.gC (l:=ms[k].2.l) gy Ye.1 (by omega) e λu3 h3=>⟨_,rfl,?_⟩⟩;rw[aiB];refine ab.mk (λhm=>⟨_,_,h3.rd 1 rfl (by simp),?_⟩) (λhm=>?_)
   .have h4:=(Ow.at 2 rfl h3);refine Ow.app h4 (by simp) (by simp;omega) (by simp;omega) λf' u4 h5=>?_;refine h5.st 2 rfl (by simp) λu6 h6=>bT _ ⟨f',?_⟩;rw[Af bZ,hs,hht,if_pos hm,map_append,length_append];refine Ow.tn (P:=[Pt b8 51 [.list 1 f' ((eM e (ms.take k)).map gu++[ms[k].1].map gu)],eX f' ((eM e (ms.take k)).length+[ms[k].1].length) 1,Pt b6 88 e.pv,AM.cy mm (ms.map jc),AE.cy me ((bu aw aF t es).map nE),Pt n 198 [pP me 0,pP mm 0]]) ?_;have h7:Ow (eX f' ((eM e (ms.take k)).length+1) 1::AT.At ms[k].2.b (bu AT.ck AT.key (AT.key e) ms[k].2.l)::Pt b8 51 [.list 1 f' ((eM e (ms.take k)).map gu++[[pI ms[k].1]])]::Pt b6 88 e.pv::AM.cy mm (ms.map jc)::AE.cy me ((bu aw aF t es).map nE)::Pt n 198 [pP me 0,pP mm 0]::((((ms.take k).map (pU t)).map dA++(ms.drop (k+1)).map dA)++L)) u6:=h6;exact h7.swap.tail λ_ h=>h.swap
   .refine bT _ ⟨fl,?_⟩;rw[Af bZ,hs,hht,if_neg (by simp[hm]),append_nil];exact Ow.tn (P:=[Pt b8 51 [.list 1 fl ((eM e (ms.take k)).map gu)],eX fl (eM e (ms.take k)).length 1,Pt b6 88 e.pv,AM.cy mm (ms.map jc),AE.cy me ((bu aw aF t es).map nE),Pt n 198 [pP me 0,pP mm 0]]) h3
  .rintro u ⟨fl,hO⟩;rw[n_,take_length,drop_length,append_nil]at hO;refine⟨_,_,hO.rd 0 rfl (by simp),jJ e he u fl ?_⟩;refine bH.shut (me:=me) (mm:=mm) ?_;rw[Ry];have h4:=Ow.at 2 rfl hO.drop.drop.drop;exact h4.tail λ_ h=>h.swap
  .intro _ _ h;exact h.elim
 .rw[Pq]at hy;refine⟨_,_,_,_,_,_,_,_,_,_,_,_,_,rfl,λb6 Gp=>(h1.new 88 z12 Gp).st 0 rfl (by simp) λu2 h2=>ab.t rfl (Gl (map_none hy) u2 (bH.shut (Ow.swap h2.drop)))⟩
@[reducible] def inF(n:Nat)(k:Int):PV:=.fn (.func 226) [] [.bt [pP n 0] 0,.bt [pI k] 0]
def cIn(n:Nat)(k:Int):Pure prog 178 [pP n 0,pI k] (inF n k):=av.of (CQ.c rfl)
def Wi(k:Int)(g:dq):List aj:=((aL aw bU k g).map λx=>x.2.l).getD []
theorem acX(n:Nat)(k:Int){es:List aj}{ms:dq}(hI:dE es ms):iI prog (inF n k) ((Wi k ms).map λe=>[.agg e.pv]) (bH n es ms) (bH n es ms):=by
 refine iI.mk λfy ya yb I S C μ hy hO h0 cV=>?_;show aa _ _ [.fn fy ya yb,.bt [pP n 0] 0,.bt [pI k] 0] _ _;obtain⟨me,mm,h⟩:=bH.open_ hO;have hlm:=hI.lm;refine yR.c λb3 Hw=>?_;have O1:=h.new 150 [.fn fy ya yb] Hw;refine⟨λs u=>∃b4,s.1=some ⟨b4,0,none⟩/\((∃x,aL aw bU k ms=some x/\s.2=true/\Ow (Pt b4 196 (cc x.2.c++[pI x.2.aN,pP x.2.b 0])::AM.cy mm (ms.map jc)::Pt b3 150 [.fn fy ya yb]::Pt n 198 [pP me 0,pP mm 0]::AE.cy me (es.map nE)::(ms.map dA++[C])) u)\/(aL aw bU k ms=none/\s.2=false/\Ow (AM.cy mm (ms.map jc)::Pt b3 150 [.fn fy ya yb]::Pt n 198 [pP me 0,pP mm 0]::AE.cy me (es.map nE)::(ms.map dA++[C])) u)),⟨_,rfl,_,O1.rd 1 rfl (by simp),_,rfl,?_,λb4 Pl=>?_⟩,?_⟩
 .refine AM.jx (Ow.at 3 rfl O1) hI.um (by simp;omega) k (λy μ' hy h'=>?_) (λμ' hy h'=>?_)
  .rw[getM]at hy;obtain⟨x,hx,rfl⟩:=map_eq_some_iff.1 hy;exact⟨_,_,_,_,_,_,_,_,_,_,_,_,_,rfl,λb4 Pl=>(h'.new 196 _ Pl).st 0 rfl (by simp) λu2 h2=>⟨b4,rfl,.inl ⟨x,hx,rfl,h2⟩⟩⟩
  .rw[getM]at hy;exact⟨_,_,_,_,_,_,_,_,_,_,_,_,_,rfl,λb4 Pl=>(h'.new 196 _ Pl).st 0 rfl (by simp) λu2 h2=>⟨b4,rfl,.inr ⟨map_none hy,rfl,h2.drop⟩⟩⟩
 .have O2:=O1.new 196 [pI 0,pB false,pS ⟨#[]⟩,.list 6 .nil [],.list 6 .nil [],pB false,.list 7 .nil [],pI 0,.raw (.pointer none)] Pl;refine AM.jx (Ow.at 4 rfl O2) hI.um (by simp;omega) k (λy μ' hy h'=>?_) (λμ' hy h'=>?_)
  .rw[getM]at hy;obtain⟨x,hx,rfl⟩:=map_eq_some_iff.1 hy;exact⟨_,_,_,_,_,_,_,_,_,_,_,_,_,rfl,h'.st 1 rfl (by simp) λu2 h2=>⟨b4,rfl,.inl ⟨x,hx,rfl,Ow.swap h2⟩⟩⟩
  .rw[getM]at hy;exact⟨_,_,_,_,_,_,_,_,_,_,_,_,_,rfl,h'.st 1 rfl (by simp) λu2 h2=>⟨b4,rfl,.inr ⟨map_none hy,rfl,(Ow.swap h2).drop⟩⟩⟩
 .rintro⟨_,q⟩ u ⟨b4,rfl,⟨x,hx,rfl,hO⟩|⟨hx,rfl,hO⟩⟩
  .obtain⟨Am,hxk⟩:=(bf ar hI.nD).1 hx;have Ye:=hI.ul Am;have fL:Wi k ms=x.2.l:=by unfold Wi;rw[hx];rfl
   rw[fL]at cV |-;refine ab.f rfl ⟨_,hO.rd 0 rfl (by simp),(AT.qc x.2.b).call ⟨_,_,_,rfl,?_⟩⟩;obtain⟨A,B,eAB,_,_⟩:=hI.nD.at_ ar Am
   have e2:ms.map dA=A.map dA++dA x::B.map dA:=by conv=>lhs;rw[eAB]
                                                  simp
   have rQ:=hO.drop;rw[e2]at rQ;have gy:=Ow.pick (P:=[AM.cy mm (ms.map jc),Pt b3 150 [.fn fy ya yb],Pt n 198 [pP me 0,pP mm 0],AE.cy me (es.map nE)]) rQ;refine bk.own (AT.eG x.2.b x.2.l (by omega)) gy (λi=>Ow [Pt b3 150 [.fn fy ya yb],I i]) (λcd u=>cd=.ret/\Ow [S] u) (λi=>eW.own _) (λcd=>eW.and (eW.own _)) (λμ' h'=>?_) ?_ ?_ ?_
   .have h3:=Ow.tn (P:=[AM.cy mm (ms.map jc),Pt b3 150 [.fn fy ya yb],Pt n 198 [pP me 0,pP mm 0],AE.cy me (es.map nE)]) h';have h4:Ow (Pt b3 150 [.fn fy ya yb]::(AM.cy mm (ms.map jc)::Pt n 198 [pP me 0,pP mm 0]::AE.cy me (es.map nE)::(ms.map dA++[C]))) μ':=by
     rw[e2];exact Ow.swap h3
    exact h4.tail λν hν=>h0 ν (tI hν)
   .rintro i hi u1 R hO bT iR;have tX:i<x.2.l.length:=by simpa using hi
    have fF:=cV i (by simpa using tX);rw[getElem_map]at fF |-;refine⟨_,_,_,_,_,_,_,_,_,_,_,_,rfl,_,_,_,hO.rd 0 rfl (by simp),Ow.Cp hO.swap (λν hν=>fF ν hν) λv μ' Tb=>?_⟩;rcases Tb.tt with⟨rfl,h⟩|⟨rfl,h⟩
    .exact⟨true,rfl,ab.f rfl (bT _ h.swap)⟩
    .exact⟨false,rfl,ab.t rfl (iR _ _ ⟨rfl,h.swap.drop⟩)⟩
   .intro u1 hO;rw[length_map]at hO;exact .inl (by rw[length_map];exact hO.drop)
   .rintro cd u1 ⟨rfl,h⟩;exact .inr h
  .have fL:Wi k ms=[]:=by unfold Wi;rw[hx];rfl
   rw[fL];refine ab.t rfl (.inl (h0 u (tI (Ow.swap hO).drop)))
def HY{f:PV}{g:Lq}{A j:aO}(L:List aO)(h:iI prog f g A j):iI prog f g (Ow (A::L)) (Ow (j::L)):=by
 refine⟨h.1,λY y w I S C r G H Q cV=>?_⟩;have J:Ow (A::(L++[C])) r:=H.nest;exact h.2 Y y w I S (Ow (L++[C])) r G (J.tail λ_ h=>Ow.one h) (λi U=>Q i (Ow.pack (L1:=j::L) (U.tail λ_ h=>h.VM))) cV
def MK{f:PV}{g:Lq}{A w B r:aO}(h:iI prog f g A w)(Q:∀i,B i->A i)(L:∀i,w i->r i):iI prog f g B r:=
 ⟨h.1,λfy G y I S C i H J U cV=>h.2 fy G y I S C i H (J.imp Q) (λj Y=>U j (Y.imp L)) cV⟩
structure NC where
 T:Int
 M:Int
 root:Nat
 al:Nat
 el:Nat
 id:Nat
 pr:Nat
@[reducible] def NC.pv(x:NC):List PV:=[pI x.T,pI x.M,pP x.root 0,pP x.al 0,pP x.el 0,pP x.id 0,pP x.pr 0]
abbrev pq:=List (Sym×Nat×List aj)
def pJ(x:Sym×Nat×List aj):RI.El:=(x.1,some ⟨x.2.1,0,none⟩)
def d_(x:Sym×Nat×List aj):aO:=RT.At x.2.1 x.2.2
def jW(x:Sym×Nat×List aj):Sym:=x.1
def gR(m:Nat)(ids:pq):aO:=Ow (RI.cy m (ids.map pJ)::ids.map d_)
structure jn(es:List aj)(ids:pq):Prop where
 up:ch fQ jW ids
 has:∀x∈ids,x.2.2=es.filter λe=>fu e.id x.1
 one:∀e∈es,∃x∈ids,x.1=e.id
 some_:∀x∈ids,x.2.2≠[]
 le:ids.length<=es.length
theorem LA(k:Sym)(ids:pq):aL RI.ck RI.key (RI.key (k,RI.z)) (ids.map pJ)=(aL fQ jW k ids).map pJ:=oa
theorem jn.u{es:List aj}{ids:pq}(h:jn es ids):ch RI.ck RI.key (ids.map pJ):=ch.map h.up
def PO(s:Sym)(es:List aj):List aj:=es.filter λe=>fu e.id s
def jn.get{es:List aj}{ids:pq}(h:jn es ids)(s:Sym):((aL fQ jW s ids).map λx=>x.2.2).getD []=PO s es:=by
 cases hg:aL fQ jW s ids with
 |some x=>
  obtain⟨g,i⟩:=(bf bI h.up).1 hg;have y:x.1=s:=i;show x.2.2=_;rw[h.has x g,y];rfl
 |none=>
  have r:=(bD bI).1 hg;show[]=_;unfold PO;symm;rw[List.filter_eq_nil_iff];intro e w j;obtain⟨x,g,i⟩:=h.one e w;exact r x g (i.trans (cH.1 j))
def tp(n al:Nat)(k:Int)(o:Option Sym):PV:=
 match o with
 |none=>inF al k
 |some s=>.fn (.func 179) [] [.bt [pP n 0] 0,.bt s.pv 0]
def Xa{n:Nat}{x:NC}{w:Mem}(hn:Mh n x.pv w)(c:ae)(fa fv fc fl:Fl)(l:List aP.Bind)(hl:l.length<=1000000)(k:Int):
  aa prog 116 [pP n 0,.agg [pI c.kind,pB c.goal,pS c.id,.list 6 fa (c.attr.map Test.pv),.list 6 fv (c.value.map Test.pv),pB c.acc,.list 7 fc (c.conds.map ae.pv)],.list 4 fl (l.map Bind.pv),pI k] w λp g=>zE w g/\p=tp n x.al k (gz l c.id):=by
 refine aa.freeze (K:=λv g=>zE w g/\((gz l c.id=none/\v=inF x.al k)\/∃s b,gz l c.id=some s/\w b=none/\v=.fn (.func 179) [] [.bt [pP n 0] 0,pP b 0]/\g b=some (.cells 37 s.pv))) (yK.c ?_) ?_
 .refine(ko fl l hl c.id).call ?_;cases hg:gz l c.id with
  |none=>
   refine⟨_,_,_,_,rfl,λL A=>⟨_,_,Mem.ao _ _ _,by simp,?_⟩⟩;rw[Mem.set_set];have j:=zE.new A (some (.cells 37 (du [pI 0,pS ⟨#[]⟩,pI 0] 0 [pI 0,pS ⟨#[]⟩,pI 0])));exact ab.t rfl ⟨_,rfl,_,(hn.afc j).rd (by simp),(cIn x.al k).call ⟨_,_,_,rfl,j,.inl ⟨rfl,rfl⟩⟩⟩
  |some s=>
   refine⟨_,_,_,_,rfl,λL A=>⟨_,_,Mem.ao _ _ _,by simp,?_⟩⟩;rw[Mem.set_set];have j:=zE.new A (some (.cells 37 (du [pI 0,pS ⟨#[]⟩,pI 0] 0 [pI s.k,pS s.t,pI s.n])));exact ab.f rfl ⟨j,.inr ⟨s,L,rfl,A,rfl,Mem.ao _ _ _⟩⟩
 .rintro v g ⟨j,⟨hg,rfl⟩|⟨s,b,hg,I,rfl,A⟩⟩
  .refine⟨_,g,[],λZ u r i H=>?_,λb o h=>⟨h,by simp⟩,j,by rw[hg,tp]⟩;exact H.mono (gP (i.sub λx o Y=>by simp at Y))
  .refine⟨_,λy=>if y=b then none else g y,[b],λZ u r i H=>?_,λy o h=>?_,λy C=>?_,by rw[hg,tp]⟩
   .obtain⟨fv,cv,rfl,h1,G⟩:=H.ofFn;obtain⟨v1,_,rfl,_,U,G⟩:=G.inv;obtain⟨v2,_,rfl,_,Q,G⟩:=G.inv;obtain rfl:=G.nq;obtain rfl:=h1.nq;have gs:aP.Good Z u (λy=>if y∈[b]then g y else none):=i.sub λy o C=>by
     by_cases J:y∈[b]
     .simpa[J]using C
     .simp[J]at C
    exact br.Fg (br.nil _) (br.cons rfl (U.mono (gP gs)) (br.cons rfl (Te i A rfl Q) (br.nil _)))
   .have h:(if y=b then none else g y)=some o:=h;by_cases e:y=b
    .rw[if_pos e]at h;cases h
    .rw[if_neg e]at h;exact⟨h,by simpa using e⟩
   .have aW:y≠b:=by rintro rfl;exact C I
    show(if y=b then none else g y)=w y;rw[if_neg aW];exact j y C
theorem GI{n:Nat}{x:NC}{μ:Mem}(hn:μ n=some (.cells 116 x.pv))(c:ae)(fa fv fc fl:Fl)(l:List aP.Bind)(hl:l.length<=1000000)(k:Int){K:Kq}(hK:K (tp n x.al k (gz l c.id)) M0):
  dh prog 116 [pP n 0,.agg [pI c.kind,pB c.goal,pS c.id,.list 6 fa (c.attr.map Test.pv),.list 6 fv (c.value.map Test.pv),pB c.acc,.list 7 fc (c.conds.map ae.pv)],.list 4 fl (l.map Bind.pv),pI k] μ K:=
 dh.ahy (Xa (Zl hn) c fa fv fc fl l hl k) λp hp=>by rw[hp];exact hK
def QG(es:List aj)(g:dq)(k:Int)(o:Option Sym):List aj:=
 match o with
 |none=>Wi k g
 |some s=>PO s es
def an(n:Nat)(x:NC)(es:List aj)(g:dq)(ids:pq):aO:=Ow [Pt n 116 x.pv,bH x.al es g,gR x.id ids]
theorem Vr{n:Nat}{x:NC}{es:List aj}{ids:pq}(hI:jn es ids)(hle:es.length<1000000)(s:Sym):
  iI prog (.fn (.func 179) [] [.bt [pP n 0] 0,.bt s.pv 0]) ((PO s es).map λe=>[.agg e.pv]) (Ow [Pt n 116 x.pv,gR x.id ids]) (Ow [Pt n 116 x.pv,gR x.id ids]):=by
 refine iI.mk λfy ya yb I S C μ hy hO h0 cV=>?_;show aa _ _ [.fn fy ya yb,.bt [pP n 0] 0,.bt s.pv 0] _ _;have hlen:=hI.le;have rQ:Ow (RI.cy x.id (ids.map pJ)::Pt n 116 x.pv::(ids.map d_++[C])) μ:=by
  have h1:Ow (Pt n 116 x.pv::gR x.id ids::[C]) μ:=hO.nest;exact((h1.swap).nest (L1:=RI.cy x.id (ids.map pJ)::ids.map d_)).tail λν hν=>(Ow.comm (L1:=ids.map d_) hν).tail λν' h'=>Ow.comm (L1:=[C]) h'
 have back:∀ν,Ow (RI.cy x.id (ids.map pJ)::Pt n 116 x.pv::(ids.map d_++[C])) ν->Ow [I 0] ν:=λν hν=>h0 ν (by
  have h1:Ow ((RI.cy x.id (ids.map pJ)::ids.map d_)++(Pt n 116 x.pv::[C])) ν:=hν.tail λν1 h1=>by
   have h2:Ow (Pt n 116 x.pv::(([C]:List aO)++ids.map d_)) ν1:=h1.tail λν2 h2=>Ow.comm (L1:=ids.map d_) h2
   exact Ow.comm (L1:=Pt n 116 x.pv::[C]) h2
  exact Ow.pack (L1:=[Pt n 116 x.pv,gR x.id ids]) (Ow.swap (Ow.pack (L1:=RI.cy x.id (ids.map pJ)::ids.map d_) h1)))
 refine uD.c λb3 Hw=>?_;have O1:=rQ.new 150 [.fn fy ya yb] Hw;refine⟨_,rfl,_,O1.rd 2 rfl (by simp),_,_,_,rfl,?_⟩;refine RI.jx (Ow.at 1 rfl O1) hI.u (by simp;omega) s (λy μ' hy h'=>?_) (λμ' hy h'=>?_)
 .rw[LA]at hy;obtain⟨z,hz,rfl⟩:=map_eq_some_iff.1 hy;have hb:=hI.get s;rw[hz]at hb;have hb:z.2.2=PO s es:=hb;obtain⟨Qj,Gb⟩:=(bf bI hI.up).1 hz;obtain⟨A,B,eAB,_,_⟩:=hI.up.at_ bI Qj
  have e2:ids.map d_=A.map d_++d_ z::B.map d_:=by conv=>lhs;rw[eAB]
                                                  simp
  refine⟨_,_,rfl,ab.f rfl ((RT.qc z.2.1).call ⟨_,_,_,rfl,?_⟩)⟩;have h2:Ow (RI.cy x.id (ids.map pJ)::Pt b3 150 [.fn fy ya yb]::Pt n 116 x.pv::(ids.map d_++[C])) μ':=h';rw[e2]at h2;have gy:=Ow.pick (P:=[RI.cy x.id (ids.map pJ),Pt b3 150 [.fn fy ya yb],Pt n 116 x.pv]) h2;have Ev:z.2.2.length<=es.length:=by rw[hb];exact length_filter_le _ _
  rw[<- hb]at cV |-;refine bk.own (RT.eG z.2.1 z.2.2 (by omega)) gy (λi=>Ow [Pt b3 150 [.fn fy ya yb],I i]) (λcd u=>cd=.ret/\Ow [S] u) (λi=>eW.own _) (λcd=>eW.and (eW.own _)) (λμ' h'=>?_) ?_ ?_ ?_
  .have h3:=Ow.tn (P:=[RI.cy x.id (ids.map pJ),Pt b3 150 [.fn fy ya yb],Pt n 116 x.pv]) h';have h4:Ow (Pt b3 150 [.fn fy ya yb]::(RI.cy x.id (ids.map pJ)::Pt n 116 x.pv::(ids.map d_++[C]))) μ':=by
    rw[e2];exact Ow.swap h3
   exact h4.tail back
  .rintro i hi u1 R hO bT iR;have tX:i<z.2.2.length:=by simpa using hi
   have fF:=cV i (by simpa using tX);rw[getElem_map]at fF |-;refine⟨_,_,_,_,_,_,_,_,_,_,_,_,rfl,_,_,_,hO.rd 0 rfl (by simp),Ow.Cp hO.swap (λν hν=>fF ν hν) λv μ' Tb=>?_⟩;rcases Tb.tt with⟨rfl,h⟩|⟨rfl,h⟩
   .exact⟨true,rfl,ab.f rfl (bT _ h.swap)⟩
   .exact⟨false,rfl,ab.t rfl (iR _ _ ⟨rfl,h.swap.drop⟩)⟩
  .intro u1 hO;rw[length_map]at hO;exact .inl (by rw[length_map];exact hO.drop)
  .rintro cd u1 ⟨rfl,h⟩;exact .inr h
 .rw[LA]at hy;have hz:aL fQ jW s ids=none:=map_none hy;have hb:=hI.get s;rw[hz]at hb;have hb:[]=PO s es:=hb;rw[<- hb]at cV |-;have h2:Ow (RI.cy x.id (ids.map pJ)::Pt b3 150 [.fn fy ya yb]::Pt n 116 x.pv::(ids.map d_++[C])) μ':=h';exact⟨_,_,rfl,ab.t rfl (.inl (back _ h2.swap.drop))⟩
def Rd{n:Nat}{x:NC}{es:List aj}{g:dq}{ids:pq}(r:dE es g)(w:jn es ids)(k:Int)(o:Option Sym):
  iI prog (tp n x.al k o) ((QG es g k o).map λe=>[.agg e.pv]) (an n x es g ids) (an n x es g ids):=by
 cases o with
 |none=>
  refine MK (HY [Pt n 116 x.pv,gR x.id ids] (acX x.al k r)) (λi h=>Ow.swap h) (λi h=>Ow.swap h)
 |some s=>
  refine MK (HY [bH x.al es g] (Vr (x:=x) (n:=n) w r.le s)) (λi h=>?_) (λi h=>?_)
  .have j:Ow [Pt n 116 x.pv,bH x.al es g,gR x.id ids] i:=h;exact Ow.pack (L1:=[Pt n 116 x.pv,gR x.id ids]) (j.tail λ_ h=>h.swap)
  .have j:Ow [Pt n 116 x.pv,gR x.id ids,bH x.al es g] i:=Ow.nest (L1:=[Pt n 116 x.pv,gR x.id ids]) h;exact j.tail λ_ h=>h.swap
end Go.Proofs.YthaeiehophlooaaGreat
