import Derived.Test.YthaeiehophlooaaGreatB07
open Go.IntKind (wrap)
open List (all_eq_true append_assoc cons_append drop_drop drop_eq_getElem_cons drop_zero filter_append filter_cons filter_eq_self filter_map flatten_cons flatten_nil getElem?_eq_getElem getElem_drop getElem_map getElem_mem getElem_take length_append length_cons length_drop length_map length_nil length_replicate length_singleton length_take map_append map_cons mem_append mem_cons mem_filter mem_iff_getElem mem_map nil_append pairwise_cons replicate set_cons_zero take_add_one take_append_drop take_left' take_length)
open Nat (add_mul beq_refl le_refl lt_trans min_eq_left mul_le_mul_right sub_self succ_mul zero_add)
open Option (bind_some toList_some)
set_option linter.all false
namespace Go.aO
open Go.RowKit
structure Mv(μ μ':Mem)(F F':List Nat):Prop where
 cu:∀x,μ x≠none->x∉F->μ' x=μ x
 grow:∀x∈F',x∈F\/μ x=none
theorem Mv.refl(μ:Mem)(F:List Nat):Mv μ μ F F:=⟨λ_ _ _=>rfl,λ_ h=>.inl h⟩
theorem Mv.trans{μ μ' mZ:Mem}{F F' F'':List Nat}(h:Mv μ μ' F F')(k:Mv μ' mZ F' F''):Mv μ mZ F F'':=by
 have hk:∀x,μ x≠none->x∉F->mZ x=μ x:=λx hx hn=>by
  have e:=h.cu x hx hn;have Xq:x∉F':=λh'=>by
   rcases h.grow x h' with h1|h1
   ·exact hn h1
   ·exact hx h1
  rw[k.cu x (by rw[e];exact hx) Xq,e]
 refine⟨hk,λx hx=>?_⟩;rcases k.grow x hx with h1|h1
 ·exact h.grow x h1
 ·by_cases hf:x∈F
  ·exact .inl hf
  ·right;cases hm:μ x with
   |none=>rfl
   |some o=>rw[h.cu x (by rw[hm];simp) hf,hm]at h1;cases h1
theorem Mv.wide{μ μ':Mem}{F F' G:List Nat}(h:Mv μ μ' F F')(hG:∀x∈F,x∈G):Mv μ μ' G (F'++G):=⟨λx hx hn=>h.cu x hx λhf=>hn (hG x hf),λx hx=>by
 rcases mem_append.1 hx with h1|h1
 ·exact(h.grow x h1).imp (hG x) id
 ·exact .inl h1⟩
theorem Mv.sub{μ μ':Mem}{F F' G:List Nat}(h:Mv μ μ' F F')(hG:∀x∈G,x∈F'):Mv μ μ' F G:=⟨h.cu,λx hx=>h.grow x (hG x hx)⟩
theorem Mv.set{μ:Mem}{b:Nat}{o:Option Ob}{F:List Nat}(h:b∈F\/μ b=none):Mv μ (μ.set b o) F (b::F):=⟨λx hx hn=>by
 have:x≠b:=by
  rintro rfl
  rcases h with h|h
  ·exact hn h
  ·exact hx h
 exact Mem.ax _ _ this,λx hx=>by
 rcases mem_cons.1 hx with rfl|h1
 ·exact h
 ·exact .inl h1⟩
theorem DX{sz:Nat}:∀{R:Lq} {s:Nat},(∀r∈R,r.length=sz)->s<=R.length->(R.flatten).take (s*sz)=(R.take s).flatten
 |R,0,_,_=>by simp
 |[],s+1,_,h=>by simp at h
 |r::R,s+1,hR,h=>by
  have hr:r.length=sz:=hR r (by simp)
  rw[flatten_cons,List.take_succ_cons,flatten_cons,succ_mul,Nat.add_comm,<- hr,List.take_length_add_append,hr,DX (λx hx=>hR x (by simp[hx])) (by simpa using h)]
theorem xA{sz:Nat}:∀{R:Lq} {s:Nat},(∀r∈R,r.length=sz)->s<=R.length->(R.flatten).drop (s*sz)=(R.drop s).flatten
 |R,0,_,_=>by simp
 |[],s+1,_,h=>by simp at h
 |r::R,s+1,hR,h=>by
  have hr:r.length=sz:=hR r (by simp)
  rw[flatten_cons,List.drop_succ_cons,succ_mul,Nat.add_comm,<- hr,List.drop_length_add_append,hr,xA (λx hx=>hR x (by simp[hx])) (by simpa using h)]
theorem Ho{μ:Mem}{b sz s:Nat}{e:TypeId}{R:Lq}{rest r:List PV}(hR:∀r∈R,r.length=sz)(hm:μ b=some (.cells e (R.flatten++rest)))(hs:R[s]?=some r):ay μ b (s*sz) sz=some r:=by
 have bG:s<R.length:=(List.getElem?_eq_some_iff.1 hs).1;have hr:r.length=sz:=hR r (List.mem_of_getElem? hs);have mu:R.flatten.length=R.length*sz:=dV hR;have hle:s*sz+sz<=R.flatten.length:=by rw[mu,<- succ_mul];exact mul_le_mul_right _ bG
 simp only[ay,hm];rw[if_pos (by rw[length_append];omega),List.drop_append_of_le_length (by omega),xA hR (Nat.le_of_lt bG),drop_eq_getElem_cons bG,flatten_cons,append_assoc];have:R[s]=r:=by have:=getElem?_eq_getElem bG;rw[hs]at this;exact(Option.some.inj this).symm
 rw[this,<- hr,take_left'];rfl
theorem Da{sz s:Nat}{R:Lq}{rest r:List PV}(hR:∀r∈R,r.length=sz)(hs:s<R.length)(hr:r.length=sz):dy (R.flatten++rest) (s*sz) r=(R.set s r).flatten++rest:=by
 have mu:R.flatten.length=R.length*sz:=dV hR;have hle:s*sz+sz<=R.flatten.length:=by rw[mu,<- succ_mul];exact mul_le_mul_right _ hs
 unfold dy;rw[List.take_append_of_le_length (by omega),DX hR (Nat.le_of_lt hs),hr,List.drop_append_of_le_length hle,show s*sz+sz=(s+1)*sz by rw[succ_mul],xA hR hs,List.set_eq_take_append_cons_drop,if_pos hs];simp[List.flatten_append]
def sN(Ts e:TypeId)(sz:Nat)(μ:Mem)(b:Nat)(rows:Lq)(F:List Nat):Prop:=
 (F=[b]/\rows=[]/\μ b=some (.cells Ts [.raw (.slice none 0 0),pB false]))\/
 (∃b' c rest,F=[b,b']/\b'≠b/\μ b=some (.cells Ts [.raw (.slice (some ⟨b',0,none⟩) rows.length c),pB false])/\μ b'=some (.cells e (rows.flatten++rest))/\rows.length*sz+rest.length=c*sz/\rows.length<=c)
structure iE(Ts e:TypeId)(sz:Nat)(μ:Mem)(b:Nat)(rows:Lq)(F:List Nat):Prop where
 each:∀r∈rows,r.length=sz
 cell:aQ rows.flatten=true
 Om:(F=[b]/\μ b=some (.cells Ts [.list sz .sh rows,pB true]))\/(F=[b]/\rows=[]/\μ b=some (.cells Ts [.list sz .nil [],pB false]))\/sN Ts e sz μ b rows F
theorem sN.at_{Ts e:TypeId}{sz:Nat}{μ:Mem}{b:Nat}{rows:Lq}{F:List Nat}(h:sN Ts e sz μ b rows F):b∈F/\∀x∈F,μ x≠none:=by
 rcases h with⟨rfl,_,h⟩|⟨b',c,rest,rfl,_,h,h',_⟩
 ·simp[h]
 ·refine⟨by simp,λx hx=>?_⟩;simp only[mem_cons,List.not_mem_nil,or_false]at hx;rcases hx with rfl|rfl
  ·rw[h];simp
  ·rw[h'];simp
theorem iE.at_{Ts e:TypeId}{sz:Nat}{μ:Mem}{b:Nat}{rows:Lq}{F:List Nat}(h:iE Ts e sz μ b rows F):b∈F/\∀x∈F,μ x≠none:=by
 rcases h.Om with⟨rfl,h1⟩|⟨rfl,_,h1⟩|h1
 ·simp[h1]
 ·simp[h1]
 ·exact h1.at_
theorem iE.same{Ts e:TypeId}{sz:Nat}{μ μ':Mem}{b:Nat}{rows:Lq}{F:List Nat}(h:iE Ts e sz μ b rows F)(hk:∀x∈F,μ' x=μ x):iE Ts e sz μ' b rows F:=by
 have hb:=hk b h.at_.1;refine⟨h.each,h.cell,?_⟩;rcases h.Om with⟨rfl,h1⟩|⟨rfl,h0,h1⟩|⟨rfl,h0,h1⟩|⟨b',c,rest,rfl,h0,h1,h2,h3⟩
 ·exact .inl ⟨rfl,by rw[hb];exact h1⟩
 ·exact .inr (.inl ⟨rfl,h0,by rw[hb];exact h1⟩)
 ·exact .inr (.inr (.inl ⟨rfl,h0,by rw[hb];exact h1⟩))
 ·exact .inr (.inr (.inr ⟨b',c,rest,rfl,h0,by rw[hb];exact h1,by rw[hk b' (by simp)];exact h2,h3⟩))
theorem sN.slM{Ts e:TypeId}{sz:Nat}{μ:Mem}{b:Nat}{rows:Lq}{F:List Nat}(h:sN Ts e sz μ b rows F)(hr:∀r∈rows,r.length=sz)(hc:aQ rows.flatten=true):
  ∃a c μ1,μ b=some (.cells Ts [.raw (.slice a rows.length c),pB false])/\(∀x o,μ1 x=some o->μ x=some o/\x∈F/\x≠b)/\(∀x∈F,x≠b->μ1 x=μ x)/\SlM μ1 a rows.length c sz rows:=by
 rcases h with⟨rfl,rfl,h⟩|⟨b',c,rest,rfl,h0,h1,h2,h3,h4⟩
 ·exact⟨none,0,M0,h,λx o hx=>(by cases hx),λx hx hn=>absurd (by simpa using hx) hn,rfl,le_refl _,.inl rfl,hr,hc,λh=>absurd rfl h⟩
 ·refine⟨_,c,M0.set b' (μ b'),h1,λx o hx=>?_,λx hx hn=>?_,rfl,h4,.inr λx hx=>by cases hx;rfl,hr,hc,λ_=>⟨b',0,rfl,?_⟩⟩
  ·by_cases e:x=b'
   ·subst e;rw[Mem.an]at hx;exact⟨hx,by simp,h0⟩
   ·rw[Mem.ax _ _ e]at hx;cases hx
  ·simp only[mem_cons,List.not_mem_nil,or_false]at hx;rw[hx.resolve_left hn,Mem.an]
  ·have mu:rows.flatten.length=rows.length*sz:=dV hr;simp only[ay,Mem.an,h2];rw[if_pos (by simp[mu]),drop_zero,<- mu,take_left'];rfl
theorem iE.query{P:Program}{g:FuncId}{args:List PV}{Ts e:TypeId}{sz:Nat}{μ:Mem}{b:Nat}{rows:Lq}{F:List Nat}{K:Kq}{Kq:PV->Prop}(h:iE Ts e sz μ b rows F)
  (hc:∀s,aa P g args (M0.set b (some (.ro Ts [.list sz .sh rows,pB s]))) λp _=>Kq p) (hf:∀p,Kq p->p.flat=true) (hk:∀p,Kq p->K p μ):aa P g args μ K:=by
 have one:∀{s:Bool} {μ1:Mem} {c:PV},μ1 b=none->μ b=some (.cells Ts [c,pB s])->gf μ1 c (.list sz .sh rows)->∀x o,(M0.set b (some (.ro Ts [.list sz .sh rows,pB s]))) x=some o->μ1 x=none/\∃T cs ds,o=.ro T ds/\μ x=some (.cells T cs)/\dI μ1 cs ds:=λhn hm hb x o hx=>by
  by_cases e:x=b
  ·subst e;rw[Mem.an]at hx;cases hx;exact⟨hn,Ts,_,_,rfl,hm,dI.cons hb (dI.refl _ _)⟩
  ·rw[Mem.ax _ _ e]at hx;cases hx
 rcases h.Om with⟨rfl,hm⟩|⟨rfl,h0,hm⟩|hr
 ·exact aa.query (hc true) (μ1:=M0) (λ_ _ h=>by cases h) (one rfl hm (.same _)) hf hk
 ·subst h0;exact aa.query (hc false) (μ1:=M0) (λ_ _ h=>by cases h) (one rfl hm (.wk (.list sz .nil []))) hf hk
 ·obtain⟨a,c,μ1,hm,h1,_,hs⟩:=hr.slM h.each h.cell;refine aa.query (hc false) (μ1:=μ1) (λx o hx=>(h1 x o hx).1) (one ?_ hm (.list hs)) hf hk;cases hx:μ1 b with
  |none=>rfl
  |some o=>exact absurd rfl (h1 b o hx).2.2
theorem iE.list{Ts e:TypeId}{sz:Nat}{μ:Mem}{b:Nat}{rows:Lq}{F:List Nat}(h:iE Ts e sz μ b rows F):∃μ' s,GU μ μ'/\μ' b=some (.cells Ts [.list sz .sh rows,pB s])/\Mv μ μ' F [b]:=by
 rcases h.Om with⟨rfl,hm⟩|⟨rfl,h0,hm⟩|hr
 ·exact⟨μ,true,GU.refl μ,hm,Mv.refl _ _⟩
 ·subst h0;refine⟨μ.set b (some (.cells Ts [.list sz .sh [],pB false])),false,GU.bor (μ1:=M0) (λ_ _ h=>by cases h) λx o hx=>⟨rfl,?_⟩,Mem.an _ _ _,(Mv.set (.inl (by simp))).sub (by simp)⟩;by_cases e:x=b
  ·subst e;rw[Mem.an]at hx;cases hx;exact .inr ⟨Ts,_,_,rfl,hm,dI.cons (.wk (.list sz .nil [])) (dI.refl _ _)⟩
  ·rw[Mem.ax _ _ e]at hx;exact .inl hx
 ·obtain⟨a,c,μ1,hm,h1,h2,hs⟩:=hr.slM h.each h.cell;have hb:μ1 b=none:=by
   cases hx:μ1 b with
   |none=>rfl
   |some o=>exact absurd rfl (h1 b o hx).2.2
  refine⟨λx=>if x=b then some (.cells Ts [.list sz .sh rows,pB false])else if μ1 x=none then μ x else none,false,GU.bor (μ1:=μ1) (λx o hx=>(h1 x o hx).1) λx o hx=>?_,if_pos rfl,⟨λx hx hn=>?_,λx hx=>.inl (by simp at hx;rw[hx];exact hr.at_.1)⟩⟩
  ·by_cases e:x=b
   ·subst e;rw[if_pos rfl]at hx;cases hx;exact⟨hb,.inr ⟨Ts,_,_,rfl,hm,dI.cons (.list hs) (dI.refl _ _)⟩⟩
   ·rw[if_neg e]at hx;split at hx
    ·rename_i hn;exact⟨hn,.inl hx⟩
    ·cases hx
  ·have aZ:x≠b:=by rintro rfl;exact hn hr.at_.1
   simp only[if_neg aZ];rw[if_pos];cases Fm:μ1 x with
   |none=>rfl
   |some o=>exact absurd (h1 x o Fm).2.1 hn
theorem iE.raw{Ts e:TypeId}{sz:Nat}{μ:Mem}{b:Nat}{rows:Lq}{F:List Nat}(h:iE Ts e sz μ b rows F):∃μ',GU μ μ'/\Mv μ μ' F F/\((F=[b]/\μ' b=some (.cells Ts [.list sz .sh rows,pB true]))\/sN Ts e sz μ' b rows F):=by
 rcases h.Om with⟨rfl,hm⟩|⟨rfl,h0,hm⟩|hr
 ·exact⟨μ,GU.refl μ,Mv.refl _ _,.inl ⟨rfl,hm⟩⟩
 ·subst h0;refine⟨μ.set b (some (.cells Ts [.raw (.slice none 0 0),pB false])),GU.bor (μ1:=M0) (λ_ _ h=>by cases h) λx o hx=>⟨rfl,?_⟩,(Mv.set (.inl (by simp))).sub (by simp),.inr (.inl ⟨rfl,rfl,Mem.an _ _ _⟩)⟩;by_cases e:x=b
  ·subst e;rw[Mem.an]at hx;cases hx;exact .inr ⟨Ts,_,_,rfl,hm,dI.cons (.nil sz []) (dI.refl _ _)⟩
  ·rw[Mem.ax _ _ e]at hx;exact .inl hx
 ·exact⟨μ,GU.refl μ,Mv.refl _ _,.inr hr⟩
theorem sN.app{Ts e:TypeId}{sz:Nat}{μ:Mem}{b:Nat}{rows:Lq}{F:List Nat}(h:sN Ts e sz μ b rows F)(hr:∀r∈rows,r.length=sz):∃a c,μ b=some (.cells Ts [.raw (.slice a rows.length c),pB false])/\
  ∀(r:List PV) (bytes:Nat) (K:Option Addr->Nat->Nat->Mem->Prop),r.length=sz->aQ r=true->(rows.length+1)*bytes<=140737488355328->rows.length+1<4611686018427387904->
   (∀b' c' rest μ2,b'≠b->μ2 b=μ b->μ2 b'=some (.cells e ((rows++[r]).flatten++rest))->(rows.length+1)*sz+rest.length=c'*sz->rows.length+1<=c'->Mv μ μ2 F [b,b']->K (some ⟨b',0,none⟩) (rows.length+1) c' μ2)->
   gP sz bytes e a rows.length c (.list sz .nr [r]) μ K:=by
 have YJ:∀r:List PV,qv sz sz [r]=true:=λr=>by simp[qv,beq_refl]
 have mu:rows.flatten.length=rows.length*sz:=dV hr;rcases h with⟨rfl,rfl,hm⟩|⟨b0,c,rest,rfl,h0,h1,h2,h3,h4⟩
 ·refine⟨none,0,hm,λr bytes K hl iA hb pY hK=>?_⟩;unfold gP Fa;simp only[YJ,cond_true];refine⟨by simpa using hb,by simpa using pY,le_refl _,.inr ⟨by simp,by simpa using iA,λh=>by simp at h,λ_=>⟨[],.inl ⟨rfl,rfl⟩,λb' c' hn sH=>?_⟩⟩⟩;have aZ:b'≠b:=by rintro rfl;rw[hm]at hn;cases hn
  refine hK b' c' (replicate ((c'-(0+1))*sz) .aV) _ aZ (by rw[Mem.ax _ _ (Ne.symm aZ)]) ?_ ?_ (by simpa using sH) ((Mv.set (.inr hn)).sub (by simp))
  ·rw[Mem.an];simp
  ·simp only[length_nil,length_replicate];rw[<- add_mul];congr 1;simp at sH;omega
 ·refine⟨_,c,h1,λr bytes K hl iA hb pY hK=>?_⟩;unfold gP Fa;simp only[YJ,cond_true];have eR:ay μ b0 0 (rows.length*sz)=some rows.flatten:=by
   simp only[ay,h2];rw[if_pos (by simp[mu]),drop_zero,<- mu,take_left'];rfl
  refine⟨by simpa using hb,by simpa using pY,h4,.inr ⟨by simp,by simpa using iA,λhle=>⟨b0,0,e,_,rfl,h2,by simp[mu,h3],?_⟩,λbG=>⟨_,.inr ⟨b0,0,rfl,eR⟩,λb' c' hn sH=>?_⟩⟩⟩
  ·simp only[length_singleton]at hle |-;have Zz:(rows.length+1)*sz<=c*sz:=mul_le_mul_right _ hle;have fH:sz<=rest.length:=by rw[succ_mul]at Zz;omega
   refine hK b0 c (rest.drop sz) _ h0 (by rw[Mem.ax _ _ (Ne.symm h0)]) ?_ ?_ hle ((Mv.set (.inl (by simp))).sub (by simp))
   ·rw[Mem.an];congr 2;unfold dy;rw[zero_add,<- mu,take_left' rfl,flatten_cons,flatten_nil,List.append_nil,List.drop_length_add_append,hl,List.flatten_append];simp
   ·rw[length_drop,succ_mul];omega
  ·simp only[length_singleton]at sH |-;have aZ:b'≠b:=by rintro rfl;rw[h1]at hn;cases hn
   refine hK b' c' (replicate ((c'-(rows.length+1))*sz) .aV) _ aZ (by rw[Mem.ax _ _ (Ne.symm aZ)]) ?_ ?_ sH ((Mv.set (F:=[b,b0]) (.inr hn)).sub (by simp))
   ·rw[Mem.an];simp
   ·rw[length_replicate,<- add_mul];congr 1;omega
def vU(e:TypeId)(sz:Nat)(μ:Mem)(p:PV)(rows:Lq)(F:List Nat):Prop:=
 (p=.raw (.slice none 0 0)/\rows=[]/\F=[])\/
 (∃b c rest,p=.raw (.slice (some ⟨b,0,none⟩) rows.length c)/\F=[b]/\μ b=some (.cells e (rows.flatten++rest))/\rows.length*sz+rest.length=c*sz/\rows.length<=c)
theorem vU.at_{e:TypeId}{sz:Nat}{μ:Mem}{p:PV}{rows:Lq}{F:List Nat}(h:vU e sz μ p rows F):∀x∈F,μ x≠none:=by
 rcases h with⟨_,_,rfl⟩|⟨b,c,rest,_,rfl,h,_⟩
 ·intro x hx;cases hx
 ·intro x hx;simp at hx;subst hx;rw[h];simp
theorem vU.same{e:TypeId}{sz:Nat}{μ μ':Mem}{p:PV}{rows:Lq}{F:List Nat}(h:vU e sz μ p rows F)(hk:∀x∈F,μ' x=μ x):vU e sz μ' p rows F:=by
 rcases h with h|⟨b,c,rest,h1,rfl,h2,h3⟩
 ·exact .inl h
 ·exact .inr ⟨b,c,rest,h1,rfl,by rw[hk b (by simp)];exact h2,h3⟩
theorem vU.view{e:TypeId}{sz:Nat}{μ:Mem}{p:PV}{rows:Lq}{F:List Nat}(h:vU e sz μ p rows F)(hr:∀r∈rows,r.length=sz)(hc:aQ rows.flatten=true):gf μ p (.list sz .sh rows):=by
 rcases h with⟨rfl,rfl,_⟩|⟨b,c,rest,rfl,_,h2,h3,h4⟩
 ·exact .Ke none 0 sz (.inl rfl)
 ·have mu:rows.flatten.length=rows.length*sz:=dV hr;refine .list ⟨rfl,h4,.inr λx hx=>by cases hx;rfl,hr,hc,λ_=>⟨b,0,rfl,?_⟩⟩;simp only[ay,h2];rw[if_pos (by simp[mu]),drop_zero,<- mu,take_left'];rfl
theorem vU.app{e:TypeId}{sz:Nat}{μ:Mem}{p:PV}{rows:Lq}{F:List Nat}(h:vU e sz μ p rows F)(hr:∀r∈rows,r.length=sz):∃a c,p=.raw (.slice a rows.length c)/\
  ∀(r:List PV) (bytes:Nat) (K:Option Addr->Nat->Nat->Mem->Prop),r.length=sz->aQ r=true->(rows.length+1)*bytes<=140737488355328->rows.length+1<4611686018427387904->
   (∀b' c' rest μ2,μ2 b'=some (.cells e ((rows++[r]).flatten++rest))->(rows.length+1)*sz+rest.length=c'*sz->rows.length+1<=c'->Mv μ μ2 F [b']->K (some ⟨b',0,none⟩) (rows.length+1) c' μ2)->
   gP sz bytes e a rows.length c (.list sz .nr [r]) μ K:=by
 have YJ:∀r:List PV,qv sz sz [r]=true:=λr=>by simp[qv,beq_refl]
 have mu:rows.flatten.length=rows.length*sz:=dV hr;rcases h with⟨rfl,rfl,rfl⟩|⟨b0,c,rest,rfl,rfl,h2,h3,h4⟩
 ·refine⟨none,0,rfl,λr bytes K hl iA hb pY hK=>?_⟩;unfold gP Fa;simp only[YJ,cond_true];refine⟨by simpa using hb,by simpa using pY,le_refl _,.inr ⟨by simp,by simpa using iA,λh=>by simp at h,λ_=>⟨[],.inl ⟨rfl,rfl⟩,λb' c' hn sH=>?_⟩⟩⟩;refine hK b' c' (replicate ((c'-(0+1))*sz) .aV) _ ?_ ?_ (by simpa using sH) ((Mv.set (.inr hn)).sub (by simp))
  ·rw[Mem.an];simp
  ·simp only[length_nil,length_replicate];rw[<- add_mul];congr 1;simp at sH;omega
 ·refine⟨_,c,rfl,λr bytes K hl iA hb pY hK=>?_⟩;unfold gP Fa;simp only[YJ,cond_true];have eR:ay μ b0 0 (rows.length*sz)=some rows.flatten:=by
   simp only[ay,h2];rw[if_pos (by simp[mu]),drop_zero,<- mu,take_left'];rfl
  refine⟨by simpa using hb,by simpa using pY,h4,.inr ⟨by simp,by simpa using iA,λhle=>⟨b0,0,e,_,rfl,h2,by simp[mu,h3],?_⟩,λbG=>⟨_,.inr ⟨b0,0,rfl,eR⟩,λb' c' hn sH=>?_⟩⟩⟩
  ·simp only[length_singleton]at hle |-;have Zz:(rows.length+1)*sz<=c*sz:=mul_le_mul_right _ hle;have fH:sz<=rest.length:=by rw[succ_mul]at Zz;omega
   refine hK b0 c (rest.drop sz) _ ?_ ?_ hle ((Mv.set (.inl (by simp))).sub (by simp))
   ·rw[Mem.an];congr 2;unfold dy;rw[zero_add,<- mu,take_left' rfl,flatten_cons,flatten_nil,List.append_nil,List.drop_length_add_append,hl,List.flatten_append];simp
   ·rw[length_drop,succ_mul];omega
  ·simp only[length_singleton]at sH |-;refine hK b' c' (replicate ((c'-(rows.length+1))*sz) .aV) _ ?_ ?_ sH ((Mv.set (F:=[b0]) (.inr hn)).sub (by simp))
   ·rw[Mem.an];simp
   ·rw[length_replicate,<- add_mul];congr 1;omega
theorem Mem.An{μ:Mem}{b:Nat}{o:Option Ob}(h:μ b=o):μ.set b o=μ:=by
 funext x;by_cases e:x=b
 ·subst e;rw[Mem.an,h]
 ·rw[Mem.ax _ _ e]
theorem IK{size bytes:Nat}{e:TypeId}{b c:Nat}{rows:Lq}{fl:Fl}{μ:Mem}{cs:List PV}{K:Option Addr->Nat->Nat->Mem->Prop}(hm:μ b=some (.cells e cs))(nN:cs.length=c*size)(hlen:rows.length<=c)(hr:∀r∈rows,r.length=size)(iA:aQ rows.flatten=true)
  (hb:rows.length*bytes<=140737488355328) (pY:rows.length<4611686018427387904) (hK:K (some ⟨b,0,none⟩) rows.length c (μ.set b (some (.cells e (rows.flatten++cs.drop (rows.length*size)))))):gP size bytes e (some ⟨b,0,none⟩) 0 c (.list size fl rows) μ K:=by
 have mu:rows.flatten.length=rows.length*size:=dV hr;unfold gP Fa;simp only[qv,beq_refl,cond_true];refine⟨by simpa using hb,by simpa using pY,Nat.zero_le _,?_⟩;by_cases h0:rows.length=0
 ·have:rows=[]:=List.eq_nil_of_length_eq_zero h0;subst this;refine .inl ⟨rfl,λh=>absurd rfl h,?_⟩;simp only[flatten_nil,nil_append,length_nil,Nat.zero_mul,drop_zero]at hK;rw[Mem.An hm]at hK;exact hK
 ·refine .inr ⟨h0,iA,λ_=>⟨b,0,e,cs,rfl,hm,by omega,?_⟩,λh=>by omega⟩;simp only[zero_add,Nat.zero_mul];have:dy cs 0 rows.flatten=rows.flatten++cs.drop (rows.length*size):=by
   unfold dy;simp[mu]
  rw[this];exact hK
theorem ao.down{γ:Type}{body:(Int->γ->Prop)->Int->γ->Prop}{u:γ}{n k:Nat}(hk:k<=n)(hn:n<9223372036854775808)(I:Nat->γ->Prop)(h0:I n u)
  (fT:∀(j:Nat) (u:γ) (next:Int->γ->Prop),k<j->j<=n->I j u->(∀u',I (j-1) u'->next (wrap .i64 ((j:Int)-1)) u')->body next (j:Int) u)
  (fL:∀(u:γ) (next:Int->γ->Prop),I k u->body next (k:Int) u):ao body (n:Int) u:=by
 refine⟨λm s w=>∃j:Nat,s=(j:Int)/\k<=j/\j<=n/\m=j-k/\I j w,⟨n-k,n,rfl,hk,le_refl _,rfl,h0⟩,?_⟩;rintro m s w ⟨j,rfl,h1,h2,rfl,hI⟩;by_cases h:k<j
 ·refine fT j w _ h h2 hI λu' hu=>⟨j-1-k,by omega,j-1,?_,by omega,by omega,rfl,hu⟩;rw[aC (by omega) (by omega)];omega
 ·have:j=k:=by omega
  subst this;exact fL w _ hI
theorem aI{μ:Mem}{b o n:Nat}{T:TypeId}{cs:List PV}(h:μ b=some (.cells T cs))(hl:o+n<=cs.length):ay μ b o n=some ((cs.drop o).take n):=by simp only[ay,h];rw[if_pos hl]
theorem wQ{μ:Mem}{b o n:Nat}{T:TypeId}{cs:List PV}(h:μ b=some (.ro T cs))(hl:o+n<=cs.length):ay μ b o n=some ((cs.drop o).take n):=by simp only[ay,h];rw[if_pos hl]
abbrev aX:=Mem->Prop
def Ow:List aX->Mem->Prop
 |[],_=>True
 |A::L,μ=>∃μ1 μ2,Mem.sep μ1 μ2/\μ=μ1.or μ2/\A μ1/\Ow L μ2
theorem Mem.sep.symm{μ ν:Mem}(h:μ.sep ν):ν.sep μ:=λb=>(h b).symm
theorem Mem.or_comm{μ ν:Mem}(h:μ.sep ν):μ.or ν=ν.or μ:=by
 funext b;unfold Mem.or;rcases h b with e|e<;>rw[e]<;>cases hx:μ b<;>cases hy:ν b<;>simp_all
theorem Mem.or_assoc(a b c:Mem):(a.or b).or c=a.or (b.or c):=by
 funext x;unfold Mem.or;cases a x<;>rfl
theorem Mem.wO{a b c:Mem}:a.sep (b.or c)↔a.sep b/\a.sep c:=by
 constructor
 ·intro h;refine⟨λx=>?_,λx=>?_⟩
  ·rcases h x with e|e
   ·exact .inl e
   ·right;cases hb:b x with
    |none=>rfl
    |some o=>rw[Mem.bC hb]at e;cases e
  ·rcases h x with e|e
   ·exact .inl e
   ·right;cases hb:b x with
    |none=>rw[Mem.bI hb]at e;exact e
    |some o=>rw[Mem.bC hb]at e;cases e
 ·rintro⟨h1,h2⟩ x;rcases h1 x with e|e
  ·exact .inl e
  ·rcases h2 x with e'|e'
   ·exact .inl e'
   ·right;rw[Mem.bI e];exact e'
theorem Mem.QU{a b c:Mem}:(a.or b).sep c↔a.sep c/\b.sep c:=by
 constructor
 ·intro h;have:=Mem.wO.1 h.symm;exact⟨this.1.symm,this.2.symm⟩
 ·rintro⟨h1,h2⟩;exact(Mem.wO.2 ⟨h1.symm,h2.symm⟩).symm
theorem Ow.mono:∀{L:List aX} {μ μ':Mem},(∀b o,μ b=some o->μ' b=some o)->Ow L μ->Ow L μ'
 |[],_,_,_,_=>trivial
 |A::L,μ,μ',h,hO=>by
  obtain⟨μ1,μ2,hs,rfl,hA,hL⟩:=hO
  refine⟨μ1,λb=>match μ1 b with|some _=>none|none=>μ' b,λb=>?_,?_,hA,Ow.mono (λb o hb=>?_) hL⟩
  ·cases hb:μ1 b with
   |none=>exact .inl rfl
   |some o=>exact .inr (by simp[hb])
  ·funext b;cases hb:μ1 b with
   |none=>rw[Mem.bI hb];simp[hb]
   |some o=>rw[Mem.bC hb];exact h b o (Mem.bC hb)
  ·have hn:μ1 b=none:=(hs b).resolve_right (by rw[hb];simp);simp only[hn];exact h b o (by rw[Mem.bI hn];exact hb)
theorem Ow.drop{A:aX}{L:List aX}{μ:Mem}(h:Ow (A::L) μ):Ow L μ:=by
 obtain⟨μ1,μ2,hs,rfl,_,hL⟩:=h;exact hL.mono λb o hb=>by rw[Mem.bI ((hs b).resolve_right (by rw[hb];simp))];exact hb
theorem Ow.imp{A B:aX}{L:List aX}{μ:Mem}(h:Ow (A::L) μ)(hi:∀μ,A μ->B μ):Ow (B::L) μ:=by
 obtain⟨μ1,μ2,hs,e,hA,hL⟩:=h;exact⟨μ1,μ2,hs,e,hi _ hA,hL⟩
theorem Ow.tail{A:aX}{L L':List aX}{μ:Mem}(h:Ow (A::L) μ)(hi:∀μ,Ow L μ->Ow L' μ):Ow (A::L') μ:=by
 obtain⟨μ1,μ2,hs,e,hA,hL⟩:=h;exact⟨μ1,μ2,hs,e,hA,hi _ hL⟩
theorem Ow.swap{A B:aX}{L:List aX}{μ:Mem}(h:Ow (A::B::L) μ):Ow (B::A::L) μ:=by
 obtain⟨μ1,_,hs,rfl,hA,μ2,μ3,Cc,rfl,hB,hL⟩:=h;obtain⟨lS,Bm⟩:=Mem.wO.1 hs;exact⟨μ2,μ1.or μ3,Mem.wO.2 ⟨lS.symm,Cc⟩,by rw[<- Mem.or_assoc,Mem.or_comm lS,Mem.or_assoc],hB,μ1,μ3,Bm,rfl,hA,hL⟩
theorem Ow.at:∀{L:List aX} (i:Nat) {A:aX} {μ:Mem},L[i]?=some A->Ow L μ->Ow (A::L.eraseIdx i) μ
 |[],i,A,μ,h,_=>by simp at h
 |B::L,0,A,μ,h,hO=>by
  simp only[List.getElem?_cons_zero,Option.some.injEq]at h
  subst h;exact hO
 |B::L,i+1,A,μ,h,hO=>by
  simp only[List.getElem?_cons_succ]at h
  exact(hO.tail λμ h'=>Ow.at i h h').swap
theorem Ow.back:∀{L:List aX} (i:Nat) {A:aX} {μ:Mem},i<L.length->Ow (A::L.eraseIdx i) μ->Ow (L.set i A) μ
 |[],i,A,μ,h,_=>by simp at h
 |B::L,0,A,μ,h,hO=>hO
 |B::L,i+1,A,μ,h,hO=>(Ow.swap hO).tail λμ h'=>Ow.back i (by simpa using h) h'
theorem rG{α:Type}{L:List α}{i:Nat}{a:α}(h:L[i]?=some a):i<L.length:=(List.getElem?_eq_some_iff.1 h).1
theorem Ow.nest:∀{L1 L:List aX} {μ:Mem},Ow (Ow L1::L) μ->Ow (L1++L) μ
 |[],L,μ,h=>h.drop
 |A::L1,L,μ,h=>by
  obtain⟨_,μ2,hs,rfl,⟨μa,μb,Cc,rfl,hA,hB⟩,hL⟩:=h
  obtain⟨h1,h2⟩:=Mem.QU.1 hs;exact⟨μa,μb.or μ2,Mem.wO.2 ⟨Cc,h1⟩,Mem.or_assoc _ _ _,hA,Ow.nest ⟨μb,μ2,h2,rfl,hB,hL⟩⟩
theorem Ow.pack:∀{L1 L:List aX} {μ:Mem},Ow (L1++L) μ->Ow (Ow L1::L) μ
 |[],L,μ,h=>⟨M0,μ,Mem.qk μ,(Mem.BQ μ).symm,trivial,h⟩
 |A::L1,L,μ,h=>by
  obtain⟨μa,_,hs,rfl,hA,h⟩:=h
  obtain⟨μb,μ2,Cc,rfl,hB,hL⟩:=Ow.pack h;obtain⟨h1,h2⟩:=Mem.wO.1 hs;exact⟨μa.or μb,μ2,Mem.QU.2 ⟨h2,Cc⟩,(Mem.or_assoc _ _ _).symm,⟨μa,μb,h1,rfl,hA,hB⟩,hL⟩
theorem Ow.IJ{L1 L L':List aX}{μ:Mem}(h:Ow (L1++L) μ)(hi:∀μ,Ow L μ->Ow L' μ):Ow (L1++L') μ:=(h.pack.tail hi).nest
theorem Ow.comm{L1 L:List aX}{μ:Mem}(h:Ow (L1++L) μ):Ow (L++L1) μ:=by
 have h1:Ow (Ow L::Ow L1::[]) μ:=(h.pack.tail λμ h'=>(Ow.pack (L:=[]) (by simpa using h'))).swap;refine h1.nest.IJ λμ h'=>?_;have:=h'.nest;simpa using this
theorem Ow.perm{L L':List aX}(hp:L.Perm L'){μ:Mem}:Ow L μ->Ow L' μ:=by
 induction hp generalizing μ with
 |nil=>exact id
 |cons A _ ih=>exact λh=>h.tail λ_ h'=>ih h'
 |swap A B l=>exact λh=>h.swap
 |trans _ _ h1 h2=>exact λh=>h2 (h1 h)
theorem Ow.pick{P A B L:List aX}{x:aX}{μ:Mem}(h:Ow (P++((A++x::B)++L)) μ):Ow (x::(P++((A++B)++L))) μ:=by
 refine h.perm ?_;have e1:P++((A++x::B)++L)=(P++A)++x::(B++L):=by simp
 have e2:P++((A++B)++L)=(P++A)++(B++L):=by simp
 rw[e1,e2];exact List.perm_middle
theorem Ow.qa{P A B L:List aX}{x:aX}{μ:Mem}(h:Ow (x::(P++((A++B)++L))) μ):Ow (P++((A++x::B)++L)) μ:=by
 refine h.perm ?_;have e1:P++((A++x::B)++L)=(P++A)++x::(B++L):=by simp
 have e2:P++((A++B)++L)=(P++A)++(B++L):=by simp
 rw[e1,e2];exact List.perm_middle.symm
theorem Ow.wZ{L1 L:List aX}{A:aX}{μ:Mem}(h:Ow (L1++A::L) μ):Ow (A::(L1++L)) μ:=h.perm List.perm_middle
theorem Ow.GN{L1 L:List aX}{A:aX}{μ:Mem}(h:Ow (A::(L1++L)) μ):Ow (L1++A::L) μ:=h.perm List.perm_middle.symm
theorem Ow.ex{α:Type}{A:α->aX}{L:List aX}{μ:Mem}(h:Ow ((λμ=>∃x,A x μ)::L) μ):∃x,Ow (A x::L) μ:=by
 obtain⟨μ1,μ2,hs,e,⟨x,hA⟩,hL⟩:=h;exact⟨x,μ1,μ2,hs,e,hA,hL⟩
theorem Ow.and{p:Prop}{A:aX}{L:List aX}{μ:Mem}(h:Ow ((λμ=>p/\A μ)::L) μ):p/\Ow (A::L) μ:=by
 obtain⟨μ1,μ2,hs,e,⟨hp,hA⟩,hL⟩:=h;exact⟨hp,μ1,μ2,hs,e,hA,hL⟩
theorem Ow.fact{p:Prop}{A:aX}{L:List aX}{μ:Mem}(h:Ow (A::L) μ)(hp:∀μ,A μ->p):p:=by
 obtain⟨μ1,μ2,hs,e,hA,hL⟩:=h;exact hp _ hA
def Pt(b:Nat)(T:TypeId)(cs:List PV):aX:=λμ=>μ b=some (.cells T cs)
theorem Ow.get{L:List aX}{μ:Mem}(i:Nat){b:Nat}{T:TypeId}{cs:List PV}(hO:Ow L μ)(hi:L[i]?=some (Pt b T cs)):μ b=some (.cells T cs):=by
 obtain⟨μ1,μ2,hs,rfl,hA,_⟩:=Ow.at i hi hO;exact Mem.bC hA
theorem Ow.rd{L:List aX}{μ:Mem}(i:Nat){b:Nat}{T:TypeId}{cs:List PV}{o n:Nat}(hO:Ow L μ)(hi:L[i]?=some (Pt b T cs))(hl:o+n<=cs.length):ay μ b o n=some ((cs.drop o).take n):=aI (hO.get i hi) hl
theorem Ow.put{L:List aX}{μ:Mem}{b:Nat}{T T':TypeId}{cs OR:List PV}(hO:Ow (Pt b T cs::L) μ):Ow (Pt b T' OR::L) (μ.set b (some (.cells T' OR))):=by
 obtain⟨μ1,μ2,hs,rfl,hA,hL⟩:=hO;have hn:μ2 b=none:=(hs b).resolve_left (by rw[hA];simp);refine⟨μ1.set b (some (.cells T' OR)),μ2,λx=>?_,?_,Mem.an _ _ _,hL⟩
 ·by_cases e:x=b
  ·subst e;exact .inr hn
  ·rw[Mem.ax _ _ e];exact hs x
 ·funext x;by_cases e:x=b
  ·subst e;rw[Mem.an,Mem.bC (Mem.an _ _ _)]
  ·rw[Mem.ax _ _ e];unfold Mem.or;rw[Mem.ax _ _ e]
theorem Ow.st{L:List aX}{μ:Mem}(i:Nat){b:Nat}{T:TypeId}{cs:List PV}{o:Nat}{vs:List PV}{K:Mem->Prop}(hO:Ow L μ)(hi:L[i]?=some (Pt b T cs))(hl:o+vs.length<=cs.length)(hk:∀μ',Ow (L.set i (Pt b T (dy cs o vs))) μ'->K μ'):stM b o vs μ K:=
 ⟨T,cs,hO.get i hi,hl,hk _ (Ow.back i (rG hi) (Ow.at i hi hO).put)⟩
theorem Ow.new{L:List aX}{μ:Mem}{b:Nat}(T:TypeId)(cs:List PV)(hO:Ow L μ)(hb:μ b=none):Ow (Pt b T cs::L) (μ.set b (some (.cells T cs))):=by
 refine⟨M0.set b (some (.cells T cs)),μ,λx=>?_,?_,Mem.an _ _ _,hO⟩
 ·by_cases e:x=b
  ·subst e;exact .inr hb
  ·rw[Mem.ax _ _ e];exact .inl rfl
 ·funext x;by_cases e:x=b
  ·subst e;rw[Mem.an,Mem.bC (Mem.an _ _ _)]
  ·rw[Mem.ax _ _ e,Mem.bI (by rw[Mem.ax _ _ e];rfl)]
theorem yi.frame{P:Program}{f:PV}{args:List PV}{μ ν:Mem}{K:Kq}(h:yi P f args μ K)(hs:μ.sep ν):yi P f args (μ.or ν) λv μ'=>∃μ1,μ1.sep ν/\μ'=μ1.or ν/\K v μ1:=λZ u fv vs hg hw hfv ha=>by
 have hμ:∀b o,μ b=some o->(o.rw=true->u.gj b)/\zg Z u b o:=λb o e=>hg.mem b o (Mem.bC e);have hν:∀b o,ν b=some o->μ b=none/\(o.rw=true->u.gj b)/\zg Z u b o:=λb o e=>by
  have hn:μ b=none:=(hs b).resolve_right (by rw[e];simp);exact⟨hn,hg.mem b o (by rw[Mem.bI hn];exact e)⟩
 have Kw:Good Z ⟨u.toWorld,λb=>∃o,μ b=some o/\o.rw=true⟩ μ:=⟨hg.Es,λb o e=>⟨λhr=>⟨o,e,hr⟩,(hμ b o e).2⟩⟩;obtain⟨F,hF,dr⟩:=jH.1 (h Z ⟨u.toWorld,λb=>∃o,μ b=some o/\o.rw=true⟩ fv vs Kw (λb ⟨o,ho,_⟩=>Kw.Px (by rw[ho];simp)) hfv ha);refine jH.2 ⟨F,λb hb=>?_,dr.mono λv lo w' hm Zx _ hp=>?_⟩
 ·obtain⟨o,ho,hr⟩:=hF b hb;exact(hμ b o ho).1 hr
 ·obtain⟨Z',μ1,p,e,g',hr,hK⟩:=hp;have hnb:∀b o,ν b=some o->w'.heap[b]?=u.heap[b]?/\Z' b=Z b/\μ1 b=none:=λb o hb=>by
   obtain⟨h1,_,h2⟩:=hν b o hb;have bG:=h2.lt;refine⟨hm.cu b bG λhf=>(by obtain⟨o',RO,_⟩:=hF b hf;rw[h1]at RO;cases RO),?_,?_⟩
   ·cases hz:Z b with
    |some C=>exact e.zs b C hz h1
    |none=>
     cases Ot:Z' b with
     |none=>rfl
     |some C=>
      rcases e.zn b (by rw[Ot];simp)with h3|h3|h3
      ·exact absurd hz h3
      ·exact absurd h1 h3
      ·have:u.heap.size<=b:=h3;omega
   ·cases hx:μ1 b with
    |none=>rfl
    |some o'=>
     rcases e.mn b (by rw[hx];simp)with h3|h3
     ·exact absurd h1 h3
     ·have:u.heap.size<=b:=h3;omega
  refine⟨Z',μ1.or ν,p,⟨e.le,λb C hb hn=>?_,λb hb=>?_,λb hb=>?_,e.lt⟩,⟨g'.Es,λb o ho=>?_⟩,hr,μ1,λb=>?_,rfl,hK⟩
  ·refine e.zs b C hb ?_;cases hx:μ b with
   |none=>rfl
   |some o=>rw[Mem.bC hx]at hn;cases hn
  ·rcases e.zn b hb with h3|h3|h3
   ·exact .inl h3
   ·refine .inr (.inl ?_);cases hx:μ b with
    |none=>exact absurd hx h3
    |some o=>rw[Mem.bC hx];simp
   ·exact .inr (.inr h3)
  ·rcases Mem.Xb hb with h3|h3
   ·rcases e.mn b h3 with h4|h4
    ·left;cases hx:μ b with
     |none=>exact absurd hx h4
     |some o=>rw[Mem.bC hx];simp
    ·exact .inr h4
   ·cases hx:ν b with
    |none=>exact absurd hx h3
    |some o=>exact .inl (by rw[Mem.bI (hν b o hx).1,hx];simp)
  ·cases hx:μ1 b with
   |some o'=>
    rw[Mem.bC hx]at ho;cases ho;obtain⟨p1,p2⟩:=g'.mem b _ hx;refine⟨λJl=>?_,p2⟩;rcases p1 Jl with⟨o2,hy,DR⟩|p1
    ·exact .inl ((hμ b o2 hy).1 DR)
    ·exact .inr p1
   |none=>
    rw[Mem.bI hx]at ho;obtain⟨h1,h2,h3⟩:=hν b o ho;obtain⟨h4,h5,h6⟩:=hnb b o ho;exact⟨λJl=>.inl (h2 Jl),h3.go e.le h5 h4⟩
  ·cases hx:ν b with
   |none=>exact .inr rfl
   |some o=>exact .inl (hnb b o hx).2.2
theorem bJ.frame{P:Program}{f:PV}{args:List PV}{μ ν:Mem}{K:Kq}(h:bJ P f args μ K)(hs:μ.sep ν):bJ P f args (μ.or ν) λv μ'=>∃μ1,μ1.sep ν/\μ'=μ1.or ν/\K v μ1:=by
 unfold bJ at h |-;split at h
 ·exact h.frame hs
 ·exact yi.frame h hs
theorem Ow.yQ{P:Program}{f:PV}{args:List PV}{A:aX}{B:PV->aX}{L:List aX}{μ:Mem}{K:Kq}(hO:Ow (A::L) μ)(h:∀μ1,A μ1->bJ P f args μ1 B)(hk:∀p μ',Ow (B p::L) μ'->K p μ'):bJ P f args μ K:=by
 obtain⟨μ1,μ2,hs,rfl,hA,hL⟩:=hO;refine(bJ.frame (h μ1 hA) hs).mono λv μ' ⟨μ1',PB,e,hB⟩=>hk v μ' ?_;subst e;exact⟨μ1',μ2,PB,rfl,hB,hL⟩
theorem Ow.mv{A:aX}{L:List aX}{μ μ':Mem}{F F':List Nat}{B:aX}(hO:∃μ1 μ2,Mem.sep μ1 μ2/\μ=μ1.or μ2/\(∀x∈F,μ1 x≠none)/\Ow L μ2)(hm:Mv μ μ' F F')(hB:∀ν,(∀x∈F',ν x=μ' x)->B ν):Ow (B::L) μ':=by
 obtain⟨μ1,μ2,hs,rfl,hF,hL⟩:=hO;have h2:∀x o,μ2 x=some o->μ' x=some o/\x∉F':=λx o hx=>by
  have h1:μ1 x=none:=(hs x).resolve_right (by rw[hx];simp);have yC:(μ1.or μ2) x=some o:=by rw[Mem.bI h1];exact hx
  have hn:x∉F:=λhf=>hF x hf h1;refine⟨by rw[hm.cu x (by rw[yC];simp) hn];exact yC,λhf=>?_⟩;rcases hm.grow x hf with h|h
  ·exact hn h
  ·rw[yC]at h;cases h
 refine⟨λx=>match μ2 x with|some _=>none|none=>μ' x,μ2,λx=>?_,?_,hB _ λx hx=>?_,hL⟩
 ·cases hx:μ2 x with
  |none=>exact .inr rfl
  |some o=>exact .inl (by simp[hx])
 ·funext x;cases hx:μ2 x with
  |none=>
   unfold Mem.or;simp only[hx];cases μ' x<;>rfl
  |some o=>
   rw[Mem.bI (by simp[hx]),hx];exact(h2 x o hx).1
 ·cases Mp:μ2 x with
  |none=>simp[Mp]
  |some o=>exact absurd hx (h2 x o Mp).2
theorem aa.q{P:Program}{g:FuncId}{args:List PV}{μ:Mem}{K K2:Kq}(h:aa P g args M0 K)(hk:∀p μ',μ.sep μ'->K p μ'->K2 p μ'):cV P g args μ K2:=λZ u vs hg hw ha=>by
 obtain⟨hc,dr⟩:=h Z ⟨u.toWorld,λ_=>False⟩ vs ⟨hg.Es,λb o e=>by cases e⟩ (λ_ h=>h.elim) ha;refine⟨hc,dr.DG λv lo w' _ _ hp=>?_⟩;obtain⟨Z',μ',p,e,g',hr,hK⟩:=hp;refine⟨Z',μ',p,e,g',hr,hk p μ' (λb=>?_) hK⟩;cases hx:μ b with
 |none=>exact .inl rfl
 |some o=>
  right;cases hy:μ' b with
  |none=>rfl
  |some o'=>
   have bG:=hg.Px (b:=b) (by rw[hx];simp);rcases e.mn b (by rw[hy];simp)with h1|h1
   ·exact absurd rfl h1
   ·have:u.heap.size<=b:=h1;omega
theorem Ow.side{L M:List aX}{μ ν:Mem}(h:Ow L μ)(hs:μ.sep ν)(k:Ow M ν):Ow (M++L) (μ.or ν):=Ow.nest ⟨ν,μ,hs.symm,Mem.or_comm hs,k,h⟩
def fB(fl:Fl)(n size:Nat):aX:=lY fl n size
theorem Ow.nil{L:List aX}{μ:Mem}(hO:Ow L μ){n size:Nat}{fl:Fl}(h:fl=.nil\/fl=.nr):Ow (fB fl n size::L) μ:=
 ⟨M0,μ,Mem.qk μ,(Mem.BQ μ).symm,by rcases h with rfl|rfl<;>exact trivial,hO⟩
theorem Ow.app{L:List aX}{μ:Mem}{size bytes:Nat}{fl:Fl}{n:Nat}{rows new:Lq}{K:Fl->Mem->Prop}(hO:Ow (fB fl n size::L) μ)(hn:rows.length=n)(hb:(n+new.length)*bytes<=140737488355328)(pY:n+new.length<4611686018427387904)
  (hk:∀km μ',Ow (fB km (n+new.length) size::L) μ'->K km μ'):aW false size bytes fl rows new μ K:=by
 subst hn;obtain⟨μ1,μ2,hs,rfl,hT,hL⟩:=hO;have Ii:lY fl rows.length size (μ1.or μ2):=by
  cases fl with
  |nz b c=>exact Mem.bC hT
  |sh=>exact hT
  |nr=>trivial
  |nil=>trivial
 refine aW.go Ii hb pY λkm μ' h1 h2=>hk km μ' ?_;have h3:∀x o,μ2 x=some o->μ' x=some o/\¬km.at x:=λx o hx=>by
  have Fm:μ1 x=none:=(hs x).resolve_right (by rw[hx];simp);refine h2 x o (by rw[Mem.bI Fm];exact hx) λpj=>?_;cases fl with
  |nz b c=>
   have:x=b:=pj;subst this;have:μ1 x=_:=hT;rw[this]at Fm;cases Fm
  |sh=>exact pj
  |nr=>exact pj
  |nil=>exact pj
 refine⟨λx=>match μ2 x with|some _=>none|none=>μ' x,μ2,λx=>?_,?_,?_,hL⟩
 ·cases hx:μ2 x with
  |none=>exact .inr rfl
  |some o=>exact .inl (by simp[hx])
 ·funext x;cases hx:μ2 x with
  |none=>
   unfold Mem.or;simp only[hx];cases μ' x<;>rfl
  |some o=>rw[Mem.bI (by simp[hx]),hx];exact(h3 x o hx).1
 ·show lY _ _ _ _;cases km with
  |nz b c=>
   have je:μ' b=_:=h1;cases hx:μ2 b with
   |none=>simp only[lY,hx];exact je
   |some o=>exact absurd rfl (h3 b o hx).2
  |sh=>exact h1
  |nr=>trivial
  |nil=>trivial
def cA(e:TypeId)(sz:Nat)(p:PV)(rows:Lq):aX:=λμ=>∃F,vU e sz μ p rows F
theorem cA.nil(e:TypeId)(sz:Nat){L:List aX}{μ:Mem}(hO:Ow L μ):Ow (cA e sz (.raw (.slice none 0 0)) []::L) μ:=⟨M0,μ,Mem.qk μ,(Mem.BQ μ).symm,⟨[],.inl ⟨rfl,rfl,rfl⟩⟩,hO⟩
theorem cA.split{e:TypeId}{sz:Nat}{p:PV}{rows:Lq}{L:List aX}{μ:Mem}(hO:Ow (cA e sz p rows::L) μ):∃F,vU e sz μ p rows F/\∃μ1 μ2,Mem.sep μ1 μ2/\μ=μ1.or μ2/\(∀x∈F,μ1 x≠none)/\Ow L μ2:=by
 obtain⟨μ1,μ2,hs,rfl,⟨F,h⟩,hL⟩:=hO;refine⟨F,h.same λx hx=>?_,μ1,μ2,hs,rfl,h.at_,hL⟩;cases hy:μ1 x with
 |none=>exact absurd hy (h.at_ x hx)
 |some o=>rw[Mem.bC hy]
theorem cA.app{e:TypeId}{sz:Nat}{p:PV}{rows:Lq}{L:List aX}{μ:Mem}(hO:Ow (cA e sz p rows::L) μ)(hr:∀r∈rows,r.length=sz):∃a c,p=.raw (.slice a rows.length c)/\
  ∀(r:List PV) (bytes:Nat) (K:Option Addr->Nat->Nat->Mem->Prop),r.length=sz->aQ r=true->(rows.length+1)*bytes<=140737488355328->rows.length+1<4611686018427387904->
   (∀b' c' μ2,Ow (cA e sz (.raw (.slice (some ⟨b',0,none⟩) (rows.length+1) c')) (rows++[r])::L) μ2->K (some ⟨b',0,none⟩) (rows.length+1) c' μ2)->
   gP sz bytes e a rows.length c (.list sz .nr [r]) μ K:=by
 obtain⟨F,h,DQ⟩:=cA.split hO;obtain⟨a,c,rfl,jf⟩:=h.app hr;refine⟨a,c,rfl,λr bytes K hl iA hb pY hK=>jf r bytes K hl iA hb pY λb' c' rest μ2 je jm sH hm=>hK b' c' μ2 ?_⟩;refine Ow.mv (A:=λ_=>True) DQ hm λν hν=>⟨[b'],.inr ⟨b',c',rest,by simp,rfl,?_,by simpa using jm,by simpa using sH⟩⟩;rw[hν b' (by simp)];exact je
def eJ(A:aX):Prop:=∀μ μ':Mem,(∀b o,μ b=some o->μ' b=some o)->A μ->A μ'
theorem eJ.own(L:List aX):eJ (Ow L):=λ_ _ h hO=>hO.mono h
theorem eJ.ex{α:Type}{A:α->aX}(h:∀x,eJ (A x)):eJ λμ=>∃x,A x μ:=λμ μ' hs ⟨x,hx⟩=>⟨x,h x μ μ' hs hx⟩
theorem eJ.and{p:Prop}{A:aX}(h:eJ A):eJ λμ=>p/\A μ:=λμ μ' hs ⟨hp,hx⟩=>⟨hp,h μ μ' hs hx⟩
theorem eJ.one{A:aX}(h:eJ A){μ:Mem}(hO:Ow [A] μ):A μ:=by
 obtain⟨μ1,μ2,hs,rfl,hA,_⟩:=hO;exact h μ1 _ (λb o hb=>Mem.bC hb) hA
theorem Ow.one{A:aX}{μ:Mem}(h:A μ):Ow [A] μ:=⟨μ,M0,(Mem.qk μ).symm,(Mem.mJ μ).symm,h,trivial⟩
theorem Ow.US{L:List aX}{μ:Mem}(h:Ow [Ow L] μ):Ow L μ:=(eJ.own L).one h
def Rc(l:Nat)(o:Ob):aX:=λμ=>μ l=some o
def gQ(P:Program)(f:PV)(items:Lq)(A A':aX):Prop:=
 (∃g a b,f=.fn (.func g) a b)/\∀(fy:Fn) (ya yb:List PV) (I:Nat->aX) (S:aX) (C:aX) (μ:Mem),Bq fy True->Ow [A,C] μ->(∀μ',Ow [A',C] μ'->Ow [I 0] μ')->
  (∀(k:Nat) (h:k<items.length) (μ:Mem),I k μ->bJ P (.fn fy ya yb) items[k] μ λv μ'=>(v=pB true/\Ow [I (k+1)] μ')\/(v=pB false/\Ow [S] μ'))->
  bJ P f [.fn fy ya yb] μ λ_ μ'=>Ow [I items.length] μ'\/Ow [S] μ'
theorem gQ.mk{P:Program}{g:FuncId}{a b:List PV}{items:Lq}{A A':aX}
  (h:∀(fy:Fn) (ya yb:List PV) (I:Nat->aX) (S:aX) (C:aX) (μ:Mem),Bq fy True->Ow [A,C] μ->(∀μ',Ow [A',C] μ'->Ow [I 0] μ')->
   (∀(k:Nat) (h:k<items.length) (μ:Mem),I k μ->bJ P (.fn fy ya yb) items[k] μ λv μ'=>(v=pB true/\Ow [I (k+1)] μ')\/(v=pB false/\Ow [S] μ'))->
   aa P g (a++[.fn fy ya yb]++b) μ λ_ μ'=>Ow [I items.length] μ'\/Ow [S] μ'):gQ P (.fn (.func g) a b) items A A':=
 ⟨⟨g,a,b,rfl⟩,λfy ya yb I S C μ hy h0 h1 cO=>h fy ya yb I S C μ hy h0 h1 cO⟩
theorem gQ.ofP{P:Program}{f:PV}{items:Lq}(h:TO P f items):gQ P f items (λ_=>True) (λ_=>True):=by
 refine⟨h.1,λfy ya yb I S C μ hy hO h0 cO=>?_⟩;have hl:(items.map vD).length=items.length:=by simp
 have:=h.2 fy ya yb (λk=>Ow [I k]) (Ow [S]) μ hy (λμ' e=>by subst e;exact h0 _ hO) (λk hk vs μ1 μ2 hI OA=>?_)
 ·rw[hl]at this;exact this
 ·have cj:k<items.length:=by simpa using hk
  simp only[getElem_map,vD]at OA;obtain⟨rfl,rfl⟩:=OA;refine Ow.yQ hI (λν hν=>cO k cj ν hν) λp μ' hO=>?_;obtain⟨ν1,ν2,hs,rfl,(⟨rfl,h1⟩|⟨rfl,h1⟩),_⟩:=hO
  ·exact .inl ⟨rfl,h1.mono λb o hb=>Mem.bC hb⟩
  ·exact .inr ⟨rfl,h1.mono λb o hb=>Mem.bC hb⟩
theorem Ow.s_{p q:Prop}{A B:aX}{L:List aX}{μ:Mem}(h:Ow ((λμ=>(p/\Ow [A] μ)\/(q/\Ow [B] μ))::L) μ):(p/\Ow (A::L) μ)\/(q/\Ow (B::L) μ):=by
 obtain⟨μ1,μ2,hs,rfl,(⟨hp,h1⟩|⟨hp,h1⟩),hL⟩:=h
 ·exact .inl ⟨hp,Ow.nest (L1:=[A]) ⟨μ1,μ2,hs,rfl,h1,hL⟩⟩
 ·exact .inr ⟨hp,Ow.nest (L1:=[B]) ⟨μ1,μ2,hs,rfl,h1,hL⟩⟩
theorem bu.own{P:Program}{f:PV}{items:Lq}{A A':aX}{L:List aX}{body:List PV->(Option Code->Mem->Prop)->Mem->Prop}{K:Option Code->Mem->Prop}{μ:Mem}(hs:gQ P f items A A')(hO:Ow (A::L) μ)
  (I:Nat->aX) (S:Code->aX) (hI:∀k,eJ (I k)) (hS:∀c,eJ (S c)) (h0:∀μ',Ow (A'::L) μ'->I 0 μ')
  (cO:∀(k:Nat) (h:k<items.length) (μ:Mem) (R:Option Code->Mem->Prop),I k μ->(∀μ',I (k+1) μ'->R none μ')->(∀c μ',S c μ'->R (some c) μ')->body items[k] R μ)
  (ZI:∀μ,I items.length μ->K none μ) (RE:∀c μ,S c μ->K (some c) μ):bu P f body K μ:=by
 obtain⟨hf,hs⟩:=hs;refine⟨hf,λl rec hl hy=>?_⟩;have cut:∀{ν:Mem} {o:Ob} {M:List aX},Ow (Rc l o::M) ν->ν l=some o/\Ow M (ν.set l none):=λ{ν o M} h=>by
  obtain⟨ν1,ν2,tH,rfl,hR,hM⟩:=h;refine⟨Mem.bC hR,hM.mono λb o' hb=>?_⟩;have GD:ν1 b=none:=(tH b).resolve_right (by rw[hb];simp);have aZ:b≠l:=by
   rintro rfl;have:ν1 b=_:=hR;rw[this]at GD;cases GD
  rw[Mem.ax _ _ aZ,Mem.bI GD];exact hb
 have glue:∀{ν:Mem} {o:Ob},ν l=some o->ν=(ν.set l none).set l (some o):=λ{ν o} h=>by
  rw[Mem.set_set,Mem.An h]
 have lift:∀{ν μ3:Mem} {o:Ob} {ν1 ν2:Mem},μ3 l=none->ν1=μ3.set l (some o)->Mem.sep ν1 ν2->ν=ν1.or ν2->ν l=some o/\∀b o',μ3 b=some o'->(ν.set l none) b=some o':=λ{ν μ3 o ν1 ν2} h1 h2 tH e=>by
  subst h2 e;refine⟨Mem.bC (Mem.an _ _ _),λb o' hb=>?_⟩;have aZ:b≠l:=by rintro rfl;rw[h1]at hb;cases hb
  rw[Mem.ax _ _ aZ];exact Mem.bC (by rw[Mem.ax _ _ aZ];exact hb)
 refine(hs (.yield l) [] [] (λk ν=>∃μ3,μ3 l=none/\ν=μ3.set l (some (rec none))/\I k μ3) (λν=>∃c μ3,μ3 l=none/\ν=μ3.set l (some (rec (some c)))/\S c μ3) (Ow (Rc l (rec none)::L)) _ trivial ?_ (λμ' Sp=>Ow.one ?_) ?_).mono ?_
 ·have h1:Ow (Rc l (rec none)::A::L) (μ.set l (some (rec none))):=by
   refine⟨M0.set l (some (rec none)),μ,λx=>?_,?_,Mem.an _ _ _,hO⟩
   ·by_cases e:x=l
    ·subst e;exact .inr hl
    ·rw[Mem.ax _ _ e];exact .inl rfl
   ·funext x;by_cases e:x=l
    ·subst e;rw[Mem.an,Mem.bC (Mem.an _ _ _)]
    ·rw[Mem.ax _ _ e,Mem.bI (by rw[Mem.ax _ _ e];rfl)]
  refine h1.swap.tail λν hν=>Ow.one hν
 ·have h1:Ow (A'::(Rc l (rec none)::L)) μ':=Sp.tail λν hν=>hν.US;obtain⟨h2,h3⟩:=cut h1.swap;exact⟨_,Mem.an _ _ _,glue h2,h0 _ h3⟩
 ·rintro k hk _ ⟨μ3,h1,rfl,XI⟩;refine(hy items[k] μ3 (λp μ'=>match p with|none=>I (k+1) μ'|some c=>S c μ') h1 (cO k hk μ3 _ XI (λμ' h=>h) (λc μ' h=>h))).mono ?_;rintro v μ2 ⟨p,μ4,rfl,h3,rfl,hR⟩;cases p with
  |none=>exact .inl ⟨rfl,Ow.one ⟨μ4,h3,rfl,hR⟩⟩
  |some c=>exact .inr ⟨rfl,Ow.one ⟨c,μ4,h3,rfl,hR⟩⟩
 ·rintro v ν (h|h)
  ·obtain⟨ν1,ν2,tH,e,⟨μ3,h1,h2,h3⟩,_⟩:=h;obtain⟨h4,h5⟩:=lift h1 h2 tH e;exact⟨none,ν.set l none,Mem.an _ _ _,glue h4,ZI _ (hI _ _ _ h5 h3)⟩
  ·obtain⟨ν1,ν2,tH,e,⟨c,μ3,h1,h2,h3⟩,_⟩:=h;obtain⟨h4,h5⟩:=lift h1 h2 tH e;exact⟨some c,ν.set l none,Mem.an _ _ _,glue h4,RE c _ (hS _ _ _ h5 h3)⟩
end Go.aO
namespace Go.Proofs.YthaeiehophlooaaGreat
open Go.Proofs.Tryz Go.aO Go.RowKit
theorem mU(c:ae):aE c.pv 0 7=some [pI c.kind,pB c.goal,pS c.id,.list 6 .sh (c.attr.map Test.pv),.list 6 .sh (c.value.map Test.pv),pB c.acc,.list 7 .sh (c.conds.map ae.pv)]:=by rw[ae.cG];rfl
theorem aav:∀(n:Nat) (fl:Fl) (l:List ae) (eb deep:Nat),ah l<=n->eb<=1000->deep<=21->av prog 25 [.list 7 fl (l.map ae.pv),pI (eb:Nat),pI (deep:Nat)] λp=>∃r:Nat,p=pI (r:Nat)/\r<=eb+1/\(r<=eb->ah l=r):=by
 intro n;induction n with
 |zero=>
  intro fl l eb deep h hm hd;have:l=[]:=by
   cases l with
   |nil=>rfl
   |cons c l=>simp[ah,bN]at h
  subst this;refine av.of (mY.c ?_);refine ab.mk (λh=>⟨eb+1,?_,by omega,λh=>by omega⟩) (λh=>?_)
  ·rw[aC (by omega) (by omega)];rfl
  ·refine⟨λs _=>s=0,?_,?_⟩
   ·exact ao.up2 0 (by omega) (λk x u=>x=0) rfl λk x u next hk hx aw=>by
     have:k=0:=by omega
     subst this hx;exact ab.f (by simp) rfl
   ·rintro s u rfl;rw[aC (by omega) (by omega),if_neg (by omega)];exact⟨0,rfl,by omega,λ_=>rfl⟩
 |succ n ih=>
  intro fl l eb deep h hm hd;refine av.of (mY.c ?_);refine ab.mk (λh=>⟨eb+1,?_,by omega,λh=>by omega⟩) (λhdd=>?_)
  ·rw[aC (by omega) (by omega)];rfl
  ·have hdd:=of_decide_eq_false hdd;refine⟨λs _=>∃m:Nat,s=(m:Int)/\m<=2*eb+2/\(m<=eb->ah l=m),?_,?_⟩
   ·refine ao.up2 (2*eb+5) (by omega) (λk x u=>∃m:Nat,x=(m:Int)/\k<=m/\m<=2*eb+2/\(m<=eb->ah (l.take k)=m)) ⟨0,rfl,by omega,by omega,λ_=>by simp[ah]⟩ ?_;rintro k _ u next hk ⟨m,rfl,hkm,yB,fH⟩ aw
    refine ab.mk (λh1=>ab.mk (λh2=>?_) (λh2=>?_)) (λh1=>?_)
    ·have h1:=of_decide_eq_true h1;have h2:=of_decide_eq_true h2;simp only[length_map]at h1;have cj:k<l.length:=by omega
     have hs:=fH (by omega);have fw:=et (getElem_mem cj);refine⟨by omega,_,aH cj,.sh,l[k].conds.map ae.pv,by rw[ae.cG];rfl,?_⟩;rw[aC (x:=(deep:Int)+1) (by omega) (by omega)];refine(ih .sh l[k].conds eb (deep+1) (by omega) hm (by omega)).call ?_;rintro _ ⟨r,rfl,PC,DR⟩;refine⟨_,rfl,?_⟩;dsimp only;rw[aC (x:=(1:Int)+_) (by omega) (by omega),aC (x:=(m:Int)+_) (by omega) (by omega)];refine aw (by omega) _ _ ⟨m+1+r,by omega,by omega,by omega,λhle=>?_⟩;rw[eK cj,hs,DR (by omega)];omega
    ·have h2:=of_decide_eq_false h2;exact⟨m,rfl,yB,λhle=>by omega⟩
    ·have h1:=of_decide_eq_false h1;simp only[length_map]at h1;rw[Un (by omega)]at fH;exact⟨m,rfl,yB,fH⟩
   ·rintro _ u ⟨m,rfl,yB,fH⟩;rw[aC (by omega) (by omega)];by_cases bG:(eb:Int)+1<(m:Int)
    ·rw[if_pos bG];exact⟨eb+1,rfl,by omega,λh=>by omega⟩
    ·rw[if_neg bG];exact⟨m,rfl,by omega,fH⟩
theorem yR(fl:Fl)(l:List Test)(hl:l.length<=1000000):av prog 63 [.list 6 fl (l.map Test.pv)] λp=>∃q:Bool,p=pB q/\(q=false->∀t∈l,oE t):=by
 refine av.of (nZ.c ?_);refine ao.each (n:=l.length) (by omega) (λk u=>∀t∈l.take k,oE t) (by simp) ?_ ?_
 ·intro k u next hk hg aw
  have yes:∃q:Bool,wk (pB true)=pB q/\(q=false->∀t∈l,oE t):=⟨true,rfl,λh=>by cases h⟩;refine ab.t (by simpa using hk) ⟨by omega,_,aH hk,_,_,rfl,ab.mk (λ_=>yes) (λa1=>⟨by omega,_,aH hk,_,rfl,ab.mk (λ_=>yes) (λa2=>⟨by omega,_,aH hk,_,rfl,ab.mk (λ_=>yes) (λa3=>aw _ ?_)⟩)⟩)⟩;have a1:=of_decide_eq_false a1;have a2:=of_decide_eq_false a2;have a3:=of_decide_eq_false a3;simp only[length_map]at a1;intro t ht;rw[take_add_one,getElem?_eq_getElem hk,mem_append]at ht;rcases ht with ht|ht
  ·exact hg t ht
  ·simp only[toList_some,List.mem_singleton]at ht;subst ht;exact⟨by omega,by omega,by omega⟩
 ·intro u next hg
  rw[take_length]at hg;exact ab.f (by simp) ⟨false,rfl,λ_=>hg⟩
theorem ID:∀(n:Nat) (fl:Fl) (l:List ae),ah l<=n->ah l<=1000000->av prog 26 [.list 7 fl (l.map ae.pv)] λp=>∃q:Bool,p=pB q/\(q=false->bW l):=by
 intro n;induction n with
 |zero=>
  intro fl l h _;have:l=[]:=by
   cases l with
   |nil=>rfl
   |cons c l=>simp[ah,bN]at h
  subst this;refine av.of (iH.c ?_);exact ao.each (n:=0) (by omega) (λk u=>True) trivial (λk u next hk=>by omega) (λu next _=>ab.f (by simp) ⟨false,rfl,λ_=>trivial⟩)
 |succ n ih=>
  intro fl l h h6;refine av.of (iH.c ?_);have sF:=c_ l;refine ao.each (n:=l.length) (by omega) (λk u=>∀c∈l.take k,cU c) (by simp) ?_ ?_
  ·intro k u next hk hg aw
   have hm:=et (getElem_mem hk);have yes:∃q:Bool,wk (pB true)=pB q/\(q=false->bW l):=⟨true,rfl,λh=>by cases h⟩;refine ab.t (by simpa using hk) ⟨by omega,_,aH hk,_,_,_,_,_,_,_,_,_,_,by rw[ae.cG];rfl,ab.mk (λ_=>yes) (λa1=>ab.mk (λ_=>yes) (λa2=>ab.mk (λ_=>yes) (λa3=>?_)))⟩;have a1:=of_decide_eq_false a1;have a2:=of_decide_eq_false a2;have a3:=of_decide_eq_false a3;simp only[length_map]at a2 a3;refine(yR .sh l[k].attr (by omega)).call ?_;rintro _ ⟨q1,rfl,hq1⟩;refine⟨_,rfl,ab.mk (λ_=>yes) (λb1=>(yR .sh l[k].value (by omega)).call ?_)⟩;rintro _ ⟨q2,rfl,TZ⟩;refine⟨_,rfl,ab.mk (λ_=>yes) (λb2=>(ih .sh l[k].conds (by omega) (by omega)).call ?_)⟩;rintro _ ⟨q3,rfl,HS⟩;refine⟨_,rfl,ab.mk (λ_=>yes) (λb3=>aw _ ?_)⟩;intro c hc;rw[take_add_one,getElem?_eq_getElem hk,mem_append]at hc;rcases hc with hc|hc
   ·exact hg c hc
   ·simp only[toList_some,List.mem_singleton]at hc;subst hc;exact(bF _).2 ⟨by omega,by omega,by omega,hq1 b1,TZ b2,HS b3⟩
  ·intro u next hg
   rw[take_length]at hg;exact ab.f (by simp) ⟨false,rfl,λ_=>b_.2 hg⟩
theorem Em(f:Fl)(l:List Sym)(hl:l.length<=1000000):Pure prog 196 [.list 3 f (l.map Sym.pv)] (.list 3 .sh (l.map Sym.pv)):=by
 refine av.of (mz.c ?_);exact aW.PN (by trivial) (by simp;omega) (by simp;omega) λf1 μ1 t1=>rfl
theorem BC(f:Fl)(l:List Test)(hl:l.length<=1000000)(ht:∀t∈l,t.list.length<=1000000):Pure prog 141 [.list 6 f (l.map Test.pv)] (.list 6 .sh (l.map Test.pv)):=by
 refine av.of (oW.c ?_);refine ao.dG (n:=l.length) (by omega) (λi x u=>x.2=(l.take i).map Test.pv/\lY x.1 i 6 u) ⟨rfl,trivial⟩ ?_ ?_
 ·rintro i ⟨f,_⟩ u next hi ⟨rfl,wB⟩ aw
  refine ab.t (by simpa using hi) ⟨by omega,_,aH hi,_,_,_,_,_,_,_,rfl,by omega,_,aH hi,_,_,rfl,?_⟩;refine(Em .sh l[i].list (ht _ (getElem_mem hi))).call ⟨_,_,rfl,?_⟩;have hlen:((l.take i).map Test.pv).length=i:=by rw[length_map,length_take];omega
  refine aW.PN (by rw[hlen];exact wB) (by rw[hlen];simp;omega) (by rw[hlen];simp;omega) λf1 μ1 t1=>aw _ _ ⟨?_,?_⟩
  ·rw[eV hi]
  ·rw[hlen]at t1;exact t1
 ·rintro⟨f,_⟩ u next ⟨rfl,wB⟩
  refine ab.f (by simp) ?_;rw[take_length];rfl
theorem KZ:∀(n:Nat) (f:Fl) (l:List ae),ah l<=n->ah l<=1000000->bW l->Pure prog 39 [.list 7 f (l.map ae.pv)] (.list 7 .sh (l.map ae.pv)):=by
 intro n;induction n with
 |zero=>
  intro f l h _ _;have:l=[]:=by
   cases l with
   |nil=>rfl
   |cons c l=>simp[ah,bN]at h
  subst this;refine av.of (iY.c ?_);exact ao.dG (n:=0) (by omega) (λ_ x _=>x.2=[]) rfl (λk x u next hk=>by omega) (λx u next hx=>ab.f (by simp) (by rw[hx];rfl))
 |succ n ih=>
  intro f l h h6 hli;have sF:=c_ l;refine av.of (iY.c ?_);refine ao.dG (n:=l.length) (by omega) (λi x u=>x.2=(l.take i).map ae.pv/\lY x.1 i 7 u) ⟨rfl,trivial⟩ ?_ ?_
  ·rintro i ⟨f,_⟩ u next hi ⟨rfl,wB⟩ aw
   have hm:=et (getElem_mem hi);obtain⟨_,ha,hv,Jk,Ox,nN⟩:=(bF _).1 (b_.1 hli _ (getElem_mem hi));refine ab.t (by simpa using hi) ⟨by omega,_,aH hi,_,_,_,_,_,_,_,_,_,_,mU _,?_⟩;refine Pure.call (r:=.agg l[i].pv) (av.of (pX.c ?_)) ?_
   ·refine(BC .sh _ (by omega) (cS Jk)).call ⟨_,_,rfl,(BC .sh _ (by omega) (cS Ox)).call ⟨_,_,rfl,(ih .sh _ (by omega) (by omega) nN).call ⟨_,_,rfl,?_⟩⟩⟩;rw[ae.cG];rfl
   ·rw[ae.cG];refine⟨_,_,_,_,_,_,_,_,_,_,rfl,?_⟩;have hlen:((l.take i).map ae.pv).length=i:=by rw[length_map,length_take];omega
    refine aW.PN (by rw[hlen];exact wB) (by rw[hlen];simp;omega) (by rw[hlen];simp;omega) λf1 μ1 t1=>aw _ _ ⟨?_,?_⟩
    ·rw[eV hi,ae.cG l[i]]
    ·rw[hlen]at t1;exact t1
  ·rintro⟨f,_⟩ u next ⟨rfl,wB⟩
   refine ab.f (by simp) ?_;rw[take_length];rfl
def dU(g:FuncId)(args:List PV)(φ:Prop):Prop:=av prog g args λp=>∃q:Bool,p=pB q/\(q=true↔φ)
theorem dU.call{g:FuncId}{args:List PV}{φ:Prop}(h:dU g args φ){μ:Mem}{K:Kq}(hy:φ->K (pB true) μ)(hn:¬φ->K (pB false) μ):aa prog g args μ K:=av.call h λp ⟨q,e,hq⟩=>by
 subst e;cases q with
 |true=>exact hy (hq.1 rfl)
 |false=>exact hn λh=>by have:=hq.2 h;cases this
theorem dU.yes{φ:Prop}(h:φ):∃q:Bool,wk (pB true)=pB q/\(q=true↔φ):=⟨true,rfl,λ_=>h,λ_=>rfl⟩
theorem dU.no{φ:Prop}(h:¬φ):∃q:Bool,wk (pB false)=pB q/\(q=true↔φ):=⟨false,rfl,(λh=>by cases h),λh'=>absurd h' h⟩
theorem qQ{T:Type}{l m:List T}{n:Nat}{body:(Int->Mem->Prop)->Int->Mem->Prop}{u:Mem}(hl:l.length=n)(hm:m.length=n)(hn:n<9223372036854775808)
  (fT:∀(k:Nat) (hk:k<l.length) (cj:k<m.length) (u:Mem) (next:Int->Mem->Prop),(l[k]=m[k]->∀u',next (wrap .i64 ((k:Int)+1)) u')->(l[k]≠m[k]->l≠m)->body next (k:Int) u) (fL:∀(u:Mem) (next:Int->Mem->Prop),l=m->body next (n:Int) u):ao body 0 u:=by
 refine ao.each (n:=n) hn (λk u=>l.take k=m.take k) (by simp) ?_ ?_
 ·intro k u next hk hg aw
  refine fT k (by omega) (by omega) u next (λe u'=>aw u' ?_) (λaZ e=>aZ ?_)
  ·rw[take_add_one,take_add_one,hg,getElem?_eq_getElem (by omega),getElem?_eq_getElem (by omega),e]
  ·subst e;rfl
 ·intro u next hg
  rw[List.take_of_length_le (by omega),List.take_of_length_le (by omega)]at hg;exact fL u next hg
theorem DF{T:Type}{l m:List T}{pv:T->List PV}(h:((((l.map pv).length:Nat):Int) != (((m.map pv).length:Nat):Int))=true):l≠m:=λe=>by subst e;simp at h
theorem yN{T:Type}{l m:List T}{pv:T->List PV}(h:((((l.map pv).length:Nat):Int) != (((m.map pv).length:Nat):Int))=false):m.length=l.length:=by simp at h;omega
theorem LC{a b:Test}(h1:a.rel=b.rel)(h2:a.var=b.var)(h3:a.sym=b.sym)(h4:a.list=b.list):a=b:=by cases a;cases b;simp_all
theorem FO{a b:ae}(h1:a.kind=b.kind)(h2:a.goal=b.goal)(h3:a.id=b.id)(h4:a.attr=b.attr)(h5:a.value=b.value)(h6:a.acc=b.acc)(h7:a.conds=b.conds):a=b:=by
 cases a;cases b;simp_all [ae.kind,ae.goal,ae.id,ae.attr,ae.value,ae.acc,ae.conds]
theorem aar(f:Fl)(l:List aj)(n:Nat)(hn6:n<=1000000):av prog 27 [.list 12 f (l.map aj.pv),pI (n:Nat)] λp=>∃q:Bool,p=pB q/\(q=true->l.length<=n):=by
 refine av.of (sq.c (ab.mk (λh=>⟨false,rfl,λh=>by cases h⟩) (λh=>?_)));have hn:l.length<=n:=by simpa using h
 refine ao.each (n:=l.length) (by omega) (λ_ _=>True) trivial (λk u next hk _ aw=>?_) (λu next _=>ab.f (by simp) ⟨true,rfl,λ_=>hn⟩);refine ab.t (by simpa using hk) ⟨by omega,_,aH hk,_,rfl,ab.mk (λ_=>⟨false,rfl,λh=>by cases h⟩) (λ_=>⟨by omega,_,aH hk,_,rfl,ab.mk (λ_=>⟨false,rfl,λh=>by cases h⟩) (λ_=>⟨by omega,_,aH hk,_,rfl,ab.mk (λ_=>⟨false,rfl,λh=>by cases h⟩) (λ_=>aw _ trivial)⟩)⟩)⟩
theorem Wo(f:Fl)(l:List aj)(n:Nat)(hn6:n<=1000000):av prog 6 [.list 12 f (l.map aj.pv),pI (n:Nat)] λp=>∃q:Bool,p=pB q/\(q=true->l.length<=n):=by
 refine av.of (sr.c ?_);exact(aar f l n hn6).call λp ⟨q,e,h⟩=>⟨q,e,q,rfl,h⟩
theorem ES(f g:Fl)(l m:List Test)(hl:l.length<=1000000)(ht:∀t∈l,t.list.length<=1000000):dU 161 [.list 6 f (l.map Test.pv),.list 6 g (m.map Test.pv)] (l=m):=by
 refine av.of (Gt.c (ab.mk (λh=>dU.no (DF h)) (λh=>?_)));refine qQ (l:=l) (m:=m) (n:=l.length) rfl (yN h) (by omega) (λk hk cj u next hy dc=>?_) (λu next e=>ab.f (by simp) (dU.yes e));refine ab.t (by simpa using hk) ⟨by omega,_,aH hk,_,_,_,_,_,_,_,rfl,by omega,_,aH cj,_,_,_,_,_,_,_,rfl,ab.mk (λh1=>dU.no (dc λe=>?_)) (λh1=>ab.mk (λh2=>dU.no (dc λe=>?_)) (λh2=>ab.mk (λh3=>dU.no (dc λe=>?_)) (λh3=>ab.mk (λh4=>dU.no (dc λe=>?_)) (λh4=>?_))))⟩
 ·rw[e]at h1;simp at h1
 ·rw[e,fE]at h2;cases h2
 ·have h':eZ l[k].sym m[k].sym=false:=nb h3;rw[dm.2 (by rw[e])]at h';cases h'
 ·exact absurd (by rw[e]) (DF h4)
 ·have Fu:=ht _ (getElem_mem hk);refine qQ (l:=l[k].list) (m:=m[k].list) (n:=l[k].list.length) rfl (yN h4) (by omega) (λi hi xt u1 mM Mo RQ=>?_) (λu1 mM e=>ab.f (by simp) (hy (LC (by simpa using h1) (bD.1 (nt h2)) (dm.1 (nt h3)) e) _));refine ab.t (by simpa using hi) ⟨by omega,_,aH hi,_,_,_,rfl,by omega,_,aH xt,_,_,_,rfl,ab.mk (λh5=>dU.no (dc λe=>RQ (λe'=>?_) (by rw[e]))) (λh5=>Mo (dm.1 (nt h5)) _)⟩;have h':eZ l[k].list[i] m[k].list[i]=false:=nb h5;rw[dm.2 e']at h';cases h'
theorem acy:∀(n:Nat) (fa fv fc ga gv gc:Fl) (c d:ae),ah c.conds<=n->ah c.conds<=1000000->cU c->
  dU 111 [.agg [pI c.kind,pB c.goal,pS c.id,.list 6 fa (c.attr.map Test.pv),.list 6 fv (c.value.map Test.pv),pB c.acc,.list 7 fc (c.conds.map ae.pv)],.agg [pI d.kind,pB d.goal,pS d.id,.list 6 ga (d.attr.map Test.pv),.list 6 gv (d.value.map Test.pv),pB d.acc,.list 7 gc (d.conds.map ae.pv)]] (c=d):=by
 intro n;induction n with
 |zero=>
  intro fa fv fc ga gv gc c d h0 h6 hl;obtain⟨_,l1,l2,l3,l4,l5⟩:=(bF c).1 hl;have tI:c.conds=[]:=by
   cases hc:c.conds with
   |nil=>rfl
   |cons x l=>rw[hc]at h0;simp[ah,bN]at h0
  refine av.of (yW.c ?_);refine ab.mk (λh=>dU.no λe=>?_) (λh1=>ab.mk (λh=>dU.no λe=>?_) (λh2=>ab.mk (λh=>dU.no λe=>?_) (λh3=>ab.mk (λh=>dU.no λe=>?_) (λh4=>ab.mk (λh=>dU.no λe=>?_) (λh5=>?_)))))
  ·subst e;simp at h
  ·subst e;simp at h
  ·subst e;rw[fE]at h;cases h
  ·subst e;simp at h
  ·subst e;simp at h
  ·refine(ES _ _ c.attr d.attr (by omega) (λt ht=>by have:=cS l3 t ht;omega)).call (λe1=>⟨_,rfl,ab.f rfl ?_⟩) (λaZ=>⟨_,rfl,ab.t rfl (dU.no λe=>aZ (by rw[e]))⟩);refine(ES _ _ c.value d.value (by omega) (λt ht=>by have:=cS l4 t ht;omega)).call (λe2=>⟨_,rfl,ab.f rfl ?_⟩) (λaZ=>⟨_,rfl,ab.t rfl (dU.no λe=>aZ (by rw[e]))⟩);refine qQ (l:=c.conds) (m:=d.conds) (n:=0) (by rw[tI];rfl) (by have:=yN h5;rw[tI]at this;exact this) (by omega) (λk hk=>by rw[tI]at hk;simp at hk) (λu next e=>?_);refine ab.f (by rw[tI];simp) (dU.yes (FO (by simpa using h1) (by simpa using h2) (bD.1 (nt h3)) e1 e2 (by simpa using h4) e))
 |succ n ih=>
  intro fa fv fc ga gv gc c d h0 h6 hl;obtain⟨_,l1,l2,l3,l4,l5⟩:=(bF c).1 hl;have sF:=c_ c.conds;refine av.of (yW.c ?_);refine ab.mk (λh=>dU.no λe=>?_) (λh1=>ab.mk (λh=>dU.no λe=>?_) (λh2=>ab.mk (λh=>dU.no λe=>?_) (λh3=>ab.mk (λh=>dU.no λe=>?_) (λh4=>ab.mk (λh=>dU.no λe=>?_) (λh5=>?_)))))
  ·subst e;simp at h
  ·subst e;simp at h
  ·subst e;rw[fE]at h;cases h
  ·subst e;simp at h
  ·subst e;simp at h
  ·refine(ES _ _ c.attr d.attr (by omega) (λt ht=>by have:=cS l3 t ht;omega)).call (λe1=>⟨_,rfl,ab.f rfl ?_⟩) (λaZ=>⟨_,rfl,ab.t rfl (dU.no λe=>aZ (by rw[e]))⟩);refine(ES _ _ c.value d.value (by omega) (λt ht=>by have:=cS l4 t ht;omega)).call (λe2=>⟨_,rfl,ab.f rfl ?_⟩) (λaZ=>⟨_,rfl,ab.t rfl (dU.no λe=>aZ (by rw[e]))⟩);refine qQ (l:=c.conds) (m:=d.conds) (n:=c.conds.length) rfl (yN h5) (by omega) (λk hk cj u next hy dc=>?_) (λu next e=>ab.f (by simp) (dU.yes (FO (by simpa using h1) (by simpa using h2) (bD.1 (nt h3)) e1 e2 (by simpa using h4) e)));have hm:=et (getElem_mem hk);refine ab.t (by simpa using hk) ⟨by omega,_,aH hk,_,_,_,_,_,_,_,_,_,_,mU _,by omega,_,aH cj,_,_,_,_,_,_,_,_,_,_,mU _,?_⟩;refine(ih .sh .sh .sh .sh .sh .sh c.conds[k] d.conds[k] (by omega) (by omega) (b_.1 l5 _ (getElem_mem hk))).call (λe=>⟨_,rfl,ab.f rfl (hy e _)⟩) (λaZ=>⟨_,rfl,ab.t rfl (dU.no λe=>dc aZ (by rw[e]))⟩)
theorem ER(f:Fl)(l:List Test)(hl:l.length<=1000000)(ht:∀t∈l,t.list.length<=1000000):Pure prog 162 [.list 6 f (l.map Test.pv)] (.list 6 .sh (l.map Test.pv)):=by
 refine av.of (Gs.c ?_);refine ao.dG (n:=l.length) (by omega) (λi x u=>x.2=(l.take i).map Test.pv/\Ow [fB x.1 i 6] u) ⟨rfl,Ow.nil (L:=[]) trivial (.inl rfl)⟩ ?_ ?_
 ·rintro i ⟨f,_⟩ u next hi ⟨rfl,wB⟩ aw
  have hti:=ht _ (getElem_mem hi);refine ab.t (by simpa using hi) ⟨by omega,_,aH hi,_,_,_,_,_,_,_,rfl,?_⟩;have hlen:((l.take i).map Test.pv).length=i:=by rw[length_map,length_take];omega
  have hO:Ow [fB .nil 0 3,fB f i 6] u:=wB.nil (.inl rfl);refine hO.app (by simp) (by simp;omega) (by simp;omega) λf14 u1 h1=>?_;refine(h1.swap).app (by rw[hlen]) (by simp;omega) (by simp;omega) λf19 u2 h2=>aw _ _ ⟨?_,?_⟩
  ·rw[eV hi];rfl
  ·exact h2.tail (L':=[]) λ_ _=>trivial
 ·rintro⟨f,_⟩ u next ⟨rfl,wB⟩
  refine ab.f (by simp) ?_;rw[take_length];rfl
theorem QE:∀(n:Nat) (f:Fl) (l:List ae),ah l<=n->ah l<=1000000->bW l->Pure prog 109 [.list 7 f (l.map ae.pv)] (.list 7 .sh (l.map ae.pv)):=by
 intro n;induction n with
 |zero=>
  intro f l h _ _;have:l=[]:=by
   cases l with
   |nil=>rfl
   |cons c l=>simp[ah,bN]at h
  subst this;refine av.of (v_.c ?_);exact ao.dG (n:=0) (by omega) (λ_ x _=>x.2=[]) rfl (λk x u next hk=>by omega) (λx u next hx=>ab.f (by simp) (by rw[hx];rfl))
 |succ n ih=>
  intro f l h h6 hli;have sF:=c_ l;refine av.of (v_.c ?_);refine ao.dG (n:=l.length) (by omega) (λi x u=>x.2=(l.take i).map ae.pv/\lY x.1 i 7 u) ⟨rfl,trivial⟩ ?_ ?_
  ·rintro i ⟨f,_⟩ u next hi ⟨rfl,wB⟩ aw
   have hm:=et (getElem_mem hi);obtain⟨_,ha,hv,Jk,Ox,nN⟩:=(bF _).1 (b_.1 hli _ (getElem_mem hi));refine ab.t (by simpa using hi) ⟨by omega,_,aH hi,_,_,_,_,_,_,_,_,_,_,mU _,?_⟩;refine Pure.call (r:=.agg l[i].pv) (av.of (sP.c ?_)) ?_
   ·refine(ER .sh _ (by omega) (cS Jk)).call ⟨_,_,rfl,(ER .sh _ (by omega) (cS Ox)).call ⟨_,_,rfl,(ih .sh _ (by omega) (by omega) nN).call ⟨_,_,rfl,?_⟩⟩⟩;rw[ae.cG];rfl
   ·rw[ae.cG];refine⟨_,_,_,_,_,_,_,_,_,_,rfl,?_⟩;have hlen:((l.take i).map ae.pv).length=i:=by rw[length_map,length_take];omega
    refine aW.PN (by rw[hlen];exact wB) (by rw[hlen];simp;omega) (by rw[hlen];simp;omega) λf1 μ1 t1=>aw _ _ ⟨?_,?_⟩
    ·rw[eV hi,ae.cG l[i]]
    ·rw[hlen]at t1;exact t1
  ·rintro⟨f,_⟩ u next ⟨rfl,wB⟩
   refine ab.f (by simp) ?_;rw[take_length];rfl
theorem UL(fa fv fc:Fl)(c:ae)(hs:ah c.conds<=1000000)(hl:cU c):Pure prog 112 [.agg [pI c.kind,pB c.goal,pS c.id,.list 6 fa (c.attr.map Test.pv),.list 6 fv (c.value.map Test.pv),pB c.acc,.list 7 fc (c.conds.map ae.pv)]] (.agg c.pv):=by
 obtain⟨_,ha,hv,Jk,Ox,nN⟩:=(bF _).1 hl;refine av.of (sP.c ?_);refine(ER _ _ (by omega) (cS Jk)).call ⟨_,_,rfl,(ER _ _ (by omega) (cS Ox)).call ⟨_,_,rfl,(QE _ _ _ (le_refl _) hs nN).call ⟨_,_,rfl,?_⟩⟩⟩;rw[ae.cG];rfl
theorem acz(fc fa:Fl)(p:Prod)(hs:ah p.conds<=1000000)(hl:bW p.conds)(ha:p.bh.length<=1000000):Pure prog 62 [.agg [pS p.name,.list 7 fc (p.conds.map ae.pv),.list 19 fa (p.bh.map cN.pv)]] (.agg p.pv):=by
 refine av.of (Jc.c ?_);refine(QE _ _ _ (le_refl _) hs hl).q ⟨_,_,rfl,?_⟩;exact aW.PN (by trivial) (by simp;omega) (by simp;omega) λf1 μ1 t1=>rfl
end Go.Proofs.YthaeiehophlooaaGreat
namespace Go.aO
open Go.RowKit
def holds(rel:Int)(a b:Sym):Bool:=
 bif rel == 1 then eZ a b else bif rel == 2 then !eZ a b else
 bif rel == 3 then(a.k == 2&&b.k == 2)&&decide (a.n<b.n)else bif rel == 4 then(a.k == 2&&b.k == 2)&&decide (a.n<=b.n)else
 bif rel == 5 then(a.k == 2&&b.k == 2)&&decide (a.n>b.n)else bif rel == 6 then(a.k == 2&&b.k == 2)&&decide (a.n>=b.n)else
 bif rel == 7 then a.k == b.k else false
def fA:List Bind->ByteArray->Option Sym
 |[],_=>none
 |b::l,v=>if aK b.v v=true then some b.s else fA l v
theorem yL(l r:List Bind)(v:ByteArray):fA (l++r) v=(fA l v).or (fA r v):=by
 induction l with
 |nil=>simp[fA]
 |cons b l ih=>simp only[cons_append,fA];split<;>simp[ih]
theorem xz{l:List Bind}{v:ByteArray}{k:Nat}(hk:k<l.length)(h:fA (l.take k) v=none):fA (l.take (k+1)) v=if aK l[k].v v=true then some l[k].s else none:=by
 rw[take_add_one,yL,h,Option.none_or,getElem?_eq_getElem hk];simp[fA]
theorem Ip{l:List Bind}{v:ByteArray}{k:Nat}(hk:k<l.length)(h:fA (l.take k) v=none)(he:aK l[k].v v=true):fA l v=some l[k].s:=by
 have h1:=xz hk h;rw[if_pos he]at h1;have h2:=yL (l.take (k+1)) (l.drop (k+1)) v;rw[take_append_drop,h1]at h2;exact h2
def met(t:Test)(s:Sym)(l:List Bind):Option (List Bind):=
 if t.rel=8 then(if t.list.any (λx=>eZ x s)=true then some l else none)
 else if t.rel<1\/t.rel>7 then none
 else if t.var=⟨#[]⟩then(if holds t.rel s t.sym=true then some l else none)
 else match fA l t.var with
  |some x=>if holds t.rel s x=true then some l else none
  |none=>if t.rel=1 then some (l++[⟨t.var,s⟩])else none
theorem vh{t:Test}{s:Sym}{l l':List Bind}(h:met t s l=some l'):l'.length<=l.length+1:=by
 unfold met at h
 (repeat' split at h)<;>cases h<;>simp
def eM:List Test->Sym->List Bind->Option (List Bind)
 |[],_,l=>some l
 |t::ts,s,l=>(met t s l).bind (eM ts s)
theorem yU(a b:List Test)(s:Sym)(l:List Bind):eM (a++b) s l=(eM a s l).bind (eM b s):=by
 induction a generalizing l with
 |nil=>rfl
 |cons t a ih=>
  simp only[cons_append,eM];cases met t s l with
  |none=>rfl
  |some l'=>exact ih l'
theorem rP{ts:List Test}{s:Sym}{l lk:List Bind}{k:Nat}(hk:k<ts.length)(h:eM (ts.take k) s l=some lk):eM (ts.take (k+1)) s l=met ts[k] s lk:=by
 rw[take_add_one,yU,h,getElem?_eq_getElem hk];simp only[toList_some,bind_some,eM];cases met ts[k] s lk<;>rfl
theorem xP{ts:List Test}{s:Sym}{l:List Bind}(k:Nat)(h:eM (ts.take k) s l=none):eM ts s l=none:=by
 have h2:=yU (ts.take k) (ts.drop k) s l;rw[take_append_drop,h]at h2;exact h2
theorem nW{ts:List Test}{s:Sym}{l l':List Bind}(h:eM ts s l=some l'):l'.length<=l.length+ts.length:=by
 induction ts generalizing l with
 |nil=>simp only[eM,Option.some.injEq]at h;subst h;simp
 |cons t ts ih=>
  simp only[eM,Option.bind_eq_some_iff]at h;obtain⟨l1,h1,h2⟩:=h;have:=vh h1;have:=ih h2;simp only[length_cons];omega
@[reducible] def fR(v:ByteArray):Test:=⟨1,v,⟨0,⟨#[]⟩,0⟩,[]⟩
def cH(c:ae)(e:aj)(l:List Bind):Option (List Bind):=
 if(c.kind=1\/c.kind=2)/\(c.goal=true->e.goal=true)/\c.acc=e.acc then
  (met (fR c.id) e.id l).bind λl1=>(eM c.attr e.attr l1).bind λl2=>eM c.value e.value l2
 else none
theorem Ee{c:ae}{e:aj}{l l':List Bind}(h:cH c e l=some l'):l'.length<=l.length+1+c.attr.length+c.value.length:=by
 unfold cH at h;split at h
 ·simp only[Option.bind_eq_some_iff]at h;obtain⟨l1,h1,l2,h2,h3⟩:=h;have:=vh h1;have:=nW h2;have:=nW h3;omega
 ·cases h
def aP(c:ae)(l:List Bind)(es:List aj):List (aj×List Bind):=es.filterMap λe=>(cH c e l).map λr=>(e,r)
theorem og{c:ae}{l:List Bind}{es:List aj}{k:Nat}(hk:k<es.length):
  aP c l (es.take (k+1))=aP c l (es.take k)++((cH c es[k] l).map λr=>(es[k],r)).toList:=by
 unfold aP;rw[take_add_one,getElem?_eq_getElem hk,List.filterMap_append];congr 1
theorem mG{c:ae}{l:List Bind}{es:List aj}(k:Nat):aP c l es=aP c l (es.take k)++aP c l (es.drop k):=by
 unfold aP;rw[<- List.filterMap_append,take_append_drop]
theorem Qq{c:ae}{l:List Bind}{es:List aj}{k:Nat}(hk:k<es.length){r:List Bind}(h:cH c es[k] l=some r):
  ∃hj:(aP c l (es.take k)).length<(aP c l es).length,(aP c l es)[(aP c l (es.take k)).length]'hj=(es[k],r):=by
 have e:=mG (c:=c) (l:=l) (es:=es) (k+1);rw[og hk,h]at e;simp only[Option.map_some,toList_some,append_assoc,cons_append,nil_append]at e;have hlen:(aP c l (es.take k)).length<(aP c l es).length:=by rw[e];simp
 refine⟨hlen,?_⟩;have:(aP c l es)[(aP c l (es.take k)).length]?=some (es[k],r):=by
  rw[e,List.getElem?_append_right (le_refl _)];simp
 rw[getElem?_eq_getElem hlen]at this;exact Option.some.inj this
end Go.aO
namespace Go.Proofs.YthaeiehophlooaaGreat
open Go.Proofs.Tryz Go.aO Go.RowKit
theorem Tl(rel:Int)(a b:Sym):Pure prog 257 [pI rel,.agg a.pv,.agg b.pv] (pB (holds rel a b)):=by
 refine av.of (Gi.c ?_);refine⟨λs u=>s=(a.k == 2&&b.k == 2),?_,?_⟩
 ·exact ab.mk (λh=>by simp[h]) (λh=>by simp[h])
 ·rintro s u rfl
  repeat' (refine ab.mk (λh=>?_) (λh=>?_))
  all_goals simp_all [holds,eZ,wk,bV]
@[reducible] def aee:Option Sym->PV
 |some s=>.aA [.agg s.pv,pB true]
 |none=>.aA [.agg [pI 0,pS ⟨#[]⟩,pI 0],pB false]
theorem ku(fl:Fl)(l:List aO.Bind)(hn:l.length<=1000000)(v:ByteArray):Pure prog 177 [.list 4 fl (l.map Bind.pv),pS v] (aee (fA l v)):=by
 refine av.of (Lp.c ?_);refine ao.each (n:=l.length) (by omega) (λk u=>fA (l.take k) v=none) (by simp[fA]) ?_ ?_
 ·intro k u next hk hg aw
  refine ab.t (by simpa using hk) ⟨by omega,_,aH hk,_,_,_,_,rfl,ab.mk (λhe=>?_) (λhe=>?_)⟩
  ·rw[Ip hk hg he];rfl
  ·exact aw _ (by rw[xz hk hg,he];rfl)
 ·intro u next hg
  refine ab.f (by simp) ?_;rw[take_length]at hg;rw[hg];rfl
@[reducible] def aiM:Option (List aO.Bind)->PV
 |some l=>.aA [.list 4 .sh (l.map Bind.pv),pB true]
 |none=>.aA [.list 4 .sh [],pB false]
def yj(o:Option (List aO.Bind))(p:PV):Prop:=∃l:List aO.Bind,p=.aA [.list 4 .sh (l.map Bind.pv),pB o.isSome]/\∀l',o=some l'->l=l'
theorem Tg(fl:Fl)(t:Test)(s:Sym)(l:List aO.Bind)(hn:l.length<=1000000)(ht:t.list.length<=1000000):av prog 224 [.agg t.pv,.agg s.pv,.list 4 fl (l.map Bind.pv)] (yj (met t s l)):=by
 refine av.of (Ln.c ?_);have no:met t s l=none->yj (met t s l) (wk (.aA [.list 4 .nil [],pB false])):=λh=>⟨[],by rw[h];rfl,λl' e=>by rw[h]at e;cases e⟩;have yes:∀{q:Bool},met t s l=(if q=true then some l else none)->yj (met t s l) (wk (.aA [.list 4 fl (l.map Bind.pv),pB q])):=λ{q} h=>by
  rw[h];cases q
  ·exact⟨l,rfl,λl' e=>by cases e⟩
  ·exact⟨l,rfl,λl' e=>by cases e;rfl⟩
 refine ab.mk (λh8=>?_) (λh8=>?_)
 ·have h8:t.rel=8:=by simpa using h8
  have hm:met t s l=if t.list.any (λx=>eZ x s)=true then some l else none:=by rw[met,if_pos h8]
  refine ao.each (n:=t.list.length) (by omega) (λk u=>(t.list.take k).any (λx=>eZ x s)=false) (by simp) ?_ ?_
  ·intro k u next hk hg aw
   refine ab.t (by simpa using hk) ⟨by omega,_,aH hk,_,_,_,rfl,ab.mk (λhe=>?_) (λhe=>?_)⟩
   ·exact yes (q:=true) (by rw[hm,Lg (p:=λx=>eZ x s) hk he])
   ·exact aw _ (by rw[BJ hk hg];exact he)
  ·intro u next hg
   refine ab.f (by simp) (no ?_);rw[take_length]at hg;rw[hm,hg];rfl
 ·have h8:¬t.rel=8:=by simpa using h8
  refine ab.mk (λh1=>no ?_) (λh1=>?_)
  ·rw[met,if_neg h8,if_pos (.inl (by simpa using h1))]
  ·refine ab.mk (λh7=>no ?_) (λh7=>?_)
   ·rw[met,if_neg h8,if_pos (.inr (by simpa using h7))]
   ·have hr:¬(t.rel<1\/t.rel>7):=by simp at h1 h7;omega
    refine ab.mk (λhv=>?_) (λhv=>?_)
    ·refine(Tl t.rel s t.sym).call ⟨_,rfl,yes ?_⟩;rw[met,if_neg h8,if_neg hr,if_pos (bD.1 hv)]
    ·have hv:¬t.var=⟨#[]⟩:=jN.1 hv;refine(ku fl l hn t.var).call ?_;cases hg:fA l t.var with
     |some x=>
      refine⟨_,_,_,_,rfl,ab.t rfl ((Tl t.rel s x).call ⟨_,rfl,yes ?_⟩)⟩;rw[met,if_neg h8,if_neg hr,if_neg hv,hg]
     |none=>
      refine⟨_,_,_,_,rfl,ab.f rfl (ab.mk (λh1=>no ?_) (λh1=>?_))⟩
      ·have h1:¬t.rel=1:=by simpa using h1
       rw[met,if_neg h8,if_neg hr,if_neg hv,hg];simp[h1]
      ·have h1:t.rel=1:=by simpa using h1
       refine⟨by omega,by omega,by omega,rfl,?_⟩;simp only[Int.toNat_zero,Int.toNat_natCast,take_length,drop_zero];refine aW.PN (by trivial) (by simp;omega) (by simp;omega) λkm μ' _=>⟨l++[⟨t.var,s⟩],?_,λl' e=>?_⟩
       ·rw[met,if_neg h8,if_neg hr,if_neg hv,hg];simp[h1,wk,bV,yX]
       ·rw[met,if_neg h8,if_neg hr,if_neg hv,hg]at e;simp[h1]at e;exact e
theorem pN(fl km:Fl)(ts:List Test)(s:Sym)(l:List aO.Bind)(hn:l.length+ts.length<=1000000)(ht:∀t∈ts,t.list.length<=1000000):av prog 225 [.list 6 fl (ts.map Test.pv),.agg s.pv,.list 4 km (l.map Bind.pv)] (yj (eM ts s l)):=by
 refine av.of (Lo.c ?_);refine ao.dG (n:=ts.length) (by omega) (λk x u=>∃lk,eM (ts.take k) s l=some lk/\x.2=lk.map Bind.pv) ⟨l,rfl,rfl⟩ ?_ ?_
 ·rintro k ⟨xf,xr⟩ u next hk ⟨lk,Fu,rfl⟩ aw
  have hkb:=nW Fu;rw[length_take]at hkb;refine ab.t (by simpa using hk) ⟨by omega,_,aH hk,_,_,_,_,_,_,_,rfl,?_⟩;refine(Tg xf ts[k] s lk (by omega) (ht _ (getElem_mem hk))).call ?_;rintro _ ⟨l',rfl,Xv⟩;refine⟨_,_,_,rfl,?_⟩;cases hm:met ts[k] s lk with
  |none=>
   refine ab.t rfl ⟨[],?_,λl2 e=>?_⟩
   ·rw[xP (k+1) (by rw[rP hk Fu,hm])];rfl
   ·rw[xP (k+1) (by rw[rP hk Fu,hm])]at e;cases e
  |some l2=>
   have:=Xv l2 hm;subst this;exact ab.f rfl (aw (_,_) _ ⟨l',by rw[rP hk Fu,hm],rfl⟩)
 ·rintro⟨xf,xr⟩ u next ⟨lk,Fu,rfl⟩
  rw[take_length]at Fu;exact ab.f (by simp) ⟨lk,by rw[Fu];rfl,λl2 e=>by rw[Fu]at e;cases e;rfl⟩
theorem KT(fl:Fl)(l:List aO.Bind)(hn:l.length<=2000000):Pure prog 174 [.list 4 fl (l.map Bind.pv)] (.list 4 .sh (l.map Bind.pv)):=by
 refine av.of (Lm.c ?_);exact aW.PN (by trivial) (by simp;omega) (by simp;omega) λkm μ' _=>rfl
theorem To(fa fv fc fl:Fl)(c:ae)(e:aj)(l:List aO.Bind)(hn:l.length+1+c.attr.length+c.value.length<=1000000)(ha:∀t∈c.attr,t.list.length<=1000000)(hv:∀t∈c.value,t.list.length<=1000000):
  Pure prog 176 [.agg [pI c.kind,pB c.goal,pS c.id,.list 6 fa (c.attr.map Test.pv),.list 6 fv (c.value.map Test.pv),pB c.acc,.list 7 fc (c.conds.map ae.pv)],.agg e.pv,.list 4 fl (l.map Bind.pv)] (aiM (cH c e l)):=by
 refine av.of (IW.c ?_);refine⟨λ_ u=>((c.kind=1\/c.kind=2)/\(c.goal=true->e.goal=true)/\c.acc=e.acc),?_,?_⟩
 ·repeat' (refine ab.mk (λh=>?_) (λh=>?_))
  all_goals first
   |(simp_all;done)
   |(rw[cH,if_neg (by simp_all)];rfl)
 ·rintro _ u hc;rw[cH,if_pos hc];refine(Tg fl (fR c.id) e.id l (by omega) (by simp)).call ?_;rintro _ ⟨l1,rfl,h1⟩;refine⟨_,_,_,rfl,?_⟩;cases hm:met (fR c.id) e.id l with
  |none=>exact ab.t rfl rfl
  |some l1'=>
   obtain rfl:=h1 l1' hm;have g1:=vh hm;refine ab.f rfl ((pN fa _ c.attr e.attr l1 (by omega) ha).call ?_);rintro _ ⟨l2,rfl,h2⟩;refine⟨_,_,_,rfl,?_⟩;simp only[bind_some];cases rH:eM c.attr e.attr l1 with
   |none=>exact ab.t rfl rfl
   |some l2'=>
    obtain rfl:=h2 l2' rH;have g2:=nW rH;refine ab.f rfl ((pN fv _ c.value e.value l2 (by omega) hv).call ?_);rintro _ ⟨l3,rfl,h3⟩;refine⟨_,_,_,rfl,?_⟩;simp only[bind_some];cases Xr:eM c.value e.value l2 with
    |none=>exact ab.t rfl rfl
    |some l3'=>
     obtain rfl:=h3 l3' Xr;have g3:=nW Xr;exact ab.f rfl ((KT _ l3 (by omega)).call ⟨_,_,rfl,rfl⟩)
theorem Wk(rel:Int)(a b:Sym):Pure prog 270 [pI rel,.agg a.pv,.agg b.pv] (pB (holds rel a b)):=by
 refine av.of (sf.c ?_);refine⟨λs u=>s=(a.k == 2&&b.k == 2),?_,?_⟩
 ·exact ab.mk (λh=>by simp[h]) (λh=>by simp[h])
 ·rintro s u rfl
  repeat' (refine ab.mk (λh=>?_) (λh=>?_))
  all_goals simp_all [holds,eZ,wk,bV]
theorem aeq(fl:Fl)(l:List aO.Bind)(hn:l.length<=1000000)(v:ByteArray):Pure prog 268 [.list 4 fl (l.map Bind.pv),pS v] (aee (fA l v)):=by
 refine av.of (wh.c ?_);refine ao.each (n:=l.length) (by omega) (λk u=>fA (l.take k) v=none) (by simp[fA]) ?_ ?_
 ·intro k u next hk hg aw
  refine ab.t (by simpa using hk) ⟨by omega,_,aH hk,_,rfl,ab.mk (λhe=>⟨by omega,_,aH hk,_,_,_,rfl,?_⟩) (λhe=>?_)⟩
  ·rw[Ip hk hg he];rfl
  ·exact aw _ (by rw[xz hk hg,he];rfl)
 ·intro u next hg
  refine ab.f (by simp) ?_;rw[take_length]at hg;rw[hg];rfl
theorem aaM{fl:Fl}{new:Lq}{μ:Mem}{size bytes:Nat}{K:Fl->Mem->Prop}(h:fl=.nil)(hb:new.length*bytes<=140737488355328)(pY:new.length<4611686018427387904)(hK:∀km μ',Ow [fB km new.length size] μ'->K km μ'):aW true size bytes fl [] new μ K:=by
 subst h;refine aW.PN (h:=trivial) (by simpa using hb) (by simpa using pY) (λkm μ' h1=>hK km μ' (Ow.one ?_));simpa[fB]using h1
theorem aao(fl:Fl)(l:List aO.Bind)(hn:l.length<=1000000)(v:ByteArray)(s:Sym):Pure prog 269 [.list 4 fl (l.map Bind.pv),pS v,.agg s.pv] (.list 4 .sh ((l++[(⟨v,s⟩:aO.Bind)]).map Bind.pv)):=by
 refine av.of (uf.c ?_);have go:aW true 4 48 .nil [] (l.map Bind.pv) M0 λf8 u=>aW false 4 48 f8 ([]++l.map Bind.pv) [[pS v,pI s.k,pS s.t,pI s.n]] u λf13 ym=>wk (.list 4 f13 (([]++l.map Bind.pv)++[[pS v,pI s.k,pS s.t,pI s.n]]))=.list 4 .sh ((l++[(⟨v,s⟩:aO.Bind)]).map Bind.pv):=
  aaM rfl (by simp;omega) (by simp;omega) λf8 u hO=>Ow.app hO (by simp) (by simp;omega) (by simp;omega) λf13 u1 _=>by simp[wk,bV]
 exact⟨go,go⟩
theorem XU(fl fl2:Fl)(t:Test)(s:Sym)(l:List aO.Bind)(hn:l.length<=1000000)(ht:t.list.length<=1000000):av prog 266 [.agg [pI t.rel,pS t.var,pI t.sym.k,pS t.sym.t,pI t.sym.n,.list 3 fl2 (t.list.map Sym.pv)],.agg s.pv,.list 4 fl (l.map Bind.pv)] (yj (met t s l)):=by
 refine av.of (wg.c ?_);have no:met t s l=none->yj (met t s l) (wk (.aA [.list 4 .nil [],pB false])):=λh=>⟨[],by rw[h];rfl,λl' e=>by rw[h]at e;cases e⟩;have yes:met t s l=some l->yj (met t s l) (wk (.aA [.list 4 fl (l.map Bind.pv),pB true])):=λh=>⟨l,by rw[h];rfl,λl' e=>by rw[h]at e;cases e;rfl⟩;refine ab.mk (λh8=>?_) (λh8=>?_)
 ·have h8:t.rel=8:=by simpa using h8
  have hm:met t s l=if t.list.any (λx=>eZ x s)=true then some l else none:=by rw[met,if_pos h8]
  refine ao.each (n:=t.list.length) (by omega) (λk u=>(t.list.take k).any (λx=>eZ x s)=false) (by simp) ?_ ?_
  ·intro k u next hk hg aw
   refine ab.t (by simpa using hk) ⟨by omega,_,aH hk,_,_,_,rfl,ab.mk (λhe=>?_) (λhe=>?_)⟩
   ·exact yes (by rw[hm,Lg (p:=λx=>eZ x s) hk he];rfl)
   ·exact aw _ (by rw[BJ hk hg];exact he)
  ·intro u next hg
   rw[take_length]at hg;exact ab.f (by simp) (no (by rw[hm,hg];rfl))
 ·have h8:t.rel≠8:=by simpa using h8
  refine ab.mk (λh1=>?_) (λh1=>ab.mk (λh7=>?_) (λh7=>?_))
  ·have h1:t.rel<1:=by simpa using h1
   exact no (by rw[met,if_neg h8,if_pos (.inl h1)])
  ·have h7:t.rel>7:=by simpa using h7
   exact no (by rw[met,if_neg h8,if_pos (.inr h7)])
  ·have h17:¬(t.rel<1\/t.rel>7):=by simp at h1 h7;omega
   refine⟨λx u=>(t.var=⟨#[]⟩/\(⟨x.1,x.2.1,x.2.2⟩:Sym)=t.sym)\/(t.var≠⟨#[]⟩/\fA l t.var=some ⟨x.1,x.2.1,x.2.2⟩),?_,?_⟩
   ·refine ab.mk (λhv=>?_) (λhv=>.inl ⟨bD.1 (by simpa using hv),rfl⟩);have hv:t.var≠⟨#[]⟩:=jN.1 (by simpa using hv);refine(aeq fl l hn t.var).call ?_;cases hg:fA l t.var with
    |some x=>exact⟨_,_,_,_,rfl,ab.f rfl (.inr ⟨hv,rfl⟩)⟩
    |none=>
     refine⟨_,_,_,_,rfl,ab.t rfl (ab.mk (λhr=>?_) (λhr=>?_))⟩
     ·have hr:t.rel≠1:=by simpa using hr
      exact no (by rw[met,if_neg h8,if_neg h17,if_neg hv,hg];exact if_neg hr)
     ·have hr:t.rel=1:=by simpa using hr
      have hm:met t s l=some (l++[⟨t.var,s⟩]):=by rw[met,if_neg h8,if_neg h17,if_neg hv,hg];exact if_pos hr
      refine(aao fl l hn t.var s).call ⟨_,_,rfl,?_⟩;exact⟨_,by rw[hm];rfl,λl' e=>by rw[hm]at e;cases e;rfl⟩
   ·rintro⟨x1,x2,x3⟩ u hx;have hm:met t s l=if holds t.rel s ⟨x1,x2,x3⟩=true then some l else none:=by
     rw[met,if_neg h8,if_neg h17];rcases hx with⟨hv,e⟩|⟨hv,e⟩
     ·rw[if_pos hv,<- e]
     ·rw[if_neg hv,e]
    refine(Wk t.rel s ⟨x1,x2,x3⟩).call ⟨_,rfl,ab.mk (λh=>?_) (λh=>?_)⟩
    ·exact no (by rw[hm,if_neg (by simpa using h)])
    ·exact yes (by rw[hm,if_pos (by simpa using h)])
theorem IB(fl km:Fl)(ts:List Test)(s:Sym)(l:List aO.Bind)(hn:l.length+ts.length<=1000000)(ht:∀t∈ts,t.list.length<=1000000):av prog 267 [.list 6 fl (ts.map Test.pv),.agg s.pv,.list 4 km (l.map Bind.pv)] (yj (eM ts s l)):=by
 refine av.of (se.c ?_);refine ao.dG (n:=ts.length) (by omega) (λk x u=>∃lk:List aO.Bind,x.2=lk.map Bind.pv/\eM (ts.take k) s l=some lk/\lk.length<=l.length+k) ⟨l,rfl,rfl,le_refl _⟩ ?_ ?_
 ·rintro k ⟨f,_⟩ u next hk ⟨lk,rfl,Fu,hlen⟩ aw
  have Jk:=rP hk Fu;refine ab.t (by simpa using hk) ⟨by omega,_,aH hk,_,_,_,_,_,_,_,rfl,?_⟩;refine av.call (XU f .sh ts[k] s lk (by omega) (ht _ (getElem_mem hk))) λp hp=>?_;obtain⟨l2,rfl,h2⟩:=hp;refine⟨_,_,_,rfl,ab.mk (λh=>?_) (λh=>?_)⟩
  ·have dc:met ts[k] s lk=none:=by
    cases hm:met ts[k] s lk with
    |none=>rfl
    |some r=>rw[hm]at h;simp at h
   have:eM ts s l=none:=xP (k+1) (by rw[Jk,dc]);exact⟨[],by rw[this];rfl,λl' e=>by rw[this]at e;cases e⟩
  ·cases hm:met ts[k] s lk with
   |none=>rw[hm]at h;simp at h
   |some r=>
    have e:=h2 r hm;subst e;have:=vh hm;exact aw _ _ ⟨l2,rfl,by rw[Jk,hm],by omega⟩
 ·rintro⟨f,_⟩ u next ⟨lk,rfl,Fu,_⟩
  rw[take_length]at Fu;exact ab.f (by simp) ⟨lk,by rw[Fu];rfl,λl' e=>by rw[Fu]at e;cases e;rfl⟩
theorem Wm(fa fv fc fl:Fl)(c:ae)(e:aj)(l:List aO.Bind)(hn:l.length+1+c.attr.length+c.value.length<=1000000)(ha:∀t∈c.attr,t.list.length<=1000000)(hv:∀t∈c.value,t.list.length<=1000000):
  av prog 261 [.agg [pI c.kind,pB c.goal,pS c.id,.list 6 fa (c.attr.map Test.pv),.list 6 fv (c.value.map Test.pv),pB c.acc,.list 7 fc (c.conds.map ae.pv)],.agg e.pv,.list 4 fl (l.map Bind.pv)] (yj (cH c e l)):=by
 refine av.of (ui.c ?_);have no:cH c e l=none->yj (cH c e l) (wk (.aA [.list 4 .nil [],pB false])):=λh=>⟨[],by rw[h];rfl,λl' e'=>by rw[h]at e';cases e'⟩;refine⟨λ_ u=>(c.kind=1\/c.kind=2)/\(c.goal=true->e.goal=true)/\c.acc=e.acc,?_,?_⟩
 ·have rest:(c.kind=1\/c.kind=2)->∀u:Mem,ab c.goal
    (ab (!e.goal) (yj (cH c e l) (wk (.aA [.list 4 .nil [],pB false]))) (ab (!(c.acc == e.acc)) (yj (cH c e l) (wk (.aA [.list 4 .nil [],pB false]))) ((c.kind=1\/c.kind=2)/\(c.goal=true->e.goal=true)/\c.acc=e.acc)))
    (ab (!(c.acc == e.acc)) (yj (cH c e l) (wk (.aA [.list 4 .nil [],pB false]))) ((c.kind=1\/c.kind=2)/\(c.goal=true->e.goal=true)/\c.acc=e.acc)):=λhk u=>by
   refine ab.mk (λg=>ab.mk (λg2=>no ?_) (λg2=>ab.mk (λg3=>no ?_) (λg3=>⟨hk,λ_=>by simpa using g2,by simpa using g3⟩))) (λg=>ab.mk (λg3=>no ?_) (λg3=>⟨hk,(λh=>by rw[g]at h;cases h),by simpa using g3⟩))
   ·rw[cH,if_neg];rintro⟨_,h,_⟩;simp[h g]at g2
   ·rw[cH,if_neg];rintro⟨_,_,h⟩;simp[h]at g3
   ·rw[cH,if_neg];rintro⟨_,_,h⟩;simp[h]at g3
  refine ab.mk (λk1=>ab.mk (λk2=>no ?_) (λk2=>rest (.inr (by simpa using k2)) M0)) (λk1=>rest (.inl (by simpa using k1)) M0);rw[cH,if_neg];rintro⟨h|h,_⟩
  ·rw[h]at k1;simp at k1
  ·rw[h]at k2;simp at k2
 ·rintro _ u hc;have nN:cH c e l=(met (fR c.id) e.id l).bind λl1=>(eM c.attr e.attr l1).bind λl2=>eM c.value e.value l2:=if_pos hc;refine av.call (XU fl .sh (fR c.id) e.id l (by omega) (by simp)) λp hp=>?_;obtain⟨l1,rfl,h1⟩:=hp;refine⟨_,_,_,rfl,ab.mk (λh=>no ?_) (λh=>?_)⟩
  ·cases hm:met (fR c.id) e.id l with
   |none=>rw[nN,hm];rfl
   |some r=>rw[hm]at h;simp at h
  ·cases hm:met (fR c.id) e.id l with
   |none=>rw[hm]at h;simp at h
   |some r1=>
    have e1:=h1 r1 hm;subst e1;have zH:=vh hm;refine av.call (IB fa .sh c.attr e.attr l1 (by omega) ha) λp hp=>?_;obtain⟨l2,rfl,h2⟩:=hp;refine⟨_,_,_,rfl,ab.mk (λh=>no ?_) (λh=>?_)⟩
    ·cases rH:eM c.attr e.attr l1 with
     |none=>rw[nN,hm];show(eM c.attr e.attr l1).bind _=none;rw[rH];rfl
     |some r=>rw[rH]at h;simp at h
    ·cases rH:eM c.attr e.attr l1 with
     |none=>rw[rH]at h;simp at h
     |some r2=>
      have e2:=h2 r2 rH;subst e2;have tK:=nW rH;have Sd:cH c e l=eM c.value e.value l2:=by rw[nN,hm];show(eM c.attr e.attr l1).bind _=_;rw[rH];rfl
      refine av.call (IB fv .sh c.value e.value l2 (by omega) hv) λp hp=>?_;obtain⟨l3,rfl,h3⟩:=hp;exact⟨_,_,_,rfl,l3,by rw[Sd];rfl,λl' e'=>h3 l' (by rw[<- Sd];exact e')⟩
end Go.Proofs.YthaeiehophlooaaGreat
namespace Go.aO
open Go.RowKit
theorem acJ{lo hi:Nat}(h:lo<hi)(hn:hi<4611686018427387904):wrap .i64 ((lo:Int)+wrap .i64 (Int.tdiv (wrap .i64 ((hi:Int)-(lo:Int))) 2))=((lo+(hi-lo)/2:Nat):Int):=by
 have e1:wrap .i64 ((hi:Int)-(lo:Int))=((hi-lo:Nat):Int):=by rw[aC (by omega) (by omega)];omega
 rw[e1];have e2:Int.tdiv ((hi-lo:Nat):Int) 2=(((hi-lo)/2:Nat):Int):=by
  rw[Int.tdiv_eq_ediv_of_nonneg (by omega)];omega
 rw[e2,aC (x:=(((hi-lo)/2:Nat):Int)) (by omega) (by omega),aC (by omega) (by omega)];omega
theorem ao.bin{body:(Int×Int->Mem->Prop)->Int×Int->Mem->Prop}{u:Mem}{n:Nat}(hn:n<4611686018427387904)(c:Nat->Int)(A:Mem->Prop)(h0:A u)
  (m1:∀i j,i<j->j<n->c j<=0->c i<0) (m2:∀i j,i<j->j<n->0<=c i->0<c j)
  (fT:∀(lo hi wZ:Nat) (u:Mem) (next:Int×Int->Mem->Prop),lo<hi->hi<=n->wZ=lo+(hi-lo)/2->wZ<n->A u->(c wZ<0->∀u',A u'->next (((wZ+1:Nat):Int),(hi:Int)) u')->(0<c wZ->∀u',A u'->next ((lo:Int),(wZ:Int)) u')->(c wZ=0->∀i,i<wZ->c i<0)->body next ((lo:Int),(hi:Int)) u)
  (fL:∀(k:Nat) (u:Mem) (next:Int×Int->Mem->Prop),A u->k<=n->(∀i,i<k->c i<0)->(∀i,k<=i->i<n->0<c i)->body next ((k:Int),(k:Int)) u):ao body (0,(n:Int)) u:=by
 refine⟨λm s w=>∃lo hi:Nat,s=((lo:Int),(hi:Int))/\lo<=hi/\hi<=n/\m=hi-lo/\A w/\(∀i,i<lo->c i<0)/\(∀i,hi<=i->i<n->0<c i),⟨n,0,n,rfl,by omega,le_refl _,by omega,h0,λi hi=>by omega,λi h1 h2=>by omega⟩,?_⟩;rintro m s w ⟨lo,hi,rfl,hle,hhi,rfl,hA,h1,h2⟩;by_cases bG:lo<hi
 ·refine fT lo hi (lo+(hi-lo)/2) w _ bG hhi rfl (by omega) hA (λhc u' hu=>⟨hi-(lo+(hi-lo)/2+1),by omega,_,hi,rfl,by omega,hhi,rfl,hu,λi xt=>?_,h2⟩) (λhc u' hu=>⟨(lo+(hi-lo)/2)-lo,by omega,lo,_,rfl,by omega,by omega,rfl,hu,h1,λi PG OB=>?_⟩) (λhc i xt=>m1 i _ xt (by omega) (by omega))
  ·by_cases e:i=lo+(hi-lo)/2
   ·subst e;exact hc
   ·exact m1 i (lo+(hi-lo)/2) (by omega) (by omega) (by omega)
  ·by_cases e:i=lo+(hi-lo)/2
   ·subst e;exact hc
   ·exact m2 (lo+(hi-lo)/2) i (by omega) OB (by omega)
 ·have:lo=hi:=by omega
  subst this;exact fL lo w _ hA hhi h1 h2
structure ns{T:Type}(c:T->T->Int):Prop where
 zero:∀a b,c a b=0↔a=b
 flip:∀a b,c a b<0↔0<c b a
 trans:∀a b d,c a b<0->c b d<0->c a d<0
def Up{T:Type}(c:T->T->Int)(L:List T):Prop:=L.Pairwise λa b=>c a b<0
theorem Up.lt{T:Type}{c:T->T->Int}{L:List T}(h:Up c L){i j:Nat}(hi:i<j)(hj:j<L.length):c (L[i]'(lt_trans hi hj)) L[j]<0:=List.pairwise_iff_getElem.1 h i j _ hj hi
structure bP{T:Type}(c:T->T->Int)(L:List T)(x:T)(k:Nat)(there:Bool):Prop where
 le:k<=L.length
 low:∀(i:Nat) (h:i<L.length),i<k->c L[i] x<0
 OA:there=true->∃h:k<L.length,L[k]=x
 Fe:there=false->∀(i:Nat) (h:i<L.length),k<=i->0<c L[i] x
theorem bP.mem{T:Type}{c:T->T->Int}(hc:ns c){L:List T}{x:T}{k:Nat}{there:Bool}(h:bP c L x k there):there=true↔x∈L:=by
 refine⟨λht=>?_,λhx=>?_⟩
 ·obtain⟨hk,e⟩:=h.OA ht;rw[<- e];exact getElem_mem hk
 ·cases there with
  |true=>rfl
  |false=>
   obtain⟨i,hi,e⟩:=mem_iff_getElem.1 hx;have hz:c L[i] x=0:=(hc.zero _ _).2 e;by_cases hk:i<k
   ·have:=h.low i hi hk;omega
   ·have:=h.Fe rfl i hi (by omega);omega
theorem bP.put{T:Type}{c:T->T->Int}(hc:ns c){L:List T}{x:T}{k:Nat}(h:bP c L x k false)(hu:Up c L):Up c (L.take k++x::L.drop k):=by
 have gp:L.Pairwise λa b=>c a b<0:=hu;rw[<- take_append_drop k L,List.pairwise_append]at gp;refine List.pairwise_append.2 ⟨gp.1,pairwise_cons.2 ⟨λb hb=>?_,gp.2.1⟩,λa ha b hb=>?_⟩
 ·obtain⟨i,hi,e⟩:=mem_iff_getElem.1 hb;rw[getElem_drop]at e;rw[<- e];exact(hc.flip _ _).2 (h.Fe rfl _ _ (by omega))
 ·rcases mem_cons.1 hb with rfl|hb
  ·obtain⟨i,hi,e⟩:=mem_iff_getElem.1 ha;rw[getElem_take]at e;rw[<- e];exact h.low _ _ (by simp at hi;omega)
  ·exact gp.2.2 a ha b hb
theorem bP.YX{T:Type}{L:List T}{x y:T}{k:Nat}:y∈L.take k++x::L.drop k↔y=x\/y∈L:=by
 rw[mem_append,mem_cons];have e:y∈L↔y∈L.take k\/y∈L.drop k:=by rw[<- mem_append,take_append_drop]
 rw[e];constructor
 ·rintro(h|h|h)
  ·exact .inr (.inl h)
  ·exact .inl h
  ·exact .inr (.inr h)
 ·rintro(h|h|h)
  ·exact .inr (.inl h)
  ·exact .inl h
  ·exact .inr (.inr h)
theorem Up.Xe{T:Type}{c:T->T->Int}(hc:ns c){L:List T}(hu:Up c L){x:T}{i j:Nat}(hi:i<j)(hj:j<L.length)(h:c L[j] x<=0):c (L[i]'(lt_trans hi hj)) x<0:=by
 have h1:=hu.lt hi hj;by_cases h0:c L[j] x=0
 ·rw[(hc.zero _ _).1 h0]at h1;exact h1
 ·exact hc.trans _ _ _ h1 (by omega)
theorem Up.Xd{T:Type}{c:T->T->Int}(hc:ns c){L:List T}(hu:Up c L){x:T}{i j:Nat}(hi:i<j)(hj:j<L.length)(h:0<=c (L[i]'(lt_trans hi hj)) x):0<c L[j] x:=by
 have h1:=hu.lt hi hj;by_cases h0:c (L[i]'(lt_trans hi hj)) x=0
 ·rw[(hc.zero _ _).1 h0]at h1;exact(hc.flip _ _).1 h1
 ·have h2:c x (L[i]'(lt_trans hi hj))<0:=(hc.flip _ _).2 (by omega);exact(hc.flip _ _).1 (hc.trans _ _ _ h2 h1)
theorem vj:∀a:List UInt8,Op.bytesLess a a=false
 |[]=>rfl
 |x::a=>by simp[Op.bytesLess,vj a]
theorem tD:∀{a b d:List UInt8},Op.bytesLess a b=true->Op.bytesLess b d=true->Op.bytesLess a d=true
 |[],[],_,h,_=>by simp[Op.bytesLess]at h
 |[],_::_,[],_,h=>by simp[Op.bytesLess]at h
 |[],_::_,_::_,_,_=>rfl
 |_::_,[],_,h,_=>by simp[Op.bytesLess]at h
 |_::_,_::_,[],_,h=>by simp[Op.bytesLess]at h
 |x::a,y::b,z::d,h,k=>by
  simp only[Op.bytesLess,Bool.or_eq_true,Bool.and_eq_true,decide_eq_true_eq,beq_iff_eq]at h k |-
  rcases h with h|⟨rfl,h⟩
  ·rcases k with k|⟨rfl,k⟩
   ·exact .inl (UInt8.lt_trans h k)
   ·exact .inl h
  ·rcases k with k|⟨rfl,k⟩
   ·exact .inl k
   ·exact .inr ⟨rfl,tD h k⟩
theorem AX:∀a b:List UInt8,Op.bytesLess a b=true\/a=b\/Op.bytesLess b a=true
 |[],[]=>.inr (.inl rfl)
 |[],_::_=>.inl rfl
 |_::_,[]=>.inr (.inr rfl)
 |x::a,y::b=>by
  simp only[Op.bytesLess,Bool.or_eq_true,Bool.and_eq_true,decide_eq_true_eq,beq_iff_eq,List.cons.injEq]
  rcases UInt8.lt_or_lt_of_ne (a:=x) (b:=y) |> λh=>(Classical.em (x=y))with e|e
  ·subst e
   rcases AX a b with h|h|h
   ·exact .inl (.inr ⟨rfl,h⟩)
   ·exact .inr (.inl ⟨rfl,h⟩)
   ·exact .inr (.inr (.inr ⟨rfl,h⟩))
  ·rcases UInt8.lt_or_lt_of_ne e with h|h
   ·exact .inl (.inl h)
   ·exact .inr (.inr (.inl h))
def bE(a b:ByteArray):Int:=bif Op.bytesLess a.toList b.toList then -1 else bif !(Op.bytesLess a.toList b.toList||aK a b)then 1 else 0
theorem lW{a b:ByteArray}:bE a b<0↔Op.bytesLess a.toList b.toList=true:=by
 unfold bE;cases Op.bytesLess a.toList b.toList<;>cases aK a b<;>simp
theorem xF{a b:ByteArray}:bE a b=0↔a=b:=by
 unfold bE;rw[<- bD];cases h:Op.bytesLess a.toList b.toList
 ·cases aK a b<;>simp
 ·have:aK a b=false:=by
   cases hs:aK a b with
   |false=>rfl
   |true=>rw[bD.1 hs,vj]at h;cases h
  simp[this]
theorem SQ{a b:ByteArray}:0<bE a b↔Op.bytesLess b.toList a.toList=true:=by
 have e:0<bE a b↔¬bE a b<0/\¬bE a b=0:=by omega
 rw[e,lW,xF];constructor
 ·rintro⟨h1,h2⟩;rcases AX a.toList b.toList with h|h|h
  ·exact absurd h h1
  ·exact absurd (bD.1 (by unfold aK;rw[h];simp)) h2
  ·exact h
 ·intro h;refine⟨λh1=>?_,λh1=>?_⟩
  ·have:=tD h h1;rw[vj]at this;cases this
  ·rw[h1,vj]at h;cases h
theorem cy:ns bE:=⟨λa b=>xF,λa b=>by rw[lW,SQ],λa b d h1 h2=>lW.2 (tD (lW.1 h1) (lW.1 h2))⟩
section
variable {T κ:Type} (ck:κ->κ->Int) (key:T->κ)
def bY(L:List T):Prop:=L.Pairwise λa b=>ck (key a) (key b)<0
def AP(k:κ)(y:T):Bool:=decide (ck (key y) k<0)
def FA(k:κ)(y:T):Bool:=decide (0<ck (key y) k)
def FJ(k:κ)(y:T):Bool:=decide (ck (key y) k=0)
def aL(k:κ)(L:List T):Option T:=L.find? (FJ ck key k)
def UN(k:κ)(L:List T):Nat:=(L.filter (AP ck key k)).length
def aY(x:T)(L:List T):List T:=L.filter (AP ck key (key x))++x::L.filter (FA ck key (key x))
def bU(k:κ)(L:List T):List T:=L.filter λy=> !FJ ck key k y
def dw(x:T)(L:List T):List T:=if(aL ck key (key x) L).isSome then L else aY ck key x L
end
section
variable {T κ:Type} {ck:κ->κ->Int} {key:T->κ}
theorem ns.self(hc:ns ck)(a:κ):ck a a=0:=(hc.zero a a).2 rfl
theorem bY.up{L:List T}(h:bY ck key L):Up ck (L.map key):=by
 unfold Up;rw[List.pairwise_map];exact h
theorem mT{α:Type}{p:α->Bool}{L:List α}{k:Nat}(hk:k<=L.length)(h1:∀(i:Nat) (h:i<L.length),i<k->p L[i]=true)(h2:∀(i:Nat) (h:i<L.length),k<=i->p L[i]=false):L.filter p=L.take k:=by
 have e:=take_append_drop k L;rw[<- e,filter_append];rw[filter_eq_self.2 λx hx=>?_,List.filter_eq_nil_iff.2 λx hx=>?_]
 ·simp[min_eq_left hk]
 ·obtain⟨i,hi,rfl⟩:=mem_iff_getElem.1 hx;rw[getElem_drop];simp only[length_drop]at hi;simp[h2 (k+i) (by omega) (by omega)]
 ·obtain⟨i,hi,rfl⟩:=mem_iff_getElem.1 hx;rw[getElem_take];simp only[length_take]at hi;exact h1 i (by omega) (by omega)
theorem qO{α:Type}{p:α->Bool}{L:List α}{k:Nat}(hk:k<=L.length)(h1:∀(i:Nat) (h:i<L.length),i<k->p L[i]=false)(h2:∀(i:Nat) (h:i<L.length),k<=i->p L[i]=true):L.filter p=L.drop k:=by
 have e:=take_append_drop k L;rw[<- e,filter_append];rw[List.filter_eq_nil_iff.2 λx hx=>?_,filter_eq_self.2 λx hx=>?_]
 ·simp[min_eq_left hk]
 ·obtain⟨i,hi,rfl⟩:=mem_iff_getElem.1 hx;rw[getElem_drop];simp only[length_drop]at hi;exact h2 (k+i) (by omega) (by omega)
 ·obtain⟨i,hi,rfl⟩:=mem_iff_getElem.1 hx;rw[getElem_take];simp only[length_take]at hi;simp[h1 i (by omega) (by omega)]
section
variable {L:List T} {x:κ} {k:Nat}
theorem bP.Rl{there:Bool}(h:bP ck (L.map key) x k there)(i:Nat)(hi:i<L.length)(vv:i<k):ck (key L[i]) x<0:=by
 have:=h.low i (by simpa using hi) vv;simpa using this
theorem bP.leK{there:Bool}(h:bP ck (L.map key) x k there):k<=L.length:=by simpa using h.le
theorem bP.Mg(h:bP ck (L.map key) x k false)(i:Nat)(hi:i<L.length)(vv:k<=i):0<ck (key L[i]) x:=by
 have:=h.Fe rfl i (by simpa using hi) vv;simpa using this
theorem bP.ZE(h:bP ck (L.map key) x k true):∃hk:k<L.length,key L[k]=x:=by
 obtain⟨h1,h2⟩:=h.OA rfl;exact⟨by simpa using h1,by simpa using h2⟩
theorem bP.pos{there:Bool}(hc:ns ck)(h:bP ck (L.map key) x k there)(hu:bY ck key L):k=UN ck key x L:=by
 unfold UN;rw[mT (k:=k) h.leK (λi hi vv=>?_) (λi hi vv=>?_)]
 ·simp[h.leK]
 ·have:=h.Rl i hi vv;simp[AP];omega
 ·cases there with
  |false=>have:=h.Mg i hi vv;simp[AP];omega
  |true=>
   obtain⟨hk,e⟩:=h.ZE;by_cases hik':i=k
   ·subst hik';simp[AP,e,hc.self]
   ·have h1:=hu.up.lt (i:=k) (j:=i) (by omega) (by simpa using hi);simp only[getElem_map]at h1;rw[e]at h1;have:=(hc.flip _ _).1 h1;simp[AP];omega
theorem bP.none(hc:ns ck)(h:bP ck (L.map key) x k false):aL ck key x L=Option.none:=by
 unfold aL;rw[List.find?_eq_none];intro y hy;obtain⟨i,hi,rfl⟩:=mem_iff_getElem.1 hy;by_cases vv:i<k
 ·have:=h.Rl i hi vv;simp[FJ];omega
 ·have:=h.Mg i hi (by omega);simp[FJ];omega
theorem MI(hc:ns ck)(hu:bY ck key L)(hk:k<L.length)(e:key L[k]=x):aL ck key x L=some L[k]:=by
 unfold aL;rw[List.find?_eq_some_iff_getElem];refine⟨by simp[FJ,e,hc.self],k,hk,rfl,λj hj=>?_⟩;have h1:=hu.up.lt (i:=j) (j:=k) hj (by simpa using hk);simp only[getElem_map]at h1;rw[e]at h1;simp[FJ];omega
theorem bP.some(hc:ns ck)(h:bP ck (L.map key) x k true)(hu:bY ck key L):∃hk:k<L.length,aL ck key x L=Option.some L[k]:=by
 obtain⟨hk,e⟩:=h.ZE;exact⟨hk,MI hc hu hk e⟩
theorem bP.isSome{there:Bool}(hc:ns ck)(h:bP ck (L.map key) x k there)(hu:bY ck key L):there=(aL ck key x L).isSome:=by
 cases there with
 |false=>rw[h.none hc];rfl
 |true=>obtain⟨_,e⟩:=h.some hc hu;rw[e];rfl
theorem bP.ins(hc:ns ck){y:T}(h:bP ck (L.map key) (key y) k false):L.take k++y::L.drop k=aY ck key y L:=by
 unfold aY;rw[mT (k:=k) h.leK (λi hi vv=>?_) (λi hi vv=>?_),qO (k:=k) h.leK (λi hi vv=>?_) (λi hi vv=>?_)]
 ·have:=h.Rl i hi vv;simp[FA];omega
 ·have:=h.Mg i hi vv;simp[FA];omega
 ·have:=h.Rl i hi vv;simp[AP];omega
 ·have:=h.Mg i hi vv;simp[AP];omega
theorem bP.del(hc:ns ck)(h:bP ck (L.map key) x k true)(hu:bY ck key L):L.eraseIdx k=bU ck key x L:=by
 obtain⟨hk,e⟩:=h.ZE;have e1:=take_append_drop k L;have e2:L.drop k=L[k]::L.drop (k+1):=drop_eq_getElem_cons hk;rw[List.eraseIdx_eq_take_drop_succ];unfold bU
 conv=>rhs;rw[<- e1,e2]
 rw[filter_append,filter_cons];have h0:FJ ck key x L[k]=true:=by simp[FJ,e,hc.self]
 simp only[h0,Bool.not_true,Bool.false_eq_true,if_false];rw[filter_eq_self.2 λz hz=>?_,filter_eq_self.2 λz hz=>?_]
 ·obtain⟨i,hi,rfl⟩:=mem_iff_getElem.1 hz;rw[getElem_drop];simp only[length_drop]at hi;have h1:=hu.up.lt (i:=k) (j:=k+1+i) (by omega) (by simp;omega);simp only[getElem_map]at h1;rw[e]at h1;have:=(hc.flip _ _).1 h1;simp[FJ];omega
 ·obtain⟨i,hi,rfl⟩:=mem_iff_getElem.1 hz;rw[getElem_take];simp only[length_take]at hi;have:=h.Rl i (by omega) (by omega);simp[FJ];omega
end
theorem bg(hc:ns ck){x y:T}{L:List T}:y∈aY ck key x L↔y=x\/(y∈L/\key y≠key x):=by
 unfold aY;simp only[mem_append,mem_cons,mem_filter,AP,FA,decide_eq_true_eq];have h0:key y=key x↔ck (key y) (key x)=0:=(hc.zero _ _).symm;constructor
 ·rintro(⟨h,h1⟩|h|⟨h,h1⟩)
  ·exact .inr ⟨h,λe=>by rw[h0]at e;omega⟩
  ·exact .inl h
  ·exact .inr ⟨h,λe=>by rw[h0]at e;omega⟩
 ·rintro(h|⟨h,h1⟩)
  ·exact .inr (.inl h)
  ·rw[ne_eq,h0]at h1;by_cases h2:ck (key y) (key x)<0
   ·exact .inl ⟨h,h2⟩
   ·exact .inr (.inr ⟨h,by omega⟩)
theorem fu(hc:ns ck){k:κ}{y:T}{L:List T}:y∈bU ck key k L↔y∈L/\key y≠k:=by
 unfold bU;simp only[mem_filter,FJ,Bool.not_eq_true',decide_eq_false_iff_not,hc.zero,ne_eq]
theorem bY.filter{L:List T}(h:bY ck key L)(p:T->Bool):bY ck key (L.filter p):=List.Pairwise.filter _ h
theorem bY.ins(hc:ns ck){L:List T}(h:bY ck key L)(x:T):bY ck key (aY ck key x L):=by
 unfold aY bY;rw[List.pairwise_append,pairwise_cons];refine⟨h.filter _,⟨λy hy=>?_,h.filter _⟩,λy hy z hz=>?_⟩
 ·simp only[mem_filter,FA,decide_eq_true_eq]at hy;exact(hc.flip _ _).2 hy.2
 ·simp only[mem_filter,AP,decide_eq_true_eq]at hy;rcases mem_cons.1 hz with rfl|hz
  ·exact hy.2
  ·simp only[mem_filter,FA,decide_eq_true_eq]at hz;exact hc.trans _ _ _ hy.2 ((hc.flip _ _).2 hz.2)
theorem bY.del{L:List T}(h:bY ck key L)(k:κ):bY ck key (bU ck key k L):=h.filter _
theorem bY.put(hc:ns ck){L:List T}(h:bY ck key L)(x:T):bY ck key (dw ck key x L):=by
 unfold dw;split
 ·exact h
 ·exact h.ins hc x
theorem bY.inj(hc:ns ck){L:List T}(h:bY ck key L){a b:T}(ha:a∈L)(hb:b∈L)(e:key a=key b):a=b:=by
 obtain⟨i,hi,rfl⟩:=mem_iff_getElem.1 ha;obtain⟨j,hj,rfl⟩:=mem_iff_getElem.1 hb;rcases Nat.lt_trichotomy i j with hl|rfl|hl
 ·have:=List.pairwise_iff_getElem.1 h i j hi hj hl;rw[e,hc.self]at this;omega
 ·rfl
 ·have:=List.pairwise_iff_getElem.1 h j i hj hi hl;rw[e,hc.self]at this;omega
theorem a_(hc:ns ck){L:List T}(h:bY ck key L){k:κ}{x:T}:aL ck key k L=some x↔x∈L/\key x=k:=by
 constructor
 ·intro e;have h1:=List.mem_of_find?_eq_some e;have h2:=List.find?_some e;exact⟨h1,(hc.zero _ _).1 (by simpa[FJ]using h2)⟩
 ·rintro⟨hx,e⟩;obtain⟨i,hi,rfl⟩:=mem_iff_getElem.1 hx;exact MI hc h hi e
theorem bx(hc:ns ck){L:List T}{k:κ}:aL ck key k L=none↔∀x∈L,key x≠k:=by
 unfold aL;rw[List.find?_eq_none];simp only[FJ,decide_eq_true_eq,hc.zero,ne_eq]
theorem bY.ext(hc:ns ck):∀{L L':List T},bY ck key L->bY ck key L'->(∀x,x∈L↔x∈L')->L=L'
 |[],[],_,_,_=>rfl
 |[],y::L',_,_,h=>absurd ((h y).2 (by simp)) (by simp)
 |x::L,[],_,_,h=>absurd ((h x).1 (by simp)) (by simp)
 |x::L,y::L',h1,h2,h=>by
  have GF:=pairwise_cons.1 h1
  have ME:=pairwise_cons.1 h2;have exy:x=y:=by
   rcases mem_cons.1 ((h x).1 (by simp))with e|hx
   ·exact e
   ·rcases mem_cons.1 ((h y).2 (by simp))with e|hy
    ·exact e.symm
    ·have a1:=ME.1 x hx;have a2:=GF.1 y hy;have:=(hc.flip _ _).1 a1;omega
  subst exy;congr 1;refine bY.ext hc GF.2 ME.2 λz=>?_;have hz:=h z;simp only[mem_cons]at hz;constructor
  ·intro hm;rcases hz.1 (.inr hm)with e|sE
   ·subst e;have:=GF.1 z hm;rw[hc.self]at this;omega
   ·exact sE
  ·intro hm;rcases hz.2 (.inr hm)with e|sE
   ·subst e;have:=ME.1 z hm;rw[hc.self]at this;omega
   ·exact sE
theorem vo{x:T}{L:List T}:(aY ck key x L).length<=L.length+1:=by
 have h:∀M:List T,(M.filter (AP ck key (key x))).length+(M.filter (FA ck key (key x))).length<=M.length:=by
  intro M;induction M with
  |nil=>simp
  |cons y M ih=>
   simp only[filter_cons];by_cases h1:AP ck key (key x) y=true
   ·have h2:FA ck key (key x) y=false:=by
     simp only[AP,decide_eq_true_eq]at h1;simp[FA];omega
    simp only[h1,h2,if_true,length_cons];simp;omega
   ·simp only[Bool.not_eq_true]at h1;simp only[h1,Bool.false_eq_true,if_false];split
    ·simp only[length_cons];omega
    ·simp only[length_cons];omega
 have:=h L;unfold aY;simp only[length_append,length_cons];omega
theorem Ax{x:T}{L:List T}:(dw ck key x L).length<=L.length+1:=by
 unfold dw;split
 ·omega
 ·exact vo
theorem vI{k:κ}{L:List T}:(bU ck key k L).length<=L.length:=List.length_filter_le _ _
end
section
variable {S T κ:Type} {ck:κ->κ->Int} {key:T->κ}
theorem bY.map{f:S->T}{L:List S}(h:bY ck (λx=>key (f x)) L):bY ck key (L.map f):=by unfold bY;rw[List.pairwise_map];exact h
theorem nO{f:S->T}{L:List S}{k:κ}:aL ck key k (L.map f)=(aL ck (λx=>key (f x)) k L).map f:=by unfold aL;rw[List.find?_map];rfl
theorem lQ{f:S->T}{L:List S}{x:S}:aY ck key (f x) (L.map f)=(aY ck (λx=>key (f x)) x L).map f:=by
 unfold aY;rw[filter_map,filter_map,map_append,map_cons];rfl
theorem By{f:S->T}{L:List S}{k:κ}:bU ck key k (L.map f)=(bU ck (λx=>key (f x)) k L).map f:=by
 unfold bU;rw[filter_map];rfl
theorem bY.split(hc:ns ck){L:List T}(hu:bY ck key L){x:T}(hx:x∈L):aY ck key x L=L:=by
 refine bY.ext hc (hu.ins hc x) hu λy=>?_;rw[bg hc];constructor
 ·rintro(rfl|⟨h,_⟩)
  ·exact hx
  ·exact h
 ·intro h;by_cases e:key y=key x
  ·exact .inl (hu.inj hc h hx e)
  ·exact .inr ⟨h,e⟩
theorem nM(hc:ns ck){L:List T}{x:T}(h:aL ck key (key x) L=none):(aY ck key x L).Perm (x::L):=by
 have hn:=(bx hc).1 h;have e:L.filter (FA ck key (key x))=L.filter λy=> !AP ck key (key x) y:=List.filter_congr λy hy=>by
  have h0:=hn y hy;rw[ne_eq,<- hc.zero]at h0;simp only[FA,AP];by_cases h1:ck (key y) (key x)<0
  ·simp[h1];omega
  ·simp[h1];omega
 unfold aY;rw[e];exact List.perm_middle.trans (List.Perm.cons x (List.filter_append_perm _ L))
theorem NU(hc:ns ck){F:List T}{y:T}(h:∀x∈F,ck (key x) (key y)<0):dw ck key y F=F++[y]:=by
 have hn:aL ck key (key y) F=none:=(bx hc).2 λx hx e=>by
  have:=h x hx;rw[e,hc.self]at this;omega
 rw[dw,hn];show aY ck key y F=_;unfold aY;have f1:F.filter (AP ck key (key y))=F:=filter_eq_self.2 λx hx=>by
  simp only[AP,decide_eq_true_eq];exact h x hx
 have f2:F.filter (FA ck key (key y))=[]:=List.filter_eq_nil_iff.2 λx hx=>by
  have:=h x hx;simp only[FA,decide_eq_true_eq];omega
 rw[f1,f2]
theorem bY.at_(hc:ns ck){L:List T}(hu:bY ck key L){x:T}(hx:x∈L):∃A B,L=A++x::B/\bU ck key (key x) L=A++B/\∀y,key y=key x->aY ck key y L=A++y::B:=by
 refine⟨L.filter (AP ck key (key x)),L.filter (FA ck key (key x)),(hu.split hc hx).symm,?_,λy e=>by unfold aY;rw[e]⟩
 conv=>lhs;rw[<- hu.split hc hx]
 unfold bU aY;rw[filter_append,filter_cons];have h0:FJ ck key (key x) x=true:=by simp[FJ,hc.self]
 simp only[h0,Bool.not_true,Bool.false_eq_true,if_false];congr 1
 ·exact filter_eq_self.2 λy hy=>by
   simp only[mem_filter,AP,decide_eq_true_eq]at hy;simp[FJ];omega
 ·exact filter_eq_self.2 λy hy=>by
   simp only[mem_filter,FA,decide_eq_true_eq]at hy;simp[FJ];omega
end
def au(a b:Int):Int:=if a<b then -1 else if b<a then 1 else 0
theorem ar:ns au:=⟨λa b=>by unfold au;split<;>(try split)<;>omega,λa b=>by unfold au;repeat' split<;>omega,λa b d=>by unfold au;repeat' split<;>omega⟩
theorem vJ{a b:Int}:au a b<0↔a<b:=by unfold au;split<;>(try split)<;>omega
def cb(Ts e:TypeId)(sz:Nat)(b:Nat)(rows:Lq):aX:=λμ=>∃F,iE Ts e sz μ b rows F
theorem cb.split{Ts e:TypeId}{sz b:Nat}{rows:Lq}{L:List aX}{μ:Mem}(hO:Ow (cb Ts e sz b rows::L) μ):∃F,iE Ts e sz μ b rows F/\∀{μ':Mem} {Qz:Lq} {F':List Nat},Mv μ μ' F F'->iE Ts e sz μ' b Qz F'->Ow (cb Ts e sz b Qz::L) μ':=by
 obtain⟨μ1,μ2,hs,rfl,⟨F,h⟩,hL⟩:=hO;refine⟨F,h.same λx hx=>?_,λ{μ' Qz F'} hm h'=>?_⟩
 ·cases hy:μ1 x with
  |none=>exact absurd hy (h.at_.2 x hx)
  |some o=>rw[Mem.bC hy]
 ·exact Ow.mv (A:=λ_=>True) ⟨μ1,μ2,hs,rfl,h.at_.2,hL⟩ hm λν hν=>⟨F',h'.same hν⟩
theorem Ar{T:Type}{pv:T->List PV}{sz:Nat}(h:∀x,(pv x).length=sz)(L:List T):∀r∈L.map pv,r.length=sz:=λr hr=>by
 obtain⟨x,_,rfl⟩:=mem_map.1 hr;exact h x
theorem nC{T:Type}{pv:T->List PV}(h:∀x,aQ (pv x)=true)(L:List T):aQ (L.map pv).flatten=true:=by
 unfold aQ;rw[all_eq_true];intro x hx;obtain⟨r,hr,hx⟩:=List.mem_flatten.1 hx;obtain⟨y,_,rfl⟩:=mem_map.1 hr;exact all_eq_true.1 (h y) x hx
section
variable {T:Type} {pv:T->List PV}
theorem jI(L:List T)(j:Nat)(y:T):(L.take j++y::L.drop j).length=L.length+1:=by
 rw[length_append,length_cons,length_take,length_drop];omega
theorem HM(L:List T)(j:Nat)(y:T)(h0:0<j)(hj:j<=L.length):((L.take j++y::L.drop j).map pv).set j (pv (L[j-1]'(by omega)))=(L.take (j-1)++(L[j-1]'(by omega))::L.drop (j-1)).map pv:=by
 have e:L.drop (j-1)=L[j-1]'(by omega)::L.drop j:=by
  rw[drop_eq_getElem_cons (by omega)];congr 2;omega
 have e2:L.take j=L.take (j-1)++[L[j-1]'(by omega)]:=by
  have:=take_add_one (l:=L) (i:=j-1);rw[show j-1+1=j by omega,getElem?_eq_getElem (by omega)]at this;exact this
 have hlen:(L.take j).length=j:=by rw[length_take];omega
 rw[map_append,map_cons,List.set_append_right _ _ (by simp;omega)];simp only[length_map,hlen,sub_self,set_cons_zero];rw[e2,e,map_append,append_assoc,map_append];rfl
theorem Mm(L:List T)(j:Nat)(x y:T)(hj:j<=L.length):((L.take j++y::L.drop j).map pv).set j (pv x)=(L.take j++x::L.drop j).map pv:=by
 have hlen:(L.take j).length=j:=by rw[length_take];omega
 rw[map_append,map_cons,List.set_append_right _ _ (by simp;omega)];simp only[length_map,hlen,sub_self,set_cons_zero];rw[map_append,map_cons]
theorem Rz(L:List T)(j:Nat)(y:T)(h0:0<j)(hj:j<=L.length):((L.take j++y::L.drop j).map pv)[j-1]?=some (pv (L[j-1]'(by omega))):=by
 rw[List.getElem?_map,List.getElem?_append_left (by rw[length_take];omega),List.getElem?_take,if_pos (by omega),getElem?_eq_getElem (by omega)];rfl
def vg(L:List T)(k j:Nat):List T:=L.take k++(L.drop (k+1)).take (j-k)++L.drop j
theorem acI(L:List T)(k:Nat):vg L k k=L:=by simp[vg,take_append_drop]
theorem Rg{L:List T}{k j:Nat}(h1:k<=j)(h2:j<L.length):(vg L k j).length=L.length:=by
 simp only[vg,length_append,length_take,length_drop];omega
theorem Vi{L:List T}{k j:Nat}(h1:k<=j)(h2:j+1<L.length):(vg L k j)[j+1]?=some (L[j+1]'h2):=by
 unfold vg;have hl:(L.take k++(L.drop (k+1)).take (j-k)).length=j:=by
  simp only[length_append,length_take,length_drop];omega
 rw[List.getElem?_append_right (by omega),hl,List.getElem?_drop,getElem?_eq_getElem (by omega)];congr 2;omega
theorem Oh{L:List T}{k j:Nat}(h1:k<=j)(h2:j+1<L.length):(vg L k j).set j (L[j+1]'h2)=vg L k (j+1):=by
 unfold vg;have hl:(L.take k++(L.drop (k+1)).take (j-k)).length=j:=by
  simp only[length_append,length_take,length_drop];omega
 rw[List.set_append_right _ _ (by omega),hl,sub_self];have e1:L.drop j=(L[j]'(by omega))::L.drop (j+1):=drop_eq_getElem_cons (by omega);rw[e1,set_cons_zero];have e2:(L.drop (k+1)).take (j+1-k)=(L.drop (k+1)).take (j-k)++[L[j+1]'h2]:=by
  rw[show j+1-k=j-k+1 by omega,take_add_one,List.getElem?_drop,getElem?_eq_getElem (by omega)];simp only[toList_some];congr 3;omega
 rw[e2];simp
theorem Rh{L:List T}{k:Nat}(hk:k<L.length):vg L k (L.length-1)=L.eraseIdx k++[L[L.length-1]'(by omega)]:=by
 unfold vg;rw[List.eraseIdx_eq_take_drop_succ];have e1:(L.drop (k+1)).take (L.length-1-k)=L.drop (k+1):=List.take_of_length_le (by simp;omega);have e2:L.drop (L.length-1)=[L[L.length-1]'(by omega)]:=by
  rw[drop_eq_getElem_cons (by omega)];congr 1;exact List.drop_of_length_le (by omega)
 rw[e1,e2]
end
def Lk(b:Nat)(cs:List PV)(μ:Mem):Prop:=∃T,μ b=some (.cells T cs)\/μ b=some (.ro T cs)
theorem Lk.rd{b:Nat}{cs:List PV}{μ:Mem}(h:Lk b cs μ){o n:Nat}(hl:o+n<=cs.length):ay μ b o n=some ((cs.drop o).take n):=by
 obtain⟨T,h|h⟩:=h
 ·exact aI h hl
 ·exact wQ h hl
def yV(μ μ':Mem):Prop:=∀b,μ b≠none->μ' b=μ b
theorem yV.new{μ:Mem}{b:Nat}(hb:μ b=none)(o:Option Ob):yV μ (μ.set b o):=λx hx=>Mem.ax _ _ (by rintro rfl;exact hx hb)
theorem Lk.ad_{b:Nat}{cs:List PV}{μ μ':Mem}(h:Lk b cs μ)(hg:yV μ μ'):Lk b cs μ':=by
 obtain⟨T,h⟩:=h;refine⟨T,?_⟩;rw[hg b (by rcases h with h|h<;>rw[h]<;>simp)];exact h
def UH(μ:Mem):Mem:=λb=>match μ b with|some (.cells T cs)=>some (.ro T cs)|some (.ro T cs)=>some (.ro T cs)|_=>none
theorem Yv{μ:Mem}{b:Nat}{T:TypeId}{cs:List PV}(h:μ b=some (.cells T cs)):Lk b cs (UH μ):=⟨T,.inr (by simp[UH,h])⟩
theorem cV.ags{P:Program}{g:FuncId}{args:List PV}{μ:Mem}{K:Kq}{Kq:PV->Prop}(h:aa P g args (UH μ) λp μ'=>yV (UH μ) μ'/\Kq p)(hk:∀p,Kq p->K p M0):cV P g args μ K:=λZ u vs hg hw ha=>by
 have Xn:∀b o,UH μ b=some o->(o.rw=true->False)/\zg Z u b o/\Z b=none:=λb o ho=>by
  unfold UH at ho;split at ho
  ·rename_i T cs hb;cases ho;obtain⟨_,hz,hA⟩:=hg.mem b _ hb;exact⟨λh=>(by cases h),⟨hz,hA⟩,hz⟩
  ·rename_i T cs hb;cases ho;obtain⟨_,hz,hA⟩:=hg.mem b _ hb;exact⟨λh=>(by cases h),⟨hz,hA⟩,hz⟩
  ·cases ho
 obtain⟨hc,dr⟩:=h Z ⟨u.toWorld,λ_=>False⟩ vs ⟨hg.Es,λb o e=>⟨λhr=>(Xn b o e).1 hr,by
  have:=(Xn b o e).2.1
  cases o with
  |cells T cs=>exact this
  |nz n m=>exact this
  |obj o F S=>exact this
  |ro T cs=>exact this⟩⟩ (λ_ h=>h.elim) ha
 refine⟨hc,dr.DG λv lo w' _ _ hp=>?_⟩;obtain⟨Z',μ',p,e,g',hr,VK,hK⟩:=hp;refine⟨Z',M0,p,⟨e.le,λb C hC _=>e.zs b C hC ?_,λb hb=>?_,λb hb=>absurd rfl hb,e.lt⟩,⟨g'.Es,λb o h=>by cases h⟩,hr,hk p hK⟩
 ·cases hx:UH μ b with
  |none=>rfl
  |some o=>rw[(Xn b o hx).2.2]at hC;cases hC
 ·rcases e.zn b hb with h1|h1|h1
  ·exact .inl h1
  ·exfalso;have hm:=VK b h1;cases hx:UH μ b with
   |none=>exact h1 hx
   |some o=>
    rw[hx]at hm;have h2:=(g'.mem b o hm).2;have h3:=(Xn b o hx);unfold UH at hx;split at hx
    ·cases hx;exact hb h2.1
    ·cases hx;exact hb h2.1
    ·cases hx
  ·exact .inr (.inr h1)
theorem Nt{X:List PV}{sz o m:Nat}(h:o+m<=sz):(X.drop o).take m=((X.take sz).drop o).take m:=by
 rw[List.drop_take,List.take_take,min_eq_left (by omega)]
theorem YB{cs r:List PV}{A sz o m:Nat}(hr:(cs.drop A).take sz=r)(h:o+m<=sz):(cs.drop (A+o)).take m=(r.drop o).take m:=by
 rw[<- hr,<- Nt h,drop_drop]
theorem Ye{cs r vs:List PV}{A sz o:Nat}(hA:A+sz<=cs.length)(hr:(cs.drop A).take sz=r)(h:o+vs.length<=sz):dy cs (A+o) vs=dy cs A (dy r o vs):=by
 have Cd:r.length=sz:=by rw[<- hr,length_take,length_drop];omega
 unfold dy;have e1:cs.take (A+o)=cs.take A++r.take o:=by
  rw[List.take_add,<- hr,List.take_take,min_eq_left (by omega)]
 have e2:cs.drop (A+o+vs.length)=r.drop (o+vs.length)++cs.drop (A+sz):=by
  have:cs.drop (A+o+vs.length)=(cs.drop A).drop (o+vs.length):=by rw[drop_drop];congr 1;omega
  rw[this];have h2:cs.drop A=r++cs.drop (A+sz):=by
   rw[<- hr,<- drop_drop,take_append_drop]
  conv=>lhs;rw[h2]
  rw[List.drop_append_of_le_length (by omega)]
 have e3:(r.take o++vs++r.drop (o+vs.length)).length=sz:=by
  simp only[length_append,length_take,length_drop];omega
 rw[e1,e2,e3];simp
theorem cA.at_{e:TypeId}{sz n c:Nat}{a:Option Addr}{rows:Lq}{L:List aX}{μ:Mem}(i:Nat)(hO:Ow L μ)(hi:L[i]?=some (cA e sz (.raw (.slice a n c)) rows))(hr:∀r∈rows,r.length=sz){j:Nat}(hj:j<rows.length):
  ∃b,a=some ⟨b,0,none⟩/\(∀o m,o+m<=sz->ay μ b (0+j*sz+o) m=some ((rows[j].drop o).take m))/\
   ∀(o:Nat) (vs:List PV) (K:Mem->Prop),o+vs.length<=sz->(∀μ',Ow (L.set i (cA e sz (.raw (.slice a n c)) (rows.set j (dy rows[j] o vs)))) μ'->K μ')->stM b (0+j*sz+o) vs μ K:=by
 have uD:=Ow.at i hi hO;obtain⟨F,hv,μ1,μ2,hs,e0,hF,hL⟩:=cA.split uD;rcases hv with⟨_,rfl,_⟩|⟨b,c',rest,hp,rfl,hm,hlen,hc⟩
 ·simp at hj
 ·simp only[PV.raw.injEq,Value.slice.injEq]at hp;obtain⟨rfl,rfl,rfl⟩:=hp;have mu:rows.flatten.length=rows.length*sz:=dV hr;have hle:j*sz+sz<=rows.length*sz:=by rw[<- succ_mul];exact mul_le_mul_right _ hj
  have dS:((rows.flatten++rest).drop (j*sz)).take sz=rows[j]:=by
   have:=Ho (s:=j) hr hm (getElem?_eq_getElem hj);simp only[ay,hm]at this;split at this
   ·simpa using this
   ·cases this
  refine⟨b,rfl,λo m h=>?_,λo vs K h hK=>?_⟩
  ·have:ay μ b (0+j*sz+o) m=some (((rows.flatten++rest).drop (0+j*sz+o)).take m):=by
    simp only[ay,hm];rw[if_pos (by rw[length_append,mu];omega)]
   rw[this,zero_add,YB dS h]
  ·have Cd:rows[j].length=sz:=hr _ (getElem_mem hj);have hwl:(dy rows[j] o vs).length=sz:=by
    unfold dy;simp only[length_append,length_take,length_drop];omega
   refine⟨_,_,hm,by rw[length_append,mu];omega,hK _ (Ow.back i (rG hi) ?_)⟩;rw[zero_add,Ye (by rw[length_append,mu];omega) dS h,Da hr hj hwl];refine Ow.mv (A:=λ_=>True) (F:=[b]) (F':=[b]) ⟨μ1,μ2,hs,e0,hF,hL⟩ ((Mv.set (.inl (by simp))).sub (by simp)) λν hν=>⟨[b],.inr ⟨b,c,rest,by simp,rfl,?_,by simpa using hlen,by simpa using hc⟩⟩;rw[hν b (by simp),Mem.an]
theorem WA{e:TypeId}{sz bytes:Nat}{f:Fl}{rows:Lq}{L:List aX}{μ:Mem}{K:Option Addr->Nat->Nat->Mem->Prop}(hO:Ow L μ)(hr:∀r∈rows,r.length=sz)(hc:aQ rows.flatten=true)(hb:rows.length*bytes<=140737488355328)(pY:rows.length<4611686018427387904)
  (hk:∀a c μ',Ow (cA e sz (.raw (.slice a rows.length c)) rows::L) μ'->K a rows.length c μ'):gP sz bytes e none 0 0 (.list sz f rows) μ K:=by
 have YJ:qv sz sz rows=true:=by simp[qv,beq_refl]
 unfold gP Fa;simp only[YJ,cond_true,zero_add];refine⟨hb,pY,le_refl _,?_⟩;cases rows with
 |nil=>exact .inl ⟨rfl,λh=>absurd rfl h,hk none 0 μ (cA.nil e sz hO)⟩
 |cons r rs=>
  refine .inr ⟨by simp,hc,λh=>by simp at h,λ_=>⟨[],.inl ⟨trivial,rfl⟩,λb' c' hn sH=>?_⟩⟩;rw[nil_append];refine hk _ c' _ ?_;have mu:(r::rs).flatten.length=(r::rs).length*sz:=dV hr;refine(hO.new e _ hn).imp λν hν=>⟨[b'],.inr ⟨b',c',_,rfl,rfl,hν,?_,sH⟩⟩;rw[length_replicate,<- add_mul];congr 1;omega
theorem cA.view{e:TypeId}{sz:Nat}{p:PV}{rows:Lq}{L:List aX}{μ:Mem}(i:Nat)(hO:Ow L μ)(hi:L[i]?=some (cA e sz p rows))(hr:∀r∈rows,r.length=sz)(hc:aQ rows.flatten=true):gf μ p (.list sz .sh rows):=by
 obtain⟨F,h,_⟩:=cA.split (Ow.at i hi hO);exact h.view hr hc
theorem Sv{Z:Fz}{u:UW}{μ:Mem}{b:Nat}{T:TypeId}{cs:List PV}{r:Value}(hg:Good Z u μ)(hb:μ b=some (.cells T cs))(hc:aQ cs=true)(hr:bS Z (pP b 0) r):bS (iL Z u λx=>if x∈[b]then μ x else none) (.bk cs 0) r:=by
 have gs:Good Z u (λx=>if x∈[b]then μ x else none):=hg.sub λx o hx=>by
  by_cases hm:x∈[b]
  ·simpa[hm]using hx
  ·simp[hm]at hx
 obtain⟨A,hz,hm⟩:=Nf (cs:=cs) gs (b:=b) (by simp[hb,cellsOf]);rw[hr.ofRaw.1];have rH:=(hm.mono (gG gs)).c hc;refine .bk cs 0 b 0 A.toList (λj=>(A.toList[j]?).getD undef) hz (λj hj=>?_) (λj p hp=>?_) (λj p hp=>?_)
 ·have bG:j<A.toList.length:=by rw[hm.1];exact hj
  rw[zero_add,getElem?_eq_getElem bG];rfl
 ·exact all_eq_true.1 hc p (List.mem_of_getElem? hp)
 ·have bG:j<A.toList.length:=by rw[hm.1];exact(List.getElem?_eq_some_iff.1 hp).1
  have:=rH.2 j p A.toList[j] hp (getElem?_eq_getElem bG);simp only[getElem?_eq_getElem bG,Option.getD_some];exact this.2
def Mem.inc(ν μ:Mem):Prop:=∀b o,ν b=some o->μ b=some o
theorem UJ{ν μ:Mem}(h:Mem.inc ν μ){b o n:Nat}{cs:List PV}(hr:ay ν b o n=some cs):ay μ b o n=some cs:=by
 unfold ay at hr |-;cases hb:ν b with
 |none=>rw[hb]at hr;cases hr
 |some ob=>rw[hb]at hr;rw[h b ob hb];exact hr
theorem gf.inc{ν μ:Mem}(h:Mem.inc ν μ){c d:PV}(hb:gf ν c d):gf μ c d:=by
 induction hb with
 |same c=>exact .same c
 |wk c=>exact .wk c
 |nil sz rows=>exact .nil sz rows
 |Ke a k sz spot=>exact .Ke a k sz spot
 |lst b o k sz rows cs cap each cell read _ ih=>exact .lst b o k sz rows cs cap each cell (UJ h read) ih
 |agg hl cell _ ih=>exact .agg hl cell ih
 |aA hl ok _ ih=>exact .aA hl ok ih
theorem dI.append{μ:Mem}{cs ds OR ds':List PV}(h:dI μ cs ds)(k:dI μ OR ds'):dI μ (cs++OR) (ds++ds'):=by
 refine⟨by rw[length_append,length_append,h.1,k.1],λi c d h1 h2=>?_⟩;by_cases hi:i<cs.length
 ·rw[List.getElem?_append_left hi]at h1;rw[List.getElem?_append_left (by rw[<- h.1];exact hi)]at h2;exact h.2 i c d h1 h2
 ·rw[List.getElem?_append_right (by omega)]at h1;rw[List.getElem?_append_right (by rw[<- h.1];omega),<- h.1]at h2;exact k.2 _ c d h1 h2
theorem dI.flat{T:Type}{μ:Mem}{f g:T->List PV}:∀{X:List T},(∀x∈X,dI μ (f x) (g x))->dI μ (X.map f).flatten (X.map g).flatten
 |[],_=>dI.nil μ
 |x::X,h=>by
  simp only[map_cons,flatten_cons]
  exact(h x (by simp)).append (dI.flat λy hy=>h y (by simp[hy]))
theorem Ow.mem:∀{L:List aX} {μ:Mem},Ow L μ->∀A∈L,∃ν,A ν/\Mem.inc ν μ
 |[],_,_,A,hA=>by cases hA
 |B::L,μ,h,A,hA=>by
  obtain⟨μ1,μ2,hs,rfl,hB,hL⟩:=h
  rcases mem_cons.1 hA with rfl|hA
  ·exact⟨μ1,hB,λb o hb=>Mem.bC hb⟩
  ·obtain⟨ν,h1,h2⟩:=Ow.mem hL A hA;refine⟨ν,h1,λb o hb=>?_⟩;have ph:=h2 b o hb;rw[Mem.bI ((hs b).resolve_right (by rw[ph];simp))];exact ph
theorem cA.raw{e:TypeId}{sz:Nat}{p:PV}{rows:Lq}{μ:Mem}(h:cA e sz p rows μ):∃a c,p=.raw (.slice a rows.length c):=by
 obtain⟨F,h⟩:=h;rcases h with⟨rfl,rfl,_⟩|⟨b,c,rest,rfl,_⟩
 ·exact⟨none,0,rfl⟩
 ·exact⟨_,c,rfl⟩
theorem cA.Cv{e:TypeId}{sz:Nat}{p:PV}{rows:Lq}{L:List aX}{μ:Mem}(h:Ow (cA e sz p rows::L) μ):∃a c,p=.raw (.slice a rows.length c):=h.fact λ_ hv=>cA.raw hv
theorem cA.deep{T:Type}{e:TypeId}{sz:Nat}{p:PV}{f g:T->List PV}{X:List T}{ν μ:Mem}(hv:cA e sz p (X.map f) ν)(hi:Mem.inc ν μ)(hf:∀x∈X,(f x).length=sz)(hg:∀x∈X,(g x).length=sz)(hc:∀x∈X,aQ (g x)=true)(h:∀x∈X,dI μ (f x) (g x)):gf μ p (.list sz .sh (X.map g)):=by
 obtain⟨F,hv⟩:=hv;have mu:∀r∈X.map f,r.length=sz:=λr hr=>by obtain⟨x,hx,rfl⟩:=mem_map.1 hr;exact hf x hx
 have VM:∀r∈X.map g,r.length=sz:=λr hr=>by obtain⟨x,hx,rfl⟩:=mem_map.1 hr;exact hg x hx
 rcases hv with⟨rfl,h0,_⟩|⟨b,c,rest,rfl,_,hm,hlen,hle⟩
 ·have:X=[]:=by cases X with|nil=>rfl|cons x X=>simp at h0
  subst this;exact .Ke none 0 sz (.inl rfl)
 ·have adI:(X.map f).flatten.length=(X.map f).length*sz:=dV mu;have hln:(X.map f).length=(X.map g).length:=by simp
  rw[hln];refine .lst b 0 c sz (X.map g) (X.map f).flatten (by rw[<- hln];exact hle) VM ?_ ?_ λi c d h1 h2=>(dI.flat h).2 i c d h1 h2
  ·refine all_eq_true.2 λx hx=>?_;obtain⟨r,hr,hx⟩:=List.mem_flatten.1 hx;obtain⟨y,hy,rfl⟩:=mem_map.1 hr;exact all_eq_true.1 (hc y hy) x hx
  ·have yB:=hi b _ hm;rw[<- hln];simp only[ay,yB];rw[if_pos (by simp[adI]),drop_zero,<- adI,take_left'];rfl
end Go.aO
namespace Go.Proofs.YthaeiehophlooaaGreat
open Go.Proofs.Tryz Go.aO Go.RowKit
abbrev Bz(c:ae):List PV:=[pI c.kind,pB c.goal,pS c.id,.list 6 .sh (c.attr.map Test.pv),.list 6 .sh (c.value.map Test.pv),pB c.acc,.list 7 .sh (c.conds.map ae.pv)]
@[reducible] def Qr(c:ae)(l:List aO.Bind)(es:PV):PV:=.fn (.func 175) [] [.bk [es] 0,.bk (Bz c) 0,.bk [.list 4 .sh (l.map Bind.pv)] 0]
theorem aiN{L:List aX}{μ:Mem}(h:Ow L μ):Ow ((λ_=>True)::L) μ:=⟨M0,μ,Mem.qk μ,(Mem.BQ μ).symm,trivial,h⟩
theorem SZ(fe:Fn)(fa fb:List PV)(c:ae)(f1 f2 f3 fl:Fl)(l:List aO.Bind)(hn:l.length<=1000000):Pure prog 115 [.agg [pI c.kind,pB c.goal,pS c.id,.list 6 f1 (c.attr.map Test.pv),.list 6 f2 (c.value.map Test.pv),pB c.acc,.list 7 f3 (c.conds.map ae.pv)],.fn fe fa fb,.list 4 fl (l.map Bind.pv)] (Qr c l (.fn fe fa fb)):=by
 refine aa.freeze (K:=λv μ'=>∃b5,v=.fn (.func 175) [] [.bk [.fn fe fa fb] 0,.bk (Bz c) 0,pP b5 0]/\μ' b5=some (.cells 121 [.list 4 .sh (l.map Bind.pv)])) (IV.c λb5 XD=>?_) ?_
 ·have O1:=(Ow.new (L:=[]) 121 [.list 4 fl (l.map Bind.pv)] trivial XD);refine⟨_,_,O1.rd 0 rfl (by simp),(KT _ l (by omega)).call ⟨_,_,rfl,O1.st 0 rfl (by simp) λu2 O2=>⟨b5,rfl,O2.get 0 rfl⟩⟩⟩
 ·rintro v μ' ⟨b5,rfl,hb⟩;refine⟨_,M0,[b5],λZ u r hg hr=>?_,λb o h=>(by cases h),rfl⟩;obtain⟨fv,cv,rfl,h1,h2⟩:=hr.ofFn;obtain⟨v1,_,rfl,_,q1,h2⟩:=h2.inv;obtain⟨v2,_,rfl,_,q2,h2⟩:=h2.inv;obtain⟨v3,_,rfl,_,q3,h2⟩:=h2.inv;obtain rfl:=h2.m_;obtain rfl:=h1.m_;have gs:aO.Good Z u (λx=>if x∈[b5]then μ' x else none):=hg.sub λx o hx=>by
   by_cases hm:x∈[b5]
   ·simpa[hm]using hx
   ·simp[hm]at hx
  have hle:=gG gs;exact bp.Ex (bp.nil _) (bp.cons rfl (q1.mono hle) (bp.cons rfl (q2.mono hle) (bp.cons rfl (Sv hg hb rfl q3) (bp.nil _))))
@[reducible] def Qp(x:aj×List aO.Bind):List PV:=[.agg x.1.pv,.list 4 .sh (x.2.map Bind.pv)]
theorem Qv{c:ae}{l:List aO.Bind}{es:List aj}{fe:Fn}{fa fb:List PV}{A A':aX}(hs:gQ prog (.fn fe fa fb) (es.map λe=>[.agg e.pv]) A A')(hn:l.length+1+c.attr.length+c.value.length<=1000000)(ha:∀t∈c.attr,t.list.length<=1000000)(hv:∀t∈c.value,t.list.length<=1000000):
  gQ prog (Qr c l (.fn fe fa fb)) ((aP c l es).map Qp) A A':=by
 refine gQ.mk λfy ya yb I S C μ hy hO h0 cO=>?_;show aa _ _ [.fn fy ya yb,.bk [.fn fe fa fb] 0,.bk (Bz c) 0,.bk [.list 4 .sh (l.map Bind.pv)] 0] _ _;refine CR.c λb4 GC=>⟨_,_,_,rfl,_,_,_,rfl,?_⟩;have O1:=hO.new 312 [.fn fy ya yb] GC;refine bu.own hs O1.swap (λk u=>Ow [Pt b4 312 [.fn fy ya yb],I (aP c l (es.take k)).length] u) (λcd u=>cd=.ret/\Ow [S] u) (λk=>eJ.own _) (λcd=>eJ.and (eJ.own _)) (λμ' h'=>?_) ?_ ?_ ?_
 ·have h2:=h'.swap.tail h0;simpa[aP]using h2
 ·intro k hk u R hI bX jW;have cj:k<es.length:=by simpa using hk
  rw[getElem_map];have gX:=og (c:=c) (l:=l) (es:=es) cj;refine⟨_,_,_,_,_,_,_,_,_,_,_,_,rfl,_,_,_,_,_,_,_,_,_,_,rfl,_,_,rfl,?_⟩;refine(To .sh .sh .sh .sh c es[k] l hn ha hv).call ?_;cases hc:cH c es[k] l with
  |none=>
   refine⟨_,_,_,rfl,ab.f rfl (bX _ ?_)⟩;rw[gX,hc];simpa using hI
  |some r=>
   refine⟨_,_,_,rfl,ab.t rfl ⟨_,_,_,hI.rd 0 rfl (by simp),?_⟩⟩;obtain⟨hj,pj⟩:=Qq cj hc;have Jn:(aP c l (es.take k)).length<((aP c l es).map Qp).length:=by simpa using hj
   have fK:∀ν,I (aP c l (es.take k)).length ν->bJ prog (.fn fy ya yb) [.agg es[k].pv,.list 4 .sh (r.map Bind.pv)] ν λv μ'=>(v=pB true/\Ow [I ((aP c l (es.take k)).length+1)] μ')\/(v=pB false/\Ow [S] μ'):=λν hν=>by
    have h:=cO _ Jn ν hν;rw[getElem_map,pj]at h;exact h
   refine Ow.yQ hI.swap fK λp u2 h3=>?_
   ·rcases Ow.s_ (A:=I ((aP c l (es.take k)).length+1)) (B:=S) h3 with⟨rfl,h4⟩|⟨rfl,h4⟩
    ·refine⟨_,rfl,ab.f rfl (bX _ ?_)⟩;rw[gX,hc];simpa using h4.swap
    ·exact⟨_,rfl,ab.t rfl (jW _ _ ⟨rfl,h4.swap.drop⟩)⟩
 ·intro u hI;simp only[length_map]at hI |-;rw[take_length]at hI;exact .inl hI.drop
 ·rintro cd u ⟨rfl,h⟩;exact .inr h
end Go.Proofs.YthaeiehophlooaaGreat
