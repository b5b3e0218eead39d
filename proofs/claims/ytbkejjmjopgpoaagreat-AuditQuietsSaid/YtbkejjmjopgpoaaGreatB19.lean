import Derived.Test.YtbkejjmjopgpoaaGreatB10
import Derived.Test.YtbkejjmjopgpoaaGreatB09
import Derived.Test.YtbkejjmjopgpoaaGreatB11
import Derived.Test.YtbkejjmjopgpoaaGreatB12
import Derived.Test.YtbkejjmjopgpoaaGreatB13
import Derived.Test.YtbkejjmjopgpoaaGreatB14
import Derived.Test.YtbkejjmjopgpoaaGreatB15
import Derived.Test.YtbkejjmjopgpoaaGreatB16
import Derived.Test.YtbkejjmjopgpoaaGreatB17
import Derived.Test.YtbkejjmjopgpoaaGreatB18
import Derived.Test.YtbkejjmjopgpoaaGreatProg
import Derived.JoinedOf
import Derived.KernelRfl
set_option linter.all false
set_option maxRecDepth 1000000
namespace Go.Proofs.YtbkejjmjopgpoaaGreat
open Go.Proofs.Tryz Go.az Go.az.Xv
noncomputable def tT:Tr zA:=(Tr.bC (Tr.bC Sl 8 (.DK (yq [r6]) d8) λt=>t) 24 (.DK (yq [r5]) d24) λt=>t)
theorem aco:sO prog tT:=(sO.put (sO.put sU (g:=8) (show ah prog 8 (.DK _ d8)from⟨(kG λr hr=>by
 simp only[List.mem_cons,List.not_mem_nil,or_false]at hr
 subst hr
 exact acT),k8⟩)) (g:=24) (show ah prog 24 (.DK _ d24)from⟨(kG λr hr=>by
 simp only[List.mem_cons,List.not_mem_nil,or_false]at hr
 subst hr
 exact acU),k24⟩))
theorem runT(μ:Mem){K:Kq}(hK:∀μ',K (pB true) μ'):ab prog 7 [] μ K:=agM (T:=tT) (M:=Ac) (lf:=2000) (n:=100) (k:=0) (v:=pB true) (w2:=⟨.lf,0⟩) (by kernel_rfl) mw aco (by kernel_rfl) μ λγ v' μ' hv=>by
 cases hv with
 |raw v w h=>cases h;exact hK _
open Go.Proofs.Tryz Go.az
set_option maxRecDepth 100000
section
variable {w:World}
theorem fF:prog.cellsOf 3=1:=by kernel_rfl
theorem uK:prog.cellsOf 4=1:=by kernel_rfl
theorem gB:prog.cellsOf 9=1:=by kernel_rfl
theorem lG:prog.cellsOf 58=3:=by kernel_rfl
theorem Oq:prog.cellsOf 74=1:=by kernel_rfl
theorem mV(n:Nat)(cs:List Value)(h:Reads prog w n 58 cs):∃s:Sym,aY (fj w) s.pv cs/\True:=by
 obtain⟨m,rfl,hl,hf⟩:=h.struct underlying58
 rw[lG]at hl
 obtain⟨i0,e0,_⟩:=(bW hf 0 0 fF rfl rfl rfl).kV underlying3
 obtain⟨i1,e1,_⟩:=(bW hf 1 1 gB rfl rfl rfl).Cn underlying9
 obtain⟨i2,e2,_⟩:=(bW hf 2 2 fF rfl rfl rfl).kV underlying3
 match cs,hl with
 |[x0,x1,x2],_=>exact⟨⟨_,_,_⟩,(e0.append e1).append e2,trivial⟩
theorem OZ(n:Nat)(cs:List Value)(h:Reads prog w n 74 cs):∃l:List Sym,aY (fj w) [.list 3 .sh (l.map Sym.pv)] cs/\(∀s∈l,True)/\l.length<=maxLen:=
 h.lK underlying74 lG (by omega) λm cs _ hr=>mV m cs hr
end
section
variable {w:World}
theorem GQ:prog.cellsOf 60=12:=by kernel_rfl
theorem O_(n:Nat)(cs:List Value)(h:Reads prog w n 60 cs):∃s:av,aY (fj w) s.pv cs/\True:=by
 obtain⟨m,rfl,hl,hf⟩:=h.struct underlying60
 rw[GQ]at hl
 obtain⟨a,e0,_⟩:=mV _ _ (bW hf 0 0 lG rfl rfl rfl)
 obtain⟨b,e1,_⟩:=mV _ _ (bW hf 1 3 lG rfl rfl rfl)
 obtain⟨c,e2,_⟩:=mV _ _ (bW hf 2 6 lG rfl rfl rfl)
 obtain⟨i3,e3⟩:=(bW hf 3 9 uK rfl rfl rfl).pbool underlying4
 obtain⟨i4,e4⟩:=(bW hf 4 10 uK rfl rfl rfl).pbool underlying4
 obtain⟨i5,e5,_⟩:=(bW hf 5 11 fF rfl rfl rfl).kV underlying3
 match cs,hl with
 |[x0,x1,x2,x3,x4,x5,x6,x7,x8,x9,x10,x11],_=>exact⟨⟨a,b,c,_,_,_⟩,((((e0.append e1).append e2).append e3).append e4).append e5,trivial⟩
end
end Go.Proofs.YtbkejjmjopgpoaaGreat
namespace Go.az
theorem Br{P:Program}{L:List TypeId}(h:P.grow L=L):∀n,P.grown n L=L
 |0=>rfl
 |n+1=>by
  show P.grown n (P.grow L)=L
  rw[h];exact Br h n
theorem Bt{P:Program}:∀(m n:Nat) (L:List TypeId),P.grown (m+n) L=P.grown n (P.grown m L)
 |0,n,L=>by rw[Nat.zero_add];rfl
 |m+1,n,L=>by
  rw[Nat.succ_add]
  exact Bt m n (P.grow L)
theorem Vn{P:Program}{t:TypeId}{L:List TypeId}(m:Nat)(h1:P.grown m [t]=L)(h2:P.grow L=L)(h3:Nat.ble m P.types.size=true):P.book t=L:=by
 unfold Program.book
 obtain⟨k,hk⟩:=Nat.le.dest (Nat.le_of_ble_eq_true h3)
 rw[<- hk,Bt,h1,Br h2]
noncomputable def lb(P:Program)(m:Nat)(t:TypeId):Bool:=P.grow (P.grown m [t]) == P.grown m [t]
theorem jU{P:Program}{m:Nat}{t:TypeId}(hm:Nat.ble m P.types.size=true)(h:lb P m t=true):P.book t=P.grown m [t]:=Vn m rfl (by simpa[lb]using h) hm
theorem se{α:Type}{p q:α->Bool}:∀{l:List α},(∀x∈l,p x=q x)->l.any p=l.any q
 |[],_=>rfl
 |x::l,h=>by rw[List.any_cons,List.any_cons,h x (by simp),se λy hy=>h y (by simp[hy])]
theorem dQ{P:Program}(m:Nat){t:TypeId}(hm:Nat.ble m P.types.size=true)(h:lb P m t=true):P.readableRec t=(P.grown m [t]).all λu=>P.fineRow u&&(P.partsOf u).all ((P.grown m [t]).contains ·):=by
 unfold Program.readableRec;rw[jU hm h]
theorem mapsRec_eq{P:Program}(m:Nat){t:TypeId}(hm:Nat.ble m P.types.size=true)(h:lb P m t=true):P.mapsRec t=(P.grown m [t]).any λu=>match P.underlying u with|some (.map _ _)=>true|_=>false:=by
 unfold Program.mapsRec;rw[jU hm h];rfl
theorem ifacesRec_eq{P:Program}(m:Nat){t:TypeId}(hm:Nat.ble m P.types.size=true)(h:lb P m t=true):P.ifacesRec t=(P.grown m [t]).any λu=>match P.underlying u with|some (.interface _)=>true|_=>false:=by
 unfold Program.ifacesRec;rw[jU hm h];rfl
theorem bX{P:Program}(m:Nat){t:TypeId}(hm:Nat.ble m P.types.size=true)(h:lb P m t=true):P.veiledRec t=(P.grown m [t]).any λu=>match P.underlying u with|some (.func ..)|some (.chan ..)|some .unsafePointer=>true|_=>false:=by
 unfold Program.veiledRec;rw[jU hm h];rfl
theorem dn{P:Program}(m:Nat){t:TypeId}(hm:Nat.ble m P.types.size=true)(h:lb P m t=true):P.wideKeysFrom t=(P.grown m [t]).any λu=>match P.underlying u with
  |some (.map k _)=>(match P.underlying k with|some (.array _ _)|some (.struct _)=>true|_=>false)
  |_=>false:=by
 unfold Program.wideKeysFrom;rw[jU hm h];rfl
theorem e_{P:Program}(m:Nat){t:TypeId}(hm:Nat.ble m P.types.size=true)(h:lb P m t=true)(hs:((P.grown m [t]).all λu=>(P.partsOf u).all λv=>lb P m v)=true):P.loopsFrom t=(P.grown m [t]).any λu=>(P.partsOf u).any λv=>(P.grown m [v]).contains u:=by
 unfold Program.loopsFrom
 rw[jU hm h]
 refine se λu hu=>se λv hv=>?_
 rw[jU hm (List.all_eq_true.1 (List.all_eq_true.1 hs u hu) v hv)]
theorem eW{P:Program}{t:TypeId}(h:P.veiledRec t=false):P.veiledOwn t=true:=by
 unfold Program.veiledOwn;rw[h];rfl
end Go.az
