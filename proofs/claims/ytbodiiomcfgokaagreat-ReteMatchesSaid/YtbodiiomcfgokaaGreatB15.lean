import Derived.Test.YtbodiiomcfgokaaGreatB14
set_option linter.all false
namespace Go.Proofs.YtbodiiomcfgokaaGreat
open Go.Proofs.Tryz Go.aP
set_option maxRecDepth 100000
section
variable {w:World}
theorem PL:prog.cellsOf 78=12:=by kernel_rfl
theorem Yn(n:Nat)(cs:List Value)(h:Reads prog w n 78 cs):∃s:aj,bq (jT w) s.pv cs/\True:=by
 obtain⟨m,rfl,hl,hf⟩:=h.struct underlying78;rw[PL]at hl;obtain⟨a,e0,_⟩:=Dm _ _ (gF hf 0 0 zW rfl rfl rfl);obtain⟨b,e1,_⟩:=Dm _ _ (gF hf 1 3 zW rfl rfl rfl);obtain⟨c,e2,_⟩:=Dm _ _ (gF hf 2 6 zW rfl rfl rfl);obtain⟨i3,e3⟩:=(gF hf 3 9 Ev rfl rfl rfl).pbool underlying4;obtain⟨i4,e4⟩:=(gF hf 4 10 Ev rfl rfl rfl).pbool underlying4;obtain⟨i5,e5,_⟩:=(gF hf 5 11 zX rfl rfl rfl).JN underlying3
 match cs,hl with
 |[x0,x1,x2,x3,x4,x5,x6,x7,x8,x9,x10,x11],_=>exact⟨⟨a,b,c,_,_,_⟩,((((e0.append e1).append e2).append e3).append e4).append e5,trivial⟩
end
end Go.Proofs.YtbodiiomcfgokaaGreat
