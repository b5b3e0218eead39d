/-
  NARROWER THAN 'FOR EVERY INPUT', by the rows' own cells (each row's printed sentence says how): ReteDouble: loops · ReteNames: loops · ReteNodes: loops · ReteClones: loops · ReteBinds: loops · ReteTokens: loops · ReteNot: loops · ReteMatches: loops · ReteOrders: loops · ReteBack: loops · RetePlays: loops.
  DERIVED. THE GIVEN ROWS OF THIS SEAT. 12 by the template 'for every input the law returns true; each argument reads behind the call as it read before'; 0 by the template 'total and deterministic' (their statements: YtbodiiomcfgokaaGreatTotals.lean).
  GIVEN WITH THE SEED: the statements are not yours to turn. If you find one false, say at which input.
  Laid BY PROGRAM, IN A SANDBOX (cutbox-rows.mjs): the forced cells as the released guide's own fill.sh prints them over the translation f07fc929ab68961d… (all of the seat's roots in one cut). By AI agents, Wed Nov 11 2026. No macro, syntax, notation, axiom, sorry.
-/
import Derived.Test.YtbodiiomcfgokaaGreatChecked
import GoSem.Claim
import GoSem.ClaimJoined
import GoSem.ClaimMapViews
import Derived.JoinedTies
import Derived.KernelRfl
namespace Go.Proofs.YtbodiiomcfgokaaGreat
/- THE CELL 'sum', in the pinned program and in every row, IS THE sha256 OF THE DUMP (.gsa) THAT YtbodiiomcfgokaaGreatProg.lean LOADS. Nothing in Lean hashes anything: it is a label: what it is worth is what the hold of that sum in a sandbox is worth. -/
noncomputable def Tryz.pinned : Pinned := { name := "ytbodiiomcfgokaagreat", sum := "f07fc929ab68961d7bf3d86e8e733125a0bf0f0999345b1554cc530b5db4a50c", checked := Tryz.checked }
namespace Rows
def none {H : Type} : Left H := { results := [], args := [] }

/-- 'ponderlaw13.ReteDouble': WHATEVER THE INPUT: true; the input reads as it did. -/
def reteDoubleSpec : ChangeSpec := { name := "reteDouble", fn := fun _ => fun
  | [d1, d2, d3] => { results := [.lit (.bool true)], args := [d1, d2, d3] }
  | _ => none }
def reteDoubleRow : OpenClaim := { program := "ytbodiiomcfgokaagreat", sum := "f07fc929ab68961d7bf3d86e8e733125a0bf0f0999345b1554cc530b5db4a50c", func := "ponder/ponderlaw13.ReteDouble", spec := "reteDouble", unfollowed := true, recurses := true, loops := true, apart := false }
def ReteDoubleSaid : Prop := reteDoubleRow.holds Tryz.pinned (OpenSpec.ofChange reteDoubleSpec)

/-- ITS FALSE NEIGHBOUR: 'it returns false'. Refute it at one input. -/
def reteDoubleWrong : ChangeSpec := { name := "reteDouble", fn := fun _ => fun
  | [d1, d2, d3] => { results := [.lit (.bool false)], args := [d1, d2, d3] }
  | _ => none }
def ReteDoubleWrongFalsely : Prop := reteDoubleRow.holds Tryz.pinned (OpenSpec.ofChange reteDoubleWrong)

/-- 'ponderlaw13.ReteNames': WHATEVER THE INPUT: true; the input reads as it did. -/
def reteNamesSpec : ChangeSpec := { name := "reteNames", fn := fun _ => fun
  | [d1, d2] => { results := [.lit (.bool true)], args := [d1, d2] }
  | _ => none }
def reteNamesRow : OpenClaim := { program := "ytbodiiomcfgokaagreat", sum := "f07fc929ab68961d7bf3d86e8e733125a0bf0f0999345b1554cc530b5db4a50c", func := "ponder/ponderlaw13.ReteNames", spec := "reteNames", unfollowed := true, recurses := true, loops := true, apart := false }
def ReteNamesSaid : Prop := reteNamesRow.holds Tryz.pinned (OpenSpec.ofChange reteNamesSpec)

/-- ITS FALSE NEIGHBOUR: 'it returns false'. Refute it at one input. -/
def reteNamesWrong : ChangeSpec := { name := "reteNames", fn := fun _ => fun
  | [d1, d2] => { results := [.lit (.bool false)], args := [d1, d2] }
  | _ => none }
def ReteNamesWrongFalsely : Prop := reteNamesRow.holds Tryz.pinned (OpenSpec.ofChange reteNamesWrong)

/-- 'ponderlaw13.ReteNodes': WHATEVER THE INPUT: true; the input reads as it did. -/
def reteNodesSpec : ChangeSpec := { name := "reteNodes", fn := fun _ => fun
  | [d1, d2] => { results := [.lit (.bool true)], args := [d1, d2] }
  | _ => none }
def reteNodesRow : OpenClaim := { program := "ytbodiiomcfgokaagreat", sum := "f07fc929ab68961d7bf3d86e8e733125a0bf0f0999345b1554cc530b5db4a50c", func := "ponder/ponderlaw13.ReteNodes", spec := "reteNodes", unfollowed := true, recurses := true, loops := true, apart := false }
def ReteNodesSaid : Prop := reteNodesRow.holds Tryz.pinned (OpenSpec.ofChange reteNodesSpec)

/-- ITS FALSE NEIGHBOUR: 'it returns false'. Refute it at one input. -/
def reteNodesWrong : ChangeSpec := { name := "reteNodes", fn := fun _ => fun
  | [d1, d2] => { results := [.lit (.bool false)], args := [d1, d2] }
  | _ => none }
def ReteNodesWrongFalsely : Prop := reteNodesRow.holds Tryz.pinned (OpenSpec.ofChange reteNodesWrong)

/-- 'ponderlaw13.ReteClones': WHATEVER THE INPUT: true; the input reads as it did. -/
def reteClonesSpec : ChangeSpec := { name := "reteClones", fn := fun _ => fun
  | [d1, d2, d3, d4] => { results := [.lit (.bool true)], args := [d1, d2, d3, d4] }
  | _ => none }
def reteClonesRow : OpenClaim := { program := "ytbodiiomcfgokaagreat", sum := "f07fc929ab68961d7bf3d86e8e733125a0bf0f0999345b1554cc530b5db4a50c", func := "ponder/ponderlaw13.ReteClones", spec := "reteClones", unfollowed := true, recurses := true, loops := true, apart := false }
def ReteClonesSaid : Prop := reteClonesRow.holds Tryz.pinned (OpenSpec.ofChange reteClonesSpec)

/-- ITS FALSE NEIGHBOUR: 'it returns false'. Refute it at one input. -/
def reteClonesWrong : ChangeSpec := { name := "reteClones", fn := fun _ => fun
  | [d1, d2, d3, d4] => { results := [.lit (.bool false)], args := [d1, d2, d3, d4] }
  | _ => none }
def ReteClonesWrongFalsely : Prop := reteClonesRow.holds Tryz.pinned (OpenSpec.ofChange reteClonesWrong)

/-- 'ponderlaw13.ReteBinds': WHATEVER THE INPUT: true; the input reads as it did. -/
def reteBindsSpec : ChangeSpec := { name := "reteBinds", fn := fun _ => fun
  | [d1, d2, d3] => { results := [.lit (.bool true)], args := [d1, d2, d3] }
  | _ => none }
def reteBindsRow : OpenClaim := { program := "ytbodiiomcfgokaagreat", sum := "f07fc929ab68961d7bf3d86e8e733125a0bf0f0999345b1554cc530b5db4a50c", func := "ponder/ponderlaw13.ReteBinds", spec := "reteBinds", unfollowed := true, recurses := true, loops := true, apart := false }
def ReteBindsSaid : Prop := reteBindsRow.holds Tryz.pinned (OpenSpec.ofChange reteBindsSpec)

/-- ITS FALSE NEIGHBOUR: 'it returns false'. Refute it at one input. -/
def reteBindsWrong : ChangeSpec := { name := "reteBinds", fn := fun _ => fun
  | [d1, d2, d3] => { results := [.lit (.bool false)], args := [d1, d2, d3] }
  | _ => none }
def ReteBindsWrongFalsely : Prop := reteBindsRow.holds Tryz.pinned (OpenSpec.ofChange reteBindsWrong)

/-- 'ponderlaw13.ReteTokens': WHATEVER THE INPUT: true; the input reads as it did. -/
def reteTokensSpec : ChangeSpec := { name := "reteTokens", fn := fun _ => fun
  | [d1, d2, d3, d4] => { results := [.lit (.bool true)], args := [d1, d2, d3, d4] }
  | _ => none }
def reteTokensRow : OpenClaim := { program := "ytbodiiomcfgokaagreat", sum := "f07fc929ab68961d7bf3d86e8e733125a0bf0f0999345b1554cc530b5db4a50c", func := "ponder/ponderlaw13.ReteTokens", spec := "reteTokens", unfollowed := true, recurses := true, loops := true, apart := false }
def ReteTokensSaid : Prop := reteTokensRow.holds Tryz.pinned (OpenSpec.ofChange reteTokensSpec)

/-- ITS FALSE NEIGHBOUR: 'it returns false'. Refute it at one input. -/
def reteTokensWrong : ChangeSpec := { name := "reteTokens", fn := fun _ => fun
  | [d1, d2, d3, d4] => { results := [.lit (.bool false)], args := [d1, d2, d3, d4] }
  | _ => none }
def ReteTokensWrongFalsely : Prop := reteTokensRow.holds Tryz.pinned (OpenSpec.ofChange reteTokensWrong)

/-- 'ponderlaw13.ReteNot': WHATEVER THE INPUT: true; the input reads as it did. -/
def reteNotSpec : ChangeSpec := { name := "reteNot", fn := fun _ => fun
  | [d1, d2, d3] => { results := [.lit (.bool true)], args := [d1, d2, d3] }
  | _ => none }
def reteNotRow : OpenClaim := { program := "ytbodiiomcfgokaagreat", sum := "f07fc929ab68961d7bf3d86e8e733125a0bf0f0999345b1554cc530b5db4a50c", func := "ponder/ponderlaw13.ReteNot", spec := "reteNot", unfollowed := true, recurses := true, loops := true, apart := false }
def ReteNotSaid : Prop := reteNotRow.holds Tryz.pinned (OpenSpec.ofChange reteNotSpec)

/-- ITS FALSE NEIGHBOUR: 'it returns false'. Refute it at one input. -/
def reteNotWrong : ChangeSpec := { name := "reteNot", fn := fun _ => fun
  | [d1, d2, d3] => { results := [.lit (.bool false)], args := [d1, d2, d3] }
  | _ => none }
def ReteNotWrongFalsely : Prop := reteNotRow.holds Tryz.pinned (OpenSpec.ofChange reteNotWrong)

/-- 'ponderlaw13.ReteBounds': WHATEVER THE INPUT: true; the input reads as it did. -/
def reteBoundsSpec : ChangeSpec := { name := "reteBounds", fn := fun _ => fun
  | [d1, d2, d3] => { results := [.lit (.bool true)], args := [d1, d2, d3] }
  | _ => none }
def reteBoundsRow : OpenClaim := { program := "ytbodiiomcfgokaagreat", sum := "f07fc929ab68961d7bf3d86e8e733125a0bf0f0999345b1554cc530b5db4a50c", func := "ponder/ponderlaw13.ReteBounds", spec := "reteBounds", unfollowed := true, recurses := true, apart := false }
def ReteBoundsSaid : Prop := reteBoundsRow.holds Tryz.pinned (OpenSpec.ofChange reteBoundsSpec)

/-- ITS FALSE NEIGHBOUR: 'it returns false'. Refute it at one input. -/
def reteBoundsWrong : ChangeSpec := { name := "reteBounds", fn := fun _ => fun
  | [d1, d2, d3] => { results := [.lit (.bool false)], args := [d1, d2, d3] }
  | _ => none }
def ReteBoundsWrongFalsely : Prop := reteBoundsRow.holds Tryz.pinned (OpenSpec.ofChange reteBoundsWrong)

/-- 'ponderlaw13.ReteMatches': WHATEVER THE INPUT: true; the input reads as it did. -/
def reteMatchesSpec : ChangeSpec := { name := "reteMatches", fn := fun _ => fun
  | [d1, d2, d3] => { results := [.lit (.bool true)], args := [d1, d2, d3] }
  | _ => none }
def reteMatchesRow : OpenClaim := { program := "ytbodiiomcfgokaagreat", sum := "f07fc929ab68961d7bf3d86e8e733125a0bf0f0999345b1554cc530b5db4a50c", func := "ponder/ponderlaw13.ReteMatches", spec := "reteMatches", unfollowed := true, recurses := true, loops := true, apart := false }
def ReteMatchesSaid : Prop := reteMatchesRow.holds Tryz.pinned (OpenSpec.ofChange reteMatchesSpec)

/-- ITS FALSE NEIGHBOUR: 'it returns false'. Refute it at one input. -/
def reteMatchesWrong : ChangeSpec := { name := "reteMatches", fn := fun _ => fun
  | [d1, d2, d3] => { results := [.lit (.bool false)], args := [d1, d2, d3] }
  | _ => none }
def ReteMatchesWrongFalsely : Prop := reteMatchesRow.holds Tryz.pinned (OpenSpec.ofChange reteMatchesWrong)

/-- 'ponderlaw13.ReteOrders': WHATEVER THE INPUT: true; the input reads as it did. -/
def reteOrdersSpec : ChangeSpec := { name := "reteOrders", fn := fun _ => fun
  | [d1, d2, d3] => { results := [.lit (.bool true)], args := [d1, d2, d3] }
  | _ => none }
def reteOrdersRow : OpenClaim := { program := "ytbodiiomcfgokaagreat", sum := "f07fc929ab68961d7bf3d86e8e733125a0bf0f0999345b1554cc530b5db4a50c", func := "ponder/ponderlaw13.ReteOrders", spec := "reteOrders", unfollowed := true, recurses := true, loops := true, apart := false }
def ReteOrdersSaid : Prop := reteOrdersRow.holds Tryz.pinned (OpenSpec.ofChange reteOrdersSpec)

/-- ITS FALSE NEIGHBOUR: 'it returns false'. Refute it at one input. -/
def reteOrdersWrong : ChangeSpec := { name := "reteOrders", fn := fun _ => fun
  | [d1, d2, d3] => { results := [.lit (.bool false)], args := [d1, d2, d3] }
  | _ => none }
def ReteOrdersWrongFalsely : Prop := reteOrdersRow.holds Tryz.pinned (OpenSpec.ofChange reteOrdersWrong)

/-- 'ponderlaw13.ReteBack': WHATEVER THE INPUT: true; the input reads as it did. -/
def reteBackSpec : ChangeSpec := { name := "reteBack", fn := fun _ => fun
  | [d1, d2, d3, d4] => { results := [.lit (.bool true)], args := [d1, d2, d3, d4] }
  | _ => none }
def reteBackRow : OpenClaim := { program := "ytbodiiomcfgokaagreat", sum := "f07fc929ab68961d7bf3d86e8e733125a0bf0f0999345b1554cc530b5db4a50c", func := "ponder/ponderlaw13.ReteBack", spec := "reteBack", unfollowed := true, recurses := true, loops := true, apart := false }
def ReteBackSaid : Prop := reteBackRow.holds Tryz.pinned (OpenSpec.ofChange reteBackSpec)

/-- ITS FALSE NEIGHBOUR: 'it returns false'. Refute it at one input. -/
def reteBackWrong : ChangeSpec := { name := "reteBack", fn := fun _ => fun
  | [d1, d2, d3, d4] => { results := [.lit (.bool false)], args := [d1, d2, d3, d4] }
  | _ => none }
def ReteBackWrongFalsely : Prop := reteBackRow.holds Tryz.pinned (OpenSpec.ofChange reteBackWrong)

/-- 'ponderlaw13.RetePlays': WHATEVER THE INPUT: true; the input reads as it did. -/
def retePlaysSpec : ChangeSpec := { name := "retePlays", fn := fun _ => fun
  | [d1, d2, d3] => { results := [.lit (.bool true)], args := [d1, d2, d3] }
  | _ => none }
def retePlaysRow : OpenClaim := { program := "ytbodiiomcfgokaagreat", sum := "f07fc929ab68961d7bf3d86e8e733125a0bf0f0999345b1554cc530b5db4a50c", func := "ponder/ponderlaw13.RetePlays", spec := "retePlays", unfollowed := true, recurses := true, loops := true, apart := false }
def RetePlaysSaid : Prop := retePlaysRow.holds Tryz.pinned (OpenSpec.ofChange retePlaysSpec)

/-- ITS FALSE NEIGHBOUR: 'it returns false'. Refute it at one input. -/
def retePlaysWrong : ChangeSpec := { name := "retePlays", fn := fun _ => fun
  | [d1, d2, d3] => { results := [.lit (.bool false)], args := [d1, d2, d3] }
  | _ => none }
def RetePlaysWrongFalsely : Prop := retePlaysRow.holds Tryz.pinned (OpenSpec.ofChange retePlaysWrong)

/- THE SECOND FORM. 'bulk': how many values and letters a reading holds, each counted each time it is reached (what is shared counts as often as it is met; a slice's spare places count too). A statement '..UptoSaid' is the law's where the arguments, and the package variables that the reading takes, are together of bulk at most 1048576: NARROWER than '..Said'. Prove '..Said' where nothing that the law and all that it calls make is longer than what came in: it says more and counts as full. Else prove '..UptoSaid'. A law counts once. -/
mutual
def uptoBulk {H : Type} : DataW H → Nat
  | .lit (.string bytes) => bytes.length + 1
  | .lit _ => 1
  | .nil => 1
  | .ptr d => uptoBulk d + 1
  | .slice elems spare => uptoBulkAll elems + uptoBulkAll spare + 1
  | .agg parts => uptoBulkAll parts + 1
  | .iface _ d => uptoBulk d + 1
  | .map entries => uptoBulkEntries entries + 1
  | .held _ => 1
def uptoBulkAll {H : Type} : List (DataW H) → Nat
  | [] => 0
  | d :: r => uptoBulk d + uptoBulkAll r
def uptoBulkEntries {H : Type} : List (Lit × DataW H) → Nat
  | [] => 0
  | x :: r => uptoBulkEntry x + uptoBulkEntries r
def uptoBulkEntry {H : Type} : Lit × DataW H → Nat
  | (.string bytes, d) => bytes.length + uptoBulk d + 1
  | (_, d) => uptoBulk d + 1
 end
def uptoSmall : (H : Type) → List (DataW H) → Bool := fun _ ds => decide (uptoBulkAll ds ≤ 1048576)
def OpenSpec.upto (s : _root_.Go.ChangeSpec) : _root_.Go.OpenSpec := { _root_.Go.OpenSpec.ofChange s with cond := some uptoSmall }

/-- 'ponderlaw13.ReteDouble', WHERE WHAT IT READS IS OF BULK AT MOST 1048576: true; the input reads as it did. -/
def reteDoubleUptoRow : OpenClaim := { program := "ytbodiiomcfgokaagreat", sum := "f07fc929ab68961d7bf3d86e8e733125a0bf0f0999345b1554cc530b5db4a50c", func := "ponder/ponderlaw13.ReteDouble", spec := "reteDouble", unfollowed := true, recurses := true, loops := true, apart := false, narrowed := true }
def ReteDoubleUptoSaid : Prop := reteDoubleUptoRow.holds Tryz.pinned (OpenSpec.upto reteDoubleSpec)

/-- 'ponderlaw13.ReteNames', WHERE WHAT IT READS IS OF BULK AT MOST 1048576: true; the input reads as it did. -/
def reteNamesUptoRow : OpenClaim := { program := "ytbodiiomcfgokaagreat", sum := "f07fc929ab68961d7bf3d86e8e733125a0bf0f0999345b1554cc530b5db4a50c", func := "ponder/ponderlaw13.ReteNames", spec := "reteNames", unfollowed := true, recurses := true, loops := true, apart := false, narrowed := true }
def ReteNamesUptoSaid : Prop := reteNamesUptoRow.holds Tryz.pinned (OpenSpec.upto reteNamesSpec)

/-- 'ponderlaw13.ReteNodes', WHERE WHAT IT READS IS OF BULK AT MOST 1048576: true; the input reads as it did. -/
def reteNodesUptoRow : OpenClaim := { program := "ytbodiiomcfgokaagreat", sum := "f07fc929ab68961d7bf3d86e8e733125a0bf0f0999345b1554cc530b5db4a50c", func := "ponder/ponderlaw13.ReteNodes", spec := "reteNodes", unfollowed := true, recurses := true, loops := true, apart := false, narrowed := true }
def ReteNodesUptoSaid : Prop := reteNodesUptoRow.holds Tryz.pinned (OpenSpec.upto reteNodesSpec)

/-- 'ponderlaw13.ReteClones', WHERE WHAT IT READS IS OF BULK AT MOST 1048576: true; the input reads as it did. -/
def reteClonesUptoRow : OpenClaim := { program := "ytbodiiomcfgokaagreat", sum := "f07fc929ab68961d7bf3d86e8e733125a0bf0f0999345b1554cc530b5db4a50c", func := "ponder/ponderlaw13.ReteClones", spec := "reteClones", unfollowed := true, recurses := true, loops := true, apart := false, narrowed := true }
def ReteClonesUptoSaid : Prop := reteClonesUptoRow.holds Tryz.pinned (OpenSpec.upto reteClonesSpec)

/-- 'ponderlaw13.ReteBinds', WHERE WHAT IT READS IS OF BULK AT MOST 1048576: true; the input reads as it did. -/
def reteBindsUptoRow : OpenClaim := { program := "ytbodiiomcfgokaagreat", sum := "f07fc929ab68961d7bf3d86e8e733125a0bf0f0999345b1554cc530b5db4a50c", func := "ponder/ponderlaw13.ReteBinds", spec := "reteBinds", unfollowed := true, recurses := true, loops := true, apart := false, narrowed := true }
def ReteBindsUptoSaid : Prop := reteBindsUptoRow.holds Tryz.pinned (OpenSpec.upto reteBindsSpec)

/-- 'ponderlaw13.ReteTokens', WHERE WHAT IT READS IS OF BULK AT MOST 1048576: true; the input reads as it did. -/
def reteTokensUptoRow : OpenClaim := { program := "ytbodiiomcfgokaagreat", sum := "f07fc929ab68961d7bf3d86e8e733125a0bf0f0999345b1554cc530b5db4a50c", func := "ponder/ponderlaw13.ReteTokens", spec := "reteTokens", unfollowed := true, recurses := true, loops := true, apart := false, narrowed := true }
def ReteTokensUptoSaid : Prop := reteTokensUptoRow.holds Tryz.pinned (OpenSpec.upto reteTokensSpec)

/-- 'ponderlaw13.ReteNot', WHERE WHAT IT READS IS OF BULK AT MOST 1048576: true; the input reads as it did. -/
def reteNotUptoRow : OpenClaim := { program := "ytbodiiomcfgokaagreat", sum := "f07fc929ab68961d7bf3d86e8e733125a0bf0f0999345b1554cc530b5db4a50c", func := "ponder/ponderlaw13.ReteNot", spec := "reteNot", unfollowed := true, recurses := true, loops := true, apart := false, narrowed := true }
def ReteNotUptoSaid : Prop := reteNotUptoRow.holds Tryz.pinned (OpenSpec.upto reteNotSpec)

/-- 'ponderlaw13.ReteBounds', WHERE WHAT IT READS IS OF BULK AT MOST 1048576: true; the input reads as it did. -/
def reteBoundsUptoRow : OpenClaim := { program := "ytbodiiomcfgokaagreat", sum := "f07fc929ab68961d7bf3d86e8e733125a0bf0f0999345b1554cc530b5db4a50c", func := "ponder/ponderlaw13.ReteBounds", spec := "reteBounds", unfollowed := true, recurses := true, apart := false, narrowed := true }
def ReteBoundsUptoSaid : Prop := reteBoundsUptoRow.holds Tryz.pinned (OpenSpec.upto reteBoundsSpec)

/-- 'ponderlaw13.ReteMatches', WHERE WHAT IT READS IS OF BULK AT MOST 1048576: true; the input reads as it did. -/
def reteMatchesUptoRow : OpenClaim := { program := "ytbodiiomcfgokaagreat", sum := "f07fc929ab68961d7bf3d86e8e733125a0bf0f0999345b1554cc530b5db4a50c", func := "ponder/ponderlaw13.ReteMatches", spec := "reteMatches", unfollowed := true, recurses := true, loops := true, apart := false, narrowed := true }
def ReteMatchesUptoSaid : Prop := reteMatchesUptoRow.holds Tryz.pinned (OpenSpec.upto reteMatchesSpec)

/-- 'ponderlaw13.ReteOrders', WHERE WHAT IT READS IS OF BULK AT MOST 1048576: true; the input reads as it did. -/
def reteOrdersUptoRow : OpenClaim := { program := "ytbodiiomcfgokaagreat", sum := "f07fc929ab68961d7bf3d86e8e733125a0bf0f0999345b1554cc530b5db4a50c", func := "ponder/ponderlaw13.ReteOrders", spec := "reteOrders", unfollowed := true, recurses := true, loops := true, apart := false, narrowed := true }
def ReteOrdersUptoSaid : Prop := reteOrdersUptoRow.holds Tryz.pinned (OpenSpec.upto reteOrdersSpec)

/-- 'ponderlaw13.ReteBack', WHERE WHAT IT READS IS OF BULK AT MOST 1048576: true; the input reads as it did. -/
def reteBackUptoRow : OpenClaim := { program := "ytbodiiomcfgokaagreat", sum := "f07fc929ab68961d7bf3d86e8e733125a0bf0f0999345b1554cc530b5db4a50c", func := "ponder/ponderlaw13.ReteBack", spec := "reteBack", unfollowed := true, recurses := true, loops := true, apart := false, narrowed := true }
def ReteBackUptoSaid : Prop := reteBackUptoRow.holds Tryz.pinned (OpenSpec.upto reteBackSpec)

/-- 'ponderlaw13.RetePlays', WHERE WHAT IT READS IS OF BULK AT MOST 1048576: true; the input reads as it did. -/
def retePlaysUptoRow : OpenClaim := { program := "ytbodiiomcfgokaagreat", sum := "f07fc929ab68961d7bf3d86e8e733125a0bf0f0999345b1554cc530b5db4a50c", func := "ponder/ponderlaw13.RetePlays", spec := "retePlays", unfollowed := true, recurses := true, loops := true, apart := false, narrowed := true }
def RetePlaysUptoSaid : Prop := retePlaysUptoRow.holds Tryz.pinned (OpenSpec.upto retePlaysSpec)

end Rows
end Go.Proofs.YtbodiiomcfgokaaGreat
