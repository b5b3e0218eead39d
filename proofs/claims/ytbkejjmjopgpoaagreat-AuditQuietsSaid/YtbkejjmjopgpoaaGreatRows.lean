/-
  NARROWER THAN 'FOR EVERY INPUT', by the rows' own cells (each row's printed sentence says how): AuditMatches: loops · AuditQuiets: loops.
  DERIVED. THE GIVEN ROWS OF THIS SEAT. 3 by the template 'for every input the law returns true; each argument reads behind the call as it read before'; 0 by the template 'total and deterministic' (their statements: YtbkejjmjopgpoaaGreatTotals.lean).
  GIVEN WITH THE SEED: the statements are not yours to turn. If you find one false, say at which input.
  Laid BY PROGRAM, IN A SANDBOX (cutbox-rows.mjs): the forced cells as the released guide's own fill.sh prints them over the translation 923826f684c20f05… (all of the seat's roots in one cut). By AI agents, Wed Nov 11 2026. No macro, syntax, notation, axiom, sorry.
-/
import Derived.Test.YtbkejjmjopgpoaaGreatChecked
import GoSem.Claim
import GoSem.ClaimJoined
import GoSem.ClaimMapViews
import Derived.JoinedTies
import Derived.KernelRfl
namespace Go.Proofs.YtbkejjmjopgpoaaGreat
/- THE CELL 'sum', in the pinned program and in every row, IS THE sha256 OF THE DUMP (.gsa) THAT YtbkejjmjopgpoaaGreatProg.lean LOADS. Nothing in Lean hashes anything: it is a label: what it is worth is what the hold of that sum in a sandbox is worth. -/
noncomputable def Tryz.pinned : Pinned := { name := "ytbkejjmjopgpoaagreat", sum := "923826f684c20f05d4f4f70a597ab8dda59ade646e8e8464ca655f52f8e15762", checked := Tryz.checked }
namespace Rows
def none {H : Type} : Left H := { results := [], args := [] }

/-- 'ponderlaw29.AuditRaw': WHATEVER THE INPUT: true; the input reads as it did. -/
def auditRawSpec : ChangeSpec := { name := "auditRaw", fn := fun _ => fun
  | [d] => { results := [.lit (.bool true)], args := [d] }
  | _ => none }
def auditRawRow : OpenClaim := { program := "ytbkejjmjopgpoaagreat", sum := "923826f684c20f05d4f4f70a597ab8dda59ade646e8e8464ca655f52f8e15762", func := "ponder/ponderlaw29.AuditRaw", spec := "auditRaw", unfollowed := true, recurses := true, apart := false }
def AuditRawSaid : Prop := auditRawRow.holds Tryz.pinned (OpenSpec.ofChange auditRawSpec)

/-- ITS FALSE NEIGHBOUR: 'it returns false'. Refute it at one input. -/
def auditRawWrong : ChangeSpec := { name := "auditRaw", fn := fun _ => fun
  | [d] => { results := [.lit (.bool false)], args := [d] }
  | _ => none }
def AuditRawWrongFalsely : Prop := auditRawRow.holds Tryz.pinned (OpenSpec.ofChange auditRawWrong)

/-- 'ponderlaw29.AuditMatches': WHATEVER THE INPUT: true; the input reads as it did. -/
def auditMatchesSpec : ChangeSpec := { name := "auditMatches", fn := fun _ => fun
  | [d1, d2, d3] => { results := [.lit (.bool true)], args := [d1, d2, d3] }
  | _ => none }
def auditMatchesRow : OpenClaim := { program := "ytbkejjmjopgpoaagreat", sum := "923826f684c20f05d4f4f70a597ab8dda59ade646e8e8464ca655f52f8e15762", func := "ponder/ponderlaw29.AuditMatches", spec := "auditMatches", unfollowed := true, recurses := true, loops := true, apart := false }
def AuditMatchesSaid : Prop := auditMatchesRow.holds Tryz.pinned (OpenSpec.ofChange auditMatchesSpec)

/-- ITS FALSE NEIGHBOUR: 'it returns false'. Refute it at one input. -/
def auditMatchesWrong : ChangeSpec := { name := "auditMatches", fn := fun _ => fun
  | [d1, d2, d3] => { results := [.lit (.bool false)], args := [d1, d2, d3] }
  | _ => none }
def AuditMatchesWrongFalsely : Prop := auditMatchesRow.holds Tryz.pinned (OpenSpec.ofChange auditMatchesWrong)

/-- 'ponderlaw29.AuditQuiets': WHATEVER THE INPUT: true; the input reads as it did. -/
def auditQuietsSpec : ChangeSpec := { name := "auditQuiets", fn := fun _ => fun
  | [d1, d2, d3] => { results := [.lit (.bool true)], args := [d1, d2, d3] }
  | _ => none }
def auditQuietsRow : OpenClaim := { program := "ytbkejjmjopgpoaagreat", sum := "923826f684c20f05d4f4f70a597ab8dda59ade646e8e8464ca655f52f8e15762", func := "ponder/ponderlaw29.AuditQuiets", spec := "auditQuiets", unfollowed := true, recurses := true, loops := true, apart := false }
def AuditQuietsSaid : Prop := auditQuietsRow.holds Tryz.pinned (OpenSpec.ofChange auditQuietsSpec)

/-- ITS FALSE NEIGHBOUR: 'it returns false'. Refute it at one input. -/
def auditQuietsWrong : ChangeSpec := { name := "auditQuiets", fn := fun _ => fun
  | [d1, d2, d3] => { results := [.lit (.bool false)], args := [d1, d2, d3] }
  | _ => none }
def AuditQuietsWrongFalsely : Prop := auditQuietsRow.holds Tryz.pinned (OpenSpec.ofChange auditQuietsWrong)

/- THE SECOND FORM. 'bulk': how many values and letters a reading holds, each counted each time it is reached (what is shared counts as often as it is met; a slice's spare places count too). A statement '..UptoSaid' is the law's where the arguments, and the package variables that the reading takes, are together of bulk at most 1048576: NARROWER than '..Said'. Prove '..Said' where nothing that the law and all that it calls make is longer than what came in: it says more and counts as full. Else prove '..UptoSaid'. A law counts once. -/
mutual
def uptoBulk {H : Type} : DataW H → Nat
  | .lit (.string bytes) => bytes.length + 1
  | .lit _ => 1
  | .nil => 1
  | .ptr d => uptoBulk d + 1
  | .slice elems spare => uptoBulkAll elems + uptoBulkAll spare + 1
  | .agg parts => uptoBulkAll parts + 1
  | .iface _ d => uptoBulk d + 1
  | .map entries => uptoBulkEntries entries + 1
  | .held _ => 1
def uptoBulkAll {H : Type} : List (DataW H) → Nat
  | [] => 0
  | d :: r => uptoBulk d + uptoBulkAll r
def uptoBulkEntries {H : Type} : List (Lit × DataW H) → Nat
  | [] => 0
  | x :: r => uptoBulkEntry x + uptoBulkEntries r
def uptoBulkEntry {H : Type} : Lit × DataW H → Nat
  | (.string bytes, d) => bytes.length + uptoBulk d + 1
  | (_, d) => uptoBulk d + 1
 end
def uptoSmall : (H : Type) → List (DataW H) → Bool := fun _ ds => decide (uptoBulkAll ds ≤ 1048576)
def OpenSpec.upto (s : _root_.Go.ChangeSpec) : _root_.Go.OpenSpec := { _root_.Go.OpenSpec.ofChange s with cond := some uptoSmall }

/-- 'ponderlaw29.AuditRaw', WHERE WHAT IT READS IS OF BULK AT MOST 1048576: true; the input reads as it did. -/
def auditRawUptoRow : OpenClaim := { program := "ytbkejjmjopgpoaagreat", sum := "923826f684c20f05d4f4f70a597ab8dda59ade646e8e8464ca655f52f8e15762", func := "ponder/ponderlaw29.AuditRaw", spec := "auditRaw", unfollowed := true, recurses := true, apart := false, narrowed := true }
def AuditRawUptoSaid : Prop := auditRawUptoRow.holds Tryz.pinned (OpenSpec.upto auditRawSpec)

/-- 'ponderlaw29.AuditMatches', WHERE WHAT IT READS IS OF BULK AT MOST 1048576: true; the input reads as it did. -/
def auditMatchesUptoRow : OpenClaim := { program := "ytbkejjmjopgpoaagreat", sum := "923826f684c20f05d4f4f70a597ab8dda59ade646e8e8464ca655f52f8e15762", func := "ponder/ponderlaw29.AuditMatches", spec := "auditMatches", unfollowed := true, recurses := true, loops := true, apart := false, narrowed := true }
def AuditMatchesUptoSaid : Prop := auditMatchesUptoRow.holds Tryz.pinned (OpenSpec.upto auditMatchesSpec)

/-- 'ponderlaw29.AuditQuiets', WHERE WHAT IT READS IS OF BULK AT MOST 1048576: true; the input reads as it did. -/
def auditQuietsUptoRow : OpenClaim := { program := "ytbkejjmjopgpoaagreat", sum := "923826f684c20f05d4f4f70a597ab8dda59ade646e8e8464ca655f52f8e15762", func := "ponder/ponderlaw29.AuditQuiets", spec := "auditQuiets", unfollowed := true, recurses := true, loops := true, apart := false, narrowed := true }
def AuditQuietsUptoSaid : Prop := auditQuietsUptoRow.holds Tryz.pinned (OpenSpec.upto auditQuietsSpec)

end Rows
end Go.Proofs.YtbkejjmjopgpoaaGreat
