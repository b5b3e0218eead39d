/-
  NARROWER THAN 'FOR EVERY INPUT', by the rows' own cells (each row's printed sentence says how): AlphaBare: loops · AlphaUsers: loops · AlphaLate: loops · AlphaBack: loops.
  DERIVED. THE GIVEN ROWS OF THIS SEAT. 4 by the template 'for every input the law returns true; each argument reads behind the call as it read before'; 0 by the template 'total and deterministic' (their statements: YtdiimonfmdbclaaTotals.lean).
  GIVEN WITH THE SEED: the statements are not yours to turn. If you find one false, say at which input.
  Laid BY PROGRAM, IN A SANDBOX (cutbox-rows.mjs): the forced cells as the released guide's own fill.sh prints them over the translation a4cfb8864599e253… (all of the seat's roots in one cut). By AI agents, Wed Nov 11 2026. No macro, syntax, notation, axiom, sorry.
-/
import Derived.Test.YtdiimonfmdbclaaChecked
import GoSem.Claim
import GoSem.ClaimJoined
import GoSem.ClaimMapViews
import Derived.JoinedTies
import Derived.KernelRfl
namespace Go.Proofs.Ytdiimonfmdbclaa
/- THE CELL 'sum', in the pinned program and in every row, IS THE sha256 OF THE DUMP (.gsa) THAT YtdiimonfmdbclaaProg.lean LOADS. Nothing in Lean hashes anything: it is a label: what it is worth is what the hold of that sum in a sandbox is worth. -/
noncomputable def Try.pinned : Pinned := { name := "ytdiimonfmdbclaa", sum := "a4cfb8864599e253e60b179bfc5641e4eeb15d8b26ff625b18bc46ec81403937", checked := Try.checked }
namespace Rows
def none {H : Type} : Left H := { results := [], args := [] }

/-- 'ponderlaw12.AlphaBare': WHATEVER THE INPUT: true; the input reads as it did. -/
def alphaBareSpec : ChangeSpec := { name := "alphaBare", fn := fun _ => fun
  | [d] => { results := [.lit (.bool true)], args := [d] }
  | _ => none }
def alphaBareRow : OpenClaim := { program := "ytdiimonfmdbclaa", sum := "a4cfb8864599e253e60b179bfc5641e4eeb15d8b26ff625b18bc46ec81403937", func := "ponder/ponderlaw12.AlphaBare", spec := "alphaBare", unfollowed := true, recurses := true, loops := true, apart := false }
def AlphaBareSaid : Prop := alphaBareRow.holds Try.pinned (OpenSpec.ofChange alphaBareSpec)

/-- ITS FALSE NEIGHBOUR: 'it returns false'. Refute it at one input. -/
def alphaBareWrong : ChangeSpec := { name := "alphaBare", fn := fun _ => fun
  | [d] => { results := [.lit (.bool false)], args := [d] }
  | _ => none }
def AlphaBareWrongFalsely : Prop := alphaBareRow.holds Try.pinned (OpenSpec.ofChange alphaBareWrong)

/-- 'ponderlaw12.AlphaUsers': WHATEVER THE INPUT: true; the input reads as it did. -/
def alphaUsersSpec : ChangeSpec := { name := "alphaUsers", fn := fun _ => fun
  | [d1, d2, d3] => { results := [.lit (.bool true)], args := [d1, d2, d3] }
  | _ => none }
def alphaUsersRow : OpenClaim := { program := "ytdiimonfmdbclaa", sum := "a4cfb8864599e253e60b179bfc5641e4eeb15d8b26ff625b18bc46ec81403937", func := "ponder/ponderlaw12.AlphaUsers", spec := "alphaUsers", unfollowed := true, recurses := true, loops := true, apart := false }
def AlphaUsersSaid : Prop := alphaUsersRow.holds Try.pinned (OpenSpec.ofChange alphaUsersSpec)

/-- ITS FALSE NEIGHBOUR: 'it returns false'. Refute it at one input. -/
def alphaUsersWrong : ChangeSpec := { name := "alphaUsers", fn := fun _ => fun
  | [d1, d2, d3] => { results := [.lit (.bool false)], args := [d1, d2, d3] }
  | _ => none }
def AlphaUsersWrongFalsely : Prop := alphaUsersRow.holds Try.pinned (OpenSpec.ofChange alphaUsersWrong)

/-- 'ponderlaw12.AlphaLate': WHATEVER THE INPUT: true; the input reads as it did. -/
def alphaLateSpec : ChangeSpec := { name := "alphaLate", fn := fun _ => fun
  | [d1, d2] => { results := [.lit (.bool true)], args := [d1, d2] }
  | _ => none }
def alphaLateRow : OpenClaim := { program := "ytdiimonfmdbclaa", sum := "a4cfb8864599e253e60b179bfc5641e4eeb15d8b26ff625b18bc46ec81403937", func := "ponder/ponderlaw12.AlphaLate", spec := "alphaLate", unfollowed := true, recurses := true, loops := true, apart := false }
def AlphaLateSaid : Prop := alphaLateRow.holds Try.pinned (OpenSpec.ofChange alphaLateSpec)

/-- ITS FALSE NEIGHBOUR: 'it returns false'. Refute it at one input. -/
def alphaLateWrong : ChangeSpec := { name := "alphaLate", fn := fun _ => fun
  | [d1, d2] => { results := [.lit (.bool false)], args := [d1, d2] }
  | _ => none }
def AlphaLateWrongFalsely : Prop := alphaLateRow.holds Try.pinned (OpenSpec.ofChange alphaLateWrong)

/-- 'ponderlaw12.AlphaBack': WHATEVER THE INPUT: true; the input reads as it did. -/
def alphaBackSpec : ChangeSpec := { name := "alphaBack", fn := fun _ => fun
  | [d1, d2, d3] => { results := [.lit (.bool true)], args := [d1, d2, d3] }
  | _ => none }
def alphaBackRow : OpenClaim := { program := "ytdiimonfmdbclaa", sum := "a4cfb8864599e253e60b179bfc5641e4eeb15d8b26ff625b18bc46ec81403937", func := "ponder/ponderlaw12.AlphaBack", spec := "alphaBack", unfollowed := true, recurses := true, loops := true, apart := false }
def AlphaBackSaid : Prop := alphaBackRow.holds Try.pinned (OpenSpec.ofChange alphaBackSpec)

/-- ITS FALSE NEIGHBOUR: 'it returns false'. Refute it at one input. -/
def alphaBackWrong : ChangeSpec := { name := "alphaBack", fn := fun _ => fun
  | [d1, d2, d3] => { results := [.lit (.bool false)], args := [d1, d2, d3] }
  | _ => none }
def AlphaBackWrongFalsely : Prop := alphaBackRow.holds Try.pinned (OpenSpec.ofChange alphaBackWrong)

/- THE SECOND FORM. 'bulk': how many values and letters a reading holds, each counted each time it is reached (what is shared counts as often as it is met; a slice's spare places count too). A statement '..UptoSaid' is the law's where the arguments, and the package variables that the reading takes, are together of bulk at most 1048576: NARROWER than '..Said'. Prove '..Said' where nothing that the law and all that it calls make is longer than what came in: it says more and counts as full. Else prove '..UptoSaid'. A law counts once. -/
mutual
def uptoBulk {H : Type} : DataW H → Nat
  | .lit (.string bytes) => bytes.length + 1
  | .lit _ => 1
  | .nil => 1
  | .ptr d => uptoBulk d + 1
  | .slice elems spare => uptoBulkAll elems + uptoBulkAll spare + 1
  | .agg parts => uptoBulkAll parts + 1
  | .iface _ d => uptoBulk d + 1
  | .map entries => uptoBulkEntries entries + 1
  | .held _ => 1
def uptoBulkAll {H : Type} : List (DataW H) → Nat
  | [] => 0
  | d :: r => uptoBulk d + uptoBulkAll r
def uptoBulkEntries {H : Type} : List (Lit × DataW H) → Nat
  | [] => 0
  | x :: r => uptoBulkEntry x + uptoBulkEntries r
def uptoBulkEntry {H : Type} : Lit × DataW H → Nat
  | (.string bytes, d) => bytes.length + uptoBulk d + 1
  | (_, d) => uptoBulk d + 1
 end
def uptoSmall : (H : Type) → List (DataW H) → Bool := fun _ ds => decide (uptoBulkAll ds ≤ 1048576)
def OpenSpec.upto (s : _root_.Go.ChangeSpec) : _root_.Go.OpenSpec := { _root_.Go.OpenSpec.ofChange s with cond := some uptoSmall }

/-- 'ponderlaw12.AlphaBare', WHERE WHAT IT READS IS OF BULK AT MOST 1048576: true; the input reads as it did. -/
def alphaBareUptoRow : OpenClaim := { program := "ytdiimonfmdbclaa", sum := "a4cfb8864599e253e60b179bfc5641e4eeb15d8b26ff625b18bc46ec81403937", func := "ponder/ponderlaw12.AlphaBare", spec := "alphaBare", unfollowed := true, recurses := true, loops := true, apart := false, narrowed := true }
def AlphaBareUptoSaid : Prop := alphaBareUptoRow.holds Try.pinned (OpenSpec.upto alphaBareSpec)

/-- 'ponderlaw12.AlphaUsers', WHERE WHAT IT READS IS OF BULK AT MOST 1048576: true; the input reads as it did. -/
def alphaUsersUptoRow : OpenClaim := { program := "ytdiimonfmdbclaa", sum := "a4cfb8864599e253e60b179bfc5641e4eeb15d8b26ff625b18bc46ec81403937", func := "ponder/ponderlaw12.AlphaUsers", spec := "alphaUsers", unfollowed := true, recurses := true, loops := true, apart := false, narrowed := true }
def AlphaUsersUptoSaid : Prop := alphaUsersUptoRow.holds Try.pinned (OpenSpec.upto alphaUsersSpec)

/-- 'ponderlaw12.AlphaLate', WHERE WHAT IT READS IS OF BULK AT MOST 1048576: true; the input reads as it did. -/
def alphaLateUptoRow : OpenClaim := { program := "ytdiimonfmdbclaa", sum := "a4cfb8864599e253e60b179bfc5641e4eeb15d8b26ff625b18bc46ec81403937", func := "ponder/ponderlaw12.AlphaLate", spec := "alphaLate", unfollowed := true, recurses := true, loops := true, apart := false, narrowed := true }
def AlphaLateUptoSaid : Prop := alphaLateUptoRow.holds Try.pinned (OpenSpec.upto alphaLateSpec)

/-- 'ponderlaw12.AlphaBack', WHERE WHAT IT READS IS OF BULK AT MOST 1048576: true; the input reads as it did. -/
def alphaBackUptoRow : OpenClaim := { program := "ytdiimonfmdbclaa", sum := "a4cfb8864599e253e60b179bfc5641e4eeb15d8b26ff625b18bc46ec81403937", func := "ponder/ponderlaw12.AlphaBack", spec := "alphaBack", unfollowed := true, recurses := true, loops := true, apart := false, narrowed := true }
def AlphaBackUptoSaid : Prop := alphaBackUptoRow.holds Try.pinned (OpenSpec.upto alphaBackSpec)

end Rows
end Go.Proofs.Ytdiimonfmdbclaa
