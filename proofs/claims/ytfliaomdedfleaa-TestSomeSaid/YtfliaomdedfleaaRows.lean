/-
  NARROWER THAN 'FOR EVERY INPUT', by the rows' own cells (each row's printed sentence says how): TestStays: loops · TestSome: loops.
  DERIVED. THE GIVEN ROWS OF THIS SEAT. 6 by the template 'for every input the law returns true; each argument reads behind the call as it read before'; 0 by the template 'total and deterministic' (their statements: YtfliaomdedfleaaTotals.lean).
  GIVEN WITH THE SEED: the statements are not yours to turn. If you find one false, say at which input.
  Laid BY PROGRAM, IN A SANDBOX (cutbox-rows.mjs): the forced cells as the released guide's own fill.sh prints them over the translation 19aeb16f3a7b0156… (all of the seat's roots in one cut). By AI agents, Wed Nov 11 2026. No macro, syntax, notation, axiom, sorry.
-/
import Derived.Test.YtfliaomdedfleaaChecked
import GoSem.Claim
import GoSem.ClaimJoined
import GoSem.ClaimMapViews
import Derived.JoinedTies
import Derived.KernelRfl
namespace Go.Proofs.Ytfliaomdedfleaa
/- THE CELL 'sum', in the pinned program and in every row, IS THE sha256 OF THE DUMP (.gsa) THAT YtfliaomdedfleaaProg.lean LOADS. Nothing in Lean hashes anything: it is a label: what it is worth is what the hold of that sum in a sandbox is worth. -/
noncomputable def Try.pinned : Pinned := { name := "ytfliaomdedfleaa", sum := "19aeb16f3a7b015691a0ffc35318f71ebbfefbf104421a9fb2bc05a333c642e6", checked := Try.checked }
namespace Rows
def none {H : Type} : Left H := { results := [], args := [] }

/-- 'ponderlaw09.TestHolds': WHATEVER THE INPUT: true; the input reads as it did. -/
def testHoldsSpec : ChangeSpec := { name := "testHolds", fn := fun _ => fun
  | [d1, d2, d3] => { results := [.lit (.bool true)], args := [d1, d2, d3] }
  | _ => none }
def testHoldsRow : OpenClaim := { program := "ytfliaomdedfleaa", sum := "19aeb16f3a7b015691a0ffc35318f71ebbfefbf104421a9fb2bc05a333c642e6", func := "ponder/ponderlaw09.TestHolds", spec := "testHolds", apart := false }
def TestHoldsSaid : Prop := testHoldsRow.holds Try.pinned (OpenSpec.ofChange testHoldsSpec)

/-- ITS FALSE NEIGHBOUR: 'it returns false'. Refute it at one input. -/
def testHoldsWrong : ChangeSpec := { name := "testHolds", fn := fun _ => fun
  | [d1, d2, d3] => { results := [.lit (.bool false)], args := [d1, d2, d3] }
  | _ => none }
def TestHoldsWrongFalsely : Prop := testHoldsRow.holds Try.pinned (OpenSpec.ofChange testHoldsWrong)

/-- 'ponderlaw09.TestOrders': WHATEVER THE INPUT: true; the input reads as it did. -/
def testOrdersSpec : ChangeSpec := { name := "testOrders", fn := fun _ => fun
  | [d1, d2, d3] => { results := [.lit (.bool true)], args := [d1, d2, d3] }
  | _ => none }
def testOrdersRow : OpenClaim := { program := "ytfliaomdedfleaa", sum := "19aeb16f3a7b015691a0ffc35318f71ebbfefbf104421a9fb2bc05a333c642e6", func := "ponder/ponderlaw09.TestOrders", spec := "testOrders", apart := false }
def TestOrdersSaid : Prop := testOrdersRow.holds Try.pinned (OpenSpec.ofChange testOrdersSpec)

/-- ITS FALSE NEIGHBOUR: 'it returns false'. Refute it at one input. -/
def testOrdersWrong : ChangeSpec := { name := "testOrders", fn := fun _ => fun
  | [d1, d2, d3] => { results := [.lit (.bool false)], args := [d1, d2, d3] }
  | _ => none }
def TestOrdersWrongFalsely : Prop := testOrdersRow.holds Try.pinned (OpenSpec.ofChange testOrdersWrong)

/-- 'ponderlaw09.TestOnes': WHATEVER THE INPUT: true; the input reads as it did. -/
def testOnesSpec : ChangeSpec := { name := "testOnes", fn := fun _ => fun
  | [d1, d2, d3] => { results := [.lit (.bool true)], args := [d1, d2, d3] }
  | _ => none }
def testOnesRow : OpenClaim := { program := "ytfliaomdedfleaa", sum := "19aeb16f3a7b015691a0ffc35318f71ebbfefbf104421a9fb2bc05a333c642e6", func := "ponder/ponderlaw09.TestOnes", spec := "testOnes", apart := false }
def TestOnesSaid : Prop := testOnesRow.holds Try.pinned (OpenSpec.ofChange testOnesSpec)

/-- ITS FALSE NEIGHBOUR: 'it returns false'. Refute it at one input. -/
def testOnesWrong : ChangeSpec := { name := "testOnes", fn := fun _ => fun
  | [d1, d2, d3] => { results := [.lit (.bool false)], args := [d1, d2, d3] }
  | _ => none }
def TestOnesWrongFalsely : Prop := testOnesRow.holds Try.pinned (OpenSpec.ofChange testOnesWrong)

/-- 'ponderlaw09.TestGets': WHATEVER THE INPUT: true; the input reads as it did. -/
def testGetsSpec : ChangeSpec := { name := "testGets", fn := fun _ => fun
  | [d1, d2] => { results := [.lit (.bool true)], args := [d1, d2] }
  | _ => none }
def testGetsRow : OpenClaim := { program := "ytfliaomdedfleaa", sum := "19aeb16f3a7b015691a0ffc35318f71ebbfefbf104421a9fb2bc05a333c642e6", func := "ponder/ponderlaw09.TestGets", spec := "testGets", apart := false }
def TestGetsSaid : Prop := testGetsRow.holds Try.pinned (OpenSpec.ofChange testGetsSpec)

/-- ITS FALSE NEIGHBOUR: 'it returns false'. Refute it at one input. -/
def testGetsWrong : ChangeSpec := { name := "testGets", fn := fun _ => fun
  | [d1, d2] => { results := [.lit (.bool false)], args := [d1, d2] }
  | _ => none }
def TestGetsWrongFalsely : Prop := testGetsRow.holds Try.pinned (OpenSpec.ofChange testGetsWrong)

/-- 'ponderlaw09.TestStays': WHATEVER THE INPUT: true; the input reads as it did. -/
def testStaysSpec : ChangeSpec := { name := "testStays", fn := fun _ => fun
  | [d1, d2, d3] => { results := [.lit (.bool true)], args := [d1, d2, d3] }
  | _ => none }
def testStaysRow : OpenClaim := { program := "ytfliaomdedfleaa", sum := "19aeb16f3a7b015691a0ffc35318f71ebbfefbf104421a9fb2bc05a333c642e6", func := "ponder/ponderlaw09.TestStays", spec := "testStays", recurses := true, loops := true, apart := false }
def TestStaysSaid : Prop := testStaysRow.holds Try.pinned (OpenSpec.ofChange testStaysSpec)

/-- ITS FALSE NEIGHBOUR: 'it returns false'. Refute it at one input. -/
def testStaysWrong : ChangeSpec := { name := "testStays", fn := fun _ => fun
  | [d1, d2, d3] => { results := [.lit (.bool false)], args := [d1, d2, d3] }
  | _ => none }
def TestStaysWrongFalsely : Prop := testStaysRow.holds Try.pinned (OpenSpec.ofChange testStaysWrong)

/-- 'ponderlaw09.TestSome': WHATEVER THE INPUT: true; the input reads as it did. -/
def testSomeSpec : ChangeSpec := { name := "testSome", fn := fun _ => fun
  | [d1, d2, d3, d4] => { results := [.lit (.bool true)], args := [d1, d2, d3, d4] }
  | _ => none }
def testSomeRow : OpenClaim := { program := "ytfliaomdedfleaa", sum := "19aeb16f3a7b015691a0ffc35318f71ebbfefbf104421a9fb2bc05a333c642e6", func := "ponder/ponderlaw09.TestSome", spec := "testSome", unfollowed := true, recurses := true, loops := true, apart := false }
def TestSomeSaid : Prop := testSomeRow.holds Try.pinned (OpenSpec.ofChange testSomeSpec)

/-- ITS FALSE NEIGHBOUR: 'it returns false'. Refute it at one input. -/
def testSomeWrong : ChangeSpec := { name := "testSome", fn := fun _ => fun
  | [d1, d2, d3, d4] => { results := [.lit (.bool false)], args := [d1, d2, d3, d4] }
  | _ => none }
def TestSomeWrongFalsely : Prop := testSomeRow.holds Try.pinned (OpenSpec.ofChange testSomeWrong)

/- THE SECOND FORM. 'bulk': how many values and letters a reading holds, each counted each time it is reached (what is shared counts as often as it is met; a slice's spare places count too). A statement '..UptoSaid' is the law's where the arguments, and the package variables that the reading takes, are together of bulk at most 1048576: NARROWER than '..Said'. Prove '..Said' where nothing that the law and all that it calls make is longer than what came in: it says more and counts as full. Else prove '..UptoSaid'. A law counts once. -/
mutual
def uptoBulk {H : Type} : DataW H → Nat
  | .lit (.string bytes) => bytes.length + 1
  | .lit _ => 1
  | .nil => 1
  | .ptr d => uptoBulk d + 1
  | .slice elems spare => uptoBulkAll elems + uptoBulkAll spare + 1
  | .agg parts => uptoBulkAll parts + 1
  | .iface _ d => uptoBulk d + 1
  | .map entries => uptoBulkEntries entries + 1
  | .held _ => 1
def uptoBulkAll {H : Type} : List (DataW H) → Nat
  | [] => 0
  | d :: r => uptoBulk d + uptoBulkAll r
def uptoBulkEntries {H : Type} : List (Lit × DataW H) → Nat
  | [] => 0
  | x :: r => uptoBulkEntry x + uptoBulkEntries r
def uptoBulkEntry {H : Type} : Lit × DataW H → Nat
  | (.string bytes, d) => bytes.length + uptoBulk d + 1
  | (_, d) => uptoBulk d + 1
 end
def uptoSmall : (H : Type) → List (DataW H) → Bool := fun _ ds => decide (uptoBulkAll ds ≤ 1048576)
def OpenSpec.upto (s : _root_.Go.ChangeSpec) : _root_.Go.OpenSpec := { _root_.Go.OpenSpec.ofChange s with cond := some uptoSmall }

/-- 'ponderlaw09.TestHolds', WHERE WHAT IT READS IS OF BULK AT MOST 1048576: true; the input reads as it did. -/
def testHoldsUptoRow : OpenClaim := { program := "ytfliaomdedfleaa", sum := "19aeb16f3a7b015691a0ffc35318f71ebbfefbf104421a9fb2bc05a333c642e6", func := "ponder/ponderlaw09.TestHolds", spec := "testHolds", apart := false, narrowed := true }
def TestHoldsUptoSaid : Prop := testHoldsUptoRow.holds Try.pinned (OpenSpec.upto testHoldsSpec)

/-- 'ponderlaw09.TestOrders', WHERE WHAT IT READS IS OF BULK AT MOST 1048576: true; the input reads as it did. -/
def testOrdersUptoRow : OpenClaim := { program := "ytfliaomdedfleaa", sum := "19aeb16f3a7b015691a0ffc35318f71ebbfefbf104421a9fb2bc05a333c642e6", func := "ponder/ponderlaw09.TestOrders", spec := "testOrders", apart := false, narrowed := true }
def TestOrdersUptoSaid : Prop := testOrdersUptoRow.holds Try.pinned (OpenSpec.upto testOrdersSpec)

/-- 'ponderlaw09.TestOnes', WHERE WHAT IT READS IS OF BULK AT MOST 1048576: true; the input reads as it did. -/
def testOnesUptoRow : OpenClaim := { program := "ytfliaomdedfleaa", sum := "19aeb16f3a7b015691a0ffc35318f71ebbfefbf104421a9fb2bc05a333c642e6", func := "ponder/ponderlaw09.TestOnes", spec := "testOnes", apart := false, narrowed := true }
def TestOnesUptoSaid : Prop := testOnesUptoRow.holds Try.pinned (OpenSpec.upto testOnesSpec)

/-- 'ponderlaw09.TestGets', WHERE WHAT IT READS IS OF BULK AT MOST 1048576: true; the input reads as it did. -/
def testGetsUptoRow : OpenClaim := { program := "ytfliaomdedfleaa", sum := "19aeb16f3a7b015691a0ffc35318f71ebbfefbf104421a9fb2bc05a333c642e6", func := "ponder/ponderlaw09.TestGets", spec := "testGets", apart := false, narrowed := true }
def TestGetsUptoSaid : Prop := testGetsUptoRow.holds Try.pinned (OpenSpec.upto testGetsSpec)

/-- 'ponderlaw09.TestStays', WHERE WHAT IT READS IS OF BULK AT MOST 1048576: true; the input reads as it did. -/
def testStaysUptoRow : OpenClaim := { program := "ytfliaomdedfleaa", sum := "19aeb16f3a7b015691a0ffc35318f71ebbfefbf104421a9fb2bc05a333c642e6", func := "ponder/ponderlaw09.TestStays", spec := "testStays", recurses := true, loops := true, apart := false, narrowed := true }
def TestStaysUptoSaid : Prop := testStaysUptoRow.holds Try.pinned (OpenSpec.upto testStaysSpec)

/-- 'ponderlaw09.TestSome', WHERE WHAT IT READS IS OF BULK AT MOST 1048576: true; the input reads as it did. -/
def testSomeUptoRow : OpenClaim := { program := "ytfliaomdedfleaa", sum := "19aeb16f3a7b015691a0ffc35318f71ebbfefbf104421a9fb2bc05a333c642e6", func := "ponder/ponderlaw09.TestSome", spec := "testSome", unfollowed := true, recurses := true, loops := true, apart := false, narrowed := true }
def TestSomeUptoSaid : Prop := testSomeUptoRow.holds Try.pinned (OpenSpec.upto testSomeSpec)

end Rows
end Go.Proofs.Ytfliaomdedfleaa
