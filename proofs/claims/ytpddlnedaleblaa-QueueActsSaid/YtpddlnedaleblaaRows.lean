/-
  No cell of these rows narrows 'for every input' (looked for: loops, veiled, ifaces, maps, wideKeys, modest, calm, conditions, laid).
  DERIVED. THE GIVEN ROWS OF THIS SEAT. 17 by the template 'for every input the law returns true; each argument reads behind the call as it read before'; 0 by the template 'total and deterministic' (their statements: YtpddlnedaleblaaTotals.lean).
  GIVEN WITH THE SEED: the statements are not yours to turn. If you find one false, say at which input.
  Laid BY PROGRAM, IN A SANDBOX (cutbox-rows.mjs): the forced cells as the released guide's own fill.sh prints them over the translation 5b06a87b39d230a6… (all of the seat's roots in one cut). By AI agents, Wed Nov 11 2026. No macro, syntax, notation, axiom, sorry.
-/
import Derived.Test.YtpddlnedaleblaaChecked
import GoSem.Claim
import GoSem.ClaimJoined
import GoSem.ClaimMapViews
import Derived.JoinedTies
import Derived.KernelRfl
namespace Go.Proofs.Ytpddlnedaleblaa
/- THE CELL 'sum', in the pinned program and in every row, IS THE sha256 OF THE DUMP (.gsa) THAT YtpddlnedaleblaaProg.lean LOADS. Nothing in Lean hashes anything: it is a label: what it is worth is what the hold of that sum in a sandbox is worth. -/
noncomputable def Try.pinned : Pinned := { name := "ytpddlnedaleblaa", sum := "5b06a87b39d230a6d3cdad17cf5103c688a632b6c8cd2eca2ada242631b55d0d", checked := Try.checked }
namespace Rows
def none {H : Type} : Left H := { results := [], args := [] }

/-- 'allotmentlaw08.CellFirst': WHATEVER THE INPUT: true; the input reads as it did. -/
def cellFirstSpec : ChangeSpec := { name := "cellFirst", fn := fun _ => fun
  | [d1, d2, d3] => { results := [.lit (.bool true)], args := [d1, d2, d3] }
  | _ => none }
def cellFirstRow : OpenClaim := { program := "ytpddlnedaleblaa", sum := "5b06a87b39d230a6d3cdad17cf5103c688a632b6c8cd2eca2ada242631b55d0d", func := "allotment/allotmentlaw08.CellFirst", spec := "cellFirst", apart := false }
def CellFirstSaid : Prop := cellFirstRow.holds Try.pinned (OpenSpec.ofChange cellFirstSpec)

/-- ITS FALSE NEIGHBOUR: 'it returns false'. Refute it at one input. -/
def cellFirstWrong : ChangeSpec := { name := "cellFirst", fn := fun _ => fun
  | [d1, d2, d3] => { results := [.lit (.bool false)], args := [d1, d2, d3] }
  | _ => none }
def CellFirstWrongFalsely : Prop := cellFirstRow.holds Try.pinned (OpenSpec.ofChange cellFirstWrong)

/-- 'allotmentlaw08.CellStack': WHATEVER THE INPUT: true; the input reads as it did. -/
def cellStackSpec : ChangeSpec := { name := "cellStack", fn := fun _ => fun
  | [d1, d2] => { results := [.lit (.bool true)], args := [d1, d2] }
  | _ => none }
def cellStackRow : OpenClaim := { program := "ytpddlnedaleblaa", sum := "5b06a87b39d230a6d3cdad17cf5103c688a632b6c8cd2eca2ada242631b55d0d", func := "allotment/allotmentlaw08.CellStack", spec := "cellStack", apart := false }
def CellStackSaid : Prop := cellStackRow.holds Try.pinned (OpenSpec.ofChange cellStackSpec)

/-- ITS FALSE NEIGHBOUR: 'it returns false'. Refute it at one input. -/
def cellStackWrong : ChangeSpec := { name := "cellStack", fn := fun _ => fun
  | [d1, d2] => { results := [.lit (.bool false)], args := [d1, d2] }
  | _ => none }
def CellStackWrongFalsely : Prop := cellStackRow.holds Try.pinned (OpenSpec.ofChange cellStackWrong)

/-- 'allotmentlaw08.CellActs': WHATEVER THE INPUT: true; the input reads as it did. -/
def cellActsSpec : ChangeSpec := { name := "cellActs", fn := fun _ => fun
  | [d] => { results := [.lit (.bool true)], args := [d] }
  | _ => none }
def cellActsRow : OpenClaim := { program := "ytpddlnedaleblaa", sum := "5b06a87b39d230a6d3cdad17cf5103c688a632b6c8cd2eca2ada242631b55d0d", func := "allotment/allotmentlaw08.CellActs", spec := "cellActs", apart := false }
def CellActsSaid : Prop := cellActsRow.holds Try.pinned (OpenSpec.ofChange cellActsSpec)

/-- ITS FALSE NEIGHBOUR: 'it returns false'. Refute it at one input. -/
def cellActsWrong : ChangeSpec := { name := "cellActs", fn := fun _ => fun
  | [d] => { results := [.lit (.bool false)], args := [d] }
  | _ => none }
def CellActsWrongFalsely : Prop := cellActsRow.holds Try.pinned (OpenSpec.ofChange cellActsWrong)

/-- 'allotmentlaw08.CellTags': WHATEVER THE INPUT: true; the input reads as it did. -/
def cellTagsSpec : ChangeSpec := { name := "cellTags", fn := fun _ => fun
  | [d] => { results := [.lit (.bool true)], args := [d] }
  | _ => none }
def cellTagsRow : OpenClaim := { program := "ytpddlnedaleblaa", sum := "5b06a87b39d230a6d3cdad17cf5103c688a632b6c8cd2eca2ada242631b55d0d", func := "allotment/allotmentlaw08.CellTags", spec := "cellTags", apart := false }
def CellTagsSaid : Prop := cellTagsRow.holds Try.pinned (OpenSpec.ofChange cellTagsSpec)

/-- ITS FALSE NEIGHBOUR: 'it returns false'. Refute it at one input. -/
def cellTagsWrong : ChangeSpec := { name := "cellTags", fn := fun _ => fun
  | [d] => { results := [.lit (.bool false)], args := [d] }
  | _ => none }
def CellTagsWrongFalsely : Prop := cellTagsRow.holds Try.pinned (OpenSpec.ofChange cellTagsWrong)

/-- 'allotmentlaw08.CellSwaps': WHATEVER THE INPUT: true; the input reads as it did. -/
def cellSwapsSpec : ChangeSpec := { name := "cellSwaps", fn := fun _ => fun
  | [d] => { results := [.lit (.bool true)], args := [d] }
  | _ => none }
def cellSwapsRow : OpenClaim := { program := "ytpddlnedaleblaa", sum := "5b06a87b39d230a6d3cdad17cf5103c688a632b6c8cd2eca2ada242631b55d0d", func := "allotment/allotmentlaw08.CellSwaps", spec := "cellSwaps", apart := false }
def CellSwapsSaid : Prop := cellSwapsRow.holds Try.pinned (OpenSpec.ofChange cellSwapsSpec)

/-- ITS FALSE NEIGHBOUR: 'it returns false'. Refute it at one input. -/
def cellSwapsWrong : ChangeSpec := { name := "cellSwaps", fn := fun _ => fun
  | [d] => { results := [.lit (.bool false)], args := [d] }
  | _ => none }
def CellSwapsWrongFalsely : Prop := cellSwapsRow.holds Try.pinned (OpenSpec.ofChange cellSwapsWrong)

/-- 'allotmentlaw11.QueueLast': WHATEVER THE INPUT: true; the input reads as it did. -/
def queueLastSpec : ChangeSpec := { name := "queueLast", fn := fun _ => fun
  | [d1, d2] => { results := [.lit (.bool true)], args := [d1, d2] }
  | _ => none }
def queueLastRow : OpenClaim := { program := "ytpddlnedaleblaa", sum := "5b06a87b39d230a6d3cdad17cf5103c688a632b6c8cd2eca2ada242631b55d0d", func := "allotment/allotmentlaw11.QueueLast", spec := "queueLast", unfollowed := true, recurses := true, apart := false }
def QueueLastSaid : Prop := queueLastRow.holds Try.pinned (OpenSpec.ofChange queueLastSpec)

/-- ITS FALSE NEIGHBOUR: 'it returns false'. Refute it at one input. -/
def queueLastWrong : ChangeSpec := { name := "queueLast", fn := fun _ => fun
  | [d1, d2] => { results := [.lit (.bool false)], args := [d1, d2] }
  | _ => none }
def QueueLastWrongFalsely : Prop := queueLastRow.holds Try.pinned (OpenSpec.ofChange queueLastWrong)

/-- 'allotmentlaw11.QueueRows': WHATEVER THE INPUT: true; the input reads as it did. -/
def queueRowsSpec : ChangeSpec := { name := "queueRows", fn := fun _ => fun
  | [d1, d2] => { results := [.lit (.bool true)], args := [d1, d2] }
  | _ => none }
def queueRowsRow : OpenClaim := { program := "ytpddlnedaleblaa", sum := "5b06a87b39d230a6d3cdad17cf5103c688a632b6c8cd2eca2ada242631b55d0d", func := "allotment/allotmentlaw11.QueueRows", spec := "queueRows", unfollowed := true, recurses := true, apart := false }
def QueueRowsSaid : Prop := queueRowsRow.holds Try.pinned (OpenSpec.ofChange queueRowsSpec)

/-- ITS FALSE NEIGHBOUR: 'it returns false'. Refute it at one input. -/
def queueRowsWrong : ChangeSpec := { name := "queueRows", fn := fun _ => fun
  | [d1, d2] => { results := [.lit (.bool false)], args := [d1, d2] }
  | _ => none }
def QueueRowsWrongFalsely : Prop := queueRowsRow.holds Try.pinned (OpenSpec.ofChange queueRowsWrong)

/-- 'allotmentlaw13.StackOnce': WHATEVER THE INPUT: true; the input reads as it did. -/
def stackOnceSpec : ChangeSpec := { name := "stackOnce", fn := fun _ => fun
  | [d1, d2, d3] => { results := [.lit (.bool true)], args := [d1, d2, d3] }
  | _ => none }
def stackOnceRow : OpenClaim := { program := "ytpddlnedaleblaa", sum := "5b06a87b39d230a6d3cdad17cf5103c688a632b6c8cd2eca2ada242631b55d0d", func := "allotment/allotmentlaw13.StackOnce", spec := "stackOnce", apart := false }
def StackOnceSaid : Prop := stackOnceRow.holds Try.pinned (OpenSpec.ofChange stackOnceSpec)

/-- ITS FALSE NEIGHBOUR: 'it returns false'. Refute it at one input. -/
def stackOnceWrong : ChangeSpec := { name := "stackOnce", fn := fun _ => fun
  | [d1, d2, d3] => { results := [.lit (.bool false)], args := [d1, d2, d3] }
  | _ => none }
def StackOnceWrongFalsely : Prop := stackOnceRow.holds Try.pinned (OpenSpec.ofChange stackOnceWrong)

/-- 'allotmentlaw13.StackLast': WHATEVER THE INPUT: true; the input reads as it did. -/
def stackLastSpec : ChangeSpec := { name := "stackLast", fn := fun _ => fun
  | [d] => { results := [.lit (.bool true)], args := [d] }
  | _ => none }
def stackLastRow : OpenClaim := { program := "ytpddlnedaleblaa", sum := "5b06a87b39d230a6d3cdad17cf5103c688a632b6c8cd2eca2ada242631b55d0d", func := "allotment/allotmentlaw13.StackLast", spec := "stackLast", apart := false }
def StackLastSaid : Prop := stackLastRow.holds Try.pinned (OpenSpec.ofChange stackLastSpec)

/-- ITS FALSE NEIGHBOUR: 'it returns false'. Refute it at one input. -/
def stackLastWrong : ChangeSpec := { name := "stackLast", fn := fun _ => fun
  | [d] => { results := [.lit (.bool false)], args := [d] }
  | _ => none }
def StackLastWrongFalsely : Prop := stackLastRow.holds Try.pinned (OpenSpec.ofChange stackLastWrong)

/-- 'allotmentlaw13.StackLate': WHATEVER THE INPUT: true; the input reads as it did. -/
def stackLateSpec : ChangeSpec := { name := "stackLate", fn := fun _ => fun
  | [d1, d2] => { results := [.lit (.bool true)], args := [d1, d2] }
  | _ => none }
def stackLateRow : OpenClaim := { program := "ytpddlnedaleblaa", sum := "5b06a87b39d230a6d3cdad17cf5103c688a632b6c8cd2eca2ada242631b55d0d", func := "allotment/allotmentlaw13.StackLate", spec := "stackLate", apart := false }
def StackLateSaid : Prop := stackLateRow.holds Try.pinned (OpenSpec.ofChange stackLateSpec)

/-- ITS FALSE NEIGHBOUR: 'it returns false'. Refute it at one input. -/
def stackLateWrong : ChangeSpec := { name := "stackLate", fn := fun _ => fun
  | [d1, d2] => { results := [.lit (.bool false)], args := [d1, d2] }
  | _ => none }
def StackLateWrongFalsely : Prop := stackLateRow.holds Try.pinned (OpenSpec.ofChange stackLateWrong)

/-- 'allotmentlaw13.StackMoves': WHATEVER THE INPUT: true; the input reads as it did. -/
def stackMovesSpec : ChangeSpec := { name := "stackMoves", fn := fun _ => fun
  | [d] => { results := [.lit (.bool true)], args := [d] }
  | _ => none }
def stackMovesRow : OpenClaim := { program := "ytpddlnedaleblaa", sum := "5b06a87b39d230a6d3cdad17cf5103c688a632b6c8cd2eca2ada242631b55d0d", func := "allotment/allotmentlaw13.StackMoves", spec := "stackMoves", apart := false }
def StackMovesSaid : Prop := stackMovesRow.holds Try.pinned (OpenSpec.ofChange stackMovesSpec)

/-- ITS FALSE NEIGHBOUR: 'it returns false'. Refute it at one input. -/
def stackMovesWrong : ChangeSpec := { name := "stackMoves", fn := fun _ => fun
  | [d] => { results := [.lit (.bool false)], args := [d] }
  | _ => none }
def StackMovesWrongFalsely : Prop := stackMovesRow.holds Try.pinned (OpenSpec.ofChange stackMovesWrong)

/-- 'allotmentlaw13.StackSteps': WHATEVER THE INPUT: true; the input reads as it did. -/
def stackStepsSpec : ChangeSpec := { name := "stackSteps", fn := fun _ => fun
  | [d] => { results := [.lit (.bool true)], args := [d] }
  | _ => none }
def stackStepsRow : OpenClaim := { program := "ytpddlnedaleblaa", sum := "5b06a87b39d230a6d3cdad17cf5103c688a632b6c8cd2eca2ada242631b55d0d", func := "allotment/allotmentlaw13.StackSteps", spec := "stackSteps", apart := false }
def StackStepsSaid : Prop := stackStepsRow.holds Try.pinned (OpenSpec.ofChange stackStepsSpec)

/-- ITS FALSE NEIGHBOUR: 'it returns false'. Refute it at one input. -/
def stackStepsWrong : ChangeSpec := { name := "stackSteps", fn := fun _ => fun
  | [d] => { results := [.lit (.bool false)], args := [d] }
  | _ => none }
def StackStepsWrongFalsely : Prop := stackStepsRow.holds Try.pinned (OpenSpec.ofChange stackStepsWrong)

/-- 'allotmentlaw13.StackTwice': WHATEVER THE INPUT: true; the input reads as it did. -/
def stackTwiceSpec : ChangeSpec := { name := "stackTwice", fn := fun _ => fun
  | [d] => { results := [.lit (.bool true)], args := [d] }
  | _ => none }
def stackTwiceRow : OpenClaim := { program := "ytpddlnedaleblaa", sum := "5b06a87b39d230a6d3cdad17cf5103c688a632b6c8cd2eca2ada242631b55d0d", func := "allotment/allotmentlaw13.StackTwice", spec := "stackTwice", apart := false }
def StackTwiceSaid : Prop := stackTwiceRow.holds Try.pinned (OpenSpec.ofChange stackTwiceSpec)

/-- ITS FALSE NEIGHBOUR: 'it returns false'. Refute it at one input. -/
def stackTwiceWrong : ChangeSpec := { name := "stackTwice", fn := fun _ => fun
  | [d] => { results := [.lit (.bool false)], args := [d] }
  | _ => none }
def StackTwiceWrongFalsely : Prop := stackTwiceRow.holds Try.pinned (OpenSpec.ofChange stackTwiceWrong)

/-- 'allotmentlaw11.QueueOwn': WHATEVER THE INPUT: true; the input reads as it did. -/
def queueOwnSpec : ChangeSpec := { name := "queueOwn", fn := fun _ => fun
  | [d] => { results := [.lit (.bool true)], args := [d] }
  | _ => none }
def queueOwnRow : OpenClaim := { program := "ytpddlnedaleblaa", sum := "5b06a87b39d230a6d3cdad17cf5103c688a632b6c8cd2eca2ada242631b55d0d", func := "allotment/allotmentlaw11.QueueOwn", spec := "queueOwn", unfollowed := true, recurses := true, apart := false }
def QueueOwnSaid : Prop := queueOwnRow.holds Try.pinned (OpenSpec.ofChange queueOwnSpec)

/-- ITS FALSE NEIGHBOUR: 'it returns false'. Refute it at one input. -/
def queueOwnWrong : ChangeSpec := { name := "queueOwn", fn := fun _ => fun
  | [d] => { results := [.lit (.bool false)], args := [d] }
  | _ => none }
def QueueOwnWrongFalsely : Prop := queueOwnRow.holds Try.pinned (OpenSpec.ofChange queueOwnWrong)

/-- 'allotmentlaw11.QueueActs': WHATEVER THE INPUT: true; the input reads as it did. -/
def queueActsSpec : ChangeSpec := { name := "queueActs", fn := fun _ => fun
  | [d1, d2] => { results := [.lit (.bool true)], args := [d1, d2] }
  | _ => none }
def queueActsRow : OpenClaim := { program := "ytpddlnedaleblaa", sum := "5b06a87b39d230a6d3cdad17cf5103c688a632b6c8cd2eca2ada242631b55d0d", func := "allotment/allotmentlaw11.QueueActs", spec := "queueActs", unfollowed := true, recurses := true, apart := false }
def QueueActsSaid : Prop := queueActsRow.holds Try.pinned (OpenSpec.ofChange queueActsSpec)

/-- ITS FALSE NEIGHBOUR: 'it returns false'. Refute it at one input. -/
def queueActsWrong : ChangeSpec := { name := "queueActs", fn := fun _ => fun
  | [d1, d2] => { results := [.lit (.bool false)], args := [d1, d2] }
  | _ => none }
def QueueActsWrongFalsely : Prop := queueActsRow.holds Try.pinned (OpenSpec.ofChange queueActsWrong)

/-- 'allotmentlaw11.QueueOnce': WHATEVER THE INPUT: true; the input reads as it did. -/
def queueOnceSpec : ChangeSpec := { name := "queueOnce", fn := fun _ => fun
  | [d1, d2] => { results := [.lit (.bool true)], args := [d1, d2] }
  | _ => none }
def queueOnceRow : OpenClaim := { program := "ytpddlnedaleblaa", sum := "5b06a87b39d230a6d3cdad17cf5103c688a632b6c8cd2eca2ada242631b55d0d", func := "allotment/allotmentlaw11.QueueOnce", spec := "queueOnce", unfollowed := true, recurses := true, apart := false }
def QueueOnceSaid : Prop := queueOnceRow.holds Try.pinned (OpenSpec.ofChange queueOnceSpec)

/-- ITS FALSE NEIGHBOUR: 'it returns false'. Refute it at one input. -/
def queueOnceWrong : ChangeSpec := { name := "queueOnce", fn := fun _ => fun
  | [d1, d2] => { results := [.lit (.bool false)], args := [d1, d2] }
  | _ => none }
def QueueOnceWrongFalsely : Prop := queueOnceRow.holds Try.pinned (OpenSpec.ofChange queueOnceWrong)

/-- 'allotmentlaw11.QueueEmpties': WHATEVER THE INPUT: true; the input reads as it did. -/
def queueEmptiesSpec : ChangeSpec := { name := "queueEmpties", fn := fun _ => fun
  | [d] => { results := [.lit (.bool true)], args := [d] }
  | _ => none }
def queueEmptiesRow : OpenClaim := { program := "ytpddlnedaleblaa", sum := "5b06a87b39d230a6d3cdad17cf5103c688a632b6c8cd2eca2ada242631b55d0d", func := "allotment/allotmentlaw11.QueueEmpties", spec := "queueEmpties", unfollowed := true, recurses := true, apart := false }
def QueueEmptiesSaid : Prop := queueEmptiesRow.holds Try.pinned (OpenSpec.ofChange queueEmptiesSpec)

/-- ITS FALSE NEIGHBOUR: 'it returns false'. Refute it at one input. -/
def queueEmptiesWrong : ChangeSpec := { name := "queueEmpties", fn := fun _ => fun
  | [d] => { results := [.lit (.bool false)], args := [d] }
  | _ => none }
def QueueEmptiesWrongFalsely : Prop := queueEmptiesRow.holds Try.pinned (OpenSpec.ofChange queueEmptiesWrong)

/- THE SECOND FORM. 'bulk': how many values and letters a reading holds, each counted each time it is reached (what is shared counts as often as it is met; a slice's spare places count too). A statement '..UptoSaid' is the law's where the arguments, and the package variables that the reading takes, are together of bulk at most 1048576: NARROWER than '..Said'. Prove '..Said' where nothing that the law and all that it calls make is longer than what came in: it says more and counts as full. Else prove '..UptoSaid'. A law counts once. -/
mutual
def uptoBulk {H : Type} : DataW H → Nat
  | .lit (.string bytes) => bytes.length + 1
  | .lit _ => 1
  | .nil => 1
  | .ptr d => uptoBulk d + 1
  | .slice elems spare => uptoBulkAll elems + uptoBulkAll spare + 1
  | .agg parts => uptoBulkAll parts + 1
  | .iface _ d => uptoBulk d + 1
  | .map entries => uptoBulkEntries entries + 1
  | .held _ => 1
def uptoBulkAll {H : Type} : List (DataW H) → Nat
  | [] => 0
  | d :: r => uptoBulk d + uptoBulkAll r
def uptoBulkEntries {H : Type} : List (Lit × DataW H) → Nat
  | [] => 0
  | x :: r => uptoBulkEntry x + uptoBulkEntries r
def uptoBulkEntry {H : Type} : Lit × DataW H → Nat
  | (.string bytes, d) => bytes.length + uptoBulk d + 1
  | (_, d) => uptoBulk d + 1
 end
def uptoSmall : (H : Type) → List (DataW H) → Bool := fun _ ds => decide (uptoBulkAll ds ≤ 1048576)
def OpenSpec.upto (s : _root_.Go.ChangeSpec) : _root_.Go.OpenSpec := { _root_.Go.OpenSpec.ofChange s with cond := some uptoSmall }

/-- 'allotmentlaw08.CellFirst', WHERE WHAT IT READS IS OF BULK AT MOST 1048576: true; the input reads as it did. -/
def cellFirstUptoRow : OpenClaim := { program := "ytpddlnedaleblaa", sum := "5b06a87b39d230a6d3cdad17cf5103c688a632b6c8cd2eca2ada242631b55d0d", func := "allotment/allotmentlaw08.CellFirst", spec := "cellFirst", apart := false, narrowed := true }
def CellFirstUptoSaid : Prop := cellFirstUptoRow.holds Try.pinned (OpenSpec.upto cellFirstSpec)

/-- 'allotmentlaw08.CellStack', WHERE WHAT IT READS IS OF BULK AT MOST 1048576: true; the input reads as it did. -/
def cellStackUptoRow : OpenClaim := { program := "ytpddlnedaleblaa", sum := "5b06a87b39d230a6d3cdad17cf5103c688a632b6c8cd2eca2ada242631b55d0d", func := "allotment/allotmentlaw08.CellStack", spec := "cellStack", apart := false, narrowed := true }
def CellStackUptoSaid : Prop := cellStackUptoRow.holds Try.pinned (OpenSpec.upto cellStackSpec)

/-- 'allotmentlaw08.CellActs', WHERE WHAT IT READS IS OF BULK AT MOST 1048576: true; the input reads as it did. -/
def cellActsUptoRow : OpenClaim := { program := "ytpddlnedaleblaa", sum := "5b06a87b39d230a6d3cdad17cf5103c688a632b6c8cd2eca2ada242631b55d0d", func := "allotment/allotmentlaw08.CellActs", spec := "cellActs", apart := false, narrowed := true }
def CellActsUptoSaid : Prop := cellActsUptoRow.holds Try.pinned (OpenSpec.upto cellActsSpec)

/-- 'allotmentlaw08.CellTags', WHERE WHAT IT READS IS OF BULK AT MOST 1048576: true; the input reads as it did. -/
def cellTagsUptoRow : OpenClaim := { program := "ytpddlnedaleblaa", sum := "5b06a87b39d230a6d3cdad17cf5103c688a632b6c8cd2eca2ada242631b55d0d", func := "allotment/allotmentlaw08.CellTags", spec := "cellTags", apart := false, narrowed := true }
def CellTagsUptoSaid : Prop := cellTagsUptoRow.holds Try.pinned (OpenSpec.upto cellTagsSpec)

/-- 'allotmentlaw08.CellSwaps', WHERE WHAT IT READS IS OF BULK AT MOST 1048576: true; the input reads as it did. -/
def cellSwapsUptoRow : OpenClaim := { program := "ytpddlnedaleblaa", sum := "5b06a87b39d230a6d3cdad17cf5103c688a632b6c8cd2eca2ada242631b55d0d", func := "allotment/allotmentlaw08.CellSwaps", spec := "cellSwaps", apart := false, narrowed := true }
def CellSwapsUptoSaid : Prop := cellSwapsUptoRow.holds Try.pinned (OpenSpec.upto cellSwapsSpec)

/-- 'allotmentlaw11.QueueLast', WHERE WHAT IT READS IS OF BULK AT MOST 1048576: true; the input reads as it did. -/
def queueLastUptoRow : OpenClaim := { program := "ytpddlnedaleblaa", sum := "5b06a87b39d230a6d3cdad17cf5103c688a632b6c8cd2eca2ada242631b55d0d", func := "allotment/allotmentlaw11.QueueLast", spec := "queueLast", unfollowed := true, recurses := true, apart := false, narrowed := true }
def QueueLastUptoSaid : Prop := queueLastUptoRow.holds Try.pinned (OpenSpec.upto queueLastSpec)

/-- 'allotmentlaw11.QueueRows', WHERE WHAT IT READS IS OF BULK AT MOST 1048576: true; the input reads as it did. -/
def queueRowsUptoRow : OpenClaim := { program := "ytpddlnedaleblaa", sum := "5b06a87b39d230a6d3cdad17cf5103c688a632b6c8cd2eca2ada242631b55d0d", func := "allotment/allotmentlaw11.QueueRows", spec := "queueRows", unfollowed := true, recurses := true, apart := false, narrowed := true }
def QueueRowsUptoSaid : Prop := queueRowsUptoRow.holds Try.pinned (OpenSpec.upto queueRowsSpec)

/-- 'allotmentlaw13.StackOnce', WHERE WHAT IT READS IS OF BULK AT MOST 1048576: true; the input reads as it did. -/
def stackOnceUptoRow : OpenClaim := { program := "ytpddlnedaleblaa", sum := "5b06a87b39d230a6d3cdad17cf5103c688a632b6c8cd2eca2ada242631b55d0d", func := "allotment/allotmentlaw13.StackOnce", spec := "stackOnce", apart := false, narrowed := true }
def StackOnceUptoSaid : Prop := stackOnceUptoRow.holds Try.pinned (OpenSpec.upto stackOnceSpec)

/-- 'allotmentlaw13.StackLast', WHERE WHAT IT READS IS OF BULK AT MOST 1048576: true; the input reads as it did. -/
def stackLastUptoRow : OpenClaim := { program := "ytpddlnedaleblaa", sum := "5b06a87b39d230a6d3cdad17cf5103c688a632b6c8cd2eca2ada242631b55d0d", func := "allotment/allotmentlaw13.StackLast", spec := "stackLast", apart := false, narrowed := true }
def StackLastUptoSaid : Prop := stackLastUptoRow.holds Try.pinned (OpenSpec.upto stackLastSpec)

/-- 'allotmentlaw13.StackLate', WHERE WHAT IT READS IS OF BULK AT MOST 1048576: true; the input reads as it did. -/
def stackLateUptoRow : OpenClaim := { program := "ytpddlnedaleblaa", sum := "5b06a87b39d230a6d3cdad17cf5103c688a632b6c8cd2eca2ada242631b55d0d", func := "allotment/allotmentlaw13.StackLate", spec := "stackLate", apart := false, narrowed := true }
def StackLateUptoSaid : Prop := stackLateUptoRow.holds Try.pinned (OpenSpec.upto stackLateSpec)

/-- 'allotmentlaw13.StackMoves', WHERE WHAT IT READS IS OF BULK AT MOST 1048576: true; the input reads as it did. -/
def stackMovesUptoRow : OpenClaim := { program := "ytpddlnedaleblaa", sum := "5b06a87b39d230a6d3cdad17cf5103c688a632b6c8cd2eca2ada242631b55d0d", func := "allotment/allotmentlaw13.StackMoves", spec := "stackMoves", apart := false, narrowed := true }
def StackMovesUptoSaid : Prop := stackMovesUptoRow.holds Try.pinned (OpenSpec.upto stackMovesSpec)

/-- 'allotmentlaw13.StackSteps', WHERE WHAT IT READS IS OF BULK AT MOST 1048576: true; the input reads as it did. -/
def stackStepsUptoRow : OpenClaim := { program := "ytpddlnedaleblaa", sum := "5b06a87b39d230a6d3cdad17cf5103c688a632b6c8cd2eca2ada242631b55d0d", func := "allotment/allotmentlaw13.StackSteps", spec := "stackSteps", apart := false, narrowed := true }
def StackStepsUptoSaid : Prop := stackStepsUptoRow.holds Try.pinned (OpenSpec.upto stackStepsSpec)

/-- 'allotmentlaw13.StackTwice', WHERE WHAT IT READS IS OF BULK AT MOST 1048576: true; the input reads as it did. -/
def stackTwiceUptoRow : OpenClaim := { program := "ytpddlnedaleblaa", sum := "5b06a87b39d230a6d3cdad17cf5103c688a632b6c8cd2eca2ada242631b55d0d", func := "allotment/allotmentlaw13.StackTwice", spec := "stackTwice", apart := false, narrowed := true }
def StackTwiceUptoSaid : Prop := stackTwiceUptoRow.holds Try.pinned (OpenSpec.upto stackTwiceSpec)

/-- 'allotmentlaw11.QueueOwn', WHERE WHAT IT READS IS OF BULK AT MOST 1048576: true; the input reads as it did. -/
def queueOwnUptoRow : OpenClaim := { program := "ytpddlnedaleblaa", sum := "5b06a87b39d230a6d3cdad17cf5103c688a632b6c8cd2eca2ada242631b55d0d", func := "allotment/allotmentlaw11.QueueOwn", spec := "queueOwn", unfollowed := true, recurses := true, apart := false, narrowed := true }
def QueueOwnUptoSaid : Prop := queueOwnUptoRow.holds Try.pinned (OpenSpec.upto queueOwnSpec)

/-- 'allotmentlaw11.QueueActs', WHERE WHAT IT READS IS OF BULK AT MOST 1048576: true; the input reads as it did. -/
def queueActsUptoRow : OpenClaim := { program := "ytpddlnedaleblaa", sum := "5b06a87b39d230a6d3cdad17cf5103c688a632b6c8cd2eca2ada242631b55d0d", func := "allotment/allotmentlaw11.QueueActs", spec := "queueActs", unfollowed := true, recurses := true, apart := false, narrowed := true }
def QueueActsUptoSaid : Prop := queueActsUptoRow.holds Try.pinned (OpenSpec.upto queueActsSpec)

/-- 'allotmentlaw11.QueueOnce', WHERE WHAT IT READS IS OF BULK AT MOST 1048576: true; the input reads as it did. -/
def queueOnceUptoRow : OpenClaim := { program := "ytpddlnedaleblaa", sum := "5b06a87b39d230a6d3cdad17cf5103c688a632b6c8cd2eca2ada242631b55d0d", func := "allotment/allotmentlaw11.QueueOnce", spec := "queueOnce", unfollowed := true, recurses := true, apart := false, narrowed := true }
def QueueOnceUptoSaid : Prop := queueOnceUptoRow.holds Try.pinned (OpenSpec.upto queueOnceSpec)

/-- 'allotmentlaw11.QueueEmpties', WHERE WHAT IT READS IS OF BULK AT MOST 1048576: true; the input reads as it did. -/
def queueEmptiesUptoRow : OpenClaim := { program := "ytpddlnedaleblaa", sum := "5b06a87b39d230a6d3cdad17cf5103c688a632b6c8cd2eca2ada242631b55d0d", func := "allotment/allotmentlaw11.QueueEmpties", spec := "queueEmpties", unfollowed := true, recurses := true, apart := false, narrowed := true }
def QueueEmptiesUptoSaid : Prop := queueEmptiesUptoRow.holds Try.pinned (OpenSpec.upto queueEmptiesSpec)

end Rows
end Go.Proofs.Ytpddlnedaleblaa
