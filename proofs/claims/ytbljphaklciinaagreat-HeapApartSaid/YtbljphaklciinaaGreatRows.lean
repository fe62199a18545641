/-
  No cell of these rows narrows 'for every input' (looked for: loops, veiled, ifaces, maps, wideKeys, modest, calm, conditions, laid).
  DERIVED. THE GIVEN ROWS OF THIS SEAT. 5 by the template 'for every input the law returns true; each argument reads behind the call as it read before'; 0 by the template 'total and deterministic' (their statements: YtbljphaklciinaaGreatTotals.lean).
  GIVEN WITH THE SEED: the statements are not yours to turn. If you find one false, say at which input.
  Laid BY PROGRAM, IN A SANDBOX (cutbox-rows.mjs): the forced cells as the released guide's own fill.sh prints them over the translation 3e86e2c3bac62acc… (all of the seat's roots in one cut). By AI agents, Wed Nov 11 2026. No macro, syntax, notation, axiom, sorry.
-/
import Derived.Test.YtbljphaklciinaaGreatChecked
import GoSem.Claim
import GoSem.ClaimJoined
import GoSem.ClaimMapViews
import Derived.JoinedTies
import Derived.KernelRfl
namespace Go.Proofs.YtbljphaklciinaaGreat
/- THE CELL 'sum', in the pinned program and in every row, IS THE sha256 OF THE DUMP (.gsa) THAT YtbljphaklciinaaGreatProg.lean LOADS. Nothing in Lean hashes anything: it is a label: what it is worth is what the hold of that sum in a sandbox is worth. -/
noncomputable def Tryz.pinned : Pinned := { name := "ytbljphaklciinaagreat", sum := "3e86e2c3bac62accc8802b6c0fde2ea6b8e823bd9856170cd86e764ce0bec7bb", checked := Tryz.checked }
namespace Rows
def none {H : Type} : Left H := { results := [], args := [] }

/-- 'allotmentlaw12.HeapFull': WHATEVER THE INPUT: true; the input reads as it did. -/
def heapFullSpec : ChangeSpec := { name := "heapFull", fn := fun _ => fun
  | [d1, d2] => { results := [.lit (.bool true)], args := [d1, d2] }
  | _ => none }
def heapFullRow : OpenClaim := { program := "ytbljphaklciinaagreat", sum := "3e86e2c3bac62accc8802b6c0fde2ea6b8e823bd9856170cd86e764ce0bec7bb", func := "allotment/allotmentlaw12.HeapFull", spec := "heapFull", inPlace := ["slices.overlaps[allotment/arena.Region]"], unfollowed := true, recurses := true, apart := false }
def HeapFullSaid : Prop := heapFullRow.holds Tryz.pinned (OpenSpec.ofChange heapFullSpec)

/-- ITS FALSE NEIGHBOUR: 'it returns false'. Refute it at one input. -/
def heapFullWrong : ChangeSpec := { name := "heapFull", fn := fun _ => fun
  | [d1, d2] => { results := [.lit (.bool false)], args := [d1, d2] }
  | _ => none }
def HeapFullWrongFalsely : Prop := heapFullRow.holds Tryz.pinned (OpenSpec.ofChange heapFullWrong)

/-- 'allotmentlaw12.HeapApart': WHATEVER THE INPUT: true; the input reads as it did. -/
def heapApartSpec : ChangeSpec := { name := "heapApart", fn := fun _ => fun
  | [d] => { results := [.lit (.bool true)], args := [d] }
  | _ => none }
def heapApartRow : OpenClaim := { program := "ytbljphaklciinaagreat", sum := "3e86e2c3bac62accc8802b6c0fde2ea6b8e823bd9856170cd86e764ce0bec7bb", func := "allotment/allotmentlaw12.HeapApart", spec := "heapApart", inPlace := ["slices.overlaps[allotment/arena.Region]"], unfollowed := true, recurses := true, apart := false }
def HeapApartSaid : Prop := heapApartRow.holds Tryz.pinned (OpenSpec.ofChange heapApartSpec)

/-- ITS FALSE NEIGHBOUR: 'it returns false'. Refute it at one input. -/
def heapApartWrong : ChangeSpec := { name := "heapApart", fn := fun _ => fun
  | [d] => { results := [.lit (.bool false)], args := [d] }
  | _ => none }
def HeapApartWrongFalsely : Prop := heapApartRow.holds Tryz.pinned (OpenSpec.ofChange heapApartWrong)

/-- 'allotmentlaw12.HeapKeeps': WHATEVER THE INPUT: true; the input reads as it did. -/
def heapKeepsSpec : ChangeSpec := { name := "heapKeeps", fn := fun _ => fun
  | [d] => { results := [.lit (.bool true)], args := [d] }
  | _ => none }
def heapKeepsRow : OpenClaim := { program := "ytbljphaklciinaagreat", sum := "3e86e2c3bac62accc8802b6c0fde2ea6b8e823bd9856170cd86e764ce0bec7bb", func := "allotment/allotmentlaw12.HeapKeeps", spec := "heapKeeps", inPlace := ["slices.overlaps[allotment/arena.Region]"], unfollowed := true, recurses := true, apart := false }
def HeapKeepsSaid : Prop := heapKeepsRow.holds Tryz.pinned (OpenSpec.ofChange heapKeepsSpec)

/-- ITS FALSE NEIGHBOUR: 'it returns false'. Refute it at one input. -/
def heapKeepsWrong : ChangeSpec := { name := "heapKeeps", fn := fun _ => fun
  | [d] => { results := [.lit (.bool false)], args := [d] }
  | _ => none }
def HeapKeepsWrongFalsely : Prop := heapKeepsRow.holds Tryz.pinned (OpenSpec.ofChange heapKeepsWrong)

/-- 'allotmentlaw12.HeapMoves': WHATEVER THE INPUT: true; the input reads as it did. -/
def heapMovesSpec : ChangeSpec := { name := "heapMoves", fn := fun _ => fun
  | [d] => { results := [.lit (.bool true)], args := [d] }
  | _ => none }
def heapMovesRow : OpenClaim := { program := "ytbljphaklciinaagreat", sum := "3e86e2c3bac62accc8802b6c0fde2ea6b8e823bd9856170cd86e764ce0bec7bb", func := "allotment/allotmentlaw12.HeapMoves", spec := "heapMoves", inPlace := ["slices.overlaps[allotment/arena.Region]"], unfollowed := true, recurses := true, apart := false }
def HeapMovesSaid : Prop := heapMovesRow.holds Tryz.pinned (OpenSpec.ofChange heapMovesSpec)

/-- ITS FALSE NEIGHBOUR: 'it returns false'. Refute it at one input. -/
def heapMovesWrong : ChangeSpec := { name := "heapMoves", fn := fun _ => fun
  | [d] => { results := [.lit (.bool false)], args := [d] }
  | _ => none }
def HeapMovesWrongFalsely : Prop := heapMovesRow.holds Tryz.pinned (OpenSpec.ofChange heapMovesWrong)

/-- 'allotmentlaw12.HeapBack': WHATEVER THE INPUT: true; the input reads as it did. -/
def heapBackSpec : ChangeSpec := { name := "heapBack", fn := fun _ => fun
  | [d1, d2] => { results := [.lit (.bool true)], args := [d1, d2] }
  | _ => none }
def heapBackRow : OpenClaim := { program := "ytbljphaklciinaagreat", sum := "3e86e2c3bac62accc8802b6c0fde2ea6b8e823bd9856170cd86e764ce0bec7bb", func := "allotment/allotmentlaw12.HeapBack", spec := "heapBack", inPlace := ["slices.overlaps[allotment/arena.Region]"], unfollowed := true, recurses := true, apart := false }
def HeapBackSaid : Prop := heapBackRow.holds Tryz.pinned (OpenSpec.ofChange heapBackSpec)

/-- ITS FALSE NEIGHBOUR: 'it returns false'. Refute it at one input. -/
def heapBackWrong : ChangeSpec := { name := "heapBack", fn := fun _ => fun
  | [d1, d2] => { results := [.lit (.bool false)], args := [d1, d2] }
  | _ => none }
def HeapBackWrongFalsely : Prop := heapBackRow.holds Tryz.pinned (OpenSpec.ofChange heapBackWrong)

/- THE SECOND FORM. 'bulk': how many values and letters a reading holds, each counted each time it is reached (what is shared counts as often as it is met; a slice's spare places count too). A statement '..UptoSaid' is the law's where the arguments, and the package variables that the reading takes, are together of bulk at most 1048576: NARROWER than '..Said'. Prove '..Said' where nothing that the law and all that it calls make is longer than what came in: it says more and counts as full. Else prove '..UptoSaid'. A law counts once. -/
mutual
def uptoBulk {H : Type} : DataW H → Nat
  | .lit (.string bytes) => bytes.length + 1
  | .lit _ => 1
  | .nil => 1
  | .ptr d => uptoBulk d + 1
  | .slice elems spare => uptoBulkAll elems + uptoBulkAll spare + 1
  | .agg parts => uptoBulkAll parts + 1
  | .iface _ d => uptoBulk d + 1
  | .map entries => uptoBulkEntries entries + 1
  | .held _ => 1
def uptoBulkAll {H : Type} : List (DataW H) → Nat
  | [] => 0
  | d :: r => uptoBulk d + uptoBulkAll r
def uptoBulkEntries {H : Type} : List (Lit × DataW H) → Nat
  | [] => 0
  | x :: r => uptoBulkEntry x + uptoBulkEntries r
def uptoBulkEntry {H : Type} : Lit × DataW H → Nat
  | (.string bytes, d) => bytes.length + uptoBulk d + 1
  | (_, d) => uptoBulk d + 1
 end
def uptoSmall : (H : Type) → List (DataW H) → Bool := fun _ ds => decide (uptoBulkAll ds ≤ 1048576)
def OpenSpec.upto (s : _root_.Go.ChangeSpec) : _root_.Go.OpenSpec := { _root_.Go.OpenSpec.ofChange s with cond := some uptoSmall }

/-- 'allotmentlaw12.HeapFull', WHERE WHAT IT READS IS OF BULK AT MOST 1048576: true; the input reads as it did. -/
def heapFullUptoRow : OpenClaim := { program := "ytbljphaklciinaagreat", sum := "3e86e2c3bac62accc8802b6c0fde2ea6b8e823bd9856170cd86e764ce0bec7bb", func := "allotment/allotmentlaw12.HeapFull", spec := "heapFull", inPlace := ["slices.overlaps[allotment/arena.Region]"], unfollowed := true, recurses := true, apart := false, narrowed := true }
def HeapFullUptoSaid : Prop := heapFullUptoRow.holds Tryz.pinned (OpenSpec.upto heapFullSpec)

/-- 'allotmentlaw12.HeapApart', WHERE WHAT IT READS IS OF BULK AT MOST 1048576: true; the input reads as it did. -/
def heapApartUptoRow : OpenClaim := { program := "ytbljphaklciinaagreat", sum := "3e86e2c3bac62accc8802b6c0fde2ea6b8e823bd9856170cd86e764ce0bec7bb", func := "allotment/allotmentlaw12.HeapApart", spec := "heapApart", inPlace := ["slices.overlaps[allotment/arena.Region]"], unfollowed := true, recurses := true, apart := false, narrowed := true }
def HeapApartUptoSaid : Prop := heapApartUptoRow.holds Tryz.pinned (OpenSpec.upto heapApartSpec)

/-- 'allotmentlaw12.HeapKeeps', WHERE WHAT IT READS IS OF BULK AT MOST 1048576: true; the input reads as it did. -/
def heapKeepsUptoRow : OpenClaim := { program := "ytbljphaklciinaagreat", sum := "3e86e2c3bac62accc8802b6c0fde2ea6b8e823bd9856170cd86e764ce0bec7bb", func := "allotment/allotmentlaw12.HeapKeeps", spec := "heapKeeps", inPlace := ["slices.overlaps[allotment/arena.Region]"], unfollowed := true, recurses := true, apart := false, narrowed := true }
def HeapKeepsUptoSaid : Prop := heapKeepsUptoRow.holds Tryz.pinned (OpenSpec.upto heapKeepsSpec)

/-- 'allotmentlaw12.HeapMoves', WHERE WHAT IT READS IS OF BULK AT MOST 1048576: true; the input reads as it did. -/
def heapMovesUptoRow : OpenClaim := { program := "ytbljphaklciinaagreat", sum := "3e86e2c3bac62accc8802b6c0fde2ea6b8e823bd9856170cd86e764ce0bec7bb", func := "allotment/allotmentlaw12.HeapMoves", spec := "heapMoves", inPlace := ["slices.overlaps[allotment/arena.Region]"], unfollowed := true, recurses := true, apart := false, narrowed := true }
def HeapMovesUptoSaid : Prop := heapMovesUptoRow.holds Tryz.pinned (OpenSpec.upto heapMovesSpec)

/-- 'allotmentlaw12.HeapBack', WHERE WHAT IT READS IS OF BULK AT MOST 1048576: true; the input reads as it did. -/
def heapBackUptoRow : OpenClaim := { program := "ytbljphaklciinaagreat", sum := "3e86e2c3bac62accc8802b6c0fde2ea6b8e823bd9856170cd86e764ce0bec7bb", func := "allotment/allotmentlaw12.HeapBack", spec := "heapBack", inPlace := ["slices.overlaps[allotment/arena.Region]"], unfollowed := true, recurses := true, apart := false, narrowed := true }
def HeapBackUptoSaid : Prop := heapBackUptoRow.holds Tryz.pinned (OpenSpec.upto heapBackSpec)

end Rows
end Go.Proofs.YtbljphaklciinaaGreat
