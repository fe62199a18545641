/- The dump's head: its first words, and what all rows of this seat ask of them. -/
import Derived.Test.YtpddlnedaleblaaLaw
namespace Go.Proofs.Ytpddlnedaleblaa
open Go.ChangeShapes Go.WideShapes Go.ChangeAt Go.RowKit

theorem words_space (a b : List Char) (h : ∀ c ∈ a, c ≠ (Char.ofNat 32)) : wordsSigns (a ++ (Char.ofNat 32) :: b) = a :: wordsSigns b := by
  induction a with
  | nil => simp [wordsSigns]
  | cons c a ih =>
    have hc : c ≠ (Char.ofNat 32) := h c (by simp)
    have hr := ih (fun d hd => h d (by simp [hd]))
    simp only [List.cons_append]
    conv => lhs; unfold wordsSigns
    split
    · rename_i e; cases e
    · rename_i e; simp only [List.cons.injEq] at e; exact absurd e.1 hc
    · rename_i c' r' _ e
      simp only [List.cons.injEq] at e
      obtain ⟨rfl, rfl⟩ := e
      rw [hr]

def headSum : String := "94a0feb7585b84411be041d4a58ad43d533bc3b6b6b6235d4586e02e66a95d3b"
def headRest : String := "at allotment/allotmentlaw08.CellFirst allotment/allotmentlaw08.CellStack allotment/allotmentlaw08.CellActs allotment/allotmentlaw08.CellTags allotment/allotmentlaw08.CellSwaps allotment/allotmentlaw11.QueueLast allotment/allotmentlaw11.QueueRows allotment/allotmentlaw13.StackOnce allotment/allotmentlaw13.StackLast allotment/allotmentlaw13.StackLate allotment/allotmentlaw13.StackMoves allotment/allotmentlaw13.StackSteps allotment/allotmentlaw13.StackTwice allotment/allotmentlaw11.QueueOwn allotment/allotmentlaw11.QueueActs allotment/allotmentlaw11.QueueOnce allotment/allotmentlaw11.QueueEmpties"
theorem head_eq : Try.prog.initOrder = "harness" ++ (" " ++ (headSum ++ (" " ++ ("cut" ++ (" " ++ headRest))))) := by kernel_rfl
theorem space_list : " ".toList = [Char.ofNat 32] := by kernel_rfl
theorem sum_plain : headSum.toList.all (fun c => c != Char.ofNat 32) = true := by kernel_rfl
theorem harness_plain : "harness".toList.all (fun c => c != Char.ofNat 32) = true := by kernel_rfl
theorem cut_plain : "cut".toList.all (fun c => c != Char.ofNat 32) = true := by kernel_rfl
theorem sum_signs : isSumSigns headSum.toList = true := by kernel_rfl
theorem harness_main : ("harness".toList == "harness".toList || "harness".toList == "ownmain".toList) = true := by kernel_rfl

theorem head_words : behindMainWord (wordsSigns Try.prog.initOrder.toList) = "cut".toList :: wordsSigns headRest.toList := by
  rw [head_eq]
  simp only [String.toList_append, space_list, List.singleton_append]
  rw [words_space _ _ (fun c hc => by simpa using List.all_eq_true.1 harness_plain c hc), words_space _ _ (fun c hc => by simpa using List.all_eq_true.1 sum_plain c hc),
    words_space _ _ (fun c hc => by simpa using List.all_eq_true.1 cut_plain c hc)]
  unfold behindMainWord
  dsimp only
  rw [harness_main, sum_signs]
  rfl

theorem cut_gc : ("cut".toList == "gc".toList || "cut".toList == "spec".toList) = false := by kernel_rfl
theorem cut_carried : ("cut".toList == "carried".toList) = false := by kernel_rfl
theorem cut_cut : ("cut".toList == "cut".toList) = true := by kernel_rfl
theorem strip_cut (rest : List (List Char)) : stripLifts liftWords ("cut".toList :: rest) = ([], "cut".toList :: rest) := by
  have h : ∀ o ∈ liftWords, ("cut".toList == o.toList) = false := of_decide_eq_true (by kernel_rfl)
  revert h
  generalize liftWords = l
  intro h
  induction l with
  | nil => rfl
  | cons o os ih =>
    unfold stripLifts
    rw [h o (by simp)]
    exact ih (fun p hp => h p (by simp [hp]))
theorem Try.later : Try.prog.laysLater = false := by kernel_rfl
theorem Try.reflect : Try.prog.bearsReflect = false := by kernel_rfl
theorem Try.door : Try.prog.doorFits [] = true := by kernel_rfl

theorem may_of {P : Program} {rest : List (List Char)} (h : behindMainWord (wordsSigns P.initOrder.toList) = "cut".toList :: rest) (h1 : P.laysLater = false) (h2 : P.bearsReflect = false) (h3 : P.doorFits [] = true) : P.mayEnter = true := by
  unfold Program.mayEnter
  rw [h]
  dsimp only
  rw [strip_cut, cut_gc, h1, h2, h3]
  simp
theorem lifts_of {P : Program} {rest : List (List Char)} (h : behindMainWord (wordsSigns P.initOrder.toList) = "cut".toList :: rest) : P.liftsFinal = false := by
  unfold Program.liftsFinal Program.headLifts
  rw [h, strip_cut]
  dsimp only [List.head?]
  simp [cut_carried]
theorem makes_of {P : Program} {rest : List (List Char)} (h : behindMainWord (wordsSigns P.initOrder.toList) = "cut".toList :: rest) : P.make = some .cut := by
  unfold Program.make
  rw [h]
  dsimp only
  rw [cut_gc, cut_cut]
  simp
theorem Try.may : Try.prog.mayEnter = true := may_of head_words Try.later Try.reflect Try.door
theorem Try.lifts : Try.prog.liftsFinal = false := lifts_of head_words
theorem Try.makes : Try.prog.make = some .cut := makes_of head_words

/-- The closed facts of a row, each by itself, what hangs on the head alone taken from above. -/
theorem joined_of {P : Program} {f : FuncId} {fn : Func} {s : ChangeSpec} {c : OpenClaim} (h1 : P.mayEnter = true) (h2 : P.liftsFinal = false) (h3 : P.make = some .cut)
    (k1 : c.wf (OpenSpec.ofChange s) = true) (k2 : laidOutB P = true) (k3 : mapsRowed P = true) (k4 : fn.params.all (P.readableRec ·) = true) (k5 : namedTie P c.named s.vars = true)
    (k6 : (c.stops == []) = true) (k7 : (P.stops == []) = true) (k8 : (c.knobs == []) = true) (k9 : (P.stopKnobs == []) = true)
    (k10 : (c.inPlace == P.inPlace f) = true) (k11 : (c.unfollowed == P.unfollowed f) = true) (k12 : (c.recurses == P.recurses f) = true) (k13 : (c.named == P.varsNamed f) = true)
    (k14 : (c.maps == (fn.params.toList ++ s.plain.varTypes P).any (P.mapsRec ·)) = true) (k15 : (c.ifaces == (fn.params.toList ++ s.plain.varTypes P).any (P.ifacesRec ·)) = true)
    (k16 : (c.mapsOut == P.mapsAmong fn.resultTypes.toList) = true) (k17 : (c.loops == (fn.params.toList ++ s.plain.varTypes P).any (P.loopsFrom ·)) = true)
    (k18 : (c.wideKeys == (fn.params.toList ++ s.plain.varTypes P ++ fn.resultTypes.toList).any (P.wideKeysFrom ·)) = true) (k19 : s.vars.all (P.varReadable ·) = true)
    (k20 : fn.resultTypes.all (fun t => P.readableRec t && decide (t < P.types.size)) = true) (k21 : (c.ifacesOut == fn.resultTypes.toList.any (P.ifacesRec ·)) = true)
    (k22 : (c.loopsOut == fn.resultTypes.toList.any (P.loopsFrom ·)) = true) (k23 : (c.plainKeys == P.plainKeys) = true) (k24 : c.shortTexts.isNone = true) (k25 : P.stopsHeard = true)
    (k26 : (c.lifted == false) = true) (k27 : (some Make.cut == some c.make) = true)
    (kd : c.domain = []) (kk : c.kinds = []) (k29 : (c.pinned == c.pinnedBy) = true)
    (k30 : (c.veiled == (fn.params.toList ++ s.plain.varTypes P ++ fn.resultTypes.toList).any (P.veiledRec ·)) = true)
    (k31 : c.veiledFits P fn.params.toList (fn.params.toList ++ s.plain.varTypes P ++ fn.resultTypes.toList) = true) : joinedFacts P f fn s c = true := by
  unfold joinedFacts
  rw [h1, h2, h3, k1, k2, k3, k4, k5, k6, k7, k8, k9, k10, k11, k12, k13, k14, k15, k16, k17, k18, k19, k20, k21, k22, k23, k24, k25, k26, k27, k29, k30, k31, kd, kk]
  rfl
end Go.Proofs.Ytpddlnedaleblaa
