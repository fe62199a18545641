/- A set of numbers that a law keeps in a map of bools. -/
import Derived.Test.YtpddlnedaleblaaQueueN
import Derived.Maps.OwnSet
namespace Go.Proofs.Ytpddlnedaleblaa
open Go.RowKit Go.Maps

/-- Block g is a map of at most n entries that says of each number whether it is in S. -/
def Met (w : World) (g n : Nat) (S : List Int) : Prop := ∃ D : DataW Unit, w.ownsMap Try.prog 3 (plainElem Try.prog 4) g n D ∧ IsMap D ∧ ∀ y : Int, D.atKey (.int .i64 y) (.lit (.bool false)) = .lit (.bool (decide (y ∈ S)))

theorem zero_bool (w : World) : (zeroValue 4).run Try.prog w = .ok (.bool false) w := by kernel_rfl

theorem Met.new (w : World) : Met (w.alloc (.map #[] 0)) w.heap.size 0 [] :=
  ⟨.map [], World.ownsMap_made w _ _ _, ⟨_, rfl⟩, fun y => by simp [DataW.atKey]⟩

theorem Met.kept {w w' : World} {g n : Nat} {S : List Int} {row : Option Nat} (h : Met w g n S) (hg : w.grownBy w' row) (hne : some g ≠ row) : Met w' g n S := by
  obtain ⟨D, h1, h2, h3⟩ := h
  exact ⟨D, h1.kept hg hne, h2, h3⟩

theorem Met.eq {w w' : World} {g n : Nat} {S : List Int} (h : Met w g n S) (hg : w'.heap[g]? = w.heap[g]?) : Met w' g n S := by
  obtain ⟨D, ⟨es, clock, hb, r⟩, h2, h3⟩ := h
  exact ⟨D, ⟨es, clock, hg.trans hb, r⟩, h2, h3⟩

theorem Met.lt {w : World} {g n : Nat} {S : List Int} (h : Met w g n S) : g < w.heap.size := by
  obtain ⟨D, h1, _⟩ := h
  exact h1.lt

set_option maxRecDepth 100000 in
theorem wpList_lookup_met (w : World) {ops : Array Oper} {rest : List Oper} {o : Oper} {a : Act} {Q : Exit → Act → World → Prop}
    (hg : o.guard = none) (m x : Operand) (hop : o.op = Op.lookup 104 m x false)
    (g n : Nat) (S : List Int) (y : Int) (hm : a.eval m = .map (some g)) (H : Met w g n S) (hx : a.eval x = .int .i64 y) (hw : (Lit.int .i64 y).wf = true)
    (hK : wpList Try.prog ops Q rest (a.put o.dst (.bool (decide (y ∈ S)))) w) :
    wpList Try.prog ops Q (o :: rest) a w := by
  obtain ⟨D, h1, h2, h3⟩ := H
  refine wpList_plain hg fun K' hK' => ?_
  obtain ⟨v, ps, hrun, hv⟩ := h1.lookup (int_keyed Try.underlying3) Try.underlying104 (zero_bool w) (plainElem_bool Try.underlying4 false) (keyOf_int_mk Try.underlying3 hw)
  rw [h3] at hv
  have e : v = .bool (decide (y ∈ S)) := by
    unfold plainElem at hv
    rw [Try.underlying4] at hv
    split at hv
    · rename_i x _
      simp at hv
      rw [hv.1]
    · simp_all
    · simp_all
    · cases hv
  subst e
  unfold Oper.wp
  simp [execOp, hop, hm, hx, hrun, Result.andThen]
  exact hK' _ _ hK

theorem wpList_update_met (w : World) {ops : Array Oper} {rest : List Oper} {o : Oper} {a : Act} {Q : Exit → Act → World → Prop}
    (hg : o.guard = none) (m x v : Operand) (hop : o.op = Op.mapUpdate 104 m x v)
    (g n : Nat) (S : List Int) (y : Int) (hm : a.eval m = .map (some g)) (H : Met w g n S) (hn : n < maxLen) (hx : a.eval x = .int .i64 y) (hv : a.eval v = .bool true) (hw : (Lit.int .i64 y).wf = true)
    (hK : ∀ w', Met w' g (n + 1) (y :: S) → w.grownBy w' (some g) → wpList Try.prog ops Q rest (a.put o.dst undef) w') :
    wpList Try.prog ops Q (o :: rest) a w := by
  obtain ⟨D, h1, h2, h3⟩ := H
  refine wpList_mapUpdate_own w hg m x v 104 hop 3 4 (int_keyed Try.underlying3) Try.underlying104 _ g n D hm h1 hn _ _ (.int .i64 y) hx hv (keyOf_int_mk Try.underlying3 hw) (.lit (.bool true)) [] (plainElem_bool Try.underlying4 true) ?_
  intro w' h1' hg'
  refine hK w' ⟨_, h1', h1'.isMap, fun z => ?_⟩ hg'
  by_cases hz : z = y
  · subst hz
    rw [atKey_put_same h2 (show Go.WideAt.IsKeyLit (.int .i64 z) from trivial)]
    simp
  · rw [atKey_put_other (by intro e; injection e with _ e; exact hz e), h3]
    simp [hz]
end Go.Proofs.Ytpddlnedaleblaa
