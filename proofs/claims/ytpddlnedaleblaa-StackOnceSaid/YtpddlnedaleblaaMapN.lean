/- A set of numbers that a law keeps in a map of bools, counted; a count of numbers in a map of ints. -/
import Derived.Test.YtpddlnedaleblaaMet
import Derived.Maps.OwnOps
namespace Go.Proofs.Ytpddlnedaleblaa
open Go.RowKit Go.Maps

/-- Block g is a map of at most n entries whose keys are L, each once, each true. -/
def MetN (w : World) (g n : Nat) (L : List Int) : Prop := ∃ D : DataW Unit, w.ownsMap Try.prog 3 (plainElem Try.prog 4) g n D ∧ (∀ y : Int, D.atKey (.int .i64 y) (.lit (.bool false)) = .lit (.bool (decide (y ∈ L)))) ∧
  (∀ y : Int, Maps.has D (.int .i64 y) = decide (y ∈ L)) ∧ Maps.size D = L.length ∧ L.Nodup

theorem MetN.new (w : World) : MetN (w.alloc (.map #[] 0)) w.heap.size 0 [] :=
  ⟨.map [], World.ownsMap_made w _ _ _, fun y => by simp [DataW.atKey], fun y => by simp [Maps.has], rfl, List.nodup_nil⟩

theorem MetN.eq {w w' : World} {g n : Nat} {S : List Int} (h : MetN w g n S) (hg : w'.heap[g]? = w.heap[g]?) : MetN w' g n S := by
  obtain ⟨D, ⟨es, clock, hb, r⟩, h3⟩ := h
  exact ⟨D, ⟨es, clock, hg.trans hb, r⟩, h3⟩
theorem MetN.lt {w : World} {g n : Nat} {S : List Int} (h : MetN w g n S) : g < w.heap.size := by
  obtain ⟨D, h1, _⟩ := h
  exact h1.lt
theorem MetN.met {w : World} {g n : Nat} {S : List Int} (h : MetN w g n S) : Met w g n S := by
  obtain ⟨D, h1, h2, _⟩ := h
  exact ⟨D, h1, h1.isMap, h2⟩

set_option maxRecDepth 100000 in
theorem Met.run_lookup {w : World} {g n : Nat} {S : List Int} {y : Int} (H : Met w g n S) (hw : (Lit.int .i64 y).wf = true) :
    (Instr.lookup 104 (.map (some g)) (.int .i64 y) false).run Try.prog w = .ok (.bool (decide (y ∈ S))) w := by
  obtain ⟨D, h1, h2, h3⟩ := H
  obtain ⟨v, ps, hrun, hv⟩ := h1.lookup (int_keyed Try.underlying3) Try.underlying104 (zero_bool w) (plainElem_bool Try.underlying4 false) (keyOf_int_mk Try.underlying3 hw)
  rw [h3] at hv
  have e : v = .bool (decide (y ∈ S)) := by
    unfold plainElem at hv
    rw [Try.underlying4] at hv
    split at hv
    · rename_i x _
      simp at hv
      rw [hv.1]
    · simp_all
    · simp_all
    · cases hv
  subst e
  exact hrun

set_option maxRecDepth 100000 in
theorem wpList_update_metN (w : World) {ops : Array Oper} {rest : List Oper} {o : Oper} {a : Act} {Q : Exit → Act → World → Prop}
    (hg : o.guard = none) (m x v : Operand) (hop : o.op = Op.mapUpdate 104 m x v)
    (g n : Nat) (S : List Int) (y : Int) (hm : a.eval m = .map (some g)) (H : MetN w g n S) (hn : n < maxLen) (hx : a.eval x = .int .i64 y) (hv : a.eval v = .bool true) (hw : (Lit.int .i64 y).wf = true) (hy : y ∉ S)
    (hK : ∀ w', MetN w' g (n + 1) (y :: S) → w.grownBy w' (some g) → wpList Try.prog ops Q rest (a.put o.dst undef) w') :
    wpList Try.prog ops Q (o :: rest) a w := by
  obtain ⟨D, h1, h3, h4, h5, h6⟩ := H
  refine wpList_mapUpdate_own w hg m x v 104 hop 3 4 (int_keyed Try.underlying3) Try.underlying104 _ g n D hm h1 hn _ _ (.int .i64 y) hx hv (keyOf_int_mk Try.underlying3 hw) (.lit (.bool true)) [] (plainElem_bool Try.underlying4 true) ?_
  intro w' h1' hg'
  refine hK w' ⟨_, h1', fun z => ?_, fun z => ?_, ?_, List.nodup_cons.2 ⟨hy, h6⟩⟩ hg'
  · by_cases hz : z = y
    · subst hz
      rw [atKey_put_same h1.isMap (show Go.WideAt.IsKeyLit (.int .i64 z) from trivial)]
      simp
    · rw [atKey_put_other (by intro e; injection e with _ e; exact hz e), h3]
      simp [hz]
  · by_cases hz : z = y
    · subst hz
      rw [has_put_same h1.isMap (show Go.WideAt.IsKeyLit (.int .i64 z) from trivial)]
      simp
    · rw [has_put_other (by intro e; injection e with _ e; exact hz e), h4]
      simp [hz]
  · rw [size_put (h1.tidy (int_keyed Try.underlying3)), h4]
    simp [hy, h5]

set_option maxRecDepth 100000 in
theorem wpList_delete_metN (w : World) {ops : Array Oper} {rest : List Oper} {o : Oper} {a : Act} {Q : Exit → Act → World → Prop}
    (hg : o.guard = none) (m x : Operand) (hop : o.op = Op.call { callee := Callee.builtin Builtin.delete, args := #[m, x], argTypes := #[104, 3] })
    (g n : Nat) (S : List Int) (y : Int) (hm : a.eval m = .map (some g)) (H : MetN w g n (y :: S)) (hx : a.eval x = .int .i64 y) (hw : (Lit.int .i64 y).wf = true)
    (hK : ∀ w', MetN w' g n S → w.grownBy w' (some g) → wpList Try.prog ops Q rest (a.put o.dst (.tuple #[])) w') :
    wpList Try.prog ops Q (o :: rest) a w := by
  obtain ⟨D, h1, h3, h4, h5, h6⟩ := H
  obtain ⟨hy, h7⟩ := List.nodup_cons.1 h6
  refine wpList_delete_own w hg m x 104 3 hop 4 (int_keyed Try.underlying3) Try.underlying104 _ g n D hm h1 _ (.int .i64 y) hx (keyOf_int_mk Try.underlying3 hw) ?_
  intro w' h1' ht'
  refine hK w' ⟨_, h1', fun z => ?_, fun z => ?_, ?_, h7⟩ ht'.grown
  · by_cases hz : z = y
    · subst hz
      rw [atKey_del_same]
      simp [hy]
    · rw [atKey_del_other (by intro e; injection e with _ e; exact hz e), h3]
      simp [hz]
  · by_cases hz : z = y
    · subst hz
      rw [has_del_same]
      simp [hy]
    · rw [has_del_other (by intro e; injection e with _ e; exact hz e), h4]
      simp [hz]
  · have hs := size_del (k := .int .i64 y) (h1.tidy (int_keyed Try.underlying3))
    rw [h4, h5] at hs
    simp at hs
    omega

set_option maxRecDepth 100000 in
theorem wpList_len_metN (w : World) {ops : Array Oper} {rest : List Oper} {o : Oper} {a : Act} {Q : Exit → Act → World → Prop}
    (hg : o.guard = none) (m : Operand) (hop : o.op = Op.call { callee := Callee.builtin Builtin.len, args := #[m], argTypes := #[104] })
    (g n : Nat) (S : List Int) (hm : a.eval m = .map (some g)) (H : MetN w g n S)
    (hK : wpList Try.prog ops Q rest (a.put o.dst (.int .i64 (S.length : Nat))) w) :
    wpList Try.prog ops Q (o :: rest) a w := by
  obtain ⟨D, h1, h3, h4, h5, h6⟩ := H
  refine wpList_len_own w hg m 104 hop 3 4 Try.underlying104 _ g n D hm h1 ?_
  rw [h5]
  exact hK

/-- Block g is a map of at most n entries that holds C y at each number y; its keys lie in 0 .. N - 1. -/
def CntN (w : World) (g n : Nat) (C : Int → Int) (N : Int) : Prop := ∃ D : DataW Unit, w.ownsMap Try.prog 3 (plainElem Try.prog 3) g n D ∧ (∀ y : Int, D.atKey (.int .i64 y) (.lit (.int .i64 0)) = .lit (.int .i64 (C y))) ∧
  (∀ y : Int, Maps.has D (.int .i64 y) = true → 0 ≤ y ∧ y < N)

theorem CntN.new (w : World) (N : Int) : CntN (w.alloc (.map #[] 0)) w.heap.size 0 (fun _ => 0) N :=
  ⟨.map [], World.ownsMap_made w _ _ _, fun y => by simp [DataW.atKey], fun y h => by simp [Maps.has] at h⟩
theorem CntN.eq {w w' : World} {g n : Nat} {C : Int → Int} {N : Int} (h : CntN w g n C N) (hg : w'.heap[g]? = w.heap[g]?) : CntN w' g n C N := by
  obtain ⟨D, ⟨es, clock, hb, r⟩, h3⟩ := h
  exact ⟨D, ⟨es, clock, hg.trans hb, r⟩, h3⟩
theorem CntN.lt {w : World} {g n : Nat} {C : Int → Int} {N : Int} (h : CntN w g n C N) : g < w.heap.size := by
  obtain ⟨D, h1, _⟩ := h
  exact h1.lt
theorem zero_int' (w : World) : (zeroValue 3).run Try.prog w = .ok (.int .i64 0) w := by kernel_rfl

set_option maxRecDepth 100000 in
theorem CntN.run_lookup {w : World} {g n : Nat} {C : Int → Int} {N y : Int} (H : CntN w g n C N) (hw : (Lit.int .i64 y).wf = true) :
    (Instr.lookup 77 (.map (some g)) (.int .i64 y) false).run Try.prog w = .ok (.int .i64 (C y)) w := by
  obtain ⟨D, h1, h2, h3⟩ := H
  obtain ⟨c, hrun, hat, hwc⟩ := h1.lookup_int (int_keyed Try.underlying3) Try.underlying77 Try.underlying3 (zero_int' w) (keyOf_int_mk Try.underlying3 hw)
  rw [h2] at hat
  injection hat with hat
  injection hat with _ hat
  rw [hat]
  exact hrun

set_option maxRecDepth 100000 in
theorem wpList_update_cntN (w : World) {ops : Array Oper} {rest : List Oper} {o : Oper} {a : Act} {Q : Exit → Act → World → Prop}
    (hg : o.guard = none) (m x v : Operand) (hop : o.op = Op.mapUpdate 77 m x v)
    (g n : Nat) (C : Int → Int) (N y c : Int) (hm : a.eval m = .map (some g)) (H : CntN w g n C N) (hn : n < maxLen) (hx : a.eval x = .int .i64 y) (hv : a.eval v = .int .i64 c) (hw : (Lit.int .i64 y).wf = true) (hc : (Lit.int .i64 c).wf = true) (hy : 0 ≤ y ∧ y < N)
    (hK : ∀ w', CntN w' g (n + 1) (fun z => if z = y then c else C z) N → w.grownBy w' (some g) → wpList Try.prog ops Q rest (a.put o.dst undef) w') :
    wpList Try.prog ops Q (o :: rest) a w := by
  obtain ⟨D, h1, h3, h4⟩ := H
  refine wpList_mapUpdate_own w hg m x v 77 hop 3 3 (int_keyed Try.underlying3) Try.underlying77 _ g n D hm h1 hn _ _ (.int .i64 y) hx hv (keyOf_int_mk Try.underlying3 hw) (.lit (.int .i64 c)) [] (plainElem_int Try.underlying3 hc) ?_
  intro w' h1' hg'
  refine hK w' ⟨_, h1', fun z => ?_, fun z hz' => ?_⟩ hg'
  · by_cases hz : z = y
    · subst hz
      rw [atKey_put_same h1.isMap (show Go.WideAt.IsKeyLit (.int .i64 z) from trivial)]
      simp
    · rw [atKey_put_other (by intro e; injection e with _ e; exact hz e), h3]
      simp [hz]
  · by_cases hz : z = y
    · subst hz
      exact hy
    · rw [has_put_other (by intro e; injection e with _ e; exact hz e)] at hz'
      exact h4 z hz'
end Go.Proofs.Ytpddlnedaleblaa
