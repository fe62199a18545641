/- Rows of cells that are written in place: what 'setCells' makes of a block. -/
import Derived.Test.YtpddlnedaleblaaMem
import Derived.Laws.IdiomCopy
import Derived.Deep.RegionLaw
import Derived.Lib.SliceRun
namespace Go.Proofs.Ytpddlnedaleblaa
open Go.RowKit

/-- vs laid over l from place o on (where l has room). -/
def over (l : List Value) (o : Nat) (vs : List Value) : List Value := l.take o ++ vs ++ l.drop (o + vs.length)

theorem over_cons (l : List Value) (o : Nat) (v : Value) (r : List Value) (h : o < l.length) : over (l.set o v) (o + 1) r = over l o (v :: r) := by
  unfold over
  have h1 : (l.set o v).take (o + 1) = l.take o ++ [v] := by
    rw [List.take_succ_eq_append_getElem (by simpa using h), List.take_set_of_le (Nat.le_refl _)]
    simp
  have h2 : (l.set o v).drop (o + 1 + r.length) = l.drop (o + (v :: r).length) := by
    rw [List.drop_set_of_lt (by omega), List.length_cons]
    congr 1
    omega
  rw [h1, h2]
  simp

theorem setCells_block (b : Nat) (t : TypeId) : ∀ (vs : List Value) (o : Nat) (w : World) (cur : Array Value), w.heap[b]? = some (.cells cur t (0, 0)) → o + vs.length ≤ cur.size →
    (w.setCells b o vs).heap[b]? = some (.cells (over cur.toList o vs).toArray t (0, 0))
  | [], o, w, cur, h, _ => by
    simp [World.setCells, over, h]
  | v :: r, o, w, cur, h, hl => by
    have hl' : o + 1 + r.length ≤ (cur.setIfInBounds o v).size := by simp at hl ⊢; omega
    have h1 : (w.setCell ⟨b, o, none⟩ v).heap[b]? = some (.cells (cur.setIfInBounds o v) t (0, 0)) := by
      simp [World.setCell, Array.getElem?_modify, h]
    rw [World.setCells, setCells_block b t r (o + 1) _ _ h1 hl']
    have hlo : o < cur.toList.length := by simp at hl ⊢; omega
    rw [← over_cons cur.toList o v r hlo, Array.toList_setIfInBounds]

theorem setCells_size (b : Nat) : ∀ (vs : List Value) (o : Nat) (w : World), (w.setCells b o vs).heap.size = w.heap.size
  | [], _, _ => rfl
  | v :: r, o, w => by rw [World.setCells, setCells_size b r (o + 1) _]; simp [World.setCell]
theorem setCells_grown (b : Nat) : ∀ (vs : List Value) (o : Nat) (w w0 : World), w0.grownBy w (some b) → w0.grownBy (w.setCells b o vs) (some b)
  | [], _, _, _, h => h
  | v :: r, o, w, w0, h => setCells_grown b r (o + 1) _ w0
      ⟨h.os, h.tape, h.output, by simpa [World.setCell] using h.size, fun k hk hne => (Below.heap_setCell w ⟨b, o, none⟩ v k (fun e => hne (by rw [e]))).trans (h.block k hk hne)⟩

end Go.Proofs.Ytpddlnedaleblaa
