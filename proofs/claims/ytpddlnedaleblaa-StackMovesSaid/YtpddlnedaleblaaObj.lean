/- A thing of many cells at a place (b, o): what each cell holds, as a function of its number. -/
import Derived.Test.YtpddlnedaleblaaCellA
namespace Go.Proofs.Ytpddlnedaleblaa
open Go.RowKit

def upd (f : Nat → Value) (i : Nat) (v : Value) : Nat → Value := fun j => if j = i then v else f j

structure Obj_ (w : World) (b o N : Nat) (f : Nat → Value) : Prop where
  cell : ∀ j, j < N → w.cell? ⟨b, o + j, none⟩ = some (f j)
  frz : ∀ j, j < N → w.frozen? ⟨b, o + j, none⟩ = false

variable {w w' : World} {b o N : Nat} {f g : Nat → Value}

theorem Obj_.at_ (h : Obj_ w b o N f) {j : Nat} (hj : j < N) {v : Value} (hv : f j = v) : w.cell? ⟨b, o + j, none⟩ = some v := hv ▸ h.cell j hj
theorem Obj_.at0 (h : Obj_ w b o N f) (hj : 0 < N) {v : Value} (hv : f 0 = v) : w.cell? ⟨b, o, none⟩ = some v := hv ▸ h.cell 0 hj
theorem Obj_.frz0 (h : Obj_ w b o N f) (hj : 0 < N) : w.frozen? ⟨b, o, none⟩ = false := h.frz 0 hj

theorem Obj_.set (h : Obj_ w b o N f) {i : Nat} (hi : i < N) (v : Value) : Obj_ (w.setCell ⟨b, o + i, none⟩ v) b o N (upd f i v) := by
  refine ⟨fun j hj => ?_, fun j hj => by simpa using h.frz j hj⟩
  by_cases e : j = i
  · subst e
    have hc := h.cell j hj
    simp only [upd, if_true]
    go_simp
  · simp only [upd, if_neg e]
    rw [World.cell?_setCell_other _ _ _ _ (by simp [e])]
    exact h.cell j hj
theorem Obj_.set0 (h : Obj_ w b o N f) (hi : 0 < N) (v : Value) : Obj_ (w.setCell ⟨b, o, none⟩ v) b o N (upd f 0 v) := h.set hi v

theorem Obj_.drewN (h : Obj_ w b o N f) (k : Nat) : Obj_ (w.drewN k) b o N f := ⟨h.cell, h.frz⟩
theorem Obj_.drew (h : Obj_ w b o N f) : Obj_ w.drew b o N f := ⟨h.cell, h.frz⟩

theorem Obj_.of_block (h : Obj_ w b o N f) (hb : w'.heap[b]? = w.heap[b]?) : Obj_ w' b o N f :=
  ⟨fun j hj => (World.cell?_of_block (a := ⟨b, o + j, none⟩) hb).trans (h.cell j hj), fun j hj => (World.frozen?_of_block (a := ⟨b, o + j, none⟩) hb).trans (h.frz j hj)⟩

theorem Obj_.congr (h : Obj_ w b o N f) (e : ∀ j, j < N → f j = g j) : Obj_ w b o N g := ⟨fun j hj => e j hj ▸ h.cell j hj, h.frz⟩

theorem Obj_.lt (h : Obj_ w b o N f) (hN : 0 < N) : b < w.heap.size := World.block_lt_of_cell? w _ (h.cell 0 hN)

/-- The first three cells as a Cell. -/
theorem Obj_.cellAt (h : Obj_ w b o N f) (hN : 2 < N) {x t n : Int} (h0 : f 0 = .int .u64 x) (h1 : f 1 = .int .u64 t) (h2 : f 2 = .int .i64 n) : CellAt w b o x t n :=
  ⟨h.at0 (by omega) h0, h.at_ (by omega) h1, h.at_ hN h2, h.frz0 (by omega), h.frz 1 (by omega), h.frz 2 hN⟩

/-- A new block is such a thing. -/
theorem Obj_.new (w : World) (cs : Array Value) (T : TypeId) : Obj_ (w.alloc (.cells cs T)) w.heap.size 0 cs.size (fun j => cs.getD j undef) := by
  refine ⟨fun j hj => ?_, fun j hj => by simp⟩
  rw [Nat.zero_add, World.cell?_alloc_new]
  simp [hj]

/-- Nothing but block b has turned, and no block has come. -/
structure Only (w w' : World) (b : Nat) : Prop where
  gr : w.grownBy w' (some b)
  size : w'.heap.size = w.heap.size

theorem Only.refl (w : World) (b : Nat) : Only w w b := ⟨World.grownBy.refl w _, rfl⟩
theorem Only.set (h : Only w w' b) (i : Nat) (v : Value) : Only w (w'.setCell ⟨b, i, none⟩ v) b := ⟨only_set h.gr _, by simpa [World.setCell] using h.size⟩
theorem Only.drewN (h : Only w w' b) (k : Nat) : Only w (w'.drewN k) b := ⟨only_drewN h.gr k, h.size⟩
end Go.Proofs.Ytpddlnedaleblaa
