/- The document's example of layer 8, run. -/
import Derived.Test.YtpddlnedaleblaaCellA
namespace Go.Proofs.Ytpddlnedaleblaa
open Go.RowKit

theorem CellAt.new (w : World) (T : TypeId) : CellAt (w.alloc (.cells #[.int .u64 0, .int .u64 0, .int .i64 0] T)) w.heap.size 0 0 0 0 := by
  constructor <;> go_simp


set_option maxHeartbeats 1000000 in
theorem alive08 (w : World) : Calls Try.prog 20 #[] w (TrueBelow w) := by
  go_enter Try.func20, Try.ntmps20
  go_wp2_with fail
  (with_reducible refine (load_to (CellAt.new w _) (by omega) (by omega)).mono ?_)
  rintro e w1 ⟨rfl, C1, G1, S1⟩
  have B1 := ((Below.refl w.heap.size w).alloc (Nat.le_refl _) _).grown G1 (by simp) (fun k e => by simp at e; omega)
  simp at S1
  have Z1 : w.heap.size < w1.heap.size := by omega
  clear S1 G1
  go_wp2_with fail
  (with_reducible refine (store_to 5 C1 (by omega) (by omega)).mono ?_)
  rintro e w2 ⟨rfl, C2, G2, S2⟩
  have B2 := B1.grown G2 (by omega) (fun k e => by simp at e; omega)
  have Z2 : w.heap.size < w2.heap.size := by omega
  clear S2 G2 B1 C1
  rw [show IntKind.u64.wrap (0 + 1) = 1 from rfl] at C2
  go_wp2_with fail
  (with_reducible refine (load_to C2 (by omega) (by omega)).mono ?_)
  rintro e w3 ⟨rfl, C3, G3, S3⟩
  have B3 := B2.grown G3 (by omega) (fun k e => by simp at e; omega)
  have Z3 : w.heap.size < w3.heap.size := by omega
  clear S3 G3 B2 C2
  go_wp2_with fail
  (with_reducible refine (cas_to_no 9 C3 (by omega) (by omega) (by omega)).mono ?_)
  rintro e w4 ⟨rfl, C4, G4, S4⟩
  have B4 := B3.grown G4 (by omega) (fun k e => by simp at e; omega)
  have Z4 : w.heap.size < w4.heap.size := by omega
  clear S4 G4 B3 C3
  go_wp2_with fail
  (with_reducible refine (cas_to_yes 9 C4 (by omega) (by omega)).mono ?_)
  rintro e w5 ⟨rfl, C5, G5, S5⟩
  have B5 := B4.grown G5 (by omega) (fun k e => by simp at e; omega)
  have Z5 : w.heap.size < w5.heap.size := by omega
  clear S5 G5 B4 C4
  have R5 := AskRow.two (T := 46) C5 (by omega) (by omega) (by omega)
  have H5 := Lib.hid R5
  clear R5 C5
  go_wp2_with fail
  (with_reducible refine (asked_any _ _ _ _ _ H5.out (by omega)).mono ?_)
  rintro e w6 ⟨rfl, rfl⟩
  rw [show askSum (fun k => if k = 0 then some (w.heap.size, 0, 0 + 1 + 1 + 1 + 1 + 1) else none) 2 = 5 from rfl]
  go_wp2_with fail
  go_ret
  exact ⟨rfl, B5.alloc (by omega) _⟩
end Go.Proofs.Ytpddlnedaleblaa
