/- The document's example of layer 11, run. -/
import Derived.Test.YtpddlnedaleblaaQueueL
namespace Go.Proofs.Ytpddlnedaleblaa
open Go.RowKit

set_option maxRecDepth 100000 in
set_option maxHeartbeats 1000000 in
theorem each_nil (w : World) (fid : FuncId) (u : Value) (v : Value) (hv : ∃ A n c, v = .slice A n c) :
    Calls Try.prog 62 #[.pointer none, .func (.func fid) #[] #[u], v] w fun e w' => e = .returned (.int .i64 1) ∧ w = w' := by
  obtain ⟨A, n, c, rfl⟩ := hv
  go_enter Try.func62, Try.ntmps62
  go_wp2_with fail
  go_ret
  exact ⟨rfl, rfl⟩

set_option maxRecDepth 100000 in
set_option maxHeartbeats 1000000 in
theorem push_nil (w : World) : Calls Try.prog 31 #[.pointer none, .slice none 0 0] w fun e w' => e = .returned (.int .i64 1) ∧ Below w.heap.size w w' := by
  go_enter Try.func31, Try.ntmps31
  go_wp2_with fail
  (with_reducible refine (each_nil _ _ _ _ ⟨_, _, _, rfl⟩).mono ?_)
  rintro e w1 ⟨rfl, rfl⟩
  go_wp2_with fail
  go_ret
  exact ⟨rfl, (Below.refl _ _).alloc (Nat.le_refl _) _⟩

set_option maxRecDepth 100000 in
set_option maxHeartbeats 4000000 in
theorem alive11 (w : World) : Calls Try.prog 29 #[] w (TrueBelow w) := by
  have H0 := QSt.new (Below.refl w.heap.size w) 57
  obtain ⟨H1, K1, A1⟩ := H0.many [1, 2, 3] 3 (cs := #[.int .i64 1, .int .i64 2, .int .i64 3]) (n := 3) rfl rfl
  rw [show (w.alloc (.cells #[.slice none 0 0, .slice none 0 0] 57)).heap.size = w.heap.size + 1 by simp] at A1
  obtain ⟨b, hb⟩ : ∃ b, b = w.heap.size := ⟨_, rfl⟩
  rw [← hb] at H1 A1
  have HH := Lib.hid H1
  have HA := Lib.hid A1
  clear H0 H1 K1 A1
  go_enter Try.func29, Try.ntmps29
  go_wp2_with fail
  rw [← hb]
  clear hb
  (with_reducible refine (push_law HH.out HA.out (by decide)).mono ?_)
  rintro e w1 ⟨rfl, k1, k2, H2, K2⟩
  rw [show eachS pushS [1, 2, 3] [] [] = (0, [1, 2, 3], []) by decide] at H2 ⊢
  have G2 := Lib.hid H2
  clear H2 K2 HH HA
  go_wp2_with fail
  (with_reducible refine (fill_law G2.out 1 (by decide)).mono ?_)
  rintro e w2 ⟨rfl, k1, k2, H3, K3⟩
  rw [show fillS [1, 2, 3] [] 1 = (0, [2, 3], [1]) by decide] at H3 ⊢
  obtain ⟨H4, K4, A4⟩ := H3.one 4 3
  have G4 := Lib.hid H4
  have X4 := Lib.hid A4
  clear H3 K3 H4 K4 A4 G2
  go_wp2_with fail
  (with_reducible refine (push_law G4.out X4.out (by decide)).mono ?_)
  rintro e w3 ⟨rfl, k1, k2, H5, K5⟩
  rw [show eachS pushS [4] [2, 3] [1] = (0, [2, 3, 4], [1]) by decide] at H5 ⊢
  have G5 := Lib.hid H5
  clear H5 K5 G4 X4
  go_wp2_with fail
  (with_reducible refine (wake_law G5.out 1 (by decide)).mono ?_)
  rintro e w4 ⟨rfl, k1, k2, H6, K6⟩
  rw [show wakeS [2, 3, 4] [1] 1 = (0, [2, 3, 4, 1], []) by decide] at H6 ⊢
  have G6 := Lib.hid H6
  clear H6 K6 G5
  go_wp2_with fail
  (with_reducible refine (ready_law G6.out (by decide)).mono ?_)
  rintro e w5 ⟨A, c, rfl, A7, _, H7, K7⟩
  obtain ⟨H8, K8, A8⟩ := H7.many [2, 3, 4, 1] 3 (cs := #[.int .i64 2, .int .i64 3, .int .i64 4, .int .i64 1]) (n := 4) rfl rfl
  have X7 := Lib.hid (A7.keep K8)
  have X8 := Lib.hid A8
  have G8 := Lib.hid H8
  clear A7 H7 K7 H8 K8 A8 G6
  rw [show [(2 : Int), 3, 4, 1].length = 4 from rfl] at X7 ⊢
  go_wp2_with fail
  (with_reducible refine (same_law G8.out X7.out X8.out (by decide) (by decide)).mono ?_)
  rintro e w6 ⟨rfl, H9, K9⟩
  rw [show decide ([(2 : Int), 3, 4, 1] = [2, 3, 4, 1]) = true by decide]
  have G9 := Lib.hid H9
  clear H9 K9 X7 X8 G8
  go_wp2_with fail
  (with_reducible refine (full_law G9.out (by decide)).mono ?_)
  rintro e w7 ⟨A, c, rfl, _, _, H10, _⟩
  have B10 := Lib.hid H10.below
  clear H10 G9
  rw [show ([] : List Int).length = 0 from rfl]
  go_wp2_with fail
  (with_reducible refine (push_nil _).mono ?_)
  rintro e w8 ⟨rfl, hb⟩
  have B11 := Lib.hid (B10.out.trans (hb.mono B10.out.size))
  clear hb
  go_wp2_with fail
  go_ret
  exact ⟨rfl, B11.out⟩
end Go.Proofs.Ytpddlnedaleblaa
