/- The methods of cell.Cell, walked: what each answers and which of the three words it writes. -/
import Derived.Test.YtpddlnedaleblaaBase
import Derived.WalkKit
import Derived.WalkSpells
import Derived.WalkLawsBesides
import Derived.Deep.QuietTactic
import Derived.BigQuiet
namespace Go.Proofs.Ytpddlnedaleblaa
open Go.RowKit

/-- A cell stands at (b, o): word x, tag t, asked n; none of it frozen. -/
structure CellAt (w : World) (b o : Nat) (x t n : Int) : Prop where
  c0 : w.cell? ⟨b, o, none⟩ = some (.int .u64 x)
  c1 : w.cell? ⟨b, o + 1, none⟩ = some (.int .u64 t)
  c2 : w.cell? ⟨b, o + 2, none⟩ = some (.int .i64 n)
  f0 : w.frozen? ⟨b, o, none⟩ = false
  f1 : w.frozen? ⟨b, o + 1, none⟩ = false
  f2 : w.frozen? ⟨b, o + 2, none⟩ = false

set_option maxHeartbeats 400000 in
theorem ask_nil (w : World) :
    Calls Try.prog 59 #[.pointer none] w fun e w' => e = .returned (.bool false) ∧ w = w' := by
  go_enter Try.func59, Try.ntmps59
  go_wp2
  go_ret
  exact ⟨rfl, rfl⟩

set_option maxHeartbeats 400000 in
theorem ask_any (b o : Nat) (n : Int) (w : World) (h2 : w.cell? ⟨b, o + 2, none⟩ = some (.int .i64 n)) (hf : w.frozen? ⟨b, o + 2, none⟩ = false)
    (h0 : 0 ≤ n) (h1 : n < 4611686018427387904) :
    Calls Try.prog 59 #[.pointer (some ⟨b, o, none⟩)] w fun e w' => e = .returned (.bool true) ∧ w.setCell ⟨b, o + 2, none⟩ (.int .i64 (n + 1)) = w' := by
  go_enter Try.func59, Try.ntmps59
  go_wp2
  go_ret
  exact ⟨rfl, rfl⟩

set_option maxHeartbeats 400000 in
theorem write_any (b o : Nat) (x t y : Int) (w : World) (h0 : w.cell? ⟨b, o, none⟩ = some (.int .u64 x)) (h1 : w.cell? ⟨b, o + 1, none⟩ = some (.int .u64 t))
    (hf0 : w.frozen? ⟨b, o, none⟩ = false) (hf1 : w.frozen? ⟨b, o + 1, none⟩ = false) :
    Calls Try.prog 60 #[.pointer (some ⟨b, o, none⟩), .int .u64 y] w fun e w' =>
      e = .returned (.tuple #[]) ∧ (w.setCell ⟨b, o, none⟩ (.int .u64 y)).setCell ⟨b, o + 1, none⟩ (.int .u64 (IntKind.u64.wrap (t + 1))) = w' := by
  go_enter Try.func60, Try.ntmps60
  go_wp2
  go_end0
  exact ⟨rfl, rfl⟩

def LoadTo (w : World) (b o : Nat) (x t n : Int) (e : Ending) (w' : World) : Prop :=
  e = .returned (.tuple #[.int .u64 x, .int .u64 t]) ∧ ∃ k, (w.setCell ⟨b, o + 2, none⟩ (.int .i64 (n + 1))).drewN k = w'

set_option maxHeartbeats 400000 in
theorem load_any (b o : Nat) (x t n : Int) (w : World) (H : CellAt w b o x t n) (h0 : 0 ≤ n) (h1 : n < 4611686018427387904) :
    Calls Try.prog 22 #[.pointer (some ⟨b, o, none⟩)] w (LoadTo w b o x t n) := by
  obtain ⟨c0, c1, c2, f0, f1, f2⟩ := H
  go_enter Try.func22, Try.ntmps22
  go_wp2_with fail
  refine (ask_any b o n _ c2 f2 h0 h1).mono ?_
  rintro e w' ⟨rfl, rfl⟩
  go_wp2_with fail
  go_quiet (fail)
  go_wp2_with fail
  go_ret2
  exact ⟨rfl, _, rfl⟩

set_option maxHeartbeats 400000 in
theorem store_any (b o : Nat) (x t n y : Int) (w : World) (H : CellAt w b o x t n) (h0 : 0 ≤ n) (h1 : n < 4611686018427387904) :
    Calls Try.prog 21 #[.pointer (some ⟨b, o, none⟩), .int .u64 y] w fun e w' =>
      e = .returned (.tuple #[]) ∧ ((w.setCell ⟨b, o + 2, none⟩ (.int .i64 (n + 1))).setCell ⟨b, o, none⟩ (.int .u64 y)).setCell ⟨b, o + 1, none⟩ (.int .u64 (IntKind.u64.wrap (t + 1))) = w' := by
  obtain ⟨c0, c1, c2, f0, f1, f2⟩ := H
  go_enter Try.func21, Try.ntmps21
  go_wp2_with fail
  refine (ask_any b o n _ c2 f2 h0 h1).mono ?_
  rintro e w' ⟨rfl, rfl⟩
  go_wp2_with fail
  refine (write_any b o x t y _ (by go_simp) (by go_simp) (by go_simp) (by go_simp)).mono ?_
  rintro e w' ⟨rfl, rfl⟩
  go_wp2_with fail
  go_end0
  exact ⟨rfl, rfl⟩

set_option maxHeartbeats 400000 in
theorem swap_any (b o : Nat) (x t n y : Int) (w : World) (H : CellAt w b o x t n) (h0 : 0 ≤ n) (h1 : n < 4611686018427387904) :
    Calls Try.prog 25 #[.pointer (some ⟨b, o, none⟩), .int .u64 y] w fun e w' =>
      e = .returned (.int .u64 x) ∧ ((w.setCell ⟨b, o + 2, none⟩ (.int .i64 (n + 1))).setCell ⟨b, o, none⟩ (.int .u64 y)).setCell ⟨b, o + 1, none⟩ (.int .u64 (IntKind.u64.wrap (t + 1))) = w' := by
  obtain ⟨c0, c1, c2, f0, f1, f2⟩ := H
  go_enter Try.func25, Try.ntmps25
  go_wp2_with fail
  refine (ask_any b o n _ c2 f2 h0 h1).mono ?_
  rintro e w' ⟨rfl, rfl⟩
  go_wp2_with fail
  refine (write_any b o x t y _ (by go_simp) (by go_simp) (by go_simp) (by go_simp)).mono ?_
  rintro e w' ⟨rfl, rfl⟩
  go_wp2_with fail
  go_ret
  exact ⟨rfl, rfl⟩

set_option maxHeartbeats 400000 in
theorem cas_yes (b o : Nat) (x t n y : Int) (w : World) (H : CellAt w b o x t n) (h0 : 0 ≤ n) (h1 : n < 4611686018427387904) :
    Calls Try.prog 23 #[.pointer (some ⟨b, o, none⟩), .int .u64 t, .int .u64 y] w fun e w' =>
      e = .returned (.bool true) ∧ ((w.setCell ⟨b, o + 2, none⟩ (.int .i64 (n + 1))).setCell ⟨b, o, none⟩ (.int .u64 y)).setCell ⟨b, o + 1, none⟩ (.int .u64 (IntKind.u64.wrap (t + 1))) = w' := by
  obtain ⟨c0, c1, c2, f0, f1, f2⟩ := H
  go_enter Try.func23, Try.ntmps23
  go_wp2_with fail
  refine (ask_any b o n _ c2 f2 h0 h1).mono ?_
  rintro e w' ⟨rfl, rfl⟩
  go_wp2_with fail
  refine (write_any b o x t y _ (by go_simp) (by go_simp) (by go_simp) (by go_simp)).mono ?_
  rintro e w' ⟨rfl, rfl⟩
  go_wp2_with fail
  go_ret
  exact ⟨rfl, rfl⟩

set_option maxHeartbeats 400000 in
theorem cas_no (b o : Nat) (x t n s y : Int) (w : World) (H : CellAt w b o x t n) (h0 : 0 ≤ n) (h1 : n < 4611686018427387904) (hs : t ≠ s) :
    Calls Try.prog 23 #[.pointer (some ⟨b, o, none⟩), .int .u64 s, .int .u64 y] w fun e w' =>
      e = .returned (.bool false) ∧ w.setCell ⟨b, o + 2, none⟩ (.int .i64 (n + 1)) = w' := by
  obtain ⟨c0, c1, c2, f0, f1, f2⟩ := H
  have hb : (t == s) = false := by simpa using hs
  have hb' : (t != s) = true := by simpa using hs
  go_enter Try.func23, Try.ntmps23
  go_wp2_with fail
  refine (ask_any b o n _ c2 f2 h0 h1).mono ?_
  rintro e w' ⟨rfl, rfl⟩
  go_wp2_with fail
  go_ret
  exact ⟨rfl, rfl⟩

end Go.Proofs.Ytpddlnedaleblaa
