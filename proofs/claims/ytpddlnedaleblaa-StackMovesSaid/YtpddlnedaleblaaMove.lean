/- A move of the stack, walked. -/
import Derived.Test.YtpddlnedaleblaaStackP
namespace Go.Proofs.Ytpddlnedaleblaa
open Go.RowKit

structure Mv where
  place : Int
  seen : Int
  tag : Int
  pop : Bool
  looked : Bool
  over : Bool

def mvV (b o : Nat) (v : Mv) : Nat → Value
  | 0 => .pointer (some ⟨b, o, none⟩)
  | 1 => .int .i64 v.place
  | 2 => .int .i64 v.seen
  | 3 => .int .u64 v.tag
  | 4 => .bool v.pop
  | 5 => .bool v.looked
  | _ => .bool v.over

def MoveAt (w : World) (m b o : Nat) (v : Mv) : Prop := Obj_ w m 0 7 (mvV b o v)

theorem MoveAt.cells {w : World} {m b o : Nat} {v : Mv} (h : MoveAt w m b o v) : w.cell? ⟨m, 0, none⟩ = some (.pointer (some ⟨b, o, none⟩)) ∧ w.cell? ⟨m, 1, none⟩ = some (.int .i64 v.place) ∧ w.cell? ⟨m, 2, none⟩ = some (.int .i64 v.seen) ∧ w.cell? ⟨m, 3, none⟩ = some (.int .u64 v.tag) ∧
    w.cell? ⟨m, 4, none⟩ = some (.bool v.pop) ∧ w.cell? ⟨m, 5, none⟩ = some (.bool v.looked) ∧ w.cell? ⟨m, 6, none⟩ = some (.bool v.over) := by
  have hc : ∀ j, j < 7 → w.cell? ⟨m, j, none⟩ = some (mvV b o v j) := fun j hj => by have := h.cell j hj; rwa [Nat.zero_add] at this
  exact ⟨hc 0 (by omega), hc 1 (by omega), hc 2 (by omega), hc 3 (by omega), hc 4 (by omega), hc 5 (by omega), hc 6 (by omega)⟩
theorem MoveAt.frz {w : World} {m b o : Nat} {v : Mv} (h : MoveAt w m b o v) : w.frozen? ⟨m, 0, none⟩ = false ∧ w.frozen? ⟨m, 1, none⟩ = false ∧ w.frozen? ⟨m, 2, none⟩ = false ∧ w.frozen? ⟨m, 3, none⟩ = false ∧
    w.frozen? ⟨m, 4, none⟩ = false ∧ w.frozen? ⟨m, 5, none⟩ = false ∧ w.frozen? ⟨m, 6, none⟩ = false := by
  have hc : ∀ j, j < 7 → w.frozen? ⟨m, j, none⟩ = false := fun j hj => by have := Obj_.frz h j hj; rwa [Nat.zero_add] at this
  exact ⟨hc 0 (by omega), hc 1 (by omega), hc 2 (by omega), hc 3 (by omega), hc 4 (by omega), hc 5 (by omega), hc 6 (by omega)⟩

set_option maxHeartbeats 400000 in
theorem done_any {w : World} {m b o : Nat} {v : Mv} (H : MoveAt w m b o v) : Calls Try.prog 43 #[.pointer (some ⟨m, 0, none⟩)] w fun e w' => e = .returned (.bool v.over) ∧ w = w' := by
  obtain ⟨_, _, _, _, _, _, h6⟩ := H.cells
  clear H
  generalize v.over = x at *
  go_enter Try.func43, Try.ntmps43
  go_wp2_with fail
  go_ret
  exact ⟨by simp, rfl⟩

set_option maxHeartbeats 400000 in
theorem place_any {w : World} {m b o : Nat} {v : Mv} (H : MoveAt w m b o v) : Calls Try.prog 44 #[.pointer (some ⟨m, 0, none⟩)] w fun e w' => e = .returned (.int .i64 v.place) ∧ w = w' := by
  obtain ⟨_, h1, _, _, _, _, _⟩ := H.cells
  clear H
  generalize v.place = x at *
  go_enter Try.func44, Try.ntmps44
  go_wp2_with fail
  go_ret
  exact ⟨rfl, rfl⟩

/-- A new move. -/
def NewMove (w : World) (b o : Nat) (v : Mv) (e : Ending) (w' : World) : Prop :=
  e = .returned (.tuple #[.pointer (some ⟨w.heap.size, 0, none⟩), .int .i64 0]) ∧ MoveAt w' w.heap.size b o v ∧ Below w.heap.size w w' ∧ w'.heap.size = w.heap.size + 1

theorem MoveAt.new (w : World) (b o : Nat) (v : Mv) (T : TypeId) : MoveAt (w.alloc (.cells #[.pointer (some ⟨b, o, none⟩), .int .i64 v.place, .int .i64 v.seen, .int .u64 v.tag, .bool v.pop, .bool v.looked, .bool v.over] T)) w.heap.size b o v :=
  (Obj_.new w _ T).congr (fun j hj => by
    simp at hj
    match j, hj with
    | 0, _ => rfl
    | 1, _ => rfl
    | 2, _ => rfl
    | 3, _ => rfl
    | 4, _ => rfl
    | 5, _ => rfl
    | 6, _ => rfl)

set_option maxHeartbeats 400000 in
theorem pushM_any (w : World) (b o q : Nat) (hq : q < 64) : Calls Try.prog 39 #[.pointer (some ⟨b, o, none⟩), .int .i64 q] w (NewMove w b o ⟨q, 0, 0, false, false, false⟩) := by
  go_enter Try.func39, Try.ntmps39
  go_wp2_with fail
  (with_reducible refine (is_any _ _).mono ?_)
  rintro e w1 ⟨rfl, rfl⟩
  rw [is_yes q hq]
  go_wp2_with fail
  go_ret2
  exact ⟨rfl, MoveAt.new w b o ⟨q, 0, 0, false, false, false⟩ _, (Below.refl _ _).alloc (Nat.le_refl _) _, by simp⟩

set_option maxHeartbeats 400000 in
theorem popM_any (w : World) (b o : Nat) : Calls Try.prog 40 #[.pointer (some ⟨b, o, none⟩)] w (NewMove w b o ⟨-1, 0, 0, true, false, false⟩) := by
  go_enter Try.func40, Try.ntmps40
  go_wp2_with fail
  go_ret2
  exact ⟨rfl, MoveAt.new w b o ⟨-1, 0, 0, true, false, false⟩ _, (Below.refl _ _).alloc (Nat.le_refl _) _, by simp⟩

set_option maxHeartbeats 400000 in
theorem pop_nil (w : World) : Calls Try.prog 40 #[.pointer none] w fun e w' => e = .returned (.tuple #[.pointer none, .int .i64 1]) ∧ w = w' := by
  go_enter Try.func40, Try.ntmps40
  go_wp2_with fail
  go_ret2
  exact ⟨rfl, rfl⟩

set_option maxHeartbeats 400000 in
theorem cell_ptr (w : World) (b o : Nat) : Calls Try.prog 51 #[.pointer (some ⟨b, o, none⟩)] w fun e w' => e = .returned (.pointer (some ⟨b, o, none⟩)) ∧ w = w' := by
  go_enter Try.func51, Try.ntmps51
  go_wp2_with fail
  go_ret
  exact ⟨rfl, rfl⟩
end Go.Proofs.Ytpddlnedaleblaa
