/- What a law asks of a stack of its own besides moves: its rows, its cell, Look, Put, Same. -/
import Derived.Test.YtpddlnedaleblaaStackLone
import Derived.Test.YtpddlnedaleblaaQueueL
namespace Go.Proofs.Ytpddlnedaleblaa
open Go.RowKit

/-- Numbers that a law may read, which lie apart from the stack. -/
structure SArg (w : World) (b : Nat) (A : Option Addr) (n : Nat) (l : List Int) : Prop where
  row : IntRow w w.heap.size A n l
  ap : ∀ ad, A = some ad → ad.spot = none ∧ ad.block ≠ b ∧ ad.block < w.heap.size

theorem SArg.len {w : World} {b : Nat} {A : Option Addr} {n : Nat} {l : List Int} (h : SArg w b A n l) : n = l.length := h.row.len
theorem SArg.keep {w w' : World} {b m : Nat} {A : Option Addr} {n : Nat} {l : List Int} (h : SArg w b A n l) (K : SKeep w w' b m) (hm : ∀ ad, A = some ad → ad.block ≠ m) : SArg w' b A n l :=
  ⟨(IntRow.below h.row (fun ad e => K.eq _ (h.ap ad e).2.2 (h.ap ad e).2.1 (hm ad e))).more K.size, fun ad e => ⟨(h.ap ad e).1, (h.ap ad e).2.1, Nat.lt_of_lt_of_le (h.ap ad e).2.2 K.size⟩⟩
theorem SArg.below {w w' : World} {b : Nat} {A : Option Addr} {n : Nat} {l : List Int} (h : SArg w b A n l) (hb : Below w.heap.size w w') : SArg w' b A n l :=
  ⟨(IntRow.below h.row (fun ad e => hb.block _ (h.ap ad e).2.2)).more hb.size, fun ad e => ⟨(h.ap ad e).1, (h.ap ad e).2.1, Nat.lt_of_lt_of_le (h.ap ad e).2.2 hb.size⟩⟩
theorem SArg.only {w w' : World} {b : Nat} {A : Option Addr} {n : Nat} {l : List Int} (h : SArg w b A n l) (K : Only w w' b) : SArg w' b A n l :=
  ⟨(IntRow.below h.row (fun ad e => K.gr.block _ (h.ap ad e).2.2 (fun e' => (h.ap ad e).2.1 (by injection e')))).more (Nat.le_of_eq K.size.symm), fun ad e => ⟨(h.ap ad e).1, (h.ap ad e).2.1, by rw [K.size]; exact (h.ap ad e).2.2⟩⟩
theorem SArg.get {w : World} {b : Nat} {A : Option Addr} {n k : Nat} {l : List Int} (h : SArg w b A n l) (hk : k < n) :
    ∃ g off x, A = some ⟨g, off, none⟩ ∧ l[k]? = some x ∧ w.cell? ⟨g, off + k, none⟩ = some (.int .i64 x) :=
  h.row.at_ (fun ad e => (h.ap ad e).1) hk

theorem SArg.lit {W w : World} {b : Nat} {s : Stk} {x : Int} {T : TypeId} (H : SSt W w b s) : SArg (w.alloc (.cells #[.int .i64 x] T)) b (some ⟨w.heap.size, 0, none⟩) 1 [x] := by
  refine ⟨by simpa [IntRow] using Reads.new1 w (.int .i64 x) T, fun ad e => ?_⟩
  injection e with e
  subst e
  exact ⟨rfl, by have := H.lt; simp; omega, by simp⟩
theorem SSt.cell {W w : World} {b : Nat} {s : Stk} (H : SSt W w b s) : CellAt w b 0 (hd s.L + 1) s.t s.n := by
  obtain ⟨bel, h, _⟩ := H.at_.obj
  exact h.cellAt (by omega) rfl rfl rfl

/-- 'cell.Asked(s.Cell())'. -/
theorem asked_law {W w : World} {b : Nat} {s : Stk} (H : SSt W w b s) (h0 : 0 ≤ s.n) (h1 : s.n ≤ 1000000) (T : TypeId) :
    Calls Try.prog 28 #[.slice (some ⟨w.heap.size, 0, none⟩) 1 1] (w.alloc (.cells #[.pointer (some ⟨b, 0, none⟩)] T)) fun e w' => e = .returned (.int .i64 s.n) ∧ SSt W w' b s ∧ Below w.heap.size w w' := by
  refine (asked_any _ _ 1 1 _ (AskRow.one (T := T) H.cell h0 (by omega) H.lt) (by omega)).mono ?_
  rintro e w' ⟨rfl, rfl⟩
  have hb : Below w.heap.size w (w.alloc (.cells #[.pointer (some ⟨b, 0, none⟩)] T)) := (Below.refl _ _).alloc (Nat.le_refl _) _
  exact ⟨by simp [askSum, askNum], H.of_below hb, hb⟩

/-- 's.All()'. -/
def AllOf (W w : World) (b : Nat) (s : Stk) (e : Ending) (w' : World) : Prop :=
  ∃ A c, e = .returned (.slice A s.L.length c) ∧ SSt W w' b s ∧ Below w.heap.size w w' ∧ SArg w' b A s.L.length s.L ∧ ∀ ad, A = some ad → w.heap.size ≤ ad.block
theorem all_of {W w : World} {b : Nat} {s : Stk} (H : SSt W w b s) : Calls Try.prog 41 #[.pointer (some ⟨b, 0, none⟩)] w (AllOf W w b s) := by
  have H0 : StackAt w b 0 s.L s.t s.n := H.at_
  refine (allS_any H0).mono ?_
  rintro e w' ⟨v, rfl, ho, hb⟩
  obtain ⟨A, c, rfl, hA, _, _, hrow, _⟩ := own_ints_shape ho
  have hl : ∀ ad, A = some ad → w.heap.size ≤ ad.block ∧ ad.block < w'.heap.size := fun ad e => by
    subst e
    exact ho.lt ad.block rfl
  exact ⟨A, c, rfl, H.of_below hb, hb, ⟨hrow, fun ad e => ⟨hA ad e, by have := (hl ad e).1; have := H.lt; omega, (hl ad e).2⟩⟩, fun ad e => (hl ad e).1⟩

/-- 's.Look()'. -/
theorem SSt.only {W w w' : World} {b : Nat} {s s' : Stk} (H : SSt W w b s) (h : SAt w' b 0 s') (K : Only w w' b) : SSt W w' b s' :=
  ⟨h, ⟨K.gr.os.trans H.below.os, K.gr.tape.trans H.below.tape, K.gr.output.trans H.below.output, by rw [K.size]; exact H.below.size,
    fun k hk => (K.gr.block k (Nat.lt_of_lt_of_le hk H.below.size) (fun e => by have := H.hb; injection e with e; omega)).trans (H.below.block k hk)⟩, H.hb, by rw [K.size]; exact H.lt⟩
theorem look_law {W w : World} {b : Nat} {s : Stk} (H : SSt W w b s) (h0 : 0 ≤ s.n) (h1 : s.n ≤ 1000000) :
    Calls Try.prog 46 #[.pointer (some ⟨b, 0, none⟩)] w fun e w' => e = .returned (.tuple #[.int .i64 (hd s.L), .int .u64 s.t]) ∧ SSt W w' b ⟨s.L, s.t, s.n + 1⟩ ∧ Only w w' b := by
  have H0 : StackAt w b 0 s.L s.t s.n := H.at_
  exact (look_any H0 h0 (by omega)).mono fun _ _ h => ⟨h.1, H.only h.2.1 h.2.2, h.2.2⟩

/-- 'Same' of two rows. -/
theorem same_two (w : World) {b : Nat} {A1 A2 : Option Addr} {n1 c1 n2 c2 : Nat} {l1 l2 : List Int} (h1 : SArg w b A1 n1 l1) (h2 : SArg w b A2 n2 l2) (hn1 : n1 ≤ 1000000) (hn2 : n2 ≤ 1000000) :
    Calls Try.prog 35 #[.slice A1 n1 c1, .slice A2 n2 c2] w fun e w' => e = .returned (.bool (decide (l1 = l2))) ∧ Below w.heap.size w w' :=
  (same_any w _ _ A1 A2 n1 c1 n2 c2 l1 l2 h1.row h2.row (fun ad _ e => (h1.ap ad e).1) (fun ad _ e => (h2.ap ad e).1) (by omega) (by omega)).mono fun _ _ ⟨h, k, e⟩ => ⟨h, by subst e; exact ⟨rfl, rfl, rfl, Nat.le_refl _, fun _ _ => rfl⟩⟩
end Go.Proofs.Ytpddlnedaleblaa
