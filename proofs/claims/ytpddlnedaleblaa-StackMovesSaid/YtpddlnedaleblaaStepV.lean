/- A step of a move, plainly: one contract for all its ways. -/
import Derived.Test.YtpddlnedaleblaaStep
namespace Go.Proofs.Ytpddlnedaleblaa
open Go.RowKit

/-- A stack, plainly: who is in it, how often it was written, and asked. -/
structure Stk where
  L : List Int
  t : Int
  n : Int

def stepV (v : Mv) (s : Stk) : Bool × Mv × Stk :=
  if v.over then (false, v, s)
  else if v.looked = false then (true, ⟨v.place, hd s.L, s.t, v.pop, true, v.pop && decide (hd s.L = -1)⟩, ⟨s.L, s.t, s.n + 1⟩)
  else if v.pop then
    if s.t ≠ v.tag then (true, ⟨v.place, v.seen, v.tag, v.pop, false, v.over⟩, ⟨s.L, s.t, s.n + 1⟩)
    else (true, ⟨v.seen, v.seen, v.tag, v.pop, false, true⟩, ⟨s.L.tail, s.t + 1, s.n + 1⟩)
  else if v.place ∈ s.L then (true, ⟨v.place, v.seen, v.tag, v.pop, false, true⟩, s)
  else if s.t ≠ v.tag then (true, ⟨v.place, v.seen, v.tag, v.pop, false, false⟩, ⟨s.L, s.t, s.n + 1⟩)
  else (true, ⟨v.place, v.seen, v.tag, v.pop, false, true⟩, ⟨v.place :: s.L, s.t + 1, s.n + 1⟩)

/-- What holds of each move at a stack. -/
structure MvOk (v : Mv) (s : Stk) : Prop where
  place : v.pop = false → 0 ≤ v.place ∧ v.place < 64
  seen : -1 ≤ v.seen ∧ v.seen < 64
  some_ : v.looked = true → v.over = false → v.pop = true → v.seen ≠ -1
  top : v.looked = true → v.tag = s.t → v.seen = hd s.L

def SAt (w : World) (b o : Nat) (s : Stk) : Prop := StackAt w b o s.L s.t s.n

theorem step_any {w : World} {m b o : Nat} {v : Mv} {s : Stk} (H : SAt w b o s) (M : MoveAt w m b o v) (hmb : m ≠ b) (hv : MvOk v s) (h0 : 0 ≤ s.n) (h1 : s.n < 4611686018427387904) (t0 : 0 ≤ s.t) (t1 : s.t < 4611686018427387904) :
    Calls Try.prog 42 #[.pointer (some ⟨m, 0, none⟩)] w fun e w' => e = .returned (.bool (stepV v s).1) ∧ SAt w' b o (stepV v s).2.2 ∧ MoveAt w' m b o (stepV v s).2.1 ∧ Only2 w w' b m := by
  unfold stepV
  cases ho : v.over with
  | true =>
    simp only [if_true]
    exact (step_over M ho).mono fun _ _ h => ⟨h.1, h.2 ▸ H, h.2 ▸ M, h.2 ▸ Only2.refl w b m⟩
  | false =>
    simp only [Bool.false_eq_true, if_false]
    by_cases hl : v.looked = false
    · rw [if_pos hl]
      exact (step_look H M hmb ho hl h0 h1).mono fun _ _ h => h
    · rw [if_neg hl]
      have hl' : v.looked = true := by simpa using hl
      cases hp : v.pop with
      | true =>
        simp only [if_true]
        have hne := hv.some_ hl' ho hp
        obtain ⟨q, hq⟩ : ∃ q : Nat, v.seen = q := ⟨v.seen.toNat, by have := hv.seen; omega⟩
        have hq64 : q < 64 := by have := hv.seen; omega
        by_cases ht : s.t ≠ v.tag
        · rw [if_pos ht]
          refine (step_take_no q hp hq64 hq ht H M hmb ho hl' h0 h1).mono fun _ _ h => ⟨h.1, h.2.1, ?_, h.2.2.2⟩
          have := h.2.2.1
          rw [hp, ho] at this
          exact this
        · rw [if_neg ht]
          have ht' : v.tag = s.t := (Decidable.not_not.1 ht).symm
          have hh := hv.top hl' ht'
          obtain ⟨L, t, n⟩ := s
          cases L with
          | nil => exact absurd hh hne
          | cons p r =>
            have hpq : p = (q : Int) := by simp only [hd] at hh; omega
            subst hpq
            refine (step_take_yes q r rfl hp hq64 hq ht' t0 t1 H M hmb ho hl' h0 h1).mono fun _ _ h => ⟨h.1, h.2.1, ?_, h.2.2.2⟩
            have := h.2.2.1
            rw [hp] at this
            exact this
      | false =>
        simp only [Bool.false_eq_true, if_false]
        obtain ⟨p0, p1⟩ := hv.place hp
        obtain ⟨q, hq⟩ : ∃ q : Nat, v.place = q := ⟨v.place.toNat, by omega⟩
        have hq64 : q < 64 := by omega
        by_cases hm : v.place ∈ s.L
        · rw [if_pos hm]
          refine (step_put_there q hp hq64 hq (hq ▸ hm) hv.seen H M hmb ho hl' h0 h1).mono fun _ _ h => ⟨h.1, h.2.1, ?_, h.2.2.2⟩
          have := h.2.2.1
          rw [hp] at this
          exact this
        · rw [if_neg hm]
          by_cases ht : s.t ≠ v.tag
          · rw [if_pos ht]
            refine (step_put_no q hp hq64 hq (hq ▸ hm) hv.seen ht H M hmb ho hl' h0 h1).mono fun _ _ h => ⟨h.1, h.2.1, ?_, h.2.2.2⟩
            have := h.2.2.1
            rw [hp] at this
            exact this
          · rw [if_neg ht]
            have ht' : v.tag = s.t := (Decidable.not_not.1 ht).symm
            refine (step_put_yes q hp hq64 hq (hq ▸ hm) hv.seen (hv.top hl' ht') ht' t0 t1 H M hmb ho hl' h0 h1).mono fun _ _ h => ⟨h.1, ?_, ?_, h.2.2.2⟩
            · have := h.2.1
              rw [← hq] at this
              exact this
            · have := h.2.2.1
              rw [hp] at this
              exact this
end Go.Proofs.Ytpddlnedaleblaa
