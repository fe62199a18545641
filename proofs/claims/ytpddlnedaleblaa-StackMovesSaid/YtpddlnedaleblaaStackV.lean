/- A push alone, a pop alone: plainly. -/
import Derived.Test.YtpddlnedaleblaaStackL
namespace Go.Proofs.Ytpddlnedaleblaa

def pushV (p : Int) : Mv := ⟨p, 0, 0, false, false, false⟩
def popV : Mv := ⟨-1, 0, 0, true, false, false⟩

theorem push_look (p : Int) (s : Stk) : stepV (pushV p) s = (true, ⟨p, hd s.L, s.t, false, true, false⟩, ⟨s.L, s.t, s.n + 1⟩) := by simp [stepV, pushV]
theorem push_in (p x t : Int) (s : Stk) (h : p ∈ s.L) : stepV ⟨p, x, t, false, true, false⟩ s = (true, ⟨p, x, t, false, false, true⟩, s) := by simp [stepV, h]
theorem push_put (p x : Int) (s : Stk) (h : p ∉ s.L) : stepV ⟨p, x, s.t, false, true, false⟩ s = (true, ⟨p, x, s.t, false, false, true⟩, ⟨p :: s.L, s.t + 1, s.n + 1⟩) := by simp [stepV, h]
theorem pop_look (s : Stk) : stepV popV s = (true, ⟨-1, hd s.L, s.t, true, true, decide (hd s.L = -1)⟩, ⟨s.L, s.t, s.n + 1⟩) := by simp [stepV, popV]
theorem pop_take (x : Int) (s : Stk) : stepV ⟨-1, x, s.t, true, true, false⟩ s = (true, ⟨x, x, s.t, true, false, true⟩, ⟨s.L.tail, s.t + 1, s.n + 1⟩) := by simp [stepV]
theorem step_end (v : Mv) (s : Stk) (h : v.over = true) : stepV v s = (false, v, s) := by simp [stepV, h]

theorem ok_push {p : Int} (h : 0 ≤ p ∧ p < 64) (s : Stk) : MvOk (pushV p) s := ⟨fun _ => h, by simp [pushV], by simp [pushV], by simp [pushV]⟩
theorem ok_pop (s : Stk) : MvOk popV s := ⟨by simp [popV], by simp [popV], by simp [popV], by simp [popV]⟩
theorem ok_end {v : Mv} {s : Stk} (hp : v.pop = false → 0 ≤ v.place ∧ v.place < 64) (hs : -1 ≤ v.seen ∧ v.seen < 64) (hl : v.looked = false) : MvOk v s := ⟨hp, hs, by simp [hl], by simp [hl]⟩

/-- What all moves know stays true when one of them steps. -/
theorem MvOk.self {v : Mv} {s : Stk} (h : MvOk v s) (hb : ∀ p ∈ s.L, 0 ≤ p ∧ p < 64) : MvOk (stepV v s).2.1 (stepV v s).2.2 := by
  have hh := hd_bd hb
  unfold stepV
  cases ho : v.over with
  | true => simpa using h
  | false =>
    simp only [Bool.false_eq_true, if_false]
    by_cases hl : v.looked = false
    · rw [if_pos hl]
      exact ⟨h.place, hh, (fun _ h2 h3 e => by simp at h2 h3 e; exact h2 h3 e), fun _ _ => rfl⟩
    · rw [if_neg hl]
      cases hp : v.pop with
      | true =>
        simp only [if_true]
        split
        · exact ⟨(fun e => by cases e), h.seen, (fun e => by cases e), (fun e => by cases e)⟩
        · exact ⟨(fun e => by cases e), h.seen, (fun e => by cases e), (fun e => by cases e)⟩
      | false =>
        simp only [Bool.false_eq_true, if_false]
        split
        · exact ⟨fun _ => h.place hp, h.seen, (fun e => by cases e), (fun e => by cases e)⟩
        · split
          · exact ⟨fun _ => h.place hp, h.seen, (fun e => by cases e), (fun e => by cases e)⟩
          · exact ⟨fun _ => h.place hp, h.seen, (fun e => by cases e), (fun e => by cases e)⟩

/-- Tags only grow: a move that has looked has a tag of no more than the stack's. -/
def TagOk (v : Mv) (s : Stk) : Prop := v.looked = true → v.tag ≤ s.t

theorem TagOk.self {v : Mv} {s : Stk} (h : TagOk v s) : TagOk (stepV v s).2.1 (stepV v s).2.2 := by
  unfold stepV TagOk
  split
  · exact h
  · split
    · intro _; exact Int.le_refl _
    · split
      · split <;> (intro e; cases e)
      · split
        · intro e; cases e
        · split <;> (intro e; cases e)

theorem other_ok {u v : Mv} {s : Stk} (h : MvOk u s) (ht : TagOk u s) : MvOk u (stepV v s).2.2 ∧ TagOk u (stepV v s).2.2 := by
  have hsame : ∀ n, MvOk u ⟨s.L, s.t, n⟩ ∧ TagOk u ⟨s.L, s.t, n⟩ := fun n => ⟨⟨h.place, h.seen, h.some_, h.top⟩, ht⟩
  have hnew : ∀ L n, MvOk u ⟨L, s.t + 1, n⟩ ∧ TagOk u ⟨L, s.t + 1, n⟩ := fun L n =>
    ⟨⟨h.place, h.seen, h.some_, (fun h1 h2 => by have := ht h1; simp at h2; omega)⟩, (fun h1 => by have := ht h1; simp; omega)⟩
  unfold stepV
  split
  · exact ⟨h, ht⟩
  · split
    · exact hsame _
    · split
      · split
        · exact hsame _
        · exact hnew _ _
      · split
        · exact ⟨h, ht⟩
        · split
          · exact hsame _
          · exact hnew _ _
open Go.RowKit

/-- A move begins. -/
def Begins (W w : World) (b : Nat) (s : Stk) (v : Mv) (e : Ending) (w' : World) : Prop :=
  ∃ m, e = .returned (.tuple #[.pointer (some ⟨m, 0, none⟩), .int .i64 0]) ∧ m = w.heap.size ∧ m ≠ b ∧ W.heap.size ≤ m ∧ SSt W w' b s ∧ MoveAt w' m b 0 v ∧ Below w.heap.size w w'

theorem pushL {W w : World} {b : Nat} {s : Stk} (H : SSt W w b s) (p : Int) (hp : 0 ≤ p ∧ p < 64) : Calls Try.prog 39 #[.pointer (some ⟨b, 0, none⟩), .int .i64 p] w (Begins W w b s (pushV p)) := by
  obtain ⟨q, rfl⟩ : ∃ q : Nat, p = (q : Int) := ⟨p.toNat, by omega⟩
  exact (pushM_any w b 0 q (by omega)).mono fun e w' h => ⟨w.heap.size, h.1, rfl, by have := H.lt; omega, H.below.size, H.of_below h.2.2.1, h.2.1, h.2.2.1⟩
theorem popL {W w : World} {b : Nat} {s : Stk} (H : SSt W w b s) : Calls Try.prog 40 #[.pointer (some ⟨b, 0, none⟩)] w (Begins W w b s popV) :=
  (popM_any w b 0).mono fun e w' h => ⟨w.heap.size, h.1, rfl, by have := H.lt; omega, H.below.size, H.of_below h.2.2.1, h.2.1, h.2.2.1⟩

end Go.Proofs.Ytpddlnedaleblaa
