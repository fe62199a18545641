/- A move that is alone, till it is over: plainly; and what a step leaves. -/
import Derived.Test.YtpddlnedaleblaaStackAlive
namespace Go.Proofs.Ytpddlnedaleblaa
open Go.RowKit

/-- A stack of few writes. -/
structure StkBd (s : Stk) : Prop where
  n0 : 0 ≤ s.n
  n1 : s.n ≤ 1000000
  t0 : 0 ≤ s.t
  t1 : s.t ≤ 1000000

inductive Lone : Mv → Stk → Mv → Stk → Prop
  | over {v : Mv} {s : Stk} (ok : MvOk v s) (bd : StkBd s) (h : v.over = true) : Lone v s v s
  | step {v v' : Mv} {s s' : Stk} (ok : MvOk v s) (bd : StkBd s) (h : v.over = false) (r : Lone (stepV v s).2.1 (stepV v s).2.2 v' s') : Lone v s v' s'

theorem Lone.ok {v v' : Mv} {s s' : Stk} (h : Lone v s v' s') : MvOk v s := by cases h <;> assumption
theorem Lone.bd {v v' : Mv} {s s' : Stk} (h : Lone v s v' s') : StkBd s := by cases h <;> assumption
theorem Lone.done {v v' : Mv} {s s' : Stk} (h : Lone v s v' s') (ho : v.over = true) : v' = v ∧ s' = s := by
  cases h with
  | over => exact ⟨rfl, rfl⟩
  | step _ _ h => rw [ho] at h; cases h
theorem Lone.next {v v' : Mv} {s s' : Stk} (h : Lone v s v' s') (ho : v.over = false) : Lone (stepV v s).2.1 (stepV v s).2.2 v' s' := by
  cases h with
  | over _ _ h => rw [ho] at h; cases h
  | step _ _ _ r => exact r

theorem Lone.step' {v v' v1 : Mv} {s s' s1 : Stk} {r : Bool} (ok : MvOk v s) (bd : StkBd s) (h : v.over = false) (e : stepV v s = (r, v1, s1)) (r : Lone v1 s1 v' s') : Lone v s v' s' :=
  .step ok bd h (by rw [e]; exact r)

theorem step_true {v : Mv} {s : Stk} (h : v.over = false) : (stepV v s).1 = true := by
  unfold stepV
  rw [h]
  simp only [Bool.false_eq_true, if_false]
  repeat (first | rfl | split)

/-- A push that is alone. -/
def pushed (p : Int) (s : Stk) : Stk := if p ∈ s.L then ⟨s.L, s.t, s.n + 1⟩ else ⟨p :: s.L, s.t + 1, s.n + 2⟩
def pushEnd (p : Int) (s : Stk) : Mv := ⟨p, hd s.L, s.t, false, false, true⟩

theorem push_lone {p : Int} {s : Stk} (hp : 0 ≤ p ∧ p < 64) (hL : ∀ p ∈ s.L, 0 ≤ p ∧ p < 64) (n0 : 0 ≤ s.n) (n1 : s.n ≤ 999990) (t0 : 0 ≤ s.t) (t1 : s.t ≤ 999990) : Lone (pushV p) s (pushEnd p s) (pushed p s) := by
  have hh := hd_bd hL
  refine .step' (ok_push hp s) ⟨n0, by omega, t0, by omega⟩ rfl (push_look p s) ?_
  by_cases hm : p ∈ s.L
  · refine .step' ⟨fun _ => hp, hh, fun _ _ h => by simp at h, fun _ _ => rfl⟩ ⟨by simp; omega, by simp; omega, t0, by simp; omega⟩ rfl (push_in p _ _ ⟨s.L, s.t, s.n + 1⟩ hm) ?_
    unfold pushed pushEnd
    rw [if_pos hm]
    exact .over (ok_end (fun _ => hp) hh rfl) ⟨by simp; omega, by simp; omega, t0, by simp; omega⟩ rfl
  · refine .step' ⟨fun _ => hp, hh, fun _ _ h => by simp at h, fun _ _ => rfl⟩ ⟨by simp; omega, by simp; omega, t0, by simp; omega⟩ rfl (push_put p _ ⟨s.L, s.t, s.n + 1⟩ hm) ?_
    unfold pushed pushEnd
    rw [if_neg hm, show s.n + 2 = s.n + 1 + 1 by omega]
    exact .over (ok_end (fun _ => hp) hh rfl) ⟨by simp; omega, by simp; omega, by simp; omega, by simp; omega⟩ rfl

def popped (s : Stk) : Stk := match s.L with
  | [] => ⟨[], s.t, s.n + 1⟩
  | _ :: r => ⟨r, s.t + 1, s.n + 2⟩
def popEnd (s : Stk) : Mv := match s.L with
  | [] => ⟨-1, -1, s.t, true, true, true⟩
  | x :: _ => ⟨x, x, s.t, true, false, true⟩

theorem pop_lone {s : Stk} (hL : ∀ p ∈ s.L, 0 ≤ p ∧ p < 64) (n0 : 0 ≤ s.n) (n1 : s.n ≤ 999990) (t0 : 0 ≤ s.t) (t1 : s.t ≤ 999990) : Lone popV s (popEnd s) (popped s) := by
  obtain ⟨L, t, n⟩ := s
  simp only at hL n0 n1 t0 t1
  have hh := hd_bd hL
  refine .step' (ok_pop _) ⟨n0, by simp; omega, t0, by simp; omega⟩ rfl (pop_look _) ?_
  cases L with
  | nil =>
    exact .over ⟨fun h => by simp at h, by simp [hd], fun _ h => by simp [hd] at h, fun _ _ => rfl⟩ ⟨by simp; omega, by simp; omega, t0, by simp; omega⟩ rfl
  | cons x r =>
    have hx := hL x (by simp)
    have hd1 : decide (hd (x :: r) = -1) = false := decide_eq_false (by simp only [hd]; omega)
    simp only
    rw [hd1]
    refine .step' ⟨fun h => by simp at h, hh, fun _ _ _ => by simp only [hd]; omega, fun _ _ => rfl⟩ ⟨by simp; omega, by simp; omega, t0, by simp; omega⟩ rfl (pop_take _ ⟨x :: r, t, n + 1⟩) ?_
    unfold popped popEnd
    simp only [List.tail_cons, hd]
    rw [show n + 2 = n + 1 + 1 by omega]
    exact .over ⟨fun h => by simp at h, by simp; omega, fun h => by simp at h, fun h => by simp at h⟩ ⟨by simp; omega, by simp; omega, by simp; omega, by simp; omega⟩ rfl

/-- How many steps a move may still do. -/
def moveLeft (b m : Nat) (w : World) : Nat :=
  match w.cell? ⟨b, 2, none⟩, w.cell? ⟨m, 6, none⟩ with
  | some (.int _ k), some (.bool o) => 2 * (1000001 - k.toNat) + (if o then 0 else 1)
  | _, _ => 0
theorem moveLeft_of {W w : World} {b m : Nat} {v : Mv} {s : Stk} (H : SSt W w b s) (M : MoveAt w m b 0 v) : moveLeft b m w = 2 * (1000001 - s.n.toNat) + (if v.over then 0 else 1) := by
  unfold moveLeft
  rw [H.asked, M.cells.2.2.2.2.2.2]

theorem moveLeft_lt {W w w' : World} {b m : Nat} {v : Mv} {s : Stk} (H : SSt W w b s) (M : MoveAt w m b 0 v) (H' : SSt W w' b (stepV v s).2.2) (M' : MoveAt w' m b 0 (stepV v s).2.1) (ho : v.over = false) (hs : StkBd s) : moveLeft b m w' < moveLeft b m w := by
  have h0 := hs.n0
  have h1 := hs.n1
  rw [moveLeft_of H M, moveLeft_of H' M', ho]
  have hk : (stepV v s).2.2.n = s.n + 1 ∨ ((stepV v s).2.2.n = s.n ∧ (stepV v s).2.1.over = true) := by
    unfold stepV
    rw [ho]
    simp only [Bool.false_eq_true, if_false]
    repeat (first | exact .inl rfl | exact .inr ⟨rfl, rfl⟩ | split)
  rcases hk with e | ⟨e, e'⟩
  · rw [e]
    cases (stepV v s).2.1.over <;> simp <;> omega
  · rw [e, e']
    simp

/-- What a step leaves: all but the stack's block and the move's. -/
structure SKeep (w w' : World) (b m : Nat) : Prop where
  size : w.heap.size ≤ w'.heap.size
  eq : ∀ k, k < w.heap.size → k ≠ b → k ≠ m → w'.heap[k]? = w.heap[k]?

theorem Only2.keep {w w' : World} {b m : Nat} (h : Only2 w w' b m) : SKeep w w' b m := ⟨Nat.le_of_eq h.size.symm, h.block⟩
theorem SKeep.refl (w : World) (b m : Nat) : SKeep w w b m := ⟨Nat.le_refl _, fun _ _ _ _ => rfl⟩
theorem SKeep.trans {w w1 w2 : World} {b m : Nat} (h : SKeep w w1 b m) (h' : SKeep w1 w2 b m) : SKeep w w2 b m :=
  ⟨Nat.le_trans h.size h'.size, fun k hk h1 h2 => (h'.eq k (Nat.lt_of_lt_of_le hk h.size) h1 h2).trans (h.eq k hk h1 h2)⟩
theorem SKeep.of_below {w w' : World} {b m : Nat} (h : Below w.heap.size w w') : SKeep w w' b m := ⟨h.size, fun k hk _ _ => h.block k hk⟩

/-- Another stack stays. -/
theorem SSt.keep {W w w' : World} {b b2 m : Nat} {s s2 : Stk} (H : SSt W w b2 s2) (H' : SSt W w' b s) (K : SKeep w w' b m) (h1 : b2 ≠ b) (h2 : b2 ≠ m) : SSt W w' b2 s2 :=
  ⟨StackAt.of_block H.at_ (K.eq b2 H.lt h1 h2), H'.below, H.hb, Nat.lt_of_lt_of_le H.lt K.size⟩

/-- Bytes that came in. -/
def Bytes (W : World) (A : Option Addr) (n : Nat) (f : Nat → Nat) : Prop := ∀ i, i < n → ∃ g off, A = some ⟨g, off, none⟩ ∧ g < W.heap.size ∧ f i < 256 ∧ W.cell? ⟨g, off + i, none⟩ = some (.int .u8 (f i))

theorem mod64 (k : Nat) (h : k < 256) : 0 ≤ ((k : Int) % 64) ∧ ((k : Int) % 64) < 64 := by omega

theorem SSt.n_of {W w : World} {b : Nat} {s : Stk} (H : SSt W w b s) : ∀ p ∈ s.L, 0 ≤ p ∧ p < 64 := H.at_.bd
end Go.Proofs.Ytpddlnedaleblaa
