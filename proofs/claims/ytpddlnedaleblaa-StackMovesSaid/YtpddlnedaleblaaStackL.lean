/- A stack of a law's own: new; its moves; what stays. -/
import Derived.Test.YtpddlnedaleblaaStackAll
namespace Go.Proofs.Ytpddlnedaleblaa
open Go.RowKit

theorem zero_stack : Try.zeroCells71 = ((List.range 132).map (stkV [] 0 0 (fun _ => 0))).toArray := by kernel_rfl

theorem SAt.new (w : World) : SAt (w.alloc (.cells Try.zeroCells71 71)) w.heap.size 0 ⟨[], 0, 0⟩ := by
  have h := Obj_.new w Try.zeroCells71 71
  have hs : Try.zeroCells71.size = 132 := by rw [zero_stack]; simp
  rw [hs] at h
  refine ⟨⟨fun _ => 0, h.congr (fun j hj => ?_), trivial, fun j _ => by simp⟩, List.nodup_nil, fun p hp => by simp at hp⟩
  rw [zero_stack]
  simp [hj]

/-- A stack of the law's own. -/
structure SSt (W w : World) (b : Nat) (s : Stk) : Prop where
  at_ : SAt w b 0 s
  below : Below W.heap.size W w
  hb : W.heap.size ≤ b
  lt : b < w.heap.size

theorem SSt.new {W w : World} (h : Below W.heap.size W w) : SSt W (w.alloc (.cells Try.zeroCells71 71)) w.heap.size ⟨[], 0, 0⟩ :=
  ⟨SAt.new w, h.alloc h.size _, h.size, by simp⟩

theorem SSt.of_below {W w w' : World} {b : Nat} {s : Stk} (H : SSt W w b s) (h : Below w.heap.size w w') : SSt W w' b s :=
  ⟨StackAt.of_block H.at_ (h.block b H.lt), H.below.trans (h.mono H.below.size), H.hb, Nat.lt_of_lt_of_le H.lt h.size⟩

theorem MoveAt.of_below {w w' : World} {m b o : Nat} {v : Mv} (M : MoveAt w m b o v) (h : Below w.heap.size w w') : MoveAt w' m b o v :=
  Obj_.of_block M (h.block m (Obj_.lt M (by omega)))

/-- A move's step, at a stack of the law's own. -/
theorem step_law {W w : World} {b m : Nat} {v : Mv} {s : Stk} (H : SSt W w b s) (M : MoveAt w m b 0 v) (hmb : m ≠ b) (hW : W.heap.size ≤ m) (hv : MvOk v s) (h0 : 0 ≤ s.n) (h1 : s.n < 4611686018427387904) (t0 : 0 ≤ s.t) (t1 : s.t < 4611686018427387904) :
    Calls Try.prog 42 #[.pointer (some ⟨m, 0, none⟩)] w fun e w' => e = .returned (.bool (stepV v s).1) ∧ SSt W w' b (stepV v s).2.2 ∧ MoveAt w' m b 0 (stepV v s).2.1 ∧ Only2 w w' b m :=
  (step_any H.at_ M hmb hv h0 h1 t0 t1).mono fun _ _ h => ⟨h.1, ⟨h.2.1, ⟨h.2.2.2.os.trans H.below.os, h.2.2.2.tape.trans H.below.tape, h.2.2.2.output.trans H.below.output, by rw [h.2.2.2.size]; exact H.below.size,
    fun k hk => (h.2.2.2.block k (Nat.lt_of_lt_of_le hk H.below.size) (by have := H.hb; omega) (by omega)).trans (H.below.block k hk)⟩, H.hb, by rw [h.2.2.2.size]; exact H.lt⟩, h.2.2.1, h.2.2.2⟩

/-- Another move stays. -/
theorem MoveAt.other {w w' : World} {m m' b o : Nat} {v : Mv} (M : MoveAt w m' b o v) (h : Only2 w w' b m) (hb : m' ≠ b) (hm : m' ≠ m) : MoveAt w' m' b o v :=
  Obj_.of_block M (h.block m' (Obj_.lt M (by omega)) hb hm)
end Go.Proofs.Ytpddlnedaleblaa
