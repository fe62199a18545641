/- The reference of layer 13, walked. -/
import Derived.Test.YtpddlnedaleblaaStackRow
import Derived.Test.YtpddlnedaleblaaStackV
import Derived.Test.YtpddlnedaleblaaStackLast
import Derived.Deep.RegionLaw
namespace Go.Proofs.Ytpddlnedaleblaa
open Go.RowKit

/-- The reference's stack at block so; its row's block. -/
structure RStk (w : World) (so : Nat) (s : Stk) (a : Option Nat) : Prop where
  row : ∃ A c, w.cell? ⟨so, 0, none⟩ = some (.slice A s.L.length c) ∧ s.L.length ≤ c ∧ c ≤ maxLen ∧ SArg w so A s.L.length s.L ∧ A.map (·.block) = a
  tag : w.cell? ⟨so, 1, none⟩ = some (.int .u64 s.t)
  ask : w.cell? ⟨so, 2, none⟩ = some (.int .i64 s.n)
  frz : ∀ j, j < 3 → w.frozen? ⟨so, j, none⟩ = false
  bd : ∀ p ∈ s.L, 0 ≤ p ∧ p < 64

theorem RStk.lt {w : World} {so : Nat} {s : Stk} {a : Option Nat} (h : RStk w so s a) : so < w.heap.size := World.block_lt_of_cell? w _ h.tag
theorem RStk.a_ne {w : World} {so : Nat} {s : Stk} {a : Option Nat} (h : RStk w so s a) {k : Nat} (e : a = some k) : k ≠ so ∧ k < w.heap.size := by
  obtain ⟨A, c, _, _, _, hr, ha⟩ := h.row
  subst ha
  cases A with
  | none => cases e
  | some ad => simp at e; subst e; exact (hr.ap ad rfl).2

theorem RStk.stays {w w' : World} {so : Nat} {s : Stk} {a : Option Nat} (h : RStk w so s a) (hs : w.heap.size ≤ w'.heap.size) (h1 : w'.heap[so]? = w.heap[so]?) (h2 : ∀ k, a = some k → w'.heap[k]? = w.heap[k]?) : RStk w' so s a := by
  obtain ⟨A, c, hc, hl, hm, hr, e⟩ := h.row
  refine ⟨⟨A, c, (World.cell?_of_block (a := ⟨so, 0, none⟩) h1).trans hc, hl, hm, ⟨(IntRow.below hr.row (fun ad ea => h2 _ (by rw [← e, ea]; rfl))).more hs, fun ad ea => ⟨(hr.ap ad ea).1, (hr.ap ad ea).2.1, Nat.lt_of_lt_of_le (hr.ap ad ea).2.2 hs⟩⟩, e⟩, (World.cell?_of_block (a := ⟨so, 1, none⟩) h1).trans h.tag, (World.cell?_of_block (a := ⟨so, 2, none⟩) h1).trans h.ask, fun j hj => (World.frozen?_of_block (a := ⟨so, j, none⟩) h1).trans (h.frz j hj), h.bd⟩

/-- One cell of the stack turned. -/
theorem SArg.set_own {w : World} {so : Nat} {A : Option Addr} {n : Nat} {l : List Int} (h : SArg w so A n l) (i : Nat) (v : Value) : SArg (w.setCell ⟨so, i, none⟩ v) so A n l :=
  ⟨(IntRow.below h.row (fun ad e => Below.heap_setCell w ⟨so, i, none⟩ v ad.block (h.ap ad e).2.1)).more (by simp [World.setCell]), fun ad e => ⟨(h.ap ad e).1, (h.ap ad e).2.1, by simpa [World.setCell] using (h.ap ad e).2.2⟩⟩

theorem RStk.ask1 {w : World} {so : Nat} {s : Stk} {a : Option Nat} (h : RStk w so s a) (n : Int) : RStk (w.setCell ⟨so, 2, none⟩ (.int .i64 n)) so ⟨s.L, s.t, n⟩ a := by
  obtain ⟨A, c, hc, hl, hm, hr, e⟩ := h.row
  have h1 := h.tag
  have h2 := h.ask
  exact ⟨⟨A, c, by go_simp, hl, hm, hr.set_own _ _, e⟩, by go_simp, by go_simp, fun j hj => by simpa using h.frz j hj, h.bd⟩
theorem RStk.tag1 {w : World} {so : Nat} {s : Stk} {a : Option Nat} (h : RStk w so s a) (t : Int) : RStk (w.setCell ⟨so, 1, none⟩ (.int .u64 t)) so ⟨s.L, t, s.n⟩ a := by
  obtain ⟨A, c, hc, hl, hm, hr, e⟩ := h.row
  have h1 := h.tag
  have h2 := h.ask
  exact ⟨⟨A, c, by go_simp, hl, hm, hr.set_own _ _, e⟩, by go_simp, by go_simp, fun j hj => by simpa using h.frz j hj, h.bd⟩
theorem RStk.row1 {w : World} {so : Nat} {s : Stk} {a : Option Nat} (h : RStk w so s a) {A : Option Addr} {c : Nat} {l : List Int} (hl : l.length ≤ c) (hm : c ≤ maxLen) (hr : SArg w so A l.length l) (hb : ∀ p ∈ l, 0 ≤ p ∧ p < 64) : RStk (w.setCell ⟨so, 0, none⟩ (.slice A l.length c)) so ⟨l, s.t, s.n⟩ (A.map (·.block)) := by
  obtain ⟨A0, c0, hc, _⟩ := h.row
  have h1 := h.tag
  have h2 := h.ask
  exact ⟨⟨A, c, by go_simp, hl, hm, hr.set_own _ _, rfl⟩, by go_simp, by go_simp, fun j hj => by simpa using h.frz j hj, hb⟩
theorem RStk.drewN {w : World} {so : Nat} {s : Stk} {a : Option Nat} (h : RStk w so s a) (k : Nat) : RStk (w.drewN k) so s a := h.stays (Nat.le_refl _) rfl (fun _ _ => rfl)

theorem RStk.drew {w : World} {so : Nat} {s : Stk} {a : Option Nat} (h : RStk w so s a) : RStk w.drew so s a := h.stays (Nat.le_refl _) rfl (fun _ _ => rfl)

/-- What the reference leaves: all blocks that were there, but its own two. -/
structure RKeep (w w' : World) (so m : Nat) : Prop where
  os : w'.os = w.os
  tape : w'.tape = w.tape
  output : w'.output = w.output
  size : w.heap.size ≤ w'.heap.size
  block : ∀ k, k < w.heap.size → k ≠ so → k ≠ m → w'.heap[k]? = w.heap[k]?
theorem RKeep.refl (w : World) (so m : Nat) : RKeep w w so m := ⟨rfl, rfl, rfl, Nat.le_refl _, fun _ _ _ _ => rfl⟩
theorem RKeep.trans {w w1 w2 : World} {so m : Nat} (h : RKeep w w1 so m) (h' : RKeep w1 w2 so m) : RKeep w w2 so m :=
  ⟨h'.os.trans h.os, h'.tape.trans h.tape, h'.output.trans h.output, Nat.le_trans h.size h'.size, fun k hk h1 h2 => (h'.block k (Nat.lt_of_lt_of_le hk h.size) h1 h2).trans (h.block k hk h1 h2)⟩
theorem RKeep.set {w w' : World} {so m b : Nat} (h : RKeep w w' so m) (hb : b = so ∨ b = m) (i : Nat) (v : Value) : RKeep w (w'.setCell ⟨b, i, none⟩ v) so m :=
  ⟨h.os, h.tape, h.output, by simpa [World.setCell] using h.size, fun k hk h1 h2 => (Below.heap_setCell w' ⟨b, i, none⟩ v k (fun e => by simp at e; rcases hb with e' | e' <;> omega)).trans (h.block k hk h1 h2)⟩
theorem RKeep.drewN {w w' : World} {so m : Nat} (h : RKeep w w' so m) (k : Nat) : RKeep w (w'.drewN k) so m := ⟨h.os, h.tape, h.output, h.size, h.block⟩
theorem RKeep.of_below {w w' : World} {so m : Nat} (h : Below w.heap.size w w') : RKeep w w' so m := ⟨h.os, h.tape, h.output, h.size, fun k hk _ _ => h.block k hk⟩

theorem RKeep.wide {w w' : World} {so : Nat} (h : RKeep w w' so so) (m : Nat) : RKeep w w' so m := ⟨h.os, h.tape, h.output, h.size, fun k hk h1 _ => h.block k hk h1 h1⟩

/-- The row behind: the one that was there, or a new one. -/
def ANew (w : World) (a a' : Option Nat) : Prop := a' = a ∨ ∀ k, a' = some k → w.heap.size ≤ k


set_option maxRecDepth 100000 in
set_option maxHeartbeats 1000000 in
theorem refLook13 {w : World} {so : Nat} {s : Stk} {a : Option Nat} (H : RStk w so s a) (hl : s.L.length ≤ 1000) (h0 : 0 ≤ s.n) (h1 : s.n ≤ 1000000) (m : Nat) :
    Calls Try.prog 73 #[.pointer (some ⟨so, 0, none⟩)] w fun e w' => e = .returned (.tuple #[.int .i64 (hd s.L), .int .u64 s.t]) ∧ RStk w' so ⟨s.L, s.t, s.n + 1⟩ a ∧ RKeep w w' so m := by
  obtain ⟨A, c, hc, hlc, hm, hr, e⟩ := H.row
  have ht := H.tag
  have hk := H.ask
  have f0 := H.frz 0 (by omega)
  have f1 := H.frz 1 (by omega)
  have f2 := H.frz 2 (by omega)
  have HH := Lib.hid H
  obtain ⟨L, t, n⟩ := s
  simp only at hc hlc ht hk h0 h1 hr hl ⊢
  cases L with
  | nil =>
    simp only [List.length_nil] at hc hr hl
    clear H hr e
    go_enter Try.func73, Try.ntmps73
    go_wp2_with fail
    go_quiet (fail)
    go_wp2_with fail
    go_ret2
    exact ⟨rfl, (HH.out.ask1 (n + 1)).drewN _, ((RKeep.refl w so m).set (.inl rfl) _ _).drewN _⟩
  | cons x r =>
    obtain ⟨g, off, x0, rfl, hx0, hcx⟩ := hr.get (k := 0) (by simp)
    simp at hx0
    subst hx0
    rw [Nat.add_zero] at hcx
    have hgn := (hr.ap _ rfl).2.1
    simp only [List.length_cons] at hc hl
    clear H hr e
    go_enter Try.func73, Try.ntmps73
    go_wp2_with fail
    go_quiet (fail)
    go_wp2_with fail
    go_ret2
    exact ⟨rfl, (HH.out.ask1 (n + 1)).drewN _, ((RKeep.refl w so m).set (.inl rfl) _ _).drewN _⟩

set_option maxRecDepth 100000 in
set_option maxHeartbeats 1000000 in
theorem refHas13 {w : World} {so : Nat} {s : Stk} {a : Option Nat} (H : RStk w so s a) (hl : s.L.length ≤ 1000) (p : Int) :
    Calls Try.prog 82 #[.pointer (some ⟨so, 0, none⟩), .int .i64 p] w fun e w' => e = .returned (.bool (decide (p ∈ s.L))) ∧ w = w' := by
  obtain ⟨A, c, hc, hlc, hm, hr, e⟩ := H.row
  obtain ⟨L, t, n⟩ := s
  simp only at hc hlc hr hl ⊢
  have HR := Lib.hid hr
  clear H hr e
  go_enter Try.func82, Try.ntmps82
  go_wp2_with fail
  go_loop [12] (fun i => ∃ k : Nat, k ≤ L.length ∧ i = .int .i64 k ∧ Hid (p ∉ L.take k)) (fun i => L.length - (intOf i).toNat)
  case atStart => exact ⟨0, by omega, rfl, by show _ ∉ _; simp⟩
  case round =>
    obtain ⟨k, hk, rfl, hb⟩ := hrel
    by_cases hlt : k < L.length
    · obtain ⟨g, off, y, rfl, hy, hc1⟩ := HR.out.get hlt
      have HT : Hid (L.take (k + 1) = L.take k ++ [y]) := by show _ = _; rw [List.take_add_one, hy]; rfl
      by_cases hyp : y = p
      · have HM : Hid (p ∈ L) := hyp ▸ List.mem_of_getElem? hy
        have q : (y == p) = true := by simpa using hyp
        clear hyp hy
        go_wp2_with fail
        go_ret
        exact ⟨by simp [HM.out], rfl⟩
      · have q : (y == p) = false := by simpa using hyp
        have HB : Hid (p ∉ L.take (k + 1)) := by
          show _ ∉ _
          rw [HT.out]
          simp only [List.mem_append, List.mem_singleton, not_or]
          exact ⟨hb.out, fun h => hyp h.symm⟩
        clear hyp hy hb
        go_wp2_with fail
        go_round
        case rel => exact ⟨k + 1, by omega, by go_num, HB⟩
        case measure => simp [intOf]; omega
    · obtain rfl : k = L.length := by omega
      have HB : Hid (p ∉ L) := by have := hb.out; rwa [List.take_length] at this
      clear hb
      go_wp2_with fail
      go_ret
      exact ⟨by simp [HB.out], rfl⟩

/-- What Put does. -/
def putV (s : Stk) (p tag : Int) : (Bool × Int) × Stk :=
  if p ∈ s.L then ((false, 6), s) else if s.t ≠ tag then ((false, 0), ⟨s.L, s.t, s.n + 1⟩) else ((true, 0), ⟨p :: s.L, s.t + 1, s.n + 1⟩)

set_option maxRecDepth 100000 in
set_option maxHeartbeats 2000000 in
theorem refPut13 {w : World} {so : Nat} {s : Stk} {a : Option Nat} (H : RStk w so s a) (hl : s.L.length ≤ 1000) (h0 : 0 ≤ s.n) (h1 : s.n ≤ 1000000) (m : Nat) (p tag : Int) (hp : 0 ≤ p ∧ p < 64) (t0 : 0 ≤ s.t) (t1 : s.t ≤ 1000000) :
    Calls Try.prog 75 #[.pointer (some ⟨so, 0, none⟩), .int .i64 p, .int .u64 tag] w fun e w' => e = .returned (.tuple #[.bool (putV s p tag).1.1, .int .i64 (putV s p tag).1.2]) ∧
      (∃ a', RStk w' so (putV s p tag).2 a' ∧ ANew w a a') ∧ RKeep w w' so m := by
  obtain ⟨A, c, hc, hlc, hm, hr, e⟩ := H.row
  have ht := H.tag
  have hk := H.ask
  have f0 := H.frz 0 (by omega)
  have f1 := H.frz 1 (by omega)
  have f2 := H.frz 2 (by omega)
  have HH := Lib.hid H
  obtain ⟨L, t, n⟩ := s
  simp only at hc hlc ht hk h0 h1 hr hl t0 t1 ⊢
  obtain ⟨hp0, hp1⟩ := hp
  have HR := Lib.hid hr
  obtain ⟨i0, hi0, hz0, hz1, hz2⟩ := info_parts info_int
  have hsl := H.lt
  by_cases hin : p ∈ L
  · have HP : Hid (putV ⟨L, t, n⟩ p tag = ((false, 6), ⟨L, t, n⟩)) := by show _ = _; simp [putV, hin]
    have HI : Hid (decide (p ∈ L) = true) := by show _ = _; simp [hin]
    clear H hr e hin
    go_enter Try.func75, Try.ntmps75
    go_wp2_with fail
    (with_reducible refine (refHas13 HH.out hl p).mono ?_)
    rintro e w1 ⟨rfl, rfl⟩
    simp only [HI.out]
    go_wp2_with fail
    go_ret2
    rw [HP.out]
    exact ⟨rfl, ⟨a, HH.out, .inl rfl⟩, RKeep.refl w so m⟩
  · have HI : Hid (decide (p ∈ L) = false) := by show _ = _; simp [hin]
    by_cases ht' : t = tag
    · have HP : Hid (putV ⟨L, t, n⟩ p tag = ((true, 0), ⟨p :: L, t + 1, n + 1⟩)) := by show _ = _; simp [putV, hin, ht']
      subst ht'
      have q : (t != t) = false := by simp
      clear H hr e hin
      go_enter Try.func75, Try.ntmps75
      go_wp2_with fail
      (with_reducible refine (refHas13 HH.out hl p).mono ?_)
      rintro e w1 ⟨rfl, rfl⟩
      simp only [HI.out]
      go_wp2_with (first
        | (at_builtin
           obtain ⟨wa, hwa⟩ : ∃ wa, wa = w.setCell ⟨so, 2, none⟩ (.int .i64 (n + 1)) := ⟨_, rfl⟩
           have HWA := Lib.hid hwa
           have hsz : wa.heap.size = w.heap.size := by rw [hwa]; simp [World.setCell]
           have HSZ := Lib.hid hsz
           rw [← hwa, ← hsz]
           have H1 : Hid (RStk wa so ⟨L, t, n + 1⟩ a) := by have := HH.out.ask1 (n + 1); rw [← hwa] at this; exact this
           have HR1 : Hid (SArg wa so A L.length L) := by have := HR.out.set_own 2 (.int .i64 (n + 1)); rw [← hwa] at this; exact this
           have K1 : Hid (RKeep w wa so m) := by have := (RKeep.refl w so m).set (.inl rfl) 2 (.int .i64 (n + 1)); rw [← hwa] at this; exact this
           clear hwa hsz hc ht hk f0 f1 f2
           refine wpList_append_any _ rfl (.tmp 32) (.tmp 36) _ rfl wa.heap.size 3 i0 _ 1 8 Try.underlying51 hi0 hz0 hz1 hz2 rfl (by omega) _ 1 [.int .i64 p] rfl
             (own_lit1 wa _) _ _ L.length c (L.map (.int .i64)) rfl (IntRow.alloc HR1.out.row (Nat.le_refl _) _) (ints_one L) (by simp only [maxLen]; omega) (by omega) (by simp) ?_
           intro v6 w6 hown6 hg6 hat6
           have B6 : Hid (Below wa.heap.size wa w6) := ((Below.refl _ _).alloc (Nat.le_refl _) _).grown hg6 (by simp) (fun j e => Nat.le_of_eq (Option.some.inj e))
           have H6 : Hid (w6.ownsRow wa.heap.size 3 1 v6 (p :: L).length ((p :: L).map (.int .i64))) := by
             have := hown6
             rw [Nat.add_comm] at this
             show World.ownsRow _ _ _ _ _ _ _
             simpa using this
           clear hown6 hg6 hat6
           obtain ⟨A6, c6, rfl, hA6, hlc6, hm6, hrow6, e6⟩ := own_ints_shape H6.out
           have R6 : Hid (SArg w6 so A6 (p :: L).length (p :: L)) := ⟨hrow6, fun ad e => ⟨hA6 ad e, by subst e; have := (H6.out.lt ad.block rfl).1; have := H1.out.lt; omega, by subst e; exact (H6.out.lt ad.block rfl).2⟩⟩
           have HN : Hid (∀ k, A6.map (·.block) = some k → wa.heap.size ≤ k) := fun k e => by rw [e6] at e; exact (H6.out.lt k e).1
           have S6 := Lib.hid (H1.out.stays B6.out.size (B6.out.block so H1.out.lt) (fun k e => B6.out.block k (H1.out.a_ne e).2))
           clear hA6 hrow6 e6
           obtain ⟨Ax, cx, hcx, _⟩ := S6.out.row
           have htx := S6.out.tag
           have hkx := S6.out.ask
           have fx0 := S6.out.frz 0 (by omega)
           have fx1 := S6.out.frz 1 (by omega)
           simp only at htx hkx hcx)
        | fail)
      go_ret2
      rw [HP.out]
      have hb6 : ∀ x ∈ p :: L, 0 ≤ x ∧ x < 64 := fun x hx => by
        rcases List.mem_cons.1 hx with rfl | hx
        · exact ⟨hp0, hp1⟩
        · exact HH.out.bd x hx
      exact ⟨rfl, ⟨_, (S6.out.row1 hlc6 hm6 R6.out hb6).tag1 (t + 1), .inr (fun k e => by have := HN.out k e; rw [HSZ.out] at this; exact this)⟩, ((K1.out.trans (RKeep.of_below B6.out)).set (.inl rfl) _ _).set (.inl rfl) _ _⟩
    · have HP : Hid (putV ⟨L, t, n⟩ p tag = ((false, 0), ⟨L, t, n + 1⟩)) := by show _ = _; simp [putV, hin, ht']
      have q : (tag != t) = true := by simpa using fun e => ht' e.symm
      clear H hr e hin ht'
      go_enter Try.func75, Try.ntmps75
      go_wp2_with fail
      (with_reducible refine (refHas13 HH.out hl p).mono ?_)
      rintro e w1 ⟨rfl, rfl⟩
      simp only [HI.out]
      go_wp2_with fail
      go_ret2
      rw [HP.out]
      exact ⟨rfl, ⟨a, HH.out.ask1 (n + 1), .inl rfl⟩, (RKeep.refl w so m).set (.inl rfl) _ _⟩

set_option maxRecDepth 100000 in
set_option maxHeartbeats 2000000 in
theorem refTakeNo13 {w : World} {so : Nat} {s : Stk} {a : Option Nat} (H : RStk w so s a) (hl : s.L.length ≤ 1000) (h0 : 0 ≤ s.n) (h1 : s.n ≤ 1000000) (m : Nat) (tag : Int) (hne : s.t ≠ tag) :
    Calls Try.prog 74 #[.pointer (some ⟨so, 0, none⟩), .int .u64 tag] w fun e w' => e = .returned (.bool false) ∧ RStk w' so ⟨s.L, s.t, s.n + 1⟩ a ∧ RKeep w w' so m := by
  obtain ⟨A, c, hc, hlc, hm, hr, e⟩ := H.row
  have ht := H.tag
  have hk := H.ask
  have f0 := H.frz 0 (by omega)
  have f1 := H.frz 1 (by omega)
  have f2 := H.frz 2 (by omega)
  have HH := Lib.hid H
  obtain ⟨L, t, n⟩ := s
  simp only at hc hlc ht hk h0 h1 hr hl hne ⊢
  have q : (tag != t) = true := by simpa using fun e => hne e.symm
  clear H hr e hne
  go_enter Try.func74, Try.ntmps74
  go_wp2_with fail
  go_ret
  exact ⟨rfl, HH.out.ask1 (n + 1), (RKeep.refl w so m).set (.inl rfl) _ _⟩

theorem sarg_tail {w : World} {so c : Nat} {A : Option Addr} {x : Int} {r : List Int} (h : SArg w so A (x :: r).length (x :: r)) (hc : (x :: r).length ≤ c) :
    ∃ g off, A = some ⟨g, off, none⟩ ∧ SArg w so (some ⟨g, off + 1, none⟩) r.length r ∧ SArg w so (some ⟨g, off, none⟩) 0 [] ∧ g ≠ so ∧ g < w.heap.size := by
  obtain ⟨g, off, x0, rfl, hx0, hcx⟩ := h.get (k := 0) (by simp)
  have hg := h.ap _ rfl
  refine ⟨g, off, rfl, ⟨⟨by simp, fun hn => ⟨_, rfl, hg.2.2, fun j u hu => ?_⟩⟩, fun ad e => by injection e with e; subst e; exact ⟨rfl, hg.2.1, hg.2.2⟩⟩, ⟨⟨rfl, fun h => absurd h (by omega)⟩, fun ad e => by injection e with e; subst e; exact ⟨rfl, hg.2.1, hg.2.2⟩⟩, hg.2.1, hg.2.2⟩
  obtain ⟨ad, e, _, hh⟩ := h.row.2 (by simp)
  injection e with e
  subst e
  have := hh (j + 1) u (by simpa using hu)
  rw [show (⟨g, off + 1, none⟩ : Addr).add j = (⟨g, off, none⟩ : Addr).add (j + 1) from ?_]
  · exact this
  · unfold Addr.add
    by_cases hj : j = 0
    · subst hj; simp
    · simp [hj]; omega

set_option maxRecDepth 100000 in
set_option maxHeartbeats 2000000 in
theorem refTakeYes13 {w : World} {so : Nat} {x : Int} {r : List Int} {t n : Int} {a : Option Nat} (H : RStk w so ⟨x :: r, t, n⟩ a) (hl : r.length ≤ 1000) (h0 : 0 ≤ n) (h1 : n ≤ 1000000) (t0 : 0 ≤ t) (t1 : t ≤ 1000000) (m : Nat) :
    Calls Try.prog 74 #[.pointer (some ⟨so, 0, none⟩), .int .u64 t] w fun e w' => e = .returned (.bool true) ∧ RStk w' so ⟨r, t + 1, n + 1⟩ a ∧ RKeep w w' so m := by
  obtain ⟨A, c, hc, hlc, hm, hr, e⟩ := H.row
  have ht := H.tag
  have hk := H.ask
  have f0 := H.frz 0 (by omega)
  have f1 := H.frz 1 (by omega)
  have f2 := H.frz 2 (by omega)
  have hbd := H.bd
  have HH := Lib.hid H
  simp only at hc hlc ht hk hr ⊢
  obtain ⟨g, off, rfl, hr1, hr0, hgn, hgl⟩ := sarg_tail hr hlc
  have HR1 := Lib.hid hr1
  have HR0 := Lib.hid hr0
  have HBD : Hid (∀ p ∈ r, 0 ≤ p ∧ p < 64) := fun p hp => hbd p (by simp [hp])
  have HE : Hid (some g = a) := e
  have q : (t != t) = false := by simp
  simp only [List.length_cons] at hc hlc
  have hmx : c < 9223372036854775808 := by unfold maxLen at hm; omega
  clear H hr e hr1 hr0 hbd
  by_cases hc1 : 1 = c
  · have hr0 : r.length = 0 := by omega
    have HRN : Hid (r = []) := List.eq_nil_of_length_eq_zero hr0
    rw [hr0] at hc
    subst hc1
    clear hr0 hlc hl
    go_enter Try.func74, Try.ntmps74
    go_wp2_with fail
    go_ret
    have h := ((HH.out.ask1 (n + 1)).row1 (A := some ⟨g, off, none⟩) (c := 0) (l := []) (by simp) (by simp [maxLen]) (HR0.out.set_own _ _) (fun p hp => by simp at hp)).tag1 (t + 1)
    have he := HE.out
    simp only [Option.map_some] at h
    rw [he] at h
    rw [HRN.out]
    exact ⟨rfl, h, (((RKeep.refl w so m).set (.inl rfl) _ _).set (.inl rfl) _ _).set (.inl rfl) _ _⟩
  · have hc2 : (1 == c) = false := by simpa using hc1
    go_enter Try.func74, Try.ntmps74
    go_wp2_with fail
    go_ret
    have h := ((HH.out.ask1 (n + 1)).row1 (A := some ⟨g, off + 1, none⟩) (c := c - 1) (l := r) (by omega) (by omega) (HR1.out.set_own _ _) HBD.out).tag1 (t + 1)
    have he := HE.out
    simp only [Option.map_some] at h
    rw [he] at h
    exact ⟨rfl, h, (((RKeep.refl w so m).set (.inl rfl) _ _).set (.inl rfl) _ _).set (.inl rfl) _ _⟩

theorem RStk.set_other {w : World} {so m : Nat} {s : Stk} {a : Option Nat} (h : RStk w so s a) (hms : m ≠ so) (ham : a ≠ some m) (i : Nat) (v : Value) : RStk (w.setCell ⟨m, i, none⟩ v) so s a :=
  h.stays (by simp [World.setCell]) (Below.heap_setCell w ⟨m, i, none⟩ v so (Ne.symm hms)) (fun k e => Below.heap_setCell w ⟨m, i, none⟩ v k (fun e' => ham (by rw [e]; simp at e'; rw [e'])))

def RStepTo (w : World) (so m : Nat) (s : Stk) (v : Mv) (a : Option Nat) (e : Ending) (w' : World) : Prop :=
  e = .returned (.bool (stepV v s).1) ∧ ∃ a', RStk w' so (stepV v s).2.2 a' ∧ ANew w a a' ∧ MoveAt w' m so 0 (stepV v s).2.1 ∧ RKeep w w' so m

set_option maxHeartbeats 1000000 in
theorem refStep_over {w : World} {so m : Nat} {s : Stk} {v : Mv} {a : Option Nat} (H : RStk w so s a) (M : MoveAt w m so 0 v) (hms : m ≠ so) (ham : a ≠ some m) (ho : v.over = true) : Calls Try.prog 50 #[.pointer (some ⟨m, 0, none⟩)] w (RStepTo w so m s v a) := by
  have HV : Hid (stepV v s = (false, v, s)) := step_end v s ho
  obtain ⟨c0, c1, c2, c3, c4, c5, c6⟩ := M.cells
  obtain ⟨f0, f1, f2, f3, f4, f5, f6⟩ := M.frz
  have HM := Lib.hid M
  have HH := Lib.hid H
  have hml := Obj_.lt M (by omega)
  clear M H
  rw [ho] at c6
  clear ho
  go_enter Try.func50, Try.ntmps50
  go_wp2_with fail
  go_ret
  unfold RStepTo
  rw [HV.out]
  exact ⟨rfl, a, HH.out, .inl rfl, HM.out, RKeep.refl w so m⟩

set_option maxRecDepth 100000 in
set_option maxHeartbeats 2000000 in
theorem refStep_look {w : World} {so m : Nat} {s : Stk} {v : Mv} {a : Option Nat} (H : RStk w so s a) (M : MoveAt w m so 0 v) (hms : m ≠ so) (ham : a ≠ some m) (ho : v.over = false) (hk : v.looked = false) (hl : s.L.length ≤ 1000) (h0 : 0 ≤ s.n) (h1 : s.n ≤ 1000000) : Calls Try.prog 50 #[.pointer (some ⟨m, 0, none⟩)] w (RStepTo w so m s v a) := by
  have HV : Hid (stepV v s = (true, ⟨v.place, hd s.L, s.t, v.pop, true, v.pop && decide (hd s.L = -1)⟩, ⟨s.L, s.t, s.n + 1⟩)) := by show _ = _; simp [stepV, ho, hk]
  have hh := hd_bd H.bd
  obtain ⟨c0, c1, c2, c3, c4, c5, c6⟩ := M.cells
  obtain ⟨f0, f1, f2, f3, f4, f5, f6⟩ := M.frz
  have HM := Lib.hid M
  have HH := Lib.hid H
  have hml := Obj_.lt M (by omega)
  clear M H
  rw [ho] at c6
  rw [hk] at c5
  clear ho hk
  cases hp : v.pop with
  | false =>
    rw [hp] at c4
    go_enter Try.func50, Try.ntmps50
    go_wp2_with fail
    (with_reducible refine (refLook13 HH.out hl h0 h1 so).mono ?_)
    rintro e w1 ⟨rfl, s1, k1⟩
    have hM := Obj_.of_block HM.out (k1.block m hml hms hms)
    obtain ⟨d0, d1, d2, d3, d4, d5, d6⟩ := MoveAt.cells hM
    obtain ⟨e0, e1, e2, e3, e4, e5, e6⟩ := MoveAt.frz hM
    rw [hp] at d4
    have S1 := Lib.hid s1
    have K1 := Lib.hid k1
    have M1 := Lib.hid hM
    clear s1 k1 hM c0 c1 c2 c3 c4 c5 c6 f0 f1 f2 f3 f4 f5 f6 HH HM
    have HX : Hid (decide (hd s.L < 0) = decide (hd s.L = -1)) := by show _ = _; congr 1; exact propext ⟨fun h => by omega, fun h => by omega⟩
    generalize hx : hd s.L = x at *
    clear hx
    go_wp2_with fail
    go_ret
    unfold RStepTo
    rw [HV.out]
    refine ⟨rfl, a, (((S1.out.set_other hms ham _ _).set_other hms ham _ _).set_other hms ham _ _).set_other hms ham _ _, .inl rfl, ?_, ((((K1.out.wide m).set (.inr rfl) _ _).set (.inr rfl) _ _).set (.inr rfl) _ _).set (.inr rfl) _ _⟩
    exact ((((Obj_.setz M1.out (i := 2) (by omega) _).setz (i := 3) (by omega) _).setz (i := 5) (by omega) _).setz (i := 6) (by omega) _).congr (mv_eq rfl rfl rfl rfl (by simp [upd, mvV, hp]) rfl (by have := HX.out; simp [upd, hp] at this ⊢; try exact this))
  | true =>
    rw [hp] at c4
    go_enter Try.func50, Try.ntmps50
    go_wp2_with fail
    (with_reducible refine (refLook13 HH.out hl h0 h1 so).mono ?_)
    rintro e w1 ⟨rfl, s1, k1⟩
    have hM := Obj_.of_block HM.out (k1.block m hml hms hms)
    obtain ⟨d0, d1, d2, d3, d4, d5, d6⟩ := MoveAt.cells hM
    obtain ⟨e0, e1, e2, e3, e4, e5, e6⟩ := MoveAt.frz hM
    rw [hp] at d4
    have S1 := Lib.hid s1
    have K1 := Lib.hid k1
    have M1 := Lib.hid hM
    clear s1 k1 hM c0 c1 c2 c3 c4 c5 c6 f0 f1 f2 f3 f4 f5 f6 HH HM
    have HX : Hid (decide (hd s.L < 0) = decide (hd s.L = -1)) := by show _ = _; congr 1; exact propext ⟨fun h => by omega, fun h => by omega⟩
    generalize hx : hd s.L = x at *
    clear hx
    go_wp2_with fail
    go_ret
    unfold RStepTo
    rw [HV.out]
    refine ⟨rfl, a, (((S1.out.set_other hms ham _ _).set_other hms ham _ _).set_other hms ham _ _).set_other hms ham _ _, .inl rfl, ?_, ((((K1.out.wide m).set (.inr rfl) _ _).set (.inr rfl) _ _).set (.inr rfl) _ _).set (.inr rfl) _ _⟩
    exact ((((Obj_.setz M1.out (i := 2) (by omega) _).setz (i := 3) (by omega) _).setz (i := 5) (by omega) _).setz (i := 6) (by omega) _).congr (mv_eq rfl rfl rfl rfl (by simp [upd, mvV, hp]) rfl (by have := HX.out; simp [upd, hp] at this ⊢; try exact this))

theorem ne_dec (x : Int) : (x != 0) = !decide (x = 0) := by by_cases h : x = 0 <;> simp [h]
theorem RKeep.undrew {w w' : World} {so m : Nat} (h : RKeep w.drew w' so m) : RKeep w w' so m := ⟨h.os, h.tape, h.output, h.size, h.block⟩
theorem ANew.of {w wl : World} {a a' : Option Nat} (h : ANew wl.drew a a') (hs : w.heap.size ≤ wl.heap.size) : ANew w a a' := by
  rcases h with h | h
  · exact .inl h
  · exact .inr fun k e => Nat.le_trans hs (h k e)

set_option maxRecDepth 100000 in
set_option maxHeartbeats 4000000 in
theorem refStep_take_no {w : World} {so m : Nat} {s : Stk} {v : Mv} {a : Option Nat} (H : RStk w so s a) (M : MoveAt w m so 0 v) (hms : m ≠ so) (ham : a ≠ some m) (ho : v.over = false) (hk : v.looked = true) (hl : s.L.length ≤ 1000) (h0 : 0 ≤ s.n) (h1 : s.n ≤ 1000000) (hp : v.pop = true) (ht : s.t ≠ v.tag) : Calls Try.prog 50 #[.pointer (some ⟨m, 0, none⟩)] w (RStepTo w so m s v a) := by
  have HV : Hid (stepV v s = (true, ⟨v.place, v.seen, v.tag, v.pop, false, v.over⟩, ⟨s.L, s.t, s.n + 1⟩)) := by show _ = _; simp [stepV, ho, hk, hp, ht]
  obtain ⟨c0, c1, c2, c3, c4, c5, c6⟩ := M.cells
  obtain ⟨f0, f1, f2, f3, f4, f5, f6⟩ := M.frz
  have HM := Lib.hid M
  have HH := Lib.hid H
  have hml := Obj_.lt M (by omega)
  clear M H
  rw [ho] at c6
  rw [hk] at c5
  rw [hp] at c4
  have HT := Lib.hid ht
  clear ht
  clear ho hk
  go_enter Try.func50, Try.ntmps50
  go_wp2_with fail
  obtain ⟨wl, hwl⟩ : ∃ wl, wl = w.setCell ⟨m, 5, none⟩ (.bool false) := ⟨_, rfl⟩
  rw [← hwl]
  have SL : Hid (RStk wl so s a) := hwl ▸ HH.out.set_other hms ham 5 (.bool false)
  have ML : Hid (Obj_ wl m 0 7 (upd (mvV so 0 v) 5 (.bool false))) := hwl ▸ Obj_.setz HM.out (i := 5) (by omega) (.bool false)
  have GL : Hid (RKeep w wl so m) := hwl ▸ (RKeep.refl w so m).set (.inr rfl) 5 (.bool false)
  have hlm : m < wl.heap.size := Obj_.lt ML.out (by omega)
  have hc0 : ∀ j, j < 7 → wl.cell? ⟨m, j, none⟩ = some (upd (mvV so 0 v) 5 (.bool false) j) := fun j hj => by have := ML.out.cell j hj; rwa [Nat.zero_add] at this
  have a0 : wl.cell? ⟨m, 0, none⟩ = some (.pointer (some ⟨so, 0, none⟩)) := hc0 0 (by omega)
  have a1 : wl.cell? ⟨m, 1, none⟩ = some (.int .i64 v.place) := hc0 1 (by omega)
  have a2 : wl.cell? ⟨m, 2, none⟩ = some (.int .i64 v.seen) := hc0 2 (by omega)
  have a3 : wl.cell? ⟨m, 3, none⟩ = some (.int .u64 v.tag) := hc0 3 (by omega)
  have HWL := Lib.hid hwl
  clear hwl hc0 c0 c1 c2 c3 c4 c5 c6 f0 f1 f2 f3 f4 f5 f6
  go_region_held3 (fun w' => w'.cell? ⟨m, 0, none⟩ = some (.pointer (some ⟨so, 0, none⟩)) ∧ w'.cell? ⟨m, 1, none⟩ = some (.int .i64 v.place) ∧ w'.cell? ⟨m, 3, none⟩ = some (.int .u64 v.tag))
    (first | exact ⟨a0, a1, a3⟩ | exact K2.out | fail)
    (first
      | (go_at_call 74; (with_reducible refine (refTakeNo13 SL.out.drew hl h0 h1 so v.tag HT.out).mono ?_); rintro e w2 ⟨rfl, s2, k2⟩; have hb2 : w2.heap[m]? = wl.heap[m]? := k2.block m hlm hms hms; have K2 : Hid (w2.cell? ⟨m, 0, none⟩ = some (.pointer (some ⟨so, 0, none⟩)) ∧ w2.cell? ⟨m, 1, none⟩ = some (.int .i64 v.place) ∧ w2.cell? ⟨m, 3, none⟩ = some (.int .u64 v.tag)) := ⟨(World.cell?_of_block (a := ⟨m, 0, none⟩) hb2).trans a0, (World.cell?_of_block (a := ⟨m, 1, none⟩) hb2).trans a1, (World.cell?_of_block (a := ⟨m, 3, none⟩) hb2).trans a3⟩; have S2 := Lib.hid s2; have M2 := Lib.hid (ML.out.of_block hb2); have G2 : Hid (RKeep w w2 so m) := GL.out.trans ((RKeep.undrew k2).wide m); clear s2 k2 hb2)
      | fail)
  have hc : ∀ j, j < 7 → w2.cell? ⟨m, j, none⟩ = some (upd (mvV so 0 v) 5 (.bool false) j) := fun j hj => by have := M2.out.cell j hj; rwa [Nat.zero_add] at this
  have hfz : ∀ j, j < 7 → w2.frozen? ⟨m, j, none⟩ = false := fun j hj => by have := M2.out.frz j hj; rwa [Nat.zero_add] at this
  have d1 : w2.cell? ⟨m, 1, none⟩ = some (.int .i64 v.place) := hc 1 (by omega)
  have d2 : w2.cell? ⟨m, 2, none⟩ = some (.int .i64 v.seen) := hc 2 (by omega)
  have d6 : w2.cell? ⟨m, 6, none⟩ = some (.bool v.over) := hc 6 (by omega)
  have e1 := hfz 1 (by omega)
  have e6 := hfz 6 (by omega)
  clear hc hfz a0 a1 a2 a3 K2

  go_wp2_with fail
  all_goals go_ret
  all_goals unfold RStepTo
  all_goals rw [HV.out]
  exact ⟨rfl, a, S2.out, .inl rfl, M2.out.congr (mv_eq rfl rfl rfl rfl rfl rfl rfl), G2.out⟩

set_option maxRecDepth 100000 in
set_option maxHeartbeats 4000000 in
theorem refStep_put {w : World} {so m : Nat} {s : Stk} {v : Mv} {a : Option Nat} (H : RStk w so s a) (M : MoveAt w m so 0 v) (hms : m ≠ so) (ham : a ≠ some m) (ho : v.over = false) (hk : v.looked = true) (hl : s.L.length ≤ 1000) (h0 : 0 ≤ s.n) (h1 : s.n ≤ 1000000) (hp : v.pop = false) (hpl : 0 ≤ v.place ∧ v.place < 64) (t0 : 0 ≤ s.t) (t1 : s.t ≤ 1000000) : Calls Try.prog 50 #[.pointer (some ⟨m, 0, none⟩)] w (RStepTo w so m s v a) := by
  have HV : Hid (stepV v s = (true, ⟨v.place, v.seen, v.tag, v.pop, false, (putV s v.place v.tag).1.1 || decide ((putV s v.place v.tag).1.2 ≠ 0)⟩, (putV s v.place v.tag).2)) := by show _ = _; unfold stepV putV; rw [ho, hk, hp]; by_cases h1 : v.place ∈ s.L <;> by_cases h2 : s.t = v.tag <;> simp [h1, h2]
  obtain ⟨c0, c1, c2, c3, c4, c5, c6⟩ := M.cells
  obtain ⟨f0, f1, f2, f3, f4, f5, f6⟩ := M.frz
  have HM := Lib.hid M
  have HH := Lib.hid H
  have hml := Obj_.lt M (by omega)
  clear M H
  rw [ho] at c6
  rw [hk] at c5
  rw [hp] at c4
  clear ho hk
  go_enter Try.func50, Try.ntmps50
  go_wp2_with fail
  obtain ⟨wl, hwl⟩ : ∃ wl, wl = w.setCell ⟨m, 5, none⟩ (.bool false) := ⟨_, rfl⟩
  rw [← hwl]
  have SL : Hid (RStk wl so s a) := hwl ▸ HH.out.set_other hms ham 5 (.bool false)
  have ML : Hid (Obj_ wl m 0 7 (upd (mvV so 0 v) 5 (.bool false))) := hwl ▸ Obj_.setz HM.out (i := 5) (by omega) (.bool false)
  have GL : Hid (RKeep w wl so m) := hwl ▸ (RKeep.refl w so m).set (.inr rfl) 5 (.bool false)
  have hlm : m < wl.heap.size := Obj_.lt ML.out (by omega)
  have hc0 : ∀ j, j < 7 → wl.cell? ⟨m, j, none⟩ = some (upd (mvV so 0 v) 5 (.bool false) j) := fun j hj => by have := ML.out.cell j hj; rwa [Nat.zero_add] at this
  have a0 : wl.cell? ⟨m, 0, none⟩ = some (.pointer (some ⟨so, 0, none⟩)) := hc0 0 (by omega)
  have a1 : wl.cell? ⟨m, 1, none⟩ = some (.int .i64 v.place) := hc0 1 (by omega)
  have a2 : wl.cell? ⟨m, 2, none⟩ = some (.int .i64 v.seen) := hc0 2 (by omega)
  have a3 : wl.cell? ⟨m, 3, none⟩ = some (.int .u64 v.tag) := hc0 3 (by omega)
  have HWL := Lib.hid hwl
  clear hwl hc0 c0 c1 c2 c3 c4 c5 c6 f0 f1 f2 f3 f4 f5 f6
  go_region_held3 (fun w' => w'.cell? ⟨m, 0, none⟩ = some (.pointer (some ⟨so, 0, none⟩)) ∧ w'.cell? ⟨m, 1, none⟩ = some (.int .i64 v.place) ∧ w'.cell? ⟨m, 3, none⟩ = some (.int .u64 v.tag))
    (first | exact ⟨a0, a1, a3⟩ | exact K2.out | fail)
    (first
      | (go_at_call 75; (with_reducible refine (refPut13 SL.out.drew hl h0 h1 so v.place v.tag hpl t0 t1).mono ?_); rintro e w2 ⟨rfl, ⟨a', s2, n2⟩, k2⟩; have hb2 : w2.heap[m]? = wl.heap[m]? := k2.block m hlm hms hms; have K2 : Hid (w2.cell? ⟨m, 0, none⟩ = some (.pointer (some ⟨so, 0, none⟩)) ∧ w2.cell? ⟨m, 1, none⟩ = some (.int .i64 v.place) ∧ w2.cell? ⟨m, 3, none⟩ = some (.int .u64 v.tag)) := ⟨(World.cell?_of_block (a := ⟨m, 0, none⟩) hb2).trans a0, (World.cell?_of_block (a := ⟨m, 1, none⟩) hb2).trans a1, (World.cell?_of_block (a := ⟨m, 3, none⟩) hb2).trans a3⟩; have S2 := Lib.hid s2; have M2 := Lib.hid (ML.out.of_block hb2); have G2 : Hid (RKeep w w2 so m) := GL.out.trans ((RKeep.undrew k2).wide m); clear s2 k2 hb2)
      | fail)
  have hc : ∀ j, j < 7 → w2.cell? ⟨m, j, none⟩ = some (upd (mvV so 0 v) 5 (.bool false) j) := fun j hj => by have := M2.out.cell j hj; rwa [Nat.zero_add] at this
  have hfz : ∀ j, j < 7 → w2.frozen? ⟨m, j, none⟩ = false := fun j hj => by have := M2.out.frz j hj; rwa [Nat.zero_add] at this
  have d1 : w2.cell? ⟨m, 1, none⟩ = some (.int .i64 v.place) := hc 1 (by omega)
  have d2 : w2.cell? ⟨m, 2, none⟩ = some (.int .i64 v.seen) := hc 2 (by omega)
  have d6 : w2.cell? ⟨m, 6, none⟩ = some (.bool v.over) := hc 6 (by omega)
  have e1 := hfz 1 (by omega)
  have e6 := hfz 6 (by omega)
  clear hc hfz a0 a1 a2 a3 K2
  have N2 : Hid (ANew w a a') := n2.of GL.out.size
  have N3 : Hid (a' ≠ some m) := by
    show _ ≠ _
    rcases n2 with h | h
    · rw [h]; exact ham
    · intro e; have := h m e; have : wl.drew.heap.size = wl.heap.size := rfl; omega
  clear n2
  generalize (putV s v.place v.tag).1.1 = ok at *
  generalize (putV s v.place v.tag).1.2 = er at *
  go_wp2_with fail
  all_goals go_ret
  all_goals unfold RStepTo
  all_goals rw [HV.out]
  all_goals refine ⟨rfl, a', S2.out.set_other hms N3.out _ _, N2.out, ?_, G2.out.set (.inr rfl) _ _⟩
  all_goals exact (Obj_.setz M2.out (i := 6) (by omega) _).congr (mv_eq rfl rfl rfl rfl rfl rfl (by show Value.bool _ = Value.bool _; congr 1; first | (simp_all; done) | (simp_all; exact ne_dec _)))

set_option maxRecDepth 100000 in
set_option maxHeartbeats 4000000 in
theorem refStep_take_yes {w : World} {so m : Nat} {s : Stk} {v : Mv} {a : Option Nat} (H : RStk w so s a) (M : MoveAt w m so 0 v) (hms : m ≠ so) (ham : a ≠ some m) (ho : v.over = false) (hk : v.looked = true) (hl : s.L.length ≤ 1000) (h0 : 0 ≤ s.n) (h1 : s.n ≤ 1000000) (x : Int) (r : List Int) (hL : s.L = x :: r) (hp : v.pop = true) (hsn : v.seen = x) (ht : v.tag = s.t) (t0 : 0 ≤ s.t) (t1 : s.t ≤ 1000000) : Calls Try.prog 50 #[.pointer (some ⟨m, 0, none⟩)] w (RStepTo w so m s v a) := by
  have HV : Hid (stepV v s = (true, ⟨v.seen, v.seen, v.tag, v.pop, false, true⟩, ⟨r, s.t + 1, s.n + 1⟩)) := by show _ = _; simp [stepV, ho, hk, hp, ht, hL]
  obtain ⟨c0, c1, c2, c3, c4, c5, c6⟩ := M.cells
  obtain ⟨f0, f1, f2, f3, f4, f5, f6⟩ := M.frz
  have HM := Lib.hid M
  have HH := Lib.hid H
  have hml := Obj_.lt M (by omega)
  clear M H
  rw [ho] at c6
  rw [hk] at c5
  rw [hp] at c4
  obtain ⟨L, t, n⟩ := s
  simp only at hL ht hl h0 h1 t0 t1
  subst hL
  have HTG := Lib.hid ht
  clear ht hsn
  clear ho hk
  go_enter Try.func50, Try.ntmps50
  go_wp2_with fail
  obtain ⟨wl, hwl⟩ : ∃ wl, wl = w.setCell ⟨m, 5, none⟩ (.bool false) := ⟨_, rfl⟩
  rw [← hwl]
  have SL : Hid (RStk wl so ⟨x :: r, t, n⟩ a) := hwl ▸ HH.out.set_other hms ham 5 (.bool false)
  have ML : Hid (Obj_ wl m 0 7 (upd (mvV so 0 v) 5 (.bool false))) := hwl ▸ Obj_.setz HM.out (i := 5) (by omega) (.bool false)
  have GL : Hid (RKeep w wl so m) := hwl ▸ (RKeep.refl w so m).set (.inr rfl) 5 (.bool false)
  have hlm : m < wl.heap.size := Obj_.lt ML.out (by omega)
  have hc0 : ∀ j, j < 7 → wl.cell? ⟨m, j, none⟩ = some (upd (mvV so 0 v) 5 (.bool false) j) := fun j hj => by have := ML.out.cell j hj; rwa [Nat.zero_add] at this
  have a0 : wl.cell? ⟨m, 0, none⟩ = some (.pointer (some ⟨so, 0, none⟩)) := hc0 0 (by omega)
  have a1 : wl.cell? ⟨m, 1, none⟩ = some (.int .i64 v.place) := hc0 1 (by omega)
  have a2 : wl.cell? ⟨m, 2, none⟩ = some (.int .i64 v.seen) := hc0 2 (by omega)
  have a3 : wl.cell? ⟨m, 3, none⟩ = some (.int .u64 t) := HTG.out ▸ hc0 3 (by omega)
  have HWL := Lib.hid hwl
  clear hwl hc0 c0 c1 c2 c3 c4 c5 c6 f0 f1 f2 f3 f4 f5 f6
  go_region_held3 (fun w' => w'.cell? ⟨m, 0, none⟩ = some (.pointer (some ⟨so, 0, none⟩)) ∧ w'.cell? ⟨m, 1, none⟩ = some (.int .i64 v.place) ∧ w'.cell? ⟨m, 3, none⟩ = some (.int .u64 t))
    (first | exact ⟨a0, a1, a3⟩ | exact K2.out | fail)
    (first
      | (go_at_call 74; (with_reducible refine (refTakeYes13 SL.out.drew (by simp at hl; omega) h0 h1 t0 t1 so).mono ?_); rintro e w2 ⟨rfl, s2, k2⟩; have hb2 : w2.heap[m]? = wl.heap[m]? := k2.block m hlm hms hms; have K2 : Hid (w2.cell? ⟨m, 0, none⟩ = some (.pointer (some ⟨so, 0, none⟩)) ∧ w2.cell? ⟨m, 1, none⟩ = some (.int .i64 v.place) ∧ w2.cell? ⟨m, 3, none⟩ = some (.int .u64 t)) := ⟨(World.cell?_of_block (a := ⟨m, 0, none⟩) hb2).trans a0, (World.cell?_of_block (a := ⟨m, 1, none⟩) hb2).trans a1, (World.cell?_of_block (a := ⟨m, 3, none⟩) hb2).trans a3⟩; have S2 := Lib.hid s2; have M2 := Lib.hid (ML.out.of_block hb2); have G2 : Hid (RKeep w w2 so m) := GL.out.trans ((RKeep.undrew k2).wide m); clear s2 k2 hb2)
      | fail)
  have hc : ∀ j, j < 7 → w2.cell? ⟨m, j, none⟩ = some (upd (mvV so 0 v) 5 (.bool false) j) := fun j hj => by have := M2.out.cell j hj; rwa [Nat.zero_add] at this
  have hfz : ∀ j, j < 7 → w2.frozen? ⟨m, j, none⟩ = false := fun j hj => by have := M2.out.frz j hj; rwa [Nat.zero_add] at this
  have d1 : w2.cell? ⟨m, 1, none⟩ = some (.int .i64 v.place) := hc 1 (by omega)
  have d2 : w2.cell? ⟨m, 2, none⟩ = some (.int .i64 v.seen) := hc 2 (by omega)
  have d6 : w2.cell? ⟨m, 6, none⟩ = some (.bool v.over) := hc 6 (by omega)
  have e1 := hfz 1 (by omega)
  have e6 := hfz 6 (by omega)
  clear hc hfz a0 a1 a2 a3 K2

  go_wp2_with fail
  all_goals go_ret
  all_goals unfold RStepTo
  all_goals rw [HV.out]
  exact ⟨rfl, a, (S2.out.set_other hms ham _ _).set_other hms ham _ _, .inl rfl, ((Obj_.setz M2.out (i := 1) (by omega) _).setz (i := 6) (by omega) _).congr (mv_eq rfl rfl rfl rfl rfl rfl rfl), (G2.out.set (.inr rfl) _ _).set (.inr rfl) _ _⟩

/-- A step of the reference's move, plainly. -/
theorem refStep_any {w : World} {so m : Nat} {s : Stk} {v : Mv} {a : Option Nat} (H : RStk w so s a) (M : MoveAt w m so 0 v) (hms : m ≠ so) (ham : a ≠ some m) (hv : MvOk v s) (hl : s.L.length ≤ 1000) (h0 : 0 ≤ s.n) (h1 : s.n ≤ 1000000) (t0 : 0 ≤ s.t) (t1 : s.t ≤ 1000000) : Calls Try.prog 50 #[.pointer (some ⟨m, 0, none⟩)] w (RStepTo w so m s v a) := by
  cases ho : v.over with
  | true => exact refStep_over H M hms ham ho
  | false =>
    cases hk : v.looked with
    | false => exact refStep_look H M hms ham ho hk hl h0 h1
    | true =>
      cases hp : v.pop with
      | false => exact refStep_put H M hms ham ho hk hl h0 h1 hp (hv.place hp) t0 t1
      | true =>
        by_cases ht : s.t ≠ v.tag
        · exact refStep_take_no H M hms ham ho hk hl h0 h1 hp ht
        · have ht' : v.tag = s.t := (Decidable.not_not.1 ht).symm
          have hsn := hv.top hk ht'
          have hne := hv.some_ hk ho hp
          cases hL : s.L with
          | nil => rw [hL] at hsn; exact absurd hsn hne
          | cons x r =>
            rw [hL] at hsn
            exact refStep_take_yes H M hms ham ho hk hl h0 h1 x r hL hp hsn ht' t0 t1
end Go.Proofs.Ytpddlnedaleblaa
