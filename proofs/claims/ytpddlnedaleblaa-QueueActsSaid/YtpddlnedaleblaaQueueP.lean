/- queue.Queue's Has, Push, Remove, Fill, Wake, walked. -/
import Derived.Test.YtpddlnedaleblaaQueueH
namespace Go.Proofs.Ytpddlnedaleblaa
open Go.RowKit

set_option maxHeartbeats 1000000 in
theorem containsfunc_has (w : World) (B b o x : Nat) (R F : List Int) (g1 g2 : Option Nat) (H : QueueAt w B b o R F g1 g2) (hx : w.cell? ⟨x, 0, none⟩ = some (.pointer (some ⟨b, o, none⟩))) (hR : R.length ≤ 1000000) (hF : F.length ≤ 1000000)
    (N : Nat) (A : Option Addr) (n c : Nat) (l : List Int) (hl : IntRow w N A n l) (hA : ∀ ad, 0 < n → A = some ad → ad.spot = none) (hn : n ≤ 9223372036854775807) :
    Calls Try.prog 69 #[.slice A n c, .func (.func 70) #[] #[.pointer (some ⟨x, 0, none⟩)]] w fun e w' =>
      e = .returned (.bool (!l.all (inQ R F))) ∧ w = w' := by
  have HC := Lib.hid (indexfunc_has w B b o x R F g1 g2 H hx hR hF N A n c l hl hA hn)
  clear H hl hA
  go_enter Try.func69, Try.ntmps69
  go_wp2_with fail
  refine HC.out.mono ?_
  rintro e w' ⟨⟨r, rfl, hr⟩, rfl⟩
  have hd : decide (0 ≤ r) = !l.all (inQ R F) := by
    cases ha : l.all (inQ R F) with
    | true =>
      have := hr.2 (by simpa using ha)
      simp; omega
    | false =>
      have h : ¬ r < 0 := fun h => by
        have h2 := hr.1 h
        rw [List.all_eq_false] at ha
        obtain ⟨y, hy, h3⟩ := ha
        exact h3 (h2 y hy)
      simp; omega
  have HD := Lib.hid hd
  clear hd hr
  go_wp2_with fail
  go_ret
  rw [← HD.out]
  exact ⟨rfl, rfl⟩

theorem IntRow.alloc {w : World} {B : Nat} {A : Option Addr} {n : Nat} {l : List Int} (h : IntRow w B A n l) (hB : B ≤ w.heap.size) (o : Obj) : IntRow (w.alloc o) B A n l := Reads.alloc h hB o

set_option maxRecDepth 100000 in
set_option maxHeartbeats 1000000 in
theorem has_any (w : World) (B b o : Nat) (R F : List Int) (g1 g2 : Option Nat) (H : QueueAt w B b o R F g1 g2) (hR : R.length ≤ 1000000) (hF : F.length ≤ 1000000)
    (N : Nat) (A : Option Addr) (n c : Nat) (l : List Int) (hl : IntRow w N A n l) (hA : ∀ ad, 0 < n → A = some ad → ad.spot = none) (hn : n ≤ 9223372036854775807) (hN : N ≤ w.heap.size) :
    Calls Try.prog 37 #[.pointer (some ⟨b, o, none⟩), .slice A n c] w fun e w' =>
      e = .returned (.bool (l.all (inQ R F))) ∧ Below w.heap.size w w' := by
  have hb := H.r1.lt
  have B1 := (Below.refl w.heap.size w).alloc (Nat.le_refl _) (.cells #[.pointer (some ⟨b, o, none⟩)] 113)
  have Q1 := Lib.hid (H.below B1 (Nat.le_refl _))
  have HL := Lib.hid (IntRow.alloc hl hN (.cells #[.pointer (some ⟨b, o, none⟩)] 113))
  have HA := Lib.hid hA
  clear H hl hA
  go_enter Try.func37, Try.ntmps37
  go_wp2_with fail
  (with_reducible refine (containsfunc_has _ B b o w.heap.size R F g1 g2 Q1.out (by go_simp) hR hF N A n c l HL.out HA.out hn).mono ?_)
  rintro e w' ⟨rfl, rfl⟩
  obtain ⟨q, hq⟩ : ∃ q, q = l.all (inQ R F) := ⟨_, rfl⟩
  have HQ := Lib.hid hq
  rw [← hq]
  clear hq
  go_wp2_with fail
  go_ret
  exact ⟨by rw [← HQ.out]; simp, B1⟩

/-- What a step of the queue leaves. -/
structure QFr (w w' : World) (b o : Nat) (g1 g2 : Option Nat) : Prop where
  os : w'.os = w.os
  tape : w'.tape = w.tape
  output : w'.output = w.output
  size : w.heap.size ≤ w'.heap.size
  self : ∀ cs T fr, w.heap[b]? = some (.cells cs T fr) → ∃ v1 v2, w'.heap[b]? = some (.cells ((cs.setIfInBounds o v1).setIfInBounds (o + 1) v2) T fr)
  block : ∀ k, k < w.heap.size → k ≠ b → some k ≠ g1 → some k ≠ g2 → w'.heap[k]? = w.heap[k]?

def newOr (w : World) (g g' : Option Nat) : Prop := g' = g ∨ ∃ k, g' = some k ∧ w.heap.size ≤ k

structure QTo (w w' : World) (B b o : Nat) (g1 g2 : Option Nat) (R F : List Int) : Prop where
  at_ : ∃ g1' g2', QueueAt w' B b o R F g1' g2' ∧ newOr w g1 g1' ∧ newOr w g2 g2'
  fr : QFr w w' b o g1 g2

theorem set_self {cs : Array Value} {o : Nat} {v : Value} (h : cs[o]? = some v) : cs.setIfInBounds o v = cs := by
  apply Array.ext_getElem?
  intro i
  rw [Array.getElem?_setIfInBounds]
  split
  · rename_i e
    subst e
    split
    · exact h.symm
    · exact (Array.getElem?_eq_none (by omega)).symm
  · rfl
theorem cells_of {w : World} {b o : Nat} {v : Value} {cs : Array Value} {T : TypeId} {fr : Nat × Nat} (h : w.cell? ⟨b, o, none⟩ = some v) (hb : w.heap[b]? = some (.cells cs T fr)) : cs[o]? = some v := by
  simpa [World.cell?, hb] using h

theorem QFr.of_below {w w' : World} {B b o : Nat} {R F : List Int} {g1 g2 : Option Nat} (H : QueueAt w B b o R F g1 g2) (h : Below w.heap.size w w') : QFr w w' b o g1 g2 := by
  refine ⟨h.os, h.tape, h.output, h.size, fun cs T fr hb => ?_, fun k hk _ _ _ => h.block k hk⟩
  obtain ⟨⟨v1, h1, _, _⟩, _, _⟩ := H.r1
  obtain ⟨⟨v2, h2, _, _⟩, _, _⟩ := H.r2
  refine ⟨v1, v2, ?_⟩
  rw [set_self (cells_of h1 hb), set_self (cells_of h2 hb), h.block b H.r1.lt]
  exact hb

theorem QTo.of_below {w w' : World} {B b o : Nat} {R F : List Int} {g1 g2 : Option Nat} (H : QueueAt w B b o R F g1 g2) (h : Below w.heap.size w w') : QTo w w' B b o g1 g2 R F :=
  ⟨⟨g1, g2, H.below h (Nat.le_refl _), .inl rfl, .inl rfl⟩, QFr.of_below H h⟩

theorem QFr.of_row1 {w w' : World} {B b o : Nat} {R F : List Int} {g1 g2 : Option Nat} (H : QueueAt w B b o R F g1 g2) (h : RowFr w w' b o g1) : QFr w w' b o g1 g2 := by
  refine ⟨h.os, h.tape, h.output, h.size, fun cs T fr hb => ?_, fun k hk h1 h2 _ => h.block k hk h1 h2⟩
  obtain ⟨⟨v2, h2, _, _⟩, _, _⟩ := H.r2
  obtain ⟨v, hv⟩ := h.self
  refine ⟨v, v2, ?_⟩
  have hc := cells_of h2 hb
  rw [hv]
  simp only [World.setCell, Array.getElem?_modify, if_true, hb, Option.map_some, Option.isSome_none, Bool.false_eq_true, if_false]
  congr 2
  refine (set_self ?_).symm
  rw [Array.getElem?_setIfInBounds_ne (by omega)]
  exact hc

theorem QFr.of_row2 {w w' : World} {B b o : Nat} {R F : List Int} {g1 g2 : Option Nat} (H : QueueAt w B b o R F g1 g2) (h : RowFr w w' b (o + 1) g2) : QFr w w' b o g1 g2 := by
  refine ⟨h.os, h.tape, h.output, h.size, fun cs T fr hb => ?_, fun k hk h1 _ h2 => h.block k hk h1 h2⟩
  obtain ⟨⟨v1, h1, _, _⟩, _, _⟩ := H.r1
  obtain ⟨v, hv⟩ := h.self
  refine ⟨v1, v, ?_⟩
  rw [set_self (cells_of h1 hb), hv]
  simp only [World.setCell, Array.getElem?_modify, if_true, hb, Option.map_some, Option.isSome_none, Bool.false_eq_true, if_false]

theorem set_over (cs : Array Value) (o : Nat) (v1 v2 u1 u2 : Value) : ((((cs.setIfInBounds o v1).setIfInBounds (o + 1) v2).setIfInBounds o u1).setIfInBounds (o + 1) u2) = (cs.setIfInBounds o u1).setIfInBounds (o + 1) u2 := by
  apply Array.ext_getElem?
  intro i
  simp only [Array.getElem?_setIfInBounds, Array.size_setIfInBounds]
  by_cases h1 : o + 1 = i
  · subst h1; simp
  · by_cases h2 : o = i
    · subst h2; simp
    · simp [h1, h2]

theorem newOr.trans {w w1 : World} {g g1 g2 : Option Nat} (h1 : newOr w g g1) (h2 : newOr w1 g1 g2) (hs : w.heap.size ≤ w1.heap.size) : newOr w g g2 := by
  rcases h2 with rfl | ⟨k, rfl, hk⟩
  · exact h1
  · exact .inr ⟨k, rfl, Nat.le_trans hs hk⟩

theorem QFr.trans {w w1 w2 : World} {b o : Nat} {g1 g2 k1 k2 : Option Nat} (h : QFr w w1 b o g1 g2) (h' : QFr w1 w2 b o k1 k2) (n1 : newOr w g1 k1) (n2 : newOr w g2 k2) : QFr w w2 b o g1 g2 := by
  refine ⟨h'.os.trans h.os, h'.tape.trans h.tape, h'.output.trans h.output, Nat.le_trans h.size h'.size, fun cs T fr hb => ?_, fun k hk hkb hk1 hk2 => ?_⟩
  · obtain ⟨v1, v2, e1⟩ := h.self cs T fr hb
    obtain ⟨u1, u2, e2⟩ := h'.self _ T fr e1
    exact ⟨u1, u2, by rw [e2, set_over]⟩
  · refine (h'.block k (Nat.lt_of_lt_of_le hk h.size) hkb ?_ ?_).trans (h.block k hk hkb hk1 hk2)
    · rcases n1 with rfl | ⟨j, rfl, hj⟩
      · exact hk1
      · simp; omega
    · rcases n2 with rfl | ⟨j, rfl, hj⟩
      · exact hk2
      · simp; omega

theorem QTo.trans {w w1 w2 : World} {B b o : Nat} {g1 g2 k1 k2 : Option Nat} {R F : List Int} (h : QFr w w1 b o g1 g2) (n1 : newOr w g1 k1) (n2 : newOr w g2 k2) (h' : QTo w1 w2 B b o k1 k2 R F) : QTo w w2 B b o g1 g2 R F := by
  obtain ⟨⟨j1, j2, hq, m1, m2⟩, hf⟩ := h'
  exact ⟨⟨j1, j2, hq, n1.trans m1 h.size, n2.trans m2 h.size⟩, h.trans hf n1 n2⟩

/-- The other row stays behind a write of the first; and of the second. -/
theorem RowAt.other {w w' : World} {B b o o' : Nat} {l : List Int} {g g' : Option Nat} (H : RowAt w B b o' l g') (h : RowFr w w' b o g) (ho : o ≠ o') (hg : ∀ k, g' = some k → g ≠ some k) : RowAt w' B b o' l g' := by
  have hb := H.lt
  have hgl := H.g_lt
  obtain ⟨⟨v, hv, hown, rfl⟩, hf, hne⟩ := H
  obtain ⟨u, hu⟩ := h.self
  refine ⟨⟨v, ?_, ⟨hown.1, ?_⟩, rfl⟩, ?_, hne⟩
  · rw [World.cell?_of_block (w := w.setCell ⟨b, o, none⟩ u) (a := ⟨b, o', none⟩) hu, World.cell?_setCell_other _ _ _ _ (by first | (simp; done) | (simp; omega))]
    exact hv
  · rcases hown.2 with hn | ⟨gb, cap, cur, rfl, h1, h2, r⟩
    · exact .inl hn
    · refine .inr ⟨gb, cap, cur, rfl, h1, (h.block gb (block_lt_of_blk h2) (fun e => hne (by simp [Value.ownBlock, e])) (fun e => hg gb rfl e.symm)).trans h2, r⟩
  · rw [World.frozen?_of_block (w := w.setCell ⟨b, o, none⟩ u) (a := ⟨b, o', none⟩) hu]
    simpa using hf

/-- The queue's steps, plainly. -/
def pushS (R F : List Int) (x : Int) : Int × List Int × List Int := if inQ R F x then (6, R, F) else (0, R ++ [x], F)
def removeS (R F : List Int) (x : Int) : Int × List Int × List Int := if x ∈ R then (0, R.erase x, F) else if x ∈ F then (0, R, F.erase x) else (5, R, F)
def fillS (R F : List Int) (x : Int) : Int × List Int × List Int := if x ∈ R then (0, R.erase x, F ++ [x]) else (5, R, F)
def wakeS (R F : List Int) (x : Int) : Int × List Int × List Int := if x ∈ F then (0, R ++ [x], F.erase x) else (5, R, F)
/-- Each of some, till one error. -/
def eachS (f : List Int → List Int → Int → Int × List Int × List Int) : List Int → List Int → List Int → Int × List Int × List Int
  | [], R, F => (0, R, F)
  | x :: l, R, F => if (f R F x).1 = 0 then eachS f l (f R F x).2.1 (f R F x).2.2 else f R F x

/-- One step of a closure at a queue. -/
def Step1 (fid : FuncId) (S : List Int → List Int → Int → Int × List Int × List Int) : Prop :=
  ∀ (w : World) (B b o x : Nat) (R F : List Int) (g1 g2 : Option Nat) (y : Int), QueueAt w B b o R F g1 g2 → w.cell? ⟨x, 0, none⟩ = some (.pointer (some ⟨b, o, none⟩)) → x ≠ b → some x ≠ g1 → some x ≠ g2 →
    R.length + F.length ≤ 900000 → B ≤ w.heap.size →
    Calls Try.prog fid #[.int .i64 y, .pointer (some ⟨x, 0, none⟩)] w fun e w' => e = .returned (.int .i64 (S R F y).1) ∧ QTo w w' B b o g1 g2 (S R F y).2.1 (S R F y).2.2

theorem length_erase_lt {l : List Int} {x : Int} (h : x ∈ l) : (l.erase x).length + 1 = l.length := by
  rw [List.length_erase_of_mem h]
  have := List.length_pos_of_mem h
  omega

theorem row1_to {w w' : World} {B b o : Nat} {R F R' : List Int} {g1 g2 g' : Option Nat} (H : QueueAt w B b o R F g1 g2) (hr : RowAt w' B b o R' g') (hn : newOr w g1 g') (hf : RowFr w w' b o g1) : QTo w w' B b o g1 g2 R' F := by
  have h2 : RowAt w' B b (o + 1) F g2 := H.r2.other hf (by omega) (fun k e h => by have := H.apart (h.trans e.symm); rw [this] at h; cases h)
  refine ⟨⟨g', g2, ⟨hr, h2, fun e => ?_⟩, hn, .inl rfl⟩, QFr.of_row1 H hf⟩
  rcases hn with rfl | ⟨k, rfl, hk⟩
  · exact H.apart e
  · have := (H.r2.g_lt k e.symm).2
    omega
theorem row2_to {w w' : World} {B b o : Nat} {R F F' : List Int} {g1 g2 g' : Option Nat} (H : QueueAt w B b o R F g1 g2) (hr : RowAt w' B b (o + 1) F' g') (hn : newOr w g2 g') (hf : RowFr w w' b (o + 1) g2) : QTo w w' B b o g1 g2 R F' := by
  have h1 : RowAt w' B b o R g1 := H.r1.other hf (by omega) (fun k e h => by have := H.apart (e.trans h.symm); rw [this] at e; cases e)
  refine ⟨⟨g1, g', ⟨h1, hr, fun e => ?_⟩, .inl rfl, hn⟩, QFr.of_row2 H hf⟩
  rcases hn with rfl | ⟨k, rfl, hk⟩
  · exact H.apart e
  · have := (H.r1.g_lt k e).2
    omega

set_option maxRecDepth 100000 in
set_option maxHeartbeats 2000000 in
theorem push1 : Step1 63 pushS := by
  intro w B b o x R F g1 g2 y H hx hxb _ _ hRF hB
  have HQ := Lib.hid H
  have B1 := (Below.refl w.heap.size w).alloc (Nat.le_refl _) (.cells #[.int .i64 y] 3)
  have hr : IntRow (w.alloc (.cells #[.int .i64 y] 3)) (w.heap.size + 1) (some ⟨w.heap.size, 0, none⟩) 1 [y] := Reads.new1 w _ _
  have HR := Lib.hid hr
  have hxl := World.block_lt_of_cell? w _ hx
  clear hr H
  cases hq : inQ R F y with
  | true =>
    have HP := Lib.hid (show pushS R F y = (6, R, F) by simp [pushS, hq])
    have HI := Lib.hid hq
    clear hq
    go_enter Try.func63, Try.ntmps63
    go_wp2_with fail
    (with_reducible refine (has_any _ B b o R F g1 g2 (HQ.out.below B1 (Nat.le_refl _)) (by omega) (by omega) _ _ 1 1 [y] HR.out (fun ad _ e => by injection e with e; subst e; rfl) (by omega) (by simp)).mono ?_)
    rintro e w1 ⟨rfl, B2⟩
    rw [show [y].all (inQ R F) = true by simp [HI.out]]
    go_wp2_with fail
    go_ret
    rw [HP.out]
    exact ⟨rfl, QTo.of_below HQ.out (B1.trans (B2.mono (by simp)))⟩
  | false =>
    have HP := Lib.hid (show pushS R F y = (0, R ++ [y], F) by simp [pushS, hq])
    have HI := Lib.hid hq
    clear hq
    go_enter Try.func63, Try.ntmps63
    go_wp2_with fail
    (with_reducible refine (has_any _ B b o R F g1 g2 (HQ.out.below B1 (Nat.le_refl _)) (by omega) (by omega) _ _ 1 1 [y] HR.out (fun ad _ e => by injection e with e; subst e; rfl) (by omega) (by simp)).mono ?_)
    rintro e w1 ⟨rfl, B2⟩
    rw [show [y].all (inQ R F) = false by simp [HI.out]]
    have B3 := B1.trans (B2.mono (by simp))
    have hx1 := (B3.cell (p := ⟨x, 0, none⟩) hxl).trans hx
    have HB := Lib.hid B3
    clear B2 B1 B3 hx
    go_wp2_with fail
    (with_reducible refine (add_any _ B b o R g1 y (HQ.out.below HB.out (Nat.le_refl _)).r1 (by omega) (by have := HB.out.size; omega)).mono ?_)
    rintro e w2 ⟨rfl, g', hr', hn', hf'⟩
    have HT := Lib.hid (QTo.trans (QFr.of_below HQ.out HB.out) (.inl rfl) (.inl rfl) (row1_to (HQ.out.below HB.out (Nat.le_refl _)) hr' hn' hf'))
    clear hr' hn' hf'
    go_wp2_with fail
    go_ret
    rw [HP.out]
    exact ⟨rfl, HT.out⟩

end Go.Proofs.Ytpddlnedaleblaa
