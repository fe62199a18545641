/- The reference's queue, walked: at a block m: its rows in blocks a1, a2. -/
import Derived.Test.YtpddlnedaleblaaRef11b
import Derived.Deep.RegionHeld3
namespace Go.Proofs.Ytpddlnedaleblaa
open Go.RowKit

/-- A row of the reference's at one cell: its slice, its block. -/
structure RRow (w : World) (m o : Nat) (l : List Int) (a : Option Nat) : Prop where
  val : ∃ A c, w.cell? ⟨m, o, none⟩ = some (.slice A l.length c) ∧ IntRow w w.heap.size A l.length l ∧ (∀ ad, A = some ad → ad.spot = none) ∧ A.map (·.block) = a
  frz : w.frozen? ⟨m, o, none⟩ = false
  ne : a ≠ some m
  lt : ∀ k, a = some k → k < w.heap.size

structure RefAt (w : World) (m : Nat) (R F : List Int) (a1 a2 : Option Nat) : Prop where
  r1 : RRow w m 0 R a1
  r2 : RRow w m 1 F a2

theorem RRow.m_lt {w : World} {m o : Nat} {l : List Int} {a : Option Nat} (h : RRow w m o l a) : m < w.heap.size := by
  obtain ⟨A, c, hc, _⟩ := h.val
  exact World.block_lt_of_cell? w _ hc

theorem RRow.stays {w w' : World} {m o : Nat} {l : List Int} {a : Option Nat} (h : RRow w m o l a) (hs : w.heap.size ≤ w'.heap.size) (hm : w'.heap[m]? = w.heap[m]?) (ha : ∀ k, a = some k → w'.heap[k]? = w.heap[k]?) : RRow w' m o l a := by
  obtain ⟨A, c, hc, hr, hA, e⟩ := h.val
  refine ⟨⟨A, c, (World.cell?_of_block (a := ⟨m, o, none⟩) hm).trans hc, (IntRow.below hr (fun ad e' => ha _ ?_)).more hs, hA, e⟩, (World.frozen?_of_block (a := ⟨m, o, none⟩) hm).trans h.frz, h.ne, fun k e => Nat.lt_of_lt_of_le (h.lt k e) hs⟩
  rw [← e, e']
  rfl

theorem RefAt.stays {w w' : World} {m : Nat} {R F : List Int} {a1 a2 : Option Nat} (h : RefAt w m R F a1 a2) (hs : w.heap.size ≤ w'.heap.size) (hm : w'.heap[m]? = w.heap[m]?) (h1 : ∀ k, a1 = some k → w'.heap[k]? = w.heap[k]?) (h2 : ∀ k, a2 = some k → w'.heap[k]? = w.heap[k]?) : RefAt w' m R F a1 a2 :=
  ⟨h.r1.stays hs hm h1, h.r2.stays hs hm h2⟩

theorem RefAt.below {w w' : World} {m N : Nat} {R F : List Int} {a1 a2 : Option Nat} (h : RefAt w m R F a1 a2) (hb : Below N w w') (hN : w.heap.size ≤ N) : RefAt w' m R F a1 a2 :=
  h.stays hb.size (hb.block _ (by have := h.r1.m_lt; omega)) (fun k e => hb.block _ (by have := h.r1.lt k e; omega)) (fun k e => hb.block _ (by have := h.r2.lt k e; omega))

/-- The block of a row that was made: new, or none. -/
def fresh (w : World) (k : Option Nat) : Prop := ∀ j, k = some j → w.heap.size ≤ j

/-- What a step of the reference leaves: all blocks that were there, but its own. -/
structure RTo (w w' : World) (m : Nat) (a1 a2 : Option Nat) (R F : List Int) : Prop where
  at_ : ∃ k1 k2, RefAt w' m R F k1 k2 ∧ (k1 = a1 ∨ fresh w k1) ∧ (k2 = a2 ∨ fresh w k2)
  os : w'.os = w.os
  tape : w'.tape = w.tape
  output : w'.output = w.output
  size : w.heap.size ≤ w'.heap.size
  block : ∀ k, k < w.heap.size → k ≠ m → w'.heap[k]? = w.heap[k]?

theorem RTo.of_below {w w' : World} {m : Nat} {R F : List Int} {a1 a2 : Option Nat} (h : RefAt w m R F a1 a2) (hb : Below w.heap.size w w') : RTo w w' m a1 a2 R F :=
  ⟨⟨a1, a2, h.below hb (Nat.le_refl _), .inl rfl, .inl rfl⟩, hb.os, hb.tape, hb.output, hb.size, fun k hk _ => hb.block k hk⟩

/-- A row that was made, put into a cell of m. -/
theorem RRow.put {w w' : World} {m o : Nat} {l : List Int} {v : Value} (hv : w'.ownsRow w.heap.size 3 1 v l.length (l.map (.int .i64))) (hm : m < w.heap.size) (hlt : w.heap.size ≤ w'.heap.size) (u : Value) (hc : w'.cell? ⟨m, o, none⟩ = some u) (hf : w'.frozen? ⟨m, o, none⟩ = false) :
    RRow (w'.setCell ⟨m, o, none⟩ v) m o l v.ownBlock := by
  obtain ⟨A, c, rfl, hA, _, _, hrow, e⟩ := own_ints_shape hv
  have hne : (Value.slice A l.length c).ownBlock ≠ some m := fun e => by have := (hv.lt m e).1; omega
  refine ⟨⟨A, c, by go_simp, ?_, hA, e⟩, by simpa using hf, hne, fun k e => by simpa [World.setCell] using (hv.lt k e).2⟩
  have hr : IntRow (w'.setCell ⟨m, o, none⟩ (.slice A l.length c)) w'.heap.size A l.length l := IntRow.below hrow (fun ad ea => Below.heap_setCell w' _ _ _ (fun e' => hne (by rw [← e, ea]; simp at e'; simp [e'])))
  exact hr.more (by simp [World.setCell])

theorem RRow.other {w' : World} {m o o' : Nat} {l : List Int} {a : Option Nat} (h : RRow w' m o' l a) (ho : o ≠ o') (v : Value) : RRow (w'.setCell ⟨m, o, none⟩ v) m o' l a := by
  obtain ⟨A, c, hc, hr, hA, e⟩ := h.val
  refine ⟨⟨A, c, ?_, ?_, hA, e⟩, by simpa using h.frz, h.ne, fun k e => by simpa [World.setCell] using h.lt k e⟩
  · rw [World.cell?_setCell_other _ _ _ _ (by first | (simp; done) | (simp; omega))]
    exact hc
  · have hr' : IntRow (w'.setCell ⟨m, o, none⟩ v) w'.heap.size A l.length l := IntRow.below hr (fun ad ea => Below.heap_setCell w' _ _ _ (fun e' => h.ne (by rw [← e, ea]; simp at e'; simp [e'])))
    exact hr'.more (by simp [World.setCell])

theorem RTo.put1 {w w2 : World} {m : Nat} {R F R' : List Int} {a1 a2 : Option Nat} {v : Value} (H : RefAt w m R F a1 a2) (hb : Below w.heap.size w w2) (hv : w2.ownsRow w.heap.size 3 1 v R'.length (R'.map (.int .i64))) :
    RTo w (w2.setCell ⟨m, 0, none⟩ v) m a1 a2 R' F := by
  have hm := H.r1.m_lt
  have H2 := H.below hb (Nat.le_refl _)
  obtain ⟨A, c, hc, _⟩ := H2.r1.val
  refine ⟨⟨v.ownBlock, a2, ⟨RRow.put hv hm hb.size _ hc H2.r1.frz, H2.r2.other (by omega) v⟩, .inr (fun j e => (hv.lt j e).1), .inl rfl⟩, hb.os, hb.tape, hb.output, by simpa [World.setCell] using hb.size, fun k hk hkm => ?_⟩
  rw [Below.heap_setCell _ _ _ _ (by simpa using hkm)]
  exact hb.block k hk

theorem RTo.put2 {w w2 : World} {m : Nat} {R F R' F' : List Int} {a1 a2 : Option Nat} {v u : Value} (H : RefAt w m R F a1 a2) (hb : Below w.heap.size w w2) (hv : w2.ownsRow w.heap.size 3 1 v R'.length (R'.map (.int .i64))) (hu : w2.ownsRow w.heap.size 3 1 u F'.length (F'.map (.int .i64))) :
    RTo w ((w2.setCell ⟨m, 0, none⟩ v).setCell ⟨m, 1, none⟩ u) m a1 a2 R' F' := by
  have hm := H.r1.m_lt
  have H2 := H.below hb (Nat.le_refl _)
  obtain ⟨A, c, hc, _⟩ := H2.r1.val
  obtain ⟨A', c', hc', _⟩ := H2.r2.val
  have hne : ∀ k, u.ownBlock = some k → k ≠ m := fun k e => by have := (hu.lt k e).1; omega
  have hu2 : (w2.setCell ⟨m, 0, none⟩ v).ownsRow w.heap.size 3 1 u F'.length (F'.map (.int .i64)) := by
    refine ⟨hu.1, ?_⟩
    rcases hu.2 with hn | ⟨g, cap, cur, e, hg, hh, r⟩
    · exact .inl hn
    · exact .inr ⟨g, cap, cur, e, hg, (Below.heap_setCell w2 ⟨m, 0, none⟩ v g (by simp; omega)).trans hh, r⟩
  have r1 := RRow.put hv hm hb.size _ hc H2.r1.frz
  have hc2 : (w2.setCell ⟨m, 0, none⟩ v).cell? ⟨m, 1, none⟩ = some (.slice A' F.length c') := by
    rw [World.cell?_setCell_other _ _ _ _ (by simp)]
    exact hc'
  have hf2 : (w2.setCell ⟨m, 0, none⟩ v).frozen? ⟨m, 1, none⟩ = false := by simpa using H2.r2.frz
  refine ⟨⟨v.ownBlock, u.ownBlock, ⟨r1.other (by omega) u, RRow.put hu2 hm (by simpa [World.setCell] using hb.size) _ hc2 hf2⟩, .inr (fun j e => (hv.lt j e).1), .inr (fun j e => (hu.lt j e).1)⟩, hb.os, hb.tape, hb.output, by simpa [World.setCell] using hb.size, fun k hk hkm => ?_⟩
  rw [Below.heap_setCell _ _ _ _ (by simpa using hkm), Below.heap_setCell _ _ _ _ (by simpa using hkm)]
  exact hb.block k hk

/-- A row that was made stays while other blocks are made. -/
theorem own_below {w0 w1 w2 : World} {v : Value} {n : Nat} {xs : List Value} (h : w1.ownsRow w0.heap.size 3 1 v n xs) (hb : Below w1.heap.size w1 w2) : w2.ownsRow w0.heap.size 3 1 v n xs := by
  refine ⟨h.1, ?_⟩
  rcases h.2 with hn | ⟨g, cap, cur, e, hg, hh, r⟩
  · exact .inl hn
  · exact .inr ⟨g, cap, cur, e, hg, (hb.block g (block_lt_of_blk hh)).trans hh, r⟩
theorem own_more {w0 w1 w2 : World} {v : Value} {n : Nat} {xs : List Value} (h : w2.ownsRow w1.heap.size 3 1 v n xs) (hb : w0.heap.size ≤ w1.heap.size) : w2.ownsRow w0.heap.size 3 1 v n xs := by
  refine ⟨h.1, ?_⟩
  rcases h.2 with hn | ⟨g, cap, cur, e, hg, r⟩
  · exact .inl hn
  · exact .inr ⟨g, cap, cur, e, Nat.le_trans hb hg, r⟩

theorem filter_erase {l : List Int} (h : l.Nodup) (x : Int) : l.filter (fun y => decide (x ≠ y)) = l.erase x := by
  rw [h.erase_eq_filter]
  congr 1
  funext y
  by_cases e : x = y
  · subst e; simp
  · have : y ≠ x := fun e' => e e'.symm
    simp [e, this]
theorem filter_none {l : List Int} {x : Int} (h : x ∉ l) : l.filter (fun y => decide (x ≠ y)) = l := by
  refine List.filter_eq_self.2 fun y hy => ?_
  simp
  exact fun e => h (e ▸ hy)

theorem own_lit (w : World) : (w.alloc (.cells #[] 3)).ownsRow w.heap.size 3 1 (.slice (some ⟨w.heap.size, 0, none⟩) 0 0) 0 [] :=
  ⟨rfl, .inr ⟨w.heap.size, 0, #[], rfl, Nat.le_refl _, by simp [World.alloc, -World.alloc_eq], Nat.le_refl _, Nat.zero_le _, rfl, rfl⟩⟩
theorem ints_one (l : List Int) : ∀ u ∈ l.map (Value.int .i64), u.oneCell' = true := fun u hu => by
  obtain ⟨x, _, rfl⟩ := List.mem_map.1 hu
  rfl

theorem idx_ge {l : List Int} {x : Int} (h : x ∈ l) : (0 : Int) ≤ idx l x := by
  by_cases h2 : idx l x < 0
  · exact absurd h (idx_neg.1 h2)
  · omega

set_option maxRecDepth 100000 in
set_option maxHeartbeats 1000000 in
theorem refPush (w : World) (m : Nat) (R F : List Int) (a1 a2 : Option Nat) (x : Int) (H : RefAt w m R F a1 a2) (hR : R.length ≤ 900000) (hF : F.length ≤ 900000) :
    Calls Try.prog 58 #[.pointer (some ⟨m, 0, none⟩), .int .i64 x] w fun e w' => e = .returned (.int .i64 (pushS R F x).1) ∧ RTo w w' m a1 a2 (pushS R F x).2.1 (pushS R F x).2.2 := by
  obtain ⟨A1, c1, hc1, hr1, hA1, e1⟩ := H.r1.val
  obtain ⟨A2, c2, hc2, hr2, hA2, e2⟩ := H.r2.val
  have R1 := Lib.hid hr1
  have R2 := Lib.hid hr2
  have S1 := Lib.hid hA1
  have S2 := Lib.hid hA2
  have HH := Lib.hid H
  have hm := H.r1.m_lt
  clear hr1 hr2 hA1 hA2 e1 e2 H
  obtain ⟨i0, hi0, hz0, hz1, hz2⟩ := info_parts info_int
  by_cases hx1 : x ∈ R
  · have hi : (0 : Int) ≤ idx R x := idx_ge hx1
    have HP : Hid (pushS R F x = (6, R, F)) := by show _ = _; simp [pushS, inQ, hx1]
    clear hx1
    go_enter Try.func58, Try.ntmps58
    go_wp2_with fail
    (with_reducible refine (at_ref _ _ A1 _ c1 R x R1.out (fun ad _ e => S1.out ad e) (by omega)).mono ?_)
    rintro e w1 ⟨rfl, rfl⟩
    go_wp2_with fail
    go_ret
    rw [HP.out]
    exact ⟨rfl, RTo.of_below HH.out (Below.refl _ _)⟩
  · have hi : ¬ (0 : Int) ≤ idx R x := by have := (@idx_neg R x).2 hx1; omega
    have HX1 := Lib.hid hx1
    clear hx1
    by_cases hx2 : x ∈ F
    · have hi2 : (0 : Int) ≤ idx F x := idx_ge hx2
      have HP : Hid (pushS R F x = (6, R, F)) := by show _ = _; simp [pushS, inQ, hx2]
      clear hx2
      go_enter Try.func58, Try.ntmps58
      go_wp2_with fail
      (with_reducible refine (at_ref _ _ A1 _ c1 R x R1.out (fun ad _ e => S1.out ad e) (by omega)).mono ?_)
      rintro e w1 ⟨rfl, rfl⟩
      go_wp2_with fail
      (with_reducible refine (at_ref _ _ A2 _ c2 F x R2.out (fun ad _ e => S2.out ad e) (by omega)).mono ?_)
      rintro e w2 ⟨rfl, rfl⟩
      go_wp2_with fail
      go_ret
      rw [HP.out]
      exact ⟨rfl, RTo.of_below HH.out (Below.refl _ _)⟩
    · have hi2 : ¬ (0 : Int) ≤ idx F x := by have := (@idx_neg F x).2 hx2; omega
      have HP : Hid (pushS R F x = (0, R ++ [x], F)) := by show _ = _; simp [pushS, inQ, hx2, HX1.out]
      clear hx2
      go_enter Try.func58, Try.ntmps58
      go_wp2_with fail
      (with_reducible refine (at_ref _ _ A1 _ c1 R x R1.out (fun ad _ e => S1.out ad e) (by omega)).mono ?_)
      rintro e w1 ⟨rfl, rfl⟩
      go_wp2_with fail
      (with_reducible refine (at_ref _ _ A2 _ c2 F x R2.out (fun ad _ e => S2.out ad e) (by omega)).mono ?_)
      rintro e w2 ⟨rfl, rfl⟩
      go_wp2_with (first
        | (at_builtin
           refine wpList_append_any _ rfl (.tmp 22) (.tmp 26) _ rfl w.heap.size 3 i0 _ 1 8 Try.underlying51 hi0 hz0 hz1 hz2 rfl (by omega) _ 0 [] rfl
             (own_lit w) _ _ R.length c1 (R.map (.int .i64)) rfl (IntRow.alloc R1.out (Nat.le_refl _) _) (ints_one R) (by simp only [maxLen]; omega) (by omega) (by simp) ?_
           intro v1 w1 hown1 hg1 hat1
           simp only [Nat.zero_add, List.nil_append] at hown1
           have B1 : Hid (Below w.heap.size w w1) := ((Below.refl _ _).alloc (Nat.le_refl _) _).grown hg1 (by simp) (fun j e => Nat.le_of_eq (Option.some.inj e))
           have H1 := Lib.hid hown1
           have hs1 : w.heap.size ≤ w1.heap.size := B1.out.size
           clear hown1 hg1 hat1 hc1 hc2)
        | (at_builtin
           refine wpList_append_any _ rfl (.tmp 27) (.tmp 29) _ rfl w.heap.size 3 i0 _ 1 8 Try.underlying51 hi0 hz0 hz1 hz2 rfl (by omega) _ R.length (R.map (.int .i64)) rfl
             (H1.out.alloc _) _ _ 1 1 [.int .i64 x] rfl (Reads.new1 w1 _ _) (fun u hu => by simp at hu; subst hu; rfl) (by simp only [maxLen]; omega) (by omega) (by simp; omega) ?_
           intro v2 w2 hown2 hg2 hat2
           have B2 : Hid (Below w.heap.size w w2) := (B1.out.alloc hs1 _).grown hg2 (by simp; omega) (fun j e => (H1.out.lt j e).1)
           have H2 : Hid (w2.ownsRow w.heap.size 3 1 v2 (R ++ [x]).length ((R ++ [x]).map (.int .i64))) := by
             show World.ownsRow _ _ _ _ _ _ _
             simpa using hown2
           have hs2 : w.heap.size ≤ w2.heap.size := B2.out.size
           have hc3 : ∃ u, w2.cell? ⟨m, 0, none⟩ = some u := by
             obtain ⟨A, c, h, _⟩ := (HH.out.below B2.out (Nat.le_refl _)).r1.val
             exact ⟨_, h⟩
           have hf3 := (HH.out.below B2.out (Nat.le_refl _)).r1.frz
           obtain ⟨u3, hc3⟩ := hc3
           clear hown2 hg2 hat2
           obtain ⟨A3, c3, rfl⟩ := own_slice H2.out))
      go_ret
      rw [HP.out]
      rw [show R.length + 1 = (R ++ [x]).length by simp]
      exact ⟨rfl, RTo.put1 HH.out B2.out H2.out⟩

end Go.Proofs.Ytpddlnedaleblaa
