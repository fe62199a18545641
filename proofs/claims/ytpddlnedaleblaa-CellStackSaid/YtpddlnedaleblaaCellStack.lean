/- CellStack, walked: two that push by Load and Cas, in any turns, lose none. -/
import Derived.Test.YtpddlnedaleblaaCellAlive
import Derived.Test.YtpddlnedaleblaaArgs
import Derived.Deep.RegionHeld3
namespace Go.Proofs.Ytpddlnedaleblaa
open Go.ChangeShapes Go.WideShapes Go.RowKit

theorem CellAt.drew {w : World} {b o : Nat} {x t n : Int} (h : CellAt w b o x t n) : CellAt w.drew b o x t n := ⟨h.c0, h.c1, h.c2, h.f0, h.f1, h.f2⟩

/-- One of the two stands at (g, o): what it loaded (word and tag are one number here), whether it has looked, how often its own went. -/
structure OneAt (w : World) (g o : Nat) (t : Int) (lk : Bool) (dn : Int) : Prop where
  c0 : w.cell? ⟨g, o, none⟩ = some (.int .u64 t)
  c1 : w.cell? ⟨g, o + 1, none⟩ = some (.int .u64 t)
  c2 : w.cell? ⟨g, o + 2, none⟩ = some (.bool lk)
  c3 : w.cell? ⟨g, o + 3, none⟩ = some (.int .i64 dn)
  f0 : w.frozen? ⟨g, o, none⟩ = false
  f1 : w.frozen? ⟨g, o + 1, none⟩ = false
  f2 : w.frozen? ⟨g, o + 2, none⟩ = false
  f3 : w.frozen? ⟨g, o + 3, none⟩ = false

theorem OneAt.of_block {w w' : World} {g o : Nat} {t : Int} {lk : Bool} {dn : Int} (H : OneAt w g o t lk dn) (h : w'.heap[g]? = w.heap[g]?) : OneAt w' g o t lk dn := by
  obtain ⟨c0, c1, c2, c3, f0, f1, f2, f3⟩ := H
  have hc : ∀ i, w'.cell? ⟨g, i, none⟩ = w.cell? ⟨g, i, none⟩ := fun i => World.cell?_of_block (a := ⟨g, i, none⟩) h
  have hf : ∀ i, w'.frozen? ⟨g, i, none⟩ = w.frozen? ⟨g, i, none⟩ := fun i => World.frozen?_of_block (a := ⟨g, i, none⟩) h
  exact ⟨(hc _).trans c0, (hc _).trans c1, (hc _).trans c2, (hc _).trans c3, (hf _).trans f0, (hf _).trans f1, (hf _).trans f2, (hf _).trans f3⟩

theorem OneAt.lt {w : World} {g o : Nat} {t : Int} {lk : Bool} {dn : Int} (H : OneAt w g o t lk dn) : g < w.heap.size := World.block_lt_of_cell? w _ H.c0

/-- Both, and the cell: its word and its tag are how often any went. -/
structure TwoRel (W : World) (b g k : Nat) (wr : World) : Prop where
  at_ : ∃ (t0 t1 d0 d1 : Int) (l0 l1 : Bool) (m : Nat), m ≤ k ∧ 0 ≤ t0 ∧ t0 ≤ d0 + d1 ∧ 0 ≤ t1 ∧ t1 ≤ d0 + d1 ∧ 0 ≤ d0 ∧ 0 ≤ d1 ∧ d0 + d1 ≤ k ∧
    OneAt wr g 0 t0 l0 d0 ∧ OneAt wr g 4 t1 l1 d1 ∧ CellAt wr b 0 (d0 + d1) (d0 + d1) m
  below : Below W.heap.size W wr
  size : b < wr.heap.size

set_option maxRecDepth 100000 in
set_option maxHeartbeats 4000000 in
theorem two_walk (W : World) (A : Option Addr) (n c : Nat) (f : Nat → Bool) (q : Int) (hn : n ≤ c) (hc : c ≤ maxLen) (hq0 : 0 ≤ q) (hq1 : q ≤ 255)
    (hf : ∀ i, i < n → ∃ b off, A = some ⟨b, off, none⟩ ∧ b < W.heap.size ∧ W.cell? ⟨b, off + i, none⟩ = some (.bool (f i))) :
    Calls Try.prog 4 #[.slice A n c, .int .u8 q] W (TrueBelow W) := by
  have HF := Lib.hid hf
  clear hf
  unfold maxLen at hc
  go_enter Try.func4, Try.ntmps4
  go_wp2_with fail
  refine (alive08 W).mono ?_
  rintro e w1 ⟨rfl, B1⟩
  have Z1 := B1.size
  by_cases hbig : (300 : Int) < n
  · go_wp2_with fail
    go_ret
    exact ⟨rfl, B1⟩
  · go_wp2_with fail
    have hR : TwoRel W w1.heap.size (w1.heap.size + 1) 0 ((w1.alloc (.cells #[.int .u64 0, .int .u64 0, .int .i64 0] 26)).alloc (.cells #[.int .u64 0, .int .u64 0, .bool false, .int .i64 0, .int .u64 0, .int .u64 0, .bool false, .int .i64 0] 35)) := by
      refine ⟨⟨0, 0, 0, 0, false, false, 0, by omega, by omega, by omega, by omega, by omega, by omega, by omega, by omega, ?_, ?_, (CellAt.new w1 _).of_block (Below.heap_alloc _ _ _ (by simp))⟩, (B1.alloc Z1 _).alloc (by simp; omega) _, by simp; omega⟩
      · constructor <;> go_simp
      · constructor <;> go_simp
    obtain ⟨b, hb⟩ : ∃ b, b = w1.heap.size := ⟨_, rfl⟩
    obtain ⟨g, hg⟩ : ∃ g, g = w1.heap.size + 1 := ⟨_, rfl⟩
    have hgb : g ≠ b := by omega
    have Zg : W.heap.size ≤ g := by omega
    rw [← hg, ← hb] at hR
    rw [← hg, ← hb]
    rw [← hb] at Z1
    clear hb hg B1
    go_loopw [23] (fun i wr => ∃ k : Nat, k ≤ n ∧ i = .int .i64 k ∧ TwoRel W b g k wr) (fun i _ => n - (intOf i).toNat)
    case atStart => exact ⟨0, by omega, rfl, hR⟩
    case round =>
      clear hR
      obtain ⟨k, hk, rfl, ⟨t0, t1, d0, d1, l0, l1, m, hm, ht0, ht0', ht1, ht1', hd0, hd1, hd, O0, O1, C0⟩, B0, Z0⟩ := hrel
      by_cases hlt : k < n
      · obtain ⟨gg, off, rfl, hgg, hc0⟩ := HF.out k hlt
        have hc1 := (B0.cell (p := ⟨gg, off + k, none⟩) hgg).trans hc0
        clear hc0
        cases hfk : f k with
        | false =>
          rw [hfk] at hc1
          clear hfk
          obtain ⟨E0, E1, E2, E3, F0, F1, F2, F3⟩ := O0
          simp only [Nat.zero_add] at E1 E2 E3 F1 F2 F3
          have O0 : OneAt wr g 0 t0 l0 d0 := ⟨E0, E1, E2, E3, F0, F1, F2, F3⟩
          by_cases hmost : d0 = q % 20
          · have q1 : (d0 == q % 20) = true := by simpa using hmost
            clear hmost
            have I0 := Lib.hid O0; have I1 := Lib.hid O1; have IC := Lib.hid C0; have IB := B0; have IZ := Z0
            clear O0 O1 C0
            go_wp2_with fail
            go_roundw
            case rel => exact ⟨k + 1, by omega, by go_num, ⟨t0, t1, d0, d1, l0, l1, m, by omega, by omega, by omega, by omega, by omega, by omega, by omega, by omega, I0.out, I1.out, IC.out⟩, IB, IZ⟩
            case measure => simp [intOf]; omega
          · have q1 : (d0 == q % 20) = false := by simpa using hmost
            clear hmost
            cases l0 with
            | false =>
              go_wp2_with fail
              clear E0 E1 E2 E3 F0 F1 F2 F3
              (with_reducible refine (load_to C0 (by omega) (by omega)).mono ?_)
              rintro e w2 ⟨rfl, C2, G2, S2⟩
              have IB := below_at B0 G2 (by omega) (by omega)
              have Z2 : b < w2.heap.size := by omega
              have O0 := O0.of_block (G2.block g O0.lt (by simp; omega))
              have O1 := O1.of_block (G2.block g O1.lt (by simp; omega))
              clear G2 S2 C0 B0
              obtain ⟨E0, E1, E2, E3, F0, F1, F2, F3⟩ := O0
              simp only [Nat.zero_add] at E1 E2 E3 F1 F2 F3
              have HO := Lib.hid O1
              have HC := Lib.hid C2
              clear O1 C2
              go_wp2_with fail
              have I0 : OneAt (((w2.setCell ⟨g, 0, none⟩ (.int .u64 (d0 + d1))).setCell ⟨g, 1, none⟩ (.int .u64 (d0 + d1))).setCell ⟨g, 2, none⟩ (.bool true)) g 0 (d0 + d1) true d0 := by constructor <;> go_simp
              have I1 : OneAt (((w2.setCell ⟨g, 0, none⟩ (.int .u64 (d0 + d1))).setCell ⟨g, 1, none⟩ (.int .u64 (d0 + d1))).setCell ⟨g, 2, none⟩ (.bool true)) g 4 t1 l1 d1 := by obtain ⟨x0, x1, x2, x3, y0, y1, y2, y3⟩ := HO.out; constructor <;> go_simp
              have IC : CellAt (((w2.setCell ⟨g, 0, none⟩ (.int .u64 (d0 + d1))).setCell ⟨g, 1, none⟩ (.int .u64 (d0 + d1))).setCell ⟨g, 2, none⟩ (.bool true)) b 0 (d0 + d1) (d0 + d1) ((m : Int) + 1) := HC.out.of_block (by repeat rw [Below.heap_setCell _ _ _ _ (by simp; omega)])
              have IB' : Below W.heap.size W (((w2.setCell ⟨g, 0, none⟩ (.int .u64 (d0 + d1))).setCell ⟨g, 1, none⟩ (.int .u64 (d0 + d1))).setCell ⟨g, 2, none⟩ (.bool true)) := ((IB.setCell (by simp; omega) _).setCell (by simp; omega) _).setCell (by simp; omega) _
              have IZ : b < (((w2.setCell ⟨g, 0, none⟩ (.int .u64 (d0 + d1))).setCell ⟨g, 1, none⟩ (.int .u64 (d0 + d1))).setCell ⟨g, 2, none⟩ (.bool true)).heap.size := by simpa [World.setCell] using Z2
              go_roundw
              case rel => exact ⟨k + 1, by omega, by go_num, ⟨d0 + d1, t1, d0, d1, true, l1, m + 1, by omega, by omega, by omega, by omega, by omega, by omega, by omega, by omega, I0, I1, by rw [show ((m + 1 : Nat) : Int) = (m : Int) + 1 by omega]; exact IC⟩, IB', IZ⟩
              case measure => simp [intOf]; omega
            | true =>
              by_cases ht : t0 = d0 + d1
              · subst ht
                have D0 := OneAt.lt O0; have D1 := OneAt.lt O1
                have hwr : IntKind.u64.wrap (d0 + d1 + 1) = d0 + d1 + 1 := by simp only [IntKind.wrap_u64]; omega
                have HW := Lib.hid hwr
                go_wp2_with fail
                go_region_held3 (fun w' => w'.cell? ⟨g, 0, none⟩ = some (.int .u64 (d0 + d1)) ∧ w'.cell? ⟨g, 1, none⟩ = some (.int .u64 (d0 + d1))) (first | exact ⟨E0, E1⟩ | exact ⟨P0, P1⟩) (first | (go_at_call 23; (with_reducible refine (cas_to_yes (d0 + d1 + 1) C0.drew (by omega) (by omega)).mono ?_); rintro e w2 ⟨rfl, C2, G2, S2⟩; have S2 : w2.heap.size = wr.heap.size := S2; have G2 : wr.grownBy w2 (some b) := ⟨G2.os, G2.tape, G2.output, G2.size, G2.block⟩; have X0 := O0.of_block (G2.block g D0 (by simp; omega)); have Y1 := O1.of_block (G2.block g D1 (by simp; omega)); have P0 := X0.c0; have P1 := X0.c1))
                have IB := below_at B0 G2 (by omega) (by omega)
                have Z2 : b < w2.heap.size := by omega
                clear G2 S2 C0 B0 E0 E1 E2 E3 F0 F1 F2 F3 P0 P1 hwr
                obtain ⟨E0, E1, E2, E3, F0, F1, F2, F3⟩ := X0
                simp only [Nat.zero_add] at E1 E2 E3 F1 F2 F3
                have HO := Lib.hid Y1
                rw [HW.out] at C2
                have HC := Lib.hid C2
                clear Y1 C2 O0 O1
                go_wp2_with fail
                have I0 : OneAt ((w2.setCell ⟨g, 3, none⟩ (.int .i64 (d0 + 1))).setCell ⟨g, 2, none⟩ (.bool false)) g 0 (d0 + d1) false (d0 + 1) := by constructor <;> go_simp
                have I1 : OneAt ((w2.setCell ⟨g, 3, none⟩ (.int .i64 (d0 + 1))).setCell ⟨g, 2, none⟩ (.bool false)) g 4 t1 l1 d1 := by obtain ⟨x0, x1, x2, x3, y0, y1, y2, y3⟩ := HO.out; constructor <;> go_simp
                have IC : CellAt ((w2.setCell ⟨g, 3, none⟩ (.int .i64 (d0 + 1))).setCell ⟨g, 2, none⟩ (.bool false)) b 0 ((d0 + 1) + d1) ((d0 + 1) + d1) ((m : Int) + 1) := by rw [show (d0 + 1) + d1 = d0 + d1 + 1 by omega]; exact HC.out.of_block (by repeat rw [Below.heap_setCell _ _ _ _ (by simp; omega)])
                have IB' : Below W.heap.size W ((w2.setCell ⟨g, 3, none⟩ (.int .i64 (d0 + 1))).setCell ⟨g, 2, none⟩ (.bool false)) := (IB.setCell (by simp; omega) _).setCell (by simp; omega) _
                have IZ : b < ((w2.setCell ⟨g, 3, none⟩ (.int .i64 (d0 + 1))).setCell ⟨g, 2, none⟩ (.bool false)).heap.size := by simpa [World.setCell] using Z2
                go_roundw
                case rel => exact ⟨k + 1, by omega, by go_num, ⟨d0 + d1, t1, d0 + 1, d1, false, l1, m + 1, by omega, by omega, by omega, by omega, by omega, by omega, by omega, by omega, I0, I1, by rw [show ((m + 1 : Nat) : Int) = (m : Int) + 1 by omega]; exact IC⟩, IB', IZ⟩
                case measure => simp [intOf]; omega
              · have HT := Lib.hid ht
                clear ht
                have D0 := OneAt.lt O0; have D1 := OneAt.lt O1
                have hwr : IntKind.u64.wrap (t0 + 1) = t0 + 1 := by simp only [IntKind.wrap_u64]; omega
                have HW := Lib.hid hwr
                go_wp2_with fail
                go_region_held3 (fun w' => w'.cell? ⟨g, 0, none⟩ = some (.int .u64 (t0)) ∧ w'.cell? ⟨g, 1, none⟩ = some (.int .u64 (t0))) (first | exact ⟨E0, E1⟩ | exact ⟨P0, P1⟩) (first | (go_at_call 23; (with_reducible refine (cas_to_no _ C0.drew (by omega) (by omega) (Ne.symm HT.out)).mono ?_); rintro e w2 ⟨rfl, C2, G2, S2⟩; have S2 : w2.heap.size = wr.heap.size := S2; have G2 : wr.grownBy w2 (some b) := ⟨G2.os, G2.tape, G2.output, G2.size, G2.block⟩; have X0 := O0.of_block (G2.block g D0 (by simp; omega)); have Y1 := O1.of_block (G2.block g D1 (by simp; omega)); have P0 := X0.c0; have P1 := X0.c1))
                have IB := below_at B0 G2 (by omega) (by omega)
                have Z2 : b < w2.heap.size := by omega
                clear G2 S2 C0 B0 E0 E1 E2 E3 F0 F1 F2 F3 P0 P1 hwr
                obtain ⟨E0, E1, E2, E3, F0, F1, F2, F3⟩ := X0
                simp only [Nat.zero_add] at E1 E2 E3 F1 F2 F3
                have HO := Lib.hid Y1
                have HC := Lib.hid C2
                clear Y1 C2 O0 O1
                go_wp2_with fail
                have I0 : OneAt (w2.setCell ⟨g, 2, none⟩ (.bool false)) g 0 (t0) false (d0) := by constructor <;> go_simp
                have I1 : OneAt (w2.setCell ⟨g, 2, none⟩ (.bool false)) g 4 t1 l1 d1 := by obtain ⟨x0, x1, x2, x3, y0, y1, y2, y3⟩ := HO.out; constructor <;> go_simp
                have IC : CellAt (w2.setCell ⟨g, 2, none⟩ (.bool false)) b 0 ((d0) + d1) ((d0) + d1) ((m : Int) + 1) := by rw [show (d0) + d1 = d0 + d1 by omega]; exact HC.out.of_block (by repeat rw [Below.heap_setCell _ _ _ _ (by simp; omega)])
                have IB' : Below W.heap.size W (w2.setCell ⟨g, 2, none⟩ (.bool false)) := IB.setCell (by simp; omega) _
                have IZ : b < (w2.setCell ⟨g, 2, none⟩ (.bool false)).heap.size := by simpa [World.setCell] using Z2
                go_roundw
                case rel => exact ⟨k + 1, by omega, by go_num, ⟨t0, t1, d0, d1, false, l1, m + 1, by omega, by omega, by omega, by omega, by omega, by omega, by omega, by omega, I0, I1, by rw [show ((m + 1 : Nat) : Int) = (m : Int) + 1 by omega]; exact IC⟩, IB', IZ⟩
                case measure => simp [intOf]; omega
        | true =>
          rw [hfk] at hc1
          clear hfk
          obtain ⟨E0, E1, E2, E3, F0, F1, F2, F3⟩ := O1
          simp only [Nat.reduceAdd] at E1 E2 E3 F1 F2 F3
          have O1 : OneAt wr g 4 t1 l1 d1 := ⟨E0, E1, E2, E3, F0, F1, F2, F3⟩
          by_cases hmost : d1 = q % 20
          · have q1 : (d1 == q % 20) = true := by simpa using hmost
            clear hmost
            have I0 := Lib.hid O0; have I1 := Lib.hid O1; have IC := Lib.hid C0; have IB := B0; have IZ := Z0
            clear O0 O1 C0
            go_wp2_with fail
            go_roundw
            case rel => exact ⟨k + 1, by omega, by go_num, ⟨t0, t1, d0, d1, l0, l1, m, by omega, by omega, by omega, by omega, by omega, by omega, by omega, by omega, I0.out, I1.out, IC.out⟩, IB, IZ⟩
            case measure => simp [intOf]; omega
          · have q1 : (d1 == q % 20) = false := by simpa using hmost
            clear hmost
            cases l1 with
            | false =>
              go_wp2_with fail
              clear E0 E1 E2 E3 F0 F1 F2 F3
              (with_reducible refine (load_to C0 (by omega) (by omega)).mono ?_)
              rintro e w2 ⟨rfl, C2, G2, S2⟩
              have IB := below_at B0 G2 (by omega) (by omega)
              have Z2 : b < w2.heap.size := by omega
              have O0 := O0.of_block (G2.block g O0.lt (by simp; omega))
              have O1 := O1.of_block (G2.block g O1.lt (by simp; omega))
              clear G2 S2 C0 B0
              obtain ⟨E0, E1, E2, E3, F0, F1, F2, F3⟩ := O1
              simp only [Nat.reduceAdd] at E1 E2 E3 F1 F2 F3
              have HO := Lib.hid O0
              have HC := Lib.hid C2
              clear O0 C2
              go_wp2_with fail
              have I1 : OneAt (((w2.setCell ⟨g, 4, none⟩ (.int .u64 (d0 + d1))).setCell ⟨g, 5, none⟩ (.int .u64 (d0 + d1))).setCell ⟨g, 6, none⟩ (.bool true)) g 4 (d0 + d1) true d1 := by constructor <;> go_simp
              have I0 : OneAt (((w2.setCell ⟨g, 4, none⟩ (.int .u64 (d0 + d1))).setCell ⟨g, 5, none⟩ (.int .u64 (d0 + d1))).setCell ⟨g, 6, none⟩ (.bool true)) g 0 t0 l0 d0 := by obtain ⟨x0, x1, x2, x3, y0, y1, y2, y3⟩ := HO.out; constructor <;> go_simp
              have IC : CellAt (((w2.setCell ⟨g, 4, none⟩ (.int .u64 (d0 + d1))).setCell ⟨g, 5, none⟩ (.int .u64 (d0 + d1))).setCell ⟨g, 6, none⟩ (.bool true)) b 0 (d0 + d1) (d0 + d1) ((m : Int) + 1) := HC.out.of_block (by repeat rw [Below.heap_setCell _ _ _ _ (by simp; omega)])
              have IB' : Below W.heap.size W (((w2.setCell ⟨g, 4, none⟩ (.int .u64 (d0 + d1))).setCell ⟨g, 5, none⟩ (.int .u64 (d0 + d1))).setCell ⟨g, 6, none⟩ (.bool true)) := ((IB.setCell (by simp; omega) _).setCell (by simp; omega) _).setCell (by simp; omega) _
              have IZ : b < (((w2.setCell ⟨g, 4, none⟩ (.int .u64 (d0 + d1))).setCell ⟨g, 5, none⟩ (.int .u64 (d0 + d1))).setCell ⟨g, 6, none⟩ (.bool true)).heap.size := by simpa [World.setCell] using Z2
              go_roundw
              case rel => exact ⟨k + 1, by omega, by go_num, ⟨t0, d0 + d1, d0, d1, l0, true, m + 1, by omega, by omega, by omega, by omega, by omega, by omega, by omega, by omega, I0, I1, by rw [show ((m + 1 : Nat) : Int) = (m : Int) + 1 by omega]; exact IC⟩, IB', IZ⟩
              case measure => simp [intOf]; omega
            | true =>
              by_cases ht : t1 = d0 + d1
              · subst ht
                have D0 := OneAt.lt O0; have D1 := OneAt.lt O1
                have hwr : IntKind.u64.wrap (d0 + d1 + 1) = d0 + d1 + 1 := by simp only [IntKind.wrap_u64]; omega
                have HW := Lib.hid hwr
                go_wp2_with fail
                go_region_held3 (fun w' => w'.cell? ⟨g, 4, none⟩ = some (.int .u64 (d0 + d1)) ∧ w'.cell? ⟨g, 5, none⟩ = some (.int .u64 (d0 + d1))) (first | exact ⟨E0, E1⟩ | exact ⟨P0, P1⟩) (first | (go_at_call 23; (with_reducible refine (cas_to_yes (d0 + d1 + 1) C0.drew (by omega) (by omega)).mono ?_); rintro e w2 ⟨rfl, C2, G2, S2⟩; have S2 : w2.heap.size = wr.heap.size := S2; have G2 : wr.grownBy w2 (some b) := ⟨G2.os, G2.tape, G2.output, G2.size, G2.block⟩; have X1 := O1.of_block (G2.block g D0 (by simp; omega)); have Y0 := O0.of_block (G2.block g D1 (by simp; omega)); have P0 := X1.c0; have P1 := X1.c1))
                have IB := below_at B0 G2 (by omega) (by omega)
                have Z2 : b < w2.heap.size := by omega
                clear G2 S2 C0 B0 E0 E1 E2 E3 F0 F1 F2 F3 P0 P1 hwr
                obtain ⟨E0, E1, E2, E3, F0, F1, F2, F3⟩ := X1
                simp only [Nat.reduceAdd] at E1 E2 E3 F1 F2 F3
                have HO := Lib.hid Y0
                rw [HW.out] at C2
                have HC := Lib.hid C2
                clear Y0 C2 O0 O1
                go_wp2_with fail
                have I1 : OneAt ((w2.setCell ⟨g, 7, none⟩ (.int .i64 (d1 + 1))).setCell ⟨g, 6, none⟩ (.bool false)) g 4 (d0 + d1) false (d1 + 1) := by constructor <;> go_simp
                have I0 : OneAt ((w2.setCell ⟨g, 7, none⟩ (.int .i64 (d1 + 1))).setCell ⟨g, 6, none⟩ (.bool false)) g 0 t0 l0 d0 := by obtain ⟨x0, x1, x2, x3, y0, y1, y2, y3⟩ := HO.out; constructor <;> go_simp
                have IC : CellAt ((w2.setCell ⟨g, 7, none⟩ (.int .i64 (d1 + 1))).setCell ⟨g, 6, none⟩ (.bool false)) b 0 (d0 + (d1 + 1)) (d0 + (d1 + 1)) ((m : Int) + 1) := by rw [show d0 + (d1 + 1) = d0 + d1 + 1 by omega]; exact HC.out.of_block (by repeat rw [Below.heap_setCell _ _ _ _ (by simp; omega)])
                have IB' : Below W.heap.size W ((w2.setCell ⟨g, 7, none⟩ (.int .i64 (d1 + 1))).setCell ⟨g, 6, none⟩ (.bool false)) := (IB.setCell (by simp; omega) _).setCell (by simp; omega) _
                have IZ : b < ((w2.setCell ⟨g, 7, none⟩ (.int .i64 (d1 + 1))).setCell ⟨g, 6, none⟩ (.bool false)).heap.size := by simpa [World.setCell] using Z2
                go_roundw
                case rel => exact ⟨k + 1, by omega, by go_num, ⟨t0, d0 + d1, d0, d1 + 1, l0, false, m + 1, by omega, by omega, by omega, by omega, by omega, by omega, by omega, by omega, I0, I1, by rw [show ((m + 1 : Nat) : Int) = (m : Int) + 1 by omega]; exact IC⟩, IB', IZ⟩
                case measure => simp [intOf]; omega
              · have HT := Lib.hid ht
                clear ht
                have D0 := OneAt.lt O0; have D1 := OneAt.lt O1
                have hwr : IntKind.u64.wrap (t1 + 1) = t1 + 1 := by simp only [IntKind.wrap_u64]; omega
                have HW := Lib.hid hwr
                go_wp2_with fail
                go_region_held3 (fun w' => w'.cell? ⟨g, 4, none⟩ = some (.int .u64 (t1)) ∧ w'.cell? ⟨g, 5, none⟩ = some (.int .u64 (t1))) (first | exact ⟨E0, E1⟩ | exact ⟨P0, P1⟩) (first | (go_at_call 23; (with_reducible refine (cas_to_no _ C0.drew (by omega) (by omega) (Ne.symm HT.out)).mono ?_); rintro e w2 ⟨rfl, C2, G2, S2⟩; have S2 : w2.heap.size = wr.heap.size := S2; have G2 : wr.grownBy w2 (some b) := ⟨G2.os, G2.tape, G2.output, G2.size, G2.block⟩; have X1 := O1.of_block (G2.block g D0 (by simp; omega)); have Y0 := O0.of_block (G2.block g D1 (by simp; omega)); have P0 := X1.c0; have P1 := X1.c1))
                have IB := below_at B0 G2 (by omega) (by omega)
                have Z2 : b < w2.heap.size := by omega
                clear G2 S2 C0 B0 E0 E1 E2 E3 F0 F1 F2 F3 P0 P1 hwr
                obtain ⟨E0, E1, E2, E3, F0, F1, F2, F3⟩ := X1
                simp only [Nat.reduceAdd] at E1 E2 E3 F1 F2 F3
                have HO := Lib.hid Y0
                have HC := Lib.hid C2
                clear Y0 C2 O0 O1
                go_wp2_with fail
                have I1 : OneAt (w2.setCell ⟨g, 6, none⟩ (.bool false)) g 4 (t1) false (d1) := by constructor <;> go_simp
                have I0 : OneAt (w2.setCell ⟨g, 6, none⟩ (.bool false)) g 0 t0 l0 d0 := by obtain ⟨x0, x1, x2, x3, y0, y1, y2, y3⟩ := HO.out; constructor <;> go_simp
                have IC : CellAt (w2.setCell ⟨g, 6, none⟩ (.bool false)) b 0 (d0 + (d1)) (d0 + (d1)) ((m : Int) + 1) := by rw [show d0 + (d1) = d0 + d1 by omega]; exact HC.out.of_block (by repeat rw [Below.heap_setCell _ _ _ _ (by simp; omega)])
                have IB' : Below W.heap.size W (w2.setCell ⟨g, 6, none⟩ (.bool false)) := IB.setCell (by simp; omega) _
                have IZ : b < (w2.setCell ⟨g, 6, none⟩ (.bool false)).heap.size := by simpa [World.setCell] using Z2
                go_roundw
                case rel => exact ⟨k + 1, by omega, by go_num, ⟨t0, t1, d0, d1, l0, false, m + 1, by omega, by omega, by omega, by omega, by omega, by omega, by omega, by omega, I0, I1, by rw [show ((m + 1 : Nat) : Int) = (m : Int) + 1 by omega]; exact IC⟩, IB', IZ⟩
                case measure => simp [intOf]; omega
      · obtain rfl : k = n := by omega
        have D0 := O0.lt
        go_wp2_with fail
        (with_reducible refine (load_to C0 (by omega) (by omega)).mono ?_)
        rintro e w2 ⟨rfl, C2, G2, S2⟩
        have IB := below_at B0 G2 (by omega) (by omega)
        have X0 := O0.of_block (G2.block g D0 (by simp; omega))
        have X1 := O1.of_block (G2.block g D0 (by simp; omega))
        have E0 := X0.c3
        have E1 := X1.c3
        simp only [Nat.zero_add] at E0
        simp only [Nat.reduceAdd] at E1
        clear X0 X1 O0 O1 C0 C2 G2 S2 B0
        have h1 : IntKind.i64.wrap (d0 + d1) = d0 + d1 := by simp only [IntKind.wrap_i64]; omega
        have h2 : IntKind.u64.wrap (d0 + d1) = d0 + d1 := by simp only [IntKind.wrap_u64]; omega
        go_wp2_with fail
        go_ret
        exact ⟨rfl, IB⟩

section
variable {H : Type} {enc : TypeId × Value → H} {W : World} {base : Nat} {args : Array Value} {ds : List (DataW H)} {p : List MemPlace}
set_option maxRecDepth 100000 in
theorem CellStack_run (hval : ∀ (j : Nat) t v, #[32, 5][j]? = some t → args[j]? = some v → Value.okWide Try.prog W .any base t v)
    (hA : DataW.TrodAll enc Try.prog W 0 (fun _ => true) true [32, 5] args.toList ds p) (hlt : ∀ x ∈ p, x.block < W.heap.size) :
    Calls Try.prog 4 args W (TrueBelow W) := by
  obtain ⟨v0, v1, d0, d1, p0, p1, rfl, rfl, rfl, h0, h1⟩ := trodAll_two hA
  obtain ⟨q, rfl, rfl, rfl, wq⟩ := open_int Try.underlying5 (hval 1 5 v1 rfl rfl) h1
  obtain ⟨A, n, c, f, rfl, hn, hc, hf⟩ := arg_bools Try.underlying32 Try.underlying4 cells_bool (hval 0 32 v0 rfl rfl) h0 (fun x hx => hlt x (by simp [hx]))
  have hb := bounds_u8 wq
  exact two_walk W A n c f q hn hc hb.1 hb.2 hf
end
end Go.Proofs.Ytpddlnedaleblaa
