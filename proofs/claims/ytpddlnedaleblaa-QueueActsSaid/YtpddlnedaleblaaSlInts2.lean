/- slices.Clone, slices.Grow (of nil), slices.Concat (of two), at []int, walked. -/
import Derived.Test.YtpddlnedaleblaaSlInts
import Derived.Lib.AppendZeros
namespace Go.Proofs.Ytpddlnedaleblaa
open Go.RowKit

theorem oneCell_ints {l : List Int} : ∀ u ∈ l.map (Value.int .i64), u.oneCell' = true := fun u hu => by
  obtain ⟨y, _, rfl⟩ := List.mem_map.1 hu
  rfl

theorem eql_nil_ints (w : World) (A : Option Addr) (n c : Nat) : (binOp .eql 51 (.slice A n c) (.slice none 0 0)).run Try.prog w = .ok (.bool A.isNone) w := by
  simp only [binOp]
  simp [Op.equal, Op.maxDepth, Lib.run_equalIn_slice_nil w 9999 51 3 A n c 0 0 Try.underlying51]

/-- A new row of ints, of the call's own. -/
def NewInts (w : World) (l : List Int) (e : Ending) (w' : World) : Prop :=
  ∃ v, e = .returned v ∧ w'.ownsRow w.heap.size 3 1 v l.length (l.map (.int .i64)) ∧ Below w.heap.size w w'

set_option maxRecDepth 100000 in
set_option maxHeartbeats 2000000 in
theorem clone_some (w : World) (N : Nat) (ad : Addr) (n c : Nat) (l : List Int) (hl : IntRow w N (some ad) n l) (hN : N ≤ w.heap.size) (hn : n ≤ 1000000) :
    Calls Try.prog 67 #[.slice (some ad) n c] w (NewInts w l) := by
  have hlen := hl.len
  have HL := Lib.hid hlen
  have HH := Lib.hid (IntRow.len hl)
  have HR := Lib.hid (Reads.alloc hl hN (.cells #[] 3))
  obtain ⟨i0, hi0, hz0, hz1, hz2⟩ := info_parts info_int
  clear hlen hl
  have hq := fun w => eql_nil_ints w (some ad) n c
  simp only [Option.isNone_some] at hq
  go_enter Try.func67, Try.ntmps67
  go_wp2_with (first
    | (at_builtin
       refine wpList_append_any _ rfl (.tmp 5) (.tmp 6) _ rfl w.heap.size 3 i0 _ 1 8 Try.underlying51 hi0 hz0 hz1 hz2 rfl (by omega) (.slice (some ⟨w.heap.size, 0, none⟩) 0 0) 0 [] rfl
         (World.ownsRow_made w #[] 0 (Nat.le_refl _) (Nat.zero_le _) rfl) N (some ad) n c (l.map (.int .i64)) rfl HR.out oneCell_ints (by simp only [maxLen]; omega) (by omega) (by simp) ?_
       intro v1 w1 hown1 hg1 hat1
       have H1 := Lib.hid hown1
       have H2 := Lib.hid hg1
       have H3 := Lib.hid hat1
       obtain ⟨A1, n1, c1, rfl⟩ : ∃ A n c, v1 = .slice A n c := by
         rcases hown1.2 with ⟨rfl, _⟩ | ⟨g, cap, cur, rfl, _⟩
         · exact ⟨_, _, _, rfl⟩
         · exact ⟨_, _, _, rfl⟩
       clear hown1 hg1 hat1))
  go_ret
  refine ⟨_, rfl, ?_, ?_⟩
  · have h := H1.out
    rw [Nat.zero_add, List.nil_append, HL.out] at h
    exact h
  · exact ((Below.refl _ w).alloc (Nat.le_refl _) _).grown H2.out (by simp) (fun k e => by simp [Value.ownBlock] at e; omega)

set_option maxHeartbeats 1000000 in
set_option maxRecDepth 100000 in
theorem clone_nil (w : World) : Calls Try.prog 67 #[.slice none 0 0] w (NewInts w []) := by
  have hq := fun w => eql_nil_ints w none 0 0
  simp only [Option.isNone_none] at hq
  go_enter Try.func67, Try.ntmps67
  go_wp2_with fail
  go_ret
  exact ⟨_, rfl, World.ownsRow_nil _ _ _ _, Below.refl _ _⟩

set_option maxRecDepth 100000 in
set_option maxHeartbeats 2000000 in
theorem grow_nil (w : World) (n : Nat) (hn : n ≤ 2000000) : Calls Try.prog 83 #[.slice none 0 0, .int .i64 n] w (NewInts w []) := by
  obtain ⟨i0, hi0, hz0, hz1, hz2⟩ := info_parts info_int
  rcases Nat.eq_zero_or_pos n with h0 | h0
  · subst h0
    go_enter Try.func83, Try.ntmps83
    go_wp2_with fail
    go_ret
    exact ⟨_, rfl, World.ownsRow_nil _ _ _ _, Below.refl _ _⟩
  · have hr : ∀ ty, (Builtin.append_ #[51, 3] ty #[.slice none 0 0, .int .i64 n]).run Try.prog w =
        .ok (.slice (some ⟨w.heap.size, 0, none⟩) n (grownCap w n 0 3)) (w.drew.alloc (.cells (Builtin.zeroCells (Value.int .i64 0).cells n ++ Builtin.zeroCells (Value.int .i64 0).cells (grownCap w n 0 3 - n)) 3)) := fun ty =>
      Lib.run_append_nil_zeros w _ _ ty _ i0 _ _ _ Try.underlying51 Try.underlying3 hi0 hz0 n h0 (by omega) (by omega) (by rw [hz2]; omega)
    have hge := grownCap_ge w n 0 3
    have hle := grownCap_le_maxLen w n 0 3 (by simp only [maxLen]; omega)
    generalize grownCap w n 0 3 = C at *
    have HR := Lib.hid hr
    unfold maxLen at hle
    clear hr
    go_enter Try.func83, Try.ntmps83
    go_wp2_with (first
      | (at_builtin
         refine Lib.wpList_append_run _ rfl (.tmp 20) (.tmp 21) _ _ rfl _ _ rfl rfl _ _ (HR.out _) ?_))
    go_ret
    refine ⟨_, rfl, ?_, ((Below.refl _ _).drew).alloc (Nat.le_refl _) _⟩
    exact World.ownsRow_made _ _ _ (Nat.le_refl _) (by simp only [maxLen]; omega) (by simp [size_zeroCells, Value.cells]; omega)

theorem grow_nil' (w : World) (m : Int) (h0 : 0 ≤ m) (h1 : m ≤ 2000000) : Calls Try.prog 83 #[.slice none 0 0, .int .i64 m] w (NewInts w []) := by
  obtain ⟨n, rfl⟩ := Int.eq_ofNat_of_zero_le h0
  exact grow_nil w n (by omega)

/-- The rows of a Concat: the first k together. -/
def catTo (l1 l2 : List Int) : Nat → List Int
  | 0 => []
  | 1 => l1
  | _ => l1 ++ l2

theorem IntRow.under {w w' : World} {B : Nat} {A : Option Addr} {n : Nat} {l : List Int} (h : IntRow w B A n l) (hb : Below B w w') : IntRow w' B A n l := Reads.below h hb

set_option maxRecDepth 100000 in
set_option maxHeartbeats 4000000 in
theorem concat_two (w : World) (S : Nat) (A1 A2 : Option Addr) (n1 c1 n2 c2 : Nat) (l1 l2 : List Int) (h0 : w.cell? ⟨S, 0, none⟩ = some (.slice A1 n1 c1)) (h1 : w.cell? ⟨S, 1, none⟩ = some (.slice A2 n2 c2))
    (hl1 : IntRow w w.heap.size A1 n1 l1) (hl2 : IntRow w w.heap.size A2 n2 l2) (hn1 : n1 ≤ 1000000) (hn2 : n2 ≤ 1000000) :
    Calls Try.prog 76 #[.slice (some ⟨S, 0, none⟩) 2 2] w (NewInts w (l1 ++ l2)) := by
  have e1 := hl1.len
  have e2 := hl2.len
  have E1 := Lib.hid e1
  have E2 := Lib.hid e2
  have H1 := Lib.hid hl1
  have H2 := Lib.hid hl2
  have hSl := World.block_lt_of_cell? w _ h0
  simp only at hSl
  obtain ⟨i0, hi0, hz0, hz1, hz2⟩ := info_parts info_int
  clear e1 e2 hl1 hl2
  go_enter Try.func76, Try.ntmps76
  go_wp2_with fail
  go_loop [3, 11] (fun z i => ∃ k : Nat, k ≤ 2 ∧ i = .int .i64 k ∧ z = .int .i64 ((if k = 0 then 0 else if k = 1 then n1 else n1 + n2 : Nat) : Int)) (fun _ i => 2 - (intOf i).toNat)
  case atStart => exact ⟨0, by omega, rfl, rfl⟩
  case round =>
    obtain ⟨k, hk, rfl, rfl⟩ := hrel
    rcases (by omega : k = 0 ∨ k = 1 ∨ k = 2) with rfl | rfl | rfl
    · simp only [if_true]
      go_wp2_with fail
      go_round
      case rel => exact ⟨1, by omega, rfl, by simp⟩
      case measure => simp [intOf]
    · have e : (if (1 : Nat) = 0 then 0 else if (1 : Nat) = 1 then n1 else n1 + n2) = n1 := rfl
      rw [e]
      clear e
      go_wp2_with fail
      go_round
      case rel => exact ⟨2, by omega, rfl, by simp⟩
      case measure => simp [intOf]
    · have e : (if (2 : Nat) = 0 then 0 else if (2 : Nat) = 1 then n1 else n1 + n2) = n1 + n2 := rfl
      rw [e]
      clear e
      go_wp2_with fail
      (with_reducible refine (grow_nil' _ _ (by omega) (by omega)).mono ?_)
      rintro e w1 ⟨v1, rfl, hown, B1⟩
      have HO := Lib.hid hown
      have HB := Lib.hid B1
      clear hown B1
      go_wp2_with fail
      go_loopw [6, 27] (fun v i wr => ∃ k : Nat, k ≤ 2 ∧ i = .int .i64 k ∧ Hid (wr.ownsRow w.heap.size 3 1 v (catTo l1 l2 k).length ((catTo l1 l2 k).map (.int .i64)) ∧ Below w.heap.size w wr)) (fun _ i _ => 2 - (intOf i).toNat)
      case atStart => exact ⟨0, by omega, rfl, HO.out, HB.out⟩
      case round =>
        clear HO HB
        obtain ⟨j, hj, rfl, HR⟩ := hrel
        have hBw := HR.out.2
        have hsz := hBw.size
        have g0 := (hBw.cell (p := ⟨S, 0, none⟩) hSl).trans h0
        have g1 := (hBw.cell (p := ⟨S, 1, none⟩) hSl).trans h1
        clear hBw
        rcases (by omega : j = 0 ∨ j = 1 ∨ j = 2) with rfl | rfl | rfl
        · have HC := Lib.hid HR.out.1
          simp only [catTo, List.length_nil, List.map_nil] at HC
          go_wp2_with (first
            | (at_builtin
               refine wpList_append_any _ rfl (.tmp 31) (.tmp 32) _ rfl w.heap.size 3 i0 _ 1 8 Try.underlying51 hi0 hz0 hz1 hz2 rfl (by omega) _ 0 [] rfl
                 HC.out w.heap.size A1 n1 c1 (l1.map (.int .i64)) rfl (H1.out.under HR.out.2) oneCell_ints (by simp only [maxLen]; omega) (by omega) hsz ?_
               intro v2 w2 hown2 hg2 hat2
               have HX : Hid (w2.ownsRow w.heap.size 3 1 v2 (catTo l1 l2 1).length ((catTo l1 l2 1).map (.int .i64)) ∧ Below w.heap.size w w2) := by
                 refine ⟨?_, HR.out.2.grown hg2 hsz (fun k e => (HC.out.lt k e).1)⟩
                 have h := hown2
                 rw [Nat.zero_add, List.nil_append, E1.out] at h
                 exact h
               clear hown2 hg2 hat2))
          go_roundw
          case rel => exact ⟨1, by omega, rfl, HX⟩
          case measure => simp [intOf]
        · have HC := Lib.hid HR.out.1
          simp only [catTo] at HC
          go_wp2_with (first
            | (at_builtin
               refine wpList_append_any _ rfl (.tmp 31) (.tmp 32) _ rfl w.heap.size 3 i0 _ 1 8 Try.underlying51 hi0 hz0 hz1 hz2 rfl (by omega) _ l1.length (l1.map (.int .i64)) rfl
                 HC.out w.heap.size A2 n2 c2 (l2.map (.int .i64)) rfl (H2.out.under HR.out.2) oneCell_ints (by have := E1.out; simp only [maxLen]; omega) (by have := E1.out; omega) hsz ?_
               intro v2 w2 hown2 hg2 hat2
               have HX : Hid (w2.ownsRow w.heap.size 3 1 v2 (catTo l1 l2 2).length ((catTo l1 l2 2).map (.int .i64)) ∧ Below w.heap.size w w2) := by
                 refine ⟨?_, HR.out.2.grown hg2 hsz (fun k e => (HC.out.lt k e).1)⟩
                 have h := hown2
                 rw [E2.out, ← List.map_append, ← List.length_append] at h
                 exact h
               clear hown2 hg2 hat2))
          go_roundw
          case rel => exact ⟨2, by omega, rfl, HX⟩
          case measure => simp [intOf]
        · go_wp2_with fail
          go_ret
          exact ⟨_, rfl, HR.out.1, HR.out.2⟩

end Go.Proofs.Ytpddlnedaleblaa
