/- The reference of layer 11: At, without, walked. -/
import Derived.Test.YtpddlnedaleblaaQueueO
namespace Go.Proofs.Ytpddlnedaleblaa
open Go.RowKit

set_option maxHeartbeats 1000000 in
theorem at_ref (w : World) (B : Nat) (A : Option Addr) (n c : Nat) (l : List Int) (x : Int) (H : IntRow w B A n l) (hA : ∀ ad, 0 < n → A = some ad → ad.spot = none) (hn : n ≤ 9223372036854775807) :
    Calls Try.prog 45 #[.slice A n c, .int .i64 x] w fun e w' => e = .returned (.int .i64 (idx l x)) ∧ w = w' := by
  have HH := Lib.hid H
  have HA := Lib.hid hA
  have hl := H.len
  have HL := Lib.hid hl
  clear hl hA H
  go_enter Try.func45, Try.ntmps45
  go_wp2_with fail
  go_loop [9] (fun i => ∃ k : Nat, k ≤ n ∧ i = .int .i64 k ∧ Hid (∀ j, j < k → l[j]? ≠ some x)) (fun i => n - (intOf i).toNat)
  case atStart => exact ⟨0, by omega, rfl, fun j hj => by omega⟩
  case round =>
    obtain ⟨k, hk, rfl, hb⟩ := hrel
    by_cases hlt : k < n
    · obtain ⟨g, off, y, rfl, hy, hc⟩ := HH.out.at_ (fun ad e => HA.out ad (by omega) e) hlt
      by_cases hxy : x = y
      · have HE := Lib.hid (idx_at (hxy ▸ hy) hb)
        subst hxy
        clear hy
        go_wp2_with fail
        go_ret
        rw [HE.out]
        exact ⟨rfl, rfl⟩
      · have hq : (x == y) = false := by simpa using hxy
        have HB : Hid (∀ j, j < k + 1 → l[j]? ≠ some x) := fun j hj => by
          rcases Nat.lt_succ_iff_lt_or_eq.1 hj with h | rfl
          · exact hb j h
          · rw [hy]; intro e; injection e with e; exact hxy e.symm
        clear hxy hy hb
        go_wp2_with fail
        go_round
        case rel => exact ⟨k + 1, by omega, by go_num, HB⟩
        case measure => simp [intOf]; omega
    · obtain rfl : k = n := by omega
      have HE := Lib.hid (idx_none (l := l) (x := x) (fun j hj => hb j (by rw [HL.out]; exact hj)))
      clear hb
      go_wp2_with fail
      go_ret
      rw [HE.out]
      exact ⟨rfl, rfl⟩


set_option maxRecDepth 100000 in
set_option maxHeartbeats 1000000 in
theorem without_ref (w : World) (B : Nat) (A : Option Addr) (n c : Nat) (l : List Int) (x : Int) (H : IntRow w B A n l) (hA : ∀ ad, 0 < n → A = some ad → ad.spot = none) (hB : B ≤ w.heap.size) (hn : n ≤ 1000000) :
    Calls Try.prog 78 #[.slice A n c, .int .i64 x] w (NewInts w (l.filter (fun y => decide (x ≠ y)))) := by
  have HH := Lib.hid H
  have HA := Lib.hid hA
  have hl := H.len
  have HL := Lib.hid hl
  clear hl hA H
  obtain ⟨i0, hi0, hz0, hz1, hz2⟩ := info_parts info_int
  go_enter Try.func78, Try.ntmps78
  go_wp2_with fail
  go_loopw [5, 10] (fun v i wr => ∃ (k : Nat) (l' : List Int), k ≤ n ∧ i = .int .i64 k ∧ l'.length ≤ k ∧ w.heap.size ≤ wr.heap.size ∧ Hid (l' ++ (l.drop k).filter (fun y => decide (x ≠ y)) = l.filter (fun y => decide (x ≠ y))) ∧
    Hid (wr.ownsRow w.heap.size 3 1 v l'.length (l'.map (.int .i64))) ∧ Hid (Below w.heap.size w wr)) (fun _ i _ => n - (intOf i).toNat)
  case atStart => exact ⟨0, [], by omega, rfl, Nat.le_refl _, Nat.le_refl _, rfl, ⟨rfl, .inl ⟨rfl, rfl⟩⟩, Below.refl _ _⟩
  case round =>
    obtain ⟨k, l', hk, rfl, hlk, hsz, HE, HO, HB⟩ := hrel
    by_cases hlt : k < n
    · have hrow : IntRow wr B A n l := IntRow.under HH.out (HB.out.mono hB)
      obtain ⟨g, off, y, rfl, hy, hc⟩ := hrow.at_ (fun ad e => HA.out ad (by omega) e) hlt
      have HD : Hid (l.drop k = y :: l.drop (k + 1)) := by
        rw [List.drop_eq_getElem_cons (by rw [← HL.out]; exact hlt)]
        congr 1
        rw [List.getElem?_eq_getElem (by rw [← HL.out]; exact hlt)] at hy
        injection hy
      clear hrow hy
      by_cases hxy : x = y
      · have hq : (x != y) = false := by simpa using hxy
        have HE2 : Hid (l' ++ (l.drop (k + 1)).filter (fun y => decide (x ≠ y)) = l.filter (fun y => decide (x ≠ y))) := by
          show _ = _
          rw [← HE.out, HD.out]
          simp [hxy]
        clear hxy HE
        go_wp2_with fail
        go_roundw
        case rel => exact ⟨k + 1, l', by omega, by go_num, by omega, hsz, HE2, HO, HB⟩
        case measure => simp [intOf]; omega
      · have hq : (x != y) = true := by simpa using hxy
        have HE2 : Hid ((l' ++ [y]) ++ (l.drop (k + 1)).filter (fun y => decide (x ≠ y)) = l.filter (fun y => decide (x ≠ y))) := by
          show _ = _
          rw [← HE.out, HD.out]
          simp [hxy]
        clear hxy HE
        go_wp2_with (first
          | (at_builtin
             refine wpList_append_any _ rfl (.tmp 17) (.tmp 19) _ rfl w.heap.size 3 i0 _ 1 8 Try.underlying51 hi0 hz0 hz1 hz2 rfl (by omega) _ l'.length (l'.map (.int .i64)) rfl
               (HO.out.alloc _) _ _ 1 1 [.int .i64 y] rfl (Reads.new1 wr _ _) (fun u hu => by simp at hu; subst hu; rfl) (by simp only [maxLen]; omega) (by omega) (by simp; omega) ?_
             intro v1 w1 hown1 hg1 hat1
             have HG1 := Lib.hid hg1
             have H1 := Lib.hid hown1
             have hs1 : w.heap.size ≤ w1.heap.size := by have := hg1.size; simp at this; omega
             clear hown1 hg1 hat1))
        go_roundw
        case rel =>
          refine ⟨k + 1, l' ++ [y], by omega, by go_num, by simp; omega, hs1, HE2, ?_, ?_⟩
          · show World.ownsRow _ _ _ _ _ _ _
            simpa using H1.out
          · show Below _ _ _
            refine (HB.out.alloc hsz _).grown HG1.out (by simp; omega) (fun j e => ?_)
            exact (HO.out.lt j e).1
        case measure => simp [intOf]; omega
    · obtain rfl : k = n := by omega
      have HE2 : Hid (l' = l.filter (fun y => decide (x ≠ y))) := by
        have h := HE.out
        rw [List.drop_of_length_le (by rw [← HL.out]; exact Nat.le_refl _)] at h
        show _ = _
        simpa using h
      clear HE
      go_wp2_with fail
      go_ret
      have h := HE2.out
      rw [← h]
      exact ⟨_, rfl, HO.out, HB.out⟩
end Go.Proofs.Ytpddlnedaleblaa
