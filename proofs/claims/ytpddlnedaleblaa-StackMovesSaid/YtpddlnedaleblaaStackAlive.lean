/- The document's example of layer 13, run. -/
import Derived.Test.YtpddlnedaleblaaStackV
import Derived.Test.YtpddlnedaleblaaQueueR
namespace Go.Proofs.Ytpddlnedaleblaa
open Go.RowKit

/-- The stack behind k pushes of the example. -/
def exS : Nat → Stk
  | 0 => ⟨[], 0, 0⟩
  | 1 => ⟨[3], 1, 2⟩
  | _ => ⟨[5, 3], 2, 4⟩

def exT : Nat → Stk
  | 0 => ⟨[3], 3, 7⟩
  | 1 => ⟨[3], 3, 8⟩
  | 2 => ⟨[3], 3, 9⟩
  | _ => ⟨[], 4, 10⟩
def exV : Nat → Mv
  | 0 => ⟨-1, 5, 2, true, true, false⟩
  | 1 => ⟨-1, 5, 2, true, false, false⟩
  | 2 => ⟨-1, 3, 3, true, true, false⟩
  | _ => ⟨3, 3, 3, true, false, true⟩

theorem SSt.asked {W w : World} {b : Nat} {s : Stk} (H : SSt W w b s) : w.cell? ⟨b, 2, none⟩ = some (.int .i64 s.n) := by
  obtain ⟨bel, h, _⟩ := H.at_.obj
  have := h.cell 2 (by omega)
  rwa [Nat.zero_add] at this

/-- How often a stack may still be asked, of N times. -/
def askedLeft (N b : Nat) (w : World) : Nat :=
  match w.cell? ⟨b, 2, none⟩ with
  | some (.int _ k) => N - k.toNat
  | _ => 0
theorem askedLeft_of {N b : Nat} {w : World} {k : Int} (h : w.cell? ⟨b, 2, none⟩ = some (.int .i64 k)) : askedLeft N b w = N - k.toNat := by simp [askedLeft, h]

set_option maxRecDepth 100000 in
set_option maxHeartbeats 4000000 in
theorem alive13 (w : World) : Calls Try.prog 38 #[] w (TrueBelow w) := by
  have H0 := Lib.hid (SSt.new (Below.refl w.heap.size w))
  go_enter Try.func38, Try.ntmps38
  go_wp2_with fail
  obtain ⟨b, hb⟩ : ∃ b, b = w.heap.size := ⟨_, rfl⟩
  rw [← hb] at H0 ⊢
  have HB := Lib.hid hb
  clear hb
  go_loopw [14] (fun i wr => ∃ k : Nat, k ≤ 2 ∧ i = .int .i64 k ∧ Hid (SSt w wr b (exS k))) (fun i _ => 2 - (intOf i).toNat)
  case atStart => exact ⟨0, by omega, rfl, H0⟩
  case round =>
    clear H0
    obtain ⟨k, hk, rfl, HS⟩ := hrel
    rcases (by omega : k = 0 ∨ k = 1 ∨ k = 2) with rfl | rfl | rfl
    · have hlt : b < wr.heap.size := HS.out.lt
      have hix : ∀ w, (Instr.index 82 (Value.agg #[.int .i64 3, .int .i64 5]) (.int .i64 0)).run Try.prog w = .ok (.int .i64 3) w := fun w => by kernel_rfl
      have hwz := HS.out.below.size
      go_wp2_with fail
      clear hix
      (with_reducible refine (pushL HS.out 3 (by decide)).mono ?_)
      rintro e w1 ⟨m, rfl, hm, hmb, hwm, s1, m1, b1⟩
      have S1 := Lib.hid s1
      have M1 := Lib.hid m1
      clear s1 m1 b1 HS hm
      go_wp2_with fail
      (with_reducible refine (step_law S1.out M1.out hmb hwm (ok_push (by decide) _) (by decide) (by decide) (by decide) (by decide)).mono ?_)
      rintro e w2 ⟨rfl, s2, m2, o2⟩
      rw [show stepV (pushV 3) (exS 0) = (true, ⟨3, -1, 0, false, true, false⟩, ⟨[], 0, 1⟩) from rfl] at s2 m2 ⊢
      have S2 := Lib.hid s2
      have M2 := Lib.hid m2
      clear s2 m2 o2 S1 M1
      go_wp2_with fail
      (with_reducible refine (step_law S2.out M2.out hmb hwm ⟨fun _ => by decide, by decide, fun _ _ h => by simp at h, fun _ _ => rfl⟩ (by decide) (by decide) (by decide) (by decide)).mono ?_)
      rintro e w3 ⟨rfl, s3, m3, o3⟩
      rw [show stepV ⟨3, -1, 0, false, true, false⟩ ⟨[], 0, 1⟩ = (true, ⟨3, -1, 0, false, false, true⟩, ⟨[3], 1, 2⟩) from rfl] at s3 m3 ⊢
      have S3 := Lib.hid s3
      have M3 := Lib.hid m3
      clear s3 m3 o3 S2 M2
      go_wp2_with fail
      (with_reducible refine (step_law S3.out M3.out hmb hwm (ok_end (fun _ => by decide) (by decide) rfl) (by decide) (by decide) (by decide) (by decide)).mono ?_)
      rintro e w4 ⟨rfl, s4, m4, o4⟩
      rw [show stepV ⟨3, -1, 0, false, false, true⟩ ⟨[3], 1, 2⟩ = (false, ⟨3, -1, 0, false, false, true⟩, ⟨[3], 1, 2⟩) from rfl] at s4 m4 ⊢
      have S4 := Lib.hid s4
      have M4 := Lib.hid m4
      clear s4 m4 o4 S3 M3
      go_wp2_with fail
      (with_reducible refine (done_any M4.out).mono ?_)
      rintro e w5 ⟨rfl, rfl⟩
      go_wp2_with fail
      (with_reducible refine (place_any M4.out).mono ?_)
      rintro e w6 ⟨rfl, rfl⟩
      go_wp2_with fail
      go_roundw
      case rel => exact ⟨1, by omega, by go_num, S4.out⟩
      case measure => simp [intOf]
    · have hlt : b < wr.heap.size := HS.out.lt
      have hix : ∀ w, (Instr.index 82 (Value.agg #[.int .i64 3, .int .i64 5]) (.int .i64 1)).run Try.prog w = .ok (.int .i64 5) w := fun w => by kernel_rfl
      have hwz := HS.out.below.size
      go_wp2_with fail
      clear hix
      (with_reducible refine (pushL HS.out 5 (by decide)).mono ?_)
      rintro e w1 ⟨m, rfl, hm, hmb, hwm, s1, m1, b1⟩
      have S1 := Lib.hid s1
      have M1 := Lib.hid m1
      clear s1 m1 b1 HS hm
      go_wp2_with fail
      (with_reducible refine (step_law S1.out M1.out hmb hwm (ok_push (by decide) _) (by decide) (by decide) (by decide) (by decide)).mono ?_)
      rintro e w2 ⟨rfl, s2, m2, o2⟩
      rw [show stepV (pushV 5) (exS 1) = (true, ⟨5, 3, 1, false, true, false⟩, ⟨[3], 1, 3⟩) from rfl] at s2 m2 ⊢
      have S2 := Lib.hid s2
      have M2 := Lib.hid m2
      clear s2 m2 o2 S1 M1
      go_wp2_with fail
      (with_reducible refine (step_law S2.out M2.out hmb hwm ⟨fun _ => by decide, by decide, fun _ _ h => by simp at h, fun _ _ => rfl⟩ (by decide) (by decide) (by decide) (by decide)).mono ?_)
      rintro e w3 ⟨rfl, s3, m3, o3⟩
      rw [show stepV ⟨5, 3, 1, false, true, false⟩ ⟨[3], 1, 3⟩ = (true, ⟨5, 3, 1, false, false, true⟩, ⟨[5, 3], 2, 4⟩) from rfl] at s3 m3 ⊢
      have S3 := Lib.hid s3
      have M3 := Lib.hid m3
      clear s3 m3 o3 S2 M2
      go_wp2_with fail
      (with_reducible refine (step_law S3.out M3.out hmb hwm (ok_end (fun _ => by decide) (by decide) rfl) (by decide) (by decide) (by decide) (by decide)).mono ?_)
      rintro e w4 ⟨rfl, s4, m4, o4⟩
      rw [show stepV ⟨5, 3, 1, false, false, true⟩ ⟨[5, 3], 2, 4⟩ = (false, ⟨5, 3, 1, false, false, true⟩, ⟨[5, 3], 2, 4⟩) from rfl] at s4 m4 ⊢
      have S4 := Lib.hid s4
      have M4 := Lib.hid m4
      clear s4 m4 o4 S3 M3
      go_wp2_with fail
      (with_reducible refine (done_any M4.out).mono ?_)
      rintro e w5 ⟨rfl, rfl⟩
      go_wp2_with fail
      (with_reducible refine (place_any M4.out).mono ?_)
      rintro e w6 ⟨rfl, rfl⟩
      go_wp2_with fail
      go_roundw
      case rel => exact ⟨2, by omega, by go_num, S4.out⟩
      case measure => simp [intOf]
    · go_wp2_with fail
      (with_reducible refine (popL HS.out).mono ?_)
      rintro e w1 ⟨m, rfl, hm, hmbM, hwM, s1, m1, b1⟩
      have S1 := Lib.hid s1
      have M := Lib.hid m1
      have hml := Obj_.lt m1 (by omega)
      clear s1 m1 b1 HS hm
      go_wp2_with fail
      (with_reducible refine (popL S1.out).mono ?_)
      rintro e w2 ⟨n, rfl, hn, hmbN, hwN, s2, n2, b2⟩
      have hmn : m ≠ n := by omega
      have S2 := Lib.hid s2
      have N := Lib.hid n2
      have M2 := Lib.hid (M.out.of_below b2)
      clear s2 n2 b2 hn S1 M
      go_wp2_with fail
      (with_reducible refine (step_law S2.out M2.out hmbM hwM (ok_pop _) (by decide) (by decide) (by decide) (by decide)).mono ?_)
      rintro e w3 ⟨rfl, s3, m3, o3⟩
      rw [show stepV popV (exS 2) = (true, ⟨-1, 5, 2, true, true, false⟩, ⟨[5, 3], 2, 5⟩) from rfl] at s3 m3 ⊢
      have S3 := Lib.hid s3
      have M3 := Lib.hid m3
      have N3 := Lib.hid (N.out.other o3 hmbN hmn.symm)
      clear s3 m3 o3 S2 M2 N
      go_wp2_with fail
      (with_reducible refine (step_law S3.out N3.out hmbN hwN (ok_pop _) (by decide) (by decide) (by decide) (by decide)).mono ?_)
      rintro e w4 ⟨rfl, s4, n4, o4⟩
      rw [show stepV popV ⟨[5, 3], 2, 5⟩ = (true, ⟨-1, 5, 2, true, true, false⟩, ⟨[5, 3], 2, 6⟩) from rfl] at s4 n4 ⊢
      have S4 := Lib.hid s4
      have N4 := Lib.hid n4
      have M4 := Lib.hid (M3.out.other o4 hmbM hmn)
      clear s4 n4 o4 S3 M3 N3
      go_wp2_with fail
      (with_reducible refine (step_law S4.out M4.out hmbM hwM ⟨fun h => by simp at h, by decide, fun _ _ _ => by decide, fun _ _ => rfl⟩ (by decide) (by decide) (by decide) (by decide)).mono ?_)
      rintro e w5 ⟨rfl, s5, m5, o5⟩
      rw [show stepV ⟨-1, 5, 2, true, true, false⟩ ⟨[5, 3], 2, 6⟩ = (true, ⟨5, 5, 2, true, false, true⟩, ⟨[3], 3, 7⟩) from rfl] at s5 m5 ⊢
      have S5 := Lib.hid s5
      have M5 := Lib.hid m5
      have N5 := Lib.hid (N4.out.other o5 hmbN hmn.symm)
      clear s5 m5 o5 S4 M4 N4
      go_wp2_with fail
      go_loopw [69] (fun _ wr => ∃ j : Nat, j ≤ 3 ∧ Hid (SSt w wr b (exT j)) ∧ Hid (MoveAt wr n b 0 (exV j)) ∧ Hid (MoveAt wr m b 0 ⟨5, 5, 2, true, false, true⟩)) (fun _ wr => askedLeft 10 b wr)
      case atStart => exact ⟨0, by omega, S5, N5, M5⟩
      case round =>
        clear S5 N5 M5
        obtain ⟨j, hj, SJ, NJ, MJ⟩ := hrel
        rcases (by omega : j = 0 ∨ j = 1 ∨ j = 2 ∨ j = 3) with rfl | rfl | rfl | rfl
        · go_wp2_with fail
          (with_reducible refine (step_law SJ.out NJ.out hmbN hwN ⟨fun h => by simp [exV] at h, by decide, fun _ _ _ => by decide, fun _ h => by first | (simp [exV, exT, hd]; done) | (simp [exV, exT] at h)⟩ (by decide) (by decide) (by decide) (by decide)).mono ?_)
          rintro e w6 ⟨rfl, s6, n6, o6⟩
          rw [show stepV (exV 0) (exT 0) = (true, exV 1, exT 1) from rfl] at s6 n6 ⊢
          have S6 := Lib.hid s6
          have N6 := Lib.hid n6
          have M6 := Lib.hid (MJ.out.other o6 hmbM hmn)
          have hc6 := Lib.hid s6.asked
          have hcJ := Lib.hid SJ.out.asked
          clear s6 n6 o6 SJ NJ MJ
          go_wp2_with fail
          go_roundw
          case rel => exact ⟨1, by omega, S6, N6, M6⟩
          case measure => rw [askedLeft_of hc6.out, askedLeft_of hcJ.out]; decide
        · go_wp2_with fail
          (with_reducible refine (step_law SJ.out NJ.out hmbN hwN ⟨fun h => by simp [exV] at h, by decide, fun _ _ _ => by decide, fun _ h => by first | (simp [exV, exT, hd]; done) | (simp [exV, exT] at h)⟩ (by decide) (by decide) (by decide) (by decide)).mono ?_)
          rintro e w6 ⟨rfl, s6, n6, o6⟩
          rw [show stepV (exV 1) (exT 1) = (true, exV 2, exT 2) from rfl] at s6 n6 ⊢
          have S6 := Lib.hid s6
          have N6 := Lib.hid n6
          have M6 := Lib.hid (MJ.out.other o6 hmbM hmn)
          have hc6 := Lib.hid s6.asked
          have hcJ := Lib.hid SJ.out.asked
          clear s6 n6 o6 SJ NJ MJ
          go_wp2_with fail
          go_roundw
          case rel => exact ⟨2, by omega, S6, N6, M6⟩
          case measure => rw [askedLeft_of hc6.out, askedLeft_of hcJ.out]; decide
        · go_wp2_with fail
          (with_reducible refine (step_law SJ.out NJ.out hmbN hwN ⟨fun h => by simp [exV] at h, by decide, fun _ _ _ => by decide, fun _ h => by first | (simp [exV, exT, hd]; done) | (simp [exV, exT] at h)⟩ (by decide) (by decide) (by decide) (by decide)).mono ?_)
          rintro e w6 ⟨rfl, s6, n6, o6⟩
          rw [show stepV (exV 2) (exT 2) = (true, exV 3, exT 3) from rfl] at s6 n6 ⊢
          have S6 := Lib.hid s6
          have N6 := Lib.hid n6
          have M6 := Lib.hid (MJ.out.other o6 hmbM hmn)
          have hc6 := Lib.hid s6.asked
          have hcJ := Lib.hid SJ.out.asked
          clear s6 n6 o6 SJ NJ MJ
          go_wp2_with fail
          go_roundw
          case rel => exact ⟨3, by omega, S6, N6, M6⟩
          case measure => rw [askedLeft_of hc6.out, askedLeft_of hcJ.out]; decide
        · go_wp2_with fail
          (with_reducible refine (step_law SJ.out NJ.out hmbN hwN ⟨fun h => by simp [exV] at h, by decide, fun _ _ _ => by decide, fun h => by simp [exV] at h⟩ (by decide) (by decide) (by decide) (by decide)).mono ?_)
          rintro e w6 ⟨rfl, s6, n6, o6⟩
          rw [show stepV (exV 3) (exT 3) = (false, exV 3, exT 3) from rfl] at s6 n6 ⊢
          have S6 := Lib.hid s6
          have N6 := Lib.hid n6
          have M6 := Lib.hid (MJ.out.other o6 hmbM hmn)
          clear s6 n6 o6 SJ NJ MJ
          go_wp2_with fail
          (with_reducible refine (pop_nil _).mono ?_)
          rintro e w7 ⟨rfl, rfl⟩
          go_wp2_with fail
          (with_reducible refine (place_any M6.out).mono ?_)
          rintro e w8 ⟨rfl, rfl⟩
          go_wp2_with fail
          (with_reducible refine (place_any N6.out).mono ?_)
          rintro e w9 ⟨rfl, rfl⟩
          rw [show (exV 3).place = 3 from rfl]
          go_wp2_with fail
          have A6 : Hid (StackAt w6 b 0 (exT 3).L (exT 3).t (exT 3).n) := S6.out.at_
          (with_reducible refine (allS_any A6.out).mono ?_)
          rintro e w10 ⟨v10, rfl, o10, b10⟩
          obtain ⟨A10, c10, rfl⟩ := own_slice o10
          have B10 := Lib.hid (S6.out.below.trans (b10.mono S6.out.below.size))
          rw [show (exT 3).L.length = 0 from rfl]
          clear o10 b10
          go_wp2_with fail
          go_ret
          exact ⟨rfl, B10.out⟩
end Go.Proofs.Ytpddlnedaleblaa
