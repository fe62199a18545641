/- StackLate, walked. -/
import Derived.Test.YtpddlnedaleblaaBytes
namespace Go.Proofs.Ytpddlnedaleblaa
open Go.ChangeShapes Go.WideShapes Go.RowKit

/-- The stack behind k pushes; behind k pops. -/
def lateS (a b : Int) : Nat → Stk
  | 0 => ⟨[], 0, 0⟩
  | 1 => ⟨[b], 1, 2⟩
  | _ => ⟨[a, b], 2, 4⟩
def lateT (a b : Int) : Nat → Stk
  | 0 => ⟨[a, b], 2, 5⟩
  | 1 => ⟨[b], 3, 7⟩
  | _ => ⟨[], 4, 9⟩
def lateV (a : Int) : Mv := ⟨-1, a, 2, true, true, false⟩
theorem late_push0 {a b : Int} : pushed b (lateS a b 0) = lateS a b 1 := by simp [pushed, lateS]
theorem late_push1 {a b : Int} (h : a ≠ b) : pushed a (lateS a b 1) = lateS a b 2 := by simp [pushed, lateS, h]
theorem late_look {a b : Int} (h : 0 ≤ a) : stepV popV (lateS a b 2) = (true, lateV a, lateT a b 0) := by
  have hne : ¬ a = -1 := by omega
  simp [stepV, popV, lateS, lateT, lateV, hd, hne]
theorem late_lone {a : Int} (h : 0 ≤ a) (h1 : a < 64) : Lone ⟨-1, a, 2, true, false, false⟩ ⟨[a], 5, 12⟩ ⟨a, a, 5, true, false, true⟩ ⟨[], 6, 14⟩ := by
  have hne : ¬ a = -1 := by omega
  refine .step' (v1 := ⟨-1, a, 5, true, true, false⟩) (s1 := ⟨[a], 5, 13⟩) (r := true) ⟨(fun h => by simp at h), by simp; omega, (fun h => by simp at h), (fun h => by simp at h)⟩ ⟨by simp, by simp, by simp, by simp⟩ rfl (by simp [stepV, hd, hne]) ?_
  refine .step' (v1 := ⟨a, a, 5, true, false, true⟩) (s1 := ⟨[], 6, 14⟩) (r := true) ⟨(fun h => by simp at h), by simp; omega, (fun _ _ _ => hne), (fun _ _ => rfl)⟩ ⟨by simp, by simp, by simp, by simp⟩ rfl (by simp [stepV]) ?_
  exact .over ⟨(fun h => by simp at h), by simp; omega, (fun h => by simp at h), (fun h => by simp at h)⟩ ⟨by simp, by simp, by simp, by simp⟩ rfl
theorem MoveAt.skeep {w w' : World} {m p b : Nat} {v : Mv} (M : MoveAt w p b 0 v) (K : SKeep w w' b m) (h1 : p ≠ b) (h2 : p ≠ m) : MoveAt w' p b 0 v :=
  Obj_.of_block M (K.eq p (Obj_.lt M (by omega)) h1 h2)

set_option maxRecDepth 100000 in
set_option maxHeartbeats 8000000 in
theorem late_walk (W : World) (x y : Int) (hx : 0 ≤ x ∧ x ≤ 255) (hy : 0 ≤ y ∧ y ≤ 255) :
    Calls Try.prog 12 #[.int .u8 x, .int .u8 y] W (TrueBelow W) := by
  obtain ⟨hx0, hx1⟩ := hx
  obtain ⟨hy0, hy1⟩ := hy
  by_cases hab : x % 64 = y % 64
  · have e1 : (x % 64 == y % 64) = true := by simpa using hab
    clear hab
    go_enter Try.func12, Try.ntmps12
    go_wp2_with fail
    (with_reducible refine (alive13 W).mono ?_)
    rintro e w1 ⟨rfl, B1⟩
    go_wp2_with fail
    go_ret
    exact ⟨rfl, B1⟩
  · have e1 : (x % 64 == y % 64) = false := by simpa using hab
    have hab := Lib.hid hab
    have ha0 : 0 ≤ x % 64 := by omega
    have ha1 : x % 64 < 64 := by omega
    have hb0 : 0 ≤ y % 64 := by omega
    have hb1 : y % 64 < 64 := by omega
    go_enter Try.func12, Try.ntmps12
    go_wp2_with fail
    (with_reducible refine (alive13 W).mono ?_)
    rintro e w1 ⟨rfl, B1⟩
    have S0 := Lib.hid (SSt.new B1)
    clear B1
    go_wp2_with fail
    obtain ⟨b, hb⟩ : ∃ b, b = w1.heap.size := ⟨_, rfl⟩
    rw [← hb] at S0 ⊢
    clear hb e1
    generalize x % 64 = a at *
    generalize y % 64 = b' at *
    go_loopw [38] (fun i wr => ∃ k : Nat, k ≤ 2 ∧ i = .int .i64 k ∧ Hid (SSt W wr b (lateS a b' k))) (fun i _ => 2 - (intOf i).toNat)
    case atStart => exact ⟨0, by omega, rfl, S0⟩
    case round =>
      clear S0
      obtain ⟨k, hk, rfl, HS⟩ := hrel
      rcases (by omega : k = 0 ∨ k = 1 ∨ k = 2) with rfl | rfl | rfl
      · have hix : ∀ w, (Instr.index 82 (Value.agg #[.int .i64 b', .int .i64 a]) (.int .i64 0)).run Try.prog w = .ok (.int .i64 b') w := fun w => by kernel_rfl
        go_wp2_with fail
        clear hix
        (with_reducible refine (pushL HS.out b' (by omega)).mono ?_)
        rintro e w2 ⟨m, rfl, hm0, hmm, hwm, s1, m1, b1⟩
        have HM0 := Lib.hid hm0
        have S1 := Lib.hid s1
        have M1 := Lib.hid m1
        have K1 := Lib.hid (SKeep.of_below (b := b) (m := m) b1)
        have L1 := Lib.hid (push_lone (p := b') (by omega) HS.out.n_of (by simp [lateS, lateT]) (by simp [lateS, lateT]) (by simp [lateS, lateT]) (by simp [lateS, lateT]))
        clear s1 m1 b1 HS hm0
        go_wp2_with fail
        go_loopw [47] (fun _ wl => ∃ (v : Mv) (u : Stk), Hid (Lone v u (pushEnd b' (lateS a b' 0)) (pushed b' (lateS a b' 0))) ∧ Hid (SSt W wl b u) ∧ Hid (MoveAt wl m b 0 v) ∧ Hid (SKeep wr wl b m)) (fun _ wl => moveLeft b m wl)
        case atStart => exact ⟨_, _, L1, S1, M1, K1⟩
        case round =>
          clear S1 M1 K1 L1
          obtain ⟨v, u, HL, HU, HM, HK⟩ := hrel
          cases hov : v.over with
          | false =>
            have HOV := Lib.hid hov
            clear hov
            go_wp2_with fail
            (with_reducible refine (step_law HU.out HM.out hmm hwm HL.out.ok HL.out.bd.n0 (by have := HL.out.bd.n1; omega) HL.out.bd.t0 (by have := HL.out.bd.t1; omega)).mono ?_)
            rintro e wq ⟨rfl, sq, mq, oq⟩
            rw [step_true HOV.out]
            have HMS := Lib.hid (moveLeft_lt HU.out HM.out sq mq HOV.out HL.out.bd)
            have SQ := Lib.hid sq
            have MQ := Lib.hid mq
            have KQ := Lib.hid (HK.out.trans oq.keep)
            have LQ := Lib.hid (HL.out.next HOV.out)
            clear sq mq oq HU HM HK HL
            go_wp2_with fail
            go_roundw
            case rel => exact ⟨_, _, LQ, SQ, MQ, KQ⟩
            case measure => exact HMS.out
          | true =>
            have HOV := Lib.hid hov
            clear hov
            go_wp2_with fail
            (with_reducible refine (step_law HU.out HM.out hmm hwm HL.out.ok HL.out.bd.n0 (by have := HL.out.bd.n1; omega) HL.out.bd.t0 (by have := HL.out.bd.t1; omega)).mono ?_)
            rintro e wq1 ⟨rfl, sq, mq, oq⟩
            rw [step_end v u HOV.out] at sq mq ⊢
            have S1x := Lib.hid sq
            have M1x := Lib.hid mq
            have K1x := Lib.hid (HK.out.trans oq.keep)
            obtain ⟨ev, eu⟩ := HL.out.done HOV.out
            subst ev eu
            clear sq mq oq HU HM HK HL HOV
            rw [show pushed b' (lateS a b' 0) = lateS a b' 1 from late_push0] at S1x
            go_wp2_with fail
            go_roundw
            case rel => exact ⟨1, by omega, by go_num, S1x⟩
            case measure => simp [intOf]
      · have hix : ∀ w, (Instr.index 82 (Value.agg #[.int .i64 b', .int .i64 a]) (.int .i64 1)).run Try.prog w = .ok (.int .i64 a) w := fun w => by kernel_rfl
        go_wp2_with fail
        clear hix
        (with_reducible refine (pushL HS.out a (by omega)).mono ?_)
        rintro e w2 ⟨m, rfl, hm0, hmm, hwm, s1, m1, b1⟩
        have HM0 := Lib.hid hm0
        have S1 := Lib.hid s1
        have M1 := Lib.hid m1
        have K1 := Lib.hid (SKeep.of_below (b := b) (m := m) b1)
        have L1 := Lib.hid (push_lone (p := a) (by omega) HS.out.n_of (by simp [lateS, lateT]) (by simp [lateS, lateT]) (by simp [lateS, lateT]) (by simp [lateS, lateT]))
        clear s1 m1 b1 HS hm0
        go_wp2_with fail
        go_loopw [47] (fun _ wl => ∃ (v : Mv) (u : Stk), Hid (Lone v u (pushEnd a (lateS a b' 1)) (pushed a (lateS a b' 1))) ∧ Hid (SSt W wl b u) ∧ Hid (MoveAt wl m b 0 v) ∧ Hid (SKeep wr wl b m)) (fun _ wl => moveLeft b m wl)
        case atStart => exact ⟨_, _, L1, S1, M1, K1⟩
        case round =>
          clear S1 M1 K1 L1
          obtain ⟨v, u, HL, HU, HM, HK⟩ := hrel
          cases hov : v.over with
          | false =>
            have HOV := Lib.hid hov
            clear hov
            go_wp2_with fail
            (with_reducible refine (step_law HU.out HM.out hmm hwm HL.out.ok HL.out.bd.n0 (by have := HL.out.bd.n1; omega) HL.out.bd.t0 (by have := HL.out.bd.t1; omega)).mono ?_)
            rintro e wq ⟨rfl, sq, mq, oq⟩
            rw [step_true HOV.out]
            have HMS := Lib.hid (moveLeft_lt HU.out HM.out sq mq HOV.out HL.out.bd)
            have SQ := Lib.hid sq
            have MQ := Lib.hid mq
            have KQ := Lib.hid (HK.out.trans oq.keep)
            have LQ := Lib.hid (HL.out.next HOV.out)
            clear sq mq oq HU HM HK HL
            go_wp2_with fail
            go_roundw
            case rel => exact ⟨_, _, LQ, SQ, MQ, KQ⟩
            case measure => exact HMS.out
          | true =>
            have HOV := Lib.hid hov
            clear hov
            go_wp2_with fail
            (with_reducible refine (step_law HU.out HM.out hmm hwm HL.out.ok HL.out.bd.n0 (by have := HL.out.bd.n1; omega) HL.out.bd.t0 (by have := HL.out.bd.t1; omega)).mono ?_)
            rintro e wq1 ⟨rfl, sq, mq, oq⟩
            rw [step_end v u HOV.out] at sq mq ⊢
            have S1x := Lib.hid sq
            have M1x := Lib.hid mq
            have K1x := Lib.hid (HK.out.trans oq.keep)
            obtain ⟨ev, eu⟩ := HL.out.done HOV.out
            subst ev eu
            clear sq mq oq HU HM HK HL HOV
            rw [show pushed a (lateS a b' 1) = lateS a b' 2 from late_push1 hab.out] at S1x
            go_wp2_with fail
            go_roundw
            case rel => exact ⟨2, by omega, by go_num, S1x⟩
            case measure => simp [intOf]
      · go_wp2_with fail
        (with_reducible refine (popL HS.out).mono ?_)
        rintro e w2 ⟨p, rfl, hp0, hpb, hwp, s1, m1, b1⟩
        have S1 := Lib.hid s1
        have M1 := Lib.hid m1
        have HP0 := Lib.hid hp0
        clear s1 m1 b1 HS hp0
        go_wp2_with fail
        (with_reducible refine (step_law S1.out M1.out hpb hwp (ok_pop _) (by simp [lateS, lateT]) (by simp [lateS, lateT]) (by simp [lateS, lateT]) (by simp [lateS, lateT])).mono ?_)
        rintro e w3 ⟨rfl, s3, m3, o3⟩
        rw [late_look (by omega)] at s3 m3 ⊢
        have S3 := Lib.hid s3
        have P3 := Lib.hid m3
        clear s3 m3 o3 S1 M1 HP0
        go_wp2_with fail

        go_loopw [55] (fun i wr => ∃ k : Nat, k ≤ 2 ∧ i = .int .i64 k ∧ Hid (SSt W wr b (lateT a b' k)) ∧ Hid (MoveAt wr p b 0 (lateV a))) (fun i _ => 2 - (intOf i).toNat)
        case atStart => exact ⟨0, by omega, rfl, S3, P3⟩
        case round =>
          clear S3 P3
          obtain ⟨k, hk, rfl, HS, HP⟩ := hrel
          rcases (by omega : k = 0 ∨ k = 1 ∨ k = 2) with rfl | rfl | rfl
          · go_wp2_with fail
            (with_reducible refine (popL HS.out).mono ?_)
            rintro e w2 ⟨m, rfl, hm0, hmm, hwm, s1, m1, b1⟩
            have HM0 := Lib.hid hm0
            have S1 := Lib.hid s1
            have M1 := Lib.hid m1
            have K1 := Lib.hid (SKeep.of_below (b := b) (m := m) b1)
            have L1 := Lib.hid (pop_lone HS.out.n_of (by simp [lateS, lateT]) (by simp [lateS, lateT]) (by simp [lateS, lateT]) (by simp [lateS, lateT]))
            clear s1 m1 b1 HS hm0
            go_wp2_with fail
            go_loopw [62] (fun _ wl => ∃ (v : Mv) (u : Stk), Hid (Lone v u (popEnd (lateT a b' 0)) (popped (lateT a b' 0))) ∧ Hid (SSt W wl b u) ∧ Hid (MoveAt wl m b 0 v) ∧ Hid (SKeep wr wl b m)) (fun _ wl => moveLeft b m wl)
            case atStart => exact ⟨_, _, L1, S1, M1, K1⟩
            case round =>
              clear S1 M1 K1 L1
              obtain ⟨v, u, HL, HU, HM, HK⟩ := hrel
              cases hov : v.over with
              | false =>
                have HOV := Lib.hid hov
                clear hov
                go_wp2_with fail
                (with_reducible refine (step_law HU.out HM.out hmm hwm HL.out.ok HL.out.bd.n0 (by have := HL.out.bd.n1; omega) HL.out.bd.t0 (by have := HL.out.bd.t1; omega)).mono ?_)
                rintro e wq ⟨rfl, sq, mq, oq⟩
                rw [step_true HOV.out]
                have HMS := Lib.hid (moveLeft_lt HU.out HM.out sq mq HOV.out HL.out.bd)
                have SQ := Lib.hid sq
                have MQ := Lib.hid mq
                have KQ := Lib.hid (HK.out.trans oq.keep)
                have LQ := Lib.hid (HL.out.next HOV.out)
                clear sq mq oq HU HM HK HL
                go_wp2_with fail
                go_roundw
                case rel => exact ⟨_, _, LQ, SQ, MQ, KQ⟩
                case measure => exact HMS.out
              | true =>
                have HOV := Lib.hid hov
                clear hov
                go_wp2_with fail
                (with_reducible refine (step_law HU.out HM.out hmm hwm HL.out.ok HL.out.bd.n0 (by have := HL.out.bd.n1; omega) HL.out.bd.t0 (by have := HL.out.bd.t1; omega)).mono ?_)
                rintro e wq1 ⟨rfl, sq, mq, oq⟩
                rw [step_end v u HOV.out] at sq mq ⊢
                have S1x := Lib.hid sq
                have M1x := Lib.hid mq
                have K1x := Lib.hid (HK.out.trans oq.keep)
                obtain ⟨ev, eu⟩ := HL.out.done HOV.out
                subst ev eu
                clear sq mq oq HU HM HK HL HOV
                rw [show popped (lateT a b' 0) = lateT a b' 1 from rfl] at S1x
                have P1 := Lib.hid (HP.out.skeep K1x.out hpb (by have := Obj_.lt HP.out (by omega); have := HM0.out; omega))
                clear HP
                go_wp2_with fail
                go_roundw
                case rel => exact ⟨1, by omega, by go_num, S1x, P1⟩
                case measure => simp [intOf]
          · go_wp2_with fail
            (with_reducible refine (popL HS.out).mono ?_)
            rintro e w2 ⟨m, rfl, hm0, hmm, hwm, s1, m1, b1⟩
            have HM0 := Lib.hid hm0
            have S1 := Lib.hid s1
            have M1 := Lib.hid m1
            have K1 := Lib.hid (SKeep.of_below (b := b) (m := m) b1)
            have L1 := Lib.hid (pop_lone HS.out.n_of (by simp [lateS, lateT]) (by simp [lateS, lateT]) (by simp [lateS, lateT]) (by simp [lateS, lateT]))
            clear s1 m1 b1 HS hm0
            go_wp2_with fail
            go_loopw [62] (fun _ wl => ∃ (v : Mv) (u : Stk), Hid (Lone v u (popEnd (lateT a b' 1)) (popped (lateT a b' 1))) ∧ Hid (SSt W wl b u) ∧ Hid (MoveAt wl m b 0 v) ∧ Hid (SKeep wr wl b m)) (fun _ wl => moveLeft b m wl)
            case atStart => exact ⟨_, _, L1, S1, M1, K1⟩
            case round =>
              clear S1 M1 K1 L1
              obtain ⟨v, u, HL, HU, HM, HK⟩ := hrel
              cases hov : v.over with
              | false =>
                have HOV := Lib.hid hov
                clear hov
                go_wp2_with fail
                (with_reducible refine (step_law HU.out HM.out hmm hwm HL.out.ok HL.out.bd.n0 (by have := HL.out.bd.n1; omega) HL.out.bd.t0 (by have := HL.out.bd.t1; omega)).mono ?_)
                rintro e wq ⟨rfl, sq, mq, oq⟩
                rw [step_true HOV.out]
                have HMS := Lib.hid (moveLeft_lt HU.out HM.out sq mq HOV.out HL.out.bd)
                have SQ := Lib.hid sq
                have MQ := Lib.hid mq
                have KQ := Lib.hid (HK.out.trans oq.keep)
                have LQ := Lib.hid (HL.out.next HOV.out)
                clear sq mq oq HU HM HK HL
                go_wp2_with fail
                go_roundw
                case rel => exact ⟨_, _, LQ, SQ, MQ, KQ⟩
                case measure => exact HMS.out
              | true =>
                have HOV := Lib.hid hov
                clear hov
                go_wp2_with fail
                (with_reducible refine (step_law HU.out HM.out hmm hwm HL.out.ok HL.out.bd.n0 (by have := HL.out.bd.n1; omega) HL.out.bd.t0 (by have := HL.out.bd.t1; omega)).mono ?_)
                rintro e wq1 ⟨rfl, sq, mq, oq⟩
                rw [step_end v u HOV.out] at sq mq ⊢
                have S1x := Lib.hid sq
                have M1x := Lib.hid mq
                have K1x := Lib.hid (HK.out.trans oq.keep)
                obtain ⟨ev, eu⟩ := HL.out.done HOV.out
                subst ev eu
                clear sq mq oq HU HM HK HL HOV
                rw [show popped (lateT a b' 1) = lateT a b' 2 from rfl] at S1x
                have P1 := Lib.hid (HP.out.skeep K1x.out hpb (by have := Obj_.lt HP.out (by omega); have := HM0.out; omega))
                clear HP
                go_wp2_with fail
                go_roundw
                case rel => exact ⟨2, by omega, by go_num, S1x, P1⟩
                case measure => simp [intOf]
          · go_wp2_with fail
            (with_reducible refine (pushL HS.out a (by omega)).mono ?_)
            rintro e w2 ⟨m, rfl, hm0, hmm, hwm, s1, m1, b1⟩
            have HM0 := Lib.hid hm0
            have S1 := Lib.hid s1
            have M1 := Lib.hid m1
            have K1 := Lib.hid (SKeep.of_below (b := b) (m := m) b1)
            have L1 := Lib.hid (push_lone (p := a) (by omega) HS.out.n_of (by simp [lateS, lateT]) (by simp [lateS, lateT]) (by simp [lateS, lateT]) (by simp [lateS, lateT]))
            clear s1 m1 b1 HS hm0
            go_wp2_with fail

            go_loopw [69] (fun _ wl => ∃ (v : Mv) (u : Stk), Hid (Lone v u (pushEnd a (lateT a b' 2)) (pushed a (lateT a b' 2))) ∧ Hid (SSt W wl b u) ∧ Hid (MoveAt wl m b 0 v) ∧ Hid (SKeep wr wl b m)) (fun _ wl => moveLeft b m wl)
            case atStart => exact ⟨_, _, L1, S1, M1, K1⟩
            case round =>
              clear S1 M1 K1 L1
              obtain ⟨v, u, HL, HU, HM, HK⟩ := hrel
              cases hov : v.over with
              | false =>
                have HOV := Lib.hid hov
                clear hov
                go_wp2_with fail
                (with_reducible refine (step_law HU.out HM.out hmm hwm HL.out.ok HL.out.bd.n0 (by have := HL.out.bd.n1; omega) HL.out.bd.t0 (by have := HL.out.bd.t1; omega)).mono ?_)
                rintro e wq ⟨rfl, sq, mq, oq⟩
                rw [step_true HOV.out]
                have HMS := Lib.hid (moveLeft_lt HU.out HM.out sq mq HOV.out HL.out.bd)
                have SQ := Lib.hid sq
                have MQ := Lib.hid mq
                have KQ := Lib.hid (HK.out.trans oq.keep)
                have LQ := Lib.hid (HL.out.next HOV.out)
                clear sq mq oq HU HM HK HL
                go_wp2_with fail
                go_roundw
                case rel => exact ⟨_, _, LQ, SQ, MQ, KQ⟩
                case measure => exact HMS.out
              | true =>
                have HOV := Lib.hid hov
                clear hov
                go_wp2_with fail
                (with_reducible refine (step_law HU.out HM.out hmm hwm HL.out.ok HL.out.bd.n0 (by have := HL.out.bd.n1; omega) HL.out.bd.t0 (by have := HL.out.bd.t1; omega)).mono ?_)
                rintro e wq4 ⟨rfl, sq, mq, oq⟩
                rw [step_end v u HOV.out] at sq mq ⊢
                have S4x := Lib.hid sq
                have M4x := Lib.hid mq
                have K4x := Lib.hid (HK.out.trans oq.keep)
                obtain ⟨ev, eu⟩ := HL.out.done HOV.out
                subst ev eu
                clear sq mq oq HU HM HK HL HOV
                have P4 := Lib.hid (HP.out.skeep K4x.out hpb (by have := Obj_.lt HP.out (by omega); have := HM0.out; omega))
                clear HP K4x M4x
                rw [show pushed a (lateT a b' 2) = ⟨[a], 5, 11⟩ from rfl] at S4x
                go_wp2_with fail
                (with_reducible refine (step_law S4x.out P4.out hpb hwp ⟨(fun h => by simp [lateV] at h), by simp [lateV]; omega, fun _ _ _ => by simp [lateV]; omega, (fun _ h => by simp [lateV] at h)⟩ (by simp [lateS, lateT]) (by simp [lateS, lateT]) (by simp [lateS, lateT]) (by simp [lateS, lateT])).mono ?_)
                rintro e w5 ⟨rfl, s5, m5, o5⟩
                rw [show stepV (lateV a) ⟨[a], 5, 11⟩ = (true, ⟨-1, a, 2, true, false, false⟩, ⟨[a], 5, 12⟩) from rfl] at s5 m5 ⊢
                have S5 := Lib.hid s5
                have M5 := Lib.hid m5
                clear s5 m5 o5 S4x P4
                go_wp2_with fail
                (with_reducible refine (done_any M5.out).mono ?_)
                rintro e w6 ⟨rfl, rfl⟩
                go_wp2_with fail
                (with_reducible refine (all_of S5.out).mono ?_)
                rintro e w7 ⟨A7, c7, rfl, s7, b7, r7, _⟩
                have S7 := Lib.hid s7
                have M7 := Lib.hid (M5.out.of_below b7)
                have R7 := Lib.hid r7
                clear s7 b7 r7 S5 M5
                go_wp2_with fail
                have R7b := Lib.hid (SArg.lit (b := b) (x := a) (T := 3) S7.out)
                have B7 : Hid (Below w7.heap.size w7 (w7.alloc (Obj.cells #[Value.int IntKind.i64 a] 3))) := (Below.refl _ _).alloc (Nat.le_refl _) _
                have R7a : Hid (SArg _ b A7 1 [a]) := R7.out.below B7.out
                have S8 := Lib.hid (S7.out.of_below B7.out)
                have M8 := Lib.hid (M7.out.of_below B7.out)
                clear S7 M7 R7 B7
                generalize hw8 : w7.alloc (Obj.cells #[Value.int IntKind.i64 a] 3) = w8 at *
                clear hw8
                (with_reducible refine (same_two w8 R7a.out R7b.out (by simp) (by omega)).mono ?_)
                rintro e w9 ⟨rfl, b9⟩
                rw [show decide ([a] = [a]) = true by simp]
                have S9 := Lib.hid (S8.out.of_below b9)
                have M9 := Lib.hid (M8.out.of_below b9)
                have K9 := Lib.hid (SKeep.refl w9 b p)
                have hmp := hpb
                have L9 := Lib.hid (late_lone (a := a) (by omega) (by omega))
                clear b9 S8 M8 R7a R7b
                go_wp2_with fail
                go_loopw [86] (fun _ wl => ∃ (v : Mv) (u : Stk), Hid (Lone v u (⟨a, a, 5, true, false, true⟩) (⟨[], 6, 14⟩)) ∧ Hid (SSt W wl b u) ∧ Hid (MoveAt wl p b 0 v) ∧ Hid (SKeep w9 wl b p)) (fun _ wl => moveLeft b p wl)
                case atStart => exact ⟨_, _, L9, S9, M9, K9⟩
                case round =>
                  clear S9 M9 K9 L9
                  obtain ⟨v, u, HL, HU, HM, HK⟩ := hrel
                  cases hov : v.over with
                  | false =>
                    have HOV := Lib.hid hov
                    clear hov
                    go_wp2_with fail
                    (with_reducible refine (step_law HU.out HM.out hmp hwp HL.out.ok HL.out.bd.n0 (by have := HL.out.bd.n1; omega) HL.out.bd.t0 (by have := HL.out.bd.t1; omega)).mono ?_)
                    rintro e wq ⟨rfl, sq, mq, oq⟩
                    rw [step_true HOV.out]
                    have HMS := Lib.hid (moveLeft_lt HU.out HM.out sq mq HOV.out HL.out.bd)
                    have SQ := Lib.hid sq
                    have MQ := Lib.hid mq
                    have KQ := Lib.hid (HK.out.trans oq.keep)
                    have LQ := Lib.hid (HL.out.next HOV.out)
                    clear sq mq oq HU HM HK HL
                    go_wp2_with fail
                    go_roundw
                    case rel => exact ⟨_, _, LQ, SQ, MQ, KQ⟩
                    case measure => exact HMS.out
                  | true =>
                    have HOV := Lib.hid hov
                    clear hov
                    go_wp2_with fail
                    (with_reducible refine (step_law HU.out HM.out hmp hwp HL.out.ok HL.out.bd.n0 (by have := HL.out.bd.n1; omega) HL.out.bd.t0 (by have := HL.out.bd.t1; omega)).mono ?_)
                    rintro e wq5 ⟨rfl, sq, mq, oq⟩
                    rw [step_end v u HOV.out] at sq mq ⊢
                    have S5x := Lib.hid sq
                    have M5x := Lib.hid mq
                    have K5x := Lib.hid (HK.out.trans oq.keep)
                    obtain ⟨ev, eu⟩ := HL.out.done HOV.out
                    subst ev eu
                    clear sq mq oq HU HM HK HL HOV
                    clear K5x
                    go_wp2_with fail
                    (with_reducible refine (look_law S5x.out (by simp) (by simp)).mono ?_)
                    rintro e w10 ⟨rfl, s10, k10⟩
                    have S10 := Lib.hid s10
                    have M10 := Lib.hid (Obj_.of_block M5x.out (k10.gr.block p (Obj_.lt M5x.out (by omega)) (by simpa using hpb)))
                    clear s10 k10 S5x M5x
                    go_wp2_with fail
                    (with_reducible refine (put_arg _ b 0 70 _ 0 (by omega)).mono ?_)
                    rintro e w11 ⟨rfl, rfl⟩
                    go_wp2_with fail
                    (with_reducible refine (take_arg _ b 0 (-1) 0 (by omega)).mono ?_)
                    rintro e w12 ⟨rfl, rfl⟩
                    have M11 : Hid (MoveAt w10 p b 0 ⟨a, a, 5, true, false, true⟩) := M10.out
                    clear M10
                    go_wp2_with fail
                    (with_reducible refine (place_any M11.out).mono ?_)
                    rintro e w13 ⟨rfl, rfl⟩
                    have qa : (a == a) = true := by simp
                    go_wp2_with fail
                    (with_reducible refine (all_of S10.out).mono ?_)
                    rintro e w14 ⟨A14, c14, rfl, s14, _, _, _⟩
                    have B14 := Lib.hid s14.below
                    rw [show (⟨([] : List Int), 6, 14 + 1⟩ : Stk).L.length = 0 from rfl]
                    clear s14 S10 M11
                    go_wp2_with fail
                    go_ret
                    exact ⟨rfl, B14.out⟩

section
variable {H : Type} {enc : TypeId × Value → H} {W : World} {base : Nat} {args : Array Value} {ds : List (DataW H)} {p : List MemPlace}
set_option maxRecDepth 100000 in
theorem StackLate_run (hval : ∀ (j : Nat) t v, #[5, 5][j]? = some t → args[j]? = some v → Value.okWide Try.prog W .any base t v)
    (hA : DataW.TrodAll enc Try.prog W 0 (fun _ => true) true [5, 5] args.toList ds p) (hlt : ∀ x ∈ p, x.block < W.heap.size) :
    Calls Try.prog 12 args W (TrueBelow W) := by
  obtain ⟨v0, v1, d0, d1, p0, p1, rfl, rfl, rfl, h0, h1⟩ := trodAll_two hA
  obtain ⟨q, rfl, rfl, rfl, wq⟩ := open_int Try.underlying5 (hval 0 5 v0 rfl rfl) h0
  obtain ⟨q', rfl, rfl, rfl, wq'⟩ := open_int Try.underlying5 (hval 1 5 v1 rfl rfl) h1
  exact late_walk W q q' (bounds_u8 wq) (bounds_u8 wq')
end
end Go.Proofs.Ytpddlnedaleblaa
