/- StackLast, walked. -/
import Derived.Test.YtpddlnedaleblaaBytes
import Derived.Test.YtpddlnedaleblaaRef11c
namespace Go.Proofs.Ytpddlnedaleblaa
open Go.ChangeShapes Go.WideShapes Go.RowKit

theorem own_lit1 (w : World) (v : Value) : (w.alloc (.cells #[v] 3)).ownsRow w.heap.size 3 1 (.slice (some ⟨w.heap.size, 0, none⟩) 1 1) 1 [v] :=
  ⟨rfl, .inr ⟨w.heap.size, 1, #[v], rfl, Nat.le_refl _, by simp [World.alloc, -World.alloc_eq], Nat.le_refl _, by simp [maxLen], rfl, rfl⟩⟩

theorem sarg_of_own {w : World} {B b : Nat} {v : Value} {l : List Int} (h : w.ownsRow B 3 1 v l.length (l.map (.int .i64))) (hb : b < B) : ∃ A c, v = .slice A l.length c ∧ SArg w b A l.length l := by
  obtain ⟨A, c, rfl, hA, _, _, hrow, _⟩ := own_ints_shape h
  exact ⟨A, c, rfl, hrow, fun ad e => ⟨hA ad e, by subst e; have := (h.lt ad.block rfl).1; omega, by subst e; exact (h.lt ad.block rfl).2⟩⟩

set_option maxRecDepth 100000 in
set_option maxHeartbeats 8000000 in
theorem last_walk (W : World) (A : Option Addr) (n c : Nat) (f : Nat → Nat) (hf : Bytes W A n f) (hn : n ≤ c) (hc : c ≤ maxLen) :
    Calls Try.prog 11 #[.slice A n c] W (TrueBelow W) := by
  have HF := Lib.hid hf
  have hm : c < 9223372036854775808 := by unfold maxLen at hc; omega
  clear hf hc
  obtain ⟨i0, hi0, hz0, hz1, hz2⟩ := info_parts info_int
  go_enter Try.func11, Try.ntmps11
  go_wp2_with fail
  (with_reducible refine (alive13 W).mono ?_)
  rintro e w1 ⟨rfl, B1⟩
  by_cases hbig : 64 < n
  · go_wp2_with fail
    go_ret
    exact ⟨rfl, B1⟩
  · have S0 := Lib.hid (SSt.new B1)
    clear B1
    go_wp2_with fail
    obtain ⟨b, hb⟩ : ∃ b, b = w1.heap.size := ⟨_, rfl⟩
    rw [← hb] at S0 ⊢
    clear hb
    have R0 : Hid (SArg (w1.alloc (.cells Try.zeroCells71 71)) b none 0 []) := ⟨Reads.none_, fun _ e => by cases e⟩
    go_loopw [4, 20] (fun v i wr => ∃ (k : Nat) (s : Stk) (A0 : Option Addr) (c0 : Nat), k ≤ n ∧ i = .int .i64 k ∧ 0 ≤ s.n ∧ s.n ≤ 2 * k ∧ 0 ≤ s.t ∧ s.t ≤ k ∧ v = .slice A0 s.L.length c0 ∧ Hid (SSt W wr b s) ∧ Hid (SArg wr b A0 s.L.length s.L)) (fun _ i _ => n - (intOf i).toNat)
    case atStart => exact ⟨0, ⟨[], 0, 0⟩, none, 0, by omega, rfl, by decide, by decide, by decide, by decide, rfl, S0, R0⟩
    case round =>
      clear S0 R0
      obtain ⟨k, s, A0, c0, hk, rfl, n0, n1, t0, t1, rfl, HS, HR⟩ := hrel
      by_cases hlt : k < n
      · obtain ⟨g, off, rfl, hg, hx, h0'⟩ := HF.out k hlt
        have h0 := (HS.out.below.cell (p := ⟨g, off + k, none⟩) hg).trans h0'
        have hp := mod64 (f k) hx
        have hll0 : s.L.length ≤ 64 := StackAt.len (L := s.L) (t := s.t) (n := s.n) HS.out.at_
        generalize f k = x at *
        clear h0'
        by_cases hin : ((x : Int) % 64) ∈ s.L
        · have HIN := Lib.hid hin
          clear hin
          go_wp2_with fail
          clear h0
          (with_reducible refine (pushL HS.out ((x : Int) % 64) hp).mono ?_)
          rintro e w2 ⟨m, rfl, hm0, hmm, hwm, s1, m1, b1⟩
          have HM0 := Lib.hid hm0
          have HS0 := HS
          have S1 := Lib.hid s1
          have M1 := Lib.hid m1
          have K1 := Lib.hid (SKeep.of_below (b := b) (m := m) b1)
          have L1 := Lib.hid (push_lone hp HS.out.n_of n0 (by omega) t0 (by omega))
          clear s1 m1 b1 HS hm0
          go_wp2_with fail
          go_loopw [32] (fun _ wl => ∃ (v : Mv) (u : Stk), Hid (Lone v u (pushEnd ((x : Int) % 64) s) (pushed ((x : Int) % 64) s)) ∧ Hid (SSt W wl b u) ∧ Hid (MoveAt wl m b 0 v) ∧ Hid (SKeep wr wl b m)) (fun _ wl => moveLeft b m wl)
          case atStart => exact ⟨_, _, L1, S1, M1, K1⟩
          case round =>
            clear S1 M1 K1 L1
            obtain ⟨v, u, HL, HU, HM, HK⟩ := hrel
            cases hov : v.over with
            | false =>
              have HOV := Lib.hid hov
              clear hov
              go_wp2_with fail
              (with_reducible refine (step_law HU.out HM.out hmm hwm HL.out.ok HL.out.bd.n0 (by have := HL.out.bd.n1; omega) HL.out.bd.t0 (by have := HL.out.bd.t1; omega)).mono ?_)
              rintro e wq ⟨rfl, sq, mq, oq⟩
              rw [step_true HOV.out]
              have HMS := Lib.hid (moveLeft_lt HU.out HM.out sq mq HOV.out HL.out.bd)
              have SQ := Lib.hid sq
              have MQ := Lib.hid mq
              have KQ := Lib.hid (HK.out.trans oq.keep)
              have LQ := Lib.hid (HL.out.next HOV.out)
              clear sq mq oq HU HM HK HL
              go_wp2_with fail
              go_roundw
              case rel => exact ⟨_, _, LQ, SQ, MQ, KQ⟩
              case measure => exact HMS.out
            | true =>
              have HOV := Lib.hid hov
              clear hov
              go_wp2_with fail
              (with_reducible refine (step_law HU.out HM.out hmm hwm HL.out.ok HL.out.bd.n0 (by have := HL.out.bd.n1; omega) HL.out.bd.t0 (by have := HL.out.bd.t1; omega)).mono ?_)
              rintro e wq1 ⟨rfl, sq, mq, oq⟩
              rw [step_end v u HOV.out] at sq mq ⊢
              have S1x := Lib.hid sq
              have M1x := Lib.hid mq
              have K1x := Lib.hid (HK.out.trans oq.keep)
              obtain ⟨ev, eu⟩ := HL.out.done HOV.out
              subst ev eu
              clear sq mq oq HU HM HK HL HOV
              have R1 := Lib.hid (HR.out.keep K1x.out (fun ad e => by have := (HR.out.ap ad e).2.2; have := HM0.out; omega))
              have hn : (pushed ((x : Int) % 64) s).n ≤ s.n + 2 ∧ s.n ≤ (pushed ((x : Int) % 64) s).n ∧ (pushed ((x : Int) % 64) s).t ≤ s.t + 1 ∧ s.t ≤ (pushed ((x : Int) % 64) s).t := by unfold pushed; split <;> simp <;> omega
              clear HR K1x M1x
              go_wp2_with fail
              (with_reducible refine (at_ref _ _ A0 _ c0 s.L ((x : Int) % 64) R1.out.row (fun ad _ e => (R1.out.ap ad e).1) (by omega)).mono ?_)
              rintro e w5 ⟨rfl, rfl⟩
              have hneg : ¬ idx s.L ((x : Int) % 64) < 0 := fun h => idx_neg.1 h HIN.out
              have HPU : Hid (pushed ((x : Int) % 64) s = ⟨s.L, s.t, s.n + 1⟩) := by show _ = _; unfold pushed; rw [if_pos HIN.out]
              have S2 : Hid (SSt W wq1 b ⟨s.L, s.t, s.n + 1⟩) := by have := S1x.out; rw [HPU.out] at this; exact this
              clear S1x
              go_wp2_with fail
              go_roundw
              case rel => exact ⟨k + 1, ⟨s.L, s.t, s.n + 1⟩, A0, c0, by omega, by go_num, by simp; omega, by simp; omega, by simp; omega, by simp; omega, rfl, S2, R1⟩
              case measure => simp [intOf]; omega
        · have HIN := Lib.hid hin
          clear hin
          go_wp2_with fail
          clear h0
          (with_reducible refine (pushL HS.out ((x : Int) % 64) hp).mono ?_)
          rintro e w2 ⟨m, rfl, hm0, hmm, hwm, s1, m1, b1⟩
          have HM0 := Lib.hid hm0
          have HS0 := HS
          have S1 := Lib.hid s1
          have M1 := Lib.hid m1
          have K1 := Lib.hid (SKeep.of_below (b := b) (m := m) b1)
          have L1 := Lib.hid (push_lone hp HS.out.n_of n0 (by omega) t0 (by omega))
          clear s1 m1 b1 HS hm0
          go_wp2_with fail
          go_loopw [32] (fun _ wl => ∃ (v : Mv) (u : Stk), Hid (Lone v u (pushEnd ((x : Int) % 64) s) (pushed ((x : Int) % 64) s)) ∧ Hid (SSt W wl b u) ∧ Hid (MoveAt wl m b 0 v) ∧ Hid (SKeep wr wl b m)) (fun _ wl => moveLeft b m wl)
          case atStart => exact ⟨_, _, L1, S1, M1, K1⟩
          case round =>
            clear S1 M1 K1 L1
            obtain ⟨v, u, HL, HU, HM, HK⟩ := hrel
            cases hov : v.over with
            | false =>
              have HOV := Lib.hid hov
              clear hov
              go_wp2_with fail
              (with_reducible refine (step_law HU.out HM.out hmm hwm HL.out.ok HL.out.bd.n0 (by have := HL.out.bd.n1; omega) HL.out.bd.t0 (by have := HL.out.bd.t1; omega)).mono ?_)
              rintro e wq ⟨rfl, sq, mq, oq⟩
              rw [step_true HOV.out]
              have HMS := Lib.hid (moveLeft_lt HU.out HM.out sq mq HOV.out HL.out.bd)
              have SQ := Lib.hid sq
              have MQ := Lib.hid mq
              have KQ := Lib.hid (HK.out.trans oq.keep)
              have LQ := Lib.hid (HL.out.next HOV.out)
              clear sq mq oq HU HM HK HL
              go_wp2_with fail
              go_roundw
              case rel => exact ⟨_, _, LQ, SQ, MQ, KQ⟩
              case measure => exact HMS.out
            | true =>
              have HOV := Lib.hid hov
              clear hov
              go_wp2_with fail
              (with_reducible refine (step_law HU.out HM.out hmm hwm HL.out.ok HL.out.bd.n0 (by have := HL.out.bd.n1; omega) HL.out.bd.t0 (by have := HL.out.bd.t1; omega)).mono ?_)
              rintro e wq1 ⟨rfl, sq, mq, oq⟩
              rw [step_end v u HOV.out] at sq mq ⊢
              have S1x := Lib.hid sq
              have M1x := Lib.hid mq
              have K1x := Lib.hid (HK.out.trans oq.keep)
              obtain ⟨ev, eu⟩ := HL.out.done HOV.out
              subst ev eu
              clear sq mq oq HU HM HK HL HOV
              have R1 := Lib.hid (HR.out.keep K1x.out (fun ad e => by have := (HR.out.ap ad e).2.2; have := HM0.out; omega))
              have hn : (pushed ((x : Int) % 64) s).n ≤ s.n + 2 ∧ s.n ≤ (pushed ((x : Int) % 64) s).n ∧ (pushed ((x : Int) % 64) s).t ≤ s.t + 1 ∧ s.t ≤ (pushed ((x : Int) % 64) s).t := by unfold pushed; split <;> simp <;> omega
              clear HR K1x M1x
              go_wp2_with fail
              (with_reducible refine (at_ref _ _ A0 _ c0 s.L ((x : Int) % 64) R1.out.row (fun ad _ e => (R1.out.ap ad e).1) (by omega)).mono ?_)
              rintro e w5 ⟨rfl, rfl⟩
              have hneg : idx s.L ((x : Int) % 64) < 0 := idx_neg.2 HIN.out
              have HPU : Hid (pushed ((x : Int) % 64) s = ⟨((x : Int) % 64) :: s.L, s.t + 1, s.n + 2⟩) := by show _ = _; unfold pushed; rw [if_neg HIN.out]
              have S2 : Hid (SSt W wq1 b ⟨((x : Int) % 64) :: s.L, s.t + 1, s.n + 2⟩) := by have := S1x.out; rw [HPU.out] at this; exact this
              have hll : s.L.length ≤ 64 := StackAt.len (L := s.L) (t := s.t) (n := s.n) HS0.out.at_
              clear S1x
              go_wp2_with (first
                | (at_builtin
                   refine wpList_append_any _ rfl (.tmp 42) (.tmp 43) _ rfl wq1.heap.size 3 i0 _ 1 8 Try.underlying51 hi0 hz0 hz1 hz2 rfl (by omega) _ 1 [.int .i64 ((x : Int) % 64)] rfl
                     (own_lit1 wq1 _) _ _ s.L.length c0 (s.L.map (.int .i64)) rfl (IntRow.alloc R1.out.row (Nat.le_refl _) _) (ints_one s.L) (by simp only [maxLen]; omega) (by omega) (by simp) ?_
                   intro v6 w6 hown6 hg6 hat6
                   have B6 : Hid (Below wq1.heap.size wq1 w6) := ((Below.refl _ _).alloc (Nat.le_refl _) _).grown hg6 (by simp) (fun j e => Nat.le_of_eq (Option.some.inj e))
                   have S6 := Lib.hid (S2.out.of_below B6.out)
                   have H6 : Hid (w6.ownsRow wq1.heap.size 3 1 v6 (((x : Int) % 64) :: s.L).length ((((x : Int) % 64) :: s.L).map (.int .i64))) := by
                     have := hown6
                     rw [Nat.add_comm] at this
                     show World.ownsRow _ _ _ _ _ _ _
                     simpa using this
                   have hbz := S2.out.lt
                   clear hown6 hg6 hat6
                   obtain ⟨A6, c6, rfl, R6⟩ := sarg_of_own (b := b) H6.out hbz
                   have R6 := Lib.hid R6)
                | fail)
              go_roundw
              case rel => exact ⟨k + 1, ⟨((x : Int) % 64) :: s.L, s.t + 1, s.n + 2⟩, A6, c6, by omega, by go_num, by simp; omega, by simp; omega, by simp; omega, by simp; omega, by simp [Nat.add_comm], S6, by have := R6.out; exact this⟩
              case measure => simp [intOf]; omega
      · obtain rfl : k = n := by omega
        have hl64 : s.L.length ≤ 64 := StackAt.len (L := s.L) (t := s.t) (n := s.n) HS.out.at_
        go_wp2_with fail
        (with_reducible refine (all_of HS.out).mono ?_)
        rintro e w4 ⟨Aa, ca, rfl, s4, b4, r4, _⟩
        have S4 := Lib.hid s4
        have R4 := Lib.hid r4
        have W4 := Lib.hid (HR.out.below b4)
        clear s4 r4 b4 HS HR
        go_wp2_with fail
        (with_reducible refine (same_two w4 R4.out W4.out (by omega) (by omega)).mono ?_)
        rintro e w5 ⟨rfl, b5⟩
        have S5 := Lib.hid (S4.out.of_below b5)
        have W5 := Lib.hid (W4.out.below b5)
        rw [show decide (s.L = s.L) = true by simp]
        clear S4 R4 W4 b5
        obtain ⟨l, t, n'⟩ := s
        simp only at n0 n1 t0 t1 hl64 ⊢
        go_wp2_with fail
        go_loopw [52] (fun i wr => ∃ (j : Nat) (tt nn : Int), j ≤ l.length ∧ i = .int .i64 j ∧ 0 ≤ nn ∧ nn ≤ 128 + 2 * j ∧ 0 ≤ tt ∧ tt ≤ 64 + j ∧ Hid (SSt W wr b ⟨l.drop j, tt, nn⟩) ∧ Hid (SArg wr b A0 l.length l)) (fun i _ => l.length - (intOf i).toNat)
        case atStart => exact ⟨0, t, n', by omega, rfl, by omega, by omega, by omega, by omega, S5, W5⟩
        case round =>
          clear S5 W5
          obtain ⟨j, tt, nn, hj, rfl, nn0, nn1, tt0, tt1, HS, HR⟩ := hrel
          by_cases hjt : j < l.length
          · obtain ⟨g, off, x, rfl, hxj, hc⟩ := HR.out.get hjt
            have HXj := Lib.hid hxj
            clear hxj
            go_wp2_with fail
            clear hc
            (with_reducible refine (popL HS.out).mono ?_)
            rintro e w2 ⟨m, rfl, hm0, hmm, hwm, s1, m1, b1⟩
            have HM0 := Lib.hid hm0
            have S1 := Lib.hid s1
            have M1 := Lib.hid m1
            have K1 := Lib.hid (SKeep.of_below (b := b) (m := m) b1)
            have L1 := Lib.hid (pop_lone HS.out.n_of (by simp; omega) (by simp; omega) (by simp; omega) (by simp; omega))
            clear s1 m1 b1 HS hm0
            go_wp2_with fail
            go_loopw [61] (fun _ wl => ∃ (v : Mv) (u : Stk), Hid (Lone v u (popEnd ⟨l.drop j, tt, nn⟩) (popped ⟨l.drop j, tt, nn⟩)) ∧ Hid (SSt W wl b u) ∧ Hid (MoveAt wl m b 0 v) ∧ Hid (SKeep wr wl b m)) (fun _ wl => moveLeft b m wl)
            case atStart => exact ⟨_, _, L1, S1, M1, K1⟩
            case round =>
              clear S1 M1 K1 L1
              obtain ⟨v, u, HL, HU, HM, HK⟩ := hrel
              cases hov : v.over with
              | false =>
                have HOV := Lib.hid hov
                clear hov
                go_wp2_with fail
                (with_reducible refine (step_law HU.out HM.out hmm hwm HL.out.ok HL.out.bd.n0 (by have := HL.out.bd.n1; omega) HL.out.bd.t0 (by have := HL.out.bd.t1; omega)).mono ?_)
                rintro e wq ⟨rfl, sq, mq, oq⟩
                rw [step_true HOV.out]
                have HMS := Lib.hid (moveLeft_lt HU.out HM.out sq mq HOV.out HL.out.bd)
                have SQ := Lib.hid sq
                have MQ := Lib.hid mq
                have KQ := Lib.hid (HK.out.trans oq.keep)
                have LQ := Lib.hid (HL.out.next HOV.out)
                clear sq mq oq HU HM HK HL
                go_wp2_with fail
                go_roundw
                case rel => exact ⟨_, _, LQ, SQ, MQ, KQ⟩
                case measure => exact HMS.out
              | true =>
                have HOV := Lib.hid hov
                clear hov
                go_wp2_with fail
                (with_reducible refine (step_law HU.out HM.out hmm hwm HL.out.ok HL.out.bd.n0 (by have := HL.out.bd.n1; omega) HL.out.bd.t0 (by have := HL.out.bd.t1; omega)).mono ?_)
                rintro e wq2 ⟨rfl, sq, mq, oq⟩
                rw [step_end v u HOV.out] at sq mq ⊢
                have S2x := Lib.hid sq
                have M2x := Lib.hid mq
                have K2x := Lib.hid (HK.out.trans oq.keep)
                obtain ⟨ev, eu⟩ := HL.out.done HOV.out
                subst ev eu
                clear sq mq oq HU HM HK HL HOV
                have R1 := Lib.hid (HR.out.keep K2x.out (fun ad e => by have := (HR.out.ap ad e).2.2; have := HM0.out; omega))
                clear HR
                have HD : Hid (l.drop j = x :: l.drop (j + 1)) := by
                  have hlt : j < l.length := by omega
                  rw [List.getElem?_eq_getElem hlt] at HXj
                  have := HXj.out
                  injection this with this
                  rw [← this]
                  exact List.drop_eq_getElem_cons hlt
                have HPP : Hid (popped ⟨l.drop j, tt, nn⟩ = ⟨l.drop (j + 1), tt + 1, nn + 2⟩) := by show _ = _; unfold popped; rw [HD.out]
                have HPE : Hid (popEnd ⟨l.drop j, tt, nn⟩ = ⟨x, x, tt, true, false, true⟩) := by show _ = _; unfold popEnd; rw [HD.out]
                have S3 : Hid (SSt W wq2 b ⟨l.drop (j + 1), tt + 1, nn + 2⟩) := by have := S2x.out; rw [HPP.out] at this; exact this
                have M3 : Hid (MoveAt wq2 m b 0 ⟨x, x, tt, true, false, true⟩) := by have := M2x.out; rw [HPE.out] at this; exact this
                clear S2x M2x K2x HPP HPE
                have qx : (x != x) = false := by simp
                go_wp2_with fail
                (with_reducible refine (place_any M3.out).mono ?_)
                rintro e w5 ⟨rfl, rfl⟩
                go_wp2_with fail
                go_roundw
                case rel => exact ⟨j + 1, _, _, by omega, by go_num, by omega, by omega, by omega, by omega, S3, R1⟩
                case measure => simp [intOf]; omega
          · obtain rfl : j = l.length := by omega
            go_wp2_with fail
            (with_reducible refine (all_of HS.out).mono ?_)
            rintro e w10 ⟨A10, c10, rfl, s10, b10, r10, _⟩
            have B10 := Lib.hid s10.below
            rw [show (⟨l.drop l.length, tt, nn⟩ : Stk).L.length = 0 by simp]
            clear s10 b10 r10 HS HR
            go_wp2_with fail
            go_ret
            exact ⟨rfl, B10.out⟩

section
variable {H : Type} {enc : TypeId × Value → H} {W : World} {base : Nat} {args : Array Value} {ds : List (DataW H)} {p : List MemPlace}
set_option maxRecDepth 100000 in
theorem StackLast_run (hval : ∀ (j : Nat) t v, #[67][j]? = some t → args[j]? = some v → Value.okWide Try.prog W .any base t v)
    (hA : DataW.TrodAll enc Try.prog W 0 (fun _ => true) true [67] args.toList ds p) (hlt : ∀ x ∈ p, x.block < W.heap.size) :
    Calls Try.prog 11 args W (TrueBelow W) := by
  obtain ⟨v0, d0, rfl, rfl, h0⟩ := trodAll_one hA
  obtain ⟨A, n, c, f, rfl, hn, hc, hf⟩ := open_bytes (hval 0 67 v0 rfl rfl) h0 hlt
  exact last_walk W A n c f hf hn hc
end
end Go.Proofs.Ytpddlnedaleblaa
