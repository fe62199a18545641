/- StackSteps, walked. -/
import Derived.Test.YtpddlnedaleblaaBytes
import Derived.Test.YtpddlnedaleblaaMapN
namespace Go.Proofs.Ytpddlnedaleblaa
open Go.ChangeShapes Go.WideShapes Go.RowKit

theorem SSt.grown {W w w' : World} {b g : Nat} {s : Stk} (H : SSt W w b s) (h : w.grownBy w' (some g)) (h1 : g ≠ b) (h2 : W.heap.size ≤ g) : SSt W w' b s :=
  ⟨StackAt.of_block H.at_ (h.block b H.lt (by simp; omega)), H.below.grown h H.below.size (fun j e => by injection e with e; omega), H.hb, Nat.lt_of_lt_of_le H.lt h.size⟩
theorem wf_small {y : Int} (h0 : -1 ≤ y) (h1 : y < 1000) : (Lit.int .i64 y).wf = true := by
  simp [Lit.wf, IntKind.min, IntKind.max, IntKind.signed, IntKind.bits]
  omega
theorem pop_look_cons {z t m : Int} {L : List Int} (h : 0 ≤ z) : stepV popV ⟨z :: L, t, m⟩ = (true, ⟨-1, z, t, true, true, false⟩, ⟨z :: L, t, m + 1⟩) := by
  have hne : ¬ z = -1 := by omega
  simp [stepV, popV, hd, hne]

def StepsRel (W wr : World) (b g2 : Nat) : Prop := ∃ (N : Nat) (L : List Int) (t m : Int), N ≤ 64 ∧ L.length ≤ 64 ∧ 0 ≤ m ∧ m + 2 * L.length ≤ 256 ∧ 0 ≤ t ∧ t + L.length ≤ 256 ∧ Hid (SSt W wr b ⟨L, t, m⟩) ∧ Hid (MetN wr g2 N L)

set_option maxRecDepth 100000 in
set_option maxHeartbeats 8000000 in
theorem steps_walk (W : World) (A : Option Addr) (n c : Nat) (f : Nat → Nat) (hf : Bytes W A n f) (hn : n ≤ c) (hc : c ≤ maxLen) :
    Calls Try.prog 14 #[.slice A n c] W (TrueBelow W) := by
  have HF := Lib.hid hf
  have hm : c < 9223372036854775808 := by unfold maxLen at hc; omega
  clear hf hc
  go_enter Try.func14, Try.ntmps14
  go_wp2_with fail
  (with_reducible refine (alive13 W).mono ?_)
  rintro e w1 ⟨rfl, B1⟩
  by_cases hbig : 64 < n
  · go_wp2_with fail
    go_ret
    exact ⟨rfl, B1⟩
  · have hsW := B1.size
    have s0 := SSt.new B1
    have S0 := Lib.hid (s0.of_below ((Below.refl _ _).alloc (Nat.le_refl _) (.map #[] 0)))
    have M0 := Lib.hid (MetN.new (w1.alloc (.cells Try.zeroCells71 71)))
    have hmm := @run_makeMap Try.prog
    clear s0 B1
    go_wp2_with fail
    clear hmm
    have hsz : (w1.alloc (Obj.cells Try.zeroCells71 71)).heap.size = w1.heap.size + 1 := by simp
    obtain ⟨b, hb⟩ : ∃ b, b = w1.heap.size := ⟨_, rfl⟩
    obtain ⟨g2, hg2⟩ : ∃ g2, g2 = w1.heap.size + 1 := ⟨_, rfl⟩
    rw [hsz, ← hg2] at M0
    rw [← hb] at S0
    rw [← hg2, ← hb]
    have hgb : g2 ≠ b := by omega
    have hWg : W.heap.size ≤ g2 := by omega
    clear hb hg2 hsz hsW
    go_loopw [24] (fun i wr => ∃ (k N : Nat) (L : List Int) (t m : Int), k ≤ n ∧ i = .int .i64 k ∧ 0 ≤ m ∧ m ≤ 2 * k ∧ 0 ≤ t ∧ t ≤ k ∧ N ≤ k ∧ Hid (SSt W wr b ⟨L, t, m⟩) ∧ Hid (MetN wr g2 N L)) (fun i _ => n - (intOf i).toNat)
    case atStart => exact ⟨0, 0, [], 0, 0, by omega, rfl, by decide, by decide, by decide, by decide, by decide, S0, M0⟩
    case round =>
      clear S0 M0
      obtain ⟨k, N, L, t, m, hk, rfl, n0, n1, t0, t1, hN, HS, HM⟩ := hrel
      by_cases hlt : k < n
      · obtain ⟨g, off, rfl, hg, hx, h0'⟩ := HF.out k hlt
        have h0 := (HS.out.below.cell (p := ⟨g, off + k, none⟩) hg).trans h0'
        have hp := mod64 (f k) hx
        have hp0 := hp.1
        have hp1 := hp.2
        generalize f k = x at *
        clear h0'
        by_cases hin : ((x : Int) % 64) ∈ L
        · have HNI : Hid (decide (((x : Int) % 64) ∈ L) = true) := by show _ = _; simp [hin]
          clear hin
          go_wp2_with (first
            | (at_lookup; refine wpList_lookup_met _ rfl _ _ rfl g2 N L _ rfl HM.out.met rfl (wf_small (by omega) (by omega)) ?_; rw [HNI.out])
            | fail)
          go_roundw
          case rel => exact ⟨k + 1, N, L, t, m, by omega, by go_num, by omega, by omega, by omega, by omega, by omega, HS, HM⟩
          case measure => simp [intOf]; omega
        · have HNI : Hid (decide (((x : Int) % 64) ∈ L) = false) := by show _ = _; simp [hin]
          have HIN := Lib.hid hin
          clear hin
          go_wp2_with (first
            | (at_lookup; refine wpList_lookup_met _ rfl _ _ rfl g2 N L _ rfl HM.out.met rfl (wf_small (by omega) (by omega)) ?_; rw [HNI.out])
            | (at_mapUpdate; refine wpList_update_metN _ rfl _ _ _ rfl g2 N L _ rfl HM.out (by unfold maxLen; omega) rfl rfl (wf_small (by omega) (by omega)) HIN.out ?_; intro w2 hm2 hg2; have HM2 := Lib.hid hm2; have HS2 := Lib.hid (HS.out.grown hg2 hgb hWg); clear hm2 hg2 HM HS)
            | fail)
          clear h0
          (with_reducible refine (pushL HS2.out ((x : Int) % 64) hp).mono ?_)
          rintro e w3 ⟨mv, rfl, hm0, hmm, hwm, s1, m1, b1⟩
          have HGM : Hid (g2 < mv) := by have := HM2.out.lt; show _ < _; omega
          have S1 := Lib.hid s1
          have M1 := Lib.hid m1
          have KM := Lib.hid (HM2.out.eq (b1.block g2 HM2.out.lt))
          clear s1 m1 b1 HS2 HM2 hm0
          go_wp2_with fail
          (with_reducible refine (cell_ptr _ b 0).mono ?_)
          rintro e w4 ⟨rfl, rfl⟩
          go_wp2_with fail
          (with_reducible refine (asked_law S1.out (by simp; omega) (by simp; omega) _).mono ?_)
          rintro e w5 ⟨rfl, s5, b5⟩
          have S5 := Lib.hid s5
          have M5 := Lib.hid (M1.out.of_below b5)
          have KM' := Lib.hid (KM.out.eq (b5.block g2 KM.out.lt))
          clear s5 b5 S1 M1 KM
          have KM := KM'
          clear KM'
          have hh := hd_bd S5.out.n_of
          go_wp2_with fail
          (with_reducible refine (step_law S5.out M5.out hmm hwm (ok_push hp _) (by simp; omega) (by simp; omega) (by simp; omega) (by simp; omega)).mono ?_)
          rintro e wq ⟨rfl, sq, mq, oq⟩
          rw [show stepV (pushV ((x : Int) % 64)) ⟨L, t, m⟩ = (true, ⟨((x : Int) % 64), hd L, t, false, true, false⟩, ⟨L, t, m + 1⟩) from push_look _ _] at sq mq ⊢
          have S6 := Lib.hid sq
          have M6 := Lib.hid mq
          have KM' := Lib.hid (KM.out.eq (oq.block g2 KM.out.lt hgb (by have := KM.out.lt; have := HGM.out; omega)))
          clear sq mq oq S5 M5 KM
          have KM := KM'
          clear KM'
          go_wp2_with fail
          (with_reducible refine (step_law S6.out M6.out hmm hwm ⟨fun _ => hp, hh, (fun _ _ h => by simp at h), (fun _ _ => rfl)⟩ (by simp; omega) (by simp; omega) (by simp; omega) (by simp; omega)).mono ?_)
          rintro e wq ⟨rfl, sq, mq, oq⟩
          rw [show stepV ⟨((x : Int) % 64), hd L, t, false, true, false⟩ ⟨L, t, m + 1⟩ = (true, ⟨((x : Int) % 64), hd L, t, false, false, true⟩, ⟨((x : Int) % 64) :: L, t + 1, m + 1 + 1⟩) from push_put _ _ ⟨L, t, m + 1⟩ HIN.out] at sq mq ⊢
          have S7 := Lib.hid sq
          have M7 := Lib.hid mq
          have KM' := Lib.hid (KM.out.eq (oq.block g2 KM.out.lt hgb (by have := KM.out.lt; have := HGM.out; omega)))
          clear sq mq oq S6 M6 KM
          have KM := KM'
          clear KM'
          go_wp2_with fail
          (with_reducible refine (step_law S7.out M7.out hmm hwm (ok_end (fun _ => hp) hh rfl) (by simp; omega) (by simp; omega) (by simp; omega) (by simp; omega)).mono ?_)
          rintro e wq ⟨rfl, sq, mq, oq⟩
          rw [show stepV ⟨((x : Int) % 64), hd L, t, false, false, true⟩ ⟨((x : Int) % 64) :: L, t + 1, m + 1 + 1⟩ = (false, ⟨((x : Int) % 64), hd L, t, false, false, true⟩, ⟨((x : Int) % 64) :: L, t + 1, m + 1 + 1⟩) from step_end _ _ rfl] at sq mq ⊢
          have S8 := Lib.hid sq
          have M8 := Lib.hid mq
          have KM' := Lib.hid (KM.out.eq (oq.block g2 KM.out.lt hgb (by have := KM.out.lt; have := HGM.out; omega)))
          clear sq mq oq S7 M7 KM
          have KM := KM'
          clear KM'
          go_wp2_with fail
          (with_reducible refine (cell_ptr _ b 0).mono ?_)
          rintro e w9 ⟨rfl, rfl⟩
          go_wp2_with fail
          (with_reducible refine (asked_law S8.out (by simp; omega) (by simp; omega) _).mono ?_)
          rintro e w10 ⟨rfl, s10, b10⟩
          have S10 := Lib.hid s10
          have KM' := Lib.hid (KM.out.eq (b10.block g2 KM.out.lt))
          clear s10 b10 S8 M8 KM
          have KM := KM'
          clear KM'
          have q1 : (m + 1 + 1 != m + 2) = false := by simp; omega
          go_wp2_with fail
          (with_reducible refine (all_of S10.out).mono ?_)
          rintro e w11 ⟨Aa, ca, rfl, s11, b11, r11, _⟩
          have S11 := Lib.hid s11
          have KM' := Lib.hid (KM.out.eq (b11.block g2 KM.out.lt))
          have HLE : Hid ((((x : Int) % 64) :: L).length = L.length + 1) := by show _ = _; simp
          have r12 := r11
          simp only [HLE.out] at r12 ⊢
          obtain ⟨ga, oa, xa, rfl, hxa, hca⟩ := r12.get (k := 0) (by omega)
          simp only [List.getElem?_cons_zero, Option.some.injEq] at hxa
          subst hxa
          rw [Nat.add_zero] at hca
          have q2 : (((x : Int) % 64) != ((x : Int) % 64)) = false := by simp
          clear s11 b11 r11 r12 S10 KM q1
          have KM := KM'
          clear KM'
          go_wp2_with fail
          clear hca
          go_roundw
          case rel => exact ⟨k + 1, N + 1, ((x : Int) % 64) :: L, t + 1, m + 1 + 1, by omega, by go_num, by omega, by omega, by omega, by omega, by omega, S11, KM⟩
          case measure => simp [intOf]; omega
      · obtain rfl : k = n := by omega
        have hL0 : L.length ≤ 64 := StackAt.len (L := L) (t := t) (n := m) HS.out.at_
        go_wp2_with fail
        go_loopw [11, 13] (fun _ _ wr => StepsRel W wr b g2) (fun _ _ wr => askedLeft 1000000 b wr)
        case atStart => exact ⟨N, L, t, m, by omega, hL0, n0, by omega, t0, by omega, HS, HM⟩
        case round =>
          clear HS HM
          obtain ⟨N, L, t, m, hN, hlen, n0, n1, t0, t1, HS, HM⟩ := hrel
          cases L with
          | cons z L =>
            have hz := HS.out.n_of z (by simp)
            obtain ⟨hz0, hz1⟩ := hz
            go_wp2_with (first
              | (at_len; refine wpList_len_metN _ rfl _ rfl g2 N (z :: L) rfl HM.out ?_; rw [List.length_cons])
              | fail)
            (with_reducible refine (popL HS.out).mono ?_)
            rintro e w3 ⟨mv, rfl, hm0, hmm, hwm, s1, m1, b1⟩
            have HGM : Hid (g2 < mv) := by have := HM.out.lt; show _ < _; omega
            have HAS := Lib.hid (askedLeft_of (N := 1000000) HS.out.asked)
            have S1 := Lib.hid s1
            have M1 := Lib.hid m1
            have KM := Lib.hid (HM.out.eq (b1.block g2 HM.out.lt))
            clear s1 m1 b1 HS HM hm0
            go_wp2_with fail
            (with_reducible refine (cell_ptr _ b 0).mono ?_)
            rintro e w4 ⟨rfl, rfl⟩
            go_wp2_with fail
            (with_reducible refine (asked_law S1.out (by simp; omega) (by simp; omega) _).mono ?_)
            rintro e w5 ⟨rfl, s5, b5⟩
            have S5 := Lib.hid s5
            have M5 := Lib.hid (M1.out.of_below b5)
            have KM' := Lib.hid (KM.out.eq (b5.block g2 KM.out.lt))
            clear s5 b5 S1 M1 KM
            have KM := KM'
            clear KM'
            have hh := hd_bd S5.out.n_of
            go_wp2_with fail
            (with_reducible refine (step_law S5.out M5.out hmm hwm (ok_pop _) (by simp; omega) (by simp; omega) (by simp; omega) (by simp; omega)).mono ?_)
            rintro e wq ⟨rfl, sq, mq, oq⟩
            rw [show stepV popV ⟨z :: L, t, m⟩ = (true, ⟨-1, z, t, true, true, false⟩, ⟨z :: L, t, m + 1⟩) from pop_look_cons hz0] at sq mq ⊢
            have S6 := Lib.hid sq
            have M6 := Lib.hid mq
            have KM' := Lib.hid (KM.out.eq (oq.block g2 KM.out.lt hgb (by have := KM.out.lt; have := HGM.out; omega)))
            clear sq mq oq S5 M5 KM
            have KM := KM'
            clear KM'
            go_wp2_with fail
            (with_reducible refine (step_law S6.out M6.out hmm hwm ⟨(fun h => by simp at h), by simp; omega, (fun _ _ _ => by simp; omega), (fun _ _ => rfl)⟩ (by simp; omega) (by simp; omega) (by simp; omega) (by simp; omega)).mono ?_)
            rintro e wq ⟨rfl, sq, mq, oq⟩
            rw [show stepV ⟨-1, z, t, true, true, false⟩ ⟨z :: L, t, m + 1⟩ = (true, ⟨z, z, t, true, false, true⟩, ⟨L, t + 1, m + 1 + 1⟩) from pop_take z ⟨z :: L, t, m + 1⟩] at sq mq ⊢
            have S7 := Lib.hid sq
            have M7 := Lib.hid mq
            have KM' := Lib.hid (KM.out.eq (oq.block g2 KM.out.lt hgb (by have := KM.out.lt; have := HGM.out; omega)))
            clear sq mq oq S6 M6 KM
            have KM := KM'
            clear KM'
            go_wp2_with fail
            (with_reducible refine (step_law S7.out M7.out hmm hwm ⟨(fun h => by simp at h), by simp; omega, (fun h => by simp at h), (fun h => by simp at h)⟩ (by simp; omega) (by simp; omega) (by simp; omega) (by simp; omega)).mono ?_)
            rintro e wq ⟨rfl, sq, mq, oq⟩
            rw [show stepV ⟨z, z, t, true, false, true⟩ ⟨L, t + 1, m + 1 + 1⟩ = (false, ⟨z, z, t, true, false, true⟩, ⟨L, t + 1, m + 1 + 1⟩) from step_end _ _ rfl] at sq mq ⊢
            have S8 := Lib.hid sq
            have M8 := Lib.hid mq
            have KM' := Lib.hid (KM.out.eq (oq.block g2 KM.out.lt hgb (by have := KM.out.lt; have := HGM.out; omega)))
            clear sq mq oq S7 M7 KM
            have KM := KM'
            clear KM'
            go_wp2_with fail
            (with_reducible refine (cell_ptr _ b 0).mono ?_)
            rintro e w9 ⟨rfl, rfl⟩
            go_wp2_with fail
            (with_reducible refine (asked_law S8.out (by simp; omega) (by simp; omega) _).mono ?_)
            rintro e w10 ⟨rfl, s10, b10⟩
            have S10 := Lib.hid s10
            have M10 := Lib.hid (M8.out.of_below b10)
            have KM' := Lib.hid (KM.out.eq (b10.block g2 KM.out.lt))
            clear s10 b10 S8 M8 KM
            have KM := KM'
            clear KM'
            have q1 : (m + 1 + 1 != m + 2) = false := by simp; omega
            go_wp2_with fail
            (with_reducible refine (place_any M10.out).mono ?_)
            rintro e w11 ⟨rfl, rfl⟩
            rw [show (⟨z, z, t, true, false, true⟩ : Mv).place = z from rfl]
            have hlk := KM.out.met.run_lookup (y := z) (wf_small (by omega) (by omega))
            rw [show decide (z ∈ z :: L) = true by simp] at hlk
            go_wp2_with fail
            clear q1 hlk
            (with_reducible refine (place_any M10.out).mono ?_)
            rintro e w12 ⟨rfl, rfl⟩
            rw [show (⟨z, z, t, true, false, true⟩ : Mv).place = z from rfl]
            go_wp2_with (first
              | (at_delete; refine wpList_delete_metN _ rfl _ _ rfl g2 N L z rfl KM.out rfl (wf_small (by omega) (by omega)) ?_; intro w13 hm13 hg13; have KM13 := Lib.hid hm13; have S13 := Lib.hid (S10.out.grown hg13 hgb hWg); have HA13 := Lib.hid (askedLeft_of (N := 1000000) S13.out.asked); clear hm13 hg13 KM S10 M10)
              | fail)
            go_roundw
            case rel => exact ⟨N, L, t + 1, m + 1 + 1, hN, by first | omega | (simp at hlen; omega), by omega, by first | omega | (simp at n1; omega), by omega, by first | omega | (simp at t1; omega), S13, KM13⟩
            case measure => rw [HA13.out, HAS.out]; show 1000000 - (m + 1 + 1).toNat < 1000000 - m.toNat; omega
          | nil =>
            go_wp2_with (first
              | (at_len; refine wpList_len_metN _ rfl _ rfl g2 N [] rfl HM.out ?_; rw [List.length_nil])
              | fail)
            clear HM
            (with_reducible refine (popL HS.out).mono ?_)
            rintro e w3 ⟨mv, rfl, hm0, hmm, hwm, s1, m1, b1⟩
            have S1 := Lib.hid s1
            have M1 := Lib.hid m1
            clear s1 m1 b1 HS hm0
            go_wp2_with fail
            (with_reducible refine (step_law S1.out M1.out hmm hwm (ok_pop _) (by simp; omega) (by simp; omega) (by simp; omega) (by simp; omega)).mono ?_)
            rintro e w4 ⟨rfl, s4, m4, o4⟩
            rw [show stepV popV ⟨[], t, m⟩ = (true, ⟨-1, -1, t, true, true, true⟩, ⟨[], t, m + 1⟩) from rfl] at s4 m4 ⊢
            have S4 := Lib.hid s4
            have M4 := Lib.hid m4
            clear s4 m4 o4 S1 M1
            go_wp2_with fail
            (with_reducible refine (step_law S4.out M4.out hmm hwm ⟨(fun h => by simp at h), by simp, (fun _ h => by simp at h), (fun _ _ => rfl)⟩ (by simp; omega) (by simp; omega) (by simp; omega) (by simp; omega)).mono ?_)
            rintro e w5 ⟨rfl, s5, m5, o5⟩
            rw [show stepV ⟨-1, -1, t, true, true, true⟩ ⟨[], t, m + 1⟩ = (false, ⟨-1, -1, t, true, true, true⟩, ⟨[], t, m + 1⟩) from rfl] at s5 m5 ⊢
            have M5 := Lib.hid m5
            have B5 := Lib.hid s5.below
            clear s5 m5 o5 S4 M4
            go_wp2_with fail
            (with_reducible refine (done_any M5.out).mono ?_)
            rintro e w6 ⟨rfl, rfl⟩
            go_wp2_with fail
            (with_reducible refine (place_any M5.out).mono ?_)
            rintro e w7 ⟨rfl, rfl⟩
            go_wp2_with fail
            go_ret
            exact ⟨rfl, B5.out⟩

section
variable {H : Type} {enc : TypeId × Value → H} {W : World} {base : Nat} {args : Array Value} {ds : List (DataW H)} {p : List MemPlace}
set_option maxRecDepth 100000 in
theorem StackSteps_run (hval : ∀ (j : Nat) t v, #[67][j]? = some t → args[j]? = some v → Value.okWide Try.prog W .any base t v)
    (hA : DataW.TrodAll enc Try.prog W 0 (fun _ => true) true [67] args.toList ds p) (hlt : ∀ x ∈ p, x.block < W.heap.size) :
    Calls Try.prog 14 args W (TrueBelow W) := by
  obtain ⟨v0, d0, rfl, rfl, h0⟩ := trodAll_one hA
  obtain ⟨A, n, c, f, rfl, hn, hc, hf⟩ := open_bytes (hval 0 67 v0 rfl rfl) h0 hlt
  exact steps_walk W A n c f hf hn hc
end
end Go.Proofs.Ytpddlnedaleblaa
