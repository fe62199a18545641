/- QueueActs, walked: through any acts the program's queue answers as the reference's. -/
import Derived.Test.YtpddlnedaleblaaRef11g
namespace Go.Proofs.Ytpddlnedaleblaa
open Go.ChangeShapes Go.WideShapes Go.RowKit

theorem inQ_idx (R F : List Int) (y : Int) : decide ((0 : Int) ≤ idx (R ++ F) y) = inQ R F y := by
  by_cases h : y ∈ R ++ F
  · have h1 := idx_ge h
    have h2 : inQ R F y = true := by simpa [inQ] using h
    simp [h1, h2]
  · have h1 := idx_neg.2 h
    have h2 : inQ R F y = false := by simpa [inQ] using h
    have h3 : ¬ (0 : Int) ≤ idx (R ++ F) y := by omega
    simp [h3, h2]
theorem keeps_remove : Keeps1 removeS := fun _ _ x h => h.remove x
theorem keeps_push : Keeps1 pushS := fun _ _ x h => h.push x

set_option maxRecDepth 100000 in
set_option maxHeartbeats 8000000 in
theorem acts_walk (W : World) (A : Option Addr) (n c : Nat) (f : Nat → A11) (A2 : Option Addr) (n2 c2 : Nat) (l2 : List Int) (hl2 : Row0 W A2 n2 l2) (hn2 : n2 ≤ 9223372036854775807) (hf : Acts11 W A n f) (hn : n ≤ c) (hc : c ≤ maxLen) :
    Calls Try.prog 17 #[.slice A n c, .slice A2 n2 c2] W (TrueBelow W) := by
  have HF := Lib.hid hf
  have HL2 := Lib.hid hl2
  have HG := Lib.hid fun (w : World) (hb : Below W.heap.size W w) => great_any W w A n c f hf hb hn hc
  have hm : c < 9223372036854775808 := by unfold maxLen at hc; omega
  clear hf hc hl2
  go_enter Try.func17, Try.ntmps17
  go_wp2_with fail
  (with_reducible refine (alive11 W).mono ?_)
  rintro e w1 ⟨rfl, B1⟩
  go_wp2_with fail
  refine (HG.out w1 B1).mono ?_
  rintro e w2 ⟨g, rfl, hg, B2⟩
  cases g with
  | true =>
    go_wp2_with fail
    go_ret
    exact ⟨rfl, B2⟩
  | false =>
    obtain ⟨hn1, hs1⟩ := hg rfl
    clear hg
    by_cases hbig : (100 : Int) < n2
    · go_wp2_with fail
      go_ret
      exact ⟨rfl, B2⟩
    · have hsm2 : n2 ≤ 100 := by omega
      have H0 := QR.new B2 57 108
      have HQ := Lib.hid H0
      clear H0
      go_wp2_with fail
      obtain ⟨b, hb⟩ : ∃ b, b = w2.heap.size := ⟨_, rfl⟩
      obtain ⟨m, hm2⟩ : ∃ m, m = w2.heap.size + 1 := ⟨_, rfl⟩
      rw [← hm2, ← hb] at HQ
      rw [← hm2, ← hb]
      clear hb hm2 B1 B2
      go_loopw [28] (fun i wr => ∃ (k : Nat) (R F : List Int) (g1 g2 a1 a2 : Option Nat), k ≤ n ∧ i = .int .i64 k ∧ R.length + F.length ≤ sumA f k ∧ Hid (QOnce R F) ∧ Hid (QR W wr b m R F R F g1 g2 a1 a2)) (fun i _ => n - (intOf i).toNat)
      case atStart => exact ⟨0, [], [], none, none, none, none, by omega, rfl, by simp, QOnce.nil, HQ⟩
      case round =>
        clear HQ
        obtain ⟨k, R, F, g1, g2, a1, a2, hk, rfl, hlen, HO, HQ⟩ := hrel
        by_cases hlt : k < n
        · obtain ⟨g, off, rfl, hg, h0', h1', h2', hr, _⟩ := HF.out k hlt
          have hs2 : sumA f (k + 1) ≤ 500 := Nat.le_trans (sumA_mono f (by omega)) hs1
          have hnl := hr.row.len
          have hs3 : sumA f (k + 1) = sumA f k + (f k).n := rfl
          have h0 := (HQ.out.q.below.cell (p := ⟨g, off + k * 3, none⟩) hg).trans h0'
          have h1 := (HQ.out.q.below.cell (p := ⟨g, off + k * 3 + 1, none⟩) hg).trans h1'
          have h2 := (HQ.out.q.below.cell (p := ⟨g, off + k * 3 + 2, none⟩) hg).trans h2'
          generalize ha : f k = a at *
          obtain ⟨wa, hwa⟩ : ∃ wa, wa = wr.alloc (.cells #[.int .i64 a.k, .int .i64 a.x, .slice a.A a.n a.c] 59) := ⟨_, rfl⟩
          obtain ⟨d, hd⟩ : ∃ d, d = wr.heap.size := ⟨_, rfl⟩
          have BA : Below wr.heap.size wr wa.drew := by rw [hwa]; exact ((Below.refl _ _).alloc (Nat.le_refl _) _).drew
          have D1 : Hid (QAp wa.drew b g1 g2 d) := by have := HQ.out.q.fresh (.cells #[.int .i64 a.k, .int .i64 a.x, .slice a.A a.n a.c] 59); rw [← hwa, ← hd] at this; exact ⟨this.lt, this.nb, this.n1, this.n2⟩
          have DM : Hid (d ≠ m) := fun e => by have := HQ.out.hm.lt; omega
          have QD := Lib.hid (HQ.out.of_below BA)
          have AQ := Lib.hid (hr.arg QD.out.q)
          have AMH : Hid (∀ ad, 0 < a.n → a.A = some ad → ad.block ≠ m) := fun ad h0 e e' => by have := (hr.at_ ad h0 e).2; have := QD.out.Wm; omega
          have X1 : Hid (wa.cell? ⟨d, 1, none⟩ = some (.int .i64 a.x)) := by show _ = _; rw [hwa, hd, World.cell?_alloc_new]; rfl
          have X2 : Hid (wa.cell? ⟨d, 2, none⟩ = some (.slice a.A a.n a.c)) := by show _ = _; rw [hwa, hd, World.cell?_alloc_new]; rfl
          have HWA : Hid (wr.alloc (.cells #[.int .i64 a.k, .int .i64 a.x, .slice a.A a.n a.c] 59) = wa) := hwa.symm
          have HD : Hid (wr.heap.size = d) := hd.symm
          have HL := Lib.hid hnl
          clear h0' h1' h2' hr hwa hd BA HQ hnl
          by_cases hk1 : a.k = 1
          · have qk1 : (a.k == 1) = true := by simpa using hk1
            clear hk1
            have HO1 := Lib.hid (HO.out.removes a.l)
            have hlen1 := eachS_len slow_remove a.l R F
            have XD : wa.drew.cell? ⟨d, 2, none⟩ = some (.slice a.A a.n a.c) := X2.out
            have XDH := Lib.hid XD
            go_wp2_with fail
            rw [HWA.out, HD.out]
            clear h0 h1 h2 HWA HD
            go_region_held3 (fun w' => w'.cell? ⟨d, 2, none⟩ = some (.slice a.A a.n a.c))
              (first | exact XDH.out | exact X3.out | exact X4.out | go_keep | fail)
              (first
                | (go_at_call 53; (with_reducible refine (remove_law QD.out.q AQ.out (by have := HL.out; omega)).mono ?_); rintro e w3 ⟨rfl, k1, k2, Q2, K2⟩; have R2 := Lib.hid (QD.out.keep Q2 K2); have X3 := Lib.hid (K2.cell D1.out XDH.out); have AQ2 := Lib.hid (AQ.out.keep K2); have D2 := Lib.hid (K2.ap _ D1.out); have AM2 := AMH; clear Q2 K2)
                | (go_at_call 54; (with_reducible refine (each_ref 55 removeS rstep_remove slow_remove keeps_remove (fun _ _ => rfl) w3 m R F a1 a2 HO.out R2.out.r w3.heap.size a.A a.n a.c a.l AQ2.out.row (fun ad h0 e => ⟨(AQ2.out.ap ad h0 e).1, (AQ2.out.ap ad h0 e).2.lt, (AM2.out ad h0 e)⟩) (by have := HL.out; omega)).mono ?_); rintro e w4 ⟨rfl, ht⟩; have X4 : Hid (w4.cell? ⟨d, 2, none⟩ = some (.slice a.A a.n a.c)) := (World.cell?_of_block (a := ⟨d, 2, none⟩) (ht.block d D2.out.lt DM.out)).trans X3.out; have HT := Lib.hid (R2.out.to ht); clear ht)
                | fail)
            all_goals
              have hl3 : (eachS removeS a.l R F).2.1.length + (eachS removeS a.l R F).2.2.length ≤ sumA f (k + 1) := by have := HL.out; omega
              clear QD AQ AQ2 D1 D2 X1 X2 XD XDH X3 X4 HO hlen1 R2 AM2
              generalize hv : (eachS removeS a.l R F).1 = vv at *
              generalize (eachS removeS a.l R F).2.1 = R1 at *
              generalize (eachS removeS a.l R F).2.2 = F1 at *
              clear hv
              obtain ⟨j1, j2, R3'⟩ := HT.out
              have R3 := Lib.hid R3'
              clear R3' HT
              have q0 : (vv != vv) = false := by simp
              go_wp2_with fail
              obtain ⟨Ar1, cr1, hr1, ar1, fr1⟩ := R3.out.row1
              obtain ⟨Ar2, cr2, hr2, ar2, fr2⟩ := R3.out.row2
              have AR1 := Lib.hid ar1
              have AR2 := Lib.hid ar2
              have QD3 : Hid (QSt W w4.drew b R1 F1 k1 k2 ∧ QKeep w4 w4.drew b k1 k2 k1 k2) := R3.out.q.of_below ⟨rfl, rfl, rfl, Nat.le_refl _, fun _ _ => rfl⟩
              have RD3 := Lib.hid (R3.out.keep QD3.out.1 QD3.out.2)
              have AD1 := Lib.hid (AR1.out.keep QD3.out.2)
              have AD2 := Lib.hid (AR2.out.keep QD3.out.2)
              have CM : Hid (∀ (u : World), QKeep w4 u b k1 k2 k1 k2 → u.cell? ⟨m, 0, none⟩ = some (.slice Ar1 R1.length cr1) ∧ u.cell? ⟨m, 1, none⟩ = some (.slice Ar2 F1.length cr2)) := fun u h => ⟨h.cell R3.out.hm hr1, h.cell R3.out.hm hr2⟩
              have c0 : w4.drew.cell? ⟨m, 0, none⟩ = some (.slice Ar1 R1.length cr1) ∧ w4.drew.cell? ⟨m, 1, none⟩ = some (.slice Ar2 F1.length cr2) := CM.out _ QD3.out.2
              have C0 := Lib.hid c0
              obtain ⟨c01, c02⟩ := c0
              have AR2W : Hid (∀ (u : World), QKeep w4 u b k1 k2 k1 k2 → Arg u b k1 k2 Ar2 F1.length F1) := fun u h => AR2.out.keep h
              clear ar1 ar2 fr1 fr2 R3 AR1 AR2 hr1 hr2
              go_region_held3 (fun w' => w'.cell? ⟨m, 0, none⟩ = some (.slice Ar1 R1.length cr1) ∧ w'.cell? ⟨m, 1, none⟩ = some (.slice Ar2 F1.length cr2))
                (first | exact C0.out | exact C5.out | exact C6.out | exact C7.out | exact C8.out | go_keep | fail)
                (first
                  | (go_at_call 33; (with_reducible refine (ready_law RD3.out.q (by omega)).mono ?_); rintro e w5 ⟨A5, cc5, rfl, a5, _, q5, k5, _⟩; have R5 := Lib.hid (RD3.out.keep q5 k5); have A5' := Lib.hid a5; have B5 := Lib.hid (AD1.out.keep k5); have K5 := Lib.hid (QD3.out.2.trans k5); have C5 := Lib.hid (CM.out _ K5.out); clear a5 q5 k5)
                  | (go_at_call 34; (with_reducible refine (full_law R6.out.q (by omega)).mono ?_); rintro e w7 ⟨A7, cc7, rfl, a7, _, q7, k7, _⟩; have R7 := Lib.hid (R6.out.keep q7 k7); have A7' := Lib.hid a7; have K7 := Lib.hid (K6.out.trans k7); have B7 := Lib.hid (AR2W.out _ K7.out); have C7 := Lib.hid (CM.out _ K7.out); clear a7 q7 k7)
                  | (go_at_call 35; (with_reducible refine (same_law R5.out.q A5'.out B5.out (by omega) (by omega)).mono ?_); rintro e w6 ⟨rfl, q6, k6⟩; rw [show decide (R1 = R1) = true by simp]; have R6 := Lib.hid (R5.out.keep q6 k6); have K6 := Lib.hid (K5.out.trans k6); have C6 := Lib.hid (CM.out _ K6.out); clear q6 k6)
                  | (go_at_call 35; (with_reducible refine (same_law R7.out.q A7'.out B7.out (by omega) (by omega)).mono ?_); rintro e w8 ⟨rfl, q8, k8⟩; rw [show decide (F1 = F1) = true by simp]; have R8 := Lib.hid (R7.out.keep q8 k8); have K8 := Lib.hid (K7.out.trans k8); have C8 := Lib.hid (CM.out _ K8.out); clear q8 k8)
                  | fail)
              have R9 := Lib.hid R8.out
              clear R5 R6 R7 R8 A5' B5 A7' B7 K5 K6 K7 K8 C5 C6 C7 C8 C0 RD3 QD3 AD1 AD2 CM c01 c02 AR2W
              go_wp2_with fail
              go_roundw
              case rel => exact ⟨k + 1, R1, F1, k1, k2, _, _, by omega, by go_num, hl3, HO1, R9⟩
              case measure => simp [intOf]; omega
          · have qk1 : (a.k == 1) = false := by simpa using hk1
            clear hk1
            by_cases hk2 : a.k = 2
            · have qk2 : (a.k == 2) = true := by simpa using hk2
              clear hk2
              have HO1 := Lib.hid (HO.out.fill a.x)
              have hlen1 := fillS_len R F a.x
              have XD : wa.drew.cell? ⟨d, 1, none⟩ = some (.int .i64 a.x) := X1.out
              have XDH := Lib.hid XD
              go_wp2_with fail
              rw [HWA.out, HD.out]
              clear h0 h1 h2 HWA HD
              go_region_held3 (fun w' => w'.cell? ⟨d, 1, none⟩ = some (.int .i64 a.x))
                (first | exact XDH.out | exact X3.out | exact X4.out | go_keep | fail)
                (first
                  | (go_at_call 32; (with_reducible refine (fill_law QD.out.q a.x (by omega)).mono ?_); rintro e w3 ⟨rfl, k1, k2, Q2, K2⟩; have R2 := Lib.hid (QD.out.keep Q2 K2); have X3 := Lib.hid (K2.cell D1.out XDH.out); have AQ2 := Lib.hid (AQ.out.keep K2); have D2 := Lib.hid (K2.ap _ D1.out); have AM2 := AMH; clear Q2 K2)
                  | (go_at_call 56; (with_reducible refine (refFill w3 m R F a1 a2 a.x HO.out R2.out.r (by omega) (by omega)).mono ?_); rintro e w4 ⟨rfl, ht⟩; have X4 : Hid (w4.cell? ⟨d, 1, none⟩ = some (.int .i64 a.x)) := (World.cell?_of_block (a := ⟨d, 1, none⟩) (ht.block d D2.out.lt DM.out)).trans X3.out; have HT := Lib.hid (R2.out.to ht); clear ht)
                  | fail)
              all_goals
                have hl3 : (fillS R F a.x).2.1.length + (fillS R F a.x).2.2.length ≤ sumA f (k + 1) := by have := HL.out; omega
                clear QD AQ AQ2 D1 D2 X1 X2 XD XDH X3 X4 HO hlen1 R2 AM2
                generalize hv : (fillS R F a.x).1 = vv at *
                generalize (fillS R F a.x).2.1 = R1 at *
                generalize (fillS R F a.x).2.2 = F1 at *
                clear hv
                obtain ⟨j1, j2, R3'⟩ := HT.out
                have R3 := Lib.hid R3'
                clear R3' HT
                have q0 : (vv != vv) = false := by simp
                go_wp2_with fail
                obtain ⟨Ar1, cr1, hr1, ar1, fr1⟩ := R3.out.row1
                obtain ⟨Ar2, cr2, hr2, ar2, fr2⟩ := R3.out.row2
                have AR1 := Lib.hid ar1
                have AR2 := Lib.hid ar2
                have QD3 : Hid (QSt W w4.drew b R1 F1 k1 k2 ∧ QKeep w4 w4.drew b k1 k2 k1 k2) := R3.out.q.of_below ⟨rfl, rfl, rfl, Nat.le_refl _, fun _ _ => rfl⟩
                have RD3 := Lib.hid (R3.out.keep QD3.out.1 QD3.out.2)
                have AD1 := Lib.hid (AR1.out.keep QD3.out.2)
                have AD2 := Lib.hid (AR2.out.keep QD3.out.2)
                have CM : Hid (∀ (u : World), QKeep w4 u b k1 k2 k1 k2 → u.cell? ⟨m, 0, none⟩ = some (.slice Ar1 R1.length cr1) ∧ u.cell? ⟨m, 1, none⟩ = some (.slice Ar2 F1.length cr2)) := fun u h => ⟨h.cell R3.out.hm hr1, h.cell R3.out.hm hr2⟩
                have c0 : w4.drew.cell? ⟨m, 0, none⟩ = some (.slice Ar1 R1.length cr1) ∧ w4.drew.cell? ⟨m, 1, none⟩ = some (.slice Ar2 F1.length cr2) := CM.out _ QD3.out.2
                have C0 := Lib.hid c0
                obtain ⟨c01, c02⟩ := c0
                have AR2W : Hid (∀ (u : World), QKeep w4 u b k1 k2 k1 k2 → Arg u b k1 k2 Ar2 F1.length F1) := fun u h => AR2.out.keep h
                clear ar1 ar2 fr1 fr2 R3 AR1 AR2 hr1 hr2
                go_region_held3 (fun w' => w'.cell? ⟨m, 0, none⟩ = some (.slice Ar1 R1.length cr1) ∧ w'.cell? ⟨m, 1, none⟩ = some (.slice Ar2 F1.length cr2))
                  (first | exact C0.out | exact C5.out | exact C6.out | exact C7.out | exact C8.out | go_keep | fail)
                  (first
                    | (go_at_call 33; (with_reducible refine (ready_law RD3.out.q (by omega)).mono ?_); rintro e w5 ⟨A5, cc5, rfl, a5, _, q5, k5, _⟩; have R5 := Lib.hid (RD3.out.keep q5 k5); have A5' := Lib.hid a5; have B5 := Lib.hid (AD1.out.keep k5); have K5 := Lib.hid (QD3.out.2.trans k5); have C5 := Lib.hid (CM.out _ K5.out); clear a5 q5 k5)
                    | (go_at_call 34; (with_reducible refine (full_law R6.out.q (by omega)).mono ?_); rintro e w7 ⟨A7, cc7, rfl, a7, _, q7, k7, _⟩; have R7 := Lib.hid (R6.out.keep q7 k7); have A7' := Lib.hid a7; have K7 := Lib.hid (K6.out.trans k7); have B7 := Lib.hid (AR2W.out _ K7.out); have C7 := Lib.hid (CM.out _ K7.out); clear a7 q7 k7)
                    | (go_at_call 35; (with_reducible refine (same_law R5.out.q A5'.out B5.out (by omega) (by omega)).mono ?_); rintro e w6 ⟨rfl, q6, k6⟩; rw [show decide (R1 = R1) = true by simp]; have R6 := Lib.hid (R5.out.keep q6 k6); have K6 := Lib.hid (K5.out.trans k6); have C6 := Lib.hid (CM.out _ K6.out); clear q6 k6)
                    | (go_at_call 35; (with_reducible refine (same_law R7.out.q A7'.out B7.out (by omega) (by omega)).mono ?_); rintro e w8 ⟨rfl, q8, k8⟩; rw [show decide (F1 = F1) = true by simp]; have R8 := Lib.hid (R7.out.keep q8 k8); have K8 := Lib.hid (K7.out.trans k8); have C8 := Lib.hid (CM.out _ K8.out); clear q8 k8)
                    | fail)
                have R9 := Lib.hid R8.out
                clear R5 R6 R7 R8 A5' B5 A7' B7 K5 K6 K7 K8 C5 C6 C7 C8 C0 RD3 QD3 AD1 AD2 CM c01 c02 AR2W
                go_wp2_with fail
                go_roundw
                case rel => exact ⟨k + 1, R1, F1, k1, k2, _, _, by omega, by go_num, hl3, HO1, R9⟩
                case measure => simp [intOf]; omega
            · have qk2 : (a.k == 2) = false := by simpa using hk2
              clear hk2
              by_cases hk3 : a.k = 3
              · have qk3 : (a.k == 3) = true := by simpa using hk3
                clear hk3
                have HO1 := Lib.hid (HO.out.wake a.x)
                have hlen1 := wakeS_len R F a.x
                have XD : wa.drew.cell? ⟨d, 1, none⟩ = some (.int .i64 a.x) := X1.out
                have XDH := Lib.hid XD
                go_wp2_with fail
                rw [HWA.out, HD.out]
                clear h0 h1 h2 HWA HD
                go_region_held3 (fun w' => w'.cell? ⟨d, 1, none⟩ = some (.int .i64 a.x))
                  (first | exact XDH.out | exact X3.out | exact X4.out | go_keep | fail)
                  (first
                    | (go_at_call 36; (with_reducible refine (wake_law QD.out.q a.x (by omega)).mono ?_); rintro e w3 ⟨rfl, k1, k2, Q2, K2⟩; have R2 := Lib.hid (QD.out.keep Q2 K2); have X3 := Lib.hid (K2.cell D1.out XDH.out); have AQ2 := Lib.hid (AQ.out.keep K2); have D2 := Lib.hid (K2.ap _ D1.out); have AM2 := AMH; clear Q2 K2)
                    | (go_at_call 57; (with_reducible refine (refWake w3 m R F a1 a2 a.x HO.out R2.out.r (by omega) (by omega)).mono ?_); rintro e w4 ⟨rfl, ht⟩; have X4 : Hid (w4.cell? ⟨d, 1, none⟩ = some (.int .i64 a.x)) := (World.cell?_of_block (a := ⟨d, 1, none⟩) (ht.block d D2.out.lt DM.out)).trans X3.out; have HT := Lib.hid (R2.out.to ht); clear ht)
                    | fail)
                all_goals
                  have hl3 : (wakeS R F a.x).2.1.length + (wakeS R F a.x).2.2.length ≤ sumA f (k + 1) := by have := HL.out; omega
                  clear QD AQ AQ2 D1 D2 X1 X2 XD XDH X3 X4 HO hlen1 R2 AM2
                  generalize hv : (wakeS R F a.x).1 = vv at *
                  generalize (wakeS R F a.x).2.1 = R1 at *
                  generalize (wakeS R F a.x).2.2 = F1 at *
                  clear hv
                  obtain ⟨j1, j2, R3'⟩ := HT.out
                  have R3 := Lib.hid R3'
                  clear R3' HT
                  have q0 : (vv != vv) = false := by simp
                  go_wp2_with fail
                  obtain ⟨Ar1, cr1, hr1, ar1, fr1⟩ := R3.out.row1
                  obtain ⟨Ar2, cr2, hr2, ar2, fr2⟩ := R3.out.row2
                  have AR1 := Lib.hid ar1
                  have AR2 := Lib.hid ar2
                  have QD3 : Hid (QSt W w4.drew b R1 F1 k1 k2 ∧ QKeep w4 w4.drew b k1 k2 k1 k2) := R3.out.q.of_below ⟨rfl, rfl, rfl, Nat.le_refl _, fun _ _ => rfl⟩
                  have RD3 := Lib.hid (R3.out.keep QD3.out.1 QD3.out.2)
                  have AD1 := Lib.hid (AR1.out.keep QD3.out.2)
                  have AD2 := Lib.hid (AR2.out.keep QD3.out.2)
                  have CM : Hid (∀ (u : World), QKeep w4 u b k1 k2 k1 k2 → u.cell? ⟨m, 0, none⟩ = some (.slice Ar1 R1.length cr1) ∧ u.cell? ⟨m, 1, none⟩ = some (.slice Ar2 F1.length cr2)) := fun u h => ⟨h.cell R3.out.hm hr1, h.cell R3.out.hm hr2⟩
                  have c0 : w4.drew.cell? ⟨m, 0, none⟩ = some (.slice Ar1 R1.length cr1) ∧ w4.drew.cell? ⟨m, 1, none⟩ = some (.slice Ar2 F1.length cr2) := CM.out _ QD3.out.2
                  have C0 := Lib.hid c0
                  obtain ⟨c01, c02⟩ := c0
                  have AR2W : Hid (∀ (u : World), QKeep w4 u b k1 k2 k1 k2 → Arg u b k1 k2 Ar2 F1.length F1) := fun u h => AR2.out.keep h
                  clear ar1 ar2 fr1 fr2 R3 AR1 AR2 hr1 hr2
                  go_region_held3 (fun w' => w'.cell? ⟨m, 0, none⟩ = some (.slice Ar1 R1.length cr1) ∧ w'.cell? ⟨m, 1, none⟩ = some (.slice Ar2 F1.length cr2))
                    (first | exact C0.out | exact C5.out | exact C6.out | exact C7.out | exact C8.out | go_keep | fail)
                    (first
                      | (go_at_call 33; (with_reducible refine (ready_law RD3.out.q (by omega)).mono ?_); rintro e w5 ⟨A5, cc5, rfl, a5, _, q5, k5, _⟩; have R5 := Lib.hid (RD3.out.keep q5 k5); have A5' := Lib.hid a5; have B5 := Lib.hid (AD1.out.keep k5); have K5 := Lib.hid (QD3.out.2.trans k5); have C5 := Lib.hid (CM.out _ K5.out); clear a5 q5 k5)
                      | (go_at_call 34; (with_reducible refine (full_law R6.out.q (by omega)).mono ?_); rintro e w7 ⟨A7, cc7, rfl, a7, _, q7, k7, _⟩; have R7 := Lib.hid (R6.out.keep q7 k7); have A7' := Lib.hid a7; have K7 := Lib.hid (K6.out.trans k7); have B7 := Lib.hid (AR2W.out _ K7.out); have C7 := Lib.hid (CM.out _ K7.out); clear a7 q7 k7)
                      | (go_at_call 35; (with_reducible refine (same_law R5.out.q A5'.out B5.out (by omega) (by omega)).mono ?_); rintro e w6 ⟨rfl, q6, k6⟩; rw [show decide (R1 = R1) = true by simp]; have R6 := Lib.hid (R5.out.keep q6 k6); have K6 := Lib.hid (K5.out.trans k6); have C6 := Lib.hid (CM.out _ K6.out); clear q6 k6)
                      | (go_at_call 35; (with_reducible refine (same_law R7.out.q A7'.out B7.out (by omega) (by omega)).mono ?_); rintro e w8 ⟨rfl, q8, k8⟩; rw [show decide (F1 = F1) = true by simp]; have R8 := Lib.hid (R7.out.keep q8 k8); have K8 := Lib.hid (K7.out.trans k8); have C8 := Lib.hid (CM.out _ K8.out); clear q8 k8)
                      | fail)
                  have R9 := Lib.hid R8.out
                  clear R5 R6 R7 R8 A5' B5 A7' B7 K5 K6 K7 K8 C5 C6 C7 C8 C0 RD3 QD3 AD1 AD2 CM c01 c02 AR2W
                  go_wp2_with fail
                  go_roundw
                  case rel => exact ⟨k + 1, R1, F1, k1, k2, _, _, by omega, by go_num, hl3, HO1, R9⟩
                  case measure => simp [intOf]; omega
              · have qk3 : (a.k == 3) = false := by simpa using hk3
                clear hk3
                have HO1 := Lib.hid (HO.out.pushes a.l)
                have hlen1 := eachS_len slow_push a.l R F
                have XD : wa.drew.cell? ⟨d, 2, none⟩ = some (.slice a.A a.n a.c) := X2.out
                have XDH := Lib.hid XD
                go_wp2_with fail
                rw [HWA.out, HD.out]
                clear h0 h1 h2 HWA HD
                go_region_held3 (fun w' => w'.cell? ⟨d, 2, none⟩ = some (.slice a.A a.n a.c))
                  (first | exact XDH.out | exact X3.out | exact X4.out | go_keep | fail)
                  (first
                    | (go_at_call 31; (with_reducible refine (push_law QD.out.q AQ.out (by have := HL.out; omega)).mono ?_); rintro e w3 ⟨rfl, k1, k2, Q2, K2⟩; have R2 := Lib.hid (QD.out.keep Q2 K2); have X3 := Lib.hid (K2.cell D1.out XDH.out); have AQ2 := Lib.hid (AQ.out.keep K2); have D2 := Lib.hid (K2.ap _ D1.out); have AM2 := AMH; clear Q2 K2)
                    | (go_at_call 54; (with_reducible refine (each_ref 58 pushS rstep_push slow_push keeps_push (fun _ _ => rfl) w3 m R F a1 a2 HO.out R2.out.r w3.heap.size a.A a.n a.c a.l AQ2.out.row (fun ad h0 e => ⟨(AQ2.out.ap ad h0 e).1, (AQ2.out.ap ad h0 e).2.lt, (AM2.out ad h0 e)⟩) (by have := HL.out; omega)).mono ?_); rintro e w4 ⟨rfl, ht⟩; have X4 : Hid (w4.cell? ⟨d, 2, none⟩ = some (.slice a.A a.n a.c)) := (World.cell?_of_block (a := ⟨d, 2, none⟩) (ht.block d D2.out.lt DM.out)).trans X3.out; have HT := Lib.hid (R2.out.to ht); clear ht)
                    | fail)
                all_goals
                  have hl3 : (eachS pushS a.l R F).2.1.length + (eachS pushS a.l R F).2.2.length ≤ sumA f (k + 1) := by have := HL.out; omega
                  clear QD AQ AQ2 D1 D2 X1 X2 XD XDH X3 X4 HO hlen1 R2 AM2
                  generalize hv : (eachS pushS a.l R F).1 = vv at *
                  generalize (eachS pushS a.l R F).2.1 = R1 at *
                  generalize (eachS pushS a.l R F).2.2 = F1 at *
                  clear hv
                  obtain ⟨j1, j2, R3'⟩ := HT.out
                  have R3 := Lib.hid R3'
                  clear R3' HT
                  have q0 : (vv != vv) = false := by simp
                  go_wp2_with fail
                  obtain ⟨Ar1, cr1, hr1, ar1, fr1⟩ := R3.out.row1
                  obtain ⟨Ar2, cr2, hr2, ar2, fr2⟩ := R3.out.row2
                  have AR1 := Lib.hid ar1
                  have AR2 := Lib.hid ar2
                  have QD3 : Hid (QSt W w4.drew b R1 F1 k1 k2 ∧ QKeep w4 w4.drew b k1 k2 k1 k2) := R3.out.q.of_below ⟨rfl, rfl, rfl, Nat.le_refl _, fun _ _ => rfl⟩
                  have RD3 := Lib.hid (R3.out.keep QD3.out.1 QD3.out.2)
                  have AD1 := Lib.hid (AR1.out.keep QD3.out.2)
                  have AD2 := Lib.hid (AR2.out.keep QD3.out.2)
                  have CM : Hid (∀ (u : World), QKeep w4 u b k1 k2 k1 k2 → u.cell? ⟨m, 0, none⟩ = some (.slice Ar1 R1.length cr1) ∧ u.cell? ⟨m, 1, none⟩ = some (.slice Ar2 F1.length cr2)) := fun u h => ⟨h.cell R3.out.hm hr1, h.cell R3.out.hm hr2⟩
                  have c0 : w4.drew.cell? ⟨m, 0, none⟩ = some (.slice Ar1 R1.length cr1) ∧ w4.drew.cell? ⟨m, 1, none⟩ = some (.slice Ar2 F1.length cr2) := CM.out _ QD3.out.2
                  have C0 := Lib.hid c0
                  obtain ⟨c01, c02⟩ := c0
                  have AR2W : Hid (∀ (u : World), QKeep w4 u b k1 k2 k1 k2 → Arg u b k1 k2 Ar2 F1.length F1) := fun u h => AR2.out.keep h
                  clear ar1 ar2 fr1 fr2 R3 AR1 AR2 hr1 hr2
                  go_region_held3 (fun w' => w'.cell? ⟨m, 0, none⟩ = some (.slice Ar1 R1.length cr1) ∧ w'.cell? ⟨m, 1, none⟩ = some (.slice Ar2 F1.length cr2))
                    (first | exact C0.out | exact C5.out | exact C6.out | exact C7.out | exact C8.out | go_keep | fail)
                    (first
                      | (go_at_call 33; (with_reducible refine (ready_law RD3.out.q (by omega)).mono ?_); rintro e w5 ⟨A5, cc5, rfl, a5, _, q5, k5, _⟩; have R5 := Lib.hid (RD3.out.keep q5 k5); have A5' := Lib.hid a5; have B5 := Lib.hid (AD1.out.keep k5); have K5 := Lib.hid (QD3.out.2.trans k5); have C5 := Lib.hid (CM.out _ K5.out); clear a5 q5 k5)
                      | (go_at_call 34; (with_reducible refine (full_law R6.out.q (by omega)).mono ?_); rintro e w7 ⟨A7, cc7, rfl, a7, _, q7, k7, _⟩; have R7 := Lib.hid (R6.out.keep q7 k7); have A7' := Lib.hid a7; have K7 := Lib.hid (K6.out.trans k7); have B7 := Lib.hid (AR2W.out _ K7.out); have C7 := Lib.hid (CM.out _ K7.out); clear a7 q7 k7)
                      | (go_at_call 35; (with_reducible refine (same_law R5.out.q A5'.out B5.out (by omega) (by omega)).mono ?_); rintro e w6 ⟨rfl, q6, k6⟩; rw [show decide (R1 = R1) = true by simp]; have R6 := Lib.hid (R5.out.keep q6 k6); have K6 := Lib.hid (K5.out.trans k6); have C6 := Lib.hid (CM.out _ K6.out); clear q6 k6)
                      | (go_at_call 35; (with_reducible refine (same_law R7.out.q A7'.out B7.out (by omega) (by omega)).mono ?_); rintro e w8 ⟨rfl, q8, k8⟩; rw [show decide (F1 = F1) = true by simp]; have R8 := Lib.hid (R7.out.keep q8 k8); have K8 := Lib.hid (K7.out.trans k8); have C8 := Lib.hid (CM.out _ K8.out); clear q8 k8)
                      | fail)
                  have R9 := Lib.hid R8.out
                  clear R5 R6 R7 R8 A5' B5 A7' B7 K5 K6 K7 K8 C5 C6 C7 C8 C0 RD3 QD3 AD1 AD2 CM c01 c02 AR2W
                  go_wp2_with fail
                  go_roundw
                  case rel => exact ⟨k + 1, R1, F1, k1, k2, _, _, by omega, by go_num, hl3, HO1, R9⟩
                  case measure => simp [intOf]; omega
        · obtain rfl : k = n := by omega
          obtain ⟨i0, hi0, hz0, hz1, hz2⟩ := info_parts info_int
          have hlen' : R.length + F.length ≤ 500 := by omega
          obtain ⟨Ar1, cr1, hr1, ar1, fr1⟩ := HQ.out.row1
          obtain ⟨Ar2, cr2, hr2, ar2, fr2⟩ := HQ.out.row2
          have AR1 := Lib.hid ar1
          have AR2 := Lib.hid ar2
          have hml : m < wr.heap.size := HQ.out.hm.lt
          have CM : Hid (∀ (u : World), Below wr.heap.size wr u → u.cell? ⟨m, 0, none⟩ = some (.slice Ar1 R.length cr1) ∧ u.cell? ⟨m, 1, none⟩ = some (.slice Ar2 F.length cr2)) := fun u h => ⟨(h.cell (p := ⟨m, 0, none⟩) hml).trans hr1, (h.cell (p := ⟨m, 1, none⟩) hml).trans hr2⟩
          clear ar1 ar2 fr1 fr2
          go_wp2_with fail
          go_region_held3 (fun w' => w'.cell? ⟨m, 0, none⟩ = some (.slice Ar1 R.length cr1) ∧ w'.cell? ⟨m, 1, none⟩ = some (.slice Ar2 F.length cr2))
            (first | exact CM.out _ ((Below.refl _ _).drew) | exact CM.out _ (((Below.refl _ _).drew).alloc (Nat.le_refl _) _) | exact CM.out _ B5.out | exact CM.out _ B6.out | go_keep | fail)
            (first
              | (refine step_append_any _ rfl (.tmp 92) (.tmp 96) 51 rfl wr.heap.size 3 i0 _ 1 8 Try.underlying51 hi0 hz0 hz1 hz2 rfl (by omega) _ 0 [] rfl (own_lit wr.drew) _ _ R.length cr1 (R.map (.int .i64)) rfl (IntRow.alloc (w := wr.drew) AR1.out.row (Nat.le_refl _) _) (ints_one R) (by simp only [maxLen]; omega) (by omega) (by simp) ?_
                 intro v5 w5 hown5 hg5 hat5
                 simp only [Nat.zero_add, List.nil_append] at hown5
                 have B5 : Hid (Below wr.heap.size wr w5) := (((Below.refl _ _).drew).alloc (Nat.le_refl _) _).grown hg5 (by simp) (fun j e => Nat.le_of_eq (Option.some.inj e))
                 have H5 := Lib.hid hown5
                 have hs5 : wr.heap.size ≤ w5.heap.size := B5.out.size
                 clear hown5 hg5 hat5)
              | (refine step_append_any _ rfl (.tmp 97) (.tmp 101) 51 rfl wr.heap.size 3 i0 _ 1 8 Try.underlying51 hi0 hz0 hz1 hz2 rfl (by omega) _ R.length (R.map (.int .i64)) rfl H5.out _ _ F.length cr2 (F.map (.int .i64)) rfl (IntRow.under AR2.out.row B5.out) (ints_one F) (by simp only [maxLen]; omega) (by omega) hs5 ?_
                 intro v6 w6 hown6 hg6 hat6
                 have B6 : Hid (Below wr.heap.size wr w6) := B5.out.grown hg6 hs5 (fun j e => (H5.out.lt j e).1)
                 have H6 : Hid (w6.ownsRow wr.heap.size 3 1 v6 (R ++ F).length ((R ++ F).map (.int .i64))) := by
                   show World.ownsRow _ _ _ _ _ _ _
                   simpa using hown6
                 clear hown6 hg6 hat6)
              | fail)
          obtain ⟨A6, c6, hv6, a6, _, q6, k6, _⟩ := HQ.out.q.gives (l := R ++ F) (e := .returned v6) ⟨v6, rfl, H6.out, B6.out⟩
          injection hv6 with hv6
          subst hv6
          have R6 := Lib.hid (HQ.out.keep q6 k6)
          have A6' := Lib.hid a6
          have AH := Lib.hid (HL2.out.arg q6)
          have elen : (R ++ F).length = R.length + F.length := by simp
          have HN6 : Hid ((R ++ F).length ≤ 500) := by show _ ≤ _; omega
          clear H5 H6 B5 B6 CM AR1 AR2 a6 q6 k6 HQ hr1 hr2 elen hi0 hz0 hz1 hz2
          obtain ⟨N6, hN6⟩ : ∃ N6, N6 = (R ++ F).length := ⟨_, rfl⟩
          rw [← hN6] at A6' HN6 ⊢
          have HN := Lib.hid hN6
          clear hN6
          go_wp2_with fail
          go_loop [12, 105] (fun v i => ∃ (j : Nat) (wt : Bool), j ≤ n2 ∧ i = .int .i64 j ∧ v = .bool wt ∧ Hid (wt = (l2.take j).all (inQ R F))) (fun _ i => n2 - (intOf i).toNat)
          case atStart => exact ⟨0, true, by omega, rfl, rfl, by simp [Hid]⟩
          case round =>
            obtain ⟨j, wt, hj, rfl, rfl, HWT⟩ := hrel
            by_cases hlj : j < n2
            · obtain ⟨gy, oy, y, rfl, hy, hcy⟩ := AH.out.get hlj
              have HT : Hid ((l2.take (j + 1)).all (inQ R F) = (wt && inQ R F y)) := by
                show _ = _
                rw [List.take_add_one, hy, HWT.out]
                simp
              clear hy HWT
              cases wt with
              | false =>
                go_wp2_with fail
                go_round
                case rel => exact ⟨j + 1, false, by omega, by go_num, rfl, by show _ = _; rw [HT.out]; rfl⟩
                case measure => simp [intOf]; omega
              | true =>
                go_wp2_with fail
                (with_reducible refine (at_ref _ _ A6 _ c6 (R ++ F) y A6'.out.row (fun ad h0 e => (A6'.out.ap ad h0 e).1) (by have := HN6.out; omega)).mono ?_)
                rintro e w7 ⟨rfl, rfl⟩
                have HI : Hid (decide ((0 : Int) ≤ idx (R ++ F) y) = inQ R F y) := inQ_idx R F y
                go_wp2_with fail
                go_round
                case rel => exact ⟨j + 1, _, by omega, by go_num, rfl, by show _ = _; rw [HT.out, ← HI.out]; rfl⟩
                case measure => simp [intOf]; omega
            · obtain rfl : j = n2 := by omega
              have HW2 : Hid (wt = l2.all (inQ R F)) := by
                show _ = _
                rw [HWT.out, List.take_of_length_le (by have := AH.out.len; omega)]
              clear HWT
              go_wp2_with fail
              (with_reducible refine (all_law R6.out.q (by omega) (by omega)).mono ?_)
              rintro e w8 ⟨A8, c8, rfl, a8, _, q8, k8, _⟩
              have e8 : (R ++ F).length = R.length + F.length := by simp
              rw [e8] at a8 ⊢
              clear e8
              have Q8 := Lib.hid q8
              have A8' := Lib.hid a8
              have B8 := Lib.hid (A6'.out.keep k8)
              have H8 := Lib.hid (AH.out.keep k8)
              clear a8 q8 k8 R6 A6' AH
              go_wp2_with fail
              (with_reducible refine (same_law Q8.out A8'.out B8.out (by omega) (by have := HN6.out; omega)).mono ?_)
              rintro e w9 ⟨rfl, q9, k9⟩
              rw [show decide (R ++ F = R ++ F) = true by simp]
              have Q9 := Lib.hid q9
              have H9 := Lib.hid (H8.out.keep k9)
              clear q9 k9 Q8 A8' B8 H8
              go_wp2_with fail
              (with_reducible refine (has_law Q9.out H9.out (by omega) (by omega) (by omega)).mono ?_)
              rintro e w10 ⟨rfl, q10, _⟩
              rw [← HW2.out]
              have Q10 := Lib.hid q10
              have q11 : (wt == wt) = true := by simp
              clear q10 HW2
              go_wp2_with fail
              go_ret
              exact ⟨rfl, Q10.out.below⟩

section
variable {H : Type} {enc : TypeId × Value → H} {W : World} {base : Nat} {args : Array Value} {ds : List (DataW H)} {p : List MemPlace}

set_option maxRecDepth 100000 in
theorem QueueActs_run (hval : ∀ (j : Nat) t v, #[49, 51][j]? = some t → args[j]? = some v → Value.okWide Try.prog W .any base t v)
    (hA : DataW.TrodAll enc Try.prog W 0 (fun _ => true) true [49, 51] args.toList ds p) (hlt : ∀ x ∈ p, x.block < W.heap.size)
    (hsz : (DataW.weightsEach Try.prog [49, 51] ds).all (· ≤ reachBytes) = true) :
    Calls Try.prog 17 args W (TrueBelow W) := by
  obtain ⟨v0, v1, d0, d1, p0, p1, rfl, rfl, rfl, h0, h1⟩ := trodAll_two hA
  obtain ⟨A2, n2, c2, f2, rfl, hn2, hc2, hf2⟩ := arg_ints Try.underlying51 Try.underlying3 cells_int (hval 1 51 v1 rfl rfl) h1 (fun x hx => hlt x (by simp [hx]))
  obtain ⟨A, n, c, f, rfl, hn, hc, hf⟩ := open_acts11 (hval 0 49 v0 rfl rfl) h0 (fun x hx => hlt x (by simp [hx])) (weighs_of hsz (j := 0) rfl rfl)
  exact acts_walk W A n c f A2 n2 c2 _ (Row0.of_cells (f := f2) fun i hin => by obtain ⟨b, off, e1, e2, e3, _⟩ := hf2 i hin; exact ⟨b, off, e1, e2, e3⟩) (by unfold maxLen at hc2; omega) hf hn hc
end
end Go.Proofs.Ytpddlnedaleblaa
