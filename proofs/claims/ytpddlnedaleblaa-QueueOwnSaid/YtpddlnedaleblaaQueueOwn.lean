/- QueueOwn, walked. -/
import Derived.Test.YtpddlnedaleblaaQueueO
import Derived.Test.YtpddlnedaleblaaRef11c
import Derived.Test.YtpddlnedaleblaaActs11
namespace Go.Proofs.Ytpddlnedaleblaa
open Go.ChangeShapes Go.WideShapes Go.RowKit

/-- What an append to a new empty row gives. -/
theorem lit_gives {w w1 : World} {v : Value} {l : List Int} {n : Nat} (hn : n = l.length) (ho : w1.ownsRow w.heap.size 3 1 v (0 + n) ([] ++ l.map (.int .i64))) (hg : (w.alloc (.cells #[] 3)).grownBy w1 (some w.heap.size)) : NewInts w l (.returned v) w1 := by
  subst hn
  simp only [Nat.zero_add, List.nil_append] at ho
  exact ⟨v, rfl, ho, ((Below.refl _ _).alloc (Nat.le_refl _) _).grown hg (by simp) (fun j e => Nat.le_of_eq (Option.some.inj e))⟩


theorem IntRow.none0 (w : World) (N : Nat) : IntRow w N none 0 [] := Reads.none_
theorem stop {p : Prop} (h : Hid p) : p := h

structure OwnS (W w : World) (b : Nat) (k1 k2 : Option Nat) (R F : List Int) (bo : Nat) (A2 : Option Addr) (n2 c2 : Nat) (A4 : Option Addr) (c4 : Nat) (A5 : Option Addr) (c5 : Nat) : Prop where
  q : QSt W w b R F k1 k2
  o : QueueAt w W.heap.size bo 0 [] [] none none
  oap : QAp w b k1 k2 bo
  r2 : ∃ l2, Own W w b k1 k2 A2 n2 c2 l2
  r4 : ∃ l4, Own W w b k1 k2 A4 R.length c4 l4
  r5 : Own W w b k1 k2 A5 R.length c5 R
  p24 : Apart2 A2 A4
  p25 : Apart2 A2 A5
  p45 : Apart2 A4 A5
  o2 : ∀ ad, A2 = some ad → ad.block ≠ bo
  o4 : ∀ ad, A4 = some ad → ad.block ≠ bo

theorem Apart2.symm {A A' : Option Addr} (h : Apart2 A A') : Apart2 A' A := fun ad ad' e e' h' => h ad' ad e' e h'.symm

theorem OwnS.w_le {W w : World} {b : Nat} {k1 k2 : Option Nat} {A : Option Addr} {n c : Nat} {l : List Int} (h : Own W w b k1 k2 A n c l) {g : Nat} (e : A = some ⟨g, 0, none⟩) : W.heap.size ≤ g := (h.own.lt g (by rw [e]; rfl)).1

theorem oset {W w : World} {bo : Nat} (h : QueueAt w W.heap.size bo 0 [] [] none none) {g : Nat} (hg : g ≠ bo) (k : Nat) (v : Value) : QueueAt (w.setCell ⟨g, k, none⟩ v) W.heap.size bo 0 [] [] none none :=
  h.stays (Below.heap_setCell w ⟨g, k, none⟩ v bo (fun e => hg e.symm)) (fun _ e => by cases e) (fun _ e => by cases e)

theorem OwnS.set2 {W w : World} {b : Nat} {k1 k2 : Option Nat} {R F : List Int} {bo : Nat} {n2 c2 : Nat} {A4 : Option Addr} {c4 : Nat} {A5 : Option Addr} {c5 g : Nat} (H : OwnS W w b k1 k2 R F bo (some ⟨g, 0, none⟩) n2 c2 A4 c4 A5 c5) {k : Nat} (hk : k < n2) (y : Int) :
    OwnS W (w.setCell ⟨g, k, none⟩ (.int .i64 y)) b k1 k2 R F bo (some ⟨g, 0, none⟩) n2 c2 A4 c4 A5 c5 := by
  obtain ⟨l2, r2⟩ := H.r2
  obtain ⟨l4, r4⟩ := H.r4
  exact ⟨H.q.set (r2.ap _ rfl) (OwnS.w_le r2 rfl) _ _, oset H.o (H.o2 _ rfl) _ _, H.oap.set _ _, ⟨_, r2.set hk y⟩, ⟨_, r4.other H.p24 _ _⟩, H.r5.other H.p25 _ _, H.p24, H.p25, H.p45, H.o2, H.o4⟩
theorem OwnS.set4 {W w : World} {b : Nat} {k1 k2 : Option Nat} {R F : List Int} {bo : Nat} {A2 : Option Addr} {n2 c2 : Nat} {c4 : Nat} {A5 : Option Addr} {c5 g : Nat} (H : OwnS W w b k1 k2 R F bo A2 n2 c2 (some ⟨g, 0, none⟩) c4 A5 c5) {k : Nat} (hk : k < R.length) (y : Int) :
    OwnS W (w.setCell ⟨g, k, none⟩ (.int .i64 y)) b k1 k2 R F bo A2 n2 c2 (some ⟨g, 0, none⟩) c4 A5 c5 := by
  obtain ⟨l2, r2⟩ := H.r2
  obtain ⟨l4, r4⟩ := H.r4
  exact ⟨H.q.set (r4.ap _ rfl) (OwnS.w_le r4 rfl) _ _, oset H.o (H.o4 _ rfl) _ _, H.oap.set _ _, ⟨_, r2.other H.p24.symm _ _⟩, ⟨_, r4.set hk y⟩, H.r5.other H.p45 _ _, H.p24, H.p25, H.p45, H.o2, H.o4⟩

theorem okeep {W w w' : World} {b : Nat} {g1 g2 k1 k2 : Option Nat} {bo : Nat} (h : QueueAt w W.heap.size bo 0 [] [] none none) (hk : QKeep w w' b g1 g2 k1 k2) (ha : QAp w b g1 g2 bo) : QueueAt w' W.heap.size bo 0 [] [] none none ∧ QAp w' b k1 k2 bo :=
  ⟨h.stays (hk.eq bo ha) (fun _ e => by cases e) (fun _ e => by cases e), hk.ap bo ha⟩

/-- What was handed out is the law's own, apart from all that was there. -/
theorem gives_own {W w w' : World} {b : Nat} {R F : List Int} {g1 g2 : Option Nat} {l : List Int} {A : Option Addr} {c : Nat} (hb : W.heap.size ≤ w.heap.size) (ho : w'.ownsRow w.heap.size 3 1 (.slice A l.length c) l.length (l.map (.int .i64))) (H : QSt W w b R F g1 g2) :
    Own W w' b g1 g2 A l.length c l ∧ (∀ ad, A = some ad → w.heap.size ≤ ad.block) := by
  have hge : ∀ ad, A = some ad → w.heap.size ≤ ad.block ∧ ad.block < w'.heap.size := fun ad e => ho.lt ad.block (by rw [e]; rfl)
  refine ⟨⟨own_more ho hb, fun ad e => ?_⟩, fun ad e => (hge ad e).1⟩
  have h := hge ad e
  exact ⟨h.2, fun e => by have := H.at_.r1.lt; omega, fun e => by have := (H.at_.r1.g_lt _ e.symm).2; omega, fun e => by have := (H.at_.r2.g_lt _ e.symm).2; omega⟩

set_option maxRecDepth 100000 in
set_option maxHeartbeats 2000000 in
theorem own_walk (W : World) (A : Option Addr) (n c : Nat) (l : List Int) (hl : Row0 W A n l) (hn : n ≤ c) (hc : c ≤ maxLen) :
    Calls Try.prog 16 #[.slice A n c] W (TrueBelow W) := by
  obtain rfl := hl.row.len
  have HL := Lib.hid hl
  have hm : c < 9223372036854775808 := by unfold maxLen at hc; omega
  obtain ⟨i0, hi0, hz0, hz1, hz2⟩ := info_parts info_int
  clear hl hc
  go_enter Try.func16, Try.ntmps16
  go_wp2_with fail
  (with_reducible refine (alive11 W).mono ?_)
  rintro e w1 ⟨rfl, B1⟩
  by_cases hbig : (100 : Int) < l.length
  · go_wp2_with fail
    go_ret
    exact ⟨rfl, B1⟩
  · have q0 := QSt.new B1 57
    have a0 := HL.out.arg (q0.alloc (.cells #[.slice none 0 0, .slice none 0 0] 57)).1
    have q1 := (q0.alloc (.cells #[.slice none 0 0, .slice none 0 0] 57)).1
    have Q1 := Lib.hid q1
    have A1 := Lib.hid a0
    have HO : Hid (QueueAt ((w1.alloc (.cells #[.slice none 0 0, .slice none 0 0] 57)).alloc (.cells #[.slice none 0 0, .slice none 0 0] 57)) W.heap.size (w1.heap.size + 1) 0 [] [] none none) := by
      have h := (QSt.new (W := W) (w := w1.alloc (.cells #[.slice none 0 0, .slice none 0 0] 57)) (B1.alloc B1.size _) 57).at_
      show QueueAt _ _ _ _ _ _ _ _
      simpa using h
    clear q0 q1 a0
    go_wp2_with (first | (at_builtin; refine stop ?_))
    show wpList _ _ _ _ _ _
    have hz1' : W.heap.size ≤ w1.heap.size := B1.size
    obtain ⟨wa, hwa⟩ : ∃ wa, wa = (w1.alloc (.cells #[.slice none 0 0, .slice none 0 0] 57)).alloc (.cells #[.slice none 0 0, .slice none 0 0] 57) := ⟨_, rfl⟩
    have hz : w1.heap.size + 1 + 1 = wa.heap.size := by rw [hwa]; simp
    rw [← hwa] at Q1 A1 HO ⊢
    rw [hz]
    obtain ⟨b, hb⟩ : ∃ b, b = w1.heap.size := ⟨_, rfl⟩
    rw [← hb] at Q1 A1 HO hz hz1' ⊢
    clear hwa hb B1
    refine wpList_append_any _ rfl (.tmp 17) (.tmp 18) _ rfl wa.heap.size 3 i0 _ 1 8 Try.underlying51 hi0 hz0 hz1 hz2 rfl (by omega) _ 0 [] rfl
      (own_lit wa) _ _ l.length c (l.map (.int .i64)) rfl (IntRow.alloc A1.out.row (Nat.le_refl _) _) (ints_one l) (by simp only [maxLen]; omega) (by omega) (by simp) ?_
    intro v1 w2 hown1 hg1 hat1
    obtain ⟨A2, c2, e2, a2, o2, q2, K2, hc2⟩ := Q1.out.gives (lit_gives rfl hown1 hg1)
    injection e2 with e2
    subst e2
    obtain ⟨r2, f2⟩ := gives_own (by omega) o2 Q1.out
    obtain ⟨ho2, hoa2⟩ := okeep HO.out K2 ⟨by omega, by omega, by simp, by simp⟩
    have R2 := Lib.hid r2
    have F2 := Lib.hid f2
    have Q2 := Lib.hid q2
    have O2 := Lib.hid ho2
    have OA2 := Lib.hid hoa2
    have AG2 := Lib.hid a2
    clear hown1 hg1 hat1 o2 r2 f2 q2 ho2 hoa2 K2 a2 Q1 A1 HO
    go_wp2_with fail
    (with_reducible refine (push_law Q2.out AG2.out (by simp; omega)).mono ?_)
    rintro e w3 ⟨rfl, k1, k2, q3, K3⟩
    have hlen3 := eachS_len slow_push l [] []
    simp only [List.length_nil] at hlen3
    obtain ⟨ho3, hoa3⟩ := okeep O2.out K3 OA2.out
    have R3 := Lib.hid (R2.out.keep K3)
    have Q3 := Lib.hid q3
    have O3 := Lib.hid ho3
    have OA3 := Lib.hid hoa3
    have hs3 := K3.size
    clear q3 ho3 hoa3 K3 R2 Q2 O2 OA2 AG2
    generalize (eachS pushS l [] []).2.1 = R at *
    generalize (eachS pushS l [] []).2.2 = F at *
    go_wp2_with fail
    (with_reducible refine (ready_law Q3.out (by omega)).mono ?_)
    rintro e w4 ⟨A4, c4, rfl, a4, o4, q4, K4, hc4⟩
    obtain ⟨r4, f4⟩ := gives_own (Q3.out.below.size) o4 Q3.out
    obtain ⟨ho4, hoa4⟩ := okeep O3.out K4 OA3.out
    have RI4 := Lib.hid (R3.out.keep K4)
    have R4 := Lib.hid r4
    have F4 := Lib.hid f4
    have Q4 := Lib.hid q4
    have O4 := Lib.hid ho4
    have OA4 := Lib.hid hoa4
    have AG4 := Lib.hid a4
    have hs4 := K4.size
    have P24 : Hid (Apart2 A2 A4) := fun ad ad' e e' h => by have h1 := (R3.out.ap ad e).lt; have h2 := f4 ad' e'; rw [h] at h1; omega
    have P2o : Hid (∀ ad, A2 = some ad → ad.block ≠ b + 1) := fun ad e h => by have := F2.out ad e; omega
    have P4o : Hid (∀ ad, A4 = some ad → ad.block ≠ b + 1) := fun ad e h => by have := f4 ad e; have := OA3.out.lt; omega
    clear o4 r4 f4 q4 ho4 hoa4 K4 a4 Q3 O3 OA3 R3
    go_wp2_with (first | (at_builtin; refine stop ?_))
    show wpList _ _ _ _ _ _
    refine wpList_append_any _ rfl (.tmp 23) (.tmp 24) _ rfl w4.heap.size 3 i0 _ 1 8 Try.underlying51 hi0 hz0 hz1 hz2 rfl (by omega) _ 0 [] rfl
      (own_lit w4) _ _ R.length c4 (R.map (.int .i64)) rfl (IntRow.alloc AG4.out.row (Nat.le_refl _) _) (ints_one R) (by simp only [maxLen]; omega) (by omega) (by simp) ?_
    intro v5 w5 hown5 hg5 hat5
    obtain ⟨A5, c5, e5, _, o5, q5, K5, hc5⟩ := Q4.out.gives (lit_gives rfl hown5 hg5)
    injection e5 with e5
    subst e5
    obtain ⟨r5, f5⟩ := gives_own (Q4.out.below.size) o5 Q4.out
    obtain ⟨ho5, hoa5⟩ := okeep O4.out K5 OA4.out
    have HS : Hid (OwnS W w5 b k1 k2 R F (b + 1) A2 l.length c2 A4 c4 A5 c5) :=
      ⟨q5, ho5, hoa5, ⟨l, RI4.out.keep K5⟩, ⟨R, R4.out.keep K5⟩, r5, P24.out, (fun ad ad' e e' h => by have h1 := (RI4.out.ap ad e).lt; have h2 := f5 ad' e'; rw [h] at h1; omega),
        (fun ad ad' e e' h => by have h1 := (R4.out.ap ad e).lt; have h2 := f5 ad' e'; rw [h] at h1; omega), P2o.out, P4o.out⟩
    clear hown5 hg5 hat5 o5 q5 K5 r5 f5 ho5 hoa5 RI4 R4 F4 Q4 O4 OA4 AG4 P24 F2
    go_wp2_with fail
    go_loopw [28] (fun i wr => ∃ j : Nat, j ≤ l.length ∧ i = .int .i64 j ∧ Hid (OwnS W wr b k1 k2 R F (b + 1) A2 l.length c2 A4 c4 A5 c5)) (fun i _ => l.length - (intOf i).toNat)
    case atStart => exact ⟨0, by omega, rfl, HS⟩
    case round =>
      clear HS
      obtain ⟨j, hj, rfl, HS⟩ := hrel
      by_cases hlt : j < l.length
      · obtain ⟨l2, r2⟩ := HS.out.r2
        obtain ⟨g, x, rfl, hcx, hfx⟩ := r2.at_ hlt
        clear r2
        go_wp2_with fail
        go_roundw
        case rel => exact ⟨j + 1, by omega, by go_num, HS.out.set2 hlt _⟩
        case measure => simp [intOf]; omega
      · obtain rfl : j = l.length := by omega
        go_wp2_with fail
        go_loopw [40] (fun i wr => ∃ j : Nat, j ≤ R.length ∧ i = .int .i64 j ∧ Hid (OwnS W wr b k1 k2 R F (b + 1) A2 l.length c2 A4 c4 A5 c5)) (fun i _ => R.length - (intOf i).toNat)
        case atStart => exact ⟨0, by omega, rfl, HS⟩
        case round =>
          clear HS
          obtain ⟨j, hj, rfl, HS⟩ := hrel
          by_cases hlt : j < R.length
          · obtain ⟨l4, r4⟩ := HS.out.r4
            obtain ⟨g, x, rfl, hcx, hfx⟩ := r4.at_ hlt
            clear r4
            go_wp2_with fail
            go_roundw
            case rel => exact ⟨j + 1, by omega, by go_num, HS.out.set4 hlt _⟩
            case measure => simp [intOf]; omega
          · obtain rfl : j = R.length := by omega
            go_wp2_with fail
            (with_reducible refine (all_law HS.out.q (by omega) (by omega)).mono ?_)
            rintro e w6 ⟨A6, c6, rfl, _, o6, q6, K6, hc6⟩
            obtain ⟨r6, f6⟩ := gives_own HS.out.q.below.size o6 HS.out.q
            obtain ⟨ho6, hoa6⟩ := okeep HS.out.o K6 HS.out.oap
            obtain ⟨l4, r4⟩ := HS.out.r4
            have HT : Hid (OwnS W w6 b k1 k2 R F (b + 1) A6 (R ++ F).length c6 A4 c4 A5 c5) :=
              ⟨q6, ho6, hoa6, ⟨_, r6⟩, ⟨l4, r4.keep K6⟩, HS.out.r5.keep K6, (fun ad ad' e e' h => by have h1 := (r4.ap ad' e').lt; have h2 := f6 ad e; rw [← h] at h1; omega),
                (fun ad ad' e e' h => by have h1 := (HS.out.r5.ap ad' e').lt; have h2 := f6 ad e; rw [← h] at h1; omega), HS.out.p45,
                (fun ad e h => by have := f6 ad e; have := HS.out.oap.lt; omega), HS.out.o4⟩
            have e1 : (R ++ F).length = R.length + F.length := by simp
            rw [e1] at HT hc6 ⊢
            clear o6 q6 K6 r6 f6 ho6 hoa6 r4 HS e1
            go_wp2_with fail
            go_loopw [53] (fun i wr => ∃ j : Nat, j ≤ R.length + F.length ∧ i = .int .i64 j ∧ Hid (OwnS W wr b k1 k2 R F (b + 1) A6 (R.length + F.length) c6 A4 c4 A5 c5)) (fun i _ => R.length + F.length - (intOf i).toNat)
            case atStart => exact ⟨0, by omega, rfl, HT⟩
            case round =>
              clear HT
              obtain ⟨j, hj, rfl, HS⟩ := hrel
              by_cases hlt : j < R.length + F.length
              · obtain ⟨l6, r6⟩ := HS.out.r2
                obtain ⟨g, x, rfl, hcx, hfx⟩ := r6.at_ hlt
                clear r6
                go_wp2_with fail
                go_roundw
                case rel => exact ⟨j + 1, by omega, by go_num, HS.out.set2 hlt _⟩
                case measure => simp [intOf]; omega
              · obtain rfl : j = R.length + F.length := by omega
                go_wp2_with fail
                (with_reducible refine (ready_law HS.out.q (by omega)).mono ?_)
                rintro e w7 ⟨A7, c7, rfl, a7, _, q7, K7, _⟩
                obtain ⟨ho7, hoa7⟩ := okeep HS.out.o K7 HS.out.oap
                have A7' := Lib.hid a7
                have A5' := Lib.hid (HS.out.r5.arg.keep K7)
                have Q7 := Lib.hid q7
                have O7 := Lib.hid ho7
                have OA7 := Lib.hid hoa7
                clear a7 q7 K7 ho7 hoa7 HS
                go_wp2_with fail
                (with_reducible refine (same_law Q7.out A7'.out A5'.out (by omega) (by omega)).mono ?_)
                rintro e w8 ⟨rfl, q8, K8⟩
                obtain ⟨ho8, hoa8⟩ := okeep O7.out K8 OA7.out
                have Q8 := Lib.hid q8
                have O8 := Lib.hid ho8
                rw [show decide (R = R) = true by simp]
                clear q8 K8 ho8 hoa8 A7' A5' Q7 O7 OA7
                go_wp2_with fail
                (with_reducible refine (all_any _ _ _ _ [] [] none none O8.out (by simp) (by simp)).mono ?_)
                rintro e w9 ⟨v9, rfl, o9, b9⟩
                obtain ⟨A9, c9, rfl⟩ := own_slice o9
                have O9 := Lib.hid (O8.out.below b9 (Nat.le_refl _))
                have B9 := Lib.hid (Q8.out.below.trans (b9.mono Q8.out.below.size))
                clear o9 b9 O8 Q8
                go_wp2_with fail
                (with_reducible refine (has_any _ _ _ _ [] [] none none O9.out (by simp) (by simp) 0 none 0 0 [] (IntRow.none0 _ _) (fun _ _ e => by cases e) (by omega) (by omega)).mono ?_)
                rintro e w10 ⟨rfl, b10⟩
                have B10 := Lib.hid (B9.out.trans (b10.mono B9.out.size))
                rw [show ([] : List Int).all (inQ [] []) = true from rfl]
                clear b10 B9 O9
                go_wp2_with fail
                go_ret
                exact ⟨rfl, B10.out⟩

section
variable {H : Type} {enc : TypeId × Value → H} {W : World} {base : Nat} {args : Array Value} {ds : List (DataW H)} {p : List MemPlace}
set_option maxRecDepth 100000 in
theorem QueueOwn_run (hval : ∀ (j : Nat) t v, #[51][j]? = some t → args[j]? = some v → Value.okWide Try.prog W .any base t v)
    (hA : DataW.TrodAll enc Try.prog W 0 (fun _ => true) true [51] args.toList ds p) (hlt : ∀ x ∈ p, x.block < W.heap.size) :
    Calls Try.prog 16 args W (TrueBelow W) := by
  obtain ⟨v0, d0, rfl, rfl, h0⟩ := trodAll_one hA
  obtain ⟨A, n, c, f, rfl, hn, hc, hf⟩ := arg_ints Try.underlying51 Try.underlying3 cells_int (hval 0 51 v0 rfl rfl) h0 hlt
  exact own_walk W A n c _ (Row0.of_cells (f := f) fun i hin => by obtain ⟨b, off, e1, e2, e3, _⟩ := hf i hin; exact ⟨b, off, e1, e2, e3⟩) hn hc
end
end Go.Proofs.Ytpddlnedaleblaa
