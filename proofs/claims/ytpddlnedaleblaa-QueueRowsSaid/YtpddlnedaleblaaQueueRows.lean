/- QueueRows, walked. -/
import Derived.Test.YtpddlnedaleblaaGreat
import Derived.Test.YtpddlnedaleblaaQueueN
namespace Go.Proofs.Ytpddlnedaleblaa
open Go.ChangeShapes Go.WideShapes Go.RowKit

set_option maxRecDepth 100000 in
set_option maxHeartbeats 2000000 in
theorem rows_walk (W : World) (A : Option Addr) (n c : Nat) (f : Nat → A11) (x : Int) (hf : Acts11 W A n f) (hn : n ≤ c) (hc : c ≤ maxLen) :
    Calls Try.prog 9 #[.slice A n c, .int .i64 x] W (TrueBelow W) := by
  have HF := Lib.hid hf
  have HG := Lib.hid fun (w : World) (hb : Below W.heap.size W w) => great_any W w A n c f hf hb hn hc
  have hm : c < 9223372036854775808 := by unfold maxLen at hc; omega
  clear hf hc
  go_enter Try.func9, Try.ntmps9
  go_wp2_with fail
  (with_reducible refine (alive11 W).mono ?_)
  rintro e w1 ⟨rfl, B1⟩
  go_wp2_with fail
  refine (HG.out w1 B1).mono ?_
  rintro e w2 ⟨g, rfl, hg, B2⟩
  cases g with
  | true =>
    go_wp2_with fail
    go_ret
    exact ⟨rfl, B2⟩
  | false =>
    obtain ⟨hn1, hs1⟩ := hg rfl
    have H0 := QSt.new B2 57
    have HQ := Lib.hid H0
    clear hg H0
    go_wp2_with fail
    obtain ⟨b, hb⟩ : ∃ b, b = w2.heap.size := ⟨_, rfl⟩
    rw [← hb] at HQ ⊢
    clear hb B1 B2
    go_loopw [20] (fun i wr => ∃ (k : Nat) (R F : List Int) (g1 g2 : Option Nat), k ≤ n ∧ i = .int .i64 k ∧ R.length + F.length ≤ sumA f k ∧ Hid (QOnce R F) ∧ Hid (QSt W wr b R F g1 g2)) (fun i _ => n - (intOf i).toNat)
    case atStart => exact ⟨0, [], [], none, none, by omega, rfl, by simp, QOnce.nil, HQ⟩
    case round =>
      clear HQ
      obtain ⟨k, R, F, g1, g2, hk, rfl, hlen, HO, HQ⟩ := hrel
      by_cases hlt : k < n
      · obtain ⟨g, off, rfl, hg, h0', h1', h2', hr, _⟩ := HF.out k hlt
        have hs2 : sumA f (k + 1) ≤ 500 := Nat.le_trans (sumA_mono f (by omega)) hs1
        have hnl := hr.row.len
        have hs3 : sumA f (k + 1) = sumA f k + (f k).n := rfl
        have hlen1 := eachS_len slow_push (f k).l R F
        have h0 := (HQ.out.below.cell (p := ⟨g, off + k * 3, none⟩) hg).trans h0'
        have h1 := (HQ.out.below.cell (p := ⟨g, off + k * 3 + 1, none⟩) hg).trans h1'
        have h2 := (HQ.out.below.cell (p := ⟨g, off + k * 3 + 2, none⟩) hg).trans h2'
        generalize ha : f k = a at *
        have Q1 := HQ.out.alloc (.cells #[.int .i64 a.k, .int .i64 a.x, .slice a.A a.n a.c] 59)
        have D1 := Lib.hid (HQ.out.fresh (.cells #[.int .i64 a.k, .int .i64 a.x, .slice a.A a.n a.c] 59))
        have A1 := Lib.hid (hr.arg Q1.1)
        have X1 : Hid ((wr.alloc (.cells #[.int .i64 a.k, .int .i64 a.x, .slice a.A a.n a.c] 59)).cell? ⟨wr.heap.size, 1, none⟩ = some (.int .i64 a.x)) := by
          show _ = _
          rw [World.cell?_alloc_new]
          rfl
        have QQ := Lib.hid Q1.1
        have HL := Lib.hid hnl
        have HO1 := Lib.hid ((HO.out.pushes a.l).fill a.x)
        clear h0' h1' h2' hr Q1 hnl HO
        go_wp2_with fail
        clear h0 h1 h2
        (with_reducible refine (push_law QQ.out A1.out (by omega)).mono ?_)
        rintro e w3 ⟨rfl, k1, k2, Q2, K2⟩
        have x2 := K2.cell D1.out X1.out
        have Q2' := Lib.hid Q2
        clear Q2 K2 QQ A1 X1 D1
        go_wp2_with fail
        clear x2
        have hlen2 := HL.out
        (with_reducible refine (fill_law Q2'.out a.x (by omega)).mono ?_)
        rintro e w4 ⟨rfl, k1', k2', Q3, _⟩
        have hlen3 := fillS_len (eachS pushS a.l R F).2.1 (eachS pushS a.l R F).2.2 a.x
        have Q3' := Lib.hid Q3
        clear Q3 Q2'
        go_wp2_with fail
        go_roundw
        case rel => exact ⟨k + 1, _, _, k1', k2', by omega, by go_num, by omega, HO1, Q3'⟩
        case measure => simp [intOf]; omega
      · obtain rfl : k = n := by omega
        have HO2 := Lib.hid HO.out.apart
        have hbig : R.length + F.length ≤ 500 := by omega
        clear HO hlen
        go_wp2_with fail
        (with_reducible refine (full_law HQ.out (by omega)).mono ?_)
        rintro e w4 ⟨Af, cf, rfl, af, _, q4, _⟩
        have AF := Lib.hid af
        have Q4 := Lib.hid q4
        clear af q4 HQ
        go_wp2_with fail
        go_loopw [33] (fun i wr => ∃ (j : Nat) (k1 k2 : Option Nat), j ≤ F.length ∧ i = .int .i64 j ∧ Hid (QSt W wr b R F k1 k2) ∧ Hid (Arg wr b k1 k2 Af F.length F)) (fun i _ => F.length - (intOf i).toNat)
        case atStart => exact ⟨0, g1, g2, by omega, rfl, Q4, AF⟩
        case round =>
          clear Q4 AF
          obtain ⟨j, k1, k2, hj, rfl, Q5, A5⟩ := hrel
          by_cases hlj : j < F.length
          · obtain ⟨g, off, y, rfl, hy, hcy⟩ := A5.out.get hlj
            have he : Hid (fillS R F y = (5, R, F)) := by
              have h := HO2.out y
              have hm := List.mem_of_getElem? hy
              have hn : y ∉ R := fun hr => h hr hm
              show _ = _
              simp [fillS, hn]
            clear hy
            go_wp2_with fail
            clear hcy
            (with_reducible refine (fill_law Q5.out y (by omega)).mono ?_)
            rintro e w6 ⟨rfl, k1', k2', q6, K6⟩
            rw [he.out] at q6 ⊢
            have Q6 : Hid (QSt W w6 b R F k1' k2') := q6
            have A6 := Lib.hid (A5.out.keep K6)
            clear q6 K6 Q5 A5
            go_wp2_with fail
            go_roundw
            case rel => exact ⟨j + 1, k1', k2', by omega, by go_num, Q6, A6⟩
            case measure => simp [intOf]; omega
          · obtain rfl : j = F.length := by omega
            go_wp2_with fail
            (with_reducible refine (ready_law Q5.out (by omega)).mono ?_)
            rintro e w6 ⟨Ar, cr, rfl, ar, _, q6, _⟩
            have AR := Lib.hid ar
            have Q6 := Lib.hid q6
            clear ar q6 Q5 A5
            go_wp2_with fail
            go_loopw [43] (fun i wr => ∃ (j : Nat) (k1 k2 : Option Nat), j ≤ R.length ∧ i = .int .i64 j ∧ Hid (QSt W wr b R F k1 k2) ∧ Hid (Arg wr b k1 k2 Ar R.length R)) (fun i _ => R.length - (intOf i).toNat)
            case atStart => exact ⟨0, k1, k2, by omega, rfl, Q6, AR⟩
            case round =>
              clear Q6 AR
              obtain ⟨j, k1, k2, hj, rfl, Q5, A5⟩ := hrel
              by_cases hlj : j < R.length
              · obtain ⟨g, off, y, rfl, hy, hcy⟩ := A5.out.get hlj
                have he : Hid (wakeS R F y = (5, R, F)) := by
                  have h := HO2.out y
                  have hm := List.mem_of_getElem? hy
                  have hn : y ∉ F := fun hr => h hm hr
                  show _ = _
                  simp [wakeS, hn]
                clear hy
                go_wp2_with fail
                clear hcy
                (with_reducible refine (wake_law Q5.out y (by omega)).mono ?_)
                rintro e w6 ⟨rfl, k1', k2', q6, K6⟩
                rw [he.out] at q6 ⊢
                have Q6 : Hid (QSt W w6 b R F k1' k2') := q6
                have A6 := Lib.hid (A5.out.keep K6)
                clear q6 K6 Q5 A5
                go_wp2_with fail
                go_roundw
                case rel => exact ⟨j + 1, k1', k2', by omega, by go_num, Q6, A6⟩
                case measure => simp [intOf]; omega
              · obtain rfl : j = R.length := by omega
                obtain ⟨q6, _, a6⟩ := Q5.out.one x 3
                have Q6 := Lib.hid q6
                have A6 := Lib.hid a6
                clear q6 a6 Q5 A5
                go_wp2_with fail
                (with_reducible refine (has_law Q6.out A6.out (by omega) (by omega) (by omega)).mono ?_)
                rintro e w7 ⟨rfl, q7, _⟩
                rw [show [x].all (inQ R F) = inQ R F x by simp]
                have Q7 := Lib.hid q7
                clear q7 Q6 A6
                cases hx : inQ R F x with
                | false =>
                  simp [inQ] at hx
                  have hf : Hid (fillS R F x = (5, R, F)) := by show _ = _; simp [fillS, hx.1]
                  have hw : Hid (wakeS R F x = (5, R, F)) := by show _ = _; simp [wakeS, hx.2]
                  clear hx
                  go_wp2_with fail
                  (with_reducible refine (fill_law Q7.out x (by omega)).mono ?_)
                  rintro e w8 ⟨rfl, k3, k4, q8, _⟩
                  rw [hf.out] at q8 ⊢
                  have Q8 : Hid (QSt W w8 b R F k3 k4) := q8
                  clear q8 Q7
                  go_wp2_with fail
                  (with_reducible refine (wake_law Q8.out x (by omega)).mono ?_)
                  rintro e w9 ⟨rfl, k5, k6, q9, _⟩
                  rw [hw.out] at q9 ⊢
                  have B9 := Lib.hid q9.below
                  clear q9 Q8
                  go_wp2_with fail
                  go_ret
                  exact ⟨rfl, B9.out⟩
                | true =>
                  have hfw : Hid (∃ e R1 F1 R2 F2, (e = 0 ∨ e = 5) ∧ fillS R F x = (e, R1, F1) ∧ wakeS R1 F1 x = (0, R2, F2) ∧ (fillS R2 F2 x).1 = 0 ∧ R1.length + F1.length ≤ 500 ∧ R2.length + F2.length ≤ 500) := by
                    simp [inQ] at hx
                    by_cases hr : x ∈ R
                    · have hle := length_erase_lt hr
                      refine ⟨0, R.erase x, F ++ [x], R.erase x ++ [x], (F ++ [x]).erase x, .inl rfl, by simp [fillS, hr], by simp [wakeS], by simp [fillS], by simp; omega, ?_⟩
                      have := length_erase_lt (l := F ++ [x]) (x := x) (by simp)
                      simp at this ⊢
                      omega
                    · have hf : x ∈ F := by simpa [hr] using hx
                      have hle := length_erase_lt hf
                      refine ⟨5, R, F, R ++ [x], F.erase x, .inr rfl, by simp [fillS, hr], by simp [wakeS, hf], by simp [fillS], by omega, ?_⟩
                      simp
                      omega
                  clear hx
                  obtain ⟨e0, R1, F1, R2, F2, he0, hf, hw, hf2, hl1, hl2⟩ := hfw
                  have HF1 := Lib.hid hf
                  have HW1 := Lib.hid hw
                  have HF2 := Lib.hid hf2
                  clear hf hw hf2
                  go_wp2_with fail
                  (with_reducible refine (fill_law Q7.out x (by omega)).mono ?_)
                  rintro e w8 ⟨rfl, k3, k4, q8, _⟩
                  rw [HF1.out] at q8 ⊢
                  have Q8 : Hid (QSt W w8 b R1 F1 k3 k4) := q8
                  clear q8 Q7
                  go_wp2_with fail
                  (with_reducible refine (wake_law Q8.out x (by omega)).mono ?_)
                  rintro e w9 ⟨rfl, k5, k6, q9, _⟩
                  rw [HW1.out] at q9 ⊢
                  have Q9 : Hid (QSt W w9 b R2 F2 k5 k6) := q9
                  clear q9 Q8
                  rcases he0 with rfl | rfl
                  all_goals
                    go_wp2_with fail
                    (with_reducible refine (fill_law Q9.out x (by omega)).mono ?_)
                    rintro e w10 ⟨rfl, k7, k8, q10, _⟩
                    rw [HF2.out]
                    have B10 := Lib.hid q10.below
                    clear q10 Q9
                    go_wp2_with fail
                    go_ret
                    exact ⟨rfl, B10.out⟩

section
variable {H : Type} {enc : TypeId × Value → H} {W : World} {base : Nat} {args : Array Value} {ds : List (DataW H)} {p : List MemPlace}
set_option maxRecDepth 100000 in
theorem QueueRows_run (hval : ∀ (j : Nat) t v, #[49, 3][j]? = some t → args[j]? = some v → Value.okWide Try.prog W .any base t v)
    (hA : DataW.TrodAll enc Try.prog W 0 (fun _ => true) true [49, 3] args.toList ds p) (hlt : ∀ x ∈ p, x.block < W.heap.size)
    (hsz : (DataW.weightsEach Try.prog [49, 3] ds).all (· ≤ reachBytes) = true) :
    Calls Try.prog 9 args W (TrueBelow W) := by
  obtain ⟨v0, v1, d0, d1, p0, p1, rfl, rfl, rfl, h0, h1⟩ := trodAll_two hA
  obtain ⟨x, rfl, rfl, rfl, _⟩ := open_int Try.underlying3 (hval 1 3 v1 rfl rfl) h1
  obtain ⟨A, n, c, f, rfl, hn, hc, hf⟩ := open_acts11 (hval 0 49 v0 rfl rfl) h0 (fun x hx => hlt x (by simp [hx])) (weighs_of hsz (j := 0) rfl rfl)
  exact rows_walk W A n c f x hf hn hc
end
end Go.Proofs.Ytpddlnedaleblaa

