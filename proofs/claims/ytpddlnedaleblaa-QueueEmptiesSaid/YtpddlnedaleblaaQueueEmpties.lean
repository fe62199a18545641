/- QueueEmpties, walked. -/
import Derived.Test.YtpddlnedaleblaaGreat
import Derived.Test.YtpddlnedaleblaaQueueN
namespace Go.Proofs.Ytpddlnedaleblaa
open Go.ChangeShapes Go.WideShapes Go.RowKit

set_option maxRecDepth 100000 in
set_option maxHeartbeats 2000000 in
theorem empties_walk (W : World) (A : Option Addr) (n c : Nat) (f : Nat → A11) (hf : Acts11 W A n f) (hn : n ≤ c) (hc : c ≤ maxLen) :
    Calls Try.prog 19 #[.slice A n c] W (TrueBelow W) := by
  have HF := Lib.hid hf
  have HG := Lib.hid fun (w : World) (hb : Below W.heap.size W w) => great_any W w A n c f hf hb hn hc
  have hm : c < 9223372036854775808 := by unfold maxLen at hc; omega
  clear hf hc
  go_enter Try.func19, Try.ntmps19
  go_wp2_with fail
  (with_reducible refine (alive11 W).mono ?_)
  rintro e w1 ⟨rfl, B1⟩
  go_wp2_with fail
  refine (HG.out w1 B1).mono ?_
  rintro e w2 ⟨g, rfl, hg, B2⟩
  cases g with
  | true =>
    go_wp2_with fail
    go_ret
    exact ⟨rfl, B2⟩
  | false =>
    obtain ⟨hn1, hs1⟩ := hg rfl
    have H0 := QSt.new B2 57
    have HQ := Lib.hid H0
    clear hg H0
    go_wp2_with fail
    obtain ⟨b, hb⟩ : ∃ b, b = w2.heap.size := ⟨_, rfl⟩
    rw [← hb] at HQ ⊢
    clear hb B1 B2
    go_loopw [13] (fun i wr => ∃ (k : Nat) (R F : List Int) (g1 g2 : Option Nat), k ≤ n ∧ i = .int .i64 k ∧ R.length + F.length ≤ sumA f k ∧ Hid (QOnce R F) ∧ Hid (QSt W wr b R F g1 g2)) (fun i _ => n - (intOf i).toNat)
    case atStart => exact ⟨0, [], [], none, none, by omega, rfl, by simp, QOnce.nil, HQ⟩
    case round =>
      clear HQ
      obtain ⟨k, R, F, g1, g2, hk, rfl, hlen, HO, HQ⟩ := hrel
      by_cases hlt : k < n
      · obtain ⟨g, off, rfl, hg, h0', h1', h2', hr, _⟩ := HF.out k hlt
        have hs2 : sumA f (k + 1) ≤ 500 := Nat.le_trans (sumA_mono f (by omega)) hs1
        have hnl := hr.row.len
        have hs3 : sumA f (k + 1) = sumA f k + (f k).n := rfl
        have hlen1 := eachS_len slow_push (f k).l R F
        have h0 := (HQ.out.below.cell (p := ⟨g, off + k * 3, none⟩) hg).trans h0'
        have h1 := (HQ.out.below.cell (p := ⟨g, off + k * 3 + 1, none⟩) hg).trans h1'
        have h2 := (HQ.out.below.cell (p := ⟨g, off + k * 3 + 2, none⟩) hg).trans h2'
        generalize ha : f k = a at *
        have Q1 := HQ.out.alloc (.cells #[.int .i64 a.k, .int .i64 a.x, .slice a.A a.n a.c] 59)
        have D1 := Lib.hid (HQ.out.fresh (.cells #[.int .i64 a.k, .int .i64 a.x, .slice a.A a.n a.c] 59))
        have A1 := Lib.hid (hr.arg Q1.1)
        have X1 : Hid ((wr.alloc (.cells #[.int .i64 a.k, .int .i64 a.x, .slice a.A a.n a.c] 59)).cell? ⟨wr.heap.size, 1, none⟩ = some (.int .i64 a.x)) := by
          show _ = _
          rw [World.cell?_alloc_new]
          rfl
        have QQ := Lib.hid Q1.1
        have HL := Lib.hid hnl
        have HO1 := Lib.hid ((HO.out.pushes a.l).fill a.x)
        clear h0' h1' h2' hr Q1 hnl HO
        go_wp2_with fail
        clear h0 h1 h2
        (with_reducible refine (push_law QQ.out A1.out (by omega)).mono ?_)
        rintro e w3 ⟨rfl, k1, k2, Q2, K2⟩
        have x2 := K2.cell D1.out X1.out
        have Q2' := Lib.hid Q2
        clear Q2 K2 QQ A1 X1 D1
        go_wp2_with fail
        clear x2
        have hlen2 := HL.out
        (with_reducible refine (fill_law Q2'.out a.x (by omega)).mono ?_)
        rintro e w4 ⟨rfl, k1', k2', Q3, _⟩
        have hlen3 := fillS_len (eachS pushS a.l R F).2.1 (eachS pushS a.l R F).2.2 a.x
        have Q3' := Lib.hid Q3
        clear Q3 Q2'
        go_wp2_with fail
        go_roundw
        case rel => exact ⟨k + 1, _, _, k1', k2', by omega, by go_num, by omega, HO1, Q3'⟩
        case measure => simp [intOf]; omega
      · obtain rfl : k = n := by omega
        go_wp2_with fail
        (with_reducible refine (all_law HQ.out (by omega) (by omega)).mono ?_)
        rintro e w4 ⟨Aa, ca, rfl, aa, _, q4, _⟩
        have AA := Lib.hid aa
        have Q4 := Lib.hid q4
        have HE : Hid (eachS removeS (R ++ F) R F = (0, [], [])) := remove_all R F HO.out
        have HP : Hid (eachS pushS (R ++ F) [] [] = (0, R ++ F, [])) := by
          have h := push_all (R ++ F) [] (by simpa using HO.out.all)
          show _ = _
          simpa using h
        have e1 : (R ++ F).length = R.length + F.length := by simp
        have E1 := Lib.hid e1
        have hbig : R.length + F.length ≤ 500 := by omega
        rw [e1]
        clear aa q4 HQ e1 hlen
        go_wp2_with fail
        (with_reducible refine (ready_law Q4.out (by omega)).mono ?_)
        rintro e w5 ⟨A5, c5, rfl, _, _, q5, K5, _⟩
        have Q5 := Lib.hid q5
        have AA5 := Lib.hid (AA.out.keep K5)
        clear q5 Q4 AA K5
        go_wp2_with fail
        (with_reducible refine (full_law Q5.out (by omega)).mono ?_)
        rintro e w6 ⟨A6, c6, rfl, _, _, q6, K6, _⟩
        have Q6 := Lib.hid q6
        have AA6 := Lib.hid (AA5.out.keep K6)
        rw [E1.out] at AA6
        clear q6 Q5 AA5 K6
        go_wp2_with fail
        (with_reducible refine (remove_law Q6.out AA6.out (by omega)).mono ?_)
        rintro e w7 ⟨rfl, k1, k2, q7, K7⟩
        rw [HE.out] at q7 ⊢
        have Q7 : Hid (QSt W w7 b [] [] k1 k2) := q7
        have AA7 := Lib.hid (AA6.out.keep K7)
        clear q7 Q6 AA6 K7
        go_wp2_with fail
        (with_reducible refine (all_law Q7.out (by simp) (by simp)).mono ?_)
        rintro e w8 ⟨A8, c8, rfl, _, _, q8, K8, _⟩
        have Q8 := Lib.hid q8
        have AA8 := Lib.hid (AA7.out.keep K8)
        simp only [List.append_nil, List.length_nil]
        clear q8 Q7 AA7 K8
        go_wp2_with fail
        (with_reducible refine (push_law Q8.out AA8.out (by simp; omega)).mono ?_)
        rintro e w9 ⟨rfl, k3, k4, q9, K9⟩
        rw [HP.out] at q9 ⊢
        have Q9 : Hid (QSt W w9 b (R ++ F) [] k3 k4) := q9
        have AA9 := Lib.hid (AA8.out.keep K9)
        clear q9 Q8 AA8 K9
        go_wp2_with fail
        (with_reducible refine (ready_law Q9.out (by rw [E1.out]; omega)).mono ?_)
        rintro e w10 ⟨A10, c10, rfl, a10, _, q10, K10, _⟩
        rw [E1.out] at a10 ⊢
        have A10 := Lib.hid a10
        have Q10 := Lib.hid q10
        have AA10 := Lib.hid (AA9.out.keep K10)
        clear a10 q10 Q9 AA9 K10
        go_wp2_with fail
        (with_reducible refine (same_law Q10.out A10.out AA10.out (by omega) (by omega)).mono ?_)
        rintro e w11 ⟨rfl, q11, _⟩
        have Q11 := Lib.hid q11
        rw [show decide (R ++ F = R ++ F) = true by simp]
        clear q11 Q10 AA10 A10
        go_wp2_with fail
        (with_reducible refine (full_law Q11.out (by simp)).mono ?_)
        rintro e w12 ⟨A12, c12, rfl, _, _, q12, _⟩
        have B12 := Lib.hid q12.below
        rw [show ([] : List Int).length = 0 from rfl]
        clear q12 Q11
        go_wp2_with fail
        go_ret
        exact ⟨rfl, B12.out⟩

section
variable {H : Type} {enc : TypeId × Value → H} {W : World} {base : Nat} {args : Array Value} {ds : List (DataW H)} {p : List MemPlace}
set_option maxRecDepth 100000 in
theorem QueueEmpties_run (hval : ∀ (j : Nat) t v, #[49][j]? = some t → args[j]? = some v → Value.okWide Try.prog W .any base t v)
    (hA : DataW.TrodAll enc Try.prog W 0 (fun _ => true) true [49] args.toList ds p) (hlt : ∀ x ∈ p, x.block < W.heap.size)
    (hsz : (DataW.weightsEach Try.prog [49] ds).all (· ≤ reachBytes) = true) :
    Calls Try.prog 19 args W (TrueBelow W) := by
  obtain ⟨v0, d0, rfl, rfl, h0⟩ := trodAll_one hA
  obtain ⟨A, n, c, f, rfl, hn, hc, hf⟩ := open_acts11 (hval 0 49 v0 rfl rfl) h0 hlt (weighs_of hsz (j := 0) rfl rfl)
  exact empties_walk W A n c f hf hn hc
end
end Go.Proofs.Ytpddlnedaleblaa

