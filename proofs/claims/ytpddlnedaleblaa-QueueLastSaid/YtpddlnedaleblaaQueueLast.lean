/- QueueLast, walked. -/
import Derived.Test.YtpddlnedaleblaaGreat
namespace Go.Proofs.Ytpddlnedaleblaa
open Go.ChangeShapes Go.WideShapes Go.RowKit

set_option maxRecDepth 100000 in
set_option maxHeartbeats 1000000 in
theorem last_walk (W : World) (A : Option Addr) (n c : Nat) (f : Nat → A11) (x : Int) (hf : Acts11 W A n f) (hn : n ≤ c) (hc : c ≤ maxLen) :
    Calls Try.prog 8 #[.slice A n c, .int .i64 x] W (TrueBelow W) := by
  have HF := Lib.hid hf
  have HG := Lib.hid fun (w : World) (hb : Below W.heap.size W w) => great_any W w A n c f hf hb hn hc
  have hm : c < 9223372036854775808 := by unfold maxLen at hc; omega
  clear hf hc
  go_enter Try.func8, Try.ntmps8
  go_wp2_with fail
  (with_reducible refine (alive11 W).mono ?_)
  rintro e w1 ⟨rfl, B1⟩
  go_wp2_with fail
  refine (HG.out w1 B1).mono ?_
  rintro e w2 ⟨g, rfl, hg, B2⟩
  cases g with
  | true =>
    go_wp2_with fail
    go_ret
    exact ⟨rfl, B2⟩
  | false =>
    obtain ⟨hn1, hs1⟩ := hg rfl
    have H0 := QSt.new B2 57
    have HQ := Lib.hid H0
    clear hg H0
    go_wp2_with fail
    obtain ⟨b, hb⟩ : ∃ b, b = w2.heap.size := ⟨_, rfl⟩
    rw [← hb] at HQ ⊢
    clear hb B1 B2
    go_loopw [18] (fun i wr => ∃ (k : Nat) (R F : List Int) (g1 g2 : Option Nat), k ≤ n ∧ i = .int .i64 k ∧ R.length + F.length ≤ sumA f k ∧ Hid (QSt W wr b R F g1 g2)) (fun i _ => n - (intOf i).toNat)
    case atStart => exact ⟨0, [], [], none, none, by omega, rfl, by simp, HQ⟩
    case round =>
      clear HQ
      obtain ⟨k, R, F, g1, g2, hk, rfl, hlen, HQ⟩ := hrel
      by_cases hlt : k < n
      · obtain ⟨g, off, rfl, hg, h0', h1', h2', hr, _⟩ := HF.out k hlt
        have hs2 : sumA f (k + 1) ≤ 500 := Nat.le_trans (sumA_mono f (by omega)) hs1
        have hnl := hr.row.len
        have hs3 : sumA f (k + 1) = sumA f k + (f k).n := rfl
        have hlen1 := eachS_len slow_push (f k).l R F
        have h0 := (HQ.out.below.cell (p := ⟨g, off + k * 3, none⟩) hg).trans h0'
        have h1 := (HQ.out.below.cell (p := ⟨g, off + k * 3 + 1, none⟩) hg).trans h1'
        have h2 := (HQ.out.below.cell (p := ⟨g, off + k * 3 + 2, none⟩) hg).trans h2'
        generalize ha : f k = a at *
        have Q1 := HQ.out.alloc (.cells #[.int .i64 a.k, .int .i64 a.x, .slice a.A a.n a.c] 59)
        have D1 := Lib.hid (HQ.out.fresh (.cells #[.int .i64 a.k, .int .i64 a.x, .slice a.A a.n a.c] 59))
        have A1 := Lib.hid (hr.arg Q1.1)
        have X1 : Hid ((wr.alloc (.cells #[.int .i64 a.k, .int .i64 a.x, .slice a.A a.n a.c] 59)).cell? ⟨wr.heap.size, 1, none⟩ = some (.int .i64 a.x)) := by
          show _ = _
          rw [World.cell?_alloc_new]
          rfl
        have QQ := Lib.hid Q1.1
        have HL := Lib.hid hnl
        clear h0' h1' h2' hr Q1 hnl
        go_wp2_with fail
        clear h0 h1 h2
        (with_reducible refine (push_law QQ.out A1.out (by omega)).mono ?_)
        rintro e w3 ⟨rfl, k1, k2, Q2, K2⟩
        have x2 := K2.cell D1.out X1.out
        have Q2' := Lib.hid Q2
        clear Q2 K2 QQ A1 X1 D1
        go_wp2_with fail
        clear x2
        have hlen2 := HL.out
        (with_reducible refine (fill_law Q2'.out a.x (by omega)).mono ?_)
        rintro e w4 ⟨rfl, k1', k2', Q3, _⟩
        have hlen3 := fillS_len (eachS pushS a.l R F).2.1 (eachS pushS a.l R F).2.2 a.x
        have Q3' := Lib.hid Q3
        clear Q3 Q2'
        go_wp2_with fail
        go_roundw
        case rel => exact ⟨k + 1, _, _, k1', k2', by omega, by go_num, by omega, Q3'⟩
        case measure => simp [intOf]; omega
      · obtain rfl : k = n := by omega
        obtain ⟨q1, _, a1⟩ := HQ.out.one x 3
        have Q1 := Lib.hid q1
        have A1 := Lib.hid a1
        clear q1 a1 HQ
        go_wp2_with fail
        (with_reducible refine (push_law Q1.out A1.out (by omega)).mono ?_)
        rintro e w3 ⟨rfl, k1, k2, Q2, _⟩
        rw [eachS_one] at Q2 ⊢
        have hx0 := pushS_there R F x
        have hl0 : (pushS R F x).2.1.length + (pushS R F x).2.2.length ≤ 501 := by have := slow_push R F x; omega
        have HX0 := Lib.hid hx0
        have Q2' := Lib.hid Q2
        clear Q2 Q1 A1 hx0
        generalize (pushS R F x).2.1 = R1 at *
        generalize (pushS R F x).2.2 = F1 at *
        go_wp2_with fail
        clear hlen
        go_loopw [32] (fun i wr => ∃ (j : Nat) (R F : List Int) (g1 g2 : Option Nat), j ≤ 3 ∧ i = .int .i64 j ∧ R.length + F.length ≤ 501 ∧ Hid (inQ R F x = true) ∧ Hid (QSt W wr b R F g1 g2)) (fun i _ => 3 - (intOf i).toNat)
        case atStart => exact ⟨0, R1, F1, k1, k2, by omega, rfl, hl0, HX0, Q2'⟩
        case round =>
          clear HX0 hl0 Q2'
          obtain ⟨j, R, F, g1, g2, hj, rfl, hl0, HX, HQ⟩ := hrel
          by_cases hlt3 : j < 3
          · go_wp2_with fail
            (with_reducible refine (ready_law HQ.out (by omega)).mono ?_)
            rintro e w4 ⟨Ar, cr, rfl, ar, _, q4, _⟩
            have AR := Lib.hid ar
            have Q4 := Lib.hid q4
            clear ar q4 HQ
            go_wp2_with fail
            (with_reducible refine (full_law Q4.out (by omega)).mono ?_)
            rintro e w5 ⟨Af, cf, rfl, af, _, q5, K5, _⟩
            have AF := Lib.hid af
            have Q5 := Lib.hid q5
            clear af q5 Q4
            go_wp2_with fail
            (with_reducible refine (fill_law Q5.out x (by omega)).mono ?_)
            rintro e w6 ⟨rfl, k1, k2, q6, K6⟩
            have AF6 := Lib.hid (AF.out.keep K6)
            have Q6 := Lib.hid q6
            clear q6 AF Q5
            by_cases hx : x ∈ R
            · have he : fillS R F x = (0, R.erase x, F ++ [x]) := by simp [fillS, hx]
              have hle := length_erase_lt hx
              rw [he] at Q6 ⊢
              clear he hx
              have Q6' : Hid (QSt W w6 b (R.erase x) (F ++ [x]) k1 k2) := Q6
              clear Q6
              go_wp2_with fail
              (with_reducible refine (full_law Q6'.out (by simp; omega)).mono ?_)
              rintro e w7 ⟨An, cn, rfl, an, _, q7, K7, hncn⟩
              have e1 : (F ++ [x]).length = F.length + 1 := by simp
              rw [e1] at an hncn ⊢
              obtain ⟨gn, on, xn, rfl, hxn, hcn⟩ := an.get (k := F.length) (by omega)
              have ex : xn = x := by simp at hxn; exact hxn.symm
              subst ex
              have at0 := an.take (k := F.length) (by omega)
              rw [show (F ++ [xn]).take F.length = F by simp] at at0
              have AF7 := Lib.hid (AF6.out.keep K7)
              have AT := Lib.hid at0
              have Q7 := Lib.hid q7
              clear an e1 hxn at0 q7 AF6 Q6' K7
              go_wp2_with fail
              (with_reducible refine (same_law Q7.out AT.out AF7.out (by omega) (by omega)).mono ?_)
              rintro e w8 ⟨rfl, q8, _⟩
              have Q8 := Lib.hid q8
              clear q8 AT AF7 Q7 hcn
              rw [show decide (F = F) = true by simp]
              go_wp2_with fail
              (with_reducible refine (ready_law Q8.out (by omega)).mono ?_)
              rintro e w9 ⟨A9, c9, rfl, _, _, q9, _⟩
              have Q9 := Lib.hid q9
              have hq : (((R.erase xn).length : Int) != (R.length : Int) - 1) = false := by simp; omega
              have HX9 : Hid (inQ (R.erase xn) (F ++ [xn]) xn = true) := by simp [Hid, inQ]
              have hl9 : (R.erase xn).length + (F ++ [xn]).length ≤ 501 := by simp; omega
              clear q9 Q8 HX
              go_wp2_with fail
              go_roundw
              case rel => exact ⟨j + 1, _, _, k1, k2, by omega, by go_num, hl9, HX9, Q9⟩
              case measure => simp [intOf]; omega
            · have he : fillS R F x = (5, R, F) := by simp [fillS, hx]
              have hf0 : x ∈ F := by have h := HX.out; simp [inQ, hx] at h; exact h
              have hle := length_erase_lt hf0
              have hw : wakeS R F x = (0, R ++ [x], F.erase x) := by simp [wakeS, hf0]
              have HW := Lib.hid hw
              rw [he] at Q6 ⊢
              clear he hx hw hf0
              have Q6' : Hid (QSt W w6 b R F k1 k2) := Q6
              have AR6 := Lib.hid (AR.out.keep (K5.trans K6))
              clear Q6 AR
              go_wp2_with fail
              (with_reducible refine (wake_law Q6'.out x (by omega)).mono ?_)
              rintro e w7 ⟨rfl, k1', k2', q7, K7⟩
              rw [HW.out] at q7 ⊢
              have AR7 := Lib.hid (AR6.out.keep K7)
              have Q7 : Hid (QSt W w7 b (R ++ [x]) (F.erase x) k1' k2') := q7
              clear q7 AR6 Q6' K6 K7 K5
              go_wp2_with fail
              (with_reducible refine (ready_law Q7.out (by simp; omega)).mono ?_)
              rintro e w8 ⟨An, cn, rfl, an, _, q8, K8, hncn⟩
              have e1 : (R ++ [x]).length = R.length + 1 := by simp
              rw [e1] at an hncn ⊢
              obtain ⟨gn, on, xn, rfl, hxn, hcn⟩ := an.get (k := R.length) (by omega)
              have ex : xn = x := by simp at hxn; exact hxn.symm
              subst ex
              have at0 := an.take (k := R.length) (by omega)
              rw [show (R ++ [xn]).take R.length = R by simp] at at0
              have AR8 := Lib.hid (AR7.out.keep K8)
              have AT := Lib.hid at0
              have Q8 := Lib.hid q8
              clear an e1 hxn at0 q8 AR7 Q7 K8
              go_wp2_with fail
              (with_reducible refine (same_law Q8.out AT.out AR8.out (by omega) (by omega)).mono ?_)
              rintro e w9 ⟨rfl, q9, _⟩
              have Q9 := Lib.hid q9
              clear q9 AT AR8 Q8 hcn
              rw [show decide (R = R) = true by simp]
              go_wp2_with fail
              (with_reducible refine (full_law Q9.out (by omega)).mono ?_)
              rintro e w10 ⟨A9, c9, rfl, _, _, q10, _⟩
              have Q10 := Lib.hid q10
              have hq : (((F.erase xn).length : Int) != (F.length : Int) - 1) = false := by simp; omega
              have HX9 : Hid (inQ (R ++ [xn]) (F.erase xn) xn = true) := by simp [Hid, inQ]
              have hl9 : (R ++ [xn]).length + (F.erase xn).length ≤ 501 := by simp; omega
              clear q10 Q9 HX
              go_wp2_with fail
              go_roundw
              case rel => exact ⟨j + 1, _, _, k1', k2', by omega, by go_num, hl9, HX9, Q10⟩
              case measure => simp [intOf]; omega
          · obtain rfl : j = 3 := by omega
            go_wp2_with fail
            go_ret
            exact ⟨rfl, HQ.out.below⟩

section
variable {H : Type} {enc : TypeId × Value → H} {W : World} {base : Nat} {args : Array Value} {ds : List (DataW H)} {p : List MemPlace}
set_option maxRecDepth 100000 in
theorem QueueLast_run (hval : ∀ (j : Nat) t v, #[49, 3][j]? = some t → args[j]? = some v → Value.okWide Try.prog W .any base t v)
    (hA : DataW.TrodAll enc Try.prog W 0 (fun _ => true) true [49, 3] args.toList ds p) (hlt : ∀ x ∈ p, x.block < W.heap.size)
    (hsz : (DataW.weightsEach Try.prog [49, 3] ds).all (· ≤ reachBytes) = true) :
    Calls Try.prog 8 args W (TrueBelow W) := by
  obtain ⟨v0, v1, d0, d1, p0, p1, rfl, rfl, rfl, h0, h1⟩ := trodAll_two hA
  obtain ⟨x, rfl, rfl, rfl, _⟩ := open_int Try.underlying3 (hval 1 3 v1 rfl rfl) h1
  obtain ⟨A, n, c, f, rfl, hn, hc, hf⟩ := open_acts11 (hval 0 49 v0 rfl rfl) h0 (fun x hx => hlt x (by simp [hx])) (weighs_of hsz (j := 0) rfl rfl)
  exact last_walk W A n c f x hf hn hc
end
end Go.Proofs.Ytpddlnedaleblaa
