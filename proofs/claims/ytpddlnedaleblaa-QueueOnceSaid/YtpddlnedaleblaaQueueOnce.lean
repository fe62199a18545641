/- QueueOnce, walked: each number is in one row at most, once. -/
import Derived.Test.YtpddlnedaleblaaActs11w
import Derived.Test.YtpddlnedaleblaaMet
import Derived.Test.YtpddlnedaleblaaQueueO
namespace Go.Proofs.Ytpddlnedaleblaa
open Go.ChangeShapes Go.WideShapes Go.RowKit

theorem not_mem_take {l : List Int} (h : l.Nodup) {j : Nat} {y : Int} (hy : l[j]? = some y) (hm : y ∈ l.take j) : False := by
  obtain ⟨hj, e⟩ := List.getElem?_eq_some_iff.1 hy
  rw [← List.take_append_drop j l, List.nodup_append] at h
  have h2 : y ∈ l.drop j := by
    rw [List.drop_eq_getElem_cons hj, e]
    simp
  exact h.2.2 y hm y h2 rfl

theorem QSt.grown {W w w' : World} {b : Nat} {R F : List Int} {k1 k2 : Option Nat} (H : QSt W w b R F k1 k2) {g : Nat} (hg : w.grownBy w' (some g)) (ha : QAp w b k1 k2 g) (hW : W.heap.size ≤ g) : QSt W w' b R F k1 k2 :=
  ⟨H.at_.stays (hg.block b H.at_.r1.lt (fun e => ha.nb (Option.some.inj e).symm)) (fun k e => hg.block k (H.at_.r1.g_lt k e).2 (fun e' => ha.n1 (by rw [e, ← e']))) (fun k e => hg.block k (H.at_.r2.g_lt k e).2 (fun e' => ha.n2 (by rw [e, ← e']))),
    H.below.grown hg H.below.size (fun k e => by injection e with e; omega), H.hb⟩
theorem QAp.grown {w w' : World} {b : Nat} {k1 k2 : Option Nat} {k : Nat} {r : Option Nat} (h : QAp w b k1 k2 k) (hg : w.grownBy w' r) : QAp w' b k1 k2 k := ⟨Nat.lt_of_lt_of_le h.lt hg.size, h.nb, h.n1, h.n2⟩
theorem Arg.grown {w w' : World} {b : Nat} {k1 k2 : Option Nat} {A : Option Addr} {n : Nat} {l : List Int} (h : Arg w b k1 k2 A n l) {g : Nat} (hg : w.grownBy w' (some g)) (hA : ∀ ad, A = some ad → ad.block ≠ g) : Arg w' b k1 k2 A n l :=
  ⟨(IntRow.below0 h.row (fun ad h0 e => hg.block _ (h.ap ad h0 e).2.lt (fun e' => hA ad e (Option.some.inj e')))).more hg.size, fun ad h0 e => ⟨(h.ap ad h0 e).1, (h.ap ad h0 e).2.grown hg⟩⟩

set_option maxRecDepth 100000 in
set_option maxHeartbeats 8000000 in
theorem once_walk (W : World) (A : Option Addr) (n c : Nat) (f : Nat → A11) (x : Int) (hx : Wf x) (hf : Acts11 W A n f) (hw : ActsWf n f) (hn : n ≤ c) (hc : c ≤ maxLen) :
    Calls Try.prog 18 #[.slice A n c, .int .i64 x] W (TrueBelow W) := by
  have HF := Lib.hid hf
  have HWF := Lib.hid hw
  have HG := Lib.hid fun (w : World) (hb : Below W.heap.size W w) => great_any W w A n c f hf hb hn hc
  have hm : c < 9223372036854775808 := by unfold maxLen at hc; omega
  clear hf hc hw
  go_enter Try.func18, Try.ntmps18
  go_wp2_with fail
  (with_reducible refine (alive11 W).mono ?_)
  rintro e w1 ⟨rfl, B1⟩
  go_wp2_with fail
  refine (HG.out w1 B1).mono ?_
  rintro e w2 ⟨g, rfl, hg, B2⟩
  cases g with
  | true =>
    go_wp2_with fail
    go_ret
    exact ⟨rfl, B2⟩
  | false =>
    obtain ⟨hn1, hs1⟩ := hg rfl
    have H0 := QSt.new B2 57
    have HQ := Lib.hid H0
    clear hg H0
    go_wp2_with fail
    obtain ⟨b, hb⟩ : ∃ b, b = w2.heap.size := ⟨_, rfl⟩
    rw [← hb] at HQ ⊢
    clear hb B1 B2
    go_loopw [18] (fun i wr => ∃ (k : Nat) (R F : List Int) (g1 g2 : Option Nat), k ≤ n ∧ i = .int .i64 k ∧ R.length + F.length ≤ sumA f k ∧ Hid (QOnce R F) ∧ Hid (QWf R F) ∧ Hid (QSt W wr b R F g1 g2)) (fun i _ => n - (intOf i).toNat)
    case atStart => exact ⟨0, [], [], none, none, by omega, rfl, by simp, QOnce.nil, QWf.nil, HQ⟩
    case round =>
      clear HQ
      obtain ⟨k, R, F, g1, g2, hk, rfl, hlen, HO, HW, HQ⟩ := hrel
      by_cases hlt : k < n
      · obtain ⟨g, off, rfl, hg, h0', h1', h2', hr, _⟩ := HF.out k hlt
        have haw := Lib.hid (HWF.out k hlt)
        have hs2 : sumA f (k + 1) ≤ 500 := Nat.le_trans (sumA_mono f (by omega)) hs1
        have hnl := hr.row.len
        have hs3 : sumA f (k + 1) = sumA f k + (f k).n := rfl
        have h0 := (HQ.out.below.cell (p := ⟨g, off + k * 3, none⟩) hg).trans h0'
        have h1 := (HQ.out.below.cell (p := ⟨g, off + k * 3 + 1, none⟩) hg).trans h1'
        have h2 := (HQ.out.below.cell (p := ⟨g, off + k * 3 + 2, none⟩) hg).trans h2'
        generalize ha : f k = a at *
        have Q1 := HQ.out.alloc (.cells #[.int .i64 a.k, .int .i64 a.x, .slice a.A a.n a.c] 59)
        have D1 := Lib.hid (HQ.out.fresh (.cells #[.int .i64 a.k, .int .i64 a.x, .slice a.A a.n a.c] 59))
        have A1 := Lib.hid (hr.arg Q1.1)
        have X1 : Hid ((wr.alloc (.cells #[.int .i64 a.k, .int .i64 a.x, .slice a.A a.n a.c] 59)).cell? ⟨wr.heap.size, 1, none⟩ = some (.int .i64 a.x)) := by
          show _ = _
          rw [World.cell?_alloc_new]
          rfl
        have X0 : Hid True := trivial
        have QQ := Lib.hid Q1.1
        have HL := Lib.hid hnl
        clear h0' h1' h2' hr Q1 hnl HQ
        by_cases hk1 : a.k = 1
        · have qk1 : (a.k == 1) = true := by simpa using hk1
          clear hk1
          have HO1 := Lib.hid (HO.out.removes a.l)
          have HW1 := Lib.hid (QWf.steps draws_remove a.l R F HW.out haw.out.2)
          have hlen1 := eachS_len slow_remove a.l R F
          go_wp2_with fail
          clear h0 h1 h2
          have hl9 := HL.out
          (with_reducible refine (remove_law QQ.out A1.out (by omega)).mono ?_)
          rintro e w3 ⟨rfl, k1, k2, Q2, K2⟩
          have hs3 := K2.size
          have Q2' := Lib.hid Q2
          have hl3 : (eachS removeS a.l R F).2.1.length + (eachS removeS a.l R F).2.2.length ≤ sumA f (k + 1) := by omega
          clear Q2 K2 QQ A1 X1 X0 D1 HO HW hlen1 hl9
          generalize (eachS removeS a.l R F).2.1 = R1 at *
          generalize (eachS removeS a.l R F).2.2 = F1 at *
          have Q3 := Lib.hid (Q2'.out.alloc (.map #[] 0)).1
          have M3 : Hid (Met (w3.alloc (.map #[] 0)) w3.heap.size 0 []) := Met.new w3
          have G3 := Lib.hid (Q2'.out.fresh (.map #[] 0))
          have hg3 : W.heap.size ≤ w3.heap.size := Q2'.out.below.size
          obtain ⟨gm, hgm⟩ : ∃ gm, gm = w3.heap.size := ⟨_, rfl⟩
          rw [← hgm] at M3 G3 hg3
          have HGM := Lib.hid hgm
          have hsm : w3.heap.size ≤ (w3.alloc (.map #[] 0)).heap.size := by simp
          clear Q2' hgm
          have hmm := @run_makeMap Try.prog
          go_wp2_with fail
          clear hmm
          rw [← HGM.out]
          (with_reducible refine (all_law Q3.out (by omega) (by omega)).mono ?_)
          rintro e w4 ⟨A4, c4, rfl, a4, o4, q4, K4, hc4⟩
          have M4 := Lib.hid (M3.out.eq (K4.eq _ G3.out))
          have G4 := Lib.hid (K4.ap _ G3.out)
          have N4 : Hid (∀ ad, A4 = some ad → ad.block ≠ gm) := fun ad e h => by have h1 := (o4.lt ad.block (by rw [e]; rfl)).1; have h2 := G3.out.lt; omega
          have e1 : (R1 ++ F1).length = R1.length + F1.length := by simp
          rw [e1] at a4 hc4 ⊢
          have A4' := Lib.hid a4
          have Q4 := Lib.hid q4
          clear a4 o4 q4 K4 M3 G3 Q3 HGM hsm e1
          go_wp2_with fail
          go_loopw [45] (fun i wr => ∃ (j : Nat), j ≤ R1.length + F1.length ∧ i = .int .i64 j ∧ Hid (QSt W wr b R1 F1 k1 k2) ∧ Hid (Arg wr b k1 k2 A4 (R1.length + F1.length) (R1 ++ F1)) ∧ Hid (QAp wr b k1 k2 gm) ∧ Hid (∃ S, Met wr gm j S ∧ ∀ y, y ∈ S ↔ y ∈ (R1 ++ F1).take j)) (fun i _ => R1.length + F1.length - (intOf i).toNat)
          case atStart => exact ⟨0, by omega, rfl, Q4, A4', G4, [], M4.out, by simp⟩
          case round =>
            clear Q4 A4' G4 M4
            obtain ⟨j, hj, rfl, Q4, A4', G4, S, M4, hS⟩ := hrel
            by_cases hlj : j < R1.length + F1.length
            · obtain ⟨gy, oy, y, rfl, hy, hcy⟩ := A4'.out.get hlj
              have HM4 := Lib.hid M4
              have hmem := List.mem_of_getElem? hy
              have hin : Hid (inQ R1 F1 y = true) := by show _ = _; simpa [inQ] using hmem
              have hwy : Hid (Wf y) := HW1.out y (by simpa using hmem)
              have hnS : Hid (decide (y ∈ S) = false) := decide_eq_false fun h => not_mem_take HO1.out.all hy ((hS y).1 h)
              have hS2 : Hid (∀ z, z ∈ y :: S ↔ z ∈ (R1 ++ F1).take (j + 1)) := fun z => by
                rw [List.take_add_one, hy]
                simp [hS z, or_comm]
              obtain ⟨q5, k5, a5⟩ := Q4.out.one y 3
              have Q5 := Lib.hid q5
              have A5 := Lib.hid a5
              have G5 := Lib.hid (k5.ap _ G4.out)
              have M5 := Lib.hid (M4.eq (k5.eq _ G4.out))
              have AR5 := Lib.hid (A4'.out.keep k5)
              clear q5 a5 k5 M4 hS hmem hy Q4 A4' G4
              go_wp2_with (first | (at_lookup; refine wpList_lookup_met _ rfl (.tmp 49) (.tmp 50) rfl gm j S y rfl HM4.out rfl hwy.out ?_; rw [hnS.out]) | fail)
              clear hcy
              (with_reducible refine (has_law Q5.out A5.out (by omega) (by omega) (by omega)).mono ?_)
              rintro e w6 ⟨rfl, q6, k6⟩
              rw [show [y].all (inQ R1 F1) = true by simp [hin.out]]
              have Q6 := Lib.hid q6
              have G6 := Lib.hid (k6.ap _ G5.out)
              have M6 := Lib.hid (M5.out.eq (k6.eq _ G5.out))
              have AR6 := Lib.hid (AR5.out.keep k6)
              clear q6 k6 Q5 A5 G5 M5 AR5 HM4
              go_wp2_with (first | (at_mapUpdate; refine wpList_update_met _ rfl (.tmp 58) (.tmp 59) (.const (.bool true)) rfl gm j S y rfl M6.out (by unfold maxLen; omega) rfl rfl hwy.out ?_; intro w7 hm7 hg7; have M7 := Lib.hid hm7; have Q7 := Lib.hid (Q6.out.grown hg7 G6.out hg3); have G7 := Lib.hid (G6.out.grown hg7); have AR7 := Lib.hid (AR6.out.grown hg7 N4.out); clear hm7 hg7) | fail)
              go_roundw
              case rel => exact ⟨j + 1, by omega, by go_num, Q7, AR7, G7, y :: S, M7.out, hS2.out⟩
              case measure => simp [intOf]; omega
            · obtain rfl : j = R1.length + F1.length := by omega
              go_wp2_with fail
              go_roundw
              case rel => exact ⟨k + 1, R1, F1, k1, k2, by omega, by go_num, hl3, HO1, HW1, Q4⟩
              case measure => simp [intOf]; omega
        · have qk1 : (a.k == 1) = false := by simpa using hk1
          clear hk1
          by_cases hk2 : a.k = 2
          · have qk2 : (a.k == 2) = true := by simpa using hk2
            clear hk2
            have HO1 := Lib.hid (HO.out.fill a.x)
            have HW1 := Lib.hid (QWf.step draws_fill (x := a.x) HW.out haw.out.1)
            have hlen1 := fillS_len R F a.x
            have hx9 := X1.out
            go_wp2_with fail
            clear h0 h1 h2
            (with_reducible refine (fill_law QQ.out a.x (by omega)).mono ?_)
            rintro e w3 ⟨rfl, k1, k2, Q2, K2⟩
            have hs3 := K2.size
            have Q2' := Lib.hid Q2
            have hl3 : (fillS R F a.x).2.1.length + (fillS R F a.x).2.2.length ≤ sumA f (k + 1) := by omega
            clear Q2 K2 QQ A1 X1 X0 D1 HO HW hlen1 hx9
            generalize (fillS R F a.x).2.1 = R1 at *
            generalize (fillS R F a.x).2.2 = F1 at *
            have Q3 := Lib.hid (Q2'.out.alloc (.map #[] 0)).1
            have M3 : Hid (Met (w3.alloc (.map #[] 0)) w3.heap.size 0 []) := Met.new w3
            have G3 := Lib.hid (Q2'.out.fresh (.map #[] 0))
            have hg3 : W.heap.size ≤ w3.heap.size := Q2'.out.below.size
            obtain ⟨gm, hgm⟩ : ∃ gm, gm = w3.heap.size := ⟨_, rfl⟩
            rw [← hgm] at M3 G3 hg3
            have HGM := Lib.hid hgm
            have hsm : w3.heap.size ≤ (w3.alloc (.map #[] 0)).heap.size := by simp
            clear Q2' hgm
            have hmm := @run_makeMap Try.prog
            go_wp2_with fail
            clear hmm
            rw [← HGM.out]
            (with_reducible refine (all_law Q3.out (by omega) (by omega)).mono ?_)
            rintro e w4 ⟨A4, c4, rfl, a4, o4, q4, K4, hc4⟩
            have M4 := Lib.hid (M3.out.eq (K4.eq _ G3.out))
            have G4 := Lib.hid (K4.ap _ G3.out)
            have N4 : Hid (∀ ad, A4 = some ad → ad.block ≠ gm) := fun ad e h => by have h1 := (o4.lt ad.block (by rw [e]; rfl)).1; have h2 := G3.out.lt; omega
            have e1 : (R1 ++ F1).length = R1.length + F1.length := by simp
            rw [e1] at a4 hc4 ⊢
            have A4' := Lib.hid a4
            have Q4 := Lib.hid q4
            clear a4 o4 q4 K4 M3 G3 Q3 HGM hsm e1
            go_wp2_with fail
            go_loopw [45] (fun i wr => ∃ (j : Nat), j ≤ R1.length + F1.length ∧ i = .int .i64 j ∧ Hid (QSt W wr b R1 F1 k1 k2) ∧ Hid (Arg wr b k1 k2 A4 (R1.length + F1.length) (R1 ++ F1)) ∧ Hid (QAp wr b k1 k2 gm) ∧ Hid (∃ S, Met wr gm j S ∧ ∀ y, y ∈ S ↔ y ∈ (R1 ++ F1).take j)) (fun i _ => R1.length + F1.length - (intOf i).toNat)
            case atStart => exact ⟨0, by omega, rfl, Q4, A4', G4, [], M4.out, by simp⟩
            case round =>
              clear Q4 A4' G4 M4
              obtain ⟨j, hj, rfl, Q4, A4', G4, S, M4, hS⟩ := hrel
              by_cases hlj : j < R1.length + F1.length
              · obtain ⟨gy, oy, y, rfl, hy, hcy⟩ := A4'.out.get hlj
                have HM4 := Lib.hid M4
                have hmem := List.mem_of_getElem? hy
                have hin : Hid (inQ R1 F1 y = true) := by show _ = _; simpa [inQ] using hmem
                have hwy : Hid (Wf y) := HW1.out y (by simpa using hmem)
                have hnS : Hid (decide (y ∈ S) = false) := decide_eq_false fun h => not_mem_take HO1.out.all hy ((hS y).1 h)
                have hS2 : Hid (∀ z, z ∈ y :: S ↔ z ∈ (R1 ++ F1).take (j + 1)) := fun z => by
                  rw [List.take_add_one, hy]
                  simp [hS z, or_comm]
                obtain ⟨q5, k5, a5⟩ := Q4.out.one y 3
                have Q5 := Lib.hid q5
                have A5 := Lib.hid a5
                have G5 := Lib.hid (k5.ap _ G4.out)
                have M5 := Lib.hid (M4.eq (k5.eq _ G4.out))
                have AR5 := Lib.hid (A4'.out.keep k5)
                clear q5 a5 k5 M4 hS hmem hy Q4 A4' G4
                go_wp2_with (first | (at_lookup; refine wpList_lookup_met _ rfl (.tmp 49) (.tmp 50) rfl gm j S y rfl HM4.out rfl hwy.out ?_; rw [hnS.out]) | fail)
                clear hcy
                (with_reducible refine (has_law Q5.out A5.out (by omega) (by omega) (by omega)).mono ?_)
                rintro e w6 ⟨rfl, q6, k6⟩
                rw [show [y].all (inQ R1 F1) = true by simp [hin.out]]
                have Q6 := Lib.hid q6
                have G6 := Lib.hid (k6.ap _ G5.out)
                have M6 := Lib.hid (M5.out.eq (k6.eq _ G5.out))
                have AR6 := Lib.hid (AR5.out.keep k6)
                clear q6 k6 Q5 A5 G5 M5 AR5 HM4
                go_wp2_with (first | (at_mapUpdate; refine wpList_update_met _ rfl (.tmp 58) (.tmp 59) (.const (.bool true)) rfl gm j S y rfl M6.out (by unfold maxLen; omega) rfl rfl hwy.out ?_; intro w7 hm7 hg7; have M7 := Lib.hid hm7; have Q7 := Lib.hid (Q6.out.grown hg7 G6.out hg3); have G7 := Lib.hid (G6.out.grown hg7); have AR7 := Lib.hid (AR6.out.grown hg7 N4.out); clear hm7 hg7) | fail)
                go_roundw
                case rel => exact ⟨j + 1, by omega, by go_num, Q7, AR7, G7, y :: S, M7.out, hS2.out⟩
                case measure => simp [intOf]; omega
              · obtain rfl : j = R1.length + F1.length := by omega
                go_wp2_with fail
                go_roundw
                case rel => exact ⟨k + 1, R1, F1, k1, k2, by omega, by go_num, hl3, HO1, HW1, Q4⟩
                case measure => simp [intOf]; omega
          · have qk2 : (a.k == 2) = false := by simpa using hk2
            clear hk2
            by_cases hk3 : a.k = 3
            · have qk3 : (a.k == 3) = true := by simpa using hk3
              clear hk3
              have HO1 := Lib.hid (HO.out.wake a.x)
              have HW1 := Lib.hid (QWf.step draws_wake (x := a.x) HW.out haw.out.1)
              have hlen1 := wakeS_len R F a.x
              have hx9 := X1.out
              go_wp2_with fail
              clear h0 h1 h2
              (with_reducible refine (wake_law QQ.out a.x (by omega)).mono ?_)
              rintro e w3 ⟨rfl, k1, k2, Q2, K2⟩
              have hs3 := K2.size
              have Q2' := Lib.hid Q2
              have hl3 : (wakeS R F a.x).2.1.length + (wakeS R F a.x).2.2.length ≤ sumA f (k + 1) := by omega
              clear Q2 K2 QQ A1 X1 X0 D1 HO HW hlen1 hx9
              generalize (wakeS R F a.x).2.1 = R1 at *
              generalize (wakeS R F a.x).2.2 = F1 at *
              have Q3 := Lib.hid (Q2'.out.alloc (.map #[] 0)).1
              have M3 : Hid (Met (w3.alloc (.map #[] 0)) w3.heap.size 0 []) := Met.new w3
              have G3 := Lib.hid (Q2'.out.fresh (.map #[] 0))
              have hg3 : W.heap.size ≤ w3.heap.size := Q2'.out.below.size
              obtain ⟨gm, hgm⟩ : ∃ gm, gm = w3.heap.size := ⟨_, rfl⟩
              rw [← hgm] at M3 G3 hg3
              have HGM := Lib.hid hgm
              have hsm : w3.heap.size ≤ (w3.alloc (.map #[] 0)).heap.size := by simp
              clear Q2' hgm
              have hmm := @run_makeMap Try.prog
              go_wp2_with fail
              clear hmm
              rw [← HGM.out]
              (with_reducible refine (all_law Q3.out (by omega) (by omega)).mono ?_)
              rintro e w4 ⟨A4, c4, rfl, a4, o4, q4, K4, hc4⟩
              have M4 := Lib.hid (M3.out.eq (K4.eq _ G3.out))
              have G4 := Lib.hid (K4.ap _ G3.out)
              have N4 : Hid (∀ ad, A4 = some ad → ad.block ≠ gm) := fun ad e h => by have h1 := (o4.lt ad.block (by rw [e]; rfl)).1; have h2 := G3.out.lt; omega
              have e1 : (R1 ++ F1).length = R1.length + F1.length := by simp
              rw [e1] at a4 hc4 ⊢
              have A4' := Lib.hid a4
              have Q4 := Lib.hid q4
              clear a4 o4 q4 K4 M3 G3 Q3 HGM hsm e1
              go_wp2_with fail
              go_loopw [45] (fun i wr => ∃ (j : Nat), j ≤ R1.length + F1.length ∧ i = .int .i64 j ∧ Hid (QSt W wr b R1 F1 k1 k2) ∧ Hid (Arg wr b k1 k2 A4 (R1.length + F1.length) (R1 ++ F1)) ∧ Hid (QAp wr b k1 k2 gm) ∧ Hid (∃ S, Met wr gm j S ∧ ∀ y, y ∈ S ↔ y ∈ (R1 ++ F1).take j)) (fun i _ => R1.length + F1.length - (intOf i).toNat)
              case atStart => exact ⟨0, by omega, rfl, Q4, A4', G4, [], M4.out, by simp⟩
              case round =>
                clear Q4 A4' G4 M4
                obtain ⟨j, hj, rfl, Q4, A4', G4, S, M4, hS⟩ := hrel
                by_cases hlj : j < R1.length + F1.length
                · obtain ⟨gy, oy, y, rfl, hy, hcy⟩ := A4'.out.get hlj
                  have HM4 := Lib.hid M4
                  have hmem := List.mem_of_getElem? hy
                  have hin : Hid (inQ R1 F1 y = true) := by show _ = _; simpa [inQ] using hmem
                  have hwy : Hid (Wf y) := HW1.out y (by simpa using hmem)
                  have hnS : Hid (decide (y ∈ S) = false) := decide_eq_false fun h => not_mem_take HO1.out.all hy ((hS y).1 h)
                  have hS2 : Hid (∀ z, z ∈ y :: S ↔ z ∈ (R1 ++ F1).take (j + 1)) := fun z => by
                    rw [List.take_add_one, hy]
                    simp [hS z, or_comm]
                  obtain ⟨q5, k5, a5⟩ := Q4.out.one y 3
                  have Q5 := Lib.hid q5
                  have A5 := Lib.hid a5
                  have G5 := Lib.hid (k5.ap _ G4.out)
                  have M5 := Lib.hid (M4.eq (k5.eq _ G4.out))
                  have AR5 := Lib.hid (A4'.out.keep k5)
                  clear q5 a5 k5 M4 hS hmem hy Q4 A4' G4
                  go_wp2_with (first | (at_lookup; refine wpList_lookup_met _ rfl (.tmp 49) (.tmp 50) rfl gm j S y rfl HM4.out rfl hwy.out ?_; rw [hnS.out]) | fail)
                  clear hcy
                  (with_reducible refine (has_law Q5.out A5.out (by omega) (by omega) (by omega)).mono ?_)
                  rintro e w6 ⟨rfl, q6, k6⟩
                  rw [show [y].all (inQ R1 F1) = true by simp [hin.out]]
                  have Q6 := Lib.hid q6
                  have G6 := Lib.hid (k6.ap _ G5.out)
                  have M6 := Lib.hid (M5.out.eq (k6.eq _ G5.out))
                  have AR6 := Lib.hid (AR5.out.keep k6)
                  clear q6 k6 Q5 A5 G5 M5 AR5 HM4
                  go_wp2_with (first | (at_mapUpdate; refine wpList_update_met _ rfl (.tmp 58) (.tmp 59) (.const (.bool true)) rfl gm j S y rfl M6.out (by unfold maxLen; omega) rfl rfl hwy.out ?_; intro w7 hm7 hg7; have M7 := Lib.hid hm7; have Q7 := Lib.hid (Q6.out.grown hg7 G6.out hg3); have G7 := Lib.hid (G6.out.grown hg7); have AR7 := Lib.hid (AR6.out.grown hg7 N4.out); clear hm7 hg7) | fail)
                  go_roundw
                  case rel => exact ⟨j + 1, by omega, by go_num, Q7, AR7, G7, y :: S, M7.out, hS2.out⟩
                  case measure => simp [intOf]; omega
                · obtain rfl : j = R1.length + F1.length := by omega
                  go_wp2_with fail
                  go_roundw
                  case rel => exact ⟨k + 1, R1, F1, k1, k2, by omega, by go_num, hl3, HO1, HW1, Q4⟩
                  case measure => simp [intOf]; omega
            · have qk3 : (a.k == 3) = false := by simpa using hk3
              clear hk3
              have HO1 := Lib.hid (HO.out.pushes a.l)
              have HW1 := Lib.hid (QWf.steps draws_push a.l R F HW.out haw.out.2)
              have hlen1 := eachS_len slow_push a.l R F
              go_wp2_with fail
              clear h0 h1 h2
              have hl9 := HL.out
              (with_reducible refine (push_law QQ.out A1.out (by omega)).mono ?_)
              rintro e w3 ⟨rfl, k1, k2, Q2, K2⟩
              have hs3 := K2.size
              have Q2' := Lib.hid Q2
              have hl3 : (eachS pushS a.l R F).2.1.length + (eachS pushS a.l R F).2.2.length ≤ sumA f (k + 1) := by omega
              clear Q2 K2 QQ A1 X1 X0 D1 HO HW hlen1 hl9
              generalize (eachS pushS a.l R F).2.1 = R1 at *
              generalize (eachS pushS a.l R F).2.2 = F1 at *
              have Q3 := Lib.hid (Q2'.out.alloc (.map #[] 0)).1
              have M3 : Hid (Met (w3.alloc (.map #[] 0)) w3.heap.size 0 []) := Met.new w3
              have G3 := Lib.hid (Q2'.out.fresh (.map #[] 0))
              have hg3 : W.heap.size ≤ w3.heap.size := Q2'.out.below.size
              obtain ⟨gm, hgm⟩ : ∃ gm, gm = w3.heap.size := ⟨_, rfl⟩
              rw [← hgm] at M3 G3 hg3
              have HGM := Lib.hid hgm
              have hsm : w3.heap.size ≤ (w3.alloc (.map #[] 0)).heap.size := by simp
              clear Q2' hgm
              have hmm := @run_makeMap Try.prog
              go_wp2_with fail
              clear hmm
              rw [← HGM.out]
              (with_reducible refine (all_law Q3.out (by omega) (by omega)).mono ?_)
              rintro e w4 ⟨A4, c4, rfl, a4, o4, q4, K4, hc4⟩
              have M4 := Lib.hid (M3.out.eq (K4.eq _ G3.out))
              have G4 := Lib.hid (K4.ap _ G3.out)
              have N4 : Hid (∀ ad, A4 = some ad → ad.block ≠ gm) := fun ad e h => by have h1 := (o4.lt ad.block (by rw [e]; rfl)).1; have h2 := G3.out.lt; omega
              have e1 : (R1 ++ F1).length = R1.length + F1.length := by simp
              rw [e1] at a4 hc4 ⊢
              have A4' := Lib.hid a4
              have Q4 := Lib.hid q4
              clear a4 o4 q4 K4 M3 G3 Q3 HGM hsm e1
              go_wp2_with fail
              go_loopw [45] (fun i wr => ∃ (j : Nat), j ≤ R1.length + F1.length ∧ i = .int .i64 j ∧ Hid (QSt W wr b R1 F1 k1 k2) ∧ Hid (Arg wr b k1 k2 A4 (R1.length + F1.length) (R1 ++ F1)) ∧ Hid (QAp wr b k1 k2 gm) ∧ Hid (∃ S, Met wr gm j S ∧ ∀ y, y ∈ S ↔ y ∈ (R1 ++ F1).take j)) (fun i _ => R1.length + F1.length - (intOf i).toNat)
              case atStart => exact ⟨0, by omega, rfl, Q4, A4', G4, [], M4.out, by simp⟩
              case round =>
                clear Q4 A4' G4 M4
                obtain ⟨j, hj, rfl, Q4, A4', G4, S, M4, hS⟩ := hrel
                by_cases hlj : j < R1.length + F1.length
                · obtain ⟨gy, oy, y, rfl, hy, hcy⟩ := A4'.out.get hlj
                  have HM4 := Lib.hid M4
                  have hmem := List.mem_of_getElem? hy
                  have hin : Hid (inQ R1 F1 y = true) := by show _ = _; simpa [inQ] using hmem
                  have hwy : Hid (Wf y) := HW1.out y (by simpa using hmem)
                  have hnS : Hid (decide (y ∈ S) = false) := decide_eq_false fun h => not_mem_take HO1.out.all hy ((hS y).1 h)
                  have hS2 : Hid (∀ z, z ∈ y :: S ↔ z ∈ (R1 ++ F1).take (j + 1)) := fun z => by
                    rw [List.take_add_one, hy]
                    simp [hS z, or_comm]
                  obtain ⟨q5, k5, a5⟩ := Q4.out.one y 3
                  have Q5 := Lib.hid q5
                  have A5 := Lib.hid a5
                  have G5 := Lib.hid (k5.ap _ G4.out)
                  have M5 := Lib.hid (M4.eq (k5.eq _ G4.out))
                  have AR5 := Lib.hid (A4'.out.keep k5)
                  clear q5 a5 k5 M4 hS hmem hy Q4 A4' G4
                  go_wp2_with (first | (at_lookup; refine wpList_lookup_met _ rfl (.tmp 49) (.tmp 50) rfl gm j S y rfl HM4.out rfl hwy.out ?_; rw [hnS.out]) | fail)
                  clear hcy
                  (with_reducible refine (has_law Q5.out A5.out (by omega) (by omega) (by omega)).mono ?_)
                  rintro e w6 ⟨rfl, q6, k6⟩
                  rw [show [y].all (inQ R1 F1) = true by simp [hin.out]]
                  have Q6 := Lib.hid q6
                  have G6 := Lib.hid (k6.ap _ G5.out)
                  have M6 := Lib.hid (M5.out.eq (k6.eq _ G5.out))
                  have AR6 := Lib.hid (AR5.out.keep k6)
                  clear q6 k6 Q5 A5 G5 M5 AR5 HM4
                  go_wp2_with (first | (at_mapUpdate; refine wpList_update_met _ rfl (.tmp 58) (.tmp 59) (.const (.bool true)) rfl gm j S y rfl M6.out (by unfold maxLen; omega) rfl rfl hwy.out ?_; intro w7 hm7 hg7; have M7 := Lib.hid hm7; have Q7 := Lib.hid (Q6.out.grown hg7 G6.out hg3); have G7 := Lib.hid (G6.out.grown hg7); have AR7 := Lib.hid (AR6.out.grown hg7 N4.out); clear hm7 hg7) | fail)
                  go_roundw
                  case rel => exact ⟨j + 1, by omega, by go_num, Q7, AR7, G7, y :: S, M7.out, hS2.out⟩
                  case measure => simp [intOf]; omega
                · obtain rfl : j = R1.length + F1.length := by omega
                  go_wp2_with fail
                  go_roundw
                  case rel => exact ⟨k + 1, R1, F1, k1, k2, by omega, by go_num, hl3, HO1, HW1, Q4⟩
                  case measure => simp [intOf]; omega
      · obtain rfl : k = n := by omega
        go_wp2_with fail
        (with_reducible refine (all_law HQ.out (by omega) (by omega)).mono ?_)
        rintro e w4 ⟨A4, c4, rfl, _, _, q4, _⟩
        obtain ⟨q5, _, a5⟩ := q4.one x 3
        have Q5 := Lib.hid q5
        have A5 := Lib.hid a5
        have e1 : (R ++ F).length = R.length + F.length := by simp
        rw [e1]
        clear q4 q5 a5 HQ e1
        go_wp2_with fail
        (with_reducible refine (has_law Q5.out A5.out (by omega) (by omega) (by omega)).mono ?_)
        rintro e w6 ⟨rfl, q6, _⟩
        rw [show [x].all (inQ R F) = inQ R F x by simp]
        obtain ⟨q7, _, a7⟩ := q6.one x 3
        have Q7 := Lib.hid q7
        have A7 := Lib.hid a7
        clear q6 q7 a7 Q5 A5
        cases hq : inQ R F x with
        | true =>
          have hp : Hid (pushS R F x = (6, R, F)) := by show _ = _; simp [pushS, hq]
          have hr : Hid (∃ R1 F1, removeS R F x = (0, R1, F1) ∧ inQ R1 F1 x = false ∧ R1.length + F1.length + 1 = R.length + F.length) := by
            simp [inQ] at hq
            by_cases h1 : x ∈ R
            · have h2 : x ∉ F := fun h => HO.out.apart x h1 h
              have h3 : x ∉ R.erase x := fun h => (HO.out.r.mem_erase_iff.1 h).1 rfl
              exact ⟨R.erase x, F, by simp [removeS, h1], by simp [inQ, h2, h3], by have := length_erase_lt h1; omega⟩
            · have h2 : x ∈ F := by simpa [h1] using hq
              have h3 : x ∉ F.erase x := fun h => (HO.out.f.mem_erase_iff.1 h).1 rfl
              exact ⟨R, F.erase x, by simp [removeS, h1, h2], by simp [inQ, h1, h3], by have := length_erase_lt h2; omega⟩
          obtain ⟨R1, F1, hr1, hi1, hl1⟩ := hr
          have HR1 := Lib.hid hr1
          have HI1 := Lib.hid hi1
          have HP1 : Hid (pushS R1 F1 x = (0, R1 ++ [x], F1)) := by show _ = _; simp [pushS, hi1]
          clear hr1 hi1 hq
          go_wp2_with fail
          (with_reducible refine (push_law Q7.out A7.out (by omega)).mono ?_)
          rintro e w8 ⟨rfl, k3, k4, q8, _⟩
          rw [eachS_one, hp.out] at q8 ⊢
          have Q8 : Hid (QSt W w8 b R F k3 k4) := q8
          clear q8 Q7 A7
          go_wp2_with fail
          (with_reducible refine (all_law Q8.out (by omega) (by omega)).mono ?_)
          rintro e w9 ⟨A9, c9, rfl, _, _, q9, _⟩
          obtain ⟨q10, _, a10⟩ := q9.one x 3
          have Q10 := Lib.hid q10
          have A10 := Lib.hid a10
          have e1 : (R ++ F).length = R.length + F.length := by simp
          rw [e1]
          clear q9 q10 a10 Q8 e1
          go_wp2_with fail
          (with_reducible refine (remove_law Q10.out A10.out (by omega)).mono ?_)
          rintro e w11 ⟨rfl, k5, k6, q11, _⟩
          rw [eachS_one, HR1.out] at q11 ⊢
          have q11' : QSt W w11 b R1 F1 k5 k6 := q11
          obtain ⟨q12, _, a12⟩ := q11'.one x 3
          have Q12 := Lib.hid q12
          have A12 := Lib.hid a12
          clear q11 q11' q12 a12 Q10 A10
          go_wp2_with fail
          (with_reducible refine (has_law Q12.out A12.out (by omega) (by omega) (by omega)).mono ?_)
          rintro e w13 ⟨rfl, q13, _⟩
          rw [show [x].all (inQ R1 F1) = false by simp [HI1.out]]
          obtain ⟨q14, _, a14⟩ := q13.one x 3
          have Q14 := Lib.hid q14
          have A14 := Lib.hid a14
          clear q13 q14 a14 Q12 A12
          go_wp2_with fail
          (with_reducible refine (push_law Q14.out A14.out (by omega)).mono ?_)
          rintro e w15 ⟨rfl, k7, k8, q15, _⟩
          rw [eachS_one, HP1.out] at q15 ⊢
          have Q15 : Hid (QSt W w15 b (R1 ++ [x]) F1 k7 k8) := q15
          clear q15 Q14 A14
          go_wp2_with fail
          (with_reducible refine (all_law Q15.out (by simp; omega) (by omega)).mono ?_)
          rintro e w16 ⟨A16, c16, rfl, _, _, q16, _⟩
          have B16 := Lib.hid q16.below
          have e1 : ((R1 ++ [x]) ++ F1).length = R.length + F.length := by simp; omega
          rw [e1]
          clear q16 Q15 e1
          go_wp2_with fail
          go_ret
          exact ⟨rfl, B16.out⟩
        | false =>
          have hr1 : removeS R F x = (5, R, F) := by simp [inQ] at hq; simp [removeS, hq.1, hq.2]
          have HR1 := Lib.hid hr1
          have HP1 : Hid (pushS R F x = (0, R ++ [x], F)) := by show _ = _; simp [pushS, hq]
          clear hr1 hq
          go_wp2_with fail
          (with_reducible refine (remove_law Q7.out A7.out (by omega)).mono ?_)
          rintro e w8 ⟨rfl, k3, k4, q8, _⟩
          rw [eachS_one, HR1.out] at q8 ⊢
          have q8' : QSt W w8 b R F k3 k4 := q8
          obtain ⟨q9, _, a9⟩ := q8'.one x 3
          have Q9 := Lib.hid q9
          have A9 := Lib.hid a9
          clear q8 q8' q9 a9 Q7 A7
          go_wp2_with fail
          (with_reducible refine (push_law Q9.out A9.out (by omega)).mono ?_)
          rintro e w10 ⟨rfl, k5, k6, q10, _⟩
          rw [eachS_one, HP1.out] at q10 ⊢
          have q10' : QSt W w10 b (R ++ [x]) F k5 k6 := q10
          obtain ⟨q11, _, a11⟩ := q10'.one x 3
          have Q11 := Lib.hid q11
          have A11 := Lib.hid a11
          clear q10 q10' q11 a11 Q9 A9
          go_wp2_with fail
          (with_reducible refine (has_law Q11.out A11.out (by simp; omega) (by omega) (by omega)).mono ?_)
          rintro e w12 ⟨rfl, q12, _⟩
          rw [show [x].all (inQ (R ++ [x]) F) = true by simp [inQ]]
          have Q12 := Lib.hid q12
          clear q12 Q11 A11
          go_wp2_with fail
          (with_reducible refine (all_law Q12.out (by simp; omega) (by omega)).mono ?_)
          rintro e w13 ⟨A13, c13, rfl, _, _, q13, _⟩
          have B13 := Lib.hid q13.below
          have e1 : ((R ++ [x]) ++ F).length = R.length + F.length + 1 := by simp; omega
          rw [e1]
          clear q13 Q12 e1
          go_wp2_with fail
          go_ret
          exact ⟨rfl, B13.out⟩

section
variable {H : Type} {enc : TypeId × Value → H} {W : World} {base : Nat} {args : Array Value} {ds : List (DataW H)} {p : List MemPlace}
set_option maxRecDepth 100000 in
theorem QueueOnce_run (hval : ∀ (j : Nat) t v, #[49, 3][j]? = some t → args[j]? = some v → Value.okWide Try.prog W .any base t v)
    (hA : DataW.TrodAll enc Try.prog W 0 (fun _ => true) true [49, 3] args.toList ds p) (hlt : ∀ x ∈ p, x.block < W.heap.size)
    (hsz : (DataW.weightsEach Try.prog [49, 3] ds).all (· ≤ reachBytes) = true) :
    Calls Try.prog 18 args W (TrueBelow W) := by
  obtain ⟨v0, v1, d0, d1, p0, p1, rfl, rfl, rfl, h0, h1⟩ := trodAll_two hA
  obtain ⟨x, rfl, rfl, rfl, wfx⟩ := open_int Try.underlying3 (hval 1 3 v1 rfl rfl) h1
  obtain ⟨A, n, c, f, rfl, hn, hc, hf, hw⟩ := open_acts11W (hval 0 49 v0 rfl rfl) h0 (fun x hx => hlt x (by simp [hx])) (weighs_of hsz (j := 0) rfl rfl)
  exact once_walk W A n c f x wfx hf hw hn hc
end
end Go.Proofs.Ytpddlnedaleblaa
