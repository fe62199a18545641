/- StackTwice, walked. -/
import Derived.Test.YtpddlnedaleblaaBytes
namespace Go.Proofs.Ytpddlnedaleblaa
open Go.ChangeShapes Go.WideShapes Go.RowKit

set_option maxRecDepth 100000 in
set_option maxHeartbeats 4000000 in
theorem twice_walk (W : World) (A : Option Addr) (n c : Nat) (f : Nat → Nat) (hf : Bytes W A n f) (hn : n ≤ c) (hc : c ≤ maxLen) :
    Calls Try.prog 15 #[.slice A n c] W (TrueBelow W) := by
  have HF := Lib.hid hf
  have hm : c < 9223372036854775808 := by unfold maxLen at hc; omega
  clear hf hc
  go_enter Try.func15, Try.ntmps15
  go_wp2_with fail
  (with_reducible refine (alive13 W).mono ?_)
  rintro e w1 ⟨rfl, B1⟩
  by_cases hbig : 64 < n
  · go_wp2_with fail
    go_ret
    exact ⟨rfl, B1⟩
  · have s0 := SSt.new B1
    have O0 := Lib.hid (SSt.new s0.below)
    have S0 := Lib.hid (s0.of_below ((Below.refl _ _).alloc (Nat.le_refl _) (.cells Try.zeroCells71 71)))
    clear s0 B1
    go_wp2_with fail
    have hsz : (w1.alloc (Obj.cells Try.zeroCells71 71)).heap.size = w1.heap.size + 1 := by simp
    obtain ⟨b, hb⟩ : ∃ b, b = w1.heap.size := ⟨_, rfl⟩
    obtain ⟨b2, hb2⟩ : ∃ b2, b2 = w1.heap.size + 1 := ⟨_, rfl⟩
    rw [hsz, ← hb2] at O0
    rw [← hb] at S0
    rw [← hb2, ← hb]
    have hbb : b2 ≠ b := by omega
    clear hb hb2 hsz
    go_loopw [24] (fun i wr => ∃ (k : Nat) (s : Stk), k ≤ n ∧ i = .int .i64 k ∧ 0 ≤ s.n ∧ s.n ≤ 2 * k ∧ 0 ≤ s.t ∧ s.t ≤ k ∧ Hid (SSt W wr b s) ∧ Hid (SSt W wr b2 ⟨[], 0, 0⟩)) (fun i _ => n - (intOf i).toNat)
    case atStart => exact ⟨0, ⟨[], 0, 0⟩, by omega, rfl, by decide, by decide, by decide, by decide, S0, O0⟩
    case round =>
      clear S0 O0
      obtain ⟨k, s, hk, rfl, n0, n1, t0, t1, HS, HO⟩ := hrel
      by_cases hlt : k < n
      · obtain ⟨g, off, rfl, hg, hx, h0'⟩ := HF.out k hlt
        have h0 := (HS.out.below.cell (p := ⟨g, off + k, none⟩) hg).trans h0'
        have hp := mod64 (f k) hx
        generalize f k = x at *
        clear h0'
        go_wp2_with fail
        clear h0
        (with_reducible refine (pushL HS.out ((x : Int) % 64) hp).mono ?_)
        rintro e w2 ⟨m, rfl, hm0, hmm, hwm, s1, m1, b1⟩
        have HM0 := Lib.hid hm0
        have S1 := Lib.hid s1
        have M1 := Lib.hid m1
        have K1 := Lib.hid (SKeep.of_below (b := b) (m := m) b1)
        have L1 := Lib.hid (push_lone hp HS.out.n_of n0 (by omega) t0 (by omega))
        clear s1 m1 b1 HS hm0
        go_wp2_with fail
        go_loopw [36] (fun _ wl => ∃ (v : Mv) (u : Stk), Hid (Lone v u (pushEnd ((x : Int) % 64) s) (pushed ((x : Int) % 64) s)) ∧ Hid (SSt W wl b u) ∧ Hid (MoveAt wl m b 0 v) ∧ Hid (SKeep wr wl b m)) (fun _ wl => moveLeft b m wl)
        case atStart => exact ⟨_, _, L1, S1, M1, K1⟩
        case round =>
          clear S1 M1 K1 L1
          obtain ⟨v, u, HL, HU, HM, HK⟩ := hrel
          cases hov : v.over with
          | false =>
            have HOV := Lib.hid hov
            clear hov
            go_wp2_with fail
            (with_reducible refine (step_law HU.out HM.out hmm hwm HL.out.ok HL.out.bd.n0 (by have := HL.out.bd.n1; omega) HL.out.bd.t0 (by have := HL.out.bd.t1; omega)).mono ?_)
            rintro e wq ⟨rfl, sq, mq, oq⟩
            rw [step_true HOV.out]
            have HMS := Lib.hid (moveLeft_lt HU.out HM.out sq mq HOV.out HL.out.bd)
            have SQ := Lib.hid sq
            have MQ := Lib.hid mq
            have KQ := Lib.hid (HK.out.trans oq.keep)
            have LQ := Lib.hid (HL.out.next HOV.out)
            clear sq mq oq HU HM HK HL
            go_wp2_with fail
            go_roundw
            case rel => exact ⟨_, _, LQ, SQ, MQ, KQ⟩
            case measure => exact HMS.out
          | true =>
            have HOV := Lib.hid hov
            clear hov
            go_wp2_with fail
            (with_reducible refine (step_law HU.out HM.out hmm hwm HL.out.ok HL.out.bd.n0 (by have := HL.out.bd.n1; omega) HL.out.bd.t0 (by have := HL.out.bd.t1; omega)).mono ?_)
            rintro e wq1 ⟨rfl, sq, mq, oq⟩
            rw [step_end v u HOV.out] at sq mq ⊢
            have S1x := Lib.hid sq
            have M1x := Lib.hid mq
            have K1x := Lib.hid (HK.out.trans oq.keep)
            obtain ⟨ev, eu⟩ := HL.out.done HOV.out
            subst ev eu
            clear sq mq oq HU HM HK HL HOV
            have HO1 := Lib.hid (HO.out.keep S1x.out K1x.out hbb (by have := HO.out.lt; have := HM0.out; omega))
            have hn : (pushed ((x : Int) % 64) s).n ≤ s.n + 2 ∧ s.n ≤ (pushed ((x : Int) % 64) s).n ∧ (pushed ((x : Int) % 64) s).t ≤ s.t + 1 ∧ s.t ≤ (pushed ((x : Int) % 64) s).t := by unfold pushed; split <;> simp <;> omega
            clear HO
            go_wp2_with fail
            go_roundw
            case rel => exact ⟨k + 1, _, by omega, by go_num, by omega, by omega, by omega, by omega, S1x, HO1⟩
            case measure => simp [intOf]; omega
      · obtain rfl : k = n := by omega
        have hl64 : s.L.length ≤ 64 := StackAt.len (L := s.L) (t := s.t) (n := s.n) HS.out.at_
        go_wp2_with fail
        (with_reducible refine (cell_ptr _ b 0).mono ?_)
        rintro e w2 ⟨rfl, rfl⟩
        go_wp2_with fail
        (with_reducible refine (asked_law HS.out n0 (by omega) _).mono ?_)
        rintro e w3 ⟨rfl, s3, b3⟩
        have S3 := Lib.hid s3
        have O3 := Lib.hid (HO.out.of_below b3)
        clear s3 b3 HS HO
        go_wp2_with fail
        (with_reducible refine (all_of S3.out).mono ?_)
        rintro e w4 ⟨Aa, ca, rfl, s4, b4, r4, _⟩
        have S4 := Lib.hid s4
        have R4 := Lib.hid r4
        have O4 := Lib.hid (O3.out.of_below b4)
        clear s4 r4 b4 S3 O3
        go_wp2_with fail
        (with_reducible refine (cell_ptr _ b 0).mono ?_)
        rintro e w5 ⟨rfl, rfl⟩
        go_wp2_with fail
        (with_reducible refine (asked_law S4.out n0 (by omega) _).mono ?_)
        rintro e w6 ⟨rfl, s6, b6⟩
        have S6 := Lib.hid s6
        have O6 := Lib.hid (O4.out.of_below b6)
        have R6 := Lib.hid (R4.out.below b6)
        have q6 : (s.n != s.n) = false := by simp
        clear s6 b6 S4 O4 R4
        go_wp2_with fail
        (with_reducible refine (all_of O6.out).mono ?_)
        rintro e w7 ⟨Ao, co, rfl, o7, b7, _, _⟩
        have O7 := Lib.hid o7
        have S7 := Lib.hid (S6.out.of_below b7)
        have R7 := Lib.hid (R6.out.below b7)
        rw [show (⟨[], 0, 0⟩ : Stk).L.length = 0 from rfl]
        clear o7 b7 S6 O6 R6
        go_wp2_with fail
        (with_reducible refine (cell_ptr _ b2 0).mono ?_)
        rintro e w8 ⟨rfl, rfl⟩
        go_wp2_with fail
        (with_reducible refine (asked_law O7.out (by decide) (by decide) _).mono ?_)
        rintro e w9 ⟨rfl, _, b9⟩
        have S9 := Lib.hid (S7.out.of_below b9)
        have R9 := Lib.hid (R7.out.below b9)
        rw [show (⟨[], 0, 0⟩ : Stk).n = 0 from rfl]
        obtain ⟨L, t, n'⟩ := s
        simp only at n0 n1 t0 t1 hl64 ⊢
        clear b9 S7 O7 R7 q6
        go_wp2_with fail
        go_loopw [60] (fun i wr => ∃ j : Nat, j ≤ L.length ∧ i = .int .i64 j ∧ Hid (SSt W wr b ⟨L, t, n' + j⟩) ∧ Hid (SArg wr b Aa L.length L)) (fun i _ => L.length - (intOf i).toNat)
        case atStart => exact ⟨0, by omega, rfl, by have := S9.out; rw [show n' + ((0 : Nat) : Int) = n' by omega]; exact this, R9⟩
        case round =>
          clear S9 R9
          obtain ⟨j, hj, rfl, HS, HR⟩ := hrel
          by_cases hjt : j < L.length
          · obtain ⟨g, off, x, rfl, hx, hc⟩ := HR.out.get hjt
            have hxL : x ∈ L := List.mem_of_getElem? hx
            have hxb := HS.out.n_of x hxL
            obtain ⟨q, rfl⟩ : ∃ q : Nat, x = (q : Int) := ⟨x.toNat, by omega⟩
            have hq64 : q < 64 := by omega
            have HX := Lib.hid hxL
            have hh := hd_bd HS.out.n_of
            have hc0 : wr.cell? ⟨g, off, none⟩ = some (.int .i64 (hd L)) := by
              obtain ⟨g0, off0, x0, e0, hx0, hc0⟩ := HR.out.get (k := 0) (by omega)
              injection e0 with e0
              injection e0 with e1 e2
              subst e1 e2
              rw [Nat.add_zero] at hc0
              rw [hc0]
              cases L with
              | nil => simp at hjt
              | cons y r => simp at hx0; simp [hd, hx0]
            have HC0 := Lib.hid hc0
            clear hx hxL hxb hc0
            go_wp2_with fail
            clear hc
            (with_reducible refine (look_law HS.out (by simp; omega) (by simp; omega)).mono ?_)
            rintro e w10 ⟨rfl, s10, k10⟩
            have S10 := Lib.hid s10
            have R10 := Lib.hid (HR.out.only k10)
            have C10 : Hid (w10.cell? ⟨g, off, none⟩ = some (.int .i64 (hd L))) := by
              have := HR.out.ap _ rfl
              show _ = _
              rw [World.cell?_of_block (a := ⟨g, off, none⟩) (k10.gr.block g this.2.2 (fun e => this.2.1 (by injection e)))]
              exact HC0.out
            clear s10 k10 HS HR HC0
            go_wp2_with fail
            have A10 : Hid (StackAt w10 b 0 L t (n' + ↑j + 1)) := S10.out.at_
            (with_reducible refine (put_there q _ _ A10.out hq64 HX.out hh (by omega) (by omega)).mono ?_)
            rintro e w11 ⟨rfl, rfl⟩
            have hc := C10.out
            clear A10 C10
            generalize hd L = z at *
            have qz : (z != z) = false := by simp
            go_wp2_with fail
            go_roundw
            case rel => exact ⟨j + 1, by omega, by go_num, by have := S10.out; rw [show n' + ((j + 1 : Nat) : Int) = n' + ↑j + 1 by omega]; exact this, R10⟩
            case measure => simp [intOf]; omega
          · obtain rfl : j = L.length := by omega
            go_wp2_with fail
            (with_reducible refine (all_of HS.out).mono ?_)
            rintro e w10 ⟨A10, c10, rfl, s10, b10, r10, _⟩
            have R10 := Lib.hid r10
            have R11 := Lib.hid (HR.out.below b10)
            have B10 := Lib.hid s10.below
            clear s10 b10 r10 HS HR
            go_wp2_with fail
            (with_reducible refine (same_two w10 R10.out R11.out (by show L.length ≤ _; omega) (by omega)).mono ?_)
            rintro e w12 ⟨rfl, b12⟩
            have B12 := Lib.hid (B10.out.trans (b12.mono B10.out.size))
            clear b12
            rw [show decide (L = L) = true by simp]
            go_wp2_with fail
            go_ret
            exact ⟨rfl, B12.out⟩

section
variable {H : Type} {enc : TypeId × Value → H} {W : World} {base : Nat} {args : Array Value} {ds : List (DataW H)} {p : List MemPlace}
set_option maxRecDepth 100000 in
theorem StackTwice_run (hval : ∀ (j : Nat) t v, #[67][j]? = some t → args[j]? = some v → Value.okWide Try.prog W .any base t v)
    (hA : DataW.TrodAll enc Try.prog W 0 (fun _ => true) true [67] args.toList ds p) (hlt : ∀ x ∈ p, x.block < W.heap.size) :
    Calls Try.prog 15 args W (TrueBelow W) := by
  obtain ⟨v0, d0, rfl, rfl, h0⟩ := trodAll_one hA
  obtain ⟨A, n, c, f, rfl, hn, hc, hf⟩ := open_bytes (hval 0 67 v0 rfl rfl) h0 hlt
  exact twice_walk W A n c f hf hn hc
end
end Go.Proofs.Ytpddlnedaleblaa
