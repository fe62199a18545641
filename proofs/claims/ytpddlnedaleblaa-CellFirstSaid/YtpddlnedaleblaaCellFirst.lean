/- CellFirst, walked: of any that loaded one tag just the first one's Cas goes. -/
import Derived.Test.YtpddlnedaleblaaCellAlive
import Derived.Test.YtpddlnedaleblaaArgs
namespace Go.Proofs.Ytpddlnedaleblaa
open Go.ChangeShapes Go.WideShapes Go.RowKit

/-- How many Cas were asked, and whether the first one has gone: the word and the tag then. -/
def fstWord (first : Int) (f : Nat → Int) (back : Bool) (k : Nat) : Int := if k = 0 ∨ back = true then first else f 0
def fstTag (back : Bool) (k : Nat) : Int := if back = true then 3 else if k = 0 then 1 else 2

structure FirstRel (W : World) (b : Nat) (first : Int) (f : Nat → Int) (back : Bool) (k : Nat) (wr : World) : Prop where
  cell : ∃ m : Nat, m ≤ 10 + k ∧ CellAt wr b 0 (fstWord first f back k) (fstTag back k) m
  below : Below W.heap.size W wr
  size : b < wr.heap.size

set_option maxHeartbeats 1000000 in
theorem first_walk (W : World) (A : Option Addr) (n c : Nat) (f : Nat → Int) (first : Int) (back : Bool) (hn : n ≤ c) (hc : c ≤ maxLen) (h0 : 0 ≤ first) (h1 : first < 18446744073709551616)
    (hf : ∀ i, i < n → ∃ b off, A = some ⟨b, off, none⟩ ∧ b < W.heap.size ∧ W.cell? ⟨b, off + i, none⟩ = some (.int .u64 (f i)) ∧ (Lit.int .u64 (f i)).wf = true) :
    Calls Try.prog 3 #[.int .u64 first, .slice A n c, .bool back] W (TrueBelow W) := by
  have HF := Lib.hid hf
  clear hf
  unfold maxLen at hc
  go_enter Try.func3, Try.ntmps3
  go_wp2_with fail
  refine (alive08 W).mono ?_
  rintro e w1 ⟨rfl, B1⟩
  have Z1 := B1.size
  by_cases hbig : (100 : Int) < n
  · go_wp2_with fail
    go_ret
    exact ⟨rfl, B1⟩
  · go_wp2_with fail
    have C1 := CellAt.new w1 26
    have B2 := B1.alloc Z1 (.cells #[.int .u64 0, .int .u64 0, .int .i64 0] 26)
    obtain ⟨b, hb⟩ : ∃ b, b = w1.heap.size := ⟨_, rfl⟩
    obtain ⟨w2, hw2⟩ : ∃ w2, w2 = w1.alloc (.cells #[.int .u64 0, .int .u64 0, .int .i64 0] 26) := ⟨_, rfl⟩
    have Z2 : b < w2.heap.size := by rw [hw2, hb]; simp
    rw [← hw2] at C1 B2 ⊢
    rw [← hb] at C1 Z1 ⊢
    clear hb hw2 B1
    (with_reducible refine (store_to first C1 (by omega) (by omega)).mono ?_)
    rintro e w3 ⟨rfl, C3, G3, S3⟩
    have B3 := B2.grown G3 (by omega) (fun k e => by simp at e; omega)
    have Z3 : b < w3.heap.size := by omega
    clear S3 G3 B2 C1
    rw [show IntKind.u64.wrap (0 + 1) = 1 from rfl] at C3
    go_wp2_with fail
    (with_reducible refine (load_to C3 (by omega) (by omega)).mono ?_)
    rintro e w4 ⟨rfl, C4, G4, S4⟩
    have B4 := B3.grown G4 (by omega) (fun k e => by simp at e; omega)
    have Z4 : b < w4.heap.size := by omega
    clear S4 G4 B3 C3
    cases back with
    | true =>
      go_wp2_with fail
      (with_reducible refine (store_to _ C4 (by omega) (by omega)).mono ?_)
      rintro e w5 ⟨rfl, C5, G5, S5⟩
      have B5 := B4.grown G5 (by omega) (fun k e => by simp at e; omega)
      have Z5 : b < w5.heap.size := by omega
      clear S5 G5 B4 C4
      rw [show IntKind.u64.wrap (1 + 1) = 2 from rfl] at C5
      go_wp2_with fail
      (with_reducible refine (store_to first C5 (by omega) (by omega)).mono ?_)
      rintro e w6 ⟨rfl, C6, G6, S6⟩
      have B6 := B5.grown G6 (by omega) (fun k e => by simp at e; omega)
      have Z6 : b < w6.heap.size := by omega
      clear S6 G6 B5 C5
      rw [show IntKind.u64.wrap (2 + 1) = 3 from rfl] at C6
      have hR : FirstRel W b first f true 0 w6 := ⟨⟨4, by omega, by simpa [fstWord, fstTag] using C6⟩, B6, Z6⟩
      clear C6 B6
      go_wp2_with fail
      go_loopw [34] (fun i wr => ∃ k : Nat, k ≤ n ∧ i = .int .i64 k ∧ FirstRel W b first f true k wr) (fun i _ => n - (intOf i).toNat)
      case atStart => exact ⟨0, by omega, rfl, hR⟩
      case round =>
        clear hR
        obtain ⟨k, hk, rfl, ⟨m, hm, C0⟩, B0, Z0⟩ := hrel
        have e1 : fstWord first f true k = first := by simp [fstWord]
        have e2 : fstTag true k = 3 := by simp [fstTag]
        rw [e1, e2] at C0
        clear e1 e2
        by_cases hlt : k < n
        · obtain ⟨g, off, rfl, hg, hc0, _⟩ := HF.out k hlt
          have hc1 := (B0.cell (p := ⟨g, off + k, none⟩) hg).trans hc0
          clear hc0
          go_wp2_with fail
          (with_reducible refine (cas_to_no _ C0 (by omega) (by omega) (by omega)).mono ?_)
          rintro e w7 ⟨rfl, C7, G7, S7⟩
          have B7 := B0.grown G7 (by omega) (fun k e => by simp at e; omega)
          have Z7 : b < w7.heap.size := by omega
          clear S7 G7 B0 C0 hc1
          go_wp2_with fail
          all_goals
            go_roundw
            case rel => exact ⟨k + 1, by omega, by go_num, ⟨m + 1, by omega, by simpa [fstWord, fstTag] using C7⟩, B7, Z7⟩
            case measure => simp [intOf]; omega
        · obtain rfl : k = n := by omega
          go_wp2_with fail
          (with_reducible refine (load_to C0 (by omega) (by omega)).mono ?_)
          rintro e w7 ⟨rfl, C7, G7, S7⟩
          have B7 := B0.grown G7 (by omega) (fun k e => by simp at e; omega)
          clear S7 G7 B0 C0
          go_wp2_with fail
          all_goals (go_ret; exact ⟨rfl, B7⟩)
    | false =>
      have hR : FirstRel W b first f false 0 w4 := ⟨⟨2, by omega, by simpa [fstWord, fstTag] using C4⟩, B4, Z4⟩
      clear C4 B4
      go_wp2_with fail
      go_loopw [34] (fun i wr => ∃ k : Nat, k ≤ n ∧ i = .int .i64 k ∧ FirstRel W b first f false k wr) (fun i _ => n - (intOf i).toNat)
      case atStart => exact ⟨0, by omega, rfl, hR⟩
      case round =>
        clear hR
        obtain ⟨k, hk, rfl, ⟨m, hm, C0⟩, B0, Z0⟩ := hrel
        by_cases hlt : k < n
        · obtain ⟨g, off, rfl, hg, hc0, _⟩ := HF.out k hlt
          have hc1 := (B0.cell (p := ⟨g, off + k, none⟩) hg).trans hc0
          clear hc0
          by_cases hk0 : k = 0
          · subst hk0
            have e1 : fstWord first f false 0 = first := by simp [fstWord]
            have e2 : fstTag false 0 = 1 := by simp [fstTag]
            rw [e1, e2] at C0
            clear e1 e2
            rw [Nat.add_zero] at hc1
            go_wp2_with fail
            (with_reducible refine (cas_to_yes _ C0 (by omega) (by omega)).mono ?_)
            rintro e w7 ⟨rfl, C7, G7, S7⟩
            have B7 := B0.grown G7 (by omega) (fun k e => by simp at e; omega)
            have Z7 : b < w7.heap.size := by omega
            clear S7 G7 B0 C0 hc1
            rw [show IntKind.u64.wrap (1 + 1) = 2 from rfl] at C7
            go_wp2_with fail
            all_goals
              go_roundw
              case rel => exact ⟨0 + 1, by omega, by go_num, ⟨m + 1, by omega, by simpa [fstWord, fstTag] using C7⟩, B7, Z7⟩
              case measure => simp [intOf]; omega
          · have e1 : fstWord first f false k = f 0 := by simp [fstWord, hk0]
            have e2 : fstTag false k = 2 := by simp [fstTag, hk0]
            have hk1 : 0 < k := by omega
            have hkb : ((k : Int) == 0) = false := by simpa using hk0
            rw [e1, e2] at C0
            clear e1 e2
            go_wp2_with fail
            (with_reducible refine (cas_to_no _ C0 (by omega) (by omega) (by omega)).mono ?_)
            rintro e w7 ⟨rfl, C7, G7, S7⟩
            have B7 := B0.grown G7 (by omega) (fun k e => by simp at e; omega)
            have Z7 : b < w7.heap.size := by omega
            clear S7 G7 B0 C0 hc1
            go_wp2_with fail
            all_goals
              go_roundw
              case rel => exact ⟨k + 1, by omega, by go_num, ⟨m + 1, by omega, by simpa [fstWord, fstTag, hk0] using C7⟩, B7, Z7⟩
              case measure => simp [intOf]; omega
        · obtain rfl : k = n := by omega
          by_cases hk0 : k = 0
          · subst hk0
            have e1 : fstWord first f false 0 = first := by simp [fstWord]
            have e2 : fstTag false 0 = 1 := by simp [fstTag]
            rw [e1, e2] at C0
            clear e1 e2
            go_wp2_with fail
            (with_reducible refine (load_to C0 (by omega) (by omega)).mono ?_)
            rintro e w7 ⟨rfl, C7, G7, S7⟩
            have B7 := B0.grown G7 (by omega) (fun k e => by simp at e; omega)
            clear S7 G7 B0 C0
            go_wp2_with fail
            all_goals (go_ret; exact ⟨rfl, B7⟩)
          · have e1 : fstWord first f false k = f 0 := by simp [fstWord, hk0]
            have e2 : fstTag false k = 2 := by simp [fstTag, hk0]
            have hk1 : 0 < k := by omega
            obtain ⟨g, off, rfl, hg, hc0, _⟩ := HF.out 0 hk1
            rw [e1, e2] at C0
            clear e1 e2
            go_wp2_with fail
            (with_reducible refine (load_to C0 (by omega) (by omega)).mono ?_)
            rintro e w7 ⟨rfl, C7, G7, S7⟩
            have B7 := B0.grown G7 (by omega) (fun k e => by simp at e; omega)
            have hc1 := (B7.cell (p := ⟨g, off + 0, none⟩) hg).trans hc0
            rw [Nat.add_zero] at hc1
            clear S7 G7 B0 C0 hc0
            go_wp2_with fail
            all_goals (go_ret; exact ⟨rfl, B7⟩)

section
variable {H : Type} {enc : TypeId × Value → H} {W : World} {base : Nat} {args : Array Value} {ds : List (DataW H)} {p : List MemPlace}
set_option maxRecDepth 100000 in
theorem CellFirst_run (hval : ∀ (j : Nat) t v, #[22, 23, 4][j]? = some t → args[j]? = some v → Value.okWide Try.prog W .any base t v)
    (hA : DataW.TrodAll enc Try.prog W 0 (fun _ => true) true [22, 23, 4] args.toList ds p) (hlt : ∀ x ∈ p, x.block < W.heap.size) :
    Calls Try.prog 3 args W (TrueBelow W) := by
  obtain ⟨v0, v1, v2, d0, d1, d2, p0, p1, p2, rfl, rfl, rfl, h0, h1, h2⟩ := trodAll_three hA
  obtain ⟨first, rfl, rfl, rfl, wf0⟩ := open_int Try.underlying22 (hval 0 22 v0 rfl rfl) h0
  obtain ⟨back, rfl, rfl, rfl⟩ := open_bool Try.underlying4 (hval 2 4 v2 rfl rfl) h2
  obtain ⟨A, n, c, f, rfl, hn, hc, hf⟩ := arg_ints Try.underlying23 Try.underlying22 cells_u64 (hval 1 23 v1 rfl rfl) h1 (fun x hx => hlt x (by simp [hx]))
  have hb := bounds_u64 wf0
  exact first_walk W A n c f first back hn hc hb.1 (by omega) hf
end
end Go.Proofs.Ytpddlnedaleblaa
