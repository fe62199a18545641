/- CellSwaps, walked: what is swapped in is what the next one swaps out. -/
import Derived.Test.YtpddlnedaleblaaCellAlive
import Derived.Test.YtpddlnedaleblaaArgs
namespace Go.Proofs.Ytpddlnedaleblaa
open Go.ChangeShapes Go.WideShapes Go.RowKit

/-- The number ahead of the k-th: 0 at first. -/
def wasAt (f : Nat → Int) : Nat → Int
  | 0 => 0
  | k + 1 => f k

structure SwapsRel (W : World) (b : Nat) (f : Nat → Int) (k : Nat) (was : Value) (wr : World) : Prop where
  was : was = .int .u64 (wasAt f k)
  cell : CellAt wr b 0 (wasAt f k) k (2 * (k : Int))
  below : Below W.heap.size W wr
  size : b < wr.heap.size

set_option maxHeartbeats 1000000 in
theorem swaps_walk (W : World) (A : Option Addr) (n c : Nat) (f : Nat → Int) (hn : n ≤ c) (hc : c ≤ maxLen)
    (hf : ∀ i, i < n → ∃ b off, A = some ⟨b, off, none⟩ ∧ b < W.heap.size ∧ W.cell? ⟨b, off + i, none⟩ = some (.int .u64 (f i)) ∧ (Lit.int .u64 (f i)).wf = true) :
    Calls Try.prog 7 #[.slice A n c] W (TrueBelow W) := by
  have HF := Lib.hid hf
  clear hf
  unfold maxLen at hc
  go_enter Try.func7, Try.ntmps7
  go_wp2_with fail
  refine (alive08 W).mono ?_
  rintro e w1 ⟨rfl, B1⟩
  have Z1 := B1.size
  by_cases hbig : (300 : Int) < n
  · go_wp2_with fail
    go_ret
    exact ⟨rfl, B1⟩
  · go_wp2_with fail
    have hR : SwapsRel W w1.heap.size f 0 (.int .u64 0) (w1.alloc (.cells #[.int .u64 0, .int .u64 0, .int .i64 0] 26)) :=
      ⟨rfl, CellAt.new w1 _, B1.alloc Z1 _, by simp⟩
    obtain ⟨b, hb⟩ : ∃ b, b = w1.heap.size := ⟨_, rfl⟩
    rw [← hb] at hR Z1 ⊢
    clear hb B1
    go_loopw [4, 16] (fun was i wr => ∃ k : Nat, k ≤ n ∧ i = .int .i64 k ∧ SwapsRel W b f k was wr) (fun _ i _ => n - (intOf i).toNat)
    case atStart => exact ⟨0, by omega, rfl, hR⟩
    case round =>
      clear hR
      obtain ⟨k, hk, rfl, rfl, C0, B0, Z0⟩ := hrel
      by_cases hlt : k < n
      · obtain ⟨g, off, rfl, hg, hc0, _⟩ := HF.out k hlt
        have hc1 := (B0.cell (p := ⟨g, off + k, none⟩) hg).trans hc0
        clear hc0
        go_wp2_with fail
        (with_reducible refine (swap_to (f k) C0 (by omega) (by omega)).mono ?_)
        rintro e w2 ⟨rfl, C2, G2, S2⟩
        have B2 := B0.grown G2 (by omega) (fun k e => by simp at e; omega)
        have Z2 : b < w2.heap.size := by omega
        clear S2 G2 B0 C0 hc1
        have hw : IntKind.u64.wrap ((k : Int) + 1) = (k : Int) + 1 := by simp only [IntKind.wrap_u64]; omega
        rw [hw] at C2
        go_wp2_with fail
        (with_reducible refine (load_to C2 (by omega) (by omega)).mono ?_)
        rintro e w3 ⟨rfl, C3, G3, S3⟩
        have B3 := B2.grown G3 (by omega) (fun k e => by simp at e; omega)
        have Z3 : b < w3.heap.size := by omega
        clear S3 G3 B2 C2
        go_wp2_with fail
        go_roundw
        case rel => exact ⟨k + 1, by omega, by go_num, rfl, by
          rw [show (2 : Int) * ((k + 1 : Nat) : Int) = 2 * (k : Int) + 1 + 1 by omega, show ((k + 1 : Nat) : Int) = (k : Int) + 1 by omega]; exact C3, B3, Z3⟩
        case measure => simp [intOf]; omega
      · obtain rfl : k = n := by omega
        have R1 := AskRow.one (T := 46) C0 (by omega) (by omega) Z0
        have H1 := Lib.hid R1
        clear R1 C0
        go_wp2_with fail
        (with_reducible refine (asked_any _ _ _ _ _ H1.out (by omega)).mono ?_)
        rintro e w6 ⟨rfl, rfl⟩
        rw [show askSum (fun _ => some (b, 0, 2 * (k : Int))) 1 = 2 * (k : Int) by simp [askSum, askNum]]
        go_wp2_with fail
        go_ret
        exact ⟨rfl, B0.alloc (by have := B0.size; omega) _⟩

section
variable {H : Type} {enc : TypeId × Value → H} {W : World} {base : Nat} {args : Array Value} {ds : List (DataW H)} {p : List MemPlace}
set_option maxRecDepth 100000 in
theorem CellSwaps_run (hval : ∀ (j : Nat) t v, #[23][j]? = some t → args[j]? = some v → Value.okWide Try.prog W .any base t v)
    (hA : DataW.TrodAll enc Try.prog W 0 (fun _ => true) true [23] args.toList ds p) (hlt : ∀ x ∈ p, x.block < W.heap.size) :
    Calls Try.prog 7 args W (TrueBelow W) := by
  obtain ⟨v0, d0, rfl, rfl, h0⟩ := trodAll_one hA
  obtain ⟨A, n, c, f, rfl, hn, hc, hf⟩ := arg_ints Try.underlying23 Try.underlying22 cells_u64 (hval 0 23 v0 rfl rfl) h0 hlt
  exact swaps_walk W A n c f hn hc hf
end
end Go.Proofs.Ytpddlnedaleblaa
