/- Are acts of layer 11 more than are looked at? -/
import Derived.Test.YtpddlnedaleblaaActs11
namespace Go.Proofs.Ytpddlnedaleblaa
open Go.RowKit

def sumA (f : Nat → A11) : Nat → Nat
  | 0 => 0
  | k + 1 => sumA f k + (f k).n

theorem sumA_le {f : Nat → A11} {n : Nat} (h : ∀ i, i < n → (f i).n ≤ 17592186044416) : ∀ k, k ≤ n → sumA f k ≤ k * 17592186044416
  | 0, _ => Nat.le_refl _
  | k + 1, hk => by
    have h1 := sumA_le h k (by omega)
    have h2 := h k (by omega)
    simp only [sumA]
    omega
theorem sumA_mono (f : Nat → A11) : ∀ {k m : Nat}, k ≤ m → sumA f k ≤ sumA f m
  | k, 0, h => by obtain rfl : k = 0 := by omega
                  exact Nat.le_refl _
  | k, m + 1, h => by
    by_cases e : k = m + 1
    · subst e; exact Nat.le_refl _
    · exact Nat.le_trans (sumA_mono f (show k ≤ m by omega)) (by simp [sumA])

theorem Acts11.n_le {W : World} {A : Option Addr} {n : Nat} {f : Nat → A11} (h : Acts11 W A n f) {i : Nat} (hi : i < n) : (f i).n ≤ 17592186044416 := by
  obtain ⟨_, _, _, _, _, _, _, _, h⟩ := h i hi
  exact h

set_option maxRecDepth 100000 in
set_option maxHeartbeats 1000000 in
theorem great_any (W w : World) (A : Option Addr) (n c : Nat) (f : Nat → A11) (hf : Acts11 W A n f) (hb : Below W.heap.size W w) (hn : n ≤ c) (hc : c ≤ maxLen) :
    Calls Try.prog 30 #[.slice A n c] w fun e w' => ∃ g, e = .returned (.bool g) ∧ (g = false → n ≤ 100 ∧ sumA f n ≤ 500) ∧ Below W.heap.size W w' := by
  have HF := Lib.hid hf
  have hm : c < 9223372036854775808 := by unfold maxLen at hc; omega
  clear hf hc
  go_enter Try.func30, Try.ntmps30
  go_wp2_with fail
  go_loopw [3, 8] (fun s i wr => ∃ (k : Nat) (x : Int), k ≤ n ∧ i = .int .i64 k ∧ s = .int .i64 x ∧ Hid (n ≤ 100 → x = sumA f k) ∧ Below W.heap.size W wr) (fun _ i _ => n - (intOf i).toNat)
  case atStart => exact ⟨0, 0, by omega, rfl, rfl, fun _ => rfl, hb⟩
  case round =>
    obtain ⟨k, x, hk, rfl, rfl, HX, B0⟩ := hrel
    by_cases hlt : k < n
    · obtain ⟨g, off, rfl, hg, h0', h1', h2', _, hl⟩ := HF.out k hlt
      have h0 := (B0.cell (p := ⟨g, off + k * 3, none⟩) hg).trans h0'
      have h1 := (B0.cell (p := ⟨g, off + k * 3 + 1, none⟩) hg).trans h1'
      have h2 := (B0.cell (p := ⟨g, off + k * 3 + 2, none⟩) hg).trans h2'
      have HY : Hid (n ≤ 100 → wrap64 (x + ((f k).n : Int)) = sumA f (k + 1)) := fun h => by
        rw [HX.out h]
        have := sumA_le (f := f) (fun i hi => HF.out.n_le hi) k (by omega)
        simp only [sumA, wrap64]
        have h3 : k * 17592186044416 ≤ 100 * 17592186044416 := Nat.mul_le_mul_right _ (by omega)
        omega
      have B1 := B0.alloc B0.size (.cells #[.int .i64 (f k).k, .int .i64 (f k).x, .slice (f k).A (f k).n (f k).c] 59)
      have HB := Lib.hid B1
      clear h0' h1' h2' B1 B0
      go_wp2_with fail
      go_roundw
      case rel => exact ⟨k + 1, _, by omega, by go_num, rfl, HY, HB.out⟩
      case measure => simp [intOf]; omega
    · obtain rfl : k = n := by omega
      by_cases hbig : (100 : Int) < k
      · go_wp2_with fail
        go_ret
        exact ⟨true, rfl, (fun h => by cases h), B0⟩
      · have e := HX.out (by omega)
        subst e
        by_cases hq : (500 : Int) < (sumA f k : Int)
        · have q : decide ((500 : Int) < (sumA f k : Int)) = true := decide_eq_true hq
          have HQ := Lib.hid q
          clear hq q
          go_wp2_with fail
          go_ret
          exact .inr ⟨by simp [HQ.out], B0⟩
        · have q : decide ((500 : Int) < (sumA f k : Int)) = false := decide_eq_false hq
          have HQ := Lib.hid q
          have HK : Hid (k ≤ 100 ∧ sumA f k ≤ 500) := ⟨by omega, by omega⟩
          clear hq q
          go_wp2_with fail
          go_ret
          exact .inl ⟨by simp [HQ.out], HK.out, B0⟩
end Go.Proofs.Ytpddlnedaleblaa
