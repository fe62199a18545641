/- queue.Queue's Has, walked. -/
import Derived.Test.YtpddlnedaleblaaQueueW
namespace Go.Proofs.Ytpddlnedaleblaa
open Go.RowKit

structure QueueAt (w : World) (B b o : Nat) (R F : List Int) (g1 g2 : Option Nat) : Prop where
  r1 : RowAt w B b o R g1
  r2 : RowAt w B b (o + 1) F g2
  apart : g1 = g2 → g1 = none

theorem RowAt.lt {w : World} {B b o : Nat} {l : List Int} {g : Option Nat} (H : RowAt w B b o l g) : b < w.heap.size := by
  obtain ⟨⟨v, hv, _, _⟩, _, _⟩ := H
  exact World.block_lt_of_cell? w _ hv
theorem RowAt.g_lt {w : World} {B b o : Nat} {l : List Int} {g : Option Nat} (H : RowAt w B b o l g) : ∀ k, g = some k → B ≤ k ∧ k < w.heap.size := by
  obtain ⟨⟨v, _, h, rfl⟩, _, _⟩ := H
  exact h.lt

/-- A row stays where neither its cell's block nor its own block turns. -/
theorem RowAt.stays {w w' : World} {B b o : Nat} {l : List Int} {g : Option Nat} (H : RowAt w B b o l g) (hb : w'.heap[b]? = w.heap[b]?) (hg : ∀ k, g = some k → w'.heap[k]? = w.heap[k]?) : RowAt w' B b o l g := by
  obtain ⟨⟨v, hv, h, rfl⟩, hf, hne⟩ := H
  refine ⟨⟨v, (World.cell?_of_block (a := ⟨b, o, none⟩) hb).trans hv, ⟨h.1, ?_⟩, rfl⟩, (World.frozen?_of_block (a := ⟨b, o, none⟩) hb).trans hf, hne⟩
  rcases h.2 with hn | ⟨g, cap, cur, rfl, h1, h2, r⟩
  · exact .inl hn
  · exact .inr ⟨g, cap, cur, rfl, h1, (hg g rfl).trans h2, r⟩

theorem QueueAt.stays {w w' : World} {B b o : Nat} {R F : List Int} {g1 g2 : Option Nat} (H : QueueAt w B b o R F g1 g2) (hb : w'.heap[b]? = w.heap[b]?) (h1 : ∀ k, g1 = some k → w'.heap[k]? = w.heap[k]?)
    (h2 : ∀ k, g2 = some k → w'.heap[k]? = w.heap[k]?) : QueueAt w' B b o R F g1 g2 := ⟨H.r1.stays hb h1, H.r2.stays hb h2, H.apart⟩

theorem QueueAt.below {w w' : World} {B b o N : Nat} {R F : List Int} {g1 g2 : Option Nat} (H : QueueAt w B b o R F g1 g2) (hb : Below N w w') (hN : w.heap.size ≤ N) : QueueAt w' B b o R F g1 g2 :=
  H.stays (hb.block b (by have := H.r1.lt; omega)) (fun k e => hb.block k (by have := (H.r1.g_lt k e).2; omega)) (fun k e => hb.block k (by have := (H.r2.g_lt k e).2; omega))

/-- Is a number in one of the rows? -/
def inQ (R F : List Int) (y : Int) : Bool := decide (y ∈ R) || decide (y ∈ F)

theorem row_slice {w : World} {B b o : Nat} {l : List Int} {g : Option Nat} (H : RowAt w B b o l g) :
    ∃ A c, w.cell? ⟨b, o, none⟩ = some (.slice A l.length c) ∧ Hid (∀ ad, A = some ad → ad.spot = none) ∧ Hid (IntRow w w.heap.size A l.length l) ∧ l.length ≤ c ∧ c ≤ maxLen := by
  obtain ⟨⟨v, hv, hown, _⟩, _, _⟩ := H
  obtain ⟨A, c, rfl, hA, hc1, hc2, hrow, _⟩ := own_ints_shape hown
  exact ⟨A, c, hv, hA, hrow, hc1, hc2⟩

set_option maxRecDepth 100000 in
set_option maxHeartbeats 2000000 in
theorem has1_any (w : World) (B b o x : Nat) (R F : List Int) (g1 g2 : Option Nat) (y : Int) (H : QueueAt w B b o R F g1 g2) (hx : w.cell? ⟨x, 0, none⟩ = some (.pointer (some ⟨b, o, none⟩))) (hR : R.length ≤ 1000000) (hF : F.length ≤ 1000000) :
    Calls Try.prog 70 #[.int .i64 y, .pointer (some ⟨x, 0, none⟩)] w fun e w' => e = .returned (.bool (!inQ R F y)) ∧ w = w' := by
  obtain ⟨A1, c1, hv1, hA1, hr1, _, _⟩ := row_slice H.r1
  obtain ⟨A2, c2, hv2, hA2, hr2, _, _⟩ := row_slice H.r2
  have e1 : inQ R F y = (decide (y ∈ R) || decide (y ∈ F)) := rfl
  have E1 := Lib.hid e1
  clear e1 H
  go_enter Try.func70, Try.ntmps70
  go_wp2_with fail
  (with_reducible refine (contains_ints _ _ A1 R.length c1 R y hr1.out hA1.out (by omega)).mono ?_)
  rintro e w' ⟨rfl, rfl⟩
  by_cases h1 : y ∈ R
  · have hd : decide (y ∈ R) = true := by simpa using h1
    rw [hd] at E1 ⊢
    clear h1 hd
    go_wp2_with fail
    go_ret
    rw [E1.out]
    exact ⟨rfl, rfl⟩
  · have hd : decide (y ∈ R) = false := by simpa using h1
    rw [hd] at E1 ⊢
    clear h1 hd
    go_wp2_with fail
    (with_reducible refine (contains_ints _ _ A2 F.length c2 F y hr2.out hA2.out (by omega)).mono ?_)
    rintro e w' ⟨rfl, rfl⟩
    generalize decide (y ∈ F) = d at *
    go_wp2_with fail
    go_ret
    rw [E1.out]
    exact ⟨by simp, rfl⟩

set_option maxRecDepth 100000 in
set_option maxHeartbeats 2000000 in
theorem indexfunc_has (w : World) (B b o x : Nat) (R F : List Int) (g1 g2 : Option Nat) (H : QueueAt w B b o R F g1 g2) (hx : w.cell? ⟨x, 0, none⟩ = some (.pointer (some ⟨b, o, none⟩))) (hR : R.length ≤ 1000000) (hF : F.length ≤ 1000000)
    (N : Nat) (A : Option Addr) (n c : Nat) (l : List Int) (hl : IntRow w N A n l) (hA : ∀ ad, 0 < n → A = some ad → ad.spot = none) (hn : n ≤ 9223372036854775807) :
    Calls Try.prog 81 #[.slice A n c, .func (.func 70) #[] #[.pointer (some ⟨x, 0, none⟩)]] w fun e w' =>
      (∃ r : Int, e = .returned (.int .i64 r) ∧ (r < 0 ↔ ∀ y ∈ l, inQ R F y = true)) ∧ w = w' := by
  have HH := Lib.hid hl
  have HA := Lib.hid hA
  have HQ := Lib.hid H
  have hlen := hl.len
  have HL := Lib.hid hlen
  clear hlen hA hl H
  go_enter Try.func81, Try.ntmps81
  go_wp2_with fail
  go_loop [8] (fun i => ∃ k : Nat, k ≤ n ∧ i = .int .i64 k ∧ Hid (∀ j y, j < k → l[j]? = some y → inQ R F y = true)) (fun i => n - (intOf i).toNat)
  case atStart => exact ⟨0, by omega, rfl, fun j y hj => by omega⟩
  case round =>
    obtain ⟨k, hk, rfl, hb⟩ := hrel
    by_cases hlt : k < n
    · obtain ⟨g, off, y, rfl, hy, hc⟩ := HH.out.at_ (fun ad e => HA.out ad (by omega) e) hlt
      have HY := Lib.hid hy
      clear hy
      go_wp2_with fail
      (with_reducible refine (has1_any _ B b o x R F g1 g2 y HQ.out hx hR hF).mono ?_)
      rintro e w' ⟨rfl, rfl⟩
      cases hq : inQ R F y with
      | true =>
        have HB : Hid (∀ j z, j < k + 1 → l[j]? = some z → inQ R F z = true) := fun j z hj hz => by
          rcases Nat.lt_succ_iff_lt_or_eq.1 hj with h | rfl
          · exact hb j z h hz
          · rw [HY.out] at hz; injection hz with hz; rw [← hz]; exact hq
        clear hb hq
        go_wp2_with fail
        go_round
        case rel => exact ⟨k + 1, by omega, by go_num, HB⟩
        case measure => simp [intOf]; omega
      | false =>
        have HN : Hid (¬ ∀ y ∈ l, inQ R F y = true) := fun h => by
          have := h y (List.mem_of_getElem? HY.out)
          rw [hq] at this
          cases this
        clear hb hq
        go_wp2_with fail
        go_ret
        exact ⟨⟨k, rfl, ⟨fun h => by omega, fun h => absurd h HN.out⟩⟩, rfl⟩
    · obtain rfl : k = n := by omega
      have HE : Hid (∀ y ∈ l, inQ R F y = true) := fun y hy => by
        obtain ⟨j, hj, e⟩ := List.mem_iff_getElem.1 hy
        exact hb j y (by rw [HL.out]; exact hj) (by rw [List.getElem?_eq_getElem hj, e])
      clear hb
      go_wp2_with fail
      go_ret
      exact ⟨⟨-1, rfl, ⟨fun _ => HE.out, fun _ => by omega⟩⟩, rfl⟩

end Go.Proofs.Ytpddlnedaleblaa
