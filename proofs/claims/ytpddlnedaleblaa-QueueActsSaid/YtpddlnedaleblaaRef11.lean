/- The reference of layer 11: Same, At, walked. -/
import Derived.Test.YtpddlnedaleblaaSlInts2
namespace Go.Proofs.Ytpddlnedaleblaa
open Go.RowKit

set_option maxRecDepth 100000 in
set_option maxHeartbeats 2000000 in
theorem same_any (w : World) (N M : Nat) (A1 A2 : Option Addr) (n1 c1 n2 c2 : Nat) (l1 l2 : List Int) (h1 : IntRow w N A1 n1 l1) (h2 : IntRow w M A2 n2 l2) (s1 : ∀ ad, 0 < n1 → A1 = some ad → ad.spot = none) (s2 : ∀ ad, 0 < n2 → A2 = some ad → ad.spot = none)
    (hn1 : n1 ≤ 9223372036854775807) (hn2 : n2 ≤ 9223372036854775807) :
    Calls Try.prog 35 #[.slice A1 n1 c1, .slice A2 n2 c2] w fun e w' => e = .returned (.bool (decide (l1 = l2))) ∧ ∃ k, w.drewN k = w' := by
  have e1 := h1.len
  have e2 := h2.len
  have H1 := Lib.hid h1
  have H2 := Lib.hid h2
  have S1 := Lib.hid s1
  have S2 := Lib.hid s2
  clear h1 h2 s1 s2
  by_cases hne : n1 = n2
  · subst hne
    have E1 := Lib.hid e1
    have E2 := Lib.hid e2
    clear e1 e2
    go_enter Try.func35, Try.ntmps35
    go_wp2_with fail
    go_loopw [13] (fun i wr => ∃ k m : Nat, k ≤ n1 ∧ i = .int .i64 k ∧ Hid (wr = w.drewN m) ∧ Hid (∀ j, j < k → l1[j]? = l2[j]?)) (fun i _ => n1 - (intOf i).toNat)
    case atStart => exact ⟨0, 0, by omega, rfl, rfl, fun j hj => by omega⟩
    case round =>
      obtain ⟨k, m, hk, rfl, hw, hb⟩ := hrel
      by_cases hlt : k < n1
      · obtain ⟨g1, o1, x1, rfl, hx1, hc1⟩ := H1.out.at_ (fun ad e => S1.out ad (by omega) e) hlt
        obtain ⟨g2, o2, x2, rfl, hx2, hc2⟩ := H2.out.at_ (fun ad e => S2.out ad (by omega) e) hlt
        have hd1 : wr.cell? ⟨g1, o1 + k, none⟩ = some (.int .i64 x1) := by rw [hw]; exact hc1
        have hd2 : wr.cell? ⟨g2, o2 + k, none⟩ = some (.int .i64 x2) := by rw [hw]; exact hc2
        have X1 := Lib.hid hx1
        have X2 := Lib.hid hx2
        have hi0 : (0 : Int) ≤ (k : Int) := by omega
        have hi1 : (k : Int) < (n1 : Int) := by omega
        clear hx1 hx2 hc1 hc2
        by_cases hxe : x1 = x2
        · have HB : Hid (∀ j, j < k + 1 → l1[j]? = l2[j]?) := fun j hj => by
            rcases Nat.lt_succ_iff_lt_or_eq.1 hj with h | rfl
            · exact hb j h
            · rw [X1.out, X2.out, hxe]
          subst hxe
          clear hb
          go_wp2_with fail
          go_quiet (fail)
          go_wp2_with fail
          go_roundw
          case rel => exact ⟨k + 1, m + nq, by omega, by go_num, by show _ = _; rw [hw.out, World.drewN_drewN], HB⟩
          case measure => simp [intOf]; omega
        · have hne : (x1 != x2) = true := by simpa using hxe
          have HN : Hid (decide (l1 = l2) = false) := by
            refine decide_eq_false fun e => hxe ?_
            have := X1.out
            rw [e, X2.out] at this
            injection this with this
            exact this.symm
          clear hb hxe
          go_wp2_with fail
          go_quiet (fail)
          go_wp2_with fail
          go_ret
          rw [HN.out, hw.out]
          exact ⟨rfl, m + nq, (World.drewN_drewN ..).symm⟩
      · obtain rfl : k = n1 := by omega
        have HY : Hid (decide (l1 = l2) = true) := by
          refine decide_eq_true (List.ext_getElem? fun j => ?_)
          by_cases hj : j < k
          · exact hb j hj
          · rw [List.getElem?_eq_none (by rw [← E1.out]; omega), List.getElem?_eq_none (by rw [← E2.out]; omega)]
        clear hb
        go_wp2_with fail
        go_ret
        rw [HY.out, hw.out]
        exact ⟨rfl, m, rfl⟩
  · have HN : Hid (decide (l1 = l2) = false) := decide_eq_false fun e => hne (by rw [e1, e2, e])
    have hq : ((n1 : Int) != (n2 : Int)) = true := by simp; omega
    clear hne e1 e2
    go_enter Try.func35, Try.ntmps35
    go_wp2_with fail
    go_ret
    rw [HN.out]
    exact ⟨rfl, 0, rfl⟩

end Go.Proofs.Ytpddlnedaleblaa
