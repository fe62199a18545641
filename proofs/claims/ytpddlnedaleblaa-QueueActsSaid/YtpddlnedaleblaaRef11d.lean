/- The reference's Remove, walked. -/
import Derived.Test.YtpddlnedaleblaaRef11c
import Derived.Deep.RegionLaw
namespace Go.Proofs.Ytpddlnedaleblaa
open Go.RowKit

/-- A row without a number: a name that the walk leaves alone. -/
def wo (l : List Int) (x : Int) : List Int := l.filter (fun y => decide (x ≠ y))
theorem without_wo (w : World) (B : Nat) (A : Option Addr) (n c : Nat) (l : List Int) (x : Int) (H : IntRow w B A n l) (hA : ∀ ad, 0 < n → A = some ad → ad.spot = none) (hB : B ≤ w.heap.size) (hn : n ≤ 1000000) :
    Calls Try.prog 78 #[.slice A n c, .int .i64 x] w (NewInts w (wo l x)) := without_ref w B A n c l x H hA hB hn
theorem IntRow.drew {w : World} {B : Nat} {A : Option Addr} {n : Nat} {l : List Int} (h : IntRow w B A n l) : IntRow w.drew B A n l := h

set_option maxRecDepth 100000 in
set_option maxHeartbeats 2000000 in
theorem refRemove (w : World) (m : Nat) (R F : List Int) (a1 a2 : Option Nat) (x : Int) (HO : QOnce R F) (H : RefAt w m R F a1 a2) (hR : R.length ≤ 900000) (hF : F.length ≤ 900000) :
    Calls Try.prog 55 #[.pointer (some ⟨m, 0, none⟩), .int .i64 x] w fun e w' => e = .returned (.int .i64 (removeS R F x).1) ∧ RTo w w' m a1 a2 (removeS R F x).2.1 (removeS R F x).2.2 := by
  obtain ⟨A1, c1, hc1, hr1, hA1, e1⟩ := H.r1.val
  obtain ⟨A2, c2, hc2, hr2, hA2, e2⟩ := H.r2.val
  have R1 := Lib.hid hr1
  have R2 := Lib.hid hr2
  have S1 := Lib.hid hA1
  have S2 := Lib.hid hA2
  have HH := Lib.hid H
  have hm := H.r1.m_lt
  obtain ⟨i0, hi0, hz0, hz1, hz2⟩ := info_parts info_int
  have hf1 := HH.out.r1.frz
  have hf2 := HH.out.r2.frz
  have KS : ∀ (w' : World), Below w.heap.size w w' → w'.cell? ⟨m, 0, none⟩ = some (.slice A1 R.length c1) ∧ w'.cell? ⟨m, 1, none⟩ = some (.slice A2 F.length c2) ∧ w'.frozen? ⟨m, 0, none⟩ = false ∧ w'.frozen? ⟨m, 1, none⟩ = false := fun w' hb =>
    ⟨(hb.cell (p := ⟨m, 0, none⟩) hm).trans hc1, (hb.cell (p := ⟨m, 1, none⟩) hm).trans hc2, (World.frozen?_of_block (hb.block m hm)).trans hf1, (World.frozen?_of_block (hb.block m hm)).trans hf2⟩
  have KH := Lib.hid KS
  clear KS hr1 hr2 hA1 hA2 e1 e2 H
  by_cases hx : x ∈ R ∨ x ∈ F
  · have HP : Hid (removeS R F x = (0, R.filter (fun y => decide (x ≠ y)), F.filter (fun y => decide (x ≠ y)))) := by
      show _ = _
      by_cases h1 : x ∈ R
      · rw [filter_none (fun h2 => HO.apart x h1 h2), filter_erase HO.r]
        simp [removeS, h1]
      · rw [filter_none h1, filter_erase HO.f]
        simp [removeS, h1, hx.resolve_left h1]
    by_cases hi : (0 : Int) ≤ idx R x
    · clear hx
      go_enter Try.func55, Try.ntmps55
      go_wp2_with fail
      (with_reducible refine (at_ref _ _ A1 _ c1 R x R1.out (fun ad _ e => S1.out ad e) (by omega)).mono ?_)
      rintro e w1 ⟨rfl, rfl⟩
      go_wp2_with fail
      go_region_law (first
          | (go_simp; go_at_call 78; (with_reducible refine (without_wo w.drew w.heap.size A1 _ c1 R x (IntRow.drew R1.out) (fun ad _ e => S1.out ad e) (Nat.le_refl _) (by omega)).mono ?_); rintro e w1 ⟨v1, rfl, ho1, hb1⟩; have H1 : Hid (w1.ownsRow w.heap.size 3 1 v1 (wo R x).length ((wo R x).map (.int .i64))) := ho1; have B1 : Hid (Below w.heap.size w w1) := ⟨hb1.os, hb1.tape, hb1.output, hb1.size, hb1.block⟩; clear ho1 hb1; obtain ⟨A3, c3, rfl⟩ := own_slice H1.out; obtain ⟨d1, d2, d3, d4⟩ := KH.out _ B1.out; go_wp2_with fail)
          | (go_simp; go_at_call 78; (with_reducible refine (without_wo _ w.heap.size A2 _ c2 F x (IntRow.under R2.out B1.out) (fun ad _ e => S2.out ad e) B1.out.size (by omega)).mono ?_); rintro e w2 ⟨v2, rfl, ho2, hb2⟩; have H2 : Hid (w2.ownsRow w.heap.size 3 1 v2 (wo F x).length ((wo F x).map (.int .i64))) := own_more ho2 B1.out.size; have B2 : Hid (Below w.heap.size w w2) := B1.out.trans (hb2.mono B1.out.size); have H3 := Lib.hid (own_below H1.out hb2); clear ho2 hb2; obtain ⟨A4, c4, rfl⟩ := own_slice H2.out; obtain ⟨d5, d6, d7, d8⟩ := KH.out _ B2.out; go_wp2_with fail)
          | fail)
      go_wp2_with fail
      all_goals go_ret
      all_goals rw [HP.out]
      all_goals exact ⟨rfl, RTo.put2 HH.out B2.out H3.out H2.out⟩
    · have h1 : x ∉ R := idx_neg.1 (by omega)
      have hi2 : (0 : Int) ≤ idx F x := idx_ge (hx.resolve_left h1)
      clear hx h1
      go_enter Try.func55, Try.ntmps55
      go_wp2_with fail
      (with_reducible refine (at_ref _ _ A1 _ c1 R x R1.out (fun ad _ e => S1.out ad e) (by omega)).mono ?_)
      rintro e w1 ⟨rfl, rfl⟩
      go_wp2_with fail
      (with_reducible refine (at_ref _ _ A2 _ c2 F x R2.out (fun ad _ e => S2.out ad e) (by omega)).mono ?_)
      rintro e w1 ⟨rfl, rfl⟩
      go_wp2_with fail
      go_region_law (first
          | (go_simp; go_at_call 78; (with_reducible refine (without_wo w.drew w.heap.size A1 _ c1 R x (IntRow.drew R1.out) (fun ad _ e => S1.out ad e) (Nat.le_refl _) (by omega)).mono ?_); rintro e w1 ⟨v1, rfl, ho1, hb1⟩; have H1 : Hid (w1.ownsRow w.heap.size 3 1 v1 (wo R x).length ((wo R x).map (.int .i64))) := ho1; have B1 : Hid (Below w.heap.size w w1) := ⟨hb1.os, hb1.tape, hb1.output, hb1.size, hb1.block⟩; clear ho1 hb1; obtain ⟨A3, c3, rfl⟩ := own_slice H1.out; obtain ⟨d1, d2, d3, d4⟩ := KH.out _ B1.out; go_wp2_with fail)
          | (go_simp; go_at_call 78; (with_reducible refine (without_wo _ w.heap.size A2 _ c2 F x (IntRow.under R2.out B1.out) (fun ad _ e => S2.out ad e) B1.out.size (by omega)).mono ?_); rintro e w2 ⟨v2, rfl, ho2, hb2⟩; have H2 : Hid (w2.ownsRow w.heap.size 3 1 v2 (wo F x).length ((wo F x).map (.int .i64))) := own_more ho2 B1.out.size; have B2 : Hid (Below w.heap.size w w2) := B1.out.trans (hb2.mono B1.out.size); have H3 := Lib.hid (own_below H1.out hb2); clear ho2 hb2; obtain ⟨A4, c4, rfl⟩ := own_slice H2.out; obtain ⟨d5, d6, d7, d8⟩ := KH.out _ B2.out; go_wp2_with fail)
          | fail)
      go_wp2_with fail
      all_goals go_ret
      all_goals rw [HP.out]
      all_goals exact ⟨rfl, RTo.put2 HH.out B2.out H3.out H2.out⟩
  · have h1 : x ∉ R := fun h => hx (.inl h)
    have h2 : x ∉ F := fun h => hx (.inr h)
    have hi := idx_neg.2 h1
    have hi2 := idx_neg.2 h2
    have HP : Hid (removeS R F x = (5, R, F)) := by show _ = _; simp [removeS, h1, h2]
    clear hx h1 h2
    go_enter Try.func55, Try.ntmps55
    go_wp2_with fail
    (with_reducible refine (at_ref _ _ A1 _ c1 R x R1.out (fun ad _ e => S1.out ad e) (by omega)).mono ?_)
    rintro e w1 ⟨rfl, rfl⟩
    go_wp2_with fail
    (with_reducible refine (at_ref _ _ A2 _ c2 F x R2.out (fun ad _ e => S2.out ad e) (by omega)).mono ?_)
    rintro e w1 ⟨rfl, rfl⟩
    go_wp2_with fail
    go_wp2_with fail
    all_goals go_ret
    all_goals rw [HP.out]
    all_goals exact ⟨rfl, RTo.of_below HH.out (Below.refl _ _)⟩
end Go.Proofs.Ytpddlnedaleblaa
