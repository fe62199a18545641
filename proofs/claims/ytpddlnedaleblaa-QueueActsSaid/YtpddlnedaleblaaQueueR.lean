/- queue.Queue's Ready, Full, All, walked. -/
import Derived.Test.YtpddlnedaleblaaQueueS
import Derived.Test.YtpddlnedaleblaaSlInts2
namespace Go.Proofs.Ytpddlnedaleblaa
open Go.RowKit

/-- A clone of a row that is owned. -/
theorem clone_row {w : World} {B b o : Nat} {l : List Int} {g : Option Nat} (H : RowAt w B b o l g) (hn : l.length ≤ 1000000) :
    ∃ v, w.cell? ⟨b, o, none⟩ = some v ∧ (∃ A n c, v = .slice A n c) ∧ Hid (Calls Try.prog 67 #[v] w (NewInts w l)) := by
  obtain ⟨⟨v, hv, hown, _⟩, _, _⟩ := H
  refine ⟨v, hv, ?_, ?_⟩
  · rcases hown.2 with ⟨rfl, _⟩ | ⟨g, cap, cur, rfl, _⟩
    · exact ⟨_, _, _, rfl⟩
    · exact ⟨_, _, _, rfl⟩
  · have hr := hown
    rcases hown.2 with ⟨rfl, h0⟩ | ⟨g, cap, cur, rfl, _⟩
    · obtain rfl := List.eq_nil_of_length_eq_zero h0
      exact clone_nil w
    · exact clone_some w w.heap.size _ _ _ l (Reads.of_own hr) (Nat.le_refl _) hn

set_option maxRecDepth 100000 in
set_option maxHeartbeats 1000000 in
theorem ready_any (w : World) (B b o : Nat) (R F : List Int) (g1 g2 : Option Nat) (H : QueueAt w B b o R F g1 g2) (hn : R.length ≤ 1000000) :
    Calls Try.prog 33 #[.pointer (some ⟨b, o, none⟩)] w (NewInts w R) := by
  obtain ⟨v, hv, ⟨A, n, c, rfl⟩, HC⟩ := clone_row H.r1 hn
  clear H
  go_enter Try.func33, Try.ntmps33
  go_wp2_with fail
  refine HC.out.mono ?_
  rintro e w1 ⟨v1, rfl, ho, hb⟩
  have HO := Lib.hid ho
  have HB := Lib.hid hb
  clear ho hb
  go_wp2_with fail
  go_ret
  exact ⟨_, rfl, HO.out, HB.out⟩

set_option maxRecDepth 100000 in
set_option maxHeartbeats 1000000 in
theorem full_any (w : World) (B b o : Nat) (R F : List Int) (g1 g2 : Option Nat) (H : QueueAt w B b o R F g1 g2) (hn : F.length ≤ 1000000) :
    Calls Try.prog 34 #[.pointer (some ⟨b, o, none⟩)] w (NewInts w F) := by
  obtain ⟨v, hv, ⟨A, n, c, rfl⟩, HC⟩ := clone_row H.r2 hn
  clear H
  go_enter Try.func34, Try.ntmps34
  go_wp2_with fail
  refine HC.out.mono ?_
  rintro e w1 ⟨v1, rfl, ho, hb⟩
  have HO := Lib.hid ho
  have HB := Lib.hid hb
  clear ho hb
  go_wp2_with fail
  go_ret
  exact ⟨_, rfl, HO.out, HB.out⟩

theorem own_slice {w : World} {B : Nat} {v : Value} {l : List Int} (h : w.ownsRow B 3 1 v l.length (l.map (.int .i64))) : ∃ A c, v = .slice A l.length c := by
  obtain ⟨A, c, e, _⟩ := own_ints_shape h
  exact ⟨A, c, e⟩

set_option maxRecDepth 100000 in
set_option maxHeartbeats 2000000 in
theorem all_any (w : World) (B b o : Nat) (R F : List Int) (g1 g2 : Option Nat) (H : QueueAt w B b o R F g1 g2) (hR : R.length ≤ 1000000) (hF : F.length ≤ 1000000) :
    Calls Try.prog 52 #[.pointer (some ⟨b, o, none⟩)] w (NewInts w (R ++ F)) := by
  have HQ := Lib.hid H
  clear H
  go_enter Try.func52, Try.ntmps52
  go_wp2_with fail
  (with_reducible refine (ready_any _ B b o R F g1 g2 HQ.out hR).mono ?_)
  rintro e w1 ⟨v1, rfl, ho1, hb1⟩
  obtain ⟨A1, c1, rfl⟩ := own_slice ho1
  have O1 := Lib.hid ho1
  have B1 := Lib.hid hb1
  clear ho1 hb1
  go_wp2_with fail
  (with_reducible refine (full_any _ B b o R F g1 g2 (HQ.out.below B1.out (Nat.le_refl _)) hF).mono ?_)
  rintro e w2 ⟨v2, rfl, ho2, hb2⟩
  obtain ⟨A2, c2, rfl⟩ := own_slice ho2
  have O2 := Lib.hid ho2
  have B2 := Lib.hid hb2
  have hz : w.heap.size ≤ w2.heap.size := Nat.le_trans B1.out.size B2.out.size
  clear ho2 hb2
  have r1 : IntRow (w2.alloc (.cells #[.slice A1 R.length c1, .slice A2 F.length c2] 51)) (w2.heap.size + 1) A1 R.length R := by
    have h : IntRow w1 w1.heap.size A1 R.length R := Reads.of_own O1.out
    exact Reads.more (Reads.alloc (Reads.more (Reads.below h B2.out) B2.out.size) (Nat.le_refl _) _) (by omega)
  have r2 : IntRow (w2.alloc (.cells #[.slice A1 R.length c1, .slice A2 F.length c2] 51)) (w2.heap.size + 1) A2 F.length F := by
    have h : IntRow w2 w2.heap.size A2 F.length F := Reads.of_own O2.out
    exact Reads.more (Reads.alloc h (Nat.le_refl _) _) (by omega)
  have Q1 := Lib.hid r1
  have Q2 := Lib.hid r2
  clear r1 r2
  go_wp2_with fail
  (with_reducible refine (concat_two _ w2.heap.size A1 A2 R.length c1 F.length c2 R F (by go_simp) (by go_simp) (by simpa using Q1.out) (by simpa using Q2.out) hR hF).mono ?_)
  rintro e w3 ⟨v3, rfl, ho3, hb3⟩
  obtain ⟨A3, c3, rfl⟩ := own_slice ho3
  have O3 := Lib.hid ho3
  have B3 := Lib.hid hb3
  clear ho3 hb3
  go_wp2_with fail
  go_ret
  refine ⟨.slice A3 (R ++ F).length c3, by simp, ?_, ?_⟩
  · obtain ⟨h1, h2⟩ := O3.out
    refine ⟨h1, ?_⟩
    rcases h2 with hn | ⟨g, cap, cur, e, hg, r⟩
    · exact .inl hn
    · exact .inr ⟨g, cap, cur, e, by simp at hg; omega, r⟩
  · exact ((B1.out.trans (B2.out.mono B1.out.size)).alloc hz _).trans (B3.out.mono (by simp; omega))

end Go.Proofs.Ytpddlnedaleblaa
