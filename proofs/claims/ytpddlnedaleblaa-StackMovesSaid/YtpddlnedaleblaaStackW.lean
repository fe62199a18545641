/- The stack of layer 13, walked: at whatever place (b, o) it lies. -/
import Derived.Test.YtpddlnedaleblaaObj
namespace Go.Proofs.Ytpddlnedaleblaa
open Go.RowKit

/-- Who is on top: -1: nobody. -/
def hd : List Int → Int
  | [] => -1
  | p :: _ => p

def Lnk (bel : Nat → Int) : List Int → Prop
  | [] => True
  | p :: r => bel p.toNat = hd r ∧ Lnk bel r

def stkV (L : List Int) (t n : Int) (bel : Nat → Int) (j : Nat) : Value :=
  if j = 0 then .int .u64 (hd L + 1) else if j = 1 then .int .u64 t else if j = 2 then .int .i64 n else if j < 67 then .int .i64 (bel (j - 3))
  else if j < 131 then .bool (decide (((j - 67 : Nat) : Int) ∈ L)) else .int .i64 (hd L + 1)

structure StackAt (w : World) (b o : Nat) (L : List Int) (t n : Int) : Prop where
  obj : ∃ bel, Obj_ w b o 132 (stkV L t n bel) ∧ Lnk bel L ∧ ∀ j, j < 64 → -1 ≤ bel j ∧ bel j < 64
  nd : L.Nodup
  bd : ∀ p ∈ L, 0 ≤ p ∧ p < 64

theorem hd_bd {L : List Int} (h : ∀ p ∈ L, 0 ≤ p ∧ p < 64) : -1 ≤ hd L ∧ hd L < 64 := by
  cases L with
  | nil => simp [hd]
  | cons p r => have := h p (by simp); simp only [hd]; omega

theorem stkV_n {L : List Int} {t n m : Int} {bel : Nat → Int} : ∀ j, j < 132 → upd (stkV L t n bel) 2 (.int .i64 m) j = stkV L t m bel j := fun j _ => by
  unfold upd stkV
  by_cases h : j = 2
  · subst h; simp
  · simp [h]

set_option maxHeartbeats 400000 in
theorem is_any (w : World) (p : Int) : Calls Try.prog 72 #[.int .i64 p] w fun e w' => e = .returned (.bool (decide (0 ≤ p ∧ p < 64))) ∧ w = w' := by
  by_cases h0 : 0 ≤ p
  · go_enter Try.func72, Try.ntmps72
    go_wp2_with fail
    go_ret
    exact ⟨by simp [h0], rfl⟩
  · go_enter Try.func72, Try.ntmps72
    go_wp2_with fail
    go_ret
    exact ⟨by simp; omega, rfl⟩

set_option maxRecDepth 100000 in
set_option maxHeartbeats 1000000 in
theorem look_any {w : World} {b o : Nat} {L : List Int} {t n : Int} (H : StackAt w b o L t n) (h0 : 0 ≤ n) (h1 : n < 4611686018427387904) :
    Calls Try.prog 46 #[.pointer (some ⟨b, o, none⟩)] w fun e w' => e = .returned (.tuple #[.int .i64 (hd L), .int .u64 t]) ∧ StackAt w' b o L t (n + 1) ∧ Only w w' b := by
  obtain ⟨bel, ho, hl, hbl⟩ := H.obj
  have hc : CellAt w b o (hd L + 1) t n := ho.cellAt (by omega) rfl rfl rfl
  have hh := hd_bd H.bd
  have HH := Lib.hid H
  have HO := Lib.hid ho
  have HC := Lib.hid hc
  clear H ho hc
  generalize hx : hd L = x at *
  go_enter Try.func46, Try.ntmps46
  go_wp2_with fail
  (with_reducible refine (load_any b o (x + 1) t n _ HC.out h0 h1).mono ?_)
  rintro e w1 ⟨rfl, k, hw⟩
  have HW := Lib.hid hw
  clear hw
  go_wp2_with fail
  go_ret2
  have h := HW.out
  subst h
  refine ⟨by simp, ⟨⟨bel, ((HO.out.set (i := 2) (by omega) _).congr stkV_n).drewN k, hl, hbl⟩, HH.out.nd, HH.out.bd⟩, ((Only.refl w b).set _ _).drewN k⟩

end Go.Proofs.Ytpddlnedaleblaa
