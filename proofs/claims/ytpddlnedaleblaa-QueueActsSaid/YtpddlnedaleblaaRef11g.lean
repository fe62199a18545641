/- The reference's queue beside the program's: each of some numbers, and what both calls leave of the other's. -/
import Derived.Test.YtpddlnedaleblaaActs11w
import Derived.Test.YtpddlnedaleblaaRef11e
import Derived.Test.YtpddlnedaleblaaRef11d
namespace Go.Proofs.Ytpddlnedaleblaa
open Go.RowKit

theorem RTo.trans {w w1 w2 : World} {m : Nat} {a1 a2 k1 k2 : Option Nat} {R F : List Int} (hk1 : k1 = a1 ∨ fresh w k1) (hk2 : k2 = a2 ∨ fresh w k2) (os : w1.os = w.os) (tape : w1.tape = w.tape) (output : w1.output = w.output) (size : w.heap.size ≤ w1.heap.size)
    (block : ∀ k, k < w.heap.size → k ≠ m → w1.heap[k]? = w.heap[k]?) (h : RTo w1 w2 m k1 k2 R F) : RTo w w2 m a1 a2 R F := by
  obtain ⟨j1, j2, hr, n1, n2⟩ := h.at_
  have tr : ∀ {a k j : Option Nat}, (k = a ∨ fresh w k) → (j = k ∨ fresh w1 j) → (j = a ∨ fresh w j) := by
    intro a k j h1 h2
    rcases h2 with rfl | h2
    · exact h1
    · exact .inr fun i e => Nat.le_trans size (h2 i e)
  exact ⟨⟨j1, j2, hr, tr hk1 n1, tr hk2 n2⟩, h.os.trans os, h.tape.trans tape, h.output.trans output, Nat.le_trans size h.size, fun k hk hm => (h.block k (Nat.lt_of_lt_of_le hk size) hm).trans (block k hk hm)⟩

/-- A step of the reference. -/
def RStep (fid : FuncId) (S : List Int → List Int → Int → Int × List Int × List Int) : Prop :=
  ∀ (w : World) (m : Nat) (R F : List Int) (a1 a2 : Option Nat) (x : Int), QOnce R F → RefAt w m R F a1 a2 → R.length ≤ 900000 → F.length ≤ 900000 →
    Calls Try.prog fid #[.pointer (some ⟨m, 0, none⟩), .int .i64 x] w fun e w' => e = .returned (.int .i64 (S R F x).1) ∧ RTo w w' m a1 a2 (S R F x).2.1 (S R F x).2.2

theorem rstep_remove : RStep 55 removeS := fun w m R F a1 a2 x HO H hR hF => refRemove w m R F a1 a2 x HO H hR hF
theorem rstep_push : RStep 58 pushS := fun w m R F a1 a2 x _ H hR hF => refPush w m R F a1 a2 x H hR hF

def Keeps1 (S : List Int → List Int → Int → Int × List Int × List Int) : Prop := ∀ R F x, QOnce R F → QOnce (S R F x).2.1 (S R F x).2.2

set_option maxRecDepth 100000 in
set_option maxHeartbeats 4000000 in
theorem each_ref (fid : FuncId) (S : List Int → List Int → Int → Int × List Int × List Int) (hS : RStep fid S) (hslow : Slow S) (hkeeps : Keeps1 S) (hcf : ∀ (vs : Array Value) (w : World), (callFunc fid vs).run Try.prog w = .ok (.enter fid vs) w) (w : World) (m : Nat) (R F : List Int) (a1 a2 : Option Nat)
    (HO : QOnce R F) (H : RefAt w m R F a1 a2) (N : Nat) (A : Option Addr) (n c : Nat) (l : List Int) (hl : IntRow w N A n l) (hA : ∀ ad, 0 < n → A = some ad → ad.spot = none ∧ ad.block < w.heap.size ∧ ad.block ≠ m) (hn : R.length + F.length + n ≤ 900000) :
    Calls Try.prog 54 #[.slice A n c, .func (.func fid) #[.pointer (some ⟨m, 0, none⟩)] #[]] w fun e w' =>
      e = .returned (.int .i64 (eachS S l R F).1) ∧ RTo w w' m a1 a2 (eachS S l R F).2.1 (eachS S l R F).2.2 := by
  have HS := Lib.hid hS
  have HW := Lib.hid hslow
  have HK := Lib.hid hkeeps
  have HH := Lib.hid hl
  have HA := Lib.hid hA
  have hlen := hl.len
  have HL := Lib.hid hlen
  have HQ := Lib.hid H
  have HO' := Lib.hid HO
  have hm := H.r1.m_lt
  clear hS hslow hkeeps hl hA hlen H HO
  go_enter Try.func54, Try.ntmps54
  go_wp2_with fail
  go_loopw [10] (fun i wr => ∃ (k : Nat) (R' F' : List Int) (k1 k2 : Option Nat), k ≤ n ∧ i = .int .i64 k ∧ Hid (QOnce R' F' ∧ RefAt wr m R' F' k1 k2 ∧ (k1 = a1 ∨ fresh w k1) ∧ (k2 = a2 ∨ fresh w k2) ∧ RTo w wr m a1 a2 R' F' ∧ eachS S l R F = eachS S (l.drop k) R' F') ∧ R'.length + F'.length + (n - k) ≤ 900000) (fun i _ => n - (intOf i).toNat)
  case atStart => exact ⟨0, R, F, a1, a2, by omega, rfl, ⟨HO'.out, HQ.out, .inl rfl, .inl rfl, RTo.of_below HQ.out (Below.refl _ _), by simp⟩, by omega⟩
  case round =>
    obtain ⟨k, R', F', k1, k2, hk, rfl, HR, hb⟩ := hrel
    have hfr := HR.out.2.2.2.2.1
    have hsz := hfr.size
    by_cases hlt : k < n
    · have hl' : IntRow wr N A n l := IntRow.below HH.out (fun ad e => by
        obtain ⟨_, h1, h2⟩ := HA.out ad (by omega) e
        exact hfr.block _ h1 h2)
      obtain ⟨g, off, y, rfl, hy, hc⟩ := hl'.at_ (fun ad e => (HA.out ad (by omega) e).1) hlt
      have HY := Lib.hid hy
      have HD : Hid (l.drop k = y :: l.drop (k + 1)) := by
        rw [List.drop_eq_getElem_cons (by rw [← HL.out]; exact hlt)]
        congr 1
        have h1 := HY.out
        rw [List.getElem?_eq_getElem (by rw [← HL.out]; exact hlt)] at h1
        injection h1
      have HC := Lib.hid (HS.out wr m R' F' k1 k2 y HR.out.1 HR.out.2.1 (by omega) (by omega))
      have HV := Lib.hid (HW.out R' F' y)
      have HO2 := Lib.hid (HK.out R' F' y HR.out.1)
      clear hy hl' hfr
      go_wp2_with fail
      refine HC.out.mono ?_
      rintro e w1 ⟨rfl, hto⟩
      have htr := RTo.trans HR.out.2.2.1 HR.out.2.2.2.1 HR.out.2.2.2.2.1.os HR.out.2.2.2.2.1.tape HR.out.2.2.2.2.1.output HR.out.2.2.2.2.1.size HR.out.2.2.2.2.1.block hto
      by_cases h0 : (S R' F' y).1 = 0
      · have hE := HR.out.2.2.2.2.2
        rw [HD.out, eachS_go h0] at hE
        have HE : Hid (∃ j1 j2, QOnce (S R' F' y).2.1 (S R' F' y).2.2 ∧ RefAt w1 m (S R' F' y).2.1 (S R' F' y).2.2 j1 j2 ∧ (j1 = a1 ∨ fresh w j1) ∧ (j2 = a2 ∨ fresh w j2) ∧ RTo w w1 m a1 a2 (S R' F' y).2.1 (S R' F' y).2.2 ∧ eachS S l R F = eachS S (l.drop (k + 1)) (S R' F' y).2.1 (S R' F' y).2.2) := by
          obtain ⟨j1, j2, hr, n1, n2⟩ := htr.at_
          exact ⟨j1, j2, HO2.out, hr, n1, n2, htr, hE⟩
        have hb' : (S R' F' y).2.1.length + (S R' F' y).2.2.length + (n - (k + 1)) ≤ 900000 := by have := HV.out; omega
        rw [h0]
        clear h0 hE hto htr HC
        go_wp2_with fail
        obtain ⟨j1, j2, HE'⟩ := HE.out
        go_roundw
        case rel => exact ⟨k + 1, _, _, j1, j2, by omega, by go_num, HE', hb'⟩
        case measure => simp [intOf]; omega
      · have hE := HR.out.2.2.2.2.2
        rw [HD.out, eachS_stop h0] at hE
        have HE := Lib.hid hE
        have HT := Lib.hid htr
        have hne : ((S R' F' y).1 != 0) = true := by simpa using h0
        clear h0 hE hto htr HC
        go_wp2_with fail
        go_ret
        rw [HE.out]
        exact ⟨rfl, HT.out⟩
    · obtain rfl : k = n := by omega
      have hE := HR.out.2.2.2.2.2
      rw [List.drop_of_length_le (by rw [← HL.out]; exact Nat.le_refl _)] at hE
      have HE := Lib.hid hE
      clear hE hfr
      go_wp2_with fail
      go_ret
      rw [HE.out]
      exact ⟨rfl, HR.out.2.2.2.2.1⟩

/-- The program's queue, and the reference's. -/
structure QR (W w : World) (b m : Nat) (R F R' F' : List Int) (g1 g2 a1 a2 : Option Nat) : Prop where
  q : QSt W w b R F g1 g2
  r : RefAt w m R' F' a1 a2
  hm : QAp w b g1 g2 m
  h1 : ∀ k, a1 = some k → QAp w b g1 g2 k
  h2 : ∀ k, a2 = some k → QAp w b g1 g2 k
  Wm : W.heap.size ≤ m

/-- Behind a call of the program's queue. -/
theorem QR.keep {W w w' : World} {b m : Nat} {R F R' F' R2 F2 : List Int} {g1 g2 a1 a2 k1 k2 : Option Nat} (h : QR W w b m R F R' F' g1 g2 a1 a2) (hq : QSt W w' b R2 F2 k1 k2) (hk : QKeep w w' b g1 g2 k1 k2) : QR W w' b m R2 F2 R' F' k1 k2 a1 a2 :=
  ⟨hq, h.r.stays hk.size (hk.eq m h.hm) (fun k e => hk.eq k (h.h1 k e)) (fun k e => hk.eq k (h.h2 k e)), hk.ap m h.hm, fun k e => hk.ap k (h.h1 k e), fun k e => hk.ap k (h.h2 k e), h.Wm⟩

theorem QAp.more {w w' : World} {b : Nat} {g1 g2 : Option Nat} {k : Nat} (h : QAp w b g1 g2 k) (hs : w.heap.size ≤ w'.heap.size) : QAp w' b g1 g2 k := ⟨Nat.lt_of_lt_of_le h.lt hs, h.nb, h.n1, h.n2⟩

/-- Behind a call of the reference's. -/
theorem QR.to {W w w' : World} {b m : Nat} {R F R' F' R2 F2 : List Int} {g1 g2 a1 a2 : Option Nat} (h : QR W w b m R F R' F' g1 g2 a1 a2) (ht : RTo w w' m a1 a2 R2 F2) : ∃ k1 k2, QR W w' b m R F R2 F2 g1 g2 k1 k2 := by
  obtain ⟨k1, k2, hr, n1, n2⟩ := ht.at_
  have hb := h.q.at_.r1.lt
  have fr : ∀ {a k : Option Nat}, (k = a ∨ fresh w k) → (∀ j, a = some j → QAp w b g1 g2 j) → RefAt w' m R2 F2 k1 k2 → (∀ j, k = some j → j < w'.heap.size) → ∀ j, k = some j → QAp w' b g1 g2 j := by
    intro a k hk ha _ hlt j e
    rcases hk with rfl | hk
    · exact (ha j e).more ht.size
    · have hj := hk j e
      exact ⟨hlt j e, fun e' => by omega, fun e' => by have := (h.q.at_.r1.g_lt j e'.symm).2; omega, fun e' => by have := (h.q.at_.r2.g_lt j e'.symm).2; omega⟩
  refine ⟨k1, k2, ⟨h.q.at_.stays (ht.block b hb (fun e => h.hm.nb e.symm)) (fun k e => ht.block k (h.q.at_.r1.g_lt k e).2 (fun e' => h.hm.n1 (by rw [e, e']))) (fun k e => ht.block k (h.q.at_.r2.g_lt k e).2 (fun e' => h.hm.n2 (by rw [e, e']))), ?_, h.q.hb⟩, hr, h.hm.more ht.size, fr n1 h.h1 hr hr.r1.lt, fr n2 h.h2 hr hr.r2.lt, h.Wm⟩
  exact ⟨ht.os.trans h.q.below.os, ht.tape.trans h.q.below.tape, ht.output.trans h.q.below.output, Nat.le_trans h.q.below.size ht.size, fun k hk => (ht.block k (Nat.lt_of_lt_of_le hk h.q.below.size) (fun e => by have := h.Wm; omega)).trans (h.q.below.block k hk)⟩

/-- Only new blocks. -/
theorem QR.of_below {W w w' : World} {b m : Nat} {R F R' F' : List Int} {g1 g2 a1 a2 : Option Nat} (h : QR W w b m R F R' F' g1 g2 a1 a2) (hb : Below w.heap.size w w') : QR W w' b m R F R' F' g1 g2 a1 a2 :=
  h.keep (h.q.of_below hb).1 (h.q.of_below hb).2

theorem QR.row1 {W w : World} {b m : Nat} {R F R' F' : List Int} {g1 g2 a1 a2 : Option Nat} (h : QR W w b m R F R' F' g1 g2 a1 a2) : ∃ A c, w.cell? ⟨m, 0, none⟩ = some (.slice A R'.length c) ∧ Arg w b g1 g2 A R'.length R' ∧ w.frozen? ⟨m, 0, none⟩ = false := by
  obtain ⟨A, c, hc, hr, hA, e⟩ := h.r.r1.val
  exact ⟨A, c, hc, ⟨hr, fun ad _ e2 => ⟨hA ad e2, h.h1 _ (by rw [← e, e2]; rfl)⟩⟩, h.r.r1.frz⟩
theorem QR.row2 {W w : World} {b m : Nat} {R F R' F' : List Int} {g1 g2 a1 a2 : Option Nat} (h : QR W w b m R F R' F' g1 g2 a1 a2) : ∃ A c, w.cell? ⟨m, 1, none⟩ = some (.slice A F'.length c) ∧ Arg w b g1 g2 A F'.length F' ∧ w.frozen? ⟨m, 1, none⟩ = false := by
  obtain ⟨A, c, hc, hr, hA, e⟩ := h.r.r2.val
  exact ⟨A, c, hc, ⟨hr, fun ad _ e2 => ⟨hA ad e2, h.h2 _ (by rw [← e, e2]; rfl)⟩⟩, h.r.r2.frz⟩

/-- Both new. -/
theorem QR.new {W w : World} (h : Below W.heap.size W w) (T T' : TypeId) : QR W ((w.alloc (.cells #[.slice none 0 0, .slice none 0 0] T)).alloc (.cells #[.slice none 0 0, .slice none 0 0] T')) w.heap.size (w.heap.size + 1) [] [] [] [] none none none none := by
  have hq := QSt.new h T
  have hsz : (w.alloc (.cells #[.slice none 0 0, .slice none 0 0] T)).heap.size = w.heap.size + 1 := by simp
  refine ⟨(hq.alloc _).1, ⟨⟨⟨none, 0, ?_, ⟨by simp, fun h => absurd h (by simp)⟩, nofun, rfl⟩, ?_, by simp, nofun⟩, ⟨⟨none, 0, ?_, ⟨by simp, fun h => absurd h (by simp)⟩, nofun, rfl⟩, ?_, by simp, nofun⟩⟩, ⟨by simp, by simp, by simp, by simp⟩, nofun, nofun, by have := h.size; omega⟩
  all_goals (rw [← hsz]; first | (rw [World.cell?_alloc_new]; rfl) | go_simp)
end Go.Proofs.Ytpddlnedaleblaa
