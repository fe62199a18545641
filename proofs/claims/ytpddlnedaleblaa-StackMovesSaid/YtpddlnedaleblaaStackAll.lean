/- All places of a stack, walked. -/
import Derived.Test.YtpddlnedaleblaaStepV
import Derived.Test.YtpddlnedaleblaaSlInts2
namespace Go.Proofs.Ytpddlnedaleblaa
open Go.RowKit

theorem nodup_bd : ∀ (N : Nat) (l : List Int), l.Nodup → (∀ p ∈ l, 0 ≤ p ∧ p < (N : Int)) → l.length ≤ N
  | 0, l, _, hb => by
    cases l with
    | nil => simp
    | cons p r => have := hb p (by simp); omega
  | N + 1, l, hn, hb => by
    have h1 := nodup_bd N (l.erase (N : Int)) (hn.erase _) (fun p hp => by
      have h2 := hn.mem_erase_iff.1 hp
      have h3 := hb p h2.2
      have : p ≠ (N : Int) := h2.1
      omega)
    by_cases hm : (N : Int) ∈ l
    · rw [List.length_erase_of_mem hm] at h1
      omega
    · rw [List.erase_of_not_mem hm] at h1
      omega

theorem StackAt.len {w : World} {b o : Nat} {L : List Int} {t n : Int} (H : StackAt w b o L t n) : L.length ≤ 64 := nodup_bd 64 L H.nd H.bd

theorem Lnk.drop {bel : Nat → Int} : ∀ {L : List Int}, Lnk bel L → ∀ k, Lnk bel (L.drop k)
  | [], _, k => by simp [Lnk]
  | p :: r, h, 0 => h
  | p :: r, h, k + 1 => Lnk.drop h.2 k

def sliceLen : Value → Nat
  | .slice _ n _ => n
  | _ => 0

set_option maxRecDepth 100000 in
set_option maxHeartbeats 2000000 in
theorem allS_any {w : World} {b o : Nat} {L : List Int} {t n : Int} (H : StackAt w b o L t n) :
    Calls Try.prog 41 #[.pointer (some ⟨b, o, none⟩)] w (NewInts w L) := by
  obtain ⟨bel, ho, hl, hbl⟩ := H.obj
  have hlen := H.len
  have hto : w.cell? ⟨b, o + 131, none⟩ = some (.int .i64 (hd L + 1)) := ho.at_ (by omega) (by simp [stkV])
  have HH := Lib.hid H
  have HO := Lib.hid ho
  have HL := Lib.hid hl
  have hbw := ho.lt (by omega)
  obtain ⟨i0, hi0, hz0, hz1, hz2⟩ := info_parts info_int
  clear H ho hl
  go_enter Try.func41, Try.ntmps41
  go_wp2_with fail
  go_loopw [2, 3] (fun v x wr => ∃ (k : Nat) (A : Option Addr) (c : Nat), k ≤ L.length ∧ v = .slice A k c ∧ x = .int .i64 (hd (L.drop k) + 1) ∧ w.heap.size ≤ wr.heap.size ∧ Hid (wr.ownsRow w.heap.size 3 1 (.slice A k c) k ((L.take k).map (.int .i64))) ∧ Hid (Below w.heap.size w wr)) (fun v _ _ => L.length - sliceLen v)
  case atStart => exact ⟨0, none, 0, by omega, rfl, by simp, Nat.le_refl _, ⟨rfl, .inl ⟨rfl, rfl⟩⟩, Below.refl _ _⟩
  case round =>
    obtain ⟨k, A, c, hk, rfl, rfl, hsz, HR, HB⟩ := hrel
    by_cases hlt : k < L.length
    · have hd1 : Hid (L.drop k = L[k] :: L.drop (k + 1)) := List.drop_eq_getElem_cons hlt
      have hbd := HH.out.bd L[k] (List.getElem_mem hlt)
      obtain ⟨q, hq⟩ : ∃ q : Nat, L[k] = (q : Int) := ⟨L[k].toNat, by omega⟩
      have hq64 : q < 64 := by omega
      have hlk : Hid (bel q = hd (L.drop (k + 1))) := by
        have h := HL.out.drop k
        rw [hd1.out, hq] at h
        have h2 := h.1
        simpa [Hid] using h2
      have hx : hd (L.drop k) = (q : Int) := by rw [hd1.out, hq]; rfl
      have htk : Hid (L.take (k + 1) = L.take k ++ [(q : Int)]) := by
        show _ = _
        rw [List.take_add_one, List.getElem?_eq_getElem hlt, hq]
        rfl
      have hbe : wr.cell? ⟨b, o + 3 + q, none⟩ = some (.int .i64 (hd (L.drop (k + 1)))) := by
        have h := HO.out.at_ (j := 3 + q) (by omega) (v := .int .i64 (bel q)) (by
          simp only [stkV]
          rw [if_neg (by omega), if_neg (by omega), if_neg (by omega), if_pos (by omega)]
          rw [show 3 + q - 3 = q by omega])
        rw [HB.out.cell (p := ⟨b, o + 3 + q, none⟩) hbw, ← hlk.out, ← h]; congr 2; omega
      have hn2 := hbl q hq64
      rw [hlk.out] at hn2
      rw [hx]
      have hq0 : (0 : Int) ≤ (q : Int) := by omega
      have hq1 : (q : Int) < 64 := by omega
      have hk64 : (k : Int) < 64 := by omega
      clear hd1 hx hq hbd hbl
      generalize hy : hd (L.drop (k + 1)) = y at *
      have HY := Lib.hid hy
      clear hy hlk
      go_wp2_with (first
        | (at_builtin
           refine wpList_append_any _ rfl (.tmp 25) (.tmp 28) _ rfl w.heap.size 3 i0 _ 1 8 Try.underlying51 hi0 hz0 hz1 hz2 rfl (by omega) _ k ((L.take k).map (.int .i64)) rfl
             (HR.out.alloc _) _ _ 1 1 [.int .i64 (q : Int)] rfl (Reads.new1 wr _ _) (fun u hu => by simp at hu; subst hu; rfl) (by simp only [maxLen]; omega) (by omega) (by simp; omega) ?_
           intro v1 w1 hown1 hg1 hat1
           have HB1 : Hid (Below w.heap.size w w1) := (HB.out.alloc hsz _).grown hg1 (by simp; omega) (fun j e => (HR.out.lt j e).1)
           have H1 : Hid (w1.ownsRow w.heap.size 3 1 v1 (k + 1) ((L.take (k + 1)).map (.int .i64))) := by
             show World.ownsRow _ _ _ _ _ _ _
             rw [htk.out]
             simpa using hown1
           have hs1 : w.heap.size ≤ w1.heap.size := HB1.out.size
           have hbe1 : w1.cell? ⟨b, o + 3 + q, none⟩ = some (.int .i64 y) := by
             rw [HB1.out.cell (p := ⟨b, o + 3 + q, none⟩) hbw, ← HB.out.cell (p := ⟨b, o + 3 + q, none⟩) hbw]; exact hbe
           obtain ⟨g1, c1, rfl, _⟩ := H1.out.form (by omega)
           clear hown1 hg1 hat1 hbe)
        | fail)
      go_roundw
      case rel => exact ⟨k + 1, _, c1, by omega, rfl, by rw [HY.out], hs1, H1, HB1⟩
      case measure => simp [sliceLen]; omega
    · obtain rfl : k = L.length := by omega
      have hx : hd (L.drop L.length) + 1 = 0 := by simp [hd]
      rw [hx]
      clear hx
      go_wp2_with fail
      go_ret
      exact ⟨_, rfl, by simpa using HR.out, HB.out⟩
end Go.Proofs.Ytpddlnedaleblaa
