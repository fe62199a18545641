/- CellActs, walked: through any acts what each answers, and how often it was asked, are the document's. -/
import Derived.Test.YtpddlnedaleblaaCellTags
import Derived.Test.YtpddlnedaleblaaRef08
import Derived.Deep.RegionHeld3
import Derived.Deep.DeepCutAuto
namespace Go.Proofs.Ytpddlnedaleblaa
open Go.ChangeShapes Go.WideShapes Go.RowKit

theorem CellAt.drew {w : World} {b o : Nat} {x t n : Int} (h : CellAt w b o x t n) : CellAt w.drew b o x t n := ⟨h.c0, h.c1, h.c2, h.f0, h.f1, h.f2⟩
theorem CellAt.drewN {w : World} {b o : Nat} {x t n : Int} (h : CellAt w b o x t n) (k : Nat) : CellAt (w.drewN k) b o x t n := ⟨h.c0, h.c1, h.c2, h.f0, h.f1, h.f2⟩
theorem AskRow.drew {w : World} {A : Option Addr} {len : Nat} {f : Nat → Option (Nat × Nat × Int)} (h : AskRow w A len f) : AskRow w.drew A len f := ⟨h.at_, h.cell⟩
theorem ActIn.drew {w : World} {d : Nat} {K T X : Int} (h : ActIn w d K T X) : ActIn w.drew d K T X := ⟨h.a0, h.a1, h.a2⟩
theorem lastD_snoc (L : List Int) (x : Int) : lastD (L ++ [x]) = x := by simp [lastD]

structure ActsRel (W : World) (b r : Nat) (k : Nat) (wr : World) : Prop where
  at_ : ∃ L : List Int, L.length ≤ k ∧ CellAt wr b 0 (lastD L) L.length k ∧ RefAt wr r b L k
  below : Below W.heap.size W wr
  size : b < wr.heap.size ∧ r < wr.heap.size

theorem acts_end (W : World) (b r k : Nat) (w : World) (L : List Int) (hL : L.length ≤ k + 1) {x t : Int} {T : TypeId} {c : Array Value} (V : CellAt w b 0 x t ((k : Int) + 1)) (P : RefAt w r b L ((k : Int) + 1)) (B : Below W.heap.size W w)
    (Z : b < w.heap.size) (R : r < w.heap.size) (hrb : r ≠ b) (hW : W.heap.size ≤ b) (hx : x = lastD L ∧ t = L.length) : ActsRel W b r (k + 1) (w.alloc (.cells c T)).drew := by
  obtain ⟨rfl, rfl⟩ := hx
  refine ⟨⟨L, hL, (V.alloc Z _).drew, ?_⟩, (B.alloc (by omega) _).drew, by simp; omega, by simp; omega⟩
  have := (P.kept (World.grownBy_alloc w (.cells c T) (some w.heap.size)) (by omega) (.inr (Nat.le_refl _))).drewN 1
  exact this

set_option maxRecDepth 100000 in
set_option maxHeartbeats 4000000 in
theorem acts_walk (W : World) (A : Option Addr) (n c : Nat) (K T X : Nat → Int) (hn : n ≤ c) (hc : c ≤ maxLen) (hf : ActsAt W A n K T X) :
    Calls Try.prog 5 #[.slice A n c] W (TrueBelow W) := by
  have HF := Lib.hid hf
  clear hf
  unfold maxLen at hc
  go_enter Try.func5, Try.ntmps5
  go_wp2_with fail
  refine (alive08 W).mono ?_
  rintro e w1 ⟨rfl, B1⟩
  have Z1 := B1.size
  by_cases hbig : (300 : Int) < n
  · go_wp2_with fail
    go_ret
    exact ⟨rfl, B1⟩
  · go_wp2_with fail
    have hR : ActsRel W w1.heap.size (w1.heap.size + 1) 0 ((w1.alloc (.cells #[.int .u64 0, .int .u64 0, .int .i64 0] 26)).alloc (.cells #[.slice none 0 0, .int .i64 0] 41)) := by
      refine ⟨⟨[], by simp, (CellAt.new w1 _).alloc (by simp) _, ⟨⟨none, 0, by go_simp, Reads.none_, (fun _ e => by cases e), Nat.le_refl _, Nat.zero_le _⟩, by go_simp, by go_simp, by go_simp⟩⟩, (B1.alloc Z1 _).alloc (by simp; omega) _, by simp; omega, by simp⟩
    obtain ⟨b, hb⟩ : ∃ b, b = w1.heap.size := ⟨_, rfl⟩
    obtain ⟨r, hr⟩ : ∃ r, r = w1.heap.size + 1 := ⟨_, rfl⟩
    have hrb : r ≠ b := by omega
    have Zr : W.heap.size ≤ r := by omega
    rw [← hr, ← hb] at hR
    rw [← hr, ← hb]
    rw [← hb] at Z1
    clear hb hr B1
    go_loopw [20] (fun i wr => ∃ k : Nat, k ≤ n ∧ i = .int .i64 k ∧ ActsRel W b r k wr) (fun i _ => n - (intOf i).toNat)
    case atStart => exact ⟨0, by omega, rfl, hR⟩
    case round =>
      clear hR
      obtain ⟨k, hk, rfl, ⟨L, hL, C0, M0⟩, B0, Z0, R0⟩ := hrel
      by_cases hlt : k < n
      · obtain ⟨g, off, rfl, hg, h0', h1', h2'⟩ := HF.out k hlt
        have h0 := (B0.cell (p := ⟨g, off + k * 3, none⟩) hg).trans h0'
        have h1 := (B0.cell (p := ⟨g, off + k * 3 + 1, none⟩) hg).trans h1'
        have h2 := (B0.cell (p := ⟨g, off + k * 3 + 2, none⟩) hg).trans h2'
        clear h0' h1' h2'
        have C1 := C0.alloc Z0 (.cells #[.int .i64 (K k), .int .u64 (T k), .int .u64 (X k)] 43)
        have D1 := ActIn.new wr (K k) (T k) (X k) 43
        have B1 := B0.alloc (by omega) (.cells #[.int .i64 (K k), .int .u64 (T k), .int .u64 (X k)] 43)
        have M1 := M0.kept (World.grownBy_alloc wr (.cells #[.int .i64 (K k), .int .u64 (T k), .int .u64 (X k)] 43) (some wr.heap.size)) (by omega) (.inr (Nat.le_refl _))
        generalize K k = kk at *
        generalize T k = tt at *
        generalize X k = xx at *
        obtain ⟨d, hd⟩ : ∃ d, d = wr.heap.size := ⟨_, rfl⟩
        obtain ⟨wa, hwa⟩ : ∃ wa, wa = wr.alloc (.cells #[.int .i64 kk, .int .u64 tt, .int .u64 xx] 43) := ⟨_, rfl⟩
        have Y1 : d < wa.heap.size := by rw [hwa, hd]; simp
        have hdb : d ≠ b := by omega
        have hdr : d ≠ r := by omega
        have Z1 : b < wa.heap.size := by omega
        have R1 : r < wa.heap.size := by omega
        rw [← hwa] at C1 B1 D1 M1
        rw [← hd] at D1
        have HD := Lib.hid hd
        have HW := Lib.hid hwa
        have HC := Lib.hid C1
        have HM := Lib.hid M1
        have HDD := Lib.hid D1
        have HB := Lib.hid B1
        clear hd hwa C1 M1 D1 B1 M0 C0 B0
        have open_ : ∀ (P : World → Nat → Prop), P wa d → P (wr.alloc (.cells #[.int .i64 kk, .int .u64 tt, .int .u64 xx] 43)) wr.heap.size := fun P h => by
          rw [← HD.out, ← HW.out]; exact h
        have OP := Lib.hid open_
        clear open_
        have hwr : IntKind.u64.wrap ((L.length : Int) + 1) = (L.length : Int) + 1 := by simp only [IntKind.wrap_u64]; omega
        have HWR := Lib.hid hwr
        clear hwr
        by_cases hk1 : kk = 1
        · have q1 : (kk == 1) = true := by simpa using hk1
          clear hk1
          go_wp2_with fail
          clear h0 h1 h2
          rw [← HD.out, ← HW.out]
          have C1 := HC.out
          have M1 := HM.out
          have D1 := HDD.out
          have B1 := HB.out
          (with_reducible refine (store_to xx C1 (by omega) (by omega)).mono ?_)
          rintro e w2 ⟨rfl, C2, G2, S2⟩
          have B2 := below_at B1 G2 (by omega) (by omega)
          have Z2 : b < w2.heap.size := (by omega)
          have Y2 : d < w2.heap.size := (by omega)
          have R2 : r < w2.heap.size := (by omega)
          have D2 := D1.kept G2 hdb
          have M2 := M1.kept G2 hrb (.inl rfl)
          clear S2 G2 B1 C1 M1
          rw [HWR.out] at C2
          have a2 := D2.a2
          go_wp2_with fail
          clear a2
          (with_reducible refine (refswap_any r b L k xx _ M2 (by omega) (by omega) (by omega) Z2 hrb).mono ?_)
          rintro e w3 ⟨rfl, M3, G3⟩
          have B3 := below_at B2 G3 (by omega) (by omega)
          have Z3 : b < w3.heap.size := Nat.lt_of_lt_of_le Z2 G3.size
          have Y3 : d < w3.heap.size := Nat.lt_of_lt_of_le Y2 G3.size
          have R3 : r < w3.heap.size := Nat.lt_of_lt_of_le R2 G3.size
          have D3 := D2.kept G3 hdr
          have C3 := C2.of_block (G3.block b Z2 (by simp; omega))
          clear G3 B2 C2 M2
          go_wp2_with fail
          have Q3 := Lib.hid (AskRow.one (T := 46) C3 (by omega) (by omega) Z3).drew
          have m1 := M3.c1
          have P3 := Lib.hid M3
          have V3 := Lib.hid C3
          clear M3 C3
          go_region_held3 (fun w' => w'.cell? ⟨r, 1, none⟩ = some (.int .i64 ((k : Int) + 1))) (go_keep) (first | (go_at_call 28; (with_reducible refine (asked_any _ _ _ _ _ Q3.out (by omega)).mono ?_); rintro e wz ⟨rfl, rfl⟩; rw [show askSum (fun _ => some (b, 0, (k : Int) + 1)) 1 = (k : Int) + 1 by simp [askSum, askNum]]))
          clear m1
          go_wp2_with fail
          go_roundw
          case rel => exact ⟨k + 1, by omega, by go_num, acts_end W b r k _ (L ++ [xx]) (by first | omega | (simp; omega)) V3.out P3.out B3 Z3 R3 hrb (by omega) ⟨(lastD_snoc L xx).symm, by simp⟩⟩
          case measure => simp [intOf]; omega
        · have q1 : (kk == 1) = false := by simpa using hk1
          by_cases hk2 : kk = 2
          · have q2 : (kk == 2) = true := by simpa using hk2
            clear hk1 hk2
            go_wp2_with fail
            clear h0 h1 h2
            rw [← HD.out, ← HW.out]
            have C1 := HC.out
            have M1 := HM.out
            have D1 := HDD.out
            have B1 := HB.out
            have DD1 := D1.a1
            have DD2 := D1.a2
            go_region_held3 (fun w' => w'.cell? ⟨d, 2, none⟩ = some (.int .u64 xx)) (first | exact D1.a2 | exact D2.a2 | exact D3.a2) (first | (go_at_call 25; (with_reducible refine (swap_to xx C1.drew (by omega) (by omega)).mono ?_); rintro e w2 ⟨rfl, C2, G2, S2⟩; have S2 : w2.heap.size = wa.heap.size := S2; have G2 : wa.grownBy w2 (some b) := ⟨G2.os, G2.tape, G2.output, G2.size, G2.block⟩; have B2 := below_at B1 G2 (by omega) (by omega); have Z2 : b < w2.heap.size := (by omega); have Y2 : d < w2.heap.size := (by omega); have R2 : r < w2.heap.size := (by omega); have D2 := D1.kept G2 hdb; have M2 := M1.kept G2 hrb (.inl rfl); clear S2 G2 B1 C1 M1; rw [HWR.out] at C2) | (go_at_call 24; (with_reducible refine (refswap_any r b L k xx _ M2 (by omega) (by omega) (by omega) Z2 hrb).mono ?_); rintro e w3 ⟨rfl, M3, G3⟩; have B3 := below_at B2 G3 (by omega) (by omega); have Z3 : b < w3.heap.size := Nat.lt_of_lt_of_le Z2 G3.size; have Y3 : d < w3.heap.size := Nat.lt_of_lt_of_le Y2 G3.size; have R3 : r < w3.heap.size := Nat.lt_of_lt_of_le R2 G3.size; have D3 := D2.kept G3 hdr; have C3 := C2.of_block (G3.block b Z2 (by simp; omega)); clear G3 B2 C2 M2))
            clear DD1 DD2
            go_wp2_with fail
            have Q3 := Lib.hid (AskRow.one (T := 46) C3 (by omega) (by omega) Z3).drew
            have m1 := M3.c1
            have P3 := Lib.hid M3
            have V3 := Lib.hid C3
            clear M3 C3
            go_region_held3 (fun w' => w'.cell? ⟨r, 1, none⟩ = some (.int .i64 ((k : Int) + 1))) (go_keep) (first | (go_at_call 28; (with_reducible refine (asked_any _ _ _ _ _ Q3.out (by omega)).mono ?_); rintro e wz ⟨rfl, rfl⟩; rw [show askSum (fun _ => some (b, 0, (k : Int) + 1)) 1 = (k : Int) + 1 by simp [askSum, askNum]]))
            clear m1
            go_wp2_with fail
            go_roundw
            case rel => exact ⟨k + 1, by omega, by go_num, acts_end W b r k _ (L ++ [xx]) (by first | omega | (simp; omega)) V3.out P3.out B3 Z3 R3 hrb (by omega) ⟨(lastD_snoc L xx).symm, by simp⟩⟩
            case measure => simp [intOf]; omega
          · have q2 : (kk == 2) = false := by simpa using hk2
            by_cases hk3 : kk = 3
            · have q3 : (kk == 3) = true := by simpa using hk3
              clear hk1 hk2 hk3
              by_cases htt : (L.length : Int) = tt
              · subst htt
                go_wp2_with fail
                clear h0 h1 h2
                rw [← HD.out, ← HW.out]
                have C1 := HC.out
                have M1 := HM.out
                have D1 := HDD.out
                have B1 := HB.out
                have DD1 := D1.a1
                have DD2 := D1.a2
                go_region_held3 (fun w' => w'.cell? ⟨d, 1, none⟩ = some (.int .u64 L.length) ∧ w'.cell? ⟨d, 2, none⟩ = some (.int .u64 xx)) (first | exact ⟨D1.a1, D1.a2⟩ | exact ⟨D2.a1, D2.a2⟩ | exact ⟨D3.a1, D3.a2⟩) (first | (go_at_call 23; (with_reducible refine (cas_to_yes xx C1.drew (by omega) (by omega)).mono ?_); rintro e w2 ⟨rfl, C2, G2, S2⟩; have S2 : w2.heap.size = wa.heap.size := S2; have G2 : wa.grownBy w2 (some b) := ⟨G2.os, G2.tape, G2.output, G2.size, G2.block⟩; have B2 := below_at B1 G2 (by omega) (by omega); have Z2 : b < w2.heap.size := (by omega); have Y2 : d < w2.heap.size := (by omega); have R2 : r < w2.heap.size := (by omega); have D2 := D1.kept G2 hdb; have M2 := M1.kept G2 hrb (.inl rfl); clear S2 G2 B1 C1 M1; rw [HWR.out] at C2) | (go_at_call 26; (with_reducible refine (refcas_yes r b L k xx _ M2 (by omega) (by omega) (by omega) Z2 hrb).mono ?_); rintro e w3 ⟨rfl, M3, G3⟩; have B3 := below_at B2 G3 (by omega) (by omega); have Z3 : b < w3.heap.size := Nat.lt_of_lt_of_le Z2 G3.size; have Y3 : d < w3.heap.size := Nat.lt_of_lt_of_le Y2 G3.size; have R3 : r < w3.heap.size := Nat.lt_of_lt_of_le R2 G3.size; have D3 := D2.kept G3 hdr; have C3 := C2.of_block (G3.block b Z2 (by simp; omega)); clear G3 B2 C2 M2))
                clear DD1 DD2
                go_wp2_with fail
                have Q3 := Lib.hid (AskRow.one (T := 46) C3 (by omega) (by omega) Z3).drew
                have m1 := M3.c1
                have P3 := Lib.hid M3
                have V3 := Lib.hid C3
                clear M3 C3
                go_region_held3 (fun w' => w'.cell? ⟨r, 1, none⟩ = some (.int .i64 ((k : Int) + 1))) (go_keep) (first | (go_at_call 28; (with_reducible refine (asked_any _ _ _ _ _ Q3.out (by omega)).mono ?_); rintro e wz ⟨rfl, rfl⟩; rw [show askSum (fun _ => some (b, 0, (k : Int) + 1)) 1 = (k : Int) + 1 by simp [askSum, askNum]]))
                clear m1
                go_wp2_with fail
                go_roundw
                case rel => exact ⟨k + 1, by omega, by go_num, acts_end W b r k _ (L ++ [xx]) (by first | omega | (simp; omega)) V3.out P3.out B3 Z3 R3 hrb (by omega) ⟨(lastD_snoc L xx).symm, by simp⟩⟩
                case measure => simp [intOf]; omega
              · have HT := Lib.hid htt
                clear htt
                go_wp2_with fail
                clear h0 h1 h2
                rw [← HD.out, ← HW.out]
                have C1 := HC.out
                have M1 := HM.out
                have D1 := HDD.out
                have B1 := HB.out
                have DD1 := D1.a1
                have DD2 := D1.a2
                go_region_held3 (fun w' => w'.cell? ⟨d, 1, none⟩ = some (.int .u64 tt) ∧ w'.cell? ⟨d, 2, none⟩ = some (.int .u64 xx)) (first | exact ⟨D1.a1, D1.a2⟩ | exact ⟨D2.a1, D2.a2⟩ | exact ⟨D3.a1, D3.a2⟩) (first | (go_at_call 23; (with_reducible refine (cas_to_no xx C1.drew (by omega) (by omega) HT.out).mono ?_); rintro e w2 ⟨rfl, C2, G2, S2⟩; have S2 : w2.heap.size = wa.heap.size := S2; have G2 : wa.grownBy w2 (some b) := ⟨G2.os, G2.tape, G2.output, G2.size, G2.block⟩; have B2 := below_at B1 G2 (by omega) (by omega); have Z2 : b < w2.heap.size := (by omega); have Y2 : d < w2.heap.size := (by omega); have R2 : r < w2.heap.size := (by omega); have D2 := D1.kept G2 hdb; have M2 := M1.kept G2 hrb (.inl rfl); clear S2 G2 B1 C1 M1) | (go_at_call 26; (with_reducible refine (refcas_no r b L k xx tt _ M2 (by omega) (by omega) (by omega) (Ne.symm HT.out)).mono ?_); rintro e w3 ⟨rfl, M3, G3⟩; have B3 := below_at B2 G3 (by omega) (by omega); have Z3 : b < w3.heap.size := Nat.lt_of_lt_of_le Z2 G3.size; have Y3 : d < w3.heap.size := Nat.lt_of_lt_of_le Y2 G3.size; have R3 : r < w3.heap.size := Nat.lt_of_lt_of_le R2 G3.size; have D3 := D2.kept G3 hdr; have C3 := C2.of_block (G3.block b Z2 (by simp; omega)); clear G3 B2 C2 M2))
                clear DD1 DD2
                go_wp2_with fail
                have Q3 := Lib.hid (AskRow.one (T := 46) C3 (by omega) (by omega) Z3).drew
                have m1 := M3.c1
                have P3 := Lib.hid M3
                have V3 := Lib.hid C3
                clear M3 C3
                go_region_held3 (fun w' => w'.cell? ⟨r, 1, none⟩ = some (.int .i64 ((k : Int) + 1))) (go_keep) (first | (go_at_call 28; (with_reducible refine (asked_any _ _ _ _ _ Q3.out (by omega)).mono ?_); rintro e wz ⟨rfl, rfl⟩; rw [show askSum (fun _ => some (b, 0, (k : Int) + 1)) 1 = (k : Int) + 1 by simp [askSum, askNum]]))
                clear m1
                go_wp2_with fail
                go_roundw
                case rel => exact ⟨k + 1, by omega, by go_num, acts_end W b r k _ L (by first | omega | (simp; omega)) V3.out P3.out B3 Z3 R3 hrb (by omega) ⟨rfl, rfl⟩⟩
                case measure => simp [intOf]; omega
            · have q3 : (kk == 3) = false := by simpa using hk3
              clear hk1 hk2 hk3
              go_wp2_with fail
              clear h0 h1 h2
              rw [← HD.out, ← HW.out]
              have C1 := HC.out
              have M1 := HM.out
              have D1 := HDD.out
              have B1 := HB.out
              have DD1 := D1.a1
              have DD2 := D1.a2
              clear DD1 DD2
              (with_reducible refine (load_to C1 (by omega) (by omega)).mono ?_)
              rintro e w2 ⟨rfl, C2, G2, S2⟩
              have B2 := below_at B1 G2 (by omega) (by omega)
              have Z2 : b < w2.heap.size := (by omega)
              have Y2 : d < w2.heap.size := (by omega)
              have R2 : r < w2.heap.size := (by omega)
              have D2 := D1.kept G2 hdb
              have M2 := M1.kept G2 hrb (.inl rfl)
              clear S2 G2 B1 C1 M1
              go_wp2_with fail
              (with_reducible refine (refload_any r b L k _ M2 (by omega) (by omega) (by omega)).mono ?_)
              rintro e w3 ⟨rfl, M3, G3, S3⟩
              have B3 := below_at B2 G3 (by omega) (by omega)
              have Z3 : b < w3.heap.size := Nat.lt_of_lt_of_le Z2 G3.size
              have Y3 : d < w3.heap.size := Nat.lt_of_lt_of_le Y2 G3.size
              have R3 : r < w3.heap.size := Nat.lt_of_lt_of_le R2 G3.size
              have D3 := D2.kept G3 hdr
              have C3 := C2.of_block (G3.block b Z2 (by simp; omega))
              clear G3 S3 B2 C2 M2
              go_wp2_with fail
              have Q3 := Lib.hid (AskRow.one (T := 46) C3 (by omega) (by omega) Z3).drew
              have m1 := M3.c1
              have P3 := Lib.hid M3
              have V3 := Lib.hid C3
              clear M3 C3
              go_region_held3 (fun w' => w'.cell? ⟨r, 1, none⟩ = some (.int .i64 ((k : Int) + 1))) (go_keep) (first | (go_at_call 28; (with_reducible refine (asked_any _ _ _ _ _ Q3.out (by omega)).mono ?_); rintro e wz ⟨rfl, rfl⟩; rw [show askSum (fun _ => some (b, 0, (k : Int) + 1)) 1 = (k : Int) + 1 by simp [askSum, askNum]]))
              clear m1
              go_wp2_with fail
              go_roundw
              case rel => exact ⟨k + 1, by omega, by go_num, acts_end W b r k _ L (by first | omega | (simp; omega)) V3.out P3.out B3 Z3 R3 hrb (by omega) ⟨rfl, rfl⟩⟩
              case measure => simp [intOf]; omega
      · obtain rfl : k = n := by omega
        go_wp2_with fail
        go_ret
        exact ⟨rfl, B0⟩

section
variable {H : Type} {enc : TypeId × Value → H} {W : World} {base : Nat} {args : Array Value} {ds : List (DataW H)} {p : List MemPlace}
set_option maxRecDepth 100000 in
theorem CellActs_run (hval : ∀ (j : Nat) t v, #[38][j]? = some t → args[j]? = some v → Value.okWide Try.prog W .any base t v)
    (hA : DataW.TrodAll enc Try.prog W 0 (fun _ => true) true [38] args.toList ds p) (hlt : ∀ x ∈ p, x.block < W.heap.size) :
    Calls Try.prog 5 args W (TrueBelow W) := by
  obtain ⟨v0, d0, rfl, rfl, h0⟩ := trodAll_one hA
  obtain ⟨A, n, c, K, T, X, rfl, hn, hc, hf⟩ := open_acts08 (hval 0 38 v0 rfl rfl) h0 hlt
  exact acts_walk W A n c K T X hn hc hf
end
end Go.Proofs.Ytpddlnedaleblaa
