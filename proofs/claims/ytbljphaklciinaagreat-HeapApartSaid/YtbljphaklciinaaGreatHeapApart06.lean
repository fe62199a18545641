/- Walks of the program's functions, and plain laws on what they compute, text by text (Ap12, ApR, RowHeapApart). No condition. -/
import Derived.Test.YtbljphaklciinaaGreatHeapApart05

/- HeapApart, walked: blocks that are given out are apart, and what users write into them stays. -/
namespace Go.Proofs.YtbljphaklciinaaGreat
open Go.ChangeShapes Go.WideShapes Go.RowKit

set_option maxRecDepth 100000 in
set_option maxHeartbeats 16000000 in
theorem apart_walk (W : World) (A : Option Addr) (n c : Nat) (L : Nat → Act12) (hn : n ≤ c) (hc : c ≤ maxLen) (hf : Acts12 W A n L) :
    Calls Tryz.prog 4 #[.slice A n c] W (TrueBelow W) := by
  have HF := Lib.hid hf
  clear hf
  unfold maxLen at hc
  go_enter Tryz.func4, Tryz.ntmps4
  go_wp2_with fail
  refine (alive12 W).mono ?_
  rintro e w1 ⟨rfl, B1⟩
  have HM : Hid (Calls Tryz.prog 9 #[.int .i64 8, .int .i64 8] w1 fun e w' => ∃ ro bm bb bh ba bk bt, e = .returned (.tuple #[.pointer (some ⟨bh, 0, none⟩), .pointer (some ⟨bm, 0, none⟩), .pointer (some ⟨ba, 0, none⟩), .bool true]) ∧
      LawH W ro 0 w' bm bb (8 * 16384) (fun _ => 0) (newHR bh ba 7) (newAr bk bt 8) ∧ Below w1.heap.size w1 w') := made_ok B1 8 (by omega) (by omega)
  clear B1
  go_wp2_with fail
  refine HM.out.mono ?_
  rintro e w2 ⟨ro, bm, bb, bh, ba, bk, bt, rfl, L2, _⟩
  have HB2 : Hid (Below W.heap.size W w2) := L2.below
  have HS2 := Lib.hid (AW.begin L2)
  clear L2 HM
  by_cases hbig : (100 : Int) < n
  · go_wp2_with fail
    go_ret
    exact ⟨rfl, HB2.out⟩
  · go_wp2_with fail
    obtain ⟨i0, hi0, hz0, hzz1, hz2⟩ := info_parts info_one
    go_loopw [7, 40] (fun v ix wr => ∃ (k : Nat) (ro : Nat → Role) (U : List (Nat × Nat × Nat)), k ≤ n ∧ ix = .int .i64 k ∧ U.length ≤ k ∧ Hid (AW W ro bh bm k U wr) ∧ Hid (OwnO W ro v U wr)) (fun _ ix _ => n - (intOf ix).toNat)
    case atStart => exact ⟨0, ro, [], by omega, rfl, by simp, HS2.out, OwnO.nil⟩
    case round =>
      clear HS2
      obtain ⟨k, ro, U, hk, rfl, hUk, HS, HO⟩ := hrel
      by_cases hlt : k < n
      · obtain ⟨g, off, hAe, hg, c0, c1, c2, c3, c4, _, _, bQ, bD⟩ := HF.out k hlt
        have hBW := HS.out.below
        have d0 := (hBW.cell (p := ⟨g, off + k * 5, none⟩) hg).trans c0
        have d1 := (hBW.cell (p := ⟨g, off + k * 5 + 1, none⟩) hg).trans c1
        have d2 := (hBW.cell (p := ⟨g, off + k * 5 + 2, none⟩) hg).trans c2
        have d3 := (hBW.cell (p := ⟨g, off + k * 5 + 3, none⟩) hg).trans c3
        have d4 := (hBW.cell (p := ⟨g, off + k * 5 + 4, none⟩) hg).trans c4
        obtain ⟨Kk, hKk⟩ : ∃ Kk, Kk = (L k).K := ⟨_, rfl⟩
        obtain ⟨Nn, hNn⟩ : ∃ Nn, Nn = (L k).N := ⟨_, rfl⟩
        obtain ⟨Ss, hSs⟩ : ∃ Ss, Ss = (L k).S := ⟨_, rfl⟩
        obtain ⟨Qq, hQq⟩ : ∃ Qq, Qq = (L k).Q := ⟨_, rfl⟩
        obtain ⟨Dd, hDd⟩ : ∃ Dd, Dd = (L k).D := ⟨_, rfl⟩
        rw [← hKk] at d0
        rw [← hNn] at d1
        rw [← hSs] at d2
        rw [← hQq] at d3 bQ
        rw [← hDd] at d4 bD
        -- the act's own block
        have HS1 := Lib.hid (HS.out.cut.on ((Below.refl wr.heap.size wr).alloc (Nat.le_refl _) (.cells #[.int .i64 Kk, .int .i64 Nn, .int .i64 Ss, .int .i64 Qq, .int .u64 Dd] 43)))
        have HO1 := Lib.hid ((HO.out.stay (Stay.cut rfl)).stay (Stay.below ((Below.refl wr.heap.size wr).alloc (Nat.le_refl _) (.cells #[.int .i64 Kk, .int .i64 Nn, .int .i64 Ss, .int .i64 Qq, .int .u64 Dd] 43))))
        have HB1 := Lib.hid (OwnB.new (ro := ro) (w := wr) (o := .cells #[.int .i64 Kk, .int .i64 Nn, .int .i64 Ss, .int .i64 Qq, .int .u64 Dd] 43))
        generalize cutR ro wr.heap.size = ro1 at HS1 HO1 HB1
        obtain ⟨Au, cu, hv, hcu, hcu'⟩ := HO1.out.form
        subst hv
        subst hAe
        clear hKk hNn hSs hQq hDd c0 c1 c2 c3 c4 hBW HS HO
        by_cases hK : Kk = 3 ∧ 0 < U.length
        · obtain ⟨rfl, hU⟩ := hK
          have hU' : (0 : Int) < (U.length : Int) := by omega
          have hmod := Int.tmod_lt_of_pos Qq hU'
          obtain ⟨kk, hmx⟩ : ∃ kk : Nat, max (0 : Int) (Qq.tmod (U.length : Int)) = (kk : Int) := ⟨(max (0 : Int) (Qq.tmod (U.length : Int))).toNat, by omega⟩
          have hkk : kk < U.length := by omega
          obtain ⟨u, hu⟩ : ∃ u, U[kk]? = some u := ⟨U[kk]'hkk, List.getElem?_eq_getElem hkk⟩
          obtain ⟨ga, rfl, hga, hgc, e0, _, _⟩ := HO1.out.cell hu
          have HU := Lib.hid hu
          clear hu hmod hU'
          go_wp2_with fail
          refine (HS1.out.free HU.out).mono ?_
          rintro e w3 ⟨rfl, ro3, S3, hs3⟩
          have HS3 := Lib.hid S3
          have HO3 := Lib.hid (HO1.out.stay hs3)
          have HB3 := S3.below.size
          have hcu3 := hcu'
          unfold maxLen at hcu3
          clear S3 hs3 HS1 HO1 HB1 e0 d0 d1 d2 d3 d4
          go_wp2_with fail
          have hk1 : (0 : Int) ≤ (kk : Int) + 1 := by omega
          have hk2 : (kk : Int) + 1 ≤ (U.length : Int) := by omega
          have hk3 : kk ≤ cu := by omega
          have hk4 : IntKind.i64.wrap ((kk : Int) + 1) = (kk : Int) + 1 := by rw [IntKind.wrap_i64]; omega
          have HOWN0 : Hid ((w3.drew.alloc (.cells #[] 45)).ownsRow w3.heap.size 45 3 (.slice (some ⟨w3.heap.size, 0, none⟩) 0 0) 0 []) := World.ownsRow_made w3.drew #[] 0 (Nat.le_refl _) (Nat.zero_le _) rfl
          have HRT : Hid (Reads (w3.drew.alloc (.cells #[] 45)) w3.heap.size 3 (some ⟨ga, 0, none⟩) kk (flatO (U.take kk))) := Reads.alloc (w := w3.drew) (HO3.out.take (by omega)) (Nat.le_refl _) _
          have HRD : Hid (∀ (w5 : World) (A5 : Option Addr), Below w3.heap.size w3 w5 → (kk + 1 < U.length → A5 = some ⟨ga, (kk + 1) * 3, none⟩) → Reads w5 w3.heap.size 3 A5 (U.length - (kk + 1)) (flatO (U.drop (kk + 1)))) := fun w5 A5 hb hA => (HO3.out.drop hA (by omega)).below hb
          go_region_held3 (fun w' => True)
            (first | trivial | fail)
            (first
              | (refine step_append_any _ rfl (.tmp 67) (.tmp 70) 41 rfl w3.heap.size 45 i0 _ 3 24 Tryz.underlying41 hi0 hz0 hzz1 hz2 rfl (by omega) _ 0 [] rfl HOWN0.out _ _ kk cu (flatO (U.take kk)) rfl HRT.out (flatO_one _) (by simp only [maxLen]; omega) (by omega) (by simp) ?_
                 intro v5 w5 hown5 hg5 hat5
                 simp only [Nat.zero_add, List.nil_append] at hown5
                 have B5 : Hid (Below w3.heap.size w3 w5) := (((Below.refl _ _).drew).alloc (Nat.le_refl _) _).grown hg5 (by simp) (fun j e => Nat.le_of_eq (Option.some.inj e))
                 have H5 := Lib.hid hown5
                 have hs5 : w3.heap.size ≤ w5.heap.size := B5.out.size
                 clear hown5 hg5 hat5)
              | (refine step_append_any _ rfl (.tmp 71) (.tmp 75) 41 rfl w3.heap.size 45 i0 _ 3 24 Tryz.underlying41 hi0 hz0 hzz1 hz2 rfl (by omega) _ kk (flatO (U.take kk)) rfl H5.out _ _ (U.length - (kk + 1)) (cu - (kk + 1)) (flatO (U.drop (kk + 1))) rfl (HRD.out _ _ B5.out (fun h => if_neg (by omega))) (flatO_one _) (by simp only [maxLen]; omega) (by omega) hs5 ?_
                 intro v6 w6 hown6 hg6 hat6
                 have B6 : Hid (Below w3.heap.size w3 w6) := B5.out.grown hg6 hs5 (fun j e => (H5.out.lt j e).1)
                 have H6 := Lib.hid hown6
                 clear hown6 hg6 hat6)
              | fail)
          have hnew : AW W (cutR ro3 w3.heap.size) bh bm (k + 1) (U.eraseIdx kk) w6 ∧ OwnO W (cutR ro3 w3.heap.size) v6 (U.eraseIdx kk) w6 := by
            refine ⟨(HS3.out.cut.on B6.out).up, OwnO.new ?_ HB3⟩
            have h := H6.out
            rw [(erase_flat hkk).1, (erase_flat hkk).2] at h
            exact h
          have HNEW := Lib.hid hnew
          have hlen6 : (U.eraseIdx kk).length ≤ k + 1 := by rw [List.length_eraseIdx]; split <;> omega
          clear hnew B5 B6 H5 H6 HRT HRD HOWN0 HS3 HO3
          go_wp2_with fail
          go_roundw
          case rel => exact ⟨k + 1, _, U.eraseIdx kk, by omega, by go_num, hlen6, HNEW.out.1, HNEW.out.2⟩
          case measure => simp [intOf]; omega
        · have hcase : (Kk == 3) = false ∨ (Kk = 3 ∧ ¬ (0 : Int) < (U.length : Int)) := by
            by_cases h : Kk = 3
            · exact .inr ⟨h, fun h2 => hK ⟨h, by omega⟩⟩
            · exact .inl (by simpa using h)
          have hw8 : IntKind.u8.wrap (k : Int) = (k : Int) := by rw [IntKind.wrap_u8]; omega
          have hcu3 := hcu'
          unfold maxLen at hcu3
          have HD := Lib.hid bD
          clear hK bD bQ
          rcases hcase with hcase | ⟨rfl, hcase⟩
          all_goals (
            go_wp2_with fail
            refine (HS1.out.get (by omega) HD.out.1).mono ?_
            rintro e w4 ⟨ro4, hs4, (⟨x, v, rfl, M4, hx16⟩ | ⟨rfl, M4⟩)⟩)
          all_goals skip
          · have HG4 := Lib.hid M4.cut
            have HO4 := Lib.hid ((HO1.out.stay hs4).stay (Stay.cut rfl))
            have HB4 := M4.below.size
            have hends := M4.ends
            have hx1 : ((x : Int)).tmod 16 = 0 := by rw [Int.tmod_eq_emod_of_nonneg (by omega)]; omega
            have hx2 : ((x : Int)) % 16 = 0 := by omega
            clear M4 hs4 HS1 HO1 HB1 d0 d1 d2 d3 d4 HD
            go_wp2_with fail
            have BA : Below w4.heap.size w4 (w4.alloc (.cells #[.int .u8 (k : Nat)] 5)) := (Below.refl _ _).alloc (Nat.le_refl _) _
            refine ((HG4.out.on BA).fill (c := k) (pb := w4.heap.size) (by omega) (by rw [World.cell?_alloc_new]; rfl) (if_neg (by omega))).mono ?_
            rintro e w5 ⟨rfl, M5, hs5⟩
            have HS5 := Lib.hid M5
            have HO5 := Lib.hid ((HO4.out.stay (Stay.below BA)).stay hs5)
            have HB5 := M5.below.size
            generalize cutR ro4 w4.heap.size = ro5 at HS5 HO5
            clear M5 hs5 HG4 HO4 BA
            go_wp2_with (first
              | (at_builtin
                 refine wpList_append_any _ rfl (.tmp 99) (.tmp 105) _ rfl W.heap.size 45 i0 _ 3 24 Tryz.underlying41 hi0 hz0 hzz1 hz2 rfl (by omega) (.slice Au U.length cu) U.length (flatO U) rfl
                   (HO5.out.1.alloc _) _ _ 1 1 (oneV (x, v, k)) rfl (reads_new3 w5 (x, v, k) _) (oneV_one _) (by simp only [maxLen]; omega) (by omega) (by simp; omega) ?_
                 intro v6 w6 hown6 hg6 hat6
                 have HS6 := Lib.hid (HS5.out.apped HO5.out hg6)
                 have HO6 := Lib.hid (HO5.out.app (u := (x, v, k)) hown6 hat6)
                 clear hown6 hg6 hat6)
              | fail)
            go_roundw
            case rel => exact ⟨k + 1, _, U ++ [(x, v, k)], by omega, by go_num, by simp; omega, HS6.out, HO6.out⟩
            case measure => simp [intOf]; omega
          · have HS4 := Lib.hid M4
            have HO4 := Lib.hid (HO1.out.stay hs4)
            clear M4 hs4 HS1 HO1 HB1 d0 d1 d2 d3 d4 HD
            go_wp2_with fail
            go_roundw
            case rel => exact ⟨k + 1, _, U, by omega, by go_num, by omega, HS4.out, HO4.out⟩
            case measure => simp [intOf]; omega
          · have HG4 := Lib.hid M4.cut
            have HO4 := Lib.hid ((HO1.out.stay hs4).stay (Stay.cut rfl))
            have HB4 := M4.below.size
            have hends := M4.ends
            have hx1 : ((x : Int)).tmod 16 = 0 := by rw [Int.tmod_eq_emod_of_nonneg (by omega)]; omega
            have hx2 : ((x : Int)) % 16 = 0 := by omega
            clear M4 hs4 HS1 HO1 HB1 d0 d1 d2 d3 d4 HD
            go_wp2_with fail
            have BA : Below w4.heap.size w4 (w4.alloc (.cells #[.int .u8 (k : Nat)] 5)) := (Below.refl _ _).alloc (Nat.le_refl _) _
            refine ((HG4.out.on BA).fill (c := k) (pb := w4.heap.size) (by omega) (by rw [World.cell?_alloc_new]; rfl) (if_neg (by omega))).mono ?_
            rintro e w5 ⟨rfl, M5, hs5⟩
            have HS5 := Lib.hid M5
            have HO5 := Lib.hid ((HO4.out.stay (Stay.below BA)).stay hs5)
            have HB5 := M5.below.size
            generalize cutR ro4 w4.heap.size = ro5 at HS5 HO5
            clear M5 hs5 HG4 HO4 BA
            go_wp2_with (first
              | (at_builtin
                 refine wpList_append_any _ rfl (.tmp 99) (.tmp 105) _ rfl W.heap.size 45 i0 _ 3 24 Tryz.underlying41 hi0 hz0 hzz1 hz2 rfl (by omega) (.slice Au U.length cu) U.length (flatO U) rfl
                   (HO5.out.1.alloc _) _ _ 1 1 (oneV (x, v, k)) rfl (reads_new3 w5 (x, v, k) _) (oneV_one _) (by simp only [maxLen]; omega) (by omega) (by simp; omega) ?_
                 intro v6 w6 hown6 hg6 hat6
                 have HS6 := Lib.hid (HS5.out.apped HO5.out hg6)
                 have HO6 := Lib.hid (HO5.out.app (u := (x, v, k)) hown6 hat6)
                 clear hown6 hg6 hat6)
              | fail)
            go_roundw
            case rel => exact ⟨k + 1, _, U ++ [(x, v, k)], by omega, by go_num, by simp; omega, HS6.out, HO6.out⟩
            case measure => simp [intOf]; omega
          · have HS4 := Lib.hid M4
            have HO4 := Lib.hid (HO1.out.stay hs4)
            clear M4 hs4 HS1 HO1 HB1 d0 d1 d2 d3 d4 HD
            go_wp2_with fail
            go_roundw
            case rel => exact ⟨k + 1, _, U, by omega, by go_num, by omega, HS4.out, HO4.out⟩
            case measure => simp [intOf]; omega
      · obtain rfl : k = n := by omega
        obtain ⟨Au, cu, hv, hcu, hcu'⟩ := HO.out.form
        subst hv
        unfold maxLen at hcu'
        clear HF HB2
        go_wp2_with fail
        go_loopw [110] (fun ix wr => ∃ (j : Nat) (ro : Nat → Role), j ≤ U.length ∧ ix = .int .i64 j ∧ Hid (AW W ro bh bm k U wr) ∧ Hid (OwnO W ro (.slice Au U.length cu) U wr)) (fun ix _ => U.length - (intOf ix).toNat)
        case atStart => exact ⟨0, ro, by omega, rfl, HS.out, HO.out⟩
        case round =>
          clear HS HO
          obtain ⟨j, ro, hj, rfl, HS, HO⟩ := hrel
          by_cases hlj : j < U.length
          · obtain ⟨u, hu⟩ : ∃ u, U[j]? = some u := ⟨U[j]'hlj, List.getElem?_eq_getElem hlj⟩
            obtain ⟨ga, rfl, hga, hgc, e0, e1, e2⟩ := HO.out.cell hu
            have BA : Below wr.heap.size wr (wr.alloc (.cells #[.int .u64 (u.1 : Nat), .int .u64 (u.2.1 : Nat), .int .u8 (u.2.2 : Nat)] 45)) := (Below.refl _ _).alloc (Nat.le_refl _) _
            have HS1 := Lib.hid (HS.out.cut.on BA)
            have HO1 := Lib.hid ((HO.out.stay (Stay.cut rfl)).stay (Stay.below BA))
            have HB1 := Lib.hid (OwnB.new (ro := ro) (w := wr) (o := .cells #[.int .u64 (u.1 : Nat), .int .u64 (u.2.1 : Nat), .int .u8 (u.2.2 : Nat)] 45))
            have hends := HS.out.ends (List.mem_of_getElem? hu)
            have HU := Lib.hid hu
            generalize cutR ro wr.heap.size = ro1 at HS1 HO1 HB1
            clear BA HS HO hu
            go_wp2_with fail
            refine (HS1.out.getb (List.mem_of_getElem? HU.out)).mono ?_
            rintro e w3 ⟨A3, c3, rfl, ho3, hb3⟩
            have HS3 := Lib.hid (HS1.out.cut.on hb3)
            have HO3 := Lib.hid ((HO1.out.stay (Stay.cut rfl)).stay (Stay.below hb3))
            have HB3 := Lib.hid ((HB1.out.stay (Stay.cut rfl)).stay (Stay.below hb3))
            have HX3 : Hid (OwnX W _ 5 _ _ w3) := OwnX.new (ro := ro1) ho3 HS1.out.below.size
            rw [List.length_replicate] at ho3
            generalize cutR ro1 (wr.alloc (.cells #[.int .u64 (u.1 : Nat), .int .u64 (u.2.1 : Nat), .int .u8 (u.2.2 : Nat)] 45)).heap.size = ro3 at HS3 HO3 HB3 HX3
            clear ho3 hb3 HS1 HO1 HB1 e0 e1 e2 hga
            go_wp2_with fail
            generalize wr.heap.size = xo at HB3 ⊢
            go_loopw [128] (fun ix wb => ∃ i : Nat, i ≤ u.2.1 ∧ ix = .int .i64 i ∧ Hid (AW W ro3 bh bm k U wb) ∧ Hid (OwnO W ro3 (.slice (some ⟨ga, 0, none⟩) U.length cu) U wb) ∧ Hid (OwnB ro3 xo (.cells #[.int .u64 (u.1 : Nat), .int .u64 (u.2.1 : Nat), .int .u8 (u.2.2 : Nat)] 45) wb) ∧ Hid (OwnX W ro3 5 (.slice A3 u.2.1 c3) (List.replicate u.2.1 (Value.int .u8 (u.2.2 : Nat))) wb)) (fun ix _ => u.2.1 - (intOf ix).toNat)
            case atStart => exact ⟨0, by omega, rfl, HS3.out, HO3.out, HB3.out, HX3.out⟩
            case round =>
              clear HS3 HO3 HB3 HX3
              obtain ⟨i, hi, rfl, HS3, HO3, HB3, HX3⟩ := hrel
              have o0 := HB3.out.cell (j := 0) rfl
              have o1 := HB3.out.cell (j := 1) rfl
              have o2 := HB3.out.cell (j := 2) rfl
              by_cases hli : i < u.2.1
              · obtain ⟨g3, rfl, d0⟩ := HX3.out.at_ (k := i) (u := .int .u8 (u.2.2 : Nat)) (by rw [List.getElem?_replicate, if_pos hli])
                have hsz : u.2.1 ≤ 131072 := by omega
                go_wp2_with fail
                go_roundw
                case rel => exact ⟨i + 1, by omega, by go_num, HS3.out, HO3.out, HB3.out, HX3.out⟩
                case measure => simp [intOf]; omega
              · obtain rfl : i = u.2.1 := by omega
                clear HX3
                have hjc : j ≤ cu := by omega
                go_wp2_with fail
                go_loopw [141] (fun ix wb => ∃ (q : Nat) (ro : Nat → Role), q ≤ j ∧ ix = .int .i64 q ∧ Hid (AW W ro bh bm k U wb) ∧ Hid (OwnO W ro (.slice (some ⟨ga, 0, none⟩) U.length cu) U wb) ∧ Hid (OwnB ro xo (.cells #[.int .u64 (u.1 : Nat), .int .u64 (u.2.1 : Nat), .int .u8 (u.2.2 : Nat)] 45) wb)) (fun ix _ => j - (intOf ix).toNat)
                case atStart => exact ⟨0, ro3, by omega, rfl, HS3.out, HO3.out, HB3.out⟩
                case round =>
                  clear HS3 HO3 HB3 o0 o1 o2
                  obtain ⟨q, ro, hq, rfl, HS, HO, HB⟩ := hrel
                  by_cases hlq : q < j
                  · obtain ⟨p, hp⟩ : ∃ p, U[q]? = some p := ⟨U[q]'(by omega), List.getElem?_eq_getElem (by omega)⟩
                    obtain ⟨_, hge, hga, _, e0, e1, e2⟩ := HO.out.cell hp
                    injection hge with hge
                    injection hge with hge
                    subst hge
                    have hap := HS.out.apart HU.out hp hlq
                    have hep := HS.out.ends (List.mem_of_getElem? hp)
                    have BA : Below wr.heap.size wr (wr.alloc (.cells #[.int .u64 (p.1 : Nat), .int .u64 (p.2.1 : Nat), .int .u8 (p.2.2 : Nat)] 45)) := (Below.refl _ _).alloc (Nat.le_refl _) _
                    have HS4 := Lib.hid (HS.out.cut.on BA)
                    have HO4 := Lib.hid ((HO.out.stay (Stay.cut rfl)).stay (Stay.below BA))
                    have HB4 := Lib.hid ((HB.out.stay (Stay.cut rfl)).stay (Stay.below BA))
                    have o0 := HB4.out.cell (j := 0) rfl
                    have o1 := HB4.out.cell (j := 1) rfl
                    have o2 := HB4.out.cell (j := 2) rfl
                    have hw1 : IntKind.u64.wrap ((p.1 : Int) + (p.2.1 : Int)) = (p.1 : Int) + (p.2.1 : Int) := by simp only [IntKind.wrap_u64]; omega
                    have hw2 : IntKind.u64.wrap ((u.1 : Int) + (u.2.1 : Int)) = (u.1 : Int) + (u.2.1 : Int) := by simp only [IntKind.wrap_u64]; omega
                    clear BA HS HO HB hp
                    rcases hap with hap | hap
                    · have hno : ((u.1 : Int) + (u.2.1 : Int) ≤ (p.1 : Int)) := by omega
                      go_wp2_with fail
                      all_goals go_roundw
                      all_goals first
                        | exact ⟨q + 1, _, by omega, by go_num, HS4.out, HO4.out, HB4.out⟩
                        | (simp [intOf]; omega)
                    · have hno : ((p.1 : Int) + (p.2.1 : Int) ≤ (u.1 : Int)) := by omega
                      go_wp2_with fail
                      all_goals go_roundw
                      all_goals first
                        | exact ⟨q + 1, _, by omega, by go_num, HS4.out, HO4.out, HB4.out⟩
                        | (simp [intOf]; omega)
                  · obtain rfl : q = j := by omega
                    go_wp2_with fail
                    go_roundw
                    case rel => exact ⟨q + 1, ro, by omega, by go_num, HS.out, HO.out⟩
                    case measure => simp [intOf]; omega
          · obtain rfl : j = U.length := by omega
            go_wp2_with fail
            go_ret
            exact ⟨rfl, HS.out.below⟩
end Go.Proofs.YtbljphaklciinaaGreat

/- HeapApart: its arguments. -/
namespace Go.Proofs.YtbljphaklciinaaGreat
open Go.ChangeShapes Go.WideShapes Go.RowKit
section
variable {H : Type} {enc : TypeId × Value → H} {W : World} {base : Nat} {args : Array Value} {ds : List (DataW H)} {p : List MemPlace}
set_option maxRecDepth 100000 in
theorem HeapApart_run (hval : ∀ (j : Nat) t v, #[40][j]? = some t → args[j]? = some v → Value.okWide Tryz.prog W .any base t v)
    (hA : DataW.TrodAll enc Tryz.prog W 0 (fun _ => true) true [40] args.toList ds p) (hlt : ∀ x ∈ p, x.block < W.heap.size) :
    Calls Tryz.prog 4 args W (TrueBelow W) := by
  obtain ⟨v0, d0, rfl, rfl, h0⟩ := trodAll_one hA
  obtain ⟨A, n, c, L, rfl, hn, hc, hf⟩ := open_acts12 (hval 0 40 v0 rfl rfl) h0 hlt
  exact apart_walk W A n c L hn hc hf
end
end Go.Proofs.YtbljphaklciinaaGreat

/- 'allotmentlaw12.HeapApart' returns true for every input, and each argument reads afterwards as it read before. No condition. -/
namespace Go.Proofs.YtbljphaklciinaaGreat
open Go.ChangeShapes Go.WideShapes Go.ChangeAt Go.RowKit

set_option maxRecDepth 100000 in
theorem HeapApart_lifted (os : Os) (started : os.Started) (H : Type) (enc : TypeId × Value → H) :
    ReturnsInHanded {} Tryz.checked os 4 .any (Rows.heapApartSpec.pre6 enc Tryz.prog Tryz.f4 Rows.heapApartRow.domain false) (Rows.heapApartSpec.post enc Tryz.prog Tryz.f4 false true false false) := by
  refine returnsInHanded_of_change (C := Tryz.checked) Tryz.own started (by kernel_rfl) Tryz.func4
    (ChangeSpec.witness6 (enc := enc) (C := Tryz.checked) false ⟨#[], #[.slice none 0 0], []⟩ 8 (by kernel_rfl) (by kernel_rfl) (by kernel_rfl) (by kernel_rfl)) ?_
  intro W base args ds gs before hval0 hW hcnd _
  have hval : ∀ (j : Nat) t v, Tryz.f4.params[j]? = some t → args[j]? = some v → Value.okWide Tryz.prog W .any base t v := hval0
  have hW' := hW
  obtain ⟨p, q, hA0, hV, rfl, _, _⟩ := hW
  have hA : DataW.TrodAll enc Tryz.prog W 0 (fun _ => true) true Tryz.f4.params.toList args.toList ds p := hA0
  obtain ⟨rfl, rfl⟩ := trodVars_none hV
  have hlt : ∀ x ∈ p, x.block < W.heap.size := fun x hx => hW'.lt x (List.mem_append.2 (.inl hx))
  rw [Tryz.params4] at hA hval
  have hrun := HeapApart_run hval hA hlt
  refine hrun.mono fun e W' ⟨he, hb⟩ => ?_
  subst he
  refine ⟨_, rfl, law_post Tryz.laidOut ?_ rfl hW' ?_ ?_ ?_ rfl Tryz.underlying4 hb⟩
  · rw [Tryz.params4]
    intro t ht
    refine ⟨?_, ?_⟩
    · revert t ht; exact of_decide_eq_true (by kernel_rfl)
    · revert t ht; exact of_decide_eq_true (by kernel_rfl)
  all_goals
    obtain ⟨l⟩ := args
    obtain ⟨v0, vs0, d0, ds0, p0, q0, rfl, rfl, rfl, h0, r0⟩ := trodAll_cons hA
    obtain ⟨rfl, rfl, rfl⟩ := trodAll_nil r0
    rfl

theorem HeapApart_holds : Rows.HeapApartSaid :=
  OpenClaim.holds_of_wide 4 Tryz.f4 rfl rfl rfl rfl rfl rfl rfl ⟨rfl, rfl, rfl, rfl, rfl⟩ rfl rfl rfl rfl rfl (by kernel_rfl) Tryz.func4
    (joined_of Tryz.may Tryz.lifts Tryz.makes (by kernel_rfl) Tryz.laidOut (by kernel_rfl) (by kernel_rfl) (by kernel_rfl) (by kernel_rfl) (by kernel_rfl) (by kernel_rfl) (by kernel_rfl) (by kernel_rfl) (by kernel_rfl) (by kernel_rfl) (by kernel_rfl) (by kernel_rfl) (by kernel_rfl) (by kernel_rfl) (by kernel_rfl) (by kernel_rfl) (by kernel_rfl) (by kernel_rfl) (by kernel_rfl) (by kernel_rfl) (by kernel_rfl) (by kernel_rfl) (by kernel_rfl) (by kernel_rfl) (by kernel_rfl) rfl rfl (by kernel_rfl) (by kernel_rfl) (by kernel_rfl))
    (of_decide_eq_true (by kernel_rfl)) (by unfold Func.isWrapper; rw [if_neg (of_decide_eq_false (by kernel_rfl))]; exact ⟨rfl, rfl⟩)
    (fun os started H enc _ => HeapApart_lifted os started H enc)
#print axioms HeapApart_holds
end Go.Proofs.YtbljphaklciinaaGreat
