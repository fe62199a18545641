/- Walks of the program's functions, and plain laws on what they compute, text by text (Back12, Acts12, BackR, RowHeapBack). No condition. -/
import Derived.Test.YtbljphaklciinaaGreatHeapBack04

/- HeapBack, walked: with all given back the heap has nothing, and the arena all. -/
namespace Go.Proofs.YtbljphaklciinaaGreat
open Go.RowKit

set_option maxRecDepth 100000 in
set_option maxHeartbeats 16000000 in
theorem back_walk (W : World) (A : Option Addr) (n c : Nat) (L : Nat → Int) (hn : n ≤ c) (hc : c ≤ maxLen)
    (hf : ∀ i, i < n → ∃ b off, A = some ⟨b, off, none⟩ ∧ b < W.heap.size ∧ W.cell? ⟨b, off + i, none⟩ = some (.int .u64 (L i)) ∧ 0 ≤ L i)
    (A2 : Option Addr) (n2 c2 : Nat) (P : Nat → Bool) (hn2 : n2 ≤ c2) (hc2 : c2 ≤ maxLen)
    (hf2 : ∀ i, i < n2 → ∃ b off, A2 = some ⟨b, off, none⟩ ∧ b < W.heap.size ∧ W.cell? ⟨b, off + i, none⟩ = some (.bool (P i))) :
    Calls Tryz.prog 7 #[.slice A n c, .slice A2 n2 c2] W (TrueBelow W) := by
  have HF := Lib.hid hf
  have HF2 := Lib.hid hf2
  clear hf hf2
  unfold maxLen at hc hc2
  go_enter Tryz.func7, Tryz.ntmps7
  go_wp2_with fail
  refine (alive12 W).mono ?_
  rintro e w1 ⟨rfl, B1⟩
  have HM : Hid (Calls Tryz.prog 9 #[.int .i64 16, .int .i64 16] w1 fun e w' => ∃ ro bm bb bh ba bk bt, e = .returned (.tuple #[.pointer (some ⟨bh, 0, none⟩), .pointer (some ⟨bm, 0, none⟩), .pointer (some ⟨ba, 0, none⟩), .bool true]) ∧
      LawH W ro 0 w' bm bb (16 * 16384) (fun _ => 0) (newHR bh ba 7) (newAr bk bt 16) ∧ Below w1.heap.size w1 w') := made_ok B1 16 (by omega) (by omega)
  clear B1
  go_wp2_with fail
  refine HM.out.mono ?_
  rintro e w2 ⟨ro, bm, bb, bh, ba, bk, bt, rfl, L2, _⟩
  have HB2 : Hid (Below W.heap.size W w2) := L2.below
  have HZ2 := Lib.hid (Z1.begin L2)
  obtain ⟨ro2, hro2⟩ : ∃ ro2, ro2 = cutR ro w2.heap.size := ⟨_, rfl⟩
  obtain ⟨rb, hrb⟩ : ∃ rb, rb = w2.heap.size := ⟨_, rfl⟩
  rw [← hro2] at HZ2
  clear L2 HM hro2
  by_cases hbig : (100 : Int) < n
  · go_wp2_with fail
    go_ret
    exact ⟨rfl, HB2.out⟩
  · go_wp2_with fail
    obtain ⟨i0, hi0, hz0, hzz1, hz2⟩ := info_parts info_u64
    have HZ3 : Hid (Z1 W ro2 bh ba 0 [] (w2.alloc (.cells (runCs bh (.slice none 0 0)) 73)) ∧ RunAt W ro2 bh rb (.slice none 0 0) [] (w2.alloc (.cells (runCs bh (.slice none 0 0)) 73))) := by rw [hrb]; exact HZ2.out
    rw [← hrb]
    clear HZ2 HB2 hrb
    go_loopw [50] (fun ix wr => ∃ (k : Nat) (ro : Nat → Role) (U : List Nat) (v : Value), k ≤ n ∧ ix = .int .i64 k ∧ U.length ≤ k ∧ Hid (Z1 W ro bh ba k U wr) ∧ Hid (RunAt W ro bh rb v U wr)) (fun ix _ => n - (intOf ix).toNat)
    case atStart => exact ⟨0, ro2, [], _, by omega, rfl, by simp, HZ3.out.1, HZ3.out.2⟩
    case round =>
      clear HZ3
      obtain ⟨k, ro, U, v, hk, rfl, hUk, HS, HQ⟩ := hrel
      by_cases hlt : k < n
      · obtain ⟨g, off, hAe, hg, hcell, hL0⟩ := HF.out k hlt
        have hBW := HS.out.below
        have d0 := (hBW.cell (p := ⟨g, off + k, none⟩) hg).trans hcell
        obtain ⟨Lk, hLk⟩ : ∃ Lk, Lk = L k := ⟨_, rfl⟩
        rw [← hLk] at d0 hL0
        subst hAe
        clear hLk hcell hBW
        go_wp2_with fail
        refine (HS.out.get (by omega) hL0).mono ?_
        rintro e w4 ⟨ro4, hs4, (⟨x, v4, rfl, M4⟩ | ⟨rfl, M4⟩)⟩
        · have HQ4 := Lib.hid (HQ.out.stay hs4)
          have HS4 := Lib.hid M4
          have hsz4 := M4.below.size
          have hrl4 := lt_of_block HQ4.out.blk
          obtain ⟨_, c42, _⟩ := run_cells HQ4.out.blk
          obtain ⟨Au, cu, hv, _, _⟩ := HQ4.out.own.gen.form
          have hlu : (rowU U).length = U.length := by unfold rowU; rw [List.length_map]
          rw [hlu] at hv
          subst hv
          clear hs4 M4 d0 HS HQ hlu
          go_wp2_with (first
            | (at_builtin
               refine wpList_append_any _ rfl (.tmp 66) (.tmp 68) _ rfl W.heap.size 29 i0 _ 1 8 Tryz.underlying33 hi0 hz0 hzz1 hz2 rfl (by omega) (.slice Au U.length cu) U.length (rowU U) rfl
                 (HQ4.out.own.1.alloc _) _ _ 1 1 [.int .u64 (x : Nat)] rfl (Reads.new1 _ _ _) (fun u hu => by simp at hu; subst hu; rfl) (by simp only [maxLen]; omega) (by omega) (by simp; omega) ?_
               intro v5 w5 hown5 hg5 hat5
               obtain ⟨_, c25, f25⟩ := run_cells (HQ4.out.mid hg5)
               have HS5 := Lib.hid (HS4.out.app HQ4.out hown5 hg5 hat5)
               obtain ⟨gb, cap5, rfl, _, _⟩ := hown5.form (by omega)
               clear hown5 hg5 hat5))
          go_roundw
          case rel => exact ⟨k + 1, _, U ++ [x], _, by omega, by go_num, by simp; omega, HS5.out.1, HS5.out.2⟩
          case measure => simp [intOf]; omega
        · have HQ4 := Lib.hid (HQ.out.stay hs4)
          have HS4 := Lib.hid M4
          clear M4 hs4 d0 HS HQ
          go_wp2_with fail
          go_roundw
          case rel => exact ⟨k + 1, _, U, v, by omega, by go_num, by omega, HS4.out, HQ4.out⟩
          case measure => simp [intOf]; omega
      · obtain rfl : k = n := by omega
        obtain ⟨G0, M0⟩ := HS.out.back
        have HM0 := Lib.hid M0
        obtain ⟨Au, cu, hv, hcu, hcu'⟩ := HQ.out.own.gen.form
        have hlu : (rowU U).length = U.length := by unfold rowU; rw [List.length_map]
        rw [hlu] at hv hcu
        subst hv
        obtain ⟨_, c23, _⟩ := run_cells HQ.out.blk
        clear M0 HS hlu HF
        go_wp2_with fail
        go_loopw [78] (fun ix wr => ∃ (j : Nat) (ro : Nat → Role) (G : List (Nat × Nat)) (R : List Nat), j ≤ U.length ∧ ix = .int .i64 j ∧ Hid (BG W ro bh ba (2 * j) (U.drop j) R G wr) ∧ Hid (RunAt W ro bh rb (.slice Au U.length cu) U wr)) (fun ix _ => U.length - (intOf ix).toNat)
        case atStart => exact ⟨0, ro, G0, [], by omega, rfl, HM0.out, HQ.out⟩
        case round =>
          clear HM0 HQ c23
          obtain ⟨j, ro, G, R, hj, rfl, HM, HQ⟩ := hrel
          by_cases hlt : j < U.length
          · obtain ⟨x, hx⟩ : ∃ x, U[j]? = some x := ⟨U[j]'(by omega), List.getElem?_eq_getElem (by omega)⟩
            obtain ⟨gu, rfl, d0⟩ := HQ.out.own.gen.at_ (k := j) (u := .int .u64 (x : Nat)) (by unfold rowU; rw [List.getElem?_map, hx]; rfl)
            have HMs : Hid (BG W ro bh ba (2 * j) (x :: U.drop (j + 1)) R G wr) := by
              rw [← drop_at hx]
              exact HM.out
            have hU100 : U.length ≤ 100 := by omega
            by_cases hp : j < n2 ∧ P j = true
            · obtain ⟨hp1, hp2⟩ := hp
              obtain ⟨g2, off2, hA2, hg2, hcell2⟩ := HF2.out j hp1
              have p0 := (HMs.out.below.cell (p := ⟨g2, off2 + j, none⟩) hg2).trans hcell2
              rw [hp2] at p0
              subst hA2
              clear hx HM hcell2 hp2
              go_wp2_with fail
              refine HMs.out.segs.mono ?_
              rintro e w7 ⟨v7, rfl, ho7, hb7⟩
              have HM7 := Lib.hid (HMs.out.cut.on hb7)
              have HQ7 := Lib.hid ((HQ.out.stay (Stay.cut rfl)).stay (Stay.below hb7))
              have hX7 := OwnX.new (ro := ro) ho7 HMs.out.below.size
              obtain ⟨A7, c7, rfl, hc7, hc7'⟩ := hX7.form
              unfold maxLen at hc7'
              have HX7 := Lib.hid hX7
              have hlp : (segG G).length = G.length := by unfold segG; rw [List.length_map]
              rw [hlp] at HX7 hc7
              rw [hlp]
              obtain ⟨m7, hm7⟩ : ∃ m, m = G.length := ⟨_, rfl⟩
              rw [← hm7] at HX7 hc7 hlp
              rw [← hm7]
              have HL7 : Hid (BL W (cutR ro wr.heap.size) bh ba (2 * j) x (U.drop (j + 1)) R G 0 w7) := .inl ⟨HM7.out, fun i g hi => absurd hi (by omega)⟩
              generalize cutR ro wr.heap.size = ro7 at HM7 HQ7 HX7 HL7
              clear ho7 hb7 HMs HQ hX7 d0 p0 HM7
              go_wp2_with fail
              go_loopw [101] (fun ix wr => ∃ (i : Nat) (ro : Nat → Role), i ≤ m7 ∧ ix = .int .i64 i ∧ Hid (BL W ro bh ba (2 * j) x (U.drop (j + 1)) R G i wr) ∧ Hid (RunAt W ro bh rb (.slice (some ⟨gu, 0, none⟩) U.length cu) U wr) ∧ Hid (OwnX W ro 60 (.slice A7 m7 c7) (segG G) wr)) (fun ix _ => m7 - (intOf ix).toNat)
              case atStart => exact ⟨0, ro7, by omega, rfl, HL7.out, HQ7.out, HX7.out⟩
              case round =>
                clear HL7 HQ7 HX7
                obtain ⟨i, ro, hi, rfl, HL, HQ, HX⟩ := hrel
                by_cases hli : i < m7
                · obtain ⟨g, hgi⟩ : ∃ g, G[i]? = some g := ⟨G[i]'(by omega), List.getElem?_eq_getElem (by omega)⟩
                  obtain ⟨g7, rfl, d0⟩ := HX.out.at_ (k := i) (u := .pointer (some ⟨g.1, 0, none⟩)) (by unfold segG; rw [List.getElem?_map, hgi]; rfl)
                  go_wp2_with fail
                  refine (HL.out.find hgi).mono ?_
                  rintro e w8 (⟨rfl, L8, hb8⟩ | ⟨bo, bp, word, tag, rfl, P8, hgx, hb8⟩)
                  · have HL8 := Lib.hid L8
                    have HQ8 := Lib.hid (HQ.out.stay (Stay.below hb8))
                    have HX8 := Lib.hid (HX.out.stay (Stay.below hb8))
                    clear L8 hb8 HL HQ HX d0
                    go_wp2_with fail
                    go_roundw
                    case rel => exact ⟨i + 1, ro, by omega, by go_num, HL8.out, HQ8.out, HX8.out⟩
                    case measure => simp [intOf]; omega
                  · have HP8 := Lib.hid P8
                    have HQ8 := Lib.hid (HQ.out.stay (Stay.below hb8))
                    have HX8 := Lib.hid (HX.out.stay (Stay.below hb8))
                    have c80 := P8.cell
                    clear P8 hb8 HL HQ HX d0
                    go_wp2_with fail
                    refine (pageCellQ_ok (w := w8) (b := bp)).mono ?_
                    rintro e w9 ⟨rfl, rfl⟩
                    go_wp2_with fail
                    refine (HP8.out.load (by omega)).mono ?_
                    rintro e w9 ⟨rfl, P9, hs9⟩
                    have HP9 := Lib.hid P9
                    have HQ9 := Lib.hid (HQ8.out.stay hs9)
                    have HX9 := Lib.hid (HX8.out.stay hs9)
                    have c90 := P9.cell
                    clear P9 hs9 HP8 HQ8 HX8 c80
                    go_wp2_with fail
                    refine (HP9.out.post (by omega)).mono ?_
                    rintro e w10 ⟨rfl, B10, hs10⟩
                    have HL10 : Hid (BL W ro bh ba (2 * j) x (U.drop (j + 1)) R G (i + 1) w10) := .inr ⟨B10, i, g, by omega, hgi, hgx⟩
                    have HQ10 := Lib.hid (HQ9.out.stay hs10)
                    have HX10 := Lib.hid (HX9.out.stay hs10)
                    clear B10 hs10 HP9 HQ9 HX9 c90 hgi hgx
                    go_wp2_with fail
                    go_roundw
                    case rel => exact ⟨i + 1, ro, by omega, by go_num, HL10.out, HQ10.out, HX10.out⟩
                    case measure => simp [intOf]; omega
                · obtain rfl : i = m7 := by omega
                  have HM8 := Lib.hid (HL.out.end_ (by omega))
                  clear HL HX
                  go_wp2_with fail
                  go_roundw
                  case rel => exact ⟨j + 1, ro, G, x :: R, by omega, by go_num, HM8.out.mono (by omega), HQ.out⟩
                  case measure => simp [intOf]; omega
            · clear hx HM
              have HFR : ∀ K : Prop, (j < n2 → (∃ b off, A2 = some ⟨b, off, none⟩ ∧ wr.cell? ⟨b, off + j, none⟩ = some (.bool false)) → K) → (¬ j < n2 → K) → K := fun K h1 h2 => by
                by_cases h : j < n2
                · refine h1 h ?_
                  obtain ⟨g2, off2, hA2, hg2, hcell2⟩ := HF2.out j h
                  refine ⟨g2, off2, hA2, (HMs.out.below.cell (p := ⟨g2, off2 + j, none⟩) hg2).trans ?_⟩
                  rw [hcell2]
                  cases e : P j
                  · rfl
                  · exact absurd ⟨h, e⟩ hp
                · exact h2 h
              have HFR := Lib.hid HFR
              clear hp
              refine HFR.out _ (fun hj2 ⟨g2, off2, hA2, p0⟩ => ?_) (fun hj2 => ?_)
              · subst hA2
                clear HFR
                go_wp2_with fail
                refine HMs.out.free.mono ?_
                rintro e w8 ⟨rfl, ro8, G8, M8, hs8⟩
                have HM8 := Lib.hid M8
                have HQ8 := Lib.hid (HQ.out.stay hs8)
                clear M8 hs8 HMs HQ d0 p0
                go_wp2_with fail
                go_roundw
                case rel => exact ⟨j + 1, ro8, G8, R, by omega, by go_num, HM8.out.mono (by omega), HQ8.out⟩
                case measure => simp [intOf]; omega
              · clear HFR
                go_wp2_with fail
                refine HMs.out.free.mono ?_
                rintro e w8 ⟨rfl, ro8, G8, M8, hs8⟩
                have HM8 := Lib.hid M8
                have HQ8 := Lib.hid (HQ.out.stay hs8)
                clear M8 hs8 HMs HQ d0
                go_wp2_with fail
                go_roundw
                case rel => exact ⟨j + 1, ro8, G8, R, by omega, by go_num, HM8.out.mono (by omega), HQ8.out⟩
                case measure => simp [intOf]; omega
          · obtain rfl : j = U.length := by omega
            have HM8 : Hid (BG W ro bh ba 200 [] R G wr) := by
              have := HM.out
              rw [List.drop_eq_nil_of_le (by omega)] at this
              exact this.mono (by omega)
            obtain ⟨K, hpg, hgs⟩ := HM8.out.pages
            have HPG := Lib.hid hpg
            have HG8 := Lib.hid hgs
            clear HM HM8 HQ hpg hgs
            go_wp2_with fail
            refine HPG.out.mono ?_
            rintro e w9 ⟨v9, rfl, ho9, hb9⟩
            have HG9 := Lib.hid (HG8.out.cut.on hb9)
            have hX9 := OwnX.new (ro := ro) ho9 HG8.out.below.size
            obtain ⟨A9, c9, rfl, hc9, hc9'⟩ := hX9.form
            unfold maxLen at hc9'
            have HX9 := Lib.hid hX9
            have hlp : (startsOf K).length = K.length := by unfold startsOf; rw [List.length_map]
            rw [hlp] at HX9 hc9
            rw [hlp]
            obtain ⟨m9, hm9⟩ : ∃ m, m = K.length := ⟨_, rfl⟩
            rw [← hm9] at HX9 hc9 hlp
            rw [← hm9]
            generalize cutR ro wr.heap.size = ro9 at HG9 HX9
            clear ho9 hb9 HG8 HPG hX9
            go_wp2_with fail
            go_loopw [144] (fun ix wr => ∃ (i : Nat) (ro : Nat → Role), i ≤ m9 ∧ ix = .int .i64 i ∧ Hid (GS W ro bh ba 200 (K.drop i) wr) ∧ Hid (OwnX W ro 29 (.slice A9 m9 c9) (startsOf K) wr)) (fun ix _ => m9 - (intOf ix).toNat)
            case atStart => exact ⟨0, ro9, by omega, rfl, HG9.out, HX9.out⟩
            case round =>
              clear HG9 HX9
              obtain ⟨i, ro, hi, rfl, HG, HX⟩ := hrel
              by_cases hli : i < m9
              · obtain ⟨y, hy⟩ : ∃ y, K[i]? = some y := ⟨K[i]'(by omega), List.getElem?_eq_getElem (by omega)⟩
                obtain ⟨g9, rfl, d0⟩ := HX.out.at_ (k := i) (u := .int .u64 (y * 1024)) (by unfold startsOf; rw [List.getElem?_map, hy]; rfl)
                have HGs : Hid (GS W ro bh ba 200 (y :: K.drop (i + 1)) wr) := by
                  rw [← drop_at hy]
                  exact HG.out
                clear hy HG
                go_wp2_with fail
                refine (HGs.out.gather (by omega)).mono ?_
                rintro e w10 ⟨⟨q, rfl⟩, ro10, G10, hs10⟩
                have HG10 := Lib.hid G10
                have HX10 := Lib.hid (HX.out.stay hs10)
                clear G10 hs10 HGs HX d0
                go_wp2_with fail
                go_roundw
                case rel => exact ⟨i + 1, ro10, by omega, by go_num, HG10.out, HX10.out⟩
                case measure => simp [intOf]; omega
              · obtain rfl : i = m9 := by omega
                have HGs : Hid (GS W ro bh ba 200 [] wr) := by
                  have := HG.out
                  rw [List.drop_eq_nil_of_le (by omega)] at this
                  exact this
                clear HG HX
                go_wp2_with fail
                refine HGs.out.segs.mono ?_
                rintro e w12 ⟨A12, c12, rfl, hb12⟩
                have HG12 := Lib.hid (HGs.out.on hb12)
                clear hb12 HGs
                go_wp2_with fail
                refine HG12.out.pages.mono ?_
                rintro e w13 ⟨A13, c13, rfl, hb13⟩
                have HG13 := Lib.hid (HG12.out.on hb13)
                clear hb13 HG12
                go_wp2_with fail
                refine HG13.out.given.mono ?_
                rintro e w14 ⟨rfl, hb14⟩
                have HB14 := Lib.hid hb14
                clear hb14 HG13
                go_wp2_with fail
                go_ret
                exact ⟨rfl, HB14.out⟩
end Go.Proofs.YtbljphaklciinaaGreat

/- The acts of layer 12's laws, as arguments. -/
namespace Go.Proofs.YtbljphaklciinaaGreat
open Go.ChangeShapes Go.WideShapes Go.RowKit

structure Act12 where
  K : Int
  N : Int
  S : Int
  Q : Int
  D : Int
instance : Inhabited Act12 := ⟨⟨0, 0, 0, 0, 0⟩⟩

/-- A row of acts. -/
def Acts12 (W : World) (A : Option Addr) (n : Nat) (L : Nat → Act12) : Prop := ∀ i, i < n → ∃ g off, A = some ⟨g, off, none⟩ ∧ g < W.heap.size ∧
  W.cell? ⟨g, off + i * 5, none⟩ = some (.int .i64 (L i).K) ∧ W.cell? ⟨g, off + i * 5 + 1, none⟩ = some (.int .i64 (L i).N) ∧ W.cell? ⟨g, off + i * 5 + 2, none⟩ = some (.int .i64 (L i).S) ∧
  W.cell? ⟨g, off + i * 5 + 3, none⟩ = some (.int .i64 (L i).Q) ∧ W.cell? ⟨g, off + i * 5 + 4, none⟩ = some (.int .u64 (L i).D) ∧
  (-9223372036854775808 ≤ (L i).N ∧ (L i).N ≤ 9223372036854775807) ∧ (-9223372036854775808 ≤ (L i).S ∧ (L i).S ≤ 9223372036854775807) ∧ (-9223372036854775808 ≤ (L i).Q ∧ (L i).Q ≤ 9223372036854775807) ∧ (0 ≤ (L i).D ∧ (L i).D < 18446744073709551616)

section
variable {H : Type} {enc : TypeId × Value → H} {W : World} {base : Nat} {args : Array Value} {ds : List (DataW H)} {p : List MemPlace}

theorem wf_i64 {x : Int} (h : (Lit.int .i64 x).wf = true) : -9223372036854775808 ≤ x ∧ x ≤ 9223372036854775807 := by
  simp only [Lit.wf, Bool.and_eq_true, decide_eq_true_eq] at h
  exact h
theorem wf_u64 {x : Int} (h : (Lit.int .u64 x).wf = true) : 0 ≤ x ∧ x < 18446744073709551616 := by
  simp only [Lit.wf, Bool.and_eq_true, decide_eq_true_eq] at h
  have h1 : (0 : Int) ≤ x := h.1
  have h2 : x ≤ 18446744073709551615 := h.2
  omega

theorem cells_act12 : Tryz.prog.cellsOf 43 = 5 := by kernel_rfl
set_option maxRecDepth 100000 in
theorem open_acts12 {v : Value} {d : DataW H} {ps : List MemPlace} (hv : Value.okWide Tryz.prog W .any base 40 v) (h : DataW.Trod enc Tryz.prog W 0 (fun _ => true) true 40 v d ps) (hlt : ∀ x ∈ ps, x.block < W.heap.size) :
    ∃ A n c L, v = .slice A n c ∧ n ≤ c ∧ c ≤ maxLen ∧ Acts12 W A n L := by
  obtain ⟨A, n, c, rfl, hn, hc, hi⟩ := arg_structs Tryz.underlying40 Tryz.underlying43 (by kernel_rfl) cells_act12 (by decide) hv h hlt
  have hx : ∀ i, i < n → ∃ x : Act12, ∃ g off, A = some ⟨g, off, none⟩ ∧ g < W.heap.size ∧
      W.cell? ⟨g, off + i * 5, none⟩ = some (.int .i64 x.K) ∧ W.cell? ⟨g, off + i * 5 + 1, none⟩ = some (.int .i64 x.N) ∧ W.cell? ⟨g, off + i * 5 + 2, none⟩ = some (.int .i64 x.S) ∧
      W.cell? ⟨g, off + i * 5 + 3, none⟩ = some (.int .i64 x.Q) ∧ W.cell? ⟨g, off + i * 5 + 4, none⟩ = some (.int .u64 x.D) ∧
      (-9223372036854775808 ≤ x.N ∧ x.N ≤ 9223372036854775807) ∧ (-9223372036854775808 ≤ x.S ∧ x.S ≤ 9223372036854775807) ∧ (-9223372036854775808 ≤ x.Q ∧ x.Q ≤ 9223372036854775807) ∧ (0 ≤ x.D ∧ x.D < 18446744073709551616) := fun i hin => by
    obtain ⟨b, off, hA, hb, hf⟩ := hi i hin
    obtain ⟨u0, y0, f0, c0, t0, _⟩ := hf 0 _ rfl
    obtain ⟨u1, y1, f1, c1, t1, _⟩ := hf 1 _ rfl
    obtain ⟨u2, y2, f2, c2, t2, _⟩ := hf 2 _ rfl
    obtain ⟨u3, y3, f3, c3, t3, _⟩ := hf 3 _ rfl
    obtain ⟨u4, y4, f4, c4, t4, _⟩ := hf 4 _ rfl
    obtain ⟨x, hx, _, _⟩ := DataW.trod_int Tryz.underlying3 t0
    obtain ⟨y, hy, _, wy⟩ := DataW.trod_int Tryz.underlying3 t1
    obtain ⟨z, hz, _, wz⟩ := DataW.trod_int Tryz.underlying3 t2
    obtain ⟨q, hq, _, wq⟩ := DataW.trod_int Tryz.underlying3 t3
    obtain ⟨d, hd, _, wd⟩ := DataW.trod_int Tryz.underlying29 t4
    simp at hx hy hz hq hd
    subst hx hy hz hq hd
    exact ⟨⟨x, y, z, q, d⟩, b, off, hA, hb, c0, c1, c2, c3, c4, wf_i64 wy, wf_i64 wz, wf_i64 wq, wf_u64 wd⟩
  obtain ⟨L, hk⟩ := Go.Deep.choose_lt hx
  exact ⟨A, n, c, L, rfl, hn, hc, hk⟩
end
end Go.Proofs.YtbljphaklciinaaGreat

/- HeapBack: its arguments. -/
namespace Go.Proofs.YtbljphaklciinaaGreat
open Go.ChangeShapes Go.WideShapes Go.RowKit
section
variable {H : Type} {enc : TypeId × Value → H} {W : World} {base : Nat} {args : Array Value} {ds : List (DataW H)} {p : List MemPlace}
set_option maxRecDepth 100000 in
theorem HeapBack_run (hval : ∀ (j : Nat) t v, #[33, 69][j]? = some t → args[j]? = some v → Value.okWide Tryz.prog W .any base t v)
    (hA : DataW.TrodAll enc Tryz.prog W 0 (fun _ => true) true [33, 69] args.toList ds p) (hlt : ∀ x ∈ p, x.block < W.heap.size) :
    Calls Tryz.prog 7 args W (TrueBelow W) := by
  obtain ⟨v0, v1, d0, d1, p0, p1, rfl, rfl, rfl, h0, h1⟩ := trodAll_two hA
  obtain ⟨A, n, c, L, rfl, hn, hc, hf⟩ := arg_ints Tryz.underlying33 Tryz.underlying29 (by kernel_rfl) (hval 0 33 v0 rfl rfl) h0 (fun x hx => hlt x (by simp [hx]))
  obtain ⟨A2, n2, c2, P, rfl, hn2, hc2, hf2⟩ := arg_bools Tryz.underlying69 Tryz.underlying4 (by kernel_rfl) (hval 1 69 v1 rfl rfl) h1 (fun x hx => hlt x (by simp [hx]))
  refine back_walk W A n c L hn hc (fun i hi => ?_) A2 n2 c2 P hn2 hc2 hf2
  obtain ⟨b, off, e, hb, hcell, hw⟩ := hf i hi
  exact ⟨b, off, e, hb, hcell, (wf_u64 hw).1⟩
end
end Go.Proofs.YtbljphaklciinaaGreat

/- 'allotmentlaw12.HeapBack' returns true for every input, and each argument reads afterwards as it read before. No condition. -/
namespace Go.Proofs.YtbljphaklciinaaGreat
open Go.ChangeShapes Go.WideShapes Go.ChangeAt Go.RowKit

set_option maxRecDepth 100000 in
theorem HeapBack_lifted (os : Os) (started : os.Started) (H : Type) (enc : TypeId × Value → H) :
    ReturnsInHanded {} Tryz.checked os 7 .any (Rows.heapBackSpec.pre6 enc Tryz.prog Tryz.f7 Rows.heapBackRow.domain false) (Rows.heapBackSpec.post enc Tryz.prog Tryz.f7 false true false false) := by
  refine returnsInHanded_of_change (C := Tryz.checked) Tryz.own started (by kernel_rfl) Tryz.func7
    (ChangeSpec.witness6 (enc := enc) (C := Tryz.checked) false ⟨#[], #[.slice none 0 0, .slice none 0 0], []⟩ 8 (by kernel_rfl) (by kernel_rfl) (by kernel_rfl) (by kernel_rfl)) ?_
  intro W base args ds gs before hval0 hW hcnd _
  have hval : ∀ (j : Nat) t v, Tryz.f7.params[j]? = some t → args[j]? = some v → Value.okWide Tryz.prog W .any base t v := hval0
  have hW' := hW
  obtain ⟨p, q, hA0, hV, rfl, _, _⟩ := hW
  have hA : DataW.TrodAll enc Tryz.prog W 0 (fun _ => true) true Tryz.f7.params.toList args.toList ds p := hA0
  obtain ⟨rfl, rfl⟩ := trodVars_none hV
  have hlt : ∀ x ∈ p, x.block < W.heap.size := fun x hx => hW'.lt x (List.mem_append.2 (.inl hx))
  rw [Tryz.params7] at hA hval
  have hrun := HeapBack_run hval hA hlt
  refine hrun.mono fun e W' ⟨he, hb⟩ => ?_
  subst he
  refine ⟨_, rfl, law_post Tryz.laidOut ?_ rfl hW' ?_ ?_ ?_ rfl Tryz.underlying4 hb⟩
  · rw [Tryz.params7]
    intro t ht
    refine ⟨?_, ?_⟩
    · revert t ht; exact of_decide_eq_true (by kernel_rfl)
    · revert t ht; exact of_decide_eq_true (by kernel_rfl)
  all_goals
    obtain ⟨l⟩ := args
    obtain ⟨v0, vs0, d0, ds0, p0, q0, rfl, rfl, rfl, h0, r0⟩ := trodAll_cons hA
    obtain ⟨v1, vs1, d1, ds1, p1, q1, rfl, rfl, rfl, h1, r1⟩ := trodAll_cons r0
    obtain ⟨rfl, rfl, rfl⟩ := trodAll_nil r1
    rfl

theorem HeapBack_holds : Rows.HeapBackSaid :=
  OpenClaim.holds_of_wide 7 Tryz.f7 rfl rfl rfl rfl rfl rfl rfl ⟨rfl, rfl, rfl, rfl, rfl⟩ rfl rfl rfl rfl rfl (by kernel_rfl) Tryz.func7
    (joined_of Tryz.may Tryz.lifts Tryz.makes (by kernel_rfl) Tryz.laidOut (by kernel_rfl) (by kernel_rfl) (by kernel_rfl) (by kernel_rfl) (by kernel_rfl) (by kernel_rfl) (by kernel_rfl) (by kernel_rfl) (by kernel_rfl) (by kernel_rfl) (by kernel_rfl) (by kernel_rfl) (by kernel_rfl) (by kernel_rfl) (by kernel_rfl) (by kernel_rfl) (by kernel_rfl) (by kernel_rfl) (by kernel_rfl) (by kernel_rfl) (by kernel_rfl) (by kernel_rfl) (by kernel_rfl) (by kernel_rfl) (by kernel_rfl) rfl rfl (by kernel_rfl) (by kernel_rfl) (by kernel_rfl))
    (of_decide_eq_true (by kernel_rfl)) (by unfold Func.isWrapper; rw [if_neg (of_decide_eq_false (by kernel_rfl))]; exact ⟨rfl, rfl⟩)
    (fun os started H enc _ => HeapBack_lifted os started H enc)
#print axioms HeapBack_holds
end Go.Proofs.YtbljphaklciinaaGreat
