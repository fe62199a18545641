/- StackOnce, walked. -/
import Derived.Test.YtpddlnedaleblaaBytes
import Derived.Test.YtpddlnedaleblaaMapN
import Derived.Maps.RangeWalk
import Derived.Test.YtpddlnedaleblaaMoves
namespace Go.Proofs.Ytpddlnedaleblaa
open Go.ChangeShapes Go.WideShapes Go.RowKit

def pushes (n : Nat) : List Mv := (List.range n).map (fun (i : Nat) => pushV (i : Int))

theorem cnt_bd {L : List Int} {vs : List Mv} {y : Int} (h1 : L.length ≤ 100) (h2 : vs.length ≤ 100) : 0 ≤ cntC L vs y ∧ cntC L vs y ≤ 200 := by
  have := List.count_le_length (a := y) (l := L)
  have := List.countP_le_length (p := popOf y) (l := vs)
  unfold cntC
  omega
theorem cnt_take {L : List Int} {vs : List Mv} {q : Nat} {z y : Int} (h : L[q]? = some z) : cntC (L.take (q + 1)) vs y = cntC (L.take q) vs y + if y = z then 1 else 0 := by
  have : L.take (q + 1) = L.take q ++ [z] := by rw [List.take_add_one, h]; rfl
  unfold cntC
  rw [this, List.count_append, List.count_singleton]
  by_cases e : y = z
  · subst e; simp; omega
  · have : (z == y) = false := by simp; omega
    simp [this, e]
theorem cnt_takev {L : List Int} {vs : List Mv} {q : Nat} {u : Mv} {y : Int} (h : vs[q]? = some u) : cntC L (vs.take (q + 1)) y = cntC L (vs.take q) y + if popOf y u then 1 else 0 := by
  have : vs.take (q + 1) = vs.take q ++ [u] := by rw [List.take_add_one, h]; rfl
  unfold cntC
  rw [this, List.countP_append, List.countP_singleton]
  cases popOf y u <;> simp <;> omega
theorem SArg.grown_other {w w' : World} {b g : Nat} {A : Option Addr} {n : Nat} {l : List Int} (h : SArg w b A n l) (hg : w.grownBy w' (some g)) (hA : ∀ ad, A = some ad → ad.block ≠ g) : SArg w' b A n l :=
  ⟨(IntRow.below h.row (fun ad e => hg.block _ (h.ap ad e).2.2 (fun e' => hA ad e (by injection e')))).more hg.size, fun ad e => ⟨(h.ap ad e).1, (h.ap ad e).2.1, Nat.lt_of_lt_of_le (h.ap ad e).2.2 hg.size⟩⟩
theorem wf_small {y : Int} (h0 : -1 ≤ y) (h1 : y < 1000) : (Lit.int .i64 y).wf = true := by
  simp [Lit.wf, IntKind.min, IntKind.max, IntKind.signed, IntKind.bits]
  omega
theorem pushes_get {n i : Nat} (h : i < n) : (pushes n)[i]? = some (pushV (i : Int)) := by simp [pushes, h]
theorem pushes_len (n : Nat) : (pushes n).length = n := by simp [pushes]
theorem once_start (n p : Nat) : OnceOk n (pushes n ++ List.replicate p popV) ⟨[], 0, 0⟩ := by
  refine ⟨fun i hi => ⟨pushV (i : Int), ?_, rfl, rfl⟩, fun i v hi hv => ?_, fun p h => by simp at h, fun i hi v hv => ?_⟩
  · rw [List.getElem?_append_left (by rw [pushes_len]; exact hi)]
    exact pushes_get hi
  · rw [List.getElem?_append_right (by rw [pushes_len]; exact hi)] at hv
    have := List.mem_of_getElem? hv
    have := List.eq_of_mem_replicate this
    subst this
    exact ⟨rfl, by simp [popV], by simp [popV]; omega, fun _ => rfl⟩
  · rw [List.getElem?_append_left (by rw [pushes_len]; exact hi), pushes_get hi] at hv
    injection hv with hv
    subst hv
    have h0 : (pushes n ++ List.replicate p popV).countP (popOf i) = 0 := by
      rw [List.countP_eq_zero]
      intro u hu
      rcases List.mem_append.1 hu with hu | hu
      · obtain ⟨j, _, rfl⟩ := List.mem_map.1 hu
        simp [popOf, pushV]
      · have := List.eq_of_mem_replicate hu
        subst this
        simp [popOf, popV]
    rw [h0]
    simp [pushV]
theorem all_start (n p : Nat) (h : n ≤ 64) : AllOk (pushes n ++ List.replicate p popV) ⟨[], 0, 0⟩ := fun u hu => by
  rcases List.mem_append.1 hu with hu | hu
  · obtain ⟨j, hj, rfl⟩ := List.mem_map.1 hu
    have := List.mem_range.1 hj
    exact ⟨ok_push ⟨by omega, by omega⟩ _, fun h => by simp [pushV] at h⟩
  · have := List.eq_of_mem_replicate hu
    subst this
    exact ⟨ok_pop _, fun h => by simp [popV] at h⟩

set_option maxRecDepth 100000 in
set_option maxHeartbeats 8000000 in
theorem once_walk (W : World) (A : Option Addr) (n c : Nat) (f : Nat → Nat) (x y : Nat) (hx : x ≤ 255) (hy : y ≤ 255) (hf : Bytes W A n f) (hn : n ≤ c) (hc : c ≤ maxLen) :
    Calls Try.prog 10 #[.slice A n c, .int .u8 x, .int .u8 y] W (TrueBelow W) := by
  have HF := Lib.hid hf
  have hm : c < 9223372036854775808 := by unfold maxLen at hc; omega
  clear hf hc
  obtain ⟨i0, hi0, hz0, hz1, hz2⟩ := info_parts info_move
  go_enter Try.func10, Try.ntmps10
  go_wp2_with fail
  (with_reducible refine (alive13 W).mono ?_)
  rintro e w1 ⟨rfl, B1⟩
  by_cases hbig : 300 < n
  · go_wp2_with fail
    go_ret
    exact ⟨rfl, B1⟩
  · have M0 := Lib.hid (MvSt.new (SSt.new B1))
    clear B1
    go_wp2_with fail
    obtain ⟨b, hb⟩ : ∃ b, b = w1.heap.size := ⟨_, rfl⟩
    rw [← hb] at M0 ⊢
    clear hb
    obtain ⟨N, hN⟩ : ∃ N : Nat, N = x % 20 := ⟨_, rfl⟩
    have hNx : (x : Int) % 20 = N := by omega
    have hN20 : N < 20 := by omega
    rw [hNx]
    clear hN hNx
    go_loopw [8, 34] (fun v i wr => ∃ (k : Nat) (v0 : Value) (ms : List Nat) (vs : List Mv), k ≤ N ∧ i = .int .i64 k ∧ v = v0 ∧ ms.length = k ∧ Hid (vs = pushes k) ∧ Hid (MvSt W wr b ⟨[], 0, 0⟩ v0 ms vs)) (fun _ i _ => N - (intOf i).toNat)
    case atStart => exact ⟨0, _, [], [], by omega, rfl, rfl, rfl, rfl, M0⟩
    case round =>
      clear M0
      obtain ⟨k, v0, ms, vs, hk, rfl, rfl, hml, hvs, HS⟩ := hrel
      by_cases hlt : k < N
      · go_wp2_with fail
        (with_reducible refine (pushL HS.out.st (k : Int) (by omega)).mono ?_)
        rintro e w3 ⟨m, rfl, hm0, hmm, hwm, s1, m1, b1⟩
        have M1 := Lib.hid m1
        have B1 := Lib.hid b1
        have HM0 := Lib.hid hm0
        have HW3 : W.heap.size ≤ w3.heap.size := by have := b1.size; have := HS.out.st.below.size; omega
        have HO := Lib.hid (((HS.out.of_below b1).own).alloc (.cells #[mptr m] 73))
        clear s1 m1 b1 hm0
        go_wp2_with (first
          | (at_builtin
             refine wpList_append_any _ rfl (.tmp 42) (.tmp 44) _ rfl W.heap.size 73 i0 _ 1 8 Try.underlying72 hi0 hz0 hz1 hz2 rfl (by omega) _ ms.length (ms.map mptr) rfl
               HO.out _ _ 1 1 [mptr m] rfl (Reads.new1 w3 _ _) (fun u hu => by simp at hu; subst hu; rfl) (by simp only [maxLen]; omega) (by omega) (by simp; omega) ?_
             intro v6 w6 hown6 hg6 hat6
             have HN := Lib.hid (HS.out.add HM0.out B1.out M1.out hown6 hg6 hat6)
             clear hown6 hg6 hat6 HS HO B1 M1)
          | fail)
        go_roundw
        case rel => exact ⟨k + 1, v6, ms ++ [m], _, by omega, by go_num, rfl, by simp; omega, by show _ = _; rw [hvs.out]; unfold pushes; rw [List.range_succ, List.map_append]; rfl, HN⟩
        case measure => simp [intOf]; omega
      · obtain rfl : k = N := by omega
        go_wp2_with fail
        obtain ⟨P, hP⟩ : ∃ P : Nat, P = y % 20 := ⟨_, rfl⟩
        have hPy : (y : Int) % 20 = P := by omega
        have hP20 : P < 20 := by omega
        rw [hPy]
        have HS0 := HS
        have hvs0 := hvs
        have hml0 := hml
        clear hP hPy HS hvs hml
        obtain ⟨N, hNk⟩ : ∃ N : Nat, N = k := ⟨_, rfl⟩
        rw [← hNk] at hml0 hN20 hvs0 ⊢
        clear hNk hlt hk
        go_loopw [8, 50] (fun v i wr => ∃ (k : Nat) (v0 : Value) (ms : List Nat) (vs : List Mv), k ≤ P ∧ i = .int .i64 k ∧ v = v0 ∧ ms.length = N + k ∧ Hid (vs = pushes N ++ List.replicate k popV) ∧ Hid (MvSt W wr b ⟨[], 0, 0⟩ v0 ms vs)) (fun _ i _ => P - (intOf i).toNat)
        case atStart => exact ⟨0, _, ms, vs, by omega, rfl, rfl, hml0, by show _ = _; rw [hvs0.out]; simp, HS0⟩
        case round =>
          clear HS0 hml0 hvs0
          obtain ⟨k, v0, ms, vs, hk, rfl, rfl, hml, hvs, HS⟩ := hrel
          by_cases hlt : k < P
          · go_wp2_with fail
            (with_reducible refine (popL HS.out.st).mono ?_)
            rintro e w3 ⟨m, rfl, hm0, hmm, hwm, s1, m1, b1⟩
            have M1 := Lib.hid m1
            have B1 := Lib.hid b1
            have HM0 := Lib.hid hm0
            have HW3 : W.heap.size ≤ w3.heap.size := by have := b1.size; have := HS.out.st.below.size; omega
            have HO := Lib.hid (((HS.out.of_below b1).own).alloc (.cells #[mptr m] 73))
            clear s1 m1 b1 hm0
            go_wp2_with (first
              | (at_builtin
                 refine wpList_append_any _ rfl (.tmp 56) (.tmp 58) _ rfl W.heap.size 73 i0 _ 1 8 Try.underlying72 hi0 hz0 hz1 hz2 rfl (by omega) _ ms.length (ms.map mptr) rfl
                   HO.out _ _ 1 1 [mptr m] rfl (Reads.new1 w3 _ _) (fun u hu => by simp at hu; subst hu; rfl) (by simp only [maxLen]; omega) (by omega) (by simp; omega) ?_
                 intro v6 w6 hown6 hg6 hat6
                 have HN := Lib.hid (HS.out.add HM0.out B1.out M1.out hown6 hg6 hat6)
                 clear hown6 hg6 hat6 HS HO B1 M1)
              | fail)
            go_roundw
            case rel => exact ⟨k + 1, v6, ms ++ [m], _, by omega, by go_num, rfl, by simp; omega, by show _ = _; rw [hvs.out, List.replicate_succ', ← List.append_assoc], HN⟩
            case measure => simp [intOf]; omega
          · obtain rfl : k = P := by omega
            obtain ⟨Av, cv, hv0⟩ := HS.out.slice
            subst hv0
            by_cases h0 : ms.length = 0
            · rw [h0] at HS ⊢
              go_wp2_with fail
              (with_reducible refine (all_of HS.out.st).mono ?_)
              rintro e w4 ⟨Aa, ca, rfl, s4, b4, r4, _⟩
              have B4 := Lib.hid s4.below
              rw [show (⟨[], 0, 0⟩ : Stk).L.length = 0 from rfl]
              clear s4 r4 b4 HS
              go_wp2_with fail
              go_ret
              exact ⟨rfl, B4.out⟩
            · have hl0 : ((ms.length : Int) == 0) = false := beq_eq_false_iff_ne.2 (by omega)
              have HML := Lib.hid hml
              have hml1 : ms.length ≤ 40 := by omega
              have hml2 : N ≤ ms.length := by omega
              clear hml
              have HOK := Lib.hid (once_start N k)
              have HAL := Lib.hid (all_start N k (by omega))
              rw [← hvs.out] at HOK HAL
              clear hvs
              go_wp2_with fail
              clear hl0
              go_loopw [16, 69] (fun _ i wr => ∃ (j : Nat) (s : Stk) (vs : List Mv), j ≤ n ∧ i = .int .i64 j ∧ 0 ≤ s.n ∧ s.n ≤ j ∧ 0 ≤ s.t ∧ s.t ≤ j ∧ Hid (OnceOk N vs s) ∧ Hid (AllOk vs s) ∧ Hid (MvSt W wr b s (.slice Av ms.length cv) ms vs)) (fun _ i _ => n - (intOf i).toNat)
              case atStart => exact ⟨0, ⟨[], 0, 0⟩, vs, by omega, rfl, by decide, by decide, by decide, by decide, HOK, HAL, HS⟩
              case round =>
                clear HOK HAL HS
                obtain ⟨j, s, vs, hj, rfl, n0, n1, t0, t1, HOK, HAL, HS⟩ := hrel
                by_cases hjt : j < n
                · obtain ⟨g, off, rfl, hg, hfj, h0'⟩ := HF.out j hjt
                  have h0 := (HS.out.st.below.cell (p := ⟨g, off + j, none⟩) hg).trans h0'
                  generalize f j = z at *
                  clear h0'
                  obtain ⟨r, hr⟩ : ∃ r : Nat, r = z % ms.length := ⟨_, rfl⟩
                  have hrz : (z : Int) % (ms.length : Int) = r := by rw [hr]; exact (Int.natCast_emod _ _).symm
                  have hrz' : (z : Int).tmod (ms.length : Int) = r := by rw [Int.tmod_eq_emod_of_nonneg (by omega)]; exact hrz
                  have hrl : r < ms.length := by rw [hr]; exact Nat.mod_lt _ (by omega)
                  have hr0 : (0 : Int) ≤ (r : Int) := by omega
                  have hr1 : (r : Int) < (ms.length : Int) := by omega
                  obtain ⟨gv, cv', m, u, hve, hm, hu, hcell, hM, hmb, hWm⟩ := HS.out.get hrl
                  injection hve with hve1 hve2 hve3
                  subst hve1 hve3
                  have HM' := Lib.hid hM
                  have HMM := Lib.hid hm
                  have HU := Lib.hid hu
                  clear hM hm hu hr hve2
                  go_wp2_with fail
                  have hlu := HAL.out u (List.mem_of_getElem? HU.out)
                  have HOK2 := Lib.hid (HOK.out.step (fun v hv => (HAL.out v hv).1) HU.out)
                  have HAL2 := Lib.hid (HAL.out.step HS.out.st.n_of HU.out)
                  have hup := stepV_bd u s
                  (with_reducible refine (step_law HS.out.st HM'.out hmb hWm hlu.1 n0 (by omega) t0 (by omega)).mono ?_)
                  rintro e w5 ⟨rfl, s5, m5, o5⟩
                  have HS5 := Lib.hid (HS.out.step HMM.out o5 s5 m5)
                  clear s5 m5 o5 HS hlu HM' hcell hrz hrz' h0
                  go_wp2_with fail
                  go_roundw
                  case rel => exact ⟨j + 1, _, _, by omega, by go_num, by omega, by omega, by omega, by omega, HOK2, HAL2, HS5⟩
                  case measure => simp [intOf]; omega
                · obtain rfl : j = n := by omega
                  have hmm := @run_makeMap Try.prog
                  go_wp2_with fail
                  clear hmm
                  obtain ⟨g2, hg2⟩ : ∃ g2, g2 = wr.heap.size := ⟨_, rfl⟩
                  obtain ⟨hgb, hgW, hgv, hgm⟩ := HS.out.fresh hg2
                  have C0 := Lib.hid (CntN.new wr (N : Int))
                  have B0 : Below wr.heap.size wr (wr.alloc (.map #[] 0)) := (Below.refl _ _).alloc (Nat.le_refl _) _
                  have HS1 := Lib.hid (HS.out.of_below B0)
                  rw [← hg2] at C0 ⊢
                  have hL64 : s.L.length ≤ 64 := StackAt.len (L := s.L) (t := s.t) (n := s.n) HS.out.st.at_
                  clear B0 hg2 HS
                  go_wp2_with fail
                  (with_reducible refine (all_of HS1.out.st).mono ?_)
                  rintro e w4 ⟨Aa, ca, rfl, s4, b4, r4, hfr⟩
                  have R4 := Lib.hid r4
                  have HS4 := Lib.hid (HS1.out.of_below b4)
                  have C4 := Lib.hid (C0.out.eq (b4.block g2 C0.out.lt))
                  have HAg : Hid (∀ ad, Aa = some ad → ad.block ≠ g2) := fun ad e => by have := hfr ad e; have := C0.out.lt; omega
                  clear s4 r4 b4 hfr C0 HS1
                  go_wp2_with fail
                  go_loopw [19, 86] (fun _ i wr => ∃ (q Nn : Nat) (C : Int → Int), q ≤ s.L.length ∧ i = .int .i64 q ∧ Nn ≤ q ∧ Hid (∀ y, 0 ≤ y → C y = cntC (s.L.take q) [] y) ∧ Hid (SArg wr b Aa s.L.length s.L) ∧ Hid (CntN wr g2 Nn C N) ∧ Hid (MvSt W wr b s (.slice Av ms.length cv) ms vs)) (fun _ i _ => s.L.length - (intOf i).toNat)
                  case atStart => exact ⟨0, 0, _, by omega, rfl, by omega, fun y _ => by simp [cntC], R4, C4, HS4⟩
                  case round =>
                    clear R4 C4 HS4
                    obtain ⟨q, Nn, C, hq, rfl, hNn, HC, HR, HK, HS⟩ := hrel
                    by_cases hqt : q < s.L.length
                    · obtain ⟨g, off, z, rfl, hz, hcz⟩ := HR.out.get hqt
                      have hzb := HOK.out.bd z (List.mem_of_getElem? hz)
                      obtain ⟨hz0, hz1⟩ := hzb
                      have HZ := Lib.hid hz
                      have hcb := cnt_bd (L := s.L.take q) (vs := []) (y := z) (by simp; omega) (by simp)
                      rw [← HC.out z hz0] at hcb
                      clear hz
                      have hlk := HK.out.run_lookup (y := z) (wf_small (by omega) (by omega))
                      generalize hcc : C z = cc at *
                      have HCC := Lib.hid hcc
                      clear hcc
                      obtain ⟨hcc0, hcc1⟩ := hcb
                      go_wp2_with (first
                        | (at_mapUpdate; refine wpList_update_cntN _ rfl _ _ _ rfl g2 Nn C N z (cc + 1) rfl HK.out (by unfold maxLen; omega) rfl rfl (wf_small (by omega) (by omega)) (wf_small (by omega) (by omega)) ⟨hz0, hz1⟩ ?_; intro w5 hk5 hg5; have HK5 := Lib.hid hk5; have HS5 := Lib.hid (HS.out.only hg5 hgb hgW hgv hgm); have HR5 := Lib.hid (SArg.grown_other HR.out hg5 (fun ad e => HAg.out ad e)); clear hk5 hg5 HS HR)
                        | fail)
                      have HC5 : Hid (∀ y, 0 ≤ y → (if y = z then cc + 1 else C y) = cntC (s.L.take (q + 1)) [] y) := fun y hy => by
                        rw [cnt_take HZ.out, ← HC.out y hy]
                        by_cases e : y = z
                        · subst e; simp [HCC.out]
                        · simp [e]
                      clear HC hlk hcz HK
                      go_roundw
                      case rel => exact ⟨q + 1, Nn + 1, _, by omega, by go_num, by omega, HC5, HR5, HK5, HS5⟩
                      case measure => simp [intOf]; omega
                    · obtain rfl : q = s.L.length := by omega
                      rw [List.take_length] at HC
                      clear HR hq hqt
                      have HC1 : Hid (∀ y, 0 ≤ y → C y = cntC s.L (vs.take 0) y) := by simpa using HC
                      have HCx := HK
                      have HSx := HS
                      clear HC HK HS
                      go_wp2_with fail
                      go_loopw [20, 21, 97] (fun _ _ i wr => ∃ (q Nn : Nat) (C : Int → Int), q ≤ ms.length ∧ i = .int .i64 q ∧ Nn ≤ 64 + q ∧ Hid (∀ y, 0 ≤ y → C y = cntC s.L (vs.take q) y) ∧ Hid (CntN wr g2 Nn C N) ∧ Hid (MvSt W wr b s (.slice Av ms.length cv) ms vs)) (fun _ _ i _ => ms.length - (intOf i).toNat)
                      case atStart => exact ⟨0, Nn, _, by omega, rfl, by omega, HC1, HCx, HSx⟩
                      case round =>
                        clear HC1 HCx HSx
                        obtain ⟨q, Nn, C, hq, rfl, hNn, HC, HK, HS⟩ := hrel
                        by_cases hqt : q < ms.length
                        · obtain ⟨gv, cv', m, u, hve, hm, hu, hcell, hM, hmb, hWm⟩ := HS.out.get hqt
                          injection hve with hve1 hve2 hve3
                          subst hve1 hve3
                          have HM' := Lib.hid hM
                          have HU := Lib.hid hu
                          have HN1 : Hid (∀ y, cntC s.L (vs.take (q + 1)) y = cntC s.L (vs.take q) y + if popOf y u then 1 else 0) := fun y => cnt_takev hu
                          clear hM hm hu hve2
                          by_cases hqN : q < N
                          · have HC5 : Hid (∀ y, 0 ≤ y → C y = cntC s.L (vs.take (q + 1)) y) := fun y hy => by
                              rw [HN1.out, HC.out y hy]
                              obtain ⟨v0, hv0, hv1, _⟩ := HOK.out.push q hqN
                              rw [HU.out] at hv0
                              injection hv0 with hv0
                              subst hv0
                              simp [popOf, hv1]
                            have hqN' : (q : Int) < (N : Int) := by omega
                            clear HC
                            go_wp2_with fail
                            clear hcell
                            go_roundw
                            case rel => exact ⟨q + 1, Nn, C, by omega, by go_num, by omega, HC5, HK, HS⟩
                            case measure => simp [intOf]; omega
                          · have hqN' : ¬ (q : Int) < (N : Int) := by omega
                            have hpp := HOK.out.pop q u (by omega) HU.out
                            have HPP := Lib.hid hpp
                            have hpl0 := hpp.2.1
                            have hpl1 := hpp.2.2.1
                            clear hpp
                            cases hov : u.over with
                            | false =>
                              have HOV := Lib.hid hov
                              have HC5 : Hid (∀ y, 0 ≤ y → C y = cntC s.L (vs.take (q + 1)) y) := fun y hy => by
                                rw [HN1.out, HC.out y hy]
                                simp [popOf, HOV.out]
                              clear hov HC
                              go_wp2_with fail
                              clear hcell
                              (with_reducible refine (done_any HM'.out).mono ?_)
                              rintro e w5 ⟨rfl, rfl⟩
                              rw [HOV.out]
                              go_wp2_with fail
                              go_roundw
                              case rel => exact ⟨q + 1, Nn, C, by omega, by go_num, by omega, HC5, HK, HS⟩
                              case measure => simp [intOf]; omega
                            | true =>
                              have HOV := Lib.hid hov
                              clear hov
                              by_cases hpn : u.place < 0
                              · have HC5 : Hid (∀ y, 0 ≤ y → C y = cntC s.L (vs.take (q + 1)) y) := fun y hy => by
                                  rw [HN1.out, HC.out y hy]
                                  have : ¬ u.place = y := by omega
                                  simp [popOf, this]
                                clear HC
                                go_wp2_with fail
                                clear hcell
                                (with_reducible refine (done_any HM'.out).mono ?_)
                                rintro e w5 ⟨rfl, rfl⟩
                                rw [HOV.out]
                                go_wp2_with fail
                                (with_reducible refine (place_any HM'.out).mono ?_)
                                rintro e w5 ⟨rfl, rfl⟩
                                go_wp2_with fail
                                go_roundw
                                case rel => exact ⟨q + 1, Nn, C, by omega, by go_num, by omega, HC5, HK, HS⟩
                                case measure => simp [intOf]; omega
                              · have hcb := cnt_bd (L := s.L) (vs := vs.take q) (y := u.place) (by omega) (by have := HS.out.len; simp; omega)
                                rw [← HC.out u.place (by omega)] at hcb
                                obtain ⟨hcc0, hcc1⟩ := hcb
                                have HP1 : Hid (u.pop = true) := HPP.out.1
                                go_wp2_with fail
                                clear hcell
                                (with_reducible refine (done_any HM'.out).mono ?_)
                                rintro e w5 ⟨rfl, rfl⟩
                                rw [HOV.out]
                                go_wp2_with fail
                                (with_reducible refine (place_any HM'.out).mono ?_)
                                rintro e w5 ⟨rfl, rfl⟩
                                go_wp2_with fail
                                (with_reducible refine (place_any HM'.out).mono ?_)
                                rintro e w5 ⟨rfl, rfl⟩
                                obtain ⟨z, hz⟩ : ∃ z, z = u.place := ⟨_, rfl⟩
                                have HZ := Lib.hid hz
                                rw [← hz] at hpl0 hpl1 hpn hcc0 hcc1 ⊢
                                clear hz
                                obtain ⟨cc, hcc⟩ : ∃ cc, cc = C z := ⟨_, rfl⟩
                                have HCC := Lib.hid hcc
                                have hlk := HK.out.run_lookup (y := z) (wf_small (by omega) (by omega))
                                rw [← hcc] at hlk hcc0 hcc1
                                clear hcc
                                go_wp2_with (first
                                  | (at_mapUpdate; refine wpList_update_cntN _ rfl _ _ _ rfl g2 Nn C N z (cc + 1) rfl HK.out (by unfold maxLen; omega) rfl rfl (wf_small (by omega) (by omega)) (wf_small (by omega) (by omega)) ⟨by omega, by omega⟩ ?_; intro w5 hk5 hg5; have HK5 := Lib.hid hk5; have HS5 := Lib.hid (HS.out.only hg5 hgb hgW hgv hgm); clear hk5 hg5 HS)
                                  | fail)
                                have HC5 : Hid (∀ y, 0 ≤ y → (if y = z then cc + 1 else C y) = cntC s.L (vs.take (q + 1)) y) := fun y hy => by
                                  rw [HN1.out, ← HC.out y hy]
                                  have hpo : popOf y u = decide (z = y) := by simp [popOf, HP1.out, HOV.out, HZ.out]
                                  rw [hpo]
                                  by_cases e : y = z
                                  · subst e; simp [HCC.out]
                                  · simp [e, Ne.symm e]
                                clear hlk HC HK
                                go_roundw
                                case rel => exact ⟨q + 1, Nn + 1, _, by omega, by go_num, by omega, HC5, HK5, HS5⟩
                                case measure => simp [intOf]; omega
                        · obtain rfl : q = ms.length := by omega
                          have HC1 : Hid (∀ y, 0 ≤ y → C y = cntC s.L vs y) := by
                            have h := HC.out
                            rw [List.take_of_length_le (by rw [HS.out.len]; exact Nat.le_refl _)] at h
                            exact h
                          have HCx := HK
                          have HSx := HS
                          clear HC HK HS
                          go_wp2_with fail
                          go_loopw [22, 23, 122] (fun _ _ i wr => ∃ (q : Nat), q ≤ N ∧ i = .int .i64 q ∧ Hid (CntN wr g2 Nn C N) ∧ Hid (MvSt W wr b s (.slice Av ms.length cv) ms vs)) (fun _ _ i _ => N - (intOf i).toNat)
                          case atStart => exact ⟨0, by omega, rfl, HCx, HSx⟩
                          case round =>
                            clear HCx HSx
                            obtain ⟨q, hq, rfl, HK, HS⟩ := hrel
                            by_cases hqt : q < N
                            · obtain ⟨gv, cv', m, u, hve, hm, hu, hcell, hM, hmb, hWm⟩ := HS.out.get (k := q) (by omega)
                              injection hve with hve1 hve2 hve3
                              subst hve1 hve3
                              have HM' := Lib.hid hM
                              have hcn := HOK.out.cnt q hqt u hu
                              have hcc := HC1.out (q : Int) (by omega)
                              unfold cntC at hcc
                              have hlk := HK.out.run_lookup (y := (q : Int)) (wf_small (by omega) (by omega))
                              clear hM hm hu hve2
                              cases hov : u.over with
                              | false =>
                                have HOV := Lib.hid hov
                                have hc0 : C (q : Int) = 0 := by rw [hov] at hcn; simp only [Bool.false_eq_true, if_false] at hcn; rw [hcc]; omega
                                rw [hc0] at hlk
                                clear hov hcn hcc hc0
                                go_wp2_with fail
                                (with_reducible refine (done_any HM'.out).mono ?_)
                                rintro e w5 ⟨rfl, rfl⟩
                                rw [HOV.out]
                                go_wp2_with fail
                                clear hcell hlk
                                go_roundw
                                case rel => exact ⟨q + 1, by omega, by go_num, HK, HS⟩
                                case measure => simp [intOf]; omega
                              | true =>
                                have HOV := Lib.hid hov
                                have hc0 : C (q : Int) = 1 := by rw [hov] at hcn; simp only [if_true] at hcn; rw [hcc]; omega
                                rw [hc0] at hlk
                                clear hov hcn hcc hc0
                                go_wp2_with fail
                                (with_reducible refine (done_any HM'.out).mono ?_)
                                rintro e w5 ⟨rfl, rfl⟩
                                rw [HOV.out]
                                go_wp2_with fail
                                clear hcell hlk
                                go_roundw
                                case rel => exact ⟨q + 1, by omega, by go_num, HK, HS⟩
                                case measure => simp [intOf]; omega
                            · obtain rfl : q = N := by omega
                              obtain ⟨D, hown, hD1, hD2⟩ := HK.out
                              have HD2 := Lib.hid hD2
                              have HB := Lib.hid HS.out.st.below
                              have hWr := HB.out.size
                              clear HK HS HC1 hD1 hD2
                              go_wp2_with (first
                                | (at_range; refine wpList_range_own _ rfl _ 77 rfl 3 3 (Go.Maps.int_keyed Try.underlying3) Try.underlying77 _ g2 _ D rfl hown ?_; intro w0 hrg0 hg0 hs0; have HR0 := Lib.hid hrg0; have HB0 := Lib.hid (HB.out.grown hg0 HB.out.size (fun j e => by cases e)); clear hrg0 hg0 hs0 hown HB)
                                | fail)
                              go_frame
                              obtain ⟨r, hr⟩ : ∃ r, r = wr.heap.size := ⟨_, rfl⟩
                              rw [← hr] at HR0 hWr ⊢
                              clear hr
                              go_loopw [24] (fun _ wl => ∃ (left : Lit → Bool) (cnt : Nat), Hid (wl.ranges Try.prog 3 (plainElem Try.prog 3) g2 r Nn D left cnt) ∧ Hid (∀ y : Int, left (.int .i64 y) = true → Maps.has D (.int .i64 y) = true) ∧ Hid (Below W.heap.size W wl)) (fun _ wl => wl.rangeLeft g2 r)
                              case atStart => exact ⟨_, _, HR0, fun y h => h, HB0⟩
                              case round =>
                                clear HR0 HB0
                                obtain ⟨left, cnt, HR, HL, HB⟩ := hrel
                                go_wp2_with (first
                                  | (at_next; refine wpList_next_ranges_ii _ rfl _ rfl 3 3 .i64 .i64 (Go.Maps.int_keyed Try.underlying3) Try.underlying3 Try.underlying3 g2 r _ _ _ _ rfl HR.out ?_ ?_)
                                  | fail)
                                · intro _ hl0
                                  clear hl0
                                  go_wp2_with fail
                                  go_ret
                                  exact ⟨rfl, HB.out⟩
                                · intro z c' w1 cnt1 hwx hwc hlx hat hrg1 hlt1 hg1 hs1 hen
                                  have hz := HD2.out z (HL.out z hlx)
                                  obtain ⟨hz0, hz1⟩ := hz
                                  have HR1 := Lib.hid hrg1
                                  have HB1 := Lib.hid (HB.out.grown hg1 HB.out.size (fun j e => by injection e with e; omega))
                                  have HLT : Hid (w1.rangeLeft g2 r < wr.rangeLeft g2 r) := by show _ < _; rw [hrg1.left_eq, HR.out.left_eq]; exact hlt1
                                  have HL1 : Hid (∀ y : Int, (fun z' : Lit => left z' && !z'.sameKey (.int .i64 z)) (.int .i64 y) = true → Maps.has D (.int .i64 y) = true) := fun y h => HL.out y (by simp at h; exact h.1)
                                  clear hwx hwc hlx hat hrg1 hg1 hs1 hlt1 HR HL HB
                                  go_wp2_with fail
                                  clear hen
                                  go_roundw
                                  case rel => exact ⟨_, cnt1, HR1, HL1, HB1⟩
                                  case measure => exact HLT.out

section
variable {H : Type} {enc : TypeId × Value → H} {W : World} {base : Nat} {args : Array Value} {ds : List (DataW H)} {p : List MemPlace}
set_option maxRecDepth 100000 in
theorem StackOnce_run (hval : ∀ (j : Nat) t v, #[67, 5, 5][j]? = some t → args[j]? = some v → Value.okWide Try.prog W .any base t v)
    (hA : DataW.TrodAll enc Try.prog W 0 (fun _ => true) true [67, 5, 5] args.toList ds p) (hlt : ∀ x ∈ p, x.block < W.heap.size) :
    Calls Try.prog 10 args W (TrueBelow W) := by
  obtain ⟨l⟩ := args
  obtain ⟨v0, vs0, d0, ds0, p0, q0, rfl, rfl, rfl, h0, r0⟩ := trodAll_cons hA
  obtain ⟨v1, vs1, d1, ds1, p1, q1, rfl, rfl, rfl, h1, r1⟩ := trodAll_cons r0
  obtain ⟨v2, vs2, d2, ds2, p2, q2, rfl, rfl, rfl, h2, r2⟩ := trodAll_cons r1
  obtain ⟨rfl, rfl, rfl⟩ := trodAll_nil r2
  obtain ⟨x, rfl, rfl, rfl, wx⟩ := open_int Try.underlying5 (hval 1 5 v1 rfl rfl) h1
  obtain ⟨y, rfl, rfl, rfl, wy⟩ := open_int Try.underlying5 (hval 2 5 v2 rfl rfl) h2
  obtain ⟨A, n, c, f, rfl, hn, hc, hf⟩ := open_bytes (hval 0 67 v0 rfl rfl) h0 (fun x hx => hlt x (by simp [hx]))
  have bx := bounds_u8 wx
  have by_ := bounds_u8 wy
  obtain ⟨x, rfl⟩ := Int.eq_ofNat_of_zero_le bx.1
  obtain ⟨y, rfl⟩ := Int.eq_ofNat_of_zero_le by_.1
  exact once_walk W A n c f x y (by omega) (by omega) hf hn hc
end
end Go.Proofs.Ytpddlnedaleblaa
