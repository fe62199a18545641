/- Walks of the program's functions, and plain laws on what they compute, text by text (GetW, Ref05, Full, FullI, FullE, ForBig, GetA, Back, FullW). No condition. -/
import Derived.Test.YtbljphaklciinaaGreatHeapApart01
import Derived.Deep.RegionLaw

/- Layer 12's laws: get, walked. -/
namespace Go.Proofs.YtbljphaklciinaaGreat
open Go.RowKit
variable {ro ro' : Nat → Role} {hn : Nat} {w w' : World} {B bm bb sz : Nat} {f g : Nat → Nat} {h : HeapR} {X : Role → Prop} {a : ArR} {W : World} {n k r x : Nat} {o : Obj}

def gotV (y : Option Nat) (v : Int) : Value := match y with
  | some x => .tuple #[.int .u64 (x : Nat), .int .u64 v, .bool true]
  | none => .tuple #[.int .u64 0, .int .u64 0, .bool false]

def GetTo (W : World) (ro : Nat → Role) (w : World) (bm bb n k r : Nat) (f : Nat → Nat) (h : HeapR) (c : Int) (i sl S N : Nat) (v : Int) (e : Ending) (w' : World) : Prop :=
  ∃ y f' h' k' ro' a', e = .returned (gotV y v) ∧ GetR (n * 16384) n k f h c i sl S N y f' h' k' ∧ LawH W ro' 0 w' bm bb (n * 16384) f' h' a' ∧ KA n k' (r + 1) h' a' ∧ h'.bh = h.bh ∧ h'.ba = h.ba ∧ Stay ro w ro' w'

theorem KA.up (K : KA n k r h a) : KA n k (r + 1) h a := { K with rf := Nat.le_succ_of_le K.rf }

set_option maxRecDepth 100000 in
set_option maxHeartbeats 8000000 in
theorem get_walk (L : LawH W ro 0 w bm bb (n * 16384) f h a) (K : KA n k r h a) (hn : n ≤ 16) (hr : r < 1000000) {c q v : Int} {i sl S N : Nat} (hp : PlanOk c q i sl S N) (h3 : -9223372036854775808 ≤ q) (h4 : q ≤ 9223372036854775807) {nn m : Int} (hm : nn % 15361 = m) (hn0 : 0 ≤ nn)
    (HF : Calls Tryz.prog 33 #[.int .u64 m, .int .u64 1] w fun e w' => e = .returned (.tuple #[.agg #[.int .i64 c, .int .i64 q, .int .i64 0, .int .u64 v], .int .i64 0]) ∧ Below w.heap.size w w') :
    Calls Tryz.prog 11 #[.pointer (some ⟨h.bh, 0, none⟩), .int .u64 nn] w (GetTo W ro w bm bb n k r f h c i sl S N v) := by
  have HFOR := Lib.hid HF
  have HL := Lib.hid L
  have HK := Lib.hid K
  have HP := Lib.hid hp
  clear HF L K
  rcases hp with ⟨rfl, _⟩ | ⟨rfl, hi, _⟩
  · go_enter Tryz.func11, Tryz.ntmps11
    go_wp2_with fail
    refine HFOR.out.mono ?_
    rintro e w1 ⟨rfl, hb1⟩
    have L2 := LX.made (HL.out.on hb1) HK.out rfl (.cells #[.int .i64 (-1), .int .i64 q, .int .i64 0, .int .u64 v] 54)
    have HS1 : Hid (Stay ro w (cutR ro w1.heap.size) (w1.alloc (.cells #[.int .i64 (-1), .int .i64 q, .int .i64 0, .int .u64 v] 54))) := ((Stay.below hb1).trans (Stay.cut rfl)).trans (Stay.below ((Below.refl _ _).alloc (Nat.le_refl _) _))
    have v0 := L2.cell (j := 0) rfl
    have v1 := L2.cell (j := 1) rfl
    have v2 := L2.cell (j := 2) rfl
    have v3 := L2.cell (j := 3) rfl
    have HFR := Lib.hid (fresh_g (u := 0) (v := v) L2 HP.out h3 h4)
    have HQ := Lib.hid (And.intro h3 h4)
    clear hb1 HFOR L2 h3 h4
    go_wp2_with fail
    refine HFR.out.mono ?_
    rintro e w3 (⟨y, f3, h3', ro3, rfl, hg, L3, e1, e2, st3⟩ | ⟨ec, hec, rfl, hno, L3, st3⟩)
    · have v3 := L3.cell (j := 3) rfl
      have HL3 := Lib.hid L3
      have HG3 := Lib.hid hg
      have HE3 := Lib.hid (And.intro e1 e2)
      have HS3 := Lib.hid (HS1.out.trans st3)
      clear L3 hg e1 e2 st3  v0 v1 v2 HFR
      go_wp2_with fail
      go_quiet (fail)
      go_wp2_with fail
      (try simp only [Exit.inBlock, Exit.then])
      go_ret3
      exact ⟨some y, f3, h3', k, ro3, a, rfl, .inr ⟨h, .inr ⟨rfl, rfl⟩, .inl ⟨y, rfl, HG3.out, rfl⟩⟩, (HL3.out.law.on (below_drewN (Below.refl _ _) nq)), HL3.out.ka.up, HE3.out.1, HE3.out.2, HS3.out.trans (Stay.below (below_drewN (Below.refl _ _) nq))⟩
    · have q0 : (ec == 0) = false := by simpa using hec
      have HGR := Lib.hid (grow_g L3 hn hr)
      skip
      have HNO := Lib.hid hno
      have HS3 := Lib.hid (HS1.out.trans st3)
      clear L3 hno hec st3  v0 v1 v2 v3 HFR
      go_wp2_with fail
      refine HGR.out.mono ?_
      rintro e w4 (⟨hk, h4', ro4, a4, rfl, hgr, L4, e1, e2, st4⟩ | ⟨hk, a4, rfl, L4, st4⟩)
      · have v0 := L4.cell (j := 0) rfl
        have v1 := L4.cell (j := 1) rfl
        have v2 := L4.cell (j := 2) rfl
        have v3 := L4.cell (j := 3) rfl
        have HFR := Lib.hid (fresh_g (u := 0) (v := v) L4 HP.out HQ.out.1 HQ.out.2)
        rw [e1] at HFR
        have HGG := Lib.hid hgr
        have HE4 := Lib.hid (And.intro e1 e2)
        have HS4 := Lib.hid (HS3.out.trans st4)
        clear L4 hgr e1 e2 HGR st4
        go_wp2_with fail
        refine HFR.out.mono ?_
        rintro e w5 (⟨y, f5, h5, ro5, rfl, hg, L5, e1, e2, st5⟩ | ⟨ec, hec, rfl, hno, L5, st5⟩)
        · have v3' := L5.cell (j := 3) rfl
          have HL5 := Lib.hid L5
          have HG5 := Lib.hid hg
          have HE5 := Lib.hid (And.intro e1 e2)
          have HS5 := Lib.hid (HS4.out.trans st5)
          clear L5 hg e1 e2 st5 v0 v1 v2 v3 HFR
          go_wp2_with fail
          go_quiet (fail)
          go_wp2_with fail
          (try simp only [Exit.inBlock, Exit.then])
          go_ret3
          exact ⟨some y, f5, h5, k + 1, ro5, a4, rfl, .inr ⟨h, .inr ⟨rfl, rfl⟩, .inr (.inl ⟨HNO.out, hk, h4', y, rfl, HGG.out, HG5.out, rfl⟩)⟩, (HL5.out.law.on (below_drewN (Below.refl _ _) nq)), HL5.out.ka.up, HE5.out.1, HE5.out.2.trans HE4.out.2, HS5.out.trans (Stay.below (below_drewN (Below.refl _ _) nq))⟩
        · exact absurd hno (room_new HGG.out HP.out.facts.2.2.2.2.2.1)
      · have HL4 := Lib.hid L4
        have HS4 := Lib.hid (HS3.out.trans st4)
        clear L4 HGR st4
        go_wp2_with fail
        (try simp only [Exit.inBlock, Exit.then])
        go_ret3
        exact ⟨none, f, h, k, _, a4, rfl, .inr ⟨h, .inr ⟨rfl, rfl⟩, .inr (.inr ⟨HNO.out, hk, rfl, rfl, rfl, rfl⟩)⟩, HL4.out.law, HL4.out.ka, rfl, rfl, HS4.out⟩
  · go_enter Tryz.func11, Tryz.ntmps11
    go_wp2_with fail
    refine HFOR.out.mono ?_
    rintro e w1 ⟨rfl, hb1⟩
    have HX := Lib.hid (LX.made (HL.out.on hb1) HK.out rfl (.cells #[.int .i64 (i : Int), .int .i64 q, .int .i64 0, .int .u64 v] 54))
    have HS1 : Hid (Stay ro w (cutR ro w1.heap.size) (w1.alloc (.cells #[.int .i64 (i : Int), .int .i64 q, .int .i64 0, .int .u64 v] 54))) := ((Stay.below hb1).trans (Stay.cut rfl)).trans (Stay.below ((Below.refl _ _).alloc (Nat.le_refl _) _))
    clear hb1 HFOR
    go_wp2_with fail
    refine (local_g HX.out hi).mono ?_
    rintro e w2 (⟨y, f2, h2, ro2, rfl, hg, L2, e1, e2, st2⟩ | ⟨h2, ro2, rfl, hg, L2, e1, e2, st2⟩)
    · have v3 := L2.cell (j := 3) rfl
      have HL2 := Lib.hid L2
      have HG := Lib.hid hg
      have HE := Lib.hid (And.intro e1 e2)
      have HS2 := Lib.hid (HS1.out.trans st2)
      clear L2 hg e1 e2 HX st2 HS1
      go_wp2_with fail
      go_quiet (fail)
      go_wp2_with fail
      (try simp only [Exit.inBlock, Exit.then])
      go_ret3
      exact ⟨some y, f2, h2, k, ro2, a, rfl, .inl ⟨y, rfl, by omega, HG.out, rfl⟩, (HL2.out.law.on (below_drewN (Below.refl _ _) nq)), HL2.out.ka.up, HE.out.1, HE.out.2, HS2.out.trans (Stay.below (below_drewN (Below.refl _ _) nq))⟩
    · have v0 := L2.cell (j := 0) rfl
      have v1 := L2.cell (j := 1) rfl
      have v2 := L2.cell (j := 2) rfl
      have v3 := L2.cell (j := 3) rfl
      have HFR := Lib.hid (fresh_g (u := 0) (v := v) L2 HP.out h3 h4)
      rw [e1] at HFR
      have HL2 := Lib.hid L2
      have HG := Lib.hid hg
      have HE := Lib.hid (And.intro e1 e2)
      have HS2 := Lib.hid (HS1.out.trans st2)
      clear L2 hg e1 e2 HX st2 HS1
      have HQ := Lib.hid (And.intro h3 h4)
      clear h3 h4
      go_wp2_with fail
      refine HFR.out.mono ?_
      rintro e w3 (⟨y, f3, h3', ro3, rfl, hg, L3, e1, e2, st3⟩ | ⟨ec, hec, rfl, hno, L3, st3⟩)
      · have v3 := L3.cell (j := 3) rfl
        have HL3 := Lib.hid L3
        have HG3 := Lib.hid hg
        have HE3 := Lib.hid (And.intro e1 e2)
        have HS3 := Lib.hid (HS2.out.trans st3)
        clear L3 hg e1 e2 st3  v0 v1 v2 HFR
        go_wp2_with fail
        go_quiet (fail)
        go_wp2_with fail
        (try simp only [Exit.inBlock, Exit.then])
        go_ret3
        exact ⟨some y, f3, h3', k, ro3, a, rfl, .inr ⟨h2, .inl ⟨by omega, HG.out⟩, .inl ⟨y, rfl, HG3.out, rfl⟩⟩, (HL3.out.law.on (below_drewN (Below.refl _ _) nq)), HL3.out.ka.up, HE3.out.1, HE3.out.2.trans HE.out.2, HS3.out.trans (Stay.below (below_drewN (Below.refl _ _) nq))⟩
      · have q0 : (ec == 0) = false := by simpa using hec
        have HGR := Lib.hid (grow_g L3 hn hr)
        rw [HE.out.1] at HGR
        have HNO := Lib.hid hno
        have HS3 := Lib.hid (HS2.out.trans st3)
        clear L3 hno hec st3  v0 v1 v2 v3 HFR
        go_wp2_with fail
        refine HGR.out.mono ?_
        rintro e w4 (⟨hk, h4', ro4, a4, rfl, hgr, L4, e1, e2, st4⟩ | ⟨hk, a4, rfl, L4, st4⟩)
        · have v0 := L4.cell (j := 0) rfl
          have v1 := L4.cell (j := 1) rfl
          have v2 := L4.cell (j := 2) rfl
          have v3 := L4.cell (j := 3) rfl
          have HFR := Lib.hid (fresh_g (u := 0) (v := v) L4 HP.out HQ.out.1 HQ.out.2)
          rw [e1] at HFR
          have HGG := Lib.hid hgr
          have HE4 := Lib.hid (And.intro e1 e2)
          have HS4 := Lib.hid (HS3.out.trans st4)
          clear L4 hgr e1 e2 HGR st4
          go_wp2_with fail
          refine HFR.out.mono ?_
          rintro e w5 (⟨y, f5, h5, ro5, rfl, hg, L5, e1, e2, st5⟩ | ⟨ec, hec, rfl, hno, L5, st5⟩)
          · have v3' := L5.cell (j := 3) rfl
            have HL5 := Lib.hid L5
            have HG5 := Lib.hid hg
            have HE5 := Lib.hid (And.intro e1 e2)
            have HS5 := Lib.hid (HS4.out.trans st5)
            clear L5 hg e1 e2 st5 v0 v1 v2 v3 HFR
            go_wp2_with fail
            go_quiet (fail)
            go_wp2_with fail
            (try simp only [Exit.inBlock, Exit.then])
            go_ret3
            exact ⟨some y, f5, h5, k + 1, ro5, a4, rfl, .inr ⟨h2, .inl ⟨by omega, HG.out⟩, .inr (.inl ⟨HNO.out, hk, h4', y, rfl, HGG.out, HG5.out, rfl⟩)⟩, (HL5.out.law.on (below_drewN (Below.refl _ _) nq)), HL5.out.ka.up, HE5.out.1, (HE5.out.2.trans HE4.out.2).trans HE.out.2, HS5.out.trans (Stay.below (below_drewN (Below.refl _ _) nq))⟩
          · exact absurd hno (room_new HGG.out HP.out.facts.2.2.2.2.2.1)
        · have HL4 := Lib.hid L4
          have HS4 := Lib.hid (HS3.out.trans st4)
          clear L4 HGR st4
          go_wp2_with fail
          (try simp only [Exit.inBlock, Exit.then])
          go_ret3
          exact ⟨none, f, h2, k, _, a4, rfl, .inr ⟨h2, .inl ⟨by omega, HG.out⟩, .inr (.inr ⟨HNO.out, hk, rfl, rfl, rfl, rfl⟩)⟩, HL4.out.law, HL4.out.ka, HE.out.1, HE.out.2, HS4.out⟩
end Go.Proofs.YtbljphaklciinaaGreat

/- Layer 5's reference: Sizes, Slices, Blocks. -/
namespace Go.Proofs.YtbljphaklciinaaGreat
open Go.RowKit

theorem szs_in {c : Nat} (hc : c < 12) : 16 ≤ szs.getD c 0 ∧ szs.getD c 0 ≤ 1024 := by
  rcases (show c = 0 ∨ c = 1 ∨ c = 2 ∨ c = 3 ∨ c = 4 ∨ c = 5 ∨ c = 6 ∨ c = 7 ∨ c = 8 ∨ c = 9 ∨ c = 10 ∨ c = 11 by omega) with rfl | rfl | rfl | rfl | rfl | rfl | rfl | rfl | rfl | rfl | rfl | rfl <;> decide
theorem sls_of {c : Nat} (hc : c < 12) : sls.getD c 0 = if szs.getD c 0 ≤ 256 then 1 else if szs.getD c 0 ≤ 512 then 2 else 4 := by
  rcases (show c = 0 ∨ c = 1 ∨ c = 2 ∨ c = 3 ∨ c = 4 ∨ c = 5 ∨ c = 6 ∨ c = 7 ∨ c = 8 ∨ c = 9 ∨ c = 10 ∨ c = 11 by omega) with rfl | rfl | rfl | rfl | rfl | rfl | rfl | rfl | rfl | rfl | rfl | rfl <;> decide
theorem blks_of {c : Nat} (hc : c < 12) (n : Nat) : (n + 1) * szs.getD c 0 ≤ 1024 * sls.getD c 0 ↔ n < blks.getD c 0 := by
  rcases (show c = 0 ∨ c = 1 ∨ c = 2 ∨ c = 3 ∨ c = 4 ∨ c = 5 ∨ c = 6 ∨ c = 7 ∨ c = 8 ∨ c = 9 ∨ c = 10 ∨ c = 11 by omega) with rfl | rfl | rfl | rfl | rfl | rfl | rfl | rfl | rfl | rfl | rfl | rfl <;> (simp only [szs, sls, blks, List.getD_cons_zero, List.getD_cons_succ]; omega)
theorem blks_le {c : Nat} (hc : c < 12) : 4 ≤ blks.getD c 0 ∧ blks.getD c 0 ≤ 64 := by
  rcases (show c = 0 ∨ c = 1 ∨ c = 2 ∨ c = 3 ∨ c = 4 ∨ c = 5 ∨ c = 6 ∨ c = 7 ∨ c = 8 ∨ c = 9 ∨ c = 10 ∨ c = 11 by omega) with rfl | rfl | rfl | rfl | rfl | rfl | rfl | rfl | rfl | rfl | rfl | rfl <;> decide

set_option maxRecDepth 100000 in
theorem refSizes_ok (w : World) : Calls Tryz.prog 37 #[] w fun e w' => ∃ g, e = .returned (.slice (some ⟨g, 0, none⟩) 12 12) ∧ (∀ c, c < 12 → w'.cell? ⟨g, c, none⟩ = some (.int .u64 (szs.getD c 0 : Nat))) ∧ Below w.heap.size w w' := by
  go_enter Tryz.func37, Tryz.ntmps37
  go_wp2_with fail
  go_ret
  refine ⟨w.heap.size, rfl, fun c hc => ?_, (Below.refl w.heap.size w).alloc (Nat.le_refl _) _⟩
  rw [World.cell?_alloc_new]
  rcases (show c = 0 ∨ c = 1 ∨ c = 2 ∨ c = 3 ∨ c = 4 ∨ c = 5 ∨ c = 6 ∨ c = 7 ∨ c = 8 ∨ c = 9 ∨ c = 10 ∨ c = 11 by omega) with rfl | rfl | rfl | rfl | rfl | rfl | rfl | rfl | rfl | rfl | rfl | rfl <;> rfl

set_option maxRecDepth 100000 in
set_option maxHeartbeats 1000000 in
theorem refSlices_ok (w : World) (c : Nat) (hc : c < 12) : Calls Tryz.prog 12 #[.int .i64 c] w fun e w' => e = .returned (.int .i64 (sls.getD c 0 : Nat)) ∧ Below w.heap.size w w' := by
  have HS := Lib.hid (sls_of hc)
  have hb := szs_in hc
  go_enter Tryz.func12, Tryz.ntmps12
  go_wp2_with fail
  (with_reducible refine (refSizes_ok _).mono ?_)
  rintro e w1 ⟨g, rfl, hcell, B1⟩
  have hg := hcell c hc
  have HB := Lib.hid B1
  obtain ⟨S, hS⟩ : ∃ S, S = szs.getD c 0 := ⟨_, rfl⟩
  rw [← hS] at hg hb HS
  clear B1 hcell hS
  by_cases h1 : S ≤ 256
  · rw [if_pos h1] at HS
    go_wp2_with fail
    go_ret
    rw [HS.out]
    exact ⟨rfl, HB.out⟩
  · rw [if_neg h1] at HS
    by_cases h2 : S ≤ 512
    · rw [if_pos h2] at HS
      go_wp2_with fail
      go_ret
      rw [HS.out]
      exact ⟨rfl, HB.out⟩
    · rw [if_neg h2] at HS
      go_wp2_with fail
      go_ret
      rw [HS.out]
      exact ⟨rfl, HB.out⟩

set_option maxRecDepth 100000 in
set_option maxHeartbeats 2000000 in
theorem refBlocks_ok (w : World) (c : Nat) (hc : c < 12) : Calls Tryz.prog 13 #[.int .i64 c] w fun e w' => e = .returned (.int .i64 (blks.getD c 0 : Nat)) ∧ Below w.heap.size w w' := by
  have HB := Lib.hid (fun n => blks_of hc n)
  have hN := blks_le hc
  have hb := szs_in hc
  have HSL := Lib.hid (fun w => refSlices_ok w c hc)
  have hs4 : sls.getD c 0 ≤ 4 := by
    rw [sls_of hc]
    split
    · omega
    · split <;> omega
  obtain ⟨S, hS⟩ : ∃ S, S = szs.getD c 0 := ⟨_, rfl⟩
  obtain ⟨sl, hsl⟩ : ∃ sl, sl = sls.getD c 0 := ⟨_, rfl⟩
  obtain ⟨N, hNN⟩ : ∃ N, N = blks.getD c 0 := ⟨_, rfl⟩
  have HSZ : Hid (∀ w, Calls Tryz.prog 37 #[] w fun e w' => ∃ g, e = .returned (.slice (some ⟨g, 0, none⟩) 12 12) ∧ w'.cell? ⟨g, c, none⟩ = some (.int .u64 (S : Nat)) ∧ Below w.heap.size w w') := fun w => (refSizes_ok w).mono fun e w' ⟨g, h1, h2, h3⟩ => ⟨g, h1, by rw [hS]; exact h2 c hc, h3⟩
  rw [← hS, ← hsl, ← hNN] at HB
  rw [← hsl] at HSL hs4
  rw [← hS] at hb
  rw [← hNN] at hN ⊢
  clear hS hsl hNN
  go_enter Tryz.func13, Tryz.ntmps13
  go_wp2_with fail
  go_loopw [3] (fun nv wr => ∃ n : Nat, n ≤ N ∧ nv = .int .i64 n ∧ Hid (Below w.heap.size w wr)) (fun nv _ => N - (intOf nv).toNat)
  case atStart => exact ⟨0, by omega, rfl, Below.refl _ _⟩
  case round =>
    obtain ⟨n, hn, rfl, HW⟩ := hrel
    have HQ := HB.out n
    have e1 : ((n + 1) * S : Nat) ≤ 65 * 1024 := Nat.le_trans (Nat.mul_le_mul_right _ (show n + 1 ≤ 65 by omega)) (Nat.mul_le_mul_left _ hb.2)
    have eM : (((n : Int) + 1) * (S : Int)) ≤ 66560 := by
      have : (((n + 1) * S : Nat) : Int) ≤ 66560 := by omega
      rw [Int.natCast_mul] at this
      exact this
    have qL : (((n + 1) * S : Nat) : Int) = ((n : Int) + 1) * (S : Int) := by rw [Int.natCast_mul]; rfl
    by_cases hlt : n < N
    · have qM : (((n : Int) + 1) * (S : Int)) ≤ 1024 * (sl : Int) := by
        have := HQ.2 hlt
        omega
      clear qL
      have hci : (c : Int) < 12 := by omega
      have hw1 : IntKind.i64.wrap ((n : Int) + 1) = (n : Int) + 1 := Go.IntWalk.i64_in _ (by omega)
      have hw2 : IntKind.u64.wrap ((n : Int) + 1) = (n : Int) + 1 := Go.IntWalk.u64_in _ (by omega)
      have hw4 : IntKind.u64.wrap (sl : Int) = sl := Go.IntWalk.u64_in _ (by omega)
      have hw5 : IntKind.u64.wrap (1024 * (sl : Int)) = 1024 * (sl : Int) := Go.IntWalk.u64_in _ (by omega)
      obtain ⟨M, hM⟩ : ∃ M, M = (((n : Int) + 1) * (S : Int)) := ⟨_, rfl⟩
      have hw3 : IntKind.u64.wrap (((n : Int) + 1) * (S : Int)) = M := by rw [hM]; exact Go.IntWalk.u64_in _ ⟨Int.mul_nonneg (by omega) (by omega), by omega⟩
      rw [← hM] at qM
      clear hM HQ e1 eM
      go_wp2_with fail
      go_region_law (first
        | (go_simp; go_at_call 37; (with_reducible refine (HSZ.out _).mono ?_); rintro e w1 ⟨g, rfl, hc1, hb1⟩; have B1 : Hid (Below wr.heap.size wr w1) := ⟨hb1.os, hb1.tape, hb1.output, hb1.size, hb1.block⟩; clear hb1; go_wp2_with fail)
        | (go_simp; go_at_call 12; (with_reducible refine (HSL.out _).mono ?_); rintro e w2 ⟨rfl, hb2⟩; have hc2 := (hb2.cell (World.block_lt_of_cell? _ _ hc1)).trans hc1; have B2 : Hid (Below wr.heap.size wr w2) := B1.out.trans (hb2.mono B1.out.size); clear hb2; go_wp2_with fail)
        | fail)
      all_goals go_wp2_with fail
      all_goals
        go_roundw
        case rel => exact ⟨n + 1, by omega, by go_num, HW.out.trans (B2.out.mono HW.out.size)⟩
        case measure => simp [intOf]; omega
    · have qM : ¬ (((n : Int) + 1) * (S : Int)) ≤ 1024 * (sl : Int) := fun h => by
        have := HQ.1 (by omega)
        omega
      clear qL
      have hci : (c : Int) < 12 := by omega
      have hw1 : IntKind.i64.wrap ((n : Int) + 1) = (n : Int) + 1 := Go.IntWalk.i64_in _ (by omega)
      have hw2 : IntKind.u64.wrap ((n : Int) + 1) = (n : Int) + 1 := Go.IntWalk.u64_in _ (by omega)
      have hw4 : IntKind.u64.wrap (sl : Int) = sl := Go.IntWalk.u64_in _ (by omega)
      have hw5 : IntKind.u64.wrap (1024 * (sl : Int)) = 1024 * (sl : Int) := Go.IntWalk.u64_in _ (by omega)
      obtain ⟨M, hM⟩ : ∃ M, M = (((n : Int) + 1) * (S : Int)) := ⟨_, rfl⟩
      have hw3 : IntKind.u64.wrap (((n : Int) + 1) * (S : Int)) = M := by rw [hM]; exact Go.IntWalk.u64_in _ ⟨Int.mul_nonneg (by omega) (by omega), by omega⟩
      rw [← hM] at qM
      clear hM HQ e1 eM
      go_wp2_with fail
      go_region_law (first
        | (go_simp; go_at_call 37; (with_reducible refine (HSZ.out _).mono ?_); rintro e w1 ⟨g, rfl, hc1, hb1⟩; have B1 : Hid (Below wr.heap.size wr w1) := ⟨hb1.os, hb1.tape, hb1.output, hb1.size, hb1.block⟩; clear hb1; go_wp2_with fail)
        | (go_simp; go_at_call 12; (with_reducible refine (HSL.out _).mono ?_); rintro e w2 ⟨rfl, hb2⟩; have hc2 := (hb2.cell (World.block_lt_of_cell? _ _ hc1)).trans hc1; have B2 : Hid (Below wr.heap.size wr w2) := B1.out.trans (hb2.mono B1.out.size); clear hb2; go_wp2_with fail)
        | fail)
      all_goals go_wp2_with fail
      all_goals go_ret
      all_goals
        obtain rfl : n = N := by omega
        exact ⟨rfl, HW.out.trans (B2.out.mono HW.out.size)⟩
end Go.Proofs.YtbljphaklciinaaGreat

/- HeapFull, plain: what stays true of a heap all of whose pages are of one class. -/
namespace Go.Proofs.YtbljphaklciinaaGreat
open Go.RowKit
variable {ro ro' : Nat → Role} {hn : Nat} {w w' : World} {B bm bb sz : Nat} {f f' : Nat → Nat} {h h' : HeapR} {S : List SegR}

def keyOf (s : SegR) (p : PageR) : Int := ((s.pl * 16 + p.at_ : Nat) : Int)

/-- What holds of segments as such. -/
structure SOk (sz : Nat) (f : Nat → Nat) (S : List SegR) : Prop where
  pls : S.Pairwise fun s t => s.pl ≠ t.pl
  pag : ∀ s ∈ S, ∀ p ∈ s.P, PgInv f sz p.pg ∧ 1 ≤ p.at_ ∧ 1 ≤ p.sl ∧ p.at_ + p.sl ≤ 16
  nod : ∀ s ∈ S, s.P.Pairwise fun p q => p.at_ ≠ q.at_

theorem HeapAt.sok (H : HeapAt ro hn w B bm sz f h) : SOk sz f h.S :=
  ⟨H.pls, fun s hs p hp => have h := (H.segs s hs).pages p hp; ⟨h.inv, h.a1, h.s1, h.fit⟩, fun s hs => List.Pairwise.imp_of_mem (fun {p q} hp hq hpq e => by
    have h1 := ((H.segs s hs).pages p hp).s1
    have h2 := ((H.segs s hs).pages q hq).s1
    have := hpq p.at_ (by simp [covers]; omega)
    simp only [covers, decide_eq_false_iff_not] at this
    omega) (H.segs s hs).apart⟩

theorem pair_at {α : Type} {l : List α} {F : α → Nat} (h : l.Pairwise fun a b => F a ≠ F b) {x y : α} (hx : x ∈ l) (hy : y ∈ l) (e : F x = F y) : x = y := by
  rcases List.mem_iff_getElem.1 hx with ⟨i, hi, rfl⟩
  rcases List.mem_iff_getElem.1 hy with ⟨j, hj, rfl⟩
  have hpi := List.pairwise_iff_getElem.1 h
  rcases Nat.lt_trichotomy i j with h | h | h
  · exact absurd e (hpi i j hi hj h)
  · subst h; rfl
  · exact absurd e.symm (hpi j i hj hi h)
theorem pair_nodup {α : Type} {l : List α} {F : α → Nat} (h : l.Pairwise fun a b => F a ≠ F b) : l.Nodup := h.imp fun hab e => hab (congrArg F e)

theorem SOk.key_inj (K : SOk sz f S) {s t : SegR} {p q : PageR} (hs : s ∈ S) (ht : t ∈ S) (hp : p ∈ s.P) (hq : q ∈ t.P) (e : keyOf s p = keyOf t q) : s = t ∧ p = q := by
  have h1 := K.pag s hs p hp
  have h2 := K.pag t ht q hq
  unfold keyOf at e
  have es : s = t := pair_at K.pls hs ht (by omega)
  subst es
  exact ⟨rfl, pair_at (K.nod s hs) hp hq (by omega)⟩

theorem sum_map_one {α : Type} {g g' : α → Nat} {x : α} : ∀ {l : List α}, x ∈ l → l.Nodup → (∀ y ∈ l, y ≠ x → g' y = g y) → (l.map g').sum + g x = (l.map g).sum + g' x
  | [], hx, _, _ => by cases hx
  | y :: r, hx, hn, he => by
    rw [List.nodup_cons] at hn
    simp only [List.map_cons, List.sum_cons]
    by_cases e : y = x
    · subst e
      have : r.map g' = r.map g := List.map_congr_left fun z hz => he z (by simp [hz]) (fun ez => hn.1 (ez ▸ hz))
      rw [this]
      omega
    · have hxr : x ∈ r := by
        rcases List.mem_cons.1 hx with h | h
        · exact absurd h.symm e
        · exact h
      have ih := sum_map_one (g := g) (g' := g') hxr hn.2 (fun z hz hne => he z (by simp [hz]) hne)
      have := he y (by simp) e
      omega

def usedP (P : List PageR) : Nat := (P.map (·.pg.used)).sum
def usedS (S : List SegR) : Nat := (S.map fun s => usedP s.P).sum

theorem usedS_set (K : SOk sz f S) {s : SegR} {p : PageR} {pg' : Pg} (hs : s ∈ S) (hp : p ∈ s.P) : usedS (setPg s.pl p.at_ pg' S) + p.pg.used = usedS S + pg'.used := by
  have e1 : usedP (setPP p.at_ pg' s.P) + p.pg.used = usedP s.P + pg'.used := by
    unfold usedP setPP
    rw [List.map_map]
    have := sum_map_one (g := fun q : PageR => q.pg.used) (g' := (fun q : PageR => q.pg.used) ∘ fun q => if q.at_ = p.at_ then { q with pg := pg' } else q) hp (pair_nodup (K.nod s hs)) (fun q hq hne => by
      show (if q.at_ = p.at_ then { q with pg := pg' } else q : PageR).pg.used = _
      rw [if_neg (fun e => hne (pair_at (K.nod s hs) hq hp e))])
    have e2 : ((fun q : PageR => q.pg.used) ∘ fun q => if q.at_ = p.at_ then { q with pg := pg' } else q) p = pg'.used := by
      show (if p.at_ = p.at_ then { p with pg := pg' } else p : PageR).pg.used = _
      rw [if_pos rfl]
    rw [e2] at this
    exact this
  unfold usedS setPg
  rw [List.map_map]
  have := sum_map_one (g := fun t : SegR => usedP t.P) (g' := (fun t : SegR => usedP t.P) ∘ fun t => if t.pl = s.pl then { t with P := setPP p.at_ pg' t.P } else t) hs (pair_nodup K.pls) (fun t ht hne => by
    show usedP (if t.pl = s.pl then { t with P := setPP p.at_ pg' t.P } else t : SegR).P = _
    rw [if_neg (fun e => hne (pair_at K.pls ht hs e))])
  have e2 : ((fun t : SegR => usedP t.P) ∘ fun t => if t.pl = s.pl then { t with P := setPP p.at_ pg' t.P } else t) s = usedP (setPP p.at_ pg' s.P) := by
    show usedP (if s.pl = s.pl then { s with P := setPP p.at_ pg' s.P } else s : SegR).P = _
    rw [if_pos rfl]
  rw [e2] at this
  omega

theorem usedS_add (K : SOk sz f S) {s : SegR} {p : PageR} (hs : s ∈ S) : usedS (addPg s.pl p S) = usedS S + p.pg.used := by
  unfold usedS addPg
  rw [List.map_map]
  have := sum_map_one (g := fun t : SegR => usedP t.P) (g' := (fun t : SegR => usedP t.P) ∘ addI s.pl p) hs (pair_nodup K.pls) (fun t ht hne => by
    show usedP (addI s.pl p t).P = _
    unfold addI
    rw [if_neg (fun e => hne (pair_at K.pls ht hs e))])
  have e2 : ((fun t : SegR => usedP t.P) ∘ addI s.pl p) s = usedP s.P + p.pg.used := by
    show usedP (addI s.pl p s).P = _
    unfold addI
    rw [if_pos rfl]
    simp [usedP]
  rw [e2] at this
  omega

theorem setPg_mem (K : SOk sz f S) {s t : SegR} {at_ : Nat} {pg' : Pg} (hs : s ∈ S) (ht : t ∈ setPg s.pl at_ pg' S) : (t ∈ S ∧ t.pl ≠ s.pl) ∨ t = { s with P := setPP at_ pg' s.P } := by
  obtain ⟨t0, ht0, rfl⟩ := List.mem_map.1 ht
  by_cases e : t0.pl = s.pl
  · have := pair_at K.pls ht0 hs e
    subst this
    rw [if_pos rfl]
    exact .inr rfl
  · rw [if_neg e]
    exact .inl ⟨ht0, e⟩
theorem mem_setPg {s t : SegR} {at_ : Nat} {pg' : Pg} (hs : s ∈ S) (ht : t ∈ S) (hne : t.pl ≠ s.pl) : t ∈ setPg s.pl at_ pg' S := List.mem_map.2 ⟨t, ht, if_neg hne⟩
theorem mem_setPg_self {s : SegR} {at_ : Nat} {pg' : Pg} (hs : s ∈ S) : ({ s with P := setPP at_ pg' s.P } : SegR) ∈ setPg s.pl at_ pg' S := List.mem_map.2 ⟨s, hs, if_pos rfl⟩
theorem setPP_mem {P : List PageR} (hn : P.Pairwise fun p q => p.at_ ≠ q.at_) {p q : PageR} {pg' : Pg} (hp : p ∈ P) (hq : q ∈ setPP p.at_ pg' P) : (q ∈ P ∧ q.at_ ≠ p.at_) ∨ q = { p with pg := pg' } := by
  obtain ⟨q0, hq0, rfl⟩ := List.mem_map.1 hq
  by_cases e : q0.at_ = p.at_
  · have := pair_at hn hq0 hp e
    subst this
    rw [if_pos rfl]
    exact .inr rfl
  · rw [if_neg e]
    exact .inl ⟨hq0, e⟩
theorem mem_setPP {P : List PageR} {p q : PageR} {pg' : Pg} (hq : q ∈ P) (hne : q.at_ ≠ p.at_) : q ∈ setPP p.at_ pg' P := List.mem_map.2 ⟨q, hq, if_neg hne⟩
theorem mem_setPP_self {P : List PageR} {p : PageR} {pg' : Pg} (hp : p ∈ P) : ({ p with pg := pg' } : PageR) ∈ setPP p.at_ pg' P := List.mem_map.2 ⟨p, hp, if_pos rfl⟩
theorem addPg_mem (K : SOk sz f S) {s t : SegR} {p : PageR} (hs : s ∈ S) (ht : t ∈ addPg s.pl p S) : (t ∈ S ∧ t.pl ≠ s.pl) ∨ t = { s with P := s.P ++ [p] } := by
  obtain ⟨t0, ht0, rfl⟩ := List.mem_map.1 ht
  unfold addI
  by_cases e : t0.pl = s.pl
  · have := pair_at K.pls ht0 hs e
    subst this
    rw [if_pos rfl]
    exact .inr rfl
  · rw [if_neg e]
    exact .inl ⟨ht0, e⟩
theorem mem_addPg {s t : SegR} {p : PageR} (ht : t ∈ S) (hne : t.pl ≠ s.pl) : t ∈ addPg s.pl p S := List.mem_map.2 ⟨t, ht, if_neg hne⟩
theorem mem_addPg_self {s : SegR} {p : PageR} (hs : s ∈ S) : ({ s with P := s.P ++ [p] } : SegR) ∈ addPg s.pl p S := List.mem_map.2 ⟨s, hs, if_pos rfl⟩
theorem setPP_at (at_ : Nat) (pg : Pg) (P : List PageR) : (setPP at_ pg P).map (·.at_) = P.map (·.at_) ∧ (setPP at_ pg P).length = P.length := by
  unfold setPP
  rw [List.map_map]
  refine ⟨List.map_congr_left fun q _ => ?_, by simp⟩
  show (if q.at_ = at_ then { q with pg := pg } else q : PageR).at_ = _
  split <;> rfl

/-- A block that is used. -/
def InUse (S : List SegR) (x : Nat) : Prop := ∃ s ∈ S, ∃ p ∈ s.P, ∃ q, q < p.pg.made ∧ x = p.pg.f + q * p.pg.s ∧ x ∉ p.pg.free ++ p.pg.loc

theorem InUse.set (K : SOk sz f S) {s : SegR} {p : PageR} {pg' : Pg} {x y : Nat} (hs : s ∈ S) (hp : p ∈ s.P) (hg : PgGot f sz p.pg f' pg' x) (hy : InUse S y ∨ y = x) : InUse (setPg s.pl p.at_ pg' S) y := by
  have hself := mem_setPg_self (at_ := p.at_) (pg' := pg') hs
  have hpself := mem_setPP_self (pg' := pg') hp
  rcases hy with ⟨t, ht, q, hq, j, hj, e, ho⟩ | rfl
  · by_cases e1 : t.pl = s.pl
    · have := pair_at K.pls ht hs e1
      subst this
      by_cases e2 : q.at_ = p.at_
      · have := pair_at (K.nod t ht) hq hp e2
        subst this
        refine ⟨_, hself, _, hpself, j, Nat.lt_of_lt_of_le hj hg.more_, by show y = pg'.f + j * pg'.s; rw [hg.sf, hg.ss]; exact e, fun hy => ?_⟩
        have h16 := (K.pag t ht q hq).1.s16
        rcases hg.sub y hy with h | h
        · exact ho h
        · have := mul_apart (s := q.pg.s) hj
          omega
      · exact ⟨_, hself, q, mem_setPP hq e2, j, hj, e, ho⟩
    · exact ⟨t, mem_setPg hs ht e1, q, hq, j, hj, e, ho⟩
  · obtain ⟨j, hj, e⟩ := hg.blk
    exact ⟨_, hself, _, hpself, j, hj, by show y = pg'.f + j * pg'.s; rw [hg.sf, hg.ss]; exact e, hg.out⟩

theorem InUse.add {s : SegR} {p : PageR} {x y : Nat} (K : SOk sz f S) (hs : s ∈ S) (hg : ∃ q, q < p.pg.made ∧ x = p.pg.f + q * p.pg.s ∧ x ∉ p.pg.free ++ p.pg.loc) (hy : InUse S y ∨ y = x) : InUse (addPg s.pl p S) y := by
  rcases hy with ⟨t, ht, q, hq, j, hj, e, ho⟩ | rfl
  · by_cases e1 : t.pl = s.pl
    · have := pair_at K.pls ht hs e1
      subst this
      exact ⟨_, mem_addPg_self hs, q, List.mem_append_left _ hq, j, hj, e, ho⟩
    · exact ⟨t, mem_addPg ht e1, q, hq, j, hj, e, ho⟩
  · obtain ⟨j, hj, e, ho⟩ := hg
    exact ⟨_, mem_addPg_self hs, p, by simp, j, hj, e, ho⟩

/-- Pages one behind the other. -/
theorem segT_run {P : List PageR} {sl : Nat} (h1 : 1 ≤ sl) (hp : P.map (·.at_) = (List.range P.length).map fun i => 1 + i * sl) (hs : ∀ p ∈ P, p.sl = sl) (j : Nat) : segT P j = true ↔ j < 1 + P.length * sl := by
  unfold segT
  rw [Bool.or_eq_true, decide_eq_true_eq, List.any_eq_true]
  constructor
  · rintro (rfl | ⟨p, hpm, hc⟩)
    · omega
    · have : p.at_ ∈ P.map (·.at_) := List.mem_map.2 ⟨p, hpm, rfl⟩
      rw [hp] at this
      obtain ⟨i, hi, e⟩ := List.mem_map.1 this
      simp only [List.mem_range] at hi
      simp only [covers, decide_eq_true_eq, hs p hpm] at hc
      have := mul_apart (s := sl) hi
      omega
  · intro hj
    rcases Nat.eq_zero_or_pos j with h | h
    · exact .inl h
    · right
      have hd := Nat.div_add_mod (j - 1) sl
      have hm := Nat.mod_lt (j - 1) h1
      have hi : (j - 1) / sl < P.length := by
        rw [Nat.div_lt_iff_lt_mul h1]
        omega
      have : 1 + (j - 1) / sl * sl ∈ P.map (·.at_) := by
        rw [hp]
        exact List.mem_map.2 ⟨(j - 1) / sl, by simpa using hi, rfl⟩
      obtain ⟨p, hpm, e⟩ := List.mem_map.1 this
      refine ⟨p, hpm, ?_⟩
      simp only [covers, decide_eq_true_eq, hs p hpm]
      have e2 : sl * ((j - 1) / sl) = (j - 1) / sl * sl := Nat.mul_comm _ _
      omega
theorem run_next {P : List PageR} {sl at_ : Nat} (h1 : 1 ≤ sl) (hp : P.map (·.at_) = (List.range P.length).map fun i => 1 + i * sl) (hs : ∀ p ∈ P, p.sl = sl) (hf : FreeRow (segT P) 16 sl at_) (hl : ∀ j, j < at_ → ¬ FreeRow (segT P) 16 sl j) : at_ = 1 + P.length * sl := by
  have h0 := hf.2 0 h1
  rw [Nat.add_zero] at h0
  have hge : ¬ at_ < 1 + P.length * sl := fun h => by rw [(segT_run h1 hp hs at_).2 h] at h0; cases h0
  rcases Nat.lt_or_ge (1 + P.length * sl) at_ with h | h
  · refine absurd ⟨by have := hf.1; omega, fun j _ => ?_⟩ (hl _ h)
    cases ht : segT P (1 + P.length * sl + j) with
    | false => rfl
    | true => have := (segT_run h1 hp hs _).1 ht; omega
  · omega
theorem run_full {P : List PageR} {sl : Nat} (h1 : 1 ≤ sl) (hp : P.map (·.at_) = (List.range P.length).map fun i => 1 + i * sl) (hs : ∀ p ∈ P, p.sl = sl) (hfit : ∀ p ∈ P, p.at_ + p.sl ≤ 16) : P.length * sl ≤ 15 ∧ ((∀ j, ¬ FreeRow (segT P) 16 sl j) → P.length = 15 / sl) := by
  have h15 : P.length * sl ≤ 15 := by
    rcases Nat.eq_zero_or_pos P.length with h | h
    · rw [h]; omega
    · have : 1 + (P.length - 1) * sl ∈ P.map (·.at_) := by
        rw [hp]
        exact List.mem_map.2 ⟨P.length - 1, by simp; omega, rfl⟩
      obtain ⟨p, hpm, e⟩ := List.mem_map.1 this
      have h2 := hfit p hpm
      rw [hs p hpm] at h2
      have e3 : P.length * sl = (P.length - 1) * sl + sl := by
        rw [← Nat.succ_mul]
        congr 1
        omega
      omega
  refine ⟨h15, fun hno => ?_⟩
  have := hno (1 + P.length * sl)
  have h16 : ¬ (1 + P.length * sl + sl ≤ 16) := fun h => this ⟨h, fun j _ => by
    cases ht : segT P (1 + P.length * sl + j) with
    | false => rfl
    | true => have := (segT_run h1 hp hs _).1 ht; omega⟩
  have e4 : (P.length + 1) * sl = P.length * sl + sl := Nat.succ_mul _ _
  exact (Nat.div_eq_of_lt_le h15 (by omega)).symm
end Go.Proofs.YtbljphaklciinaaGreat

/- HeapFull, plain: the invariant, and the steps of get on it. -/
namespace Go.Proofs.YtbljphaklciinaaGreat
open Go.RowKit
variable {ro ro' : Nat → Role} {hn : Nat} {w w' : World} {B bm bb sz : Nat} {f f' : Nat → Nat} {h h' : HeapR} {S : List SegR} {c k x : Nat} {U : List Nat}

structure FInv (c k : Nat) (h : HeapR) (U : List Nat) : Prop where
  len : h.S.length = k
  pages : ∀ s ∈ h.S, s.P.map (·.at_) = (List.range s.P.length).map fun i => 1 + i * sls.getD c 0
  kind : ∀ s ∈ h.S, ∀ p ∈ s.P, p.cls = (c : Int) ∧ p.sl = sls.getD c 0 ∧ p.pg.s = szs.getD c 0 ∧ p.pg.n = blks.getD c 0
  keys : ∀ s ∈ h.S, ∀ p ∈ s.P, keyOf s p ∈ h.Q1 c ∨ keyOf s p ∈ h.Q2 c
  full : ∀ s ∈ h.S, ∀ p ∈ s.P, keyOf s p ∈ h.Q2 c → p.pg.full
  cnt : U.length = usedS h.S
  use : ∀ x ∈ U, InUse h.S x

theorem q1_queued (h : HeapR) (c : Nat) (R F : List Int) (k1 k2 : Option Nat) : (h.queued c R F k1 k2).Q1 c = R := updF_same _ _ _
theorem q2_queued (h : HeapR) (c : Nat) (R F : List Int) (k1 k2 : Option Nat) : (h.queued c R F k1 k2).Q2 c = F := updF_same _ _ _

theorem FInv.loc (I : FInv c k h U) (K : SOk sz f h.S) (ho : QOnce (h.Q1 c) (h.Q2 c)) (hg : GLoc sz f h c x f' h') : FInv c k h' (U ++ [x]) := by
  obtain ⟨kk, s, hs, p, hp, pg', k1, k2, hful, hkey, _, hgot, rfl⟩ := hg
  have hmem := fun {t : SegR} (ht : t ∈ setPg s.pl p.at_ pg' h.S) => setPg_mem K hs ht
  have hkl := (List.getElem?_eq_some_iff.1 hkey).1
  have hfk : ∀ {t : SegR} {q : PageR}, t ∈ h.S → q ∈ t.P → keyOf t q ∈ h.Q2 c ++ (h.Q1 c).take kk → q.pg.full := fun {t q} ht hq hk => by
    rcases List.mem_append.1 hk with hk | hk
    · exact I.full t ht q hq hk
    · obtain ⟨j, hj, e⟩ := List.mem_iff_getElem.1 hk
      rw [List.length_take] at hj
      rw [List.getElem_take] at e
      obtain ⟨t2, ht2, q2, hq2, e2, hf2⟩ := hful j (keyOf t q) (by omega) (by rw [List.getElem?_eq_getElem (by omega), e])
      obtain ⟨_, rfl⟩ := K.key_inj ht ht2 hq hq2 e2
      exact hf2
  refine ⟨?_, ?_, ?_, ?_, ?_, ?_, ?_⟩
  · show (setPg s.pl p.at_ pg' h.S).length = k
    unfold setPg
    rw [List.length_map]
    exact I.len
  · intro t ht
    rcases hmem ht with ⟨ht, _⟩ | rfl
    · exact I.pages t ht
    · show (setPP p.at_ pg' s.P).map (·.at_) = (List.range (setPP p.at_ pg' s.P).length).map _
      rw [(setPP_at _ _ _).1, (setPP_at _ _ _).2]
      exact I.pages s hs
  · intro t ht q hq
    rcases hmem ht with ⟨ht, _⟩ | rfl
    · exact I.kind t ht q hq
    · rcases setPP_mem (K.nod s hs) hp hq with ⟨hq, _⟩ | rfl
      · exact I.kind s hs q hq
      · have := I.kind s hs p hp
        exact ⟨this.1, this.2.1, hgot.ss.trans this.2.2.1, hgot.sn.trans this.2.2.2⟩
  · have hold : ∀ {y : Int}, y ∈ h.Q1 c ∨ y ∈ h.Q2 c → y ∈ (h.Q1 c).drop kk ∨ y ∈ h.Q2 c ++ (h.Q1 c).take kk := fun {y} hy => by
      rcases hy with hy | hy
      · rw [← List.take_append_drop kk (h.Q1 c)] at hy
        rcases List.mem_append.1 hy with hy | hy
        · exact .inr (List.mem_append_right _ hy)
        · exact .inl hy
      · exact .inr (List.mem_append_left _ hy)
    intro t ht q hq
    rw [q1_queued, q2_queued]
    rcases hmem ht with ⟨ht, _⟩ | rfl
    · exact hold (I.keys t ht q hq)
    · rcases setPP_mem (K.nod s hs) hp hq with ⟨hq, _⟩ | rfl
      · exact hold (I.keys s hs q hq)
      · exact hold (I.keys s hs p hp)
  · intro t ht q hq hk
    rw [q2_queued] at hk
    rcases hmem ht with ⟨ht, _⟩ | rfl
    · exact hfk ht hq hk
    · rcases setPP_mem (K.nod s hs) hp hq with ⟨hq, _⟩ | rfl
      · exact hfk hs hq hk
      · exfalso
        have hk1 : keyOf s p ∈ h.Q2 c ++ (h.Q1 c).take kk := hk
        rcases List.mem_append.1 hk1 with hk1 | hk1
        · exact ho.apart _ (List.mem_of_getElem? hkey) hk1
        · obtain ⟨j, hj, e⟩ := List.mem_iff_getElem.1 hk1
          rw [List.length_take] at hj
          rw [List.getElem_take] at e
          have e3 : (h.Q1 c)[kk] = keyOf s p := by
            rw [List.getElem?_eq_getElem hkl] at hkey
            exact Option.some.inj hkey
          exact List.pairwise_iff_getElem.1 ho.r j kk (by omega) hkl (by omega) (e.trans e3.symm)
  · have := usedS_set (pg' := pg') K hs hp
    have hu := hgot.used
    rw [List.length_append, I.cnt]
    show usedS h.S + 1 = usedS (setPg s.pl p.at_ pg' h.S)
    omega
  · intro y hy
    refine InUse.set K hs hp hgot ?_
    rcases List.mem_append.1 hy with hy | hy
    · exact .inl (I.use y hy)
    · exact .inr (by simpa using hy)

theorem FInv.fill (I : FInv c k h U) (K : SOk sz f h.S) (hg : GFill h c h') : FInv c k h' U ∧ h'.Q1 c = [] ∧ h'.S = h.S := by
  obtain ⟨k1, k2, hful, rfl⟩ := hg
  refine ⟨⟨I.len, I.pages, I.kind, fun s hs p hp => ?_, fun s hs p hp hk => ?_, I.cnt, I.use⟩, q1_queued _ _ _ _ _ _, rfl⟩
  · rw [q2_queued]
    rcases I.keys s hs p hp with h1 | h1
    · exact .inr (List.mem_append_right _ h1)
    · exact .inr (List.mem_append_left _ h1)
  · rw [q2_queued] at hk
    rcases List.mem_append.1 hk with hk | hk
    · exact I.full s hs p hp hk
    · obtain ⟨t, ht, q, hq, e, hf⟩ := hful _ hk
      obtain ⟨_, rfl⟩ := K.key_inj hs ht hp hq e
      exact hf

theorem FInv.grow (I : FInv c k h U) (hg : GGrow k h h') : FInv c (k + 1) h' U := by
  obtain ⟨s, gs, hpl, hP, _, rfl⟩ := hg
  have hm : ∀ {t : SegR}, t ∈ h.S ++ [s] → t ∈ h.S ∨ t.P = [] := fun {t} ht => by
    rcases List.mem_append.1 ht with ht | ht
    · exact .inl ht
    · simp only [List.mem_singleton] at ht
      subst ht
      exact .inr hP
  refine ⟨by show (h.S ++ [s]).length = _; rw [List.length_append, I.len]; rfl, fun t ht => ?_, fun t ht p hp => ?_, fun t ht p hp => ?_, fun t ht p hp hk => ?_, ?_, fun y hy => ?_⟩
  · rcases hm ht with ht | ht
    · exact I.pages t ht
    · rw [ht]; rfl
  · rcases hm ht with ht | ht
    · exact I.kind t ht p hp
    · rw [ht] at hp; cases hp
  · rcases hm ht with ht | ht
    · exact I.keys t ht p hp
    · rw [ht] at hp; cases hp
  · rcases hm ht with ht | ht
    · exact I.full t ht p hp hk
    · rw [ht] at hp; cases hp
  · show U.length = usedS (h.S ++ [s])
    rw [I.cnt]
    simp [usedS, usedP, hP]
  · obtain ⟨t, ht, p, hp, q, hq, e, ho⟩ := I.use y hy
    exact ⟨t, List.mem_append_left _ ht, p, hp, q, hq, e, ho⟩

theorem SOk.grow (K : SOk sz f h.S) (hpl : ∀ s ∈ h.S, s.pl < k) (hg : GGrow k h h') : SOk sz f h'.S := by
  obtain ⟨s, gs, rfl, hP, _, rfl⟩ := hg
  refine ⟨?_, fun t ht p hp => ?_, fun t ht => ?_⟩
  · show (h.S ++ [s]).Pairwise _
    rw [List.pairwise_append]
    refine ⟨K.pls, List.pairwise_singleton _ _, fun a ha b hb => ?_⟩
    simp only [List.mem_singleton] at hb
    subst hb
    have := hpl a ha
    omega
  · rcases List.mem_append.1 ht with ht | ht
    · exact K.pag t ht p hp
    · simp only [List.mem_singleton] at ht
      subst ht
      rw [hP] at hp; cases hp
  · rcases List.mem_append.1 ht with ht | ht
    · exact K.nod t ht
    · simp only [List.mem_singleton] at ht
      subst ht
      rw [hP]
      exact List.Pairwise.nil

/-- The numbers in a class's queue are pages'. -/
def LinkOk (c : Nat) (h : HeapR) : Prop := ∀ y, y ∈ h.Q1 c ∨ y ∈ h.Q2 c → ∃ s ∈ h.S, ∃ p ∈ s.P, y = keyOf s p
theorem HeapAt.linkOk (H : HeapAt ro hn w B bm sz f h) (hc : c < 13) : LinkOk c h := fun y hy => by
  obtain ⟨s, hs, p, hp, e, _⟩ := H.link c hc y hy
  exact ⟨s, hs, p, hp, e⟩
theorem LinkOk.fill (L : LinkOk c h) (hg : GFill h c h') : LinkOk c h' := fun y hy => by
  obtain ⟨k1, k2, _, rfl⟩ := hg
  rw [q1_queued, q2_queued] at hy
  rcases hy with hy | hy
  · cases hy
  · exact L y ((List.mem_append.1 hy).symm)
theorem LinkOk.grow (L : LinkOk c h) (hg : GGrow k h h') : LinkOk c h' := fun y hy => by
  obtain ⟨s, gs, _, _, _, rfl⟩ := hg
  obtain ⟨t, ht, r⟩ := L y hy
  exact ⟨t, List.mem_append_left _ ht, r⟩

theorem FInv.new (I : FInv c k h U) (L : LinkOk c h) (K : SOk sz f h.S) (hc : c < 12) (hg : GNew sz f h (c : Int) c (sls.getD c 0) (szs.getD c 0) (blks.getD c 0) x f' h') : FInv c k h' (U ++ [x]) := by
  obtain ⟨s, hs, at_, bo, bp, pg', k1, k2, hfr, hlow, hx, hgot, rfl⟩ := hg
  have hsl := (class_fits hc).1
  have hrun := run_next hsl (I.pages s hs) (fun p hp => (I.kind s hs p hp).2.1) hfr hlow
  have hmem := fun {t : SegR} (ht : t ∈ addPg s.pl ⟨bo, bp, (c : Int), at_, sls.getD c 0, pg'⟩ h.S) => addPg_mem K hs ht
  have hfresh : ∀ {t : SegR} {q : PageR}, t ∈ h.S → q ∈ t.P → keyOf t q ≠ keyOf s ⟨bo, bp, (c : Int), at_, sls.getD c 0, pg'⟩ := fun {t q} ht hq e => by
    have h1 := K.pag t ht q hq
    have h2 := hfr.1
    unfold keyOf at e
    have e' : ((t.pl * 16 + q.at_ : Nat) : Int) = ((s.pl * 16 + at_ : Nat) : Int) := e
    have es : t = s := pair_at (F := SegR.pl) K.pls ht hs (by omega)
    subst es
    have ea : q.at_ = at_ := by omega
    have : segT t.P at_ = true := by
      unfold segT
      rw [Bool.or_eq_true, List.any_eq_true]
      exact .inr ⟨q, hq, by simp [covers]; omega⟩
    have h3 := hfr.2 0 (by omega)
    rw [Nat.add_zero, this] at h3
    cases h3
  refine ⟨?_, fun t ht => ?_, fun t ht q hq => ?_, fun t ht q hq => ?_, fun t ht q hq hk => ?_, ?_, fun y hy => ?_⟩
  · show (addPg s.pl _ h.S).length = k
    unfold addPg
    rw [List.length_map]
    exact I.len
  · rcases hmem ht with ⟨ht, _⟩ | rfl
    · exact I.pages t ht
    · show (s.P ++ [(⟨bo, bp, (c : Int), at_, sls.getD c 0, pg'⟩ : PageR)]).map (fun q : PageR => q.at_) = (List.range (s.P ++ [(⟨bo, bp, (c : Int), at_, sls.getD c 0, pg'⟩ : PageR)]).length).map fun i => 1 + i * sls.getD c 0
      rw [List.map_append, List.length_append, I.pages s hs]
      show _ = (List.range (s.P.length + 1)).map _
      rw [List.range_succ, List.map_append]
      simp only [List.map_cons, List.map_nil]
      rw [hrun]
  · rcases hmem ht with ⟨ht, _⟩ | rfl
    · exact I.kind t ht q hq
    · rcases List.mem_append.1 hq with hq | hq
      · exact I.kind s hs q hq
      · simp only [List.mem_singleton] at hq
        subst hq
        exact ⟨rfl, rfl, hgot.ss, hgot.sn⟩
  · rw [q1_queued, q2_queued]
    have hold : ∀ {y : Int}, y ∈ h.Q1 c ∨ y ∈ h.Q2 c → y ∈ h.Q1 c ++ [((s.pl * 16 + at_ : Nat) : Int)] ∨ y ∈ h.Q2 c := fun {y} hy => hy.imp (fun h => List.mem_append_left _ h) id
    rcases hmem ht with ⟨ht, _⟩ | rfl
    · exact hold (I.keys t ht q hq)
    · rcases List.mem_append.1 hq with hq | hq
      · exact hold (I.keys s hs q hq)
      · simp only [List.mem_singleton] at hq
        subst hq
        exact .inl (by simp [keyOf])
  · rw [q2_queued] at hk
    rcases hmem ht with ⟨ht, _⟩ | rfl
    · exact I.full t ht q hq hk
    · rcases List.mem_append.1 hq with hq | hq
      · exact I.full s hs q hq hk
      · simp only [List.mem_singleton] at hq
        subst hq
        obtain ⟨t2, ht2, q2, hq2, e2⟩ := L _ (.inr hk)
        exact absurd e2.symm (hfresh ht2 hq2)
  · have := usedS_add (p := ⟨bo, bp, (c : Int), at_, sls.getD c 0, pg'⟩) K hs
    have hu := hgot.used
    rw [List.length_append, I.cnt]
    show usedS h.S + 1 = usedS (addPg s.pl _ h.S)
    rw [this]
    show _ = _ + pg'.used
    rw [hu]
    rfl
  · refine InUse.add K hs (x := x) ?_ ?_
    · obtain ⟨j, hj, e⟩ := hgot.blk
      exact ⟨j, hj, by show x = pg'.f + j * pg'.s; rw [hgot.sf, hgot.ss]; exact e, hgot.out⟩
    · rcases List.mem_append.1 hy with hy | hy
      · exact .inl (I.use y hy)
      · exact .inr (by simpa using hy)
end Go.Proofs.YtbljphaklciinaaGreat

/- HeapFull, plain: get on the invariant; the end; one given back comes again. -/
namespace Go.Proofs.YtbljphaklciinaaGreat
open Go.RowKit
variable {ro ro' : Nat → Role} {hn : Nat} {w w' : World} {B bm bb sz : Nat} {f f' : Nat → Nat} {h h' : HeapR} {S : List SegR} {c k x n k' r : Nat} {U : List Nat} {a : ArR} {W : World}

theorem FInv.got (I : FInv c k h U) (K : SOk sz f h.S) (ho : QOnce (h.Q1 c) (h.Q2 c)) (L : LinkOk c h) (hpl : ∀ s ∈ h.S, s.pl < k) (hc : c < 12) {y : Option Nat} (hg : GetR sz n k f h (c : Int) c (sls.getD c 0) (szs.getD c 0) (blks.getD c 0) y f' h' k') :
    (∃ x, y = some x ∧ FInv c k' h' (U ++ [x])) ∨ (y = none ∧ FInv c k' h' U ∧ h'.Q1 c = [] ∧ NoRoom h' (sls.getD c 0) ∧ k' = n) := by
  rcases hg with ⟨x, rfl, _, hg, rfl⟩ | ⟨h1, h2, hg⟩
  · exact .inl ⟨x, rfl, I.loc K ho hg⟩
  · rcases h2 with ⟨_, hf⟩ | ⟨h2, _⟩
    · obtain ⟨I1, hq, hS⟩ := I.fill K hf
      have K1 : SOk sz f h1.S := by rw [hS]; exact K
      have hpl1 : ∀ s ∈ h1.S, s.pl < k := by rw [hS]; exact hpl
      have L1 := L.fill hf
      rcases hg with ⟨x, rfl, hg, rfl⟩ | ⟨_, _, h2, x, rfl, hgr, hg, rfl⟩ | ⟨hno, hk, rfl, rfl, rfl, rfl⟩
      · exact .inl ⟨x, rfl, I1.new L1 K1 hc hg⟩
      · exact .inl ⟨x, rfl, (I1.grow hgr).new (L1.grow hgr) (K1.grow hpl1 hgr) hc hg⟩
      · exact .inr ⟨rfl, I1, hq, hno, hk⟩
    · omega

theorem usedP_all {P : List PageR} {N : Nat} (h : ∀ p ∈ P, p.pg.used = N) : usedP P = P.length * N := by
  unfold usedP
  induction P with
  | nil => simp
  | cons p r ih =>
    rw [List.map_cons, List.sum_cons, ih (fun q hq => h q (by simp [hq])), h p (by simp), List.length_cons, Nat.succ_mul]
    omega
theorem usedP_le {P : List PageR} {N : Nat} (h : ∀ p ∈ P, p.pg.used ≤ N) : usedP P ≤ P.length * N := by
  unfold usedP
  induction P with
  | nil => simp
  | cons p r ih =>
    have := ih (fun q hq => h q (by simp [hq]))
    have := h p (by simp)
    rw [List.map_cons, List.sum_cons, List.length_cons, Nat.succ_mul]
    omega
theorem usedS_all {M : Nat} : ∀ {S : List SegR}, (∀ s ∈ S, usedP s.P = M) → usedS S = S.length * M
  | [], _ => by simp [usedS]
  | s :: r, h => by
    have := usedS_all (S := r) (fun t ht => h t (by simp [ht]))
    have h1 := h s (by simp)
    unfold usedS at this ⊢
    rw [List.map_cons, List.sum_cons, this, h1, List.length_cons, Nat.succ_mul]
    omega
theorem usedS_le {M : Nat} : ∀ {S : List SegR}, (∀ s ∈ S, usedP s.P ≤ M) → usedS S ≤ S.length * M
  | [], _ => by simp [usedS]
  | s :: r, h => by
    have := usedS_le (S := r) (fun t ht => h t (by simp [ht]))
    have h1 := h s (by simp)
    unfold usedS at this ⊢
    rw [List.map_cons, List.sum_cons, List.length_cons, Nat.succ_mul]
    omega

theorem FInv.allfull (I : FInv c k h U) (hq : h.Q1 c = []) {s : SegR} {p : PageR} (hs : s ∈ h.S) (hp : p ∈ s.P) : p.pg.full := by
  rcases I.keys s hs p hp with h1 | h1
  · rw [hq] at h1; cases h1
  · exact I.full s hs p hp h1
theorem FInv.used_full (I : FInv c k h U) (K : SOk sz f h.S) (hq : h.Q1 c = []) {s : SegR} {p : PageR} (hs : s ∈ h.S) (hp : p ∈ s.P) : p.pg.used = blks.getD c 0 := by
  obtain ⟨e1, e2, e3⟩ := I.allfull hq hs hp
  have hu := (K.pag s hs p hp).1.us
  rw [e1, e2] at hu
  have := (I.kind s hs p hp).2.2.2
  simp at hu
  omega

theorem FInv.end_ (I : FInv c k h U) (K : SOk sz f h.S) (hc : c < 12) (hq : h.Q1 c = []) (hno : NoRoom h (sls.getD c 0)) : U.length = k * (15 / sls.getD c 0 * blks.getD c 0) := by
  rw [I.cnt, ← I.len]
  refine usedS_all fun s hs => ?_
  rw [usedP_all (fun p hp => I.used_full K hq hs hp)]
  congr 1
  exact (run_full (class_fits hc).1 (I.pages s hs) (fun p hp => (I.kind s hs p hp).2.1) (fun p hp => (K.pag s hs p hp).2.2.2)).2 (hno s hs)

theorem FInv.bound (I : FInv c k h U) (K : SOk sz f h.S) (hc : c < 12) : U.length ≤ k * 960 := by
  rw [I.cnt, ← I.len]
  refine usedS_le fun s hs => ?_
  have h64 := (blks_le hc).2
  refine Nat.le_trans (usedP_le (N := 64) fun p hp => ?_) ?_
  · have h1 := (K.pag s hs p hp).1
    have h2 := h1.us
    have h3 := h1.mn
    have h4 := (I.kind s hs p hp).2.2.2
    omega
  · have h1 := (run_full (class_fits hc).1 (I.pages s hs) (fun p hp => (I.kind s hs p hp).2.1) (fun p hp => (K.pag s hs p hp).2.2.2)).1
    have h2 := (class_fits hc).1
    have h3 : s.P.length * 1 ≤ s.P.length * sls.getD c 0 := Nat.mul_le_mul_left _ h2
    omega

/-- A block that is given back, of a page that was full, is the next one that comes. -/
theorem last_get {s : SegR} {p : PageR} {k1 k2 : Option Nat} {F : List Int} (hs : s ∈ h.S) (hp : p ∈ s.P) (hf : p.pg.full) {y : Option Nat}
    (K : SOk sz f (setPg s.pl p.at_ (p.pg.gave x) h.S)) (hg : GetR sz n k f (({ h with S := setPg s.pl p.at_ (p.pg.gave x) h.S } : HeapR).queued c [keyOf s p] F k1 k2) (c : Int) c (sls.getD c 0) (szs.getD c 0) (blks.getD c 0) y f' h' k') : y = some x := by
  have hself : ({ s with P := setPP p.at_ (p.pg.gave x) s.P } : SegR) ∈ setPg s.pl p.at_ (p.pg.gave x) h.S := mem_setPg_self hs
  have hpself : ({ p with pg := p.pg.gave x } : PageR) ∈ setPP p.at_ (p.pg.gave x) s.P := mem_setPP_self hp
  rcases hg with ⟨z, rfl, _, ⟨kk, t, ht, q, hq, pg', q1, q2, _, hkey, _, hgot, _⟩, _⟩ | ⟨h1, h2, _⟩
  · rw [q1_queued] at hkey
    have hkk := (List.getElem?_eq_some_iff.1 hkey).1
    simp at hkk
    subst hkk
    simp only [List.getElem?_cons_zero, Option.some.injEq] at hkey
    obtain ⟨_, e⟩ := K.key_inj (t := { s with P := setPP p.at_ (p.pg.gave x) s.P }) (q := { p with pg := p.pg.gave x }) ht hself hq hpself hkey.symm
    subst e
    have hgot : PgGot f sz (p.pg.gave x) f' pg' z := hgot
    have h1 := hgot.new
    obtain ⟨e1, e2, e3⟩ := hf
    rcases h1 with h1 | h1
    · have e4 : (p.pg.gave x).free ++ (p.pg.gave x).loc = [x] := by
        show p.pg.free ++ (x :: p.pg.loc) = [x]
        rw [e1, e2]
        rfl
      rw [e4] at h1
      rw [List.mem_singleton.1 h1]
    · obtain ⟨i, hi, e⟩ := hgot.blk
      have hmn := hgot.inv.mn
      have hsn : pg'.n = p.pg.n := hgot.sn
      have h16 : 16 ≤ p.pg.s := (K.pag _ hself _ hpself).1.s16
      have hh : p.pg.made * p.pg.s ≤ z - p.pg.f := h1
      have he : z = p.pg.f + i * p.pg.s := e
      have := mul_apart (s := p.pg.s) (show i < p.pg.made by omega)
      omega
  · rcases h2 with ⟨_, q1, q2, hful, _⟩ | ⟨h2, _⟩
    · rw [q1_queued] at hful
      obtain ⟨t, ht, q, hq, e, hf2⟩ := hful (keyOf s p) (by simp)
      obtain ⟨_, e⟩ := K.key_inj (t := { s with P := setPP p.at_ (p.pg.gave x) s.P }) (q := { p with pg := p.pg.gave x }) ht hself hq hpself e.symm
      subst e
      have : (x :: p.pg.loc) = [] := hf2.2.1
      cases this
    · omega
end Go.Proofs.YtbljphaklciinaaGreat

/- Layer 5 (class): For of more bytes than the greatest class has. -/
namespace Go.Proofs.YtbljphaklciinaaGreat
open Go.RowKit

set_option maxRecDepth 100000 in
theorem units_any (w : World) (n : Nat) (h0 : 1024 < n) (h1 : n ≤ 15360) : Calls Tryz.prog 71 #[.int .u64 n, .int .u64 1024] w fun e w' => e = .returned (.tuple #[.int .i64 ((n + 1023) / 1024 : Nat), .int .u64 ((n + 1023) / 1024 * 1024 : Nat)]) ∧ w' = w := by
  obtain ⟨k, hk⟩ : ∃ k, k = (n + 1023) / 1024 := ⟨_, rfl⟩
  have hk1 : k ≤ 15 := by omega
  have q1 : ((n : Int) + 1024 - 1) / 1024 = (k : Int) := by omega
  rw [← hk]
  clear hk
  go_enter Tryz.func71, Tryz.ntmps71
  go_wp2_with fail
  go_ret2
  exact ⟨by simp, rfl⟩
theorem szs_max : ∀ k, k < 12 → szs.getD k 0 ≤ 1024 := by decide

set_option maxRecDepth 100000 in
set_option maxHeartbeats 1000000 in
theorem for_big (w : World) (n : Nat) (h0 : 1024 < n) (h1 : n ≤ 15360) : Calls Tryz.prog 33 #[.int .u64 n, .int .u64 1] w fun e w' =>
    e = .returned (.tuple #[.agg #[.int .i64 (-1), .int .i64 ((n + 1023) / 1024 : Nat), .int .i64 0, .int .u64 ((n + 1023) / 1024 * 1024 : Nat)], .int .i64 0]) ∧ Below w.heap.size w w' := by
  have HU := Lib.hid (fun w => units_any w n h0 h1)
  obtain ⟨k1, hk1⟩ : ∃ k, k = (n + 1023) / 1024 := ⟨_, rfl⟩
  obtain ⟨k2, hk2⟩ : ∃ k, k = (n + 1023) / 1024 * 1024 := ⟨_, rfl⟩
  rw [← hk2, ← hk1] at HU
  rw [← hk2, ← hk1]
  clear hk1 hk2
  have HX : Hid (∀ k : Nat, k < 12 → ∀ w : World, (Instr.index 91 (.agg #[.int .u64 16, .int .u64 32, .int .u64 48, .int .u64 64, .int .u64 96, .int .u64 128, .int .u64 192, .int .u64 256, .int .u64 384, .int .u64 512, .int .u64 768, .int .u64 1024]) (.int .i64 k)).run Tryz.prog w = .ok (.int .u64 (szs.getD k 0 : Nat)) w) := fun k hk w => by
    rcases (show k = 0 ∨ k = 1 ∨ k = 2 ∨ k = 3 ∨ k = 4 ∨ k = 5 ∨ k = 6 ∨ k = 7 ∨ k = 8 ∨ k = 9 ∨ k = 10 ∨ k = 11 by omega) with rfl | rfl | rfl | rfl | rfl | rfl | rfl | rfl | rfl | rfl | rfl | rfl <;> kernel_rfl
  have hmx : max (n : Int) 1 = (n : Int) := by omega
  go_enter Tryz.func33, Tryz.ntmps33
  go_wp2_with fail
  (with_reducible refine (pow2_one _).mono ?_)
  rintro e w1 ⟨rfl, rfl⟩
  go_wp2_with fail
  (with_reducible refine (sizes_ok _).mono ?_)
  rintro e w1 ⟨rfl, B1⟩
  have HB1 := Lib.hid B1
  clear B1
  unfold szV
  go_wp2_with fail
  go_loop [25] (fun i => ∃ k : Nat, k ≤ 12 ∧ i = .int .i64 k) (fun i => 12 - (intOf i).toNat)
  case atStart => exact ⟨0, by omega, rfl⟩
  case round =>
    obtain ⟨k, hk, rfl⟩ := hrel
    by_cases hlt : k < 12
    · have hx := HX.out k hlt
      have hS := szs_max k hlt
      generalize szs.getD k 0 = S at *
      have hs2 : ¬ (n : Int) ≤ (S : Int) := by omega
      go_wp2_with fail
      go_round
      case rel => exact ⟨k + 1, by omega, by go_num⟩
      case measure => simp [intOf]; omega
    · obtain rfl : k = 12 := by omega
      have hsz0 : (w.alloc (.cells #[.int .i64 0, .int .i64 0, .int .i64 0, .int .u64 0] 54)).heap.size = w.heap.size + 1 := by simp
      have HBX : Below (w.heap.size + 1) (w.alloc (.cells #[.int .i64 0, .int .i64 0, .int .i64 0, .int .u64 0] 54)) w1 := by have h1 := HB1.out; rw [hsz0] at h1; exact h1
      have q0 : w1.cell? ⟨w.heap.size, 0, none⟩ = some (.int .i64 0) := (HBX.cell (p := ⟨w.heap.size, 0, none⟩) (Nat.lt_succ_self _)).trans (by rw [World.cell?_alloc_new]; rfl)
      have q1 : w1.cell? ⟨w.heap.size, 1, none⟩ = some (.int .i64 0) := (HBX.cell (p := ⟨w.heap.size, 1, none⟩) (Nat.lt_succ_self _)).trans (by rw [World.cell?_alloc_new]; rfl)
      have q2 : w1.cell? ⟨w.heap.size, 2, none⟩ = some (.int .i64 0) := (HBX.cell (p := ⟨w.heap.size, 2, none⟩) (Nat.lt_succ_self _)).trans (by rw [World.cell?_alloc_new]; rfl)
      have q3 : w1.cell? ⟨w.heap.size, 3, none⟩ = some (.int .u64 0) := (HBX.cell (p := ⟨w.heap.size, 3, none⟩) (Nat.lt_succ_self _)).trans (by rw [World.cell?_alloc_new]; rfl)
      have z0 : ∀ j, w1.frozen? ⟨w.heap.size, j, none⟩ = false := fun j => (World.frozen?_of_block (a := ⟨w.heap.size, j, none⟩) (HBX.block w.heap.size (Nat.lt_succ_self _))).trans (by simp)
      have y0 := z0 0
      have y1 := z0 1
      have y2 := z0 2
      have y3 := z0 3
      have HB2 : Hid (Below w.heap.size w w1) := ((Below.refl w.heap.size w).alloc (Nat.le_refl _) _).trans (HBX.mono (Nat.le_succ _))
      have HOB := Lib.hid ((Obj_.new w #[.int .i64 0, .int .i64 0, .int .i64 0, .int .u64 0] 54).of_block (HBX.block w.heap.size (Nat.lt_succ_self _)))
      clear hsz0 HBX z0 HB1
      go_wp2_with fail
      (with_reducible refine (HU.out _).mono ?_)
      rintro e w2 ⟨rfl, rfl⟩
      go_wp2_with fail
      have HO := ((((((HOB.out.set (i := 0) (by simp) (.int .i64 (-1))).set (i := 1) (by simp) (.int .i64 (k1 : Nat))).set (i := 3) (by simp) (.int .u64 (k2 : Nat))).set (i := 0) (by simp) (.int .i64 (-1))).set (i := 1) (by simp) (.int .i64 (k1 : Nat))).set (i := 2) (by simp) (.int .i64 0)).set (i := 3) (by simp) (.int .u64 (k2 : Nat))
      have HBF : Below w.heap.size w (((((((w1.setCell ⟨w.heap.size, 0, none⟩ (.int .i64 (-1))).setCell ⟨w.heap.size, 1, none⟩ (.int .i64 (k1 : Nat))).setCell ⟨w.heap.size, 3, none⟩ (.int .u64 (k2 : Nat))).setCell ⟨w.heap.size, 0, none⟩ (.int .i64 (-1))).setCell ⟨w.heap.size, 1, none⟩ (.int .i64 (k1 : Nat))).setCell ⟨w.heap.size, 2, none⟩ (.int .i64 0)).setCell ⟨w.heap.size, 3, none⟩ (.int .u64 (k2 : Nat))) :=
        ((((((HB2.out.setCell (Nat.le_refl _) _).setCell (Nat.le_refl _) _).setCell (Nat.le_refl _) _).setCell (Nat.le_refl _) _).setCell (Nat.le_refl _) _).setCell (Nat.le_refl _) _).setCell (Nat.le_refl _) _
      generalize hwF : ((((((w1.setCell ⟨w.heap.size, 0, none⟩ (.int .i64 (-1))).setCell ⟨w.heap.size, 1, none⟩ (.int .i64 (k1 : Nat))).setCell ⟨w.heap.size, 3, none⟩ (.int .u64 (k2 : Nat))).setCell ⟨w.heap.size, 0, none⟩ (.int .i64 (-1))).setCell ⟨w.heap.size, 1, none⟩ (.int .i64 (k1 : Nat))).setCell ⟨w.heap.size, 2, none⟩ (.int .i64 0)).setCell ⟨w.heap.size, 3, none⟩ (.int .u64 (k2 : Nat)) = wF at *
      have c0 : wF.cell? ⟨w.heap.size, 0, none⟩ = some (.int .i64 (-1)) := by have := HO.cell 0 (by simp); rw [Nat.zero_add] at this; exact this
      have c1 : wF.cell? ⟨w.heap.size, 1, none⟩ = some (.int .i64 (k1 : Nat)) := by have := HO.cell 1 (by simp); rw [Nat.zero_add] at this; exact this
      have c2 : wF.cell? ⟨w.heap.size, 2, none⟩ = some (.int .i64 0) := by have := HO.cell 2 (by simp); rw [Nat.zero_add] at this; exact this
      have c3 : wF.cell? ⟨w.heap.size, 3, none⟩ = some (.int .u64 (k2 : Nat)) := by have := HO.cell 3 (by simp); rw [Nat.zero_add] at this; exact this
      have HBG := Lib.hid HBF
      clear hwF HO HOB HB2 HX HU q0 q1 q2 q3 y0 y1 y2 y3 HBF
      refine bodyPost_ret (v := .tuple #[.agg #[.int .i64 (-1), .int .i64 (k1 : Nat), .int .i64 0, .int .u64 (k2 : Nat)], .int .i64 0]) (by simp only [results, Tryz.results33]; go_simp) rfl ?_
      exact ⟨rfl, HBG.out⟩
end Go.Proofs.YtbljphaklciinaaGreat

/- Layer 12's laws: get of any number of bytes. -/
namespace Go.Proofs.YtbljphaklciinaaGreat
open Go.RowKit
variable {ro ro' : Nat → Role} {w w' : World} {bm bb sz : Nat} {f : Nat → Nat} {h : HeapR} {a : ArR} {W : World} {n k r : Nat}

theorem get_any (L : LawH W ro 0 w bm bb (n * 16384) f h a) (K : KA n k r h a) (hn : n ≤ 16) (hr : r < 1000000) {nn : Int} (h0 : 0 ≤ nn) :
    Calls Tryz.prog 11 #[.pointer (some ⟨h.bh, 0, none⟩), .int .u64 nn] w fun e w' => ∃ c q i sl S N, PlanOk c q i sl S N ∧ GetTo W ro w bm bb n k r f h c i sl S N (S : Nat) e w' := by
  obtain ⟨m, hm⟩ : ∃ m : Nat, (m : Int) = nn % 15361 := ⟨(nn % 15361).toNat, by omega⟩
  by_cases hs : m ≤ 1024
  · -- a class's
    obtain ⟨c, hc, h1, h2⟩ : ∃ c, c < 12 ∧ m ≤ szs.getD c 0 ∧ ∀ j, j < c → szs.getD j 0 < max m 1 := by
      have key : ∀ k, k ≤ 12 → (∃ c, c < 12 ∧ m ≤ szs.getD c 0 ∧ ∀ j, j < c → szs.getD j 0 < max m 1) ∨ ∀ j, j < k → szs.getD j 0 < max m 1 := by
        intro k
        induction k with
        | zero => intro _; exact .inr fun j hj => by omega
        | succ k ih =>
          intro hk
          rcases ih (by omega) with h | h
          · exact .inl h
          · by_cases e : m ≤ szs.getD k 0
            · exact .inl ⟨k, by omega, e, h⟩
            · refine .inr fun j hj => ?_
              rcases Nat.lt_succ_iff_lt_or_eq.1 hj with h3 | rfl
              · exact h j h3
              · omega
      rcases key 12 (by omega) with h | h
      · exact h
      · have := h 11 (by omega)
        simp [szs] at this
        omega
    have hl : sls.getD c 0 ≤ 4 ∧ szs.getD c 0 ≤ 1024 := by
      rcases (show c = 0 ∨ c = 1 ∨ c = 2 ∨ c = 3 ∨ c = 4 ∨ c = 5 ∨ c = 6 ∨ c = 7 ∨ c = 8 ∨ c = 9 ∨ c = 10 ∨ c = 11 by omega) with rfl | rfl | rfl | rfl | rfl | rfl | rfl | rfl | rfl | rfl | rfl | rfl <;> decide
    have hp : PlanOk (c : Int) (sls.getD c 0 : Nat) c (sls.getD c 0) (szs.getD c 0) (blks.getD c 0) := .inr ⟨rfl, hc, rfl, rfl, rfl⟩
    refine (get_walk (m := (m : Nat)) (v := (szs.getD c 0 : Nat)) L K hn hr hp (by omega) (by omega) hm.symm h0 ?_).mono fun e w' hg => ⟨_, _, _, _, _, _, hp, hg⟩
    refine (for_small w m hs).mono ?_
    rintro e w' ⟨c', hc', h3, h4, rfl, hb⟩
    have : c' = c := by
      rcases Nat.lt_trichotomy c' c with h | h | h
      · have h5 := h2 c' h
        have h6 : 16 ≤ szs.getD c' 0 := by
          rcases (show c' = 0 ∨ c' = 1 ∨ c' = 2 ∨ c' = 3 ∨ c' = 4 ∨ c' = 5 ∨ c' = 6 ∨ c' = 7 ∨ c' = 8 ∨ c' = 9 ∨ c' = 10 ∨ c' = 11 by omega) with rfl | rfl | rfl | rfl | rfl | rfl | rfl | rfl | rfl | rfl | rfl | rfl <;> decide
        omega
      · exact h
      · have h5 := h4 c h
        have h6 : 16 ≤ szs.getD c 0 := by
          rcases (show c = 0 ∨ c = 1 ∨ c = 2 ∨ c = 3 ∨ c = 4 ∨ c = 5 ∨ c = 6 ∨ c = 7 ∨ c = 8 ∨ c = 9 ∨ c = 10 ∨ c = 11 by omega) with rfl | rfl | rfl | rfl | rfl | rfl | rfl | rfl | rfl | rfl | rfl | rfl <;> decide
        omega
    subst this
    exact ⟨rfl, hb⟩
  · have hm2 : m ≤ 15360 := by omega
    have hp : PlanOk (-1) ((m + 1023) / 1024 : Nat) 12 ((m + 1023) / 1024) ((m + 1023) / 1024 * 1024) 1 := .inl ⟨rfl, rfl, rfl, by omega, by omega, rfl, rfl⟩
    exact (get_walk (m := (m : Nat)) L K hn hr hp (by omega) (by omega) hm.symm h0 (for_big w m (by omega) hm2)).mono fun e w' hg => ⟨_, _, _, _, _, _, hp, hg⟩
end Go.Proofs.YtbljphaklciinaaGreat

/- Layer 12's laws, plain: blocks that are used, of whatever classes: how they come. -/
namespace Go.Proofs.YtbljphaklciinaaGreat
open Go.RowKit
variable {ro ro' : Nat → Role} {hn : Nat} {w w' : World} {B bm bb sz : Nat} {f f' : Nat → Nat} {h h' : HeapR} {S : List SegR} {k x n k' r : Nat} {U : List Nat} {a : ArR} {W : World}

/-- Where pages lie. -/
structure SApart (S : List SegR) : Prop where
  pos : ∀ s ∈ S, ∀ p ∈ s.P, p.pg.f = s.pl * 16384 + p.at_ * 1024 ∧ p.pg.n * p.pg.s ≤ p.sl * 1024 ∧ p.at_ + p.sl ≤ 16 ∧ 1 ≤ p.at_ ∧ 1 ≤ p.sl
  apart : ∀ s ∈ S, s.P.Pairwise fun p q => ∀ j, covers j p = true → covers j q = false
  pls : S.Pairwise fun s t => s.pl ≠ t.pl
theorem HeapAt.sapart (H : HeapAt ro hn w B bm sz f h) : SApart h.S :=
  ⟨fun s hs p hp => have h := (H.segs s hs).pages p hp; ⟨h.pf, h.ps, h.fit, h.a1, h.s1⟩, fun s hs => (H.segs s hs).apart, H.pls⟩

theorem SApart.same (A : SApart S) {s t : SegR} {p q : PageR} {x : Nat} (hs : s ∈ S) (hp : p ∈ s.P) (ht : t ∈ S) (hq : q ∈ t.P) (h1 : p.pg.f ≤ x) (h2 : x < p.pg.f + p.pg.n * p.pg.s) (h3 : q.pg.f ≤ x) (h4 : x < q.pg.f + q.pg.n * q.pg.s) : s = t ∧ p = q := by
  obtain ⟨a1, a2, a3, a4, a5⟩ := A.pos s hs p hp
  obtain ⟨b1, b2, b3, b4, b5⟩ := A.pos t ht q hq
  have es : s = t := pair_at (F := SegR.pl) A.pls hs ht (by omega)
  subst es
  refine ⟨rfl, ?_⟩
  have hc : covers (x / 1024 % 16) p = true := by simp [covers]; omega
  have hd : covers (x / 1024 % 16) q = true := by simp [covers]; omega
  rcases List.mem_iff_getElem.1 hp with ⟨i, hi, rfl⟩
  rcases List.mem_iff_getElem.1 hq with ⟨j, hj, rfl⟩
  have hpi := List.pairwise_iff_getElem.1 (A.apart s hs)
  rcases Nat.lt_trichotomy i j with h | h | h
  · rw [hpi i j hi hj h _ hc] at hd; cases hd
  · subst h; rfl
  · rw [hpi j i hj hi h _ hd] at hc; cases hc

/-- An address of a page's block lies in the page. -/
theorem PgInv.in_page {p : Pg} (I : PgInv f sz p) {q x : Nat} (hq : q < p.n) (hx : x = p.f + q * p.s) : p.f ≤ x ∧ x < p.f + p.n * p.s := by
  have := I.in_ hq
  have := I.s16
  omega

structure BInv (h : HeapR) (U : List Nat) : Prop where
  cnt : U.length = usedS h.S
  use : ∀ x ∈ U, InUse h.S x
  nod : U.Nodup
  pos : ∀ s ∈ h.S, ∀ p ∈ s.P, 1 ≤ p.pg.used
  keys : ∀ s ∈ h.S, ∀ p ∈ s.P, ∃ c, rowIx p.cls = some c ∧ (keyOf s p ∈ h.Q1 c ∨ keyOf s p ∈ h.Q2 c)
/-- No segment without a page. -/
def NE (S : List SegR) : Prop := ∀ s ∈ S, s.P ≠ []

theorem queued_mem {h : HeapR} {c c' : Nat} {R F : List Int} {k1 k2 : Option Nat} {y : Int} (hold : ∀ y, y ∈ h.Q1 c ∨ y ∈ h.Q2 c → y ∈ R ∨ y ∈ F) (hy : y ∈ h.Q1 c' ∨ y ∈ h.Q2 c') : y ∈ (h.queued c R F k1 k2).Q1 c' ∨ y ∈ (h.queued c R F k1 k2).Q2 c' := by
  by_cases e : c' = c
  · subst e
    rw [q1_queued, q2_queued]
    exact hold y hy
  · rw [show (h.queued c R F k1 k2).Q1 c' = h.Q1 c' from updF_ne _ _ e, show (h.queued c R F k1 k2).Q2 c' = h.Q2 c' from updF_ne _ _ e]
    exact hy

theorem InUse.not_new (K : SOk sz f S) {s : SegR} {p : PageR} {pg' : Pg} (hs : s ∈ S) (hp : p ∈ s.P) (A : SApart S) (hg : PgGot f sz p.pg f' pg' x) : ¬ InUse S x := fun ⟨t, ht, q, hq, j, hj, e, ho⟩ => by
  have Iq := (K.pag t ht q hq).1
  have h1 := Iq.in_page (Nat.lt_of_lt_of_le hj Iq.mn) e
  obtain ⟨i, hi, e2⟩ := hg.blk
  have hmn : pg'.made ≤ p.pg.n := by have := hg.inv.mn; rw [hg.sn] at this; exact this
  have h2 := (K.pag s hs p hp).1.in_page (Nat.lt_of_lt_of_le hi hmn) e2
  obtain ⟨rfl, rfl⟩ := A.same ht hq hs hp h1.1 h1.2 h2.1 h2.2
  rcases hg.new with h3 | h3
  · exact ho h3
  · have := mul_apart (s := q.pg.s) hj
    have := Iq.s16
    omega

theorem BInv.loc {c : Nat} (I : BInv h U) (K : SOk sz f h.S) (A : SApart h.S) (hg : GLoc sz f h c x f' h') : BInv h' (U ++ [x]) ∧ (NE h.S → NE h'.S) := by
  obtain ⟨kk, s, hs, p, hp, pg', k1, k2, hful, hkey, _, hgot, rfl⟩ := hg
  have hmem := fun {t : SegR} (ht : t ∈ setPg s.pl p.at_ pg' h.S) => setPg_mem K hs ht
  refine ⟨⟨?_, fun y hy => ?_, ?_, fun t ht q hq => ?_, fun t ht q hq => ?_⟩, fun hne t ht => ?_⟩
  · have := usedS_set (pg' := pg') K hs hp
    have hu := hgot.used
    rw [List.length_append, I.cnt]
    show usedS h.S + 1 = usedS (setPg s.pl p.at_ pg' h.S)
    omega
  · refine InUse.set K hs hp hgot ?_
    rcases List.mem_append.1 hy with hy | hy
    · exact .inl (I.use y hy)
    · exact .inr (by simpa using hy)
  · rw [List.nodup_append]
    refine ⟨I.nod, by simp, fun y hy z hz e => ?_⟩
    simp only [List.mem_singleton] at hz
    subst hz e
    exact InUse.not_new K hs hp A hgot (I.use _ hy)
  · rcases hmem ht with ⟨ht, _⟩ | rfl
    · exact I.pos t ht q hq
    · rcases setPP_mem (K.nod s hs) hp hq with ⟨hq, _⟩ | rfl
      · exact I.pos s hs q hq
      · show 1 ≤ pg'.used
        rw [hgot.used]
        omega
  · have hold : ∀ y, y ∈ h.Q1 c ∨ y ∈ h.Q2 c → y ∈ (h.Q1 c).drop kk ∨ y ∈ h.Q2 c ++ (h.Q1 c).take kk := fun y hy => by
      rcases hy with hy | hy
      · rw [← List.take_append_drop kk (h.Q1 c)] at hy
        rcases List.mem_append.1 hy with hy | hy
        · exact .inr (List.mem_append_right _ hy)
        · exact .inl hy
      · exact .inr (List.mem_append_left _ hy)
    have put : ∀ {t : SegR} {q : PageR}, t ∈ h.S → q ∈ t.P → ∃ c', rowIx q.cls = some c' ∧ _ := fun ht hq => by
      obtain ⟨c', e, hk⟩ := I.keys _ ht _ hq
      exact ⟨c', e, queued_mem (h := { h with S := setPg s.pl p.at_ pg' h.S }) (k1 := k1) (k2 := k2) hold hk⟩
    rcases hmem ht with ⟨ht, _⟩ | rfl
    · exact put ht hq
    · rcases setPP_mem (K.nod s hs) hp hq with ⟨hq, _⟩ | rfl
      · exact put (t := s) (q := q) hs hq
      · exact put (t := s) (q := p) hs hp
  · rcases hmem ht with ⟨ht, _⟩ | rfl
    · exact hne t ht
    · intro e
      have := hne s hs
      exact this (List.map_eq_nil_iff.1 (show setPP p.at_ pg' s.P = [] from e))

theorem BInv.fill {c : Nat} (I : BInv h U) (hg : GFill h c h') : BInv h' U ∧ h'.S = h.S := by
  obtain ⟨k1, k2, hful, rfl⟩ := hg
  refine ⟨⟨I.cnt, I.use, I.nod, I.pos, fun t ht q hq => ?_⟩, rfl⟩
  obtain ⟨c', e, hk⟩ := I.keys t ht q hq
  exact ⟨c', e, queued_mem (fun y hy => .inr (by rcases hy with hy | hy; exact List.mem_append_right _ hy; exact List.mem_append_left _ hy)) hk⟩

theorem BInv.grow (I : BInv h U) (hg : GGrow k h h') : BInv h' U := by
  obtain ⟨s, gs, hpl, hP, _, rfl⟩ := hg
  have hm : ∀ {t : SegR}, t ∈ h.S ++ [s] → t ∈ h.S ∨ t.P = [] := fun {t} ht => by
    rcases List.mem_append.1 ht with ht | ht
    · exact .inl ht
    · simp only [List.mem_singleton] at ht
      subst ht
      exact .inr hP
  refine ⟨?_, fun y hy => ?_, I.nod, fun t ht p hp => ?_, fun t ht p hp => ?_⟩
  · show U.length = usedS (h.S ++ [s])
    rw [I.cnt]
    simp [usedS, usedP, hP]
  · obtain ⟨t, ht, p, hp, q, hq, e, ho⟩ := I.use y hy
    exact ⟨t, List.mem_append_left _ ht, p, hp, q, hq, e, ho⟩
  · rcases hm ht with ht | ht
    · exact I.pos t ht p hp
    · rw [ht] at hp; cases hp
  · rcases hm ht with ht | ht
    · exact I.keys t ht p hp
    · rw [ht] at hp; cases hp

theorem BInv.new {c : Int} {i sl Sz N : Nat} (I : BInv h U) (K : SOk sz f h.S) (K' : SOk sz f' h'.S) (A' : SApart h'.S) (hr : rowIx c = some i) (hs1 : 1 ≤ sl) (hg : GNew sz f h c i sl Sz N x f' h') : BInv h' (U ++ [x]) ∧ ((∀ s ∈ h.S, s.P = [] → ∀ t ∈ h.S, t.P ≠ [] → ∀ j, ¬ FreeRow (segT t.P) 16 sl j) → (∀ s ∈ h.S, ∀ t ∈ h.S, s.P = [] → t.P = [] → s = t) → NE h'.S) := by
  obtain ⟨s, hs, at_, bo, bp, pg', k1, k2, hfr, hlow, hx, hgot, rfl⟩ := hg
  have hmem := fun {t : SegR} (ht : t ∈ addPg s.pl ⟨bo, bp, c, at_, sl, pg'⟩ h.S) => addPg_mem K hs ht
  have hself := mem_addPg_self (p := ⟨bo, bp, c, at_, sl, pg'⟩) hs
  have hblk := hgot.blk
  refine ⟨⟨?_, fun y hy => ?_, ?_, fun t ht q hq => ?_, fun t ht q hq => ?_⟩, fun h2 h3 t ht => ?_⟩
  · have := usedS_add (p := ⟨bo, bp, c, at_, sl, pg'⟩) K hs
    have hu := hgot.used
    rw [List.length_append, I.cnt]
    show usedS h.S + 1 = usedS (addPg s.pl _ h.S)
    rw [this]
    show _ = _ + pg'.used
    rw [hu]
    rfl
  · refine InUse.add K hs (x := x) ?_ ?_
    · obtain ⟨j, hj, e⟩ := hgot.blk
      exact ⟨j, hj, by show x = pg'.f + j * pg'.s; rw [hgot.sf, hgot.ss]; exact e, hgot.out⟩
    · rcases List.mem_append.1 hy with hy | hy
      · exact .inl (I.use y hy)
      · exact .inr (by simpa using hy)
  · rw [List.nodup_append]
    refine ⟨I.nod, by simp, fun y hy z hz e => ?_⟩
    simp only [List.mem_singleton] at hz
    subst hz e
    -- the old page that the block would lie in
    obtain ⟨t, ht, q, hq, j, hj, e, ho⟩ := I.use _ hy
    have Iq := (K.pag t ht q hq).1
    have g1 := Iq.in_page (Nat.lt_of_lt_of_le hj Iq.mn) e
    obtain ⟨i', hi', e2⟩ := hgot.blk
    have g2 := hgot.inv.in_page (x := y) (Nat.lt_of_lt_of_le hi' hgot.inv.mn) (by rw [hgot.sf, hgot.ss]; exact e2)
    have hin : ∃ t' ∈ addPg s.pl (⟨bo, bp, c, at_, sl, pg'⟩ : PageR) h.S, q ∈ t'.P ∧ t'.pl = t.pl := by
      by_cases e1 : t.pl = s.pl
      · have := pair_at (F := SegR.pl) K.pls ht hs e1
        subst this
        exact ⟨_, hself, List.mem_append_left _ hq, rfl⟩
      · exact ⟨t, mem_addPg ht e1, hq, rfl⟩
    obtain ⟨t', ht', hq', hpl'⟩ := hin
    obtain ⟨e5, e6⟩ := A'.same ht' hq' hself (q := ⟨bo, bp, c, at_, sl, pg'⟩) (by simp) g1.1 g1.2 g2.1 g2.2
    have hplts : t.pl = s.pl := by rw [← hpl', e5]
    have := pair_at (F := SegR.pl) K.pls ht hs hplts
    subst this
    have hat : q.at_ = at_ := by rw [e6]
    have hsl := (K.pag t ht q hq).2.2.1
    have hT : segT t.P at_ = true := by
      unfold segT
      rw [Bool.or_eq_true, List.any_eq_true]
      exact .inr ⟨q, hq, by simp [covers]; omega⟩
    have h3 := hfr.2 0 (by omega)
    rw [Nat.add_zero, hT] at h3
    cases h3
  · rcases hmem ht with ⟨ht, _⟩ | rfl
    · exact I.pos t ht q hq
    · rcases List.mem_append.1 hq with hq | hq
      · exact I.pos s hs q hq
      · simp only [List.mem_singleton] at hq
        subst hq
        show 1 ≤ pg'.used
        rw [hgot.used]
        omega
  · have put : ∀ {t : SegR} {q : PageR}, t ∈ h.S → q ∈ t.P → ∃ c', rowIx q.cls = some c' ∧ _ := fun ht hq => by
      obtain ⟨c', e, hk⟩ := I.keys _ ht _ hq
      exact ⟨c', e, queued_mem (h := { h with S := addPg s.pl ⟨bo, bp, c, at_, sl, pg'⟩ h.S }) (R := h.Q1 i ++ [((s.pl * 16 + at_ : Nat) : Int)]) (F := h.Q2 i) (k1 := k1) (k2 := k2) (fun y hy => hy.imp (fun h => List.mem_append_left _ h) id) hk⟩
    rcases hmem ht with ⟨ht, _⟩ | rfl
    · exact put ht hq
    · rcases List.mem_append.1 hq with hq | hq
      · exact put (t := s) (q := q) hs hq
      · simp only [List.mem_singleton] at hq
        subst hq
        refine ⟨i, hr, .inl ?_⟩
        rw [q1_queued]
        simp [keyOf]
  · rcases hmem ht with ⟨ht, hne⟩ | rfl
    · intro e
      by_cases es : s.P = []
      · exact hne (congrArg SegR.pl (h3 t ht s hs e es))
      · exact h2 t ht e s hs es at_ hfr
    · simp
end Go.Proofs.YtbljphaklciinaaGreat

/- HeapFull, walked: as many blocks come of a class as its segments' pages have; one given back comes again. -/
namespace Go.Proofs.YtbljphaklciinaaGreat
open Go.RowKit
variable {ro ro' : Nat → Role} {hn : Nat} {w w' : World} {B bm bb sz : Nat} {f f' : Nat → Nat} {h h' : HeapR} {S : List SegR} {c k x n k' r : Nat} {U : List Nat} {a : ArR} {W : World}

theorem szs_mono : ∀ c, c < 12 → ∀ j, j < c → szs.getD j 0 < szs.getD c 0 := by decide

/-- get of a class's size. -/
theorem get_class (L : LawH W ro 0 w bm bb (n * 16384) f h a) (K : KA n k r h a) (hn : n ≤ 16) (hr : r < 1000000) (hc : c < 12) :
    Calls Tryz.prog 11 #[.pointer (some ⟨h.bh, 0, none⟩), .int .u64 (szs.getD c 0 : Nat)] w (GetTo W ro w bm bb n k r f h (c : Int) c (sls.getD c 0) (szs.getD c 0) (blks.getD c 0) (szs.getD c 0 : Nat)) := by
  have hs := szs_in hc
  have hl : sls.getD c 0 ≤ 4 := by
    rw [sls_of hc]
    split
    · omega
    · split <;> omega
  refine get_walk (m := (szs.getD c 0 : Nat)) L K hn hr (.inr ⟨rfl, hc, rfl, rfl, rfl⟩ : PlanOk (c : Int) (sls.getD c 0 : Nat) c (sls.getD c 0) (szs.getD c 0) (blks.getD c 0)) (by omega) (by omega) (by omega) (by omega) ?_
  refine (for_small w (szs.getD c 0) hs.2).mono ?_
  rintro e w' ⟨c', hc', h1, h2, rfl, hb⟩
  have : c' = c := by
    rcases Nat.lt_trichotomy c' c with h | h | h
    · have := szs_mono c hc c' h; omega
    · exact h
    · have := h2 c h; omega
  subst this
  exact ⟨rfl, hb⟩

/-- What HeapFull holds: the heap, the blocks that came, in a row of its own. -/
structure FS (W : World) (ro : Nat → Role) (bh ba n c k r : Nat) (U : List Nat) (w : World) : Prop where
  st : ∃ bm bb f h a, LawH W ro 0 w bm bb (n * 16384) f h a ∧ KA n k r h a ∧ FInv c k h U ∧ h.bh = bh ∧ h.ba = ba

def rowU (U : List Nat) : List Value := U.map fun x => .int .u64 (x : Nat)
/-- The law's own row. -/
def OwnU (W : World) (ro : Nat → Role) (v : Value) (U : List Nat) (w : World) : Prop := w.ownsRow W.heap.size 29 1 v U.length (rowU U) ∧ ∀ b, v.ownBlock = some b → ro b = .other

theorem OwnU.stay {v : Value} (H : OwnU W ro v U w) (hs : Stay ro w ro' w') : OwnU W ro' v U w' :=
  ⟨own_stays H.1 (fun k hk => (hs.2 k (H.1.lt k hk).2 (H.2 k hk)).1), fun b hb => (hs.2 b (H.1.lt b hb).2 (H.2 b hb)).2⟩

theorem get_fs (bh ba : Nat) {v : Value} (F : FS W ro bh ba n c k r U w) (O : OwnU W ro v U w) (hn : n ≤ 16) (hr : r < 1000000) (hc : c < 12) :
    Calls Tryz.prog 11 #[.pointer (some ⟨bh, 0, none⟩), .int .u64 (szs.getD c 0 : Nat)] w fun e w' =>
      ∃ ro' k', OwnU W ro' v U w' ∧ ((∃ x, e = .returned (.tuple #[.int .u64 (x : Nat), .int .u64 (szs.getD c 0 : Nat), .bool true]) ∧ FS W ro' bh ba n c k' (r + 1) (U ++ [x]) w') ∨
        (e = .returned (.tuple #[.int .u64 0, .int .u64 0, .bool false]) ∧ k' = n ∧ ∃ bm bb f h a, LawH W ro' 0 w' bm bb (n * 16384) f h a ∧ KA n n (r + 1) h a ∧ FInv c n h U ∧ h.bh = bh ∧ h.ba = ba ∧ h.Q1 c = [] ∧ NoRoom h (sls.getD c 0))) := by
  obtain ⟨bm, bb, f, h, a, L, K, I, rfl, rfl⟩ := F.st
  refine (get_class L K hn hr hc).mono ?_
  rintro e w' ⟨y, f', h', k', ro', a', rfl, hg, L', K', e1, e2, hs⟩
  have ho := L.hp.hp.qo c (by omega)
  rcases I.got L.hp.hp.sok ho (L.hp.hp.linkOk (by omega)) K.pls hc hg with ⟨x, rfl, I'⟩ | ⟨rfl, I', h1, h2, rfl⟩
  · exact ⟨ro', k', O.stay hs, .inl ⟨x, rfl, ⟨bm, bb, f', h', a', L', K', I', e1, e2⟩⟩⟩
  · exact ⟨ro', k', O.stay hs, .inr ⟨rfl, rfl, bm, bb, f', h', a', L', K', I', e1, e2, h1, h2⟩⟩

theorem FS.len {bh ba : Nat} (F : FS W ro bh ba n c k r U w) (hn : n ≤ 2) (hc : c < 12) : U.length ≤ 1920 := by
  obtain ⟨bm, bb, f, h, a, L, K, I, rfl, rfl⟩ := F.st
  have h1 := I.bound L.hp.hp.sok hc
  have h2 := K.kn
  have h3 : k * 960 ≤ 2 * 960 := Nat.mul_le_mul_right _ (by omega)
  omega

theorem FS.size {bh ba : Nat} (F : FS W ro bh ba n c k r U w) : W.heap.size ≤ w.heap.size := by
  obtain ⟨bm, bb, f, h, a, L, _⟩ := F.st
  exact L.below.size
theorem FS.app {bh ba : Nat} {v : Value} {U0 : List Nat} {o : Obj} (F : FS W ro bh ba n c k r U w) (O : OwnU W ro v U0 w) (hg : (w.alloc o).grownBy w' v.ownBlock) : FS W (cutR ro w.heap.size) bh ba n c k r U w' := by
  obtain ⟨bm, bb, f, h, a, L, K, I, e1, e2⟩ := F.st
  refine ⟨bm, bb, f, h, a, ((L.cut rfl).on ((Below.refl _ _).alloc (Nat.le_refl _) _)).own hg (fun b hb => ⟨?_, (O.1.lt b hb).1⟩), K, I, e1, e2⟩
  unfold cutR
  rw [if_pos (O.1.lt b hb).2]
  exact O.2 b hb
theorem OwnU.app {v v' : Value} {o : Obj} {x : Nat} (O : OwnU W ro v U w) (hown : w'.ownsRow W.heap.size 29 1 v' (U.length + 1) (rowU U ++ [.int .u64 (x : Nat)])) (hat : v'.ownBlock = v.ownBlock ∨ v'.ownBlock = some (w.alloc o).heap.size) : OwnU W (cutR ro w.heap.size) v' (U ++ [x]) w' := by
  refine ⟨?_, fun b hb => ?_⟩
  · rw [show (U ++ [x]).length = U.length + 1 by simp, show rowU (U ++ [x]) = rowU U ++ [.int .u64 (x : Nat)] by simp [rowU]]
    exact hown
  · unfold cutR
    rcases hat with e | e
    · rw [if_pos (O.1.lt b (e ▸ hb)).2]
      exact O.2 b (e ▸ hb)
    · rw [hb] at e
      have : b = (w.alloc o).heap.size := Option.some.inj e
      rw [if_neg (by rw [this]; simp)]

theorem KA.arSeg (K : KA n k r h a) (hn : n ≤ 64) : ArSeg a h.S := ⟨K.sorted, by rw [K.len]; have := K.kn; omega, fun s hs => by
  have h1 := K.pls s hs
  have h2 := K.kn
  refine ⟨by rw [K.en]; omega, by rw [K.T]; simpa using h1, ?_⟩
  rw [K.R]
  exact List.mem_map.2 ⟨s.pl, by simpa using h1, rfl⟩⟩

theorem local_full {v : Value} (L : LawH W ro 0 w bm bb (n * 16384) f h a) (K : KA n k r h a) (I : FInv c k h U) (O : OwnU W ro v U w) (hU : 0 < U.length) (hq : h.Q1 c = []) (hc : c < 12) :
    Calls Tryz.prog 15 #[.pointer (some ⟨h.bh, 0, none⟩), .int .i64 c] w fun e w' => e = .returned (.tuple #[.int .u64 0, .int .i64 4]) ∧
      ∃ ro' h', LawH W ro' 0 w' bm bb (n * 16384) f h' a ∧ KA n k r h' a ∧ FInv c k h' U ∧ OwnU W ro' v U w' ∧ h'.bh = h.bh ∧ h'.ba = h.ba ∧ h'.Q1 c = [] := by
  rcases O.1.2 with ⟨_, h0⟩ | ⟨g, cap, cur, hv, hgB, hh, _⟩
  · omega
  · have X : LX W ro w bm bb f h a n k r g (.cells cur 29) := ⟨L, K, O.2 g (by rw [hv]; rfl), hh⟩
    refine (local_g X hc).mono ?_
    rintro e w' (⟨y, f', h', ro', rfl, ⟨kk, s, hs, p, hp, pg', k1, k2, _, hkey, _⟩, _⟩ | ⟨h', ro', rfl, hg, L', e1, e2, hs⟩)
    · rw [hq] at hkey
      simp at hkey
    · obtain ⟨I', hq', _⟩ := I.fill L.hp.hp.sok hg
      exact ⟨rfl, ro', h', L'.law, L'.ka, I', O.stay hs, e1, e2, hq'⟩

theorem free_full {v : Value} {x : Nat} (L : LawH W ro 0 w bm bb (n * 16384) f h a) (K : KA n k r h a) (I : FInv c k h U) (O : OwnU W ro v U w) (hn : n ≤ 16) (hq : h.Q1 c = []) (hc : c < 12) (hx : x ∈ U) :
    Calls Tryz.prog 16 #[.pointer (some ⟨h.bh, 0, none⟩), .int .u64 x] w fun e w' => e = .returned (.int .i64 0) ∧
      ∃ ro' f' s p F k1 k2, s ∈ h.S ∧ p ∈ s.P ∧ p.pg.full ∧ LawH W ro' 0 w' bm bb (n * 16384) f' (({ h with S := setPg s.pl p.at_ (p.pg.gave x) h.S } : HeapR).queued c [keyOf s p] F k1 k2) a ∧ KA n k r (({ h with S := setPg s.pl p.at_ (p.pg.gave x) h.S } : HeapR).queued c [keyOf s p] F k1 k2) a ∧ OwnU W ro' v U w' := by
  obtain ⟨s, hs, p, hp, q, hqm, hxe, ho⟩ := I.use x hx
  have hcls := (I.kind s hs p hp).1
  have huf := I.used_full L.hp.hp.sok hq hs hp
  have hN := (blks_le hc).1
  refine (free_ok L.hp L.ar (K.arSeg (by omega)) hs hp (i := c) (by omega) (by rw [hcls]; unfold rowIx; rw [if_neg (by omega), if_pos (by omega)]; simp) hqm hxe ho).mono ?_
  rintro e w' ⟨rfl, ro', R, F, k1, k2, S', a', he, rr, A, H, hk⟩
  rcases hk with ⟨_, rfl, rfl, rfl, rfl⟩ | ⟨h1, _⟩
  · have hkey : keyOf s p ∈ h.Q2 c := by
      rcases I.keys s hs p hp with h1 | h1
      · rw [hq] at h1; cases h1
      · exact h1
    have eW : wakeS (h.Q1 c) (h.Q2 c) ((s.pl * 16 + p.at_ : Nat) : Int) = (0, [keyOf s p], (h.Q2 c).erase (keyOf s p)) := by
      unfold wakeS
      rw [if_pos (show ((s.pl * 16 + p.at_ : Nat) : Int) ∈ h.Q2 c from hkey), hq]
      rfl
    rw [eW] at H
    exact ⟨rfl, ro', _, s, p, _, k1, k2, hs, hp, I.allfull hq hs hp, L.step H A rr hpT_other he, K.keep setPg_pls, O.stay (Stay.of_fr rr hpT_other he)⟩
  · omega

theorem get_again {v : Value} {x : Nat} {s : SegR} {p : PageR} {F : List Int} {k1 k2 : Option Nat} (hs : s ∈ h.S) (hp : p ∈ s.P) (hf : p.pg.full) (L : LawH W ro 0 w bm bb (n * 16384) f (({ h with S := setPg s.pl p.at_ (p.pg.gave x) h.S } : HeapR).queued c [keyOf s p] F k1 k2) a)
    (K : KA n k r (({ h with S := setPg s.pl p.at_ (p.pg.gave x) h.S } : HeapR).queued c [keyOf s p] F k1 k2) a) (O : OwnU W ro v U w) (hn : n ≤ 16) (hr : r < 1000000) (hc : c < 12) :
    Calls Tryz.prog 11 #[.pointer (some ⟨h.bh, 0, none⟩), .int .u64 (szs.getD c 0 : Nat)] w fun e w' => e = .returned (.tuple #[.int .u64 (x : Nat), .int .u64 (szs.getD c 0 : Nat), .bool true]) ∧ Below W.heap.size W w' ∧ ∃ ro', OwnU W ro' v U w' := by
  refine (get_class L K hn hr hc).mono ?_
  rintro e w' ⟨y, f', h', k', ro', a', rfl, hg, L', K', e1, e2, hst⟩
  have := last_get hs hp hf L.hp.hp.sok hg
  subst this
  exact ⟨rfl, L'.below, ro', O.stay hst⟩

def lenOf : Value → Nat
  | .slice _ n _ => n
  | _ => 0

set_option maxRecDepth 100000 in
set_option maxHeartbeats 16000000 in
theorem full_walk (W : World) (cc ww : Int) (h0 : 0 ≤ cc) (h1 : cc ≤ 255) (h2 : 0 ≤ ww) (h3 : ww ≤ 65535) :
    Calls Tryz.prog 3 #[.int .u8 cc, .int .u16 ww] W (TrueBelow W) := by
  obtain ⟨c, hc⟩ : ∃ c : Nat, (c : Int) = cc % 12 := ⟨(cc % 12).toNat, by omega⟩
  have hc12 : c < 12 := by omega
  have HCC := Lib.hid hc
  go_enter Tryz.func3, Tryz.ntmps3
  go_wp2_with fail
  refine (alive12 W).mono ?_
  rintro e w1 ⟨rfl, B1⟩
  have HM : Hid (Calls Tryz.prog 9 #[.int .i64 2, .int .i64 2] w1 fun e w' => ∃ ro bm bb bh ba bk bt, e = .returned (.tuple #[.pointer (some ⟨bh, 0, none⟩), .pointer (some ⟨bm, 0, none⟩), .pointer (some ⟨ba, 0, none⟩), .bool true]) ∧
      LawH W ro 0 w' bm bb (2 * 16384) (fun _ => 0) (newHR bh ba 7) (newAr bk bt 2) ∧ Below w1.heap.size w1 w') := made_ok B1 2 (by omega) (by omega)
  clear B1
  go_wp2_with fail
  refine HM.out.mono ?_
  rintro e w2 ⟨ro, bm, bb, bh, ba, bk, bt, rfl, L2, _⟩
  have HL2 := Lib.hid L2
  have HSZ : Hid (Calls Tryz.prog 10 #[.int .i64 (cc % 12)] w2 fun e w' => e = .returned (.tuple #[.int .u64 (szs.getD c 0 : Nat), .int .i64 0]) ∧ Below w2.heap.size w2 w') := by
    have := size_ok w2 c hc12
    rw [hc] at this
    exact this
  clear L2 HM hc
  go_wp2_with fail
  refine HSZ.out.mono ?_
  rintro e w3 ⟨rfl, hb3⟩
  rw [← HCC.out]
  have HF3 : Hid (FS W ro bh ba 2 c 0 0 [] w3) := ⟨bm, bb, _, _, _, HL2.out.on hb3, ⟨rfl, rfl, by funext j; simp [newAr], rfl, by omega, nofun, Nat.le_refl _⟩, ⟨rfl, nofun, nofun, nofun, nofun, rfl, nofun⟩, rfl, rfl⟩
  have HO3 : Hid (OwnU W ro (.slice none 0 0) [] w3) := ⟨World.ownsRow_nil _ _ _ _, nofun⟩
  have HSIN := szs_in hc12
  obtain ⟨Sz, hSz⟩ : ∃ Sz, Sz = szs.getD c 0 := ⟨_, rfl⟩
  have HGET : Hid (∀ (ro : Nat → Role) (U : List Nat) (k r : Nat) (v : Value) (w : World), FS W ro bh ba 2 c k r U w → OwnU W ro v U w → r < 1000000 → Calls Tryz.prog 11 #[.pointer (some ⟨bh, 0, none⟩), .int .u64 (Sz : Nat)] w fun e w' =>
      ∃ ro' k', OwnU W ro' v U w' ∧ ((∃ x, e = .returned (.tuple #[.int .u64 (x : Nat), .int .u64 (Sz : Nat), .bool true]) ∧ FS W ro' bh ba 2 c k' (r + 1) (U ++ [x]) w') ∨
        (e = .returned (.tuple #[.int .u64 0, .int .u64 0, .bool false]) ∧ k' = 2 ∧ ∃ bm bb f h a, LawH W ro' 0 w' bm bb (2 * 16384) f h a ∧ KA 2 2 (r + 1) h a ∧ FInv c 2 h U ∧ h.bh = bh ∧ h.ba = ba ∧ h.Q1 c = [] ∧ NoRoom h (sls.getD c 0)))) := fun ro U k r v w F O hr => by
    rw [hSz]
    exact get_fs bh ba F O (by omega) hr hc12
  rw [← hSz]
  rw [← hSz] at HSIN
  have HSE := Lib.hid hSz
  clear hb3 HL2 HSZ hSz
  go_wp2_with fail
  obtain ⟨i0, hi0, hz0, hzz1, hz2⟩ := info_parts info_u64
  go_loopw [12] (fun v wr => ∃ (ro : Nat → Role) (k : Nat) (U : List Nat), Hid (FS W ro bh ba 2 c k U.length U wr) ∧ Hid (OwnU W ro v U wr)) (fun v _ => 6000 - lenOf v)
  case atStart => exact ⟨ro, 0, [], HF3.out, HO3.out⟩
  case round =>
    obtain ⟨ro, k, U, HF, HO⟩ := hrel
    have hU := HF.out.len (by omega) hc12
    have hlv : lenOf u12 = U.length := by
      obtain ⟨A, c, e, _⟩ := own_at HO.out.1
      rw [e]
      rfl
    go_wp2_with fail
    refine (HGET.out ro U k U.length u12 _ HF.out HO.out (by omega)).mono ?_
    rintro e w4 ⟨ro4, k4, O4, (⟨x, rfl, F4⟩ | ⟨rfl, rfl, bm4, bb4, f4, h4, a4, L4, K4, I4, e4, e5, hq4, hno4⟩)⟩
    · have HO4 := Lib.hid O4
      have HF4 := Lib.hid F4
      clear O4 F4
      go_wp2_with (first
        | (at_builtin
           refine wpList_append_any _ rfl (.tmp 50) (.tmp 52) _ rfl W.heap.size 29 i0 _ 1 8 Tryz.underlying33 hi0 hz0 hzz1 hz2 rfl (by omega) u12 _ _ rfl
             (HO4.out.1.alloc _) _ _ 1 1 [.int .u64 (x : Nat)] rfl (Reads.new1 _ _ _) (fun u hu => by simp at hu; subst hu; rfl) (by simp only [maxLen]; omega) (by omega) (by have := HF4.out.size; simp; omega) ?_
           intro v5 w5 hown5 hg5 hat5
           have HF5 := Lib.hid (HF4.out.app HO4.out hg5)
           have HO5 := Lib.hid (HO4.out.app hown5 hat5)
           obtain ⟨gb, cap5, rfl, _, _⟩ := hown5.form (by omega)
           clear hown5 hg5 hat5))
      go_roundw
      case rel =>
        have e5 : (U ++ [x]).length = U.length + 1 := by simp
        exact ⟨_, k4, U ++ [x], by rw [e5]; exact HF5.out, HO5.out⟩
      case measure =>
        rw [hlv]
        show 6000 - (U.length + 1) < 6000 - U.length
        omega
    · have HO4 := Lib.hid O4
      have HST : Hid (LawH W ro4 0 w4 bm4 bb4 (2 * 16384) f4 h4 a4 ∧ KA 2 2 (U.length + 1) h4 a4 ∧ FInv c 2 h4 U ∧ h4.bh = bh ∧ h4.ba = ba ∧ h4.Q1 c = [] ∧ NoRoom h4 (sls.getD c 0)) := ⟨L4, K4, I4, e4, e5, hq4, hno4⟩
      obtain ⟨A4, c4, hv, _, _, HC⟩ := own_at O4.1
      subst hv
      have hUL0 := I4.end_ L4.hp.hp.sok hc12 hq4 hno4
      have hBl := blks_le hc12
      have hSl : 1 ≤ sls.getD c 0 ∧ sls.getD c 0 ≤ 4 := by
        rw [sls_of hc12]
        split
        · omega
        · split <;> omega
      have HSL := Lib.hid (fun w => refSlices_ok w c hc12)
      have HBL := Lib.hid (fun w => refBlocks_ok w c hc12)
      obtain ⟨sl, hsl⟩ : ∃ sl, sl = sls.getD c 0 := ⟨_, rfl⟩
      obtain ⟨N, hN⟩ : ∃ N, N = blks.getD c 0 := ⟨_, rfl⟩
      rw [← hsl] at HSL hSl hUL0
      rw [← hN] at HBL hBl hUL0
      obtain ⟨per, hper⟩ : ∃ per, per = 15 / sl * N := ⟨_, rfl⟩
      rw [← hper] at hUL0
      have hdl : 15 / sl ≤ 15 := Nat.div_le_self _ _
      have hd1 : 1 ≤ 15 / sl := by rw [Nat.le_div_iff_mul_le (by omega)]; omega
      have hp1 : per ≤ 15 * 64 := by rw [hper]; exact Nat.mul_le_mul hdl hBl.2
      have hp0 : 1 * 4 ≤ per := by rw [hper]; exact Nat.mul_le_mul hd1 hBl.1
      have hq1 : IntKind.i64.wrap ((15 : Int).tdiv (sl : Int)) = 15 / (sl : Int) := Go.IntWalk.i64_quo _ _ ⟨by omega, by omega, by omega⟩
      have hpe : (15 : Int) / (sl : Int) * (N : Int) = (per : Int) := by
        rw [hper, Int.natCast_mul, Int.natCast_ediv]
        rfl
      have hq2 : IntKind.i64.wrap ((15 : Int) / (sl : Int) * (N : Int)) = (per : Int) := by
        rw [hpe]
        exact Go.IntWalk.i64_in _ ⟨by omega, by omega⟩
      have hs0 : ¬ ((sl : Int) = 0) := by omega
      have hs0' : ((sl : Int) == 0) = false := by simp; omega
      have hs1 : ¬ (sl = 0) := by omega
      have hs2 : (sl == 0) = false := by simp; omega
      have HUL := Lib.hid hUL0
      have HSLE := Lib.hid hsl
      clear O4 L4 K4 I4 e4 e5 hq4 hno4 hUL0 hper hdl hd1 hsl hN hpe
      go_wp2_with fail
      go_region_held3 (fun _ => True) (first | exact trivial | fail)
        (first
          | (go_at_call 12; refine (HSL.out _).mono ?_; rintro e w5 ⟨rfl, hb5⟩; have HB5 : Hid (Below w4.heap.size w4 w5) := ⟨hb5.os, hb5.tape, hb5.output, hb5.size, hb5.block⟩; clear hb5)
          | (go_at_call 13; refine (HBL.out _).mono ?_; rintro e w6 ⟨rfl, hb6⟩; have HB6 : Hid (Below w4.heap.size w4 w6) := HB5.out.trans (hb6.mono HB5.out.size); clear hb6)
          | fail)
      have HGV : Hid (Calls Tryz.prog 14 #[.pointer (some ⟨ba, 0, none⟩)] w6 fun e w' => e = .returned (.int .i64 2) ∧ ∃ k, w' = w6.drewN k) := by
        obtain ⟨L4, K4, I4, e4, e5, _⟩ := HST.out
        have := arenaGiven (L4.on HB6.out).ar.at_
        rw [K4.given, K4.en, e5] at this
        exact this
      have hUL : U.length = 2 * per := HUL.out
      go_wp2_with fail
      refine HGV.out.mono ?_
      rintro e w7 ⟨rfl, kk, hw7⟩
      have HB7 : Hid (Below w4.heap.size w4 w7) := by rw [hw7]; exact below_drewN HB6.out kk
      clear hw7 HGV
      have HLO : Hid (Calls Tryz.prog 15 #[.pointer (some ⟨bh, 0, none⟩), .int .i64 c] w7 fun e w' => e = .returned (.tuple #[.int .u64 0, .int .i64 4]) ∧
          ∃ ro' h', LawH W ro' 0 w' bm4 bb4 (2 * 16384) f4 h' a4 ∧ KA 2 2 (U.length + 1) h' a4 ∧ FInv c 2 h' U ∧ OwnU W ro' (.slice A4 U.length c4) U w' ∧ h'.bh = bh ∧ h'.ba = h4.ba ∧ h'.Q1 c = []) := by
        obtain ⟨L4, K4, I4, e4, e5, hq4, _⟩ := HST.out
        have := local_full (L4.on HB7.out) K4 I4 (HO4.out.stay (Stay.below HB7.out)) (by omega) hq4 hc12
        rw [e4] at this
        exact this
      go_wp2_with fail
      refine HLO.out.mono ?_
      rintro e w8 ⟨rfl, ro8, h8, L8, K8, I8, O8, e8, _, hq8⟩
      have HST8 : Hid (LawH W ro8 0 w8 bm4 bb4 (2 * 16384) f4 h8 a4 ∧ KA 2 2 (U.length + 1) h8 a4 ∧ FInv c 2 h8 U ∧ OwnU W ro8 (.slice A4 U.length c4) U w8 ∧ h8.bh = bh ∧ h8.Q1 c = []) := ⟨L8, K8, I8, O8, e8, hq8⟩
      clear L8 K8 I8 O8 e8 hq8 HLO
      obtain ⟨i, hi⟩ : ∃ i : Nat, (i : Int) = ww % (2 * (per : Int)) := ⟨(ww % (2 * (per : Int))).toNat, by have := Int.emod_nonneg ww (show (2 * (per : Int)) ≠ 0 by omega); omega⟩
      have hil : i < U.length := by have := Int.emod_lt_of_pos ww (show 0 < (2 * (per : Int)) by omega); omega
      obtain ⟨xi, hxi⟩ : ∃ xi, U[i]? = some xi := ⟨_, List.getElem?_eq_getElem hil⟩
      have hxu := List.mem_of_getElem? hxi
      have HXI := Lib.hid hxi
      obtain ⟨A', c', hv', _, _, HC8⟩ := own_at HST8.out.2.2.2.1.1
      injection hv' with hA _ hc'
      subst hA hc'
      obtain ⟨gg, hgg, hcell⟩ := HC8 i (.int .u64 (xi : Nat)) (by unfold rowU; rw [List.getElem?_map, hxi]; rfl)
      have hti : (ww % (2 * (per : Int))).toNat = i := by omega
      have hb1 : 0 ≤ ww % (2 * (per : Int)) := by omega
      have hb2 : ww % (2 * (per : Int)) < 2 * (per : Int) := by omega
      have hcell' : w8.cell? ⟨gg, (ww % (2 * (per : Int))).toNat, none⟩ = some (.int .u64 (xi : Nat)) := by rw [hti]; exact hcell
      have HTI := Lib.hid hti
      have HFREE : Hid (Calls Tryz.prog 16 #[.pointer (some ⟨bh, 0, none⟩), .int .u64 xi] w8 fun e w' => e = .returned (.int .i64 0) ∧
          ∃ ro' f' s p F k1 k2, s ∈ h8.S ∧ p ∈ s.P ∧ p.pg.full ∧ LawH W ro' 0 w' bm4 bb4 (2 * 16384) f' (({ h8 with S := setPg s.pl p.at_ (p.pg.gave xi) h8.S } : HeapR).queued c [keyOf s p] F k1 k2) a4 ∧ KA 2 2 (U.length + 1) (({ h8 with S := setPg s.pl p.at_ (p.pg.gave xi) h8.S } : HeapR).queued c [keyOf s p] F k1 k2) a4 ∧ OwnU W ro' (.slice A4 U.length c4) U w') := by
        obtain ⟨L8, K8, I8, O8, e8, hq8⟩ := HST8.out
        rw [← e8]
        exact free_full L8 K8 I8 O8 (by omega) hq8 hc12 hxu
      have HXI := Lib.hid hxi
      clear HC8 hxi hxu hi hcell hti HST HB7 HB6
      go_wp2_with fail
      refine HFREE.out.mono ?_
      rintro e w9 ⟨rfl, ro9, f9, s9, p9, F9, k91, k92, hs9, hp9, hf9, L9, K9, O9⟩
      have HGT : Hid (Calls Tryz.prog 11 #[.pointer (some ⟨bh, 0, none⟩), .int .u64 (Sz : Nat)] w9 fun e w' => e = .returned (.tuple #[.int .u64 (xi : Nat), .int .u64 (Sz : Nat), .bool true]) ∧ Below W.heap.size W w' ∧ ∃ ro', OwnU W ro' (.slice A4 U.length c4) U w') := by
        have := get_again hs9 hp9 hf9 L9 K9 O9 (by omega) (by omega) hc12
        rw [← HSE.out, HST8.out.2.2.2.2.1] at this
        exact this
      clear hs9 hp9 hf9 L9 K9 O9 HFREE hcell'
      go_wp2_with fail
      refine HGT.out.mono ?_
      rintro e w10 ⟨rfl, hb10, ro10, O10⟩
      obtain ⟨A', c', hv', _, _, HC10⟩ := own_at O10.1
      injection hv' with hA _ hc'
      subst hA hc'
      obtain ⟨g2, hg2, hcell⟩ := HC10 i (.int .u64 (xi : Nat)) (by unfold rowU; rw [List.getElem?_map, HXI.out]; rfl)
      have e2 : g2 = gg := by
        rw [hgg] at hg2
        injection hg2 with h
        injection h with h _ _
        exact h.symm
      subst e2
      have hcell' : w10.cell? ⟨g2, (ww % (2 * (per : Int))).toNat, none⟩ = some (.int .u64 (xi : Nat)) := by rw [HTI.out]; exact hcell
      have HB10 := Lib.hid hb10
      clear HC10 hcell hb10 O10 HGT
      go_wp2_with fail
      go_ret
      exact ⟨rfl, HB10.out⟩

section
open Go.ChangeShapes Go.WideShapes
variable {H : Type} {enc : TypeId × Value → H} {W : World} {base : Nat} {args : Array Value} {ds : List (DataW H)} {p : List MemPlace}
end
end Go.Proofs.YtbljphaklciinaaGreat
