/- Walks of the program's functions, and plain laws on what they compute, text by text (Class3, Mark). No condition. -/
import Derived.Test.YtbljphaklciinaaGreatHb02
import Derived.Deep.OwnRows

/- Layer 5 (class): Blocks, units; layer 1: Pow2 of one. -/
namespace Go.Proofs.YtbljphaklciinaaGreat
open Go.RowKit

def blks : List Nat := [64, 32, 21, 16, 10, 8, 5, 4, 5, 4, 5, 4]

set_option maxRecDepth 100000 in
set_option maxHeartbeats 4000000 in
theorem blocks_ok (w : World) (c : Nat) (hc : c < 12) : Calls Tryz.prog 123 #[.int .i64 c] w fun e w' => e = .returned (.tuple #[.int .i64 (blks.getD c 0 : Nat), .int .i64 0]) ∧ Below w.heap.size w w' := by
  rcases (show c = 0 ∨ c = 1 ∨ c = 2 ∨ c = 3 ∨ c = 4 ∨ c = 5 ∨ c = 6 ∨ c = 7 ∨ c = 8 ∨ c = 9 ∨ c = 10 ∨ c = 11 by omega) with rfl | rfl | rfl | rfl | rfl | rfl | rfl | rfl | rfl | rfl | rfl | rfl <;>
  · have HS := Lib.hid (size_ok w _ hc)
    have HL := Lib.hid (fun w => slices_ok w _ hc)
    simp only [szs, sls, List.getD_cons_zero, List.getD_cons_succ] at HS HL
    go_enter Tryz.func123, Tryz.ntmps123
    go_wp2_with fail
    refine HS.out.mono ?_
    rintro e w1 ⟨rfl, B1⟩
    have HB := Lib.hid B1
    clear B1 HS
    go_wp2_with fail
    refine (HL.out w1).mono ?_
    rintro e w2 ⟨rfl, B2⟩
    have HB2 := Lib.hid (HB.out.trans (B2.mono HB.out.size))
    clear B2 HL
    go_wp2_with fail
    go_ret2
    exact ⟨rfl, HB2.out⟩

theorem ones_one (w : World) : Calls Tryz.prog 109 #[.int .u64 1] w fun e w' => e = .returned (.int .i64 1) ∧ w' = w := by
  have b1 : bits BinOp.and IntKind.u64 0 6148914691236517205 = 0 := by kernel_rfl
  have b2 : bits BinOp.and IntKind.u64 1 6148914691236517205 = 1 := by kernel_rfl
  have b3 : bits BinOp.and IntKind.u64 0 3689348814741910323 = 0 := by kernel_rfl
  have b4 : bits BinOp.and IntKind.u64 1 3689348814741910323 = 1 := by kernel_rfl
  have b5 : bits BinOp.and IntKind.u64 1 1085102592571150095 = 1 := by kernel_rfl
  have b6 : bits BinOp.and IntKind.i64 1 127 = 1 := by kernel_rfl
  have w1 : IntKind.u64.wrap 1 = 1 := by kernel_rfl
  go_enter Tryz.func109, Tryz.ntmps109
  go_wp2_with fail
  go_ret
  exact ⟨rfl, rfl⟩

theorem pow2_one (w : World) : Calls Tryz.prog 69 #[.int .u64 1] w fun e w' => e = .returned (.bool true) ∧ w' = w := by
  go_enter Tryz.func69, Tryz.ntmps69
  go_wp2_with fail
  (with_reducible refine (ones_one w).mono ?_)
  rintro e w1 ⟨rfl, rfl⟩
  go_wp2_with fail
  go_ret
  exact ⟨rfl, rfl⟩

set_option maxHeartbeats 1000000 in
theorem units_ok (w : World) (n : Nat) (hn : n ≤ 1048576) : Calls Tryz.prog 71 #[.int .u64 n, .int .u64 1024] w fun e w' => e = .returned (.tuple #[.int .i64 ((n + 1023) / 1024 : Nat), .int .u64 ((n + 1023) / 1024 * 1024 : Nat)]) ∧ w' = w := by
  go_enter Tryz.func71, Tryz.ntmps71
  go_wp2_with fail
  go_ret2
  have e1 : ((n : Int) + 1024 - 1) / 1024 = ((n + 1023) / 1024 : Nat) := by omega
  have e2 : ((n : Int) + 1024 - 1) / 1024 * 1024 = ((n + 1023) / 1024 * 1024 : Nat) := by omega
  refine ⟨?_, rfl⟩
  show Ending.returned (.tuple #[.int .i64 (((n : Int) + 1024 - 1) / 1024), .int .u64 (((n : Int) + 1024 - 1) / 1024 * 1024)]) = _
  rw [e2, e1]

theorem szs_le {j : Nat} (h : j < 12) : 16 ≤ szs.getD j 0 ∧ szs.getD j 0 ≤ 1024 := by
  rcases (show j = 0 ∨ j = 1 ∨ j = 2 ∨ j = 3 ∨ j = 4 ∨ j = 5 ∨ j = 6 ∨ j = 7 ∨ j = 8 ∨ j = 9 ∨ j = 10 ∨ j = 11 by omega) with rfl | rfl | rfl | rfl | rfl | rfl | rfl | rfl | rfl | rfl | rfl | rfl <;> simp [szs]

/-- A plan for blocks of a class. -/
def planV (c : Nat) : Value := .agg #[.int .i64 c, .int .i64 (sls.getD c 0 : Nat), .int .i64 0, .int .u64 (szs.getD c 0 : Nat)]
def planB (n : Nat) : Value := .agg #[.int .i64 (-1), .int .i64 ((n + 1023) / 1024 : Nat), .int .i64 0, .int .u64 ((n + 1023) / 1024 * 1024 : Nat)]

set_option maxRecDepth 100000 in
set_option maxHeartbeats 4000000 in
theorem for_small (w : World) (n : Nat) (hn : n ≤ 1024) : Calls Tryz.prog 33 #[.int .u64 n, .int .u64 1] w fun e w' => ∃ c, c < 12 ∧ n ≤ szs.getD c 0 ∧ (∀ j, j < c → szs.getD j 0 < max n 1) ∧ e = .returned (.tuple #[planV c, .int .i64 0]) ∧ Below w.heap.size w w' := by
  have HL := Lib.hid (fun w c (hc : c < 12) => slices_ok w c hc)
  rcases Nat.eq_zero_or_pos n with rfl | hp
  · go_enter Tryz.func33, Tryz.ntmps33
    go_wp2_with fail
    (with_reducible refine (pow2_one _).mono ?_)
    rintro e w1 ⟨rfl, rfl⟩
    go_wp2_with fail
    (with_reducible refine (sizes_ok _).mono ?_)
    rintro e w1 ⟨rfl, B1⟩
    have HB1 := Lib.hid B1
    clear B1
    unfold szV
    go_wp2_with fail
    go_loop [25] (fun i => ∃ k : Nat, k < 12 ∧ i = .int .i64 k ∧ Hid (∀ j, j < k → szs.getD j 0 < 1)) (fun i => 12 - (intOf i).toNat)
    case atStart => exact ⟨0, by omega, rfl, fun j hj => by omega⟩
    case round =>
      obtain ⟨k, hk, rfl, HK⟩ := hrel
      rcases (show k = 0 ∨ k = 1 ∨ k = 2 ∨ k = 3 ∨ k = 4 ∨ k = 5 ∨ k = 6 ∨ k = 7 ∨ k = 8 ∨ k = 9 ∨ k = 10 ∨ k = 11 by omega) with rfl | rfl | rfl | rfl | rfl | rfl | rfl | rfl | rfl | rfl | rfl | rfl
      · have hx : ∀ w : World, (Instr.index 91 (.agg #[.int .u64 16, .int .u64 32, .int .u64 48, .int .u64 64, .int .u64 96, .int .u64 128, .int .u64 192, .int .u64 256, .int .u64 384, .int .u64 512, .int .u64 768, .int .u64 1024]) (.int .i64 0)).run Tryz.prog w = .ok (.int .u64 16) w := fun _ => by kernel_rfl
        by_cases hs : 1 ≤ 16
        · have HM := Lib.hid hs
          have HS := Lib.hid (HL.out w1 0 (by omega))
          simp only [sls, List.getD_cons_zero, List.getD_cons_succ] at HS
          have hs2 : (1 : Int) ≤ 16 := by omega
          clear hs
          have hb : bits BinOp.and IntKind.u64 16 0 = 0 := by kernel_rfl
          go_wp2_with fail
          refine HS.out.mono ?_
          rintro e w2 ⟨rfl, B2⟩
          have hsz0 : (w.alloc (.cells #[.int .i64 0, .int .i64 0, .int .i64 0, .int .u64 0] 54)).heap.size = w.heap.size + 1 := by simp
          have HBX : Below (w.heap.size + 1) (w.alloc (.cells #[.int .i64 0, .int .i64 0, .int .i64 0, .int .u64 0] 54)) w2 := by have h1 := HB1.out; have h2 := B2; rw [hsz0] at h1; exact h1.trans (h2.mono (by have := h1.size; rw [hsz0] at this; exact this))
          have q0 : w2.cell? ⟨w.heap.size, 0, none⟩ = some (.int .i64 0) := (HBX.cell (p := ⟨w.heap.size, 0, none⟩) (Nat.lt_succ_self _)).trans (by rw [World.cell?_alloc_new]; rfl)
          have q1 : w2.cell? ⟨w.heap.size, 1, none⟩ = some (.int .i64 0) := (HBX.cell (p := ⟨w.heap.size, 1, none⟩) (Nat.lt_succ_self _)).trans (by rw [World.cell?_alloc_new]; rfl)
          have q2 : w2.cell? ⟨w.heap.size, 2, none⟩ = some (.int .i64 0) := (HBX.cell (p := ⟨w.heap.size, 2, none⟩) (Nat.lt_succ_self _)).trans (by rw [World.cell?_alloc_new]; rfl)
          have q3 : w2.cell? ⟨w.heap.size, 3, none⟩ = some (.int .u64 0) := (HBX.cell (p := ⟨w.heap.size, 3, none⟩) (Nat.lt_succ_self _)).trans (by rw [World.cell?_alloc_new]; rfl)
          have z0 : ∀ j, w2.frozen? ⟨w.heap.size, j, none⟩ = false := fun j => (World.frozen?_of_block (a := ⟨w.heap.size, j, none⟩) (HBX.block w.heap.size (Nat.lt_succ_self _))).trans (by simp)
          have y0 := z0 0
          have y1 := z0 1
          have y2 := z0 2
          have y3 := z0 3
          have HB2 : Hid (Below w.heap.size w w2) := ((Below.refl w.heap.size w).alloc (Nat.le_refl _) _).trans (HBX.mono (Nat.le_succ _))
          have HI : Hid (w.heap.size < w2.heap.size) := by have := HBX.size; rw [hsz0] at this; exact this
          clear B2 hsz0 HBX z0 HB1
          go_wp2_with fail
          refine bodyPost_ret (v := .tuple #[planV 0, .int .i64 0]) (by simp only [results, Tryz.results33, planV, sls, szs, List.getD_cons_zero, List.getD_cons_succ]; go_simp) rfl ?_
          refine ⟨0, by omega, ?_, ?_, rfl, ?_⟩
          · have := HM.out; simp only [szs, List.getD_cons_zero, List.getD_cons_succ]; omega
          · intro j hj; exact Nat.lt_of_lt_of_le (HK.out j hj) (by omega)
          · exact (((HB2.out.setCell (Nat.le_refl _) _).setCell (Nat.le_refl _) _).setCell (Nat.le_refl _) _).setCell (Nat.le_refl _) _
        · have HK2 : Hid (∀ j, j < 1 → szs.getD j 0 < 1) := fun j hj => by
            rcases Nat.lt_succ_iff_lt_or_eq.1 hj with h | rfl
            · exact HK.out j h
            · show 16 < 1; omega
          have hs2 : ¬ (1 : Int) ≤ 16 := by omega
          clear hs HK
          go_wp2_with fail
          go_round
          case rel => exact ⟨1, by omega, by go_num, HK2⟩
          case measure => simp [intOf]
      · have hx : ∀ w : World, (Instr.index 91 (.agg #[.int .u64 16, .int .u64 32, .int .u64 48, .int .u64 64, .int .u64 96, .int .u64 128, .int .u64 192, .int .u64 256, .int .u64 384, .int .u64 512, .int .u64 768, .int .u64 1024]) (.int .i64 1)).run Tryz.prog w = .ok (.int .u64 32) w := fun _ => by kernel_rfl
        by_cases hs : 1 ≤ 32
        · have HM := Lib.hid hs
          have HS := Lib.hid (HL.out w1 1 (by omega))
          simp only [sls, List.getD_cons_zero, List.getD_cons_succ] at HS
          have hs2 : (1 : Int) ≤ 32 := by omega
          clear hs
          have hb : bits BinOp.and IntKind.u64 32 0 = 0 := by kernel_rfl
          go_wp2_with fail
          refine HS.out.mono ?_
          rintro e w2 ⟨rfl, B2⟩
          have hsz0 : (w.alloc (.cells #[.int .i64 0, .int .i64 0, .int .i64 0, .int .u64 0] 54)).heap.size = w.heap.size + 1 := by simp
          have HBX : Below (w.heap.size + 1) (w.alloc (.cells #[.int .i64 0, .int .i64 0, .int .i64 0, .int .u64 0] 54)) w2 := by have h1 := HB1.out; have h2 := B2; rw [hsz0] at h1; exact h1.trans (h2.mono (by have := h1.size; rw [hsz0] at this; exact this))
          have q0 : w2.cell? ⟨w.heap.size, 0, none⟩ = some (.int .i64 0) := (HBX.cell (p := ⟨w.heap.size, 0, none⟩) (Nat.lt_succ_self _)).trans (by rw [World.cell?_alloc_new]; rfl)
          have q1 : w2.cell? ⟨w.heap.size, 1, none⟩ = some (.int .i64 0) := (HBX.cell (p := ⟨w.heap.size, 1, none⟩) (Nat.lt_succ_self _)).trans (by rw [World.cell?_alloc_new]; rfl)
          have q2 : w2.cell? ⟨w.heap.size, 2, none⟩ = some (.int .i64 0) := (HBX.cell (p := ⟨w.heap.size, 2, none⟩) (Nat.lt_succ_self _)).trans (by rw [World.cell?_alloc_new]; rfl)
          have q3 : w2.cell? ⟨w.heap.size, 3, none⟩ = some (.int .u64 0) := (HBX.cell (p := ⟨w.heap.size, 3, none⟩) (Nat.lt_succ_self _)).trans (by rw [World.cell?_alloc_new]; rfl)
          have z0 : ∀ j, w2.frozen? ⟨w.heap.size, j, none⟩ = false := fun j => (World.frozen?_of_block (a := ⟨w.heap.size, j, none⟩) (HBX.block w.heap.size (Nat.lt_succ_self _))).trans (by simp)
          have y0 := z0 0
          have y1 := z0 1
          have y2 := z0 2
          have y3 := z0 3
          have HB2 : Hid (Below w.heap.size w w2) := ((Below.refl w.heap.size w).alloc (Nat.le_refl _) _).trans (HBX.mono (Nat.le_succ _))
          have HI : Hid (w.heap.size < w2.heap.size) := by have := HBX.size; rw [hsz0] at this; exact this
          clear B2 hsz0 HBX z0 HB1
          go_wp2_with fail
          refine bodyPost_ret (v := .tuple #[planV 1, .int .i64 0]) (by simp only [results, Tryz.results33, planV, sls, szs, List.getD_cons_zero, List.getD_cons_succ]; go_simp) rfl ?_
          refine ⟨1, by omega, ?_, ?_, rfl, ?_⟩
          · have := HM.out; simp only [szs, List.getD_cons_zero, List.getD_cons_succ]; omega
          · intro j hj; exact Nat.lt_of_lt_of_le (HK.out j hj) (by omega)
          · exact (((HB2.out.setCell (Nat.le_refl _) _).setCell (Nat.le_refl _) _).setCell (Nat.le_refl _) _).setCell (Nat.le_refl _) _
        · have HK2 : Hid (∀ j, j < 2 → szs.getD j 0 < 1) := fun j hj => by
            rcases Nat.lt_succ_iff_lt_or_eq.1 hj with h | rfl
            · exact HK.out j h
            · show 32 < 1; omega
          have hs2 : ¬ (1 : Int) ≤ 32 := by omega
          clear hs HK
          go_wp2_with fail
          go_round
          case rel => exact ⟨2, by omega, by go_num, HK2⟩
          case measure => simp [intOf]
      · have hx : ∀ w : World, (Instr.index 91 (.agg #[.int .u64 16, .int .u64 32, .int .u64 48, .int .u64 64, .int .u64 96, .int .u64 128, .int .u64 192, .int .u64 256, .int .u64 384, .int .u64 512, .int .u64 768, .int .u64 1024]) (.int .i64 2)).run Tryz.prog w = .ok (.int .u64 48) w := fun _ => by kernel_rfl
        by_cases hs : 1 ≤ 48
        · have HM := Lib.hid hs
          have HS := Lib.hid (HL.out w1 2 (by omega))
          simp only [sls, List.getD_cons_zero, List.getD_cons_succ] at HS
          have hs2 : (1 : Int) ≤ 48 := by omega
          clear hs
          have hb : bits BinOp.and IntKind.u64 48 0 = 0 := by kernel_rfl
          go_wp2_with fail
          refine HS.out.mono ?_
          rintro e w2 ⟨rfl, B2⟩
          have hsz0 : (w.alloc (.cells #[.int .i64 0, .int .i64 0, .int .i64 0, .int .u64 0] 54)).heap.size = w.heap.size + 1 := by simp
          have HBX : Below (w.heap.size + 1) (w.alloc (.cells #[.int .i64 0, .int .i64 0, .int .i64 0, .int .u64 0] 54)) w2 := by have h1 := HB1.out; have h2 := B2; rw [hsz0] at h1; exact h1.trans (h2.mono (by have := h1.size; rw [hsz0] at this; exact this))
          have q0 : w2.cell? ⟨w.heap.size, 0, none⟩ = some (.int .i64 0) := (HBX.cell (p := ⟨w.heap.size, 0, none⟩) (Nat.lt_succ_self _)).trans (by rw [World.cell?_alloc_new]; rfl)
          have q1 : w2.cell? ⟨w.heap.size, 1, none⟩ = some (.int .i64 0) := (HBX.cell (p := ⟨w.heap.size, 1, none⟩) (Nat.lt_succ_self _)).trans (by rw [World.cell?_alloc_new]; rfl)
          have q2 : w2.cell? ⟨w.heap.size, 2, none⟩ = some (.int .i64 0) := (HBX.cell (p := ⟨w.heap.size, 2, none⟩) (Nat.lt_succ_self _)).trans (by rw [World.cell?_alloc_new]; rfl)
          have q3 : w2.cell? ⟨w.heap.size, 3, none⟩ = some (.int .u64 0) := (HBX.cell (p := ⟨w.heap.size, 3, none⟩) (Nat.lt_succ_self _)).trans (by rw [World.cell?_alloc_new]; rfl)
          have z0 : ∀ j, w2.frozen? ⟨w.heap.size, j, none⟩ = false := fun j => (World.frozen?_of_block (a := ⟨w.heap.size, j, none⟩) (HBX.block w.heap.size (Nat.lt_succ_self _))).trans (by simp)
          have y0 := z0 0
          have y1 := z0 1
          have y2 := z0 2
          have y3 := z0 3
          have HB2 : Hid (Below w.heap.size w w2) := ((Below.refl w.heap.size w).alloc (Nat.le_refl _) _).trans (HBX.mono (Nat.le_succ _))
          have HI : Hid (w.heap.size < w2.heap.size) := by have := HBX.size; rw [hsz0] at this; exact this
          clear B2 hsz0 HBX z0 HB1
          go_wp2_with fail
          refine bodyPost_ret (v := .tuple #[planV 2, .int .i64 0]) (by simp only [results, Tryz.results33, planV, sls, szs, List.getD_cons_zero, List.getD_cons_succ]; go_simp) rfl ?_
          refine ⟨2, by omega, ?_, ?_, rfl, ?_⟩
          · have := HM.out; simp only [szs, List.getD_cons_zero, List.getD_cons_succ]; omega
          · intro j hj; exact Nat.lt_of_lt_of_le (HK.out j hj) (by omega)
          · exact (((HB2.out.setCell (Nat.le_refl _) _).setCell (Nat.le_refl _) _).setCell (Nat.le_refl _) _).setCell (Nat.le_refl _) _
        · have HK2 : Hid (∀ j, j < 3 → szs.getD j 0 < 1) := fun j hj => by
            rcases Nat.lt_succ_iff_lt_or_eq.1 hj with h | rfl
            · exact HK.out j h
            · show 48 < 1; omega
          have hs2 : ¬ (1 : Int) ≤ 48 := by omega
          clear hs HK
          go_wp2_with fail
          go_round
          case rel => exact ⟨3, by omega, by go_num, HK2⟩
          case measure => simp [intOf]
      · have hx : ∀ w : World, (Instr.index 91 (.agg #[.int .u64 16, .int .u64 32, .int .u64 48, .int .u64 64, .int .u64 96, .int .u64 128, .int .u64 192, .int .u64 256, .int .u64 384, .int .u64 512, .int .u64 768, .int .u64 1024]) (.int .i64 3)).run Tryz.prog w = .ok (.int .u64 64) w := fun _ => by kernel_rfl
        by_cases hs : 1 ≤ 64
        · have HM := Lib.hid hs
          have HS := Lib.hid (HL.out w1 3 (by omega))
          simp only [sls, List.getD_cons_zero, List.getD_cons_succ] at HS
          have hs2 : (1 : Int) ≤ 64 := by omega
          clear hs
          have hb : bits BinOp.and IntKind.u64 64 0 = 0 := by kernel_rfl
          go_wp2_with fail
          refine HS.out.mono ?_
          rintro e w2 ⟨rfl, B2⟩
          have hsz0 : (w.alloc (.cells #[.int .i64 0, .int .i64 0, .int .i64 0, .int .u64 0] 54)).heap.size = w.heap.size + 1 := by simp
          have HBX : Below (w.heap.size + 1) (w.alloc (.cells #[.int .i64 0, .int .i64 0, .int .i64 0, .int .u64 0] 54)) w2 := by have h1 := HB1.out; have h2 := B2; rw [hsz0] at h1; exact h1.trans (h2.mono (by have := h1.size; rw [hsz0] at this; exact this))
          have q0 : w2.cell? ⟨w.heap.size, 0, none⟩ = some (.int .i64 0) := (HBX.cell (p := ⟨w.heap.size, 0, none⟩) (Nat.lt_succ_self _)).trans (by rw [World.cell?_alloc_new]; rfl)
          have q1 : w2.cell? ⟨w.heap.size, 1, none⟩ = some (.int .i64 0) := (HBX.cell (p := ⟨w.heap.size, 1, none⟩) (Nat.lt_succ_self _)).trans (by rw [World.cell?_alloc_new]; rfl)
          have q2 : w2.cell? ⟨w.heap.size, 2, none⟩ = some (.int .i64 0) := (HBX.cell (p := ⟨w.heap.size, 2, none⟩) (Nat.lt_succ_self _)).trans (by rw [World.cell?_alloc_new]; rfl)
          have q3 : w2.cell? ⟨w.heap.size, 3, none⟩ = some (.int .u64 0) := (HBX.cell (p := ⟨w.heap.size, 3, none⟩) (Nat.lt_succ_self _)).trans (by rw [World.cell?_alloc_new]; rfl)
          have z0 : ∀ j, w2.frozen? ⟨w.heap.size, j, none⟩ = false := fun j => (World.frozen?_of_block (a := ⟨w.heap.size, j, none⟩) (HBX.block w.heap.size (Nat.lt_succ_self _))).trans (by simp)
          have y0 := z0 0
          have y1 := z0 1
          have y2 := z0 2
          have y3 := z0 3
          have HB2 : Hid (Below w.heap.size w w2) := ((Below.refl w.heap.size w).alloc (Nat.le_refl _) _).trans (HBX.mono (Nat.le_succ _))
          have HI : Hid (w.heap.size < w2.heap.size) := by have := HBX.size; rw [hsz0] at this; exact this
          clear B2 hsz0 HBX z0 HB1
          go_wp2_with fail
          refine bodyPost_ret (v := .tuple #[planV 3, .int .i64 0]) (by simp only [results, Tryz.results33, planV, sls, szs, List.getD_cons_zero, List.getD_cons_succ]; go_simp) rfl ?_
          refine ⟨3, by omega, ?_, ?_, rfl, ?_⟩
          · have := HM.out; simp only [szs, List.getD_cons_zero, List.getD_cons_succ]; omega
          · intro j hj; exact Nat.lt_of_lt_of_le (HK.out j hj) (by omega)
          · exact (((HB2.out.setCell (Nat.le_refl _) _).setCell (Nat.le_refl _) _).setCell (Nat.le_refl _) _).setCell (Nat.le_refl _) _
        · have HK2 : Hid (∀ j, j < 4 → szs.getD j 0 < 1) := fun j hj => by
            rcases Nat.lt_succ_iff_lt_or_eq.1 hj with h | rfl
            · exact HK.out j h
            · show 64 < 1; omega
          have hs2 : ¬ (1 : Int) ≤ 64 := by omega
          clear hs HK
          go_wp2_with fail
          go_round
          case rel => exact ⟨4, by omega, by go_num, HK2⟩
          case measure => simp [intOf]
      · have hx : ∀ w : World, (Instr.index 91 (.agg #[.int .u64 16, .int .u64 32, .int .u64 48, .int .u64 64, .int .u64 96, .int .u64 128, .int .u64 192, .int .u64 256, .int .u64 384, .int .u64 512, .int .u64 768, .int .u64 1024]) (.int .i64 4)).run Tryz.prog w = .ok (.int .u64 96) w := fun _ => by kernel_rfl
        by_cases hs : 1 ≤ 96
        · have HM := Lib.hid hs
          have HS := Lib.hid (HL.out w1 4 (by omega))
          simp only [sls, List.getD_cons_zero, List.getD_cons_succ] at HS
          have hs2 : (1 : Int) ≤ 96 := by omega
          clear hs
          have hb : bits BinOp.and IntKind.u64 96 0 = 0 := by kernel_rfl
          go_wp2_with fail
          refine HS.out.mono ?_
          rintro e w2 ⟨rfl, B2⟩
          have hsz0 : (w.alloc (.cells #[.int .i64 0, .int .i64 0, .int .i64 0, .int .u64 0] 54)).heap.size = w.heap.size + 1 := by simp
          have HBX : Below (w.heap.size + 1) (w.alloc (.cells #[.int .i64 0, .int .i64 0, .int .i64 0, .int .u64 0] 54)) w2 := by have h1 := HB1.out; have h2 := B2; rw [hsz0] at h1; exact h1.trans (h2.mono (by have := h1.size; rw [hsz0] at this; exact this))
          have q0 : w2.cell? ⟨w.heap.size, 0, none⟩ = some (.int .i64 0) := (HBX.cell (p := ⟨w.heap.size, 0, none⟩) (Nat.lt_succ_self _)).trans (by rw [World.cell?_alloc_new]; rfl)
          have q1 : w2.cell? ⟨w.heap.size, 1, none⟩ = some (.int .i64 0) := (HBX.cell (p := ⟨w.heap.size, 1, none⟩) (Nat.lt_succ_self _)).trans (by rw [World.cell?_alloc_new]; rfl)
          have q2 : w2.cell? ⟨w.heap.size, 2, none⟩ = some (.int .i64 0) := (HBX.cell (p := ⟨w.heap.size, 2, none⟩) (Nat.lt_succ_self _)).trans (by rw [World.cell?_alloc_new]; rfl)
          have q3 : w2.cell? ⟨w.heap.size, 3, none⟩ = some (.int .u64 0) := (HBX.cell (p := ⟨w.heap.size, 3, none⟩) (Nat.lt_succ_self _)).trans (by rw [World.cell?_alloc_new]; rfl)
          have z0 : ∀ j, w2.frozen? ⟨w.heap.size, j, none⟩ = false := fun j => (World.frozen?_of_block (a := ⟨w.heap.size, j, none⟩) (HBX.block w.heap.size (Nat.lt_succ_self _))).trans (by simp)
          have y0 := z0 0
          have y1 := z0 1
          have y2 := z0 2
          have y3 := z0 3
          have HB2 : Hid (Below w.heap.size w w2) := ((Below.refl w.heap.size w).alloc (Nat.le_refl _) _).trans (HBX.mono (Nat.le_succ _))
          have HI : Hid (w.heap.size < w2.heap.size) := by have := HBX.size; rw [hsz0] at this; exact this
          clear B2 hsz0 HBX z0 HB1
          go_wp2_with fail
          refine bodyPost_ret (v := .tuple #[planV 4, .int .i64 0]) (by simp only [results, Tryz.results33, planV, sls, szs, List.getD_cons_zero, List.getD_cons_succ]; go_simp) rfl ?_
          refine ⟨4, by omega, ?_, ?_, rfl, ?_⟩
          · have := HM.out; simp only [szs, List.getD_cons_zero, List.getD_cons_succ]; omega
          · intro j hj; exact Nat.lt_of_lt_of_le (HK.out j hj) (by omega)
          · exact (((HB2.out.setCell (Nat.le_refl _) _).setCell (Nat.le_refl _) _).setCell (Nat.le_refl _) _).setCell (Nat.le_refl _) _
        · have HK2 : Hid (∀ j, j < 5 → szs.getD j 0 < 1) := fun j hj => by
            rcases Nat.lt_succ_iff_lt_or_eq.1 hj with h | rfl
            · exact HK.out j h
            · show 96 < 1; omega
          have hs2 : ¬ (1 : Int) ≤ 96 := by omega
          clear hs HK
          go_wp2_with fail
          go_round
          case rel => exact ⟨5, by omega, by go_num, HK2⟩
          case measure => simp [intOf]
      · have hx : ∀ w : World, (Instr.index 91 (.agg #[.int .u64 16, .int .u64 32, .int .u64 48, .int .u64 64, .int .u64 96, .int .u64 128, .int .u64 192, .int .u64 256, .int .u64 384, .int .u64 512, .int .u64 768, .int .u64 1024]) (.int .i64 5)).run Tryz.prog w = .ok (.int .u64 128) w := fun _ => by kernel_rfl
        by_cases hs : 1 ≤ 128
        · have HM := Lib.hid hs
          have HS := Lib.hid (HL.out w1 5 (by omega))
          simp only [sls, List.getD_cons_zero, List.getD_cons_succ] at HS
          have hs2 : (1 : Int) ≤ 128 := by omega
          clear hs
          have hb : bits BinOp.and IntKind.u64 128 0 = 0 := by kernel_rfl
          go_wp2_with fail
          refine HS.out.mono ?_
          rintro e w2 ⟨rfl, B2⟩
          have hsz0 : (w.alloc (.cells #[.int .i64 0, .int .i64 0, .int .i64 0, .int .u64 0] 54)).heap.size = w.heap.size + 1 := by simp
          have HBX : Below (w.heap.size + 1) (w.alloc (.cells #[.int .i64 0, .int .i64 0, .int .i64 0, .int .u64 0] 54)) w2 := by have h1 := HB1.out; have h2 := B2; rw [hsz0] at h1; exact h1.trans (h2.mono (by have := h1.size; rw [hsz0] at this; exact this))
          have q0 : w2.cell? ⟨w.heap.size, 0, none⟩ = some (.int .i64 0) := (HBX.cell (p := ⟨w.heap.size, 0, none⟩) (Nat.lt_succ_self _)).trans (by rw [World.cell?_alloc_new]; rfl)
          have q1 : w2.cell? ⟨w.heap.size, 1, none⟩ = some (.int .i64 0) := (HBX.cell (p := ⟨w.heap.size, 1, none⟩) (Nat.lt_succ_self _)).trans (by rw [World.cell?_alloc_new]; rfl)
          have q2 : w2.cell? ⟨w.heap.size, 2, none⟩ = some (.int .i64 0) := (HBX.cell (p := ⟨w.heap.size, 2, none⟩) (Nat.lt_succ_self _)).trans (by rw [World.cell?_alloc_new]; rfl)
          have q3 : w2.cell? ⟨w.heap.size, 3, none⟩ = some (.int .u64 0) := (HBX.cell (p := ⟨w.heap.size, 3, none⟩) (Nat.lt_succ_self _)).trans (by rw [World.cell?_alloc_new]; rfl)
          have z0 : ∀ j, w2.frozen? ⟨w.heap.size, j, none⟩ = false := fun j => (World.frozen?_of_block (a := ⟨w.heap.size, j, none⟩) (HBX.block w.heap.size (Nat.lt_succ_self _))).trans (by simp)
          have y0 := z0 0
          have y1 := z0 1
          have y2 := z0 2
          have y3 := z0 3
          have HB2 : Hid (Below w.heap.size w w2) := ((Below.refl w.heap.size w).alloc (Nat.le_refl _) _).trans (HBX.mono (Nat.le_succ _))
          have HI : Hid (w.heap.size < w2.heap.size) := by have := HBX.size; rw [hsz0] at this; exact this
          clear B2 hsz0 HBX z0 HB1
          go_wp2_with fail
          refine bodyPost_ret (v := .tuple #[planV 5, .int .i64 0]) (by simp only [results, Tryz.results33, planV, sls, szs, List.getD_cons_zero, List.getD_cons_succ]; go_simp) rfl ?_
          refine ⟨5, by omega, ?_, ?_, rfl, ?_⟩
          · have := HM.out; simp only [szs, List.getD_cons_zero, List.getD_cons_succ]; omega
          · intro j hj; exact Nat.lt_of_lt_of_le (HK.out j hj) (by omega)
          · exact (((HB2.out.setCell (Nat.le_refl _) _).setCell (Nat.le_refl _) _).setCell (Nat.le_refl _) _).setCell (Nat.le_refl _) _
        · have HK2 : Hid (∀ j, j < 6 → szs.getD j 0 < 1) := fun j hj => by
            rcases Nat.lt_succ_iff_lt_or_eq.1 hj with h | rfl
            · exact HK.out j h
            · show 128 < 1; omega
          have hs2 : ¬ (1 : Int) ≤ 128 := by omega
          clear hs HK
          go_wp2_with fail
          go_round
          case rel => exact ⟨6, by omega, by go_num, HK2⟩
          case measure => simp [intOf]
      · have hx : ∀ w : World, (Instr.index 91 (.agg #[.int .u64 16, .int .u64 32, .int .u64 48, .int .u64 64, .int .u64 96, .int .u64 128, .int .u64 192, .int .u64 256, .int .u64 384, .int .u64 512, .int .u64 768, .int .u64 1024]) (.int .i64 6)).run Tryz.prog w = .ok (.int .u64 192) w := fun _ => by kernel_rfl
        by_cases hs : 1 ≤ 192
        · have HM := Lib.hid hs
          have HS := Lib.hid (HL.out w1 6 (by omega))
          simp only [sls, List.getD_cons_zero, List.getD_cons_succ] at HS
          have hs2 : (1 : Int) ≤ 192 := by omega
          clear hs
          have hb : bits BinOp.and IntKind.u64 192 0 = 0 := by kernel_rfl
          go_wp2_with fail
          refine HS.out.mono ?_
          rintro e w2 ⟨rfl, B2⟩
          have hsz0 : (w.alloc (.cells #[.int .i64 0, .int .i64 0, .int .i64 0, .int .u64 0] 54)).heap.size = w.heap.size + 1 := by simp
          have HBX : Below (w.heap.size + 1) (w.alloc (.cells #[.int .i64 0, .int .i64 0, .int .i64 0, .int .u64 0] 54)) w2 := by have h1 := HB1.out; have h2 := B2; rw [hsz0] at h1; exact h1.trans (h2.mono (by have := h1.size; rw [hsz0] at this; exact this))
          have q0 : w2.cell? ⟨w.heap.size, 0, none⟩ = some (.int .i64 0) := (HBX.cell (p := ⟨w.heap.size, 0, none⟩) (Nat.lt_succ_self _)).trans (by rw [World.cell?_alloc_new]; rfl)
          have q1 : w2.cell? ⟨w.heap.size, 1, none⟩ = some (.int .i64 0) := (HBX.cell (p := ⟨w.heap.size, 1, none⟩) (Nat.lt_succ_self _)).trans (by rw [World.cell?_alloc_new]; rfl)
          have q2 : w2.cell? ⟨w.heap.size, 2, none⟩ = some (.int .i64 0) := (HBX.cell (p := ⟨w.heap.size, 2, none⟩) (Nat.lt_succ_self _)).trans (by rw [World.cell?_alloc_new]; rfl)
          have q3 : w2.cell? ⟨w.heap.size, 3, none⟩ = some (.int .u64 0) := (HBX.cell (p := ⟨w.heap.size, 3, none⟩) (Nat.lt_succ_self _)).trans (by rw [World.cell?_alloc_new]; rfl)
          have z0 : ∀ j, w2.frozen? ⟨w.heap.size, j, none⟩ = false := fun j => (World.frozen?_of_block (a := ⟨w.heap.size, j, none⟩) (HBX.block w.heap.size (Nat.lt_succ_self _))).trans (by simp)
          have y0 := z0 0
          have y1 := z0 1
          have y2 := z0 2
          have y3 := z0 3
          have HB2 : Hid (Below w.heap.size w w2) := ((Below.refl w.heap.size w).alloc (Nat.le_refl _) _).trans (HBX.mono (Nat.le_succ _))
          have HI : Hid (w.heap.size < w2.heap.size) := by have := HBX.size; rw [hsz0] at this; exact this
          clear B2 hsz0 HBX z0 HB1
          go_wp2_with fail
          refine bodyPost_ret (v := .tuple #[planV 6, .int .i64 0]) (by simp only [results, Tryz.results33, planV, sls, szs, List.getD_cons_zero, List.getD_cons_succ]; go_simp) rfl ?_
          refine ⟨6, by omega, ?_, ?_, rfl, ?_⟩
          · have := HM.out; simp only [szs, List.getD_cons_zero, List.getD_cons_succ]; omega
          · intro j hj; exact Nat.lt_of_lt_of_le (HK.out j hj) (by omega)
          · exact (((HB2.out.setCell (Nat.le_refl _) _).setCell (Nat.le_refl _) _).setCell (Nat.le_refl _) _).setCell (Nat.le_refl _) _
        · have HK2 : Hid (∀ j, j < 7 → szs.getD j 0 < 1) := fun j hj => by
            rcases Nat.lt_succ_iff_lt_or_eq.1 hj with h | rfl
            · exact HK.out j h
            · show 192 < 1; omega
          have hs2 : ¬ (1 : Int) ≤ 192 := by omega
          clear hs HK
          go_wp2_with fail
          go_round
          case rel => exact ⟨7, by omega, by go_num, HK2⟩
          case measure => simp [intOf]
      · have hx : ∀ w : World, (Instr.index 91 (.agg #[.int .u64 16, .int .u64 32, .int .u64 48, .int .u64 64, .int .u64 96, .int .u64 128, .int .u64 192, .int .u64 256, .int .u64 384, .int .u64 512, .int .u64 768, .int .u64 1024]) (.int .i64 7)).run Tryz.prog w = .ok (.int .u64 256) w := fun _ => by kernel_rfl
        by_cases hs : 1 ≤ 256
        · have HM := Lib.hid hs
          have HS := Lib.hid (HL.out w1 7 (by omega))
          simp only [sls, List.getD_cons_zero, List.getD_cons_succ] at HS
          have hs2 : (1 : Int) ≤ 256 := by omega
          clear hs
          have hb : bits BinOp.and IntKind.u64 256 0 = 0 := by kernel_rfl
          go_wp2_with fail
          refine HS.out.mono ?_
          rintro e w2 ⟨rfl, B2⟩
          have hsz0 : (w.alloc (.cells #[.int .i64 0, .int .i64 0, .int .i64 0, .int .u64 0] 54)).heap.size = w.heap.size + 1 := by simp
          have HBX : Below (w.heap.size + 1) (w.alloc (.cells #[.int .i64 0, .int .i64 0, .int .i64 0, .int .u64 0] 54)) w2 := by have h1 := HB1.out; have h2 := B2; rw [hsz0] at h1; exact h1.trans (h2.mono (by have := h1.size; rw [hsz0] at this; exact this))
          have q0 : w2.cell? ⟨w.heap.size, 0, none⟩ = some (.int .i64 0) := (HBX.cell (p := ⟨w.heap.size, 0, none⟩) (Nat.lt_succ_self _)).trans (by rw [World.cell?_alloc_new]; rfl)
          have q1 : w2.cell? ⟨w.heap.size, 1, none⟩ = some (.int .i64 0) := (HBX.cell (p := ⟨w.heap.size, 1, none⟩) (Nat.lt_succ_self _)).trans (by rw [World.cell?_alloc_new]; rfl)
          have q2 : w2.cell? ⟨w.heap.size, 2, none⟩ = some (.int .i64 0) := (HBX.cell (p := ⟨w.heap.size, 2, none⟩) (Nat.lt_succ_self _)).trans (by rw [World.cell?_alloc_new]; rfl)
          have q3 : w2.cell? ⟨w.heap.size, 3, none⟩ = some (.int .u64 0) := (HBX.cell (p := ⟨w.heap.size, 3, none⟩) (Nat.lt_succ_self _)).trans (by rw [World.cell?_alloc_new]; rfl)
          have z0 : ∀ j, w2.frozen? ⟨w.heap.size, j, none⟩ = false := fun j => (World.frozen?_of_block (a := ⟨w.heap.size, j, none⟩) (HBX.block w.heap.size (Nat.lt_succ_self _))).trans (by simp)
          have y0 := z0 0
          have y1 := z0 1
          have y2 := z0 2
          have y3 := z0 3
          have HB2 : Hid (Below w.heap.size w w2) := ((Below.refl w.heap.size w).alloc (Nat.le_refl _) _).trans (HBX.mono (Nat.le_succ _))
          have HI : Hid (w.heap.size < w2.heap.size) := by have := HBX.size; rw [hsz0] at this; exact this
          clear B2 hsz0 HBX z0 HB1
          go_wp2_with fail
          refine bodyPost_ret (v := .tuple #[planV 7, .int .i64 0]) (by simp only [results, Tryz.results33, planV, sls, szs, List.getD_cons_zero, List.getD_cons_succ]; go_simp) rfl ?_
          refine ⟨7, by omega, ?_, ?_, rfl, ?_⟩
          · have := HM.out; simp only [szs, List.getD_cons_zero, List.getD_cons_succ]; omega
          · intro j hj; exact Nat.lt_of_lt_of_le (HK.out j hj) (by omega)
          · exact (((HB2.out.setCell (Nat.le_refl _) _).setCell (Nat.le_refl _) _).setCell (Nat.le_refl _) _).setCell (Nat.le_refl _) _
        · have HK2 : Hid (∀ j, j < 8 → szs.getD j 0 < 1) := fun j hj => by
            rcases Nat.lt_succ_iff_lt_or_eq.1 hj with h | rfl
            · exact HK.out j h
            · show 256 < 1; omega
          have hs2 : ¬ (1 : Int) ≤ 256 := by omega
          clear hs HK
          go_wp2_with fail
          go_round
          case rel => exact ⟨8, by omega, by go_num, HK2⟩
          case measure => simp [intOf]
      · have hx : ∀ w : World, (Instr.index 91 (.agg #[.int .u64 16, .int .u64 32, .int .u64 48, .int .u64 64, .int .u64 96, .int .u64 128, .int .u64 192, .int .u64 256, .int .u64 384, .int .u64 512, .int .u64 768, .int .u64 1024]) (.int .i64 8)).run Tryz.prog w = .ok (.int .u64 384) w := fun _ => by kernel_rfl
        by_cases hs : 1 ≤ 384
        · have HM := Lib.hid hs
          have HS := Lib.hid (HL.out w1 8 (by omega))
          simp only [sls, List.getD_cons_zero, List.getD_cons_succ] at HS
          have hs2 : (1 : Int) ≤ 384 := by omega
          clear hs
          have hb : bits BinOp.and IntKind.u64 384 0 = 0 := by kernel_rfl
          go_wp2_with fail
          refine HS.out.mono ?_
          rintro e w2 ⟨rfl, B2⟩
          have hsz0 : (w.alloc (.cells #[.int .i64 0, .int .i64 0, .int .i64 0, .int .u64 0] 54)).heap.size = w.heap.size + 1 := by simp
          have HBX : Below (w.heap.size + 1) (w.alloc (.cells #[.int .i64 0, .int .i64 0, .int .i64 0, .int .u64 0] 54)) w2 := by have h1 := HB1.out; have h2 := B2; rw [hsz0] at h1; exact h1.trans (h2.mono (by have := h1.size; rw [hsz0] at this; exact this))
          have q0 : w2.cell? ⟨w.heap.size, 0, none⟩ = some (.int .i64 0) := (HBX.cell (p := ⟨w.heap.size, 0, none⟩) (Nat.lt_succ_self _)).trans (by rw [World.cell?_alloc_new]; rfl)
          have q1 : w2.cell? ⟨w.heap.size, 1, none⟩ = some (.int .i64 0) := (HBX.cell (p := ⟨w.heap.size, 1, none⟩) (Nat.lt_succ_self _)).trans (by rw [World.cell?_alloc_new]; rfl)
          have q2 : w2.cell? ⟨w.heap.size, 2, none⟩ = some (.int .i64 0) := (HBX.cell (p := ⟨w.heap.size, 2, none⟩) (Nat.lt_succ_self _)).trans (by rw [World.cell?_alloc_new]; rfl)
          have q3 : w2.cell? ⟨w.heap.size, 3, none⟩ = some (.int .u64 0) := (HBX.cell (p := ⟨w.heap.size, 3, none⟩) (Nat.lt_succ_self _)).trans (by rw [World.cell?_alloc_new]; rfl)
          have z0 : ∀ j, w2.frozen? ⟨w.heap.size, j, none⟩ = false := fun j => (World.frozen?_of_block (a := ⟨w.heap.size, j, none⟩) (HBX.block w.heap.size (Nat.lt_succ_self _))).trans (by simp)
          have y0 := z0 0
          have y1 := z0 1
          have y2 := z0 2
          have y3 := z0 3
          have HB2 : Hid (Below w.heap.size w w2) := ((Below.refl w.heap.size w).alloc (Nat.le_refl _) _).trans (HBX.mono (Nat.le_succ _))
          have HI : Hid (w.heap.size < w2.heap.size) := by have := HBX.size; rw [hsz0] at this; exact this
          clear B2 hsz0 HBX z0 HB1
          go_wp2_with fail
          refine bodyPost_ret (v := .tuple #[planV 8, .int .i64 0]) (by simp only [results, Tryz.results33, planV, sls, szs, List.getD_cons_zero, List.getD_cons_succ]; go_simp) rfl ?_
          refine ⟨8, by omega, ?_, ?_, rfl, ?_⟩
          · have := HM.out; simp only [szs, List.getD_cons_zero, List.getD_cons_succ]; omega
          · intro j hj; exact Nat.lt_of_lt_of_le (HK.out j hj) (by omega)
          · exact (((HB2.out.setCell (Nat.le_refl _) _).setCell (Nat.le_refl _) _).setCell (Nat.le_refl _) _).setCell (Nat.le_refl _) _
        · have HK2 : Hid (∀ j, j < 9 → szs.getD j 0 < 1) := fun j hj => by
            rcases Nat.lt_succ_iff_lt_or_eq.1 hj with h | rfl
            · exact HK.out j h
            · show 384 < 1; omega
          have hs2 : ¬ (1 : Int) ≤ 384 := by omega
          clear hs HK
          go_wp2_with fail
          go_round
          case rel => exact ⟨9, by omega, by go_num, HK2⟩
          case measure => simp [intOf]
      · have hx : ∀ w : World, (Instr.index 91 (.agg #[.int .u64 16, .int .u64 32, .int .u64 48, .int .u64 64, .int .u64 96, .int .u64 128, .int .u64 192, .int .u64 256, .int .u64 384, .int .u64 512, .int .u64 768, .int .u64 1024]) (.int .i64 9)).run Tryz.prog w = .ok (.int .u64 512) w := fun _ => by kernel_rfl
        by_cases hs : 1 ≤ 512
        · have HM := Lib.hid hs
          have HS := Lib.hid (HL.out w1 9 (by omega))
          simp only [sls, List.getD_cons_zero, List.getD_cons_succ] at HS
          have hs2 : (1 : Int) ≤ 512 := by omega
          clear hs
          have hb : bits BinOp.and IntKind.u64 512 0 = 0 := by kernel_rfl
          go_wp2_with fail
          refine HS.out.mono ?_
          rintro e w2 ⟨rfl, B2⟩
          have hsz0 : (w.alloc (.cells #[.int .i64 0, .int .i64 0, .int .i64 0, .int .u64 0] 54)).heap.size = w.heap.size + 1 := by simp
          have HBX : Below (w.heap.size + 1) (w.alloc (.cells #[.int .i64 0, .int .i64 0, .int .i64 0, .int .u64 0] 54)) w2 := by have h1 := HB1.out; have h2 := B2; rw [hsz0] at h1; exact h1.trans (h2.mono (by have := h1.size; rw [hsz0] at this; exact this))
          have q0 : w2.cell? ⟨w.heap.size, 0, none⟩ = some (.int .i64 0) := (HBX.cell (p := ⟨w.heap.size, 0, none⟩) (Nat.lt_succ_self _)).trans (by rw [World.cell?_alloc_new]; rfl)
          have q1 : w2.cell? ⟨w.heap.size, 1, none⟩ = some (.int .i64 0) := (HBX.cell (p := ⟨w.heap.size, 1, none⟩) (Nat.lt_succ_self _)).trans (by rw [World.cell?_alloc_new]; rfl)
          have q2 : w2.cell? ⟨w.heap.size, 2, none⟩ = some (.int .i64 0) := (HBX.cell (p := ⟨w.heap.size, 2, none⟩) (Nat.lt_succ_self _)).trans (by rw [World.cell?_alloc_new]; rfl)
          have q3 : w2.cell? ⟨w.heap.size, 3, none⟩ = some (.int .u64 0) := (HBX.cell (p := ⟨w.heap.size, 3, none⟩) (Nat.lt_succ_self _)).trans (by rw [World.cell?_alloc_new]; rfl)
          have z0 : ∀ j, w2.frozen? ⟨w.heap.size, j, none⟩ = false := fun j => (World.frozen?_of_block (a := ⟨w.heap.size, j, none⟩) (HBX.block w.heap.size (Nat.lt_succ_self _))).trans (by simp)
          have y0 := z0 0
          have y1 := z0 1
          have y2 := z0 2
          have y3 := z0 3
          have HB2 : Hid (Below w.heap.size w w2) := ((Below.refl w.heap.size w).alloc (Nat.le_refl _) _).trans (HBX.mono (Nat.le_succ _))
          have HI : Hid (w.heap.size < w2.heap.size) := by have := HBX.size; rw [hsz0] at this; exact this
          clear B2 hsz0 HBX z0 HB1
          go_wp2_with fail
          refine bodyPost_ret (v := .tuple #[planV 9, .int .i64 0]) (by simp only [results, Tryz.results33, planV, sls, szs, List.getD_cons_zero, List.getD_cons_succ]; go_simp) rfl ?_
          refine ⟨9, by omega, ?_, ?_, rfl, ?_⟩
          · have := HM.out; simp only [szs, List.getD_cons_zero, List.getD_cons_succ]; omega
          · intro j hj; exact Nat.lt_of_lt_of_le (HK.out j hj) (by omega)
          · exact (((HB2.out.setCell (Nat.le_refl _) _).setCell (Nat.le_refl _) _).setCell (Nat.le_refl _) _).setCell (Nat.le_refl _) _
        · have HK2 : Hid (∀ j, j < 10 → szs.getD j 0 < 1) := fun j hj => by
            rcases Nat.lt_succ_iff_lt_or_eq.1 hj with h | rfl
            · exact HK.out j h
            · show 512 < 1; omega
          have hs2 : ¬ (1 : Int) ≤ 512 := by omega
          clear hs HK
          go_wp2_with fail
          go_round
          case rel => exact ⟨10, by omega, by go_num, HK2⟩
          case measure => simp [intOf]
      · have hx : ∀ w : World, (Instr.index 91 (.agg #[.int .u64 16, .int .u64 32, .int .u64 48, .int .u64 64, .int .u64 96, .int .u64 128, .int .u64 192, .int .u64 256, .int .u64 384, .int .u64 512, .int .u64 768, .int .u64 1024]) (.int .i64 10)).run Tryz.prog w = .ok (.int .u64 768) w := fun _ => by kernel_rfl
        by_cases hs : 1 ≤ 768
        · have HM := Lib.hid hs
          have HS := Lib.hid (HL.out w1 10 (by omega))
          simp only [sls, List.getD_cons_zero, List.getD_cons_succ] at HS
          have hs2 : (1 : Int) ≤ 768 := by omega
          clear hs
          have hb : bits BinOp.and IntKind.u64 768 0 = 0 := by kernel_rfl
          go_wp2_with fail
          refine HS.out.mono ?_
          rintro e w2 ⟨rfl, B2⟩
          have hsz0 : (w.alloc (.cells #[.int .i64 0, .int .i64 0, .int .i64 0, .int .u64 0] 54)).heap.size = w.heap.size + 1 := by simp
          have HBX : Below (w.heap.size + 1) (w.alloc (.cells #[.int .i64 0, .int .i64 0, .int .i64 0, .int .u64 0] 54)) w2 := by have h1 := HB1.out; have h2 := B2; rw [hsz0] at h1; exact h1.trans (h2.mono (by have := h1.size; rw [hsz0] at this; exact this))
          have q0 : w2.cell? ⟨w.heap.size, 0, none⟩ = some (.int .i64 0) := (HBX.cell (p := ⟨w.heap.size, 0, none⟩) (Nat.lt_succ_self _)).trans (by rw [World.cell?_alloc_new]; rfl)
          have q1 : w2.cell? ⟨w.heap.size, 1, none⟩ = some (.int .i64 0) := (HBX.cell (p := ⟨w.heap.size, 1, none⟩) (Nat.lt_succ_self _)).trans (by rw [World.cell?_alloc_new]; rfl)
          have q2 : w2.cell? ⟨w.heap.size, 2, none⟩ = some (.int .i64 0) := (HBX.cell (p := ⟨w.heap.size, 2, none⟩) (Nat.lt_succ_self _)).trans (by rw [World.cell?_alloc_new]; rfl)
          have q3 : w2.cell? ⟨w.heap.size, 3, none⟩ = some (.int .u64 0) := (HBX.cell (p := ⟨w.heap.size, 3, none⟩) (Nat.lt_succ_self _)).trans (by rw [World.cell?_alloc_new]; rfl)
          have z0 : ∀ j, w2.frozen? ⟨w.heap.size, j, none⟩ = false := fun j => (World.frozen?_of_block (a := ⟨w.heap.size, j, none⟩) (HBX.block w.heap.size (Nat.lt_succ_self _))).trans (by simp)
          have y0 := z0 0
          have y1 := z0 1
          have y2 := z0 2
          have y3 := z0 3
          have HB2 : Hid (Below w.heap.size w w2) := ((Below.refl w.heap.size w).alloc (Nat.le_refl _) _).trans (HBX.mono (Nat.le_succ _))
          have HI : Hid (w.heap.size < w2.heap.size) := by have := HBX.size; rw [hsz0] at this; exact this
          clear B2 hsz0 HBX z0 HB1
          go_wp2_with fail
          refine bodyPost_ret (v := .tuple #[planV 10, .int .i64 0]) (by simp only [results, Tryz.results33, planV, sls, szs, List.getD_cons_zero, List.getD_cons_succ]; go_simp) rfl ?_
          refine ⟨10, by omega, ?_, ?_, rfl, ?_⟩
          · have := HM.out; simp only [szs, List.getD_cons_zero, List.getD_cons_succ]; omega
          · intro j hj; exact Nat.lt_of_lt_of_le (HK.out j hj) (by omega)
          · exact (((HB2.out.setCell (Nat.le_refl _) _).setCell (Nat.le_refl _) _).setCell (Nat.le_refl _) _).setCell (Nat.le_refl _) _
        · have HK2 : Hid (∀ j, j < 11 → szs.getD j 0 < 1) := fun j hj => by
            rcases Nat.lt_succ_iff_lt_or_eq.1 hj with h | rfl
            · exact HK.out j h
            · show 768 < 1; omega
          have hs2 : ¬ (1 : Int) ≤ 768 := by omega
          clear hs HK
          go_wp2_with fail
          go_round
          case rel => exact ⟨11, by omega, by go_num, HK2⟩
          case measure => simp [intOf]
      · have hx : ∀ w : World, (Instr.index 91 (.agg #[.int .u64 16, .int .u64 32, .int .u64 48, .int .u64 64, .int .u64 96, .int .u64 128, .int .u64 192, .int .u64 256, .int .u64 384, .int .u64 512, .int .u64 768, .int .u64 1024]) (.int .i64 11)).run Tryz.prog w = .ok (.int .u64 1024) w := fun _ => by kernel_rfl
        by_cases hs : 1 ≤ 1024
        · have HM := Lib.hid hs
          have HS := Lib.hid (HL.out w1 11 (by omega))
          simp only [sls, List.getD_cons_zero, List.getD_cons_succ] at HS
          have hs2 : (1 : Int) ≤ 1024 := by omega
          clear hs
          have hb : bits BinOp.and IntKind.u64 1024 0 = 0 := by kernel_rfl
          go_wp2_with fail
          refine HS.out.mono ?_
          rintro e w2 ⟨rfl, B2⟩
          have hsz0 : (w.alloc (.cells #[.int .i64 0, .int .i64 0, .int .i64 0, .int .u64 0] 54)).heap.size = w.heap.size + 1 := by simp
          have HBX : Below (w.heap.size + 1) (w.alloc (.cells #[.int .i64 0, .int .i64 0, .int .i64 0, .int .u64 0] 54)) w2 := by have h1 := HB1.out; have h2 := B2; rw [hsz0] at h1; exact h1.trans (h2.mono (by have := h1.size; rw [hsz0] at this; exact this))
          have q0 : w2.cell? ⟨w.heap.size, 0, none⟩ = some (.int .i64 0) := (HBX.cell (p := ⟨w.heap.size, 0, none⟩) (Nat.lt_succ_self _)).trans (by rw [World.cell?_alloc_new]; rfl)
          have q1 : w2.cell? ⟨w.heap.size, 1, none⟩ = some (.int .i64 0) := (HBX.cell (p := ⟨w.heap.size, 1, none⟩) (Nat.lt_succ_self _)).trans (by rw [World.cell?_alloc_new]; rfl)
          have q2 : w2.cell? ⟨w.heap.size, 2, none⟩ = some (.int .i64 0) := (HBX.cell (p := ⟨w.heap.size, 2, none⟩) (Nat.lt_succ_self _)).trans (by rw [World.cell?_alloc_new]; rfl)
          have q3 : w2.cell? ⟨w.heap.size, 3, none⟩ = some (.int .u64 0) := (HBX.cell (p := ⟨w.heap.size, 3, none⟩) (Nat.lt_succ_self _)).trans (by rw [World.cell?_alloc_new]; rfl)
          have z0 : ∀ j, w2.frozen? ⟨w.heap.size, j, none⟩ = false := fun j => (World.frozen?_of_block (a := ⟨w.heap.size, j, none⟩) (HBX.block w.heap.size (Nat.lt_succ_self _))).trans (by simp)
          have y0 := z0 0
          have y1 := z0 1
          have y2 := z0 2
          have y3 := z0 3
          have HB2 : Hid (Below w.heap.size w w2) := ((Below.refl w.heap.size w).alloc (Nat.le_refl _) _).trans (HBX.mono (Nat.le_succ _))
          have HI : Hid (w.heap.size < w2.heap.size) := by have := HBX.size; rw [hsz0] at this; exact this
          clear B2 hsz0 HBX z0 HB1
          go_wp2_with fail
          refine bodyPost_ret (v := .tuple #[planV 11, .int .i64 0]) (by simp only [results, Tryz.results33, planV, sls, szs, List.getD_cons_zero, List.getD_cons_succ]; go_simp) rfl ?_
          refine ⟨11, by omega, ?_, ?_, rfl, ?_⟩
          · have := HM.out; simp only [szs, List.getD_cons_zero, List.getD_cons_succ]; omega
          · intro j hj; exact Nat.lt_of_lt_of_le (HK.out j hj) (by omega)
          · exact (((HB2.out.setCell (Nat.le_refl _) _).setCell (Nat.le_refl _) _).setCell (Nat.le_refl _) _).setCell (Nat.le_refl _) _
        · exact absurd hs (by omega)
  · have hp2 : (1 : Int) ≤ n := by omega
    go_enter Tryz.func33, Tryz.ntmps33
    go_wp2_with fail
    (with_reducible refine (pow2_one _).mono ?_)
    rintro e w1 ⟨rfl, rfl⟩
    go_wp2_with fail
    (with_reducible refine (sizes_ok _).mono ?_)
    rintro e w1 ⟨rfl, B1⟩
    have HB1 := Lib.hid B1
    clear B1
    unfold szV
    go_wp2_with fail
    go_loop [25] (fun i => ∃ k : Nat, k < 12 ∧ i = .int .i64 k ∧ Hid (∀ j, j < k → szs.getD j 0 < n)) (fun i => 12 - (intOf i).toNat)
    case atStart => exact ⟨0, by omega, rfl, fun j hj => by omega⟩
    case round =>
      obtain ⟨k, hk, rfl, HK⟩ := hrel
      rcases (show k = 0 ∨ k = 1 ∨ k = 2 ∨ k = 3 ∨ k = 4 ∨ k = 5 ∨ k = 6 ∨ k = 7 ∨ k = 8 ∨ k = 9 ∨ k = 10 ∨ k = 11 by omega) with rfl | rfl | rfl | rfl | rfl | rfl | rfl | rfl | rfl | rfl | rfl | rfl
      · have hx : ∀ w : World, (Instr.index 91 (.agg #[.int .u64 16, .int .u64 32, .int .u64 48, .int .u64 64, .int .u64 96, .int .u64 128, .int .u64 192, .int .u64 256, .int .u64 384, .int .u64 512, .int .u64 768, .int .u64 1024]) (.int .i64 0)).run Tryz.prog w = .ok (.int .u64 16) w := fun _ => by kernel_rfl
        by_cases hs : n ≤ 16
        · have HM := Lib.hid hs
          have HS := Lib.hid (HL.out w1 0 (by omega))
          simp only [sls, List.getD_cons_zero, List.getD_cons_succ] at HS
          have hs2 : (n : Int) ≤ 16 := by omega
          clear hs
          have hb : bits BinOp.and IntKind.u64 16 0 = 0 := by kernel_rfl
          go_wp2_with fail
          refine HS.out.mono ?_
          rintro e w2 ⟨rfl, B2⟩
          have hsz0 : (w.alloc (.cells #[.int .i64 0, .int .i64 0, .int .i64 0, .int .u64 0] 54)).heap.size = w.heap.size + 1 := by simp
          have HBX : Below (w.heap.size + 1) (w.alloc (.cells #[.int .i64 0, .int .i64 0, .int .i64 0, .int .u64 0] 54)) w2 := by have h1 := HB1.out; have h2 := B2; rw [hsz0] at h1; exact h1.trans (h2.mono (by have := h1.size; rw [hsz0] at this; exact this))
          have q0 : w2.cell? ⟨w.heap.size, 0, none⟩ = some (.int .i64 0) := (HBX.cell (p := ⟨w.heap.size, 0, none⟩) (Nat.lt_succ_self _)).trans (by rw [World.cell?_alloc_new]; rfl)
          have q1 : w2.cell? ⟨w.heap.size, 1, none⟩ = some (.int .i64 0) := (HBX.cell (p := ⟨w.heap.size, 1, none⟩) (Nat.lt_succ_self _)).trans (by rw [World.cell?_alloc_new]; rfl)
          have q2 : w2.cell? ⟨w.heap.size, 2, none⟩ = some (.int .i64 0) := (HBX.cell (p := ⟨w.heap.size, 2, none⟩) (Nat.lt_succ_self _)).trans (by rw [World.cell?_alloc_new]; rfl)
          have q3 : w2.cell? ⟨w.heap.size, 3, none⟩ = some (.int .u64 0) := (HBX.cell (p := ⟨w.heap.size, 3, none⟩) (Nat.lt_succ_self _)).trans (by rw [World.cell?_alloc_new]; rfl)
          have z0 : ∀ j, w2.frozen? ⟨w.heap.size, j, none⟩ = false := fun j => (World.frozen?_of_block (a := ⟨w.heap.size, j, none⟩) (HBX.block w.heap.size (Nat.lt_succ_self _))).trans (by simp)
          have y0 := z0 0
          have y1 := z0 1
          have y2 := z0 2
          have y3 := z0 3
          have HB2 : Hid (Below w.heap.size w w2) := ((Below.refl w.heap.size w).alloc (Nat.le_refl _) _).trans (HBX.mono (Nat.le_succ _))
          have HI : Hid (w.heap.size < w2.heap.size) := by have := HBX.size; rw [hsz0] at this; exact this
          clear B2 hsz0 HBX z0 HB1
          go_wp2_with fail
          refine bodyPost_ret (v := .tuple #[planV 0, .int .i64 0]) (by simp only [results, Tryz.results33, planV, sls, szs, List.getD_cons_zero, List.getD_cons_succ]; go_simp) rfl ?_
          refine ⟨0, by omega, ?_, ?_, rfl, ?_⟩
          · have := HM.out; simp only [szs, List.getD_cons_zero, List.getD_cons_succ]; omega
          · intro j hj; exact Nat.lt_of_lt_of_le (HK.out j hj) (by omega)
          · exact (((HB2.out.setCell (Nat.le_refl _) _).setCell (Nat.le_refl _) _).setCell (Nat.le_refl _) _).setCell (Nat.le_refl _) _
        · have HK2 : Hid (∀ j, j < 1 → szs.getD j 0 < n) := fun j hj => by
            rcases Nat.lt_succ_iff_lt_or_eq.1 hj with h | rfl
            · exact HK.out j h
            · show 16 < n; omega
          have hs2 : ¬ (n : Int) ≤ 16 := by omega
          clear hs HK
          go_wp2_with fail
          go_round
          case rel => exact ⟨1, by omega, by go_num, HK2⟩
          case measure => simp [intOf]
      · have hx : ∀ w : World, (Instr.index 91 (.agg #[.int .u64 16, .int .u64 32, .int .u64 48, .int .u64 64, .int .u64 96, .int .u64 128, .int .u64 192, .int .u64 256, .int .u64 384, .int .u64 512, .int .u64 768, .int .u64 1024]) (.int .i64 1)).run Tryz.prog w = .ok (.int .u64 32) w := fun _ => by kernel_rfl
        by_cases hs : n ≤ 32
        · have HM := Lib.hid hs
          have HS := Lib.hid (HL.out w1 1 (by omega))
          simp only [sls, List.getD_cons_zero, List.getD_cons_succ] at HS
          have hs2 : (n : Int) ≤ 32 := by omega
          clear hs
          have hb : bits BinOp.and IntKind.u64 32 0 = 0 := by kernel_rfl
          go_wp2_with fail
          refine HS.out.mono ?_
          rintro e w2 ⟨rfl, B2⟩
          have hsz0 : (w.alloc (.cells #[.int .i64 0, .int .i64 0, .int .i64 0, .int .u64 0] 54)).heap.size = w.heap.size + 1 := by simp
          have HBX : Below (w.heap.size + 1) (w.alloc (.cells #[.int .i64 0, .int .i64 0, .int .i64 0, .int .u64 0] 54)) w2 := by have h1 := HB1.out; have h2 := B2; rw [hsz0] at h1; exact h1.trans (h2.mono (by have := h1.size; rw [hsz0] at this; exact this))
          have q0 : w2.cell? ⟨w.heap.size, 0, none⟩ = some (.int .i64 0) := (HBX.cell (p := ⟨w.heap.size, 0, none⟩) (Nat.lt_succ_self _)).trans (by rw [World.cell?_alloc_new]; rfl)
          have q1 : w2.cell? ⟨w.heap.size, 1, none⟩ = some (.int .i64 0) := (HBX.cell (p := ⟨w.heap.size, 1, none⟩) (Nat.lt_succ_self _)).trans (by rw [World.cell?_alloc_new]; rfl)
          have q2 : w2.cell? ⟨w.heap.size, 2, none⟩ = some (.int .i64 0) := (HBX.cell (p := ⟨w.heap.size, 2, none⟩) (Nat.lt_succ_self _)).trans (by rw [World.cell?_alloc_new]; rfl)
          have q3 : w2.cell? ⟨w.heap.size, 3, none⟩ = some (.int .u64 0) := (HBX.cell (p := ⟨w.heap.size, 3, none⟩) (Nat.lt_succ_self _)).trans (by rw [World.cell?_alloc_new]; rfl)
          have z0 : ∀ j, w2.frozen? ⟨w.heap.size, j, none⟩ = false := fun j => (World.frozen?_of_block (a := ⟨w.heap.size, j, none⟩) (HBX.block w.heap.size (Nat.lt_succ_self _))).trans (by simp)
          have y0 := z0 0
          have y1 := z0 1
          have y2 := z0 2
          have y3 := z0 3
          have HB2 : Hid (Below w.heap.size w w2) := ((Below.refl w.heap.size w).alloc (Nat.le_refl _) _).trans (HBX.mono (Nat.le_succ _))
          have HI : Hid (w.heap.size < w2.heap.size) := by have := HBX.size; rw [hsz0] at this; exact this
          clear B2 hsz0 HBX z0 HB1
          go_wp2_with fail
          refine bodyPost_ret (v := .tuple #[planV 1, .int .i64 0]) (by simp only [results, Tryz.results33, planV, sls, szs, List.getD_cons_zero, List.getD_cons_succ]; go_simp) rfl ?_
          refine ⟨1, by omega, ?_, ?_, rfl, ?_⟩
          · have := HM.out; simp only [szs, List.getD_cons_zero, List.getD_cons_succ]; omega
          · intro j hj; exact Nat.lt_of_lt_of_le (HK.out j hj) (by omega)
          · exact (((HB2.out.setCell (Nat.le_refl _) _).setCell (Nat.le_refl _) _).setCell (Nat.le_refl _) _).setCell (Nat.le_refl _) _
        · have HK2 : Hid (∀ j, j < 2 → szs.getD j 0 < n) := fun j hj => by
            rcases Nat.lt_succ_iff_lt_or_eq.1 hj with h | rfl
            · exact HK.out j h
            · show 32 < n; omega
          have hs2 : ¬ (n : Int) ≤ 32 := by omega
          clear hs HK
          go_wp2_with fail
          go_round
          case rel => exact ⟨2, by omega, by go_num, HK2⟩
          case measure => simp [intOf]
      · have hx : ∀ w : World, (Instr.index 91 (.agg #[.int .u64 16, .int .u64 32, .int .u64 48, .int .u64 64, .int .u64 96, .int .u64 128, .int .u64 192, .int .u64 256, .int .u64 384, .int .u64 512, .int .u64 768, .int .u64 1024]) (.int .i64 2)).run Tryz.prog w = .ok (.int .u64 48) w := fun _ => by kernel_rfl
        by_cases hs : n ≤ 48
        · have HM := Lib.hid hs
          have HS := Lib.hid (HL.out w1 2 (by omega))
          simp only [sls, List.getD_cons_zero, List.getD_cons_succ] at HS
          have hs2 : (n : Int) ≤ 48 := by omega
          clear hs
          have hb : bits BinOp.and IntKind.u64 48 0 = 0 := by kernel_rfl
          go_wp2_with fail
          refine HS.out.mono ?_
          rintro e w2 ⟨rfl, B2⟩
          have hsz0 : (w.alloc (.cells #[.int .i64 0, .int .i64 0, .int .i64 0, .int .u64 0] 54)).heap.size = w.heap.size + 1 := by simp
          have HBX : Below (w.heap.size + 1) (w.alloc (.cells #[.int .i64 0, .int .i64 0, .int .i64 0, .int .u64 0] 54)) w2 := by have h1 := HB1.out; have h2 := B2; rw [hsz0] at h1; exact h1.trans (h2.mono (by have := h1.size; rw [hsz0] at this; exact this))
          have q0 : w2.cell? ⟨w.heap.size, 0, none⟩ = some (.int .i64 0) := (HBX.cell (p := ⟨w.heap.size, 0, none⟩) (Nat.lt_succ_self _)).trans (by rw [World.cell?_alloc_new]; rfl)
          have q1 : w2.cell? ⟨w.heap.size, 1, none⟩ = some (.int .i64 0) := (HBX.cell (p := ⟨w.heap.size, 1, none⟩) (Nat.lt_succ_self _)).trans (by rw [World.cell?_alloc_new]; rfl)
          have q2 : w2.cell? ⟨w.heap.size, 2, none⟩ = some (.int .i64 0) := (HBX.cell (p := ⟨w.heap.size, 2, none⟩) (Nat.lt_succ_self _)).trans (by rw [World.cell?_alloc_new]; rfl)
          have q3 : w2.cell? ⟨w.heap.size, 3, none⟩ = some (.int .u64 0) := (HBX.cell (p := ⟨w.heap.size, 3, none⟩) (Nat.lt_succ_self _)).trans (by rw [World.cell?_alloc_new]; rfl)
          have z0 : ∀ j, w2.frozen? ⟨w.heap.size, j, none⟩ = false := fun j => (World.frozen?_of_block (a := ⟨w.heap.size, j, none⟩) (HBX.block w.heap.size (Nat.lt_succ_self _))).trans (by simp)
          have y0 := z0 0
          have y1 := z0 1
          have y2 := z0 2
          have y3 := z0 3
          have HB2 : Hid (Below w.heap.size w w2) := ((Below.refl w.heap.size w).alloc (Nat.le_refl _) _).trans (HBX.mono (Nat.le_succ _))
          have HI : Hid (w.heap.size < w2.heap.size) := by have := HBX.size; rw [hsz0] at this; exact this
          clear B2 hsz0 HBX z0 HB1
          go_wp2_with fail
          refine bodyPost_ret (v := .tuple #[planV 2, .int .i64 0]) (by simp only [results, Tryz.results33, planV, sls, szs, List.getD_cons_zero, List.getD_cons_succ]; go_simp) rfl ?_
          refine ⟨2, by omega, ?_, ?_, rfl, ?_⟩
          · have := HM.out; simp only [szs, List.getD_cons_zero, List.getD_cons_succ]; omega
          · intro j hj; exact Nat.lt_of_lt_of_le (HK.out j hj) (by omega)
          · exact (((HB2.out.setCell (Nat.le_refl _) _).setCell (Nat.le_refl _) _).setCell (Nat.le_refl _) _).setCell (Nat.le_refl _) _
        · have HK2 : Hid (∀ j, j < 3 → szs.getD j 0 < n) := fun j hj => by
            rcases Nat.lt_succ_iff_lt_or_eq.1 hj with h | rfl
            · exact HK.out j h
            · show 48 < n; omega
          have hs2 : ¬ (n : Int) ≤ 48 := by omega
          clear hs HK
          go_wp2_with fail
          go_round
          case rel => exact ⟨3, by omega, by go_num, HK2⟩
          case measure => simp [intOf]
      · have hx : ∀ w : World, (Instr.index 91 (.agg #[.int .u64 16, .int .u64 32, .int .u64 48, .int .u64 64, .int .u64 96, .int .u64 128, .int .u64 192, .int .u64 256, .int .u64 384, .int .u64 512, .int .u64 768, .int .u64 1024]) (.int .i64 3)).run Tryz.prog w = .ok (.int .u64 64) w := fun _ => by kernel_rfl
        by_cases hs : n ≤ 64
        · have HM := Lib.hid hs
          have HS := Lib.hid (HL.out w1 3 (by omega))
          simp only [sls, List.getD_cons_zero, List.getD_cons_succ] at HS
          have hs2 : (n : Int) ≤ 64 := by omega
          clear hs
          have hb : bits BinOp.and IntKind.u64 64 0 = 0 := by kernel_rfl
          go_wp2_with fail
          refine HS.out.mono ?_
          rintro e w2 ⟨rfl, B2⟩
          have hsz0 : (w.alloc (.cells #[.int .i64 0, .int .i64 0, .int .i64 0, .int .u64 0] 54)).heap.size = w.heap.size + 1 := by simp
          have HBX : Below (w.heap.size + 1) (w.alloc (.cells #[.int .i64 0, .int .i64 0, .int .i64 0, .int .u64 0] 54)) w2 := by have h1 := HB1.out; have h2 := B2; rw [hsz0] at h1; exact h1.trans (h2.mono (by have := h1.size; rw [hsz0] at this; exact this))
          have q0 : w2.cell? ⟨w.heap.size, 0, none⟩ = some (.int .i64 0) := (HBX.cell (p := ⟨w.heap.size, 0, none⟩) (Nat.lt_succ_self _)).trans (by rw [World.cell?_alloc_new]; rfl)
          have q1 : w2.cell? ⟨w.heap.size, 1, none⟩ = some (.int .i64 0) := (HBX.cell (p := ⟨w.heap.size, 1, none⟩) (Nat.lt_succ_self _)).trans (by rw [World.cell?_alloc_new]; rfl)
          have q2 : w2.cell? ⟨w.heap.size, 2, none⟩ = some (.int .i64 0) := (HBX.cell (p := ⟨w.heap.size, 2, none⟩) (Nat.lt_succ_self _)).trans (by rw [World.cell?_alloc_new]; rfl)
          have q3 : w2.cell? ⟨w.heap.size, 3, none⟩ = some (.int .u64 0) := (HBX.cell (p := ⟨w.heap.size, 3, none⟩) (Nat.lt_succ_self _)).trans (by rw [World.cell?_alloc_new]; rfl)
          have z0 : ∀ j, w2.frozen? ⟨w.heap.size, j, none⟩ = false := fun j => (World.frozen?_of_block (a := ⟨w.heap.size, j, none⟩) (HBX.block w.heap.size (Nat.lt_succ_self _))).trans (by simp)
          have y0 := z0 0
          have y1 := z0 1
          have y2 := z0 2
          have y3 := z0 3
          have HB2 : Hid (Below w.heap.size w w2) := ((Below.refl w.heap.size w).alloc (Nat.le_refl _) _).trans (HBX.mono (Nat.le_succ _))
          have HI : Hid (w.heap.size < w2.heap.size) := by have := HBX.size; rw [hsz0] at this; exact this
          clear B2 hsz0 HBX z0 HB1
          go_wp2_with fail
          refine bodyPost_ret (v := .tuple #[planV 3, .int .i64 0]) (by simp only [results, Tryz.results33, planV, sls, szs, List.getD_cons_zero, List.getD_cons_succ]; go_simp) rfl ?_
          refine ⟨3, by omega, ?_, ?_, rfl, ?_⟩
          · have := HM.out; simp only [szs, List.getD_cons_zero, List.getD_cons_succ]; omega
          · intro j hj; exact Nat.lt_of_lt_of_le (HK.out j hj) (by omega)
          · exact (((HB2.out.setCell (Nat.le_refl _) _).setCell (Nat.le_refl _) _).setCell (Nat.le_refl _) _).setCell (Nat.le_refl _) _
        · have HK2 : Hid (∀ j, j < 4 → szs.getD j 0 < n) := fun j hj => by
            rcases Nat.lt_succ_iff_lt_or_eq.1 hj with h | rfl
            · exact HK.out j h
            · show 64 < n; omega
          have hs2 : ¬ (n : Int) ≤ 64 := by omega
          clear hs HK
          go_wp2_with fail
          go_round
          case rel => exact ⟨4, by omega, by go_num, HK2⟩
          case measure => simp [intOf]
      · have hx : ∀ w : World, (Instr.index 91 (.agg #[.int .u64 16, .int .u64 32, .int .u64 48, .int .u64 64, .int .u64 96, .int .u64 128, .int .u64 192, .int .u64 256, .int .u64 384, .int .u64 512, .int .u64 768, .int .u64 1024]) (.int .i64 4)).run Tryz.prog w = .ok (.int .u64 96) w := fun _ => by kernel_rfl
        by_cases hs : n ≤ 96
        · have HM := Lib.hid hs
          have HS := Lib.hid (HL.out w1 4 (by omega))
          simp only [sls, List.getD_cons_zero, List.getD_cons_succ] at HS
          have hs2 : (n : Int) ≤ 96 := by omega
          clear hs
          have hb : bits BinOp.and IntKind.u64 96 0 = 0 := by kernel_rfl
          go_wp2_with fail
          refine HS.out.mono ?_
          rintro e w2 ⟨rfl, B2⟩
          have hsz0 : (w.alloc (.cells #[.int .i64 0, .int .i64 0, .int .i64 0, .int .u64 0] 54)).heap.size = w.heap.size + 1 := by simp
          have HBX : Below (w.heap.size + 1) (w.alloc (.cells #[.int .i64 0, .int .i64 0, .int .i64 0, .int .u64 0] 54)) w2 := by have h1 := HB1.out; have h2 := B2; rw [hsz0] at h1; exact h1.trans (h2.mono (by have := h1.size; rw [hsz0] at this; exact this))
          have q0 : w2.cell? ⟨w.heap.size, 0, none⟩ = some (.int .i64 0) := (HBX.cell (p := ⟨w.heap.size, 0, none⟩) (Nat.lt_succ_self _)).trans (by rw [World.cell?_alloc_new]; rfl)
          have q1 : w2.cell? ⟨w.heap.size, 1, none⟩ = some (.int .i64 0) := (HBX.cell (p := ⟨w.heap.size, 1, none⟩) (Nat.lt_succ_self _)).trans (by rw [World.cell?_alloc_new]; rfl)
          have q2 : w2.cell? ⟨w.heap.size, 2, none⟩ = some (.int .i64 0) := (HBX.cell (p := ⟨w.heap.size, 2, none⟩) (Nat.lt_succ_self _)).trans (by rw [World.cell?_alloc_new]; rfl)
          have q3 : w2.cell? ⟨w.heap.size, 3, none⟩ = some (.int .u64 0) := (HBX.cell (p := ⟨w.heap.size, 3, none⟩) (Nat.lt_succ_self _)).trans (by rw [World.cell?_alloc_new]; rfl)
          have z0 : ∀ j, w2.frozen? ⟨w.heap.size, j, none⟩ = false := fun j => (World.frozen?_of_block (a := ⟨w.heap.size, j, none⟩) (HBX.block w.heap.size (Nat.lt_succ_self _))).trans (by simp)
          have y0 := z0 0
          have y1 := z0 1
          have y2 := z0 2
          have y3 := z0 3
          have HB2 : Hid (Below w.heap.size w w2) := ((Below.refl w.heap.size w).alloc (Nat.le_refl _) _).trans (HBX.mono (Nat.le_succ _))
          have HI : Hid (w.heap.size < w2.heap.size) := by have := HBX.size; rw [hsz0] at this; exact this
          clear B2 hsz0 HBX z0 HB1
          go_wp2_with fail
          refine bodyPost_ret (v := .tuple #[planV 4, .int .i64 0]) (by simp only [results, Tryz.results33, planV, sls, szs, List.getD_cons_zero, List.getD_cons_succ]; go_simp) rfl ?_
          refine ⟨4, by omega, ?_, ?_, rfl, ?_⟩
          · have := HM.out; simp only [szs, List.getD_cons_zero, List.getD_cons_succ]; omega
          · intro j hj; exact Nat.lt_of_lt_of_le (HK.out j hj) (by omega)
          · exact (((HB2.out.setCell (Nat.le_refl _) _).setCell (Nat.le_refl _) _).setCell (Nat.le_refl _) _).setCell (Nat.le_refl _) _
        · have HK2 : Hid (∀ j, j < 5 → szs.getD j 0 < n) := fun j hj => by
            rcases Nat.lt_succ_iff_lt_or_eq.1 hj with h | rfl
            · exact HK.out j h
            · show 96 < n; omega
          have hs2 : ¬ (n : Int) ≤ 96 := by omega
          clear hs HK
          go_wp2_with fail
          go_round
          case rel => exact ⟨5, by omega, by go_num, HK2⟩
          case measure => simp [intOf]
      · have hx : ∀ w : World, (Instr.index 91 (.agg #[.int .u64 16, .int .u64 32, .int .u64 48, .int .u64 64, .int .u64 96, .int .u64 128, .int .u64 192, .int .u64 256, .int .u64 384, .int .u64 512, .int .u64 768, .int .u64 1024]) (.int .i64 5)).run Tryz.prog w = .ok (.int .u64 128) w := fun _ => by kernel_rfl
        by_cases hs : n ≤ 128
        · have HM := Lib.hid hs
          have HS := Lib.hid (HL.out w1 5 (by omega))
          simp only [sls, List.getD_cons_zero, List.getD_cons_succ] at HS
          have hs2 : (n : Int) ≤ 128 := by omega
          clear hs
          have hb : bits BinOp.and IntKind.u64 128 0 = 0 := by kernel_rfl
          go_wp2_with fail
          refine HS.out.mono ?_
          rintro e w2 ⟨rfl, B2⟩
          have hsz0 : (w.alloc (.cells #[.int .i64 0, .int .i64 0, .int .i64 0, .int .u64 0] 54)).heap.size = w.heap.size + 1 := by simp
          have HBX : Below (w.heap.size + 1) (w.alloc (.cells #[.int .i64 0, .int .i64 0, .int .i64 0, .int .u64 0] 54)) w2 := by have h1 := HB1.out; have h2 := B2; rw [hsz0] at h1; exact h1.trans (h2.mono (by have := h1.size; rw [hsz0] at this; exact this))
          have q0 : w2.cell? ⟨w.heap.size, 0, none⟩ = some (.int .i64 0) := (HBX.cell (p := ⟨w.heap.size, 0, none⟩) (Nat.lt_succ_self _)).trans (by rw [World.cell?_alloc_new]; rfl)
          have q1 : w2.cell? ⟨w.heap.size, 1, none⟩ = some (.int .i64 0) := (HBX.cell (p := ⟨w.heap.size, 1, none⟩) (Nat.lt_succ_self _)).trans (by rw [World.cell?_alloc_new]; rfl)
          have q2 : w2.cell? ⟨w.heap.size, 2, none⟩ = some (.int .i64 0) := (HBX.cell (p := ⟨w.heap.size, 2, none⟩) (Nat.lt_succ_self _)).trans (by rw [World.cell?_alloc_new]; rfl)
          have q3 : w2.cell? ⟨w.heap.size, 3, none⟩ = some (.int .u64 0) := (HBX.cell (p := ⟨w.heap.size, 3, none⟩) (Nat.lt_succ_self _)).trans (by rw [World.cell?_alloc_new]; rfl)
          have z0 : ∀ j, w2.frozen? ⟨w.heap.size, j, none⟩ = false := fun j => (World.frozen?_of_block (a := ⟨w.heap.size, j, none⟩) (HBX.block w.heap.size (Nat.lt_succ_self _))).trans (by simp)
          have y0 := z0 0
          have y1 := z0 1
          have y2 := z0 2
          have y3 := z0 3
          have HB2 : Hid (Below w.heap.size w w2) := ((Below.refl w.heap.size w).alloc (Nat.le_refl _) _).trans (HBX.mono (Nat.le_succ _))
          have HI : Hid (w.heap.size < w2.heap.size) := by have := HBX.size; rw [hsz0] at this; exact this
          clear B2 hsz0 HBX z0 HB1
          go_wp2_with fail
          refine bodyPost_ret (v := .tuple #[planV 5, .int .i64 0]) (by simp only [results, Tryz.results33, planV, sls, szs, List.getD_cons_zero, List.getD_cons_succ]; go_simp) rfl ?_
          refine ⟨5, by omega, ?_, ?_, rfl, ?_⟩
          · have := HM.out; simp only [szs, List.getD_cons_zero, List.getD_cons_succ]; omega
          · intro j hj; exact Nat.lt_of_lt_of_le (HK.out j hj) (by omega)
          · exact (((HB2.out.setCell (Nat.le_refl _) _).setCell (Nat.le_refl _) _).setCell (Nat.le_refl _) _).setCell (Nat.le_refl _) _
        · have HK2 : Hid (∀ j, j < 6 → szs.getD j 0 < n) := fun j hj => by
            rcases Nat.lt_succ_iff_lt_or_eq.1 hj with h | rfl
            · exact HK.out j h
            · show 128 < n; omega
          have hs2 : ¬ (n : Int) ≤ 128 := by omega
          clear hs HK
          go_wp2_with fail
          go_round
          case rel => exact ⟨6, by omega, by go_num, HK2⟩
          case measure => simp [intOf]
      · have hx : ∀ w : World, (Instr.index 91 (.agg #[.int .u64 16, .int .u64 32, .int .u64 48, .int .u64 64, .int .u64 96, .int .u64 128, .int .u64 192, .int .u64 256, .int .u64 384, .int .u64 512, .int .u64 768, .int .u64 1024]) (.int .i64 6)).run Tryz.prog w = .ok (.int .u64 192) w := fun _ => by kernel_rfl
        by_cases hs : n ≤ 192
        · have HM := Lib.hid hs
          have HS := Lib.hid (HL.out w1 6 (by omega))
          simp only [sls, List.getD_cons_zero, List.getD_cons_succ] at HS
          have hs2 : (n : Int) ≤ 192 := by omega
          clear hs
          have hb : bits BinOp.and IntKind.u64 192 0 = 0 := by kernel_rfl
          go_wp2_with fail
          refine HS.out.mono ?_
          rintro e w2 ⟨rfl, B2⟩
          have hsz0 : (w.alloc (.cells #[.int .i64 0, .int .i64 0, .int .i64 0, .int .u64 0] 54)).heap.size = w.heap.size + 1 := by simp
          have HBX : Below (w.heap.size + 1) (w.alloc (.cells #[.int .i64 0, .int .i64 0, .int .i64 0, .int .u64 0] 54)) w2 := by have h1 := HB1.out; have h2 := B2; rw [hsz0] at h1; exact h1.trans (h2.mono (by have := h1.size; rw [hsz0] at this; exact this))
          have q0 : w2.cell? ⟨w.heap.size, 0, none⟩ = some (.int .i64 0) := (HBX.cell (p := ⟨w.heap.size, 0, none⟩) (Nat.lt_succ_self _)).trans (by rw [World.cell?_alloc_new]; rfl)
          have q1 : w2.cell? ⟨w.heap.size, 1, none⟩ = some (.int .i64 0) := (HBX.cell (p := ⟨w.heap.size, 1, none⟩) (Nat.lt_succ_self _)).trans (by rw [World.cell?_alloc_new]; rfl)
          have q2 : w2.cell? ⟨w.heap.size, 2, none⟩ = some (.int .i64 0) := (HBX.cell (p := ⟨w.heap.size, 2, none⟩) (Nat.lt_succ_self _)).trans (by rw [World.cell?_alloc_new]; rfl)
          have q3 : w2.cell? ⟨w.heap.size, 3, none⟩ = some (.int .u64 0) := (HBX.cell (p := ⟨w.heap.size, 3, none⟩) (Nat.lt_succ_self _)).trans (by rw [World.cell?_alloc_new]; rfl)
          have z0 : ∀ j, w2.frozen? ⟨w.heap.size, j, none⟩ = false := fun j => (World.frozen?_of_block (a := ⟨w.heap.size, j, none⟩) (HBX.block w.heap.size (Nat.lt_succ_self _))).trans (by simp)
          have y0 := z0 0
          have y1 := z0 1
          have y2 := z0 2
          have y3 := z0 3
          have HB2 : Hid (Below w.heap.size w w2) := ((Below.refl w.heap.size w).alloc (Nat.le_refl _) _).trans (HBX.mono (Nat.le_succ _))
          have HI : Hid (w.heap.size < w2.heap.size) := by have := HBX.size; rw [hsz0] at this; exact this
          clear B2 hsz0 HBX z0 HB1
          go_wp2_with fail
          refine bodyPost_ret (v := .tuple #[planV 6, .int .i64 0]) (by simp only [results, Tryz.results33, planV, sls, szs, List.getD_cons_zero, List.getD_cons_succ]; go_simp) rfl ?_
          refine ⟨6, by omega, ?_, ?_, rfl, ?_⟩
          · have := HM.out; simp only [szs, List.getD_cons_zero, List.getD_cons_succ]; omega
          · intro j hj; exact Nat.lt_of_lt_of_le (HK.out j hj) (by omega)
          · exact (((HB2.out.setCell (Nat.le_refl _) _).setCell (Nat.le_refl _) _).setCell (Nat.le_refl _) _).setCell (Nat.le_refl _) _
        · have HK2 : Hid (∀ j, j < 7 → szs.getD j 0 < n) := fun j hj => by
            rcases Nat.lt_succ_iff_lt_or_eq.1 hj with h | rfl
            · exact HK.out j h
            · show 192 < n; omega
          have hs2 : ¬ (n : Int) ≤ 192 := by omega
          clear hs HK
          go_wp2_with fail
          go_round
          case rel => exact ⟨7, by omega, by go_num, HK2⟩
          case measure => simp [intOf]
      · have hx : ∀ w : World, (Instr.index 91 (.agg #[.int .u64 16, .int .u64 32, .int .u64 48, .int .u64 64, .int .u64 96, .int .u64 128, .int .u64 192, .int .u64 256, .int .u64 384, .int .u64 512, .int .u64 768, .int .u64 1024]) (.int .i64 7)).run Tryz.prog w = .ok (.int .u64 256) w := fun _ => by kernel_rfl
        by_cases hs : n ≤ 256
        · have HM := Lib.hid hs
          have HS := Lib.hid (HL.out w1 7 (by omega))
          simp only [sls, List.getD_cons_zero, List.getD_cons_succ] at HS
          have hs2 : (n : Int) ≤ 256 := by omega
          clear hs
          have hb : bits BinOp.and IntKind.u64 256 0 = 0 := by kernel_rfl
          go_wp2_with fail
          refine HS.out.mono ?_
          rintro e w2 ⟨rfl, B2⟩
          have hsz0 : (w.alloc (.cells #[.int .i64 0, .int .i64 0, .int .i64 0, .int .u64 0] 54)).heap.size = w.heap.size + 1 := by simp
          have HBX : Below (w.heap.size + 1) (w.alloc (.cells #[.int .i64 0, .int .i64 0, .int .i64 0, .int .u64 0] 54)) w2 := by have h1 := HB1.out; have h2 := B2; rw [hsz0] at h1; exact h1.trans (h2.mono (by have := h1.size; rw [hsz0] at this; exact this))
          have q0 : w2.cell? ⟨w.heap.size, 0, none⟩ = some (.int .i64 0) := (HBX.cell (p := ⟨w.heap.size, 0, none⟩) (Nat.lt_succ_self _)).trans (by rw [World.cell?_alloc_new]; rfl)
          have q1 : w2.cell? ⟨w.heap.size, 1, none⟩ = some (.int .i64 0) := (HBX.cell (p := ⟨w.heap.size, 1, none⟩) (Nat.lt_succ_self _)).trans (by rw [World.cell?_alloc_new]; rfl)
          have q2 : w2.cell? ⟨w.heap.size, 2, none⟩ = some (.int .i64 0) := (HBX.cell (p := ⟨w.heap.size, 2, none⟩) (Nat.lt_succ_self _)).trans (by rw [World.cell?_alloc_new]; rfl)
          have q3 : w2.cell? ⟨w.heap.size, 3, none⟩ = some (.int .u64 0) := (HBX.cell (p := ⟨w.heap.size, 3, none⟩) (Nat.lt_succ_self _)).trans (by rw [World.cell?_alloc_new]; rfl)
          have z0 : ∀ j, w2.frozen? ⟨w.heap.size, j, none⟩ = false := fun j => (World.frozen?_of_block (a := ⟨w.heap.size, j, none⟩) (HBX.block w.heap.size (Nat.lt_succ_self _))).trans (by simp)
          have y0 := z0 0
          have y1 := z0 1
          have y2 := z0 2
          have y3 := z0 3
          have HB2 : Hid (Below w.heap.size w w2) := ((Below.refl w.heap.size w).alloc (Nat.le_refl _) _).trans (HBX.mono (Nat.le_succ _))
          have HI : Hid (w.heap.size < w2.heap.size) := by have := HBX.size; rw [hsz0] at this; exact this
          clear B2 hsz0 HBX z0 HB1
          go_wp2_with fail
          refine bodyPost_ret (v := .tuple #[planV 7, .int .i64 0]) (by simp only [results, Tryz.results33, planV, sls, szs, List.getD_cons_zero, List.getD_cons_succ]; go_simp) rfl ?_
          refine ⟨7, by omega, ?_, ?_, rfl, ?_⟩
          · have := HM.out; simp only [szs, List.getD_cons_zero, List.getD_cons_succ]; omega
          · intro j hj; exact Nat.lt_of_lt_of_le (HK.out j hj) (by omega)
          · exact (((HB2.out.setCell (Nat.le_refl _) _).setCell (Nat.le_refl _) _).setCell (Nat.le_refl _) _).setCell (Nat.le_refl _) _
        · have HK2 : Hid (∀ j, j < 8 → szs.getD j 0 < n) := fun j hj => by
            rcases Nat.lt_succ_iff_lt_or_eq.1 hj with h | rfl
            · exact HK.out j h
            · show 256 < n; omega
          have hs2 : ¬ (n : Int) ≤ 256 := by omega
          clear hs HK
          go_wp2_with fail
          go_round
          case rel => exact ⟨8, by omega, by go_num, HK2⟩
          case measure => simp [intOf]
      · have hx : ∀ w : World, (Instr.index 91 (.agg #[.int .u64 16, .int .u64 32, .int .u64 48, .int .u64 64, .int .u64 96, .int .u64 128, .int .u64 192, .int .u64 256, .int .u64 384, .int .u64 512, .int .u64 768, .int .u64 1024]) (.int .i64 8)).run Tryz.prog w = .ok (.int .u64 384) w := fun _ => by kernel_rfl
        by_cases hs : n ≤ 384
        · have HM := Lib.hid hs
          have HS := Lib.hid (HL.out w1 8 (by omega))
          simp only [sls, List.getD_cons_zero, List.getD_cons_succ] at HS
          have hs2 : (n : Int) ≤ 384 := by omega
          clear hs
          have hb : bits BinOp.and IntKind.u64 384 0 = 0 := by kernel_rfl
          go_wp2_with fail
          refine HS.out.mono ?_
          rintro e w2 ⟨rfl, B2⟩
          have hsz0 : (w.alloc (.cells #[.int .i64 0, .int .i64 0, .int .i64 0, .int .u64 0] 54)).heap.size = w.heap.size + 1 := by simp
          have HBX : Below (w.heap.size + 1) (w.alloc (.cells #[.int .i64 0, .int .i64 0, .int .i64 0, .int .u64 0] 54)) w2 := by have h1 := HB1.out; have h2 := B2; rw [hsz0] at h1; exact h1.trans (h2.mono (by have := h1.size; rw [hsz0] at this; exact this))
          have q0 : w2.cell? ⟨w.heap.size, 0, none⟩ = some (.int .i64 0) := (HBX.cell (p := ⟨w.heap.size, 0, none⟩) (Nat.lt_succ_self _)).trans (by rw [World.cell?_alloc_new]; rfl)
          have q1 : w2.cell? ⟨w.heap.size, 1, none⟩ = some (.int .i64 0) := (HBX.cell (p := ⟨w.heap.size, 1, none⟩) (Nat.lt_succ_self _)).trans (by rw [World.cell?_alloc_new]; rfl)
          have q2 : w2.cell? ⟨w.heap.size, 2, none⟩ = some (.int .i64 0) := (HBX.cell (p := ⟨w.heap.size, 2, none⟩) (Nat.lt_succ_self _)).trans (by rw [World.cell?_alloc_new]; rfl)
          have q3 : w2.cell? ⟨w.heap.size, 3, none⟩ = some (.int .u64 0) := (HBX.cell (p := ⟨w.heap.size, 3, none⟩) (Nat.lt_succ_self _)).trans (by rw [World.cell?_alloc_new]; rfl)
          have z0 : ∀ j, w2.frozen? ⟨w.heap.size, j, none⟩ = false := fun j => (World.frozen?_of_block (a := ⟨w.heap.size, j, none⟩) (HBX.block w.heap.size (Nat.lt_succ_self _))).trans (by simp)
          have y0 := z0 0
          have y1 := z0 1
          have y2 := z0 2
          have y3 := z0 3
          have HB2 : Hid (Below w.heap.size w w2) := ((Below.refl w.heap.size w).alloc (Nat.le_refl _) _).trans (HBX.mono (Nat.le_succ _))
          have HI : Hid (w.heap.size < w2.heap.size) := by have := HBX.size; rw [hsz0] at this; exact this
          clear B2 hsz0 HBX z0 HB1
          go_wp2_with fail
          refine bodyPost_ret (v := .tuple #[planV 8, .int .i64 0]) (by simp only [results, Tryz.results33, planV, sls, szs, List.getD_cons_zero, List.getD_cons_succ]; go_simp) rfl ?_
          refine ⟨8, by omega, ?_, ?_, rfl, ?_⟩
          · have := HM.out; simp only [szs, List.getD_cons_zero, List.getD_cons_succ]; omega
          · intro j hj; exact Nat.lt_of_lt_of_le (HK.out j hj) (by omega)
          · exact (((HB2.out.setCell (Nat.le_refl _) _).setCell (Nat.le_refl _) _).setCell (Nat.le_refl _) _).setCell (Nat.le_refl _) _
        · have HK2 : Hid (∀ j, j < 9 → szs.getD j 0 < n) := fun j hj => by
            rcases Nat.lt_succ_iff_lt_or_eq.1 hj with h | rfl
            · exact HK.out j h
            · show 384 < n; omega
          have hs2 : ¬ (n : Int) ≤ 384 := by omega
          clear hs HK
          go_wp2_with fail
          go_round
          case rel => exact ⟨9, by omega, by go_num, HK2⟩
          case measure => simp [intOf]
      · have hx : ∀ w : World, (Instr.index 91 (.agg #[.int .u64 16, .int .u64 32, .int .u64 48, .int .u64 64, .int .u64 96, .int .u64 128, .int .u64 192, .int .u64 256, .int .u64 384, .int .u64 512, .int .u64 768, .int .u64 1024]) (.int .i64 9)).run Tryz.prog w = .ok (.int .u64 512) w := fun _ => by kernel_rfl
        by_cases hs : n ≤ 512
        · have HM := Lib.hid hs
          have HS := Lib.hid (HL.out w1 9 (by omega))
          simp only [sls, List.getD_cons_zero, List.getD_cons_succ] at HS
          have hs2 : (n : Int) ≤ 512 := by omega
          clear hs
          have hb : bits BinOp.and IntKind.u64 512 0 = 0 := by kernel_rfl
          go_wp2_with fail
          refine HS.out.mono ?_
          rintro e w2 ⟨rfl, B2⟩
          have hsz0 : (w.alloc (.cells #[.int .i64 0, .int .i64 0, .int .i64 0, .int .u64 0] 54)).heap.size = w.heap.size + 1 := by simp
          have HBX : Below (w.heap.size + 1) (w.alloc (.cells #[.int .i64 0, .int .i64 0, .int .i64 0, .int .u64 0] 54)) w2 := by have h1 := HB1.out; have h2 := B2; rw [hsz0] at h1; exact h1.trans (h2.mono (by have := h1.size; rw [hsz0] at this; exact this))
          have q0 : w2.cell? ⟨w.heap.size, 0, none⟩ = some (.int .i64 0) := (HBX.cell (p := ⟨w.heap.size, 0, none⟩) (Nat.lt_succ_self _)).trans (by rw [World.cell?_alloc_new]; rfl)
          have q1 : w2.cell? ⟨w.heap.size, 1, none⟩ = some (.int .i64 0) := (HBX.cell (p := ⟨w.heap.size, 1, none⟩) (Nat.lt_succ_self _)).trans (by rw [World.cell?_alloc_new]; rfl)
          have q2 : w2.cell? ⟨w.heap.size, 2, none⟩ = some (.int .i64 0) := (HBX.cell (p := ⟨w.heap.size, 2, none⟩) (Nat.lt_succ_self _)).trans (by rw [World.cell?_alloc_new]; rfl)
          have q3 : w2.cell? ⟨w.heap.size, 3, none⟩ = some (.int .u64 0) := (HBX.cell (p := ⟨w.heap.size, 3, none⟩) (Nat.lt_succ_self _)).trans (by rw [World.cell?_alloc_new]; rfl)
          have z0 : ∀ j, w2.frozen? ⟨w.heap.size, j, none⟩ = false := fun j => (World.frozen?_of_block (a := ⟨w.heap.size, j, none⟩) (HBX.block w.heap.size (Nat.lt_succ_self _))).trans (by simp)
          have y0 := z0 0
          have y1 := z0 1
          have y2 := z0 2
          have y3 := z0 3
          have HB2 : Hid (Below w.heap.size w w2) := ((Below.refl w.heap.size w).alloc (Nat.le_refl _) _).trans (HBX.mono (Nat.le_succ _))
          have HI : Hid (w.heap.size < w2.heap.size) := by have := HBX.size; rw [hsz0] at this; exact this
          clear B2 hsz0 HBX z0 HB1
          go_wp2_with fail
          refine bodyPost_ret (v := .tuple #[planV 9, .int .i64 0]) (by simp only [results, Tryz.results33, planV, sls, szs, List.getD_cons_zero, List.getD_cons_succ]; go_simp) rfl ?_
          refine ⟨9, by omega, ?_, ?_, rfl, ?_⟩
          · have := HM.out; simp only [szs, List.getD_cons_zero, List.getD_cons_succ]; omega
          · intro j hj; exact Nat.lt_of_lt_of_le (HK.out j hj) (by omega)
          · exact (((HB2.out.setCell (Nat.le_refl _) _).setCell (Nat.le_refl _) _).setCell (Nat.le_refl _) _).setCell (Nat.le_refl _) _
        · have HK2 : Hid (∀ j, j < 10 → szs.getD j 0 < n) := fun j hj => by
            rcases Nat.lt_succ_iff_lt_or_eq.1 hj with h | rfl
            · exact HK.out j h
            · show 512 < n; omega
          have hs2 : ¬ (n : Int) ≤ 512 := by omega
          clear hs HK
          go_wp2_with fail
          go_round
          case rel => exact ⟨10, by omega, by go_num, HK2⟩
          case measure => simp [intOf]
      · have hx : ∀ w : World, (Instr.index 91 (.agg #[.int .u64 16, .int .u64 32, .int .u64 48, .int .u64 64, .int .u64 96, .int .u64 128, .int .u64 192, .int .u64 256, .int .u64 384, .int .u64 512, .int .u64 768, .int .u64 1024]) (.int .i64 10)).run Tryz.prog w = .ok (.int .u64 768) w := fun _ => by kernel_rfl
        by_cases hs : n ≤ 768
        · have HM := Lib.hid hs
          have HS := Lib.hid (HL.out w1 10 (by omega))
          simp only [sls, List.getD_cons_zero, List.getD_cons_succ] at HS
          have hs2 : (n : Int) ≤ 768 := by omega
          clear hs
          have hb : bits BinOp.and IntKind.u64 768 0 = 0 := by kernel_rfl
          go_wp2_with fail
          refine HS.out.mono ?_
          rintro e w2 ⟨rfl, B2⟩
          have hsz0 : (w.alloc (.cells #[.int .i64 0, .int .i64 0, .int .i64 0, .int .u64 0] 54)).heap.size = w.heap.size + 1 := by simp
          have HBX : Below (w.heap.size + 1) (w.alloc (.cells #[.int .i64 0, .int .i64 0, .int .i64 0, .int .u64 0] 54)) w2 := by have h1 := HB1.out; have h2 := B2; rw [hsz0] at h1; exact h1.trans (h2.mono (by have := h1.size; rw [hsz0] at this; exact this))
          have q0 : w2.cell? ⟨w.heap.size, 0, none⟩ = some (.int .i64 0) := (HBX.cell (p := ⟨w.heap.size, 0, none⟩) (Nat.lt_succ_self _)).trans (by rw [World.cell?_alloc_new]; rfl)
          have q1 : w2.cell? ⟨w.heap.size, 1, none⟩ = some (.int .i64 0) := (HBX.cell (p := ⟨w.heap.size, 1, none⟩) (Nat.lt_succ_self _)).trans (by rw [World.cell?_alloc_new]; rfl)
          have q2 : w2.cell? ⟨w.heap.size, 2, none⟩ = some (.int .i64 0) := (HBX.cell (p := ⟨w.heap.size, 2, none⟩) (Nat.lt_succ_self _)).trans (by rw [World.cell?_alloc_new]; rfl)
          have q3 : w2.cell? ⟨w.heap.size, 3, none⟩ = some (.int .u64 0) := (HBX.cell (p := ⟨w.heap.size, 3, none⟩) (Nat.lt_succ_self _)).trans (by rw [World.cell?_alloc_new]; rfl)
          have z0 : ∀ j, w2.frozen? ⟨w.heap.size, j, none⟩ = false := fun j => (World.frozen?_of_block (a := ⟨w.heap.size, j, none⟩) (HBX.block w.heap.size (Nat.lt_succ_self _))).trans (by simp)
          have y0 := z0 0
          have y1 := z0 1
          have y2 := z0 2
          have y3 := z0 3
          have HB2 : Hid (Below w.heap.size w w2) := ((Below.refl w.heap.size w).alloc (Nat.le_refl _) _).trans (HBX.mono (Nat.le_succ _))
          have HI : Hid (w.heap.size < w2.heap.size) := by have := HBX.size; rw [hsz0] at this; exact this
          clear B2 hsz0 HBX z0 HB1
          go_wp2_with fail
          refine bodyPost_ret (v := .tuple #[planV 10, .int .i64 0]) (by simp only [results, Tryz.results33, planV, sls, szs, List.getD_cons_zero, List.getD_cons_succ]; go_simp) rfl ?_
          refine ⟨10, by omega, ?_, ?_, rfl, ?_⟩
          · have := HM.out; simp only [szs, List.getD_cons_zero, List.getD_cons_succ]; omega
          · intro j hj; exact Nat.lt_of_lt_of_le (HK.out j hj) (by omega)
          · exact (((HB2.out.setCell (Nat.le_refl _) _).setCell (Nat.le_refl _) _).setCell (Nat.le_refl _) _).setCell (Nat.le_refl _) _
        · have HK2 : Hid (∀ j, j < 11 → szs.getD j 0 < n) := fun j hj => by
            rcases Nat.lt_succ_iff_lt_or_eq.1 hj with h | rfl
            · exact HK.out j h
            · show 768 < n; omega
          have hs2 : ¬ (n : Int) ≤ 768 := by omega
          clear hs HK
          go_wp2_with fail
          go_round
          case rel => exact ⟨11, by omega, by go_num, HK2⟩
          case measure => simp [intOf]
      · have hx : ∀ w : World, (Instr.index 91 (.agg #[.int .u64 16, .int .u64 32, .int .u64 48, .int .u64 64, .int .u64 96, .int .u64 128, .int .u64 192, .int .u64 256, .int .u64 384, .int .u64 512, .int .u64 768, .int .u64 1024]) (.int .i64 11)).run Tryz.prog w = .ok (.int .u64 1024) w := fun _ => by kernel_rfl
        by_cases hs : n ≤ 1024
        · have HM := Lib.hid hs
          have HS := Lib.hid (HL.out w1 11 (by omega))
          simp only [sls, List.getD_cons_zero, List.getD_cons_succ] at HS
          have hs2 : (n : Int) ≤ 1024 := by omega
          clear hs
          have hb : bits BinOp.and IntKind.u64 1024 0 = 0 := by kernel_rfl
          go_wp2_with fail
          refine HS.out.mono ?_
          rintro e w2 ⟨rfl, B2⟩
          have hsz0 : (w.alloc (.cells #[.int .i64 0, .int .i64 0, .int .i64 0, .int .u64 0] 54)).heap.size = w.heap.size + 1 := by simp
          have HBX : Below (w.heap.size + 1) (w.alloc (.cells #[.int .i64 0, .int .i64 0, .int .i64 0, .int .u64 0] 54)) w2 := by have h1 := HB1.out; have h2 := B2; rw [hsz0] at h1; exact h1.trans (h2.mono (by have := h1.size; rw [hsz0] at this; exact this))
          have q0 : w2.cell? ⟨w.heap.size, 0, none⟩ = some (.int .i64 0) := (HBX.cell (p := ⟨w.heap.size, 0, none⟩) (Nat.lt_succ_self _)).trans (by rw [World.cell?_alloc_new]; rfl)
          have q1 : w2.cell? ⟨w.heap.size, 1, none⟩ = some (.int .i64 0) := (HBX.cell (p := ⟨w.heap.size, 1, none⟩) (Nat.lt_succ_self _)).trans (by rw [World.cell?_alloc_new]; rfl)
          have q2 : w2.cell? ⟨w.heap.size, 2, none⟩ = some (.int .i64 0) := (HBX.cell (p := ⟨w.heap.size, 2, none⟩) (Nat.lt_succ_self _)).trans (by rw [World.cell?_alloc_new]; rfl)
          have q3 : w2.cell? ⟨w.heap.size, 3, none⟩ = some (.int .u64 0) := (HBX.cell (p := ⟨w.heap.size, 3, none⟩) (Nat.lt_succ_self _)).trans (by rw [World.cell?_alloc_new]; rfl)
          have z0 : ∀ j, w2.frozen? ⟨w.heap.size, j, none⟩ = false := fun j => (World.frozen?_of_block (a := ⟨w.heap.size, j, none⟩) (HBX.block w.heap.size (Nat.lt_succ_self _))).trans (by simp)
          have y0 := z0 0
          have y1 := z0 1
          have y2 := z0 2
          have y3 := z0 3
          have HB2 : Hid (Below w.heap.size w w2) := ((Below.refl w.heap.size w).alloc (Nat.le_refl _) _).trans (HBX.mono (Nat.le_succ _))
          have HI : Hid (w.heap.size < w2.heap.size) := by have := HBX.size; rw [hsz0] at this; exact this
          clear B2 hsz0 HBX z0 HB1
          go_wp2_with fail
          refine bodyPost_ret (v := .tuple #[planV 11, .int .i64 0]) (by simp only [results, Tryz.results33, planV, sls, szs, List.getD_cons_zero, List.getD_cons_succ]; go_simp) rfl ?_
          refine ⟨11, by omega, ?_, ?_, rfl, ?_⟩
          · have := HM.out; simp only [szs, List.getD_cons_zero, List.getD_cons_succ]; omega
          · intro j hj; exact Nat.lt_of_lt_of_le (HK.out j hj) (by omega)
          · exact (((HB2.out.setCell (Nat.le_refl _) _).setCell (Nat.le_refl _) _).setCell (Nat.le_refl _) _).setCell (Nat.le_refl _) _
        · exact absurd hs (by omega)
end Go.Proofs.YtbljphaklciinaaGreat

/- Layer 3 (mark): marks at a block; New, Left, row, set, Mark, Free. -/
namespace Go.Proofs.YtbljphaklciinaaGreat
open Go.RowKit

/-- How many of the first n places are free. -/
def freeN (T : Nat → Bool) (n : Nat) : Nat := (List.range n).countP fun j => !T j
/-- Some places set. -/
def setT (T : Nat → Bool) (at_ run : Nat) (v : Bool) : Nat → Bool := fun j => if at_ ≤ j ∧ j < at_ + run then v else T j

structure MarksAt (w : World) (b bt n : Nat) (T : Nat → Bool) : Prop where
  ptr : w.cell? ⟨b, 0, none⟩ = some (.slice (some ⟨bt, 0, none⟩) n n)
  left : w.cell? ⟨b, 1, none⟩ = some (.int .i64 (freeN T n))
  zl : w.frozen? ⟨b, 1, none⟩ = false
  row : ∀ j, j < n → w.cell? ⟨bt, j, none⟩ = some (.bool (T j))
  frz : ∀ j, j < n → w.frozen? ⟨bt, j, none⟩ = false
  ne : b ≠ bt
  n0 : 0 < n
  n1 : n ≤ 256

theorem MarksAt.stays {w w' : World} {b bt n : Nat} {T : Nat → Bool} (h : MarksAt w b bt n T) (h1 : w'.heap[b]? = w.heap[b]?) (h2 : w'.heap[bt]? = w.heap[bt]?) : MarksAt w' b bt n T :=
  ⟨(World.cell?_of_block (a := ⟨b, 0, none⟩) h1).trans h.ptr, (World.cell?_of_block (a := ⟨b, 1, none⟩) h1).trans h.left, (World.frozen?_of_block (a := ⟨b, 1, none⟩) h1).trans h.zl,
    fun j hj => (World.cell?_of_block (a := ⟨bt, j, none⟩) h2).trans (h.row j hj), fun j hj => (World.frozen?_of_block (a := ⟨bt, j, none⟩) h2).trans (h.frz j hj), h.ne, h.n0, h.n1⟩
theorem MarksAt.lt_b {w : World} {b bt n : Nat} {T : Nat → Bool} (h : MarksAt w b bt n T) : b < w.heap.size := World.block_lt_of_cell? w _ h.ptr
theorem MarksAt.lt_bt {w : World} {b bt n : Nat} {T : Nat → Bool} (h : MarksAt w b bt n T) : bt < w.heap.size := World.block_lt_of_cell? w _ (h.row 0 h.n0)
theorem MarksAt.below {w w' : World} {b bt n N : Nat} {T : Nat → Bool} (h : MarksAt w b bt n T) (hb : Below N w w') (hN : w.heap.size ≤ N) : MarksAt w' b bt n T :=
  h.stays (hb.block b (by have := h.lt_b; omega)) (hb.block bt (by have := h.lt_bt; omega))
theorem MarksAt.drew {w : World} {b bt n : Nat} {T : Nat → Bool} (h : MarksAt w b bt n T) : MarksAt w.drew b bt n T := ⟨h.ptr, h.left, h.zl, h.row, h.frz, h.ne, h.n0, h.n1⟩
theorem MarksAt.congr {w : World} {b bt n : Nat} {T T' : Nat → Bool} (h : MarksAt w b bt n T) (e : ∀ j, j < n → T j = T' j) : MarksAt w b bt n T' := by
  have hc : freeN T n = freeN T' n := by
    unfold freeN
    exact List.countP_congr fun j hj => by rw [e j (List.mem_range.1 hj)]
  exact ⟨h.ptr, hc ▸ h.left, h.zl, fun j hj => e j hj ▸ h.row j hj, h.frz, h.ne, h.n0, h.n1⟩

theorem freeN_none (n : Nat) : freeN (fun _ => false) n = n := by simp [freeN]

/-- One place that is set. -/
theorem freeN_set1 (T : Nat → Bool) (i n : Nat) (v : Bool) (hi : i < n) : freeN (fun j => if j = i then v else T j) n + (if T i then 0 else 1) = freeN T n + (if v then 0 else 1) := by
  have key : ∀ m, freeN (fun j => if j = i then v else T j) m + (if i < m then (if T i then 0 else 1) else 0) = freeN T m + (if i < m then (if v then 0 else 1) else 0) := by
    intro m
    induction m with
    | zero => simp [freeN]
    | succ m ih =>
      have s : ∀ S : Nat → Bool, freeN S (m + 1) = freeN S m + (if S m then 0 else 1) := fun S => by
        unfold freeN
        rw [List.range_succ, List.countP_append]
        cases h : S m <;> simp [h]
      rw [s, s]
      by_cases e : m = i
      · subst e
        have h1 : ¬ m < m := Nat.lt_irrefl _
        simp only [h1, if_false, Nat.add_zero] at ih
        simp only [Nat.lt_succ_self, if_true]
        omega
      · by_cases h : i < m
        · have h2 : i < m + 1 := by omega
          simp only [h, h2, if_true, e, if_false] at ih ⊢
          omega
        · have h2 : ¬ i < m + 1 := by omega
          simp only [h, h2, if_false, e, Nat.add_zero] at ih ⊢
          omega
  have := key n
  simpa [hi] using this

theorem freeN_set (T : Nat → Bool) (at_ n : Nat) (v : Bool) : ∀ run, at_ + run ≤ n → (∀ j, j < run → T (at_ + j) = !v) → (freeN (setT T at_ run v) n : Int) = freeN T n + (if v then -(run : Int) else run)
  | 0, _, _ => by
    have : setT T at_ 0 v = T := by
      funext j
      unfold setT
      rw [if_neg (by omega)]
    rw [this]
    cases v <;> simp
  | run + 1, h, hT => by
    have ih := freeN_set T at_ n v run (by omega) (fun j hj => hT j (by omega))
    have e : setT T at_ (run + 1) v = fun j => if j = at_ + run then v else setT T at_ run v j := by
      funext j
      unfold setT
      by_cases h1 : j = at_ + run
      · rw [if_pos (by omega), if_pos h1]
      · rw [if_neg h1]
        by_cases h2 : at_ ≤ j ∧ j < at_ + run
        · rw [if_pos (by omega), if_pos h2]
        · rw [if_neg (by omega), if_neg h2]
    have h1 := freeN_set1 (setT T at_ run v) (at_ + run) n v (by omega)
    have h2 : setT T at_ run v (at_ + run) = !v := by
      unfold setT
      rw [if_neg (by omega)]
      exact hT run (by omega)
    rw [← e, h2] at h1
    cases v <;> simp at h1 ih ⊢ <;> omega

theorem info_bool : (Tryz.prog.info? 4).map (fun i => (i.zero, i.size, i.bytes)) = some (some (.bool false), 1, 1) := by kernel_rfl

theorem madeCells_at (z : Value) (n j : Nat) (hj : j < n) : (madeCells #[z] n)[j]? = some z := by
  simp [madeCells, hj, Nat.mod_one]

set_option maxRecDepth 100000 in
set_option maxHeartbeats 1000000 in
theorem markNew_ok (w : World) (n : Nat) (h0 : 0 < n) (h1 : n ≤ 256) : Calls Tryz.prog 72 #[.int .i64 n] w fun e w' => ∃ b bt, e = .returned (.tuple #[.pointer (some ⟨b, 0, none⟩), .int .i64 0]) ∧ MarksAt w' b bt n (fun _ => false) ∧ w.heap.size ≤ b ∧ w.heap.size ≤ bt ∧ Below w.heap.size w w' := by
  have hmk : ∀ w : World, (Instr.makeSlice 69 (.int .i64 n) (.int .i64 n)).run Tryz.prog w = .ok (.slice (some ⟨w.heap.size, 0, none⟩) n n) (w.alloc (.cells (madeCells #[.bool false] n) 4)) :=
    fun w => run_make_row' 69 4 (.bool false) 1 Tryz.underlying69 info_bool rfl .i64 .i64 n (by omega) (by omega) w
  go_enter Tryz.func72, Tryz.ntmps72
  go_wp2_with fail
  go_ret2
  have hB : Below w.heap.size w (w.alloc (.cells (madeCells #[.bool false] n) 4)) := (Below.refl _ _).alloc (Nat.le_refl _) _
  have hsz : (w.alloc (.cells (madeCells #[.bool false] n) 4)).heap.size = w.heap.size + 1 := by simp
  refine ⟨w.heap.size + 1, w.heap.size, rfl, ?_, by omega, Nat.le_refl _, hB.alloc hB.size _⟩
  have ho : ∀ (o : Obj) j, ((w.alloc (.cells (madeCells #[.bool false] n) 4)).alloc o).cell? ⟨w.heap.size, j, none⟩ = (w.alloc (.cells (madeCells #[.bool false] n) 4)).cell? ⟨w.heap.size, j, none⟩ := fun o j => World.cell?_alloc_lt _ o ⟨w.heap.size, j, none⟩ (by simp)
  refine ⟨?_, ?_, by simp, fun j hj => ?_, fun j hj => by simp, by omega, h0, h1⟩
  · rw [← hsz, World.cell?_alloc_new]; rfl
  · rw [← hsz, World.cell?_alloc_new, freeN_none]; rfl
  · rw [ho, World.cell?_alloc_new]
    exact madeCells_at _ n j hj

theorem marksLeft {w : World} {b bt n : Nat} {T : Nat → Bool} (h : MarksAt w b bt n T) : Calls Tryz.prog 38 #[.pointer (some ⟨b, 0, none⟩)] w fun e w' => e = .returned (.int .i64 (freeN T n)) ∧ w' = w := by
  have hl := h.left
  clear h
  go_enter Tryz.func38, Tryz.ntmps38
  go_wp2_with fail
  go_ret
  exact ⟨rfl, rfl⟩
end Go.Proofs.YtbljphaklciinaaGreat
