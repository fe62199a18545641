/- Walks of the program's functions, and plain laws on what they compute, text by text (MarkW, MarkR, PageFree, From, Range, Chain, MarkT, Arena). No condition. -/
import Derived.Test.YtbljphaklciinaaGreatHb03
import Derived.Sort.QuietIn

/- Layer 3 (mark): row, set, Mark, Free. -/
namespace Go.Proofs.YtbljphaklciinaaGreat
open Go.RowKit

set_option maxHeartbeats 1000000 in
theorem index_bools (w : World) (g o n c : Nat) (T : Nat → Bool) (v : Bool) (hc : ∀ j, j < n → w.cell? ⟨g, o + j, none⟩ = some (.bool (T (o + j)))) (hn : n ≤ 9223372036854775807) :
    Calls Tryz.prog 134 #[.slice (some ⟨g, o, none⟩) n c, .bool v] w fun e w' => w' = w ∧ ((∃ k : Nat, k < n ∧ T (o + k) = v ∧ (∀ j, j < k → T (o + j) ≠ v) ∧ e = .returned (.int .i64 k)) ∨ ((∀ j, j < n → T (o + j) ≠ v) ∧ e = .returned (.int .i64 (-1)))) := by
  have HC := Lib.hid hc
  clear hc
  go_enter Tryz.func134, Tryz.ntmps134
  go_wp2_with fail
  go_loop [8] (fun i => ∃ k : Nat, k ≤ n ∧ i = .int .i64 k ∧ Hid (∀ j, j < k → T (o + j) ≠ v)) (fun i => n - (intOf i).toNat)
  case atStart => exact ⟨0, by omega, rfl, fun j hj => by omega⟩
  case round =>
    obtain ⟨k, hk, rfl, hb⟩ := hrel
    by_cases hlt : k < n
    · have h1 := HC.out k hlt
      by_cases hv : T (o + k) = v
      · have HV := Lib.hid hv
        rw [hv] at h1
        have hq : (v == v) = true := by simp
        clear hv
        go_wp2_with fail
        go_ret
        exact ⟨rfl, .inl ⟨k, hlt, HV.out, hb.out, rfl⟩⟩
      · have hv2 : T (o + k) = !v := by cases h : T (o + k) <;> cases v <;> simp_all
        rw [hv2] at h1
        have HB : Hid (∀ j, j < k + 1 → T (o + j) ≠ v) := fun j hj => by
          rcases Nat.lt_succ_iff_lt_or_eq.1 hj with h | rfl
          · exact hb.out j h
          · exact hv
        have hq : (v == !v) = false := by cases v <;> rfl
        clear hv hv2 hb
        go_wp2_with fail
        go_round
        case rel => exact ⟨k + 1, by omega, by go_num, HB⟩
        case measure => simp [intOf]; omega
    · obtain rfl : k = n := by omega
      go_wp2_with fail
      go_ret
      exact ⟨rfl, .inr ⟨hb.out, rfl⟩⟩

theorem contains_bools (w : World) (g o n c : Nat) (T : Nat → Bool) (v : Bool) (hc : ∀ j, j < n → w.cell? ⟨g, o + j, none⟩ = some (.bool (T (o + j)))) (hn : n ≤ 9223372036854775807) :
    Calls Tryz.prog 137 #[.slice (some ⟨g, o, none⟩) n c, .bool v] w fun e w' => w' = w ∧ ((∃ k : Nat, k < n ∧ T (o + k) = v ∧ e = .returned (.bool true)) ∨ ((∀ j, j < n → T (o + j) ≠ v) ∧ e = .returned (.bool false))) := by
  have HX := Lib.hid (index_bools w g o n c T v hc hn)
  clear hc
  go_enter Tryz.func137, Tryz.ntmps137
  go_wp2_with fail
  refine HX.out.mono ?_
  rintro e w' ⟨rfl, ⟨k, hk, hT, _, rfl⟩ | ⟨hN, rfl⟩⟩
  · have HT := Lib.hid hT
    clear hT
    have hq : (0 : Int) ≤ (k : Int) := by omega
    go_wp2_with fail
    go_ret
    exact ⟨rfl, .inl ⟨k, hk, HT.out, rfl⟩⟩
  · have HN := Lib.hid hN
    clear hN
    go_wp2_with fail
    go_ret
    exact ⟨rfl, .inr ⟨HN.out, rfl⟩⟩

set_option maxRecDepth 100000 in
set_option maxHeartbeats 2000000 in
theorem marksRow_ok {w : World} {b bt n : Nat} {T : Nat → Bool} (H : MarksAt w b bt n T) (at_ run : Nat) (v : Bool) (no : Int) (hr : 1 ≤ run) (ha : at_ + run ≤ n) (hT : ∀ j, j < run → T (at_ + j) ≠ v) :
    Calls Tryz.prog 120 #[.pointer (some ⟨b, 0, none⟩), .int .i64 at_, .int .i64 run, .bool v, .int .i64 no] w fun e w' => e = .returned (.tuple #[.slice (some ⟨bt, at_, none⟩) run (n - at_), .int .i64 0]) ∧ w' = w := by
  have hp := H.ptr
  have h1 := H.n1
  have HC := Lib.hid (fun (w' : World) (c : Nat) (e : w' = w) => contains_bools w' bt at_ run c T v (fun j hj => e ▸ H.row _ (by omega)) (by omega))
  have HT := Lib.hid hT
  clear H hT
  go_enter Tryz.func120, Tryz.ntmps120
  go_wp2_with fail
  refine (HC.out w _ rfl).mono ?_
  rintro e w' ⟨rfl, ⟨k, hk, h2, rfl⟩ | ⟨_, rfl⟩⟩
  · exact absurd h2 (HT.out k hk)
  · go_wp2_with fail
    go_ret2
    exact ⟨by simp, rfl⟩

set_option maxRecDepth 100000 in
set_option maxHeartbeats 2000000 in
theorem marksRow_no {w : World} {b bt n : Nat} {T : Nat → Bool} (H : MarksAt w b bt n T) (at_ run : Nat) (v : Bool) (no : Int) (hr : 1 ≤ run) (ha : at_ + run ≤ n) (j0 : Nat) (hj0 : j0 < run) (hT : T (at_ + j0) = v) :
    Calls Tryz.prog 120 #[.pointer (some ⟨b, 0, none⟩), .int .i64 at_, .int .i64 run, .bool v, .int .i64 no] w fun e w' => e = .returned (.tuple #[.slice none 0 0, .int .i64 no]) ∧ w' = w := by
  have hp := H.ptr
  have h1 := H.n1
  have HC := Lib.hid (fun (w' : World) (c : Nat) (e : w' = w) => contains_bools w' bt at_ run c T v (fun j hj => e ▸ H.row _ (by omega)) (by omega))
  have HT := Lib.hid hT
  clear H hT
  go_enter Tryz.func120, Tryz.ntmps120
  go_wp2_with fail
  refine (HC.out w _ rfl).mono ?_
  rintro e w' ⟨rfl, ⟨k, hk, _, rfl⟩ | ⟨h2, rfl⟩⟩
  · go_wp2_with fail
    go_ret2
    exact ⟨rfl, rfl⟩
  · exact absurd HT.out (h2 j0 hj0)

set_option maxRecDepth 100000 in
set_option maxHeartbeats 2000000 in
theorem marksSet {w : World} {b bt n : Nat} {T : Nat → Bool} (H : MarksAt w b bt n T) (at_ run c : Nat) (v : Bool) (ha : at_ + run ≤ n) (hT : ∀ j, j < run → T (at_ + j) = !v) :
    Calls Tryz.prog 121 #[.pointer (some ⟨b, 0, none⟩), .slice (some ⟨bt, at_, none⟩) run c, .bool v] w fun e w' => e = .returned (.tuple #[]) ∧ MarksAt w' b bt n (setT T at_ run v) ∧ PFr w w' b bt := by
  have h1 := H.n1
  have HF := Lib.hid (freeN_set T at_ n v run ha hT)
  have HH := Lib.hid H
  have HT := Lib.hid hT
  have hne := H.ne
  clear H hT
  go_enter Tryz.func121, Tryz.ntmps121
  go_wp2_with fail
  go_loopw [9] (fun i wr => ∃ k : Nat, k ≤ run ∧ i = .int .i64 k ∧ Hid (∀ j, j < n → wr.cell? ⟨bt, j, none⟩ = some (.bool (setT T at_ k v j)) ∧ wr.frozen? ⟨bt, j, none⟩ = false) ∧ Hid (PFr w wr bt bt)) (fun i _ => run - (intOf i).toNat)
  case atStart => exact ⟨0, by omega, rfl, fun j hj => ⟨by rw [HH.out.row j hj]; congr 2; unfold setT; rw [if_neg (by omega)], HH.out.frz j hj⟩, PFr.refl _ _ _⟩
  case round =>
    obtain ⟨k, hk, rfl, HR, HP⟩ := hrel
    by_cases hlt : k < run
    · obtain ⟨c1, z1⟩ := HR.out (at_ + k) (by omega)
      have HR2 : Hid (∀ j, j < n → (wr.setCell ⟨bt, at_ + k, none⟩ (.bool v)).cell? ⟨bt, j, none⟩ = some (.bool (setT T at_ (k + 1) v j)) ∧ (wr.setCell ⟨bt, at_ + k, none⟩ (.bool v)).frozen? ⟨bt, j, none⟩ = false) := fun j hj => by
        refine ⟨?_, by simpa using (HR.out j hj).2⟩
        by_cases e : j = at_ + k
        · subst e
          rw [World.cell?_setCell_same' _ _ _ (by rw [c1]; rfl)]
          congr 2
          unfold setT
          rw [if_pos (by omega)]
        · rw [World.cell?_setCell_other _ _ _ _ (by simp [e]), (HR.out j hj).1]
          congr 2
          unfold setT
          by_cases h2 : at_ ≤ j ∧ j < at_ + k
          · rw [if_pos h2, if_pos (by omega)]
          · rw [if_neg h2, if_neg (by omega)]
      have HP2 : Hid (PFr w (wr.setCell ⟨bt, at_ + k, none⟩ (.bool v)) bt bt) := HP.out.set _ _
      clear HR HP
      go_wp2_with fail
      go_roundw
      case rel => exact ⟨k + 1, by omega, by go_num, HR2, HP2⟩
      case measure => simp [intOf]; omega
    · obtain rfl : k = run := by omega
      have hbl := HH.out.lt_b
      have hl : wr.cell? ⟨b, 1, none⟩ = some (.int .i64 (freeN T n)) := (World.cell?_of_block (a := ⟨b, 1, none⟩) (HP.out.block b hbl hne hne)).trans HH.out.left
      have hz : wr.frozen? ⟨b, 1, none⟩ = false := (World.frozen?_of_block (a := ⟨b, 1, none⟩) (HP.out.block b hbl hne hne)).trans HH.out.zl
      have hp : wr.cell? ⟨b, 0, none⟩ = some (.slice (some ⟨bt, 0, none⟩) n n) := (World.cell?_of_block (a := ⟨b, 0, none⟩) (HP.out.block b hbl hne hne)).trans HH.out.ptr
      have hf1 : freeN T n ≤ n := by unfold freeN; exact Nat.le_trans List.countP_le_length (by simp)
      have HFIN : Hid (∀ (x : Int), x = (freeN (setT T at_ k v) n : Int) → MarksAt (wr.setCell ⟨b, 1, none⟩ (.int .i64 x)) b bt n (setT T at_ k v) ∧ PFr w (wr.setCell ⟨b, 1, none⟩ (.int .i64 x)) b bt) := by
        rintro x rfl
        refine ⟨⟨?_, World.cell?_setCell_same' _ _ _ (by rw [hl]; rfl), by simpa using hz, fun j hj => ?_, fun j hj => by simpa using (HR.out j hj).2, hne, HH.out.n0, h1⟩, ?_⟩
        · rw [World.cell?_setCell_other _ _ _ _ (by simp)]; exact hp
        · rw [World.cell?_setCell_other _ _ _ _ (by simp [Ne.symm hne])]; exact (HR.out j hj).1
        · have h : PFr w wr b bt := ⟨HP.out.os, HP.out.tape, HP.out.output, HP.out.size, fun k hk _ h2 => HP.out.block k hk h2 h2⟩
          exact h.set _ _
      have hF := HF.out
      clear HR HP
      cases v with
      | true =>
        simp only [if_true] at hF
        have HF2 := Lib.hid hF
        clear hF HF
        go_wp2_with fail
        go_end0
        exact ⟨rfl, HFIN.out _ (by have := HF2.out; omega)⟩
      | false =>
        simp only [Bool.false_eq_true, if_false] at hF
        have HF2 := Lib.hid hF
        clear hF HF
        go_wp2_with fail
        go_end0
        exact ⟨rfl, HFIN.out _ (by have := HF2.out; omega)⟩

set_option maxRecDepth 100000 in
set_option maxHeartbeats 2000000 in
/-- Mark of a row that is free. -/
theorem marksMark {w : World} {b bt n : Nat} {T : Nat → Bool} (H : MarksAt w b bt n T) (at_ run : Nat) (hr : 1 ≤ run) (ha : at_ + run ≤ n) (hT : ∀ j, j < run → T (at_ + j) = false) :
    Calls Tryz.prog 89 #[.pointer (some ⟨b, 0, none⟩), .int .i64 at_, .int .i64 run] w fun e w' => e = .returned (.int .i64 0) ∧ MarksAt w' b bt n (setT T at_ run true) ∧ PFr w w' b bt := by
  have HR := Lib.hid (fun no => marksRow_ok H at_ run true no hr ha (fun j hj => by rw [hT j hj]; simp))
  have HS := Lib.hid (marksSet H at_ run (n - at_) true ha hT)
  clear H hT
  go_enter Tryz.func89, Tryz.ntmps89
  go_wp2_with fail
  refine (HR.out _).mono ?_
  rintro e w' ⟨rfl, rfl⟩
  go_wp2_with fail
  refine HS.out.mono ?_
  rintro e w' ⟨rfl, hm, hp⟩
  have HM := Lib.hid hm
  have HP := Lib.hid hp
  clear hm hp
  go_wp2_with fail
  go_ret
  exact ⟨rfl, HM.out, HP.out⟩

set_option maxRecDepth 100000 in
set_option maxHeartbeats 2000000 in
/-- Mark of a row that isn't all free. -/
theorem marksMark_no {w : World} {b bt n : Nat} {T : Nat → Bool} (H : MarksAt w b bt n T) (at_ run : Nat) (hr : 1 ≤ run) (ha : at_ + run ≤ n) (j0 : Nat) (hj0 : j0 < run) (hT : T (at_ + j0) = true) :
    Calls Tryz.prog 89 #[.pointer (some ⟨b, 0, none⟩), .int .i64 at_, .int .i64 run] w fun e w' => e = .returned (.int .i64 6) ∧ w' = w := by
  have HR := Lib.hid (fun no => marksRow_no H at_ run true no hr ha j0 hj0 hT)
  clear H hT
  go_enter Tryz.func89, Tryz.ntmps89
  go_wp2_with fail
  refine (HR.out _).mono ?_
  rintro e w' ⟨rfl, rfl⟩
  go_wp2_with fail
  go_ret
  exact ⟨rfl, rfl⟩

set_option maxRecDepth 100000 in
set_option maxHeartbeats 2000000 in
/-- Free of a row that is taken. -/
theorem marksFree {w : World} {b bt n : Nat} {T : Nat → Bool} (H : MarksAt w b bt n T) (at_ run : Nat) (hr : 1 ≤ run) (ha : at_ + run ≤ n) (hT : ∀ j, j < run → T (at_ + j) = true) :
    Calls Tryz.prog 90 #[.pointer (some ⟨b, 0, none⟩), .int .i64 at_, .int .i64 run] w fun e w' => e = .returned (.int .i64 0) ∧ MarksAt w' b bt n (setT T at_ run false) ∧ PFr w w' b bt := by
  have HR := Lib.hid (fun no => marksRow_ok H at_ run false no hr ha (fun j hj => by rw [hT j hj]; simp))
  have HS := Lib.hid (marksSet H at_ run (n - at_) false ha hT)
  clear H hT
  go_enter Tryz.func90, Tryz.ntmps90
  go_wp2_with fail
  refine (HR.out _).mono ?_
  rintro e w' ⟨rfl, rfl⟩
  go_wp2_with fail
  refine HS.out.mono ?_
  rintro e w' ⟨rfl, hm, hp⟩
  have HM := Lib.hid hm
  have HP := Lib.hid hp
  clear hm hp
  go_wp2_with fail
  go_ret
  exact ⟨rfl, HM.out, HP.out⟩
end Go.Proofs.YtbljphaklciinaaGreat

/- Layer 3 (mark): rows: the iterator over all rows of free places. -/
namespace Go.Proofs.YtbljphaklciinaaGreat
open Go.RowKit Go.Shelf

attribute [local go_sem] Oper.semAt_some

abbrev Rw := Fin 257 × Fin 257

/-- Rows of free places from s on, told up to e. -/
def RowsTo (T : Nat → Bool) (m : Nat) : Nat → List Rw → Nat → Prop
  | s, [], e => s ≤ e ∧ ∀ a, s ≤ a → a < e → a < m → T a = true
  | s, x :: r, e => s ≤ x.1.val ∧ (∀ a, s ≤ a → a < x.1.val → a < m → T a = true) ∧ 1 ≤ x.2.val ∧ x.1.val + x.2.val ≤ m ∧ (∀ j, j < x.2.val → T (x.1.val + j) = false) ∧ (x.1.val + x.2.val = m ∨ T (x.1.val + x.2.val) = true) ∧ RowsTo T m (x.1.val + x.2.val) r e

theorem RowsTo.more {T : Nat → Bool} {m : Nat} : ∀ {pre : List Rw} {s e e' : Nat}, RowsTo T m s pre e → e ≤ e' → (∀ a, e ≤ a → a < e' → a < m → T a = true) → RowsTo T m s pre e'
  | [], s, e, e', h, he, hT => ⟨Nat.le_trans h.1 he, fun a h1 h2 h3 => by
      by_cases h4 : a < e
      · exact h.2 a h1 h4 h3
      · exact hT a (by omega) h2 h3⟩
  | x :: r, s, e, e', ⟨h1, h2, h3, h4, h5, h5', h6⟩, he, hT => ⟨h1, h2, h3, h4, h5, h5', RowsTo.more h6 he hT⟩
theorem RowsTo.snoc {T : Nat → Bool} {m : Nat} {x : Rw} (k1 : 1 ≤ x.2.val) (k2 : x.1.val + x.2.val ≤ m) (k3 : ∀ j, j < x.2.val → T (x.1.val + j) = false) (k4 : x.1.val + x.2.val = m ∨ T (x.1.val + x.2.val) = true) : ∀ {pre : List Rw} {s : Nat}, RowsTo T m s pre x.1.val → RowsTo T m s (pre ++ [x]) (x.1.val + x.2.val)
  | [], s, h => ⟨h.1, h.2, k1, k2, k3, k4, Nat.le_refl _, fun a h1 h2 _ => by omega⟩
  | y :: r, s, ⟨h1, h2, h3, h4, h5, h5', h6⟩ => ⟨h1, h2, h3, h4, h5, h5', RowsTo.snoc k1 k2 k3 k4 h6⟩
theorem RowsTo.le {T : Nat → Bool} {m : Nat} : ∀ {pre : List Rw} {s e : Nat}, RowsTo T m s pre e → s ≤ e
  | [], _, _, h => h.1
  | _ :: _, _, _, ⟨h1, _, _, _, _, _, h6⟩ => by have := h6.le; omega
/-- A free row lies within a row that was told. -/
theorem RowsTo.within {T : Nat → Bool} {m : Nat} : ∀ {pre : List Rw} {s e a run : Nat}, RowsTo T m s pre e → s ≤ a → a < e → 1 ≤ run → a + run ≤ m → (∀ j, j < run → T (a + j) = false) → ∃ x ∈ pre, x.1.val ≤ a ∧ a + run ≤ x.1.val + x.2.val
  | [], s, e, a, run, h, h1, h2, h3, h4, h5 => by
      have := h.2 a h1 h2 (by omega)
      have h6 := h5 0 (by omega)
      rw [Nat.add_zero, this] at h6
      cases h6
  | x :: r, s, e, a, run, ⟨k1, k2, k3, k4, k5, k5', k6⟩, h1, h2, h3, h4, h5 => by
      by_cases g1 : a < x.1.val
      · have := k2 a h1 g1 (by omega)
        have h6 := h5 0 (by omega)
        rw [Nat.add_zero, this] at h6
        cases h6
      · by_cases g2 : a < x.1.val + x.2.val
        · refine ⟨x, by simp, by omega, ?_⟩
          by_cases g3 : a + run ≤ x.1.val + x.2.val
          · exact g3
          · rcases k5' with g4 | g4
            · omega
            · have g5 := h5 (x.1.val + x.2.val - a) (by omega)
              rw [show a + (x.1.val + x.2.val - a) = x.1.val + x.2.val by omega, g4] at g5
              cases g5
        · obtain ⟨y, hy, hz⟩ := RowsTo.within k6 (by omega) h2 h3 h4 h5
          exact ⟨y, by simp [hy], hz⟩

theorem RowsTo.unsnoc {T : Nat → Bool} {m : Nat} {x : Rw} : ∀ {pre : List Rw} {s e : Nat}, RowsTo T m s (pre ++ [x]) e → RowsTo T m s pre x.1.val ∧ x.1.val + x.2.val ≤ m ∧ (∀ j, j < x.2.val → T (x.1.val + j) = false)
  | [], s, e, ⟨h1, h2, h3, h4, h5, _, _⟩ => ⟨⟨h1, h2⟩, h4, h5⟩
  | y :: r, s, e, ⟨h1, h2, h3, h4, h5, h5', h6⟩ => by
    obtain ⟨g1, g2, g3⟩ := RowsTo.unsnoc h6
    exact ⟨⟨h1, h2, h3, h4, h5, h5', g1⟩, g2, g3⟩

set_option maxRecDepth 100000 in
set_option maxHeartbeats 4000000 in
theorem rows1_in (l Bs n₀ b bt m : Nat) (T : Nat → Bool) (hm : m ≤ 256) (hb : b < n₀) (hbt : bt < n₀) (J Jx : List Rw → World → Prop)
    (hY : ∀ pre x W, J pre W → pre.length < 256 → YieldAt Fence.wide (4 - 1) Tryz.prog l #[.int .i64 ((x : Rw).1.val : Int), .int .i64 (x.2.val : Int)] W fun e W' =>
      (e = .returned (.bool true) ∧ J (pre ++ [x]) W' ∧ KeepC n₀ Bs W W') ∨ (e = .returned (.bool false) ∧ Jx (pre ++ [x]) W'))
    (W : World) (hBs : W.cell? ⟨Bs, 0, none⟩ = some (.pointer (some ⟨b, 0, none⟩))) (hp : W.cell? ⟨b, 0, none⟩ = some (.slice (some ⟨bt, 0, none⟩) m m)) (hc : ∀ j, j < m → W.cell? ⟨bt, j, none⟩ = some (.bool (T j))) (h0 : J [] W) :
    CallsIn Fence.wide 4 Tryz.prog 133 #[.func (.yield l) #[] #[], .pointer (some ⟨Bs, 0, none⟩)] W fun e W' => (∃ v, e = .returned v) ∧
      ((∃ ys, (∃ e, m ≤ e ∧ RowsTo T m 0 ys e) ∧ J ys W') ∨ (∃ pre, (∃ e, RowsTo T m 0 pre e) ∧ Jx pre W')) := by
  refine callsIn_of_wp Tryz.func133 rfl trivial ?_ rfl
  simp only [Tryz.ntmps133, List.size_toArray, List.length_cons, List.length_nil, Nat.reduceAdd, Nat.reduceSub, Array.replicate_succ, Array.replicate_zero, List.push_toArray, List.append_toArray, List.nil_append, List.cons_append]
  have HP := Lib.hid hp
  have HC := Lib.hid hc
  have HBs := Lib.hid hBs
  clear hp hc hBs
  gi_wp2
  gi_loopw [3] (fun i wr => ∃ (k : Nat) (pre : List Rw), i = .int .i64 k ∧ k ≤ m + 1 ∧ pre.length ≤ k ∧ Hid (RowsTo T m 0 pre k) ∧ Hid (J pre wr) ∧ Hid (KeepC n₀ Bs W wr)) (fun i _ => m - (intOf i).toNat)
  case atStart => exact ⟨0, [], rfl, by omega, Nat.le_refl _, ⟨Nat.le_refl _, fun a _ h => by omega⟩, h0, KeepC.refl _ _ _⟩
  case round =>
    obtain ⟨k, pre, rfl, hk, hpl, HR, HJ, HK⟩ := hrel
    have hBs' := HK.out.2 _ HBs.out
    have hp' := (HK.out.1.cell (p := ⟨b, 0, none⟩) hb).trans HP.out
    by_cases hlt : k < m
    · have HI : Hid (∀ c, Calls Tryz.prog 134 #[.slice (some ⟨bt, k, none⟩) (m - k) c, .bool true] wr fun e w' => w' = wr ∧ ((∃ q : Nat, q < m - k ∧ T (k + q) = true ∧ (∀ j, j < q → T (k + j) ≠ true) ∧ e = .returned (.int .i64 q)) ∨ ((∀ j, j < m - k → T (k + j) ≠ true) ∧ e = .returned (.int .i64 (-1))))) := fun c =>
        index_bools wr bt k (m - k) c T true (fun j hj => (HK.out.1.cell (p := ⟨bt, k + j, none⟩) hbt).trans (HC.out (k + j) (by omega))) (by omega)
      gi_wp2
      refine ⟨trivial, (callsIn_wide.2 (HI.out _)).mono ?_⟩
      rintro e w1 ⟨rfl, ⟨q, hq, hTq, hTn, rfl⟩ | ⟨hTn, rfl⟩⟩
      · have HT1 := Lib.hid hTq
        have HT0 : Hid (∀ j, j < q → T (k + j) = false) := fun j hj => by have := hTn j hj; cases h : T (k + j) <;> simp_all
        clear hTq hTn HI
        by_cases q0 : q = 0
        · subst q0
          have HR2 : Hid (RowsTo T m 0 pre (k + 1)) := HR.out.more (Nat.le_succ _) (fun a h1 h2 _ => (show a = k by omega) ▸ HT1.out)
          clear HR
          rw [show ((0 : Nat) : Int) = 0 from rfl]
          gi_wp2
          refine ⟨nofun, ?_⟩
          gi_wp2
          go_roundw
          case rel => exact ⟨k + 1, pre, by go_num, by omega, by omega, HR2, HJ, HK⟩
          case measure => simp [intOf]; omega
        · have q1 : (0 : Int) < (q : Int) := by omega
          have q2 : ¬ (q : Int) < 0 := by omega
          obtain ⟨fn, tmps, assign, body, hy, hR⟩ := hY pre (⟨k, by omega⟩, ⟨q, by omega⟩) w1 HJ.out (by omega)
          dsimp only at hy
          have HX : Hid (RowsTo T m 0 (pre ++ [(⟨k, by omega⟩, ⟨q, by omega⟩)]) (k + q)) := RowsTo.snoc (x := (⟨k, by omega⟩, ⟨q, by omega⟩)) (by show 1 ≤ q; omega) (by show k + q ≤ m; omega) HT0.out (.inr HT1.out) HR.out
          clear HR HJ
          gi_wp2
          refine hR.mono ?_
          rintro e W3 (⟨rfl, hJ3, hk3⟩ | ⟨rfl, hJx3⟩)
          · have HJ3 := Lib.hid hJ3
            have HK3 := Lib.hid (HK.out.trans hk3)
            clear hJ3 hk3
            gi_wp2
            go_roundw
            case rel => exact ⟨k + q + 1, _, by go_num, by omega, by simp; omega, HX.out.more (Nat.le_succ _) (fun a h1 h2 _ => (show a = k + q by omega) ▸ HT1.out), HJ3.out, HK3.out⟩
            case measure => simp [intOf]; omega
          · gi_wp2
            refine bodyPost_ret (results_none rfl _ _ _) rfl ?_
            exact ⟨⟨_, rfl⟩, .inr ⟨_, ⟨_, HX.out⟩, hJx3⟩⟩
      · have HT0 : Hid (∀ j, j < m - k → T (k + j) = false) := fun j hj => by have := hTn j hj; cases h : T (k + j) <;> simp_all
        clear hTn HI
        obtain ⟨q, hq⟩ : ∃ q, q = m - k := ⟨_, rfl⟩
        have hqm : (m : Int) - (k : Int) = (q : Int) := by omega
        have hq1 : 1 ≤ q := by omega
        have hq2 : k + q = m := by omega
        rw [← hq] at HT0
        clear hq
        have q1 : (0 : Int) < (q : Int) := by omega
        obtain ⟨fn, tmps, assign, body, hy, hR⟩ := hY pre (⟨k, by omega⟩, ⟨q, by omega⟩) w1 HJ.out (by omega)
        dsimp only at hy
        have HX : Hid (RowsTo T m 0 (pre ++ [(⟨k, by omega⟩, ⟨q, by omega⟩)]) (k + q)) := RowsTo.snoc (x := (⟨k, by omega⟩, ⟨q, by omega⟩)) (by show 1 ≤ q; omega) (by show k + q ≤ m; omega) HT0.out (.inl hq2) HR.out
        clear HR HJ
        gi_wp2
        refine hR.mono ?_
        rintro e W3 (⟨rfl, hJ3, hk3⟩ | ⟨rfl, hJx3⟩)
        · have HJ3 := Lib.hid hJ3
          have HK3 := Lib.hid (HK.out.trans hk3)
          clear hJ3 hk3
          gi_wp2
          go_roundw
          case rel => exact ⟨k + q + 1, _, by go_num, by omega, by simp; omega, HX.out.more (Nat.le_succ _) (fun a h1 h2 h3 => by omega), HJ3.out, HK3.out⟩
          case measure => simp [intOf]; omega
        · gi_wp2
          refine bodyPost_ret (results_none rfl _ _ _) rfl ?_
          exact ⟨⟨_, rfl⟩, .inr ⟨_, ⟨_, HX.out⟩, hJx3⟩⟩
    · gi_wp2
      go_end0
      exact ⟨⟨_, rfl⟩, .inl ⟨_, ⟨k, by omega, HR.out⟩, HJ.out⟩⟩

theorem rows_any (w : World) (b : Nat) : Calls Tryz.prog 114 #[.pointer (some ⟨b, 0, none⟩)] w fun e w' => e = .returned (.func (.func 133) #[] #[.pointer (some ⟨w.heap.size, 0, none⟩)]) ∧ w' = w.alloc (.cells #[.pointer (some ⟨b, 0, none⟩)] 94) := by
  go_enter Tryz.func114, Tryz.ntmps114
  go_wp2_with fail
  go_ret
  exact ⟨rfl, rfl⟩
end Go.Proofs.YtbljphaklciinaaGreat

/- Layer 9 (page): given, Free. -/
namespace Go.Proofs.YtbljphaklciinaaGreat
open Go.RowKit

/-- What given says. -/
def givV (p : Pg) (a : Nat) : Int := if (idxV p.f p.s p.n a).2 = 0 ∧ (p.made : Int) ≤ (idxV p.f p.s p.n a).1 then 5 else (idxV p.f p.s p.n a).2

set_option maxRecDepth 100000 in
set_option maxHeartbeats 4000000 in
theorem given_ok {w : World} {b bm : Nat} {p : Pg} {a : Nat} (H : PageAt w b bm p) (hR : RunOk p.f p.s p.n) (ha : a < 18446744073709551616) :
    Calls Tryz.prog 65 #[.pointer (some ⟨b, 0, none⟩), .int .u64 a] w fun e w' => e = .returned (.int .i64 (givV p a)) ∧ Below w.heap.size w w' := by
  have hh : ∀ j, j < 14 → w.cell? ⟨b, j, none⟩ = some (pgV bm p j) := fun j hj => by have := H.cell j hj; rwa [Nat.zero_add] at this
  have c0 : w.cell? ⟨b, 0, none⟩ = some (.int .u64 p.f) := hh 0 (by omega)
  have c1 : w.cell? ⟨b, 1, none⟩ = some (.int .u64 p.s) := hh 1 (by omega)
  have c2 : w.cell? ⟨b, 2, none⟩ = some (.int .i64 p.n) := hh 2 (by omega)
  have c3 : w.cell? ⟨b, 3, none⟩ = some (.int .i64 p.made) := hh 3 (by omega)
  have hbl : b < w.heap.size := Obj_.lt H (by omega)
  have HR := Lib.hid hR
  have ha0 : (0 : Int) ≤ (a : Int) := by omega
  clear hh H hR
  go_enter Tryz.func65, Tryz.ntmps65
  go_wp2_with fail
  (with_reducible refine (index_ok _ p.f p.s p.n a HR.out ha0 (by omega)).mono ?_)
  rintro e w1 ⟨rfl, B1⟩
  have k3 : w1.cell? ⟨b, 3, none⟩ = some (.int .i64 p.made) := (B1.cell (p := ⟨b, 3, none⟩) hbl).trans c3
  have HB := Lib.hid B1
  clear B1 c0 c1 c2 c3
  by_cases he : (idxV p.f p.s p.n a).2 = 0
  · by_cases hi : (p.made : Int) ≤ (idxV p.f p.s p.n a).1
    · have HV : Hid (givV p a = 5) := by show _ = _; unfold givV; rw [if_pos ⟨he, hi⟩]
      have he' : ((idxV p.f p.s p.n a).2 == 0) = true := by rw [he]; rfl
      go_wp2_with fail
      go_ret
      exact ⟨by rw [HV.out]; rfl, HB.out⟩
    · have HV : Hid (givV p a = 0) := by show _ = _; unfold givV; rw [if_neg (fun h => hi h.2), he]
      have he' : ((idxV p.f p.s p.n a).2 == 0) = true := by rw [he]; rfl
      go_wp2_with fail
      go_ret
      exact ⟨by rw [HV.out]; rfl, HB.out⟩
  · have HV : Hid (givV p a = (idxV p.f p.s p.n a).2) := by show _ = _; unfold givV; rw [if_neg (fun h => he h.1)]
    have he' : ((idxV p.f p.s p.n a).2 == 0) = false := beq_eq_false_iff_ne.2 he
    go_wp2_with fail
    go_ret
    exact ⟨by rw [HV.out]; rfl, HB.out⟩

set_option maxRecDepth 100000 in
set_option maxHeartbeats 4000000 in
theorem pageFree_ok {w : World} {b bm bb sz g c : Nat} {p : Pg} {f : Nat → Nat} {a : Nat} (H : PageAt w b bm p) (M : MemAt w bm bb sz f) (hg : w.cell? ⟨g, 0, none⟩ = some (.int .u64 a)) (hb : b ≠ bb) (hbm : b ≠ bm) (hR : RunOk p.f p.s p.n) (ha0 : 0 < a) (ha : a + 8 ≤ sz) (hv : givV p a = 0) (hu : 0 < p.used) (hu2 : p.used ≤ 1024) (hl : p.loc.length ≤ 1024) (hd : p.loc.headD 0 < 18446744073709551616) :
    Calls Tryz.prog 45 #[.pointer (some ⟨b, 0, none⟩), .slice (some ⟨g, 0, none⟩) 1 c] w fun e w' => e = .returned (.int .i64 0) ∧ PageAt w' b bm { p with loc := a :: p.loc, used := p.used - 1 } ∧ MemAt w' bm bb sz (putW f a (p.loc.headD 0)) ∧ PFr w w' b bb := by
  have HH := Lib.hid H
  have HM := Lib.hid M
  have HR := Lib.hid hR
  have HV := Lib.hid hv
  have hs1 := M.s1
  clear H M hR hv
  go_enter Tryz.func45, Tryz.ntmps45
  go_wp2_with fail
  go_loopw [13] (fun i wr => (i = .int .i64 ((0 : Nat) : Int) ∧ Hid (wr = w)) ∨ (i = .int .i64 ((1 : Nat) : Int) ∧ Hid (PageAt wr b bm { p with loc := a :: p.loc, used := p.used - 1 } ∧ MemAt wr bm bb sz (putW f a (p.loc.headD 0)) ∧ PFr w wr b bb))) (fun i _ => 1 - (intOf i).toNat)
  case atStart => exact .inl ⟨rfl, rfl⟩
  case round =>
    rcases hrel with ⟨rfl, HW⟩ | ⟨rfl, HP⟩
    · obtain rfl := HW.out
      have hbl := Obj_.lt HH.out (by omega)
      have HGV : Hid (Calls Tryz.prog 65 #[.pointer (some ⟨b, 0, none⟩), .int .u64 a] wr fun e w' => e = .returned (.int .i64 0) ∧ Below wr.heap.size wr w') := by
        have h := given_ok HH.out HR.out (a := a) (by omega)
        rw [HV.out] at h
        exact h
      go_wp2_with fail
      (with_reducible refine HGV.out.mono ?_)
      rintro e w1 ⟨rfl, B1⟩
      have HB := Lib.hid B1
      have H1 := Lib.hid (Obj_.of_block HH.out (HB.out.block b hbl))
      have M1 := Lib.hid (HM.out.below HB.out (Nat.le_refl _))
      have G1 := Lib.hid (PFr.of_below (b := b) (bb := bb) HB.out)
      have hbl2 : b < w1.heap.size := Obj_.lt H1.out (by omega)
      clear B1 hg HW HH HM HGV HB HV
      have hc : ∀ q, q < 14 → w1.cell? ⟨b, q, none⟩ = some (pgV bm p q) := fun q hq => by have := H1.out.cell q hq; rwa [Nat.zero_add] at this
      have hz : ∀ q, q < 14 → w1.frozen? ⟨b, q, none⟩ = false := fun q hq => by have := Obj_.frz H1.out q hq; rwa [Nat.zero_add] at this
      have k4 : w1.cell? ⟨b, 4, none⟩ = some (.int .i64 p.used) := hc 4 (by omega)
      have b5 : w1.cell? ⟨b, 5, none⟩ = some (.pointer (some ⟨bm, 0, none⟩)) := hc 5 (by omega)
      have hb5 : (w1.alloc (.cells #[.int .u64 (a : Int)] 29)).drew.cell? ⟨b, 5, none⟩ = some (.pointer (some ⟨bm, 0, none⟩)) := (World.cell?_alloc_lt _ _ _ hbl2).trans b5
      have hu0 : ((p.used : Int) == 0) = false := beq_eq_false_iff_ne.2 (by omega)
      have HCP : Hid (Calls Tryz.prog 80 #[.pointer (some ⟨b, 8, none⟩), .pointer (some ⟨bm, 0, none⟩), .slice (some ⟨w1.heap.size, 0, none⟩) 1 1] (w1.alloc (.cells #[.int .u64 (a : Int)] 29)).drew fun e w' => e = .returned (.int .i64 0) ∧ PushTo (w1.alloc (.cells #[.int .u64 (a : Int)] 29)).drew b 8 bm bb sz (putW f a (p.loc.headD 0)) a ((p.loc.length : Int) + 1) w') :=
        listPush_ok (o := 8) ((M1.out.alloc _).drew) ((World.cell?_alloc_lt _ _ _ hbl2).trans (hc 8 (by omega))) ((World.cell?_alloc_lt _ _ _ hbl2).trans (hc 9 (by omega))) ((World.frozen?_of_block (a := ⟨b, 8, none⟩) (Below.heap_alloc _ _ _ hbl2)).trans (hz 8 (by omega))) ((World.frozen?_of_block (a := ⟨b, 9, none⟩) (Below.heap_alloc _ _ _ hbl2)).trans (hz 9 (by omega)))
          (by show (w1.alloc _).cell? _ = _; rw [World.cell?_alloc_new]; rfl) hb ha0 ha hd (by omega) (by omega)
      clear hc hz
      go_wp2_with fail
      go_region_held3 (fun w' => w'.cell? ⟨b, 5, none⟩ = some (.pointer (some ⟨bm, 0, none⟩)))
        (first | exact b5 | exact hb5 | exact KC.out | fail)
        (first
          | (go_at_call 80; (with_reducible refine HCP.out.mono ?_); rintro e w4 ⟨rfl, w3, O3, M3, hw4⟩; have HW4 := Lib.hid hw4; have HO3 := Lib.hid O3; have HM3 := Lib.hid M3; have KC : Hid (w4.cell? ⟨b, 5, none⟩ = some (.pointer (some ⟨bm, 0, none⟩))) := (by show _ = _; rw [HW4.out, World.cell?_setCell_other _ _ _ _ (by simp), World.cell?_setCell_other _ _ _ _ (by simp)]; exact (World.cell?_of_block (a := ⟨b, 5, none⟩) (HO3.out.gr.block b (by simp; omega) (by simpa using hb))).trans hb5); clear hw4 O3 M3)
          | fail)
      have HPq := Lib.hid (Obj_.of_block (w' := (w1.alloc (.cells #[.int .u64 (a : Int)] 29)).drew) H1.out (Below.heap_alloc _ _ _ hbl2))
      have HP3 := Lib.hid (Obj_.of_block HPq.out (HO3.out.gr.block b (Obj_.lt HPq.out (by omega)) (by simpa using hb)))
      have HP4 : Hid (Obj_ w4 b 0 14 (upd (upd (pgV bm p) 8 (.int .u64 a)) 9 (.int .i64 ((p.loc.length : Int) + 1)))) := by
        have h := (HP3.out.set (i := 8) (by omega) (.int .u64 a)).set (i := 9) (by omega) (.int .i64 ((p.loc.length : Int) + 1))
        simp only [Nat.zero_add] at h
        rw [HW4.out]
        exact h
      have j4 : w4.cell? ⟨b, 4, none⟩ = some (.int .i64 p.used) := by have h := Obj_.cell HP4.out 4 (by omega); rwa [Nat.zero_add] at h
      have y4 : w4.frozen? ⟨b, 4, none⟩ = false := by have h := Obj_.frz HP4.out 4 (by omega); rwa [Nat.zero_add] at h
      clear KC b5 hb5 k4 HCP
      go_wp2_with fail
      go_roundw
      case measure => simp [intOf]
      case rel =>
        refine .inr ⟨by go_num, ?_, ?_, ?_⟩
        · have O5 := HP4.out.set (i := 4) (by omega) (.int .i64 ((p.used : Int) - 1))
          rw [Nat.zero_add] at O5
          refine O5.congr (fun j hj => ?_)
          rcases lt14 hj with rfl | rfl | rfl | rfl | rfl | rfl | rfl | rfl | rfl | rfl | rfl | rfl | rfl | rfl <;> first | rfl | (simp [upd, pgV]; done) | (simp [upd, pgV]; omega)
        · rw [HW4.out]
          exact ((HM3.out.set_far 8 _ hb hbm).set_far _ _ hb hbm).set_far _ _ hb hbm
        · rw [HW4.out]
          have h1 : PFr w1 (w1.alloc (.cells #[.int .u64 (a : Int)] 29)).drew b bb := have h := PFr.grown (World.grownBy_alloc w1 _ (some b)); ⟨h.os, h.tape, h.output, h.size, h.block⟩
          exact (((G1.out.trans (h1.trans (PFr.only HO3.out))).set _ _).set _ _).set _ _
    · clear HH HM HR HV hg
      go_wp2_with fail
      go_ret
      exact ⟨rfl, HP.out⟩
end Go.Proofs.YtbljphaklciinaaGreat

/- Layer 7 (list): what hangs on a block, handed on. -/
namespace Go.Proofs.YtbljphaklciinaaGreat
open Go.RowKit Go.Shelf

attribute [local go_sem] Oper.semAt_some

theorem from_any (w : World) (bm h : Nat) : Calls Tryz.prog 130 #[.pointer (some ⟨bm, 0, none⟩), .int .u64 h] w fun e w' => e = .returned (.func (.func 141) #[] #[.pointer (some ⟨w.heap.size + 1, 0, none⟩), .pointer (some ⟨w.heap.size, 0, none⟩)]) ∧ ∃ T, w' = (w.alloc (.cells #[.pointer (some ⟨bm, 0, none⟩)] T)).alloc (.cells #[.int .u64 h] 29) := by
  go_enter Tryz.func130, Tryz.ntmps130
  go_wp2_with fail
  go_ret
  exact ⟨rfl, _, rfl⟩

/-- The number that lies in a cell. -/
def natAt (w : World) (q : Nat) : Nat := match w.cell? ⟨q, 0, none⟩ with
  | some (.int _ x) => x.toNat
  | _ => 0
def chainLen (f : Nat → Nat) : Nat → Nat → Nat
  | 0, _ => 0
  | n + 1, h => if h = 0 then 0 else chainLen f n (word f h) + 1
theorem chainLen_eq {f : Nat → Nat} : ∀ {L : List Nat} {n h : Nat}, Chain f h L → L.length ≤ n → chainLen f n h = L.length
  | [], n, h, hc, _ => by
    have hc : h = 0 := hc
    cases n with
    | zero => rfl
    | succ n => simp [chainLen, hc]
  | a :: r, n, h, ⟨h1, h2, h3⟩, hl => by
    cases n with
    | zero => simp at hl
    | succ n =>
      rw [chainLen, if_neg (by rw [h1]; exact h2), h1, chainLen_eq h3 (by simpa using hl)]
      rfl

/-- What a round keeps: what lay below n₀, and two cells. -/
def KeepF (n₀ Hs Ms : Nat) (A B : World) : Prop := Below n₀ A B ∧ ∀ q, q = Hs ∨ q = Ms → ∀ v, A.cell? ⟨q, 0, none⟩ = some v → B.cell? ⟨q, 0, none⟩ = some v ∧ B.frozen? ⟨q, 0, none⟩ = A.frozen? ⟨q, 0, none⟩
theorem KeepF.refl (n₀ Hs Ms : Nat) (A : World) : KeepF n₀ Hs Ms A A := ⟨Below.refl _ _, fun _ _ _ h => ⟨h, rfl⟩⟩
theorem KeepF.trans {n₀ Hs Ms : Nat} {A B C : World} (h : KeepF n₀ Hs Ms A B) (h' : KeepF n₀ Hs Ms B C) : KeepF n₀ Hs Ms A C :=
  ⟨h.1.trans h'.1, fun q hq v hv => have h1 := h.2 q hq v hv; have h2 := h'.2 q hq v h1.1; ⟨h2.1, h2.2.trans h1.2⟩⟩
theorem KeepF.put {n₀ Hs Ms : Nat} {w : World} (hn : n₀ ≤ w.heap.size) (W : World) (l : Nat) (o o' : Obj) (hl : w.heap.size ≤ l) (ho : W.heap[l]? = some o) (h1 : o.isCells = false) (h2 : o.isWalk = false) : KeepF n₀ Hs Ms W (W.putObj l o') :=
  ⟨belowK_b (w := w) hn W l o o' hl ho h1 h2, fun q _ v hv => ⟨cell_kept hv (grownBy_putObj' W l o') (fun r e => by cases e; exact ⟨o, ho, h1⟩), frozen_kept hv (grownBy_putObj' W l o') (fun r e => by cases e; exact ⟨o, ho, h1⟩)⟩⟩

theorem Below.weak {n m : Nat} {A B : World} (h : Below m A B) (hn : n ≤ m) : Below n A B := ⟨h.os, h.tape, h.output, h.size, fun k hk => h.block k (Nat.lt_of_lt_of_le hk hn)⟩
theorem natAt_of {w : World} {q : Nat} {x : Nat} {t : IntKind} (h : w.cell? ⟨q, 0, none⟩ = some (.int t (x : Nat))) : natAt w q = x := by
  unfold natAt
  rw [h]
  simp

set_option maxRecDepth 100000 in
set_option maxHeartbeats 2000000 in
theorem from1_in (n : Nat) (hn : 1 ≤ n) (l Hs Ms n₀ bm bb sz : Nat) (f : Nat → Nat) (L : List Nat) (hbm : bm < n₀) (hbb : bb < n₀) (hH : n₀ ≤ Hs) (hM : n₀ ≤ Ms) (hHM : Hs ≠ Ms) (hL : ∀ a ∈ L, a + 8 ≤ sz) (J Jx : List Nat → World → Prop)
    (hJ : ∀ pre W v, J pre W → J pre (W.setCell ⟨Hs, 0, none⟩ v))
    (hJB : ∀ pre W W', J pre W → Below W.heap.size W W' → J pre W')
    (hY : ∀ pre x W, J pre W → pre.length < L.length → YieldAt Fence.wide (n - 1) Tryz.prog l #[.int .u64 (x : Nat), .bool true] W fun e W' =>
      (e = .returned (.bool true) ∧ J (pre ++ [x]) W' ∧ KeepF n₀ Hs Ms W W') ∨ (e = .returned (.bool false) ∧ Jx (pre ++ [x]) W'))
    (W : World) (M : MemAt W bm bb sz f) (hhd : W.cell? ⟨Hs, 0, none⟩ = some (.int .u64 (L.headD 0 : Nat))) (hhz : W.frozen? ⟨Hs, 0, none⟩ = false) (hm : W.cell? ⟨Ms, 0, none⟩ = some (.pointer (some ⟨bm, 0, none⟩))) (hc : Chain f (L.headD 0) L) (h0 : J [] W) :
    CallsIn Fence.wide n Tryz.prog 141 #[.func (.yield l) #[] #[], .pointer (some ⟨Hs, 0, none⟩), .pointer (some ⟨Ms, 0, none⟩)] W fun e W' => (∃ v, e = .returned v) ∧
      ((∃ ys, ys = L ∧ J ys W') ∨ (∃ pre, (∃ k, k ≤ L.length ∧ pre = L.take k) ∧ Jx pre W')) := by
  refine callsIn_of_wp Tryz.func141 rfl trivial ?_ rfl
  simp only [Tryz.ntmps141, List.size_toArray, List.length_cons, List.length_nil, Nat.reduceAdd, Nat.reduceSub, Array.replicate_succ, Array.replicate_zero, List.push_toArray, List.append_toArray, List.nil_append, List.cons_append]
  gi_wp2
  gi_loopw [] (fun wr => ∃ k : Nat, k ≤ L.length ∧ J (L.take k) wr ∧ Hid (Below n₀ W wr) ∧ Hid (Chain f ((L.drop k).headD 0) (L.drop k)) ∧ wr.cell? ⟨Hs, 0, none⟩ = some (.int .u64 ((L.drop k).headD 0 : Nat)) ∧ wr.frozen? ⟨Hs, 0, none⟩ = false ∧ wr.cell? ⟨Ms, 0, none⟩ = some (.pointer (some ⟨bm, 0, none⟩))) (fun wr => chainLen f L.length (natAt wr Hs))
  case atStart => exact ⟨0, Nat.zero_le _, h0, Below.refl _ _, hc, hhd, hhz, hm⟩
  case round =>
    obtain ⟨k, hk, hJs, hB, hC, k1, z1, k2⟩ := hrel
    have HM := Lib.hid M
    have HCA := Lib.hid hc
    clear M hhd hhz hm hc
    have HB := Lib.hid hB.out
    clear hB
    rcases hd : L.drop k with _ | ⟨x, rest⟩
    · rw [hd] at k1
      have hkL : Hid (L.take k = L) := List.take_of_length_le (List.drop_eq_nil_iff.1 hd)
      have k1' : wr.cell? ⟨Hs, 0, none⟩ = some (.int .u64 0) := k1
      clear k1 hC hd
      gi_wp2
      go_end0
      exact ⟨⟨_, rfl⟩, .inl ⟨_, rfl, by rw [hkL.out] at hJs; exact hJs⟩⟩
    · have hkl : k < L.length := by
        have := congrArg List.length hd
        simp at this
        omega
      have hC' := hC.out
      rw [hd] at k1 hC'
      have k1' : wr.cell? ⟨Hs, 0, none⟩ = some (.int .u64 (x : Nat)) := k1
      obtain ⟨-, hx0, hCr⟩ := hC'
      have HCR := Lib.hid hCr
      have hxL : x ∈ L := List.mem_of_mem_drop (i := k) (by rw [hd]; simp)
      have hxs := hL x hxL
      have hx1 : ((x : Int) != 0) = true := by simp; omega
      have HTK : Hid (L.take (k + 1) = L.take k ++ [x]) := by
        show _ = _
        rw [List.take_add_one]
        congr 1
        have : L[k]? = (L.drop k)[0]? := by simp
        rw [this, hd]
        rfl
      have HDK : Hid (L.drop (k + 1) = rest) := by
        show _ = _
        rw [← List.drop_drop, hd]
        rfl
      have HD := Lib.hid hd
      clear k1 hC hCr hd
      gi_wp2
      refine ⟨trivial, (callsIn_wide.2 (memLoad_ok (HM.out.stays (HB.out.block bm hbm) (HB.out.block bb hbb)) x hxs)).mono ?_⟩
      rintro e w1 ⟨rfl, B1⟩
      have HB1 := Lib.hid B1
      have HWL := Lib.hid (World.block_lt_of_cell? wr _ k1')
      have HML := Lib.hid (World.block_lt_of_cell? wr _ k2)
      have k3 : w1.cell? ⟨Hs, 0, none⟩ = some (.int .u64 (x : Nat)) := (HB1.out.cell (p := ⟨Hs, 0, none⟩) HWL.out).trans k1'
      have z3 : w1.frozen? ⟨Hs, 0, none⟩ = false := (World.frozen?_of_block (a := ⟨Hs, 0, none⟩) (HB1.out.block Hs HWL.out)).trans z1
      have k4 : w1.cell? ⟨Ms, 0, none⟩ = some (.pointer (some ⟨bm, 0, none⟩)) := (HB1.out.cell (p := ⟨Ms, 0, none⟩) HML.out).trans k2
      clear B1
      obtain ⟨fn, tmps, assign, body, hy, hR⟩ := hY _ x w1 (hJB _ _ _ hJs HB1.out) (by rw [List.length_take]; omega)
      try dsimp only at hy
      gi_wp2
      refine hR.mono ?_
      rintro e W3 (⟨rfl, hJ3, hk3⟩ | ⟨rfl, hJx3⟩)
      · have k5 := hk3.2 Hs (.inl rfl) _ k3
        have k6 := hk3.2 Ms (.inr rfl) _ k4
        have k51 := k5.1
        have k52 := k5.2.trans z3
        have k61 := k6.1
        have HK3 := Lib.hid hk3
        have HN := Lib.hid (natAt_of k1')
        clear k5 k6 hk3 k3 z3 k4 k1' z1 k2
        gi_wp2
        have hcs : (W3.setCell ⟨Hs, 0, none⟩ (.int .u64 (word f x : Nat))).cell? ⟨Hs, 0, none⟩ = some (.int .u64 (word f x : Nat)) := World.cell?_setCell_same' _ _ _ (by rw [k51]; rfl)
        go_roundw
        case rel =>
          refine ⟨k + 1, by omega, ?_, ?_, ?_, ?_, ?_, ?_⟩
          · rw [HTK.out]
            exact hJ _ _ _ hJ3
          · exact ((HB.out.trans (Below.weak HB1.out (by have := HWL.out; omega))).trans HK3.out.1).setCell (p := ⟨Hs, 0, none⟩) hH _
          · rw [HDK.out, ← HCR.out.head]
            exact HCR.out
          · rw [HDK.out, ← HCR.out.head]
            exact hcs
          · rw [World.frozen?_setCell]
            exact k52
          · rw [World.cell?_setCell_other _ _ _ _ (by simp [hHM.symm])]
            exact k61
        case measure =>
          have hle : rest.length + 1 ≤ L.length := by
            have h := congrArg List.length HD.out
            simp at h
            omega
          rw [natAt_of hcs, HN.out, chainLen_eq HCR.out (by omega), chainLen_eq (L := x :: rest) ⟨rfl, hx0, HCR.out⟩ hle]
          exact Nat.lt_succ_self _
      · gi_wp2
        refine bodyPost_ret (results_none rfl _ _ _) rfl ?_
        exact ⟨⟨_, rfl⟩, .inr ⟨_, ⟨k + 1, by omega, HTK.out.symm⟩, hJx3⟩⟩
end Go.Proofs.YtbljphaklciinaaGreat

/- A range over a function that writes what it has captured; the body never leaves early. -/
namespace Go.Proofs.YtbljphaklciinaaGreat
open Go.RowKit Go.Shelf

/-- The two blocks that a loop keeps its books in. -/
def Books (l D : Nat) (r : Loop) (W : World) : Prop := W.heap[l]? = some (.loop r) ∧ W.heap[D]? = some (.deferred (some []))

theorem Books.grown {l D N : Nat} {r : Loop} {A B : World} {row : Option Nat} (h : Books l D r A) (hg : A.grownBy B row) (hr : ∀ q, row = some q → q < N) (hl : N ≤ l) (hD : N ≤ D) : Books l D r B :=
  ⟨(hg.block l (Array.getElem?_eq_some_iff.1 h.1).1 (fun e => by have := hr l e.symm; omega)).trans h.1, (hg.block D (Array.getElem?_eq_some_iff.1 h.2).1 (fun e => by have := hr D e.symm; omega)).trans h.2⟩

theorem range_all {α : Type} {F : Fence} {n : Nat} {P : Program} {g : Operand} {ps : Array Tmp} {assign body : Code} {Q : Exit → Act → World → Prop} {a : Act} {w : World}
    (hro : F.round = none) (h1 : 1 ≤ n) {gf : Nat} {lb : Array Value} (hg : a.eval g = .func (.func gf) #[] lb) (hFg : F.fn gf) (eg : ∀ args w, (callFunc gf args).run P w = .ok (.enter gf args) w)
    {encs : α → Array Value} (hps : ∀ x, (encs x).size = ps.size) (Kp : World → World → Prop) (N : Nat) (S : List α) (I : List α → World → Prop) (hI : OwnFrom w.heap.size I)
    (hKt : ∀ {A B C : World}, Kp A B → Kp B C → Kp A C) (hKb : ∀ (W : World) (l : Nat) (o o' : Obj), w.heap.size ≤ l → W.heap[l]? = some o → o.isCells = false → o.isWalk = false → Kp W (W.putObj l o'))
    (hseq : ∀ (l : Nat) (J : List α → World → Prop) (W : World), Below w.heap.size w W → (∀ s A, J s A → I s A) → (∀ s A B row, J s A → A.grownBy B row → (∀ q, row = some q → q < w.heap.size) → I s B → J s B) →
      (∀ pre x W1, J pre W1 → pre.length < N → YieldAt F (n - 1 - 1) P l (encs x) W1 fun e W' => e = .returned (.bool true) ∧ J (pre ++ [x]) W' ∧ Kp W1 W') →
      J [] W → CallsIn F (n - 1) P gf (#[.func (.yield l) #[] #[]] ++ lb) W fun e W' => (∃ v, e = .returned v) ∧ J S W')
    (h0 : I [] w) (a₁ : α → Act)
    (hassign : ∀ (l : Nat) (x : α) (W : World) (K : Act → World → Prop), K (a₁ x) W →
      assign.wpIn (F.inRound l) (n - 1 - 1) P (Exit.then K (fun _ _ _ => False)) { tmps := (ps.zip (encs x)).foldl (fun t (p, v) => t.setIfInBounds p v) a.tmps, defers := [] } W)
    (hbody : ∀ (l : Nat) (pre : List α) (x : α) (W : World), I pre W → pre.length < N → body.wpIn (F.inRound l) (n - 1 - 1) P (fun e _ W' => e = .normal ∧ KeepsOthers W W' ∧ Kp W W' ∧ I (pre ++ [x]) W') (a₁ x) W)
    (hdone : ∀ (D : Nat) (W : World), w.heap.size ≤ D → I S W → W.heap[D]? = some (.deferred (some [])) → Q .normal { a with defers := { target := .collected D, args := #[] } :: a.defers } W) :
    (Code.rangeFunc g ps assign body).wpIn F n P Q a w := by
  refine wpIn_rangeFunc (fun fn hfn => ?_)
  rw [hro]
  have hR0 : ∃ R : LoopState → Loop, R = fun st => { state := st, pending := none, fn, tmps := a.tmps, params := ps, assign, body, defers := w.heap.size } := ⟨_, rfl⟩
  obtain ⟨R, hR⟩ := hR0
  have hB0 : Books (w.heap.size + 1) w.heap.size (R .ready) ((w.alloc (.deferred (some []))).alloc (.loop (R .ready))) := by
    refine ⟨?_, ?_⟩
    · have h := World.alloc_heap_new (w.alloc (.deferred (some []))) (.loop (R .ready))
      rwa [World.size_alloc] at h
    · exact (Below.heap_alloc _ _ _ (by simp)).trans (World.alloc_heap_new w _)
  have hI0 : I [] ((w.alloc (.deferred (some []))).alloc (.loop (R .ready))) := hI.alloc _ (hI.alloc _ h0)
  have hb0 : Below w.heap.size w ((w.alloc (.deferred (some []))).alloc (.loop (R .ready))) := ((Below.refl _ w).alloc (Nat.le_refl _) _).alloc (by simp) _
  have hrun : (Instr.enterLoop fn a.tmps ps assign body none).run P w = .ok (w.heap.size + 1, [{ target := .collected w.heap.size, args := #[] }]) ((w.alloc (.deferred (some []))).alloc (.loop (R .ready))) := by
    rw [hR]
    exact run_enterLoop_outer _ _ _ _ _
  revert hB0 hI0 hb0 hrun
  generalize (w.alloc (.deferred (some []))).alloc (.loop (R .ready)) = W1
  intro hB0 hI0 hb0 hrun
  refine ⟨_, _, W1, { target := .fn (.func gf) lb, args := #[.func (.yield (w.heap.size + 1)) #[] #[]] }, W1, gf, #[.func (.yield (w.heap.size + 1)) #[] #[]] ++ lb, W1, hrun, ?_, ?_, ?_, fun _ => h1, ?_⟩
  · simp only [resolve, hg]
    simp [go_sem]
  · intro f' hf'
    simp [Target.leads] at hf'
    subst hf'
    exact hFg
  · simp [invoke, go_sem, eg]
  · refine (hseq (w.heap.size + 1) (fun pre W => I pre W ∧ Books (w.heap.size + 1) w.heap.size (R .ready) W) W1 hb0 (fun _ _ h => h.1) (fun s A B row hs hg' hr hi => ⟨hi, hs.2.grown hg' hr (by omega) (Nat.le_refl _)⟩) ?_ ⟨hI0, hB0⟩).mono ?_
    · rintro pre x W ⟨hi, hb⟩ hlen
      have hlt : w.heap.size + 1 < W.heap.size := (Array.getElem?_eq_some_iff.1 hb.1).1
      have hy := run_yield (P := P) (args := encs x) hb.1 (by rw [hR]; exact hps x)
      rw [hR] at hy
      refine ⟨fn, _, assign, body, hy, roundIn_of_wpIn hfn (hassign _ x W _ ⟨_, run_beginRound hb.1 (by rw [hR]), ?_⟩)⟩
      have hb2 : Books (w.heap.size + 1) w.heap.size { R .ready with state := .busy } (W.putObj (w.heap.size + 1) (.loop { R .ready with state := .busy })) :=
        ⟨World.putObj_heap_same hlt, (World.putObj_heap_other (by omega)).trans hb.2⟩
      have hk0 := hKb W (w.heap.size + 1) _ (.loop { R .ready with state := .busy }) (by omega) hb.1 rfl rfl
      refine wpIn_mono (hbody _ pre x _ (hI.putObj _ hi (by omega) hb.1 rfl) hlen) ?_
      rintro e a3 W3 ⟨rfl, hk3, hkp, hi3⟩
      have h3 := hk3.same _ _ hb2.1 rfl
      have h4 := hk3.same _ _ hb2.2 rfl
      have hend := run_endRound (P := P) none h3
      have hlt3 := (Array.getElem?_eq_some_iff.1 h3).1
      refine ⟨_, _, hend, rfl, ⟨hI.putObj _ hi3 (by omega) h3 rfl, ?_, (World.putObj_heap_other (by omega)).trans h4⟩, hKt (hKt hk0 hkp) (hKb _ _ _ _ (by omega) h3 rfl rfl)⟩
      rw [World.putObj_heap_same hlt3, hR]
      rfl
    · rintro e W2 ⟨⟨v, rfl⟩, hi, hb⟩
      have hend := run_endLoop (P := P) hb.1 (by rw [hR]; simp)
      refine ⟨_, _, hend, ?_⟩
      rw [hR]
      exact hdone _ _ (Nat.le_refl _) (hI.putObj _ hi (by omega) hb.1 rfl) ((World.putObj_heap_other (by omega)).trans hb.2)
end Go.Proofs.YtbljphaklciinaaGreat

/- Layer 7 (list): Chain. -/
namespace Go.Proofs.YtbljphaklciinaaGreat
open Go.RowKit Go.Shelf

attribute [local go_sem] Oper.semAt_some

/-- A region whose ways all land at one act and world; where it panics nothing is promised. -/
theorem wpIn_lands {F : Fence} {n : Nat} {P : Program} {c : Code} {K : Act → World → Prop} {Q' : Exit → Act → World → Prop} {a : Act} {w : World} (A : Act) (W : World) (h : c.wpIn F n P (Exit.then (fun a' w' => a' = A ∧ w' = W) (fun _ _ _ => False)) a w) (hK : K A W) : c.wpIn F n P (Exit.then K Q') a w :=
  wpIn_mono h fun e a w he => by
    cases e
    case normal => obtain ⟨rfl, rfl⟩ := (show a = A ∧ w = W from he); exact hK
    all_goals exact he.elim

/-- What Chain's loop holds when k have come. -/
structure ChI (w : World) (most : Int) (k : Nat) (W : World) : Prop where
  c0 : W.cell? ⟨w.heap.size, 0, none⟩ = some (.int .i64 most)
  l0 : W.cell? ⟨w.heap.size + 1, 0, none⟩ = some (.int .u64 0)
  l1 : W.cell? ⟨w.heap.size + 1, 1, none⟩ = some (.int .i64 (k : Nat))
  z0 : W.frozen? ⟨w.heap.size + 1, 0, none⟩ = false
  z1 : W.frozen? ⟨w.heap.size + 1, 1, none⟩ = false
  e0 : W.cell? ⟨w.heap.size + 1 + 1, 0, none⟩ = some (.int .i64 0)
  ze : W.frozen? ⟨w.heap.size + 1 + 1, 0, none⟩ = false
  bl : Below w.heap.size w W
theorem ChI.kept {w A B : World} {most : Int} {k : Nat} {row : Option Nat} (h : ChI w most k A) (hg : A.grownBy B row) (hr : ∀ r, row = some r → w.heap.size + 1 + 1 < r) : ChI w most k B := by
  have b0 := hg.block (w.heap.size) (World.block_lt_of_cell? _ _ h.c0) (fun e => by have := hr _ e.symm; omega)
  have b1 := hg.block (w.heap.size + 1) (World.block_lt_of_cell? _ _ h.l0) (fun e => by have := hr _ e.symm; omega)
  have b2 := hg.block (w.heap.size + 1 + 1) (World.block_lt_of_cell? _ _ h.e0) (fun e => by have := hr _ e.symm; omega)
  exact ⟨(World.cell?_of_block (a := ⟨w.heap.size, 0, none⟩) b0).trans h.c0, (World.cell?_of_block (a := ⟨w.heap.size + 1, 0, none⟩) b1).trans h.l0, (World.cell?_of_block (a := ⟨w.heap.size + 1, 1, none⟩) b1).trans h.l1,
    (World.frozen?_of_block (a := ⟨w.heap.size + 1, 0, none⟩) b1).trans h.z0, (World.frozen?_of_block (a := ⟨w.heap.size + 1, 1, none⟩) b1).trans h.z1,
    (World.cell?_of_block (a := ⟨w.heap.size + 1 + 1, 0, none⟩) b2).trans h.e0, (World.frozen?_of_block (a := ⟨w.heap.size + 1 + 1, 0, none⟩) b2).trans h.ze, h.bl.grown hg (h.bl.size) (fun r e => by have := hr r e; omega)⟩

theorem ChI.bump {w W : World} {most : Int} {k : Nat} (h : ChI w most k W) : ChI w most (k + 1) (W.setCell ⟨w.heap.size + 1, 1, none⟩ (.int .i64 ((k : Int) + 1))) :=
  ⟨by rw [World.cell?_setCell_other _ _ _ _ (by simp)]; exact h.c0, by rw [World.cell?_setCell_other _ _ _ _ (by simp)]; exact h.l0, World.cell?_setCell_same' _ _ _ (by rw [h.l1]; rfl),
    by rw [World.frozen?_setCell]; exact h.z0, by rw [World.frozen?_setCell]; exact h.z1, by rw [World.cell?_setCell_other _ _ _ _ (by simp)]; exact h.e0, by rw [World.frozen?_setCell]; exact h.ze,
    h.bl.setCell (p := ⟨w.heap.size + 1, 1, none⟩) (by show w.heap.size ≤ w.heap.size + 1; omega) _⟩

set_option maxRecDepth 100000 in
set_option maxHeartbeats 2000000 in
theorem chain_ok {w : World} {bm bb sz h : Nat} {f : Nat → Nat} {L : List Nat} {most : Int} (M : MemAt w bm bb sz f) (hc : Chain f h L) (hL : ∀ a ∈ L, a + 8 ≤ sz) (hl : (L.length : Int) ≤ most) (hm : most ≤ 1048576) (hms : most ≤ (sz : Int)) :
    Calls Tryz.prog 107 #[.pointer (some ⟨bm, 0, none⟩), .int .u64 h, .int .i64 most] w fun e w' => e = .returned (.tuple #[.agg #[.int .u64 h, .int .i64 (L.length : Nat)], .int .i64 0]) ∧ Below w.heap.size w w' := by
  have HH := Lib.hid M
  have HC := Lib.hid hc
  have hs1 := M.s1
  clear M hc
  refine (callsIn_wide (n := 3)).1 ?_
  refine callsIn_of_wp_marks Tryz.func107 rfl trivial ?_ rfl
  simp only [Tryz.ntmps107, List.size_toArray, List.length_cons, List.length_nil, Nat.reduceAdd, Nat.reduceSub, Array.replicate_succ, Array.replicate_zero, List.push_toArray, List.append_toArray, List.nil_append, List.cons_append]
  have hmix : Tryz.prog.follows .mixedOrders = true := by kernel_rfl
  gi_wp2
  have HMS : Hid (Calls Tryz.prog 84 #[.pointer (some ⟨bm, 0, none⟩)] ((((w.alloc (.cells #[.int .i64 most] 3)).alloc (.cells #[.int .u64 0, .int .i64 0] 145)).alloc (.cells #[.int .i64 0] 30)).drew) fun e w' => e = .returned (.int .u64 sz) ∧ w' = (((w.alloc (.cells #[.int .i64 most] 3)).alloc (.cells #[.int .u64 0, .int .i64 0] 145)).alloc (.cells #[.int .i64 0] 30)).drew) :=
    (memSize (w := (((w.alloc (.cells #[.int .i64 most] 3)).alloc (.cells #[.int .u64 0, .int .i64 0] 145)).alloc (.cells #[.int .i64 0] 30)).drew) (((HH.out.alloc _).alloc _).alloc _).drew).mono fun e w' h => ⟨h.1, h.2.symm⟩
  have d0 : (((w.alloc (.cells #[.int .i64 most] 3)).alloc (.cells #[.int .u64 0, .int .i64 0] 145)).alloc (.cells #[.int .i64 0] 30)).cell? ⟨w.heap.size, 0, none⟩ = some (.int .i64 most) := by go_simp
  have hwr : IntKind.i64.wrap (sz : Int) = sz := by simp only [IntKind.wrap_i64]; omega
  have hif : (if (sz : Int) < most then (sz : Int) else most) = most := if_neg (by omega)
  refine wpIn_lands ({ tmps := List.toArray ((.pointer (some ⟨bm, 0, none⟩) : Value) :: (.int .u64 h : Value) :: (.int .i64 most : Value) :: undef :: undef :: (.pointer (some ⟨w.heap.size, 0, none⟩) : Value) :: (.pointer (some ⟨w.heap.size + 1, 0, none⟩) : Value) :: (.pointer (some ⟨w.heap.size + 1 + 1, 0, none⟩) : Value) :: undef :: undef :: (.pointer (some ⟨bm, 0, none⟩) : Value) :: (.bool false : Value) :: undef :: (.int .i64 most : Value) :: (.pointer (some ⟨bm, 0, none⟩) : Value) :: (.int .u64 sz : Value) :: (.int .i64 sz : Value) :: (.int .i64 most : Value) :: undef :: undef :: undef :: undef :: undef :: undef :: undef :: undef :: undef :: undef :: undef :: undef :: undef :: undef :: undef :: undef :: undef :: undef :: undef :: undef :: undef :: []), defers := [] }) ((((w.alloc (.cells #[.int .i64 most] 3)).alloc (.cells #[.int .u64 0, .int .i64 0] 145)).alloc (.cells #[.int .i64 0] 30)).drew) ?way ?_
  case way =>
    gi_region_with_o (first
      | (refine ⟨trivial, ?_⟩; gi_at_call 84; refine (callsIn_wide.2 HMS.out).mono ?_; rintro e w2 ⟨rfl, rfl⟩)
      | (gi_at_call 84; refine (callsIn_wide.2 HMS.out).mono ?_; rintro e w2 ⟨rfl, rfl⟩)
      | fail)
    all_goals (show _ ∧ _; exact ⟨rfl, rfl⟩)
  clear hwr hif HMS d0 hmix
  gi_wp2
  refine ⟨trivial, (callsIn_wide.2 (from_any _ bm h)).mono ?_⟩
  rintro e w1 ⟨rfl, T, rfl⟩
  gi_wp2
  have G0 : Hid (ChI w most 0 (((((w.alloc (.cells #[.int .i64 most] 3)).alloc (.cells #[.int .u64 0, .int .i64 0] 145)).alloc (.cells #[.int .i64 0] 30)).alloc (.cells #[.pointer (some ⟨bm, 0, none⟩)] T)).alloc (.cells #[.int .u64 h] 29)).drew) := ⟨by go_simp, by go_simp, by go_simp, by go_simp, by go_simp, by go_simp, by go_simp, by
    have h := (((((Below.refl w.heap.size w).alloc (Nat.le_refl _) (.cells #[.int .i64 most] 3)).alloc (by simp) (.cells #[.int .u64 0, .int .i64 0] 145)).alloc (by simp; omega) (.cells #[.int .i64 0] 30)).alloc (by simp; omega) (.cells #[.pointer (some ⟨bm, 0, none⟩)] T)).alloc (by simp; omega) (.cells #[.int .u64 h] 29)
    exact ⟨h.os, h.tape, h.output, h.size, h.block⟩⟩
  have G1 : Hid ((((((w.alloc (.cells #[.int .i64 most] 3)).alloc (.cells #[.int .u64 0, .int .i64 0] 145)).alloc (.cells #[.int .i64 0] 30)).alloc (.cells #[.pointer (some ⟨bm, 0, none⟩)] T)).alloc (.cells #[.int .u64 h] 29)).drew.cell? ⟨w.heap.size + 1 + 1 + 1 + 1, 0, none⟩ = some (.int .u64 h) ∧ (((((w.alloc (.cells #[.int .i64 most] 3)).alloc (.cells #[.int .u64 0, .int .i64 0] 145)).alloc (.cells #[.int .i64 0] 30)).alloc (.cells #[.pointer (some ⟨bm, 0, none⟩)] T)).alloc (.cells #[.int .u64 h] 29)).drew.frozen? ⟨w.heap.size + 1 + 1 + 1 + 1, 0, none⟩ = false ∧ (((((w.alloc (.cells #[.int .i64 most] 3)).alloc (.cells #[.int .u64 0, .int .i64 0] 145)).alloc (.cells #[.int .i64 0] 30)).alloc (.cells #[.pointer (some ⟨bm, 0, none⟩)] T)).alloc (.cells #[.int .u64 h] 29)).drew.cell? ⟨w.heap.size + 1 + 1 + 1, 0, none⟩ = some (.pointer (some ⟨bm, 0, none⟩))) := ⟨by go_simp, by go_simp, by go_simp⟩
  have G2 : Hid (MemAt (((((w.alloc (.cells #[.int .i64 most] 3)).alloc (.cells #[.int .u64 0, .int .i64 0] 145)).alloc (.cells #[.int .i64 0] 30)).alloc (.cells #[.pointer (some ⟨bm, 0, none⟩)] T)).alloc (.cells #[.int .u64 h] 29)).drew bm bb sz f) := (((((HH.out.alloc _).alloc _).alloc _).alloc _).alloc _).drew
  have G3 : Hid ((((((w.alloc (.cells #[.int .i64 most] 3)).alloc (.cells #[.int .u64 0, .int .i64 0] 145)).alloc (.cells #[.int .i64 0] 30)).alloc (.cells #[.pointer (some ⟨bm, 0, none⟩)] T)).alloc (.cells #[.int .u64 h] 29)).drew.heap.size = w.heap.size + 5) := by show _ = _; simp
  have hbm := HH.out.lt_bm
  have hbb := HH.out.lt_bb
  clear HH
  generalize (((((w.alloc (.cells #[.int .i64 most] 3)).alloc (.cells #[.int .u64 0, .int .i64 0] 145)).alloc (.cells #[.int .i64 0] 30)).alloc (.cells #[.pointer (some ⟨bm, 0, none⟩)] T)).alloc (.cells #[.int .u64 h] 29)).drew = wl at *
  refine range_all rfl (by omega) (gf := 141) (lb := #[.pointer (some ⟨w.heap.size + 1 + 1 + 1 + 1, 0, none⟩), .pointer (some ⟨w.heap.size + 1 + 1 + 1, 0, none⟩)]) rfl trivial (enters_of Tryz.func141 (by kernel_rfl) rfl)
    (encs := fun x : Nat => #[.int .u64 (x : Nat), .bool true]) (fun _ => rfl) (KeepF w.heap.size (w.heap.size + 1 + 1 + 1 + 1) (w.heap.size + 1 + 1 + 1)) L.length L (fun pre W => ChI w most pre.length W)
    (fun s A B row hs hg hr => hs.kept hg (fun r e => by have := (hr r e).1; have := G3.out; omega))
    (fun h h' => h.trans h') (KeepF.put (by have := G3.out; omega)) ?hseq G0.out (fun x => { tmps := List.toArray ((.pointer (some ⟨bm, 0, none⟩) : Value) :: (.int .u64 h : Value) :: (.int .i64 most : Value) :: undef :: undef :: (.pointer (some ⟨w.heap.size, 0, none⟩) : Value) :: (.pointer (some ⟨w.heap.size + 1, 0, none⟩) : Value) :: (.pointer (some ⟨w.heap.size + 1 + 1, 0, none⟩) : Value) :: undef :: (.bool true : Value) :: (.pointer (some ⟨bm, 0, none⟩) : Value) :: (.bool false : Value) :: undef :: (.int .i64 most : Value) :: (.pointer (some ⟨bm, 0, none⟩) : Value) :: (.int .u64 sz : Value) :: (.int .i64 sz : Value) :: (.int .i64 most : Value) :: (.pointer (some ⟨bm, 0, none⟩) : Value) :: (.int .u64 h : Value) :: (.func (.func 141) #[] #[.pointer (some ⟨w.heap.size + 1 + 1 + 1 + 1, 0, none⟩), .pointer (some ⟨w.heap.size + 1 + 1 + 1, 0, none⟩)] : Value) :: (.int .u64 (x : Nat) : Value) :: (.bool true : Value) :: undef :: undef :: undef :: undef :: undef :: undef :: undef :: undef :: undef :: undef :: undef :: undef :: undef :: undef :: undef :: undef :: []), defers := [] }) ?assign ?body ?done
  case hseq =>
    intro l J W hW hJI hJk hY h0
    refine (from1_in 2 (by omega) l (w.heap.size + 1 + 1 + 1 + 1) (w.heap.size + 1 + 1 + 1) w.heap.size bm bb sz f L hbm hbb (by omega) (by omega) (by omega) hL J (fun _ _ => False) ?_ ?_ (fun pre x W1 hj hlen => (hY pre x W1 hj hlen).mono (fun e w' hh => .inl hh)) W (G2.out.below hW (Nat.le_refl _)) ?_ ?_ ?_ ?_ h0).mono ?_
    · intro pre A v hj
      exact hJk _ _ _ (some (w.heap.size + 1 + 1 + 1 + 1)) hj (grownBy_setCell' A (w.heap.size + 1 + 1 + 1 + 1) v) (fun q e => by cases e; have := G3.out; omega) ((hJI _ _ hj).kept (grownBy_setCell' A (w.heap.size + 1 + 1 + 1 + 1) v) (fun r e => by cases e; omega))
    · intro pre A B hj hb
      have hg : A.grownBy B none := ⟨hb.os, hb.tape, hb.output, hb.size, fun k hk _ => hb.block k hk⟩
      exact hJk _ _ _ none hj hg (fun q e => by cases e) ((hJI _ _ hj).kept hg (fun r e => by cases e))
    · rw [← HC.out.head]
      exact (hW.cell (p := ⟨w.heap.size + 1 + 1 + 1 + 1, 0, none⟩) (by have := G3.out; show (w.heap.size + 1 + 1 + 1 + 1) < _; omega)).trans G1.out.1
    · exact (World.frozen?_of_block (a := ⟨w.heap.size + 1 + 1 + 1 + 1, 0, none⟩) (hW.block (w.heap.size + 1 + 1 + 1 + 1) (by have := G3.out; omega))).trans G1.out.2.1
    · exact (hW.cell (p := ⟨w.heap.size + 1 + 1 + 1, 0, none⟩) (by have := G3.out; show (w.heap.size + 1 + 1 + 1) < _; omega)).trans G1.out.2.2
    · rw [← HC.out.head]
      exact HC.out
    · rintro e W' ⟨he, ⟨ys, rfl, hj⟩ | ⟨pre, _, hf⟩⟩
      · exact ⟨he, hj⟩
      · exact hf.elim
  case assign =>
    intro l x W K hK
    gi_wp2
    exact hK
  case body =>
    rintro l pre x W hI hl
    have hlm : (pre.length : Int) < most := by omega
    have HI := Lib.hid hI
    have c0 := hI.c0
    have l0 := hI.l0
    have l1 := hI.l1
    have z1 := hI.z1
    clear hI
    gi_wp2
    exact ⟨KeepsOthers.setCell _ _ _, ⟨(Below.refl w.heap.size W).setCell (p := ⟨w.heap.size + 1, 1, none⟩) (by show w.heap.size ≤ w.heap.size + 1; omega) _, fun q hq v hv => ⟨by rw [World.cell?_setCell_other _ _ _ _ (by simp)]; exact hv, by rw [World.frozen?_setCell]⟩⟩, HI.out.bump⟩
  case done =>
    rintro D W hD hI hK
    have HI := Lib.hid hI
    have l0 := hI.l0
    have l1 := hI.l1
    have z0 := hI.z0
    have z1 := hI.z1
    have e0 := hI.e0
    have ze := hI.ze
    clear hI
    gi_wp2
    have hW : ∃ WD, WD = (((W.setCell ⟨w.heap.size + 1, 0, none⟩ (.int .u64 h)).setCell ⟨w.heap.size + 1, 0, none⟩ (.int .u64 h)).setCell ⟨w.heap.size + 1, 1, none⟩ (.int .i64 (L.length : Nat))).setCell ⟨w.heap.size + 1 + 1, 0, none⟩ (.int .i64 0) := ⟨_, rfl⟩
    obtain ⟨WD, hWD⟩ := hW
    rw [← hWD]
    have hKo : KeepsOthers W WD := by
      rw [hWD]
      exact (((KeepsOthers.setCell W ⟨w.heap.size + 1, 0, none⟩ _).trans (KeepsOthers.setCell _ ⟨w.heap.size + 1, 0, none⟩ _)).trans (KeepsOthers.setCell _ ⟨w.heap.size + 1, 1, none⟩ _)).trans (KeepsOthers.setCell _ ⟨w.heap.size + 1 + 1, 0, none⟩ _)
    have hB : Below w.heap.size w WD := by
      rw [hWD]
      exact (((HI.out.bl.setCell (p := ⟨w.heap.size + 1, 0, none⟩) (by show w.heap.size ≤ w.heap.size + 1; omega) _).setCell (p := ⟨w.heap.size + 1, 0, none⟩) (by show w.heap.size ≤ w.heap.size + 1; omega) _).setCell (p := ⟨w.heap.size + 1, 1, none⟩) (by show w.heap.size ≤ w.heap.size + 1; omega) _).setCell (p := ⟨w.heap.size + 1 + 1, 0, none⟩) (by show w.heap.size ≤ w.heap.size + 1 + 1; omega) _
    have q0 : WD.cell? ⟨w.heap.size + 1, 0, none⟩ = some (.int .u64 h) := by rw [hWD]; go_simp
    have q1 : WD.cell? ⟨w.heap.size + 1, 1, none⟩ = some (.int .i64 (L.length : Nat)) := by rw [hWD]; go_simp
    have q2 : WD.cell? ⟨w.heap.size + 1 + 1, 0, none⟩ = some (.int .i64 0) := by rw [hWD]; go_simp
    have hK' := hKo.same D _ hK rfl
    clear hWD
    have kp : ∀ {ad : Addr} {v : Value}, WD.cell? ad = some v → (WD.putObj D (.deferred none)).cell? ad = some v := fun hv => cell_kept hv (grownBy_putObj' _ D (.deferred none)) (fun r e => by cases e; exact ⟨_, hK', rfl⟩)
    have p0 := kp q0
    have p1 := kp q1
    have p2 := kp q2
    refine ⟨by simp, .inl ⟨_, _, rfl, run_takeDeferred hK', ?_⟩⟩
    refine ⟨.tuple #[.agg #[.int .u64 h, .int .i64 (L.length : Nat)], .int .i64 0], ?_, rfl, ?_⟩
    · simp [results, Tryz.results107, go_sem, p0, p1, p2]
    · exact hB.trans (belowK_b (w := w) (Nat.le_refl _) _ D _ _ (by have := G3.out; omega) hK' rfl rfl)
end Go.Proofs.YtbljphaklciinaaGreat

/- Layer 3 (mark): Take. -/
namespace Go.Proofs.YtbljphaklciinaaGreat
open Go.RowKit Go.Shelf

def FreeRow (T : Nat → Bool) (n run a : Nat) : Prop := a + run ≤ n ∧ ∀ j, j < run → T (a + j) = false

set_option maxRecDepth 100000 in
set_option maxHeartbeats 2000000 in
theorem marksRow_arg {w : World} {b bt n : Nat} {T : Nat → Bool} (H : MarksAt w b bt n T) (at_ run : Nat) (v : Bool) (no : Int) (hr : 1 ≤ run) (ha2 : at_ ≤ 256) (hr2 : run ≤ 256) (ha : ¬ at_ + run ≤ n) :
    Calls Tryz.prog 120 #[.pointer (some ⟨b, 0, none⟩), .int .i64 at_, .int .i64 run, .bool v, .int .i64 no] w fun e w' => e = .returned (.tuple #[.slice none 0 0, .int .i64 2]) ∧ w' = w := by
  have hp := H.ptr
  have h1 := H.n1
  clear H
  by_cases h : at_ < n
  · have h2 : (n : Int) - at_ < run := by omega
    go_enter Tryz.func120, Tryz.ntmps120
    go_wp2_with fail
    go_ret2
    exact ⟨rfl, rfl⟩
  · have h2 : (n : Int) ≤ at_ := by omega
    go_enter Tryz.func120, Tryz.ntmps120
    go_wp2_with fail
    go_ret2
    exact ⟨rfl, rfl⟩

set_option maxRecDepth 100000 in
set_option maxHeartbeats 2000000 in
theorem marksMark_any {w : World} {b bt n : Nat} {T : Nat → Bool} (H : MarksAt w b bt n T) (at_ run : Nat) (hr : 1 ≤ run) (ha : at_ ≤ 256) (hr2 : run ≤ 256) :
    Calls Tryz.prog 89 #[.pointer (some ⟨b, 0, none⟩), .int .i64 at_, .int .i64 run] w fun e w' => ∃ c T', e = .returned (.int .i64 c) ∧ MarksAt w' b bt n T' ∧ PFr w w' b bt ∧ (FreeRow T n run at_ → c = 0 ∧ T' = setT T at_ run true) := by
  by_cases h : at_ + run ≤ n
  · by_cases hf : ∀ j, j < run → T (at_ + j) = false
    · exact (marksMark H at_ run hr h hf).mono fun e w' ⟨h1, h2, h3⟩ => ⟨0, _, h1, h2, h3, fun _ => ⟨rfl, rfl⟩⟩
    · have ⟨j0, hj⟩ := Classical.not_forall.1 hf
      have ⟨hj0, hj1⟩ := Classical.not_imp.1 hj
      refine (marksMark_no H at_ run hr h j0 hj0 (by simpa using hj1)).mono fun e w' ⟨h1, h2⟩ => ⟨6, T, h1, h2 ▸ H, h2 ▸ PFr.refl _ _ _, fun hr => absurd (hr.2 j0 hj0) hj1⟩
  · have HR := Lib.hid (fun no => marksRow_arg H at_ run true no hr ha hr2 h)
    have HH := Lib.hid H
    have HN := Lib.hid h
    clear H h
    go_enter Tryz.func89, Tryz.ntmps89
    go_wp2_with fail
    refine (HR.out _).mono ?_
    rintro e w' ⟨rfl, rfl⟩
    go_wp2_with fail
    go_ret
    exact ⟨2, T, rfl, HH.out, PFr.refl _ _ _, fun hr => absurd hr.1 HN.out⟩

theorem PFr.keepsOthers {W W' : World} {b bt : Nat} {u v : Value} (h : PFr W W' b bt) (hb : W.cell? ⟨b, 0, none⟩ = some u) (hbt : W.cell? ⟨bt, 0, none⟩ = some v) : KeepsOthers W W' :=
  ⟨h.size, fun k o hk ho => by
    have nc : ∀ {j : Nat} {x : Value}, W.cell? ⟨j, 0, none⟩ = some x → k ≠ j := by
      rintro j x hx rfl
      simp only [World.cell?, hk] at hx
      cases o <;> simp_all [Obj.isCells]
    rw [h.block k (Array.getElem?_eq_some_iff.1 hk).1 (nc hb) (nc hbt)]
    exact hk⟩

/-- What Take's loop holds. -/
structure TkI (w : World) (b bt n run : Nat) (T : Nat → Bool) (pre : List Rw) (W : World) : Prop where
  c0 : W.cell? ⟨w.heap.size, 0, none⟩ = some (.pointer (some ⟨b, 0, none⟩))
  c1 : W.cell? ⟨w.heap.size + 1, 0, none⟩ = some (.int .i64 run)
  c2 : W.cell? ⟨w.heap.size + 1 + 1, 0, none⟩ = some (.int .i64 0)
  c3 : W.cell? ⟨w.heap.size + 1 + 1 + 1, 0, none⟩ = some (.int .i64 0)
  z2 : W.frozen? ⟨w.heap.size + 1 + 1, 0, none⟩ = false
  z3 : W.frozen? ⟨w.heap.size + 1 + 1 + 1, 0, none⟩ = false
  bl : Below w.heap.size w W
  sh : ∀ y ∈ pre, y.2.val < run

theorem TkI.kept {w A B : World} {b bt n run : Nat} {T : Nat → Bool} {pre : List Rw} {row : Option Nat} (h : TkI w b bt n run T pre A) (hg : A.grownBy B row) (hr : ∀ r, row = some r → w.heap.size + 4 ≤ r) : TkI w b bt n run T pre B := by
  have b0 := hg.block (w.heap.size) (World.block_lt_of_cell? _ _ h.c0) (fun e => by have := hr _ e.symm; omega)
  have b1 := hg.block (w.heap.size + 1) (World.block_lt_of_cell? _ _ h.c1) (fun e => by have := hr _ e.symm; omega)
  have b2 := hg.block (w.heap.size + 1 + 1) (World.block_lt_of_cell? _ _ h.c2) (fun e => by have := hr _ e.symm; omega)
  have b3 := hg.block (w.heap.size + 1 + 1 + 1) (World.block_lt_of_cell? _ _ h.c3) (fun e => by have := hr _ e.symm; omega)
  exact ⟨(World.cell?_of_block (a := ⟨w.heap.size, 0, none⟩) b0).trans h.c0, (World.cell?_of_block (a := ⟨w.heap.size + 1, 0, none⟩) b1).trans h.c1, (World.cell?_of_block (a := ⟨w.heap.size + 1 + 1, 0, none⟩) b2).trans h.c2,
    (World.cell?_of_block (a := ⟨w.heap.size + 1 + 1 + 1, 0, none⟩) b3).trans h.c3, (World.frozen?_of_block (a := ⟨w.heap.size + 1 + 1, 0, none⟩) b2).trans h.z2, (World.frozen?_of_block (a := ⟨w.heap.size + 1 + 1 + 1, 0, none⟩) b3).trans h.z3,
    h.bl.grown hg (h.bl.size) (fun r e => by have := hr r e; omega), h.sh⟩

/-- What holds when Take's body has left. -/
structure TkX (w : World) (b bt n run : Nat) (T : Nat → Bool) (pre : List Rw) (W : World) : Prop where
  at_ : ∃ init x c T', pre = init ++ [x] ∧ (∀ y ∈ init, y.2.val < run) ∧ run ≤ x.2.val ∧ W.cell? ⟨w.heap.size + 1 + 1, 0, none⟩ = some (.int .i64 (x.1.val : Nat)) ∧ W.cell? ⟨w.heap.size + 1 + 1 + 1, 0, none⟩ = some (.int .i64 c) ∧
    MarksAt W b bt n T' ∧ PFr w W b bt ∧ (FreeRow T n run x.1.val → c = 0 ∧ T' = setT T x.1.val run true)
theorem TkX.kept {w A B : World} {b bt n run : Nat} {T : Nat → Bool} {pre : List Rw} {row : Option Nat} (h : TkX w b bt n run T pre A) (hb : b < w.heap.size) (hbt : bt < w.heap.size) (hg : A.grownBy B row) (hr : ∀ r, row = some r → w.heap.size + 4 ≤ r) : TkX w b bt n run T pre B := by
  obtain ⟨init, x, c, T', e, h1, h2, h3, h4, h5, h6, h7⟩ := h.at_
  have b2 := hg.block (w.heap.size + 1 + 1) (World.block_lt_of_cell? _ _ h3) (fun e => by have := hr _ e.symm; omega)
  have b3 := hg.block (w.heap.size + 1 + 1 + 1) (World.block_lt_of_cell? _ _ h4) (fun e => by have := hr _ e.symm; omega)
  refine ⟨init, x, c, T', e, h1, h2, (World.cell?_of_block (a := ⟨w.heap.size + 1 + 1, 0, none⟩) b2).trans h3, (World.cell?_of_block (a := ⟨w.heap.size + 1 + 1 + 1, 0, none⟩) b3).trans h4, ?_, ?_, h7⟩
  · exact h5.stays (hg.block b h5.lt_b (fun e => by have := hr _ e.symm; omega)) (hg.block bt h5.lt_bt (fun e => by have := hr _ e.symm; omega))
  · exact ⟨hg.os.trans h6.os, hg.tape.trans h6.tape, hg.output.trans h6.output, Nat.le_trans h6.size hg.size, fun k hk hk1 hk2 => (hg.block k (Nat.lt_of_lt_of_le hk h6.size) (fun e => by have := hr _ e.symm; omega)).trans (h6.block k hk hk1 hk2)⟩

attribute [local go_sem] Oper.semAt_some

set_option maxRecDepth 100000 in
set_option maxHeartbeats 4000000 in
theorem marksTake {w : World} {b bt n : Nat} {T : Nat → Bool} (H : MarksAt w b bt n T) (run : Nat) (hr : 1 ≤ run) (hn : run ≤ n) :
    Calls Tryz.prog 86 #[.pointer (some ⟨b, 0, none⟩), .int .i64 run] w fun e w' =>
      (∃ at_, FreeRow T n run at_ ∧ (∀ a, a < at_ → ¬ FreeRow T n run a) ∧ e = .returned (.tuple #[.int .i64 (at_ : Nat), .int .i64 0]) ∧ MarksAt w' b bt n (setT T at_ run true) ∧ PFr w w' b bt) ∨
      ((∀ a, ¬ FreeRow T n run a) ∧ e = .returned (.tuple #[.int .i64 0, .int .i64 4]) ∧ MarksAt w' b bt n T ∧ Below w.heap.size w w') := by
  have HH := Lib.hid H
  have hp := H.ptr
  have h1 := H.n1
  have hbl := H.lt_b
  clear H
  refine (callsIn_wide (n := 5)).1 ?_
  refine callsIn_of_wp_marks Tryz.func86 rfl trivial ?_ rfl
  simp only [Tryz.ntmps86, List.size_toArray, List.length_cons, List.length_nil, Nat.reduceAdd, Nat.reduceSub, Array.replicate_succ, Array.replicate_zero, List.push_toArray, List.append_toArray, List.nil_append, List.cons_append]
  have hmix : Tryz.prog.follows .mixedOrders = true := by kernel_rfl
  gi_wp2
  obtain ⟨wa, hwa⟩ : ∃ wa, wa = (((w.alloc (.cells #[.pointer (some ⟨b, 0, none⟩)] 94)).alloc (.cells #[.int .i64 run] 3)).alloc (.cells #[.int .i64 0] 3)).alloc (.cells #[.int .i64 0] 30) := ⟨_, rfl⟩
  obtain ⟨s, hs⟩ : ∃ s, s = w.heap.size := ⟨_, rfl⟩
  have c0 : wa.cell? ⟨s, 0, none⟩ = some (.pointer (some ⟨b, 0, none⟩)) := by rw [hwa, hs]; go_simp
  have c1 : wa.cell? ⟨s + 1, 0, none⟩ = some (.int .i64 run) := by rw [hwa, hs]; go_simp
  have c2 : wa.cell? ⟨s + 1 + 1, 0, none⟩ = some (.int .i64 0) := by rw [hwa, hs]; go_simp
  have c3 : wa.cell? ⟨s + 1 + 1 + 1, 0, none⟩ = some (.int .i64 0) := by rw [hwa, hs]; go_simp
  have z2 : wa.frozen? ⟨s + 1 + 1, 0, none⟩ = false := by rw [hwa, hs]; go_simp
  have z3 : wa.frozen? ⟨s + 1 + 1 + 1, 0, none⟩ = false := by rw [hwa, hs]; go_simp
  have hsz : wa.heap.size = s + 4 := by rw [hwa, hs]; simp
  have BA : Below w.heap.size w wa := by rw [hwa]; exact ((((Below.refl _ w).alloc (Nat.le_refl _) _).alloc (by simp) _).alloc (by simp; omega) _).alloc (by simp; omega) _
  have MA := Lib.hid (HH.out.below BA (Nat.le_refl _))
  have hpa := MA.out.ptr
  rw [← hwa, ← hs]
  have HBA := Lib.hid BA
  have HSZ := Lib.hid hsz
  have HWS := Lib.hid hs
  clear hwa hs hp BA hsz
  have hq0 : decide ((run : Int) < 1) = false := decide_eq_false (by omega)
  have hq1 : decide ((n : Int) < run) = false := decide_eq_false (by omega)
  gi_quiet (fail)
  gi_wp2
  refine ⟨trivial, (callsIn_wide.2 (rows_any _ _)).mono ?_⟩
  rintro e w1 ⟨rfl, rfl⟩
  gi_wp2
  have hwd : (wa.drewN nq).heap.size = s + 4 := HSZ.out
  obtain ⟨wb, hwb⟩ : ∃ wb, wb = (wa.drewN nq).alloc (.cells #[.pointer (some ⟨b, 0, none⟩)] 94) := ⟨_, rfl⟩
  have d4 : wb.cell? ⟨s + 4, 0, none⟩ = some (.pointer (some ⟨b, 0, none⟩)) := by rw [hwb, ← hwd, World.cell?_alloc_new]; rfl
  have BB : Below wa.heap.size wa wb := by rw [hwb]; exact (⟨rfl, rfl, rfl, Nat.le_refl _, fun _ _ => rfl⟩ : Below wa.heap.size wa (wa.drewN nq)).alloc (Nat.le_of_eq rfl) _
  have G0 : Hid (TkI w b bt n run T [] wb) := by
    have hs := HWS.out
    subst hs
    have hz := HSZ.out
    exact ⟨(BB.cell (p := ⟨w.heap.size, 0, none⟩) (by show w.heap.size < _; omega)).trans c0, (BB.cell (p := ⟨w.heap.size + 1, 0, none⟩) (by show w.heap.size + 1 < _; omega)).trans c1, (BB.cell (p := ⟨w.heap.size + 1 + 1, 0, none⟩) (by show w.heap.size + 1 + 1 < _; omega)).trans c2, (BB.cell (p := ⟨w.heap.size + 1 + 1 + 1, 0, none⟩) (by show w.heap.size + 1 + 1 + 1 < _; omega)).trans c3,
      (World.frozen?_of_block (a := ⟨w.heap.size + 1 + 1, 0, none⟩) (BB.block (w.heap.size + 1 + 1) (by omega))).trans z2, (World.frozen?_of_block (a := ⟨w.heap.size + 1 + 1 + 1, 0, none⟩) (BB.block (w.heap.size + 1 + 1 + 1) (by omega))).trans z3,
      HBA.out.trans (BB.mono HBA.out.size), by simp⟩
  have MB : Hid (MarksAt wb b bt n T) := MA.out.below BB (Nat.le_refl _)
  have hzb : wb.heap.size = s + 5 := by rw [hwb]; simp; exact hwd
  rw [← hwb, HSZ.out]
  have hbb := MA.out.lt_b
  have hblt : b < s := by have := HWS.out; omega
  have hbtlt : bt < s := by have := HWS.out; have := HH.out.lt_bt; omega
  have HD4 := Lib.hid d4
  clear hwb c0 c1 c2 c3 z2 z3 hq0 hq1 hpa hwd BB d4 hbb
  have hs := HWS.out
  subst hs
  clear HWS
  refine wpIn_rangeFunc_ownF (N := 256) rfl (by omega) (gf := 133) (lb := #[.pointer (some ⟨w.heap.size + 4, 0, none⟩)]) rfl trivial (enters_of Tryz.func133 (by kernel_rfl) rfl)
    (encs := fun x : Rw => #[.int .i64 (x.1.val : Int), .int .i64 (x.2.val : Int)]) (Kp := KeepC w.heap.size (w.heap.size + 4)) (S := fun ys => ∃ e, n ≤ e ∧ RowsTo T n 0 ys e) (Sp := fun pre => ∃ e, RowsTo T n 0 pre e) (w0 := wb)
    (fun l J Jx W hW _ _ hY h0 => rows1_in l (w.heap.size + 4) w.heap.size b bt n T h1 hblt hbtlt J Jx hY W ((hW.cell (p := ⟨w.heap.size + 4, 0, none⟩) (by show w.heap.size + 4 < _; omega)).trans HD4.out) ((hW.cell (p := ⟨b, 0, none⟩) MB.out.lt_b).trans MB.out.ptr) (fun j hj => (hW.cell (p := ⟨bt, j, none⟩) MB.out.lt_bt).trans (MB.out.row j hj)) h0)
    (fun h h' => h.trans h') (KeepC.put (by omega)) (Below.refl _ _) (fun _ => rfl)
    (TkI w b bt n run T) (fun c pre W => c = .ret ∧ TkX w b bt n run T pre W)
    (fun s A B row hs hg hr => hs.kept hg (fun r e => by have := (hr r e).1; omega))
    (fun c s A B row hs hg hr => ⟨hs.1, hs.2.kept hblt hbtlt hg (fun r e => by have := (hr r e).1; omega)⟩)
    G0.out (fun x => { tmps := List.toArray ((.pointer (some ⟨b, 0, none⟩) : Value) :: (.int .i64 run : Value) :: (.pointer (some ⟨w.heap.size, 0, none⟩) : Value) :: (.pointer (some ⟨w.heap.size + 1, 0, none⟩) : Value) :: (.pointer (some ⟨w.heap.size + 1 + 1, 0, none⟩) : Value) :: (.pointer (some ⟨w.heap.size + 1 + 1 + 1, 0, none⟩) : Value) :: (.int .i64 (x.1.val : Int) : Value) :: (.int .i64 (x.2.val : Int) : Value) :: (.bool false : Value) :: (.pointer (some ⟨b, 0, none⟩) : Value) :: (.bool false : Value) :: (.bool false : Value) :: (.int .i64 run : Value) :: (.bool false : Value) :: (.bool false : Value) :: (.int .i64 run : Value) :: (.pointer (some ⟨b, 0, none⟩) : Value) :: (.pointer (some ⟨b, 0, none⟩) : Value) :: (.pointer (some ⟨b, 0, none⟩) : Value) :: (.slice (some ⟨bt, 0, none⟩) n n : Value) :: (.int .i64 n : Value) :: (.bool false : Value) :: (.bool false : Value) :: (.pointer (some ⟨b, 0, none⟩) : Value) :: (.func (.func 133) #[] #[.pointer (some ⟨w.heap.size + 4, 0, none⟩)] : Value) :: (.int .i64 (x.1.val : Int) : Value) :: (.int .i64 (x.2.val : Int) : Value) :: undef :: undef :: undef :: undef :: undef :: undef :: undef :: undef :: []), defers := [] }) ?assign ?body ?done ?stop
  case assign =>
    intro l x W K hK
    gi_wp2
    exact hK
  case body =>
    rintro l pre x W hI hl
    have HI := Lib.hid hI
    have c0 := hI.c0
    have c1 := hI.c1
    have c2 := hI.c2
    have c3 := hI.c3
    have z2 := hI.z2
    have z3 := hI.z3
    clear hI
    by_cases hx : run ≤ x.2.val
    · have hx2 : (run : Int) ≤ (x.2.val : Int) := by omega
      have MW := Lib.hid (HH.out.below HI.out.bl (Nat.le_refl _))
      have hx1 := x.1.isLt
      gi_wp2
      refine ⟨trivial, (CallsIn.inRound l (callsIn_wide.2 (marksMark_any MW.out x.1.val run hr (by omega) (by omega)))).mono ?_⟩
      rintro e w3 ⟨cc, T', rfl, hm3, hp3, hf3⟩
      have q2 : w3.cell? ⟨w.heap.size + 1 + 1, 0, none⟩ = some (.int .i64 0) := (World.cell?_of_block (a := ⟨w.heap.size + 1 + 1, 0, none⟩) (hp3.block _ (World.block_lt_of_cell? _ _ c2) (by show w.heap.size + 1 + 1 ≠ b; omega) (by show w.heap.size + 1 + 1 ≠ bt; omega))).trans c2
      have q3 : w3.cell? ⟨w.heap.size + 1 + 1 + 1, 0, none⟩ = some (.int .i64 0) := (World.cell?_of_block (a := ⟨w.heap.size + 1 + 1 + 1, 0, none⟩) (hp3.block _ (World.block_lt_of_cell? _ _ c3) (by show w.heap.size + 1 + 1 + 1 ≠ b; omega) (by show w.heap.size + 1 + 1 + 1 ≠ bt; omega))).trans c3
      have y2 : w3.frozen? ⟨w.heap.size + 1 + 1, 0, none⟩ = false := (World.frozen?_of_block (a := ⟨w.heap.size + 1 + 1, 0, none⟩) (hp3.block _ (World.block_lt_of_cell? _ _ c2) (by show w.heap.size + 1 + 1 ≠ b; omega) (by show w.heap.size + 1 + 1 ≠ bt; omega))).trans z2
      have y3 : w3.frozen? ⟨w.heap.size + 1 + 1 + 1, 0, none⟩ = false := (World.frozen?_of_block (a := ⟨w.heap.size + 1 + 1 + 1, 0, none⟩) (hp3.block _ (World.block_lt_of_cell? _ _ c3) (by show w.heap.size + 1 + 1 + 1 ≠ b; omega) (by show w.heap.size + 1 + 1 + 1 ≠ bt; omega))).trans z3
      have HM3 := Lib.hid hm3
      have HP3 := Lib.hid hp3
      have HF3 := Lib.hid hf3
      clear hm3 hp3 hf3 c2 c3 z2 z3
      gi_wp2
      have hko : KeepsOthers W w3 := HP3.out.keepsOthers MW.out.ptr (MW.out.row 0 MW.out.n0)
      refine ⟨(hko.trans (KeepsOthers.setCell _ ⟨w.heap.size + 1 + 1, 0, none⟩ _)).trans (KeepsOthers.setCell _ ⟨w.heap.size + 1 + 1 + 1, 0, none⟩ _), rfl, ⟨pre, x, cc, T', rfl, HI.out.sh, hx, ?_, ?_, ?_, ?_, HF3.out⟩⟩
      · go_simp
      · go_simp
      · exact HM3.out.stays (by rw [Below.heap_setCell _ _ _ _ (by show b ≠ w.heap.size + 1 + 1 + 1; omega), Below.heap_setCell _ _ _ _ (by show b ≠ w.heap.size + 1 + 1; omega)]) (by rw [Below.heap_setCell _ _ _ _ (by show bt ≠ w.heap.size + 1 + 1 + 1; omega), Below.heap_setCell _ _ _ _ (by show bt ≠ w.heap.size + 1 + 1; omega)])
      · have hB := HI.out.bl
        refine ⟨HP3.out.os.trans hB.os, HP3.out.tape.trans hB.tape, HP3.out.output.trans hB.output, by simpa [World.setCell] using Nat.le_trans hB.size HP3.out.size, fun k hk h1 h2 => ?_⟩
        rw [Below.heap_setCell _ _ _ _ (by show k ≠ w.heap.size + 1 + 1 + 1; omega), Below.heap_setCell _ _ _ _ (by show k ≠ w.heap.size + 1 + 1; omega)]
        exact (HP3.out.block k (Nat.lt_of_lt_of_le hk hB.size) h1 h2).trans (hB.block k hk)
    · have hx2 : ¬ (run : Int) ≤ (x.2.val : Int) := by omega
      gi_wp2
      exact ⟨KeepsOthers.refl _, KeepC.refl _ _ _, { HI.out with sh := fun y hy => by rcases List.mem_append.1 hy with h | h; exact HI.out.sh y h; simp at h; subst h; omega }⟩
  case done =>
    rintro D ys W hD ⟨e, he, hR⟩ hI hK
    have HI := Lib.hid hI
    have HR := Lib.hid hR
    have c2 := hI.c2
    have c3 := hI.c3
    have z2 := hI.z2
    have z3 := hI.z3
    clear hI hR
    gi_wp2
    obtain ⟨WD, hWD⟩ : ∃ WD, WD = (W.setCell ⟨w.heap.size + 1 + 1, 0, none⟩ (.int .i64 0)).setCell ⟨w.heap.size + 1 + 1 + 1, 0, none⟩ (.int .i64 4) := ⟨_, rfl⟩
    rw [← hWD]
    have hKo : KeepsOthers W WD := by rw [hWD]; exact (KeepsOthers.setCell W ⟨w.heap.size + 1 + 1, 0, none⟩ _).trans (KeepsOthers.setCell _ ⟨w.heap.size + 1 + 1 + 1, 0, none⟩ _)
    have hB : Below w.heap.size w WD := by rw [hWD]; exact (HI.out.bl.setCell (p := ⟨w.heap.size + 1 + 1, 0, none⟩) (by show w.heap.size ≤ w.heap.size + 1 + 1; omega) _).setCell (p := ⟨w.heap.size + 1 + 1 + 1, 0, none⟩) (by show w.heap.size ≤ w.heap.size + 1 + 1 + 1; omega) _
    have q2 : WD.cell? ⟨w.heap.size + 1 + 1, 0, none⟩ = some (.int .i64 0) := by rw [hWD]; go_simp
    have q3 : WD.cell? ⟨w.heap.size + 1 + 1 + 1, 0, none⟩ = some (.int .i64 4) := by rw [hWD]; go_simp
    have hK' := hKo.same D _ hK rfl
    clear hWD
    have kp : ∀ {ad : Addr} {v : Value}, WD.cell? ad = some v → (WD.putObj D (.deferred none)).cell? ad = some v := fun hv => cell_kept hv (grownBy_putObj' _ D (.deferred none)) (fun r e => by cases e; exact ⟨_, hK', rfl⟩)
    have p2 := kp q2
    have p3 := kp q3
    refine ⟨by simp, .inl ⟨_, _, rfl, run_takeDeferred hK', ?_⟩⟩
    have hfin : Below w.heap.size w (WD.putObj D (.deferred none)) := hB.trans (belowK_b (w := w) (Nat.le_refl _) _ D _ _ (by omega) hK' rfl rfl)
    refine ⟨.tuple #[.int .i64 0, .int .i64 4], ?_, .inr ⟨?_, rfl, HH.out.below hfin (Nat.le_refl _), hfin⟩⟩
    · simp [results, Tryz.results86, go_sem, p2, p3]
    · intro a hf
      obtain ⟨x, hx, h1, h2⟩ := HR.out.within (Nat.zero_le _) (Nat.lt_of_lt_of_le (by have := hf.1; omega) he) hr hf.1 hf.2
      have := HI.out.sh x hx
      omega
  case stop =>
    rintro D c pre W hD ⟨e, hR⟩ ⟨rfl, hX⟩ hK
    obtain ⟨init, x, cc, T', rfl, h2, h3, h4, h5, h6, h7, h8⟩ := hX.at_
    gi_wp2
    refine ⟨by simp, .inl ⟨_, _, rfl, run_takeDeferred hK, ?_⟩⟩
    have kp : ∀ {ad : Addr} {v : Value}, W.cell? ad = some v → (W.putObj D (.deferred none)).cell? ad = some v := fun hv => cell_kept hv (grownBy_putObj' _ D (.deferred none)) (fun r e => by cases e; exact ⟨_, hK, rfl⟩)
    have p2 := kp h4
    have p3 := kp h5
    have hg := grownBy_putObj' W D (.deferred none)
    refine ⟨.tuple #[.int .i64 (x.1.val : Nat), .int .i64 cc], ?_, .inl ⟨x.1.val, ?_, ?_, ?_, ?_, ?_⟩⟩
    · simp [results, Tryz.results86, go_sem, p2, p3]
    all_goals (obtain ⟨g1, g2, g3⟩ := hR.unsnoc)
    · exact ⟨by omega, fun j hj => g3 j (by omega)⟩
    · intro a ha hf
      obtain ⟨y, hy, k1, k2⟩ := g1.within (Nat.zero_le _) ha hr hf.1 hf.2
      have := h2 y hy
      omega
    · rw [(h8 ⟨by omega, fun j hj => g3 j (by omega)⟩).1]
    · rw [← (h8 ⟨by omega, fun j hj => g3 j (by omega)⟩).2]
      exact h6.stays (hg.block b h6.lt_b (fun e => by injection e with e; omega)) (hg.block bt h6.lt_bt (fun e => by injection e with e; omega))
    · exact ⟨hg.os.trans h7.os, hg.tape.trans h7.tape, hg.output.trans h7.output, Nat.le_trans h7.size hg.size, fun k hk hk1 hk2 => (hg.block k (Nat.lt_of_lt_of_le hk h7.size) (fun e => by injection e with e; omega)).trans (h7.block k hk hk1 hk2)⟩
end Go.Proofs.YtbljphaklciinaaGreat

/- Layer 4 (arena): an arena at a block; New, Given, next, find. -/
namespace Go.Proofs.YtbljphaklciinaaGreat
open Go.RowKit

/-- What a call leaves: all but some blocks. -/
structure Fr (w w' : World) (S : Nat → Prop) : Prop where
  os : w'.os = w.os
  tape : w'.tape = w.tape
  output : w'.output = w.output
  size : w.heap.size ≤ w'.heap.size
  block : ∀ k, k < w.heap.size → ¬ S k → w'.heap[k]? = w.heap[k]?
theorem Fr.refl (w : World) (S : Nat → Prop) : Fr w w S := ⟨rfl, rfl, rfl, Nat.le_refl _, fun _ _ _ => rfl⟩
theorem Fr.trans {w w1 w2 : World} {S S' : Nat → Prop} (h : Fr w w1 S) (h' : Fr w1 w2 S') (hs : ∀ k, S' k → S k ∨ w.heap.size ≤ k) : Fr w w2 S :=
  ⟨h'.os.trans h.os, h'.tape.trans h.tape, h'.output.trans h.output, Nat.le_trans h.size h'.size, fun k hk hn => (h'.block k (Nat.lt_of_lt_of_le hk h.size) (fun hk' => by rcases hs k hk' with h1 | h1; exact hn h1; omega)).trans (h.block k hk hn)⟩
theorem Fr.mono {w w' : World} {S S' : Nat → Prop} (h : Fr w w' S) (hs : ∀ k, S k → S' k) : Fr w w' S' := ⟨h.os, h.tape, h.output, h.size, fun k hk hn => h.block k hk (fun hk' => hn (hs k hk'))⟩
theorem Fr.of_pfr {w w' : World} {b bb : Nat} (h : PFr w w' b bb) : Fr w w' (fun k => k = b ∨ k = bb) := ⟨h.os, h.tape, h.output, h.size, fun k hk hn => h.block k hk (fun e => hn (.inl e)) (fun e => hn (.inr e))⟩
theorem Fr.of_below {w w' : World} (h : Below w.heap.size w w') (S : Nat → Prop) : Fr w w' S := ⟨h.os, h.tape, h.output, h.size, fun k hk _ => h.block k hk⟩
theorem Fr.of_grown {w w' : World} {g : Option Nat} (h : w.grownBy w' g) : Fr w w' (fun k => some k = g) := ⟨h.os, h.tape, h.output, h.size, fun k hk hn => h.block k hk hn⟩
theorem Fr.set {w w' : World} {S : Nat → Prop} (h : Fr w w' S) {b : Nat} (hb : S b ∨ w.heap.size ≤ b) (i : Nat) (v : Value) : Fr w (w'.setCell ⟨b, i, none⟩ v) S :=
  ⟨h.os, h.tape, h.output, by simpa [World.setCell] using h.size, fun k hk hn => (Below.heap_setCell w' ⟨b, i, none⟩ v k (fun e => by rcases hb with h1 | h1; exact hn (e ▸ h1); exact absurd hk (by have e2 : k = b := e; omega))).trans (h.block k hk hn)⟩
theorem Fr.below {w w' : World} {S : Nat → Prop} {N : Nat} (h : Fr w w' S) (hS : ∀ k, S k → N ≤ k) (hN : N ≤ w.heap.size) : Below N w w' :=
  ⟨h.os, h.tape, h.output, h.size, fun k hk => h.block k (by omega) (fun e => by have := hS k e; omega)⟩

/-- Regions as cells. -/
def flatR (R : List (Nat × Nat)) : List Value := R.flatMap fun x => [.int .i64 (x.1 : Nat), .int .i64 (x.2 : Nat)]

theorem flatR_len (R : List (Nat × Nat)) : (flatR R).length = R.length * 2 := by
  induction R with
  | nil => rfl
  | cons x r ih => simp [flatR] at ih ⊢; omega
theorem flatR_at {R : List (Nat × Nat)} : ∀ {k : Nat} {x : Nat × Nat}, R[k]? = some x → (flatR R)[k * 2]? = some (.int .i64 (x.1 : Nat)) ∧ (flatR R)[k * 2 + 1]? = some (.int .i64 (x.2 : Nat)) := by
  induction R with
  | nil => intro k x h; simp at h
  | cons y r ih =>
    intro k x h
    cases k with
    | zero => simp at h; subst h; simp [flatR]
    | succ k =>
      have h2 := ih (k := k) (x := x) (by simpa using h)
      have e : flatR (y :: r) = .int .i64 (y.1 : Nat) :: .int .i64 (y.2 : Nat) :: flatR r := rfl
      rw [e, show (k + 1) * 2 = k * 2 + 1 + 1 by omega]
      exact h2

structure ArenaAt (w : World) (B ba bk bt n lim : Nat) (T : Nat → Bool) (R : List (Nat × Nat)) (g : Option Nat) (rf : Nat) : Prop where
  c0 : w.cell? ⟨ba, 0, none⟩ = some (.pointer (some ⟨bk, 0, none⟩))
  c1 : w.cell? ⟨ba, 1, none⟩ = some (.int .i64 n)
  c2 : w.cell? ⟨ba, 2, none⟩ = some (.int .i64 lim)
  c3 : ∃ v, w.cell? ⟨ba, 3, none⟩ = some v ∧ w.ownsRow B 172 2 v R.length (flatR R) ∧ v.ownBlock = g
  c4 : w.cell? ⟨ba, 4, none⟩ = some (.slice none 0 0)
  c5 : w.cell? ⟨ba, 5, none⟩ = some (.int .i64 rf)
  z3 : w.frozen? ⟨ba, 3, none⟩ = false
  z5 : w.frozen? ⟨ba, 5, none⟩ = false
  marks : MarksAt w bk bt n T
  nk : ba ≠ bk
  nt : ba ≠ bt
  ga : g ≠ some ba
  gk : g ≠ some bk
  gt : g ≠ some bt
  n64 : n ≤ 64
  ll : lim ≤ n
  rn : rf ≤ 1000000

theorem ArenaAt.lt_a {w : World} {B ba bk bt n lim rf : Nat} {T : Nat → Bool} {R : List (Nat × Nat)} {g : Option Nat} (h : ArenaAt w B ba bk bt n lim T R g rf) : ba < w.heap.size := World.block_lt_of_cell? w _ h.c0
theorem ArenaAt.lt_g {w : World} {B ba bk bt n lim rf : Nat} {T : Nat → Bool} {R : List (Nat × Nat)} {g : Option Nat} (h : ArenaAt w B ba bk bt n lim T R g rf) {k : Nat} (e : g = some k) : k < w.heap.size ∧ B ≤ k := by
  obtain ⟨v, _, ho, hg⟩ := h.c3
  have := ho.lt k (hg.trans e)
  exact ⟨this.2, this.1⟩

theorem own_stays {w w' : World} {N c : Nat} {E : TypeId} {s : Nat} {v : Value} {xs : List Value} (h : w.ownsRow N E s v c xs) (hg : ∀ k, v.ownBlock = some k → w'.heap[k]? = w.heap[k]?) : w'.ownsRow N E s v c xs := by
  refine ⟨h.1, ?_⟩
  rcases h.2 with hn | ⟨g, cap, cur, rfl, hg1, hh, r⟩
  · exact .inl hn
  · exact .inr ⟨g, cap, cur, rfl, hg1, (hg g rfl).trans hh, r⟩

theorem ArenaAt.stays {w w' : World} {B ba bk bt n lim rf : Nat} {T : Nat → Bool} {R : List (Nat × Nat)} {g : Option Nat} (h : ArenaAt w B ba bk bt n lim T R g rf) (ha : w'.heap[ba]? = w.heap[ba]?) (hk : w'.heap[bk]? = w.heap[bk]?) (ht : w'.heap[bt]? = w.heap[bt]?) (hg : ∀ k, g = some k → w'.heap[k]? = w.heap[k]?) :
    ArenaAt w' B ba bk bt n lim T R g rf := by
  obtain ⟨v, hv, ho, e⟩ := h.c3
  exact ⟨(World.cell?_of_block (a := ⟨ba, 0, none⟩) ha).trans h.c0, (World.cell?_of_block (a := ⟨ba, 1, none⟩) ha).trans h.c1, (World.cell?_of_block (a := ⟨ba, 2, none⟩) ha).trans h.c2,
    ⟨v, (World.cell?_of_block (a := ⟨ba, 3, none⟩) ha).trans hv, own_stays ho (fun k hk => hg k (e.symm.trans hk)), e⟩, (World.cell?_of_block (a := ⟨ba, 4, none⟩) ha).trans h.c4, (World.cell?_of_block (a := ⟨ba, 5, none⟩) ha).trans h.c5,
    (World.frozen?_of_block (a := ⟨ba, 3, none⟩) ha).trans h.z3, (World.frozen?_of_block (a := ⟨ba, 5, none⟩) ha).trans h.z5, h.marks.stays hk ht, h.nk, h.nt, h.ga, h.gk, h.gt, h.n64, h.ll, h.rn⟩

/-- An arena's own blocks. -/
def arS (ba bk bt : Nat) (g : Option Nat) (k : Nat) : Prop := k = ba ∨ k = bk ∨ k = bt ∨ some k = g
theorem ArenaAt.fr {w w' : World} {B ba bk bt n lim rf : Nat} {T : Nat → Bool} {R : List (Nat × Nat)} {g : Option Nat} {S : Nat → Prop} (h : ArenaAt w B ba bk bt n lim T R g rf) (hf : Fr w w' S) (hs : ∀ k, arS ba bk bt g k → ¬ S k) : ArenaAt w' B ba bk bt n lim T R g rf :=
  h.stays (hf.block ba h.lt_a (hs _ (.inl rfl))) (hf.block bk h.marks.lt_b (hs _ (.inr (.inl rfl)))) (hf.block bt h.marks.lt_bt (hs _ (.inr (.inr (.inl rfl))))) (fun k e => hf.block k (h.lt_g e).1 (hs _ (.inr (.inr (.inr e.symm)))))

set_option maxRecDepth 100000 in
set_option maxHeartbeats 1000000 in
theorem arenaNew_ok (w : World) (n lim : Nat) (h0 : 0 < n) (h1 : n ≤ 64) (hl : lim ≤ n) : Calls Tryz.prog 35 #[.int .i64 n, .int .i64 lim] w fun e w' => ∃ ba bk bt, e = .returned (.tuple #[.pointer (some ⟨ba, 0, none⟩), .int .i64 0]) ∧
    ArenaAt w' w.heap.size ba bk bt n lim (fun _ => false) [] none 0 ∧ w.heap.size ≤ ba ∧ w.heap.size ≤ bk ∧ w.heap.size ≤ bt ∧ Below w.heap.size w w' := by
  have HM := Lib.hid (markNew_ok w n h0 (by omega))
  go_enter Tryz.func35, Tryz.ntmps35
  go_wp2_with fail
  refine HM.out.mono ?_
  rintro e w1 ⟨bk, bt, rfl, hm, hk, ht, hb⟩
  have HMA := Lib.hid hm
  have HB := Lib.hid hb
  clear hm hb HM
  go_wp2_with fail
  go_ret2
  have hB2 : Below w1.heap.size w1 (w1.alloc (.cells #[.pointer (some ⟨bk, 0, none⟩), .int .i64 n, .int .i64 lim, .slice none 0 0, .slice none 0 0, .int .i64 0] 97)) := (Below.refl _ _).alloc (Nat.le_refl _) _
  have h2 := HMA.out.lt_b
  have h3 := HMA.out.lt_bt
  refine ⟨w1.heap.size, bk, bt, rfl, ⟨?_, ?_, ?_, ⟨.slice none 0 0, ?_, ⟨rfl, .inl ⟨rfl, rfl⟩⟩, rfl⟩, ?_, ?_, by simp, by simp, HMA.out.below hB2 (Nat.le_refl _), by omega, by omega, by simp, by simp, by simp, h1, hl, by omega⟩, HB.out.size, hk, ht, HB.out.trans (hB2.mono HB.out.size)⟩
  all_goals (rw [World.cell?_alloc_new]; rfl)

set_option maxRecDepth 100000 in
set_option maxHeartbeats 1000000 in
theorem arenaGiven {w : World} {B ba bk bt n lim rf : Nat} {T : Nat → Bool} {R : List (Nat × Nat)} {g : Option Nat} (H : ArenaAt w B ba bk bt n lim T R g rf) : Calls Tryz.prog 14 #[.pointer (some ⟨ba, 0, none⟩)] w fun e w' => e = .returned (.int .i64 ((n : Int) - freeN T n)) ∧ ∃ k, w' = w.drewN k := by
  have c0 := H.c0
  have c1 := H.c1
  have h64 := H.n64
  have hf1 : freeN T n ≤ n := by unfold freeN; exact Nat.le_trans List.countP_le_length (by simp)
  have HL := Lib.hid (fun z => marksLeft (H.marks.stays (w' := w.drewN z) rfl rfl))
  have HQ : Hid (∀ z, Calls Tryz.prog 38 #[.pointer (some ⟨bk, 0, none⟩)] (w.drewN z) fun e w' => e = .returned (.int .i64 (freeN T n)) ∧ w' = w.drewN z) := HL.out
  clear H HL
  go_enter Tryz.func14, Tryz.ntmps14
  go_wp2_with fail
  go_quiet ((first | (go_at_call 38; exact Calls.quiet_of_same (HQ.out _)) | fail))
  go_wp2_with fail
  go_ret
  exact ⟨rfl, nq, rfl⟩

theorem arenaNext {w : World} {ba : Nat} (h : w.cell? ⟨ba, 4, none⟩ = some (.slice none 0 0)) : Calls Tryz.prog 85 #[.pointer (some ⟨ba, 0, none⟩)] w fun e w' => e = .returned (.bool false) ∧ w' = w := by
  go_enter Tryz.func85, Tryz.ntmps85
  go_wp2_with fail
  go_ret
  exact ⟨rfl, rfl⟩
end Go.Proofs.YtbljphaklciinaaGreat
