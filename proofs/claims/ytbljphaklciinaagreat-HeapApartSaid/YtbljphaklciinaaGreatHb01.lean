/- Walks of the program's functions, and plain laws on what they compute, text by text (Base, Word, MemL, Backward, MemS, Mem, List, Geo, CellW, CellT, ObjT, Page). No condition. -/
import Derived.Test.YtbljphaklciinaaGreatRows
import Derived.WalkKit
import Derived.WalkSpells
import Derived.WalkLawsBesides
import Derived.Deep.QuietTactic
import Derived.BigQuiet
import Derived.Lib.Hide
import Derived.Outline
import Derived.RangeFuncNested
import Derived.RangeFuncBound
import Derived.RangeFuncCalls
import Derived.RangeFuncLeaves
import Derived.Shelf.Abstract
import Derived.Shelf.RegionOpen
import Derived.OwnWalkIn
import Derived.TacticsInMore
import Derived.LoopNIn
import Derived.LoopIn
import Derived.Laws.Bits64b
import Derived.Below
import Derived.Laws.OwnMore
import Derived.Laws.Rows
import Derived.Deep.AppendLies
import Derived.Deep.Draws
import Derived.Maps.AppendAt
import Derived.RegionTactic
import Derived.OwnWalk
import Derived.ChangeAlike
import Derived.Deep.RegionHeld3

/- What a law's walk ends in, for all laws of this seat. -/
namespace Go.Proofs.YtbljphaklciinaaGreat
open Go.RowKit

/-- True, and nothing that was there has turned. -/
def TrueBelow (w : World) (e : Ending) (w' : World) : Prop := e = .returned (.bool true) ∧ Below w.heap.size w w'

theorem below_at {B b : Nat} {a w w' : World} (h : Below B a w) (hg : w.grownBy w' (some b)) (hB : B ≤ w.heap.size) (hb : B ≤ b) : Below B a w' :=
  h.grown hg hB (fun _ e => by injection e with e; omega)

theorem only_set {w w1 : World} {b i : Nat} (h : w.grownBy w1 (some b)) (v : Value) : w.grownBy (w1.setCell ⟨b, i, none⟩ v) (some b) :=
  ⟨h.os, h.tape, h.output, by simpa [World.setCell] using h.size, fun k hk hne => (Below.heap_setCell w1 ⟨b, i, none⟩ v k (fun e => hne (by rw [e]))).trans (h.block k hk hne)⟩
theorem only_drewN {a w : World} {row : Option Nat} (h : a.grownBy w row) (n : Nat) : a.grownBy (w.drewN n) row := ⟨h.os, h.tape, h.output, h.size, h.block⟩

theorem cells_u64 : Tryz.prog.cellsOf 29 = 1 := by kernel_rfl
theorem cells_bool : Tryz.prog.cellsOf 4 = 1 := by kernel_rfl
theorem cells_int : Tryz.prog.cellsOf 3 = 1 := by kernel_rfl
theorem cells_u8 : Tryz.prog.cellsOf 5 = 1 := by kernel_rfl

end Go.Proofs.YtbljphaklciinaaGreat

/- Words in memory, plainly: eight bytes, the least one first. -/
namespace Go.Proofs.YtbljphaklciinaaGreat

def le : List Nat → Nat
  | [] => 0
  | c :: r => c + 256 * le r

theorem le_lt : ∀ (l : List Nat), (∀ c ∈ l, c < 256) → le l < 256 ^ l.length
  | [], _ => by simp [le]
  | c :: r, h => by
    have h1 := le_lt r (fun x hx => h x (by simp [hx]))
    have h2 := h c (by simp)
    simp only [le, List.length_cons, Nat.pow_succ]
    have : le r + 1 ≤ 256 ^ r.length := h1
    have := Nat.mul_le_mul_left 256 this
    omega

/-- The digits of x, the least one first. -/
theorem le_digits : ∀ (n x : Nat), le ((List.range n).map fun i => x / 256 ^ i % 256) = x % 256 ^ n
  | 0, x => by simp [le, Nat.mod_one]
  | n + 1, x => by
    rw [List.range_succ_eq_map, List.map_cons, List.map_map]
    have e : ((fun i => x / 256 ^ i % 256) ∘ Nat.succ) = fun i => (x / 256) / 256 ^ i % 256 := by
      funext i
      simp only [Function.comp]
      rw [Nat.div_div_eq_div_mul, Nat.pow_succ, Nat.mul_comm 256]
    rw [e]
    simp only [le, Nat.pow_zero, Nat.div_one]
    rw [le_digits n (x / 256), Nat.pow_succ, Nat.mul_comm (256 ^ n) 256, Nat.mod_mul]

/-- The word at a place. -/
def word (f : Nat → Nat) (a : Nat) : Nat := le ((List.range 8).map fun i => f (a + i))

theorem word_lt {f : Nat → Nat} (h : ∀ j, f j < 256) (a : Nat) : word f a < 18446744073709551616 := by
  have := le_lt ((List.range 8).map fun i => f (a + i)) (fun c hc => by
    obtain ⟨i, _, rfl⟩ := List.mem_map.1 hc
    exact h _)
  simpa [word] using this

/-- A word put there. -/
def putW (f : Nat → Nat) (a x : Nat) : Nat → Nat := fun j => if a ≤ j ∧ j < a + 8 then x / 256 ^ (j - a) % 256 else f j

theorem putW_lt {f : Nat → Nat} (h : ∀ j, f j < 256) (a x j : Nat) : putW f a x j < 256 := by
  unfold putW
  split
  · exact Nat.mod_lt _ (by omega)
  · exact h j

theorem word_putW {f : Nat → Nat} {a x : Nat} (hx : x < 18446744073709551616) : word (putW f a x) a = x := by
  have e : (List.range 8).map (fun i => putW f a x (a + i)) = (List.range 8).map fun i => x / 256 ^ i % 256 := by
    refine List.map_congr_left fun i hi => ?_
    have := List.mem_range.1 hi
    unfold putW
    rw [if_pos ⟨by omega, by omega⟩, Nat.add_sub_cancel_left]
  unfold word
  rw [e, le_digits]
  exact Nat.mod_eq_of_lt hx

theorem word_congr {f g : Nat → Nat} {a : Nat} (h : ∀ j, a ≤ j → j < a + 8 → f j = g j) : word f a = word g a := by
  unfold word
  congr 1
  refine List.map_congr_left fun i hi => ?_
  have := List.mem_range.1 hi
  exact h _ (by omega) (by omega)

theorem word_other {f : Nat → Nat} {a b x : Nat} (h : b + 8 ≤ a ∨ a + 8 ≤ b) : word (putW f a x) b = word f b :=
  word_congr fun j h1 h2 => by
    unfold putW
    rw [if_neg (by omega)]

/-- Blocks that hang on one another in memory: where the first one is. -/
def Chain (f : Nat → Nat) : Nat → List Nat → Prop
  | h, [] => h = 0
  | h, a :: r => h = a ∧ a ≠ 0 ∧ Chain f (word f a) r

theorem Chain.congr {f g : Nat → Nat} : ∀ {l : List Nat} {h : Nat}, Chain f h l → (∀ a ∈ l, word g a = word f a) → Chain g h l
  | [], _, hc, _ => hc
  | a :: r, _, ⟨h1, h2, h3⟩, he => ⟨h1, h2, by rw [he a (by simp)]; exact Chain.congr h3 (fun x hx => he x (by simp [hx]))⟩

theorem Chain.put {f : Nat → Nat} {l : List Nat} {h a x : Nat} (hc : Chain f h l) (hd : ∀ b ∈ l, b + 8 ≤ a ∨ a + 8 ≤ b) : Chain (putW f a x) h l :=
  hc.congr fun b hb => word_other (hd b hb)

/-- One more ahead. -/
theorem Chain.cons {f : Nat → Nat} {l : List Nat} {h a : Nat} (hc : Chain f h l) (ha : a ≠ 0) (hh : h < 18446744073709551616) (hd : ∀ b ∈ l, b + 8 ≤ a ∨ a + 8 ≤ b) : Chain (putW f a h) a (a :: l) :=
  ⟨rfl, ha, by rw [word_putW hh]; exact hc.put hd⟩

theorem Chain.head {f : Nat → Nat} {l : List Nat} {h : Nat} (hc : Chain f h l) : h = l.headD 0 := by
  cases l with
  | nil => exact hc
  | cons a r => exact hc.1
end Go.Proofs.YtbljphaklciinaaGreat

/- Layer 2 (mem), walked. -/
namespace Go.Proofs.YtbljphaklciinaaGreat
open Go.RowKit

structure MemAt (w : World) (bm bb sz : Nat) (f : Nat → Nat) : Prop where
  ptr : w.cell? ⟨bm, 0, none⟩ = some (.slice (some ⟨bb, 0, none⟩) sz sz)
  ne : bm ≠ bb
  cell : ∀ i, i < sz → w.cell? ⟨bb, i, none⟩ = some (.int .u8 (f i))
  frz : ∀ i, i < sz → w.frozen? ⟨bb, i, none⟩ = false
  lt : ∀ j, f j < 256
  s0 : 0 < sz
  s1 : sz ≤ 1048576

theorem MemAt.stays {w w' : World} {bm bb sz : Nat} {f : Nat → Nat} (h : MemAt w bm bb sz f) (h1 : w'.heap[bm]? = w.heap[bm]?) (h2 : w'.heap[bb]? = w.heap[bb]?) : MemAt w' bm bb sz f :=
  ⟨(World.cell?_of_block (a := ⟨bm, 0, none⟩) h1).trans h.ptr, h.ne, fun i hi => (World.cell?_of_block (a := ⟨bb, i, none⟩) h2).trans (h.cell i hi), fun i hi => (World.frozen?_of_block (a := ⟨bb, i, none⟩) h2).trans (h.frz i hi), h.lt, h.s0, h.s1⟩

theorem MemAt.lt_bm {w : World} {bm bb sz : Nat} {f : Nat → Nat} (h : MemAt w bm bb sz f) : bm < w.heap.size := World.block_lt_of_cell? w _ h.ptr
theorem MemAt.lt_bb {w : World} {bm bb sz : Nat} {f : Nat → Nat} (h : MemAt w bm bb sz f) : bb < w.heap.size := World.block_lt_of_cell? w _ (h.cell 0 h.s0)
theorem MemAt.below {w w' : World} {bm bb sz N : Nat} {f : Nat → Nat} (h : MemAt w bm bb sz f) (hb : Below N w w') (hN : w.heap.size ≤ N) : MemAt w' bm bb sz f :=
  h.stays (hb.block bm (by have := h.lt_bm; omega)) (hb.block bb (by have := h.lt_bb; omega))
theorem MemAt.alloc {w : World} {bm bb sz : Nat} {f : Nat → Nat} (h : MemAt w bm bb sz f) (o : Obj) : MemAt (w.alloc o) bm bb sz f :=
  h.below ((Below.refl _ _).alloc (Nat.le_refl _) o) (Nat.le_refl _)

set_option maxRecDepth 100000 in
set_option maxHeartbeats 1000000 in
theorem memSize {w : World} {bm bb sz : Nat} {f : Nat → Nat} (h : MemAt w bm bb sz f) : Calls Tryz.prog 84 #[.pointer (some ⟨bm, 0, none⟩)] w fun e w' => e = .returned (.int .u64 sz) ∧ w = w' := by
  have hp := h.ptr
  have h1 := h.s1
  clear h
  go_enter Tryz.func84, Tryz.ntmps84
  go_wp2_with fail
  go_ret
  exact ⟨rfl, rfl⟩

set_option maxRecDepth 100000 in
set_option maxHeartbeats 1000000 in
theorem memIn_ok {w : World} {bm bb sz : Nat} {f : Nat → Nat} (h : MemAt w bm bb sz f) (a n : Nat) (ha : a < sz) (hn : a + n ≤ sz) : Calls Tryz.prog 49 #[.pointer (some ⟨bm, 0, none⟩), .int .u64 a, .int .u64 n] w fun e w' =>
    e = .returned (.tuple #[.slice (some ⟨bb, a, none⟩) n (sz - a), .int .i64 0]) ∧ w = w' := by
  have hp := h.ptr
  have h1 := h.s1
  have HH := Lib.hid h
  clear h
  go_enter Tryz.func49, Tryz.ntmps49
  go_wp2_with fail
  (with_reducible refine (memSize HH.out).mono ?_)
  rintro e w1 ⟨rfl, rfl⟩
  go_wp2_with fail
  go_ret2
  exact ⟨by simp [Nat.add_sub_cancel_left], rfl⟩
theorem memIn8 {w : World} {bm bb sz : Nat} {f : Nat → Nat} (h : MemAt w bm bb sz f) (a : Nat) (ha : a + 8 ≤ sz) : Calls Tryz.prog 49 #[.pointer (some ⟨bm, 0, none⟩), .int .u64 a, .int .u64 8] w fun e w' =>
    e = .returned (.tuple #[.slice (some ⟨bb, a, none⟩) 8 (sz - a), .int .i64 0]) ∧ w = w' := memIn_ok h a 8 (by omega) ha
end Go.Proofs.YtbljphaklciinaaGreat

/- slices.Backward of bytes, walked; and a number of eight bytes. -/
namespace Go.Proofs.YtbljphaklciinaaGreat
open Go.RowKit Go.Shelf

attribute [local go_sem] Oper.semAt_some

theorem cellNew (W : World) (v : Value) (t : TypeId) : (W.alloc (.cells #[v] t)).cell? ⟨W.heap.size, 0, none⟩ = some v ∧ (W.alloc (.cells #[v] t)).frozen? ⟨W.heap.size, 0, none⟩ = false :=
  ⟨by rw [World.cell?_alloc_new]; rfl, by simp⟩
theorem cellAlloc {W : World} {a : Addr} {v : Value} (o : Obj) (h : W.cell? a = some v) : (W.alloc o).cell? a = some v := cell_kept h (World.grownBy_alloc W o none) (fun r e => by cases e)
theorem frozenAlloc {W : World} {a : Addr} {v : Value} (o : Obj) (h : W.cell? a = some v) (hf : W.frozen? a = false) : (W.alloc o).frozen? a = false := (frozen_kept h (World.grownBy_alloc W o none) (fun r e => by cases e)).trans hf

/-- What has come when k rounds are over. -/
def upto {α : Type} (f : Nat → α) (k : Nat) : List α := (List.range k).map f
theorem upto_succ {α : Type} (f : Nat → α) (k : Nat) : upto f (k + 1) = upto f k ++ [f k] := by simp [upto, List.range_succ]
theorem upto_length {α : Type} (f : Nat → α) (k : Nat) : (upto f k).length = k := by simp [upto]

/-- What a round keeps: what lay below n₀, and one cell. -/
def KeepC (n₀ Bs : Nat) (A B : World) : Prop := Below n₀ A B ∧ ∀ v, A.cell? ⟨Bs, 0, none⟩ = some v → B.cell? ⟨Bs, 0, none⟩ = some v
theorem KeepC.refl (n₀ Bs : Nat) (A : World) : KeepC n₀ Bs A A := ⟨Below.refl _ _, fun _ h => h⟩
theorem KeepC.trans {n₀ Bs : Nat} {A B C : World} (h : KeepC n₀ Bs A B) (h' : KeepC n₀ Bs B C) : KeepC n₀ Bs A C := ⟨h.1.trans h'.1, fun v hv => h'.2 v (h.2 v hv)⟩
theorem KeepC.put {n₀ Bs : Nat} {w : World} (hn : n₀ ≤ w.heap.size) (W : World) (l : Nat) (o o' : Obj) (hl : w.heap.size ≤ l) (ho : W.heap[l]? = some o) (h1 : o.isCells = false) (h2 : o.isWalk = false) : KeepC n₀ Bs W (W.putObj l o') :=
  ⟨belowK_b (w := w) hn W l o o' hl ho h1 h2, fun v hv => cell_kept hv (grownBy_putObj' W l o') (fun r e => by cases e; exact ⟨o, ho, h1⟩)⟩

/-- Bytes from behind: the place, and the byte. -/
def backAt (f : Nat → Fin 256) (len k : Nat) : Nat × Fin 256 := (len - 1 - k, f (len - 1 - k))

set_option maxRecDepth 100000 in
set_option maxHeartbeats 2000000 in
theorem backward1_in (F : Fence) (n : Nat) (h8 : F.fn 142) (hro : F.round = none) (hn : 1 ≤ n) (l Bs n₀ b off len cap : Nat) (f : Nat → Fin 256) (hreach : len ≤ 1048576) (hb : b < n₀) (J Jx : List (Nat × Fin 256) → World → Prop)
    (hY : ∀ pre x W, J pre W → pre.length < len → YieldAt F (n - 1) Tryz.prog l #[.int .i64 (x.1 : Int), .int .u8 (x.2.val : Int)] W fun e W' =>
      (e = .returned (.bool true) ∧ J (pre ++ [x]) W' ∧ KeepC n₀ Bs W W') ∨ (e = .returned (.bool false) ∧ Jx (pre ++ [x]) W'))
    (W : World) (hBs : W.cell? ⟨Bs, 0, none⟩ = some (.slice (some ⟨b, off, none⟩) len cap)) (hc : ∀ j, j < len → W.cell? ⟨b, off + j, none⟩ = some (.int .u8 ((f j).val : Int))) (h0 : J [] W) :
    CallsIn F n Tryz.prog 142 #[.func (.yield l) #[] #[], .pointer (some ⟨Bs, 0, none⟩)] W fun e W' => (∃ v, e = .returned v) ∧
      ((∃ ys, ys = upto (backAt f len) len ∧ J ys W') ∨ (∃ pre, (∃ k, k ≤ len ∧ pre = upto (backAt f len) k) ∧ Jx pre W')) := by
  refine callsIn_of_wp Tryz.func142 rfl h8 ?_ hro
  simp only [Tryz.ntmps142, List.size_toArray, List.length_cons, List.length_nil, Nat.reduceAdd, Nat.reduceSub, Array.replicate_succ, Array.replicate_zero, List.push_toArray, List.append_toArray, List.nil_append, List.cons_append]
  gi_wp2
  gi_loopw [3] (fun i wr => ∃ k : Nat, k ≤ len ∧ i = .int .i64 ((len : Int) - 1 - k) ∧ J (upto (backAt f len) k) wr ∧ KeepC n₀ Bs W wr) (fun i _ => (intOf i + 1).toNat)
  case atStart => exact ⟨0, Nat.zero_le _, by simp, h0, KeepC.refl _ _ _⟩
  case round =>
    obtain ⟨k, hk, rfl, hJs, hnx⟩ := hrel
    have hBs' := hnx.2 _ hBs
    by_cases hlt : k < len
    · obtain ⟨q, hq⟩ : ∃ q : Nat, q = len - 1 - k := ⟨_, rfl⟩
      have hqi : (len : Int) - 1 - k = (q : Int) := by omega
      have hql : q < len := by omega
      have hb1 : backAt f len k = (q, f q) := by simp [backAt, hq]
      obtain ⟨fn, tmps, assign, body, hy, hR⟩ := hY _ (q, f q) wr hJs (by rw [upto_length]; exact hlt)
      dsimp only at hy
      have hcx' := (hnx.1.cell (p := ⟨b, off + q, none⟩) hb).trans (hc q hql)
      have HB1 := Lib.hid hb1
      have HQ := Lib.hid hqi
      have hq0 : (0 : Int) ≤ (q : Int) := by omega
      have hq1 : (q : Int) < (len : Int) := by omega
      rw [hqi]
      clear hb1 hqi hq
      gi_wp2
      refine hR.mono ?_
      rintro e W3 (⟨rfl, hJ3, hk3⟩ | ⟨rfl, hJx3⟩)
      · gi_wp2
        go_roundw
        case rel => exact ⟨k + 1, by omega, by have := HQ.out; congr 1; omega, by rw [upto_succ, HB1.out]; exact hJ3, hnx.trans hk3⟩
        case measure => first | (simp [intOf]; done) | (simp [intOf]; omega)
      · gi_wp2
        refine bodyPost_ret (results_none rfl _ _ _) rfl ?_
        exact ⟨⟨_, rfl⟩, .inr ⟨_, ⟨k + 1, by omega, by rw [upto_succ, HB1.out]⟩, hJx3⟩⟩
    · obtain rfl : k = len := by omega
      have hi : (k : Int) - 1 - k = -1 := by omega
      rw [hi]
      clear hi
      gi_wp2
      go_end0
      exact ⟨⟨_, rfl⟩, .inl ⟨_, rfl, hJs⟩⟩

theorem backward_any (w : World) (A : Option Addr) (m c : Nat) : Calls Tryz.prog 132 #[.slice A m c] w fun e w' => e = .returned (.func (.func 142) #[] #[.pointer (some ⟨w.heap.size, 0, none⟩)]) ∧ w' = w.alloc (.cells #[.slice A m c] 47) := by
  go_enter Tryz.func132, Tryz.ntmps132
  go_wp2_with fail
  go_ret
  exact ⟨rfl, rfl⟩

theorem backward_stops (F : Fence) (n : Nat) (h8 : F.fn 142) (hro : F.round = none) (hn : 1 ≤ n) (Bs n₀ b off len cap : Nat) (f : Nat → Fin 256) (hreach : len ≤ 1048576) (hb : b < n₀) (w : World) (hBl : Bs < w.heap.size) (hn₀ : n₀ ≤ w.heap.size)
    (hBs : w.cell? ⟨Bs, 0, none⟩ = some (.slice (some ⟨b, off, none⟩) len cap)) (hc : ∀ j, j < len → w.cell? ⟨b, off + j, none⟩ = some (.int .u8 ((f j).val : Int))) :
    SeqStopsK F n Tryz.prog 142 #[.pointer (some ⟨Bs, 0, none⟩)] (fun x : Nat × Fin 256 => #[Value.int .i64 (x.1 : Int), Value.int .u8 (x.2.val : Int)]) (KeepC n₀ Bs) (fun ys => ys = upto (backAt f len) len) (fun pre => ∃ k, k ≤ len ∧ pre = upto (backAt f len) k) len w := fun l J Jx W hW _ _ hY h0 => by
  refine (backward1_in F n h8 hro hn l Bs n₀ b off len cap f hreach hb J Jx hY W ((hW.cell (p := ⟨Bs, 0, none⟩) hBl).trans hBs) (fun j hj => (hW.cell (p := ⟨b, off + j, none⟩) (by show b < _; omega)).trans (hc j hj)) h0).mono ?_
  rintro e W' ⟨he, ⟨ys, rfl, hj⟩ | ⟨pre, ⟨k, hk, rfl⟩, hj⟩⟩
  · exact ⟨he, .inl ⟨_, rfl, hj⟩⟩
  · exact ⟨he, .inr ⟨_, ⟨k, hk, rfl⟩, hj⟩⟩

theorem memMay8 (w : World) : Calls Tryz.prog 105 #[.int .i64 8] w fun e w' => e = .returned (.bool true) ∧ w = w' := by
  go_enter Tryz.func105, Tryz.ntmps105
  go_wp2_with fail
  go_ret
  exact ⟨by rw [show bits BinOp.and IntKind.i64 8 7 = 0 by decide]; rfl, rfl⟩

/-- Bytes from behind, put together. -/
def accB (l : List (Nat × Fin 256)) : Nat := l.foldl (fun x p => x * 256 + p.2.val) 0
theorem accB_snoc (l : List (Nat × Fin 256)) (p : Nat × Fin 256) : accB (l ++ [p]) = accB l * 256 + p.2.val := by simp [accB]
theorem accB_lt (l : List (Nat × Fin 256)) : accB l < 256 ^ l.length := by
  suffices h : ∀ (l : List (Nat × Fin 256)) (x n : Nat), x < 256 ^ n → l.foldl (fun x p => x * 256 + p.2.val) x < 256 ^ (n + l.length) by
    have := h l 0 0 (by simp)
    simpa [accB] using this
  intro l
  induction l with
  | nil => intro x n h; simpa using h
  | cons p r ih =>
    intro x n h
    have := ih (x * 256 + p.2.val) (n + 1) (by rw [Nat.pow_succ]; have := p.2.isLt; omega)
    simp only [List.foldl_cons, List.length_cons]
    rw [show n + (r.length + 1) = n + 1 + r.length by omega]
    exact this
theorem accB_word (f : Nat → Nat) (a : Nat) (g : Nat → Fin 256) (hg : ∀ j, j < 8 → (g j).val = f (a + j)) : accB (upto (backAt g 8) 8) = word f a := by
  have h0 := hg 0 (by omega)
  have h1 := hg 1 (by omega)
  have h2 := hg 2 (by omega)
  have h3 := hg 3 (by omega)
  have h4 := hg 4 (by omega)
  have h5 := hg 5 (by omega)
  have h6 := hg 6 (by omega)
  have h7 := hg 7 (by omega)
  have e : List.range 8 = [0, 1, 2, 3, 4, 5, 6, 7] := by decide
  simp only [accB, upto, backAt, word, le, e, List.map_cons, List.map_nil, List.foldl_cons, List.foldl_nil]
  simp only [Nat.add_zero] at h0
  simp only [Nat.add_zero, Nat.reduceSub, Nat.sub_self, Nat.sub_zero]
  omega
theorem or_byte (x c : Nat) (hx : x < 72057594037927936) (hc : c < 256) : bits BinOp.or IntKind.u64 ((x : Int) * 256) (c : Int) = ((x * 256 + c : Nat) : Int) := by
  rw [show ((x : Int) * 256) = ((x * 256 : Nat) : Int) by omega, bits_or_u64_nat _ _ (by omega) (by omega)]
  congr 1
  rw [show x * 256 = x <<< 8 by rw [Nat.shiftLeft_eq]]
  rw [Nat.shiftLeft_add_eq_or_of_lt (show c < 2 ^ 8 by omega)]

set_option maxRecDepth 100000 in
set_option maxHeartbeats 2000000 in
theorem memLoad_ok {w : World} {bm bb sz : Nat} {f : Nat → Nat} (h : MemAt w bm bb sz f) (a : Nat) (ha : a + 8 ≤ sz) : Calls Tryz.prog 111 #[.pointer (some ⟨bm, 0, none⟩), .int .u64 a, .int .i64 8] w fun e w' =>
    e = .returned (.tuple #[.int .u64 (word f a), .int .i64 0]) ∧ Below w.heap.size w w' := by
  have HH := Lib.hid h
  clear h
  refine (callsIn_wide (n := 3)).1 ?_
  refine callsIn_of_wp_marks Tryz.func111 rfl trivial ?_ rfl
  simp only [Tryz.ntmps111, List.size_toArray, List.length_cons, List.length_nil, Nat.reduceAdd, Nat.reduceSub, Array.replicate_succ, Array.replicate_zero, List.push_toArray, List.append_toArray, List.nil_append, List.cons_append]
  gi_wp2
  refine ⟨trivial, (callsIn_wide.2 (memMay8 _)).mono ?_⟩
  rintro e w1 ⟨rfl, rfl⟩
  gi_wp2
  refine ⟨trivial, (callsIn_wide.2 (memIn_ok (h := HH.out.alloc _) a 8 (by omega) ha)).mono ?_⟩
  rintro e w1 ⟨rfl, rfl⟩
  gi_wp2
  refine ⟨trivial, (callsIn_wide.2 (backward_any _ _ _ _)).mono ?_⟩
  rintro e w1 ⟨rfl, rfl⟩
  gi_wp2
  have HA := HH.out
  have hbb := HA.lt_bb
  have hs : (w.alloc (.cells #[.int .u64 0] 29)).cell? ⟨w.heap.size, 0, none⟩ = some (.int .u64 0) ∧ (w.alloc (.cells #[.int .u64 0] 29)).frozen? ⟨w.heap.size, 0, none⟩ = false := ⟨by rw [World.cell?_alloc_new]; rfl, by simp⟩
  have hb : ((w.alloc (.cells #[.int .u64 0] 29)).alloc (.cells #[.slice (some ⟨bb, a, none⟩) 8 (sz - a)] 47)).cell? ⟨w.heap.size + 1, 0, none⟩ = some (.slice (some ⟨bb, a, none⟩) 8 (sz - a)) := by
    have h := (cellNew (w.alloc (.cells #[.int .u64 0] 29)) (.slice (some ⟨bb, a, none⟩) 8 (sz - a)) 47).1
    rwa [World.size_alloc] at h
  have hB0 : Below w.heap.size w ((w.alloc (.cells #[.int .u64 0] 29)).alloc (.cells #[.slice (some ⟨bb, a, none⟩) 8 (sz - a)] 47)) := ((Below.refl _ w).alloc (Nat.le_refl _) _).alloc (by simp) _
  obtain ⟨g, hg⟩ : ∃ g : Nat → Fin 256, ∀ j, (g j).val = f (a + j) := ⟨fun j => ⟨f (a + j), HA.lt _⟩, fun _ => rfl⟩
  have hcs : ∀ j, j < 8 → ((w.alloc (.cells #[.int .u64 0] 29)).alloc (.cells #[.slice (some ⟨bb, a, none⟩) 8 (sz - a)] 47)).cell? ⟨bb, a + j, none⟩ = some (.int .u8 ((g j).val : Int)) := fun j hj => by
    rw [hg]
    exact (hB0.cell (p := ⟨bb, a + j, none⟩) hbb).trans (HA.cell _ (by omega))
  have HG := Lib.hid hg
  clear hg
  refine wpIn_rangeFunc_ownF rfl (by omega) (gf := 142) (lb := #[.pointer (some ⟨w.heap.size + 1, 0, none⟩)]) rfl trivial (enters_of Tryz.func142 (by kernel_rfl) rfl)
    (backward_stops Fence.wide 2 trivial rfl (by omega) (w.heap.size + 1) w.heap.size bb a 8 (sz - a) g (by omega) hbb _ (by simp) (by simp; omega) hb hcs) (fun h h' => h.trans h') (KeepC.put (by simp; omega)) (Below.refl _ _) (fun _ => rfl)
    (fun pre W => (W.cell? ⟨w.heap.size, 0, none⟩ = some (.int .u64 (accB pre : Nat)) ∧ W.frozen? ⟨w.heap.size, 0, none⟩ = false) ∧ Below w.heap.size w W)
    (fun _ _ _ => False)
    (OwnFrom.and (Own.from (fun s A B row hs hg hr => ⟨cell_kept hs.1 hg hr, (frozen_kept hs.1 hg hr).trans hs.2⟩) _) (ownFrom_below (Nat.le_refl _) (by simp; omega)))
    (fun _ _ _ _ _ hs _ _ => hs)
    ⟨⟨cellAlloc _ hs.1, frozenAlloc _ hs.1 hs.2⟩, hB0⟩
    (fun x => { tmps := #[.pointer (some ⟨bm, 0, none⟩), .int .u64 a, .int .i64 8, undef, undef, undef, .pointer (some ⟨w.heap.size, 0, none⟩), .int .i64 0, .slice (some ⟨bb, a, none⟩) 8 (sz - a), undef, .int .u8 (x.2.val : Int),
      .pointer (some ⟨bm, 0, none⟩), .bool true, .bool true, .int .i64 8, .bool true, .bool false, .bool false, .tuple #[.slice (some ⟨bb, a, none⟩) 8 (sz - a), .int .i64 0], .pointer (some ⟨bm, 0, none⟩), .int .u64 a, .int .i64 8, .int .i64 8, .int .u64 8,
      .tuple #[.slice (some ⟨bb, a, none⟩) 8 (sz - a), .int .i64 0], .slice (some ⟨bb, a, none⟩) 8 (sz - a), .int .i64 0, .slice (some ⟨bb, a, none⟩) 8 (sz - a), .func (.func 142) #[] #[.pointer (some ⟨w.heap.size + 1, 0, none⟩)],
      .int .i64 (x.1 : Int), .int .u8 (x.2.val : Int), undef, undef, undef, undef, undef, undef, undef], defers := [] }) ?assign ?body ?done ?stop
  case assign =>
    intro l x W K hK
    gi_wp2
    exact hK
  case body =>
    rintro l pre x W ⟨⟨hc, hf⟩, hB⟩ hl
    have hlt := accB_lt pre
    have hp7 : 256 ^ pre.length ≤ 256 ^ 7 := Nat.pow_le_pow_right (by omega) (by omega)
    have hx8 := x.2.isLt
    have h56 : accB pre < 72057594037927936 := Nat.lt_of_lt_of_le hlt (Nat.le_trans hp7 (by decide))
    have HO := Lib.hid (or_byte (accB pre) x.2.val h56 hx8)
    have HS := Lib.hid (accB_snoc pre x)
    clear hlt hp7
    gi_wp2
    rw [HO.out]
    exact ⟨KeepsOthers.setCell _ _ _, ⟨(Below.refl w.heap.size W).setCell (p := ⟨w.heap.size, 0, none⟩) (Nat.le_refl _) _, fun v hv => by rw [World.cell?_setCell_other _ _ _ _ (by simp)]; exact hv⟩, ⟨by rw [HS.out]; exact World.cell?_setCell_same' _ _ _ (by rw [hc]; rfl), by rw [World.frozen?_setCell]; exact hf⟩, hB.setCell (p := ⟨w.heap.size, 0, none⟩) (Nat.le_refl _) _⟩
  case done =>
    rintro D ys W hD rfl ⟨⟨hc, _⟩, hB⟩ hK
    rw [accB_word f a g (fun j _ => HG.out j)] at hc
    gi_wp2
    have hK' := (KeepsOthers.setCell W ⟨w.heap.size, 0, none⟩ (.int .u64 ((word f a : Nat) : Int))).same D _ hK rfl
    refine ⟨by simp, .inl ⟨_, _, rfl, run_takeDeferred hK', ?_⟩⟩
    have hcr : ((W.setCell ⟨w.heap.size, 0, none⟩ (.int .u64 ((word f a : Nat) : Int))).putObj D (.deferred none)).cell? ⟨w.heap.size, 0, none⟩ = some (.int .u64 ((word f a : Nat) : Int)) :=
      cell_kept (World.cell?_setCell_same' _ _ _ (by rw [hc]; rfl)) (grownBy_putObj' _ D (.deferred none)) (fun r e => by cases e; exact ⟨_, hK', rfl⟩)
    refine ⟨.tuple #[.int .u64 ((word f a : Nat) : Int), .int .i64 0], ?_, rfl, ?_⟩
    · simp [results, Tryz.results111, go_sem, hcr]
    · exact (hB.setCell (p := ⟨w.heap.size, 0, none⟩) (Nat.le_refl _) _).trans (belowK_b (w := w) (Nat.le_refl _) _ D _ _ (by simp at hD; omega) hK' rfl rfl)
  case stop =>
    rintro D c pre W _ _ h _
    exact h.elim
end Go.Proofs.YtbljphaklciinaaGreat

/- mem Store, walked. -/
namespace Go.Proofs.YtbljphaklciinaaGreat
open Go.RowKit

/-- Only the block of bytes has turned; no block has come. -/
structure OnlyB (w w' : World) (bb : Nat) : Prop where
  gr : w.grownBy w' (some bb)
  size : w'.heap.size = w.heap.size
theorem OnlyB.refl (w : World) (bb : Nat) : OnlyB w w bb := ⟨World.grownBy.refl w _, rfl⟩
theorem OnlyB.set {w w' : World} {bb : Nat} (h : OnlyB w w' bb) (i : Nat) (v : Value) : OnlyB w (w'.setCell ⟨bb, i, none⟩ v) bb := ⟨only_set h.gr _, by simpa [World.setCell] using h.size⟩

/-- The first k bytes of a word, put. -/
def putK (f : Nat → Nat) (a x k : Nat) : Nat → Nat := fun j => if a ≤ j ∧ j < a + k then x / 256 ^ (j - a) % 256 else f j
theorem putK_zero (f : Nat → Nat) (a x : Nat) : putK f a x 0 = f := by funext j; unfold putK; rw [if_neg (by omega)]
theorem putK_eight (f : Nat → Nat) (a x : Nat) : putK f a x 8 = putW f a x := rfl
theorem putK_succ (f : Nat → Nat) (a x k : Nat) : (fun j => if j = a + k then x / 256 ^ k % 256 else putK f a x k j) = putK f a x (k + 1) := by
  funext j
  unfold putK
  by_cases h : j = a + k
  · subst h
    rw [if_pos rfl, if_pos ⟨by omega, by omega⟩, Nat.add_sub_cancel_left]
  · rw [if_neg h]
    by_cases h2 : a ≤ j ∧ j < a + k
    · rw [if_pos h2, if_pos ⟨h2.1, by omega⟩]
    · rw [if_neg h2, if_neg (by omega)]

/-- One byte stored. -/
theorem MemAt.byte {w : World} {bm bb sz : Nat} {f : Nat → Nat} (h : MemAt w bm bb sz f) (i c : Nat) (hi : i < sz) (hc : c < 256) : MemAt (w.setCell ⟨bb, i, none⟩ (.int .u8 c)) bm bb sz (fun j => if j = i then c else f j) := by
  refine ⟨?_, h.ne, fun j hj => ?_, fun j hj => by simpa using h.frz j hj, fun j => ?_, h.s0, h.s1⟩
  · rw [World.cell?_setCell_other _ _ _ _ (by simp; intro e; exact absurd e.symm h.ne)]
    exact h.ptr
  · by_cases e : j = i
    · subst e
      have := h.cell j hj
      show _ = some (Value.int .u8 ((if j = j then c else f j : Nat) : Int))
      rw [if_pos rfl]
      exact World.cell?_setCell_same' _ _ _ (by rw [this]; rfl)
    · rw [World.cell?_setCell_other _ _ _ _ (by simp [e])]
      show _ = some (Value.int .u8 ((if j = i then c else f j : Nat) : Int))
      rw [if_neg e]
      exact h.cell j hj
  · show (if j = i then c else f j) < 256
    split
    · exact hc
    · exact h.lt j

theorem MemAt.putStep {w : World} {bm bb sz : Nat} {f : Nat → Nat} {a x k : Nat} (h : MemAt w bm bb sz (putK f a x k)) (hi : a + k < sz) {v : Value} (hv : v = .int .u8 ((x / 256 ^ k % 256 : Nat) : Int)) : MemAt (w.setCell ⟨bb, a + k, none⟩ v) bm bb sz (putK f a x (k + 1)) := by
  subst hv
  rw [← putK_succ]
  exact h.byte (a + k) _ hi (Nat.mod_lt _ (by omega))

set_option maxRecDepth 100000 in
set_option maxHeartbeats 4000000 in
theorem memStore_ok {w : World} {bm bb sz : Nat} {f : Nat → Nat} (h : MemAt w bm bb sz f) (a x : Nat) (ha : a + 8 ≤ sz) (hx : x < 18446744073709551616) : Calls Tryz.prog 66 #[.pointer (some ⟨bm, 0, none⟩), .int .u64 a, .int .i64 8, .int .u64 x] w fun e w' =>
    e = .returned (.int .i64 0) ∧ MemAt w' bm bb sz (putW f a x) ∧ OnlyB w w' bb := by
  have HH := Lib.hid h
  clear h
  go_enter Tryz.func66, Tryz.ntmps66
  go_wp2_with fail
  (with_reducible refine (memMay8 _).mono ?_)
  rintro e w1 ⟨rfl, rfl⟩
  go_wp2_with fail
  (with_reducible refine (memIn8 HH.out a ha).mono ?_)
  rintro e w1 ⟨rfl, rfl⟩
  go_wp2_with fail
  go_loopw [42] (fun i wr => ∃ k : Nat, k ≤ 8 ∧ i = .int .i64 k ∧ Hid (MemAt wr bm bb sz (putK f a x k)) ∧ Hid (OnlyB w wr bb)) (fun i _ => 8 - (intOf i).toNat)
  case atStart => exact ⟨0, by omega, rfl, by rw [putK_zero]; exact HH, OnlyB.refl _ _⟩
  case round =>
    clear HH
    obtain ⟨k, hk, rfl, HM, HG⟩ := hrel
    rcases (by omega : k = 0 ∨ k = 1 ∨ k = 2 ∨ k = 3 ∨ k = 4 ∨ k = 5 ∨ k = 6 ∨ k = 7 ∨ k = 8) with rfl | rfl | rfl | rfl | rfl | rfl | rfl | rfl | rfl
    · have hc := HM.out.cell a (by omega)
      have hf := HM.out.frz a (by omega)
      go_wp2_with fail
      go_roundw
      case rel =>
        have h := HM.out.putStep (k := 0) (v := .int .u8 ((x : Int) % 256)) (by omega) (by congr 1; simp)
        exact ⟨1, by omega, by go_num, h, HG.out.set _ _⟩
      case measure => simp [intOf]
    · have hc := HM.out.cell (a + 1) (by omega)
      have hf := HM.out.frz (a + 1) (by omega)
      go_wp2_with fail
      go_roundw
      case rel => exact ⟨2, by omega, by go_num, HM.out.putStep (by omega) (by first | rfl | (congr 1; first | (simp; done) | (simp; omega) | omega)), HG.out.set _ _⟩
      case measure => simp [intOf]
    · have hc := HM.out.cell (a + 2) (by omega)
      have hf := HM.out.frz (a + 2) (by omega)
      go_wp2_with fail
      go_roundw
      case rel => exact ⟨3, by omega, by go_num, HM.out.putStep (by omega) (by first | rfl | (congr 1; first | (simp; done) | (simp; omega) | omega)), HG.out.set _ _⟩
      case measure => simp [intOf]
    · have hc := HM.out.cell (a + 3) (by omega)
      have hf := HM.out.frz (a + 3) (by omega)
      go_wp2_with fail
      go_roundw
      case rel => exact ⟨4, by omega, by go_num, HM.out.putStep (by omega) (by first | rfl | (congr 1; first | (simp; done) | (simp; omega) | omega)), HG.out.set _ _⟩
      case measure => simp [intOf]
    · have hc := HM.out.cell (a + 4) (by omega)
      have hf := HM.out.frz (a + 4) (by omega)
      go_wp2_with fail
      go_roundw
      case rel => exact ⟨5, by omega, by go_num, HM.out.putStep (by omega) (by first | rfl | (congr 1; first | (simp; done) | (simp; omega) | omega)), HG.out.set _ _⟩
      case measure => simp [intOf]
    · have hc := HM.out.cell (a + 5) (by omega)
      have hf := HM.out.frz (a + 5) (by omega)
      go_wp2_with fail
      go_roundw
      case rel => exact ⟨6, by omega, by go_num, HM.out.putStep (by omega) (by first | rfl | (congr 1; first | (simp; done) | (simp; omega) | omega)), HG.out.set _ _⟩
      case measure => simp [intOf]
    · have hc := HM.out.cell (a + 6) (by omega)
      have hf := HM.out.frz (a + 6) (by omega)
      go_wp2_with fail
      go_roundw
      case rel => exact ⟨7, by omega, by go_num, HM.out.putStep (by omega) (by first | rfl | (congr 1; first | (simp; done) | (simp; omega) | omega)), HG.out.set _ _⟩
      case measure => simp [intOf]
    · have hc := HM.out.cell (a + 7) (by omega)
      have hf := HM.out.frz (a + 7) (by omega)
      go_wp2_with fail
      go_roundw
      case rel => exact ⟨8, by omega, by go_num, HM.out.putStep (by omega) (by first | rfl | (congr 1; first | (simp; done) | (simp; omega) | omega)), HG.out.set _ _⟩
      case measure => simp [intOf]
    · go_wp2_with fail
      go_ret
      exact ⟨rfl, HM.out, HG.out⟩
end Go.Proofs.YtbljphaklciinaaGreat

/- Words for memory: a slice that reads as a list (nil let in), a block that is known whole, append onto a row of the call's own from whatever source. -/
namespace Go.Proofs.YtbljphaklciinaaGreat
open Go.RowKit

theorem block_of_add (a : Addr) (n : Nat) : (a.add n).block = a.block := by unfold Addr.add; split <;> rfl
theorem add_of_add (a : Addr) (i j : Nat) : (a.add i).add j = a.add (i + j) := by
  unfold Addr.add
  by_cases hi : i = 0 <;> by_cases hj : j = 0 <;> simp [hi, hj, Nat.add_assoc]

def Reads (w : World) (B size : Nat) (A : Option Addr) (n : Nat) (xs : List Value) : Prop :=
  xs.length = n * size ∧ (0 < n → ∃ ad, A = some ad ∧ ad.block < B ∧ ∀ j u, xs[j]? = some u → w.cell? (ad.add j) = some u)

section
variable {w w' : World} {B B' size n : Nat} {A : Option Addr} {xs : List Value}
theorem Reads.none_ : Reads w B size A 0 [] := ⟨by simp, fun h => absurd h (by omega)⟩
theorem Reads.at_ {k : Nat} (h : Reads w B 1 A n xs) (hk : k < n) : ∃ ad u, A = some ad ∧ ad.block < B ∧ xs[k]? = some u ∧ w.cell? (ad.add k) = some u := by
  obtain ⟨ad, e, hb, hc⟩ := h.2 (by omega)
  have hl : k < xs.length := by have := h.1; omega
  exact ⟨ad, xs[k], e, hb, List.getElem?_eq_getElem hl, hc k _ (List.getElem?_eq_getElem hl)⟩
theorem Reads.keep (h : Reads w B size A n xs) (hk : ∀ p : Addr, p.block < B → w'.cell? p = w.cell? p) : Reads w' B size A n xs :=
  ⟨h.1, fun hn => by
    obtain ⟨ad, e, hb, hc⟩ := h.2 hn
    exact ⟨ad, e, hb, fun j u hu => (hk _ (by rw [block_of_add]; exact hb)).trans (hc j u hu)⟩⟩
theorem Reads.more (h : Reads w B size A n xs) (hB : B ≤ B') : Reads w B' size A n xs :=
  ⟨h.1, fun hn => by
    obtain ⟨ad, e, hb, hc⟩ := h.2 hn
    exact ⟨ad, e, by omega, hc⟩⟩
theorem Reads.below (h : Reads w B size A n xs) (hb : Below B w w') : Reads w' B size A n xs := h.keep fun _ hp => hb.cell hp
theorem Reads.drew (h : Reads w B size A n xs) : Reads w.drew B size A n xs := h
theorem Reads.drewN (h : Reads w B size A n xs) (k : Nat) : Reads (w.drewN k) B size A n xs := h
theorem Reads.alloc (h : Reads w B size A n xs) (hB : B ≤ w.heap.size) (o : Obj) : Reads (w.alloc o) B size A n xs := h.keep fun p hp => World.cell?_alloc_lt w o p (by omega)
theorem Reads.setCell (h : Reads w B size A n xs) {p : Addr} (hB : B ≤ p.block) (u : Value) : Reads (w.setCell p u) B size A n xs :=
  h.keep fun q hq => World.cell?_setCell_other w p q u (fun e => by subst e; omega)
theorem Reads.grown (h : Reads w B size A n xs) {row : Option Nat} (hg : w.grownBy w' row) (hB : B ≤ w.heap.size) (hr : ∀ g, row = some g → B ≤ g) : Reads w' B size A n xs :=
  h.keep fun p hp => World.cell?_of_block (hg.block p.block (by omega) (fun e => by have := hr _ e.symm; omega))
theorem Reads.cut (h : Reads w B size A n xs) {k cap : Nat} (hk : k ≤ n) (hc : n ≤ cap) :
    Reads w B size (if cap = k then A else A.map (·.add (k * size))) (n - k) (xs.drop (k * size)) := by
  refine ⟨by rw [List.length_drop, h.1, Nat.sub_mul], fun hn => ?_⟩
  obtain ⟨ad, rfl, hb, hcell⟩ := h.2 (by omega)
  rw [if_neg (by omega)]
  refine ⟨ad.add (k * size), rfl, by rw [block_of_add]; exact hb, fun j u hu => ?_⟩
  rw [add_of_add]
  exact hcell _ u (by rw [← hu, List.getElem?_drop])
theorem Reads.of_own {base : Nat} {e : TypeId} {c : Nat} (h : w.ownsRow base e size (.slice A n c) n xs) : Reads w w.heap.size size A n xs := by
  refine ⟨h.1, fun hn => ?_⟩
  obtain ⟨g, cap, hv, _, hlt⟩ := h.form hn
  have hA : A = some ⟨g, 0, none⟩ := by injection hv
  subst hA
  exact ⟨_, rfl, hlt, h.cells (g := g) rfl⟩
end

def Blk (w : World) (g : Nat) (t : TypeId) (cs : Array Value) : Prop := w.heap[g]? = some (.cells cs t (0, 0))

section
variable {w w' : World} {g : Nat} {t : TypeId} {cs : Array Value}
theorem Blk.lt (h : Blk w g t cs) : g < w.heap.size := by
  rcases Nat.lt_or_ge g w.heap.size with hlt | hge
  · exact hlt
  · unfold Blk at h; rw [Array.getElem?_eq_none hge] at h; cases h
theorem Blk.cell (h : Blk w g t cs) (i : Nat) : w.cell? ⟨g, i, none⟩ = cs[i]? := cell_of_row w g i cs t (0, 0) h
theorem Blk.frozen (h : Blk w g t cs) (i : Nat) : w.frozen? ⟨g, i, none⟩ = false := by
  unfold Blk at h
  simp [World.frozen?, h]
theorem Blk.new (w : World) (t : TypeId) (cs : Array Value) : Blk (w.alloc (.cells cs t)) w.heap.size t cs := heap_alloc_new w _
theorem Blk.drew (h : Blk w g t cs) : Blk w.drew g t cs := h
theorem Blk.drewN (h : Blk w g t cs) (n : Nat) : Blk (w.drewN n) g t cs := h
theorem Blk.alloc (h : Blk w g t cs) (o : Obj) : Blk (w.alloc o) g t cs := (Below.heap_alloc w o g h.lt).trans h
theorem Blk.set_ (h : Blk w g t cs) (i : Nat) (u : Value) : Blk (w.setCell ⟨g, i, none⟩ u) g t (cs.setIfInBounds i u) := by
  unfold Blk at h ⊢
  simp [World.setCell, Array.getElem?_modify, h]
theorem Blk.far (h : Blk w g t cs) {p : Addr} (hp : g ≠ p.block) (u : Value) : Blk (w.setCell p u) g t cs := (Below.heap_setCell w p u g hp).trans h
theorem Blk.below {B : Nat} (h : Blk w g t cs) (hb : Below B w w') (hg : g < B) : Blk w' g t cs := (hb.block g hg).trans h
theorem Blk.grown {row : Option Nat} (h : Blk w g t cs) (hb : w.grownBy w' row) (hg : some g ≠ row) : Blk w' g t cs := (hb.block g h.lt hg).trans h
theorem Blk.ne_ {g' : Nat} {t' : TypeId} {cs' : Array Value} (h : Blk w g t cs) (h' : Blk w g' t' cs') (hne : t ≠ t') : g ≠ g' := by
  rintro rfl
  unfold Blk at h h'
  rw [h] at h'
  injection h' with h'
  injection h' with _ ht
  exact hne ht
theorem own_blk_ne {base : Nat} {e : TypeId} {size n : Nat} {v : Value} {xs : List Value} (h : w.ownsRow base e size v n xs) (hg : Blk w g t cs) (hne : e ≠ t) : v.ownBlock ≠ some g := by
  rcases h.2 with ⟨rfl, _⟩ | ⟨g', cap, cur, rfl, _, hh, _⟩
  · simp [Value.ownBlock]
  · intro he
    have : g' = g := by simpa [Value.ownBlock] using he
    subst this
    exact Blk.ne_ (t := e) hh hg hne rfl
end

section
variable {P : Program} (w : World)

theorem run_append_of_nil (base : Nat) (t ty e : TypeId) (i : TypeInfo) (size : Nat) (ht : P.underlying t = some (.slice e)) (hi : P.info? e = some i)
    (v : Value) (n : Nat) (xs : List Value) (hown : w.ownsRow base e size v n xs) (c : Nat) : (Builtin.append_ #[t, t] ty #[v, .slice none 0 c]).run P w = .ok v w := by
  rcases hown.2 with ⟨rfl, rfl⟩ | ⟨g, cap, cur, rfl, _, _, hnc, _⟩
  · simp [Builtin.append_, run_underlying ht, sizeOf, typeInfo, hi, Builtin.lenOf, Builtin.firstCells]
  · simp [Builtin.append_, run_underlying ht, sizeOf, typeInfo, hi, Builtin.lenOf, Builtin.firstCells, hnc, storeCells]

theorem run_append_any (base : Nat) (t ty e : TypeId) (i : TypeInfo) (z : Value) (size bytes : Nat) (ht : P.underlying t = some (.slice e)) (hi : P.info? e = some i) (hz : i.zero = some z)
    (hsize : i.size = size) (hby : i.bytes = bytes) (hzs : z.cells.size = size) (hsz : 0 < size)
    (v : Value) (n : Nat) (xs : List Value) (hown : w.ownsRow base e size v n xs)
    (B : Nat) (A : Option Addr) (m c : Nat) (news : List Value) (hr : Reads w B size A m news) (h1 : ∀ u ∈ news, u.oneCell' = true)
    (h63 : n + m ≤ maxLen) (hbytes : (n + m) * bytes ≤ 140737488355328) (hbase : base ≤ w.heap.size) :
    ∃ v' w', (Builtin.append_ #[t, t] ty #[v, .slice A m c]).run P w = .ok v' w' ∧ w'.ownsRow base e size v' (n + m) (xs ++ news) ∧ w.grownBy w' v.ownBlock ∧
      (v'.ownBlock = v.ownBlock ∨ v'.ownBlock = some w.heap.size) := by
  rcases A with _ | ad
  · have hm : m = 0 := by
      rcases Nat.eq_zero_or_pos m with h0 | h0
      · exact h0
      · obtain ⟨ad, h, _⟩ := hr.2 h0
        cases h
    subst hm
    have hn : news = [] := List.eq_nil_of_length_eq_zero (by simpa using hr.1)
    subst hn
    exact ⟨v, w, run_append_of_nil w base t ty e i size ht hi v n xs hown c, by simpa using hown, World.grownBy.refl w _, .inl rfl⟩
  · have hcells : ∀ j u, news[j]? = some u → w.cell? (ad.add j) = some u := by
      intro j u hu
      rcases Nat.eq_zero_or_pos m with h0 | h0
      · subst h0
        have hn : news = [] := List.eq_nil_of_length_eq_zero (by simpa using hr.1)
        subst hn
        simp at hu
      · obtain ⟨ad', h, _, hc⟩ := hr.2 h0
        injection h with h
        subst h
        exact hc j u hu
    obtain ⟨v', w', hrun, h2, h3, _, h5⟩ := run_append_own_at (P := P) w base t ty e i z size bytes ht hi hz hsize hby hzs hsz v n xs hown ad m c news hr.1 hcells h1 h63 hbytes hbase
    exact ⟨v', w', hrun, h2, h3, h5⟩

theorem wp_append_any {o : Oper} {a : Act} {K : Act → World → Prop} {Q : Exit → Act → World → Prop} (s x : Operand) (t : TypeId)
    (ho : o.op = .call { callee := .builtin .append, args := #[s, x], argTypes := #[t, t] })
    (base : Nat) (e : TypeId) (i : TypeInfo) (z : Value) (size bytes : Nat) (ht : P.underlying t = some (.slice e)) (hi : P.info? e = some i) (hz : i.zero = some z)
    (hsize : i.size = size) (hby : i.bytes = bytes) (hzs : z.cells.size = size) (hsz : 0 < size)
    (v : Value) (n : Nat) (xs : List Value) (hs : a.eval s = v) (hown : w.ownsRow base e size v n xs)
    (B : Nat) (A : Option Addr) (m c : Nat) (news : List Value) (hx : a.eval x = .slice A m c) (hr : Reads w B size A m news) (h1 : ∀ u ∈ news, u.oneCell' = true)
    (h63 : n + m ≤ maxLen) (hbytes : (n + m) * bytes ≤ 140737488355328) (hbase : base ≤ w.heap.size)
    (h : ∀ v' w', w'.ownsRow base e size v' (n + m) (xs ++ news) → w.grownBy w' v.ownBlock → (v'.ownBlock = v.ownBlock ∨ v'.ownBlock = some w.heap.size) → K (a.put o.dst v') w') : o.wp P a w K Q := by
  obtain ⟨v', w', hrun, h2, h3, h4⟩ := run_append_any (P := P) w base t o.type e i z size bytes ht hi hz hsize hby hzs hsz v n xs hown B A m c news hr h1 h63 hbytes hbase
  unfold Oper.wp execOp
  simp only [ho, resolve, invoke, builtin, Sem.run_bind, Sem.run_pure, Result.andThen_ok, List.map_toArray, List.map_cons, List.map_nil, hs, hx, hrun]
  exact h v' w' h2 h3 h4

theorem wpList_append_any {ops : Array Oper} {rest : List Oper} {o : Oper} {a : Act} {Q : Exit → Act → World → Prop} (hgd : o.guard = none) (s x : Operand) (t : TypeId)
    (ho : o.op = .call { callee := .builtin .append, args := #[s, x], argTypes := #[t, t] })
    (base : Nat) (e : TypeId) (i : TypeInfo) (z : Value) (size bytes : Nat) (ht : P.underlying t = some (.slice e)) (hi : P.info? e = some i) (hz : i.zero = some z)
    (hsize : i.size = size) (hby : i.bytes = bytes) (hzs : z.cells.size = size) (hsz : 0 < size)
    (v : Value) (n : Nat) (xs : List Value) (hs : a.eval s = v) (hown : w.ownsRow base e size v n xs)
    (B : Nat) (A : Option Addr) (m c : Nat) (news : List Value) (hx : a.eval x = .slice A m c) (hr : Reads w B size A m news) (h1 : ∀ u ∈ news, u.oneCell' = true)
    (h63 : n + m ≤ maxLen) (hbytes : (n + m) * bytes ≤ 140737488355328) (hbase : base ≤ w.heap.size)
    (h : ∀ v' w', w'.ownsRow base e size v' (n + m) (xs ++ news) → w.grownBy w' v.ownBlock → (v'.ownBlock = v.ownBlock ∨ v'.ownBlock = some w.heap.size) → wpList P ops Q rest (a.put o.dst v') w') : wpList P ops Q (o :: rest) a w :=
  wpList_plain hgd fun _ hK => wp_append_any w s x t ho base e i z size bytes ht hi hz hsize hby hzs hsz v n xs hs hown B A m c news hx hr h1 h63 hbytes hbase fun v' w' h2 h3 h4 => hK _ _ (h v' w' h2 h3 h4)

theorem step_append_any {ops : Array Oper} {o : Oper} {a : Act} {K : Act → World → Prop} {Q : Exit → Act → World → Prop} {E : Prop} (hgd : o.guard = none) (s x : Operand) (t : TypeId)
    (ho : o.op = .call { callee := .builtin .append, args := #[s, x], argTypes := #[t, t] })
    (base : Nat) (e : TypeId) (i : TypeInfo) (z : Value) (size bytes : Nat) (ht : P.underlying t = some (.slice e)) (hi : P.info? e = some i) (hz : i.zero = some z)
    (hsize : i.size = size) (hby : i.bytes = bytes) (hzs : z.cells.size = size) (hsz : 0 < size)
    (v : Value) (n : Nat) (xs : List Value) (hs : a.eval s = v) (hown : w.ownsRow base e size v n xs)
    (B : Nat) (A : Option Addr) (m c : Nat) (news : List Value) (hx : a.eval x = .slice A m c) (hr : Reads w B size A m news) (h1 : ∀ u ∈ news, u.oneCell' = true)
    (h63 : n + m ≤ maxLen) (hbytes : (n + m) * bytes ≤ 140737488355328) (hbase : base ≤ w.heap.size)
    (h : ∀ v' w', w'.ownsRow base e size v' (n + m) (xs ++ news) → w.grownBy w' v.ownBlock → (v'.ownBlock = v.ownBlock ∨ v'.ownBlock = some w.heap.size) → K (a.put o.dst v') w') :
    if Region.wanted o (yielded ops a.tmps) = true then Oper.wp P o a w K Q else E := by
  have hw : Region.wanted o (yielded ops a.tmps) = true := by simp [Region.wanted, hgd]
  rw [if_pos hw]
  exact wp_append_any w s x t ho base e i z size bytes ht hi hz hsize hby hzs hsz v n xs hs hown B A m c news hx hr h1 h63 hbytes hbase h
end

theorem Reads.new1 (w : World) (v : Value) (t : TypeId) : Reads (w.alloc (.cells #[v] t)) (w.heap.size + 1) 1 (some ⟨w.heap.size, 0, none⟩) 1 [v] :=
  ⟨by simp, fun _ => ⟨_, rfl, by simp, fun j u hu => by
    obtain ⟨hj, e⟩ := List.getElem?_eq_some_iff.1 hu
    simp at hj
    subst hj
    simp only [List.getElem_cons_zero] at e
    subst e
    simp [Addr.add]⟩⟩
theorem block_lt_of_blk {w : World} {g : Nat} {o : Obj} (h : w.heap[g]? = some o) : g < w.heap.size := by
  rcases Nat.lt_or_ge g w.heap.size with hlt | hge
  · exact hlt
  · rw [Array.getElem?_eq_none hge] at h; cases h

end Go.Proofs.YtbljphaklciinaaGreat

/- Layer 7 (list), walked: Push of one, Pop. -/
namespace Go.Proofs.YtbljphaklciinaaGreat
open Go.RowKit

/-- What Push makes of the world: memory, then the list's two cells. -/
def PushTo (w : World) (b o bm bb sz : Nat) (f : Nat → Nat) (a : Nat) (n : Int) (w' : World) : Prop :=
  ∃ w1, OnlyB w w1 bb ∧ MemAt w1 bm bb sz f ∧ w' = (w1.setCell ⟨b, o, none⟩ (.int .u64 a)).setCell ⟨b, o + 1, none⟩ (.int .i64 n)

theorem MemAt.drewN {w : World} {bm bb sz : Nat} {f : Nat → Nat} (h : MemAt w bm bb sz f) (k : Nat) : MemAt (w.drewN k) bm bb sz f := h.stays rfl rfl
theorem MemAt.drew {w : World} {bm bb sz : Nat} {f : Nat → Nat} (h : MemAt w bm bb sz f) : MemAt w.drew bm bb sz f := h.stays rfl rfl

set_option maxRecDepth 100000 in
set_option maxHeartbeats 2000000 in
theorem listPush_ok {w : World} {b o bm bb sz g c hd a : Nat} {n : Int} {f : Nat → Nat} (M : MemAt w bm bb sz f) (h0 : w.cell? ⟨b, o, none⟩ = some (.int .u64 hd)) (h1 : w.cell? ⟨b, o + 1, none⟩ = some (.int .i64 n)) (z0 : w.frozen? ⟨b, o, none⟩ = false) (z1 : w.frozen? ⟨b, o + 1, none⟩ = false)
    (hg : w.cell? ⟨g, 0, none⟩ = some (.int .u64 a)) (hb : b ≠ bb) (ha0 : 0 < a) (ha : a + 8 ≤ sz) (hh : hd < 18446744073709551616) (n0 : 0 ≤ n) (n1 : n ≤ 1000000) :
    Calls Tryz.prog 80 #[.pointer (some ⟨b, o, none⟩), .pointer (some ⟨bm, 0, none⟩), .slice (some ⟨g, 0, none⟩) 1 c] w fun e w' => e = .returned (.int .i64 0) ∧ PushTo w b o bm bb sz (putW f a hd) a (n + 1) w' := by
  have HM := Lib.hid M
  have hs1 := M.s1
  clear M
  have ha' : ((a : Int) == 0) = false := beq_eq_false_iff_ne.2 (by omega)
  go_enter Tryz.func80, Tryz.ntmps80
  go_wp2_with fail
  go_loopw [18] (fun i wr => (i = .int .i64 ((0 : Nat) : Int) ∧ Hid (wr = w)) ∨ (i = .int .i64 ((1 : Nat) : Int) ∧ Hid (PushTo w b o bm bb sz (putW f a hd) a (n + 1) wr))) (fun i _ => 1 - (intOf i).toNat)
  case atStart => exact .inl ⟨rfl, rfl⟩
  case round =>
    rcases hrel with ⟨rfl, HW⟩ | ⟨rfl, HP⟩
    · obtain rfl := HW.out
      go_wp2_with fail
      (with_reducible refine (memStore_ok HM.out a hd ha hh).mono ?_)
      rintro e w1 ⟨rfl, M1, O1⟩
      have k1 := (World.cell?_of_block (a := ⟨b, o + 1, none⟩) (O1.gr.block b (World.block_lt_of_cell? _ _ h0) (by simpa using hb))).trans h1
      have k0 := (World.cell?_of_block (a := ⟨b, o, none⟩) (O1.gr.block b (World.block_lt_of_cell? _ _ h0) (by simpa using hb))).trans h0
      have y0 := (World.frozen?_of_block (a := ⟨b, o, none⟩) (O1.gr.block b (World.block_lt_of_cell? _ _ h0) (by simpa using hb))).trans z0
      have y1 := (World.frozen?_of_block (a := ⟨b, o + 1, none⟩) (O1.gr.block b (World.block_lt_of_cell? _ _ h0) (by simpa using hb))).trans z1
      have HM1 := Lib.hid M1
      have HO1 := Lib.hid O1
      clear M1 O1 h0 h1 z0 z1 HM HW
      go_wp2_with fail
      go_roundw
      case rel => exact .inr ⟨by go_num, w1, HO1.out, HM1.out, rfl⟩
      case measure => simp [intOf]
    · clear HM h0 h1 z0 z1 hg
      go_wp2_with fail
      go_ret
      exact ⟨rfl, HP.out⟩

set_option maxRecDepth 100000 in
set_option maxHeartbeats 2000000 in
theorem listPop_ok {w : World} {b o bm bb sz hd : Nat} {n : Int} {f : Nat → Nat} (M : MemAt w bm bb sz f) (h0 : w.cell? ⟨b, o, none⟩ = some (.int .u64 hd)) (h1 : w.cell? ⟨b, o + 1, none⟩ = some (.int .i64 n)) (z0 : w.frozen? ⟨b, o, none⟩ = false) (z1 : w.frozen? ⟨b, o + 1, none⟩ = false)
    (hb : b < w.heap.size) (ha : hd + 8 ≤ sz) (n0 : 0 < n) (n1 : n ≤ 1000000) :
    Calls Tryz.prog 75 #[.pointer (some ⟨b, o, none⟩), .pointer (some ⟨bm, 0, none⟩)] w fun e w' => e = .returned (.tuple #[.int .u64 hd, .int .i64 0]) ∧
      ∃ w1, Below w.heap.size w w1 ∧ w' = (w1.setCell ⟨b, o, none⟩ (.int .u64 (word f hd : Nat))).setCell ⟨b, o + 1, none⟩ (.int .i64 (n - 1)) := by
  have HM := Lib.hid M
  have hs1 := M.s1
  clear M
  have hn : (n == 0) = false := beq_eq_false_iff_ne.2 (by omega)
  go_enter Tryz.func75, Tryz.ntmps75
  go_wp2_with fail
  (with_reducible refine (memLoad_ok HM.out hd ha).mono ?_)
  rintro e w1 ⟨rfl, B1⟩
  have k0 := (B1.cell (p := ⟨b, o, none⟩) hb).trans h0
  have k1 := (B1.cell (p := ⟨b, o + 1, none⟩) hb).trans h1
  have y0 := (World.frozen?_of_block (a := ⟨b, o, none⟩) (B1.block b hb)).trans z0
  have y1 := (World.frozen?_of_block (a := ⟨b, o + 1, none⟩) (B1.block b hb)).trans z1
  have HB := Lib.hid B1
  clear B1 h0 h1 z0 z1
  go_wp2_with fail
  go_ret2
  exact ⟨rfl, w1, HB.out, rfl⟩
end Go.Proofs.YtbljphaklciinaaGreat

/- Layer 6 (geo), walked. -/
namespace Go.Proofs.YtbljphaklciinaaGreat
open Go.RowKit

set_option maxRecDepth 100000 in
set_option maxHeartbeats 1000000 in
theorem geoAt_ok (w : World) (a : Int) (h0 : 0 ≤ a) (h1 : a < 1048576) : Calls Tryz.prog 64 #[.int .u64 a] w fun e w' =>
    e = .returned (.tuple #[.agg #[.int .i64 (a / 16384), .int .i64 (a / 1024 % 16), .int .u64 (a % 1024)], .int .i64 0]) ∧ Below w.heap.size w w' := by
  go_enter Tryz.func64, Tryz.ntmps64
  go_wp2_with fail
  exact bodyPost_ret (v := .tuple #[.agg #[.int .i64 (a / 16384), .int .i64 (a / 1024 % 16), .int .u64 (a % 1024)], .int .i64 0]) (by simp [results, Tryz.results64, go_sem]) rfl ⟨rfl, (Below.refl _ _).alloc (Nat.le_refl _) _⟩

set_option maxRecDepth 100000 in
set_option maxHeartbeats 1000000 in
theorem geoAt_no (w : World) (a : Int) (h1 : 1048576 ≤ a) : Calls Tryz.prog 64 #[.int .u64 a] w fun e w' =>
    e = .returned (.tuple #[.agg #[.int .i64 0, .int .i64 0, .int .u64 0], .int .i64 3]) ∧ Below w.heap.size w w' := by
  go_enter Tryz.func64, Tryz.ntmps64
  go_wp2_with fail
  exact bodyPost_ret (v := .tuple #[.agg #[.int .i64 0, .int .i64 0, .int .u64 0], .int .i64 3]) (by simp [results, Tryz.results64, go_sem]) rfl ⟨rfl, (Below.refl _ _).alloc (Nat.le_refl _) _⟩

set_option maxRecDepth 100000 in
set_option maxHeartbeats 1000000 in
theorem geoAddr_ok (w : World) (g c : Int) (g0 : 0 ≤ g) (g1 : g < 64) (c0 : 0 ≤ c) (c1 : c < 16) : Calls Tryz.prog 138 #[.agg #[.int .i64 g, .int .i64 c, .int .u64 0]] w fun e w' =>
    e = .returned (.tuple #[.int .u64 (g * 16384 + c * 1024), .int .i64 0]) ∧ Below w.heap.size w w' := by
  go_enter Tryz.func138, Tryz.ntmps138
  go_wp2_with fail
  go_ret2
  exact ⟨rfl, (Below.refl _ _).alloc (Nat.le_refl _) _⟩

structure RunOk (f s n : Int) : Prop where
  f0 : 0 ≤ f
  s0 : 1 ≤ s
  s1 : s ≤ 1048576
  n0 : 0 ≤ n
  n1 : n ≤ 1024
  f1 : f ≤ 1048576
  end_ : f + n * s ≤ 1048576

theorem RunOk.ns {f s n : Int} (h : RunOk f s n) : 0 ≤ n * s := Int.mul_nonneg h.n0 (by have := h.s0; omega)
theorem RunOk.is {f s n i : Int} (h : RunOk f s n) (h0 : 0 ≤ i) (h1 : i < n) : 0 ≤ i * s ∧ i * s + s ≤ n * s := by
  have hs := h.s0
  refine ⟨Int.mul_nonneg h0 (by omega), ?_⟩
  have := Int.mul_le_mul_of_nonneg_right (show i + 1 ≤ n by omega) (show 0 ≤ s by omega)
  rw [Int.add_mul] at this
  omega

set_option maxRecDepth 100000 in
set_option maxHeartbeats 1000000 in
theorem may_ok (w : World) (f s n : Int) (h : RunOk f s n) : Calls Tryz.prog 128 #[.agg #[.int .u64 f, .int .u64 s, .int .i64 n]] w fun e w' => e = .returned (.bool true) ∧ Below w.heap.size w w' := by
  have hm := h.ns
  obtain ⟨f0, s0, s1, n0, n1, f1, he⟩ := h
  go_enter Tryz.func128, Tryz.ntmps128
  go_wp2_with fail
  go_ret
  exact ⟨by simp; omega, (Below.refl _ _).alloc (Nat.le_refl _) _⟩

set_option maxRecDepth 100000 in
set_option maxHeartbeats 1000000 in
theorem end_ok (w : World) (f s n : Int) (h : RunOk f s n) : Calls Tryz.prog 129 #[.agg #[.int .u64 f, .int .u64 s, .int .i64 n]] w fun e w' => e = .returned (.int .u64 (f + n * s)) ∧ Below w.heap.size w w' := by
  have HR := Lib.hid h
  have hm := h.ns
  obtain ⟨f0, s0, s1, n0, n1, f1, he⟩ := h
  go_enter Tryz.func129, Tryz.ntmps129
  go_wp2_with fail
  (with_reducible refine (may_ok _ f s n HR.out).mono ?_)
  rintro e w1 ⟨rfl, B1⟩
  obtain ⟨k0, k1, k2⟩ : w1.cell? ⟨w.heap.size, 0, none⟩ = some (.int .u64 f) ∧ w1.cell? ⟨w.heap.size, 1, none⟩ = some (.int .u64 s) ∧ w1.cell? ⟨w.heap.size, 2, none⟩ = some (.int .i64 n) := by
    refine ⟨?_, ?_, ?_⟩ <;> rw [B1.cell (by simp)] <;> go_simp
  have HB := Lib.hid B1
  clear B1
  go_wp2_with fail
  go_ret
  exact ⟨rfl, ((Below.refl _ _).alloc (Nat.le_refl _) _).trans (HB.out.mono (by simp))⟩

set_option maxRecDepth 100000 in
set_option maxHeartbeats 1000000 in
theorem block_ok (w : World) (f s n i : Int) (h : RunOk f s n) (i0 : 0 ≤ i) (i1 : i < n) : Calls Tryz.prog 110 #[.agg #[.int .u64 f, .int .u64 s, .int .i64 n], .int .i64 i] w fun e w' => e = .returned (.tuple #[.int .u64 (f + i * s), .int .i64 0]) ∧ Below w.heap.size w w' := by
  have HR := Lib.hid h
  have hm := h.is i0 i1
  obtain ⟨f0, s0, s1, n0, n1, f1, he⟩ := h
  obtain ⟨hm0, hm1⟩ := hm
  go_enter Tryz.func110, Tryz.ntmps110
  go_wp2_with fail
  (with_reducible refine (may_ok _ f s n HR.out).mono ?_)
  rintro e w1 ⟨rfl, B1⟩
  obtain ⟨k0, k1, k2⟩ : w1.cell? ⟨w.heap.size, 0, none⟩ = some (.int .u64 f) ∧ w1.cell? ⟨w.heap.size, 1, none⟩ = some (.int .u64 s) ∧ w1.cell? ⟨w.heap.size, 2, none⟩ = some (.int .i64 n) := by
    refine ⟨?_, ?_, ?_⟩ <;> rw [B1.cell (by simp)] <;> go_simp
  have HB := Lib.hid B1
  clear B1
  go_wp2_with fail
  go_ret2
  exact ⟨rfl, ((Below.refl _ _).alloc (Nat.le_refl _) _).trans (HB.out.mono (by simp))⟩

/-- The block that an address is in. -/
def idxV (f s n a : Int) : Int × Int := if a < f ∨ f + n * s ≤ a then (0, 3) else if (a - f) % s = 0 then ((a - f) / s, 0) else (0, 5)

theorem cells3 {w1 w : World} {f s n : Int} {T : TypeId} (B1 : Below (w.alloc (.cells #[.int .u64 f, .int .u64 s, .int .i64 n] T)).heap.size (w.alloc (.cells #[.int .u64 f, .int .u64 s, .int .i64 n] T)) w1) :
    w1.cell? ⟨w.heap.size, 0, none⟩ = some (.int .u64 f) ∧ w1.cell? ⟨w.heap.size, 1, none⟩ = some (.int .u64 s) ∧ w1.cell? ⟨w.heap.size, 2, none⟩ = some (.int .i64 n) := by
  refine ⟨?_, ?_, ?_⟩ <;> rw [B1.cell (by simp)] <;> go_simp

set_option maxRecDepth 100000 in
set_option maxHeartbeats 4000000 in
theorem index_ok (w : World) (f s n a : Int) (h : RunOk f s n) (a0 : 0 ≤ a) (a1 : a < 18446744073709551616) : Calls Tryz.prog 104 #[.agg #[.int .u64 f, .int .u64 s, .int .i64 n], .int .u64 a] w fun e w' => e = .returned (.tuple #[.int .i64 (idxV f s n a).1, .int .i64 (idxV f s n a).2]) ∧ Below w.heap.size w w' := by
  have HR := Lib.hid h
  have hm := h.ns
  obtain ⟨f0, s0, s1, n0, n1, f1, he⟩ := h
  by_cases h1 : a < f
  · have HV : Hid (idxV f s n a = (0, 3)) := by show _ = _; unfold idxV; rw [if_pos (.inl h1)]
    go_enter Tryz.func104, Tryz.ntmps104
    go_wp2_with fail
    (with_reducible refine (may_ok _ f s n HR.out).mono ?_)
    rintro e w1 ⟨rfl, B1⟩
    obtain ⟨k0, k1, k2⟩ := cells3 B1
    have HB := Lib.hid B1
    clear B1
    go_wp2_with fail
    go_ret2
    rw [HV.out]
    exact ⟨rfl, ((Below.refl _ _).alloc (Nat.le_refl _) _).trans (HB.out.mono (by simp))⟩
  · by_cases h2 : f + n * s ≤ a
    · have HV : Hid (idxV f s n a = (0, 3)) := by show _ = _; unfold idxV; rw [if_pos (.inr h2)]
      go_enter Tryz.func104, Tryz.ntmps104
      go_wp2_with fail
      (with_reducible refine (may_ok _ f s n HR.out).mono ?_)
      rintro e w1 ⟨rfl, B1⟩
      obtain ⟨k0, k1, k2⟩ := cells3 B1
      have HB := Lib.hid B1
      clear B1
      go_wp2_with fail
      (with_reducible refine (end_ok _ f s n HR.out).mono ?_)
      rintro e w2 ⟨rfl, B2⟩
      have HB2 := Lib.hid (HB.out.trans (B2.mono HB.out.size))
      obtain ⟨k0, k1, k2⟩ := cells3 HB2.out
      clear B2 HB
      go_wp2_with fail
      go_ret2
      rw [HV.out]
      exact ⟨rfl, ((Below.refl _ _).alloc (Nat.le_refl _) _).trans (HB2.out.mono (by simp))⟩
    · have hd0 : 0 ≤ (a - f) / s := Int.ediv_nonneg (by omega) (by omega)
      have hd1 : (a - f) / s ≤ a - f := Int.ediv_le_self s (by omega)
      have hr0 : 0 ≤ (a - f) % s := Int.emod_nonneg _ (by omega)
      have hr1 : (a - f) % s < s := Int.emod_lt_of_pos _ (by omega)
      by_cases h3 : (a - f) % s = 0
      · have HV : Hid (idxV f s n a = ((a - f) / s, 0)) := by show _ = _; unfold idxV; rw [if_neg (by omega), if_pos h3]
        have h3' : ¬ 0 < (a - f) % s := by omega
        clear h3
        go_enter Tryz.func104, Tryz.ntmps104
        go_wp2_with fail
        (with_reducible refine (may_ok _ f s n HR.out).mono ?_)
        rintro e w1 ⟨rfl, B1⟩
        obtain ⟨k0, k1, k2⟩ := cells3 B1
        have HB := Lib.hid B1
        clear B1
        go_wp2_with fail
        (with_reducible refine (end_ok _ f s n HR.out).mono ?_)
        rintro e w2 ⟨rfl, B2⟩
        have HB2 := Lib.hid (HB.out.trans (B2.mono HB.out.size))
        obtain ⟨k0, k1, k2⟩ := cells3 HB2.out
        clear B2 HB
        go_wp2_with fail
        go_ret2
        rw [HV.out]
        exact ⟨rfl, ((Below.refl _ _).alloc (Nat.le_refl _) _).trans (HB2.out.mono (by simp))⟩
      · have HV : Hid (idxV f s n a = (0, 5)) := by show _ = _; unfold idxV; rw [if_neg (by omega), if_neg h3]
        have h3' : 0 < (a - f) % s := by omega
        clear h3
        go_enter Tryz.func104, Tryz.ntmps104
        go_wp2_with fail
        (with_reducible refine (may_ok _ f s n HR.out).mono ?_)
        rintro e w1 ⟨rfl, B1⟩
        obtain ⟨k0, k1, k2⟩ := cells3 B1
        have HB := Lib.hid B1
        clear B1
        go_wp2_with fail
        (with_reducible refine (end_ok _ f s n HR.out).mono ?_)
        rintro e w2 ⟨rfl, B2⟩
        have HB2 := Lib.hid (HB.out.trans (B2.mono HB.out.size))
        obtain ⟨k0, k1, k2⟩ := cells3 HB2.out
        clear B2 HB
        go_wp2_with fail
        go_ret2
        rw [HV.out]
        exact ⟨rfl, ((Below.refl _ _).alloc (Nat.le_refl _) _).trans (HB2.out.mono (by simp))⟩
end Go.Proofs.YtbljphaklciinaaGreat

/- The methods of cell.Cell, walked: what each answers and which of the three words it writes. -/
namespace Go.Proofs.YtbljphaklciinaaGreat
open Go.RowKit

/-- A cell stands at (b, o): word x, tag t, asked n; none of it frozen. -/
structure CellAt (w : World) (b o : Nat) (x t n : Int) : Prop where
  c0 : w.cell? ⟨b, o, none⟩ = some (.int .u64 x)
  c1 : w.cell? ⟨b, o + 1, none⟩ = some (.int .u64 t)
  c2 : w.cell? ⟨b, o + 2, none⟩ = some (.int .i64 n)
  f0 : w.frozen? ⟨b, o, none⟩ = false
  f1 : w.frozen? ⟨b, o + 1, none⟩ = false
  f2 : w.frozen? ⟨b, o + 2, none⟩ = false

set_option maxHeartbeats 400000 in
theorem ask_nil (w : World) :
    Calls Tryz.prog 63 #[.pointer none] w fun e w' => e = .returned (.bool false) ∧ w = w' := by
  go_enter Tryz.func63, Tryz.ntmps63
  go_wp2
  go_ret
  exact ⟨rfl, rfl⟩

set_option maxHeartbeats 400000 in
theorem ask_any (b o : Nat) (n : Int) (w : World) (h2 : w.cell? ⟨b, o + 2, none⟩ = some (.int .i64 n)) (hf : w.frozen? ⟨b, o + 2, none⟩ = false)
    (h0 : 0 ≤ n) (h1 : n < 4611686018427387904) :
    Calls Tryz.prog 63 #[.pointer (some ⟨b, o, none⟩)] w fun e w' => e = .returned (.bool true) ∧ w.setCell ⟨b, o + 2, none⟩ (.int .i64 (n + 1)) = w' := by
  go_enter Tryz.func63, Tryz.ntmps63
  go_wp2
  go_ret
  exact ⟨rfl, rfl⟩

set_option maxHeartbeats 400000 in
theorem write_any (b o : Nat) (x t y : Int) (w : World) (h0 : w.cell? ⟨b, o, none⟩ = some (.int .u64 x)) (h1 : w.cell? ⟨b, o + 1, none⟩ = some (.int .u64 t))
    (hf0 : w.frozen? ⟨b, o, none⟩ = false) (hf1 : w.frozen? ⟨b, o + 1, none⟩ = false) :
    Calls Tryz.prog 92 #[.pointer (some ⟨b, o, none⟩), .int .u64 y] w fun e w' =>
      e = .returned (.tuple #[]) ∧ (w.setCell ⟨b, o, none⟩ (.int .u64 y)).setCell ⟨b, o + 1, none⟩ (.int .u64 (IntKind.u64.wrap (t + 1))) = w' := by
  go_enter Tryz.func92, Tryz.ntmps92
  go_wp2
  go_end0
  exact ⟨rfl, rfl⟩

def LoadTo (w : World) (b o : Nat) (x t n : Int) (e : Ending) (w' : World) : Prop :=
  e = .returned (.tuple #[.int .u64 x, .int .u64 t]) ∧ ∃ k, (w.setCell ⟨b, o + 2, none⟩ (.int .i64 (n + 1))).drewN k = w'

set_option maxHeartbeats 400000 in
theorem load_any (b o : Nat) (x t n : Int) (w : World) (H : CellAt w b o x t n) (h0 : 0 ≤ n) (h1 : n < 4611686018427387904) :
    Calls Tryz.prog 28 #[.pointer (some ⟨b, o, none⟩)] w (LoadTo w b o x t n) := by
  obtain ⟨c0, c1, c2, f0, f1, f2⟩ := H
  go_enter Tryz.func28, Tryz.ntmps28
  go_wp2_with fail
  refine (ask_any b o n _ c2 f2 h0 h1).mono ?_
  rintro e w' ⟨rfl, rfl⟩
  go_wp2_with fail
  go_quiet (fail)
  go_wp2_with fail
  go_ret2
  exact ⟨rfl, _, rfl⟩

set_option maxHeartbeats 400000 in
theorem store_any (b o : Nat) (x t n y : Int) (w : World) (H : CellAt w b o x t n) (h0 : 0 ≤ n) (h1 : n < 4611686018427387904) :
    Calls Tryz.prog 54 #[.pointer (some ⟨b, o, none⟩), .int .u64 y] w fun e w' =>
      e = .returned (.tuple #[]) ∧ ((w.setCell ⟨b, o + 2, none⟩ (.int .i64 (n + 1))).setCell ⟨b, o, none⟩ (.int .u64 y)).setCell ⟨b, o + 1, none⟩ (.int .u64 (IntKind.u64.wrap (t + 1))) = w' := by
  obtain ⟨c0, c1, c2, f0, f1, f2⟩ := H
  go_enter Tryz.func54, Tryz.ntmps54
  go_wp2_with fail
  refine (ask_any b o n _ c2 f2 h0 h1).mono ?_
  rintro e w' ⟨rfl, rfl⟩
  go_wp2_with fail
  refine (write_any b o x t y _ (by go_simp) (by go_simp) (by go_simp) (by go_simp)).mono ?_
  rintro e w' ⟨rfl, rfl⟩
  go_wp2_with fail
  go_end0
  exact ⟨rfl, rfl⟩

set_option maxHeartbeats 400000 in
theorem swap_any (b o : Nat) (x t n y : Int) (w : World) (H : CellAt w b o x t n) (h0 : 0 ≤ n) (h1 : n < 4611686018427387904) :
    Calls Tryz.prog 106 #[.pointer (some ⟨b, o, none⟩), .int .u64 y] w fun e w' =>
      e = .returned (.int .u64 x) ∧ ((w.setCell ⟨b, o + 2, none⟩ (.int .i64 (n + 1))).setCell ⟨b, o, none⟩ (.int .u64 y)).setCell ⟨b, o + 1, none⟩ (.int .u64 (IntKind.u64.wrap (t + 1))) = w' := by
  obtain ⟨c0, c1, c2, f0, f1, f2⟩ := H
  go_enter Tryz.func106, Tryz.ntmps106
  go_wp2_with fail
  refine (ask_any b o n _ c2 f2 h0 h1).mono ?_
  rintro e w' ⟨rfl, rfl⟩
  go_wp2_with fail
  refine (write_any b o x t y _ (by go_simp) (by go_simp) (by go_simp) (by go_simp)).mono ?_
  rintro e w' ⟨rfl, rfl⟩
  go_wp2_with fail
  go_ret
  exact ⟨rfl, rfl⟩

set_option maxHeartbeats 400000 in
theorem cas_yes (b o : Nat) (x t n y : Int) (w : World) (H : CellAt w b o x t n) (h0 : 0 ≤ n) (h1 : n < 4611686018427387904) :
    Calls Tryz.prog 67 #[.pointer (some ⟨b, o, none⟩), .int .u64 t, .int .u64 y] w fun e w' =>
      e = .returned (.bool true) ∧ ((w.setCell ⟨b, o + 2, none⟩ (.int .i64 (n + 1))).setCell ⟨b, o, none⟩ (.int .u64 y)).setCell ⟨b, o + 1, none⟩ (.int .u64 (IntKind.u64.wrap (t + 1))) = w' := by
  obtain ⟨c0, c1, c2, f0, f1, f2⟩ := H
  go_enter Tryz.func67, Tryz.ntmps67
  go_wp2_with fail
  refine (ask_any b o n _ c2 f2 h0 h1).mono ?_
  rintro e w' ⟨rfl, rfl⟩
  go_wp2_with fail
  refine (write_any b o x t y _ (by go_simp) (by go_simp) (by go_simp) (by go_simp)).mono ?_
  rintro e w' ⟨rfl, rfl⟩
  go_wp2_with fail
  go_ret
  exact ⟨rfl, rfl⟩

set_option maxHeartbeats 400000 in
theorem cas_no (b o : Nat) (x t n s y : Int) (w : World) (H : CellAt w b o x t n) (h0 : 0 ≤ n) (h1 : n < 4611686018427387904) (hs : t ≠ s) :
    Calls Tryz.prog 67 #[.pointer (some ⟨b, o, none⟩), .int .u64 s, .int .u64 y] w fun e w' =>
      e = .returned (.bool false) ∧ w.setCell ⟨b, o + 2, none⟩ (.int .i64 (n + 1)) = w' := by
  obtain ⟨c0, c1, c2, f0, f1, f2⟩ := H
  have hb : (t == s) = false := by simpa using hs
  have hb' : (t != s) = true := by simpa using hs
  go_enter Tryz.func67, Tryz.ntmps67
  go_wp2_with fail
  refine (ask_any b o n _ c2 f2 h0 h1).mono ?_
  rintro e w' ⟨rfl, rfl⟩
  go_wp2_with fail
  go_ret
  exact ⟨rfl, rfl⟩

end Go.Proofs.YtbljphaklciinaaGreat

/- cell.Asked, walked: the sum over a row of pointers; and the document's example of the layer. -/
namespace Go.Proofs.YtbljphaklciinaaGreat
open Go.RowKit

theorem CellAt.loaded {w : World} {b o : Nat} {x t n : Int} (H : CellAt w b o x t n) (k : Nat) (m : Int) : CellAt ((w.setCell ⟨b, o + 2, none⟩ (.int .i64 m)).drewN k) b o x t m := by
  obtain ⟨c0, c1, c2, f0, f1, f2⟩ := H
  constructor <;> go_simp

theorem CellAt.asked {w : World} {b o : Nat} {x t n : Int} (H : CellAt w b o x t n) (m : Int) : CellAt (w.setCell ⟨b, o + 2, none⟩ (.int .i64 m)) b o x t m := by
  obtain ⟨c0, c1, c2, f0, f1, f2⟩ := H
  constructor <;> go_simp

theorem CellAt.wrote {w : World} {b o : Nat} {x t n : Int} (H : CellAt w b o x t n) (m y s : Int) :
    CellAt (((w.setCell ⟨b, o + 2, none⟩ (.int .i64 m)).setCell ⟨b, o, none⟩ (.int .u64 y)).setCell ⟨b, o + 1, none⟩ (.int .u64 s)) b o y s m := by
  obtain ⟨c0, c1, c2, f0, f1, f2⟩ := H
  constructor <;> go_simp

theorem CellAt.of_block {w w' : World} {b o : Nat} {x t n : Int} (H : CellAt w b o x t n) (h : w'.heap[b]? = w.heap[b]?) : CellAt w' b o x t n := by
  obtain ⟨c0, c1, c2, f0, f1, f2⟩ := H
  have hc : ∀ i, w'.cell? ⟨b, i, none⟩ = w.cell? ⟨b, i, none⟩ := fun i => World.cell?_of_block (a := ⟨b, i, none⟩) h
  have hf : ∀ i, w'.frozen? ⟨b, i, none⟩ = w.frozen? ⟨b, i, none⟩ := fun i => World.frozen?_of_block (a := ⟨b, i, none⟩) h
  exact ⟨(hc _).trans c0, (hc _).trans c1, (hc _).trans c2, (hf _).trans f0, (hf _).trans f1, (hf _).trans f2⟩

theorem CellAt.below {w w' : World} {b o B : Nat} {x t n : Int} (H : CellAt w b o x t n) (h : Below B w w') (hb : b < B) : CellAt w' b o x t n := H.of_block (h.block b hb)

/-- The cell at (b, o) reads so in the new world; no other block has turned, none has come. -/
structure CellTo (w : World) (b o : Nat) (x t n : Int) (w' : World) : Prop where
  at_ : CellAt w' b o x t n
  only : w.grownBy w' (some b)
  size : w'.heap.size = w.heap.size

theorem load_to {b o : Nat} {x t n : Int} {w : World} (H : CellAt w b o x t n) (h0 : 0 ≤ n) (h1 : n < 4611686018427387904) :
    Calls Tryz.prog 28 #[.pointer (some ⟨b, o, none⟩)] w fun e w' => e = .returned (.tuple #[.int .u64 x, .int .u64 t]) ∧ CellTo w b o x t (n + 1) w' :=
  (load_any b o x t n w H h0 h1).mono fun _ _ ⟨he, k, hw⟩ => ⟨he, by
    subst hw; exact ⟨H.loaded k _, only_drewN (only_set (World.grownBy.refl w _) _) _, by simp [World.setCell]⟩⟩

theorem wrote_to {b o : Nat} {x t n m y s : Int} {w : World} (H : CellAt w b o x t n) :
    CellTo w b o y s m (((w.setCell ⟨b, o + 2, none⟩ (.int .i64 m)).setCell ⟨b, o, none⟩ (.int .u64 y)).setCell ⟨b, o + 1, none⟩ (.int .u64 s)) :=
  ⟨H.wrote m y s, only_set (only_set (only_set (World.grownBy.refl w _) _) _) _, by simp [World.setCell]⟩

theorem store_to {b o : Nat} {x t n : Int} (y : Int) {w : World} (H : CellAt w b o x t n) (h0 : 0 ≤ n) (h1 : n < 4611686018427387904) :
    Calls Tryz.prog 54 #[.pointer (some ⟨b, o, none⟩), .int .u64 y] w fun e w' => e = .returned (.tuple #[]) ∧ CellTo w b o y (IntKind.u64.wrap (t + 1)) (n + 1) w' :=
  (store_any b o x t n y w H h0 h1).mono fun _ _ ⟨he, hw⟩ => ⟨he, by subst hw; exact wrote_to H⟩
theorem swap_to {b o : Nat} {x t n : Int} (y : Int) {w : World} (H : CellAt w b o x t n) (h0 : 0 ≤ n) (h1 : n < 4611686018427387904) :
    Calls Tryz.prog 106 #[.pointer (some ⟨b, o, none⟩), .int .u64 y] w fun e w' => e = .returned (.int .u64 x) ∧ CellTo w b o y (IntKind.u64.wrap (t + 1)) (n + 1) w' :=
  (swap_any b o x t n y w H h0 h1).mono fun _ _ ⟨he, hw⟩ => ⟨he, by subst hw; exact wrote_to H⟩
theorem cas_to_yes {b o : Nat} {x t n : Int} (y : Int) {w : World} (H : CellAt w b o x t n) (h0 : 0 ≤ n) (h1 : n < 4611686018427387904) :
    Calls Tryz.prog 67 #[.pointer (some ⟨b, o, none⟩), .int .u64 t, .int .u64 y] w fun e w' => e = .returned (.bool true) ∧ CellTo w b o y (IntKind.u64.wrap (t + 1)) (n + 1) w' :=
  (cas_yes b o x t n y w H h0 h1).mono fun _ _ ⟨he, hw⟩ => ⟨he, by subst hw; exact wrote_to H⟩
theorem cas_to_no {b o : Nat} {x t n s : Int} (y : Int) {w : World} (H : CellAt w b o x t n) (h0 : 0 ≤ n) (h1 : n < 4611686018427387904) (hs : t ≠ s) :
    Calls Tryz.prog 67 #[.pointer (some ⟨b, o, none⟩), .int .u64 s, .int .u64 y] w fun e w' => e = .returned (.bool false) ∧ CellTo w b o x t (n + 1) w' :=
  (cas_no b o x t n s y w H h0 h1 hs).mono fun _ _ ⟨he, hw⟩ => ⟨he, by
    subst hw; exact ⟨H.asked _, only_set (World.grownBy.refl w _) _, by simp [World.setCell]⟩⟩

end Go.Proofs.YtbljphaklciinaaGreat

/- A thing of many cells at a place (b, o): what each cell holds, as a function of its number. -/
namespace Go.Proofs.YtbljphaklciinaaGreat
open Go.RowKit

def upd (f : Nat → Value) (i : Nat) (v : Value) : Nat → Value := fun j => if j = i then v else f j

structure Obj_ (w : World) (b o N : Nat) (f : Nat → Value) : Prop where
  cell : ∀ j, j < N → w.cell? ⟨b, o + j, none⟩ = some (f j)
  frz : ∀ j, j < N → w.frozen? ⟨b, o + j, none⟩ = false

variable {w w' : World} {b o N : Nat} {f g : Nat → Value}

theorem Obj_.at_ (h : Obj_ w b o N f) {j : Nat} (hj : j < N) {v : Value} (hv : f j = v) : w.cell? ⟨b, o + j, none⟩ = some v := hv ▸ h.cell j hj
theorem Obj_.at0 (h : Obj_ w b o N f) (hj : 0 < N) {v : Value} (hv : f 0 = v) : w.cell? ⟨b, o, none⟩ = some v := hv ▸ h.cell 0 hj
theorem Obj_.frz0 (h : Obj_ w b o N f) (hj : 0 < N) : w.frozen? ⟨b, o, none⟩ = false := h.frz 0 hj

theorem Obj_.set (h : Obj_ w b o N f) {i : Nat} (hi : i < N) (v : Value) : Obj_ (w.setCell ⟨b, o + i, none⟩ v) b o N (upd f i v) := by
  refine ⟨fun j hj => ?_, fun j hj => by simpa using h.frz j hj⟩
  by_cases e : j = i
  · subst e
    have hc := h.cell j hj
    simp only [upd, if_true]
    go_simp
  · simp only [upd, if_neg e]
    rw [World.cell?_setCell_other _ _ _ _ (by simp [e])]
    exact h.cell j hj
theorem Obj_.set0 (h : Obj_ w b o N f) (hi : 0 < N) (v : Value) : Obj_ (w.setCell ⟨b, o, none⟩ v) b o N (upd f 0 v) := h.set hi v

theorem Obj_.drewN (h : Obj_ w b o N f) (k : Nat) : Obj_ (w.drewN k) b o N f := ⟨h.cell, h.frz⟩
theorem Obj_.drew (h : Obj_ w b o N f) : Obj_ w.drew b o N f := ⟨h.cell, h.frz⟩

theorem Obj_.of_block (h : Obj_ w b o N f) (hb : w'.heap[b]? = w.heap[b]?) : Obj_ w' b o N f :=
  ⟨fun j hj => (World.cell?_of_block (a := ⟨b, o + j, none⟩) hb).trans (h.cell j hj), fun j hj => (World.frozen?_of_block (a := ⟨b, o + j, none⟩) hb).trans (h.frz j hj)⟩

theorem Obj_.congr (h : Obj_ w b o N f) (e : ∀ j, j < N → f j = g j) : Obj_ w b o N g := ⟨fun j hj => e j hj ▸ h.cell j hj, h.frz⟩

theorem Obj_.lt (h : Obj_ w b o N f) (hN : 0 < N) : b < w.heap.size := World.block_lt_of_cell? w _ (h.cell 0 hN)

/-- The first three cells as a Cell. -/
theorem Obj_.cellAt (h : Obj_ w b o N f) (hN : 2 < N) {x t n : Int} (h0 : f 0 = .int .u64 x) (h1 : f 1 = .int .u64 t) (h2 : f 2 = .int .i64 n) : CellAt w b o x t n :=
  ⟨h.at0 (by omega) h0, h.at_ (by omega) h1, h.at_ hN h2, h.frz0 (by omega), h.frz 1 (by omega), h.frz 2 hN⟩

/-- A new block is such a thing. -/
theorem Obj_.new (w : World) (cs : Array Value) (T : TypeId) : Obj_ (w.alloc (.cells cs T)) w.heap.size 0 cs.size (fun j => cs.getD j undef) := by
  refine ⟨fun j hj => ?_, fun j hj => by simp⟩
  rw [Nat.zero_add, World.cell?_alloc_new]
  simp [hj]

/-- Nothing but block b has turned, and no block has come. -/
structure Only (w w' : World) (b : Nat) : Prop where
  gr : w.grownBy w' (some b)
  size : w'.heap.size = w.heap.size

theorem Only.refl (w : World) (b : Nat) : Only w w b := ⟨World.grownBy.refl w _, rfl⟩
theorem Only.set (h : Only w w' b) (i : Nat) (v : Value) : Only w (w'.setCell ⟨b, i, none⟩ v) b := ⟨only_set h.gr _, by simpa [World.setCell] using h.size⟩
theorem Only.drewN (h : Only w w' b) (k : Nat) : Only w (w'.drewN k) b := ⟨only_drewN h.gr k, h.size⟩
end Go.Proofs.YtbljphaklciinaaGreat

/- Layer 9 (page): a page's block; Alloc. -/
namespace Go.Proofs.YtbljphaklciinaaGreat
open Go.RowKit

structure Pg where
  f : Nat
  s : Nat
  n : Nat
  made : Nat
  used : Nat
  free : List Nat
  loc : List Nat
  word : Nat
  tag : Int
  asked : Int
  head : Nat

def pgV (bm : Nat) (p : Pg) : Nat → Value
  | 0 => .int .u64 p.f
  | 1 => .int .u64 p.s
  | 2 => .int .i64 p.n
  | 3 => .int .i64 p.made
  | 4 => .int .i64 p.used
  | 5 => .pointer (some ⟨bm, 0, none⟩)
  | 6 => .int .u64 (p.free.headD 0 : Nat)
  | 7 => .int .i64 (p.free.length : Nat)
  | 8 => .int .u64 (p.loc.headD 0 : Nat)
  | 9 => .int .i64 (p.loc.length : Nat)
  | 10 => .int .u64 p.word
  | 11 => .int .u64 p.tag
  | 12 => .int .i64 p.asked
  | _ => .int .u64 p.head

def PageAt (w : World) (b bm : Nat) (p : Pg) : Prop := Obj_ w b 0 14 (pgV bm p)

theorem lt14 {j : Nat} (h : j < 14) : j = 0 ∨ j = 1 ∨ j = 2 ∨ j = 3 ∨ j = 4 ∨ j = 5 ∨ j = 6 ∨ j = 7 ∨ j = 8 ∨ j = 9 ∨ j = 10 ∨ j = 11 ∨ j = 12 ∨ j = 13 := by omega
theorem grown_of_below {w w' : World} {b : Nat} (h : Below w.heap.size w w') : w.grownBy w' (some b) := ⟨h.os, h.tape, h.output, h.size, fun k hk _ => h.block k hk⟩

set_option maxRecDepth 100000 in
set_option maxHeartbeats 2000000 in
theorem pageAlloc_free {w : World} {b bm bb sz : Nat} {p : Pg} {f : Nat → Nat} {a : Nat} {r : List Nat} (H : PageAt w b bm p) (M : MemAt w bm bb sz f) (hb : b ≠ bb) (hf : p.free = a :: r) (hc : Chain f a (a :: r)) (ha : a + 8 ≤ sz) (hn : p.n ≤ 1024) (hl : p.free.length ≤ 1024) (hu : p.used ≤ 1024) :
    Calls Tryz.prog 43 #[.pointer (some ⟨b, 0, none⟩)] w fun e w' => e = .returned (.tuple #[.int .u64 a, .int .i64 0]) ∧ PageAt w' b bm { p with free := r, used := p.used + 1 } ∧ w.grownBy w' (some b) := by
  have hh : ∀ j, j < 14 → w.cell? ⟨b, j, none⟩ = some (pgV bm p j) := fun j hj => by have := H.cell j hj; rwa [Nat.zero_add] at this
  have hz : ∀ j, j < 14 → w.frozen? ⟨b, j, none⟩ = false := fun j hj => by have := Obj_.frz H j hj; rwa [Nat.zero_add] at this
  have c5 : w.cell? ⟨b, 5, none⟩ = some (.pointer (some ⟨bm, 0, none⟩)) := hh 5 (by omega)
  have c6 : w.cell? ⟨b, 6, none⟩ = some (.int .u64 a) := by rw [hh 6 (by omega)]; simp [pgV, hf]
  have c7 : w.cell? ⟨b, 7, none⟩ = some (.int .i64 ((r.length : Int) + 1)) := by rw [hh 7 (by omega)]; simp [pgV, hf]
  have c4 : w.cell? ⟨b, 4, none⟩ = some (.int .i64 p.used) := hh 4 (by omega)
  have z4 := hz 4 (by omega)
  have z6 := hz 6 (by omega)
  have z7 := hz 7 (by omega)
  have hr : r.length ≤ 1023 := by rw [hf] at hl; simp at hl; omega
  have HH := Lib.hid H
  have HM := Lib.hid M
  have HC := Lib.hid hc
  have HF := Lib.hid hf
  have e7 : ((r.length : Int) + 1 == 0) = false := beq_eq_false_iff_ne.2 (by omega)
  clear hh hz H M hc hf
  go_enter Tryz.func43, Tryz.ntmps43
  go_wp2_with fail
  have HBL : b < w.heap.size := Obj_.lt HH.out (by omega)
  have HNX : Hid (word f a = r.headD 0) := by show _ = _; exact HC.out.2.2.head
  have HCALL : Hid (Calls Tryz.prog 75 #[.pointer (some ⟨b, 6, none⟩), .pointer (some ⟨bm, 0, none⟩)] w.drew fun e w' => e = .returned (.tuple #[.int .u64 a, .int .i64 0]) ∧
      ∃ w1, Below w.heap.size w w1 ∧ w' = (w1.setCell ⟨b, 6, none⟩ (.int .u64 (word f a : Nat))).setCell ⟨b, 7, none⟩ (.int .i64 ((r.length : Int) + 1 - 1))) :=
    (listPop_ok (w := w.drew) (b := b) (o := 6) HM.out.drew c6 c7 z6 z7 HBL ha (by omega) (by omega)).mono fun e w' ⟨he, w1, B, hw⟩ => ⟨he, w1, ⟨B.os, B.tape, B.output, B.size, B.block⟩, hw⟩
  go_region_held3 (fun w' => w'.cell? ⟨b, 5, none⟩ = some (.pointer (some ⟨bm, 0, none⟩)))
    (first | exact c5 | exact KA.out | fail)
    (first
      | (go_at_call 75; refine HCALL.out.mono ?_; rintro e w2 ⟨rfl, w1, B1, hw2⟩; have HB1 := Lib.hid B1; have HW2 := Lib.hid hw2; have KA : Hid (w2.cell? ⟨b, 5, none⟩ = some (.pointer (some ⟨bm, 0, none⟩))) := (by show _ = _; rw [HW2.out, World.cell?_setCell_other _ _ _ _ (by simp), World.cell?_setCell_other _ _ _ _ (by simp)]; exact (HB1.out.cell (p := ⟨b, 5, none⟩) HBL).trans c5); clear B1 hw2)
      | fail)
  have O1 := Lib.hid (Obj_.of_block HH.out (HB1.out.block b HBL))
  have O2 : Hid (Obj_ w2 b 0 14 (upd (upd (pgV bm p) 6 (.int .u64 (word f a : Nat))) 7 (.int .i64 ((r.length : Int) + 1 - 1)))) := by
    have h := ((Obj_.set O1.out (i := 6) (by omega) (.int .u64 (word f a : Nat))).set (i := 7) (by omega) (.int .i64 ((r.length : Int) + 1 - 1)))
    simp only [Nat.zero_add] at h
    rw [HW2.out]
    exact h
  have HG2 : Hid (w.grownBy w2 (some b)) := by
    show World.grownBy _ _ _
    rw [HW2.out]
    exact only_set (only_set (grown_of_below HB1.out) _) _
  have k4 : w2.cell? ⟨b, 4, none⟩ = some (.int .i64 p.used) := by have h := Obj_.cell O2.out 4 (by omega); rwa [Nat.zero_add] at h
  have y4 : w2.frozen? ⟨b, 4, none⟩ = false := by have h := Obj_.frz O2.out 4 (by omega); rwa [Nat.zero_add] at h
  clear KA c4 c5 c6 c7 z4 z6 z7 HCALL
  go_wp2_with fail
  go_ret2
  refine ⟨rfl, ?_, only_set (HG2.out) _⟩
  have O3 := Obj_.set O2.out (i := 4) (by omega) (.int .i64 ((p.used : Int) + 1))
  rw [Nat.zero_add] at O3
  refine O3.congr (fun j hj => ?_)
  rcases lt14 hj with rfl | rfl | rfl | rfl | rfl | rfl | rfl | rfl | rfl | rfl | rfl | rfl | rfl | rfl <;> first | rfl | (simp [upd, pgV, HNX.out]; done) | (simp [upd, pgV]; omega)
end Go.Proofs.YtbljphaklciinaaGreat
