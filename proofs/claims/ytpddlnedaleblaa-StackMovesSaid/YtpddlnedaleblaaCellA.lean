/- cell.Asked, walked: the sum over a row of pointers; and the document's example of the layer. -/
import Derived.Test.YtpddlnedaleblaaCellW
import Derived.Lib.Hide
namespace Go.Proofs.Ytpddlnedaleblaa
open Go.RowKit

theorem CellAt.loaded {w : World} {b o : Nat} {x t n : Int} (H : CellAt w b o x t n) (k : Nat) (m : Int) : CellAt ((w.setCell ⟨b, o + 2, none⟩ (.int .i64 m)).drewN k) b o x t m := by
  obtain ⟨c0, c1, c2, f0, f1, f2⟩ := H
  constructor <;> go_simp

theorem CellAt.asked {w : World} {b o : Nat} {x t n : Int} (H : CellAt w b o x t n) (m : Int) : CellAt (w.setCell ⟨b, o + 2, none⟩ (.int .i64 m)) b o x t m := by
  obtain ⟨c0, c1, c2, f0, f1, f2⟩ := H
  constructor <;> go_simp

theorem CellAt.wrote {w : World} {b o : Nat} {x t n : Int} (H : CellAt w b o x t n) (m y s : Int) :
    CellAt (((w.setCell ⟨b, o + 2, none⟩ (.int .i64 m)).setCell ⟨b, o, none⟩ (.int .u64 y)).setCell ⟨b, o + 1, none⟩ (.int .u64 s)) b o y s m := by
  obtain ⟨c0, c1, c2, f0, f1, f2⟩ := H
  constructor <;> go_simp

theorem CellAt.of_block {w w' : World} {b o : Nat} {x t n : Int} (H : CellAt w b o x t n) (h : w'.heap[b]? = w.heap[b]?) : CellAt w' b o x t n := by
  obtain ⟨c0, c1, c2, f0, f1, f2⟩ := H
  have hc : ∀ i, w'.cell? ⟨b, i, none⟩ = w.cell? ⟨b, i, none⟩ := fun i => World.cell?_of_block (a := ⟨b, i, none⟩) h
  have hf : ∀ i, w'.frozen? ⟨b, i, none⟩ = w.frozen? ⟨b, i, none⟩ := fun i => World.frozen?_of_block (a := ⟨b, i, none⟩) h
  exact ⟨(hc _).trans c0, (hc _).trans c1, (hc _).trans c2, (hf _).trans f0, (hf _).trans f1, (hf _).trans f2⟩

theorem CellAt.below {w w' : World} {b o B : Nat} {x t n : Int} (H : CellAt w b o x t n) (h : Below B w w') (hb : b < B) : CellAt w' b o x t n := H.of_block (h.block b hb)

/-- The cell at (b, o) reads so in the new world; no other block has turned, none has come. -/
structure CellTo (w : World) (b o : Nat) (x t n : Int) (w' : World) : Prop where
  at_ : CellAt w' b o x t n
  only : w.grownBy w' (some b)
  size : w'.heap.size = w.heap.size

theorem load_to {b o : Nat} {x t n : Int} {w : World} (H : CellAt w b o x t n) (h0 : 0 ≤ n) (h1 : n < 4611686018427387904) :
    Calls Try.prog 22 #[.pointer (some ⟨b, o, none⟩)] w fun e w' => e = .returned (.tuple #[.int .u64 x, .int .u64 t]) ∧ CellTo w b o x t (n + 1) w' :=
  (load_any b o x t n w H h0 h1).mono fun _ _ ⟨he, k, hw⟩ => ⟨he, by
    subst hw; exact ⟨H.loaded k _, only_drewN (only_set (World.grownBy.refl w _) _) _, by simp [World.setCell]⟩⟩

theorem wrote_to {b o : Nat} {x t n m y s : Int} {w : World} (H : CellAt w b o x t n) :
    CellTo w b o y s m (((w.setCell ⟨b, o + 2, none⟩ (.int .i64 m)).setCell ⟨b, o, none⟩ (.int .u64 y)).setCell ⟨b, o + 1, none⟩ (.int .u64 s)) :=
  ⟨H.wrote m y s, only_set (only_set (only_set (World.grownBy.refl w _) _) _) _, by simp [World.setCell]⟩

theorem store_to {b o : Nat} {x t n : Int} (y : Int) {w : World} (H : CellAt w b o x t n) (h0 : 0 ≤ n) (h1 : n < 4611686018427387904) :
    Calls Try.prog 21 #[.pointer (some ⟨b, o, none⟩), .int .u64 y] w fun e w' => e = .returned (.tuple #[]) ∧ CellTo w b o y (IntKind.u64.wrap (t + 1)) (n + 1) w' :=
  (store_any b o x t n y w H h0 h1).mono fun _ _ ⟨he, hw⟩ => ⟨he, by subst hw; exact wrote_to H⟩
theorem swap_to {b o : Nat} {x t n : Int} (y : Int) {w : World} (H : CellAt w b o x t n) (h0 : 0 ≤ n) (h1 : n < 4611686018427387904) :
    Calls Try.prog 25 #[.pointer (some ⟨b, o, none⟩), .int .u64 y] w fun e w' => e = .returned (.int .u64 x) ∧ CellTo w b o y (IntKind.u64.wrap (t + 1)) (n + 1) w' :=
  (swap_any b o x t n y w H h0 h1).mono fun _ _ ⟨he, hw⟩ => ⟨he, by subst hw; exact wrote_to H⟩
theorem cas_to_yes {b o : Nat} {x t n : Int} (y : Int) {w : World} (H : CellAt w b o x t n) (h0 : 0 ≤ n) (h1 : n < 4611686018427387904) :
    Calls Try.prog 23 #[.pointer (some ⟨b, o, none⟩), .int .u64 t, .int .u64 y] w fun e w' => e = .returned (.bool true) ∧ CellTo w b o y (IntKind.u64.wrap (t + 1)) (n + 1) w' :=
  (cas_yes b o x t n y w H h0 h1).mono fun _ _ ⟨he, hw⟩ => ⟨he, by subst hw; exact wrote_to H⟩
theorem cas_to_no {b o : Nat} {x t n s : Int} (y : Int) {w : World} (H : CellAt w b o x t n) (h0 : 0 ≤ n) (h1 : n < 4611686018427387904) (hs : t ≠ s) :
    Calls Try.prog 23 #[.pointer (some ⟨b, o, none⟩), .int .u64 s, .int .u64 y] w fun e w' => e = .returned (.bool false) ∧ CellTo w b o x t (n + 1) w' :=
  (cas_no b o x t n s y w H h0 h1 hs).mono fun _ _ ⟨he, hw⟩ => ⟨he, by
    subst hw; exact ⟨H.asked _, only_set (World.grownBy.refl w _) _, by simp [World.setCell]⟩⟩

/-- A row of pointers to cells, some of them nil: where each stands, and how often it was asked. -/
def askPtr : Option (Nat × Nat × Int) → Value
  | none => .pointer none
  | some (b, o, _) => .pointer (some ⟨b, o, none⟩)
def askNum : Option (Nat × Nat × Int) → Int
  | none => 0
  | some (_, _, n) => n
def askSum (f : Nat → Option (Nat × Nat × Int)) : Nat → Int
  | 0 => 0
  | k + 1 => askSum f k + askNum (f k)

structure AskRow (w : World) (A : Option Addr) (len : Nat) (f : Nat → Option (Nat × Nat × Int)) : Prop where
  at_ : ∀ k, k < len → ∃ g off, A = some ⟨g, off, none⟩ ∧ w.cell? ⟨g, off + k, none⟩ = some (askPtr (f k))
  cell : ∀ k b o n, k < len → f k = some (b, o, n) → w.cell? ⟨b, o + 2, none⟩ = some (.int .i64 n) ∧ 0 ≤ n ∧ n < 1099511627776

theorem askSum_bd {w : World} {A : Option Addr} {len : Nat} {f : Nat → Option (Nat × Nat × Int)} (H : AskRow w A len f) : ∀ k, k ≤ len → 0 ≤ askSum f k ∧ askSum f k ≤ k * 1099511627776 := by
  intro k
  induction k with
  | zero => intro _; simp [askSum]
  | succ k ih =>
    intro hk
    have h := ih (by omega)
    have hb : 0 ≤ askNum (f k) ∧ askNum (f k) < 1099511627776 := by
      cases hf : f k with
      | none => simp [askNum]
      | some p =>
        obtain ⟨b, o, n⟩ := p
        obtain ⟨_, h1, h2⟩ := H.cell k b o n (by omega) hf
        exact ⟨h1, h2⟩
    simp only [askSum]
    omega

set_option maxHeartbeats 400000 in
theorem asked_any (w : World) (A : Option Addr) (len cap : Nat) (f : Nat → Option (Nat × Nat × Int)) (H : AskRow w A len f) (hlen : len ≤ 1000000) :
    Calls Try.prog 28 #[.slice A len cap] w fun e w' => e = .returned (.int .i64 (askSum f len)) ∧ w = w' := by
  have hs0 := askSum_bd H
  have Hs := Lib.hid hs0
  have HH := Lib.hid H
  clear hs0 H
  go_enter Try.func28, Try.ntmps28
  go_wp2_with fail
  go_loop [2, 7] (fun n i => ∃ k : Nat, k ≤ len ∧ i = .int .i64 k ∧ n = .int .i64 (askSum f k)) (fun _ i => len - (intOf i).toNat)
  case atStart => exact ⟨0, by omega, rfl, rfl⟩
  case round =>
    obtain ⟨k, hk, rfl, rfl⟩ := hrel
    by_cases hlt : k < len
    · obtain ⟨g, off, rfl, hc⟩ := HH.out.at_ k hlt
      obtain ⟨b1, b2⟩ := Hs.out k hk
      have e1 : askSum f (k + 1) = askSum f k + askNum (f k) := rfl
      cases hf : f k with
      | none =>
        rw [hf] at hc e1
        simp only [askPtr] at hc
        simp only [askNum, Int.add_zero] at e1
        have E1 := Lib.hid e1
        clear e1 hf
        go_wp2_with fail
        go_round
        case rel => exact ⟨k + 1, by omega, by go_num, by rw [E1.out]⟩
        case measure => simp [intOf]; omega
      | some p =>
        obtain ⟨b, o, n⟩ := p
        obtain ⟨c2, h1, h2⟩ := HH.out.cell k b o n hlt hf
        rw [hf] at hc e1
        simp only [askPtr] at hc
        simp only [askNum] at e1
        have E1 := Lib.hid e1
        clear e1 hf
        have hb3 : askSum f k ≤ 1000000 * 1099511627776 := by omega
        go_wp2_with fail
        go_round
        case rel => exact ⟨k + 1, by omega, by go_num, by rw [E1.out]⟩
        case measure => simp [intOf]; omega
    · have hkl : k = len := by omega
      subst hkl
      go_wp2_with fail
      go_ret
      exact ⟨rfl, rfl⟩


/-- 'cell.Asked(&c)', 'cell.Asked(&c, none)': the row that the caller lays. -/
theorem AskRow.one {w : World} {b o T : Nat} {x t n : Int} (H : CellAt w b o x t n) (h0 : 0 ≤ n) (h1 : n < 1099511627776) (hb : b < w.heap.size) :
    AskRow (w.alloc (.cells #[.pointer (some ⟨b, o, none⟩)] T)) (some ⟨w.heap.size, 0, none⟩) 1 (fun _ => some (b, o, n)) := by
  refine ⟨fun k hk => ⟨w.heap.size, 0, rfl, ?_⟩, fun k b' o' n' hk he => ?_⟩
  · obtain rfl : k = 0 := by omega
    go_simp
    rfl
  · simp only [Option.some.injEq, Prod.mk.injEq] at he
    obtain ⟨rfl, rfl, rfl⟩ := he
    exact ⟨(World.cell?_alloc_lt w _ _ hb).trans H.c2, h0, h1⟩
theorem AskRow.two {w : World} {b o T : Nat} {x t n : Int} (H : CellAt w b o x t n) (h0 : 0 ≤ n) (h1 : n < 1099511627776) (hb : b < w.heap.size) :
    AskRow (w.alloc (.cells #[.pointer (some ⟨b, o, none⟩), .pointer none] T)) (some ⟨w.heap.size, 0, none⟩) 2 (fun k => if k = 0 then some (b, o, n) else none) := by
  refine ⟨fun k hk => ⟨w.heap.size, 0, rfl, ?_⟩, fun k b' o' n' hk he => ?_⟩
  · rcases (by omega : k = 0 ∨ k = 1) with rfl | rfl
    · go_simp
      rfl
    · go_simp
      rfl
  · by_cases hk0 : k = 0
    · simp only [hk0, if_true, Option.some.injEq, Prod.mk.injEq] at he
      obtain ⟨rfl, rfl, rfl⟩ := he
      exact ⟨(World.cell?_alloc_lt w _ _ hb).trans H.c2, h0, h1⟩
    · simp [hk0] at he

end Go.Proofs.Ytpddlnedaleblaa
