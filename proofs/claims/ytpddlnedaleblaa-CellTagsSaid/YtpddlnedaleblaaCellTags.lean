/- CellTags, walked: each write makes the tag one more, each look leaves it. -/
import Derived.Test.YtpddlnedaleblaaCellAlive
import Derived.Test.YtpddlnedaleblaaArgs
namespace Go.Proofs.Ytpddlnedaleblaa
open Go.ChangeShapes Go.WideShapes Go.RowKit

/-- Acts as they lie in an argument: Kind, Tag, X of each. -/
def ActsAt (W : World) (A : Option Addr) (n : Nat) (K T X : Nat → Int) : Prop :=
  ∀ i, i < n → ∃ g off, A = some ⟨g, off, none⟩ ∧ g < W.heap.size ∧ W.cell? ⟨g, off + i * 3, none⟩ = some (.int .i64 (K i)) ∧
    W.cell? ⟨g, off + i * 3 + 1, none⟩ = some (.int .u64 (T i)) ∧ W.cell? ⟨g, off + i * 3 + 2, none⟩ = some (.int .u64 (X i))

structure TagsRel (W : World) (b : Nat) (k : Nat) (wr : World) : Prop where
  cell : ∃ (x t : Int) (m : Nat), m ≤ 10 * k + 10 ∧ 0 ≤ t ∧ t ≤ k ∧ CellAt wr b 0 x t m
  below : Below W.heap.size W wr
  size : b < wr.heap.size

/-- The act of a round, in the variable that the round has. -/
structure ActIn (w : World) (d : Nat) (K T X : Int) : Prop where
  a0 : w.cell? ⟨d, 0, none⟩ = some (.int .i64 K)
  a1 : w.cell? ⟨d, 1, none⟩ = some (.int .u64 T)
  a2 : w.cell? ⟨d, 2, none⟩ = some (.int .u64 X)
theorem ActIn.new (w : World) (K T X : Int) (ty : TypeId) : ActIn (w.alloc (.cells #[.int .i64 K, .int .u64 T, .int .u64 X] ty)) w.heap.size K T X := by
  constructor <;> go_simp
theorem ActIn.kept {w w' : World} {d b : Nat} {K T X : Int} (h : ActIn w d K T X) (hg : w.grownBy w' (some b)) (hne : d ≠ b) : ActIn w' d K T X :=
  ⟨hg.cell h.a0 (by simp; omega), hg.cell h.a1 (by simp; omega), hg.cell h.a2 (by simp; omega)⟩
theorem CellAt.alloc {w : World} {b o : Nat} {x t n : Int} (h : CellAt w b o x t n) (hb : b < w.heap.size) (ob : Obj) : CellAt (w.alloc ob) b o x t n :=
  h.of_block (Below.heap_alloc w ob b hb)

set_option maxRecDepth 100000 in
set_option maxHeartbeats 2000000 in
theorem tags_walk (W : World) (A : Option Addr) (n c : Nat) (K T X : Nat → Int) (hn : n ≤ c) (hc : c ≤ maxLen) (hf : ActsAt W A n K T X) :
    Calls Try.prog 6 #[.slice A n c] W (TrueBelow W) := by
  have HF := Lib.hid hf
  clear hf
  unfold maxLen at hc
  go_enter Try.func6, Try.ntmps6
  go_wp2_with fail
  refine (alive08 W).mono ?_
  rintro e w1 ⟨rfl, B1⟩
  have Z1 := B1.size
  by_cases hbig : (300 : Int) < n
  · go_wp2_with fail
    go_ret
    exact ⟨rfl, B1⟩
  · go_wp2_with fail
    have hR : TagsRel W w1.heap.size 0 (w1.alloc (.cells #[.int .u64 0, .int .u64 0, .int .i64 0] 26)) :=
      ⟨⟨0, 0, 0, by omega, by omega, by omega, CellAt.new w1 _⟩, B1.alloc Z1 _, by simp⟩
    obtain ⟨b, hb⟩ : ∃ b, b = w1.heap.size := ⟨_, rfl⟩
    rw [← hb] at hR Z1 ⊢
    clear hb B1
    go_loopw [18] (fun i wr => ∃ k : Nat, k ≤ n ∧ i = .int .i64 k ∧ TagsRel W b k wr) (fun i _ => n - (intOf i).toNat)
    case atStart => exact ⟨0, by omega, rfl, hR⟩
    case round =>
      clear hR
      obtain ⟨k, hk, rfl, ⟨x, t, m, hm, ht0, ht1, C0⟩, B0, Z0⟩ := hrel
      by_cases hlt : k < n
      · obtain ⟨g, off, rfl, hg, h0', h1', h2'⟩ := HF.out k hlt
        have h0 := (B0.cell (p := ⟨g, off + k * 3, none⟩) hg).trans h0'
        have h1 := (B0.cell (p := ⟨g, off + k * 3 + 1, none⟩) hg).trans h1'
        have h2 := (B0.cell (p := ⟨g, off + k * 3 + 2, none⟩) hg).trans h2'
        clear h0' h1' h2'
        go_wp2_with fail
        clear h0 h1 h2
        have C1 := C0.alloc Z0 (.cells #[.int .i64 (K k), .int .u64 (T k), .int .u64 (X k)] 43)
        have D1 := ActIn.new wr (K k) (T k) (X k) 43
        have B1 := B0.alloc (by omega) (.cells #[.int .i64 (K k), .int .u64 (T k), .int .u64 (X k)] 43)
        obtain ⟨d, hd⟩ : ∃ d, d = wr.heap.size := ⟨_, rfl⟩
        obtain ⟨wa, hwa⟩ : ∃ wa, wa = wr.alloc (.cells #[.int .i64 (K k), .int .u64 (T k), .int .u64 (X k)] 43) := ⟨_, rfl⟩
        have Y1 : d < wa.heap.size := by rw [hwa, hd]; simp
        have hdb : d ≠ b := by omega
        have Z1 : b < wa.heap.size := by omega
        rw [← hwa] at C1 B1 D1 ⊢
        rw [← hd] at D1 ⊢
        clear hd hwa B0 C0 Z0
        generalize K k = kk at *
        generalize T k = tt at *
        generalize X k = xx at *
        (with_reducible refine (load_to C1 (by omega) (by omega)).mono ?_)
        rintro e w2 ⟨rfl, C2, G2, S2⟩
        have B2 := B1.grown G2 (by omega) (fun k e => by simp at e; omega)
        have Z2 : b < w2.heap.size := by omega
        have Y2 : d < w2.heap.size := by omega
        have D2 := D1.kept G2 hdb
        clear S2 G2 B1 C1 D1
        have hwr : IntKind.u64.wrap (t + 1) = t + 1 := by simp only [IntKind.wrap_u64]; omega
        have HW := Lib.hid hwr
        clear hwr
        obtain ⟨a0, a1, a2⟩ := D2
        have D2 : ActIn w2 d kk tt xx := ⟨a0, a1, a2⟩
        by_cases hk1 : kk = 1
        · have q1 : (kk == 1) = true := by simpa using hk1
          clear hk1
          go_wp2_with fail
          clear a0 a1 a2
          (with_reducible refine (store_to xx C2 (by omega) (by omega)).mono ?_)
          rintro e w3 ⟨rfl, C3, G3, S3⟩
          have B3 := B2.grown G3 (by omega) (fun k e => by simp at e; omega)
          have Z3 : b < w3.heap.size := by omega
          have Y3 : d < w3.heap.size := by omega
          have D3 := D2.kept G3 hdb
          clear S3 G3 B2 C2 D2
          rw [HW.out] at C3
          go_wp2_with fail
          (with_reducible refine (load_to C3 (by omega) (by omega)).mono ?_)
          rintro e w4 ⟨rfl, C4, G4, S4⟩
          have B4 := B3.grown G4 (by omega) (fun k e => by simp at e; omega)
          have Z4 : b < w4.heap.size := by omega
          have Y4 : d < w4.heap.size := by omega
          have D4 := D3.kept G4 hdb
          clear S4 G4 B3 C3 D3
          have a2 := D4.a2
          go_wp2_with fail
          go_roundw
          case rel => exact ⟨k + 1, by omega, by go_num, ⟨xx, t + 1, m + 3, by omega, by omega, by omega, by rw [show ((m + 3 : Nat) : Int) = (m : Int) + 1 + 1 + 1 by omega]; exact C4⟩, B4, Z4⟩
          case measure => simp [intOf]; omega
        · have q1 : (kk == 1) = false := by simpa using hk1
          by_cases hk2 : kk = 2
          · have q2 : (kk == 2) = true := by simpa using hk2
            clear hk1 hk2
            go_wp2_with fail
            clear a0 a1 a2
            (with_reducible refine (swap_to xx C2 (by omega) (by omega)).mono ?_)
            rintro e w3 ⟨rfl, C3, G3, S3⟩
            have B3 := B2.grown G3 (by omega) (fun k e => by simp at e; omega)
            have Z3 : b < w3.heap.size := by omega
            have Y3 : d < w3.heap.size := by omega
            have D3 := D2.kept G3 hdb
            clear S3 G3 B2 C2 D2
            rw [HW.out] at C3
            go_wp2_with fail
            (with_reducible refine (load_to C3 (by omega) (by omega)).mono ?_)
            rintro e w4 ⟨rfl, C4, G4, S4⟩
            have B4 := B3.grown G4 (by omega) (fun k e => by simp at e; omega)
            have Z4 : b < w4.heap.size := by omega
            have Y4 : d < w4.heap.size := by omega
            have D4 := D3.kept G4 hdb
            clear S4 G4 B3 C3 D3
            have a2 := D4.a2
            go_wp2_with fail
            go_roundw
            case rel => exact ⟨k + 1, by omega, by go_num, ⟨xx, t + 1, m + 3, by omega, by omega, by omega, by rw [show ((m + 3 : Nat) : Int) = (m : Int) + 1 + 1 + 1 by omega]; exact C4⟩, B4, Z4⟩
            case measure => simp [intOf]; omega
          · have q2 : (kk == 2) = false := by simpa using hk2
            by_cases hk3 : kk = 3
            · have q3 : (kk == 3) = true := by simpa using hk3
              clear hk1 hk2 hk3
              by_cases htt : t = tt
              · subst htt
                go_wp2_with fail
                clear a0 a1 a2
                (with_reducible refine (cas_to_yes xx C2 (by omega) (by omega)).mono ?_)
                rintro e w3 ⟨rfl, C3, G3, S3⟩
                have B3 := B2.grown G3 (by omega) (fun k e => by simp at e; omega)
                have Z3 : b < w3.heap.size := by omega
                have Y3 : d < w3.heap.size := by omega
                have D3 := D2.kept G3 hdb
                clear S3 G3 B2 C2 D2
                rw [HW.out] at C3
                have a1 := D3.a1
                go_wp2_with fail
                clear a1
                (with_reducible refine (load_to C3 (by omega) (by omega)).mono ?_)
                rintro e w4 ⟨rfl, C4, G4, S4⟩
                have B4 := B3.grown G4 (by omega) (fun k e => by simp at e; omega)
                have Z4 : b < w4.heap.size := by omega
                have Y4 : d < w4.heap.size := by omega
                have D4 := D3.kept G4 hdb
                clear S4 G4 B3 C3 D3
                have a2 := D4.a2
                go_wp2_with fail
                go_roundw
                case rel => exact ⟨k + 1, by omega, by go_num, ⟨xx, t + 1, m + 3, by omega, by omega, by omega, by rw [show ((m + 3 : Nat) : Int) = (m : Int) + 1 + 1 + 1 by omega]; exact C4⟩, B4, Z4⟩
                case measure => simp [intOf]; omega
              · have qt : (tt == t) = false := by simp; omega
                go_wp2_with fail
                clear a0 a1 a2
                (with_reducible refine (cas_to_no xx C2 (by omega) (by omega) htt).mono ?_)
                rintro e w3 ⟨rfl, C3, G3, S3⟩
                have B3 := B2.grown G3 (by omega) (fun k e => by simp at e; omega)
                have Z3 : b < w3.heap.size := by omega
                have Y3 : d < w3.heap.size := by omega
                have D3 := D2.kept G3 hdb
                clear S3 G3 B2 C2 D2
                have a1 := D3.a1
                go_wp2_with fail
                clear a1
                (with_reducible refine (load_to C3 (by omega) (by omega)).mono ?_)
                rintro e w4 ⟨rfl, C4, G4, S4⟩
                have B4 := B3.grown G4 (by omega) (fun k e => by simp at e; omega)
                have Z4 : b < w4.heap.size := by omega
                have Y4 : d < w4.heap.size := by omega
                have D4 := D3.kept G4 hdb
                clear S4 G4 B3 C3 D3
                have a2 := D4.a2
                go_wp2_with fail
                go_roundw
                case rel => exact ⟨k + 1, by omega, by go_num, ⟨x, t, m + 3, by omega, by omega, by omega, by rw [show ((m + 3 : Nat) : Int) = (m : Int) + 1 + 1 + 1 by omega]; exact C4⟩, B4, Z4⟩
                case measure => simp [intOf]; omega
            · have q3 : (kk == 3) = false := by simpa using hk3
              clear hk1 hk2 hk3
              go_wp2_with fail
              clear a0 a1 a2
              (with_reducible refine (load_to C2 (by omega) (by omega)).mono ?_)
              rintro e w3 ⟨rfl, C3, G3, S3⟩
              have B3 := B2.grown G3 (by omega) (fun k e => by simp at e; omega)
              have Z3 : b < w3.heap.size := by omega
              have Y3 : d < w3.heap.size := by omega
              have D3 := D2.kept G3 hdb
              clear S3 G3 B2 C2 D2
              have a2 := D3.a2
              go_wp2_with fail
              go_roundw
              case rel => exact ⟨k + 1, by omega, by go_num, ⟨x, t, m + 2, by omega, by omega, by omega, by rw [show ((m + 2 : Nat) : Int) = (m : Int) + 1 + 1 by omega]; exact C3⟩, B3, Z3⟩
              case measure => simp [intOf]; omega
      · obtain rfl : k = n := by omega
        go_wp2_with fail
        go_ret
        exact ⟨rfl, B0⟩

section
variable {H : Type} {enc : TypeId × Value → H} {W : World} {base : Nat} {args : Array Value} {ds : List (DataW H)} {p : List MemPlace}

theorem cells_act08 : Try.prog.cellsOf 43 = 3 := by kernel_rfl
theorem choose3 {n : Nat} {p : Nat → Int → Int → Int → Prop} (h : ∀ i, i < n → ∃ x y z, p i x y z) : ∃ f g h : Nat → Int, ∀ i, i < n → p i (f i) (g i) (h i) := by
  obtain ⟨f, hf⟩ := Go.Deep.choose_lt (p := fun i (x : Int × Int × Int) => p i x.1 x.2.1 x.2.2) fun i hi => by
    obtain ⟨x, y, z, hp⟩ := h i hi
    exact ⟨(x, y, z), hp⟩
  exact ⟨fun i => (f i).1, fun i => (f i).2.1, fun i => (f i).2.2, hf⟩
set_option maxRecDepth 100000 in
theorem open_acts08 {v : Value} {d : DataW H} {ps : List MemPlace} (hv : Value.okWide Try.prog W .any base 38 v) (h : DataW.Trod enc Try.prog W 0 (fun _ => true) true 38 v d ps) (hlt : ∀ x ∈ ps, x.block < W.heap.size) :
    ∃ A n c K T X, v = .slice A n c ∧ n ≤ c ∧ c ≤ maxLen ∧ ActsAt W A n K T X := by
  obtain ⟨A, n, c, rfl, hn, hc, hi⟩ := arg_structs Try.underlying38 Try.underlying43 (by kernel_rfl) cells_act08 (by decide) hv h hlt
  have hx : ∀ i, i < n → ∃ x y z : Int, ∃ g off, A = some ⟨g, off, none⟩ ∧ g < W.heap.size ∧ W.cell? ⟨g, off + i * 3, none⟩ = some (.int .i64 x) ∧
      W.cell? ⟨g, off + i * 3 + 1, none⟩ = some (.int .u64 y) ∧ W.cell? ⟨g, off + i * 3 + 2, none⟩ = some (.int .u64 z) := fun i hin => by
    obtain ⟨b, off, hA, hb, hf⟩ := hi i hin
    obtain ⟨u0, y0, f0, c0, t0, _⟩ := hf 0 _ rfl
    obtain ⟨u1, y1, f1, c1, t1, _⟩ := hf 1 _ rfl
    obtain ⟨u2, y2, f2, c2, t2, _⟩ := hf 2 _ rfl
    obtain ⟨x, hx, _, _⟩ := DataW.trod_int Try.underlying3 t0
    obtain ⟨y, hy, _, _⟩ := DataW.trod_int Try.underlying22 t1
    obtain ⟨z, hz, _, _⟩ := DataW.trod_int Try.underlying22 t2
    simp at hx hy hz
    subst hx hy hz
    exact ⟨x, y, z, b, off, hA, hb, c0, c1, c2⟩
  obtain ⟨K, T, X, hk⟩ := choose3 hx
  exact ⟨A, n, c, K, T, X, rfl, hn, hc, hk⟩

set_option maxRecDepth 100000 in
theorem CellTags_run (hval : ∀ (j : Nat) t v, #[38][j]? = some t → args[j]? = some v → Value.okWide Try.prog W .any base t v)
    (hA : DataW.TrodAll enc Try.prog W 0 (fun _ => true) true [38] args.toList ds p) (hlt : ∀ x ∈ p, x.block < W.heap.size) :
    Calls Try.prog 6 args W (TrueBelow W) := by
  obtain ⟨v0, d0, rfl, rfl, h0⟩ := trodAll_one hA
  obtain ⟨A, n, c, K, T, X, rfl, hn, hc, hf⟩ := open_acts08 (hval 0 38 v0 rfl rfl) h0 hlt
  exact tags_walk W A n c K T X hn hc hf
end
end Go.Proofs.Ytpddlnedaleblaa
