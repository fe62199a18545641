/- The acts of layer 11: opened, and weighed. -/
import Derived.Test.YtpddlnedaleblaaQueueAlive
import Derived.Test.YtpddlnedaleblaaArgs2
namespace Go.Proofs.Ytpddlnedaleblaa
open Go.ChangeShapes Go.WideShapes Go.Deep Go.RowKit

/-- A row of numbers that was handed in. -/
structure Row0 (W : World) (A : Option Addr) (n : Nat) (l : List Int) : Prop where
  row : IntRow W W.heap.size A n l
  at_ : ∀ ad, 0 < n → A = some ad → ad.spot = none ∧ ad.block < W.heap.size

theorem Row0.arg {W w : World} {A : Option Addr} {n : Nat} {l : List Int} {b : Nat} {R F : List Int} {g1 g2 : Option Nat} (h : Row0 W A n l) (H : QSt W w b R F g1 g2) : Arg w b g1 g2 A n l :=
  ⟨(IntRow.under h.row H.below).more H.below.size, fun ad h0 e => ⟨(h.at_ ad h0 e).1, H.old (h.at_ ad h0 e).2⟩⟩

theorem Row0.of_cells {W : World} {A : Option Addr} {n : Nat} {f : Nat → Int} (h : ∀ i, i < n → ∃ b off, A = some ⟨b, off, none⟩ ∧ b < W.heap.size ∧ W.cell? ⟨b, off + i, none⟩ = some (.int .i64 (f i))) : Row0 W A n ((List.range n).map f) := by
  refine ⟨⟨by simp, fun hn => ?_⟩, fun ad h0 e => ?_⟩
  · obtain ⟨b, off, rfl, hb, _⟩ := h 0 hn
    refine ⟨⟨b, off, none⟩, rfl, hb, fun j u hu => ?_⟩
    have hj : j < n := by
      by_cases hj : j < n
      · exact hj
      · rw [List.getElem?_eq_none (by simp; omega)] at hu
        cases hu
    obtain ⟨b', off', e, _, hc⟩ := h j hj
    injection e with e
    obtain ⟨rfl, rfl⟩ : b = b' ∧ off = off' := by simpa using e
    have e2 : (⟨b, off, none⟩ : Addr).add j = ⟨b, off + j, none⟩ := by
      unfold Addr.add
      split
      · rename_i h; simp [h]
      · rfl
    rw [e2, hc]
    simp [hj] at hu
    simp [← hu]
  · obtain ⟨b, off, e', hb, _⟩ := h 0 h0
    rw [e] at e'
    injection e' with e'
    subst e'
    exact ⟨rfl, hb⟩

/-- An act: its kind, its number, its row. -/
structure A11 where
  k : Int
  x : Int
  A : Option Addr
  n : Nat
  c : Nat
  l : List Int
instance : Inhabited A11 := ⟨⟨0, 0, none, 0, 0, []⟩⟩

def Acts11 (W : World) (A : Option Addr) (n : Nat) (f : Nat → A11) : Prop :=
  ∀ i, i < n → ∃ g off, A = some ⟨g, off, none⟩ ∧ g < W.heap.size ∧ W.cell? ⟨g, off + i * 3, none⟩ = some (.int .i64 (f i).k) ∧ W.cell? ⟨g, off + i * 3 + 1, none⟩ = some (.int .i64 (f i).x) ∧
    W.cell? ⟨g, off + i * 3 + 2, none⟩ = some (.slice (f i).A (f i).n (f i).c) ∧ Row0 W (f i).A (f i).n (f i).l ∧ (f i).n ≤ 17592186044416

theorem cells_act11 : Try.prog.cellsOf 59 = 3 := by kernel_rfl
theorem bytes_int : Try.prog.bytesOf 3 = 8 := by kernel_rfl

section
variable {H : Type} {enc : TypeId × Value → H} {W : World} {base : Nat}

theorem trod_row {u : Value} {y : DataW H × List MemPlace} {fuel : Nat} 
    (h : DataW.trod enc Try.prog W 0 (fun _ => true) true fuel 51 [u] = some y) (hlt : ∀ x ∈ y.2, x.block < W.heap.size) (hw : Weighs Try.prog 51 y.1) :
    ∃ (A : Option Addr) (n c : Nat) (l : List Int), u = .slice A n c ∧ n ≤ 17592186044416 ∧ Row0 W A n l := by
  rcases open_slice1 Try.underlying51 cells_int h with ⟨hcs, hx⟩ | ⟨a, n, c, m, fu, V, D, Pl, hcs, _, hl, hm, hmm, hx, hi⟩
  · simp at hcs
    subst hcs
    exact ⟨none, 0, 0, [], rfl, by omega, ⟨Reads.none_, fun _ h => by omega⟩⟩
  · simp at hcs
    subst hcs
    obtain ⟨A, n', c', f, e, h1, h2, _, hf⟩ := trod_ints Try.underlying51 Try.underlying3 cells_int h hlt hw (by rw [bytes_int]; omega)
    simp at e
    obtain ⟨rfl, rfl, rfl⟩ := e
    refine ⟨some a, n, c, _, rfl, ?_, Row0.of_cells (f := f) fun i hin => ?_⟩
    · subst hx
      have h1 := hw ((((List.range n).map D).length + ((List.range (m - n)).map fun j => D (n + j)).length) * Try.prog.bytesOf 3) (by
        rw [DataW.weights]
        simp only [Try.underlying51]
        exact List.mem_cons.2 (.inl rfl))
      rw [bytes_int] at h1
      simp only [List.length_map, List.length_range, reachBytes] at h1
      omega
    · obtain ⟨b, off, e1, e2, e3, _⟩ := hf i hin
      exact ⟨b, off, e1, e2, e3⟩

set_option maxRecDepth 100000 in
theorem open_acts11 {v : Value} {d : DataW H} {ps : List MemPlace} (hv : Value.okWide Try.prog W .any base 49 v) (h : DataW.Trod enc Try.prog W 0 (fun _ => true) true 49 v d ps) (hlt : ∀ x ∈ ps, x.block < W.heap.size)
    (hw : Weighs Try.prog 49 d) :
    ∃ A n c f, v = .slice A n c ∧ n ≤ c ∧ c ≤ maxLen ∧ Acts11 W A n f := by
  obtain ⟨A, n, c, rfl, hn, hc, hi⟩ := arg_structs_sized Try.underlying49 Try.underlying59 (by kernel_rfl) cells_act11 (by decide) hv h hlt hw
  have hx : ∀ i, i < n → ∃ a : A11, ∃ g off, A = some ⟨g, off, none⟩ ∧ g < W.heap.size ∧ W.cell? ⟨g, off + i * 3, none⟩ = some (.int .i64 a.k) ∧ W.cell? ⟨g, off + i * 3 + 1, none⟩ = some (.int .i64 a.x) ∧
    W.cell? ⟨g, off + i * 3 + 2, none⟩ = some (.slice a.A a.n a.c) ∧ Row0 W a.A a.n a.l ∧ a.n ≤ 17592186044416 := fun i hin => by
    obtain ⟨b, off, hA, hb, hf⟩ := hi i hin
    obtain ⟨u0, y0, f0, c0, t0, _⟩ := hf 0 _ rfl
    obtain ⟨u1, y1, f1, c1, t1, _⟩ := hf 1 _ rfl
    obtain ⟨u2, y2, f2, c2, t2, p2, w2⟩ := hf 2 _ rfl
    obtain ⟨x, hx, _, _⟩ := DataW.trod_int Try.underlying3 t0
    obtain ⟨y, hy, _, _⟩ := DataW.trod_int Try.underlying3 t1
    obtain ⟨A', n', c', l', rfl, hn', hr⟩ := trod_row t2 p2 w2
    simp at hx hy
    subst hx hy
    exact ⟨⟨x, y, A', n', c', l'⟩, b, off, hA, hb, c0, c1, c2, hr, hn'⟩
  obtain ⟨f, hk⟩ := choose_lt hx
  exact ⟨A, n, c, f, rfl, hn, hc, hk⟩
end

end Go.Proofs.Ytpddlnedaleblaa
