/- The acts of layer 11, opened: and that their numbers are within int's bounds. -/
import Derived.Test.YtpddlnedaleblaaGreat
import Derived.Test.YtpddlnedaleblaaQueueN
namespace Go.Proofs.Ytpddlnedaleblaa
open Go.ChangeShapes Go.WideShapes Go.Deep Go.RowKit

def Wf (y : Int) : Prop := (Lit.int .i64 y).wf = true
def ActsWf (n : Nat) (f : Nat → A11) : Prop := ∀ i, i < n → Wf (f i).x ∧ ∀ y ∈ (f i).l, Wf y

/-- All numbers of both rows are so. -/
def QWf (R F : List Int) : Prop := ∀ y, y ∈ R ∨ y ∈ F → Wf y

theorem QWf.nil : QWf [] [] := fun y h => by simp at h

def Draws (S : List Int → List Int → Int → Int × List Int × List Int) : Prop := ∀ R F x y, y ∈ (S R F x).2.1 ∨ y ∈ (S R F x).2.2 → y ∈ R ∨ y ∈ F ∨ y = x

theorem draws_push : Draws pushS := fun R F x y h => by
  unfold pushS at h
  split at h <;> simp at h <;> (rcases h with h | h <;> simp_all)
  all_goals (rcases h with h | h <;> simp_all)
theorem draws_fill : Draws fillS := fun R F x y h => by
  unfold fillS at h
  split at h
  · rcases h with h | h
    · exact .inl (List.mem_of_mem_erase h)
    · rcases List.mem_append.1 h with h | h
      · exact .inr (.inl h)
      · exact .inr (.inr (by simpa using h))
  · rcases h with h | h
    · exact .inl h
    · exact .inr (.inl h)
theorem draws_wake : Draws wakeS := fun R F x y h => by
  unfold wakeS at h
  split at h
  · rcases h with h | h
    · rcases List.mem_append.1 h with h | h
      · exact .inl h
      · exact .inr (.inr (by simpa using h))
    · exact .inr (.inl (List.mem_of_mem_erase h))
  · rcases h with h | h
    · exact .inl h
    · exact .inr (.inl h)
theorem draws_remove : Draws removeS := fun R F x y h => by
  unfold removeS at h
  split at h
  · rcases h with h | h
    · exact .inl (List.mem_of_mem_erase h)
    · exact .inr (.inl h)
  · split at h
    · rcases h with h | h
      · exact .inl h
      · exact .inr (.inl (List.mem_of_mem_erase h))
    · rcases h with h | h
      · exact .inl h
      · exact .inr (.inl h)

theorem QWf.step {S : List Int → List Int → Int → Int × List Int × List Int} (hS : Draws S) {R F : List Int} {x : Int} (h : QWf R F) (hx : Wf x) : QWf (S R F x).2.1 (S R F x).2.2 := fun y hy => by
  rcases hS R F x y hy with h1 | h1 | rfl
  · exact h y (.inl h1)
  · exact h y (.inr h1)
  · exact hx
theorem QWf.steps {S : List Int → List Int → Int → Int × List Int × List Int} (hS : Draws S) : ∀ (l R F : List Int), QWf R F → (∀ y ∈ l, Wf y) → QWf (eachS S l R F).2.1 (eachS S l R F).2.2
  | [], R, F, h, _ => h
  | x :: l, R, F, h, hl => by
    by_cases h0 : (S R F x).1 = 0
    · rw [eachS_go h0]; exact QWf.steps hS l _ _ (h.step hS (hl x (by simp))) (fun y hy => hl y (by simp [hy]))
    · rw [eachS_stop h0]; exact h.step hS (hl x (by simp))

section
variable {H : Type} {enc : TypeId × Value → H} {W : World} {base : Nat}

theorem trod_rowW {u : Value} {y : DataW H × List MemPlace} {fuel : Nat} 
    (h : DataW.trod enc Try.prog W 0 (fun _ => true) true fuel 51 [u] = some y) (hlt : ∀ x ∈ y.2, x.block < W.heap.size) (hw : Weighs Try.prog 51 y.1) :
    ∃ (A : Option Addr) (n c : Nat) (l : List Int), u = .slice A n c ∧ n ≤ 17592186044416 ∧ Row0 W A n l ∧ ∀ y ∈ l, Wf y := by
  rcases open_slice1 Try.underlying51 cells_int h with ⟨hcs, hx⟩ | ⟨a, n, c, m, fu, V, D, Pl, hcs, _, hl, hm, hmm, hx, hi⟩
  · simp at hcs
    subst hcs
    exact ⟨none, 0, 0, [], rfl, by omega, ⟨Reads.none_, fun _ h => by omega⟩, fun _ h => by simp at h⟩
  · simp at hcs
    subst hcs
    obtain ⟨A, n', c', f, e, h1, h2, _, hf⟩ := trod_ints Try.underlying51 Try.underlying3 cells_int h hlt hw (by rw [bytes_int]; omega)
    simp at e
    obtain ⟨rfl, rfl, rfl⟩ := e
    refine ⟨some a, n, c, _, rfl, ?_, Row0.of_cells (f := f) fun i hin => ?_, fun y hy => ?_⟩
    · subst hx
      have h1 := hw ((((List.range n).map D).length + ((List.range (m - n)).map fun j => D (n + j)).length) * Try.prog.bytesOf 3) (by
        rw [DataW.weights]
        simp only [Try.underlying51]
        exact List.mem_cons.2 (.inl rfl))
      rw [bytes_int] at h1
      simp only [List.length_map, List.length_range, reachBytes] at h1
      omega
    · obtain ⟨b, off, e1, e2, e3, _⟩ := hf i hin
      exact ⟨b, off, e1, e2, e3⟩
    · obtain ⟨i, hi, rfl⟩ := List.mem_map.1 hy
      obtain ⟨_, _, _, _, _, e4⟩ := hf i (List.mem_range.1 hi)
      exact e4

set_option maxRecDepth 100000 in
theorem open_acts11W {v : Value} {d : DataW H} {ps : List MemPlace} (hv : Value.okWide Try.prog W .any base 49 v) (h : DataW.Trod enc Try.prog W 0 (fun _ => true) true 49 v d ps) (hlt : ∀ x ∈ ps, x.block < W.heap.size)
    (hw : Weighs Try.prog 49 d) :
    ∃ A n c f, v = .slice A n c ∧ n ≤ c ∧ c ≤ maxLen ∧ Acts11 W A n f ∧ ActsWf n f := by
  obtain ⟨A, n, c, rfl, hn, hc, hi⟩ := arg_structs_sized Try.underlying49 Try.underlying59 (by kernel_rfl) cells_act11 (by decide) hv h hlt hw
  have hx : ∀ i, i < n → ∃ a : A11, (∃ g off, A = some ⟨g, off, none⟩ ∧ g < W.heap.size ∧ W.cell? ⟨g, off + i * 3, none⟩ = some (.int .i64 a.k) ∧ W.cell? ⟨g, off + i * 3 + 1, none⟩ = some (.int .i64 a.x) ∧
    W.cell? ⟨g, off + i * 3 + 2, none⟩ = some (.slice a.A a.n a.c) ∧ Row0 W a.A a.n a.l ∧ a.n ≤ 17592186044416) ∧ Wf a.x ∧ ∀ y ∈ a.l, Wf y := fun i hin => by
    obtain ⟨b, off, hA, hb, hf⟩ := hi i hin
    obtain ⟨u0, y0, f0, c0, t0, _⟩ := hf 0 _ rfl
    obtain ⟨u1, y1, f1, c1, t1, _⟩ := hf 1 _ rfl
    obtain ⟨u2, y2, f2, c2, t2, p2, w2⟩ := hf 2 _ rfl
    obtain ⟨x, hx, _, _⟩ := DataW.trod_int Try.underlying3 t0
    obtain ⟨y, hy, _, wy⟩ := DataW.trod_int Try.underlying3 t1
    obtain ⟨A', n', c', l', rfl, hn', hr, hwl⟩ := trod_rowW t2 p2 w2
    simp at hx hy
    subst hx hy
    exact ⟨⟨x, y, A', n', c', l'⟩, ⟨b, off, hA, hb, c0, c1, c2, hr, hn'⟩, wy, hwl⟩
  obtain ⟨f, hk⟩ := choose_lt hx
  exact ⟨A, n, c, f, rfl, hn, hc, fun i hi => (hk i hi).1, fun i hi => (hk i hi).2⟩
end

end Go.Proofs.Ytpddlnedaleblaa
