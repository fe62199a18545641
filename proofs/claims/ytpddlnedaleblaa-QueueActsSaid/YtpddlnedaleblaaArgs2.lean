/- Arguments that are slices of structs with slices in them, with the reach: each slice's weight is bounded. -/
import Derived.Test.YtpddlnedaleblaaArgs
import Derived.SizedLaws
namespace Go.Proofs.Ytpddlnedaleblaa
open Go.ChangeShapes Go.WideShapes Go.Deep Go.RowKit

section
variable {H : Type} {enc : TypeId × Value → H} {P : Program} {W : World} {held : Bool}

theorem weights_all_mem {e : TypeId} : ∀ {l : List (DataW H)} {d : DataW H}, d ∈ l → ∀ m ∈ d.weights P e, m ∈ DataW.weightsAll P e l
  | x :: l, d, hd, m, hm => by
    rw [DataW.weightsAll]
    rcases List.mem_cons.1 hd with rfl | h
    · exact List.mem_append.2 (.inl hm)
    · exact List.mem_append.2 (.inr (weights_all_mem h m hm))

/-- What the reach says of one argument: each weight in it is within the bound. -/
def Weighs (P : Program) (t : TypeId) (d : DataW H) : Prop := ∀ m ∈ d.weights P t, m ≤ reachBytes

theorem weighs_of {ts : List TypeId} {ds : List (DataW H)} (h : (DataW.weightsEach P ts ds).all (· ≤ reachBytes) = true) {j : Nat} {t : TypeId} {d : DataW H} (ht : ts[j]? = some t) (hd : ds[j]? = some d) : Weighs P t d := fun m hm => by
  have := List.all_eq_true.1 h m (DataW.weights_mem_each ht hd m hm)
  simpa using this

/-- A slice's header from what it reads. -/
theorem trod_slice1 {t e : TypeId} {u : Value} {y : DataW H × List MemPlace} {N fuel : Nat} (ht : P.underlying t = some (.slice e)) (hc : P.cellsOf e = 1)
    (h : DataW.trod enc P W 0 (fun _ => true) held fuel t [u] = some y) (hlt : ∀ x ∈ y.2, x.block < N) (hw : Weighs P t y.1) (hb : 0 < P.bytesOf e) :
    ∃ (A : Option Addr) (n c : Nat) (V : Nat → Value), u = .slice A n c ∧ n ≤ c ∧ c ≤ maxLen ∧ n ≤ reachBytes ∧
      ∀ i, i < n → ∃ b off fuel y, A = some ⟨b, off, none⟩ ∧ b < N ∧ W.cell? ⟨b, off + i, none⟩ = some (V i) ∧ DataW.trod enc P W 0 (fun _ => true) held fuel e [V i] = some y := by
  rcases open_slice1 ht hc h with ⟨hcs, hx⟩ | ⟨a, len', cap', m, n, V, D, Pl, hcs, _, hl, hm, hmm, hx, hi⟩
  · simp at hcs
    subst hcs
    exact ⟨none, 0, 0, fun _ => .int .i64 0, rfl, Nat.le_refl _, Nat.zero_le _, Nat.zero_le _, fun i h => by omega⟩
  · simp at hcs
    subst hcs
    subst hx
    refine ⟨some a, len', cap', V, rfl, hl, hm, ?_, fun i hin => ?_⟩
    · have h1 := hw ((((List.range len').map D).length + ((List.range (m - len')).map fun j => D (len' + j)).length) * P.bytesOf e) (by simp [DataW.weights, ht])
      refine Nat.le_trans ?_ h1
      simp only [List.length_map, List.length_range]
      exact Nat.le_trans (Nat.le_add_right _ _) (Nat.le_mul_of_pos_right _ hb)
    simp only [if_true] at hmm
    obtain ⟨b, off, rfl⟩ := cell_head (hi 0 (by omega)).1
    obtain ⟨hcell, htr⟩ := hi i (by omega)
    refine ⟨b, off, n, _, rfl, ?_, cell_plain hcell, htr⟩
    exact hlt (.cell b off) (List.mem_append.2 (.inl (mem_row_head (a := ⟨b, off, none⟩) (by omega))))

theorem trod_ints {t e : TypeId} {k : IntKind} {u : Value} {y : DataW H × List MemPlace} {N fuel : Nat} (ht : P.underlying t = some (.slice e)) (he : P.underlying e = some (.int k)) (hc : P.cellsOf e = 1)
    (h : DataW.trod enc P W 0 (fun _ => true) held fuel t [u] = some y) (hlt : ∀ x ∈ y.2, x.block < N) (hw : Weighs P t y.1) (hb : 0 < P.bytesOf e) :
    ∃ (A : Option Addr) (n c : Nat) (f : Nat → Int), u = .slice A n c ∧ n ≤ c ∧ c ≤ maxLen ∧ n ≤ reachBytes ∧
      ∀ i, i < n → ∃ b off, A = some ⟨b, off, none⟩ ∧ b < N ∧ W.cell? ⟨b, off + i, none⟩ = some (.int k (f i)) ∧ (Lit.int k (f i)).wf = true := by
  obtain ⟨A, n, c, V, rfl, h1, h2, h3, hi⟩ := trod_slice1 ht hc h hlt hw hb
  have hf : ∀ i, i < n → ∃ x : Int, V i = .int k x ∧ (Lit.int k x).wf = true := fun i hin => by
    obtain ⟨b, off, fuel, y, _, _, _, htr⟩ := hi i hin
    obtain ⟨x, hx, _, hw⟩ := DataW.trod_int he htr
    simp at hx
    exact ⟨x, hx, hw⟩
  obtain ⟨f, hf⟩ := choose_lt hf
  refine ⟨A, n, c, f, rfl, h1, h2, h3, fun i hin => ?_⟩
  obtain ⟨b, off, fuel, y, hA, hb, hcell, _⟩ := hi i hin
  obtain ⟨e1, e2⟩ := hf i hin
  exact ⟨b, off, hA, hb, by rw [hcell, e1], e2⟩

/-- A slice of structs of one-cell fields: each field's cell, that it reads, and that it weighs within the reach. -/
theorem arg_structs_sized {t e : TypeId} {fs : Array Field} {v : Value} {d : DataW H} {ps : List MemPlace} {N : Nat} {B : Nat} {r : Reach} (ht : P.underlying t = some (.slice e)) (he : P.underlying e = some (.struct fs))
    (hone : oneCellFields P fs = true) (hC : P.cellsOf e = fs.size) (h0 : 0 < fs.size)
    (hv : Value.okWide P W r B t v) (h : DataW.Trod enc P W 0 (fun _ => true) held t v d ps) (hlt : ∀ x ∈ ps, x.block < N) (hw : Weighs P t d) :
    ∃ (A : Option Addr) (n c : Nat), v = .slice A n c ∧ n ≤ c ∧ c ≤ maxLen ∧
      ∀ i, i < n → ∃ b off, A = some ⟨b, off, none⟩ ∧ b < N ∧
        ∀ (j : Nat) (f : Field), fs[j]? = some f → ∃ (u : Value) (y : DataW H × List MemPlace) (fuel : Nat), W.cell? ⟨b, off + (i * fs.size + j), none⟩ = some u ∧
          DataW.trod enc P W 0 (fun _ => true) held fuel f.type [u] = some y ∧ (∀ x ∈ y.2, x.block < N) ∧ Weighs P f.type y.1 := by
  obtain ⟨a0, len, cap, rfl⟩ := okWide_slice ht hv
  obtain ⟨fuel, hf⟩ := h
  rcases open_slice ht hf with ⟨hcs, hx⟩ | ⟨a, len', cap', m, n, D, Pl, hcs, _, hl, hm, hmm, hx, hi⟩
  · simp [Value.cells] at hcs
    obtain ⟨rfl, rfl, rfl⟩ := hcs
    exact ⟨none, 0, 0, rfl, Nat.le_refl _, Nat.zero_le _, fun i h => by omega⟩
  · simp [Value.cells] at hcs
    obtain ⟨rfl, rfl, rfl⟩ := hcs
    simp only [Prod.mk.injEq] at hx
    obtain ⟨rfl, hx⟩ := hx
    refine ⟨some a, len, cap, rfl, hl, hm, fun i hin => ?_⟩
    simp only [if_true] at hmm
    rw [hC] at hi hx
    obtain ⟨cs', hc, ht'⟩ := hi i (by omega)
    obtain ⟨ys, n', hn', hy, hlen, hyl, hfld⟩ := DataW.trod_struct he ht'
    obtain ⟨_, hcl, hat⟩ := World.cells?_some hc
    simp only [Prod.mk.injEq] at hy
    have hsp : ∃ b off, a = ⟨b, off, none⟩ := by
      obtain ⟨cs0, hc0, _⟩ := hi 0 (by omega)
      obtain ⟨_, hcl0, hat0⟩ := World.cells?_some hc0
      have h00 := hat0 0 h0
      have hv0 : cs0[0]? = some (cs0[0]'(by omega)) := List.getElem?_eq_getElem (by omega)
      rw [hv0, Go.Deep.add_add] at h00
      simp only [Nat.zero_mul, Nat.add_zero] at h00
      exact cell_head h00
    obtain ⟨b, off, rfl⟩ := hsp
    refine ⟨b, off, rfl, ?_, ?_⟩
    · refine hlt (.cell b off) (by rw [hx]; exact List.mem_append.2 (.inl (mem_row_head (a := ⟨b, off, none⟩) (Nat.mul_pos (by omega) h0))))
    · intro j f hj
      obtain ⟨ho, hk⟩ := hone_of hone j f hj
      have hjl : j < fs.size := (Array.getElem?_eq_some_iff.1 hj).1
      have hcell := hat j hjl
      have hv1 : cs'[j]? = some (cs'[j]'(by omega)) := List.getElem?_eq_getElem (by omega)
      have h1 := hfld j f hj
      rw [ho, hk] at h1
      have hone' : (cs'.drop j).take 1 = [cs'[j]'(by omega)] := by
        rw [List.drop_eq_getElem_cons (by omega)]
        rfl
      rw [hone'] at h1
      have hys : ys[j]? = some (ys[j]'(by omega)) := List.getElem?_eq_getElem (by omega)
      rw [hv1, Go.Deep.add_add] at hcell
      refine ⟨_, ys[j]'(by omega), n', cell_plain hcell, h1.trans hys, fun x hx' => ?_, fun m hm => ?_⟩
      · refine hlt x ?_
        rw [hx]
        refine List.mem_append.2 (.inr (List.mem_flatMap.2 ⟨i, List.mem_range.2 (by omega), ?_⟩))
        rw [hy.2]
        exact List.mem_flatMap.2 ⟨ys[j]'(by omega), List.getElem_mem _, hx'⟩
      · refine hw m ?_
        rw [DataW.weights]
        simp only [ht]
        refine List.mem_cons.2 (.inr (List.mem_append.2 (.inl (weights_all_mem (d := D i) (List.mem_map.2 ⟨i, List.mem_range.2 hin, rfl⟩) m ?_))))
        rw [hy.1, DataW.weights]
        simp only [he]
        exact DataW.weights_mem_each (j := j) (by simp [hj]) (by simp [hys]) m hm
end
end Go.Proofs.Ytpddlnedaleblaa
