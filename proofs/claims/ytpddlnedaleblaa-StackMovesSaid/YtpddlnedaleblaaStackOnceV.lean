/- Pushes and pops in any turns: each place is popped once, or there: plainly. -/
import Derived.Test.YtpddlnedaleblaaStackRow
namespace Go.Proofs.Ytpddlnedaleblaa

/-- What a pop that is over has. -/
def popOf (i : Int) (v : Mv) : Bool := v.pop && (v.over && decide (v.place = i))

structure OnceOk (n : Nat) (vs : List Mv) (s : Stk) : Prop where
  push : ∀ i, i < n → ∃ v, vs[i]? = some v ∧ v.pop = false ∧ v.place = i
  pop : ∀ i v, n ≤ i → vs[i]? = some v → v.pop = true ∧ -1 ≤ v.place ∧ v.place < n ∧ (v.over = false → v.place = -1)
  bd : ∀ p ∈ s.L, 0 ≤ p ∧ p < n
  cnt : ∀ i : Nat, i < n → ∀ v, vs[i]? = some v → s.L.count (i : Int) + vs.countP (popOf i) = if v.over then 1 else 0

theorem countP_set_eq {α : Type} (p : α → Bool) : ∀ (l : List α) (j : Nat) (x y : α), l[j]? = some x → (l.set j y).countP p + (if p x then 1 else 0) = l.countP p + (if p y then 1 else 0)
  | [], j, x, y, h => by simp at h
  | a :: l, 0, x, y, h => by
    simp at h
    subst h
    simp only [List.set_cons_zero, List.countP_cons]
    omega
  | a :: l, j + 1, x, y, h => by
    have ih := countP_set_eq p l j x y (by simpa using h)
    simp only [List.set_cons_succ, List.countP_cons]
    omega

theorem count_tail {x : Int} {r : List Int} (i : Int) : (x :: r).count i = r.count i + (if x = i then 1 else 0) := by
  rw [List.count_cons]
  simp

theorem OnceOk.step {n : Nat} {vs : List Mv} {s : Stk} (h : OnceOk n vs s) (hok : ∀ v ∈ vs, MvOk v s) {j : Nat} {v : Mv} (hj : vs[j]? = some v) :
    OnceOk n (vs.set j (stepV v s).2.1) (stepV v s).2.2 := by
  have hlt : j < vs.length := by
    by_cases h : j < vs.length
    · exact h
    · rw [List.getElem?_eq_none (by omega)] at hj; cases hj
  have hv := hok v (List.mem_of_getElem? hj)
  -- a step that turns neither place, nor over, nor who is in it
  have same : ∀ (u : Mv) (s' : Stk), u.pop = v.pop → u.place = v.place → u.over = v.over → s'.L = s.L → OnceOk n (vs.set j u) s' := fun u s' e1 e2 e3 e4 => by
    have hpo : ∀ i, popOf i u = popOf i v := fun i => by simp [popOf, e1, e2, e3]
    refine ⟨fun i hi => ?_, fun i x hi hx => ?_, fun p hp => h.bd p (e4 ▸ hp), fun i hi x hx => ?_⟩
    · by_cases e : i = j
      · subst e
        obtain ⟨x, hx, hx1, hx2⟩ := h.push i hi
        rw [hj] at hx
        injection hx with hx
        subst hx
        exact ⟨u, by simp [hlt], by rw [e1, hx1], by rw [e2, hx2]⟩
      · rw [List.getElem?_set_ne (Ne.symm e)]
        exact h.push i hi
    · by_cases e : i = j
      · subst e
        simp [hlt] at hx
        subst hx
        have := h.pop i v hi hj
        rw [e1, e2, e3]
        exact this
      · rw [List.getElem?_set_ne (Ne.symm e)] at hx
        exact h.pop i x hi hx
    · have hc := countP_set_eq (popOf i) vs j v u hj
      rw [hpo] at hc
      have hc' : (vs.set j u).countP (popOf i) = vs.countP (popOf i) := by omega
      rw [hc', e4]
      by_cases e : i = j
      · subst e
        simp [hlt] at hx
        subst hx
        rw [e3]
        exact h.cnt i hi v hj
      · rw [List.getElem?_set_ne (Ne.symm e)] at hx
        exact h.cnt i hi x hx
  unfold stepV
  cases ho : v.over with
  | true =>
    simp only [if_true]
    exact same v s rfl rfl rfl rfl
  | false =>
    simp only [Bool.false_eq_true, if_false]
    by_cases hl : v.looked = false
    · rw [if_pos hl]
      simp only
      cases hp : v.pop with
      | false =>
        exact same _ _ (by simp [hp]) rfl (by simp [ho]) rfl
      | true =>
        by_cases hn : hd s.L = -1
        · -- a pop of nothing
          have hnil : s.L = [] := by
            cases hL : s.L with
            | nil => rfl
            | cons x r =>
              rw [hL] at hn
              have := h.bd x (by rw [hL]; simp)
              simp [hd] at hn
              omega
          have hjn : n ≤ j := by
            by_cases hjn : n ≤ j
            · exact hjn
            · obtain ⟨x, hx, hx1, _⟩ := h.push j (by omega)
              rw [hj] at hx
              injection hx with hx
              subst hx
              rw [hp] at hx1
              cases hx1
          have hpl := (h.pop j v hjn hj).2.2.2 ho
          simp only [hn, decide_true, Bool.and_true]
          refine ⟨fun i hi => ?_, fun i x hi hx => ?_, h.bd, fun i hi x hx => ?_⟩
          · rw [List.getElem?_set_ne (by omega)]
            exact h.push i hi
          · by_cases e : i = j
            · subst e
              simp [hlt] at hx
              subst hx
              have := h.pop i v hi hj
              exact ⟨hp ▸ rfl, this.2.1, this.2.2.1, fun e => by simp at e⟩
            · rw [List.getElem?_set_ne (Ne.symm e)] at hx
              exact h.pop i x hi hx
          · rw [List.getElem?_set_ne (by omega)] at hx
            have hc := countP_set_eq (popOf i) vs j v ⟨v.place, -1, s.t, true, true, true⟩ hj
            have h1 : popOf i v = false := by simp [popOf, ho]
            have h2 : popOf i ⟨v.place, -1, s.t, true, true, true⟩ = false := by simp [popOf, hpl]
            rw [h1, h2] at hc
            have := h.cnt i hi x hx
            simp at hc
            rw [hc]
            exact this
        · exact same _ _ (by simp [hp]) rfl (by simp [ho, hn]) rfl
    · rw [if_neg hl]
      have hl' : v.looked = true := by simpa using hl
      cases hp : v.pop with
      | true =>
        simp only [if_true]
        by_cases ht : s.t ≠ v.tag
        · rw [if_pos ht]
          exact same _ _ (by simp [hp]) rfl (by simp [ho]) rfl
        · rw [if_neg ht]
          have hsn := hv.top hl' (Decidable.not_not.1 ht).symm
          have hne := hv.some_ hl' ho hp
          have hjn : n ≤ j := by
            by_cases hjn : n ≤ j
            · exact hjn
            · obtain ⟨x, hx, hx1, _⟩ := h.push j (by omega)
              rw [hj] at hx
              injection hx with hx
              subst hx
              rw [hp] at hx1
              cases hx1
          cases hL : s.L with
          | nil => rw [hL] at hsn; exact absurd hsn hne
          | cons x r =>
            rw [hL] at hsn
            simp only [hd] at hsn
            have hb := h.bd
            rw [hL] at hb
            have hx0 := hb x (by simp)
            simp only [List.tail_cons]
            refine ⟨fun i hi => ?_, fun i y hi hy => ?_, fun p hp => hb p (by simp [hp]), fun i hi y hy => ?_⟩
            · rw [List.getElem?_set_ne (by omega)]
              exact h.push i hi
            · by_cases e : i = j
              · subst e
                simp [hlt] at hy
                subst hy
                exact ⟨rfl, by simp only; omega, by simp only; omega, fun e => by cases e⟩
              · rw [List.getElem?_set_ne (Ne.symm e)] at hy
                exact h.pop i y hi hy
            · rw [List.getElem?_set_ne (by omega)] at hy
              have hc := countP_set_eq (popOf i) vs j v ⟨v.seen, v.seen, v.tag, true, false, true⟩ hj
              have h1 : popOf i v = false := by simp [popOf, ho]
              have h2 : popOf i ⟨v.seen, v.seen, v.tag, true, false, true⟩ = decide (x = (i : Int)) := by simp [popOf, hsn]
              rw [h1, h2] at hc
              have h3 := h.cnt i hi y hy
              rw [hL, count_tail] at h3
              simp only [Bool.false_eq_true, if_false, Nat.add_zero, decide_eq_true_eq] at hc
              simp only
              omega
      | false =>
        simp only [Bool.false_eq_true, if_false]
        have hjn : j < n := by
          by_cases hjn : j < n
          · exact hjn
          · have := (h.pop j v (by omega) hj).1
            rw [hp] at this
            cases this
        have hpl : v.place = j := by
          obtain ⟨x, hx, _, hx2⟩ := h.push j hjn
          rw [hj] at hx
          injection hx with hx
          subst hx
          exact hx2
        have hcj := h.cnt j hjn v hj
        rw [ho] at hcj
        simp only [Bool.false_eq_true, if_false] at hcj
        have hni : v.place ∉ s.L := by
          rw [hpl]
          intro hm
          have := List.count_pos_iff.2 hm
          omega
        rw [if_neg hni]
        split
        · exact same _ _ (by simp [hp]) rfl (by simp [ho]) rfl
        · refine ⟨fun i hi => ?_, fun i y hi hy => ?_, fun p hp => ?_, fun i hi y hy => ?_⟩
          · by_cases e : i = j
            · subst e
              exact ⟨⟨v.place, v.seen, v.tag, false, false, true⟩, by simp [hlt], rfl, hpl⟩
            · rw [List.getElem?_set_ne (Ne.symm e)]
              exact h.push i hi
          · rw [List.getElem?_set_ne (by omega)] at hy
            exact h.pop i y hi hy
          · rcases List.mem_cons.1 hp with rfl | hp
            · omega
            · exact h.bd p hp
          · have hc := countP_set_eq (popOf i) vs j v ⟨v.place, v.seen, v.tag, false, false, true⟩ hj
            have h1 : popOf i v = false := by simp [popOf, ho]
            have h2 : popOf i ⟨v.place, v.seen, v.tag, false, false, true⟩ = false := by simp [popOf]
            rw [h1, h2] at hc
            simp only [Bool.false_eq_true, if_false, Nat.add_zero] at hc
            rw [count_tail, hpl]
            by_cases e : i = j
            · subst e
              simp [hlt] at hy
              subst hy
              simp only [hpl] at hc ⊢
              rw [hc]
              simp
              omega
            · rw [List.getElem?_set_ne (Ne.symm e)] at hy
              have h3 := h.cnt i hi y hy
              simp only [hpl] at hc
              rw [hc, if_neg (by omega)]
              omega
end Go.Proofs.Ytpddlnedaleblaa
