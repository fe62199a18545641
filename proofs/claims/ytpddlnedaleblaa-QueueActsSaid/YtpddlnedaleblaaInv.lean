/- A region that draws its order, walked by an invariant: one small step for each operation, whatever ones came ahead of it. -/
import Derived.Orders
namespace Go.Proofs.Ytpddlnedaleblaa
open Go

/-- The operations that have come up, as a function. -/
def upTo (listed : Array Bool) (i : Nat) : Bool := listed.getD i false

theorem upTo_set {listed : Array Bool} {i : Nat} (h : i < listed.size) (k : Nat) : upTo (listed.setIfInBounds i true) k = (if k = i then true else upTo listed k) := by
  unfold upTo
  by_cases e : k = i
  · subst e; simp [h]
  · simp [e, Array.getElem?_setIfInBounds_ne (Ne.symm e)]

theorem count_set {n : Nat} {listed : Array Bool} {i : Nat} (hi : i < n) (hs : listed.size = n) (hl : upTo listed i = false) :
    (List.range n).countP (fun k => !upTo (listed.setIfInBounds i true) k) + 1 = (List.range n).countP (fun k => !upTo listed k) := by
  have key : ∀ m, (List.range m).countP (fun k => !upTo (listed.setIfInBounds i true) k) + (if i < m then 1 else 0) = (List.range m).countP (fun k => !upTo listed k) := by
    intro m
    induction m with
    | zero => simp
    | succ m ih =>
      rw [List.range_succ, List.countP_append, List.countP_append, ← ih]
      by_cases e : m = i
      · subst e
        simp [upTo_set (hs ▸ hi), hl]
      · have : upTo (listed.setIfInBounds i true) m = upTo listed m := by rw [upTo_set (hs ▸ hi)]; simp [e]
        simp only [List.countP_singleton, this]
        by_cases h : i < m
        · simp [h, Nat.lt_succ_of_lt h]; omega
        · have : ¬ i < m + 1 := by omega
          simp [h, this]
  have := key n
  simpa [hi] using this

/-- THE RULE: J holds of what has come up, the frame and the world: each operation that may come up keeps it. -/
theorem wpAny_inv {P : Program} {md : Region.Mode} {ops : Array Oper} {Q : Exit → Act → World → Prop} (J : (Nat → Bool) → Act → World → Prop)
    (hback : (List.range ops.size).all (fun i => match ops[i]? with | some o => o.after.all (fun e => !Region.binds md e || decide (e.on < i)) | none => true) = true)
    (hstep : ∀ (L : Nat → Bool) a w i o, ops[i]? = some o → L i = false → (∀ e ∈ o.after, Region.binds md e = true → L e.on = true) → J L a w →
      wpOp P ops Q i (J (fun k => if k = i then true else L k)) a w)
    (hdone : ∀ (L : Nat → Bool) a w, (∀ i, i < ops.size → L i = true) → J L a w → Q .normal a w)
    (a : Act) (w : World) (h0 : J (fun _ => false) a w) : wpAny P md ops Q ops.size (Array.replicate ops.size false) a w := by
  have main : ∀ (fuel : Nat) (listed : Array Bool) (a : Act) (w : World), listed.size = ops.size → (List.range ops.size).countP (fun k => !upTo listed k) ≤ fuel → J (upTo listed) a w → wpAny P md ops Q fuel listed a w := by
    have hfull : ∀ (listed : Array Bool), listed.size = ops.size → Region.ready md ops listed = [] → ∀ i, i < ops.size → upTo listed i = true := by
      intro listed hs hr i
      induction i using Nat.strongRecOn with
      | _ i ih =>
        intro hi
        by_cases hu : upTo listed i = true
        · exact hu
        · exfalso
          have hmem : i ∈ Region.ready md ops listed := by
            rw [mem_ready]
            refine ⟨?_, ops[i], Array.getElem?_eq_getElem hi, fun e he hb => ?_⟩
            · have h1 : i < listed.size := hs ▸ hi
              simp only [upTo] at hu
              simpa [h1] using hu
            · have hb2 := List.all_eq_true.1 hback i (List.mem_range.2 hi)
              rw [Array.getElem?_eq_getElem hi] at hb2
              have hb3 := Array.all_eq_true_iff_forall_mem.1 hb2 e he
              simp [hb] at hb3
              exact ih e.on hb3 (by omega)
          rw [hr] at hmem
          cases hmem
    intro fuel
    induction fuel with
    | zero =>
      intro listed a w hs hc hJ
      have hall : ∀ i, i < ops.size → upTo listed i = true := fun i hi => by
        have := List.countP_eq_zero.1 (Nat.le_zero.1 hc) i (List.mem_range.2 hi)
        simpa using this
      refine ⟨?_, hdone _ _ _ hall hJ⟩
      apply List.eq_nil_iff_forall_not_mem.2
      intro i hi
      obtain ⟨h1, o, ho, _⟩ := mem_ready.1 hi
      have hlt : i < ops.size := (Array.getElem?_eq_some_iff.1 ho).1
      have h2 := hall i hlt
      have h3 : i < listed.size := hs ▸ hlt
      simp only [upTo] at h2
      simp [h3] at h1 h2
      rw [h2] at h1
      cases h1
    | succ fuel ih =>
      intro listed a w hs hc hJ
      refine ⟨fun hr => hdone _ _ _ (hfull listed hs hr) hJ, fun i hi => ?_⟩
      obtain ⟨h1, o, ho, hdep⟩ := mem_ready.1 hi
      have hlt : i < ops.size := (Array.getElem?_eq_some_iff.1 ho).1
      have h3 : i < listed.size := hs ▸ hlt
      have hu : upTo listed i = false := by
        simp only [upTo]
        simpa [h3] using h1
      refine wpOp_mono (fun a' w' hJ' => ih (listed.setIfInBounds i true) a' w' (by simpa using hs) ?_ ?_) (hstep (upTo listed) a w i o ho hu hdep hJ)
      · have := count_set hlt hs hu
        omega
      · have : upTo (listed.setIfInBounds i true) = fun k => if k = i then true else upTo listed k := by
          funext k
          exact upTo_set h3 k
        rw [this]
        exact hJ'
  refine main ops.size _ a w (by simp) ?_ ?_
  · exact Nat.le_trans List.countP_le_length (by simp)
  · have : upTo (Array.replicate ops.size false) = fun _ => false := by
      funext k
      unfold upTo
      by_cases h : k < ops.size
      · simp [h]
      · simp [h]
    rw [this]
    exact h0

/-- Operation i waits for operation j. -/
def depOf (md : Region.Mode) (ops : Array Oper) (i j : Nat) : Bool := match ops[i]? with | some o => o.after.any (fun e => Region.binds md e && e.on == j) | none => false

theorem depOf_at {md : Region.Mode} {ops : Array Oper} {i j : Nat} {o : Oper} (ho : ops[i]? = some o) (h : depOf md ops i j = true) : ∃ e ∈ o.after, Region.binds md e = true ∧ e.on = j := by
  unfold depOf at h
  rw [ho] at h
  obtain ⟨e, he, hb⟩ := Array.any_eq_true'.1 h
  simp only [Bool.and_eq_true, beq_iff_eq] at hb
  exact ⟨e, he, hb.1, hb.2⟩

/-- The rule, with what has come up closed under what it waits for. -/
theorem wpAny_closed {P : Program} {md : Region.Mode} {ops : Array Oper} {Q : Exit → Act → World → Prop} (J : (Nat → Bool) → Act → World → Prop)
    (hback : (List.range ops.size).all (fun i => match ops[i]? with | some o => o.after.all (fun e => !Region.binds md e || decide (e.on < i)) | none => true) = true)
    (hstep : ∀ (L : Nat → Bool) a w i, i < ops.size → L i = false → (∀ j, depOf md ops i j = true → L j = true) → (∀ k j, L k = true → depOf md ops k j = true → L j = true) → J L a w →
      wpOp P ops Q i (J (fun k => if k = i then true else L k)) a w)
    (hdone : ∀ (L : Nat → Bool) a w, (∀ i, i < ops.size → L i = true) → J L a w → Q .normal a w)
    (a : Act) (w : World) (h0 : J (fun _ => false) a w) : wpAny P md ops Q ops.size (Array.replicate ops.size false) a w := by
  refine wpAny_inv (fun L a w => J L a w ∧ ∀ k j, L k = true → depOf md ops k j = true → L j = true) hback ?_ (fun L a w hf h => hdone L a w hf h.1) a w ⟨h0, fun _ _ h => by cases h⟩
  rintro L a w i o ho hL hdep ⟨hJ, hcl⟩
  have hd : ∀ j, depOf md ops i j = true → L j = true := fun j hj => by
    obtain ⟨e, he, hb, rfl⟩ := depOf_at ho hj
    exact hdep e he hb
  refine wpOp_mono (fun a' w' h => ⟨h, fun k j hk hkj => ?_⟩) (hstep L a w i (Array.getElem?_eq_some_iff.1 ho).1 hL hd hcl hJ)
  by_cases e : j = i
  · simp [e]
  · simp only [e, if_false]
    by_cases e2 : k = i
    · subst e2; exact hd j hkj
    · simp only [e2, if_false] at hk
      exact hcl k j hk hkj

/-- One operation, its text at hand. -/
theorem wpOp_at {P : Program} {ops : Array Oper} {Q : Exit → Act → World → Prop} {i : Nat} {o : Oper} {K : Act → World → Prop} {a : Act} {w : World} (ho : ops[i]? = some o) (hg : o.guard = none) (h : Oper.wp P o a w K Q) : wpOp P ops Q i K a w := by
  unfold wpOp
  rw [ho]
  simp [Region.wanted, hg, h]
end Go.Proofs.Ytpddlnedaleblaa
