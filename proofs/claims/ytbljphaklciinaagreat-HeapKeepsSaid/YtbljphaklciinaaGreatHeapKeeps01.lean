/- Walks of the program's functions, and plain laws on what they compute, text by text (Args, Law, FactsH, KeepsA, Acts12, Keeps, RowHeapKeeps). No condition. -/
import Derived.Test.YtbljphaklciinaaGreatHb09
import Derived.Deep.Slices
import Derived.Deep.Fields
import Derived.ChangeSame
import Derived.Below
import Derived.Carry
import Derived.OpenShut
import Derived.ProofKit

/- Arguments that are slices, opened to their cells: one for any program. -/
namespace Go.Proofs.YtbljphaklciinaaGreat
open Go.ChangeShapes Go.WideShapes Go.Deep Go.RowKit

section
variable {H : Type} {enc : TypeId × Value → H} {P : Program} {W : World} {held : Bool}

theorem cell_head {w : World} {a : Addr} {v : Value} (h : w.cell? (a.add 0) = some v) : ∃ b off, a = ⟨b, off, none⟩ := by
  obtain ⟨b, off, spot⟩ := a
  have hs := World.cell?_spot h
  simp [Addr.add] at hs
  subst hs
  exact ⟨b, off, rfl⟩
theorem cell_plain {w : World} {b off : Nat} {i : Nat} {v : Value} (h : w.cell? ((⟨b, off, none⟩ : Addr).add i) = some v) : w.cell? ⟨b, off + i, none⟩ = some v := by
  rw [← h]
  congr 1
  unfold Addr.add
  split
  · rename_i h0; simp [h0]
  · rfl

theorem mem_row_head {a : Addr} {m : Nat} (h : 0 < m) : MemPlace.cell a.block a.off ∈ MemPlace.row a m := by
  exact MemPlace.mem_row.2 ⟨0, h, by simp⟩

/-- Elements of one cell each. -/
theorem arg_slice1 {t e : TypeId} {v : Value} {d : DataW H} {ps : List MemPlace} {N : Nat} {B : Nat} {r : Reach} (ht : P.underlying t = some (.slice e)) (hc : P.cellsOf e = 1)
    (hv : Value.okWide P W r B t v) (h : DataW.Trod enc P W 0 (fun _ => true) held t v d ps) (hlt : ∀ x ∈ ps, x.block < N) :
    ∃ (A : Option Addr) (n c : Nat) (V : Nat → Value), v = .slice A n c ∧ n ≤ c ∧ c ≤ maxLen ∧
      ∀ i, i < n → ∃ b off fuel y, A = some ⟨b, off, none⟩ ∧ b < N ∧ W.cell? ⟨b, off + i, none⟩ = some (V i) ∧ DataW.trod enc P W 0 (fun _ => true) held fuel e [V i] = some y := by
  obtain ⟨a0, len, cap, rfl⟩ := okWide_slice ht hv
  obtain ⟨fuel, hf⟩ := h
  rcases open_slice1 ht hc hf with ⟨hcs, hx⟩ | ⟨a, len', cap', m, n, V, D, Pl, hcs, _, hl, hm, hmm, hx, hi⟩
  · simp [Value.cells] at hcs
    obtain ⟨rfl, rfl, rfl⟩ := hcs
    exact ⟨none, 0, 0, fun _ => .int .i64 0, rfl, Nat.le_refl _, Nat.zero_le _, fun i h => by omega⟩
  · simp [Value.cells] at hcs
    obtain ⟨rfl, rfl, rfl⟩ := hcs
    simp only [Prod.mk.injEq] at hx
    refine ⟨some a, len, cap, V, rfl, hl, hm, fun i hin => ?_⟩
    simp only [if_true] at hmm
    obtain ⟨b, off, rfl⟩ := cell_head (hi 0 (by omega)).1
    obtain ⟨hcell, htr⟩ := hi i (by omega)
    refine ⟨b, off, n, _, rfl, ?_, cell_plain hcell, htr⟩
    exact hlt (.cell b off) (by rw [hx.2]; exact List.mem_append.2 (.inl (mem_row_head (a := ⟨b, off, none⟩) (by omega))))

/-- A slice of integers of one kind. -/
theorem arg_ints {t e : TypeId} {k : IntKind} {v : Value} {d : DataW H} {ps : List MemPlace} {N : Nat} {B : Nat} {r : Reach} (ht : P.underlying t = some (.slice e)) (he : P.underlying e = some (.int k)) (hc : P.cellsOf e = 1)
    (hv : Value.okWide P W r B t v) (h : DataW.Trod enc P W 0 (fun _ => true) held t v d ps) (hlt : ∀ x ∈ ps, x.block < N) :
    ∃ (A : Option Addr) (n c : Nat) (f : Nat → Int), v = .slice A n c ∧ n ≤ c ∧ c ≤ maxLen ∧
      ∀ i, i < n → ∃ b off, A = some ⟨b, off, none⟩ ∧ b < N ∧ W.cell? ⟨b, off + i, none⟩ = some (.int k (f i)) ∧ (Lit.int k (f i)).wf = true := by
  obtain ⟨A, n, c, V, rfl, h1, h2, hi⟩ := arg_slice1 ht hc hv h hlt
  have hf : ∀ i, i < n → ∃ x : Int, V i = .int k x ∧ (Lit.int k x).wf = true := fun i hin => by
    obtain ⟨b, off, fuel, y, _, _, _, htr⟩ := hi i hin
    obtain ⟨x, hx, _, hw⟩ := DataW.trod_int he htr
    simp at hx
    exact ⟨x, hx, hw⟩
  obtain ⟨f, hf⟩ := choose_lt hf
  refine ⟨A, n, c, f, rfl, h1, h2, fun i hin => ?_⟩
  obtain ⟨b, off, fuel, y, hA, hb, hcell, _⟩ := hi i hin
  obtain ⟨e1, e2⟩ := hf i hin
  exact ⟨b, off, hA, hb, by rw [hcell, e1], e2⟩

theorem arg_bools {t e : TypeId} {v : Value} {d : DataW H} {ps : List MemPlace} {N : Nat} {B : Nat} {r : Reach} (ht : P.underlying t = some (.slice e)) (he : P.underlying e = some .bool) (hc : P.cellsOf e = 1)
    (hv : Value.okWide P W r B t v) (h : DataW.Trod enc P W 0 (fun _ => true) held t v d ps) (hlt : ∀ x ∈ ps, x.block < N) :
    ∃ (A : Option Addr) (n c : Nat) (f : Nat → Bool), v = .slice A n c ∧ n ≤ c ∧ c ≤ maxLen ∧
      ∀ i, i < n → ∃ b off, A = some ⟨b, off, none⟩ ∧ b < N ∧ W.cell? ⟨b, off + i, none⟩ = some (.bool (f i)) := by
  obtain ⟨A, n, c, V, rfl, h1, h2, hi⟩ := arg_slice1 ht hc hv h hlt
  have hf : ∀ i, i < n → ∃ x : Bool, V i = .bool x := fun i hin => by
    obtain ⟨b, off, fuel, y, _, _, _, htr⟩ := hi i hin
    obtain ⟨x, hx, _⟩ := DataW.trod_bool he htr
    simp at hx
    exact ⟨x, hx⟩
  obtain ⟨f, hf⟩ := choose_lt hf
  refine ⟨A, n, c, f, rfl, h1, h2, fun i hin => ?_⟩
  obtain ⟨b, off, fuel, y, hA, hb, hcell, _⟩ := hi i hin
  exact ⟨b, off, hA, hb, by rw [hcell, hf i hin]⟩

/-- A slice of structs of one-cell fields: each field's cell, and that it reads. -/
theorem arg_structs {t e : TypeId} {fs : Array Field} {v : Value} {d : DataW H} {ps : List MemPlace} {N : Nat} {B : Nat} {r : Reach} (ht : P.underlying t = some (.slice e)) (he : P.underlying e = some (.struct fs))
    (hone : oneCellFields P fs = true) (hC : P.cellsOf e = fs.size) (h0 : 0 < fs.size)
    (hv : Value.okWide P W r B t v) (h : DataW.Trod enc P W 0 (fun _ => true) held t v d ps) (hlt : ∀ x ∈ ps, x.block < N) :
    ∃ (A : Option Addr) (n c : Nat), v = .slice A n c ∧ n ≤ c ∧ c ≤ maxLen ∧
      ∀ i, i < n → ∃ b off, A = some ⟨b, off, none⟩ ∧ b < N ∧
        ∀ (j : Nat) (f : Field), fs[j]? = some f → ∃ (u : Value) (y : DataW H × List MemPlace) (fuel : Nat), W.cell? ⟨b, off + (i * fs.size + j), none⟩ = some u ∧
          DataW.trod enc P W 0 (fun _ => true) held fuel f.type [u] = some y ∧ ∀ x ∈ y.2, x.block < N := by
  obtain ⟨a0, len, cap, rfl⟩ := okWide_slice ht hv
  obtain ⟨fuel, hf⟩ := h
  rcases open_slice ht hf with ⟨hcs, hx⟩ | ⟨a, len', cap', m, n, D, Pl, hcs, _, hl, hm, hmm, hx, hi⟩
  · simp [Value.cells] at hcs
    obtain ⟨rfl, rfl, rfl⟩ := hcs
    exact ⟨none, 0, 0, rfl, Nat.le_refl _, Nat.zero_le _, fun i h => by omega⟩
  · simp [Value.cells] at hcs
    obtain ⟨rfl, rfl, rfl⟩ := hcs
    simp only [Prod.mk.injEq] at hx
    refine ⟨some a, len, cap, rfl, hl, hm, fun i hin => ?_⟩
    simp only [if_true] at hmm
    rw [hC] at hi hx
    obtain ⟨cs', hc, ht'⟩ := hi i (by omega)
    obtain ⟨ys, n', hn', hy, hlen, hyl, hfld⟩ := DataW.trod_struct he ht'
    obtain ⟨_, hcl, hat⟩ := World.cells?_some hc
    simp only [Prod.mk.injEq] at hy
    have hsp : ∃ b off, a = ⟨b, off, none⟩ := by
      obtain ⟨cs0, hc0, _⟩ := hi 0 (by omega)
      obtain ⟨_, hcl0, hat0⟩ := World.cells?_some hc0
      have h00 := hat0 0 h0
      have hv0 : cs0[0]? = some (cs0[0]'(by omega)) := List.getElem?_eq_getElem (by omega)
      rw [hv0, Go.Deep.add_add] at h00
      simp only [Nat.zero_mul, Nat.add_zero] at h00
      exact cell_head h00
    obtain ⟨b, off, rfl⟩ := hsp
    refine ⟨b, off, rfl, ?_, ?_⟩
    · refine hlt (.cell b off) (by rw [hx.2]; exact List.mem_append.2 (.inl (mem_row_head (a := ⟨b, off, none⟩) (Nat.mul_pos (by omega) h0))))
    · intro j f hj
      obtain ⟨ho, hk⟩ := hone_of hone j f hj
      have hjl : j < fs.size := (Array.getElem?_eq_some_iff.1 hj).1
      have hcell := hat j hjl
      have hv1 : cs'[j]? = some (cs'[j]'(by omega)) := List.getElem?_eq_getElem (by omega)
      have h1 := hfld j f hj
      rw [ho, hk] at h1
      have hone' : (cs'.drop j).take 1 = [cs'[j]'(by omega)] := by
        rw [List.drop_eq_getElem_cons (by omega)]
        rfl
      rw [hone'] at h1
      have hys : ys[j]? = some (ys[j]'(by omega)) := List.getElem?_eq_getElem (by omega)
      rw [hv1, Go.Deep.add_add] at hcell
      refine ⟨_, ys[j]'(by omega), n', cell_plain hcell, h1.trans hys, fun x hx' => ?_⟩
      refine hlt x ?_
      rw [hx.2]
      refine List.mem_append.2 (.inr (List.mem_flatMap.2 ⟨i, List.mem_range.2 (by omega), ?_⟩))
      rw [hy.2]
      exact List.mem_flatMap.2 ⟨ys[j]'(by omega), List.getElem_mem _, hx'⟩

end
end Go.Proofs.YtbljphaklciinaaGreat

/- What all rows of laws share: the law answers true, nothing that was there has turned, so its arguments read as they did. -/
namespace Go.Proofs.YtbljphaklciinaaGreat
open Go.ChangeShapes Go.WideShapes Go.ChangeAt Go.RowKit

theorem Tryz.own : ownKnob Tryz.prog.godebug = none := by kernel_rfl
theorem Tryz.laidOut : laidOutB Tryz.prog = true := by kernel_rfl

section
variable {H : Type} {enc : TypeId × Value → H} {P : Program}

theorem stays_all (hl : laidOutB P = true) {W W' : World} (hb : Below W.heap.size W W') : ∀ (ts : List TypeId) (vs : List Value) (ds : List (DataW H)) (ps : List MemPlace),
    (∀ t ∈ ts, P.readableRec t = true ∧ t < P.types.size) → (∀ x ∈ ps, x.block < W.heap.size) → DataW.TrodAll enc P W 0 (fun _ => true) true ts vs ds ps →
    DataW.TrodAll enc P W' 0 (fun b => decide (b < W.heap.size)) true ts vs ds ps
  | [], vs, ds, ps, _, _, h => by
    cases vs <;> cases ds <;> simp_all [DataW.TrodAll]
  | t :: ts, vs, ds, ps, ht, hp, h => by
    obtain ⟨v, vs', d, ds', p, q, rfl, rfl, rfl, h1, h2⟩ := trodAll_cons h
    refine ⟨p, q, Below.trod hl (ht t (by simp)).1 (ht t (by simp)).2 h1 hb (fun x hx => hp x (List.mem_append.2 (.inl hx))), ?_, rfl⟩
    exact stays_all hl hb ts vs' ds' q (fun t' ht' => ht t' (by simp [ht'])) (fun x hx => hp x (List.mem_append.2 (.inr hx))) h2

theorem law_post {f : Func} {s : ChangeSpec} {fresh handsOn : Bool} {W W' : World} {args : Array Value} {ds gs : List (DataW H)} {before : List MemPlace} {tb : TypeId}
    (hl : laidOutB P = true) (hr : ∀ t ∈ f.params.toList, P.readableRec t = true ∧ t < P.types.size) (hv : s.vars = [])
    (hW : DataW.Whole enc P f.params.toList s.vars false W args.toList ds gs before)
    (hres : (s.fn H (ds ++ gs)).results = [.lit (.bool true)]) (hargs : (s.fn H (ds ++ gs)).args = ds) (hvars : (s.fn H (ds ++ gs)).vars = [])
    (hrt : f.resultTypes = #[tb]) (htb : P.underlying tb = some .bool) (hb : Below W.heap.size W W') :
    s.post enc P f false fresh handsOn false W args (.bool true) W' := by
  have hlt : ∀ p ∈ before, p.block < W.heap.size := fun p hp => by simpa using hW.lt p hp
  have hW0 := hW
  obtain ⟨p, q, hA, hV, rfl, _, _⟩ := hW0
  rw [hv] at hV
  obtain ⟨rfl, rfl⟩ := trodVars_none hV
  simp only [List.append_nil] at hW hlt hres hargs hvars ⊢
  refine ⟨ds, [], p, [], p, [], hW, ?_, ?_, ?_, hb.frame _, fun h => by cases h⟩
  · simp only [List.append_nil]
    rw [hres, hrt]
    exact trodAll_mk1 (shut_bool htb true)
  · simp only [List.append_nil]
    rw [hargs]
    exact stays_all hl hb _ _ _ _ hr hlt hA
  · simp only [List.append_nil]
    rw [hvars, hv]
    rfl
end
end Go.Proofs.YtbljphaklciinaaGreat

/- The dump's head: its first words, and what all rows of this seat ask of them. -/
namespace Go.Proofs.YtbljphaklciinaaGreat
open Go.ChangeShapes Go.WideShapes Go.ChangeAt Go.RowKit

theorem words_space (a b : List Char) (h : ∀ c ∈ a, c ≠ (Char.ofNat 32)) : wordsSigns (a ++ (Char.ofNat 32) :: b) = a :: wordsSigns b := by
  induction a with
  | nil => simp [wordsSigns]
  | cons c a ih =>
    have hc : c ≠ (Char.ofNat 32) := h c (by simp)
    have hr := ih (fun d hd => h d (by simp [hd]))
    simp only [List.cons_append]
    conv => lhs; unfold wordsSigns
    split
    · rename_i e; cases e
    · rename_i e; simp only [List.cons.injEq] at e; exact absurd e.1 hc
    · rename_i c' r' _ e
      simp only [List.cons.injEq] at e
      obtain ⟨rfl, rfl⟩ := e
      rw [hr]

def headSum : String := "b9f8ceaee08ad6743f38ac4578515e812aed0f4ebe0aa47ff5619fadc0982cc7"
def headRest : String := "at allotment/allotmentlaw12.HeapFull allotment/allotmentlaw12.HeapApart allotment/allotmentlaw12.HeapKeeps allotment/allotmentlaw12.HeapMoves allotment/allotmentlaw12.HeapBack"
theorem head_eq : Tryz.prog.initOrder = "harness" ++ (" " ++ (headSum ++ (" " ++ ("cut" ++ (" " ++ headRest))))) := by kernel_rfl
theorem space_list : " ".toList = [Char.ofNat 32] := by kernel_rfl
theorem sum_plain : headSum.toList.all (fun c => c != Char.ofNat 32) = true := by kernel_rfl
theorem harness_plain : "harness".toList.all (fun c => c != Char.ofNat 32) = true := by kernel_rfl
theorem cut_plain : "cut".toList.all (fun c => c != Char.ofNat 32) = true := by kernel_rfl
theorem sum_signs : isSumSigns headSum.toList = true := by kernel_rfl
theorem harness_main : ("harness".toList == "harness".toList || "harness".toList == "ownmain".toList) = true := by kernel_rfl

theorem head_words : behindMainWord (wordsSigns Tryz.prog.initOrder.toList) = "cut".toList :: wordsSigns headRest.toList := by
  rw [head_eq]
  simp only [String.toList_append, space_list, List.singleton_append]
  rw [words_space _ _ (fun c hc => by simpa using List.all_eq_true.1 harness_plain c hc), words_space _ _ (fun c hc => by simpa using List.all_eq_true.1 sum_plain c hc),
    words_space _ _ (fun c hc => by simpa using List.all_eq_true.1 cut_plain c hc)]
  unfold behindMainWord
  dsimp only
  rw [harness_main, sum_signs]
  rfl

theorem cut_gc : ("cut".toList == "gc".toList || "cut".toList == "spec".toList) = false := by kernel_rfl
theorem cut_carried : ("cut".toList == "carried".toList) = false := by kernel_rfl
theorem cut_cut : ("cut".toList == "cut".toList) = true := by kernel_rfl
theorem strip_cut (rest : List (List Char)) : stripLifts liftWords ("cut".toList :: rest) = ([], "cut".toList :: rest) := by
  have h : ∀ o ∈ liftWords, ("cut".toList == o.toList) = false := of_decide_eq_true (by kernel_rfl)
  revert h
  generalize liftWords = l
  intro h
  induction l with
  | nil => rfl
  | cons o os ih =>
    unfold stripLifts
    rw [h o (by simp)]
    exact ih (fun p hp => h p (by simp [hp]))
theorem Tryz.later : Tryz.prog.laysLater = false := by kernel_rfl
theorem Tryz.reflect : Tryz.prog.bearsReflect = false := by kernel_rfl
theorem Tryz.door : Tryz.prog.doorFits [] = true := by kernel_rfl

theorem may_of {P : Program} {rest : List (List Char)} (h : behindMainWord (wordsSigns P.initOrder.toList) = "cut".toList :: rest) (h1 : P.laysLater = false) (h2 : P.bearsReflect = false) (h3 : P.doorFits [] = true) : P.mayEnter = true := by
  unfold Program.mayEnter
  rw [h]
  dsimp only
  rw [strip_cut, cut_gc, h1, h2, h3]
  simp
theorem lifts_of {P : Program} {rest : List (List Char)} (h : behindMainWord (wordsSigns P.initOrder.toList) = "cut".toList :: rest) : P.liftsFinal = false := by
  unfold Program.liftsFinal Program.headLifts
  rw [h, strip_cut]
  dsimp only [List.head?]
  simp [cut_carried]
theorem makes_of {P : Program} {rest : List (List Char)} (h : behindMainWord (wordsSigns P.initOrder.toList) = "cut".toList :: rest) : P.make = some .cut := by
  unfold Program.make
  rw [h]
  dsimp only
  rw [cut_gc, cut_cut]
  simp
theorem Tryz.may : Tryz.prog.mayEnter = true := may_of head_words Tryz.later Tryz.reflect Tryz.door
theorem Tryz.lifts : Tryz.prog.liftsFinal = false := lifts_of head_words
theorem Tryz.makes : Tryz.prog.make = some .cut := makes_of head_words

/-- The closed facts of a row, each by itself, what hangs on the head alone taken from above. -/
theorem joined_of {P : Program} {f : FuncId} {fn : Func} {s : ChangeSpec} {c : OpenClaim} (h1 : P.mayEnter = true) (h2 : P.liftsFinal = false) (h3 : P.make = some .cut)
    (k1 : c.wf (OpenSpec.ofChange s) = true) (k2 : laidOutB P = true) (k3 : mapsRowed P = true) (k4 : fn.params.all (P.readableRec ·) = true) (k5 : namedTie P c.named s.vars = true)
    (k6 : (c.stops == []) = true) (k7 : (P.stops == []) = true) (k8 : (c.knobs == []) = true) (k9 : (P.stopKnobs == []) = true)
    (k10 : (c.inPlace == P.inPlace f) = true) (k11 : (c.unfollowed == P.unfollowed f) = true) (k12 : (c.recurses == P.recurses f) = true) (k13 : (c.named == P.varsNamed f) = true)
    (k14 : (c.maps == (fn.params.toList ++ s.plain.varTypes P).any (P.mapsRec ·)) = true) (k15 : (c.ifaces == (fn.params.toList ++ s.plain.varTypes P).any (P.ifacesRec ·)) = true)
    (k16 : (c.mapsOut == P.mapsAmong fn.resultTypes.toList) = true) (k17 : (c.loops == (fn.params.toList ++ s.plain.varTypes P).any (P.loopsFrom ·)) = true)
    (k18 : (c.wideKeys == (fn.params.toList ++ s.plain.varTypes P ++ fn.resultTypes.toList).any (P.wideKeysFrom ·)) = true) (k19 : s.vars.all (P.varReadable ·) = true)
    (k20 : fn.resultTypes.all (fun t => P.readableRec t && decide (t < P.types.size)) = true) (k21 : (c.ifacesOut == fn.resultTypes.toList.any (P.ifacesRec ·)) = true)
    (k22 : (c.loopsOut == fn.resultTypes.toList.any (P.loopsFrom ·)) = true) (k23 : (c.plainKeys == P.plainKeys) = true) (k24 : c.shortTexts.isNone = true) (k25 : P.stopsHeard = true)
    (k26 : (c.lifted == false) = true) (k27 : (some Make.cut == some c.make) = true)
    (kd : c.domain = []) (kk : c.kinds = []) (k29 : (c.pinned == c.pinnedBy) = true)
    (k30 : (c.veiled == (fn.params.toList ++ s.plain.varTypes P ++ fn.resultTypes.toList).any (P.veiledRec ·)) = true)
    (k31 : c.veiledFits P fn.params.toList (fn.params.toList ++ s.plain.varTypes P ++ fn.resultTypes.toList) = true) : joinedFacts P f fn s c = true := by
  unfold joinedFacts
  rw [h1, h2, h3, k1, k2, k3, k4, k5, k6, k7, k8, k9, k10, k11, k12, k13, k14, k15, k16, k17, k18, k19, k20, k21, k22, k23, k24, k25, k26, k27, k29, k30, k31, kd, kk]
  rfl
end Go.Proofs.YtbljphaklciinaaGreat

/- HeapKeeps: its heap, call by call. -/
namespace Go.Proofs.YtbljphaklciinaaGreat
open Go.RowKit
variable {ro ro' : Nat → Role} {hn : Nat} {w w' : World} {B bm bb sz : Nat} {f g : Nat → Nat} {h : HeapR} {X : Role → Prop} {a : ArR}

/-- An arena of n segments, of which the first k are given, all of them the heap's. -/
structure KA (n k r : Nat) (h : HeapR) (a : ArR) : Prop where
  en : a.n = n
  lim : a.lim = n
  T : a.T = fun j => decide (j < k)
  R : a.R = (List.range k).map fun j => (j, 1)
  kn : k ≤ n
  pls : ∀ s ∈ h.S, s.pl < k
  rf : a.rf ≤ r

theorem freeN_lt (n : Nat) : ∀ k, k ≤ n → freeN (fun j => decide (j < k)) n = n - k := by
  induction n with
  | zero => intro k hk; simp [freeN]
  | succ n ih =>
    intro k hk
    have e : freeN (fun j => decide (j < k)) (n + 1) = freeN (fun j => decide (j < k)) n + (if n < k then 0 else 1) := by
      unfold freeN
      rw [List.range_succ, List.countP_append, List.countP_singleton]
      by_cases h : n < k <;> simp [h]
    rw [e]
    by_cases h : n < k
    · obtain rfl : k = n + 1 := by omega
      have : freeN (fun j => decide (j < n + 1)) n = 0 := by
        unfold freeN
        rw [List.countP_eq_zero]
        intro j hj
        simp at hj
        simp
        omega
      rw [this, if_pos h]
      omega
    · rw [ih k (by omega), if_neg h]
      omega

theorem KA.given {n k r : Nat} (K : KA n k r h a) : freeN a.T a.n = n - k := by rw [K.T, K.en]; exact freeN_lt n k K.kn
theorem KA.sorted {n k r : Nat} (K : KA n k r h a) : SortedR a.R := fun i j x y hij hx hy => by
  rw [K.R, List.getElem?_map] at hx hy
  have h1 : i < k := by
    rcases Nat.lt_or_ge i k with h | h
    · exact h
    · rw [List.getElem?_eq_none (by simpa using h)] at hx; cases hx
  have h2 : j < k := by
    rcases Nat.lt_or_ge j k with h | h
    · exact h
    · rw [List.getElem?_eq_none (by simpa using h)] at hy; cases hy
  rw [List.getElem?_range h1] at hx
  rw [List.getElem?_range h2] at hy
  cases hx
  cases hy
  exact hij
theorem KA.len {n k r : Nat} (K : KA n k r h a) : a.R.length = k := by rw [K.R]; simp
theorem KA.small {n k r : Nat} (K : KA n k r h a) : ∀ (j : Nat) (x : Nat × Nat), a.R[j]? = some x → x.1 < k := fun j x hx => by
  rw [K.R] at hx
  obtain ⟨i, hi, rfl⟩ := List.mem_map.1 (List.mem_of_getElem? hx)
  simpa using hi
theorem KA.keep {n k r : Nat} {h' : HeapR} (K : KA n k r h a) (hp : ∀ s ∈ h'.S, ∃ t ∈ h.S, s.pl = t.pl) : KA n k r h' a :=
  { K with pls := fun s hs => by obtain ⟨t, ht, e⟩ := hp s hs; rw [e]; exact K.pls t ht }

theorem setPg_pls {pl at_ : Nat} {pg : Pg} {S : List SegR} : ∀ s ∈ setPg pl at_ pg S, ∃ t ∈ S, s.pl = t.pl := fun s hs => by
  obtain ⟨t, ht, rfl⟩ := List.mem_map.1 hs
  exact ⟨t, ht, by split <;> rfl⟩
theorem addPg_pls {pl : Nat} {p : PageR} {S : List SegR} : ∀ s ∈ addPg pl p S, ∃ t ∈ S, s.pl = t.pl := fun s hs => by
  obtain ⟨t, ht, rfl⟩ := List.mem_map.1 hs
  exact ⟨t, ht, addI_pl _ _ _⟩

/-- Roles with all that is to come another's. -/
def cutR (ro : Nat → Role) (N : Nat) (k : Nat) : Role := if k < N then ro k else .other
theorem LawH.cut {W : World} {n : Nat} (L : LawH W ro hn w bm bb sz f h a) (hN : n = w.heap.size) : LawH W (cutR ro n) hn w bm bb sz f h a :=
  have e : ∀ k, k < w.heap.size → cutR ro n k = ro k := fun k hk => if_pos (by omega)
  ⟨⟨L.hp.hp.role e, L.hp.mem, (e _ L.hp.mem.lt_bm).trans L.hp.rm, (e _ L.hp.mem.lt_bb).trans L.hp.rb, L.hp.b⟩, L.ar.role e, L.below, fun k hk => (e k (Nat.lt_of_lt_of_le hk L.below.size)).trans (L.old k hk)⟩

/-- The law's state: k segments are given; a block x of its own stays as it is. -/
def KX (W : World) (bh ba n k r x : Nat) (o : Obj) (w : World) : Prop :=
  ∃ ro bm bb f h a, LawH W ro 0 w bm bb (n * 16384) f h a ∧ KA n k r h a ∧ h.bh = bh ∧ h.ba = ba ∧ ro x = .other ∧ w.heap[x]? = some o
/-- The same without a block. -/
def KS (W : World) (bh ba n k r : Nat) (w : World) : Prop :=
  ∃ ro bm bb f h a, LawH W ro 0 w bm bb (n * 16384) f h a ∧ KA n k r h a ∧ h.bh = bh ∧ h.ba = ba

variable {W : World} {bh ba n k r x : Nat} {o : Obj}
theorem KX.to_s (K : KX W bh ba n k r x o w) : KS W bh ba n k r w := by
  obtain ⟨ro, bm, bb, f, h, a, L, K, e1, e2, _⟩ := K
  exact ⟨ro, bm, bb, f, h, a, L, K, e1, e2⟩
theorem KS.below (K : KS W bh ba n k r w) : Below W.heap.size W w := by
  obtain ⟨ro, bm, bb, f, h, a, L, _⟩ := K
  exact L.below
theorem KS.block (K : KS W bh ba n k r w) (o : Obj) : KX W bh ba n k r w.heap.size o (w.alloc o) := by
  obtain ⟨ro, bm, bb, f, h, a, L, K, e1, e2⟩ := K
  refine ⟨cutR ro w.heap.size, bm, bb, f, h, a, (L.cut rfl).on ((Below.refl _ _).alloc (Nat.le_refl _) _), K, e1, e2, if_neg (by omega), ?_⟩
  show (w.heap.push o)[w.heap.size]? = _
  simp
theorem lt_of_block {w : World} {x : Nat} {o : Obj} (h : w.heap[x]? = some o) : x < w.heap.size := (Array.getElem?_eq_some_iff.1 h).1
theorem KX.step (K : KX W bh ba n k r x o w) :
    ∃ ro bm bb f h a, LawH W ro 0 w bm bb (n * 16384) f h a ∧ KA n k r h a ∧ h.bh = bh ∧ h.ba = ba ∧
      ∀ {ro' : Nat → Role} {X : Role → Prop} {w' : World} {g : Nat → Nat} {h' : HeapR} {a' : ArR} {k' r' : Nat}, RFr ro w w' X → ¬ X .other → (∀ k, k < w.heap.size → ro' k = ro k) → LawH W ro' 0 w' bm bb (n * 16384) g h' a' → KA n k' r' h' a' → h'.bh = bh → h'.ba = ba → KX W bh ba n k' r' x o w' := by
  obtain ⟨ro, bm, bb, f, h, a, L, K, e1, e2, e3, e4⟩ := K
  refine ⟨ro, bm, bb, f, h, a, L, K, e1, e2, fun {ro' X w' g h' a' k' r'} hf hx he L' K' e1' e2' => ⟨ro', bm, bb, g, h', a', L', K', e1', e2', (he x (lt_of_block e4)).trans e3, (hf.block x (lt_of_block e4) (by rw [e3]; exact hx)).trans e4⟩⟩

theorem grow_k (K : KX W bh ba n k r x o w) (hn : n ≤ 16) (hr : r < 1000000) :
    Calls Tryz.prog 19 #[.pointer (some ⟨bh, 0, none⟩)] w fun e w' => ∃ v k', e = .returned (.int .i64 v) ∧ KX W bh ba n k' (r + 1) x o w' := by
  obtain ⟨ro, bm, bb, f, h, a, L, J, rfl, rfl, st⟩ := K.step
  have hg := J.given
  have hN := J.en
  have hlim := J.lim
  have hkn := J.kn
  have hrf := J.rf
  by_cases hk : k < n
  · refine (grow_room L.hp L.ar J.sorted (by rw [J.len]; omega) (at_ := k) ⟨by omega, fun j hj => by rw [J.T]; simp⟩ (fun j hj hf => by have := hf.2 0 (by omega); rw [J.T] at this; simp at this; omega) J.small (by rw [hg]; omega) (fun t ht e => by have := J.pls t ht; omega) (by omega)).mono ?_
    rintro e w' ⟨rfl, ro', s, gs, g', he, h1, h2, h3, H, A, rr⟩
    refine ⟨0, k + 1, rfl, st rr hpZ_other he (L.step H A rr hpZ_other he) ⟨J.en, J.lim, ?_, ?_, by omega, fun t ht => ?_, Nat.le_succ_of_le J.rf⟩ rfl rfl⟩
    · show setT a.T k 1 true = _
      rw [J.T]
      funext j
      unfold setT
      by_cases e : j = k
      · subst e; simp
      · rw [if_neg (by omega)]
        show decide (j < k) = decide (j < k + 1)
        rw [decide_eq_decide]
        omega
    · show a.R ++ [(k, 1)] = _
      rw [J.R, List.range_succ, List.map_append]
      rfl
    · rcases List.mem_append.1 ht with ht | ht
      · have := J.pls t ht; omega
      · simp only [List.mem_singleton] at ht
        subst ht
        omega
  · refine (grow_full L.hp L.ar (by omega) (by rw [hg]; omega)).mono ?_
    rintro e w' ⟨rfl, H, A, rr⟩
    exact ⟨4, k, rfl, st rr hpZ_other (fun _ _ => rfl) (L.step H A rr hpZ_other (fun _ _ => rfl)) { J with rf := by show a.rf + 1 ≤ r + 1; omega } rfl rfl⟩

theorem KX.on (K : KX W bh ba n k r x o w) (hb : Below w.heap.size w w') : KX W bh ba n k r x o w' := by
  obtain ⟨ro, bm, bb, f, h, a, L, J, rfl, rfl, st⟩ := K.step
  exact st (RFr.of_below hb : RFr ro w w' (fun _ => False)) (fun h => h) (fun _ _ => rfl) (L.on hb) J rfl rfl

theorem given_k (K : KX W bh ba n k r x o w) : Calls Tryz.prog 14 #[.pointer (some ⟨ba, 0, none⟩)] w fun e w' => e = .returned (.int .i64 k) ∧ KX W bh ba n k r x o w' := by
  have K0 := K
  obtain ⟨ro, bm, bb, f, h, a, L, J, rfl, rfl, _⟩ := K
  refine (arenaGiven L.ar.at_).mono ?_
  rintro e w' ⟨rfl, kk, rfl⟩
  have hkn := J.kn
  refine ⟨?_, K0.on (below_drewN (Below.refl _ _) kk)⟩
  rw [J.given, J.en]
  congr 2
  omega

theorem local_k (K : KX W bh ba n k r x o w) (c : Int) (h1 : -9223372036854775808 ≤ c) (h2 : c ≤ 9223372036854775807) :
    Calls Tryz.prog 15 #[.pointer (some ⟨bh, 0, none⟩), .int .i64 c] w fun e w' => ∃ v1 v2, e = .returned (.tuple #[.int .u64 v1, .int .i64 v2]) ∧ KX W bh ba n k r x o w' := by
  have K0 := K
  obtain ⟨ro, bm, bb, f, h, a, L, J, rfl, rfl, st⟩ := K.step
  refine (local_any L.hp c h1 h2).mono ?_
  rintro e w' (⟨i, _, rfl, _, ro', R, F, k1, k2, he, rr, _, hk⟩ | ⟨_, rfl, rfl⟩)
  · have A := L.ar.over rr (fun i => hpX_ar) he
    rcases hk with ⟨s, hs, p, hp, f', pg', ad, _, _, rfl, H⟩ | ⟨rfl, _, H⟩
    · exact ⟨_, _, rfl, st rr hpX_other he (L.step H A rr hpX_other he) (J.keep setPg_pls) rfl rfl⟩
    · exact ⟨_, _, rfl, st rr hpX_other he (L.step H A rr hpX_other he) (J.keep fun s hs => ⟨s, hs, rfl⟩) rfl rfl⟩
  · exact ⟨_, _, rfl, K0⟩

theorem fresh_k (K : KX W bh ba n k r x o w) (c q u v : Int) (h1 : -9223372036854775808 ≤ c) (h2 : c ≤ 9223372036854775807) (h3 : -9223372036854775808 ≤ q) (h4 : q ≤ 9223372036854775807) :
    Calls Tryz.prog 20 #[.pointer (some ⟨bh, 0, none⟩), .agg #[.int .i64 c, .int .i64 q, .int .i64 u, .int .u64 v]] w fun e w' => ∃ v1 v2, e = .returned (.tuple #[.int .u64 v1, .int .i64 v2]) ∧ KX W bh ba n k r x o w' := by
  have K0 := K
  obtain ⟨ro, bm, bb, f, h, a, L, J, rfl, rfl, st⟩ := K.step
  refine (fresh_any L.hp c q u v h1 h2 h3 h4).mono ?_
  rintro e w' (⟨ec, _, rfl, hb, _⟩ | ⟨i, sl, S, N, hp, t, ht, at_, bo, bp, ro', f', pg', k1, k2, hf, hlow, rfl, he, hg, H, rr⟩)
  · exact ⟨_, _, rfl, K0.on hb⟩
  · exact ⟨_, _, rfl, st rr hpY_other he (L.step H (L.ar.over rr (fun i => hpY_ar) he) rr hpY_other he) (J.keep addPg_pls) rfl rfl⟩

theorem KX.le (K : KX W bh ba n k r x o w) : KX W bh ba n k (r + 1) x o w := by
  obtain ⟨ro, bm, bb, f, h, a, L, J, e⟩ := K
  exact ⟨ro, bm, bb, f, h, a, L, { J with rf := Nat.le_succ_of_le J.rf }, e⟩
theorem KX.cell {cs : Array Value} {T : TypeId} {j : Nat} {v : Value} (K : KX W bh ba n k r x (.cells cs T) w) (hj : cs[j]? = some v) : w.cell? ⟨x, j, none⟩ = some v := by
  obtain ⟨ro, bm, bb, f, h, a, L, J, _, _, _, e⟩ := K
  rw [cell_of_row w x j cs _ _ e]
  exact hj

/-- A class's pages. -/
theorem pages_one (L : LawH W ro 0 w bm bb sz f h a) (c : Int) (h1 : -1 ≤ c) (h2 : c < 12) :
    Calls Tryz.prog 21 #[.pointer (some ⟨h.bh, 0, none⟩), .slice (some ⟨w.heap.size, 0, none⟩) 1 1] (w.alloc (.cells #[.int .i64 c] 3)) fun e w' => (∃ A cap, e = .returned (.slice A (rowOf h c).length cap)) ∧ Below w.heap.size w w' := by
  have B1 : Below w.heap.size w (w.alloc (.cells #[.int .i64 c] 3)) := (Below.refl _ _).alloc (Nat.le_refl _) _
  have hrow := row_one w c
  have hz : (w.alloc (.cells #[.int .i64 c] 3)).heap.size = w.heap.size + 1 := by simp
  rw [← hz] at hrow
  refine (pages_row (L.on B1).hp.hp hrow (fun ad e => by injection e with e; subst e; rfl) (by omega) (by omega) (fun y hy => by
    simp only [List.mem_singleton] at hy
    subst hy
    by_cases e : y = -1
    · exact ⟨12, by omega, by rw [e]; rfl, h1, h2⟩
    · refine ⟨y.toNat, by omega, ?_, h1, h2⟩
      unfold rowIx
      rw [if_neg e, if_pos (by omega)])).mono ?_
  rintro e w' ⟨v, rfl, ho, hb⟩
  obtain ⟨A, c', rfl, _⟩ := own_at ho
  refine ⟨⟨A, c', ?_⟩, B1.trans (hb.mono B1.size)⟩
  have e : (startsOf (rowsOf h [c])).length = (rowOf h c).length := by simp [startsOf, rowsOf]
  rw [e]

theorem pages_every (L : LawH W ro 0 w bm bb sz f h a) :
    Calls Tryz.prog 21 #[.pointer (some ⟨h.bh, 0, none⟩), .slice none 0 0] w fun e w' => (∃ A cap, e = .returned (.slice A (rowsOf h classes).length cap)) ∧ Below w.heap.size w w' := by
  refine (pages_all L.hp.hp).mono ?_
  rintro e w' ⟨v, rfl, ho, hb⟩
  obtain ⟨A, c', rfl, _⟩ := own_at ho
  refine ⟨⟨A, c', ?_⟩, hb⟩
  have e : (startsOf (rowsOf h classes)).length = (rowsOf h classes).length := by simp [startsOf]
  rw [e]

/-- How many pages the first m of the classes -1, 0 .. have. -/
def sumTo (h : HeapR) (m : Nat) : Nat := ((List.range m).map fun (t : Nat) => (rowOf h ((t : Int) - 1)).length).sum
theorem sumTo_succ (h : HeapR) (m : Nat) : sumTo h (m + 1) = sumTo h m + (rowOf h ((m : Int) - 1)).length := by
  unfold sumTo
  rw [List.range_succ, List.map_append, List.sum_append]
  simp
theorem sumTo_all (h : HeapR) : sumTo h 13 = (rowsOf h classes).length := by
  have e : classes = [0, 1, 2, 3, 4, 5, 6, 7, 8, 9, 10, 11, -1] := rfl
  rw [e]
  simp only [sumTo_succ, rowsOf, List.flatMap_cons, List.flatMap_nil, List.length_append]
  simp [sumTo]
  omega
theorem rowOf_len (H : HeapAt ro hn w B bm sz f h) (c : Int) : (rowOf h c).length ≤ 1024 := by
  unfold rowOf
  split
  · rename_i i e
    rw [List.length_append]
    exact H.qlen (rowIx_lt e)
  · simp
theorem sumTo_le (H : HeapAt ro hn w B bm sz f h) : ∀ m, sumTo h m ≤ m * 1024
  | 0 => by simp [sumTo]
  | m + 1 => by
    rw [sumTo_succ]
    have := sumTo_le H m
    have := rowOf_len H ((m : Int) - 1)
    omega
end Go.Proofs.YtbljphaklciinaaGreat

/- The acts of layer 12's laws, as arguments. -/
namespace Go.Proofs.YtbljphaklciinaaGreat
open Go.ChangeShapes Go.WideShapes Go.RowKit

structure Act12 where
  K : Int
  N : Int
  S : Int
  Q : Int
  D : Int
instance : Inhabited Act12 := ⟨⟨0, 0, 0, 0, 0⟩⟩

/-- A row of acts. -/
def Acts12 (W : World) (A : Option Addr) (n : Nat) (L : Nat → Act12) : Prop := ∀ i, i < n → ∃ g off, A = some ⟨g, off, none⟩ ∧ g < W.heap.size ∧
  W.cell? ⟨g, off + i * 5, none⟩ = some (.int .i64 (L i).K) ∧ W.cell? ⟨g, off + i * 5 + 1, none⟩ = some (.int .i64 (L i).N) ∧ W.cell? ⟨g, off + i * 5 + 2, none⟩ = some (.int .i64 (L i).S) ∧
  W.cell? ⟨g, off + i * 5 + 3, none⟩ = some (.int .i64 (L i).Q) ∧ W.cell? ⟨g, off + i * 5 + 4, none⟩ = some (.int .u64 (L i).D) ∧
  (-9223372036854775808 ≤ (L i).N ∧ (L i).N ≤ 9223372036854775807) ∧ (-9223372036854775808 ≤ (L i).S ∧ (L i).S ≤ 9223372036854775807) ∧ (-9223372036854775808 ≤ (L i).Q ∧ (L i).Q ≤ 9223372036854775807) ∧ (0 ≤ (L i).D ∧ (L i).D < 18446744073709551616)

section
variable {H : Type} {enc : TypeId × Value → H} {W : World} {base : Nat} {args : Array Value} {ds : List (DataW H)} {p : List MemPlace}

theorem wf_i64 {x : Int} (h : (Lit.int .i64 x).wf = true) : -9223372036854775808 ≤ x ∧ x ≤ 9223372036854775807 := by
  simp only [Lit.wf, Bool.and_eq_true, decide_eq_true_eq] at h
  exact h
theorem wf_u64 {x : Int} (h : (Lit.int .u64 x).wf = true) : 0 ≤ x ∧ x < 18446744073709551616 := by
  simp only [Lit.wf, Bool.and_eq_true, decide_eq_true_eq] at h
  have h1 : (0 : Int) ≤ x := h.1
  have h2 : x ≤ 18446744073709551615 := h.2
  omega

theorem cells_act12 : Tryz.prog.cellsOf 43 = 5 := by kernel_rfl
set_option maxRecDepth 100000 in
theorem open_acts12 {v : Value} {d : DataW H} {ps : List MemPlace} (hv : Value.okWide Tryz.prog W .any base 40 v) (h : DataW.Trod enc Tryz.prog W 0 (fun _ => true) true 40 v d ps) (hlt : ∀ x ∈ ps, x.block < W.heap.size) :
    ∃ A n c L, v = .slice A n c ∧ n ≤ c ∧ c ≤ maxLen ∧ Acts12 W A n L := by
  obtain ⟨A, n, c, rfl, hn, hc, hi⟩ := arg_structs Tryz.underlying40 Tryz.underlying43 (by kernel_rfl) cells_act12 (by decide) hv h hlt
  have hx : ∀ i, i < n → ∃ x : Act12, ∃ g off, A = some ⟨g, off, none⟩ ∧ g < W.heap.size ∧
      W.cell? ⟨g, off + i * 5, none⟩ = some (.int .i64 x.K) ∧ W.cell? ⟨g, off + i * 5 + 1, none⟩ = some (.int .i64 x.N) ∧ W.cell? ⟨g, off + i * 5 + 2, none⟩ = some (.int .i64 x.S) ∧
      W.cell? ⟨g, off + i * 5 + 3, none⟩ = some (.int .i64 x.Q) ∧ W.cell? ⟨g, off + i * 5 + 4, none⟩ = some (.int .u64 x.D) ∧
      (-9223372036854775808 ≤ x.N ∧ x.N ≤ 9223372036854775807) ∧ (-9223372036854775808 ≤ x.S ∧ x.S ≤ 9223372036854775807) ∧ (-9223372036854775808 ≤ x.Q ∧ x.Q ≤ 9223372036854775807) ∧ (0 ≤ x.D ∧ x.D < 18446744073709551616) := fun i hin => by
    obtain ⟨b, off, hA, hb, hf⟩ := hi i hin
    obtain ⟨u0, y0, f0, c0, t0, _⟩ := hf 0 _ rfl
    obtain ⟨u1, y1, f1, c1, t1, _⟩ := hf 1 _ rfl
    obtain ⟨u2, y2, f2, c2, t2, _⟩ := hf 2 _ rfl
    obtain ⟨u3, y3, f3, c3, t3, _⟩ := hf 3 _ rfl
    obtain ⟨u4, y4, f4, c4, t4, _⟩ := hf 4 _ rfl
    obtain ⟨x, hx, _, _⟩ := DataW.trod_int Tryz.underlying3 t0
    obtain ⟨y, hy, _, wy⟩ := DataW.trod_int Tryz.underlying3 t1
    obtain ⟨z, hz, _, wz⟩ := DataW.trod_int Tryz.underlying3 t2
    obtain ⟨q, hq, _, wq⟩ := DataW.trod_int Tryz.underlying3 t3
    obtain ⟨d, hd, _, wd⟩ := DataW.trod_int Tryz.underlying29 t4
    simp at hx hy hz hq hd
    subst hx hy hz hq hd
    exact ⟨⟨x, y, z, q, d⟩, b, off, hA, hb, c0, c1, c2, c3, c4, wf_i64 wy, wf_i64 wz, wf_i64 wq, wf_u64 wd⟩
  obtain ⟨L, hk⟩ := Go.Deep.choose_lt hx
  exact ⟨A, n, c, L, rfl, hn, hc, hk⟩
end
end Go.Proofs.YtbljphaklciinaaGreat

/- HeapKeeps, walked: without the document's answer: asking pages that there are, or room in segments that there are, never takes one from the arena; all classes' pages together are all. -/
namespace Go.Proofs.YtbljphaklciinaaGreat
open Go.ChangeShapes Go.WideShapes Go.RowKit

set_option maxRecDepth 100000 in
set_option maxHeartbeats 16000000 in
theorem keeps_walk (W : World) (A : Option Addr) (n c : Nat) (L : Nat → Act12) (hn : n ≤ c) (hc : c ≤ maxLen) (hf : Acts12 W A n L) :
    Calls Tryz.prog 5 #[.slice A n c] W (TrueBelow W) := by
  have HF := Lib.hid hf
  clear hf
  unfold maxLen at hc
  go_enter Tryz.func5, Tryz.ntmps5
  go_wp2_with fail
  refine (alive12 W).mono ?_
  rintro e w1 ⟨rfl, B1⟩
  have HM : Hid (Calls Tryz.prog 9 #[.int .i64 8, .int .i64 8] w1 fun e w' => ∃ ro bm bb bh ba bk bt, e = .returned (.tuple #[.pointer (some ⟨bh, 0, none⟩), .pointer (some ⟨bm, 0, none⟩), .pointer (some ⟨ba, 0, none⟩), .bool true]) ∧
      LawH W ro 0 w' bm bb (8 * 16384) (fun _ => 0) (newHR bh ba 7) (newAr bk bt 8) ∧ Below w1.heap.size w1 w') := made_ok B1 8 (by omega) (by omega)
  clear B1
  go_wp2_with fail
  refine HM.out.mono ?_
  rintro e w2 ⟨ro, bm, bb, bh, ba, bk, bt, rfl, L2, _⟩
  have B2 := L2.below
  have HK2 : Hid (KS W bh ba 8 0 0 w2) := ⟨ro, bm, bb, _, _, _, L2, ⟨rfl, rfl, by funext j; simp [newAr], rfl, by omega, nofun, Nat.le_refl _⟩, rfl, rfl⟩
  clear L2 HM
  by_cases hbig : (100 : Int) < n
  · go_wp2_with fail
    go_ret
    exact ⟨rfl, B2⟩
  · clear B2
    go_wp2_with fail
    go_loopw [30] (fun ix wr => ∃ k : Nat, k ≤ n ∧ ix = .int .i64 k ∧ Hid (∃ j, KS W bh ba 8 j k wr)) (fun ix _ => n - (intOf ix).toNat)
    case atStart => exact ⟨0, by omega, rfl, 0, HK2.out⟩
    case round =>
      obtain ⟨k, hk, rfl, HKK⟩ := hrel
      by_cases hlt : k < n
      · obtain ⟨j, hj⟩ := HKK.out
        obtain ⟨g, off, hAe, hg, c0, c1, c2, c3, c4, bN, bS, _, _⟩ := HF.out k hlt
        have hBW := hj.below
        have d0 := (hBW.cell (p := ⟨g, off + k * 5, none⟩) hg).trans c0
        have d1 := (hBW.cell (p := ⟨g, off + k * 5 + 1, none⟩) hg).trans c1
        have d2 := (hBW.cell (p := ⟨g, off + k * 5 + 2, none⟩) hg).trans c2
        have d3 := (hBW.cell (p := ⟨g, off + k * 5 + 3, none⟩) hg).trans c3
        have d4 := (hBW.cell (p := ⟨g, off + k * 5 + 4, none⟩) hg).trans c4
        have HX := Lib.hid (hj.block (.cells #[.int .i64 (L k).K, .int .i64 (L k).N, .int .i64 (L k).S, .int .i64 (L k).Q, .int .u64 (L k).D] 43))
        have HBN := Lib.hid bN
        have HBS := Lib.hid bS
        obtain ⟨Kk, hKk⟩ : ∃ Kk, Kk = (L k).K := ⟨_, rfl⟩
        obtain ⟨Nn, hNn⟩ : ∃ Nn, Nn = (L k).N := ⟨_, rfl⟩
        obtain ⟨Ss, hSs⟩ : ∃ Ss, Ss = (L k).S := ⟨_, rfl⟩
        obtain ⟨Qq, hQq⟩ : ∃ Qq, Qq = (L k).Q := ⟨_, rfl⟩
        obtain ⟨Dd, hDd⟩ : ∃ Dd, Dd = (L k).D := ⟨_, rfl⟩
        rw [← hKk] at d0 HX
        rw [← hNn] at d1 HX HBN
        rw [← hSs] at d2 HX HBS
        rw [← hQq] at d3 HX
        rw [← hDd] at d4 HX
        subst hAe
        clear hKk hNn hSs hQq hDd c0 c1 c2 c3 c4 bN bS hj hBW HKK
        by_cases hK : Kk = 2
        · subst hK
          go_wp2_with fail
          refine (grow_k HX.out (by omega) (by omega)).mono ?_
          rintro e w3 ⟨v, j', rfl, K3⟩
          have HK3 := Lib.hid K3
          clear K3 HX d0 d1 d2 d3 d4
          go_wp2_with fail
          refine (given_k HK3.out).mono ?_
          rintro e w4 ⟨rfl, K4⟩
          have HK4 := Lib.hid K4
          have n4 := K4.cell (j := 1) rfl
          clear K4 HK3
          go_wp2_with fail
          refine (local_k HK4.out Nn HBN.out.1 HBN.out.2).mono ?_
          rintro e w5 ⟨v1, v2, rfl, K5⟩
          have HK5 := Lib.hid K5
          have n5 := K5.cell (j := 1) rfl
          have s5 := K5.cell (j := 2) rfl
          clear K5 HK4 n4
          go_wp2_with fail
          refine (fresh_k HK5.out Nn Ss 0 0 HBN.out.1 HBN.out.2 HBS.out.1 HBS.out.2).mono ?_
          rintro e w6 ⟨v3, v4, rfl, K6⟩
          have HK6 := Lib.hid K6
          clear K6 HK5 n5 s5
          go_wp2_with fail
          refine (given_k HK6.out).mono ?_
          rintro e w7 ⟨rfl, K7⟩
          have HK7 := Lib.hid K7.to_s
          clear K7 HK6
          go_wp2_with fail
          obtain ⟨ro7, bm7, bb7, f7, h7, a7, L7, J7, hb7, hba7⟩ := HK7.out
          have HL7 := Lib.hid L7
          have HPA : Hid (∀ w8, Below w7.heap.size w7 w8 → ∀ m : Nat, m < 13 → Calls Tryz.prog 21 #[.pointer (some ⟨bh, 0, none⟩), .slice (some ⟨w8.heap.size, 0, none⟩) 1 1] (w8.alloc (.cells #[.int .i64 ((m : Int) - 1)] 3)) fun e w' => (∃ A cap, e = .returned (.slice A (rowOf h7 ((m : Int) - 1)).length cap)) ∧ Below w8.heap.size w8 w') := fun w8 hb m hm => by
            have := pages_one (L7.on hb) ((m : Int) - 1) (by omega) (by omega)
            rw [hb7] at this
            exact this
          have HPE : Hid (∀ w8, Below w7.heap.size w7 w8 → Calls Tryz.prog 21 #[.pointer (some ⟨bh, 0, none⟩), .slice none 0 0] w8 fun e w' => (∃ A cap, e = .returned (.slice A (sumTo h7 13) cap)) ∧ Below w8.heap.size w8 w') := fun w8 hb => by
            have := pages_every (L7.on hb)
            rw [hb7, ← sumTo_all] at this
            exact this
          have HSL : Hid (∀ m, sumTo h7 m ≤ m * 1024) := sumTo_le L7.hp.hp
          have HRL : Hid (∀ c, (rowOf h7 c).length ≤ 1024) := rowOf_len L7.hp.hp
          have HKS : Hid (∀ w8, Below w7.heap.size w7 w8 → ∃ j, KS W bh ba 8 j (k + 1) w8) := fun w8 hb => ⟨_, ro7, bm7, bb7, f7, h7, a7, L7.on hb, J7, hb7, hba7⟩
          clear L7 J7 hb7 hba7 HK7 HL7
          go_loopw [10, 11] (fun nv cv wr2 => ∃ m : Nat, m ≤ 13 ∧ cv = .int .i64 ((m : Int) - 1) ∧ nv = .int .i64 (sumTo h7 m) ∧ Hid (Below w7.heap.size w7 wr2)) (fun _ cv _ => 13 - ((intOf cv) + 1).toNat)
          case atStart => exact ⟨0, by omega, rfl, by simp [sumTo], Below.refl _ _⟩
          case round =>
            obtain ⟨m, hm, rfl, rfl, HB⟩ := hrel
            by_cases hm2 : m < 13
            · have HP := Lib.hid (HPA.out _ HB.out m hm2)
              obtain ⟨rl, hrl⟩ : ∃ rl, rl = (rowOf h7 ((m : Int) - 1)).length := ⟨_, rfl⟩
              obtain ⟨sm, hsm⟩ : ∃ sm, sm = sumTo h7 m := ⟨_, rfl⟩
              have hr1 : rl ≤ 1024 := by rw [hrl]; exact HRL.out _
              have hs1 : sm ≤ 13 * 1024 := by have := HSL.out m; omega
              have HSU : Hid (sumTo h7 (m + 1) = sm + rl) := by rw [hrl, hsm]; exact sumTo_succ h7 m
              rw [← hrl] at HP
              rw [← hsm]
              clear hrl hsm
              go_wp2_with fail
              refine HP.out.mono ?_
              rintro e w9 ⟨⟨A9, c9, rfl⟩, hb9⟩
              have HB9 : Hid (Below w7.heap.size w7 w9) := HB.out.trans (hb9.mono HB.out.size)
              clear hb9 HP
              go_wp2_with fail
              go_roundw
              case rel => exact ⟨m + 1, by omega, by go_num, by rw [HSU.out]; go_num, HB9⟩
              case measure => simp [intOf]; omega
            · obtain rfl : m = 13 := by omega
              have HP := Lib.hid (HPE.out _ HB.out)
              obtain ⟨sm, hsm⟩ : ∃ sm, sm = sumTo h7 13 := ⟨_, rfl⟩
              rw [← hsm] at HP ⊢
              clear hsm
              go_wp2_with fail
              refine HP.out.mono ?_
              rintro e w9 ⟨⟨A9, c9, rfl⟩, hb9⟩
              have HB9 : Hid (Below w7.heap.size w7 w9) := HB.out.trans (hb9.mono HB.out.size)
              clear hb9 HP
              go_wp2_with fail
              go_roundw
              case rel => exact ⟨k + 1, by omega, by go_num, HKS.out _ HB9.out⟩
              case measure => simp [intOf]; omega
        · have q0 : (Kk == 2) = false := by simpa using hK
          have HK3 := Lib.hid HX.out.le
          clear hK HX
          go_wp2_with fail
          clear d0 d1 d2 d3 d4
          go_wp2_with fail
          refine (given_k HK3.out).mono ?_
          rintro e w4 ⟨rfl, K4⟩
          have HK4 := Lib.hid K4
          have n4 := K4.cell (j := 1) rfl
          clear K4 HK3
          go_wp2_with fail
          refine (local_k HK4.out Nn HBN.out.1 HBN.out.2).mono ?_
          rintro e w5 ⟨v1, v2, rfl, K5⟩
          have HK5 := Lib.hid K5
          have n5 := K5.cell (j := 1) rfl
          have s5 := K5.cell (j := 2) rfl
          clear K5 HK4 n4
          go_wp2_with fail
          refine (fresh_k HK5.out Nn Ss 0 0 HBN.out.1 HBN.out.2 HBS.out.1 HBS.out.2).mono ?_
          rintro e w6 ⟨v3, v4, rfl, K6⟩
          have HK6 := Lib.hid K6
          clear K6 HK5 n5 s5
          go_wp2_with fail
          refine (given_k HK6.out).mono ?_
          rintro e w7 ⟨rfl, K7⟩
          have HK7 := Lib.hid K7.to_s
          clear K7 HK6
          go_wp2_with fail
          obtain ⟨ro7, bm7, bb7, f7, h7, a7, L7, J7, hb7, hba7⟩ := HK7.out
          have HL7 := Lib.hid L7
          have HPA : Hid (∀ w8, Below w7.heap.size w7 w8 → ∀ m : Nat, m < 13 → Calls Tryz.prog 21 #[.pointer (some ⟨bh, 0, none⟩), .slice (some ⟨w8.heap.size, 0, none⟩) 1 1] (w8.alloc (.cells #[.int .i64 ((m : Int) - 1)] 3)) fun e w' => (∃ A cap, e = .returned (.slice A (rowOf h7 ((m : Int) - 1)).length cap)) ∧ Below w8.heap.size w8 w') := fun w8 hb m hm => by
            have := pages_one (L7.on hb) ((m : Int) - 1) (by omega) (by omega)
            rw [hb7] at this
            exact this
          have HPE : Hid (∀ w8, Below w7.heap.size w7 w8 → Calls Tryz.prog 21 #[.pointer (some ⟨bh, 0, none⟩), .slice none 0 0] w8 fun e w' => (∃ A cap, e = .returned (.slice A (sumTo h7 13) cap)) ∧ Below w8.heap.size w8 w') := fun w8 hb => by
            have := pages_every (L7.on hb)
            rw [hb7, ← sumTo_all] at this
            exact this
          have HSL : Hid (∀ m, sumTo h7 m ≤ m * 1024) := sumTo_le L7.hp.hp
          have HRL : Hid (∀ c, (rowOf h7 c).length ≤ 1024) := rowOf_len L7.hp.hp
          have HKS : Hid (∀ w8, Below w7.heap.size w7 w8 → ∃ j, KS W bh ba 8 j (k + 1) w8) := fun w8 hb => ⟨_, ro7, bm7, bb7, f7, h7, a7, L7.on hb, J7, hb7, hba7⟩
          clear L7 J7 hb7 hba7 HK7 HL7
          go_loopw [10, 11] (fun nv cv wr2 => ∃ m : Nat, m ≤ 13 ∧ cv = .int .i64 ((m : Int) - 1) ∧ nv = .int .i64 (sumTo h7 m) ∧ Hid (Below w7.heap.size w7 wr2)) (fun _ cv _ => 13 - ((intOf cv) + 1).toNat)
          case atStart => exact ⟨0, by omega, rfl, by simp [sumTo], Below.refl _ _⟩
          case round =>
            obtain ⟨m, hm, rfl, rfl, HB⟩ := hrel
            by_cases hm2 : m < 13
            · have HP := Lib.hid (HPA.out _ HB.out m hm2)
              obtain ⟨rl, hrl⟩ : ∃ rl, rl = (rowOf h7 ((m : Int) - 1)).length := ⟨_, rfl⟩
              obtain ⟨sm, hsm⟩ : ∃ sm, sm = sumTo h7 m := ⟨_, rfl⟩
              have hr1 : rl ≤ 1024 := by rw [hrl]; exact HRL.out _
              have hs1 : sm ≤ 13 * 1024 := by have := HSL.out m; omega
              have HSU : Hid (sumTo h7 (m + 1) = sm + rl) := by rw [hrl, hsm]; exact sumTo_succ h7 m
              rw [← hrl] at HP
              rw [← hsm]
              clear hrl hsm
              go_wp2_with fail
              refine HP.out.mono ?_
              rintro e w9 ⟨⟨A9, c9, rfl⟩, hb9⟩
              have HB9 : Hid (Below w7.heap.size w7 w9) := HB.out.trans (hb9.mono HB.out.size)
              clear hb9 HP
              go_wp2_with fail
              go_roundw
              case rel => exact ⟨m + 1, by omega, by go_num, by rw [HSU.out]; go_num, HB9⟩
              case measure => simp [intOf]; omega
            · obtain rfl : m = 13 := by omega
              have HP := Lib.hid (HPE.out _ HB.out)
              obtain ⟨sm, hsm⟩ : ∃ sm, sm = sumTo h7 13 := ⟨_, rfl⟩
              rw [← hsm] at HP ⊢
              clear hsm
              go_wp2_with fail
              refine HP.out.mono ?_
              rintro e w9 ⟨⟨A9, c9, rfl⟩, hb9⟩
              have HB9 : Hid (Below w7.heap.size w7 w9) := HB.out.trans (hb9.mono HB.out.size)
              clear hb9 HP
              go_wp2_with fail
              go_roundw
              case rel => exact ⟨k + 1, by omega, by go_num, HKS.out _ HB9.out⟩
              case measure => simp [intOf]; omega
      · obtain rfl : k = n := by omega
        obtain ⟨j, hj⟩ := HKK.out
        have hBW := hj.below
        clear hj
        go_wp2_with fail
        go_ret
        exact ⟨rfl, hBW⟩

section
variable {H : Type} {enc : TypeId × Value → H} {W : World} {base : Nat} {args : Array Value} {ds : List (DataW H)} {p : List MemPlace}
set_option maxRecDepth 100000 in
theorem HeapKeeps_run (hval : ∀ (j : Nat) t v, #[40][j]? = some t → args[j]? = some v → Value.okWide Tryz.prog W .any base t v)
    (hA : DataW.TrodAll enc Tryz.prog W 0 (fun _ => true) true [40] args.toList ds p) (hlt : ∀ x ∈ p, x.block < W.heap.size) :
    Calls Tryz.prog 5 args W (TrueBelow W) := by
  obtain ⟨v0, d0, rfl, rfl, h0⟩ := trodAll_one hA
  obtain ⟨A, n, c, L, rfl, hn, hc, hf⟩ := open_acts12 (hval 0 40 v0 rfl rfl) h0 hlt
  exact keeps_walk W A n c L hn hc hf
end
end Go.Proofs.YtbljphaklciinaaGreat

/- 'allotmentlaw12.HeapKeeps' returns true for every input, and each argument reads afterwards as it read before. No condition. -/
namespace Go.Proofs.YtbljphaklciinaaGreat
open Go.ChangeShapes Go.WideShapes Go.ChangeAt Go.RowKit

set_option maxRecDepth 100000 in
theorem HeapKeeps_lifted (os : Os) (started : os.Started) (H : Type) (enc : TypeId × Value → H) :
    ReturnsInHanded {} Tryz.checked os 5 .any (Rows.heapKeepsSpec.pre6 enc Tryz.prog Tryz.f5 Rows.heapKeepsRow.domain false) (Rows.heapKeepsSpec.post enc Tryz.prog Tryz.f5 false true false false) := by
  refine returnsInHanded_of_change (C := Tryz.checked) Tryz.own started (by kernel_rfl) Tryz.func5
    (ChangeSpec.witness6 (enc := enc) (C := Tryz.checked) false ⟨#[], #[.slice none 0 0], []⟩ 8 (by kernel_rfl) (by kernel_rfl) (by kernel_rfl) (by kernel_rfl)) ?_
  intro W base args ds gs before hval0 hW hcnd _
  have hval : ∀ (j : Nat) t v, Tryz.f5.params[j]? = some t → args[j]? = some v → Value.okWide Tryz.prog W .any base t v := hval0
  have hW' := hW
  obtain ⟨p, q, hA0, hV, rfl, _, _⟩ := hW
  have hA : DataW.TrodAll enc Tryz.prog W 0 (fun _ => true) true Tryz.f5.params.toList args.toList ds p := hA0
  obtain ⟨rfl, rfl⟩ := trodVars_none hV
  have hlt : ∀ x ∈ p, x.block < W.heap.size := fun x hx => hW'.lt x (List.mem_append.2 (.inl hx))
  rw [Tryz.params5] at hA hval
  have hrun := HeapKeeps_run hval hA hlt
  refine hrun.mono fun e W' ⟨he, hb⟩ => ?_
  subst he
  refine ⟨_, rfl, law_post Tryz.laidOut ?_ rfl hW' ?_ ?_ ?_ rfl Tryz.underlying4 hb⟩
  · rw [Tryz.params5]
    intro t ht
    refine ⟨?_, ?_⟩
    · revert t ht; exact of_decide_eq_true (by kernel_rfl)
    · revert t ht; exact of_decide_eq_true (by kernel_rfl)
  all_goals
    obtain ⟨l⟩ := args
    obtain ⟨v0, vs0, d0, ds0, p0, q0, rfl, rfl, rfl, h0, r0⟩ := trodAll_cons hA
    obtain ⟨rfl, rfl, rfl⟩ := trodAll_nil r0
    rfl

theorem HeapKeeps_holds : Rows.HeapKeepsSaid :=
  OpenClaim.holds_of_wide 5 Tryz.f5 rfl rfl rfl rfl rfl rfl rfl ⟨rfl, rfl, rfl, rfl, rfl⟩ rfl rfl rfl rfl rfl (by kernel_rfl) Tryz.func5
    (joined_of Tryz.may Tryz.lifts Tryz.makes (by kernel_rfl) Tryz.laidOut (by kernel_rfl) (by kernel_rfl) (by kernel_rfl) (by kernel_rfl) (by kernel_rfl) (by kernel_rfl) (by kernel_rfl) (by kernel_rfl) (by kernel_rfl) (by kernel_rfl) (by kernel_rfl) (by kernel_rfl) (by kernel_rfl) (by kernel_rfl) (by kernel_rfl) (by kernel_rfl) (by kernel_rfl) (by kernel_rfl) (by kernel_rfl) (by kernel_rfl) (by kernel_rfl) (by kernel_rfl) (by kernel_rfl) (by kernel_rfl) (by kernel_rfl) rfl rfl (by kernel_rfl) (by kernel_rfl) (by kernel_rfl))
    (of_decide_eq_true (by kernel_rfl)) (by unfold Func.isWrapper; rw [if_neg (of_decide_eq_false (by kernel_rfl))]; exact ⟨rfl, rfl⟩)
    (fun os started H enc _ => HeapKeeps_lifted os started H enc)
#print axioms HeapKeeps_holds
end Go.Proofs.YtbljphaklciinaaGreat
