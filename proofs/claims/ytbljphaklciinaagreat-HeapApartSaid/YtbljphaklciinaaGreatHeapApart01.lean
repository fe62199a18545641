/- Walks of the program's functions, and plain laws on what they compute, text by text (Args, Law, FactsH, InsM, ReserveM, GrowM, KeepsA, Get). No condition. -/
import Derived.Test.YtbljphaklciinaaGreatHb09
import Derived.Deep.Slices
import Derived.Deep.Fields
import Derived.ChangeSame
import Derived.Below
import Derived.Carry
import Derived.OpenShut
import Derived.ProofKit
import Derived.Lib.Overlaps
import Derived.Lib.AppendZerosOnto
import Derived.Laws.IdiomCopy
import Derived.Shelf.Spec.SlicesInsert

/- Arguments that are slices, opened to their cells: one for any program. -/
namespace Go.Proofs.YtbljphaklciinaaGreat
open Go.ChangeShapes Go.WideShapes Go.Deep Go.RowKit

section
variable {H : Type} {enc : TypeId × Value → H} {P : Program} {W : World} {held : Bool}

theorem cell_head {w : World} {a : Addr} {v : Value} (h : w.cell? (a.add 0) = some v) : ∃ b off, a = ⟨b, off, none⟩ := by
  obtain ⟨b, off, spot⟩ := a
  have hs := World.cell?_spot h
  simp [Addr.add] at hs
  subst hs
  exact ⟨b, off, rfl⟩
theorem cell_plain {w : World} {b off : Nat} {i : Nat} {v : Value} (h : w.cell? ((⟨b, off, none⟩ : Addr).add i) = some v) : w.cell? ⟨b, off + i, none⟩ = some v := by
  rw [← h]
  congr 1
  unfold Addr.add
  split
  · rename_i h0; simp [h0]
  · rfl

theorem mem_row_head {a : Addr} {m : Nat} (h : 0 < m) : MemPlace.cell a.block a.off ∈ MemPlace.row a m := by
  exact MemPlace.mem_row.2 ⟨0, h, by simp⟩

/-- Elements of one cell each. -/
theorem arg_slice1 {t e : TypeId} {v : Value} {d : DataW H} {ps : List MemPlace} {N : Nat} {B : Nat} {r : Reach} (ht : P.underlying t = some (.slice e)) (hc : P.cellsOf e = 1)
    (hv : Value.okWide P W r B t v) (h : DataW.Trod enc P W 0 (fun _ => true) held t v d ps) (hlt : ∀ x ∈ ps, x.block < N) :
    ∃ (A : Option Addr) (n c : Nat) (V : Nat → Value), v = .slice A n c ∧ n ≤ c ∧ c ≤ maxLen ∧
      ∀ i, i < n → ∃ b off fuel y, A = some ⟨b, off, none⟩ ∧ b < N ∧ W.cell? ⟨b, off + i, none⟩ = some (V i) ∧ DataW.trod enc P W 0 (fun _ => true) held fuel e [V i] = some y := by
  obtain ⟨a0, len, cap, rfl⟩ := okWide_slice ht hv
  obtain ⟨fuel, hf⟩ := h
  rcases open_slice1 ht hc hf with ⟨hcs, hx⟩ | ⟨a, len', cap', m, n, V, D, Pl, hcs, _, hl, hm, hmm, hx, hi⟩
  · simp [Value.cells] at hcs
    obtain ⟨rfl, rfl, rfl⟩ := hcs
    exact ⟨none, 0, 0, fun _ => .int .i64 0, rfl, Nat.le_refl _, Nat.zero_le _, fun i h => by omega⟩
  · simp [Value.cells] at hcs
    obtain ⟨rfl, rfl, rfl⟩ := hcs
    simp only [Prod.mk.injEq] at hx
    refine ⟨some a, len, cap, V, rfl, hl, hm, fun i hin => ?_⟩
    simp only [if_true] at hmm
    obtain ⟨b, off, rfl⟩ := cell_head (hi 0 (by omega)).1
    obtain ⟨hcell, htr⟩ := hi i (by omega)
    refine ⟨b, off, n, _, rfl, ?_, cell_plain hcell, htr⟩
    exact hlt (.cell b off) (by rw [hx.2]; exact List.mem_append.2 (.inl (mem_row_head (a := ⟨b, off, none⟩) (by omega))))

/-- A slice of integers of one kind. -/
theorem arg_ints {t e : TypeId} {k : IntKind} {v : Value} {d : DataW H} {ps : List MemPlace} {N : Nat} {B : Nat} {r : Reach} (ht : P.underlying t = some (.slice e)) (he : P.underlying e = some (.int k)) (hc : P.cellsOf e = 1)
    (hv : Value.okWide P W r B t v) (h : DataW.Trod enc P W 0 (fun _ => true) held t v d ps) (hlt : ∀ x ∈ ps, x.block < N) :
    ∃ (A : Option Addr) (n c : Nat) (f : Nat → Int), v = .slice A n c ∧ n ≤ c ∧ c ≤ maxLen ∧
      ∀ i, i < n → ∃ b off, A = some ⟨b, off, none⟩ ∧ b < N ∧ W.cell? ⟨b, off + i, none⟩ = some (.int k (f i)) ∧ (Lit.int k (f i)).wf = true := by
  obtain ⟨A, n, c, V, rfl, h1, h2, hi⟩ := arg_slice1 ht hc hv h hlt
  have hf : ∀ i, i < n → ∃ x : Int, V i = .int k x ∧ (Lit.int k x).wf = true := fun i hin => by
    obtain ⟨b, off, fuel, y, _, _, _, htr⟩ := hi i hin
    obtain ⟨x, hx, _, hw⟩ := DataW.trod_int he htr
    simp at hx
    exact ⟨x, hx, hw⟩
  obtain ⟨f, hf⟩ := choose_lt hf
  refine ⟨A, n, c, f, rfl, h1, h2, fun i hin => ?_⟩
  obtain ⟨b, off, fuel, y, hA, hb, hcell, _⟩ := hi i hin
  obtain ⟨e1, e2⟩ := hf i hin
  exact ⟨b, off, hA, hb, by rw [hcell, e1], e2⟩

theorem arg_bools {t e : TypeId} {v : Value} {d : DataW H} {ps : List MemPlace} {N : Nat} {B : Nat} {r : Reach} (ht : P.underlying t = some (.slice e)) (he : P.underlying e = some .bool) (hc : P.cellsOf e = 1)
    (hv : Value.okWide P W r B t v) (h : DataW.Trod enc P W 0 (fun _ => true) held t v d ps) (hlt : ∀ x ∈ ps, x.block < N) :
    ∃ (A : Option Addr) (n c : Nat) (f : Nat → Bool), v = .slice A n c ∧ n ≤ c ∧ c ≤ maxLen ∧
      ∀ i, i < n → ∃ b off, A = some ⟨b, off, none⟩ ∧ b < N ∧ W.cell? ⟨b, off + i, none⟩ = some (.bool (f i)) := by
  obtain ⟨A, n, c, V, rfl, h1, h2, hi⟩ := arg_slice1 ht hc hv h hlt
  have hf : ∀ i, i < n → ∃ x : Bool, V i = .bool x := fun i hin => by
    obtain ⟨b, off, fuel, y, _, _, _, htr⟩ := hi i hin
    obtain ⟨x, hx, _⟩ := DataW.trod_bool he htr
    simp at hx
    exact ⟨x, hx⟩
  obtain ⟨f, hf⟩ := choose_lt hf
  refine ⟨A, n, c, f, rfl, h1, h2, fun i hin => ?_⟩
  obtain ⟨b, off, fuel, y, hA, hb, hcell, _⟩ := hi i hin
  exact ⟨b, off, hA, hb, by rw [hcell, hf i hin]⟩

/-- A slice of structs of one-cell fields: each field's cell, and that it reads. -/
theorem arg_structs {t e : TypeId} {fs : Array Field} {v : Value} {d : DataW H} {ps : List MemPlace} {N : Nat} {B : Nat} {r : Reach} (ht : P.underlying t = some (.slice e)) (he : P.underlying e = some (.struct fs))
    (hone : oneCellFields P fs = true) (hC : P.cellsOf e = fs.size) (h0 : 0 < fs.size)
    (hv : Value.okWide P W r B t v) (h : DataW.Trod enc P W 0 (fun _ => true) held t v d ps) (hlt : ∀ x ∈ ps, x.block < N) :
    ∃ (A : Option Addr) (n c : Nat), v = .slice A n c ∧ n ≤ c ∧ c ≤ maxLen ∧
      ∀ i, i < n → ∃ b off, A = some ⟨b, off, none⟩ ∧ b < N ∧
        ∀ (j : Nat) (f : Field), fs[j]? = some f → ∃ (u : Value) (y : DataW H × List MemPlace) (fuel : Nat), W.cell? ⟨b, off + (i * fs.size + j), none⟩ = some u ∧
          DataW.trod enc P W 0 (fun _ => true) held fuel f.type [u] = some y ∧ ∀ x ∈ y.2, x.block < N := by
  obtain ⟨a0, len, cap, rfl⟩ := okWide_slice ht hv
  obtain ⟨fuel, hf⟩ := h
  rcases open_slice ht hf with ⟨hcs, hx⟩ | ⟨a, len', cap', m, n, D, Pl, hcs, _, hl, hm, hmm, hx, hi⟩
  · simp [Value.cells] at hcs
    obtain ⟨rfl, rfl, rfl⟩ := hcs
    exact ⟨none, 0, 0, rfl, Nat.le_refl _, Nat.zero_le _, fun i h => by omega⟩
  · simp [Value.cells] at hcs
    obtain ⟨rfl, rfl, rfl⟩ := hcs
    simp only [Prod.mk.injEq] at hx
    refine ⟨some a, len, cap, rfl, hl, hm, fun i hin => ?_⟩
    simp only [if_true] at hmm
    rw [hC] at hi hx
    obtain ⟨cs', hc, ht'⟩ := hi i (by omega)
    obtain ⟨ys, n', hn', hy, hlen, hyl, hfld⟩ := DataW.trod_struct he ht'
    obtain ⟨_, hcl, hat⟩ := World.cells?_some hc
    simp only [Prod.mk.injEq] at hy
    have hsp : ∃ b off, a = ⟨b, off, none⟩ := by
      obtain ⟨cs0, hc0, _⟩ := hi 0 (by omega)
      obtain ⟨_, hcl0, hat0⟩ := World.cells?_some hc0
      have h00 := hat0 0 h0
      have hv0 : cs0[0]? = some (cs0[0]'(by omega)) := List.getElem?_eq_getElem (by omega)
      rw [hv0, Go.Deep.add_add] at h00
      simp only [Nat.zero_mul, Nat.add_zero] at h00
      exact cell_head h00
    obtain ⟨b, off, rfl⟩ := hsp
    refine ⟨b, off, rfl, ?_, ?_⟩
    · refine hlt (.cell b off) (by rw [hx.2]; exact List.mem_append.2 (.inl (mem_row_head (a := ⟨b, off, none⟩) (Nat.mul_pos (by omega) h0))))
    · intro j f hj
      obtain ⟨ho, hk⟩ := hone_of hone j f hj
      have hjl : j < fs.size := (Array.getElem?_eq_some_iff.1 hj).1
      have hcell := hat j hjl
      have hv1 : cs'[j]? = some (cs'[j]'(by omega)) := List.getElem?_eq_getElem (by omega)
      have h1 := hfld j f hj
      rw [ho, hk] at h1
      have hone' : (cs'.drop j).take 1 = [cs'[j]'(by omega)] := by
        rw [List.drop_eq_getElem_cons (by omega)]
        rfl
      rw [hone'] at h1
      have hys : ys[j]? = some (ys[j]'(by omega)) := List.getElem?_eq_getElem (by omega)
      rw [hv1, Go.Deep.add_add] at hcell
      refine ⟨_, ys[j]'(by omega), n', cell_plain hcell, h1.trans hys, fun x hx' => ?_⟩
      refine hlt x ?_
      rw [hx.2]
      refine List.mem_append.2 (.inr (List.mem_flatMap.2 ⟨i, List.mem_range.2 (by omega), ?_⟩))
      rw [hy.2]
      exact List.mem_flatMap.2 ⟨ys[j]'(by omega), List.getElem_mem _, hx'⟩

end
end Go.Proofs.YtbljphaklciinaaGreat

/- What all rows of laws share: the law answers true, nothing that was there has turned, so its arguments read as they did. -/
namespace Go.Proofs.YtbljphaklciinaaGreat
open Go.ChangeShapes Go.WideShapes Go.ChangeAt Go.RowKit

theorem Tryz.own : ownKnob Tryz.prog.godebug = none := by kernel_rfl
theorem Tryz.laidOut : laidOutB Tryz.prog = true := by kernel_rfl

section
variable {H : Type} {enc : TypeId × Value → H} {P : Program}

theorem stays_all (hl : laidOutB P = true) {W W' : World} (hb : Below W.heap.size W W') : ∀ (ts : List TypeId) (vs : List Value) (ds : List (DataW H)) (ps : List MemPlace),
    (∀ t ∈ ts, P.readableRec t = true ∧ t < P.types.size) → (∀ x ∈ ps, x.block < W.heap.size) → DataW.TrodAll enc P W 0 (fun _ => true) true ts vs ds ps →
    DataW.TrodAll enc P W' 0 (fun b => decide (b < W.heap.size)) true ts vs ds ps
  | [], vs, ds, ps, _, _, h => by
    cases vs <;> cases ds <;> simp_all [DataW.TrodAll]
  | t :: ts, vs, ds, ps, ht, hp, h => by
    obtain ⟨v, vs', d, ds', p, q, rfl, rfl, rfl, h1, h2⟩ := trodAll_cons h
    refine ⟨p, q, Below.trod hl (ht t (by simp)).1 (ht t (by simp)).2 h1 hb (fun x hx => hp x (List.mem_append.2 (.inl hx))), ?_, rfl⟩
    exact stays_all hl hb ts vs' ds' q (fun t' ht' => ht t' (by simp [ht'])) (fun x hx => hp x (List.mem_append.2 (.inr hx))) h2

theorem law_post {f : Func} {s : ChangeSpec} {fresh handsOn : Bool} {W W' : World} {args : Array Value} {ds gs : List (DataW H)} {before : List MemPlace} {tb : TypeId}
    (hl : laidOutB P = true) (hr : ∀ t ∈ f.params.toList, P.readableRec t = true ∧ t < P.types.size) (hv : s.vars = [])
    (hW : DataW.Whole enc P f.params.toList s.vars false W args.toList ds gs before)
    (hres : (s.fn H (ds ++ gs)).results = [.lit (.bool true)]) (hargs : (s.fn H (ds ++ gs)).args = ds) (hvars : (s.fn H (ds ++ gs)).vars = [])
    (hrt : f.resultTypes = #[tb]) (htb : P.underlying tb = some .bool) (hb : Below W.heap.size W W') :
    s.post enc P f false fresh handsOn false W args (.bool true) W' := by
  have hlt : ∀ p ∈ before, p.block < W.heap.size := fun p hp => by simpa using hW.lt p hp
  have hW0 := hW
  obtain ⟨p, q, hA, hV, rfl, _, _⟩ := hW0
  rw [hv] at hV
  obtain ⟨rfl, rfl⟩ := trodVars_none hV
  simp only [List.append_nil] at hW hlt hres hargs hvars ⊢
  refine ⟨ds, [], p, [], p, [], hW, ?_, ?_, ?_, hb.frame _, fun h => by cases h⟩
  · simp only [List.append_nil]
    rw [hres, hrt]
    exact trodAll_mk1 (shut_bool htb true)
  · simp only [List.append_nil]
    rw [hargs]
    exact stays_all hl hb _ _ _ _ hr hlt hA
  · simp only [List.append_nil]
    rw [hvars, hv]
    rfl
end
end Go.Proofs.YtbljphaklciinaaGreat

/- The dump's head: its first words, and what all rows of this seat ask of them. -/
namespace Go.Proofs.YtbljphaklciinaaGreat
open Go.ChangeShapes Go.WideShapes Go.ChangeAt Go.RowKit

theorem words_space (a b : List Char) (h : ∀ c ∈ a, c ≠ (Char.ofNat 32)) : wordsSigns (a ++ (Char.ofNat 32) :: b) = a :: wordsSigns b := by
  induction a with
  | nil => simp [wordsSigns]
  | cons c a ih =>
    have hc : c ≠ (Char.ofNat 32) := h c (by simp)
    have hr := ih (fun d hd => h d (by simp [hd]))
    simp only [List.cons_append]
    conv => lhs; unfold wordsSigns
    split
    · rename_i e; cases e
    · rename_i e; simp only [List.cons.injEq] at e; exact absurd e.1 hc
    · rename_i c' r' _ e
      simp only [List.cons.injEq] at e
      obtain ⟨rfl, rfl⟩ := e
      rw [hr]

def headSum : String := "b9f8ceaee08ad6743f38ac4578515e812aed0f4ebe0aa47ff5619fadc0982cc7"
def headRest : String := "at allotment/allotmentlaw12.HeapFull allotment/allotmentlaw12.HeapApart allotment/allotmentlaw12.HeapKeeps allotment/allotmentlaw12.HeapMoves allotment/allotmentlaw12.HeapBack"
theorem head_eq : Tryz.prog.initOrder = "harness" ++ (" " ++ (headSum ++ (" " ++ ("cut" ++ (" " ++ headRest))))) := by kernel_rfl
theorem space_list : " ".toList = [Char.ofNat 32] := by kernel_rfl
theorem sum_plain : headSum.toList.all (fun c => c != Char.ofNat 32) = true := by kernel_rfl
theorem harness_plain : "harness".toList.all (fun c => c != Char.ofNat 32) = true := by kernel_rfl
theorem cut_plain : "cut".toList.all (fun c => c != Char.ofNat 32) = true := by kernel_rfl
theorem sum_signs : isSumSigns headSum.toList = true := by kernel_rfl
theorem harness_main : ("harness".toList == "harness".toList || "harness".toList == "ownmain".toList) = true := by kernel_rfl

theorem head_words : behindMainWord (wordsSigns Tryz.prog.initOrder.toList) = "cut".toList :: wordsSigns headRest.toList := by
  rw [head_eq]
  simp only [String.toList_append, space_list, List.singleton_append]
  rw [words_space _ _ (fun c hc => by simpa using List.all_eq_true.1 harness_plain c hc), words_space _ _ (fun c hc => by simpa using List.all_eq_true.1 sum_plain c hc),
    words_space _ _ (fun c hc => by simpa using List.all_eq_true.1 cut_plain c hc)]
  unfold behindMainWord
  dsimp only
  rw [harness_main, sum_signs]
  rfl

theorem cut_gc : ("cut".toList == "gc".toList || "cut".toList == "spec".toList) = false := by kernel_rfl
theorem cut_carried : ("cut".toList == "carried".toList) = false := by kernel_rfl
theorem cut_cut : ("cut".toList == "cut".toList) = true := by kernel_rfl
theorem strip_cut (rest : List (List Char)) : stripLifts liftWords ("cut".toList :: rest) = ([], "cut".toList :: rest) := by
  have h : ∀ o ∈ liftWords, ("cut".toList == o.toList) = false := of_decide_eq_true (by kernel_rfl)
  revert h
  generalize liftWords = l
  intro h
  induction l with
  | nil => rfl
  | cons o os ih =>
    unfold stripLifts
    rw [h o (by simp)]
    exact ih (fun p hp => h p (by simp [hp]))
theorem Tryz.later : Tryz.prog.laysLater = false := by kernel_rfl
theorem Tryz.reflect : Tryz.prog.bearsReflect = false := by kernel_rfl
theorem Tryz.door : Tryz.prog.doorFits [] = true := by kernel_rfl

theorem may_of {P : Program} {rest : List (List Char)} (h : behindMainWord (wordsSigns P.initOrder.toList) = "cut".toList :: rest) (h1 : P.laysLater = false) (h2 : P.bearsReflect = false) (h3 : P.doorFits [] = true) : P.mayEnter = true := by
  unfold Program.mayEnter
  rw [h]
  dsimp only
  rw [strip_cut, cut_gc, h1, h2, h3]
  simp
theorem lifts_of {P : Program} {rest : List (List Char)} (h : behindMainWord (wordsSigns P.initOrder.toList) = "cut".toList :: rest) : P.liftsFinal = false := by
  unfold Program.liftsFinal Program.headLifts
  rw [h, strip_cut]
  dsimp only [List.head?]
  simp [cut_carried]
theorem makes_of {P : Program} {rest : List (List Char)} (h : behindMainWord (wordsSigns P.initOrder.toList) = "cut".toList :: rest) : P.make = some .cut := by
  unfold Program.make
  rw [h]
  dsimp only
  rw [cut_gc, cut_cut]
  simp
theorem Tryz.may : Tryz.prog.mayEnter = true := may_of head_words Tryz.later Tryz.reflect Tryz.door
theorem Tryz.lifts : Tryz.prog.liftsFinal = false := lifts_of head_words
theorem Tryz.makes : Tryz.prog.make = some .cut := makes_of head_words

/-- The closed facts of a row, each by itself, what hangs on the head alone taken from above. -/
theorem joined_of {P : Program} {f : FuncId} {fn : Func} {s : ChangeSpec} {c : OpenClaim} (h1 : P.mayEnter = true) (h2 : P.liftsFinal = false) (h3 : P.make = some .cut)
    (k1 : c.wf (OpenSpec.ofChange s) = true) (k2 : laidOutB P = true) (k3 : mapsRowed P = true) (k4 : fn.params.all (P.readableRec ·) = true) (k5 : namedTie P c.named s.vars = true)
    (k6 : (c.stops == []) = true) (k7 : (P.stops == []) = true) (k8 : (c.knobs == []) = true) (k9 : (P.stopKnobs == []) = true)
    (k10 : (c.inPlace == P.inPlace f) = true) (k11 : (c.unfollowed == P.unfollowed f) = true) (k12 : (c.recurses == P.recurses f) = true) (k13 : (c.named == P.varsNamed f) = true)
    (k14 : (c.maps == (fn.params.toList ++ s.plain.varTypes P).any (P.mapsRec ·)) = true) (k15 : (c.ifaces == (fn.params.toList ++ s.plain.varTypes P).any (P.ifacesRec ·)) = true)
    (k16 : (c.mapsOut == P.mapsAmong fn.resultTypes.toList) = true) (k17 : (c.loops == (fn.params.toList ++ s.plain.varTypes P).any (P.loopsFrom ·)) = true)
    (k18 : (c.wideKeys == (fn.params.toList ++ s.plain.varTypes P ++ fn.resultTypes.toList).any (P.wideKeysFrom ·)) = true) (k19 : s.vars.all (P.varReadable ·) = true)
    (k20 : fn.resultTypes.all (fun t => P.readableRec t && decide (t < P.types.size)) = true) (k21 : (c.ifacesOut == fn.resultTypes.toList.any (P.ifacesRec ·)) = true)
    (k22 : (c.loopsOut == fn.resultTypes.toList.any (P.loopsFrom ·)) = true) (k23 : (c.plainKeys == P.plainKeys) = true) (k24 : c.shortTexts.isNone = true) (k25 : P.stopsHeard = true)
    (k26 : (c.lifted == false) = true) (k27 : (some Make.cut == some c.make) = true)
    (kd : c.domain = []) (kk : c.kinds = []) (k29 : (c.pinned == c.pinnedBy) = true)
    (k30 : (c.veiled == (fn.params.toList ++ s.plain.varTypes P ++ fn.resultTypes.toList).any (P.veiledRec ·)) = true)
    (k31 : c.veiledFits P fn.params.toList (fn.params.toList ++ s.plain.varTypes P ++ fn.resultTypes.toList) = true) : joinedFacts P f fn s c = true := by
  unfold joinedFacts
  rw [h1, h2, h3, k1, k2, k3, k4, k5, k6, k7, k8, k9, k10, k11, k12, k13, k14, k15, k16, k17, k18, k19, k20, k21, k22, k23, k24, k25, k26, k27, k29, k30, k31, kd, kk]
  rfl
end Go.Proofs.YtbljphaklciinaaGreat

/- Layer 4 (arena): slices.Insert ahead of some. -/
namespace Go.Proofs.YtbljphaklciinaaGreat
open Go.RowKit Go.Lib

/-- A copy of elements of two cells. -/
theorem run_copy2 {P : Program} (w : World) (dT sT ty elem : TypeId) (b o dLen dCap : Nat) (a : Addr) (sLen sCap : Nat) (cs : List Value)
    (hu : P.underlying dT = some (.slice elem)) (hs : (P.info? elem).map (·.size) = some 2) (hn : cs.length = Nat.min sLen dLen * 2)
    (hsrc : ∀ j v, cs[j]? = some v → w.cell? (a.add j) = some v) (hc : ∀ j, j < cs.length → (w.cell? ⟨b, o + j, none⟩).isSome = true) (hf : ∀ j, j < cs.length → w.frozen? ⟨b, o + j, none⟩ = false) (h1 : ∀ v ∈ cs, v.oneCell' = true) :
    (Builtin.copy_ #[dT, sT] ty #[.slice (some ⟨b, o, none⟩) dLen dCap, .slice (some a) sLen sCap]).run P w = .ok (goInt (Nat.min sLen dLen)) (w.setCells b o cs) := by
  have hl := run_loadCells_list (P := P) w a cs hsrc
  have hst := run_storeCells_cells (P := P) b o cs 0 w (by simpa using hc) (by simpa using hf) h1
  cases hq : P.info? elem with
  | none => simp [hq] at hs
  | some i =>
    have hi : i.size = 2 := by simpa [hq] using hs
    simp [Builtin.copy_, run_underlying hu, Builtin.lenOf, Builtin.firstCells, sizeOf, typeInfo, hq, hi, ← hn, hl, hst]

theorem flatR_take (R : List (Nat × Nat)) (i : Nat) : (flatR R).take (i * 2) = flatR (R.take i) := by
  induction R generalizing i with
  | nil => simp [flatR]
  | cons x r ih =>
    cases i with
    | zero => simp [flatR]
    | succ i =>
      have := ih i
      simp only [flatR, List.flatMap_cons, List.take_succ_cons] at this ⊢
      rw [show (i + 1) * 2 = i * 2 + 1 + 1 by omega]
      simp [this]
theorem flatR_drop (R : List (Nat × Nat)) (i : Nat) : (flatR R).drop (i * 2) = flatR (R.drop i) := by
  induction R generalizing i with
  | nil => simp [flatR]
  | cons x r ih =>
    cases i with
    | zero => simp [flatR]
    | succ i =>
      have := ih i
      simp only [flatR, List.flatMap_cons, List.drop_succ_cons] at this ⊢
      rw [show (i + 1) * 2 = i * 2 + 1 + 1 by omega]
      simp [this]
theorem flatR_ins (R : List (Nat × Nat)) (i a k : Nat) : (flatR R).take (i * 2) ++ [Value.int .i64 a, Value.int .i64 k] ++ (flatR R).drop (i * 2) = flatR (R.take i ++ (a, k) :: R.drop i) := by
  rw [flatR_take, flatR_drop, flatR_app]
  simp [flatR]

theorem over_two {cl D vs : List Value} {i n : Nat} (h1 : (i + 1) * 2 ≤ cl.length) (h2 : vs.length = 2) (h3 : i * 2 + 2 + D.length = (n + 1) * 2) :
    (over (over cl ((i + 1) * 2) D).toArray.toList (i * 2) vs).toArray.toList.take ((n + 1) * 2) = cl.take (i * 2) ++ vs ++ D := by
  have L1d : (over cl ((i + 1) * 2) D).drop (i * 2 + 2) = D ++ cl.drop ((i + 1) * 2 + D.length) := by
    unfold over
    rw [List.append_assoc, List.drop_left' (by simp; omega)]
  have L1t : (over cl ((i + 1) * 2) D).take (i * 2) = cl.take (i * 2) := by
    unfold over
    rw [List.append_assoc, List.take_append_of_le_length (by simp; omega), List.take_take, Nat.min_eq_left (by omega)]
  have e : over (over cl ((i + 1) * 2) D) (i * 2) vs = cl.take (i * 2) ++ vs ++ (D ++ cl.drop ((i + 1) * 2 + D.length)) := by
    rw [← L1t, ← L1d, ← h2]
    rfl
  show (over (over cl ((i + 1) * 2) D) (i * 2) vs).take _ = _
  rw [e, ← List.append_assoc, List.take_left' (by simp; omega)]

def InsTo (w : World) (B g : Nat) (R : List (Nat × Nat)) (i a k : Nat) (e : Ending) (w' : World) : Prop :=
  ∃ v', e = .returned v' ∧ w'.ownsRow B 172 2 v' (R.length + 1) (flatR (R.take i ++ (a, k) :: R.drop i)) ∧ w.grownBy w' (some g) ∧ (v'.ownBlock = some g ∨ v'.ownBlock = some w.heap.size)

theorem ins_len (R : List (Nat × Nat)) (i a k : Nat) (hi : i < R.length) : (flatR (R.take i ++ (a, k) :: R.drop i)).length = (R.length + 1) * 2 := by
  rw [flatR_len]
  simp
  omega

set_option maxRecDepth 100000 in
set_option maxHeartbeats 4000000 in
theorem insert_shift {w : World} {B g gv cap i a k : Nat} {R : List (Nat × Nat)} {cur : Array Value} (hB : B ≤ g) (hcur : w.heap[g]? = some (.cells cur 172 (0, 0))) (hsz : cur.size = cap * 2) (hroom : R.length + 1 ≤ cap) (hcap : cap ≤ maxLen) (hR : R.length ≤ 1000)
    (hx : cur.toList.take (R.length * 2) = flatR R) (hi : i < R.length) (hv : w.heap[gv]? = some (.cells #[.int .i64 a, .int .i64 k] 172 (0, 0))) (hgv : gv ≠ g) :
    Calls Tryz.prog 88 #[.slice (some ⟨g, 0, none⟩) R.length cap, .int .i64 i, .slice (some ⟨gv, 0, none⟩) 1 1] w (InsTo w B g R i a k) := by
  have HC : Hid (cap ≤ maxLen) := hcap
  unfold maxLen at hcap
  obtain ⟨n, hn⟩ : ∃ n, n = R.length := ⟨_, rfl⟩
  obtain ⟨cs, hcs⟩ : ∃ cs, cs = flatR R := ⟨_, rfl⟩
  obtain ⟨vs, hvs⟩ : ∃ vs, vs = [Value.int .i64 (a : Nat), Value.int .i64 (k : Nat)] := ⟨_, rfl⟩
  have hvl : vs.length = 2 := by rw [hvs]; rfl
  have hcl : cs.length = n * 2 := by rw [hcs, flatR_len, hn]
  have h1c : ∀ u ∈ cs, u.oneCell' = true := fun u hu => flatR_one R u (hcs ▸ hu)
  have h1v : ∀ u ∈ vs, u.oneCell' = true := fun u hu => by rw [hvs] at hu; simp at hu; rcases hu with rfl | rfl <;> rfl
  have hcell : ∀ j, w.cell? ⟨g, j, none⟩ = cur[j]? := fun j => cell_of_row w g j cur _ _ hcur
  have hcsc : ∀ j v, cs[j]? = some v → w.cell? ⟨g, j, none⟩ = some v := fun j v hj => by
    have hl := (List.getElem?_eq_some_iff.1 hj).1
    rw [hcell, ← Array.getElem?_toList, ← hj, hcs, ← hx, List.getElem?_take_of_lt (by omega)]
  have hsp : ∀ j, j < cap * 2 → (w.cell? ⟨g, j, none⟩).isSome = true := fun j hj => by rw [hcell, Array.getElem?_eq_getElem (by omega)]; rfl
  have hfz : ∀ j, w.frozen? ⟨g, j, none⟩ = false := fun j => by simp [World.frozen?, hcur]
  have hvc : ∀ j v, vs[j]? = some v → w.cell? ⟨gv, j, none⟩ = some v := fun j v hj => by
    rw [cell_of_row w gv j _ _ _ hv]
    rw [hvs] at hj
    rw [← hj, ← Array.getElem?_toList]
  have hsR : (Tryz.prog.info? 172).map (·.size) = some 2 := by
    obtain ⟨i0, hi0, h0, h1, h2⟩ := info_parts info_region
    rw [hi0]; simp [h1]
  have hzR : ∀ w, (Go.sizeOf 172).run Tryz.prog w = .ok 2 w := fun w => by
    obtain ⟨i0, hi0, h0, h1, h2⟩ := info_parts info_region
    simp [sizeOf, typeInfo, hi0, h1]
  have hov : ∀ lb cb, (callFunc 118 #[.slice (some ⟨gv, 0, none⟩) 1 1, .slice (some ⟨g, (i + 1) * 2, none⟩) lb cb]).run Tryz.prog w = .ok (.value (.bool false)) w := fun lb cb => by
    rw [run_callFunc_extern Tryz.func118 (by kernel_rfl) (by kernel_rfl) (by kernel_rfl) (e := Extern.SlicesOverlaps.overlaps #[95, 95] #[4]) (by kernel_rfl),
      Lib.run_overlaps_apart w 95 4 172 Tryz.underlying95 2 hzR ⟨gv, 0, none⟩ ⟨g, (i + 1) * 2, none⟩ 1 1 lb cb hgv 172 172 2 (cap * 2) (by simp [World.shape?, hv]) (by simp [World.shape?, hcur, hsz]) (by omega) (by simp [World.frozen?, hv]) (by simp [World.frozen?, hv])]
    rfl
  have hdl : (cs.drop (i * 2)).length = (n - i) * 2 := by rw [List.length_drop, hcl]; omega
  have hcp1 : ∀ ty dc sc, (Builtin.copy_ #[95, 95] ty #[.slice (some ⟨g, (i + 1) * 2, none⟩) (n - i) dc, .slice (some ⟨g, i * 2, none⟩) (n + 1 - i) sc]).run Tryz.prog w.drew = .ok (goInt ((n - i : Nat) : Int)) (w.drew.setCells g ((i + 1) * 2) (cs.drop (i * 2))) := fun ty dc sc => by
    have hm : Nat.min (n + 1 - i) (n - i) = n - i := by simp only [Nat.min_def]; split <;> omega
    have h := run_copy2 w.drew _ 95 ty 172 g ((i + 1) * 2) (n - i) dc ⟨g, i * 2, none⟩ (n + 1 - i) sc (cs.drop (i * 2)) Tryz.underlying95 hsR (by rw [hdl, hm])
      (fun j v hj => by rw [Addr.add_lit]; exact hcsc (i * 2 + j) v (by rwa [List.getElem?_drop] at hj))
      (fun j hj => hsp _ (by omega)) (fun j hj => hfz _) (fun v hv => h1c v (List.mem_of_mem_drop hv))
    rw [hm] at h
    exact h
  obtain ⟨W1, hW1⟩ : ∃ W1, W1 = w.drew.setCells g ((i + 1) * 2) (cs.drop (i * 2)) := ⟨_, rfl⟩
  have hb1 : W1.heap[g]? = some (.cells (over cur.toList ((i + 1) * 2) (cs.drop (i * 2))).toArray 172 (0, 0)) := by
    rw [hW1]; exact setCells_block g _ _ _ w.drew cur hcur (by rw [hdl]; omega)
  have hg1 : w.grownBy W1 (some g) := by
    rw [hW1]; exact setCells_grown g _ _ _ w ⟨rfl, rfl, rfl, Nat.le_refl _, fun _ _ _ => rfl⟩
  obtain ⟨cur1, hcur1⟩ : ∃ cur1, cur1 = (over cur.toList ((i + 1) * 2) (cs.drop (i * 2))).toArray := ⟨_, rfl⟩
  rw [← hcur1] at hb1
  have hz1 : cur1.size = cap * 2 := by rw [hcur1]; simp [over, hdl]; omega
  have hcp2 : ∀ (W : World), (∀ k : Nat, W.heap[k]? = W1.heap[k]?) → ∀ ty dc, (Builtin.copy_ #[95, 95] ty #[.slice (some ⟨g, i * 2, none⟩) (n + 1 - i) dc, .slice (some ⟨gv, 0, none⟩) 1 1]).run Tryz.prog W = .ok (goInt 1) (W.setCells g (i * 2) vs) := fun W hW ty dc => by
    have hm : Nat.min 1 (n + 1 - i) = 1 := by simp only [Nat.min_def]; split <;> omega
    have hWg : W.heap[g]? = some (.cells cur1 172 (0, 0)) := (hW g).trans hb1
    have hWv : W.heap[gv]? = some (.cells #[.int .i64 a, .int .i64 k] 172 (0, 0)) := (hW gv).trans ((hg1.block gv (lt_of_block hv) (fun e => hgv (Option.some.inj e))).trans hv)
    have h := run_copy2 W _ 95 ty 172 g (i * 2) (n + 1 - i) dc ⟨gv, 0, none⟩ 1 1 vs Tryz.underlying95 hsR (by rw [hvl, hm])
      (fun j v hj => by
        rw [Addr.add_lit, cell_of_row W gv _ _ _ _ hWv, ← hj, hvs, Nat.zero_add, ← Array.getElem?_toList])
      (fun j hj => by rw [cell_of_row W g _ _ _ _ hWg, Array.getElem?_eq_getElem (by omega)]; rfl) (fun j hj => by simp [World.frozen?, hWg]) h1v
    rw [hm] at h
    exact h
  have hfin : ∀ (W : World), (∀ k : Nat, W.heap[k]? = W1.heap[k]?) → W.os = W1.os ∧ W.tape = W1.tape ∧ W.output = W1.output ∧ W.heap.size = W1.heap.size → InsTo w B g R i a k (.returned (.slice (some ⟨g, 0, none⟩) (n + 1) cap)) (W.setCells g (i * 2) vs) := fun W hW ⟨o1, o2, o3, o4⟩ => by
    have hWg : W.heap[g]? = some (.cells cur1 172 (0, 0)) := (hW g).trans hb1
    have hgW : w.grownBy W (some g) := ⟨o1.trans hg1.os, o2.trans hg1.tape, o3.trans hg1.output, by rw [o4]; exact hg1.size, fun k hk hn => (hW k).trans (hg1.block k hk hn)⟩
    have hb2 := setCells_block g _ vs (i * 2) W cur1 hWg (by rw [hvl]; omega)
    refine ⟨_, rfl, ⟨ins_len R i a k hi, .inr ⟨g, cap, _, by rw [hn], hB, hb2, hroom, HC.out, by simp [over, hvl]; omega, ?_⟩⟩, setCells_grown g _ _ _ w hgW, .inl rfl⟩
    rw [← flatR_ins, ← hcs, ← hvs]
    have e0 : cs.take (i * 2) = cur.toList.take (i * 2) := by rw [hcs, ← hx, List.take_take, Nat.min_eq_left (by omega)]
    have l1 : (cur.toList.take (i * 2)).length = i * 2 := by simp; omega
    rw [e0, hcur1]
    exact over_two (by simp; omega) hvl (by rw [hdl]; omega)
  have HFIN := Lib.hid hfin
  rw [← hW1] at hcp1
  have HCP1 := Lib.hid hcp1
  have HCP2 := Lib.hid hcp2
  have HN := Lib.hid hn
  rw [← hn] at hroom hR hi ⊢
  clear hfin hcp1 hcp2 hW1 hcs hvs hvl hcl h1c h1v hcell hcsc hsp hfz hvc hsR hdl hb1 hg1 hcur1 hz1 hx hn hcur hv
  have q1 : ¬ ((i : Int) = (n : Int)) := by omega
  have hw1 : IntKind.i64.wrap ((i : Int) + 1) = (i : Int) + 1 := by rw [IntKind.wrap_i64]; omega
  have hw2 : IntKind.i64.wrap ((n : Int) + 1) = (n : Int) + 1 := by rw [IntKind.wrap_i64]; omega
  have hb1 : (0 : Int) ≤ (i : Int) + 1 := by omega
  have hb3 : (i : Int) ≤ (n : Int) + 1 := by omega
  have hin : i ≤ n := by omega
  have hb4 : ¬ (cap = i) := by omega
  have hb5 : ¬ (cap = i + 1) := by omega
  go_enter Tryz.func88, Tryz.ntmps88
  go_wp2_with (first | simp only [hov] | fail)
  have mixed : Tryz.prog.follows .mixedOrders = true := by kernel_rfl
  go_region_law_o (refine step_copy_runI rfl _ _ 95 95 rfl (.slice (some ⟨g, (i + 1) * 2, none⟩) (n - i) (cap - (i + 1))) (.slice (some ⟨g, i * 2, none⟩) (n + 1 - i) (cap - i)) (by simp [Act.eval, Act.put]) (by simp [Act.eval, Act.put]) (HCP1.out _ _ _) ?_)
  have hcpW := HCP2.out W1 (fun _ => rfl) 3 (cap - i)
  go_wp2_with (first | simp only [hcpW] | fail)
  go_ret
  exact HFIN.out _ (fun _ => rfl) ⟨rfl, rfl, rfl, rfl⟩

theorem over_two2 {cl D vs : List Value} {i n : Nat} (h1 : (i + 1) * 2 ≤ cl.length) (h2 : vs.length = 2) (h3 : i * 2 + 2 + D.length = (n + 1) * 2) :
    (over (over cl (i * 2) vs).toArray.toList ((i + 1) * 2) D).toArray.toList.take ((n + 1) * 2) = cl.take (i * 2) ++ vs ++ D := by
  have e1 : (over cl (i * 2) vs).take ((i + 1) * 2) = cl.take (i * 2) ++ vs := by
    unfold over
    rw [List.take_append_of_le_length (by simp; omega), List.take_of_length_le (by simp; omega)]
  show (over (over cl (i * 2) vs) ((i + 1) * 2) D).take _ = _
  have e2 : over (over cl (i * 2) vs) ((i + 1) * 2) D = cl.take (i * 2) ++ vs ++ D ++ (over cl (i * 2) vs).drop ((i + 1) * 2 + D.length) := by
    rw [← e1]
    rfl
  rw [e2, List.take_left' (by simp; omega)]

set_option maxRecDepth 100000 in
set_option maxHeartbeats 4000000 in
theorem insert_grow {w : World} {B g gv cap i a k : Nat} {R : List (Nat × Nat)} {cur : Array Value} (hB : B ≤ w.heap.size) (hcur : w.heap[g]? = some (.cells cur 172 (0, 0))) (hsz : cur.size = cap * 2) (hnc : R.length ≤ cap) (hroom : cap < R.length + 1) (hR : R.length ≤ 1000)
    (hx : cur.toList.take (R.length * 2) = flatR R) (hi : i < R.length) (hv : w.heap[gv]? = some (.cells #[.int .i64 a, .int .i64 k] 172 (0, 0))) (hgv : gv ≠ g) :
    Calls Tryz.prog 88 #[.slice (some ⟨g, 0, none⟩) R.length cap, .int .i64 i, .slice (some ⟨gv, 0, none⟩) 1 1] w (InsTo w B g R i a k) := by
  obtain ⟨n, hn⟩ : ∃ n, n = R.length := ⟨_, rfl⟩
  obtain ⟨cs, hcs⟩ : ∃ cs, cs = flatR R := ⟨_, rfl⟩
  obtain ⟨vs, hvs⟩ : ∃ vs, vs = [Value.int .i64 (a : Nat), Value.int .i64 (k : Nat)] := ⟨_, rfl⟩
  have hvl : vs.length = 2 := by rw [hvs]; rfl
  have hcl : cs.length = n * 2 := by rw [hcs, flatR_len, hn]
  rw [← hn] at hnc hroom hR hi hx
  have h1c : ∀ u ∈ cs, u.oneCell' = true := fun u hu => flatR_one R u (hcs ▸ hu)
  have h1v : ∀ u ∈ vs, u.oneCell' = true := fun u hu => by rw [hvs] at hu; simp at hu; rcases hu with rfl | rfl <;> rfl
  have hcell : ∀ (W : World), W.heap[g]? = w.heap[g]? → ∀ j v, cs[j]? = some v → W.cell? ⟨g, j, none⟩ = some v := fun W hW j v hj => by
    have hl := (List.getElem?_eq_some_iff.1 hj).1
    rw [cell_of_row W g j cur _ _ (hW.trans hcur), ← Array.getElem?_toList, ← hj, hcs, ← hx, List.getElem?_take_of_lt (by omega)]
  obtain ⟨i0, hi0, hz0, hzs, hzb⟩ := info_parts info_region
  have hsR : (Tryz.prog.info? 172).map (·.size) = some 2 := by rw [hi0]; simp [hzs]
  have hbw : g < w.heap.size := lt_of_block hcur
  have hvw : gv < w.heap.size := lt_of_block hv
  have hold : (Builtin.firstCells i0.size i (.slice (some ⟨g, 0, none⟩) i cap)).run Tryz.prog w.drew = .ok (cs.take (i * 2)).toArray w.drew := by
    rw [hzs]
    exact run_firstCells_some w.drew 2 i ⟨g, 0, none⟩ i cap (cs.take (i * 2)) (by rw [List.length_take]; omega) (fun j v hj => by
      rw [Addr.add_lit, Nat.zero_add]
      rw [List.getElem?_take] at hj
      split at hj
      · exact hcell w.drew rfl j v hj
      · cases hj)
  have hik : i + (n + 1 - i) = n + 1 := by omega
  have hrz : ∀ ty, (Builtin.append_ #[95, 3] ty #[.slice (some ⟨g, 0, none⟩) i cap, .int .i64 ((n : Int) + 1 - (i : Int))]).run Tryz.prog w =
      .ok (.slice (some ⟨w.heap.size, 0, none⟩) (n + 1) (grownCap w (n + 1) cap 172)) (w.drew.alloc (.cells ((cs.take (i * 2)).toArray ++ Builtin.zeroCells (Value.agg #[.int .i64 0, .int .i64 0]).cells (n + 1 - i) ++ Builtin.zeroCells (Value.agg #[.int .i64 0, .int .i64 0]).cells (grownCap w (n + 1) cap 172 - (n + 1))) 172)) := fun ty => by
    have h := Lib.run_append_grow_zeros w 95 3 ty 172 i0 _ .i64 .i64 Tryz.underlying95 Tryz.underlying3 hi0 hz0 (some ⟨g, 0, none⟩) i cap (cs.take (i * 2)) hold (n + 1 - i) (by omega) (by omega) (by omega) (by omega) (by rw [hzb]; omega) (by rw [hzb, hik]; exact growslice_fits (by omega) (by omega))
    rw [hik] at h
    rw [show (n : Int) + 1 - (i : Int) = ((n + 1 - i : Nat) : Int) by omega]
    exact h
  obtain ⟨G, hG⟩ : ∃ G, G = grownCap w (n + 1) cap 172 := ⟨_, rfl⟩
  obtain ⟨ROW, hROW⟩ : ∃ ROW : Array Value, ROW = (cs.take (i * 2)).toArray ++ Builtin.zeroCells (Value.agg #[.int .i64 0, .int .i64 0]).cells (n + 1 - i) ++ Builtin.zeroCells (Value.agg #[.int .i64 0, .int .i64 0]).cells (G - (n + 1)) := ⟨_, rfl⟩
  rw [← hG] at hrz
  rw [← hROW] at hrz
  have hGn : n + 1 ≤ G := by rw [hG]; exact grownCap_ge w _ _ _
  have hG63 : G ≤ maxLen := by
    have := grownCap_le_maxLen w (n + 1) cap 172 (by unfold maxLen; omega)
    rw [← hG] at this
    exact this
  have hRl : ROW.size = G * 2 := by
    rw [hROW]
    simp [Builtin.zeroCells, Value.cells]
    omega
  have hRt : ROW.toList.take (i * 2) = cs.take (i * 2) := by
    rw [hROW]
    simp only [Array.toList_append]
    rw [List.append_assoc, List.take_append_of_le_length (by simp; omega), List.take_of_length_le (by simp; omega)]
  obtain ⟨N, hN⟩ : ∃ N, N = w.heap.size := ⟨_, rfl⟩
  obtain ⟨W1, hW1⟩ : ∃ W1, W1 = w.drew.alloc (.cells ROW 172) := ⟨_, rfl⟩
  rw [← hN, ← hW1] at hrz
  have hbN : W1.heap[N]? = some (.cells ROW 172 (0, 0)) := by
    rw [hW1, hN]
    show (w.heap.push _)[w.heap.size]? = _
    simp
  have hbO : ∀ k : Nat, k < N → W1.heap[k]? = w.heap[k]? := fun k hk => by
    rw [hW1]
    exact Below.heap_alloc w _ k (by omega)
  have hg1 : w.grownBy W1 (some g) := by
    rw [hW1]
    exact ⟨rfl, rfl, rfl, by simp, fun k hk _ => Below.heap_alloc w _ k hk⟩
  have hcp1 : ∀ (W : World), (∀ k : Nat, W.heap[k]? = W1.heap[k]?) → ∀ ty dc, (Builtin.copy_ #[95, 95] ty #[.slice (some ⟨N, i * 2, none⟩) (n + 1 - i) dc, .slice (some ⟨gv, 0, none⟩) 1 1]).run Tryz.prog W = .ok (goInt 1) (W.setCells N (i * 2) vs) := fun W hW ty dc => by
    have hm : Nat.min 1 (n + 1 - i) = 1 := by simp only [Nat.min_def]; split <;> omega
    have hWN : W.heap[N]? = some (.cells ROW 172 (0, 0)) := (hW N).trans hbN
    have hWv : W.heap[gv]? = some (.cells #[.int .i64 a, .int .i64 k] 172 (0, 0)) := (hW gv).trans ((hbO gv (by omega)).trans hv)
    have h := run_copy2 W _ 95 ty 172 N (i * 2) (n + 1 - i) dc ⟨gv, 0, none⟩ 1 1 vs Tryz.underlying95 hsR (by rw [hvl, hm])
      (fun j v hj => by
        rw [Addr.add_lit, cell_of_row W gv _ _ _ _ hWv, ← hj, hvs, Nat.zero_add, ← Array.getElem?_toList])
      (fun j hj => by rw [cell_of_row W N _ _ _ _ hWN, Array.getElem?_eq_getElem (by omega)]; rfl) (fun j hj => by simp [World.frozen?, hWN]) h1v
    rw [hm] at h
    exact h
  have hdl : (cs.drop (i * 2)).length = (n - i) * 2 := by rw [List.length_drop, hcl]; omega
  have hcp2 : ∀ (V : World), V.heap[N]? = some (.cells (over ROW.toList (i * 2) vs).toArray 172 (0, 0)) → V.heap[g]? = w.heap[g]? → ∀ ty dc sc, (Builtin.copy_ #[95, 95] ty #[.slice (some ⟨N, (i + 1) * 2, none⟩) (n - i) dc, .slice (some ⟨g, i * 2, none⟩) (n - i) sc]).run Tryz.prog V = .ok (goInt ((n - i : Nat) : Int)) (V.setCells N ((i + 1) * 2) (cs.drop (i * 2))) := fun V hVN hVg ty dc sc => by
    have hm : Nat.min (n - i) (n - i) = n - i := by simp only [Nat.min_def]; split <;> omega
    have h := run_copy2 V _ 95 ty 172 N ((i + 1) * 2) (n - i) dc ⟨g, i * 2, none⟩ (n - i) sc (cs.drop (i * 2)) Tryz.underlying95 hsR (by rw [hdl, hm])
      (fun j v hj => by rw [Addr.add_lit]; exact hcell V hVg (i * 2 + j) v (by rwa [List.getElem?_drop] at hj))
      (fun j hj => by rw [cell_of_row V N _ _ _ _ hVN, Array.getElem?_eq_getElem (by simp [over, hvl]; omega)]; rfl) (fun j hj => by simp [World.frozen?, hVN]) (fun v hv => h1c v (List.mem_of_mem_drop hv))
    rw [hm] at h
    exact h
  have hfin : ∀ (W V : World), (∀ k : Nat, W.heap[k]? = W1.heap[k]?) → W.os = W1.os ∧ W.tape = W1.tape ∧ W.output = W1.output ∧ W.heap.size = W1.heap.size → V.heap = (W.setCells N (i * 2) vs).heap → V.os = (W.setCells N (i * 2) vs).os ∧ V.tape = (W.setCells N (i * 2) vs).tape ∧ V.output = (W.setCells N (i * 2) vs).output →
      InsTo w B g R i a k (.returned (.slice (some ⟨N, 0, none⟩) (n + 1) G)) (V.setCells N ((i + 1) * 2) (cs.drop (i * 2))) ∧ (∀ ty dc sc, (Builtin.copy_ #[95, 95] ty #[.slice (some ⟨N, (i + 1) * 2, none⟩) (n - i) dc, .slice (some ⟨g, i * 2, none⟩) (n - i) sc]).run Tryz.prog V = .ok (goInt ((n - i : Nat) : Int)) (V.setCells N ((i + 1) * 2) (cs.drop (i * 2)))) := fun W V hW ⟨o1, o2, o3, o4⟩ hV ⟨p1, p2, p3⟩ => by
    have hWN : W.heap[N]? = some (.cells ROW 172 (0, 0)) := (hW N).trans hbN
    have hb2 := setCells_block N _ vs (i * 2) W ROW hWN (by rw [hvl]; omega)
    have hs2 := setCells_grown N vs (i * 2) W W (World.grownBy.refl W _)
    have hVN : V.heap[N]? = some (.cells (over ROW.toList (i * 2) vs).toArray 172 (0, 0)) := by rw [hV]; exact hb2
    have hVg : ∀ k : Nat, k < N → V.heap[k]? = w.heap[k]? := fun k hk => by
      rw [hV]
      exact (hs2.block k (by rw [o4]; have := lt_of_block hbN; omega) (fun e => by have := Option.some.inj e; omega)).trans ((hW k).trans (hbO k hk))
    refine ⟨?_, hcp2 V hVN (hVg g (by omega))⟩
    have hb3 := setCells_block N _ (cs.drop (i * 2)) ((i + 1) * 2) V _ hVN (by rw [hdl]; simp [over, hvl]; omega)
    have hs3 := setCells_grown N (cs.drop (i * 2)) ((i + 1) * 2) V V (World.grownBy.refl V _)
    refine ⟨_, rfl, ⟨ins_len R i a k (by omega), .inr ⟨N, G, _, by rw [hn], by omega, hb3, hn ▸ hGn, hG63, by simp [over, hvl, hdl]; omega, ?_⟩⟩, ⟨hs3.os.trans (p1.trans (hs2.os.trans (o1.trans hg1.os))), hs3.tape.trans (p2.trans (hs2.tape.trans (o2.trans hg1.tape))), hs3.output.trans (p3.trans (hs2.output.trans (o3.trans hg1.output))), Nat.le_trans hg1.size (by rw [← o4]; exact Nat.le_trans hs2.size (by rw [← hV]; exact hs3.size)), fun k hk hne => ?_⟩, .inr (by rw [hN]; rfl)⟩
    · rw [← flatR_ins, ← hcs, ← hvs, ← hRt, ← hn]
      exact over_two2 (by simp; omega) hvl (by rw [hdl]; omega)
    · exact (hs3.block k (Nat.lt_of_lt_of_le hk (Nat.le_trans hg1.size (by rw [← o4]; exact Nat.le_trans hs2.size (by rw [← hV]; exact Nat.le_refl _)))) (fun e => by have := Option.some.inj e; omega)).trans (hVg k (by omega))
  have HFIN := Lib.hid hfin
  have HCP1 := Lib.hid hcp1
  have HRZ := Lib.hid (hrz 95)
  rw [← hn]
  clear hfin hcp1 hcp2 hcs hvs hvl hcl h1c h1v hcell hsR hdl hbN hbO hg1 hx hn hcur hv hRt hRl hROW hG hrz hold hik hzs hzb hz0 hi0
  unfold maxLen at hG63
  have q1 : ¬ ((i : Int) = (n : Int)) := by omega
  have q2 : (cap : Int) < (n : Int) + 1 := by omega
  have hw1 : IntKind.i64.wrap ((i : Int) + 1) = (i : Int) + 1 := by rw [IntKind.wrap_i64]; omega
  have hw2 : IntKind.i64.wrap ((n : Int) + 1) = (n : Int) + 1 := by rw [IntKind.wrap_i64]; omega
  have hw3 : IntKind.i64.wrap ((n : Int) + 1 - (i : Int)) = (n : Int) + 1 - (i : Int) := by rw [IntKind.wrap_i64]; omega
  have hb1 : (0 : Int) ≤ (i : Int) + 1 := by omega
  have hb3 : (i : Int) ≤ (n : Int) + 1 := by omega
  have hin : i ≤ n := by omega
  have hb4 : ¬ (cap = i) := by omega
  have hb5 : ¬ (G = i + 1) := by omega
  have hb6 : ¬ (G = i) := by omega
  have hrz2 := HRZ.out
  subst hN
  subst hW1
  have hcpW := HCP1.out ((w.alloc (.cells ROW 172)).drew) (fun _ => rfl) 3 (G - i)
  have HV := Lib.hid (HFIN.out ((w.alloc (.cells ROW 172)).drew) (((w.alloc (.cells ROW 172)).drew.setCells w.heap.size (i * 2) vs).drew) (fun _ => rfl) ⟨rfl, rfl, rfl, rfl⟩ rfl ⟨rfl, rfl, rfl⟩)
  have hcpV := HV.out.2 3 (G - (i + 1)) (cap - i)
  clear HFIN HCP1 HRZ
  go_enter Tryz.func88, Tryz.ntmps88
  go_wp2_with (first | (at_builtin; refine Lib.wpList_append_run _ rfl _ _ _ _ rfl _ _ rfl rfl _ _ hrz2 ?_) | simp only [hcpW] | fail)
  have mixed : Tryz.prog.follows .mixedOrders = true := by kernel_rfl
  go_region_law_o (refine step_copy_runI rfl _ _ 95 95 rfl (.slice (some ⟨w.heap.size, (i + 1) * 2, none⟩) (n - i) (G - (i + 1))) (.slice (some ⟨g, i * 2, none⟩) (n - i) (cap - i)) (by simp [Act.eval, Act.put]) (by simp [Act.eval, Act.put]) hcpV ?_)
  go_wp2_with fail
  go_ret
  exact HV.out.1
end Go.Proofs.YtbljphaklciinaaGreat

/- Layer 4 (arena): Reserve, wherever there is room. -/
namespace Go.Proofs.YtbljphaklciinaaGreat
open Go.RowKit Go.Lib

/-- Where a region comes to stand. -/
def InsAt (R : List (Nat × Nat)) (i a : Nat) : Prop := i ≤ R.length ∧ (∀ (j : Nat) (x : Nat × Nat), j < i → R[j]? = some x → x.1 < a) ∧ (∀ (j : Nat) (x : Nat × Nat), i ≤ j → R[j]? = some x → a ≤ x.1)
theorem ins_R {R : List (Nat × Nat)} {i a k : Nat} (hi : i ≤ R.length) : (R.take i ++ (a, k) :: R.drop i).length = R.length + 1 := by
  simp
  omega

theorem insert_any {w : World} {B gv i a k : Nat} {v : Value} {R : List (Nat × Nat)} (ho : w.ownsRow B 172 2 v R.length (flatR R)) (hR : R.length ≤ 1000) (hv : w.heap[gv]? = some (.cells #[.int .i64 a, .int .i64 k] 172 (0, 0))) (hgv : v.ownBlock ≠ some gv) (hB : B ≤ w.heap.size) (hi : i ≤ R.length) :
    Calls Tryz.prog 88 #[v, .int .i64 i, .slice (some ⟨gv, 0, none⟩) 1 1] w fun e w' => ∃ v', e = .returned v' ∧ w'.ownsRow B 172 2 v' (R.length + 1) (flatR (R.take i ++ (a, k) :: R.drop i)) ∧ w.grownBy w' v.ownBlock ∧ (v'.ownBlock = v.ownBlock ∨ v'.ownBlock = some w.heap.size) := by
  by_cases he : i = R.length
  · subst he
    have := insert_end (a := a) (n := k) ho hR (by rw [cell_of_row w gv 0 _ _ _ hv]; rfl) (by rw [cell_of_row w gv 1 _ _ _ hv]; rfl) hB
    rw [List.take_length, List.drop_length]
    exact this
  · rcases ho.2 with ⟨rfl, h0⟩ | ⟨g, cap, cur, rfl, hg, hh, hn, hc, hsz, ht⟩
    · omega
    · have hne : gv ≠ g := fun e => hgv (by rw [e]; rfl)
      by_cases hroom : R.length + 1 ≤ cap
      · exact insert_shift hg hh hsz hroom hc hR ht (by omega) hv hne
      · exact insert_grow hB hh hsz hn (by omega) hR ht (by omega) hv hne

set_option maxRecDepth 100000 in
set_option maxHeartbeats 4000000 in
/-- Reserve of one segment, wherever it stands. -/
theorem reserve_any {w : World} {B ba bk bt n lim rf : Nat} {T : Nat → Bool} {R : List (Nat × Nat)} {g : Option Nat} (H : ArenaAt w B ba bk bt n lim T R g rf) (hs : SortedR R) (hR : R.length ≤ 63) (hB : B ≤ w.heap.size) (a : Nat) (hfree : FreeRow T n 1 a) (hlow : ∀ j, j < a → ¬ FreeRow T n 1 j)
    (hgiv : n - freeN T n + 1 ≤ lim) :
    Calls Tryz.prog 51 #[.pointer (some ⟨ba, 0, none⟩), .int .i64 1] w fun e w' => e = .returned (.tuple #[.int .i64 a, .int .i64 0]) ∧ ∃ g' i, InsAt R i a ∧ ArenaAt w' B ba bk bt n lim (setT T a 1 true) (R.take i ++ (a, 1) :: R.drop i) g' rf ∧ Fr w w' (arS ba bk bt g) ∧ (g' = g ∨ ∃ k, g' = some k ∧ w.heap.size ≤ k) := by
  have HH := Lib.hid H
  have c1 := H.c1
  have c2 := H.c2
  have n64 := H.n64
  have hf1 : freeN T n ≤ n := by unfold freeN; exact Nat.le_trans List.countP_le_length (by simp)
  have HN := Lib.hid (fun z => arenaNext (H.drewN z).c4)
  have c0 := H.c0
  have h1n := H.marks.n0
  have hll := H.ll
  clear H
  go_enter Tryz.func51, Tryz.ntmps51
  go_wp2_with fail
  have hwr : IntKind.i64.wrap ((n : Int) - (freeN T n : Int) + 1) = (n : Int) - (freeN T n : Int) + 1 := by simp only [IntKind.wrap_i64]; omega
  have q1 : decide ((n : Int) - (freeN T n : Int) + 1 ≤ (lim : Int)) = true := decide_eq_true (by omega)
  have q1' : ((n : Int) - (freeN T n : Int) + 1 ≤ (lim : Int)) := by omega
  have HD : Hid (∀ k, ArenaAt (w.drew.drewN k) B ba bk bt n lim T R g rf) := fun k => (HH.out.stays (w' := w.drew.drewN k) rfl rfl rfl (fun _ _ => rfl))
  go_region_held3 (fun w' => w'.cell? ⟨ba, 2, none⟩ = some (.int .i64 lim))
    (first | exact (HD.out 0).c2 | exact KG.out | go_keep | fail)
    (first
      | (go_at_call 85; refine (arenaNext (w := w.drew) (HD.out 0).c4).mono ?_; rintro e w1 ⟨rfl, rfl⟩)
      | (go_at_call 14; refine (arenaGiven (w := w.drew) (HD.out 0)).mono ?_; rintro e w1 ⟨rfl, kk, rfl⟩; have KG := Lib.hid (HD.out kk).c2)
      | fail)
  have HZ := Lib.hid (HH.out.drewN (1 + kk))
  have FZ : Hid (Fr w (w.drewN (1 + kk)) (arS ba bk bt g)) := ⟨rfl, rfl, rfl, Nat.le_refl _, fun _ _ _ => rfl⟩
  have SZ : w.heap.size = (w.drewN (1 + kk)).heap.size := rfl
  generalize w.drewN (1 + kk) = wz at *
  have z0 := HZ.out.c0
  clear KG HD hwr q1 q1' c0 c1 c2 HN
  go_wp2_with fail
  refine (marksTake HZ.out.marks 1 (by omega) (by omega)).mono ?_
  rintro e w3 (⟨a', hf', hl', rfl, hm', hp'⟩ | ⟨hno, _⟩)
  · have ha : a' = a := by
      rcases Nat.lt_trichotomy a' a with h | h | h
      · exact absurd hf' (hlow a' h)
      · exact h
      · exact absurd hfree (hl' a h)
    subst ha
    have HA3 := Lib.hid (HZ.out.marked hm' hp')
    have F3 : Hid (Fr w w3 (arS ba bk bt g)) := FZ.out.trans (Fr.of_pfr hp') (fun k hk => .inl (by rcases hk with h | h; exact .inr (.inl h); exact .inr (.inr (.inl h))))
    clear hf' hl' hm' hp' HZ FZ z0
    go_wp2_with fail
    refine (arenaFind HA3.out hs (by omega) a' (by have := hfree.1; omega)).mono ?_
    rintro e w4 ⟨i, f, rfl, hi, h2, h3, _, B4⟩
    have HI : Hid (InsAt R i a') := ⟨hi, h2, h3⟩
    have HA4 := Lib.hid (HA3.out.below B4)
    have F4 : Hid (Fr w w4 (arS ba bk bt g)) := F3.out.trans (Fr.of_below B4 (fun _ => False)) (fun k hk => hk.elim)
    clear h2 h3 hi B4 HA3 F3
    obtain ⟨v, hv, ho, hg⟩ := HA4.out.c3
    have HO := Lib.hid ho
    have HG := Lib.hid hg
    have z3 := HA4.out.z3
    clear ho hg
    go_wp2_with fail
    obtain ⟨wA, hwA⟩ : ∃ wA, wA = w4.alloc (.cells #[.int .i64 a', .int .i64 1] 172) := ⟨_, rfl⟩
    have BA : Below w4.heap.size w4 wA := by rw [hwA]; exact (Below.refl _ _).alloc (Nat.le_refl _) _
    have SA : wA.heap.size = w4.heap.size + 1 := by rw [hwA]; simp
    have kv : wA.heap[w4.heap.size]? = some (.cells #[.int .i64 a', .int .i64 ((1 : Nat) : Int)] 172 (0, 0)) := by rw [hwA]; show (w4.heap.push _)[w4.heap.size]? = _; simp
    have hgn : v.ownBlock ≠ some w4.heap.size := fun e => by have := (HO.out.lt _ e).2; omega
    have hoA : wA.ownsRow B 172 2 v R.length (flatR R) := own_stays HO.out (fun k e => BA.block k (HO.out.lt k e).2)
    rw [← hwA]
    clear hwA
    have hB4 : B ≤ w4.heap.size := Nat.le_trans hB F4.out.size
    refine (insert_any hoA (by omega) kv hgn (by omega) HI.out.1).mono ?_
    rintro e w5 ⟨v5, rfl, ho5, hg5, ht5⟩
    have hbl : ∀ k, k < w4.heap.size → some k ≠ g → w5.heap[k]? = w4.heap[k]? := fun k hk hn => (hg5.block k (by omega) (fun e => hn (e.trans HG.out))).trans (BA.block k hk)
    have HBL := Lib.hid hbl
    have HO5 := Lib.hid ho5
    have HT5 := Lib.hid ht5
    have HG5 := Lib.hid hg5
    have hba : w5.heap[ba]? = w4.heap[ba]? := hbl ba HA4.out.lt_a (fun e => HA4.out.ga e.symm)
    have m3 : w5.cell? ⟨ba, 3, none⟩ = some v := (World.cell?_of_block (a := ⟨ba, 3, none⟩) hba).trans hv
    have y3 : w5.frozen? ⟨ba, 3, none⟩ = false := (World.frozen?_of_block (a := ⟨ba, 3, none⟩) hba).trans z3
    have HBA := Lib.hid hba
    obtain ⟨A5, c5, hv5⟩ : ∃ A c, v5 = .slice A (R.length + 1) c := by
      rcases ho5.2 with ⟨rfl, h⟩ | ⟨g, cap, cur, rfl, _⟩
      · omega
      · exact ⟨_, _, rfl⟩
    clear hbl ho5 hg5 ht5 hba kv hgn hoA hv z3
    subst hv5
    go_wp2_with fail
    go_ret2
    have hg' : ∀ k, (Value.slice A5 (R.length + 1) c5).ownBlock = some k → g = some k ∨ k = w4.heap.size + 1 := fun k e => by
      rcases HT5.out with h | h
      · exact .inl (by rw [← HG.out, ← h, e])
      · rw [h, SA] at e; injection e with e; exact .inr e.symm
    have hlt := HA4.out.lt_a
    have hlk := HA4.out.marks.lt_b
    have hlt' := HA4.out.marks.lt_bt
    have ne : ∀ k, k < w4.heap.size → g ≠ some k → (Value.slice A5 (R.length + 1) c5).ownBlock ≠ some k := fun k hk hn e => by
      rcases hg' k e with h | h
      · exact hn h
      · omega
    have oth : ∀ j, j ≠ 3 → (w5.setCell ⟨ba, 3, none⟩ (.slice A5 (R.length + 1) c5)).cell? ⟨ba, j, none⟩ = w4.cell? ⟨ba, j, none⟩ := fun j hj => by
      rw [World.cell?_setCell_other _ _ _ _ (by simp [hj])]
      exact World.cell?_of_block (a := ⟨ba, j, none⟩) HBA.out
    refine ⟨rfl, _, i, HI.out, ⟨(oth 0 (by omega)).trans HA4.out.c0, (oth 1 (by omega)).trans HA4.out.c1, (oth 2 (by omega)).trans HA4.out.c2, ⟨_, World.cell?_setCell_same' _ _ _ (by rw [m3]; rfl), ?_, rfl⟩, (oth 4 (by omega)).trans HA4.out.c4, (oth 5 (by omega)).trans HA4.out.c5, by simpa using y3, ?_, ?_, HA4.out.nk, HA4.out.nt, ne ba hlt HA4.out.ga, ne bk hlk HA4.out.gk, ne bt hlt' HA4.out.gt, n64, hll, HA4.out.rn⟩, ?_, ?_⟩
    · refine own_stays ?_ (fun k e => Below.heap_setCell _ _ _ _ (fun e' => ne ba hlt HA4.out.ga (by rw [e, show k = ba from e'])))
      have h := HO5.out
      rw [ins_R HI.out.1]
      exact h
    · rw [World.frozen?_setCell]
      exact (World.frozen?_of_block (a := ⟨ba, 5, none⟩) HBA.out).trans HA4.out.z5
    · refine HA4.out.marks.stays ?_ ?_
      · rw [Below.heap_setCell _ _ _ _ (fun e => HA4.out.nk e.symm)]; exact HBL.out bk hlk (fun e => HA4.out.gk e.symm)
      · rw [Below.heap_setCell _ _ _ _ (fun e => HA4.out.nt e.symm)]; exact HBL.out bt hlt' (fun e => HA4.out.gt e.symm)
    · refine Fr.set ⟨HG5.out.os.trans (BA.os.trans F4.out.os), HG5.out.tape.trans (BA.tape.trans F4.out.tape), HG5.out.output.trans (BA.output.trans F4.out.output), Nat.le_trans F4.out.size (Nat.le_trans BA.size HG5.out.size), fun k hk hn => (HBL.out k (Nat.lt_of_lt_of_le hk F4.out.size) (fun e => hn (.inr (.inr (.inr e))))).trans (F4.out.block k hk hn)⟩ (.inl (.inl rfl)) _ _
    · rcases hgv : (Value.slice A5 (R.length + 1) c5).ownBlock with _ | k
      · rcases HT5.out with h | h
        · exact .inl (by rw [← HG.out, ← h, hgv])
        · rw [hgv] at h; cases h
      · rcases hg' k hgv with h | h
        · exact .inl h.symm
        · exact .inr ⟨k, rfl, by have := F4.out.size; omega⟩
  · exact absurd hfree (hno a)
end Go.Proofs.YtbljphaklciinaaGreat

/- Layer 12 (heap): Grow, wherever the arena has room. -/
namespace Go.Proofs.YtbljphaklciinaaGreat
open Go.RowKit
variable {ro ro' : Nat → Role} {hn : Nat} {w w' : World} {B bm bb sz : Nat} {f g : Nat → Nat} {h : HeapR} {X : Role → Prop} {a : ArR}

set_option maxRecDepth 100000 in
set_option maxHeartbeats 8000000 in
theorem grow_any (H : Hp ro hn w B bm bb sz f h) (A : ArOk ro w B h.ba a) (hs : SortedR a.R) (hR : a.R.length ≤ 63) {at_ : Nat} (hfree : FreeRow a.T a.n 1 at_) (hlow : ∀ j, j < at_ → ¬ FreeRow a.T a.n 1 j)
    (hgiv : a.n - freeN a.T a.n + 1 ≤ a.lim) (hpl : ∀ t ∈ h.S, t.pl ≠ at_) (hsz : (at_ + 1) * 16384 ≤ sz) :
    Calls Tryz.prog 19 #[.pointer (some ⟨h.bh, 0, none⟩)] w fun e w' => e = .returned (.int .i64 0) ∧ ∃ ro' s gs g' i, InsAt a.R i at_ ∧ (∀ k, k < w.heap.size → ro' k = ro k) ∧ s.pl = at_ ∧ s.P = [] ∧ (s.x = h.id ∧ s.a = 1) ∧
      Hp ro' hn w' B bm bb sz f { h with S := h.S ++ [s], gs := gs } ∧ ArOk ro' w' B h.ba { a with T := setT a.T at_ 1 true, R := a.R.take i ++ (at_, 1) :: a.R.drop i, g := g' } ∧ RFr ro w w' (hpZ hn) := by
  have HRES := Lib.hid (reserve_any A.at_ hs hR H.b at_ hfree hlow hgiv)
  have h64 : at_ < 64 := by have := hfree.1; have := A.at_.n64; omega
  have HH := Lib.hid H
  have HA := Lib.hid A
  have HPL := Lib.hid hpl
  have c27 := H.hp.c27
  clear H A hlow hfree hs
  go_enter Tryz.func19, Tryz.ntmps19
  go_wp2_with fail
  (with_reducible refine HRES.out.mono ?_)
  rintro e w1 ⟨rfl, g', i, hins, ha, hf, hgn⟩
  have HINS := Lib.hid hins
  have HA1 := Lib.hid ha
  have HF1 := Lib.hid hf
  have HG1 := Lib.hid hgn
  have R1 : RFr ro w w1 (fun r => ∃ i, r = .ar i) := RFr.of_fr hf (fun k hk => by
    rcases hk with rfl | rfl | rfl | hk
    · exact ⟨_, HA.out.ra⟩
    · exact ⟨_, HA.out.rk⟩
    · exact ⟨_, HA.out.rt⟩
    · exact ⟨_, HA.out.rg k hk.symm⟩)
  have hn1 : ∀ r : Role, (∀ i, r ≠ .ar i) → ¬ ∃ i, r = .ar i := fun r h ⟨i, e⟩ => h i e
  have hbh1 : w1.heap[h.bh]? = w.heap[h.bh]? := R1.block _ HH.out.hp.lt_h (by rw [HH.out.hp.rb]; exact hn1 _ nofun)
  have HM1 : Hid (MemAt w1 bm bb sz f) := HH.out.mem.stays (R1.block _ HH.out.mem.lt_bm (by rw [HH.out.rm]; exact hn1 _ nofun)) (R1.block _ HH.out.mem.lt_bb (by rw [HH.out.rb]; exact hn1 _ nofun))
  have HSN := Lib.hid (segNew_ok HM1.out h64 hsz)
  have d26 := (World.cell?_of_block (a := ⟨h.bh, 26, none⟩) hbh1).trans HH.out.hp.c26
  have HBH1 := Lib.hid hbh1
  have HR1 := Lib.hid R1
  clear hins ha hf hgn HRES c27 R1 hn1 hbh1
  go_wp2_with fail
  (with_reducible refine HSN.out.mono ?_)
  rintro e w2 ⟨bs, bk, bt, rfl, hsg, nb1, nb2, nb3, B2⟩
  have hbl1 : h.bh < w1.heap.size := Nat.lt_of_lt_of_le HH.out.hp.lt_h HR1.out.size
  have HBH2 : Hid (w2.heap[h.bh]? = w.heap[h.bh]?) := (B2.block _ hbl1).trans HBH1.out
  have d28 := (World.cell?_of_block (a := ⟨h.bh, 28, none⟩) HBH2.out).trans HH.out.hp.c28
  have HSG := Lib.hid hsg
  have HB2 := Lib.hid B2
  have HST := Lib.hid (segStore (hsg.stays (w' := w2.drew) rfl rfl rfl) h.id (by omega) (by omega))
  have HOW := Lib.hid (fun w => segOwner w bs)
  have hbb : h.bh ≠ bs := by omega
  have HHL : Hid (w2.drew.cell? ⟨h.bh, 28, none⟩ = some (.int .u64 h.id)) := d28
  clear hsg B2 HSN d26 HBH1
  go_wp2_with fail
  go_region_held3 (fun w' => w'.cell? ⟨h.bh, 28, none⟩ = some (.int .u64 h.id))
    (first | exact HHL.out | exact KG.out | go_keep | fail)
    (first
      | (go_at_call 27; refine (HOW.out _).mono ?_; rintro e wx ⟨rfl, rfl⟩)
      | (go_at_call 54; refine HST.out.mono ?_; rintro e w3 ⟨rfl, hs3, hg3⟩; have KG : Hid (w3.cell? ⟨h.bh, 28, none⟩ = some (.int .u64 h.id)) := hg3.cell HHL.out (fun e => hbb (Option.some.inj e)))
      | fail)
  have HS3 := Lib.hid hs3
  have HG3 : Hid (w2.grownBy w3 (some bs)) := ⟨hg3.os, hg3.tape, hg3.output, hg3.size, hg3.block⟩
  have hbs2 : bs < w2.heap.size := by have := HSG.out.lt; exact this
  have hbk2 : bk < w2.heap.size := HSG.out.marks.lt_b
  have hbt2 : bt < w2.heap.size := HSG.out.marks.lt_bt
  have hwa : w.heap.size ≤ w1.heap.size := HR1.out.size
  have hwb : w1.heap.size ≤ w2.heap.size := HB2.out.size
  have hwc : w2.heap.size ≤ w3.heap.size := HG3.out.size
  have hblw : h.bh < w.heap.size := HH.out.hp.lt_h
  have HBH3 : Hid (w3.heap[h.bh]? = w.heap[h.bh]?) := (HG3.out.block _ (by omega) (fun e => hbb (Option.some.inj e))).trans HBH2.out
  obtain ⟨v, hv, hov, hgv⟩ := HH.out.hp.c29
  obtain ⟨A, c, rfl, _, _, _⟩ := own_at hov
  have HGV := Lib.hid hgv
  have hgl : ∀ k, h.gs = some k → k < w.heap.size := fun k e => (hov.lt k (hgv.trans e)).2
  have HGL := Lib.hid hgl
  have HOV : Hid (w3.ownsRow B 60 1 (.slice A h.S.length c) h.S.length (segP h.S)) := own_stays hov (fun k hk => by
    have hr := HH.out.hp.rs k (hgv.symm.trans hk)
    have hl := hgl k (hgv.symm.trans hk)
    exact (HG3.out.block k (by omega) (fun e => by have := Option.some.inj e; omega)).trans ((HB2.out.block k (by omega)).trans (HR1.out.block k hl (by rw [hr]; rintro ⟨i, e⟩; cases e))))
  have c29 : w3.cell? ⟨h.bh, 29, none⟩ = some (.slice A h.S.length c) := (World.cell?_of_block (a := ⟨h.bh, 29, none⟩) HBH3.out).trans hv
  have z29 : w3.frozen? ⟨h.bh, 29, none⟩ = false := (World.frozen?_of_block (a := ⟨h.bh, 29, none⟩) HBH3.out).trans HH.out.hp.z29
  have hgb : h.gs ≠ some h.bh := fun e => by have h1 := HH.out.hp.rs _ e; rw [HH.out.hp.rb] at h1; cases h1
  have HB3 : B ≤ w3.heap.size := by have := HH.out.b; omega
  have hlen := HH.out.hp.len
  obtain ⟨i0, hi0, hz0, hz1, hz2⟩ := info_parts info_segp
  clear hs3 hg3 KG HST HOW hv hov hgv hgl d28 HHL
  go_wp2_with (first
    | (at_builtin
       refine wpList_append_any _ rfl (.tmp 48) (.tmp 50) _ rfl B 60 i0 _ 1 8 Tryz.underlying58 hi0 hz0 hz1 hz2 rfl (by omega) (.slice A h.S.length c) h.S.length (segP h.S) rfl
         (HOV.out.alloc _) _ _ 1 1 [.pointer (some ⟨bs, 0, none⟩)] rfl (Reads.new1 w3 _ _) (fun u hu => by simp at hu; subst hu; rfl) (by simp only [maxLen]; omega) (by omega) (by simp; omega) ?_
       intro v4 w4 hown4 hg4 hat4
       have c4 : w4.cell? ⟨h.bh, 29, none⟩ = some (.slice A h.S.length c) := hg4.cell ((World.cell?_alloc_lt w3 _ ⟨h.bh, 29, none⟩ (by show h.bh < _; omega)).trans c29) (by rw [HGV.out]; exact fun e => hgb e.symm)
       have f4 : w4.frozen? ⟨h.bh, 29, none⟩ = false := (World.frozen?_of_block (hg4.block h.bh (by simp; omega) (by rw [HGV.out]; exact fun e => hgb e.symm))).trans ((World.frozen?_of_block (Below.heap_alloc w3 _ h.bh (by omega))).trans z29)
       have H4 := Lib.hid hown4
       have G4 := Lib.hid hg4
       have AT4 := Lib.hid hat4
       obtain ⟨gb, cap4, rfl, hgb4, hgl4⟩ := hown4.form (by omega)
       clear hown4 hg4 hat4))
  go_ret
  -- what stands where
  have G := G4.out
  rw [HGV.out] at G
  have hat := AT4.out
  rw [HGV.out] at hat
  have zA : (w3.alloc (.cells #[.pointer (some ⟨bs, 0, none⟩)] 60)).heap.size = w3.heap.size + 1 := by simp
  have hgb2 : gb ≠ h.bh := fun e => by
    rcases hat with h1 | h1
    · simp only [Value.ownBlock] at h1; exact hgb (by rw [← h1, e])
    · simp only [Value.ownBlock, Option.some.injEq] at h1; rw [zA] at h1; omega
  have hgs : some gb = h.gs ∨ w3.heap.size ≤ gb := by
    rcases hat with h1 | h1
    · exact .inl h1
    · right; simp only [Value.ownBlock, Option.some.injEq] at h1; rw [zA] at h1; omega
  obtain ⟨V, hV⟩ : ∃ V, V = Value.slice (some ⟨gb, 0, none⟩) (h.S.length + 1) cap4 := ⟨_, rfl⟩
  obtain ⟨wF, hwF⟩ : ∃ wF, wF = w4.setCell ⟨h.bh, 29, none⟩ V := ⟨_, rfl⟩
  rw [← hV, ← hwF]
  have zF : w3.heap.size ≤ wF.heap.size := by
    rw [hwF]
    have := G.size
    simp [World.setCell] at this ⊢
    omega
  have b3 : ∀ k, k < w3.heap.size → k ≠ h.bh → some k ≠ h.gs → wF.heap[k]? = w3.heap[k]? := fun k hk h1 h2 => by
    rw [hwF, Below.heap_setCell _ _ _ _ h1]
    exact (G.block k (by rw [zA]; omega) h2).trans (Below.heap_alloc w3 _ k hk)
  have b1 : ∀ k, k < w1.heap.size → k ≠ h.bh → some k ≠ h.gs → wF.heap[k]? = w1.heap[k]? := fun k hk h1 h2 =>
    (b3 k (by omega) h1 h2).trans ((HG3.out.block k (by omega) (fun e => by have := Option.some.inj e; omega)).trans (HB2.out.block k hk))
  have hself : wF.heap[h.bh]? = (w.setCell ⟨h.bh, 29, none⟩ V).heap[h.bh]? := by
    have e : w4.heap[h.bh]? = w.heap[h.bh]? := (G.block h.bh (by rw [zA]; omega) (fun e => hgb e.symm)).trans ((Below.heap_alloc w3 _ h.bh (by omega)).trans HBH3.out)
    rw [hwF]
    simp only [World.setCell, Array.getElem?_modify, if_true]
    rw [e]
  have HR : RFr ro w wF (hpZ hn) := by
    have hg3 := HG3.out
    have hb2 := HB2.out
    have hr1 := HR1.out
    refine ⟨?_, ?_, ?_, by omega, fun k hk hx => ?_⟩
    · rw [hwF]; exact G.os.trans (hg3.os.trans (hb2.os.trans hr1.os))
    · rw [hwF]; exact G.tape.trans (hg3.tape.trans (hb2.tape.trans hr1.tape))
    · rw [hwF]; exact G.output.trans (hg3.output.trans (hb2.output.trans hr1.output))
    · exact (b1 k (by omega) (fun e => hx (by rw [e, HH.out.hp.rb]; exact .inr (.inl rfl))) (fun e => hx (by rw [HH.out.hp.rs k e.symm]; exact .inr (.inr rfl)))).trans (hr1.block k hk (fun e => hx (.inl e)))
  have e0 : ∀ k, k < w.heap.size → roGr ro w.heap.size bs bk bt at_ (some gb) g' hn k = ro k := fun k hk => if_pos hk
  have hnk := HSG.out.nk
  have hnt := HSG.out.nt
  have hnm := HSG.out.marks.ne
  have hs3 : SegAt wF bs bk bt bm at_ (segT []) (segO []) h.id (IntKind.u64.wrap (0 + 1)) (0 + 1) := by
    have e1 : segT [] = setT (fun _ => false) 0 1 true := by
      funext j
      unfold segT setT
      by_cases e : j = 0
      · subst e; simp
      · rw [if_neg (by omega)]; simp [e]
    have e2 : segO [] = fun _ => none := by funext j; simp [segO]
    rw [e1, e2]
    have ng : ∀ k, w.heap.size ≤ k → some k ≠ h.gs := fun k hk e => by have := HGL.out k e.symm; omega
    exact HS3.out.stays (b3 bs (by omega) (by omega) (ng _ (by omega))) (b3 bk (by omega) (by omega) (ng _ (by omega))) (b3 bt (by omega) (by omega) (ng _ (by omega)))
  have hsok : SegOk (roGr ro w.heap.size bs bk bt at_ (some gb) g' hn) wF bm sz f ⟨bs, bk, bt, at_, h.id, IntKind.u64.wrap (0 + 1), 0 + 1, []⟩ :=
    ⟨hs3, hsz, nofun, List.Pairwise.nil, by show roGr ro w.heap.size bs bk bt at_ (some gb) g' hn bs = .sg at_; unfold roGr; rw [if_neg (by omega), if_pos rfl], by show roGr ro w.heap.size bs bk bt at_ (some gb) g' hn bk = .mk at_; unfold roGr; rw [if_neg (by omega), if_neg (by omega), if_pos rfl], by show roGr ro w.heap.size bs bk bt at_ (some gb) g' hn bt = .tk at_; unfold roGr; rw [if_neg (by omega), if_neg (by omega), if_neg (by omega), if_pos rfl]⟩
  have hrs : ∀ k, some gb = some k → roGr ro w.heap.size bs bk bt at_ (some gb) g' hn k = .segs hn := fun k e => by
    injection e with e
    subst e
    rcases hgs with h1 | h1
    · rw [e0 gb (HGL.out gb h1.symm)]
      exact HH.out.hp.rs gb h1.symm
    · unfold roGr
      rw [if_neg (by omega), if_neg (by omega), if_neg (by omega), if_neg (by omega), if_pos rfl]
  have hown : wF.ownsRow B 60 1 V (h.S.length + 1) (segP h.S ++ [.pointer (some ⟨bs, 0, none⟩)]) := by
    rw [hwF, hV]
    exact H4.out.kept (only_set (World.grownBy.refl _ _) _) (.inr (fun e => hgb2 (Option.some.inj e)))
  have zn : ∀ {r : Role}, hpZ hn r → (∃ i, r = .ar i) ∨ r = .heap hn ∨ r = .segs hn := fun h => h
  have hh := HH.out.hp.grown (ro' := roGr ro w.heap.size bs bk bt at_ (some gb) g' hn) HR (by rintro c i (⟨_, e⟩ | e | e) <;> cases e) (fun pl => ⟨(by rintro (⟨_, e⟩ | e | e) <;> cases e), (by rintro (⟨_, e⟩ | e | e) <;> cases e), (by rintro (⟨_, e⟩ | e | e) <;> cases e)⟩)
    (fun pl at_ => ⟨(by rintro (⟨_, e⟩ | e | e) <;> cases e), (by rintro (⟨_, e⟩ | e | e) <;> cases e)⟩) e0 (s := ⟨bs, bk, bt, at_, h.id, IntKind.u64.wrap (0 + 1), 0 + 1, []⟩) (gs := some gb) hself hown (by rw [hV]; rfl) hrs hsok HPL.out
  have hlm := HH.out.mem.lt_bm
  have hlb := HH.out.mem.lt_bb
  have hmem := HH.out.mem.stays (HR.block bm hlm (by rw [HH.out.rm]; rintro (⟨_, e⟩ | e | e) <;> cases e)) (HR.block bb hlb (by rw [HH.out.rb]; rintro (⟨_, e⟩ | e | e) <;> cases e))
  refine ⟨rfl, roGr ro w.heap.size bs bk bt at_ (some gb) g' hn, ⟨bs, bk, bt, at_, h.id, IntKind.u64.wrap (0 + 1), 0 + 1, []⟩, some gb, g', i, HINS.out, e0, rfl, rfl, ⟨rfl, rfl⟩, ⟨hh, hmem, (e0 bm hlm).trans HH.out.rm, (e0 bb hlb).trans HH.out.rb, Nat.le_trans HH.out.b HR.size⟩, ?_, HR⟩
  have hA := HA.out
  have A1 := HA1.out
  have nb : ∀ k, k < w.heap.size → (∃ i, ro k = .ar i) → k ≠ h.bh ∧ some k ≠ h.gs := fun k _ ⟨i, e⟩ => ⟨(fun e2 => by rw [e2, HH.out.hp.rb] at e; cases e), (fun e2 => by rw [HH.out.hp.rs k e2.symm] at e; cases e)⟩
  have ga : ∀ k, g' = some k → k ≠ h.bh ∧ some k ≠ h.gs := fun k e => by
    rcases HG1.out with h1 | ⟨k', h1, h2⟩
    · exact nb k (hA.at_.lt_g (h1.symm.trans e)).1 ⟨_, hA.rg k (h1.symm.trans e)⟩
    · have : k = k' := Option.some.inj (e.symm.trans h1)
      exact ⟨by omega, fun e2 => by have := HGL.out k e2.symm; omega⟩
  have l1 := hA.at_.lt_a
  have l2 := hA.at_.marks.lt_b
  have l3 := hA.at_.marks.lt_bt
  refine ⟨A1.stays (b1 _ (by omega) (nb _ l1 ⟨_, hA.ra⟩).1 (nb _ l1 ⟨_, hA.ra⟩).2) (b1 _ (by omega) (nb _ l2 ⟨_, hA.rk⟩).1 (nb _ l2 ⟨_, hA.rk⟩).2) (b1 _ (by omega) (nb _ l3 ⟨_, hA.rt⟩).1 (nb _ l3 ⟨_, hA.rt⟩).2) (fun k e => b1 k (A1.lt_g e).1 (ga k e).1 (ga k e).2),
    (e0 _ l1).trans hA.ra, (e0 _ l2).trans hA.rk, (e0 _ l3).trans hA.rt, fun k e => ?_⟩
  rcases HG1.out with h1 | ⟨k', h1, h2⟩
  · rw [e0 k (hA.at_.lt_g (h1.symm.trans e)).1]
    exact hA.rg k (h1.symm.trans e)
  · have hk : k = k' := Option.some.inj (e.symm.trans h1)
    have hk1 := (A1.lt_g e).1
    unfold roGr
    rw [if_neg (by omega), if_neg (by omega), if_neg (by omega), if_neg (by omega), if_neg (fun e2 => by
      have := Option.some.inj e2
      rcases hgs with h3 | h3
      · exact (ga k e).2 (by rw [this]; exact h3)
      · omega), if_pos e.symm]
end Go.Proofs.YtbljphaklciinaaGreat

/- HeapKeeps: its heap, call by call. -/
namespace Go.Proofs.YtbljphaklciinaaGreat
open Go.RowKit
variable {ro ro' : Nat → Role} {hn : Nat} {w w' : World} {B bm bb sz : Nat} {f g : Nat → Nat} {h : HeapR} {X : Role → Prop} {a : ArR}

/-- An arena of n segments, of which the first k are given, all of them the heap's. -/
structure KA (n k r : Nat) (h : HeapR) (a : ArR) : Prop where
  en : a.n = n
  lim : a.lim = n
  T : a.T = fun j => decide (j < k)
  R : a.R = (List.range k).map fun j => (j, 1)
  kn : k ≤ n
  pls : ∀ s ∈ h.S, s.pl < k
  rf : a.rf ≤ r

theorem freeN_lt (n : Nat) : ∀ k, k ≤ n → freeN (fun j => decide (j < k)) n = n - k := by
  induction n with
  | zero => intro k hk; simp [freeN]
  | succ n ih =>
    intro k hk
    have e : freeN (fun j => decide (j < k)) (n + 1) = freeN (fun j => decide (j < k)) n + (if n < k then 0 else 1) := by
      unfold freeN
      rw [List.range_succ, List.countP_append, List.countP_singleton]
      by_cases h : n < k <;> simp [h]
    rw [e]
    by_cases h : n < k
    · obtain rfl : k = n + 1 := by omega
      have : freeN (fun j => decide (j < n + 1)) n = 0 := by
        unfold freeN
        rw [List.countP_eq_zero]
        intro j hj
        simp at hj
        simp
        omega
      rw [this, if_pos h]
      omega
    · rw [ih k (by omega), if_neg h]
      omega

theorem KA.given {n k r : Nat} (K : KA n k r h a) : freeN a.T a.n = n - k := by rw [K.T, K.en]; exact freeN_lt n k K.kn
theorem KA.sorted {n k r : Nat} (K : KA n k r h a) : SortedR a.R := fun i j x y hij hx hy => by
  rw [K.R, List.getElem?_map] at hx hy
  have h1 : i < k := by
    rcases Nat.lt_or_ge i k with h | h
    · exact h
    · rw [List.getElem?_eq_none (by simpa using h)] at hx; cases hx
  have h2 : j < k := by
    rcases Nat.lt_or_ge j k with h | h
    · exact h
    · rw [List.getElem?_eq_none (by simpa using h)] at hy; cases hy
  rw [List.getElem?_range h1] at hx
  rw [List.getElem?_range h2] at hy
  cases hx
  cases hy
  exact hij
theorem KA.len {n k r : Nat} (K : KA n k r h a) : a.R.length = k := by rw [K.R]; simp
theorem KA.small {n k r : Nat} (K : KA n k r h a) : ∀ (j : Nat) (x : Nat × Nat), a.R[j]? = some x → x.1 < k := fun j x hx => by
  rw [K.R] at hx
  obtain ⟨i, hi, rfl⟩ := List.mem_map.1 (List.mem_of_getElem? hx)
  simpa using hi
theorem KA.keep {n k r : Nat} {h' : HeapR} (K : KA n k r h a) (hp : ∀ s ∈ h'.S, ∃ t ∈ h.S, s.pl = t.pl) : KA n k r h' a :=
  { K with pls := fun s hs => by obtain ⟨t, ht, e⟩ := hp s hs; rw [e]; exact K.pls t ht }

theorem setPg_pls {pl at_ : Nat} {pg : Pg} {S : List SegR} : ∀ s ∈ setPg pl at_ pg S, ∃ t ∈ S, s.pl = t.pl := fun s hs => by
  obtain ⟨t, ht, rfl⟩ := List.mem_map.1 hs
  exact ⟨t, ht, by split <;> rfl⟩
theorem addPg_pls {pl : Nat} {p : PageR} {S : List SegR} : ∀ s ∈ addPg pl p S, ∃ t ∈ S, s.pl = t.pl := fun s hs => by
  obtain ⟨t, ht, rfl⟩ := List.mem_map.1 hs
  exact ⟨t, ht, addI_pl _ _ _⟩

/-- Roles with all that is to come another's. -/
def cutR (ro : Nat → Role) (N : Nat) (k : Nat) : Role := if k < N then ro k else .other
theorem LawH.cut {W : World} {n : Nat} (L : LawH W ro hn w bm bb sz f h a) (hN : n = w.heap.size) : LawH W (cutR ro n) hn w bm bb sz f h a :=
  have e : ∀ k, k < w.heap.size → cutR ro n k = ro k := fun k hk => if_pos (by omega)
  ⟨⟨L.hp.hp.role e, L.hp.mem, (e _ L.hp.mem.lt_bm).trans L.hp.rm, (e _ L.hp.mem.lt_bb).trans L.hp.rb, L.hp.b⟩, L.ar.role e, L.below, fun k hk => (e k (Nat.lt_of_lt_of_le hk L.below.size)).trans (L.old k hk)⟩

/-- The law's state: k segments are given; a block x of its own stays as it is. -/
def KX (W : World) (bh ba n k r x : Nat) (o : Obj) (w : World) : Prop :=
  ∃ ro bm bb f h a, LawH W ro 0 w bm bb (n * 16384) f h a ∧ KA n k r h a ∧ h.bh = bh ∧ h.ba = ba ∧ ro x = .other ∧ w.heap[x]? = some o
/-- The same without a block. -/
def KS (W : World) (bh ba n k r : Nat) (w : World) : Prop :=
  ∃ ro bm bb f h a, LawH W ro 0 w bm bb (n * 16384) f h a ∧ KA n k r h a ∧ h.bh = bh ∧ h.ba = ba

variable {W : World} {bh ba n k r x : Nat} {o : Obj}
theorem KX.to_s (K : KX W bh ba n k r x o w) : KS W bh ba n k r w := by
  obtain ⟨ro, bm, bb, f, h, a, L, K, e1, e2, _⟩ := K
  exact ⟨ro, bm, bb, f, h, a, L, K, e1, e2⟩
theorem KS.below (K : KS W bh ba n k r w) : Below W.heap.size W w := by
  obtain ⟨ro, bm, bb, f, h, a, L, _⟩ := K
  exact L.below
theorem KS.block (K : KS W bh ba n k r w) (o : Obj) : KX W bh ba n k r w.heap.size o (w.alloc o) := by
  obtain ⟨ro, bm, bb, f, h, a, L, K, e1, e2⟩ := K
  refine ⟨cutR ro w.heap.size, bm, bb, f, h, a, (L.cut rfl).on ((Below.refl _ _).alloc (Nat.le_refl _) _), K, e1, e2, if_neg (by omega), ?_⟩
  show (w.heap.push o)[w.heap.size]? = _
  simp
theorem lt_of_block {w : World} {x : Nat} {o : Obj} (h : w.heap[x]? = some o) : x < w.heap.size := (Array.getElem?_eq_some_iff.1 h).1
theorem KX.step (K : KX W bh ba n k r x o w) :
    ∃ ro bm bb f h a, LawH W ro 0 w bm bb (n * 16384) f h a ∧ KA n k r h a ∧ h.bh = bh ∧ h.ba = ba ∧
      ∀ {ro' : Nat → Role} {X : Role → Prop} {w' : World} {g : Nat → Nat} {h' : HeapR} {a' : ArR} {k' r' : Nat}, RFr ro w w' X → ¬ X .other → (∀ k, k < w.heap.size → ro' k = ro k) → LawH W ro' 0 w' bm bb (n * 16384) g h' a' → KA n k' r' h' a' → h'.bh = bh → h'.ba = ba → KX W bh ba n k' r' x o w' := by
  obtain ⟨ro, bm, bb, f, h, a, L, K, e1, e2, e3, e4⟩ := K
  refine ⟨ro, bm, bb, f, h, a, L, K, e1, e2, fun {ro' X w' g h' a' k' r'} hf hx he L' K' e1' e2' => ⟨ro', bm, bb, g, h', a', L', K', e1', e2', (he x (lt_of_block e4)).trans e3, (hf.block x (lt_of_block e4) (by rw [e3]; exact hx)).trans e4⟩⟩

theorem grow_k (K : KX W bh ba n k r x o w) (hn : n ≤ 16) (hr : r < 1000000) :
    Calls Tryz.prog 19 #[.pointer (some ⟨bh, 0, none⟩)] w fun e w' => ∃ v k', e = .returned (.int .i64 v) ∧ KX W bh ba n k' (r + 1) x o w' := by
  obtain ⟨ro, bm, bb, f, h, a, L, J, rfl, rfl, st⟩ := K.step
  have hg := J.given
  have hN := J.en
  have hlim := J.lim
  have hkn := J.kn
  have hrf := J.rf
  by_cases hk : k < n
  · refine (grow_room L.hp L.ar J.sorted (by rw [J.len]; omega) (at_ := k) ⟨by omega, fun j hj => by rw [J.T]; simp⟩ (fun j hj hf => by have := hf.2 0 (by omega); rw [J.T] at this; simp at this; omega) J.small (by rw [hg]; omega) (fun t ht e => by have := J.pls t ht; omega) (by omega)).mono ?_
    rintro e w' ⟨rfl, ro', s, gs, g', he, h1, h2, h3, H, A, rr⟩
    refine ⟨0, k + 1, rfl, st rr hpZ_other he (L.step H A rr hpZ_other he) ⟨J.en, J.lim, ?_, ?_, by omega, fun t ht => ?_, Nat.le_succ_of_le J.rf⟩ rfl rfl⟩
    · show setT a.T k 1 true = _
      rw [J.T]
      funext j
      unfold setT
      by_cases e : j = k
      · subst e; simp
      · rw [if_neg (by omega)]
        show decide (j < k) = decide (j < k + 1)
        rw [decide_eq_decide]
        omega
    · show a.R ++ [(k, 1)] = _
      rw [J.R, List.range_succ, List.map_append]
      rfl
    · rcases List.mem_append.1 ht with ht | ht
      · have := J.pls t ht; omega
      · simp only [List.mem_singleton] at ht
        subst ht
        omega
  · refine (grow_full L.hp L.ar (by omega) (by rw [hg]; omega)).mono ?_
    rintro e w' ⟨rfl, H, A, rr⟩
    exact ⟨4, k, rfl, st rr hpZ_other (fun _ _ => rfl) (L.step H A rr hpZ_other (fun _ _ => rfl)) { J with rf := by show a.rf + 1 ≤ r + 1; omega } rfl rfl⟩

theorem KX.on (K : KX W bh ba n k r x o w) (hb : Below w.heap.size w w') : KX W bh ba n k r x o w' := by
  obtain ⟨ro, bm, bb, f, h, a, L, J, rfl, rfl, st⟩ := K.step
  exact st (RFr.of_below hb : RFr ro w w' (fun _ => False)) (fun h => h) (fun _ _ => rfl) (L.on hb) J rfl rfl

theorem given_k (K : KX W bh ba n k r x o w) : Calls Tryz.prog 14 #[.pointer (some ⟨ba, 0, none⟩)] w fun e w' => e = .returned (.int .i64 k) ∧ KX W bh ba n k r x o w' := by
  have K0 := K
  obtain ⟨ro, bm, bb, f, h, a, L, J, rfl, rfl, _⟩ := K
  refine (arenaGiven L.ar.at_).mono ?_
  rintro e w' ⟨rfl, kk, rfl⟩
  have hkn := J.kn
  refine ⟨?_, K0.on (below_drewN (Below.refl _ _) kk)⟩
  rw [J.given, J.en]
  congr 2
  omega

theorem local_k (K : KX W bh ba n k r x o w) (c : Int) (h1 : -9223372036854775808 ≤ c) (h2 : c ≤ 9223372036854775807) :
    Calls Tryz.prog 15 #[.pointer (some ⟨bh, 0, none⟩), .int .i64 c] w fun e w' => ∃ v1 v2, e = .returned (.tuple #[.int .u64 v1, .int .i64 v2]) ∧ KX W bh ba n k r x o w' := by
  have K0 := K
  obtain ⟨ro, bm, bb, f, h, a, L, J, rfl, rfl, st⟩ := K.step
  refine (local_any L.hp c h1 h2).mono ?_
  rintro e w' (⟨i, _, rfl, _, ro', kk, k1, k2, he, rr, _, hk⟩ | ⟨_, rfl, rfl⟩)
  · have A := L.ar.over rr (fun i => hpX_ar) he
    rcases hk with ⟨s, hs, p, hp, f', pg', ad, _, _, _, rfl, H⟩ | ⟨rfl, _, H⟩
    · exact ⟨_, _, rfl, st rr hpX_other he (L.step H A rr hpX_other he) (J.keep setPg_pls) rfl rfl⟩
    · exact ⟨_, _, rfl, st rr hpX_other he (L.step H A rr hpX_other he) (J.keep fun s hs => ⟨s, hs, rfl⟩) rfl rfl⟩
  · exact ⟨_, _, rfl, K0⟩

theorem fresh_k (K : KX W bh ba n k r x o w) (c q u v : Int) (h1 : -9223372036854775808 ≤ c) (h2 : c ≤ 9223372036854775807) (h3 : -9223372036854775808 ≤ q) (h4 : q ≤ 9223372036854775807) :
    Calls Tryz.prog 20 #[.pointer (some ⟨bh, 0, none⟩), .agg #[.int .i64 c, .int .i64 q, .int .i64 u, .int .u64 v]] w fun e w' => ∃ v1 v2, e = .returned (.tuple #[.int .u64 v1, .int .i64 v2]) ∧ KX W bh ba n k r x o w' := by
  have K0 := K
  obtain ⟨ro, bm, bb, f, h, a, L, J, rfl, rfl, st⟩ := K.step
  refine (fresh_any L.hp c q u v h1 h2 h3 h4).mono ?_
  rintro e w' (⟨ec, _, rfl, hb, _⟩ | ⟨i, sl, S, N, hp, t, ht, at_, bo, bp, ro', f', pg', k1, k2, hf, hlow, rfl, he, hg, H, rr⟩)
  · exact ⟨_, _, rfl, K0.on hb⟩
  · exact ⟨_, _, rfl, st rr hpY_other he (L.step H (L.ar.over rr (fun i => hpY_ar) he) rr hpY_other he) (J.keep addPg_pls) rfl rfl⟩

theorem KX.le (K : KX W bh ba n k r x o w) : KX W bh ba n k (r + 1) x o w := by
  obtain ⟨ro, bm, bb, f, h, a, L, J, e⟩ := K
  exact ⟨ro, bm, bb, f, h, a, L, { J with rf := Nat.le_succ_of_le J.rf }, e⟩
theorem KX.cell {cs : Array Value} {T : TypeId} {j : Nat} {v : Value} (K : KX W bh ba n k r x (.cells cs T) w) (hj : cs[j]? = some v) : w.cell? ⟨x, j, none⟩ = some v := by
  obtain ⟨ro, bm, bb, f, h, a, L, J, _, _, _, e⟩ := K
  rw [cell_of_row w x j cs _ _ e]
  exact hj

/-- A class's pages. -/
theorem pages_one (L : LawH W ro 0 w bm bb sz f h a) (c : Int) (h1 : -1 ≤ c) (h2 : c < 12) :
    Calls Tryz.prog 21 #[.pointer (some ⟨h.bh, 0, none⟩), .slice (some ⟨w.heap.size, 0, none⟩) 1 1] (w.alloc (.cells #[.int .i64 c] 3)) fun e w' => (∃ A cap, e = .returned (.slice A (rowOf h c).length cap)) ∧ Below w.heap.size w w' := by
  have B1 : Below w.heap.size w (w.alloc (.cells #[.int .i64 c] 3)) := (Below.refl _ _).alloc (Nat.le_refl _) _
  have hrow := row_one w c
  have hz : (w.alloc (.cells #[.int .i64 c] 3)).heap.size = w.heap.size + 1 := by simp
  rw [← hz] at hrow
  refine (pages_row (L.on B1).hp.hp hrow (fun ad e => by injection e with e; subst e; rfl) (by omega) (by omega) (fun y hy => by
    simp only [List.mem_singleton] at hy
    subst hy
    by_cases e : y = -1
    · exact ⟨12, by omega, by rw [e]; rfl, h1, h2⟩
    · refine ⟨y.toNat, by omega, ?_, h1, h2⟩
      unfold rowIx
      rw [if_neg e, if_pos (by omega)])).mono ?_
  rintro e w' ⟨v, rfl, ho, hb⟩
  obtain ⟨A, c', rfl, _⟩ := own_at ho
  refine ⟨⟨A, c', ?_⟩, B1.trans (hb.mono B1.size)⟩
  have e : (startsOf (rowsOf h [c])).length = (rowOf h c).length := by simp [startsOf, rowsOf]
  rw [e]

theorem pages_every (L : LawH W ro 0 w bm bb sz f h a) :
    Calls Tryz.prog 21 #[.pointer (some ⟨h.bh, 0, none⟩), .slice none 0 0] w fun e w' => (∃ A cap, e = .returned (.slice A (rowsOf h classes).length cap)) ∧ Below w.heap.size w w' := by
  refine (pages_all L.hp.hp).mono ?_
  rintro e w' ⟨v, rfl, ho, hb⟩
  obtain ⟨A, c', rfl, _⟩ := own_at ho
  refine ⟨⟨A, c', ?_⟩, hb⟩
  have e : (startsOf (rowsOf h classes)).length = (rowsOf h classes).length := by simp [startsOf]
  rw [e]

/-- How many pages the first m of the classes -1, 0 .. have. -/
def sumTo (h : HeapR) (m : Nat) : Nat := ((List.range m).map fun (t : Nat) => (rowOf h ((t : Int) - 1)).length).sum
theorem sumTo_succ (h : HeapR) (m : Nat) : sumTo h (m + 1) = sumTo h m + (rowOf h ((m : Int) - 1)).length := by
  unfold sumTo
  rw [List.range_succ, List.map_append, List.sum_append]
  simp
theorem sumTo_all (h : HeapR) : sumTo h 13 = (rowsOf h classes).length := by
  have e : classes = [0, 1, 2, 3, 4, 5, 6, 7, 8, 9, 10, 11, -1] := rfl
  rw [e]
  simp only [sumTo_succ, rowsOf, List.flatMap_cons, List.flatMap_nil, List.length_append]
  simp [sumTo]
  omega
theorem rowOf_len (H : HeapAt ro hn w B bm sz f h) (c : Int) : (rowOf h c).length ≤ 1024 := by
  unfold rowOf
  split
  · rename_i i e
    rw [List.length_append]
    exact H.qlen (rowIx_lt e)
  · simp
theorem sumTo_le (H : HeapAt ro hn w B bm sz f h) : ∀ m, sumTo h m ≤ m * 1024
  | 0 => by simp [sumTo]
  | m + 1 => by
    rw [sumTo_succ]
    have := sumTo_le H m
    have := rowOf_len H ((m : Int) - 1)
    omega
end Go.Proofs.YtbljphaklciinaaGreat

/- Layer 12's laws: get, call by call; what it leaves, as steps of a heap. -/
namespace Go.Proofs.YtbljphaklciinaaGreat
open Go.RowKit
variable {ro ro' : Nat → Role} {hn : Nat} {w w' : World} {B bm bb sz : Nat} {f g : Nat → Nat} {h : HeapR} {X : Role → Prop} {a : ArR} {W : World} {n k r x : Nat} {o : Obj}

/-- A law's heap, all of whose arena is its own, and a block x of the law's that stays as it is. -/
structure LX (W : World) (ro : Nat → Role) (w : World) (bm bb : Nat) (f : Nat → Nat) (h : HeapR) (a : ArR) (n k r x : Nat) (o : Obj) : Prop where
  law : LawH W ro 0 w bm bb (n * 16384) f h a
  ka : KA n k r h a
  ot : ro x = .other
  blk : w.heap[x]? = some o

/-- What is the law's own stays as it is, and its own. -/
def Stay (ro : Nat → Role) (w : World) (ro' : Nat → Role) (w' : World) : Prop := w.heap.size ≤ w'.heap.size ∧ ∀ b, b < w.heap.size → ro b = .other → w'.heap[b]? = w.heap[b]? ∧ ro' b = .other
theorem Stay.trans {ro2 : Nat → Role} {w2 : World} (h1 : Stay ro w ro' w') (h2 : Stay ro' w' ro2 w2) : Stay ro w ro2 w2 :=
  ⟨Nat.le_trans h1.1 h2.1, fun b hb hr => by
    obtain ⟨e1, e2⟩ := h1.2 b hb hr
    obtain ⟨e3, e4⟩ := h2.2 b (Nat.lt_of_lt_of_le hb h1.1) e2
    exact ⟨e3.trans e1, e4⟩⟩
theorem Stay.of_fr (hf : RFr ro w w' X) (hx : ¬ X .other) (he : ∀ k, k < w.heap.size → ro' k = ro k) : Stay ro w ro' w' := ⟨hf.size, fun b hb hr => ⟨hf.block b hb (by rw [hr]; exact hx), (he b hb).trans hr⟩⟩
theorem Stay.below (hb : Below w.heap.size w w') : Stay ro w ro w' := ⟨hb.size, fun b hb' hr => ⟨hb.block b hb', hr⟩⟩
theorem Stay.cut {N : Nat} (hN : N = w.heap.size) : Stay ro w (cutR ro N) w := ⟨Nat.le_refl _, fun b hb hr => ⟨rfl, by unfold cutR; rw [if_pos (by omega)]; exact hr⟩⟩

theorem LX.step {h' : HeapR} {a' : ArR} {k' r' : Nat} (L : LX W ro w bm bb f h a n k r x o) (hf : RFr ro w w' X) (hx : ¬ X .other) (he : ∀ k, k < w.heap.size → ro' k = ro k) (H : Hp ro' 0 w' W.heap.size bm bb (n * 16384) g h') (A : ArOk ro' w' W.heap.size h'.ba a') (K : KA n k' r' h' a') : LX W ro' w' bm bb g h' a' n k' r' x o :=
  ⟨L.law.step H A hf hx he, K, (he x (lt_of_block L.blk)).trans L.ot, (hf.block x (lt_of_block L.blk) (by rw [L.ot]; exact hx)).trans L.blk⟩
theorem LX.on (L : LX W ro w bm bb f h a n k r x o) (hb : Below w.heap.size w w') : LX W ro w' bm bb f h a n k r x o :=
  ⟨L.law.on hb, L.ka, L.ot, (hb.block x (lt_of_block L.blk)).trans L.blk⟩
theorem LX.cell {cs : Array Value} {T : TypeId} {j : Nat} {v : Value} (L : LX W ro w bm bb f h a n k r x (.cells cs T)) (hj : cs[j]? = some v) : w.cell? ⟨x, j, none⟩ = some v := by
  rw [cell_of_row w x j cs _ _ L.blk]
  exact hj
theorem LX.made {N : Nat} (L : LawH W ro 0 w bm bb (n * 16384) f h a) (K : KA n k r h a) (hN : N = w.heap.size) (o : Obj) : LX W (cutR ro N) (w.alloc o) bm bb f h a n k r N o := by
  subst hN
  refine ⟨(L.cut rfl).on ((Below.refl _ _).alloc (Nat.le_refl _) _), K, if_neg (by omega), ?_⟩
  show (w.heap.push o)[w.heap.size]? = _
  simp

/-- A call that turns what is the law's own alone. -/
theorem Hp.other (H : Hp ro hn w B bm bb sz f h) (hf : RFr ro w w' (fun r => r = .other)) : Hp ro hn w' B bm bb sz f h := by
  have hh := H.hp.reseg hf nofun (fun c i => nofun) nofun (S' := h.S) rfl (fun s hs => (H.hp.segs s hs).fr hf nofun nofun nofun (fun p _ => ⟨nofun, nofun⟩)) H.hp.pls H.hp.link
  exact ⟨hh, H.mem.stays (hf.block bm H.mem.lt_bm (by rw [H.rm]; nofun)) (hf.block bb H.mem.lt_bb (by rw [H.rb]; nofun)), H.rm, H.rb, Nat.le_trans H.b hf.size⟩
theorem LawH.own {go : Option Nat} (L : LawH W ro hn w bm bb sz f h a) (hg : w.grownBy w' go) (hr : ∀ b, go = some b → ro b = .other ∧ W.heap.size ≤ b) : LawH W ro hn w' bm bb sz f h a := by
  have hf : RFr ro w w' (fun r => r = .other) := ⟨hg.os, hg.tape, hg.output, hg.size, fun b hb hx => hg.block b hb (fun e => hx (hr b e.symm).1)⟩
  exact ⟨L.hp.other hf, L.ar.fr hf nofun, ⟨hg.os.trans L.below.os, hg.tape.trans L.below.tape, hg.output.trans L.below.output, Nat.le_trans L.below.size hg.size, fun b hb => (hg.block b (Nat.lt_of_lt_of_le hb L.below.size) (fun e => by have := (hr b e.symm).2; omega)).trans (L.below.block b hb)⟩, L.old⟩

/-- A block out of a page that there is. -/
def GLoc (sz : Nat) (f : Nat → Nat) (h : HeapR) (i x : Nat) (f' : Nat → Nat) (h' : HeapR) : Prop :=
  ∃ kk, ∃ s ∈ h.S, ∃ p ∈ s.P, ∃ pg' k1 k2, (∀ j x, j < kk → (h.Q1 i)[j]? = some x → FullKey h.S x) ∧ (h.Q1 i)[kk]? = some ((s.pl * 16 + p.at_ : Nat) : Int) ∧ rowIx p.cls = some i ∧ PgGot f sz p.pg f' pg' x ∧
    h' = ({ h with S := setPg s.pl p.at_ pg' h.S } : HeapR).queued i ((h.Q1 i).drop kk) (h.Q2 i ++ (h.Q1 i).take kk) k1 k2
/-- No page that there is has any. -/
def GFill (h : HeapR) (i : Nat) (h' : HeapR) : Prop := ∃ k1 k2, (∀ x ∈ h.Q1 i, FullKey h.S x) ∧ h' = h.queued i [] (h.Q2 i ++ h.Q1 i) k1 k2
/-- A block out of a page anew. -/
def GNew (sz : Nat) (f : Nat → Nat) (h : HeapR) (c : Int) (i sl S N x : Nat) (f' : Nat → Nat) (h' : HeapR) : Prop :=
  ∃ s ∈ h.S, ∃ at_ bo bp pg' k1 k2, FreeRow (segT s.P) 16 sl at_ ∧ (∀ j, j < at_ → ¬ FreeRow (segT s.P) 16 sl j) ∧ x = s.pl * 16384 + at_ * 1024 ∧ PgGot f sz (newPg x S N) f' pg' x ∧
    h' = ({ h with S := addPg s.pl ⟨bo, bp, c, at_, sl, pg'⟩ h.S } : HeapR).queued i (h.Q1 i ++ [((s.pl * 16 + at_ : Nat) : Int)]) (h.Q2 i) k1 k2
def NoRoom (h : HeapR) (sl : Nat) : Prop := ∀ s ∈ h.S, ∀ j, ¬ FreeRow (segT s.P) 16 sl j
/-- A segment more. -/
def GGrow (k : Nat) (h h' : HeapR) : Prop := ∃ s gs, s.pl = k ∧ s.P = [] ∧ (s.x = h.id ∧ s.a = 1) ∧ h' = { h with S := h.S ++ [s], gs := gs }

theorem local_g (L : LX W ro w bm bb f h a n k r x o) {i : Nat} (hi : i < 12) :
    Calls Tryz.prog 15 #[.pointer (some ⟨h.bh, 0, none⟩), .int .i64 i] w fun e w' =>
      (∃ y f' h' ro', e = .returned (.tuple #[.int .u64 (y : Nat), .int .i64 0]) ∧ GLoc (n * 16384) f h i y f' h' ∧ LX W ro' w' bm bb f' h' a n k r x o ∧ h'.bh = h.bh ∧ h'.ba = h.ba ∧ Stay ro w ro' w') ∨
      (∃ h' ro', e = .returned (.tuple #[.int .u64 0, .int .i64 4]) ∧ GFill h i h' ∧ LX W ro' w' bm bb f h' a n k r x o ∧ h'.bh = h.bh ∧ h'.ba = h.ba ∧ Stay ro w ro' w') := by
  refine (local_any L.law.hp i (by omega) (by omega)).mono ?_
  rintro e w' (⟨j, _, hj, _, ro', kk, k1, k2, he, rr, hful, hk⟩ | ⟨h1, _⟩)
  · obtain rfl : i = j := by omega
    have A := L.law.ar.over rr (fun i => hpX_ar) he
    rcases hk with ⟨s, hs, p, hp, f', pg', ad, h1, h2, h3, rfl, H⟩ | ⟨rfl, hkk, H⟩
    · exact .inl ⟨ad, f', _, ro', rfl, ⟨kk, s, hs, p, hp, pg', k1, k2, hful, h2, h1, h3, rfl⟩, L.step rr hpX_other he H A (L.ka.keep setPg_pls), rfl, rfl, Stay.of_fr rr hpX_other he⟩
    · refine .inr ⟨_, ro', rfl, ⟨k1, k2, fun y hy => ?_, rfl⟩, L.step rr hpX_other he H A (L.ka.keep fun s hs => ⟨s, hs, rfl⟩), rfl, rfl, Stay.of_fr rr hpX_other he⟩
      obtain ⟨q, hq, e⟩ := List.mem_iff_getElem.1 hy
      exact hful q y (by omega) (by rw [List.getElem?_eq_getElem hq, e])
  · exact absurd ⟨by omega, by omega⟩ h1

theorem fresh_g (L : LX W ro w bm bb f h a n k r x o) {c q u v : Int} {i sl S N : Nat} (hp : PlanOk c q i sl S N) (h3 : -9223372036854775808 ≤ q) (h4 : q ≤ 9223372036854775807) :
    Calls Tryz.prog 20 #[.pointer (some ⟨h.bh, 0, none⟩), .agg #[.int .i64 c, .int .i64 q, .int .i64 u, .int .u64 v]] w fun e w' =>
      (∃ y f' h' ro', e = .returned (.tuple #[.int .u64 (y : Nat), .int .i64 0]) ∧ GNew (n * 16384) f h c i sl S N y f' h' ∧ LX W ro' w' bm bb f' h' a n k r x o ∧ h'.bh = h.bh ∧ h'.ba = h.ba ∧ Stay ro w ro' w') ∨
      (∃ ec : Int, ec ≠ 0 ∧ e = .returned (.tuple #[.int .u64 0, .int .i64 ec]) ∧ NoRoom h sl ∧ LX W ro w' bm bb f h a n k r x o ∧ Stay ro w ro w') := by
  obtain ⟨f1, f2, f3, f4, _⟩ := hp.facts
  refine (fresh_any L.law.hp c q u v (by omega) (by omega) h3 h4).mono ?_
  rintro e w' (⟨ec, h0, rfl, hb, hno⟩ | ⟨i', sl', S', N', hp', t, ht, at_, bo, bp, ro', f', pg', k1, k2, hf, hlow, rfl, he, hg, H, rr⟩)
  · exact .inr ⟨ec, h0, rfl, fun s hs j => hno i sl S N hp s hs j, L.on hb, Stay.below hb⟩
  · have e : i' = i ∧ sl' = sl ∧ S' = S ∧ N' = N := by
      rcases hp with ⟨a1, a2, a3, _, _, a6, a7⟩ | ⟨a1, a2, a3, a6, a7⟩ <;> rcases hp' with ⟨b1, b2, b3, _, _, b6, b7⟩ | ⟨b1, b2, b3, b6, b7⟩
      · have : sl' = sl := by omega
        subst this
        exact ⟨by omega, rfl, by omega, by omega⟩
      · omega
      · omega
      · have : i' = i := by omega
        subst this
        exact ⟨rfl, by rw [a3, b3], by rw [a6, b6], by rw [a7, b7]⟩
    obtain ⟨rfl, rfl, rfl, rfl⟩ := e
    exact .inl ⟨_, f', _, ro', rfl, ⟨t, ht, at_, bo, bp, pg', k1, k2, hf, hlow, rfl, hg, rfl⟩, L.step rr hpY_other he H (L.law.ar.over rr (fun i => hpY_ar) he) (L.ka.keep addPg_pls), rfl, rfl, Stay.of_fr rr hpY_other he⟩

theorem grow_g (L : LX W ro w bm bb f h a n k r x o) (hn : n ≤ 16) (hr : r < 1000000) :
    Calls Tryz.prog 19 #[.pointer (some ⟨h.bh, 0, none⟩)] w fun e w' =>
      (k < n ∧ ∃ h' ro' a', e = .returned (.int .i64 0) ∧ GGrow k h h' ∧ LX W ro' w' bm bb f h' a' n (k + 1) r x o ∧ h'.bh = h.bh ∧ h'.ba = h.ba ∧ Stay ro w ro' w') ∨
      (k = n ∧ ∃ a', e = .returned (.int .i64 4) ∧ LX W ro w' bm bb f h a' n k (r + 1) x o ∧ Stay ro w ro w') := by
  have J := L.ka
  have hg := J.given
  have hN := J.en
  have hlim := J.lim
  have hkn := J.kn
  have hrf := J.rf
  by_cases hk : k < n
  · refine (grow_room L.law.hp L.law.ar J.sorted (by rw [J.len]; omega) (at_ := k) ⟨by omega, fun j hj => by rw [J.T]; simp⟩ (fun j hj hf => by have := hf.2 0 (by omega); rw [J.T] at this; simp at this; omega) J.small (by rw [hg]; omega) (fun t ht e => by have := J.pls t ht; omega) (by omega)).mono ?_
    rintro e w' ⟨rfl, ro', s, gs, g', he, h1, h2, h3, H, A, rr⟩
    refine .inl ⟨hk, _, ro', _, rfl, ⟨s, gs, h1, h2, h3, rfl⟩, L.step rr hpZ_other he H A ⟨J.en, J.lim, ?_, ?_, by omega, fun t ht => ?_, J.rf⟩, rfl, rfl, Stay.of_fr rr hpZ_other he⟩
    · show setT a.T k 1 true = _
      rw [J.T]
      funext j
      unfold setT
      by_cases e : j = k
      · subst e; simp
      · rw [if_neg (by omega)]
        show decide (j < k) = decide (j < k + 1)
        rw [decide_eq_decide]
        omega
    · show a.R ++ [(k, 1)] = _
      rw [J.R, List.range_succ, List.map_append]
      rfl
    · rcases List.mem_append.1 ht with ht | ht
      · have := J.pls t ht; omega
      · simp only [List.mem_singleton] at ht
        subst ht
        omega
  · refine (grow_full L.law.hp L.law.ar (by omega) (by rw [hg]; omega)).mono ?_
    rintro e w' ⟨rfl, H, A, rr⟩
    exact .inr ⟨by omega, _, rfl, L.step rr hpZ_other (fun _ _ => rfl) H A { J with rf := by show a.rf + 1 ≤ r + 1; omega }, Stay.of_fr rr hpZ_other (fun _ _ => rfl)⟩

/-- What get leaves. -/
def GetR (sz n k : Nat) (f : Nat → Nat) (h : HeapR) (c : Int) (i sl S N : Nat) (y : Option Nat) (f' : Nat → Nat) (h' : HeapR) (k' : Nat) : Prop :=
  (∃ x, y = some x ∧ 0 ≤ c ∧ GLoc sz f h i x f' h' ∧ k' = k) ∨
  ∃ h1, ((0 ≤ c ∧ GFill h i h1) ∨ (c = -1 ∧ h1 = h)) ∧
    ((∃ x, y = some x ∧ GNew sz f h1 c i sl S N x f' h' ∧ k' = k) ∨
     (NoRoom h1 sl ∧ k < n ∧ ∃ h2 x, y = some x ∧ GGrow k h1 h2 ∧ GNew sz f h2 c i sl S N x f' h' ∧ k' = k + 1) ∨
     (NoRoom h1 sl ∧ k = n ∧ y = none ∧ f' = f ∧ h' = h1 ∧ k' = k))

/-- In an empty segment there is room. -/
theorem room_new {h h' : HeapR} {sl : Nat} (hg : GGrow k h h') (h1 : sl ≤ 15) : ¬ NoRoom h' sl := fun hno => by
  obtain ⟨s, gs, _, hP, _, rfl⟩ := hg
  refine hno s (by simp) 1 ⟨by omega, fun j hj => ?_⟩
  rw [hP]
  simp [segT]
end Go.Proofs.YtbljphaklciinaaGreat
