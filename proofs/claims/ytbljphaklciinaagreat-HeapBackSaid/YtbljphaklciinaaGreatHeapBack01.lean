/- Walks of the program's functions, and plain laws on what they compute, text by text (Args, Law, FactsH, KeepsA, Get, GetW, Ref05, Full, FullI, FullE). No condition. -/
import Derived.Test.YtbljphaklciinaaGreatHb09
import Derived.Deep.Slices
import Derived.Deep.Fields
import Derived.ChangeSame
import Derived.Below
import Derived.Carry
import Derived.OpenShut
import Derived.ProofKit
import Derived.Deep.RegionLaw

/- Arguments that are slices, opened to their cells: one for any program. -/
namespace Go.Proofs.YtbljphaklciinaaGreat
open Go.ChangeShapes Go.WideShapes Go.Deep Go.RowKit

section
variable {H : Type} {enc : TypeId × Value → H} {P : Program} {W : World} {held : Bool}

theorem cell_head {w : World} {a : Addr} {v : Value} (h : w.cell? (a.add 0) = some v) : ∃ b off, a = ⟨b, off, none⟩ := by
  obtain ⟨b, off, spot⟩ := a
  have hs := World.cell?_spot h
  simp [Addr.add] at hs
  subst hs
  exact ⟨b, off, rfl⟩
theorem cell_plain {w : World} {b off : Nat} {i : Nat} {v : Value} (h : w.cell? ((⟨b, off, none⟩ : Addr).add i) = some v) : w.cell? ⟨b, off + i, none⟩ = some v := by
  rw [← h]
  congr 1
  unfold Addr.add
  split
  · rename_i h0; simp [h0]
  · rfl

theorem mem_row_head {a : Addr} {m : Nat} (h : 0 < m) : MemPlace.cell a.block a.off ∈ MemPlace.row a m := by
  exact MemPlace.mem_row.2 ⟨0, h, by simp⟩

/-- Elements of one cell each. -/
theorem arg_slice1 {t e : TypeId} {v : Value} {d : DataW H} {ps : List MemPlace} {N : Nat} {B : Nat} {r : Reach} (ht : P.underlying t = some (.slice e)) (hc : P.cellsOf e = 1)
    (hv : Value.okWide P W r B t v) (h : DataW.Trod enc P W 0 (fun _ => true) held t v d ps) (hlt : ∀ x ∈ ps, x.block < N) :
    ∃ (A : Option Addr) (n c : Nat) (V : Nat → Value), v = .slice A n c ∧ n ≤ c ∧ c ≤ maxLen ∧
      ∀ i, i < n → ∃ b off fuel y, A = some ⟨b, off, none⟩ ∧ b < N ∧ W.cell? ⟨b, off + i, none⟩ = some (V i) ∧ DataW.trod enc P W 0 (fun _ => true) held fuel e [V i] = some y := by
  obtain ⟨a0, len, cap, rfl⟩ := okWide_slice ht hv
  obtain ⟨fuel, hf⟩ := h
  rcases open_slice1 ht hc hf with ⟨hcs, hx⟩ | ⟨a, len', cap', m, n, V, D, Pl, hcs, _, hl, hm, hmm, hx, hi⟩
  · simp [Value.cells] at hcs
    obtain ⟨rfl, rfl, rfl⟩ := hcs
    exact ⟨none, 0, 0, fun _ => .int .i64 0, rfl, Nat.le_refl _, Nat.zero_le _, fun i h => by omega⟩
  · simp [Value.cells] at hcs
    obtain ⟨rfl, rfl, rfl⟩ := hcs
    simp only [Prod.mk.injEq] at hx
    refine ⟨some a, len, cap, V, rfl, hl, hm, fun i hin => ?_⟩
    simp only [if_true] at hmm
    obtain ⟨b, off, rfl⟩ := cell_head (hi 0 (by omega)).1
    obtain ⟨hcell, htr⟩ := hi i (by omega)
    refine ⟨b, off, n, _, rfl, ?_, cell_plain hcell, htr⟩
    exact hlt (.cell b off) (by rw [hx.2]; exact List.mem_append.2 (.inl (mem_row_head (a := ⟨b, off, none⟩) (by omega))))

/-- A slice of integers of one kind. -/
theorem arg_ints {t e : TypeId} {k : IntKind} {v : Value} {d : DataW H} {ps : List MemPlace} {N : Nat} {B : Nat} {r : Reach} (ht : P.underlying t = some (.slice e)) (he : P.underlying e = some (.int k)) (hc : P.cellsOf e = 1)
    (hv : Value.okWide P W r B t v) (h : DataW.Trod enc P W 0 (fun _ => true) held t v d ps) (hlt : ∀ x ∈ ps, x.block < N) :
    ∃ (A : Option Addr) (n c : Nat) (f : Nat → Int), v = .slice A n c ∧ n ≤ c ∧ c ≤ maxLen ∧
      ∀ i, i < n → ∃ b off, A = some ⟨b, off, none⟩ ∧ b < N ∧ W.cell? ⟨b, off + i, none⟩ = some (.int k (f i)) ∧ (Lit.int k (f i)).wf = true := by
  obtain ⟨A, n, c, V, rfl, h1, h2, hi⟩ := arg_slice1 ht hc hv h hlt
  have hf : ∀ i, i < n → ∃ x : Int, V i = .int k x ∧ (Lit.int k x).wf = true := fun i hin => by
    obtain ⟨b, off, fuel, y, _, _, _, htr⟩ := hi i hin
    obtain ⟨x, hx, _, hw⟩ := DataW.trod_int he htr
    simp at hx
    exact ⟨x, hx, hw⟩
  obtain ⟨f, hf⟩ := choose_lt hf
  refine ⟨A, n, c, f, rfl, h1, h2, fun i hin => ?_⟩
  obtain ⟨b, off, fuel, y, hA, hb, hcell, _⟩ := hi i hin
  obtain ⟨e1, e2⟩ := hf i hin
  exact ⟨b, off, hA, hb, by rw [hcell, e1], e2⟩

theorem arg_bools {t e : TypeId} {v : Value} {d : DataW H} {ps : List MemPlace} {N : Nat} {B : Nat} {r : Reach} (ht : P.underlying t = some (.slice e)) (he : P.underlying e = some .bool) (hc : P.cellsOf e = 1)
    (hv : Value.okWide P W r B t v) (h : DataW.Trod enc P W 0 (fun _ => true) held t v d ps) (hlt : ∀ x ∈ ps, x.block < N) :
    ∃ (A : Option Addr) (n c : Nat) (f : Nat → Bool), v = .slice A n c ∧ n ≤ c ∧ c ≤ maxLen ∧
      ∀ i, i < n → ∃ b off, A = some ⟨b, off, none⟩ ∧ b < N ∧ W.cell? ⟨b, off + i, none⟩ = some (.bool (f i)) := by
  obtain ⟨A, n, c, V, rfl, h1, h2, hi⟩ := arg_slice1 ht hc hv h hlt
  have hf : ∀ i, i < n → ∃ x : Bool, V i = .bool x := fun i hin => by
    obtain ⟨b, off, fuel, y, _, _, _, htr⟩ := hi i hin
    obtain ⟨x, hx, _⟩ := DataW.trod_bool he htr
    simp at hx
    exact ⟨x, hx⟩
  obtain ⟨f, hf⟩ := choose_lt hf
  refine ⟨A, n, c, f, rfl, h1, h2, fun i hin => ?_⟩
  obtain ⟨b, off, fuel, y, hA, hb, hcell, _⟩ := hi i hin
  exact ⟨b, off, hA, hb, by rw [hcell, hf i hin]⟩

/-- A slice of structs of one-cell fields: each field's cell, and that it reads. -/
theorem arg_structs {t e : TypeId} {fs : Array Field} {v : Value} {d : DataW H} {ps : List MemPlace} {N : Nat} {B : Nat} {r : Reach} (ht : P.underlying t = some (.slice e)) (he : P.underlying e = some (.struct fs))
    (hone : oneCellFields P fs = true) (hC : P.cellsOf e = fs.size) (h0 : 0 < fs.size)
    (hv : Value.okWide P W r B t v) (h : DataW.Trod enc P W 0 (fun _ => true) held t v d ps) (hlt : ∀ x ∈ ps, x.block < N) :
    ∃ (A : Option Addr) (n c : Nat), v = .slice A n c ∧ n ≤ c ∧ c ≤ maxLen ∧
      ∀ i, i < n → ∃ b off, A = some ⟨b, off, none⟩ ∧ b < N ∧
        ∀ (j : Nat) (f : Field), fs[j]? = some f → ∃ (u : Value) (y : DataW H × List MemPlace) (fuel : Nat), W.cell? ⟨b, off + (i * fs.size + j), none⟩ = some u ∧
          DataW.trod enc P W 0 (fun _ => true) held fuel f.type [u] = some y ∧ ∀ x ∈ y.2, x.block < N := by
  obtain ⟨a0, len, cap, rfl⟩ := okWide_slice ht hv
  obtain ⟨fuel, hf⟩ := h
  rcases open_slice ht hf with ⟨hcs, hx⟩ | ⟨a, len', cap', m, n, D, Pl, hcs, _, hl, hm, hmm, hx, hi⟩
  · simp [Value.cells] at hcs
    obtain ⟨rfl, rfl, rfl⟩ := hcs
    exact ⟨none, 0, 0, rfl, Nat.le_refl _, Nat.zero_le _, fun i h => by omega⟩
  · simp [Value.cells] at hcs
    obtain ⟨rfl, rfl, rfl⟩ := hcs
    simp only [Prod.mk.injEq] at hx
    refine ⟨some a, len, cap, rfl, hl, hm, fun i hin => ?_⟩
    simp only [if_true] at hmm
    rw [hC] at hi hx
    obtain ⟨cs', hc, ht'⟩ := hi i (by omega)
    obtain ⟨ys, n', hn', hy, hlen, hyl, hfld⟩ := DataW.trod_struct he ht'
    obtain ⟨_, hcl, hat⟩ := World.cells?_some hc
    simp only [Prod.mk.injEq] at hy
    have hsp : ∃ b off, a = ⟨b, off, none⟩ := by
      obtain ⟨cs0, hc0, _⟩ := hi 0 (by omega)
      obtain ⟨_, hcl0, hat0⟩ := World.cells?_some hc0
      have h00 := hat0 0 h0
      have hv0 : cs0[0]? = some (cs0[0]'(by omega)) := List.getElem?_eq_getElem (by omega)
      rw [hv0, Go.Deep.add_add] at h00
      simp only [Nat.zero_mul, Nat.add_zero] at h00
      exact cell_head h00
    obtain ⟨b, off, rfl⟩ := hsp
    refine ⟨b, off, rfl, ?_, ?_⟩
    · refine hlt (.cell b off) (by rw [hx.2]; exact List.mem_append.2 (.inl (mem_row_head (a := ⟨b, off, none⟩) (Nat.mul_pos (by omega) h0))))
    · intro j f hj
      obtain ⟨ho, hk⟩ := hone_of hone j f hj
      have hjl : j < fs.size := (Array.getElem?_eq_some_iff.1 hj).1
      have hcell := hat j hjl
      have hv1 : cs'[j]? = some (cs'[j]'(by omega)) := List.getElem?_eq_getElem (by omega)
      have h1 := hfld j f hj
      rw [ho, hk] at h1
      have hone' : (cs'.drop j).take 1 = [cs'[j]'(by omega)] := by
        rw [List.drop_eq_getElem_cons (by omega)]
        rfl
      rw [hone'] at h1
      have hys : ys[j]? = some (ys[j]'(by omega)) := List.getElem?_eq_getElem (by omega)
      rw [hv1, Go.Deep.add_add] at hcell
      refine ⟨_, ys[j]'(by omega), n', cell_plain hcell, h1.trans hys, fun x hx' => ?_⟩
      refine hlt x ?_
      rw [hx.2]
      refine List.mem_append.2 (.inr (List.mem_flatMap.2 ⟨i, List.mem_range.2 (by omega), ?_⟩))
      rw [hy.2]
      exact List.mem_flatMap.2 ⟨ys[j]'(by omega), List.getElem_mem _, hx'⟩

end
end Go.Proofs.YtbljphaklciinaaGreat

/- What all rows of laws share: the law answers true, nothing that was there has turned, so its arguments read as they did. -/
namespace Go.Proofs.YtbljphaklciinaaGreat
open Go.ChangeShapes Go.WideShapes Go.ChangeAt Go.RowKit

theorem Tryz.own : ownKnob Tryz.prog.godebug = none := by kernel_rfl
theorem Tryz.laidOut : laidOutB Tryz.prog = true := by kernel_rfl

section
variable {H : Type} {enc : TypeId × Value → H} {P : Program}

theorem stays_all (hl : laidOutB P = true) {W W' : World} (hb : Below W.heap.size W W') : ∀ (ts : List TypeId) (vs : List Value) (ds : List (DataW H)) (ps : List MemPlace),
    (∀ t ∈ ts, P.readableRec t = true ∧ t < P.types.size) → (∀ x ∈ ps, x.block < W.heap.size) → DataW.TrodAll enc P W 0 (fun _ => true) true ts vs ds ps →
    DataW.TrodAll enc P W' 0 (fun b => decide (b < W.heap.size)) true ts vs ds ps
  | [], vs, ds, ps, _, _, h => by
    cases vs <;> cases ds <;> simp_all [DataW.TrodAll]
  | t :: ts, vs, ds, ps, ht, hp, h => by
    obtain ⟨v, vs', d, ds', p, q, rfl, rfl, rfl, h1, h2⟩ := trodAll_cons h
    refine ⟨p, q, Below.trod hl (ht t (by simp)).1 (ht t (by simp)).2 h1 hb (fun x hx => hp x (List.mem_append.2 (.inl hx))), ?_, rfl⟩
    exact stays_all hl hb ts vs' ds' q (fun t' ht' => ht t' (by simp [ht'])) (fun x hx => hp x (List.mem_append.2 (.inr hx))) h2

theorem law_post {f : Func} {s : ChangeSpec} {fresh handsOn : Bool} {W W' : World} {args : Array Value} {ds gs : List (DataW H)} {before : List MemPlace} {tb : TypeId}
    (hl : laidOutB P = true) (hr : ∀ t ∈ f.params.toList, P.readableRec t = true ∧ t < P.types.size) (hv : s.vars = [])
    (hW : DataW.Whole enc P f.params.toList s.vars false W args.toList ds gs before)
    (hres : (s.fn H (ds ++ gs)).results = [.lit (.bool true)]) (hargs : (s.fn H (ds ++ gs)).args = ds) (hvars : (s.fn H (ds ++ gs)).vars = [])
    (hrt : f.resultTypes = #[tb]) (htb : P.underlying tb = some .bool) (hb : Below W.heap.size W W') :
    s.post enc P f false fresh handsOn false W args (.bool true) W' := by
  have hlt : ∀ p ∈ before, p.block < W.heap.size := fun p hp => by simpa using hW.lt p hp
  have hW0 := hW
  obtain ⟨p, q, hA, hV, rfl, _, _⟩ := hW0
  rw [hv] at hV
  obtain ⟨rfl, rfl⟩ := trodVars_none hV
  simp only [List.append_nil] at hW hlt hres hargs hvars ⊢
  refine ⟨ds, [], p, [], p, [], hW, ?_, ?_, ?_, hb.frame _, fun h => by cases h⟩
  · simp only [List.append_nil]
    rw [hres, hrt]
    exact trodAll_mk1 (shut_bool htb true)
  · simp only [List.append_nil]
    rw [hargs]
    exact stays_all hl hb _ _ _ _ hr hlt hA
  · simp only [List.append_nil]
    rw [hvars, hv]
    rfl
end
end Go.Proofs.YtbljphaklciinaaGreat

/- The dump's head: its first words, and what all rows of this seat ask of them. -/
namespace Go.Proofs.YtbljphaklciinaaGreat
open Go.ChangeShapes Go.WideShapes Go.ChangeAt Go.RowKit

theorem words_space (a b : List Char) (h : ∀ c ∈ a, c ≠ (Char.ofNat 32)) : wordsSigns (a ++ (Char.ofNat 32) :: b) = a :: wordsSigns b := by
  induction a with
  | nil => simp [wordsSigns]
  | cons c a ih =>
    have hc : c ≠ (Char.ofNat 32) := h c (by simp)
    have hr := ih (fun d hd => h d (by simp [hd]))
    simp only [List.cons_append]
    conv => lhs; unfold wordsSigns
    split
    · rename_i e; cases e
    · rename_i e; simp only [List.cons.injEq] at e; exact absurd e.1 hc
    · rename_i c' r' _ e
      simp only [List.cons.injEq] at e
      obtain ⟨rfl, rfl⟩ := e
      rw [hr]

def headSum : String := "b9f8ceaee08ad6743f38ac4578515e812aed0f4ebe0aa47ff5619fadc0982cc7"
def headRest : String := "at allotment/allotmentlaw12.HeapFull allotment/allotmentlaw12.HeapApart allotment/allotmentlaw12.HeapKeeps allotment/allotmentlaw12.HeapMoves allotment/allotmentlaw12.HeapBack"
theorem head_eq : Tryz.prog.initOrder = "harness" ++ (" " ++ (headSum ++ (" " ++ ("cut" ++ (" " ++ headRest))))) := by kernel_rfl
theorem space_list : " ".toList = [Char.ofNat 32] := by kernel_rfl
theorem sum_plain : headSum.toList.all (fun c => c != Char.ofNat 32) = true := by kernel_rfl
theorem harness_plain : "harness".toList.all (fun c => c != Char.ofNat 32) = true := by kernel_rfl
theorem cut_plain : "cut".toList.all (fun c => c != Char.ofNat 32) = true := by kernel_rfl
theorem sum_signs : isSumSigns headSum.toList = true := by kernel_rfl
theorem harness_main : ("harness".toList == "harness".toList || "harness".toList == "ownmain".toList) = true := by kernel_rfl

theorem head_words : behindMainWord (wordsSigns Tryz.prog.initOrder.toList) = "cut".toList :: wordsSigns headRest.toList := by
  rw [head_eq]
  simp only [String.toList_append, space_list, List.singleton_append]
  rw [words_space _ _ (fun c hc => by simpa using List.all_eq_true.1 harness_plain c hc), words_space _ _ (fun c hc => by simpa using List.all_eq_true.1 sum_plain c hc),
    words_space _ _ (fun c hc => by simpa using List.all_eq_true.1 cut_plain c hc)]
  unfold behindMainWord
  dsimp only
  rw [harness_main, sum_signs]
  rfl

theorem cut_gc : ("cut".toList == "gc".toList || "cut".toList == "spec".toList) = false := by kernel_rfl
theorem cut_carried : ("cut".toList == "carried".toList) = false := by kernel_rfl
theorem cut_cut : ("cut".toList == "cut".toList) = true := by kernel_rfl
theorem strip_cut (rest : List (List Char)) : stripLifts liftWords ("cut".toList :: rest) = ([], "cut".toList :: rest) := by
  have h : ∀ o ∈ liftWords, ("cut".toList == o.toList) = false := of_decide_eq_true (by kernel_rfl)
  revert h
  generalize liftWords = l
  intro h
  induction l with
  | nil => rfl
  | cons o os ih =>
    unfold stripLifts
    rw [h o (by simp)]
    exact ih (fun p hp => h p (by simp [hp]))
theorem Tryz.later : Tryz.prog.laysLater = false := by kernel_rfl
theorem Tryz.reflect : Tryz.prog.bearsReflect = false := by kernel_rfl
theorem Tryz.door : Tryz.prog.doorFits [] = true := by kernel_rfl

theorem may_of {P : Program} {rest : List (List Char)} (h : behindMainWord (wordsSigns P.initOrder.toList) = "cut".toList :: rest) (h1 : P.laysLater = false) (h2 : P.bearsReflect = false) (h3 : P.doorFits [] = true) : P.mayEnter = true := by
  unfold Program.mayEnter
  rw [h]
  dsimp only
  rw [strip_cut, cut_gc, h1, h2, h3]
  simp
theorem lifts_of {P : Program} {rest : List (List Char)} (h : behindMainWord (wordsSigns P.initOrder.toList) = "cut".toList :: rest) : P.liftsFinal = false := by
  unfold Program.liftsFinal Program.headLifts
  rw [h, strip_cut]
  dsimp only [List.head?]
  simp [cut_carried]
theorem makes_of {P : Program} {rest : List (List Char)} (h : behindMainWord (wordsSigns P.initOrder.toList) = "cut".toList :: rest) : P.make = some .cut := by
  unfold Program.make
  rw [h]
  dsimp only
  rw [cut_gc, cut_cut]
  simp
theorem Tryz.may : Tryz.prog.mayEnter = true := may_of head_words Tryz.later Tryz.reflect Tryz.door
theorem Tryz.lifts : Tryz.prog.liftsFinal = false := lifts_of head_words
theorem Tryz.makes : Tryz.prog.make = some .cut := makes_of head_words

/-- The closed facts of a row, each by itself, what hangs on the head alone taken from above. -/
theorem joined_of {P : Program} {f : FuncId} {fn : Func} {s : ChangeSpec} {c : OpenClaim} (h1 : P.mayEnter = true) (h2 : P.liftsFinal = false) (h3 : P.make = some .cut)
    (k1 : c.wf (OpenSpec.ofChange s) = true) (k2 : laidOutB P = true) (k3 : mapsRowed P = true) (k4 : fn.params.all (P.readableRec ·) = true) (k5 : namedTie P c.named s.vars = true)
    (k6 : (c.stops == []) = true) (k7 : (P.stops == []) = true) (k8 : (c.knobs == []) = true) (k9 : (P.stopKnobs == []) = true)
    (k10 : (c.inPlace == P.inPlace f) = true) (k11 : (c.unfollowed == P.unfollowed f) = true) (k12 : (c.recurses == P.recurses f) = true) (k13 : (c.named == P.varsNamed f) = true)
    (k14 : (c.maps == (fn.params.toList ++ s.plain.varTypes P).any (P.mapsRec ·)) = true) (k15 : (c.ifaces == (fn.params.toList ++ s.plain.varTypes P).any (P.ifacesRec ·)) = true)
    (k16 : (c.mapsOut == P.mapsAmong fn.resultTypes.toList) = true) (k17 : (c.loops == (fn.params.toList ++ s.plain.varTypes P).any (P.loopsFrom ·)) = true)
    (k18 : (c.wideKeys == (fn.params.toList ++ s.plain.varTypes P ++ fn.resultTypes.toList).any (P.wideKeysFrom ·)) = true) (k19 : s.vars.all (P.varReadable ·) = true)
    (k20 : fn.resultTypes.all (fun t => P.readableRec t && decide (t < P.types.size)) = true) (k21 : (c.ifacesOut == fn.resultTypes.toList.any (P.ifacesRec ·)) = true)
    (k22 : (c.loopsOut == fn.resultTypes.toList.any (P.loopsFrom ·)) = true) (k23 : (c.plainKeys == P.plainKeys) = true) (k24 : c.shortTexts.isNone = true) (k25 : P.stopsHeard = true)
    (k26 : (c.lifted == false) = true) (k27 : (some Make.cut == some c.make) = true)
    (kd : c.domain = []) (kk : c.kinds = []) (k29 : (c.pinned == c.pinnedBy) = true)
    (k30 : (c.veiled == (fn.params.toList ++ s.plain.varTypes P ++ fn.resultTypes.toList).any (P.veiledRec ·)) = true)
    (k31 : c.veiledFits P fn.params.toList (fn.params.toList ++ s.plain.varTypes P ++ fn.resultTypes.toList) = true) : joinedFacts P f fn s c = true := by
  unfold joinedFacts
  rw [h1, h2, h3, k1, k2, k3, k4, k5, k6, k7, k8, k9, k10, k11, k12, k13, k14, k15, k16, k17, k18, k19, k20, k21, k22, k23, k24, k25, k26, k27, k29, k30, k31, kd, kk]
  rfl
end Go.Proofs.YtbljphaklciinaaGreat

/- HeapKeeps: its heap, call by call. -/
namespace Go.Proofs.YtbljphaklciinaaGreat
open Go.RowKit
variable {ro ro' : Nat → Role} {hn : Nat} {w w' : World} {B bm bb sz : Nat} {f g : Nat → Nat} {h : HeapR} {X : Role → Prop} {a : ArR}

/-- An arena of n segments, of which the first k are given, all of them the heap's. -/
structure KA (n k r : Nat) (h : HeapR) (a : ArR) : Prop where
  en : a.n = n
  lim : a.lim = n
  T : a.T = fun j => decide (j < k)
  R : a.R = (List.range k).map fun j => (j, 1)
  kn : k ≤ n
  pls : ∀ s ∈ h.S, s.pl < k
  rf : a.rf ≤ r

theorem freeN_lt (n : Nat) : ∀ k, k ≤ n → freeN (fun j => decide (j < k)) n = n - k := by
  induction n with
  | zero => intro k hk; simp [freeN]
  | succ n ih =>
    intro k hk
    have e : freeN (fun j => decide (j < k)) (n + 1) = freeN (fun j => decide (j < k)) n + (if n < k then 0 else 1) := by
      unfold freeN
      rw [List.range_succ, List.countP_append, List.countP_singleton]
      by_cases h : n < k <;> simp [h]
    rw [e]
    by_cases h : n < k
    · obtain rfl : k = n + 1 := by omega
      have : freeN (fun j => decide (j < n + 1)) n = 0 := by
        unfold freeN
        rw [List.countP_eq_zero]
        intro j hj
        simp at hj
        simp
        omega
      rw [this, if_pos h]
      omega
    · rw [ih k (by omega), if_neg h]
      omega

theorem KA.given {n k r : Nat} (K : KA n k r h a) : freeN a.T a.n = n - k := by rw [K.T, K.en]; exact freeN_lt n k K.kn
theorem KA.sorted {n k r : Nat} (K : KA n k r h a) : SortedR a.R := fun i j x y hij hx hy => by
  rw [K.R, List.getElem?_map] at hx hy
  have h1 : i < k := by
    rcases Nat.lt_or_ge i k with h | h
    · exact h
    · rw [List.getElem?_eq_none (by simpa using h)] at hx; cases hx
  have h2 : j < k := by
    rcases Nat.lt_or_ge j k with h | h
    · exact h
    · rw [List.getElem?_eq_none (by simpa using h)] at hy; cases hy
  rw [List.getElem?_range h1] at hx
  rw [List.getElem?_range h2] at hy
  cases hx
  cases hy
  exact hij
theorem KA.len {n k r : Nat} (K : KA n k r h a) : a.R.length = k := by rw [K.R]; simp
theorem KA.small {n k r : Nat} (K : KA n k r h a) : ∀ (j : Nat) (x : Nat × Nat), a.R[j]? = some x → x.1 < k := fun j x hx => by
  rw [K.R] at hx
  obtain ⟨i, hi, rfl⟩ := List.mem_map.1 (List.mem_of_getElem? hx)
  simpa using hi
theorem KA.keep {n k r : Nat} {h' : HeapR} (K : KA n k r h a) (hp : ∀ s ∈ h'.S, ∃ t ∈ h.S, s.pl = t.pl) : KA n k r h' a :=
  { K with pls := fun s hs => by obtain ⟨t, ht, e⟩ := hp s hs; rw [e]; exact K.pls t ht }

theorem setPg_pls {pl at_ : Nat} {pg : Pg} {S : List SegR} : ∀ s ∈ setPg pl at_ pg S, ∃ t ∈ S, s.pl = t.pl := fun s hs => by
  obtain ⟨t, ht, rfl⟩ := List.mem_map.1 hs
  exact ⟨t, ht, by split <;> rfl⟩
theorem addPg_pls {pl : Nat} {p : PageR} {S : List SegR} : ∀ s ∈ addPg pl p S, ∃ t ∈ S, s.pl = t.pl := fun s hs => by
  obtain ⟨t, ht, rfl⟩ := List.mem_map.1 hs
  exact ⟨t, ht, addI_pl _ _ _⟩

/-- Roles with all that is to come another's. -/
def cutR (ro : Nat → Role) (N : Nat) (k : Nat) : Role := if k < N then ro k else .other
theorem LawH.cut {W : World} {n : Nat} (L : LawH W ro hn w bm bb sz f h a) (hN : n = w.heap.size) : LawH W (cutR ro n) hn w bm bb sz f h a :=
  have e : ∀ k, k < w.heap.size → cutR ro n k = ro k := fun k hk => if_pos (by omega)
  ⟨⟨L.hp.hp.role e, L.hp.mem, (e _ L.hp.mem.lt_bm).trans L.hp.rm, (e _ L.hp.mem.lt_bb).trans L.hp.rb, L.hp.b⟩, L.ar.role e, L.below, fun k hk => (e k (Nat.lt_of_lt_of_le hk L.below.size)).trans (L.old k hk)⟩

/-- The law's state: k segments are given; a block x of its own stays as it is. -/
def KX (W : World) (bh ba n k r x : Nat) (o : Obj) (w : World) : Prop :=
  ∃ ro bm bb f h a, LawH W ro 0 w bm bb (n * 16384) f h a ∧ KA n k r h a ∧ h.bh = bh ∧ h.ba = ba ∧ ro x = .other ∧ w.heap[x]? = some o
/-- The same without a block. -/
def KS (W : World) (bh ba n k r : Nat) (w : World) : Prop :=
  ∃ ro bm bb f h a, LawH W ro 0 w bm bb (n * 16384) f h a ∧ KA n k r h a ∧ h.bh = bh ∧ h.ba = ba

variable {W : World} {bh ba n k r x : Nat} {o : Obj}
theorem KX.to_s (K : KX W bh ba n k r x o w) : KS W bh ba n k r w := by
  obtain ⟨ro, bm, bb, f, h, a, L, K, e1, e2, _⟩ := K
  exact ⟨ro, bm, bb, f, h, a, L, K, e1, e2⟩
theorem KS.below (K : KS W bh ba n k r w) : Below W.heap.size W w := by
  obtain ⟨ro, bm, bb, f, h, a, L, _⟩ := K
  exact L.below
theorem KS.block (K : KS W bh ba n k r w) (o : Obj) : KX W bh ba n k r w.heap.size o (w.alloc o) := by
  obtain ⟨ro, bm, bb, f, h, a, L, K, e1, e2⟩ := K
  refine ⟨cutR ro w.heap.size, bm, bb, f, h, a, (L.cut rfl).on ((Below.refl _ _).alloc (Nat.le_refl _) _), K, e1, e2, if_neg (by omega), ?_⟩
  show (w.heap.push o)[w.heap.size]? = _
  simp
theorem lt_of_block {w : World} {x : Nat} {o : Obj} (h : w.heap[x]? = some o) : x < w.heap.size := (Array.getElem?_eq_some_iff.1 h).1
theorem KX.step (K : KX W bh ba n k r x o w) :
    ∃ ro bm bb f h a, LawH W ro 0 w bm bb (n * 16384) f h a ∧ KA n k r h a ∧ h.bh = bh ∧ h.ba = ba ∧
      ∀ {ro' : Nat → Role} {X : Role → Prop} {w' : World} {g : Nat → Nat} {h' : HeapR} {a' : ArR} {k' r' : Nat}, RFr ro w w' X → ¬ X .other → (∀ k, k < w.heap.size → ro' k = ro k) → LawH W ro' 0 w' bm bb (n * 16384) g h' a' → KA n k' r' h' a' → h'.bh = bh → h'.ba = ba → KX W bh ba n k' r' x o w' := by
  obtain ⟨ro, bm, bb, f, h, a, L, K, e1, e2, e3, e4⟩ := K
  refine ⟨ro, bm, bb, f, h, a, L, K, e1, e2, fun {ro' X w' g h' a' k' r'} hf hx he L' K' e1' e2' => ⟨ro', bm, bb, g, h', a', L', K', e1', e2', (he x (lt_of_block e4)).trans e3, (hf.block x (lt_of_block e4) (by rw [e3]; exact hx)).trans e4⟩⟩

theorem grow_k (K : KX W bh ba n k r x o w) (hn : n ≤ 16) (hr : r < 1000000) :
    Calls Tryz.prog 19 #[.pointer (some ⟨bh, 0, none⟩)] w fun e w' => ∃ v k', e = .returned (.int .i64 v) ∧ KX W bh ba n k' (r + 1) x o w' := by
  obtain ⟨ro, bm, bb, f, h, a, L, J, rfl, rfl, st⟩ := K.step
  have hg := J.given
  have hN := J.en
  have hlim := J.lim
  have hkn := J.kn
  have hrf := J.rf
  by_cases hk : k < n
  · refine (grow_room L.hp L.ar J.sorted (by rw [J.len]; omega) (at_ := k) ⟨by omega, fun j hj => by rw [J.T]; simp⟩ (fun j hj hf => by have := hf.2 0 (by omega); rw [J.T] at this; simp at this; omega) J.small (by rw [hg]; omega) (fun t ht e => by have := J.pls t ht; omega) (by omega)).mono ?_
    rintro e w' ⟨rfl, ro', s, gs, g', he, h1, h2, h3, H, A, rr⟩
    refine ⟨0, k + 1, rfl, st rr hpZ_other he (L.step H A rr hpZ_other he) ⟨J.en, J.lim, ?_, ?_, by omega, fun t ht => ?_, Nat.le_succ_of_le J.rf⟩ rfl rfl⟩
    · show setT a.T k 1 true = _
      rw [J.T]
      funext j
      unfold setT
      by_cases e : j = k
      · subst e; simp
      · rw [if_neg (by omega)]
        show decide (j < k) = decide (j < k + 1)
        rw [decide_eq_decide]
        omega
    · show a.R ++ [(k, 1)] = _
      rw [J.R, List.range_succ, List.map_append]
      rfl
    · rcases List.mem_append.1 ht with ht | ht
      · have := J.pls t ht; omega
      · simp only [List.mem_singleton] at ht
        subst ht
        omega
  · refine (grow_full L.hp L.ar (by omega) (by rw [hg]; omega)).mono ?_
    rintro e w' ⟨rfl, H, A, rr⟩
    exact ⟨4, k, rfl, st rr hpZ_other (fun _ _ => rfl) (L.step H A rr hpZ_other (fun _ _ => rfl)) { J with rf := by show a.rf + 1 ≤ r + 1; omega } rfl rfl⟩

theorem KX.on (K : KX W bh ba n k r x o w) (hb : Below w.heap.size w w') : KX W bh ba n k r x o w' := by
  obtain ⟨ro, bm, bb, f, h, a, L, J, rfl, rfl, st⟩ := K.step
  exact st (RFr.of_below hb : RFr ro w w' (fun _ => False)) (fun h => h) (fun _ _ => rfl) (L.on hb) J rfl rfl

theorem given_k (K : KX W bh ba n k r x o w) : Calls Tryz.prog 14 #[.pointer (some ⟨ba, 0, none⟩)] w fun e w' => e = .returned (.int .i64 k) ∧ KX W bh ba n k r x o w' := by
  have K0 := K
  obtain ⟨ro, bm, bb, f, h, a, L, J, rfl, rfl, _⟩ := K
  refine (arenaGiven L.ar.at_).mono ?_
  rintro e w' ⟨rfl, kk, rfl⟩
  have hkn := J.kn
  refine ⟨?_, K0.on (below_drewN (Below.refl _ _) kk)⟩
  rw [J.given, J.en]
  congr 2
  omega

theorem local_k (K : KX W bh ba n k r x o w) (c : Int) (h1 : -9223372036854775808 ≤ c) (h2 : c ≤ 9223372036854775807) :
    Calls Tryz.prog 15 #[.pointer (some ⟨bh, 0, none⟩), .int .i64 c] w fun e w' => ∃ v1 v2, e = .returned (.tuple #[.int .u64 v1, .int .i64 v2]) ∧ KX W bh ba n k r x o w' := by
  have K0 := K
  obtain ⟨ro, bm, bb, f, h, a, L, J, rfl, rfl, st⟩ := K.step
  refine (local_any L.hp c h1 h2).mono ?_
  rintro e w' (⟨i, _, rfl, _, ro', kk, k1, k2, he, rr, _, hk⟩ | ⟨_, rfl, rfl⟩)
  · have A := L.ar.over rr (fun i => hpX_ar) he
    rcases hk with ⟨s, hs, p, hp, f', pg', ad, _, _, _, rfl, H⟩ | ⟨rfl, _, H⟩
    · exact ⟨_, _, rfl, st rr hpX_other he (L.step H A rr hpX_other he) (J.keep setPg_pls) rfl rfl⟩
    · exact ⟨_, _, rfl, st rr hpX_other he (L.step H A rr hpX_other he) (J.keep fun s hs => ⟨s, hs, rfl⟩) rfl rfl⟩
  · exact ⟨_, _, rfl, K0⟩

theorem fresh_k (K : KX W bh ba n k r x o w) (c q u v : Int) (h1 : -9223372036854775808 ≤ c) (h2 : c ≤ 9223372036854775807) (h3 : -9223372036854775808 ≤ q) (h4 : q ≤ 9223372036854775807) :
    Calls Tryz.prog 20 #[.pointer (some ⟨bh, 0, none⟩), .agg #[.int .i64 c, .int .i64 q, .int .i64 u, .int .u64 v]] w fun e w' => ∃ v1 v2, e = .returned (.tuple #[.int .u64 v1, .int .i64 v2]) ∧ KX W bh ba n k r x o w' := by
  have K0 := K
  obtain ⟨ro, bm, bb, f, h, a, L, J, rfl, rfl, st⟩ := K.step
  refine (fresh_any L.hp c q u v h1 h2 h3 h4).mono ?_
  rintro e w' (⟨ec, _, rfl, hb, _⟩ | ⟨i, sl, S, N, hp, t, ht, at_, bo, bp, ro', f', pg', k1, k2, hf, hlow, rfl, he, hg, H, rr⟩)
  · exact ⟨_, _, rfl, K0.on hb⟩
  · exact ⟨_, _, rfl, st rr hpY_other he (L.step H (L.ar.over rr (fun i => hpY_ar) he) rr hpY_other he) (J.keep addPg_pls) rfl rfl⟩

theorem KX.le (K : KX W bh ba n k r x o w) : KX W bh ba n k (r + 1) x o w := by
  obtain ⟨ro, bm, bb, f, h, a, L, J, e⟩ := K
  exact ⟨ro, bm, bb, f, h, a, L, { J with rf := Nat.le_succ_of_le J.rf }, e⟩
theorem KX.cell {cs : Array Value} {T : TypeId} {j : Nat} {v : Value} (K : KX W bh ba n k r x (.cells cs T) w) (hj : cs[j]? = some v) : w.cell? ⟨x, j, none⟩ = some v := by
  obtain ⟨ro, bm, bb, f, h, a, L, J, _, _, _, e⟩ := K
  rw [cell_of_row w x j cs _ _ e]
  exact hj

/-- A class's pages. -/
theorem pages_one (L : LawH W ro 0 w bm bb sz f h a) (c : Int) (h1 : -1 ≤ c) (h2 : c < 12) :
    Calls Tryz.prog 21 #[.pointer (some ⟨h.bh, 0, none⟩), .slice (some ⟨w.heap.size, 0, none⟩) 1 1] (w.alloc (.cells #[.int .i64 c] 3)) fun e w' => (∃ A cap, e = .returned (.slice A (rowOf h c).length cap)) ∧ Below w.heap.size w w' := by
  have B1 : Below w.heap.size w (w.alloc (.cells #[.int .i64 c] 3)) := (Below.refl _ _).alloc (Nat.le_refl _) _
  have hrow := row_one w c
  have hz : (w.alloc (.cells #[.int .i64 c] 3)).heap.size = w.heap.size + 1 := by simp
  rw [← hz] at hrow
  refine (pages_row (L.on B1).hp.hp hrow (fun ad e => by injection e with e; subst e; rfl) (by omega) (by omega) (fun y hy => by
    simp only [List.mem_singleton] at hy
    subst hy
    by_cases e : y = -1
    · exact ⟨12, by omega, by rw [e]; rfl, h1, h2⟩
    · refine ⟨y.toNat, by omega, ?_, h1, h2⟩
      unfold rowIx
      rw [if_neg e, if_pos (by omega)])).mono ?_
  rintro e w' ⟨v, rfl, ho, hb⟩
  obtain ⟨A, c', rfl, _⟩ := own_at ho
  refine ⟨⟨A, c', ?_⟩, B1.trans (hb.mono B1.size)⟩
  have e : (startsOf (rowsOf h [c])).length = (rowOf h c).length := by simp [startsOf, rowsOf]
  rw [e]

theorem pages_every (L : LawH W ro 0 w bm bb sz f h a) :
    Calls Tryz.prog 21 #[.pointer (some ⟨h.bh, 0, none⟩), .slice none 0 0] w fun e w' => (∃ A cap, e = .returned (.slice A (rowsOf h classes).length cap)) ∧ Below w.heap.size w w' := by
  refine (pages_all L.hp.hp).mono ?_
  rintro e w' ⟨v, rfl, ho, hb⟩
  obtain ⟨A, c', rfl, _⟩ := own_at ho
  refine ⟨⟨A, c', ?_⟩, hb⟩
  have e : (startsOf (rowsOf h classes)).length = (rowsOf h classes).length := by simp [startsOf]
  rw [e]

/-- How many pages the first m of the classes -1, 0 .. have. -/
def sumTo (h : HeapR) (m : Nat) : Nat := ((List.range m).map fun (t : Nat) => (rowOf h ((t : Int) - 1)).length).sum
theorem sumTo_succ (h : HeapR) (m : Nat) : sumTo h (m + 1) = sumTo h m + (rowOf h ((m : Int) - 1)).length := by
  unfold sumTo
  rw [List.range_succ, List.map_append, List.sum_append]
  simp
theorem sumTo_all (h : HeapR) : sumTo h 13 = (rowsOf h classes).length := by
  have e : classes = [0, 1, 2, 3, 4, 5, 6, 7, 8, 9, 10, 11, -1] := rfl
  rw [e]
  simp only [sumTo_succ, rowsOf, List.flatMap_cons, List.flatMap_nil, List.length_append]
  simp [sumTo]
  omega
theorem rowOf_len (H : HeapAt ro hn w B bm sz f h) (c : Int) : (rowOf h c).length ≤ 1024 := by
  unfold rowOf
  split
  · rename_i i e
    rw [List.length_append]
    exact H.qlen (rowIx_lt e)
  · simp
theorem sumTo_le (H : HeapAt ro hn w B bm sz f h) : ∀ m, sumTo h m ≤ m * 1024
  | 0 => by simp [sumTo]
  | m + 1 => by
    rw [sumTo_succ]
    have := sumTo_le H m
    have := rowOf_len H ((m : Int) - 1)
    omega
end Go.Proofs.YtbljphaklciinaaGreat

/- Layer 12's laws: get, call by call; what it leaves, as steps of a heap. -/
namespace Go.Proofs.YtbljphaklciinaaGreat
open Go.RowKit
variable {ro ro' : Nat → Role} {hn : Nat} {w w' : World} {B bm bb sz : Nat} {f g : Nat → Nat} {h : HeapR} {X : Role → Prop} {a : ArR} {W : World} {n k r x : Nat} {o : Obj}

/-- A law's heap, all of whose arena is its own, and a block x of the law's that stays as it is. -/
structure LX (W : World) (ro : Nat → Role) (w : World) (bm bb : Nat) (f : Nat → Nat) (h : HeapR) (a : ArR) (n k r x : Nat) (o : Obj) : Prop where
  law : LawH W ro 0 w bm bb (n * 16384) f h a
  ka : KA n k r h a
  ot : ro x = .other
  blk : w.heap[x]? = some o

/-- What is the law's own stays as it is, and its own. -/
def Stay (ro : Nat → Role) (w : World) (ro' : Nat → Role) (w' : World) : Prop := w.heap.size ≤ w'.heap.size ∧ ∀ b, b < w.heap.size → ro b = .other → w'.heap[b]? = w.heap[b]? ∧ ro' b = .other
theorem Stay.trans {ro2 : Nat → Role} {w2 : World} (h1 : Stay ro w ro' w') (h2 : Stay ro' w' ro2 w2) : Stay ro w ro2 w2 :=
  ⟨Nat.le_trans h1.1 h2.1, fun b hb hr => by
    obtain ⟨e1, e2⟩ := h1.2 b hb hr
    obtain ⟨e3, e4⟩ := h2.2 b (Nat.lt_of_lt_of_le hb h1.1) e2
    exact ⟨e3.trans e1, e4⟩⟩
theorem Stay.of_fr (hf : RFr ro w w' X) (hx : ¬ X .other) (he : ∀ k, k < w.heap.size → ro' k = ro k) : Stay ro w ro' w' := ⟨hf.size, fun b hb hr => ⟨hf.block b hb (by rw [hr]; exact hx), (he b hb).trans hr⟩⟩
theorem Stay.below (hb : Below w.heap.size w w') : Stay ro w ro w' := ⟨hb.size, fun b hb' hr => ⟨hb.block b hb', hr⟩⟩
theorem Stay.cut {N : Nat} (hN : N = w.heap.size) : Stay ro w (cutR ro N) w := ⟨Nat.le_refl _, fun b hb hr => ⟨rfl, by unfold cutR; rw [if_pos (by omega)]; exact hr⟩⟩

theorem LX.step {h' : HeapR} {a' : ArR} {k' r' : Nat} (L : LX W ro w bm bb f h a n k r x o) (hf : RFr ro w w' X) (hx : ¬ X .other) (he : ∀ k, k < w.heap.size → ro' k = ro k) (H : Hp ro' 0 w' W.heap.size bm bb (n * 16384) g h') (A : ArOk ro' w' W.heap.size h'.ba a') (K : KA n k' r' h' a') : LX W ro' w' bm bb g h' a' n k' r' x o :=
  ⟨L.law.step H A hf hx he, K, (he x (lt_of_block L.blk)).trans L.ot, (hf.block x (lt_of_block L.blk) (by rw [L.ot]; exact hx)).trans L.blk⟩
theorem LX.on (L : LX W ro w bm bb f h a n k r x o) (hb : Below w.heap.size w w') : LX W ro w' bm bb f h a n k r x o :=
  ⟨L.law.on hb, L.ka, L.ot, (hb.block x (lt_of_block L.blk)).trans L.blk⟩
theorem LX.cell {cs : Array Value} {T : TypeId} {j : Nat} {v : Value} (L : LX W ro w bm bb f h a n k r x (.cells cs T)) (hj : cs[j]? = some v) : w.cell? ⟨x, j, none⟩ = some v := by
  rw [cell_of_row w x j cs _ _ L.blk]
  exact hj
theorem LX.made {N : Nat} (L : LawH W ro 0 w bm bb (n * 16384) f h a) (K : KA n k r h a) (hN : N = w.heap.size) (o : Obj) : LX W (cutR ro N) (w.alloc o) bm bb f h a n k r N o := by
  subst hN
  refine ⟨(L.cut rfl).on ((Below.refl _ _).alloc (Nat.le_refl _) _), K, if_neg (by omega), ?_⟩
  show (w.heap.push o)[w.heap.size]? = _
  simp

/-- A call that turns what is the law's own alone. -/
theorem Hp.other (H : Hp ro hn w B bm bb sz f h) (hf : RFr ro w w' (fun r => r = .other)) : Hp ro hn w' B bm bb sz f h := by
  have hh := H.hp.reseg hf nofun (fun c i => nofun) nofun (S' := h.S) rfl (fun s hs => (H.hp.segs s hs).fr hf nofun nofun nofun (fun p _ => ⟨nofun, nofun⟩)) H.hp.pls H.hp.link
  exact ⟨hh, H.mem.stays (hf.block bm H.mem.lt_bm (by rw [H.rm]; nofun)) (hf.block bb H.mem.lt_bb (by rw [H.rb]; nofun)), H.rm, H.rb, Nat.le_trans H.b hf.size⟩
theorem LawH.own {go : Option Nat} (L : LawH W ro hn w bm bb sz f h a) (hg : w.grownBy w' go) (hr : ∀ b, go = some b → ro b = .other ∧ W.heap.size ≤ b) : LawH W ro hn w' bm bb sz f h a := by
  have hf : RFr ro w w' (fun r => r = .other) := ⟨hg.os, hg.tape, hg.output, hg.size, fun b hb hx => hg.block b hb (fun e => hx (hr b e.symm).1)⟩
  exact ⟨L.hp.other hf, L.ar.fr hf nofun, ⟨hg.os.trans L.below.os, hg.tape.trans L.below.tape, hg.output.trans L.below.output, Nat.le_trans L.below.size hg.size, fun b hb => (hg.block b (Nat.lt_of_lt_of_le hb L.below.size) (fun e => by have := (hr b e.symm).2; omega)).trans (L.below.block b hb)⟩, L.old⟩

/-- A block out of a page that there is. -/
def GLoc (sz : Nat) (f : Nat → Nat) (h : HeapR) (i x : Nat) (f' : Nat → Nat) (h' : HeapR) : Prop :=
  ∃ kk, ∃ s ∈ h.S, ∃ p ∈ s.P, ∃ pg' k1 k2, (∀ j x, j < kk → (h.Q1 i)[j]? = some x → FullKey h.S x) ∧ (h.Q1 i)[kk]? = some ((s.pl * 16 + p.at_ : Nat) : Int) ∧ rowIx p.cls = some i ∧ PgGot f sz p.pg f' pg' x ∧
    h' = ({ h with S := setPg s.pl p.at_ pg' h.S } : HeapR).queued i ((h.Q1 i).drop kk) (h.Q2 i ++ (h.Q1 i).take kk) k1 k2
/-- No page that there is has any. -/
def GFill (h : HeapR) (i : Nat) (h' : HeapR) : Prop := ∃ k1 k2, (∀ x ∈ h.Q1 i, FullKey h.S x) ∧ h' = h.queued i [] (h.Q2 i ++ h.Q1 i) k1 k2
/-- A block out of a page anew. -/
def GNew (sz : Nat) (f : Nat → Nat) (h : HeapR) (c : Int) (i sl S N x : Nat) (f' : Nat → Nat) (h' : HeapR) : Prop :=
  ∃ s ∈ h.S, ∃ at_ bo bp pg' k1 k2, FreeRow (segT s.P) 16 sl at_ ∧ (∀ j, j < at_ → ¬ FreeRow (segT s.P) 16 sl j) ∧ x = s.pl * 16384 + at_ * 1024 ∧ PgGot f sz (newPg x S N) f' pg' x ∧
    h' = ({ h with S := addPg s.pl ⟨bo, bp, c, at_, sl, pg'⟩ h.S } : HeapR).queued i (h.Q1 i ++ [((s.pl * 16 + at_ : Nat) : Int)]) (h.Q2 i) k1 k2
def NoRoom (h : HeapR) (sl : Nat) : Prop := ∀ s ∈ h.S, ∀ j, ¬ FreeRow (segT s.P) 16 sl j
/-- A segment more. -/
def GGrow (k : Nat) (h h' : HeapR) : Prop := ∃ s gs, s.pl = k ∧ s.P = [] ∧ (s.x = h.id ∧ s.a = 1) ∧ h' = { h with S := h.S ++ [s], gs := gs }

theorem local_g (L : LX W ro w bm bb f h a n k r x o) {i : Nat} (hi : i < 12) :
    Calls Tryz.prog 15 #[.pointer (some ⟨h.bh, 0, none⟩), .int .i64 i] w fun e w' =>
      (∃ y f' h' ro', e = .returned (.tuple #[.int .u64 (y : Nat), .int .i64 0]) ∧ GLoc (n * 16384) f h i y f' h' ∧ LX W ro' w' bm bb f' h' a n k r x o ∧ h'.bh = h.bh ∧ h'.ba = h.ba ∧ Stay ro w ro' w') ∨
      (∃ h' ro', e = .returned (.tuple #[.int .u64 0, .int .i64 4]) ∧ GFill h i h' ∧ LX W ro' w' bm bb f h' a n k r x o ∧ h'.bh = h.bh ∧ h'.ba = h.ba ∧ Stay ro w ro' w') := by
  refine (local_any L.law.hp i (by omega) (by omega)).mono ?_
  rintro e w' (⟨j, _, hj, _, ro', kk, k1, k2, he, rr, hful, hk⟩ | ⟨h1, _⟩)
  · obtain rfl : i = j := by omega
    have A := L.law.ar.over rr (fun i => hpX_ar) he
    rcases hk with ⟨s, hs, p, hp, f', pg', ad, h1, h2, h3, rfl, H⟩ | ⟨rfl, hkk, H⟩
    · exact .inl ⟨ad, f', _, ro', rfl, ⟨kk, s, hs, p, hp, pg', k1, k2, hful, h2, h1, h3, rfl⟩, L.step rr hpX_other he H A (L.ka.keep setPg_pls), rfl, rfl, Stay.of_fr rr hpX_other he⟩
    · refine .inr ⟨_, ro', rfl, ⟨k1, k2, fun y hy => ?_, rfl⟩, L.step rr hpX_other he H A (L.ka.keep fun s hs => ⟨s, hs, rfl⟩), rfl, rfl, Stay.of_fr rr hpX_other he⟩
      obtain ⟨q, hq, e⟩ := List.mem_iff_getElem.1 hy
      exact hful q y (by omega) (by rw [List.getElem?_eq_getElem hq, e])
  · exact absurd ⟨by omega, by omega⟩ h1

theorem fresh_g (L : LX W ro w bm bb f h a n k r x o) {c q u v : Int} {i sl S N : Nat} (hp : PlanOk c q i sl S N) (h3 : -9223372036854775808 ≤ q) (h4 : q ≤ 9223372036854775807) :
    Calls Tryz.prog 20 #[.pointer (some ⟨h.bh, 0, none⟩), .agg #[.int .i64 c, .int .i64 q, .int .i64 u, .int .u64 v]] w fun e w' =>
      (∃ y f' h' ro', e = .returned (.tuple #[.int .u64 (y : Nat), .int .i64 0]) ∧ GNew (n * 16384) f h c i sl S N y f' h' ∧ LX W ro' w' bm bb f' h' a n k r x o ∧ h'.bh = h.bh ∧ h'.ba = h.ba ∧ Stay ro w ro' w') ∨
      (∃ ec : Int, ec ≠ 0 ∧ e = .returned (.tuple #[.int .u64 0, .int .i64 ec]) ∧ NoRoom h sl ∧ LX W ro w' bm bb f h a n k r x o ∧ Stay ro w ro w') := by
  obtain ⟨f1, f2, f3, f4, _⟩ := hp.facts
  refine (fresh_any L.law.hp c q u v (by omega) (by omega) h3 h4).mono ?_
  rintro e w' (⟨ec, h0, rfl, hb, hno⟩ | ⟨i', sl', S', N', hp', t, ht, at_, bo, bp, ro', f', pg', k1, k2, hf, hlow, rfl, he, hg, H, rr⟩)
  · exact .inr ⟨ec, h0, rfl, fun s hs j => hno i sl S N hp s hs j, L.on hb, Stay.below hb⟩
  · have e : i' = i ∧ sl' = sl ∧ S' = S ∧ N' = N := by
      rcases hp with ⟨a1, a2, a3, _, _, a6, a7⟩ | ⟨a1, a2, a3, a6, a7⟩ <;> rcases hp' with ⟨b1, b2, b3, _, _, b6, b7⟩ | ⟨b1, b2, b3, b6, b7⟩
      · have : sl' = sl := by omega
        subst this
        exact ⟨by omega, rfl, by omega, by omega⟩
      · omega
      · omega
      · have : i' = i := by omega
        subst this
        exact ⟨rfl, by rw [a3, b3], by rw [a6, b6], by rw [a7, b7]⟩
    obtain ⟨rfl, rfl, rfl, rfl⟩ := e
    exact .inl ⟨_, f', _, ro', rfl, ⟨t, ht, at_, bo, bp, pg', k1, k2, hf, hlow, rfl, hg, rfl⟩, L.step rr hpY_other he H (L.law.ar.over rr (fun i => hpY_ar) he) (L.ka.keep addPg_pls), rfl, rfl, Stay.of_fr rr hpY_other he⟩

theorem grow_g (L : LX W ro w bm bb f h a n k r x o) (hn : n ≤ 16) (hr : r < 1000000) :
    Calls Tryz.prog 19 #[.pointer (some ⟨h.bh, 0, none⟩)] w fun e w' =>
      (k < n ∧ ∃ h' ro' a', e = .returned (.int .i64 0) ∧ GGrow k h h' ∧ LX W ro' w' bm bb f h' a' n (k + 1) r x o ∧ h'.bh = h.bh ∧ h'.ba = h.ba ∧ Stay ro w ro' w') ∨
      (k = n ∧ ∃ a', e = .returned (.int .i64 4) ∧ LX W ro w' bm bb f h a' n k (r + 1) x o ∧ Stay ro w ro w') := by
  have J := L.ka
  have hg := J.given
  have hN := J.en
  have hlim := J.lim
  have hkn := J.kn
  have hrf := J.rf
  by_cases hk : k < n
  · refine (grow_room L.law.hp L.law.ar J.sorted (by rw [J.len]; omega) (at_ := k) ⟨by omega, fun j hj => by rw [J.T]; simp⟩ (fun j hj hf => by have := hf.2 0 (by omega); rw [J.T] at this; simp at this; omega) J.small (by rw [hg]; omega) (fun t ht e => by have := J.pls t ht; omega) (by omega)).mono ?_
    rintro e w' ⟨rfl, ro', s, gs, g', he, h1, h2, h3, H, A, rr⟩
    refine .inl ⟨hk, _, ro', _, rfl, ⟨s, gs, h1, h2, h3, rfl⟩, L.step rr hpZ_other he H A ⟨J.en, J.lim, ?_, ?_, by omega, fun t ht => ?_, J.rf⟩, rfl, rfl, Stay.of_fr rr hpZ_other he⟩
    · show setT a.T k 1 true = _
      rw [J.T]
      funext j
      unfold setT
      by_cases e : j = k
      · subst e; simp
      · rw [if_neg (by omega)]
        show decide (j < k) = decide (j < k + 1)
        rw [decide_eq_decide]
        omega
    · show a.R ++ [(k, 1)] = _
      rw [J.R, List.range_succ, List.map_append]
      rfl
    · rcases List.mem_append.1 ht with ht | ht
      · have := J.pls t ht; omega
      · simp only [List.mem_singleton] at ht
        subst ht
        omega
  · refine (grow_full L.law.hp L.law.ar (by omega) (by rw [hg]; omega)).mono ?_
    rintro e w' ⟨rfl, H, A, rr⟩
    exact .inr ⟨by omega, _, rfl, L.step rr hpZ_other (fun _ _ => rfl) H A { J with rf := by show a.rf + 1 ≤ r + 1; omega }, Stay.of_fr rr hpZ_other (fun _ _ => rfl)⟩

/-- What get leaves. -/
def GetR (sz n k : Nat) (f : Nat → Nat) (h : HeapR) (c : Int) (i sl S N : Nat) (y : Option Nat) (f' : Nat → Nat) (h' : HeapR) (k' : Nat) : Prop :=
  (∃ x, y = some x ∧ 0 ≤ c ∧ GLoc sz f h i x f' h' ∧ k' = k) ∨
  ∃ h1, ((0 ≤ c ∧ GFill h i h1) ∨ (c = -1 ∧ h1 = h)) ∧
    ((∃ x, y = some x ∧ GNew sz f h1 c i sl S N x f' h' ∧ k' = k) ∨
     (NoRoom h1 sl ∧ k < n ∧ ∃ h2 x, y = some x ∧ GGrow k h1 h2 ∧ GNew sz f h2 c i sl S N x f' h' ∧ k' = k + 1) ∨
     (NoRoom h1 sl ∧ k = n ∧ y = none ∧ f' = f ∧ h' = h1 ∧ k' = k))

/-- In an empty segment there is room. -/
theorem room_new {h h' : HeapR} {sl : Nat} (hg : GGrow k h h') (h1 : sl ≤ 15) : ¬ NoRoom h' sl := fun hno => by
  obtain ⟨s, gs, _, hP, _, rfl⟩ := hg
  refine hno s (by simp) 1 ⟨by omega, fun j hj => ?_⟩
  rw [hP]
  simp [segT]
end Go.Proofs.YtbljphaklciinaaGreat

/- Layer 12's laws: get, walked. -/
namespace Go.Proofs.YtbljphaklciinaaGreat
open Go.RowKit
variable {ro ro' : Nat → Role} {hn : Nat} {w w' : World} {B bm bb sz : Nat} {f g : Nat → Nat} {h : HeapR} {X : Role → Prop} {a : ArR} {W : World} {n k r x : Nat} {o : Obj}

def gotV (y : Option Nat) (v : Int) : Value := match y with
  | some x => .tuple #[.int .u64 (x : Nat), .int .u64 v, .bool true]
  | none => .tuple #[.int .u64 0, .int .u64 0, .bool false]

def GetTo (W : World) (ro : Nat → Role) (w : World) (bm bb n k r : Nat) (f : Nat → Nat) (h : HeapR) (c : Int) (i sl S N : Nat) (v : Int) (e : Ending) (w' : World) : Prop :=
  ∃ y f' h' k' ro' a', e = .returned (gotV y v) ∧ GetR (n * 16384) n k f h c i sl S N y f' h' k' ∧ LawH W ro' 0 w' bm bb (n * 16384) f' h' a' ∧ KA n k' (r + 1) h' a' ∧ h'.bh = h.bh ∧ h'.ba = h.ba ∧ Stay ro w ro' w'

theorem KA.up (K : KA n k r h a) : KA n k (r + 1) h a := { K with rf := Nat.le_succ_of_le K.rf }

set_option maxRecDepth 100000 in
set_option maxHeartbeats 8000000 in
theorem get_walk (L : LawH W ro 0 w bm bb (n * 16384) f h a) (K : KA n k r h a) (hn : n ≤ 16) (hr : r < 1000000) {c q v : Int} {i sl S N : Nat} (hp : PlanOk c q i sl S N) (h3 : -9223372036854775808 ≤ q) (h4 : q ≤ 9223372036854775807) {nn m : Int} (hm : nn % 15361 = m) (hn0 : 0 ≤ nn)
    (HF : Calls Tryz.prog 33 #[.int .u64 m, .int .u64 1] w fun e w' => e = .returned (.tuple #[.agg #[.int .i64 c, .int .i64 q, .int .i64 0, .int .u64 v], .int .i64 0]) ∧ Below w.heap.size w w') :
    Calls Tryz.prog 11 #[.pointer (some ⟨h.bh, 0, none⟩), .int .u64 nn] w (GetTo W ro w bm bb n k r f h c i sl S N v) := by
  have HFOR := Lib.hid HF
  have HL := Lib.hid L
  have HK := Lib.hid K
  have HP := Lib.hid hp
  clear HF L K
  rcases hp with ⟨rfl, _⟩ | ⟨rfl, hi, _⟩
  · go_enter Tryz.func11, Tryz.ntmps11
    go_wp2_with fail
    refine HFOR.out.mono ?_
    rintro e w1 ⟨rfl, hb1⟩
    have L2 := LX.made (HL.out.on hb1) HK.out rfl (.cells #[.int .i64 (-1), .int .i64 q, .int .i64 0, .int .u64 v] 54)
    have HS1 : Hid (Stay ro w (cutR ro w1.heap.size) (w1.alloc (.cells #[.int .i64 (-1), .int .i64 q, .int .i64 0, .int .u64 v] 54))) := ((Stay.below hb1).trans (Stay.cut rfl)).trans (Stay.below ((Below.refl _ _).alloc (Nat.le_refl _) _))
    have v0 := L2.cell (j := 0) rfl
    have v1 := L2.cell (j := 1) rfl
    have v2 := L2.cell (j := 2) rfl
    have v3 := L2.cell (j := 3) rfl
    have HFR := Lib.hid (fresh_g (u := 0) (v := v) L2 HP.out h3 h4)
    have HQ := Lib.hid (And.intro h3 h4)
    clear hb1 HFOR L2 h3 h4
    go_wp2_with fail
    refine HFR.out.mono ?_
    rintro e w3 (⟨y, f3, h3', ro3, rfl, hg, L3, e1, e2, st3⟩ | ⟨ec, hec, rfl, hno, L3, st3⟩)
    · have v3 := L3.cell (j := 3) rfl
      have HL3 := Lib.hid L3
      have HG3 := Lib.hid hg
      have HE3 := Lib.hid (And.intro e1 e2)
      have HS3 := Lib.hid (HS1.out.trans st3)
      clear L3 hg e1 e2 st3  v0 v1 v2 HFR
      go_wp2_with fail
      go_quiet (fail)
      go_wp2_with fail
      (try simp only [Exit.inBlock, Exit.then])
      go_ret3
      exact ⟨some y, f3, h3', k, ro3, a, rfl, .inr ⟨h, .inr ⟨rfl, rfl⟩, .inl ⟨y, rfl, HG3.out, rfl⟩⟩, (HL3.out.law.on (below_drewN (Below.refl _ _) nq)), HL3.out.ka.up, HE3.out.1, HE3.out.2, HS3.out.trans (Stay.below (below_drewN (Below.refl _ _) nq))⟩
    · have q0 : (ec == 0) = false := by simpa using hec
      have HGR := Lib.hid (grow_g L3 hn hr)
      skip
      have HNO := Lib.hid hno
      have HS3 := Lib.hid (HS1.out.trans st3)
      clear L3 hno hec st3  v0 v1 v2 v3 HFR
      go_wp2_with fail
      refine HGR.out.mono ?_
      rintro e w4 (⟨hk, h4', ro4, a4, rfl, hgr, L4, e1, e2, st4⟩ | ⟨hk, a4, rfl, L4, st4⟩)
      · have v0 := L4.cell (j := 0) rfl
        have v1 := L4.cell (j := 1) rfl
        have v2 := L4.cell (j := 2) rfl
        have v3 := L4.cell (j := 3) rfl
        have HFR := Lib.hid (fresh_g (u := 0) (v := v) L4 HP.out HQ.out.1 HQ.out.2)
        rw [e1] at HFR
        have HGG := Lib.hid hgr
        have HE4 := Lib.hid (And.intro e1 e2)
        have HS4 := Lib.hid (HS3.out.trans st4)
        clear L4 hgr e1 e2 HGR st4
        go_wp2_with fail
        refine HFR.out.mono ?_
        rintro e w5 (⟨y, f5, h5, ro5, rfl, hg, L5, e1, e2, st5⟩ | ⟨ec, hec, rfl, hno, L5, st5⟩)
        · have v3' := L5.cell (j := 3) rfl
          have HL5 := Lib.hid L5
          have HG5 := Lib.hid hg
          have HE5 := Lib.hid (And.intro e1 e2)
          have HS5 := Lib.hid (HS4.out.trans st5)
          clear L5 hg e1 e2 st5 v0 v1 v2 v3 HFR
          go_wp2_with fail
          go_quiet (fail)
          go_wp2_with fail
          (try simp only [Exit.inBlock, Exit.then])
          go_ret3
          exact ⟨some y, f5, h5, k + 1, ro5, a4, rfl, .inr ⟨h, .inr ⟨rfl, rfl⟩, .inr (.inl ⟨HNO.out, hk, h4', y, rfl, HGG.out, HG5.out, rfl⟩)⟩, (HL5.out.law.on (below_drewN (Below.refl _ _) nq)), HL5.out.ka.up, HE5.out.1, HE5.out.2.trans HE4.out.2, HS5.out.trans (Stay.below (below_drewN (Below.refl _ _) nq))⟩
        · exact absurd hno (room_new HGG.out HP.out.facts.2.2.2.2.2.1)
      · have HL4 := Lib.hid L4
        have HS4 := Lib.hid (HS3.out.trans st4)
        clear L4 HGR st4
        go_wp2_with fail
        (try simp only [Exit.inBlock, Exit.then])
        go_ret3
        exact ⟨none, f, h, k, _, a4, rfl, .inr ⟨h, .inr ⟨rfl, rfl⟩, .inr (.inr ⟨HNO.out, hk, rfl, rfl, rfl, rfl⟩)⟩, HL4.out.law, HL4.out.ka, rfl, rfl, HS4.out⟩
  · go_enter Tryz.func11, Tryz.ntmps11
    go_wp2_with fail
    refine HFOR.out.mono ?_
    rintro e w1 ⟨rfl, hb1⟩
    have HX := Lib.hid (LX.made (HL.out.on hb1) HK.out rfl (.cells #[.int .i64 (i : Int), .int .i64 q, .int .i64 0, .int .u64 v] 54))
    have HS1 : Hid (Stay ro w (cutR ro w1.heap.size) (w1.alloc (.cells #[.int .i64 (i : Int), .int .i64 q, .int .i64 0, .int .u64 v] 54))) := ((Stay.below hb1).trans (Stay.cut rfl)).trans (Stay.below ((Below.refl _ _).alloc (Nat.le_refl _) _))
    clear hb1 HFOR
    go_wp2_with fail
    refine (local_g HX.out hi).mono ?_
    rintro e w2 (⟨y, f2, h2, ro2, rfl, hg, L2, e1, e2, st2⟩ | ⟨h2, ro2, rfl, hg, L2, e1, e2, st2⟩)
    · have v3 := L2.cell (j := 3) rfl
      have HL2 := Lib.hid L2
      have HG := Lib.hid hg
      have HE := Lib.hid (And.intro e1 e2)
      have HS2 := Lib.hid (HS1.out.trans st2)
      clear L2 hg e1 e2 HX st2 HS1
      go_wp2_with fail
      go_quiet (fail)
      go_wp2_with fail
      (try simp only [Exit.inBlock, Exit.then])
      go_ret3
      exact ⟨some y, f2, h2, k, ro2, a, rfl, .inl ⟨y, rfl, by omega, HG.out, rfl⟩, (HL2.out.law.on (below_drewN (Below.refl _ _) nq)), HL2.out.ka.up, HE.out.1, HE.out.2, HS2.out.trans (Stay.below (below_drewN (Below.refl _ _) nq))⟩
    · have v0 := L2.cell (j := 0) rfl
      have v1 := L2.cell (j := 1) rfl
      have v2 := L2.cell (j := 2) rfl
      have v3 := L2.cell (j := 3) rfl
      have HFR := Lib.hid (fresh_g (u := 0) (v := v) L2 HP.out h3 h4)
      rw [e1] at HFR
      have HL2 := Lib.hid L2
      have HG := Lib.hid hg
      have HE := Lib.hid (And.intro e1 e2)
      have HS2 := Lib.hid (HS1.out.trans st2)
      clear L2 hg e1 e2 HX st2 HS1
      have HQ := Lib.hid (And.intro h3 h4)
      clear h3 h4
      go_wp2_with fail
      refine HFR.out.mono ?_
      rintro e w3 (⟨y, f3, h3', ro3, rfl, hg, L3, e1, e2, st3⟩ | ⟨ec, hec, rfl, hno, L3, st3⟩)
      · have v3 := L3.cell (j := 3) rfl
        have HL3 := Lib.hid L3
        have HG3 := Lib.hid hg
        have HE3 := Lib.hid (And.intro e1 e2)
        have HS3 := Lib.hid (HS2.out.trans st3)
        clear L3 hg e1 e2 st3  v0 v1 v2 HFR
        go_wp2_with fail
        go_quiet (fail)
        go_wp2_with fail
        (try simp only [Exit.inBlock, Exit.then])
        go_ret3
        exact ⟨some y, f3, h3', k, ro3, a, rfl, .inr ⟨h2, .inl ⟨by omega, HG.out⟩, .inl ⟨y, rfl, HG3.out, rfl⟩⟩, (HL3.out.law.on (below_drewN (Below.refl _ _) nq)), HL3.out.ka.up, HE3.out.1, HE3.out.2.trans HE.out.2, HS3.out.trans (Stay.below (below_drewN (Below.refl _ _) nq))⟩
      · have q0 : (ec == 0) = false := by simpa using hec
        have HGR := Lib.hid (grow_g L3 hn hr)
        rw [HE.out.1] at HGR
        have HNO := Lib.hid hno
        have HS3 := Lib.hid (HS2.out.trans st3)
        clear L3 hno hec st3  v0 v1 v2 v3 HFR
        go_wp2_with fail
        refine HGR.out.mono ?_
        rintro e w4 (⟨hk, h4', ro4, a4, rfl, hgr, L4, e1, e2, st4⟩ | ⟨hk, a4, rfl, L4, st4⟩)
        · have v0 := L4.cell (j := 0) rfl
          have v1 := L4.cell (j := 1) rfl
          have v2 := L4.cell (j := 2) rfl
          have v3 := L4.cell (j := 3) rfl
          have HFR := Lib.hid (fresh_g (u := 0) (v := v) L4 HP.out HQ.out.1 HQ.out.2)
          rw [e1] at HFR
          have HGG := Lib.hid hgr
          have HE4 := Lib.hid (And.intro e1 e2)
          have HS4 := Lib.hid (HS3.out.trans st4)
          clear L4 hgr e1 e2 HGR st4
          go_wp2_with fail
          refine HFR.out.mono ?_
          rintro e w5 (⟨y, f5, h5, ro5, rfl, hg, L5, e1, e2, st5⟩ | ⟨ec, hec, rfl, hno, L5, st5⟩)
          · have v3' := L5.cell (j := 3) rfl
            have HL5 := Lib.hid L5
            have HG5 := Lib.hid hg
            have HE5 := Lib.hid (And.intro e1 e2)
            have HS5 := Lib.hid (HS4.out.trans st5)
            clear L5 hg e1 e2 st5 v0 v1 v2 v3 HFR
            go_wp2_with fail
            go_quiet (fail)
            go_wp2_with fail
            (try simp only [Exit.inBlock, Exit.then])
            go_ret3
            exact ⟨some y, f5, h5, k + 1, ro5, a4, rfl, .inr ⟨h2, .inl ⟨by omega, HG.out⟩, .inr (.inl ⟨HNO.out, hk, h4', y, rfl, HGG.out, HG5.out, rfl⟩)⟩, (HL5.out.law.on (below_drewN (Below.refl _ _) nq)), HL5.out.ka.up, HE5.out.1, (HE5.out.2.trans HE4.out.2).trans HE.out.2, HS5.out.trans (Stay.below (below_drewN (Below.refl _ _) nq))⟩
          · exact absurd hno (room_new HGG.out HP.out.facts.2.2.2.2.2.1)
        · have HL4 := Lib.hid L4
          have HS4 := Lib.hid (HS3.out.trans st4)
          clear L4 HGR st4
          go_wp2_with fail
          (try simp only [Exit.inBlock, Exit.then])
          go_ret3
          exact ⟨none, f, h2, k, _, a4, rfl, .inr ⟨h2, .inl ⟨by omega, HG.out⟩, .inr (.inr ⟨HNO.out, hk, rfl, rfl, rfl, rfl⟩)⟩, HL4.out.law, HL4.out.ka, HE.out.1, HE.out.2, HS4.out⟩
end Go.Proofs.YtbljphaklciinaaGreat

/- Layer 5's reference: Sizes, Slices, Blocks. -/
namespace Go.Proofs.YtbljphaklciinaaGreat
open Go.RowKit

theorem szs_in {c : Nat} (hc : c < 12) : 16 ≤ szs.getD c 0 ∧ szs.getD c 0 ≤ 1024 := by
  rcases (show c = 0 ∨ c = 1 ∨ c = 2 ∨ c = 3 ∨ c = 4 ∨ c = 5 ∨ c = 6 ∨ c = 7 ∨ c = 8 ∨ c = 9 ∨ c = 10 ∨ c = 11 by omega) with rfl | rfl | rfl | rfl | rfl | rfl | rfl | rfl | rfl | rfl | rfl | rfl <;> decide
theorem sls_of {c : Nat} (hc : c < 12) : sls.getD c 0 = if szs.getD c 0 ≤ 256 then 1 else if szs.getD c 0 ≤ 512 then 2 else 4 := by
  rcases (show c = 0 ∨ c = 1 ∨ c = 2 ∨ c = 3 ∨ c = 4 ∨ c = 5 ∨ c = 6 ∨ c = 7 ∨ c = 8 ∨ c = 9 ∨ c = 10 ∨ c = 11 by omega) with rfl | rfl | rfl | rfl | rfl | rfl | rfl | rfl | rfl | rfl | rfl | rfl <;> decide
theorem blks_of {c : Nat} (hc : c < 12) (n : Nat) : (n + 1) * szs.getD c 0 ≤ 1024 * sls.getD c 0 ↔ n < blks.getD c 0 := by
  rcases (show c = 0 ∨ c = 1 ∨ c = 2 ∨ c = 3 ∨ c = 4 ∨ c = 5 ∨ c = 6 ∨ c = 7 ∨ c = 8 ∨ c = 9 ∨ c = 10 ∨ c = 11 by omega) with rfl | rfl | rfl | rfl | rfl | rfl | rfl | rfl | rfl | rfl | rfl | rfl <;> (simp only [szs, sls, blks, List.getD_cons_zero, List.getD_cons_succ]; omega)
theorem blks_le {c : Nat} (hc : c < 12) : 4 ≤ blks.getD c 0 ∧ blks.getD c 0 ≤ 64 := by
  rcases (show c = 0 ∨ c = 1 ∨ c = 2 ∨ c = 3 ∨ c = 4 ∨ c = 5 ∨ c = 6 ∨ c = 7 ∨ c = 8 ∨ c = 9 ∨ c = 10 ∨ c = 11 by omega) with rfl | rfl | rfl | rfl | rfl | rfl | rfl | rfl | rfl | rfl | rfl | rfl <;> decide

set_option maxRecDepth 100000 in
theorem refSizes_ok (w : World) : Calls Tryz.prog 37 #[] w fun e w' => ∃ g, e = .returned (.slice (some ⟨g, 0, none⟩) 12 12) ∧ (∀ c, c < 12 → w'.cell? ⟨g, c, none⟩ = some (.int .u64 (szs.getD c 0 : Nat))) ∧ Below w.heap.size w w' := by
  go_enter Tryz.func37, Tryz.ntmps37
  go_wp2_with fail
  go_ret
  refine ⟨w.heap.size, rfl, fun c hc => ?_, (Below.refl w.heap.size w).alloc (Nat.le_refl _) _⟩
  rw [World.cell?_alloc_new]
  rcases (show c = 0 ∨ c = 1 ∨ c = 2 ∨ c = 3 ∨ c = 4 ∨ c = 5 ∨ c = 6 ∨ c = 7 ∨ c = 8 ∨ c = 9 ∨ c = 10 ∨ c = 11 by omega) with rfl | rfl | rfl | rfl | rfl | rfl | rfl | rfl | rfl | rfl | rfl | rfl <;> rfl

set_option maxRecDepth 100000 in
set_option maxHeartbeats 1000000 in
theorem refSlices_ok (w : World) (c : Nat) (hc : c < 12) : Calls Tryz.prog 12 #[.int .i64 c] w fun e w' => e = .returned (.int .i64 (sls.getD c 0 : Nat)) ∧ Below w.heap.size w w' := by
  have HS := Lib.hid (sls_of hc)
  have hb := szs_in hc
  go_enter Tryz.func12, Tryz.ntmps12
  go_wp2_with fail
  (with_reducible refine (refSizes_ok _).mono ?_)
  rintro e w1 ⟨g, rfl, hcell, B1⟩
  have hg := hcell c hc
  have HB := Lib.hid B1
  obtain ⟨S, hS⟩ : ∃ S, S = szs.getD c 0 := ⟨_, rfl⟩
  rw [← hS] at hg hb HS
  clear B1 hcell hS
  by_cases h1 : S ≤ 256
  · rw [if_pos h1] at HS
    go_wp2_with fail
    go_ret
    rw [HS.out]
    exact ⟨rfl, HB.out⟩
  · rw [if_neg h1] at HS
    by_cases h2 : S ≤ 512
    · rw [if_pos h2] at HS
      go_wp2_with fail
      go_ret
      rw [HS.out]
      exact ⟨rfl, HB.out⟩
    · rw [if_neg h2] at HS
      go_wp2_with fail
      go_ret
      rw [HS.out]
      exact ⟨rfl, HB.out⟩

set_option maxRecDepth 100000 in
set_option maxHeartbeats 2000000 in
theorem refBlocks_ok (w : World) (c : Nat) (hc : c < 12) : Calls Tryz.prog 13 #[.int .i64 c] w fun e w' => e = .returned (.int .i64 (blks.getD c 0 : Nat)) ∧ Below w.heap.size w w' := by
  have HB := Lib.hid (fun n => blks_of hc n)
  have hN := blks_le hc
  have hb := szs_in hc
  have HSL := Lib.hid (fun w => refSlices_ok w c hc)
  have hs4 : sls.getD c 0 ≤ 4 := by
    rw [sls_of hc]
    split
    · omega
    · split <;> omega
  obtain ⟨S, hS⟩ : ∃ S, S = szs.getD c 0 := ⟨_, rfl⟩
  obtain ⟨sl, hsl⟩ : ∃ sl, sl = sls.getD c 0 := ⟨_, rfl⟩
  obtain ⟨N, hNN⟩ : ∃ N, N = blks.getD c 0 := ⟨_, rfl⟩
  have HSZ : Hid (∀ w, Calls Tryz.prog 37 #[] w fun e w' => ∃ g, e = .returned (.slice (some ⟨g, 0, none⟩) 12 12) ∧ w'.cell? ⟨g, c, none⟩ = some (.int .u64 (S : Nat)) ∧ Below w.heap.size w w') := fun w => (refSizes_ok w).mono fun e w' ⟨g, h1, h2, h3⟩ => ⟨g, h1, by rw [hS]; exact h2 c hc, h3⟩
  rw [← hS, ← hsl, ← hNN] at HB
  rw [← hsl] at HSL hs4
  rw [← hS] at hb
  rw [← hNN] at hN ⊢
  clear hS hsl hNN
  go_enter Tryz.func13, Tryz.ntmps13
  go_wp2_with fail
  go_loopw [3] (fun nv wr => ∃ n : Nat, n ≤ N ∧ nv = .int .i64 n ∧ Hid (Below w.heap.size w wr)) (fun nv _ => N - (intOf nv).toNat)
  case atStart => exact ⟨0, by omega, rfl, Below.refl _ _⟩
  case round =>
    obtain ⟨n, hn, rfl, HW⟩ := hrel
    have HQ := HB.out n
    have e1 : ((n + 1) * S : Nat) ≤ 65 * 1024 := Nat.le_trans (Nat.mul_le_mul_right _ (show n + 1 ≤ 65 by omega)) (Nat.mul_le_mul_left _ hb.2)
    have eM : (((n : Int) + 1) * (S : Int)) ≤ 66560 := by
      have : (((n + 1) * S : Nat) : Int) ≤ 66560 := by omega
      rw [Int.natCast_mul] at this
      exact this
    have qL : (((n + 1) * S : Nat) : Int) = ((n : Int) + 1) * (S : Int) := by rw [Int.natCast_mul]; rfl
    by_cases hlt : n < N
    · have qM : (((n : Int) + 1) * (S : Int)) ≤ 1024 * (sl : Int) := by
        have := HQ.2 hlt
        omega
      clear qL
      have hci : (c : Int) < 12 := by omega
      have hw1 : IntKind.i64.wrap ((n : Int) + 1) = (n : Int) + 1 := Go.IntWalk.i64_in _ (by omega)
      have hw2 : IntKind.u64.wrap ((n : Int) + 1) = (n : Int) + 1 := Go.IntWalk.u64_in _ (by omega)
      have hw4 : IntKind.u64.wrap (sl : Int) = sl := Go.IntWalk.u64_in _ (by omega)
      have hw5 : IntKind.u64.wrap (1024 * (sl : Int)) = 1024 * (sl : Int) := Go.IntWalk.u64_in _ (by omega)
      obtain ⟨M, hM⟩ : ∃ M, M = (((n : Int) + 1) * (S : Int)) := ⟨_, rfl⟩
      have hw3 : IntKind.u64.wrap (((n : Int) + 1) * (S : Int)) = M := by rw [hM]; exact Go.IntWalk.u64_in _ ⟨Int.mul_nonneg (by omega) (by omega), by omega⟩
      rw [← hM] at qM
      clear hM HQ e1 eM
      go_wp2_with fail
      go_region_law (first
        | (go_simp; go_at_call 37; (with_reducible refine (HSZ.out _).mono ?_); rintro e w1 ⟨g, rfl, hc1, hb1⟩; have B1 : Hid (Below wr.heap.size wr w1) := ⟨hb1.os, hb1.tape, hb1.output, hb1.size, hb1.block⟩; clear hb1; go_wp2_with fail)
        | (go_simp; go_at_call 12; (with_reducible refine (HSL.out _).mono ?_); rintro e w2 ⟨rfl, hb2⟩; have hc2 := (hb2.cell (World.block_lt_of_cell? _ _ hc1)).trans hc1; have B2 : Hid (Below wr.heap.size wr w2) := B1.out.trans (hb2.mono B1.out.size); clear hb2; go_wp2_with fail)
        | fail)
      all_goals go_wp2_with fail
      all_goals
        go_roundw
        case rel => exact ⟨n + 1, by omega, by go_num, HW.out.trans (B2.out.mono HW.out.size)⟩
        case measure => simp [intOf]; omega
    · have qM : ¬ (((n : Int) + 1) * (S : Int)) ≤ 1024 * (sl : Int) := fun h => by
        have := HQ.1 (by omega)
        omega
      clear qL
      have hci : (c : Int) < 12 := by omega
      have hw1 : IntKind.i64.wrap ((n : Int) + 1) = (n : Int) + 1 := Go.IntWalk.i64_in _ (by omega)
      have hw2 : IntKind.u64.wrap ((n : Int) + 1) = (n : Int) + 1 := Go.IntWalk.u64_in _ (by omega)
      have hw4 : IntKind.u64.wrap (sl : Int) = sl := Go.IntWalk.u64_in _ (by omega)
      have hw5 : IntKind.u64.wrap (1024 * (sl : Int)) = 1024 * (sl : Int) := Go.IntWalk.u64_in _ (by omega)
      obtain ⟨M, hM⟩ : ∃ M, M = (((n : Int) + 1) * (S : Int)) := ⟨_, rfl⟩
      have hw3 : IntKind.u64.wrap (((n : Int) + 1) * (S : Int)) = M := by rw [hM]; exact Go.IntWalk.u64_in _ ⟨Int.mul_nonneg (by omega) (by omega), by omega⟩
      rw [← hM] at qM
      clear hM HQ e1 eM
      go_wp2_with fail
      go_region_law (first
        | (go_simp; go_at_call 37; (with_reducible refine (HSZ.out _).mono ?_); rintro e w1 ⟨g, rfl, hc1, hb1⟩; have B1 : Hid (Below wr.heap.size wr w1) := ⟨hb1.os, hb1.tape, hb1.output, hb1.size, hb1.block⟩; clear hb1; go_wp2_with fail)
        | (go_simp; go_at_call 12; (with_reducible refine (HSL.out _).mono ?_); rintro e w2 ⟨rfl, hb2⟩; have hc2 := (hb2.cell (World.block_lt_of_cell? _ _ hc1)).trans hc1; have B2 : Hid (Below wr.heap.size wr w2) := B1.out.trans (hb2.mono B1.out.size); clear hb2; go_wp2_with fail)
        | fail)
      all_goals go_wp2_with fail
      all_goals go_ret
      all_goals
        obtain rfl : n = N := by omega
        exact ⟨rfl, HW.out.trans (B2.out.mono HW.out.size)⟩
end Go.Proofs.YtbljphaklciinaaGreat

/- HeapFull, plain: what stays true of a heap all of whose pages are of one class. -/
namespace Go.Proofs.YtbljphaklciinaaGreat
open Go.RowKit
variable {ro ro' : Nat → Role} {hn : Nat} {w w' : World} {B bm bb sz : Nat} {f f' : Nat → Nat} {h h' : HeapR} {S : List SegR}

def keyOf (s : SegR) (p : PageR) : Int := ((s.pl * 16 + p.at_ : Nat) : Int)

/-- What holds of segments as such. -/
structure SOk (sz : Nat) (f : Nat → Nat) (S : List SegR) : Prop where
  pls : S.Pairwise fun s t => s.pl ≠ t.pl
  pag : ∀ s ∈ S, ∀ p ∈ s.P, PgInv f sz p.pg ∧ 1 ≤ p.at_ ∧ 1 ≤ p.sl ∧ p.at_ + p.sl ≤ 16
  nod : ∀ s ∈ S, s.P.Pairwise fun p q => p.at_ ≠ q.at_

theorem HeapAt.sok (H : HeapAt ro hn w B bm sz f h) : SOk sz f h.S :=
  ⟨H.pls, fun s hs p hp => have h := (H.segs s hs).pages p hp; ⟨h.inv, h.a1, h.s1, h.fit⟩, fun s hs => List.Pairwise.imp_of_mem (fun {p q} hp hq hpq e => by
    have h1 := ((H.segs s hs).pages p hp).s1
    have h2 := ((H.segs s hs).pages q hq).s1
    have := hpq p.at_ (by simp [covers]; omega)
    simp only [covers, decide_eq_false_iff_not] at this
    omega) (H.segs s hs).apart⟩

theorem pair_at {α : Type} {l : List α} {F : α → Nat} (h : l.Pairwise fun a b => F a ≠ F b) {x y : α} (hx : x ∈ l) (hy : y ∈ l) (e : F x = F y) : x = y := by
  rcases List.mem_iff_getElem.1 hx with ⟨i, hi, rfl⟩
  rcases List.mem_iff_getElem.1 hy with ⟨j, hj, rfl⟩
  have hpi := List.pairwise_iff_getElem.1 h
  rcases Nat.lt_trichotomy i j with h | h | h
  · exact absurd e (hpi i j hi hj h)
  · subst h; rfl
  · exact absurd e.symm (hpi j i hj hi h)
theorem pair_nodup {α : Type} {l : List α} {F : α → Nat} (h : l.Pairwise fun a b => F a ≠ F b) : l.Nodup := h.imp fun hab e => hab (congrArg F e)

theorem SOk.key_inj (K : SOk sz f S) {s t : SegR} {p q : PageR} (hs : s ∈ S) (ht : t ∈ S) (hp : p ∈ s.P) (hq : q ∈ t.P) (e : keyOf s p = keyOf t q) : s = t ∧ p = q := by
  have h1 := K.pag s hs p hp
  have h2 := K.pag t ht q hq
  unfold keyOf at e
  have es : s = t := pair_at K.pls hs ht (by omega)
  subst es
  exact ⟨rfl, pair_at (K.nod s hs) hp hq (by omega)⟩

theorem sum_map_one {α : Type} {g g' : α → Nat} {x : α} : ∀ {l : List α}, x ∈ l → l.Nodup → (∀ y ∈ l, y ≠ x → g' y = g y) → (l.map g').sum + g x = (l.map g).sum + g' x
  | [], hx, _, _ => by cases hx
  | y :: r, hx, hn, he => by
    rw [List.nodup_cons] at hn
    simp only [List.map_cons, List.sum_cons]
    by_cases e : y = x
    · subst e
      have : r.map g' = r.map g := List.map_congr_left fun z hz => he z (by simp [hz]) (fun ez => hn.1 (ez ▸ hz))
      rw [this]
      omega
    · have hxr : x ∈ r := by
        rcases List.mem_cons.1 hx with h | h
        · exact absurd h.symm e
        · exact h
      have ih := sum_map_one (g := g) (g' := g') hxr hn.2 (fun z hz hne => he z (by simp [hz]) hne)
      have := he y (by simp) e
      omega

def usedP (P : List PageR) : Nat := (P.map (·.pg.used)).sum
def usedS (S : List SegR) : Nat := (S.map fun s => usedP s.P).sum

theorem usedS_set (K : SOk sz f S) {s : SegR} {p : PageR} {pg' : Pg} (hs : s ∈ S) (hp : p ∈ s.P) : usedS (setPg s.pl p.at_ pg' S) + p.pg.used = usedS S + pg'.used := by
  have e1 : usedP (setPP p.at_ pg' s.P) + p.pg.used = usedP s.P + pg'.used := by
    unfold usedP setPP
    rw [List.map_map]
    have := sum_map_one (g := fun q : PageR => q.pg.used) (g' := (fun q : PageR => q.pg.used) ∘ fun q => if q.at_ = p.at_ then { q with pg := pg' } else q) hp (pair_nodup (K.nod s hs)) (fun q hq hne => by
      show (if q.at_ = p.at_ then { q with pg := pg' } else q : PageR).pg.used = _
      rw [if_neg (fun e => hne (pair_at (K.nod s hs) hq hp e))])
    have e2 : ((fun q : PageR => q.pg.used) ∘ fun q => if q.at_ = p.at_ then { q with pg := pg' } else q) p = pg'.used := by
      show (if p.at_ = p.at_ then { p with pg := pg' } else p : PageR).pg.used = _
      rw [if_pos rfl]
    rw [e2] at this
    exact this
  unfold usedS setPg
  rw [List.map_map]
  have := sum_map_one (g := fun t : SegR => usedP t.P) (g' := (fun t : SegR => usedP t.P) ∘ fun t => if t.pl = s.pl then { t with P := setPP p.at_ pg' t.P } else t) hs (pair_nodup K.pls) (fun t ht hne => by
    show usedP (if t.pl = s.pl then { t with P := setPP p.at_ pg' t.P } else t : SegR).P = _
    rw [if_neg (fun e => hne (pair_at K.pls ht hs e))])
  have e2 : ((fun t : SegR => usedP t.P) ∘ fun t => if t.pl = s.pl then { t with P := setPP p.at_ pg' t.P } else t) s = usedP (setPP p.at_ pg' s.P) := by
    show usedP (if s.pl = s.pl then { s with P := setPP p.at_ pg' s.P } else s : SegR).P = _
    rw [if_pos rfl]
  rw [e2] at this
  omega

theorem usedS_add (K : SOk sz f S) {s : SegR} {p : PageR} (hs : s ∈ S) : usedS (addPg s.pl p S) = usedS S + p.pg.used := by
  unfold usedS addPg
  rw [List.map_map]
  have := sum_map_one (g := fun t : SegR => usedP t.P) (g' := (fun t : SegR => usedP t.P) ∘ addI s.pl p) hs (pair_nodup K.pls) (fun t ht hne => by
    show usedP (addI s.pl p t).P = _
    unfold addI
    rw [if_neg (fun e => hne (pair_at K.pls ht hs e))])
  have e2 : ((fun t : SegR => usedP t.P) ∘ addI s.pl p) s = usedP s.P + p.pg.used := by
    show usedP (addI s.pl p s).P = _
    unfold addI
    rw [if_pos rfl]
    simp [usedP]
  rw [e2] at this
  omega

theorem setPg_mem (K : SOk sz f S) {s t : SegR} {at_ : Nat} {pg' : Pg} (hs : s ∈ S) (ht : t ∈ setPg s.pl at_ pg' S) : (t ∈ S ∧ t.pl ≠ s.pl) ∨ t = { s with P := setPP at_ pg' s.P } := by
  obtain ⟨t0, ht0, rfl⟩ := List.mem_map.1 ht
  by_cases e : t0.pl = s.pl
  · have := pair_at K.pls ht0 hs e
    subst this
    rw [if_pos rfl]
    exact .inr rfl
  · rw [if_neg e]
    exact .inl ⟨ht0, e⟩
theorem mem_setPg {s t : SegR} {at_ : Nat} {pg' : Pg} (hs : s ∈ S) (ht : t ∈ S) (hne : t.pl ≠ s.pl) : t ∈ setPg s.pl at_ pg' S := List.mem_map.2 ⟨t, ht, if_neg hne⟩
theorem mem_setPg_self {s : SegR} {at_ : Nat} {pg' : Pg} (hs : s ∈ S) : ({ s with P := setPP at_ pg' s.P } : SegR) ∈ setPg s.pl at_ pg' S := List.mem_map.2 ⟨s, hs, if_pos rfl⟩
theorem setPP_mem {P : List PageR} (hn : P.Pairwise fun p q => p.at_ ≠ q.at_) {p q : PageR} {pg' : Pg} (hp : p ∈ P) (hq : q ∈ setPP p.at_ pg' P) : (q ∈ P ∧ q.at_ ≠ p.at_) ∨ q = { p with pg := pg' } := by
  obtain ⟨q0, hq0, rfl⟩ := List.mem_map.1 hq
  by_cases e : q0.at_ = p.at_
  · have := pair_at hn hq0 hp e
    subst this
    rw [if_pos rfl]
    exact .inr rfl
  · rw [if_neg e]
    exact .inl ⟨hq0, e⟩
theorem mem_setPP {P : List PageR} {p q : PageR} {pg' : Pg} (hq : q ∈ P) (hne : q.at_ ≠ p.at_) : q ∈ setPP p.at_ pg' P := List.mem_map.2 ⟨q, hq, if_neg hne⟩
theorem mem_setPP_self {P : List PageR} {p : PageR} {pg' : Pg} (hp : p ∈ P) : ({ p with pg := pg' } : PageR) ∈ setPP p.at_ pg' P := List.mem_map.2 ⟨p, hp, if_pos rfl⟩
theorem addPg_mem (K : SOk sz f S) {s t : SegR} {p : PageR} (hs : s ∈ S) (ht : t ∈ addPg s.pl p S) : (t ∈ S ∧ t.pl ≠ s.pl) ∨ t = { s with P := s.P ++ [p] } := by
  obtain ⟨t0, ht0, rfl⟩ := List.mem_map.1 ht
  unfold addI
  by_cases e : t0.pl = s.pl
  · have := pair_at K.pls ht0 hs e
    subst this
    rw [if_pos rfl]
    exact .inr rfl
  · rw [if_neg e]
    exact .inl ⟨ht0, e⟩
theorem mem_addPg {s t : SegR} {p : PageR} (ht : t ∈ S) (hne : t.pl ≠ s.pl) : t ∈ addPg s.pl p S := List.mem_map.2 ⟨t, ht, if_neg hne⟩
theorem mem_addPg_self {s : SegR} {p : PageR} (hs : s ∈ S) : ({ s with P := s.P ++ [p] } : SegR) ∈ addPg s.pl p S := List.mem_map.2 ⟨s, hs, if_pos rfl⟩
theorem setPP_at (at_ : Nat) (pg : Pg) (P : List PageR) : (setPP at_ pg P).map (·.at_) = P.map (·.at_) ∧ (setPP at_ pg P).length = P.length := by
  unfold setPP
  rw [List.map_map]
  refine ⟨List.map_congr_left fun q _ => ?_, by simp⟩
  show (if q.at_ = at_ then { q with pg := pg } else q : PageR).at_ = _
  split <;> rfl

/-- A block that is used. -/
def InUse (S : List SegR) (x : Nat) : Prop := ∃ s ∈ S, ∃ p ∈ s.P, ∃ q, q < p.pg.made ∧ x = p.pg.f + q * p.pg.s ∧ x ∉ p.pg.free ++ p.pg.loc

theorem InUse.set (K : SOk sz f S) {s : SegR} {p : PageR} {pg' : Pg} {x y : Nat} (hs : s ∈ S) (hp : p ∈ s.P) (hg : PgGot f sz p.pg f' pg' x) (hy : InUse S y ∨ y = x) : InUse (setPg s.pl p.at_ pg' S) y := by
  have hself := mem_setPg_self (at_ := p.at_) (pg' := pg') hs
  have hpself := mem_setPP_self (pg' := pg') hp
  rcases hy with ⟨t, ht, q, hq, j, hj, e, ho⟩ | rfl
  · by_cases e1 : t.pl = s.pl
    · have := pair_at K.pls ht hs e1
      subst this
      by_cases e2 : q.at_ = p.at_
      · have := pair_at (K.nod t ht) hq hp e2
        subst this
        refine ⟨_, hself, _, hpself, j, Nat.lt_of_lt_of_le hj hg.more_, by show y = pg'.f + j * pg'.s; rw [hg.sf, hg.ss]; exact e, fun hy => ?_⟩
        have h16 := (K.pag t ht q hq).1.s16
        rcases hg.sub y hy with h | h
        · exact ho h
        · have := mul_apart (s := q.pg.s) hj
          omega
      · exact ⟨_, hself, q, mem_setPP hq e2, j, hj, e, ho⟩
    · exact ⟨t, mem_setPg hs ht e1, q, hq, j, hj, e, ho⟩
  · obtain ⟨j, hj, e⟩ := hg.blk
    exact ⟨_, hself, _, hpself, j, hj, by show y = pg'.f + j * pg'.s; rw [hg.sf, hg.ss]; exact e, hg.out⟩

theorem InUse.add {s : SegR} {p : PageR} {x y : Nat} (K : SOk sz f S) (hs : s ∈ S) (hg : ∃ q, q < p.pg.made ∧ x = p.pg.f + q * p.pg.s ∧ x ∉ p.pg.free ++ p.pg.loc) (hy : InUse S y ∨ y = x) : InUse (addPg s.pl p S) y := by
  rcases hy with ⟨t, ht, q, hq, j, hj, e, ho⟩ | rfl
  · by_cases e1 : t.pl = s.pl
    · have := pair_at K.pls ht hs e1
      subst this
      exact ⟨_, mem_addPg_self hs, q, List.mem_append_left _ hq, j, hj, e, ho⟩
    · exact ⟨t, mem_addPg ht e1, q, hq, j, hj, e, ho⟩
  · obtain ⟨j, hj, e, ho⟩ := hg
    exact ⟨_, mem_addPg_self hs, p, by simp, j, hj, e, ho⟩

/-- Pages one behind the other. -/
theorem segT_run {P : List PageR} {sl : Nat} (h1 : 1 ≤ sl) (hp : P.map (·.at_) = (List.range P.length).map fun i => 1 + i * sl) (hs : ∀ p ∈ P, p.sl = sl) (j : Nat) : segT P j = true ↔ j < 1 + P.length * sl := by
  unfold segT
  rw [Bool.or_eq_true, decide_eq_true_eq, List.any_eq_true]
  constructor
  · rintro (rfl | ⟨p, hpm, hc⟩)
    · omega
    · have : p.at_ ∈ P.map (·.at_) := List.mem_map.2 ⟨p, hpm, rfl⟩
      rw [hp] at this
      obtain ⟨i, hi, e⟩ := List.mem_map.1 this
      simp only [List.mem_range] at hi
      simp only [covers, decide_eq_true_eq, hs p hpm] at hc
      have := mul_apart (s := sl) hi
      omega
  · intro hj
    rcases Nat.eq_zero_or_pos j with h | h
    · exact .inl h
    · right
      have hd := Nat.div_add_mod (j - 1) sl
      have hm := Nat.mod_lt (j - 1) h1
      have hi : (j - 1) / sl < P.length := by
        rw [Nat.div_lt_iff_lt_mul h1]
        omega
      have : 1 + (j - 1) / sl * sl ∈ P.map (·.at_) := by
        rw [hp]
        exact List.mem_map.2 ⟨(j - 1) / sl, by simpa using hi, rfl⟩
      obtain ⟨p, hpm, e⟩ := List.mem_map.1 this
      refine ⟨p, hpm, ?_⟩
      simp only [covers, decide_eq_true_eq, hs p hpm]
      have e2 : sl * ((j - 1) / sl) = (j - 1) / sl * sl := Nat.mul_comm _ _
      omega
theorem run_next {P : List PageR} {sl at_ : Nat} (h1 : 1 ≤ sl) (hp : P.map (·.at_) = (List.range P.length).map fun i => 1 + i * sl) (hs : ∀ p ∈ P, p.sl = sl) (hf : FreeRow (segT P) 16 sl at_) (hl : ∀ j, j < at_ → ¬ FreeRow (segT P) 16 sl j) : at_ = 1 + P.length * sl := by
  have h0 := hf.2 0 h1
  rw [Nat.add_zero] at h0
  have hge : ¬ at_ < 1 + P.length * sl := fun h => by rw [(segT_run h1 hp hs at_).2 h] at h0; cases h0
  rcases Nat.lt_or_ge (1 + P.length * sl) at_ with h | h
  · refine absurd ⟨by have := hf.1; omega, fun j _ => ?_⟩ (hl _ h)
    cases ht : segT P (1 + P.length * sl + j) with
    | false => rfl
    | true => have := (segT_run h1 hp hs _).1 ht; omega
  · omega
theorem run_full {P : List PageR} {sl : Nat} (h1 : 1 ≤ sl) (hp : P.map (·.at_) = (List.range P.length).map fun i => 1 + i * sl) (hs : ∀ p ∈ P, p.sl = sl) (hfit : ∀ p ∈ P, p.at_ + p.sl ≤ 16) : P.length * sl ≤ 15 ∧ ((∀ j, ¬ FreeRow (segT P) 16 sl j) → P.length = 15 / sl) := by
  have h15 : P.length * sl ≤ 15 := by
    rcases Nat.eq_zero_or_pos P.length with h | h
    · rw [h]; omega
    · have : 1 + (P.length - 1) * sl ∈ P.map (·.at_) := by
        rw [hp]
        exact List.mem_map.2 ⟨P.length - 1, by simp; omega, rfl⟩
      obtain ⟨p, hpm, e⟩ := List.mem_map.1 this
      have h2 := hfit p hpm
      rw [hs p hpm] at h2
      have e3 : P.length * sl = (P.length - 1) * sl + sl := by
        rw [← Nat.succ_mul]
        congr 1
        omega
      omega
  refine ⟨h15, fun hno => ?_⟩
  have := hno (1 + P.length * sl)
  have h16 : ¬ (1 + P.length * sl + sl ≤ 16) := fun h => this ⟨h, fun j _ => by
    cases ht : segT P (1 + P.length * sl + j) with
    | false => rfl
    | true => have := (segT_run h1 hp hs _).1 ht; omega⟩
  have e4 : (P.length + 1) * sl = P.length * sl + sl := Nat.succ_mul _ _
  exact (Nat.div_eq_of_lt_le h15 (by omega)).symm
end Go.Proofs.YtbljphaklciinaaGreat

/- HeapFull, plain: the invariant, and the steps of get on it. -/
namespace Go.Proofs.YtbljphaklciinaaGreat
open Go.RowKit
variable {ro ro' : Nat → Role} {hn : Nat} {w w' : World} {B bm bb sz : Nat} {f f' : Nat → Nat} {h h' : HeapR} {S : List SegR} {c k x : Nat} {U : List Nat}

structure FInv (c k : Nat) (h : HeapR) (U : List Nat) : Prop where
  len : h.S.length = k
  pages : ∀ s ∈ h.S, s.P.map (·.at_) = (List.range s.P.length).map fun i => 1 + i * sls.getD c 0
  kind : ∀ s ∈ h.S, ∀ p ∈ s.P, p.cls = (c : Int) ∧ p.sl = sls.getD c 0 ∧ p.pg.s = szs.getD c 0 ∧ p.pg.n = blks.getD c 0
  keys : ∀ s ∈ h.S, ∀ p ∈ s.P, keyOf s p ∈ h.Q1 c ∨ keyOf s p ∈ h.Q2 c
  full : ∀ s ∈ h.S, ∀ p ∈ s.P, keyOf s p ∈ h.Q2 c → p.pg.full
  cnt : U.length = usedS h.S
  use : ∀ x ∈ U, InUse h.S x

theorem q1_queued (h : HeapR) (c : Nat) (R F : List Int) (k1 k2 : Option Nat) : (h.queued c R F k1 k2).Q1 c = R := updF_same _ _ _
theorem q2_queued (h : HeapR) (c : Nat) (R F : List Int) (k1 k2 : Option Nat) : (h.queued c R F k1 k2).Q2 c = F := updF_same _ _ _

theorem FInv.loc (I : FInv c k h U) (K : SOk sz f h.S) (ho : QOnce (h.Q1 c) (h.Q2 c)) (hg : GLoc sz f h c x f' h') : FInv c k h' (U ++ [x]) := by
  obtain ⟨kk, s, hs, p, hp, pg', k1, k2, hful, hkey, _, hgot, rfl⟩ := hg
  have hmem := fun {t : SegR} (ht : t ∈ setPg s.pl p.at_ pg' h.S) => setPg_mem K hs ht
  have hkl := (List.getElem?_eq_some_iff.1 hkey).1
  have hfk : ∀ {t : SegR} {q : PageR}, t ∈ h.S → q ∈ t.P → keyOf t q ∈ h.Q2 c ++ (h.Q1 c).take kk → q.pg.full := fun {t q} ht hq hk => by
    rcases List.mem_append.1 hk with hk | hk
    · exact I.full t ht q hq hk
    · obtain ⟨j, hj, e⟩ := List.mem_iff_getElem.1 hk
      rw [List.length_take] at hj
      rw [List.getElem_take] at e
      obtain ⟨t2, ht2, q2, hq2, e2, hf2⟩ := hful j (keyOf t q) (by omega) (by rw [List.getElem?_eq_getElem (by omega), e])
      obtain ⟨_, rfl⟩ := K.key_inj ht ht2 hq hq2 e2
      exact hf2
  refine ⟨?_, ?_, ?_, ?_, ?_, ?_, ?_⟩
  · show (setPg s.pl p.at_ pg' h.S).length = k
    unfold setPg
    rw [List.length_map]
    exact I.len
  · intro t ht
    rcases hmem ht with ⟨ht, _⟩ | rfl
    · exact I.pages t ht
    · show (setPP p.at_ pg' s.P).map (·.at_) = (List.range (setPP p.at_ pg' s.P).length).map _
      rw [(setPP_at _ _ _).1, (setPP_at _ _ _).2]
      exact I.pages s hs
  · intro t ht q hq
    rcases hmem ht with ⟨ht, _⟩ | rfl
    · exact I.kind t ht q hq
    · rcases setPP_mem (K.nod s hs) hp hq with ⟨hq, _⟩ | rfl
      · exact I.kind s hs q hq
      · have := I.kind s hs p hp
        exact ⟨this.1, this.2.1, hgot.ss.trans this.2.2.1, hgot.sn.trans this.2.2.2⟩
  · have hold : ∀ {y : Int}, y ∈ h.Q1 c ∨ y ∈ h.Q2 c → y ∈ (h.Q1 c).drop kk ∨ y ∈ h.Q2 c ++ (h.Q1 c).take kk := fun {y} hy => by
      rcases hy with hy | hy
      · rw [← List.take_append_drop kk (h.Q1 c)] at hy
        rcases List.mem_append.1 hy with hy | hy
        · exact .inr (List.mem_append_right _ hy)
        · exact .inl hy
      · exact .inr (List.mem_append_left _ hy)
    intro t ht q hq
    rw [q1_queued, q2_queued]
    rcases hmem ht with ⟨ht, _⟩ | rfl
    · exact hold (I.keys t ht q hq)
    · rcases setPP_mem (K.nod s hs) hp hq with ⟨hq, _⟩ | rfl
      · exact hold (I.keys s hs q hq)
      · exact hold (I.keys s hs p hp)
  · intro t ht q hq hk
    rw [q2_queued] at hk
    rcases hmem ht with ⟨ht, _⟩ | rfl
    · exact hfk ht hq hk
    · rcases setPP_mem (K.nod s hs) hp hq with ⟨hq, _⟩ | rfl
      · exact hfk hs hq hk
      · exfalso
        have hk1 : keyOf s p ∈ h.Q2 c ++ (h.Q1 c).take kk := hk
        rcases List.mem_append.1 hk1 with hk1 | hk1
        · exact ho.apart _ (List.mem_of_getElem? hkey) hk1
        · obtain ⟨j, hj, e⟩ := List.mem_iff_getElem.1 hk1
          rw [List.length_take] at hj
          rw [List.getElem_take] at e
          have e3 : (h.Q1 c)[kk] = keyOf s p := by
            rw [List.getElem?_eq_getElem hkl] at hkey
            exact Option.some.inj hkey
          exact List.pairwise_iff_getElem.1 ho.r j kk (by omega) hkl (by omega) (e.trans e3.symm)
  · have := usedS_set (pg' := pg') K hs hp
    have hu := hgot.used
    rw [List.length_append, I.cnt]
    show usedS h.S + 1 = usedS (setPg s.pl p.at_ pg' h.S)
    omega
  · intro y hy
    refine InUse.set K hs hp hgot ?_
    rcases List.mem_append.1 hy with hy | hy
    · exact .inl (I.use y hy)
    · exact .inr (by simpa using hy)

theorem FInv.fill (I : FInv c k h U) (K : SOk sz f h.S) (hg : GFill h c h') : FInv c k h' U ∧ h'.Q1 c = [] ∧ h'.S = h.S := by
  obtain ⟨k1, k2, hful, rfl⟩ := hg
  refine ⟨⟨I.len, I.pages, I.kind, fun s hs p hp => ?_, fun s hs p hp hk => ?_, I.cnt, I.use⟩, q1_queued _ _ _ _ _ _, rfl⟩
  · rw [q2_queued]
    rcases I.keys s hs p hp with h1 | h1
    · exact .inr (List.mem_append_right _ h1)
    · exact .inr (List.mem_append_left _ h1)
  · rw [q2_queued] at hk
    rcases List.mem_append.1 hk with hk | hk
    · exact I.full s hs p hp hk
    · obtain ⟨t, ht, q, hq, e, hf⟩ := hful _ hk
      obtain ⟨_, rfl⟩ := K.key_inj hs ht hp hq e
      exact hf

theorem FInv.grow (I : FInv c k h U) (hg : GGrow k h h') : FInv c (k + 1) h' U := by
  obtain ⟨s, gs, hpl, hP, _, rfl⟩ := hg
  have hm : ∀ {t : SegR}, t ∈ h.S ++ [s] → t ∈ h.S ∨ t.P = [] := fun {t} ht => by
    rcases List.mem_append.1 ht with ht | ht
    · exact .inl ht
    · simp only [List.mem_singleton] at ht
      subst ht
      exact .inr hP
  refine ⟨by show (h.S ++ [s]).length = _; rw [List.length_append, I.len]; rfl, fun t ht => ?_, fun t ht p hp => ?_, fun t ht p hp => ?_, fun t ht p hp hk => ?_, ?_, fun y hy => ?_⟩
  · rcases hm ht with ht | ht
    · exact I.pages t ht
    · rw [ht]; rfl
  · rcases hm ht with ht | ht
    · exact I.kind t ht p hp
    · rw [ht] at hp; cases hp
  · rcases hm ht with ht | ht
    · exact I.keys t ht p hp
    · rw [ht] at hp; cases hp
  · rcases hm ht with ht | ht
    · exact I.full t ht p hp hk
    · rw [ht] at hp; cases hp
  · show U.length = usedS (h.S ++ [s])
    rw [I.cnt]
    simp [usedS, usedP, hP]
  · obtain ⟨t, ht, p, hp, q, hq, e, ho⟩ := I.use y hy
    exact ⟨t, List.mem_append_left _ ht, p, hp, q, hq, e, ho⟩

theorem SOk.grow (K : SOk sz f h.S) (hpl : ∀ s ∈ h.S, s.pl < k) (hg : GGrow k h h') : SOk sz f h'.S := by
  obtain ⟨s, gs, rfl, hP, _, rfl⟩ := hg
  refine ⟨?_, fun t ht p hp => ?_, fun t ht => ?_⟩
  · show (h.S ++ [s]).Pairwise _
    rw [List.pairwise_append]
    refine ⟨K.pls, List.pairwise_singleton _ _, fun a ha b hb => ?_⟩
    simp only [List.mem_singleton] at hb
    subst hb
    have := hpl a ha
    omega
  · rcases List.mem_append.1 ht with ht | ht
    · exact K.pag t ht p hp
    · simp only [List.mem_singleton] at ht
      subst ht
      rw [hP] at hp; cases hp
  · rcases List.mem_append.1 ht with ht | ht
    · exact K.nod t ht
    · simp only [List.mem_singleton] at ht
      subst ht
      rw [hP]
      exact List.Pairwise.nil

/-- The numbers in a class's queue are pages'. -/
def LinkOk (c : Nat) (h : HeapR) : Prop := ∀ y, y ∈ h.Q1 c ∨ y ∈ h.Q2 c → ∃ s ∈ h.S, ∃ p ∈ s.P, y = keyOf s p
theorem HeapAt.linkOk (H : HeapAt ro hn w B bm sz f h) (hc : c < 13) : LinkOk c h := fun y hy => by
  obtain ⟨s, hs, p, hp, e, _⟩ := H.link c hc y hy
  exact ⟨s, hs, p, hp, e⟩
theorem LinkOk.fill (L : LinkOk c h) (hg : GFill h c h') : LinkOk c h' := fun y hy => by
  obtain ⟨k1, k2, _, rfl⟩ := hg
  rw [q1_queued, q2_queued] at hy
  rcases hy with hy | hy
  · cases hy
  · exact L y ((List.mem_append.1 hy).symm)
theorem LinkOk.grow (L : LinkOk c h) (hg : GGrow k h h') : LinkOk c h' := fun y hy => by
  obtain ⟨s, gs, _, _, _, rfl⟩ := hg
  obtain ⟨t, ht, r⟩ := L y hy
  exact ⟨t, List.mem_append_left _ ht, r⟩

theorem FInv.new (I : FInv c k h U) (L : LinkOk c h) (K : SOk sz f h.S) (hc : c < 12) (hg : GNew sz f h (c : Int) c (sls.getD c 0) (szs.getD c 0) (blks.getD c 0) x f' h') : FInv c k h' (U ++ [x]) := by
  obtain ⟨s, hs, at_, bo, bp, pg', k1, k2, hfr, hlow, hx, hgot, rfl⟩ := hg
  have hsl := (class_fits hc).1
  have hrun := run_next hsl (I.pages s hs) (fun p hp => (I.kind s hs p hp).2.1) hfr hlow
  have hmem := fun {t : SegR} (ht : t ∈ addPg s.pl ⟨bo, bp, (c : Int), at_, sls.getD c 0, pg'⟩ h.S) => addPg_mem K hs ht
  have hfresh : ∀ {t : SegR} {q : PageR}, t ∈ h.S → q ∈ t.P → keyOf t q ≠ keyOf s ⟨bo, bp, (c : Int), at_, sls.getD c 0, pg'⟩ := fun {t q} ht hq e => by
    have h1 := K.pag t ht q hq
    have h2 := hfr.1
    unfold keyOf at e
    have e' : ((t.pl * 16 + q.at_ : Nat) : Int) = ((s.pl * 16 + at_ : Nat) : Int) := e
    have es : t = s := pair_at (F := SegR.pl) K.pls ht hs (by omega)
    subst es
    have ea : q.at_ = at_ := by omega
    have : segT t.P at_ = true := by
      unfold segT
      rw [Bool.or_eq_true, List.any_eq_true]
      exact .inr ⟨q, hq, by simp [covers]; omega⟩
    have h3 := hfr.2 0 (by omega)
    rw [Nat.add_zero, this] at h3
    cases h3
  refine ⟨?_, fun t ht => ?_, fun t ht q hq => ?_, fun t ht q hq => ?_, fun t ht q hq hk => ?_, ?_, fun y hy => ?_⟩
  · show (addPg s.pl _ h.S).length = k
    unfold addPg
    rw [List.length_map]
    exact I.len
  · rcases hmem ht with ⟨ht, _⟩ | rfl
    · exact I.pages t ht
    · show (s.P ++ [(⟨bo, bp, (c : Int), at_, sls.getD c 0, pg'⟩ : PageR)]).map (fun q : PageR => q.at_) = (List.range (s.P ++ [(⟨bo, bp, (c : Int), at_, sls.getD c 0, pg'⟩ : PageR)]).length).map fun i => 1 + i * sls.getD c 0
      rw [List.map_append, List.length_append, I.pages s hs]
      show _ = (List.range (s.P.length + 1)).map _
      rw [List.range_succ, List.map_append]
      simp only [List.map_cons, List.map_nil]
      rw [hrun]
  · rcases hmem ht with ⟨ht, _⟩ | rfl
    · exact I.kind t ht q hq
    · rcases List.mem_append.1 hq with hq | hq
      · exact I.kind s hs q hq
      · simp only [List.mem_singleton] at hq
        subst hq
        exact ⟨rfl, rfl, hgot.ss, hgot.sn⟩
  · rw [q1_queued, q2_queued]
    have hold : ∀ {y : Int}, y ∈ h.Q1 c ∨ y ∈ h.Q2 c → y ∈ h.Q1 c ++ [((s.pl * 16 + at_ : Nat) : Int)] ∨ y ∈ h.Q2 c := fun {y} hy => hy.imp (fun h => List.mem_append_left _ h) id
    rcases hmem ht with ⟨ht, _⟩ | rfl
    · exact hold (I.keys t ht q hq)
    · rcases List.mem_append.1 hq with hq | hq
      · exact hold (I.keys s hs q hq)
      · simp only [List.mem_singleton] at hq
        subst hq
        exact .inl (by simp [keyOf])
  · rw [q2_queued] at hk
    rcases hmem ht with ⟨ht, _⟩ | rfl
    · exact I.full t ht q hq hk
    · rcases List.mem_append.1 hq with hq | hq
      · exact I.full s hs q hq hk
      · simp only [List.mem_singleton] at hq
        subst hq
        obtain ⟨t2, ht2, q2, hq2, e2⟩ := L _ (.inr hk)
        exact absurd e2.symm (hfresh ht2 hq2)
  · have := usedS_add (p := ⟨bo, bp, (c : Int), at_, sls.getD c 0, pg'⟩) K hs
    have hu := hgot.used
    rw [List.length_append, I.cnt]
    show usedS h.S + 1 = usedS (addPg s.pl _ h.S)
    rw [this]
    show _ = _ + pg'.used
    rw [hu]
    rfl
  · refine InUse.add K hs (x := x) ?_ ?_
    · obtain ⟨j, hj, e⟩ := hgot.blk
      exact ⟨j, hj, by show x = pg'.f + j * pg'.s; rw [hgot.sf, hgot.ss]; exact e, hgot.out⟩
    · rcases List.mem_append.1 hy with hy | hy
      · exact .inl (I.use y hy)
      · exact .inr (by simpa using hy)
end Go.Proofs.YtbljphaklciinaaGreat

/- HeapFull, plain: get on the invariant; the end; one given back comes again. -/
namespace Go.Proofs.YtbljphaklciinaaGreat
open Go.RowKit
variable {ro ro' : Nat → Role} {hn : Nat} {w w' : World} {B bm bb sz : Nat} {f f' : Nat → Nat} {h h' : HeapR} {S : List SegR} {c k x n k' r : Nat} {U : List Nat} {a : ArR} {W : World}

theorem FInv.got (I : FInv c k h U) (K : SOk sz f h.S) (ho : QOnce (h.Q1 c) (h.Q2 c)) (L : LinkOk c h) (hpl : ∀ s ∈ h.S, s.pl < k) (hc : c < 12) {y : Option Nat} (hg : GetR sz n k f h (c : Int) c (sls.getD c 0) (szs.getD c 0) (blks.getD c 0) y f' h' k') :
    (∃ x, y = some x ∧ FInv c k' h' (U ++ [x])) ∨ (y = none ∧ FInv c k' h' U ∧ h'.Q1 c = [] ∧ NoRoom h' (sls.getD c 0) ∧ k' = n) := by
  rcases hg with ⟨x, rfl, _, hg, rfl⟩ | ⟨h1, h2, hg⟩
  · exact .inl ⟨x, rfl, I.loc K ho hg⟩
  · rcases h2 with ⟨_, hf⟩ | ⟨h2, _⟩
    · obtain ⟨I1, hq, hS⟩ := I.fill K hf
      have K1 : SOk sz f h1.S := by rw [hS]; exact K
      have hpl1 : ∀ s ∈ h1.S, s.pl < k := by rw [hS]; exact hpl
      have L1 := L.fill hf
      rcases hg with ⟨x, rfl, hg, rfl⟩ | ⟨_, _, h2, x, rfl, hgr, hg, rfl⟩ | ⟨hno, hk, rfl, rfl, rfl, rfl⟩
      · exact .inl ⟨x, rfl, I1.new L1 K1 hc hg⟩
      · exact .inl ⟨x, rfl, (I1.grow hgr).new (L1.grow hgr) (K1.grow hpl1 hgr) hc hg⟩
      · exact .inr ⟨rfl, I1, hq, hno, hk⟩
    · omega

theorem usedP_all {P : List PageR} {N : Nat} (h : ∀ p ∈ P, p.pg.used = N) : usedP P = P.length * N := by
  unfold usedP
  induction P with
  | nil => simp
  | cons p r ih =>
    rw [List.map_cons, List.sum_cons, ih (fun q hq => h q (by simp [hq])), h p (by simp), List.length_cons, Nat.succ_mul]
    omega
theorem usedP_le {P : List PageR} {N : Nat} (h : ∀ p ∈ P, p.pg.used ≤ N) : usedP P ≤ P.length * N := by
  unfold usedP
  induction P with
  | nil => simp
  | cons p r ih =>
    have := ih (fun q hq => h q (by simp [hq]))
    have := h p (by simp)
    rw [List.map_cons, List.sum_cons, List.length_cons, Nat.succ_mul]
    omega
theorem usedS_all {M : Nat} : ∀ {S : List SegR}, (∀ s ∈ S, usedP s.P = M) → usedS S = S.length * M
  | [], _ => by simp [usedS]
  | s :: r, h => by
    have := usedS_all (S := r) (fun t ht => h t (by simp [ht]))
    have h1 := h s (by simp)
    unfold usedS at this ⊢
    rw [List.map_cons, List.sum_cons, this, h1, List.length_cons, Nat.succ_mul]
    omega
theorem usedS_le {M : Nat} : ∀ {S : List SegR}, (∀ s ∈ S, usedP s.P ≤ M) → usedS S ≤ S.length * M
  | [], _ => by simp [usedS]
  | s :: r, h => by
    have := usedS_le (S := r) (fun t ht => h t (by simp [ht]))
    have h1 := h s (by simp)
    unfold usedS at this ⊢
    rw [List.map_cons, List.sum_cons, List.length_cons, Nat.succ_mul]
    omega

theorem FInv.allfull (I : FInv c k h U) (hq : h.Q1 c = []) {s : SegR} {p : PageR} (hs : s ∈ h.S) (hp : p ∈ s.P) : p.pg.full := by
  rcases I.keys s hs p hp with h1 | h1
  · rw [hq] at h1; cases h1
  · exact I.full s hs p hp h1
theorem FInv.used_full (I : FInv c k h U) (K : SOk sz f h.S) (hq : h.Q1 c = []) {s : SegR} {p : PageR} (hs : s ∈ h.S) (hp : p ∈ s.P) : p.pg.used = blks.getD c 0 := by
  obtain ⟨e1, e2, e3⟩ := I.allfull hq hs hp
  have hu := (K.pag s hs p hp).1.us
  rw [e1, e2] at hu
  have := (I.kind s hs p hp).2.2.2
  simp at hu
  omega

theorem FInv.end_ (I : FInv c k h U) (K : SOk sz f h.S) (hc : c < 12) (hq : h.Q1 c = []) (hno : NoRoom h (sls.getD c 0)) : U.length = k * (15 / sls.getD c 0 * blks.getD c 0) := by
  rw [I.cnt, ← I.len]
  refine usedS_all fun s hs => ?_
  rw [usedP_all (fun p hp => I.used_full K hq hs hp)]
  congr 1
  exact (run_full (class_fits hc).1 (I.pages s hs) (fun p hp => (I.kind s hs p hp).2.1) (fun p hp => (K.pag s hs p hp).2.2.2)).2 (hno s hs)

theorem FInv.bound (I : FInv c k h U) (K : SOk sz f h.S) (hc : c < 12) : U.length ≤ k * 960 := by
  rw [I.cnt, ← I.len]
  refine usedS_le fun s hs => ?_
  have h64 := (blks_le hc).2
  refine Nat.le_trans (usedP_le (N := 64) fun p hp => ?_) ?_
  · have h1 := (K.pag s hs p hp).1
    have h2 := h1.us
    have h3 := h1.mn
    have h4 := (I.kind s hs p hp).2.2.2
    omega
  · have h1 := (run_full (class_fits hc).1 (I.pages s hs) (fun p hp => (I.kind s hs p hp).2.1) (fun p hp => (K.pag s hs p hp).2.2.2)).1
    have h2 := (class_fits hc).1
    have h3 : s.P.length * 1 ≤ s.P.length * sls.getD c 0 := Nat.mul_le_mul_left _ h2
    omega

/-- A block that is given back, of a page that was full, is the next one that comes. -/
theorem last_get {s : SegR} {p : PageR} {k1 k2 : Option Nat} {F : List Int} (hs : s ∈ h.S) (hp : p ∈ s.P) (hf : p.pg.full) {y : Option Nat}
    (K : SOk sz f (setPg s.pl p.at_ (p.pg.gave x) h.S)) (hg : GetR sz n k f (({ h with S := setPg s.pl p.at_ (p.pg.gave x) h.S } : HeapR).queued c [keyOf s p] F k1 k2) (c : Int) c (sls.getD c 0) (szs.getD c 0) (blks.getD c 0) y f' h' k') : y = some x := by
  have hself : ({ s with P := setPP p.at_ (p.pg.gave x) s.P } : SegR) ∈ setPg s.pl p.at_ (p.pg.gave x) h.S := mem_setPg_self hs
  have hpself : ({ p with pg := p.pg.gave x } : PageR) ∈ setPP p.at_ (p.pg.gave x) s.P := mem_setPP_self hp
  rcases hg with ⟨z, rfl, _, ⟨kk, t, ht, q, hq, pg', q1, q2, _, hkey, _, hgot, _⟩, _⟩ | ⟨h1, h2, _⟩
  · rw [q1_queued] at hkey
    have hkk := (List.getElem?_eq_some_iff.1 hkey).1
    simp at hkk
    subst hkk
    simp only [List.getElem?_cons_zero, Option.some.injEq] at hkey
    obtain ⟨_, e⟩ := K.key_inj (t := { s with P := setPP p.at_ (p.pg.gave x) s.P }) (q := { p with pg := p.pg.gave x }) ht hself hq hpself hkey.symm
    subst e
    have hgot : PgGot f sz (p.pg.gave x) f' pg' z := hgot
    have h1 := hgot.new
    obtain ⟨e1, e2, e3⟩ := hf
    rcases h1 with h1 | h1
    · have e4 : (p.pg.gave x).free ++ (p.pg.gave x).loc = [x] := by
        show p.pg.free ++ (x :: p.pg.loc) = [x]
        rw [e1, e2]
        rfl
      rw [e4] at h1
      rw [List.mem_singleton.1 h1]
    · obtain ⟨i, hi, e⟩ := hgot.blk
      have hmn := hgot.inv.mn
      have hsn : pg'.n = p.pg.n := hgot.sn
      have h16 : 16 ≤ p.pg.s := (K.pag _ hself _ hpself).1.s16
      have hh : p.pg.made * p.pg.s ≤ z - p.pg.f := h1
      have he : z = p.pg.f + i * p.pg.s := e
      have := mul_apart (s := p.pg.s) (show i < p.pg.made by omega)
      omega
  · rcases h2 with ⟨_, q1, q2, hful, _⟩ | ⟨h2, _⟩
    · rw [q1_queued] at hful
      obtain ⟨t, ht, q, hq, e, hf2⟩ := hful (keyOf s p) (by simp)
      obtain ⟨_, e⟩ := K.key_inj (t := { s with P := setPP p.at_ (p.pg.gave x) s.P }) (q := { p with pg := p.pg.gave x }) ht hself hq hpself e.symm
      subst e
      have : (x :: p.pg.loc) = [] := hf2.2.1
      cases this
    · omega
end Go.Proofs.YtbljphaklciinaaGreat
