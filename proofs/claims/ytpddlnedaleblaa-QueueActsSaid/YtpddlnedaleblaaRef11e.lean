/- The reference's Fill and Wake, walked: their one drawn region by an invariant. -/
import Derived.Test.YtpddlnedaleblaaRef11c
import Derived.Test.YtpddlnedaleblaaInv
import Derived.Great.Frames
namespace Go.Proofs.Ytpddlnedaleblaa
open Go.RowKit

def fT (m : Nat) (p1 p2 : Addr) (S1 S2 X : Value) : List (Nat × Nat × Value) :=
  [(0, 12, .pointer (some ⟨m, 0, none⟩)), (1, 13, .pointer (some ⟨m, 0, none⟩)), (2, 14, .pointer (some ⟨m, 0, none⟩)), (3, 15, .pointer (some ⟨m, 0, none⟩)), (4, 16, .pointer (some p1)), (5, 17, S1), (6, 18, X),
   (9, 21, .pointer (some ⟨m, 0, none⟩)), (10, 22, .pointer (some ⟨m, 0, none⟩)), (11, 23, .pointer (some p2)), (12, 24, S2), (14, 26, X),
   (17, 29, .pointer (some ⟨m, 0, none⟩)), (18, 30, .pointer (some p1)), (20, 31, .pointer (some ⟨m, 0, none⟩)), (21, 32, .pointer (some p2))]

/-- Two rows do not share a block. -/
def Apart (v v' : Value) : Prop := ∀ g, v.ownBlock = some g → v'.ownBlock ≠ some g

structure FU (w0 u : World) (x : Int) (G l2 : List Int) (L : Nat → Bool) (v19 v20 v25 v27 v28 : Value) : Prop where
  low : Below w0.heap.size w0 u
  c7 : L 7 = true → u.ownsRow w0.heap.size 3 1 v19 G.length (G.map (.int .i64))
  c8 : L 8 = true → L 13 = false → u.ownsRow w0.heap.size 3 1 v20 0 [] ∧ (L 7 = true → Apart v19 v20) ∧ (L 15 = true → Apart v27 v20)
  c13 : L 13 = true → L 16 = false → u.ownsRow w0.heap.size 3 1 v25 l2.length (l2.map (.int .i64)) ∧ (L 7 = true → Apart v19 v25) ∧ (L 15 = true → Apart v27 v25)
  c15 : L 15 = true → u.ownsRow w0.heap.size 3 1 v27 1 [.int .i64 x]
  c16 : L 16 = true → u.ownsRow w0.heap.size 3 1 v28 (l2 ++ [x]).length ((l2 ++ [x]).map (.int .i64))

/-- What holds wherever the region stands: L says which operations have come up. -/
structure FJ (w0 : World) (n m : Nat) (p1 p2 : Addr) (S1 S2 : Value) (x : Int) (G l2 : List Int) (L : Nat → Bool) (a : Act) (w : World) : Prop where
  sz : a.tmps.size = n
  dfs : a.defers = []
  t0 : a.eval (.tmp 0) = .pointer (some ⟨m, 0, none⟩)
  t1 : a.eval (.tmp 1) = .int .i64 x
  tab : ∀ e ∈ fT m p1 p2 S1 S2 (.int .i64 x), L e.1 = true → a.eval (.tmp e.2.1) = e.2.2
  wd : ∃ u, FU w0 u x G l2 L (a.eval (.tmp 19)) (a.eval (.tmp 20)) (a.eval (.tmp 25)) (a.eval (.tmp 27)) (a.eval (.tmp 28)) ∧
    w = (if L 22 = true then (u.setCell p1 (a.eval (.tmp 19))).setCell p2 (a.eval (.tmp 28)) else if L 19 = true then u.setCell p1 (a.eval (.tmp 19)) else u)

variable {w0 : World} {n m : Nat} {p1 p2 : Addr} {S1 S2 : Value} {x : Int} {G l2 : List Int} {L : Nat → Bool} {a : Act} {w : World}

theorem FJ.at_ (h : FJ w0 n m p1 p2 S1 S2 x G l2 L a w) (i t : Nat) (v : Value) (he : (i, t, v) ∈ fT m p1 p2 S1 S2 (.int .i64 x)) (hL : L i = true) : a.eval (.tmp t) = v := h.tab _ he hL

theorem fT_tmp {i t : Nat} {v : Value} {e : Nat × Nat × Value} {X : Value} (he : e ∈ fT m p1 p2 S1 S2 X) (hi : (i, t, v) ∈ fT m p1 p2 S1 S2 X) : (e.1 = i → e.2.1 = t) ∧ (e.2.1 = t → e.2.2 = v) := by
  simp only [fT, List.mem_cons, List.not_mem_nil, or_false, Prod.mk.injEq] at he hi
  rcases he with rfl | rfl | rfl | rfl | rfl | rfl | rfl | rfl | rfl | rfl | rfl | rfl | rfl | rfl | rfl | rfl <;>
  rcases hi with ⟨rfl, rfl, rfl⟩ | ⟨rfl, rfl, rfl⟩ | ⟨rfl, rfl, rfl⟩ | ⟨rfl, rfl, rfl⟩ | ⟨rfl, rfl, rfl⟩ | ⟨rfl, rfl, rfl⟩ | ⟨rfl, rfl, rfl⟩ | ⟨rfl, rfl, rfl⟩ | ⟨rfl, rfl, rfl⟩ | ⟨rfl, rfl, rfl⟩ | ⟨rfl, rfl, rfl⟩ | ⟨rfl, rfl, rfl⟩ | ⟨rfl, rfl, rfl⟩ | ⟨rfl, rfl, rfl⟩ | ⟨rfl, rfl, rfl⟩ | ⟨rfl, rfl, rfl⟩ <;> simp

theorem fT_dst {e : Nat × Nat × Value} {X : Value} (he : e ∈ fT m p1 p2 S1 S2 X) : e.2.1 < 33 ∧ e.1 ∉ [7, 8, 13, 15, 16, 19, 22] ∧ e.2.1 ∉ [0, 1, 19, 20, 25, 27, 28] := by
  simp only [fT, List.mem_cons, List.not_mem_nil, or_false] at he
  rcases he with rfl | rfl | rfl | rfl | rfl | rfl | rfl | rfl | rfl | rfl | rfl | rfl | rfl | rfl | rfl | rfl <;> simp

theorem FU.of_eq {u : World} {L L' : Nat → Bool} {v19 v20 v25 v27 v28 : Value} (h : FU w0 u x G l2 L v19 v20 v25 v27 v28) (e : ∀ k ∈ [7, 8, 13, 15, 16, 19, 22], L' k = L k) : FU w0 u x G l2 L' v19 v20 v25 v27 v28 := by
  have e7 := e 7 (by simp)
  have e8 := e 8 (by simp)
  have e13 := e 13 (by simp)
  have e15 := e 15 (by simp)
  have e16 := e 16 (by simp)
  refine ⟨h.low, ?_, ?_, ?_, ?_, ?_⟩
  · rw [e7]; exact h.c7
  · rw [e7, e8, e13, e15]; exact h.c8
  · rw [e7, e13, e15, e16]; exact h.c13
  · rw [e15]; exact h.c15
  · rw [e16]; exact h.c16

/-- An operation of the table. -/
theorem FJ.step (h : FJ w0 n m p1 p2 S1 S2 x G l2 L a w) (hn : 33 ≤ n) (i t : Nat) (v : Value) (he : (i, t, v) ∈ fT m p1 p2 S1 S2 (.int .i64 x)) : FJ w0 n m p1 p2 S1 S2 x G l2 (fun k => if k = i then true else L k) (a.put (some t) v) w := by
  obtain ⟨ht, hi, htn⟩ := fT_dst he
  have hk : ∀ j, j ≠ t → (a.put (some t) v).eval (.tmp j) = a.eval (.tmp j) := fun j hj => Act.eval_put_ne a t j v (Ne.symm hj)
  have hL : ∀ k ∈ [7, 8, 13, 15, 16, 19, 22], (if k = i then true else L k) = L k := fun k hk => by
    have : k ≠ i := fun e => hi (e ▸ hk)
    simp [this]
  have hne : ∀ j ∈ [0, 1, 19, 20, 25, 27, 28], j ≠ t := fun j hj e => htn (e ▸ hj)
  obtain ⟨u, hu, hw⟩ := h.wd
  refine ⟨(Act.size_put _ _ _).trans h.sz, (Act.defers_put' _ _ _).trans h.dfs, (hk 0 (hne 0 (by simp))).trans h.t0, (hk 1 (hne 1 (by simp))).trans h.t1, ?_, u, ?_, ?_⟩
  · intro e hm hl
    obtain ⟨h1, h2⟩ := fT_tmp hm he
    by_cases e1 : e.2.1 = t
    · rw [e1, h2 e1]
      exact Act.eval_put_same a t v (by rw [h.sz]; show t < n; exact Nat.lt_of_lt_of_le ht hn)
    · rw [hk _ e1]
      refine h.tab e hm ?_
      have : e.1 ≠ i := fun e2 => e1 (h1 e2)
      simpa [this] using hl
  · rw [hk 19 (hne 19 (by simp)), hk 20 (hne 20 (by simp)), hk 25 (hne 25 (by simp)), hk 27 (hne 27 (by simp)), hk 28 (hne 28 (by simp))]
    exact hu.of_eq hL
  · rw [hk 19 (hne 19 (by simp)), hk 28 (hne 28 (by simp))]
    simp only [hL 22 (by simp), hL 19 (by simp)]
    exact hw

/-- The other ones: the table stays. -/
theorem FJ.row (h : FJ w0 n m p1 p2 S1 S2 x G l2 L a w) (i t : Nat) (v : Value) (hi : i ∈ [7, 8, 13, 15, 16]) (ht : t ∈ [19, 20, 25, 27, 28]) {w' : World}
    (hw : ∃ u, FU w0 u x G l2 (fun k => if k = i then true else L k) ((a.put (some t) v).eval (.tmp 19)) ((a.put (some t) v).eval (.tmp 20)) ((a.put (some t) v).eval (.tmp 25)) ((a.put (some t) v).eval (.tmp 27)) ((a.put (some t) v).eval (.tmp 28)) ∧ w' = u) (h19 : L 19 = false) (h22 : L 22 = false) :
    FJ w0 n m p1 p2 S1 S2 x G l2 (fun k => if k = i then true else L k) (a.put (some t) v) w' := by
  have hk : ∀ j, j ≠ t → (a.put (some t) v).eval (.tmp j) = a.eval (.tmp j) := fun j hj => Act.eval_put_ne a t j v (Ne.symm hj)
  have ht0 : 0 ≠ t := by rintro rfl; simp at ht
  have ht1 : 1 ≠ t := by rintro rfl; simp at ht
  refine ⟨(Act.size_put _ _ _).trans h.sz, (Act.defers_put' _ _ _).trans h.dfs, (hk 0 ht0).trans h.t0, (hk 1 ht1).trans h.t1, ?_, ?_⟩
  · intro e hm hl
    obtain ⟨_, h1, h2⟩ := fT_dst hm
    have e1 : e.2.1 ≠ t := by rintro rfl; revert h2 ht; simp <;> omega
    have e2 : e.1 ≠ i := by rintro rfl; revert h1 hi; simp <;> omega
    rw [hk _ e1]
    exact h.tab e hm (by simpa [e2] using hl)
  · obtain ⟨u, hu, rfl⟩ := hw
    have e19 : (19 = i) = False := by simp; rintro rfl; simp at hi
    have e22 : (22 = i) = False := by simp; rintro rfl; simp at hi
    exact ⟨w', hu, by simp [e19, e22, h19, h22]⟩

theorem FJ.plain (h : FJ w0 n m p1 p2 S1 S2 x G l2 L a w) (h19 : L 19 = false) (h22 : L 22 = false) : FU w0 w x G l2 L (a.eval (.tmp 19)) (a.eval (.tmp 20)) (a.eval (.tmp 25)) (a.eval (.tmp 27)) (a.eval (.tmp 28)) := by
  obtain ⟨u, hu, rfl⟩ := h.wd
  simpa [h19, h22] using hu


theorem own_grown {u u' : World} {row : Option Nat} {N c : Nat} {v : Value} {xs : List Value} (h : u.ownsRow N 3 1 v c xs) (hg : u.grownBy u' row) (hne : ∀ g, v.ownBlock = some g → row ≠ some g) : u'.ownsRow N 3 1 v c xs := by
  refine ⟨h.1, ?_⟩
  rcases h.2 with hn | ⟨g, cap, cur, rfl, hg1, hh, r⟩
  · exact .inl hn
  · exact .inr ⟨g, cap, cur, rfl, hg1, (hg.block g (block_lt_of_blk hh) (fun e => hne g rfl e.symm)).trans hh, r⟩

theorem own_below2 {u u' : World} {N c : Nat} {v : Value} {xs : List Value} (h : u.ownsRow N 3 1 v c xs) (hb : Below u.heap.size u u') : u'.ownsRow N 3 1 v c xs := by
  refine ⟨h.1, ?_⟩
  rcases h.2 with hn | ⟨g, cap, cur, rfl, hg1, hh, r⟩
  · exact .inl hn
  · exact .inr ⟨g, cap, cur, rfl, hg1, (hb.block g (block_lt_of_blk hh)).trans hh, r⟩

theorem apart_new {u u' : World} {N c c' : Nat} {v v' : Value} {xs xs' : List Value} (h : u.ownsRow N 3 1 v c xs) (h' : u'.ownsRow u.heap.size 3 1 v' c' xs') : Apart v v' ∧ Apart v' v :=
  ⟨fun g e e' => by have := (h.lt g e).2; have := (h'.lt g e').1; omega, fun g e e' => by have := (h.lt g e').2; have := (h'.lt g e).1; omega⟩

theorem own_new0 (u : World) (N : Nat) (hN : N ≤ u.heap.size) : (u.alloc (.cells #[] 3)).ownsRow N 3 1 (.slice (some ⟨u.heap.size, 0, none⟩) 0 0) 0 [] :=
  ⟨rfl, .inr ⟨u.heap.size, 0, #[], rfl, hN, by simp [World.alloc, -World.alloc_eq], Nat.le_refl _, Nat.zero_le _, rfl, rfl⟩⟩
theorem own_new1 (u : World) (N : Nat) (x : Int) (hN : N ≤ u.heap.size) : (u.alloc (.cells #[.int .i64 x] 3)).ownsRow N 3 1 (.slice (some ⟨u.heap.size, 0, none⟩) 1 1) 1 [.int .i64 x] :=
  ⟨rfl, .inr ⟨u.heap.size, 1, #[.int .i64 x], rfl, hN, by simp [World.alloc, -World.alloc_eq], Nat.le_refl _, by simp [maxLen], rfl, rfl⟩⟩

section
variable {u u' : World} {v19 v20 v25 v27 v28 v : Value}

theorem FU.s7 (h : FU w0 u x G l2 L v19 v20 v25 v27 v28) (h13 : L 13 = false) (hb : Below u.heap.size u u') (hv : u'.ownsRow u.heap.size 3 1 v G.length (G.map (.int .i64))) :
    FU w0 u' x G l2 (fun k => if k = 7 then true else L k) v v20 v25 v27 v28 := by
  refine ⟨h.low.trans (hb.mono h.low.size), fun _ => own_more hv h.low.size, ?_, ?_, ?_, ?_⟩
  · intro h8 _
    have h8' : L 8 = true := by simpa using h8
    obtain ⟨o, a1, a2⟩ := h.c8 h8' h13
    exact ⟨own_below2 o hb, fun _ => (apart_new o hv).2, fun h15 => a2 (by simpa using h15)⟩
  · intro h13' _
    simp [h13] at h13'
  · intro h15
    exact own_below2 (h.c15 (by simpa using h15)) hb
  · intro h16
    exact own_below2 (h.c16 (by simpa using h16)) hb

theorem FU.s8 (h : FU w0 u x G l2 L v19 v20 v25 v27 v28) :
    FU w0 (u.alloc (.cells #[] 3)) x G l2 (fun k => if k = 8 then true else L k) v19 (.slice (some ⟨u.heap.size, 0, none⟩) 0 0) v25 v27 v28 := by
  have hb : Below u.heap.size u (u.alloc (.cells #[] 3)) := (Below.refl _ _).alloc (Nat.le_refl _) _
  have hn := own_new0 u u.heap.size (Nat.le_refl _)
  refine ⟨h.low.trans (hb.mono h.low.size), fun h7 => own_below2 (h.c7 (by simpa using h7)) hb, ?_, ?_, ?_, ?_⟩
  · intro _ _
    exact ⟨own_new0 u _ h.low.size, fun h7 => (apart_new (h.c7 (by simpa using h7)) hn).1, fun h15 => (apart_new (h.c15 (by simpa using h15)) hn).1⟩
  · intro h13 h16
    obtain ⟨o, a1, a2⟩ := h.c13 (by simpa using h13) (by simpa using h16)
    exact ⟨own_below2 o hb, fun h7 => a1 (by simpa using h7), fun h15 => a2 (by simpa using h15)⟩
  · intro h15
    exact own_below2 (h.c15 (by simpa using h15)) hb
  · intro h16
    exact own_below2 (h.c16 (by simpa using h16)) hb

theorem FU.s15 (h : FU w0 u x G l2 L v19 v20 v25 v27 v28) :
    FU w0 (u.alloc (.cells #[.int .i64 x] 3)) x G l2 (fun k => if k = 15 then true else L k) v19 v20 v25 (.slice (some ⟨u.heap.size, 0, none⟩) 1 1) v28 := by
  have hb : Below u.heap.size u (u.alloc (.cells #[.int .i64 x] 3)) := (Below.refl _ _).alloc (Nat.le_refl _) _
  have hn := own_new1 u u.heap.size x (Nat.le_refl _)
  refine ⟨h.low.trans (hb.mono h.low.size), fun h7 => own_below2 (h.c7 (by simpa using h7)) hb, ?_, ?_, ?_, ?_⟩
  · intro h8 h13
    obtain ⟨o, a1, a2⟩ := h.c8 (by simpa using h8) (by simpa using h13)
    exact ⟨own_below2 o hb, fun h7 => a1 (by simpa using h7), fun _ => (apart_new o hn).2⟩
  · intro h13 h16
    obtain ⟨o, a1, a2⟩ := h.c13 (by simpa using h13) (by simpa using h16)
    exact ⟨own_below2 o hb, fun h7 => a1 (by simpa using h7), fun _ => (apart_new o hn).2⟩
  · intro _
    exact own_new1 u _ x h.low.size
  · intro h16
    exact own_below2 (h.c16 (by simpa using h16)) hb

theorem FU.s13 (h : FU w0 u x G l2 L v19 v20 v25 v27 v28) (h7 : L 7 = true) (h8 : L 8 = true) (h13 : L 13 = false) (h16 : L 16 = false) (hg : u.grownBy u' v20.ownBlock)
    (hv : u'.ownsRow w0.heap.size 3 1 v l2.length (l2.map (.int .i64))) (hat : v.ownBlock = v20.ownBlock ∨ v.ownBlock = some u.heap.size) :
    FU w0 u' x G l2 (fun k => if k = 13 then true else L k) v19 v20 v v27 v28 := by
  obtain ⟨o, a1, a2⟩ := h.c8 h8 h13
  have ap : ∀ {c : Nat} {y : Value} {xs : List Value}, u.ownsRow w0.heap.size 3 1 y c xs → Apart y v20 → Apart y v := fun hy hap g e e' => by
    rcases hat with h1 | h1
    · exact hap g e (h1 ▸ e')
    · have := (hy.lt g e).2
      rw [h1] at e'
      injection e' with e'
      omega
  refine ⟨h.low.grown hg h.low.size (fun k e => (o.lt k e).1), fun _ => own_grown (h.c7 h7) hg (a1 h7), ?_, ?_, ?_, ?_⟩
  · intro _ h; simp at h
  · intro _ _
    exact ⟨hv, fun _ => ap (h.c7 h7) (a1 h7), fun h15 => ap (h.c15 (by simpa using h15)) (a2 (by simpa using h15))⟩
  · intro h15
    have h15 : L 15 = true := by simpa using h15
    exact own_grown (h.c15 h15) hg (a2 h15)
  · intro h; simp [h16] at h

theorem FU.s16 (h : FU w0 u x G l2 L v19 v20 v25 v27 v28) (h7 : L 7 = true) (h13 : L 13 = true) (h15 : L 15 = true) (h16 : L 16 = false) (hg : u.grownBy u' v25.ownBlock)
    (hv : u'.ownsRow w0.heap.size 3 1 v (l2 ++ [x]).length ((l2 ++ [x]).map (.int .i64))) :
    FU w0 u' x G l2 (fun k => if k = 16 then true else L k) v19 v20 v25 v27 v := by
  obtain ⟨o, a1, a2⟩ := h.c13 h13 h16
  refine ⟨h.low.grown hg h.low.size (fun k e => (o.lt k e).1), fun _ => own_grown (h.c7 h7) hg (a1 h7), ?_, ?_, ?_, fun _ => hv⟩
  · intro _ h; simp [h13] at h
  · intro _ h; simp at h
  · intro _
    exact own_grown (h.c15 h15) hg (a2 h15)
end

theorem wpOp_run {P : Program} {ops : Array Oper} {Q : Exit → Act → World → Prop} {i : Nat} {o : Oper} {K : Act → World → Prop} {a : Act} {w w' : World} (ho : ops[i]? = some o) (hg : o.guard = none) (v : Value)
    (hr : (execOp a.eval o).run P w = .ok (.value v) w') (h : K (a.put o.dst v) w') : wpOp P ops Q i K a w := by
  refine wpOp_at ho hg ?_
  unfold Oper.wp
  rw [hr]
  exact h

theorem wpOp_skip {P : Program} {ops : Array Oper} {Q : Exit → Act → World → Prop} {i : Nat} {o : Oper} {K : Act → World → Prop} {a : Act} {w w' : World} (ho : ops[i]? = some o) (hg : o.guard = none) (hd : o.dst = none)
    (hr : (execOp a.eval o).run P w = .ok .skip w') (h : K a w') : wpOp P ops Q i K a w := by
  refine wpOp_at ho hg ?_
  unfold Oper.wp
  rw [hr, Oper.upon_skip, hd]
  exact h
theorem wpOp_call {P : Program} {ops : Array Oper} {Q : Exit → Act → World → Prop} {i : Nat} {o : Oper} {K : Act → World → Prop} {a : Act} {w : World} {f : FuncId} {args : Array Value} (ho : ops[i]? = some o) (hg : o.guard = none)
    (hr : (execOp a.eval o).run P w = .ok (.enter f args) w) (h : Calls P f args w fun e w' => ∃ v, e = .returned v ∧ K (a.put o.dst v) w') : wpOp P ops Q i K a w := by
  refine wpOp_at ho hg ?_
  unfold Oper.wp
  rw [hr, Oper.upon_enter]
  refine h.mono ?_
  rintro e w' ⟨v, rfl, hk⟩
  exact hk

/-- The two stores. -/
theorem FJ.s19 (h : FJ w0 n m p1 p2 S1 S2 x G l2 L a w) (h22 : L 22 = false) (h19 : L 19 = false) : FJ w0 n m p1 p2 S1 S2 x G l2 (fun k => if k = 19 then true else L k) a (w.setCell p1 (a.eval (.tmp 19))) := by
  have hu := h.plain h19 h22
  refine ⟨h.sz, h.dfs, h.t0, h.t1, fun e hm hl => h.tab e hm ?_, w, ⟨hu.low, ?_, ?_, ?_, ?_, ?_⟩, by simp [h22]⟩
  · have := (fT_dst hm).2.1
    have e1 : e.1 ≠ 19 := by rintro e2; rw [e2] at this; simp at this
    simpa [e1] using hl
  · simpa using hu.c7
  · simpa using hu.c8
  · simpa using hu.c13
  · simpa using hu.c15
  · simpa using hu.c16
theorem FJ.s22 (h : FJ w0 n m p1 p2 S1 S2 x G l2 L a w) (h22 : L 22 = false) (h19 : L 19 = true) : FJ w0 n m p1 p2 S1 S2 x G l2 (fun k => if k = 22 then true else L k) a (w.setCell p2 (a.eval (.tmp 28))) := by
  obtain ⟨u, hu, rfl⟩ := h.wd
  refine ⟨h.sz, h.dfs, h.t0, h.t1, fun e hm hl => h.tab e hm ?_, u, ⟨hu.low, ?_, ?_, ?_, ?_, ?_⟩, by simp [h22, h19]⟩
  · have := (fT_dst hm).2.1
    have e1 : e.1 ≠ 22 := by rintro e2; rw [e2] at this; simp at this
    simpa [e1] using hl
  · simpa using hu.c7
  · simpa using hu.c8
  · simpa using hu.c13
  · simpa using hu.c15
  · simpa using hu.c16

/-- The one who stands in the other order. -/
theorem setCell_swap (w : World) (m : Nat) (v u : Value) : (w.setCell ⟨m, 1, none⟩ v).setCell ⟨m, 0, none⟩ u = (w.setCell ⟨m, 0, none⟩ u).setCell ⟨m, 1, none⟩ v := by
  simp only [World.setCell]
  congr 1
  apply Array.ext_getElem?
  intro k
  simp only [Array.getElem?_modify]
  by_cases h : m = k
  · subst h
    simp only [if_pos]
    cases w.heap[m]? with
    | none => rfl
    | some o =>
      simp only [Option.map_some]
      congr 1
      cases o with
      | cells c e f => simp [Array.setIfInBounds_comm]
      | _ => rfl
  · simp [h]

theorem notYet {b : Bool} (h : b = true → False) : b = false := by cases b with | false => rfl | true => exact absurd rfl h

set_option maxRecDepth 100000 in
set_option maxHeartbeats 2000000 in
theorem refFill (w : World) (m : Nat) (R F : List Int) (a1 a2 : Option Nat) (x : Int) (HO : QOnce R F) (H : RefAt w m R F a1 a2) (hR : R.length ≤ 900000) (hF : F.length ≤ 900000) :
    Calls Try.prog 56 #[.pointer (some ⟨m, 0, none⟩), .int .i64 x] w fun e w' => e = .returned (.int .i64 (fillS R F x).1) ∧ RTo w w' m a1 a2 (fillS R F x).2.1 (fillS R F x).2.2 := by
  obtain ⟨A1, c1, hc1, hr1, hA1, e1⟩ := H.r1.val
  obtain ⟨A2, c2, hc2, hr2, hA2, e2⟩ := H.r2.val
  have R1 := Lib.hid hr1
  have R2 := Lib.hid hr2
  have S1 := Lib.hid hA1
  have S2 := Lib.hid hA2
  have HH := Lib.hid H
  have hm := H.r1.m_lt
  obtain ⟨i0, hi0, hz0, hz1, hz2⟩ := info_parts info_int
  have hf1 := HH.out.r1.frz
  have hf2 := HH.out.r2.frz
  have KS : ∀ (w' : World), Below w.heap.size w w' → w'.cell? ⟨m, 0, none⟩ = some (.slice A1 R.length c1) ∧ w'.cell? ⟨m, 1, none⟩ = some (.slice A2 F.length c2) ∧ w'.frozen? ⟨m, 0, none⟩ = false ∧ w'.frozen? ⟨m, 1, none⟩ = false := fun w' hb =>
    ⟨(hb.cell (p := ⟨m, 0, none⟩) hm).trans hc1, (hb.cell (p := ⟨m, 1, none⟩) hm).trans hc2, (World.frozen?_of_block (hb.block m hm)).trans hf1, (World.frozen?_of_block (hb.block m hm)).trans hf2⟩
  have KH := Lib.hid KS
  clear KS hr1 hr2 hA1 hA2 e1 e2 H
  by_cases hx : x ∈ R
  · have HP : Hid (fillS R F x = (0, R.filter (fun y => decide (x ≠ y)), F ++ [x])) := by
      show _ = _
      rw [filter_erase HO.r]
      simp [fillS, hx]
    have hi := idx_ge hx
    clear hx
    go_enter Try.func56, Try.ntmps56
    go_wp2_with fail
    (with_reducible refine (at_ref _ _ A1 _ c1 R x R1.out (fun ad _ e => S1.out ad e) (by omega)).mono ?_)
    rintro e w1 ⟨rfl, rfl⟩
    go_wp2_with fail
    refine wp_region_any (by kernel_rfl) ?_
    refine wpAny_closed (FJ w 33 m ⟨m, 0, none⟩ ⟨m, 1, none⟩ (.slice A1 R.length c1) (.slice A2 F.length c2) x (R.filter (fun y => decide (x ≠ y))) F) (by kernel_rfl) ?_ ?_ _ _ ?_
    · intro L a u i hi hL hdep hcl hJ
      have hn : 33 ≤ 33 := Nat.le_refl _
      have hi' : i < 23 := hi
      clear hi
      obtain rfl | rfl | rfl | rfl | rfl | rfl | rfl | rfl | rfl | rfl | rfl | rfl | rfl | rfl | rfl | rfl | rfl | rfl | rfl | rfl | rfl | rfl | rfl : i = 0 ∨ i = 1 ∨ i = 2 ∨ i = 3 ∨ i = 4 ∨ i = 5 ∨ i = 6 ∨ i = 7 ∨ i = 8 ∨ i = 9 ∨ i = 10 ∨ i = 11 ∨ i = 12 ∨ i = 13 ∨ i = 14 ∨ i = 15 ∨ i = 16 ∨ i = 17 ∨ i = 18 ∨ i = 19 ∨ i = 20 ∨ i = 21 ∨ i = 22 := by omega
      · -- operation 0
        have e0 := hJ.t0
        clear hdep hcl
        refine wpOp_run (w' := u) rfl rfl (.pointer (some ⟨m, 0, none⟩)) ?_ ?_
        · show (execOp a.eval { dst := _, op := .move (.tmp 0), type := _, pos := _, after := _, guard := _ }).run _ _ = _
          simp only [execOp, e0]
          go_simp
        · refine hJ.step hn 0 12 _ ?_
          simp [fT]
      · -- operation 1
        have e0 := hJ.t0
        clear hdep hcl
        refine wpOp_run (w' := u) rfl rfl (.pointer (some ⟨m, 0, none⟩)) ?_ ?_
        · show (execOp a.eval { dst := _, op := .move (.tmp 0), type := _, pos := _, after := _, guard := _ }).run _ _ = _
          simp only [execOp, e0]
          go_simp
        · refine hJ.step hn 1 13 _ ?_
          simp [fT]
      · -- operation 2
        have e0 := hJ.t0
        clear hdep hcl
        refine wpOp_run (w' := u) rfl rfl (.pointer (some ⟨m, 0, none⟩)) ?_ ?_
        · show (execOp a.eval { dst := _, op := .move (.tmp 0), type := _, pos := _, after := _, guard := _ }).run _ _ = _
          simp only [execOp, e0]
          go_simp
        · refine hJ.step hn 2 14 _ ?_
          simp [fT]
      · -- operation 3
        have e14 := hJ.at_ 2 14 (.pointer (some ⟨m, 0, none⟩)) (by simp [fT]) (hdep 2 (by kernel_rfl))
        clear hdep hcl
        refine wpOp_run (w' := u) rfl rfl (.pointer (some ⟨m, 0, none⟩)) ?_ ?_
        · show (execOp a.eval { dst := _, op := .nilCheck (.tmp 14), type := _, pos := _, after := _, guard := _ }).run _ _ = _
          simp only [execOp, e14]
          go_simp
        · refine hJ.step hn 3 15 _ ?_
          simp [fT]
      · -- operation 4
        have e15 := hJ.at_ 3 15 (.pointer (some ⟨m, 0, none⟩)) (by simp [fT]) (hdep 3 (by kernel_rfl))
        clear hdep hcl
        refine wpOp_run (w' := u) rfl rfl (.pointer (some ⟨m, 0, none⟩)) ?_ ?_
        · show (execOp a.eval { dst := _, op := .fieldAddr 108 (.tmp 15) 0, type := _, pos := _, after := _, guard := _ }).run _ _ = _
          simp only [execOp, e15]
          go_simp
        · refine hJ.step hn 4 16 _ ?_
          simp [fT]
      · -- operation 5
        have e16 := hJ.at_ 4 16 (.pointer (some ⟨m, 0, none⟩)) (by simp [fT]) (hdep 4 (by kernel_rfl))
        have h16 : L 16 = false := notYet (fun h => by have h13 := hcl 16 13 h (by kernel_rfl); have h7 := hcl 13 7 h13 (by kernel_rfl); have := hcl 7 5 h7 (by kernel_rfl); rw [hL] at this; cases this) 
        have h19 : L 19 = false := notYet (fun h => by have := hcl 19 16 h (by kernel_rfl); rw [h16] at this; cases this)
        have h22 : L 22 = false := notYet (fun h => by have := hcl 22 19 h (by kernel_rfl); rw [h19] at this; cases this)
        obtain ⟨d1, d2, d3, d4⟩ := KH.out _ (hJ.plain h19 h22).low
        clear hdep hcl
        refine wpOp_run (w' := u) rfl rfl (.slice A1 R.length c1) ?_ ?_
        · show (execOp a.eval { dst := _, op := .load 51 (.tmp 16), type := _, pos := _, after := _, guard := _ }).run _ _ = _
          simp only [execOp, e16]
          go_simp
        · refine hJ.step hn 5 17 _ ?_
          simp [fT]
      · -- operation 6
        have e1 := hJ.t1
        clear hdep hcl
        refine wpOp_run (w' := u) rfl rfl (.int .i64 x) ?_ ?_
        · show (execOp a.eval { dst := _, op := .move (.tmp 1), type := _, pos := _, after := _, guard := _ }).run _ _ = _
          simp only [execOp, e1]
          go_simp
        · refine hJ.step hn 6 18 _ ?_
          simp [fT]
      · -- operation 7
        have h13 : L 13 = false := notYet (fun h => by have h0 := h; have h1 := hcl 13 7 h0 (by kernel_rfl); rw [hL] at h1; cases h1)
        have h16 : L 16 = false := notYet (fun h => by have h0 := h; have h1 := hcl 16 13 h0 (by kernel_rfl); have h2 := hcl 13 7 h1 (by kernel_rfl); rw [hL] at h2; cases h2)
        have h19 : L 19 = false := notYet (fun h => by have h0 := h; have h1 := hcl 19 16 h0 (by kernel_rfl); have h2 := hcl 16 13 h1 (by kernel_rfl); have h3 := hcl 13 7 h2 (by kernel_rfl); rw [hL] at h3; cases h3)
        have h22 : L 22 = false := notYet (fun h => by have h0 := h; have h1 := hcl 22 19 h0 (by kernel_rfl); have h2 := hcl 19 16 h1 (by kernel_rfl); have h3 := hcl 16 13 h2 (by kernel_rfl); have h4 := hcl 13 7 h3 (by kernel_rfl); rw [hL] at h4; cases h4)
        have g5 : L 5 = true := hdep 5 (by kernel_rfl)
        have g6 : L 6 = true := hdep 6 (by kernel_rfl)
        have e17 := hJ.at_ 5 17 (.slice A1 R.length c1) (by simp [fT]) g5
        have e18 := hJ.at_ 6 18 (.int .i64 x) (by simp [fT]) g6
        have hU := hJ.plain h19 h22
        clear hdep hcl
        refine wpOp_call (f := 78) (args := #[(.slice A1 R.length c1), .int .i64 x]) rfl rfl ?_ ?_
        · show (execOp a.eval { dst := _, op := .call { callee := .value (.func 78), args := #[.tmp 17, .tmp 18], argTypes := _ }, type := _, pos := _, after := _, guard := _ }).run _ _ = _
          simp only [execOp, resolve, List.map_toArray, List.map_cons, List.map_nil, e17, e18]
          go_simp
        · refine (without_ref u w.heap.size A1 _ c1 R x (IntRow.under R1.out hU.low) (fun ad _ e => S1.out ad e) hU.low.size (by omega)).mono ?_
          rintro e u1 ⟨v1, rfl, ho1, hb1⟩
          refine ⟨v1, rfl, hJ.row 7 19 v1 (by simp) (by simp) ⟨u1, ?_, rfl⟩ h19 h22⟩
          rw [Act.eval_put_same a 19 v1 (by rw [hJ.sz]; omega), Act.eval_put_ne a 19 20 v1 (by omega), Act.eval_put_ne a 19 25 v1 (by omega), Act.eval_put_ne a 19 27 v1 (by omega), Act.eval_put_ne a 19 28 v1 (by omega)]
          exact hU.s7 h13 hb1 ho1
      · -- operation 8
        have h13 : L 13 = false := notYet (fun h => by have h0 := h; have h1 := hcl 13 8 h0 (by kernel_rfl); rw [hL] at h1; cases h1)
        have h16 : L 16 = false := notYet (fun h => by have h0 := h; have h1 := hcl 16 13 h0 (by kernel_rfl); have h2 := hcl 13 8 h1 (by kernel_rfl); rw [hL] at h2; cases h2)
        have h19 : L 19 = false := notYet (fun h => by have h0 := h; have h1 := hcl 19 16 h0 (by kernel_rfl); have h2 := hcl 16 13 h1 (by kernel_rfl); have h3 := hcl 13 8 h2 (by kernel_rfl); rw [hL] at h3; cases h3)
        have h22 : L 22 = false := notYet (fun h => by have h0 := h; have h1 := hcl 22 19 h0 (by kernel_rfl); have h2 := hcl 19 16 h1 (by kernel_rfl); have h3 := hcl 16 13 h2 (by kernel_rfl); have h4 := hcl 13 8 h3 (by kernel_rfl); rw [hL] at h4; cases h4)
        have hU := hJ.plain h19 h22
        clear hdep hcl
        refine wpOp_run (w' := u.alloc (.cells #[] 3)) rfl rfl (.slice (some ⟨u.heap.size, 0, none⟩) 0 0) ?_ ?_
        · show (execOp a.eval { dst := _, op := .buildSlice 51 0 #[], type := _, pos := _, after := _, guard := _ }).run _ _ = _
          simp only [execOp, List.map_toArray, List.map_cons, List.map_nil]
          go_simp
        · refine hJ.row 8 20 _ (by simp) (by simp) ⟨_, ?_, rfl⟩ h19 h22
          rw [Act.eval_put_ne a 20 19 _ (by omega), Act.eval_put_same a 20 _ (by rw [hJ.sz]; omega), Act.eval_put_ne a 20 25 _ (by omega), Act.eval_put_ne a 20 27 _ (by omega), Act.eval_put_ne a 20 28 _ (by omega)]
          exact hU.s8
      · -- operation 9
        have e0 := hJ.t0
        clear hdep hcl
        refine wpOp_run (w' := u) rfl rfl (.pointer (some ⟨m, 0, none⟩)) ?_ ?_
        · show (execOp a.eval { dst := _, op := .move (.tmp 0), type := _, pos := _, after := _, guard := _ }).run _ _ = _
          simp only [execOp, e0]
          go_simp
        · refine hJ.step hn 9 21 _ ?_
          simp [fT]
      · -- operation 10
        have e21 := hJ.at_ 9 21 (.pointer (some ⟨m, 0, none⟩)) (by simp [fT]) (hdep 9 (by kernel_rfl))
        clear hdep hcl
        refine wpOp_run (w' := u) rfl rfl (.pointer (some ⟨m, 0, none⟩)) ?_ ?_
        · show (execOp a.eval { dst := _, op := .nilCheck (.tmp 21), type := _, pos := _, after := _, guard := _ }).run _ _ = _
          simp only [execOp, e21]
          go_simp
        · refine hJ.step hn 10 22 _ ?_
          simp [fT]
      · -- operation 11
        have e22 := hJ.at_ 10 22 (.pointer (some ⟨m, 0, none⟩)) (by simp [fT]) (hdep 10 (by kernel_rfl))
        clear hdep hcl
        refine wpOp_run (w' := u) rfl rfl (.pointer (some ⟨m, 1, none⟩)) ?_ ?_
        · show (execOp a.eval { dst := _, op := .fieldAddr 108 (.tmp 22) 1, type := _, pos := _, after := _, guard := _ }).run _ _ = _
          simp only [execOp, e22]
          go_simp
        · refine hJ.step hn 11 23 _ ?_
          simp [fT]
      · -- operation 12
        have e23 := hJ.at_ 11 23 (.pointer (some ⟨m, 1, none⟩)) (by simp [fT]) (hdep 11 (by kernel_rfl))
        have h16 : L 16 = false := notYet (fun h => by have h13 := hcl 16 13 h (by kernel_rfl); have := hcl 13 12 h13 (by kernel_rfl); rw [hL] at this; cases this) 
        have h19 : L 19 = false := notYet (fun h => by have := hcl 19 16 h (by kernel_rfl); rw [h16] at this; cases this)
        have h22 : L 22 = false := notYet (fun h => by have := hcl 22 19 h (by kernel_rfl); rw [h19] at this; cases this)
        obtain ⟨d1, d2, d3, d4⟩ := KH.out _ (hJ.plain h19 h22).low
        clear hdep hcl
        refine wpOp_run (w' := u) rfl rfl (.slice A2 F.length c2) ?_ ?_
        · show (execOp a.eval { dst := _, op := .load 51 (.tmp 23), type := _, pos := _, after := _, guard := _ }).run _ _ = _
          simp only [execOp, e23]
          go_simp
        · refine hJ.step hn 12 24 _ ?_
          simp [fT]
      · -- operation 13
        have h16 : L 16 = false := notYet (fun h => by have h0 := h; have h1 := hcl 16 13 h0 (by kernel_rfl); rw [hL] at h1; cases h1)
        have h19 : L 19 = false := notYet (fun h => by have h0 := h; have h1 := hcl 19 16 h0 (by kernel_rfl); have h2 := hcl 16 13 h1 (by kernel_rfl); rw [hL] at h2; cases h2)
        have h22 : L 22 = false := notYet (fun h => by have h0 := h; have h1 := hcl 22 19 h0 (by kernel_rfl); have h2 := hcl 19 16 h1 (by kernel_rfl); have h3 := hcl 16 13 h2 (by kernel_rfl); rw [hL] at h3; cases h3)
        have h13 := hL
        have g7 : L 7 = true := hdep 7 (by kernel_rfl)
        have g8 : L 8 = true := hdep 8 (by kernel_rfl)
        have g12 : L 12 = true := hdep 12 (by kernel_rfl)
        have e24 := hJ.at_ 12 24 (.slice A2 F.length c2) (by simp [fT]) g12
        have hU := hJ.plain h19 h22
        clear hdep hcl
        have R9 := IntRow.under R2.out hU.low
        refine wpOp_at rfl rfl ?_
        refine wp_append_any u (.tmp 20) (.tmp 24) 51 rfl w.heap.size 3 i0 _ 1 8 Try.underlying51 hi0 hz0 hz1 hz2 rfl (by omega) _ 0 [] rfl (hU.c8 g8 h13).1 _ _ F.length c2 (F.map (.int .i64)) e24 R9 (ints_one F) (by simp only [maxLen]; omega) (by omega) hU.low.size ?_
        intro v1 u1 hown hg hat
        refine hJ.row 13 25 v1 (by simp) (by simp) ⟨u1, ?_, rfl⟩ h19 h22
        rw [Act.eval_put_ne a 25 19 _ (by omega), Act.eval_put_ne a 25 20 _ (by omega), Act.eval_put_same a 25 _ (by rw [hJ.sz]; omega), Act.eval_put_ne a 25 27 _ (by omega), Act.eval_put_ne a 25 28 _ (by omega)]
        exact hU.s13 g7 g8 h13 h16 hg (by simpa using hown) hat
      · -- operation 14
        have e1 := hJ.t1
        clear hdep hcl
        refine wpOp_run (w' := u) rfl rfl (.int .i64 x) ?_ ?_
        · show (execOp a.eval { dst := _, op := .move (.tmp 1), type := _, pos := _, after := _, guard := _ }).run _ _ = _
          simp only [execOp, e1]
          go_simp
        · refine hJ.step hn 14 26 _ ?_
          simp [fT]
      · -- operation 15
        have h16 : L 16 = false := notYet (fun h => by have h0 := h; have h1 := hcl 16 15 h0 (by kernel_rfl); rw [hL] at h1; cases h1)
        have h19 : L 19 = false := notYet (fun h => by have h0 := h; have h1 := hcl 19 16 h0 (by kernel_rfl); have h2 := hcl 16 15 h1 (by kernel_rfl); rw [hL] at h2; cases h2)
        have h22 : L 22 = false := notYet (fun h => by have h0 := h; have h1 := hcl 22 19 h0 (by kernel_rfl); have h2 := hcl 19 16 h1 (by kernel_rfl); have h3 := hcl 16 15 h2 (by kernel_rfl); rw [hL] at h3; cases h3)
        have g14 : L 14 = true := hdep 14 (by kernel_rfl)
        have e26 := hJ.at_ 14 26 (.int .i64 x) (by simp [fT]) g14
        have hU := hJ.plain h19 h22
        clear hdep hcl
        refine wpOp_run (w' := u.alloc (.cells #[.int .i64 x] 3)) rfl rfl (.slice (some ⟨u.heap.size, 0, none⟩) 1 1) ?_ ?_
        · show (execOp a.eval { dst := _, op := .buildSlice 51 1 #[(0, .tmp 26)], type := _, pos := _, after := _, guard := _ }).run _ _ = _
          simp only [execOp, List.map_toArray, List.map_cons, List.map_nil, e26]
          go_simp
        · refine hJ.row 15 27 _ (by simp) (by simp) ⟨_, ?_, rfl⟩ h19 h22
          rw [Act.eval_put_ne a 27 19 _ (by omega), Act.eval_put_ne a 27 20 _ (by omega), Act.eval_put_ne a 27 25 _ (by omega), Act.eval_put_same a 27 _ (by rw [hJ.sz]; omega), Act.eval_put_ne a 27 28 _ (by omega)]
          exact hU.s15
      · -- operation 16
        have h19 : L 19 = false := notYet (fun h => by have h0 := h; have h1 := hcl 19 16 h0 (by kernel_rfl); rw [hL] at h1; cases h1)
        have h22 : L 22 = false := notYet (fun h => by have h0 := h; have h1 := hcl 22 19 h0 (by kernel_rfl); have h2 := hcl 19 16 h1 (by kernel_rfl); rw [hL] at h2; cases h2)
        have h16 := hL
        have g13 : L 13 = true := hdep 13 (by kernel_rfl)
        have g15 : L 15 = true := hdep 15 (by kernel_rfl)
        have g7 : L 7 = true := hcl 13 7 g13 (by kernel_rfl)
        have hU := hJ.plain h19 h22
        clear hdep hcl
        have R9 := IntRow.under R2.out hU.low
        have o9 : u.ownsRow w.heap.size 3 1 (a.eval (.tmp 27)) [x].length ([x].map (.int .i64)) := hU.c15 g15
        obtain ⟨A9, c9, e27⟩ := own_slice o9
        rw [e27] at o9
        refine wpOp_at rfl rfl ?_
        refine wp_append_any u (.tmp 25) (.tmp 27) 51 rfl w.heap.size 3 i0 _ 1 8 Try.underlying51 hi0 hz0 hz1 hz2 rfl (by omega) _ F.length (F.map (.int .i64)) rfl (hU.c13 g13 h16).1 _ _ 1 c9 [.int .i64 x] e27 (Reads.of_own o9) (fun y hy => by simp at hy; subst hy; rfl) (by simp only [maxLen]; omega) (by omega) hU.low.size ?_
        intro v1 u1 hown hg hat
        refine hJ.row 16 28 v1 (by simp) (by simp) ⟨u1, ?_, rfl⟩ h19 h22
        rw [Act.eval_put_ne a 28 19 _ (by omega), Act.eval_put_ne a 28 20 _ (by omega), Act.eval_put_ne a 28 25 _ (by omega), Act.eval_put_ne a 28 27 _ (by omega), Act.eval_put_same a 28 _ (by rw [hJ.sz]; omega)]
        exact hU.s16 g7 g13 g15 h16 hg (by simpa using hown)
      · -- operation 17
        have e12 := hJ.at_ 0 12 (.pointer (some ⟨m, 0, none⟩)) (by simp [fT]) (hdep 0 (by kernel_rfl))
        clear hdep hcl
        refine wpOp_run (w' := u) rfl rfl (.pointer (some ⟨m, 0, none⟩)) ?_ ?_
        · show (execOp a.eval { dst := _, op := .nilCheck (.tmp 12), type := _, pos := _, after := _, guard := _ }).run _ _ = _
          simp only [execOp, e12]
          go_simp
        · refine hJ.step hn 17 29 _ ?_
          simp [fT]
      · -- operation 18
        have e29 := hJ.at_ 17 29 (.pointer (some ⟨m, 0, none⟩)) (by simp [fT]) (hdep 17 (by kernel_rfl))
        clear hdep hcl
        refine wpOp_run (w' := u) rfl rfl (.pointer (some ⟨m, 0, none⟩)) ?_ ?_
        · show (execOp a.eval { dst := _, op := .fieldAddr 108 (.tmp 29) 0, type := _, pos := _, after := _, guard := _ }).run _ _ = _
          simp only [execOp, e29]
          go_simp
        · refine hJ.step hn 18 30 _ ?_
          simp [fT]
      · -- operation 19
        have h22 : L 22 = false := notYet (fun h => by have h0 := h; have h1 := hcl 22 19 h0 (by kernel_rfl); rw [hL] at h1; cases h1)
        have h19 := hL
        have g18 : L 18 = true := hdep 18 (by kernel_rfl)
        have g7 : L 7 = true := hdep 7 (by kernel_rfl)
        have e30 := hJ.at_ 18 30 (.pointer (some ⟨m, 0, none⟩)) (by simp [fT]) g18
        have hU := hJ.plain h19 h22
        obtain ⟨d1, d2, d3, d4⟩ := KH.out _ hU.low
        clear hdep hcl
        refine wpOp_skip (w' := u.setCell ⟨m, 0, none⟩ (a.eval (.tmp 19))) rfl rfl rfl ?_ (hJ.s19 h22 h19)
        show (execOp a.eval { dst := _, op := .store 51 (.tmp 30) (.tmp 19), type := _, pos := _, after := _, guard := _ }).run _ _ = _
        obtain ⟨A3, c3, e19⟩ := own_slice (hU.c7 g7)
        simp only [execOp, e30, e19]
        go_simp
      · -- operation 20
        have e13 := hJ.at_ 1 13 (.pointer (some ⟨m, 0, none⟩)) (by simp [fT]) (hdep 1 (by kernel_rfl))
        clear hdep hcl
        refine wpOp_run (w' := u) rfl rfl (.pointer (some ⟨m, 0, none⟩)) ?_ ?_
        · show (execOp a.eval { dst := _, op := .nilCheck (.tmp 13), type := _, pos := _, after := _, guard := _ }).run _ _ = _
          simp only [execOp, e13]
          go_simp
        · refine hJ.step hn 20 31 _ ?_
          simp [fT]
      · -- operation 21
        have e31 := hJ.at_ 20 31 (.pointer (some ⟨m, 0, none⟩)) (by simp [fT]) (hdep 20 (by kernel_rfl))
        clear hdep hcl
        refine wpOp_run (w' := u) rfl rfl (.pointer (some ⟨m, 1, none⟩)) ?_ ?_
        · show (execOp a.eval { dst := _, op := .fieldAddr 108 (.tmp 31) 1, type := _, pos := _, after := _, guard := _ }).run _ _ = _
          simp only [execOp, e31]
          go_simp
        · refine hJ.step hn 21 32 _ ?_
          simp [fT]
      · -- operation 22
        have g21 : L 21 = true := hdep 21 (by kernel_rfl)
        have g19 : L 19 = true := hdep 19 (by kernel_rfl)
        have g16 : L 16 = true := hdep 16 (by kernel_rfl)
        have e32 := hJ.at_ 21 32 (.pointer (some ⟨m, 1, none⟩)) (by simp [fT]) g21
        obtain ⟨u0, hU, hw⟩ := hJ.wd
        have hw1 : u = u0.setCell ⟨m, 0, none⟩ (a.eval (.tmp 19)) := by simpa [hL, g19] using hw
        obtain ⟨d1, d2, d3, d4⟩ := KH.out _ hU.low
        clear hdep hcl
        refine wpOp_skip (w' := u.setCell ⟨m, 1, none⟩ (a.eval (.tmp 28))) rfl rfl rfl ?_ (hJ.s22 hL g19)
        show (execOp a.eval { dst := _, op := .store 51 (.tmp 32) (.tmp 28), type := _, pos := _, after := _, guard := _ }).run _ _ = _
        obtain ⟨A3, c3, e28⟩ := own_slice (hU.c16 g16)
        simp only [execOp, e32, e28]
        rw [hw1]
        generalize a.eval (.tmp 19) = v19
        go_simp
    · intro L a u hall hJ
      have h19 := hall 19 (by show 19 < 23; omega)
      have h22 := hall 22 (by show 22 < 23; omega)
      have h7 := hall 7 (by show 7 < 23; omega)
      have h16 := hall 16 (by show 16 < 23; omega)
      clear hall
      have hd := hJ.dfs
      obtain ⟨u0, hU, hw⟩ := hJ.wd
      simp only [h22, if_true] at hw
      have B1 := Lib.hid hU.low
      have o1 := Lib.hid (hU.c7 h7)
      have o2 := Lib.hid (hU.c16 h16)
      have hsz := hJ.sz
      clear hU hJ h19 h22 h7 h16
      generalize a.eval (.tmp 19) = v19 at hw o1
      generalize a.eval (.tmp 28) = v28 at hw o2
      subst hw
      go_wp2_with fail
      refine bodyPost_ret (v := .int .i64 0) (by simp [results, Try.results56, go_sem, hsz]) rfl ?_
      rw [HP.out]
      exact ⟨rfl, RTo.put2 HH.out B1.out o1.out o2.out⟩
    · exact ⟨rfl, rfl, rfl, rfl, fun _ _ h => absurd h (by simp), w.drew, ⟨(Below.refl _ _).drew, fun h => absurd h (by simp), fun h => absurd h (by simp), fun h => absurd h (by simp), fun h => absurd h (by simp), fun h => absurd h (by simp)⟩, by simp⟩
  · have hi := idx_neg.2 hx
    have HP : Hid (fillS R F x = (5, R, F)) := by show _ = _; simp [fillS, hx]
    clear hx
    go_enter Try.func56, Try.ntmps56
    go_wp2_with fail
    (with_reducible refine (at_ref _ _ A1 _ c1 R x R1.out (fun ad _ e => S1.out ad e) (by omega)).mono ?_)
    rintro e w1 ⟨rfl, rfl⟩
    go_wp2_with fail
    go_wp2_with fail
    all_goals go_ret
    all_goals rw [HP.out]
    all_goals exact ⟨rfl, RTo.of_below HH.out (Below.refl _ _)⟩

set_option maxRecDepth 100000 in
set_option maxHeartbeats 2000000 in
theorem refWake (w : World) (m : Nat) (R F : List Int) (a1 a2 : Option Nat) (x : Int) (HO : QOnce R F) (H : RefAt w m R F a1 a2) (hR : R.length ≤ 900000) (hF : F.length ≤ 900000) :
    Calls Try.prog 57 #[.pointer (some ⟨m, 0, none⟩), .int .i64 x] w fun e w' => e = .returned (.int .i64 (wakeS R F x).1) ∧ RTo w w' m a1 a2 (wakeS R F x).2.1 (wakeS R F x).2.2 := by
  obtain ⟨A1, c1, hc1, hr1, hA1, e1⟩ := H.r1.val
  obtain ⟨A2, c2, hc2, hr2, hA2, e2⟩ := H.r2.val
  have R1 := Lib.hid hr1
  have R2 := Lib.hid hr2
  have S1 := Lib.hid hA1
  have S2 := Lib.hid hA2
  have HH := Lib.hid H
  have hm := H.r1.m_lt
  obtain ⟨i0, hi0, hz0, hz1, hz2⟩ := info_parts info_int
  have hf1 := HH.out.r1.frz
  have hf2 := HH.out.r2.frz
  have KS : ∀ (w' : World), Below w.heap.size w w' → w'.cell? ⟨m, 0, none⟩ = some (.slice A1 R.length c1) ∧ w'.cell? ⟨m, 1, none⟩ = some (.slice A2 F.length c2) ∧ w'.frozen? ⟨m, 0, none⟩ = false ∧ w'.frozen? ⟨m, 1, none⟩ = false := fun w' hb =>
    ⟨(hb.cell (p := ⟨m, 0, none⟩) hm).trans hc1, (hb.cell (p := ⟨m, 1, none⟩) hm).trans hc2, (World.frozen?_of_block (hb.block m hm)).trans hf1, (World.frozen?_of_block (hb.block m hm)).trans hf2⟩
  have KH := Lib.hid KS
  clear KS hr1 hr2 hA1 hA2 e1 e2 H
  by_cases hx : x ∈ F
  · have HP : Hid (wakeS R F x = (0, R ++ [x], F.filter (fun y => decide (x ≠ y)))) := by
      show _ = _
      rw [filter_erase HO.f]
      simp [wakeS, hx]
    have hi := idx_ge hx
    clear hx
    go_enter Try.func57, Try.ntmps57
    go_wp2_with fail
    (with_reducible refine (at_ref _ _ A2 _ c2 F x R2.out (fun ad _ e => S2.out ad e) (by omega)).mono ?_)
    rintro e w1 ⟨rfl, rfl⟩
    go_wp2_with fail
    refine wp_region_any (by kernel_rfl) ?_
    refine wpAny_closed (FJ w 33 m ⟨m, 1, none⟩ ⟨m, 0, none⟩ (.slice A2 F.length c2) (.slice A1 R.length c1) x (F.filter (fun y => decide (x ≠ y))) R) (by kernel_rfl) ?_ ?_ _ _ ?_
    · intro L a u i hi hL hdep hcl hJ
      have hn : 33 ≤ 33 := Nat.le_refl _
      have hi' : i < 23 := hi
      clear hi
      obtain rfl | rfl | rfl | rfl | rfl | rfl | rfl | rfl | rfl | rfl | rfl | rfl | rfl | rfl | rfl | rfl | rfl | rfl | rfl | rfl | rfl | rfl | rfl : i = 0 ∨ i = 1 ∨ i = 2 ∨ i = 3 ∨ i = 4 ∨ i = 5 ∨ i = 6 ∨ i = 7 ∨ i = 8 ∨ i = 9 ∨ i = 10 ∨ i = 11 ∨ i = 12 ∨ i = 13 ∨ i = 14 ∨ i = 15 ∨ i = 16 ∨ i = 17 ∨ i = 18 ∨ i = 19 ∨ i = 20 ∨ i = 21 ∨ i = 22 := by omega
      · -- operation 0
        have e0 := hJ.t0
        clear hdep hcl
        refine wpOp_run (w' := u) rfl rfl (.pointer (some ⟨m, 0, none⟩)) ?_ ?_
        · show (execOp a.eval { dst := _, op := .move (.tmp 0), type := _, pos := _, after := _, guard := _ }).run _ _ = _
          simp only [execOp, e0]
          go_simp
        · refine hJ.step hn 0 12 _ ?_
          simp [fT]
      · -- operation 1
        have e0 := hJ.t0
        clear hdep hcl
        refine wpOp_run (w' := u) rfl rfl (.pointer (some ⟨m, 0, none⟩)) ?_ ?_
        · show (execOp a.eval { dst := _, op := .move (.tmp 0), type := _, pos := _, after := _, guard := _ }).run _ _ = _
          simp only [execOp, e0]
          go_simp
        · refine hJ.step hn 1 13 _ ?_
          simp [fT]
      · -- operation 2
        have e0 := hJ.t0
        clear hdep hcl
        refine wpOp_run (w' := u) rfl rfl (.pointer (some ⟨m, 0, none⟩)) ?_ ?_
        · show (execOp a.eval { dst := _, op := .move (.tmp 0), type := _, pos := _, after := _, guard := _ }).run _ _ = _
          simp only [execOp, e0]
          go_simp
        · refine hJ.step hn 2 14 _ ?_
          simp [fT]
      · -- operation 3
        have e14 := hJ.at_ 2 14 (.pointer (some ⟨m, 0, none⟩)) (by simp [fT]) (hdep 2 (by kernel_rfl))
        clear hdep hcl
        refine wpOp_run (w' := u) rfl rfl (.pointer (some ⟨m, 0, none⟩)) ?_ ?_
        · show (execOp a.eval { dst := _, op := .nilCheck (.tmp 14), type := _, pos := _, after := _, guard := _ }).run _ _ = _
          simp only [execOp, e14]
          go_simp
        · refine hJ.step hn 3 15 _ ?_
          simp [fT]
      · -- operation 4
        have e15 := hJ.at_ 3 15 (.pointer (some ⟨m, 0, none⟩)) (by simp [fT]) (hdep 3 (by kernel_rfl))
        clear hdep hcl
        refine wpOp_run (w' := u) rfl rfl (.pointer (some ⟨m, 1, none⟩)) ?_ ?_
        · show (execOp a.eval { dst := _, op := .fieldAddr 108 (.tmp 15) 1, type := _, pos := _, after := _, guard := _ }).run _ _ = _
          simp only [execOp, e15]
          go_simp
        · refine hJ.step hn 4 16 _ ?_
          simp [fT]
      · -- operation 5
        have e16 := hJ.at_ 4 16 (.pointer (some ⟨m, 1, none⟩)) (by simp [fT]) (hdep 4 (by kernel_rfl))
        have h16 : L 16 = false := notYet (fun h => by have h13 := hcl 16 13 h (by kernel_rfl); have h7 := hcl 13 7 h13 (by kernel_rfl); have := hcl 7 5 h7 (by kernel_rfl); rw [hL] at this; cases this) 
        have h19 : L 19 = false := notYet (fun h => by have := hcl 19 16 h (by kernel_rfl); rw [h16] at this; cases this)
        have h22 : L 22 = false := notYet (fun h => by have := hcl 22 19 h (by kernel_rfl); rw [h19] at this; cases this)
        obtain ⟨d1, d2, d3, d4⟩ := KH.out _ (hJ.plain h19 h22).low
        clear hdep hcl
        refine wpOp_run (w' := u) rfl rfl (.slice A2 F.length c2) ?_ ?_
        · show (execOp a.eval { dst := _, op := .load 51 (.tmp 16), type := _, pos := _, after := _, guard := _ }).run _ _ = _
          simp only [execOp, e16]
          go_simp
        · refine hJ.step hn 5 17 _ ?_
          simp [fT]
      · -- operation 6
        have e1 := hJ.t1
        clear hdep hcl
        refine wpOp_run (w' := u) rfl rfl (.int .i64 x) ?_ ?_
        · show (execOp a.eval { dst := _, op := .move (.tmp 1), type := _, pos := _, after := _, guard := _ }).run _ _ = _
          simp only [execOp, e1]
          go_simp
        · refine hJ.step hn 6 18 _ ?_
          simp [fT]
      · -- operation 7
        have h13 : L 13 = false := notYet (fun h => by have h0 := h; have h1 := hcl 13 7 h0 (by kernel_rfl); rw [hL] at h1; cases h1)
        have h16 : L 16 = false := notYet (fun h => by have h0 := h; have h1 := hcl 16 13 h0 (by kernel_rfl); have h2 := hcl 13 7 h1 (by kernel_rfl); rw [hL] at h2; cases h2)
        have h19 : L 19 = false := notYet (fun h => by have h0 := h; have h1 := hcl 19 16 h0 (by kernel_rfl); have h2 := hcl 16 13 h1 (by kernel_rfl); have h3 := hcl 13 7 h2 (by kernel_rfl); rw [hL] at h3; cases h3)
        have h22 : L 22 = false := notYet (fun h => by have h0 := h; have h1 := hcl 22 19 h0 (by kernel_rfl); have h2 := hcl 19 16 h1 (by kernel_rfl); have h3 := hcl 16 13 h2 (by kernel_rfl); have h4 := hcl 13 7 h3 (by kernel_rfl); rw [hL] at h4; cases h4)
        have g5 : L 5 = true := hdep 5 (by kernel_rfl)
        have g6 : L 6 = true := hdep 6 (by kernel_rfl)
        have e17 := hJ.at_ 5 17 (.slice A2 F.length c2) (by simp [fT]) g5
        have e18 := hJ.at_ 6 18 (.int .i64 x) (by simp [fT]) g6
        have hU := hJ.plain h19 h22
        clear hdep hcl
        refine wpOp_call (f := 78) (args := #[(.slice A2 F.length c2), .int .i64 x]) rfl rfl ?_ ?_
        · show (execOp a.eval { dst := _, op := .call { callee := .value (.func 78), args := #[.tmp 17, .tmp 18], argTypes := _ }, type := _, pos := _, after := _, guard := _ }).run _ _ = _
          simp only [execOp, resolve, List.map_toArray, List.map_cons, List.map_nil, e17, e18]
          go_simp
        · refine (without_ref u w.heap.size A2 _ c2 F x (IntRow.under R2.out hU.low) (fun ad _ e => S2.out ad e) hU.low.size (by omega)).mono ?_
          rintro e u1 ⟨v1, rfl, ho1, hb1⟩
          refine ⟨v1, rfl, hJ.row 7 19 v1 (by simp) (by simp) ⟨u1, ?_, rfl⟩ h19 h22⟩
          rw [Act.eval_put_same a 19 v1 (by rw [hJ.sz]; omega), Act.eval_put_ne a 19 20 v1 (by omega), Act.eval_put_ne a 19 25 v1 (by omega), Act.eval_put_ne a 19 27 v1 (by omega), Act.eval_put_ne a 19 28 v1 (by omega)]
          exact hU.s7 h13 hb1 ho1
      · -- operation 8
        have h13 : L 13 = false := notYet (fun h => by have h0 := h; have h1 := hcl 13 8 h0 (by kernel_rfl); rw [hL] at h1; cases h1)
        have h16 : L 16 = false := notYet (fun h => by have h0 := h; have h1 := hcl 16 13 h0 (by kernel_rfl); have h2 := hcl 13 8 h1 (by kernel_rfl); rw [hL] at h2; cases h2)
        have h19 : L 19 = false := notYet (fun h => by have h0 := h; have h1 := hcl 19 16 h0 (by kernel_rfl); have h2 := hcl 16 13 h1 (by kernel_rfl); have h3 := hcl 13 8 h2 (by kernel_rfl); rw [hL] at h3; cases h3)
        have h22 : L 22 = false := notYet (fun h => by have h0 := h; have h1 := hcl 22 19 h0 (by kernel_rfl); have h2 := hcl 19 16 h1 (by kernel_rfl); have h3 := hcl 16 13 h2 (by kernel_rfl); have h4 := hcl 13 8 h3 (by kernel_rfl); rw [hL] at h4; cases h4)
        have hU := hJ.plain h19 h22
        clear hdep hcl
        refine wpOp_run (w' := u.alloc (.cells #[] 3)) rfl rfl (.slice (some ⟨u.heap.size, 0, none⟩) 0 0) ?_ ?_
        · show (execOp a.eval { dst := _, op := .buildSlice 51 0 #[], type := _, pos := _, after := _, guard := _ }).run _ _ = _
          simp only [execOp, List.map_toArray, List.map_cons, List.map_nil]
          go_simp
        · refine hJ.row 8 20 _ (by simp) (by simp) ⟨_, ?_, rfl⟩ h19 h22
          rw [Act.eval_put_ne a 20 19 _ (by omega), Act.eval_put_same a 20 _ (by rw [hJ.sz]; omega), Act.eval_put_ne a 20 25 _ (by omega), Act.eval_put_ne a 20 27 _ (by omega), Act.eval_put_ne a 20 28 _ (by omega)]
          exact hU.s8
      · -- operation 9
        have e0 := hJ.t0
        clear hdep hcl
        refine wpOp_run (w' := u) rfl rfl (.pointer (some ⟨m, 0, none⟩)) ?_ ?_
        · show (execOp a.eval { dst := _, op := .move (.tmp 0), type := _, pos := _, after := _, guard := _ }).run _ _ = _
          simp only [execOp, e0]
          go_simp
        · refine hJ.step hn 9 21 _ ?_
          simp [fT]
      · -- operation 10
        have e21 := hJ.at_ 9 21 (.pointer (some ⟨m, 0, none⟩)) (by simp [fT]) (hdep 9 (by kernel_rfl))
        clear hdep hcl
        refine wpOp_run (w' := u) rfl rfl (.pointer (some ⟨m, 0, none⟩)) ?_ ?_
        · show (execOp a.eval { dst := _, op := .nilCheck (.tmp 21), type := _, pos := _, after := _, guard := _ }).run _ _ = _
          simp only [execOp, e21]
          go_simp
        · refine hJ.step hn 10 22 _ ?_
          simp [fT]
      · -- operation 11
        have e22 := hJ.at_ 10 22 (.pointer (some ⟨m, 0, none⟩)) (by simp [fT]) (hdep 10 (by kernel_rfl))
        clear hdep hcl
        refine wpOp_run (w' := u) rfl rfl (.pointer (some ⟨m, 0, none⟩)) ?_ ?_
        · show (execOp a.eval { dst := _, op := .fieldAddr 108 (.tmp 22) 0, type := _, pos := _, after := _, guard := _ }).run _ _ = _
          simp only [execOp, e22]
          go_simp
        · refine hJ.step hn 11 23 _ ?_
          simp [fT]
      · -- operation 12
        have e23 := hJ.at_ 11 23 (.pointer (some ⟨m, 0, none⟩)) (by simp [fT]) (hdep 11 (by kernel_rfl))
        have h16 : L 16 = false := notYet (fun h => by have h13 := hcl 16 13 h (by kernel_rfl); have := hcl 13 12 h13 (by kernel_rfl); rw [hL] at this; cases this) 
        have h19 : L 19 = false := notYet (fun h => by have := hcl 19 16 h (by kernel_rfl); rw [h16] at this; cases this)
        have h22 : L 22 = false := notYet (fun h => by have := hcl 22 19 h (by kernel_rfl); rw [h19] at this; cases this)
        obtain ⟨d1, d2, d3, d4⟩ := KH.out _ (hJ.plain h19 h22).low
        clear hdep hcl
        refine wpOp_run (w' := u) rfl rfl (.slice A1 R.length c1) ?_ ?_
        · show (execOp a.eval { dst := _, op := .load 51 (.tmp 23), type := _, pos := _, after := _, guard := _ }).run _ _ = _
          simp only [execOp, e23]
          go_simp
        · refine hJ.step hn 12 24 _ ?_
          simp [fT]
      · -- operation 13
        have h16 : L 16 = false := notYet (fun h => by have h0 := h; have h1 := hcl 16 13 h0 (by kernel_rfl); rw [hL] at h1; cases h1)
        have h19 : L 19 = false := notYet (fun h => by have h0 := h; have h1 := hcl 19 16 h0 (by kernel_rfl); have h2 := hcl 16 13 h1 (by kernel_rfl); rw [hL] at h2; cases h2)
        have h22 : L 22 = false := notYet (fun h => by have h0 := h; have h1 := hcl 22 19 h0 (by kernel_rfl); have h2 := hcl 19 16 h1 (by kernel_rfl); have h3 := hcl 16 13 h2 (by kernel_rfl); rw [hL] at h3; cases h3)
        have h13 := hL
        have g7 : L 7 = true := hdep 7 (by kernel_rfl)
        have g8 : L 8 = true := hdep 8 (by kernel_rfl)
        have g12 : L 12 = true := hdep 12 (by kernel_rfl)
        have e24 := hJ.at_ 12 24 (.slice A1 R.length c1) (by simp [fT]) g12
        have hU := hJ.plain h19 h22
        clear hdep hcl
        have R9 := IntRow.under R1.out hU.low
        refine wpOp_at rfl rfl ?_
        refine wp_append_any u (.tmp 20) (.tmp 24) 51 rfl w.heap.size 3 i0 _ 1 8 Try.underlying51 hi0 hz0 hz1 hz2 rfl (by omega) _ 0 [] rfl (hU.c8 g8 h13).1 _ _ R.length c1 (R.map (.int .i64)) e24 R9 (ints_one R) (by simp only [maxLen]; omega) (by omega) hU.low.size ?_
        intro v1 u1 hown hg hat
        refine hJ.row 13 25 v1 (by simp) (by simp) ⟨u1, ?_, rfl⟩ h19 h22
        rw [Act.eval_put_ne a 25 19 _ (by omega), Act.eval_put_ne a 25 20 _ (by omega), Act.eval_put_same a 25 _ (by rw [hJ.sz]; omega), Act.eval_put_ne a 25 27 _ (by omega), Act.eval_put_ne a 25 28 _ (by omega)]
        exact hU.s13 g7 g8 h13 h16 hg (by simpa using hown) hat
      · -- operation 14
        have e1 := hJ.t1
        clear hdep hcl
        refine wpOp_run (w' := u) rfl rfl (.int .i64 x) ?_ ?_
        · show (execOp a.eval { dst := _, op := .move (.tmp 1), type := _, pos := _, after := _, guard := _ }).run _ _ = _
          simp only [execOp, e1]
          go_simp
        · refine hJ.step hn 14 26 _ ?_
          simp [fT]
      · -- operation 15
        have h16 : L 16 = false := notYet (fun h => by have h0 := h; have h1 := hcl 16 15 h0 (by kernel_rfl); rw [hL] at h1; cases h1)
        have h19 : L 19 = false := notYet (fun h => by have h0 := h; have h1 := hcl 19 16 h0 (by kernel_rfl); have h2 := hcl 16 15 h1 (by kernel_rfl); rw [hL] at h2; cases h2)
        have h22 : L 22 = false := notYet (fun h => by have h0 := h; have h1 := hcl 22 19 h0 (by kernel_rfl); have h2 := hcl 19 16 h1 (by kernel_rfl); have h3 := hcl 16 15 h2 (by kernel_rfl); rw [hL] at h3; cases h3)
        have g14 : L 14 = true := hdep 14 (by kernel_rfl)
        have e26 := hJ.at_ 14 26 (.int .i64 x) (by simp [fT]) g14
        have hU := hJ.plain h19 h22
        clear hdep hcl
        refine wpOp_run (w' := u.alloc (.cells #[.int .i64 x] 3)) rfl rfl (.slice (some ⟨u.heap.size, 0, none⟩) 1 1) ?_ ?_
        · show (execOp a.eval { dst := _, op := .buildSlice 51 1 #[(0, .tmp 26)], type := _, pos := _, after := _, guard := _ }).run _ _ = _
          simp only [execOp, List.map_toArray, List.map_cons, List.map_nil, e26]
          go_simp
        · refine hJ.row 15 27 _ (by simp) (by simp) ⟨_, ?_, rfl⟩ h19 h22
          rw [Act.eval_put_ne a 27 19 _ (by omega), Act.eval_put_ne a 27 20 _ (by omega), Act.eval_put_ne a 27 25 _ (by omega), Act.eval_put_same a 27 _ (by rw [hJ.sz]; omega), Act.eval_put_ne a 27 28 _ (by omega)]
          exact hU.s15
      · -- operation 16
        have h19 : L 19 = false := notYet (fun h => by have h0 := h; have h1 := hcl 19 16 h0 (by kernel_rfl); rw [hL] at h1; cases h1)
        have h22 : L 22 = false := notYet (fun h => by have h0 := h; have h1 := hcl 22 19 h0 (by kernel_rfl); have h2 := hcl 19 16 h1 (by kernel_rfl); rw [hL] at h2; cases h2)
        have h16 := hL
        have g13 : L 13 = true := hdep 13 (by kernel_rfl)
        have g15 : L 15 = true := hdep 15 (by kernel_rfl)
        have g7 : L 7 = true := hcl 13 7 g13 (by kernel_rfl)
        have hU := hJ.plain h19 h22
        clear hdep hcl
        have R9 := IntRow.under R1.out hU.low
        have o9 : u.ownsRow w.heap.size 3 1 (a.eval (.tmp 27)) [x].length ([x].map (.int .i64)) := hU.c15 g15
        obtain ⟨A9, c9, e27⟩ := own_slice o9
        rw [e27] at o9
        refine wpOp_at rfl rfl ?_
        refine wp_append_any u (.tmp 25) (.tmp 27) 51 rfl w.heap.size 3 i0 _ 1 8 Try.underlying51 hi0 hz0 hz1 hz2 rfl (by omega) _ R.length (R.map (.int .i64)) rfl (hU.c13 g13 h16).1 _ _ 1 c9 [.int .i64 x] e27 (Reads.of_own o9) (fun y hy => by simp at hy; subst hy; rfl) (by simp only [maxLen]; omega) (by omega) hU.low.size ?_
        intro v1 u1 hown hg hat
        refine hJ.row 16 28 v1 (by simp) (by simp) ⟨u1, ?_, rfl⟩ h19 h22
        rw [Act.eval_put_ne a 28 19 _ (by omega), Act.eval_put_ne a 28 20 _ (by omega), Act.eval_put_ne a 28 25 _ (by omega), Act.eval_put_ne a 28 27 _ (by omega), Act.eval_put_same a 28 _ (by rw [hJ.sz]; omega)]
        exact hU.s16 g7 g13 g15 h16 hg (by simpa using hown)
      · -- operation 17
        have e12 := hJ.at_ 0 12 (.pointer (some ⟨m, 0, none⟩)) (by simp [fT]) (hdep 0 (by kernel_rfl))
        clear hdep hcl
        refine wpOp_run (w' := u) rfl rfl (.pointer (some ⟨m, 0, none⟩)) ?_ ?_
        · show (execOp a.eval { dst := _, op := .nilCheck (.tmp 12), type := _, pos := _, after := _, guard := _ }).run _ _ = _
          simp only [execOp, e12]
          go_simp
        · refine hJ.step hn 17 29 _ ?_
          simp [fT]
      · -- operation 18
        have e29 := hJ.at_ 17 29 (.pointer (some ⟨m, 0, none⟩)) (by simp [fT]) (hdep 17 (by kernel_rfl))
        clear hdep hcl
        refine wpOp_run (w' := u) rfl rfl (.pointer (some ⟨m, 1, none⟩)) ?_ ?_
        · show (execOp a.eval { dst := _, op := .fieldAddr 108 (.tmp 29) 1, type := _, pos := _, after := _, guard := _ }).run _ _ = _
          simp only [execOp, e29]
          go_simp
        · refine hJ.step hn 18 30 _ ?_
          simp [fT]
      · -- operation 19
        have h22 : L 22 = false := notYet (fun h => by have h0 := h; have h1 := hcl 22 19 h0 (by kernel_rfl); rw [hL] at h1; cases h1)
        have h19 := hL
        have g18 : L 18 = true := hdep 18 (by kernel_rfl)
        have g7 : L 7 = true := hdep 7 (by kernel_rfl)
        have e30 := hJ.at_ 18 30 (.pointer (some ⟨m, 1, none⟩)) (by simp [fT]) g18
        have hU := hJ.plain h19 h22
        obtain ⟨d1, d2, d3, d4⟩ := KH.out _ hU.low
        clear hdep hcl
        refine wpOp_skip (w' := u.setCell ⟨m, 1, none⟩ (a.eval (.tmp 19))) rfl rfl rfl ?_ (hJ.s19 h22 h19)
        show (execOp a.eval { dst := _, op := .store 51 (.tmp 30) (.tmp 19), type := _, pos := _, after := _, guard := _ }).run _ _ = _
        obtain ⟨A3, c3, e19⟩ := own_slice (hU.c7 g7)
        simp only [execOp, e30, e19]
        go_simp
      · -- operation 20
        have e13 := hJ.at_ 1 13 (.pointer (some ⟨m, 0, none⟩)) (by simp [fT]) (hdep 1 (by kernel_rfl))
        clear hdep hcl
        refine wpOp_run (w' := u) rfl rfl (.pointer (some ⟨m, 0, none⟩)) ?_ ?_
        · show (execOp a.eval { dst := _, op := .nilCheck (.tmp 13), type := _, pos := _, after := _, guard := _ }).run _ _ = _
          simp only [execOp, e13]
          go_simp
        · refine hJ.step hn 20 31 _ ?_
          simp [fT]
      · -- operation 21
        have e31 := hJ.at_ 20 31 (.pointer (some ⟨m, 0, none⟩)) (by simp [fT]) (hdep 20 (by kernel_rfl))
        clear hdep hcl
        refine wpOp_run (w' := u) rfl rfl (.pointer (some ⟨m, 0, none⟩)) ?_ ?_
        · show (execOp a.eval { dst := _, op := .fieldAddr 108 (.tmp 31) 0, type := _, pos := _, after := _, guard := _ }).run _ _ = _
          simp only [execOp, e31]
          go_simp
        · refine hJ.step hn 21 32 _ ?_
          simp [fT]
      · -- operation 22
        have g21 : L 21 = true := hdep 21 (by kernel_rfl)
        have g19 : L 19 = true := hdep 19 (by kernel_rfl)
        have g16 : L 16 = true := hdep 16 (by kernel_rfl)
        have e32 := hJ.at_ 21 32 (.pointer (some ⟨m, 0, none⟩)) (by simp [fT]) g21
        obtain ⟨u0, hU, hw⟩ := hJ.wd
        have hw1 : u = u0.setCell ⟨m, 1, none⟩ (a.eval (.tmp 19)) := by simpa [hL, g19] using hw
        obtain ⟨d1, d2, d3, d4⟩ := KH.out _ hU.low
        clear hdep hcl
        refine wpOp_skip (w' := u.setCell ⟨m, 0, none⟩ (a.eval (.tmp 28))) rfl rfl rfl ?_ (hJ.s22 hL g19)
        show (execOp a.eval { dst := _, op := .store 51 (.tmp 32) (.tmp 28), type := _, pos := _, after := _, guard := _ }).run _ _ = _
        obtain ⟨A3, c3, e28⟩ := own_slice (hU.c16 g16)
        simp only [execOp, e32, e28]
        rw [hw1]
        generalize a.eval (.tmp 19) = v19
        go_simp
    · intro L a u hall hJ
      have h19 := hall 19 (by show 19 < 23; omega)
      have h22 := hall 22 (by show 22 < 23; omega)
      have h7 := hall 7 (by show 7 < 23; omega)
      have h16 := hall 16 (by show 16 < 23; omega)
      clear hall
      have hd := hJ.dfs
      obtain ⟨u0, hU, hw⟩ := hJ.wd
      simp only [h22, if_true] at hw
      have B1 := Lib.hid hU.low
      have o1 := Lib.hid (hU.c7 h7)
      have o2 := Lib.hid (hU.c16 h16)
      have hsz := hJ.sz
      clear hU hJ h19 h22 h7 h16
      generalize a.eval (.tmp 19) = v19 at hw o1
      generalize a.eval (.tmp 28) = v28 at hw o2
      subst hw
      go_wp2_with fail
      refine bodyPost_ret (v := .int .i64 0) (by simp [results, Try.results57, go_sem, hsz]) rfl ?_
      rw [HP.out]
      exact ⟨rfl, by rw [setCell_swap]; exact RTo.put2 HH.out B1.out o2.out o1.out⟩
    · exact ⟨rfl, rfl, rfl, rfl, fun _ _ h => absurd h (by simp), w.drew, ⟨(Below.refl _ _).drew, fun h => absurd h (by simp), fun h => absurd h (by simp), fun h => absurd h (by simp), fun h => absurd h (by simp), fun h => absurd h (by simp)⟩, by simp⟩
  · have hi := idx_neg.2 hx
    have HP : Hid (wakeS R F x = (5, R, F)) := by show _ = _; simp [wakeS, hx]
    clear hx
    go_enter Try.func57, Try.ntmps57
    go_wp2_with fail
    (with_reducible refine (at_ref _ _ A2 _ c2 F x R2.out (fun ad _ e => S2.out ad e) (by omega)).mono ?_)
    rintro e w1 ⟨rfl, rfl⟩
    go_wp2_with fail
    go_wp2_with fail
    all_goals go_ret
    all_goals rw [HP.out]
    all_goals exact ⟨rfl, RTo.of_below HH.out (Below.refl _ _)⟩
end Go.Proofs.Ytpddlnedaleblaa
