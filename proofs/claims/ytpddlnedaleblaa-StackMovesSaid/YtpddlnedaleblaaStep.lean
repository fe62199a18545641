/- A step of a move, walked. -/
import Derived.Test.YtpddlnedaleblaaMove
import Derived.Deep.RegionHeld3
namespace Go.Proofs.Ytpddlnedaleblaa
open Go.RowKit

/-- Nothing but blocks b and m has turned, and no block has come. -/
structure Only2 (w w' : World) (b m : Nat) : Prop where
  os : w'.os = w.os
  tape : w'.tape = w.tape
  output : w'.output = w.output
  size : w'.heap.size = w.heap.size
  block : ∀ k, k < w.heap.size → k ≠ b → k ≠ m → w'.heap[k]? = w.heap[k]?

theorem Only.two {w w' : World} {b : Nat} (h : Only w w' b) (m : Nat) : Only2 w w' b m := ⟨h.gr.os, h.gr.tape, h.gr.output, h.size, fun k hk hb _ => h.gr.block k hk (by simpa using hb)⟩
theorem Only2.refl (w : World) (b m : Nat) : Only2 w w b m := ⟨rfl, rfl, rfl, rfl, fun _ _ _ _ => rfl⟩
theorem Only2.set {w w' : World} {b m : Nat} (h : Only2 w w' b m) (i : Nat) (v : Value) : Only2 w (w'.setCell ⟨m, i, none⟩ v) b m :=
  ⟨h.os, h.tape, h.output, by simpa [World.setCell] using h.size, fun k hk hb hm => (Below.heap_setCell w' _ v k (by simpa using hm)).trans (h.block k hk hb hm)⟩
theorem Only2.trans {w w1 w2 : World} {b m : Nat} (h : Only2 w w1 b m) (h' : Only2 w1 w2 b m) : Only2 w w2 b m :=
  ⟨h'.os.trans h.os, h'.tape.trans h.tape, h'.output.trans h.output, h'.size.trans h.size, fun k hk hb hm => (h'.block k (by rw [h.size]; exact hk) hb hm).trans (h.block k hk hb hm)⟩

theorem StackAt.of_block {w w' : World} {b o : Nat} {L : List Int} {t n : Int} (H : StackAt w b o L t n) (hb : w'.heap[b]? = w.heap[b]?) : StackAt w' b o L t n := by
  obtain ⟨bel, h, r⟩ := H.obj
  exact ⟨⟨bel, h.of_block hb, r⟩, H.nd, H.bd⟩
theorem StackAt.set {w : World} {b o m : Nat} {L : List Int} {t n : Int} (H : StackAt w b o L t n) (hm : m ≠ b) (i : Nat) (v : Value) : StackAt (w.setCell ⟨m, i, none⟩ v) b o L t n :=
  H.of_block (Below.heap_setCell w ⟨m, i, none⟩ v b (fun e => hm e.symm))

set_option maxHeartbeats 400000 in
theorem step_over {w : World} {m b o : Nat} {v : Mv} (M : MoveAt w m b o v) (h : v.over = true) : Calls Try.prog 42 #[.pointer (some ⟨m, 0, none⟩)] w fun e w' => e = .returned (.bool false) ∧ w = w' := by
  have HM := Lib.hid M
  have HV := Lib.hid h
  clear M h
  go_enter Try.func42, Try.ntmps42
  go_wp2_with fail
  (with_reducible refine (done_any HM.out).mono ?_)
  rintro e w1 ⟨rfl, rfl⟩
  rw [HV.out]
  go_wp2_with fail
  go_ret
  exact ⟨rfl, rfl⟩

theorem Obj_.setz {w : World} {b N : Nat} {f : Nat → Value} (h : Obj_ w b 0 N f) {i : Nat} (hi : i < N) (v : Value) : Obj_ (w.setCell ⟨b, i, none⟩ v) b 0 N (upd f i v) := by
  have h1 := h.set hi v
  rwa [Nat.zero_add] at h1

theorem mv_eq {b o : Nat} {f : Nat → Value} {v : Mv} (h0 : f 0 = .pointer (some ⟨b, o, none⟩)) (h1 : f 1 = .int .i64 v.place) (h2 : f 2 = .int .i64 v.seen) (h3 : f 3 = .int .u64 v.tag) (h4 : f 4 = .bool v.pop) (h5 : f 5 = .bool v.looked) (h6 : f 6 = .bool v.over) : ∀ j, j < 7 → f j = mvV b o v j := fun j hj => by
  match j, hj with
  | 0, _ => exact h0
  | 1, _ => exact h1
  | 2, _ => exact h2
  | 3, _ => exact h3
  | 4, _ => exact h4
  | 5, _ => exact h5
  | 6, _ => exact h6

theorem StackAt.drew {w : World} {b o : Nat} {L : List Int} {t n : Int} (H : StackAt w b o L t n) : StackAt w.drew b o L t n := by
  obtain ⟨bel, h, r⟩ := H.obj
  exact ⟨⟨bel, h.drew, r⟩, H.nd, H.bd⟩
theorem Only.undrew {w w' : World} {b : Nat} (h : Only w.drew w' b) : Only w w' b := ⟨⟨h.gr.os, h.gr.tape, h.gr.output, h.gr.size, h.gr.block⟩, h.size⟩

set_option maxRecDepth 100000 in
set_option maxHeartbeats 2000000 in
theorem step_look {w : World} {m b o : Nat} {v : Mv} {L : List Int} {t n : Int} (H : StackAt w b o L t n) (M : MoveAt w m b o v) (hmb : m ≠ b) (h : v.over = false) (hl : v.looked = false) (h0 : 0 ≤ n) (h1 : n < 4611686018427387904) :
    Calls Try.prog 42 #[.pointer (some ⟨m, 0, none⟩)] w fun e w' => e = .returned (.bool true) ∧ StackAt w' b o L t (n + 1) ∧ MoveAt w' m b o ⟨v.place, hd L, t, v.pop, true, v.pop && decide (hd L = -1)⟩ ∧ Only2 w w' b m := by
  obtain ⟨c0, c1, c2, c3, c4, c5, c6⟩ := M.cells
  obtain ⟨f0, f1, f2, f3, f4, f5, f6⟩ := M.frz
  rw [hl] at c5
  have HM := Lib.hid M
  have HS := Lib.hid H
  have HV := Lib.hid h
  have hml := Obj_.lt M (by omega)
  clear M H h hl c6
  cases hp : v.pop with
  | false =>
    rw [hp] at c4
    go_enter Try.func42, Try.ntmps42
    go_wp2_with fail
    (with_reducible refine (done_any HM.out).mono ?_)
    rintro e w1 ⟨rfl, rfl⟩
    rw [HV.out]
    go_wp2_with fail
    (with_reducible refine (look_any HS.out h0 h1).mono ?_)
    rintro e w1 ⟨rfl, s1, g1⟩
    have hM := Obj_.of_block HM.out (g1.gr.block m hml (by simpa using hmb))
    obtain ⟨d0, d1, d2, d3, d4, d5, d6⟩ := MoveAt.cells hM
    obtain ⟨e0, e1, e2, e3, e4, e5, e6⟩ := MoveAt.frz hM
    rw [hp] at d4
    have S1 := Lib.hid s1
    have G1 := Lib.hid g1
    have M1 := Lib.hid hM
    clear s1 g1 hM c0 c1 c2 c3 c4 c5 f0 f1 f2 f3 f4 f5 f6 HS HM
    generalize hx : hd L = x at *
    have HX := Lib.hid hx
    clear hx
    go_wp2_with fail
    go_ret
    rw [HX.out]
    refine ⟨rfl, (((S1.out.set hmb _ _).set hmb _ _).set hmb _ _).set hmb _ _, ?_, ((((G1.out.two m).set _ _).set _ _).set _ _).set _ _⟩
    exact ((((Obj_.setz M1.out (i := 2) (by omega) _).setz (i := 3) (by omega) _).setz (i := 5) (by omega) _).setz (i := 6) (by omega) _).congr (mv_eq rfl rfl rfl rfl (by simp [upd, mvV, hp]) rfl (by simp [upd]; try rfl))
  | true =>
    rw [hp] at c4
    go_enter Try.func42, Try.ntmps42
    go_wp2_with fail
    (with_reducible refine (done_any HM.out).mono ?_)
    rintro e w1 ⟨rfl, rfl⟩
    rw [HV.out]
    go_wp2_with fail
    (with_reducible refine (look_any HS.out h0 h1).mono ?_)
    rintro e w1 ⟨rfl, s1, g1⟩
    have hM := Obj_.of_block HM.out (g1.gr.block m hml (by simpa using hmb))
    obtain ⟨d0, d1, d2, d3, d4, d5, d6⟩ := MoveAt.cells hM
    obtain ⟨e0, e1, e2, e3, e4, e5, e6⟩ := MoveAt.frz hM
    rw [hp] at d4
    have S1 := Lib.hid s1
    have G1 := Lib.hid g1
    have M1 := Lib.hid hM
    clear s1 g1 hM c0 c1 c2 c3 c4 c5 f0 f1 f2 f3 f4 f5 f6 HS HM
    generalize hx : hd L = x at *
    have HX := Lib.hid hx
    clear hx
    go_wp2_with fail
    go_ret
    rw [HX.out]
    refine ⟨rfl, (((S1.out.set hmb _ _).set hmb _ _).set hmb _ _).set hmb _ _, ?_, ((((G1.out.two m).set _ _).set _ _).set _ _).set _ _⟩
    exact ((((Obj_.setz M1.out (i := 2) (by omega) _).setz (i := 3) (by omega) _).setz (i := 5) (by omega) _).setz (i := 6) (by omega) _).congr (mv_eq rfl rfl rfl rfl (by simp [upd, mvV, hp]) rfl (by simp [upd]; try rfl))

set_option maxRecDepth 100000 in
set_option maxHeartbeats 2000000 in
theorem step_take_no {w : World} {m b o : Nat} {v : Mv} {L : List Int} {t n : Int} (q : Nat) (hp : v.pop = true) (hq : q < 64) (hs : v.seen = q) (ht : t ≠ v.tag) (H : StackAt w b o L t n) (M : MoveAt w m b o v) (hmb : m ≠ b) (h : v.over = false) (hl : v.looked = true) (h0 : 0 ≤ n) (h1 : n < 4611686018427387904) :
    Calls Try.prog 42 #[.pointer (some ⟨m, 0, none⟩)] w fun e w' => e = .returned (.bool true) ∧ StackAt w' b o L t (n + 1) ∧ MoveAt w' m b o ⟨v.place, v.seen, v.tag, v.pop, false, v.over⟩ ∧ Only2 w w' b m := by
  obtain ⟨c0, c1, c2, c3, c4, c5, c6⟩ := M.cells
  obtain ⟨f0, f1, f2, f3, f4, f5, f6⟩ := M.frz
  rw [hl] at c5
  rw [hp] at c4
  rw [hs] at c2
  have HT := Lib.hid ht
  have HSE := Lib.hid hs
  have HM := Lib.hid M
  have HS := Lib.hid H
  have HV := Lib.hid h
  have hml := Obj_.lt M (by omega)
  clear M H h hl c6 ht hs
  go_enter Try.func42, Try.ntmps42
  go_wp2_with fail
  (with_reducible refine (done_any HM.out).mono ?_)
  rintro e w1 ⟨rfl, rfl⟩
  rw [HV.out]
  go_wp2_with fail
  obtain ⟨wl, hwl⟩ : ∃ wl, wl = w.setCell ⟨m, 5, none⟩ (.bool false) := ⟨_, rfl⟩
  rw [← hwl]
  have SL : Hid (StackAt wl b o L t n) := hwl ▸ HS.out.set hmb 5 (.bool false)
  have ML : Hid (Obj_ wl m 0 7 (upd (mvV b o v) 5 (.bool false))) := hwl ▸ Obj_.setz HM.out (i := 5) (by omega) (.bool false)
  have GL : Hid (Only2 w wl b m) := hwl ▸ (Only2.refl w b m).set 5 (.bool false)
  have hlm : m < wl.heap.size := Obj_.lt ML.out (by omega)
  have hc0 : ∀ j, j < 7 → wl.cell? ⟨m, j, none⟩ = some (upd (mvV b o v) 5 (.bool false) j) := fun j hj => by have := ML.out.cell j hj; rwa [Nat.zero_add] at this
  have a0 : wl.cell? ⟨m, 0, none⟩ = some (.pointer (some ⟨b, o, none⟩)) := hc0 0 (by omega)
  have a1 : wl.cell? ⟨m, 1, none⟩ = some (.int .i64 v.place) := hc0 1 (by omega)
  have a2 : wl.cell? ⟨m, 2, none⟩ = some (.int .i64 (q : Int)) := HSE.out ▸ hc0 2 (by omega)
  have a3 : wl.cell? ⟨m, 3, none⟩ = some (.int .u64 v.tag) := hc0 3 (by omega)
  have HWL := Lib.hid hwl
  clear hwl hc0 c0 c1 c2 c3 c4 c5 f0 f1 f2 f3 f4 f5 f6
  go_region_held3 (fun w' => w'.cell? ⟨m, 0, none⟩ = some (.pointer (some ⟨b, o, none⟩)) ∧ w'.cell? ⟨m, 1, none⟩ = some (.int .i64 v.place) ∧ w'.cell? ⟨m, 2, none⟩ = some (.int .i64 (q : Int)) ∧ w'.cell? ⟨m, 3, none⟩ = some (.int .u64 v.tag))
    (first | exact ⟨a0, a1, a2, a3⟩ | exact K2.out | fail)
    (first
      | (go_at_call 48; (with_reducible refine (take_no q v.tag SL.out.drew hq HT.out h0 h1).mono ?_); rintro e w2 ⟨rfl, s2, g2⟩; have hb2 : w2.heap[m]? = wl.heap[m]? := g2.gr.block m hlm (by simpa using hmb); have K2 : Hid (w2.cell? ⟨m, 0, none⟩ = some (.pointer (some ⟨b, o, none⟩)) ∧ w2.cell? ⟨m, 1, none⟩ = some (.int .i64 v.place) ∧ w2.cell? ⟨m, 2, none⟩ = some (.int .i64 (q : Int)) ∧ w2.cell? ⟨m, 3, none⟩ = some (.int .u64 v.tag)) := ⟨(World.cell?_of_block (a := ⟨m, 0, none⟩) hb2).trans a0, (World.cell?_of_block (a := ⟨m, 1, none⟩) hb2).trans a1, (World.cell?_of_block (a := ⟨m, 2, none⟩) hb2).trans a2, (World.cell?_of_block (a := ⟨m, 3, none⟩) hb2).trans a3⟩; have S2 := Lib.hid s2; have G2 := Lib.hid (GL.out.trans (g2.undrew.two m)); have M2 := Lib.hid (ML.out.of_block hb2); clear s2 g2 hb2)
      | fail)
  have hc : ∀ j, j < 7 → w2.cell? ⟨m, j, none⟩ = some (upd (mvV b o v) 5 (.bool false) j) := fun j hj => by have := M2.out.cell j hj; rwa [Nat.zero_add] at this
  have hfz : ∀ j, j < 7 → w2.frozen? ⟨m, j, none⟩ = false := fun j hj => by have := M2.out.frz j hj; rwa [Nat.zero_add] at this
  have d1 : w2.cell? ⟨m, 1, none⟩ = some (.int .i64 v.place) := hc 1 (by omega)
  have d2 : w2.cell? ⟨m, 2, none⟩ = some (.int .i64 v.seen) := hc 2 (by omega)
  have d6 : w2.cell? ⟨m, 6, none⟩ = some (.bool v.over) := hc 6 (by omega)
  have e1 := hfz 1 (by omega)
  have e6 := hfz 6 (by omega)
  clear hc hfz a0 a1 a2 a3 K2
  go_wp2_with fail
  go_ret
  exact ⟨rfl, S2.out, M2.out.congr (mv_eq rfl rfl rfl rfl rfl rfl rfl), G2.out⟩

set_option maxRecDepth 100000 in
set_option maxHeartbeats 2000000 in
theorem step_put_no {w : World} {m b o : Nat} {v : Mv} {L : List Int} {t n : Int} (q : Nat) (hp : v.pop = false) (hq : q < 64) (hs : v.place = q) (hqL : (q : Int) ∉ L) (hsn : -1 ≤ v.seen ∧ v.seen < 64) (ht : t ≠ v.tag) (H : StackAt w b o L t n) (M : MoveAt w m b o v) (hmb : m ≠ b) (h : v.over = false) (hl : v.looked = true) (h0 : 0 ≤ n) (h1 : n < 4611686018427387904) :
    Calls Try.prog 42 #[.pointer (some ⟨m, 0, none⟩)] w fun e w' => e = .returned (.bool true) ∧ StackAt w' b o L t (n + 1) ∧ MoveAt w' m b o ⟨v.place, v.seen, v.tag, v.pop, false, false⟩ ∧ Only2 w w' b m := by
  obtain ⟨c0, c1, c2, c3, c4, c5, c6⟩ := M.cells
  obtain ⟨f0, f1, f2, f3, f4, f5, f6⟩ := M.frz
  rw [hl] at c5
  rw [hp] at c4
  rw [hs] at c1
  have HT := Lib.hid ht
  have HSE := Lib.hid hs
  have HQL := Lib.hid hqL
  have HM := Lib.hid M
  have HS := Lib.hid H
  have HV := Lib.hid h
  have hml := Obj_.lt M (by omega)
  clear M H h hl c6 ht hqL hs
  go_enter Try.func42, Try.ntmps42
  go_wp2_with fail
  (with_reducible refine (done_any HM.out).mono ?_)
  rintro e w1 ⟨rfl, rfl⟩
  rw [HV.out]
  go_wp2_with fail
  obtain ⟨wl, hwl⟩ : ∃ wl, wl = w.setCell ⟨m, 5, none⟩ (.bool false) := ⟨_, rfl⟩
  rw [← hwl]
  have SL : Hid (StackAt wl b o L t n) := hwl ▸ HS.out.set hmb 5 (.bool false)
  have ML : Hid (Obj_ wl m 0 7 (upd (mvV b o v) 5 (.bool false))) := hwl ▸ Obj_.setz HM.out (i := 5) (by omega) (.bool false)
  have GL : Hid (Only2 w wl b m) := hwl ▸ (Only2.refl w b m).set 5 (.bool false)
  have hlm : m < wl.heap.size := Obj_.lt ML.out (by omega)
  have hc0 : ∀ j, j < 7 → wl.cell? ⟨m, j, none⟩ = some (upd (mvV b o v) 5 (.bool false) j) := fun j hj => by have := ML.out.cell j hj; rwa [Nat.zero_add] at this
  have a0 : wl.cell? ⟨m, 0, none⟩ = some (.pointer (some ⟨b, o, none⟩)) := hc0 0 (by omega)
  have a1 : wl.cell? ⟨m, 1, none⟩ = some (.int .i64 (q : Int)) := HSE.out ▸ hc0 1 (by omega)
  have a2 : wl.cell? ⟨m, 2, none⟩ = some (.int .i64 v.seen) := hc0 2 (by omega)
  have a3 : wl.cell? ⟨m, 3, none⟩ = some (.int .u64 v.tag) := hc0 3 (by omega)
  have HWL := Lib.hid hwl
  clear hwl hc0 c0 c1 c2 c3 c4 c5 f0 f1 f2 f3 f4 f5 f6
  go_region_held3 (fun w' => w'.cell? ⟨m, 0, none⟩ = some (.pointer (some ⟨b, o, none⟩)) ∧ w'.cell? ⟨m, 1, none⟩ = some (.int .i64 (q : Int)) ∧ w'.cell? ⟨m, 2, none⟩ = some (.int .i64 v.seen) ∧ w'.cell? ⟨m, 3, none⟩ = some (.int .u64 v.tag))
    (first | exact ⟨a0, a1, a2, a3⟩ | exact K2.out | fail)
    (first
      | (go_at_call 47; (with_reducible refine (put_no q v.seen v.tag SL.out.drew hq HQL.out hsn HT.out h0 h1).mono ?_); rintro e w2 ⟨rfl, s2, g2⟩; have hb2 : w2.heap[m]? = wl.heap[m]? := g2.gr.block m hlm (by simpa using hmb); have K2 : Hid (w2.cell? ⟨m, 0, none⟩ = some (.pointer (some ⟨b, o, none⟩)) ∧ w2.cell? ⟨m, 1, none⟩ = some (.int .i64 (q : Int)) ∧ w2.cell? ⟨m, 2, none⟩ = some (.int .i64 v.seen) ∧ w2.cell? ⟨m, 3, none⟩ = some (.int .u64 v.tag)) := ⟨(World.cell?_of_block (a := ⟨m, 0, none⟩) hb2).trans a0, (World.cell?_of_block (a := ⟨m, 1, none⟩) hb2).trans a1, (World.cell?_of_block (a := ⟨m, 2, none⟩) hb2).trans a2, (World.cell?_of_block (a := ⟨m, 3, none⟩) hb2).trans a3⟩; have S2 := Lib.hid s2; have G2 := Lib.hid (GL.out.trans (g2.undrew.two m)); have M2 := Lib.hid (ML.out.of_block hb2); clear s2 g2 hb2)
      | fail)
  have hc : ∀ j, j < 7 → w2.cell? ⟨m, j, none⟩ = some (upd (mvV b o v) 5 (.bool false) j) := fun j hj => by have := M2.out.cell j hj; rwa [Nat.zero_add] at this
  have hfz : ∀ j, j < 7 → w2.frozen? ⟨m, j, none⟩ = false := fun j hj => by have := M2.out.frz j hj; rwa [Nat.zero_add] at this
  have d1 : w2.cell? ⟨m, 1, none⟩ = some (.int .i64 v.place) := hc 1 (by omega)
  have d2 : w2.cell? ⟨m, 2, none⟩ = some (.int .i64 v.seen) := hc 2 (by omega)
  have d6 : w2.cell? ⟨m, 6, none⟩ = some (.bool v.over) := hc 6 (by omega)
  have e1 := hfz 1 (by omega)
  have e6 := hfz 6 (by omega)
  clear hc hfz a0 a1 a2 a3 K2
  go_wp2_with fail
  go_ret
  refine ⟨rfl, S2.out.set hmb _ _, ?_, G2.out.set _ _⟩
  exact (Obj_.setz M2.out (i := 6) (by omega) _).congr (mv_eq rfl rfl rfl rfl rfl rfl rfl)

theorem put_there_to {w : World} {b o : Nat} {L : List Int} {t n : Int} (q : Nat) (top s : Int) (H : StackAt w b o L t n) (hq : q < 64) (hqL : (q : Int) ∈ L) (ht : -1 ≤ top ∧ top < 64) (h0 : 0 ≤ n) (h1 : n < 4611686018427387904) :
    Calls Try.prog 47 #[.pointer (some ⟨b, o, none⟩), .int .i64 q, .int .i64 top, .int .u64 s] w fun e w' => e = .returned (.tuple #[.bool false, .int .i64 6]) ∧ StackAt w' b o L t n ∧ Only w w' b :=
  (put_there q top s H hq hqL ht h0 h1).mono fun _ _ h => ⟨h.1, h.2 ▸ H, h.2 ▸ Only.refl w b⟩

set_option maxRecDepth 100000 in
set_option maxHeartbeats 2000000 in
theorem step_put_there {w : World} {m b o : Nat} {v : Mv} {L : List Int} {t n : Int} (q : Nat) (hp : v.pop = false) (hq : q < 64) (hs : v.place = q) (hqL : (q : Int) ∈ L) (hsn : -1 ≤ v.seen ∧ v.seen < 64) (H : StackAt w b o L t n) (M : MoveAt w m b o v) (hmb : m ≠ b) (h : v.over = false) (hl : v.looked = true) (h0 : 0 ≤ n) (h1 : n < 4611686018427387904) :
    Calls Try.prog 42 #[.pointer (some ⟨m, 0, none⟩)] w fun e w' => e = .returned (.bool true) ∧ StackAt w' b o L t n ∧ MoveAt w' m b o ⟨v.place, v.seen, v.tag, v.pop, false, true⟩ ∧ Only2 w w' b m := by
  obtain ⟨c0, c1, c2, c3, c4, c5, c6⟩ := M.cells
  obtain ⟨f0, f1, f2, f3, f4, f5, f6⟩ := M.frz
  rw [hl] at c5
  rw [hp] at c4
  rw [hs] at c1
  have HSE := Lib.hid hs
  have HQL := Lib.hid hqL
  have HM := Lib.hid M
  have HS := Lib.hid H
  have HV := Lib.hid h
  have hml := Obj_.lt M (by omega)
  clear M H h hl c6 hqL hs
  go_enter Try.func42, Try.ntmps42
  go_wp2_with fail
  (with_reducible refine (done_any HM.out).mono ?_)
  rintro e w1 ⟨rfl, rfl⟩
  rw [HV.out]
  go_wp2_with fail
  obtain ⟨wl, hwl⟩ : ∃ wl, wl = w.setCell ⟨m, 5, none⟩ (.bool false) := ⟨_, rfl⟩
  rw [← hwl]
  have SL : Hid (StackAt wl b o L t n) := hwl ▸ HS.out.set hmb 5 (.bool false)
  have ML : Hid (Obj_ wl m 0 7 (upd (mvV b o v) 5 (.bool false))) := hwl ▸ Obj_.setz HM.out (i := 5) (by omega) (.bool false)
  have GL : Hid (Only2 w wl b m) := hwl ▸ (Only2.refl w b m).set 5 (.bool false)
  have hlm : m < wl.heap.size := Obj_.lt ML.out (by omega)
  have hc0 : ∀ j, j < 7 → wl.cell? ⟨m, j, none⟩ = some (upd (mvV b o v) 5 (.bool false) j) := fun j hj => by have := ML.out.cell j hj; rwa [Nat.zero_add] at this
  have a0 : wl.cell? ⟨m, 0, none⟩ = some (.pointer (some ⟨b, o, none⟩)) := hc0 0 (by omega)
  have a1 : wl.cell? ⟨m, 1, none⟩ = some (.int .i64 (q : Int)) := HSE.out ▸ hc0 1 (by omega)
  have a2 : wl.cell? ⟨m, 2, none⟩ = some (.int .i64 v.seen) := hc0 2 (by omega)
  have a3 : wl.cell? ⟨m, 3, none⟩ = some (.int .u64 v.tag) := hc0 3 (by omega)
  have HWL := Lib.hid hwl
  clear hwl hc0 c0 c1 c2 c3 c4 c5 f0 f1 f2 f3 f4 f5 f6
  go_region_held3 (fun w' => w'.cell? ⟨m, 0, none⟩ = some (.pointer (some ⟨b, o, none⟩)) ∧ w'.cell? ⟨m, 1, none⟩ = some (.int .i64 (q : Int)) ∧ w'.cell? ⟨m, 2, none⟩ = some (.int .i64 v.seen) ∧ w'.cell? ⟨m, 3, none⟩ = some (.int .u64 v.tag))
    (first | exact ⟨a0, a1, a2, a3⟩ | exact K2.out | fail)
    (first
      | (go_at_call 47; (with_reducible refine (put_there_to q v.seen v.tag SL.out.drew hq HQL.out hsn h0 h1).mono ?_); rintro e w2 ⟨rfl, s2, g2⟩; have hb2 : w2.heap[m]? = wl.heap[m]? := g2.gr.block m hlm (by simpa using hmb); have K2 : Hid (w2.cell? ⟨m, 0, none⟩ = some (.pointer (some ⟨b, o, none⟩)) ∧ w2.cell? ⟨m, 1, none⟩ = some (.int .i64 (q : Int)) ∧ w2.cell? ⟨m, 2, none⟩ = some (.int .i64 v.seen) ∧ w2.cell? ⟨m, 3, none⟩ = some (.int .u64 v.tag)) := ⟨(World.cell?_of_block (a := ⟨m, 0, none⟩) hb2).trans a0, (World.cell?_of_block (a := ⟨m, 1, none⟩) hb2).trans a1, (World.cell?_of_block (a := ⟨m, 2, none⟩) hb2).trans a2, (World.cell?_of_block (a := ⟨m, 3, none⟩) hb2).trans a3⟩; have S2 := Lib.hid s2; have G2 := Lib.hid (GL.out.trans (g2.undrew.two m)); have M2 := Lib.hid (ML.out.of_block hb2); clear s2 g2 hb2)
      | fail)
  have hc : ∀ j, j < 7 → w2.cell? ⟨m, j, none⟩ = some (upd (mvV b o v) 5 (.bool false) j) := fun j hj => by have := M2.out.cell j hj; rwa [Nat.zero_add] at this
  have hfz : ∀ j, j < 7 → w2.frozen? ⟨m, j, none⟩ = false := fun j hj => by have := M2.out.frz j hj; rwa [Nat.zero_add] at this
  have d1 : w2.cell? ⟨m, 1, none⟩ = some (.int .i64 v.place) := hc 1 (by omega)
  have d2 : w2.cell? ⟨m, 2, none⟩ = some (.int .i64 v.seen) := hc 2 (by omega)
  have d6 : w2.cell? ⟨m, 6, none⟩ = some (.bool v.over) := hc 6 (by omega)
  have e1 := hfz 1 (by omega)
  have e6 := hfz 6 (by omega)
  clear hc hfz a0 a1 a2 a3 K2
  go_wp2_with fail
  go_ret
  refine ⟨rfl, S2.out.set hmb _ _, ?_, G2.out.set _ _⟩
  exact (Obj_.setz M2.out (i := 6) (by omega) _).congr (mv_eq rfl rfl rfl rfl rfl rfl rfl)

set_option maxRecDepth 100000 in
set_option maxHeartbeats 2000000 in
theorem step_put_yes {w : World} {m b o : Nat} {v : Mv} {L : List Int} {t n : Int} (q : Nat) (hp : v.pop = false) (hq : q < 64) (hs : v.place = q) (hqL : (q : Int) ∉ L) (hsn : -1 ≤ v.seen ∧ v.seen < 64) (hsh : v.seen = hd L) (ht : v.tag = t) (ht0 : 0 ≤ t) (ht1 : t < 4611686018427387904) (H : StackAt w b o L t n) (M : MoveAt w m b o v) (hmb : m ≠ b) (h : v.over = false) (hl : v.looked = true) (h0 : 0 ≤ n) (h1 : n < 4611686018427387904) :
    Calls Try.prog 42 #[.pointer (some ⟨m, 0, none⟩)] w fun e w' => e = .returned (.bool true) ∧ StackAt w' b o ((q : Int) :: L) (t + 1) (n + 1) ∧ MoveAt w' m b o ⟨v.place, v.seen, v.tag, v.pop, false, true⟩ ∧ Only2 w w' b m := by
  obtain ⟨c0, c1, c2, c3, c4, c5, c6⟩ := M.cells
  obtain ⟨f0, f1, f2, f3, f4, f5, f6⟩ := M.frz
  rw [hl] at c5
  rw [hp] at c4
  rw [hs] at c1
  rw [ht] at c3
  have HT := Lib.hid hsh
  have HSE := Lib.hid hs
  have HTG := Lib.hid ht
  have HQL := Lib.hid hqL
  have HM := Lib.hid M
  have HS := Lib.hid H
  have HV := Lib.hid h
  have hml := Obj_.lt M (by omega)
  clear M H h hl c6 ht hqL hsh hs
  go_enter Try.func42, Try.ntmps42
  go_wp2_with fail
  (with_reducible refine (done_any HM.out).mono ?_)
  rintro e w1 ⟨rfl, rfl⟩
  rw [HV.out]
  go_wp2_with fail
  obtain ⟨wl, hwl⟩ : ∃ wl, wl = w.setCell ⟨m, 5, none⟩ (.bool false) := ⟨_, rfl⟩
  rw [← hwl]
  have SL : Hid (StackAt wl b o L t n) := hwl ▸ HS.out.set hmb 5 (.bool false)
  have ML : Hid (Obj_ wl m 0 7 (upd (mvV b o v) 5 (.bool false))) := hwl ▸ Obj_.setz HM.out (i := 5) (by omega) (.bool false)
  have GL : Hid (Only2 w wl b m) := hwl ▸ (Only2.refl w b m).set 5 (.bool false)
  have hlm : m < wl.heap.size := Obj_.lt ML.out (by omega)
  have hc0 : ∀ j, j < 7 → wl.cell? ⟨m, j, none⟩ = some (upd (mvV b o v) 5 (.bool false) j) := fun j hj => by have := ML.out.cell j hj; rwa [Nat.zero_add] at this
  have a0 : wl.cell? ⟨m, 0, none⟩ = some (.pointer (some ⟨b, o, none⟩)) := hc0 0 (by omega)
  have a1 : wl.cell? ⟨m, 1, none⟩ = some (.int .i64 (q : Int)) := HSE.out ▸ hc0 1 (by omega)
  have a2 : wl.cell? ⟨m, 2, none⟩ = some (.int .i64 v.seen) := hc0 2 (by omega)
  have a3 : wl.cell? ⟨m, 3, none⟩ = some (.int .u64 t) := HTG.out ▸ hc0 3 (by omega)
  have HWL := Lib.hid hwl
  clear hwl hc0 c0 c1 c2 c3 c4 c5 f0 f1 f2 f3 f4 f5 f6
  go_region_held3 (fun w' => w'.cell? ⟨m, 0, none⟩ = some (.pointer (some ⟨b, o, none⟩)) ∧ w'.cell? ⟨m, 1, none⟩ = some (.int .i64 (q : Int)) ∧ w'.cell? ⟨m, 2, none⟩ = some (.int .i64 v.seen) ∧ w'.cell? ⟨m, 3, none⟩ = some (.int .u64 t))
    (first | exact ⟨a0, a1, a2, a3⟩ | exact K2.out | fail)
    (first
      | (go_at_call 47; (with_reducible refine (put_yes q v.seen SL.out.drew hq HQL.out hsn HT.out ht0 ht1 h0 h1).mono ?_); rintro e w2 ⟨rfl, s2, g2⟩; have hb2 : w2.heap[m]? = wl.heap[m]? := g2.gr.block m hlm (by simpa using hmb); have K2 : Hid (w2.cell? ⟨m, 0, none⟩ = some (.pointer (some ⟨b, o, none⟩)) ∧ w2.cell? ⟨m, 1, none⟩ = some (.int .i64 (q : Int)) ∧ w2.cell? ⟨m, 2, none⟩ = some (.int .i64 v.seen) ∧ w2.cell? ⟨m, 3, none⟩ = some (.int .u64 t)) := ⟨(World.cell?_of_block (a := ⟨m, 0, none⟩) hb2).trans a0, (World.cell?_of_block (a := ⟨m, 1, none⟩) hb2).trans a1, (World.cell?_of_block (a := ⟨m, 2, none⟩) hb2).trans a2, (World.cell?_of_block (a := ⟨m, 3, none⟩) hb2).trans a3⟩; have S2 := Lib.hid s2; have G2 := Lib.hid (GL.out.trans (g2.undrew.two m)); have M2 := Lib.hid (ML.out.of_block hb2); clear s2 g2 hb2)
      | fail)
  have hc : ∀ j, j < 7 → w2.cell? ⟨m, j, none⟩ = some (upd (mvV b o v) 5 (.bool false) j) := fun j hj => by have := M2.out.cell j hj; rwa [Nat.zero_add] at this
  have hfz : ∀ j, j < 7 → w2.frozen? ⟨m, j, none⟩ = false := fun j hj => by have := M2.out.frz j hj; rwa [Nat.zero_add] at this
  have d1 : w2.cell? ⟨m, 1, none⟩ = some (.int .i64 v.place) := hc 1 (by omega)
  have d2 : w2.cell? ⟨m, 2, none⟩ = some (.int .i64 v.seen) := hc 2 (by omega)
  have d6 : w2.cell? ⟨m, 6, none⟩ = some (.bool v.over) := hc 6 (by omega)
  have e1 := hfz 1 (by omega)
  have e6 := hfz 6 (by omega)
  clear hc hfz a0 a1 a2 a3 K2
  go_wp2_with fail
  go_ret
  refine ⟨rfl, S2.out.set hmb _ _, ?_, G2.out.set _ _⟩
  exact (Obj_.setz M2.out (i := 6) (by omega) _).congr (mv_eq rfl rfl rfl rfl rfl rfl rfl)

set_option maxRecDepth 100000 in
set_option maxHeartbeats 2000000 in
theorem step_take_yes {w : World} {m b o : Nat} {v : Mv} {L : List Int} {t n : Int} (q : Nat) (r : List Int) (hL : L = (q : Int) :: r) (hp : v.pop = true) (hq : q < 64) (hs : v.seen = q) (ht : v.tag = t) (ht0 : 0 ≤ t) (ht1 : t < 4611686018427387904) (H : StackAt w b o L t n) (M : MoveAt w m b o v) (hmb : m ≠ b) (h : v.over = false) (hl : v.looked = true) (h0 : 0 ≤ n) (h1 : n < 4611686018427387904) :
    Calls Try.prog 42 #[.pointer (some ⟨m, 0, none⟩)] w fun e w' => e = .returned (.bool true) ∧ StackAt w' b o r (t + 1) (n + 1) ∧ MoveAt w' m b o ⟨v.seen, v.seen, v.tag, v.pop, false, true⟩ ∧ Only2 w w' b m := by
  obtain ⟨c0, c1, c2, c3, c4, c5, c6⟩ := M.cells
  obtain ⟨f0, f1, f2, f3, f4, f5, f6⟩ := M.frz
  rw [hl] at c5
  rw [hp] at c4
  rw [hs] at c2
  rw [ht] at c3
  subst hL
  have HSE := Lib.hid hs
  have HTG := Lib.hid ht
  have HM := Lib.hid M
  have HS := Lib.hid H
  have HV := Lib.hid h
  have hml := Obj_.lt M (by omega)
  clear M H h hl c6 ht hs
  go_enter Try.func42, Try.ntmps42
  go_wp2_with fail
  (with_reducible refine (done_any HM.out).mono ?_)
  rintro e w1 ⟨rfl, rfl⟩
  rw [HV.out]
  go_wp2_with fail
  obtain ⟨wl, hwl⟩ : ∃ wl, wl = w.setCell ⟨m, 5, none⟩ (.bool false) := ⟨_, rfl⟩
  rw [← hwl]
  have SL : Hid (StackAt wl b o ((q : Int) :: r) t n) := hwl ▸ HS.out.set hmb 5 (.bool false)
  have ML : Hid (Obj_ wl m 0 7 (upd (mvV b o v) 5 (.bool false))) := hwl ▸ Obj_.setz HM.out (i := 5) (by omega) (.bool false)
  have GL : Hid (Only2 w wl b m) := hwl ▸ (Only2.refl w b m).set 5 (.bool false)
  have hlm : m < wl.heap.size := Obj_.lt ML.out (by omega)
  have hc0 : ∀ j, j < 7 → wl.cell? ⟨m, j, none⟩ = some (upd (mvV b o v) 5 (.bool false) j) := fun j hj => by have := ML.out.cell j hj; rwa [Nat.zero_add] at this
  have a0 : wl.cell? ⟨m, 0, none⟩ = some (.pointer (some ⟨b, o, none⟩)) := hc0 0 (by omega)
  have a1 : wl.cell? ⟨m, 1, none⟩ = some (.int .i64 v.place) := hc0 1 (by omega)
  have a2 : wl.cell? ⟨m, 2, none⟩ = some (.int .i64 (q : Int)) := HSE.out ▸ hc0 2 (by omega)
  have a3 : wl.cell? ⟨m, 3, none⟩ = some (.int .u64 t) := HTG.out ▸ hc0 3 (by omega)
  have HWL := Lib.hid hwl
  clear hwl hc0 c0 c1 c2 c3 c4 c5 f0 f1 f2 f3 f4 f5 f6
  go_region_held3 (fun w' => w'.cell? ⟨m, 0, none⟩ = some (.pointer (some ⟨b, o, none⟩)) ∧ w'.cell? ⟨m, 1, none⟩ = some (.int .i64 v.place) ∧ w'.cell? ⟨m, 2, none⟩ = some (.int .i64 (q : Int)) ∧ w'.cell? ⟨m, 3, none⟩ = some (.int .u64 t))
    (first | exact ⟨a0, a1, a2, a3⟩ | exact K2.out | fail)
    (first
      | (go_at_call 48; (with_reducible refine (take_yes q SL.out.drew hq ht0 ht1 h0 h1).mono ?_); rintro e w2 ⟨rfl, s2, g2⟩; have hb2 : w2.heap[m]? = wl.heap[m]? := g2.gr.block m hlm (by simpa using hmb); have K2 : Hid (w2.cell? ⟨m, 0, none⟩ = some (.pointer (some ⟨b, o, none⟩)) ∧ w2.cell? ⟨m, 1, none⟩ = some (.int .i64 v.place) ∧ w2.cell? ⟨m, 2, none⟩ = some (.int .i64 (q : Int)) ∧ w2.cell? ⟨m, 3, none⟩ = some (.int .u64 t)) := ⟨(World.cell?_of_block (a := ⟨m, 0, none⟩) hb2).trans a0, (World.cell?_of_block (a := ⟨m, 1, none⟩) hb2).trans a1, (World.cell?_of_block (a := ⟨m, 2, none⟩) hb2).trans a2, (World.cell?_of_block (a := ⟨m, 3, none⟩) hb2).trans a3⟩; have S2 := Lib.hid s2; have G2 := Lib.hid (GL.out.trans (g2.undrew.two m)); have M2 := Lib.hid (ML.out.of_block hb2); clear s2 g2 hb2)
      | fail)
  have hc : ∀ j, j < 7 → w2.cell? ⟨m, j, none⟩ = some (upd (mvV b o v) 5 (.bool false) j) := fun j hj => by have := M2.out.cell j hj; rwa [Nat.zero_add] at this
  have hfz : ∀ j, j < 7 → w2.frozen? ⟨m, j, none⟩ = false := fun j hj => by have := M2.out.frz j hj; rwa [Nat.zero_add] at this
  have d1 : w2.cell? ⟨m, 1, none⟩ = some (.int .i64 v.place) := hc 1 (by omega)
  have d2 : w2.cell? ⟨m, 2, none⟩ = some (.int .i64 v.seen) := hc 2 (by omega)
  have d6 : w2.cell? ⟨m, 6, none⟩ = some (.bool v.over) := hc 6 (by omega)
  have e1 := hfz 1 (by omega)
  have e6 := hfz 6 (by omega)
  clear hc hfz a0 a1 a2 a3 K2
  go_wp2_with fail
  go_ret
  refine ⟨rfl, (S2.out.set hmb _ _).set hmb _ _, ?_, (G2.out.set _ _).set _ _⟩
  exact ((Obj_.setz M2.out (i := 1) (by omega) _).setz (i := 6) (by omega) _).congr (mv_eq rfl (by show Value.int .i64 (q : Int) = .int .i64 v.seen; rw [HSE.out]) rfl rfl rfl rfl rfl)
end Go.Proofs.Ytpddlnedaleblaa
