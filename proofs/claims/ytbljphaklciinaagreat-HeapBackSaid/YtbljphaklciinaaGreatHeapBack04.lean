/- Walks of the program's functions, and plain laws on what they compute, text by text (Gather, GatherP, GatherW, BackG, BackS, BackT). No condition. -/
import Derived.Test.YtbljphaklciinaaGreatHeapBack03

/- Layer 9 (page): Gather. -/
namespace Go.Proofs.YtbljphaklciinaaGreat
open Go.RowKit
variable {w w' : World} {b bm bb sz : Nat} {p : Pg} {f : Nat → Nat}

theorem PageAt.on (H : PageAt w b bm p) (hb : Below w.heap.size w w') : PageAt w' b bm p := Obj_.of_block H (hb.block b (Obj_.lt H (by omega)))
theorem PageAt.drew (H : PageAt w b bm p) : PageAt w.drew b bm p := Obj_.drew H
theorem PageAt.alloc (H : PageAt w b bm p) (o : Obj) : PageAt (w.alloc o) b bm p := H.on ((Below.refl _ _).alloc (Nat.le_refl _) _)
theorem PageAt.s52 (H : PageAt w b bm p) : w.cell? ⟨b, 5, none⟩ = some (.pointer (some ⟨bm, 0, none⟩)) ∧ w.cell? ⟨b, 2, none⟩ = some (.int .i64 p.n) := ⟨Obj_.at_ (j := 5) H (by omega) rfl, Obj_.at_ (j := 2) H (by omega) rfl⟩
theorem alloc_at (w : World) (o : Obj) : (w.alloc o).heap[w.heap.size]? = some o := by
  show (w.heap.push _)[w.heap.size]? = _
  simp
theorem alloc_lt (w : World) (o : Obj) : w.heap.size < (w.alloc o).heap.size := by
  show _ < (w.heap.push _).size
  simp
theorem PageAt.far {g i j : Nat} (H : PageAt w b bm p) (hg : b ≠ g) (v v' : Value) : PageAt ((w.setCell ⟨g, i, none⟩ v).setCell ⟨g, j, none⟩ v') b bm p :=
  Obj_.of_block H ((Below.heap_setCell _ ⟨g, j, none⟩ v' b hg).trans (Below.heap_setCell _ ⟨g, i, none⟩ v b hg))
theorem set_at {g i : Nat} {cs : Array Value} {T : TypeId} (h : w.heap[g]? = some (.cells cs T (0, 0))) (v : Value) : (w.setCell ⟨g, i, none⟩ v).heap[g]? = some (.cells (cs.setIfInBounds i v) T (0, 0)) := by
  simp [World.setCell, Array.getElem?_modify, h]
/-- The list that has come off the page's cell, in a block of its own. -/
structure G4 (w w4 : World) (b bm bb sz : Nat) (f : Nat → Nat) (p2 : Pg) (g wd n : Nat) : Prop where
  hg : w4.heap[g]? = some (.cells #[.int .u64 (wd : Nat), .int .i64 (n : Nat)] 145 (0, 0))
  hp : PageAt w4 b bm p2
  hm : MemAt w4 bm bb sz f
  fr : PFr w w4 b bb
  n1 : b ≠ g
  n2 : g ≠ bb
  n3 : w.heap.size ≤ g
theorem g4_late {w2 w3 : World} {p2 : Pg} {wd n : Nat} (F2 : PFr w w2 b bb) (H2 : PageAt w2 b bm p2) (M2 : MemAt w2 bm bb sz f) (hb3 : Below w2.drew.heap.size w2.drew w3) :
    G4 w (w3.alloc (.cells #[.int .u64 (wd : Nat), .int .i64 (n : Nat)] 145)) b bm bb sz f p2 w3.heap.size wd n := by
  have hb : Below w2.heap.size w2 w3 := ⟨hb3.os, hb3.tape, hb3.output, hb3.size, hb3.block⟩
  have hbl := Obj_.lt H2 (by omega)
  have hsz := hb.size
  have hbbl := M2.lt_bb
  have h4 : Below w2.heap.size w2 (w3.alloc (.cells #[.int .u64 (wd : Nat), .int .i64 (n : Nat)] 145)) := hb.alloc hsz _
  exact ⟨alloc_at _ _, H2.on h4, M2.below h4 (Nat.le_refl _), F2.trans (PFr.of_below h4), by omega, by omega, by have := F2.size; omega⟩
theorem g4_early {w2 w3 : World} {p2 : Pg} {wd n : Nat} {o : Obj} (F2 : PFr w w2 b bb) (H2 : PageAt w2 b bm p2) (M2 : MemAt w2 bm bb sz f) (hb3 : Below (w2.alloc o).drew.heap.size (w2.alloc o).drew w3) (hg : w3.heap[w2.heap.size]? = some (.cells #[.int .u64 0, .int .i64 0] 145 (0, 0))) :
    G4 w ((w3.setCell ⟨w2.heap.size, 0, none⟩ (.int .u64 (wd : Nat))).setCell ⟨w2.heap.size, 1, none⟩ (.int .i64 (n : Nat))) b bm bb sz f p2 w2.heap.size wd n := by
  have ha : Below w2.heap.size w2 (w2.alloc o) := (Below.refl _ _).alloc (Nat.le_refl _) _
  have hb : Below w2.heap.size w2 w3 := ⟨hb3.os, hb3.tape, hb3.output, Nat.le_trans ha.size hb3.size, fun k hk => (hb3.block k (Nat.lt_of_lt_of_le hk ha.size)).trans (ha.block k hk)⟩
  have hbl := Obj_.lt H2 (by omega)
  have hbbl := M2.lt_bb
  have hbml := M2.lt_bm
  have h3 := H2.on hb
  have m3 := M2.below hb (Nat.le_refl _)
  have f3 := F2.trans (PFr.of_below (b := b) (bb := bb) hb)
  refine ⟨?_, h3.far (by omega) _ _, (m3.set_far _ _ (by omega) (by omega)).set_far _ _ (by omega) (by omega), ⟨f3.os, f3.tape, f3.output, by simpa [World.setCell] using f3.size, fun k hk h1 h2 => ?_⟩, by omega, by omega, F2.size⟩
  · have h := set_at (i := 1) (set_at (i := 0) hg (.int .u64 (wd : Nat))) (.int .i64 (n : Nat))
    exact h
  · have := F2.size
    exact ((Below.heap_setCell _ ⟨w2.heap.size, 1, none⟩ _ k (by show k ≠ w2.heap.size; omega)).trans (Below.heap_setCell _ ⟨w2.heap.size, 0, none⟩ _ k (by show k ≠ w2.heap.size; omega))).trans (f3.block k hk h1 h2)
theorem G4.drewN {w4 : World} {p2 : Pg} {g wd n : Nat} (G : G4 w w4 b bm bb sz f p2 g wd n) (k : Nat) : G4 w (w4.drewN k) b bm bb sz f p2 g wd n :=
  ⟨G.hg, Obj_.drewN G.hp k, G.hm.drewN k, ⟨G.fr.os, G.fr.tape, G.fr.output, G.fr.size, G.fr.block⟩, G.n1, G.n2, G.n3⟩
theorem PageAt.left (H : PageAt w b bm p) (u : Nat) : PageAt (w.setCell ⟨b, 4, none⟩ (.int .i64 (u : Nat))) b bm { p with used := u } := by
  have h := Obj_.set H (i := 4) (by omega) (.int .i64 (u : Nat))
  simp only [Nat.zero_add] at h
  refine h.congr fun j hj => ?_
  rcases lt14 hj with rfl | rfl | rfl | rfl | rfl | rfl | rfl | rfl | rfl | rfl | rfl | rfl | rfl | rfl <;> rfl
theorem g4_join {w5 w6 : World} {p2 : Pg} {g wd n : Nat} {f' : Nat → Nat} {L : List Nat} (G : G4 w w5 b bm bb sz f p2 g wd n) (hbm : b ≠ bm) (hgm : g ≠ bm) (hb : b ≠ bb) (hl : 0 < L.length) (J : JoinTo w5.drew b 8 g bm bb sz f' (L.headD 0) ((p2.loc.length : Int) + L.length) w6) :
    PageAt w6 b bm { p2 with loc := L ++ p2.loc } ∧ MemAt w6 bm bb sz f' ∧ PFr w w6 b bb := by
  obtain ⟨w1, hg, M1, rfl⟩ := J
  have hbl := Obj_.lt G.hp (by omega)
  have H1 : PageAt w1 b bm p2 := Obj_.of_block G.hp (hg.block b hbl (by simpa using hb))
  have h := (Obj_.set H1 (i := 8) (by omega) (.int .u64 (L.headD 0 : Nat))).set (i := 9) (by omega) (.int .i64 ((p2.loc.length : Int) + L.length))
  simp only [Nat.zero_add] at h
  have F1 : PFr w w1 b bb := G.fr.trans ⟨hg.os, hg.tape, hg.output, hg.size, fun k hk _ h2 => hg.block k hk (by simpa using h2)⟩
  have F2 : PFr w ((w1.setCell ⟨b, 8, none⟩ (.int .u64 (L.headD 0 : Nat))).setCell ⟨b, 9, none⟩ (.int .i64 ((p2.loc.length : Int) + L.length))).drew b bb := by
    have := (F1.set 8 (.int .u64 (L.headD 0 : Nat))).set 9 (.int .i64 ((p2.loc.length : Int) + L.length))
    exact ⟨this.os, this.tape, this.output, this.size, this.block⟩
  have n1 := G.n1
  have n2 := G.n2
  have n3 := G.n3
  refine ⟨?_, ?_, ⟨F2.os, F2.tape, F2.output, by simpa [World.setCell] using F2.size, fun k hk h1 h2 => ?_⟩⟩
  · refine PageAt.far (g := g) ?_ n1 _ _
    refine PageAt.drew ?_
    refine h.congr fun j hj => ?_
    rcases L with _ | ⟨x, r⟩
    · simp at hl
    · rcases lt14 hj with rfl | rfl | rfl | rfl | rfl | rfl | rfl | rfl | rfl | rfl | rfl | rfl | rfl | rfl <;> first | rfl | (simp [upd, pgV]; done) | (simp [upd, pgV]; omega)
  · exact ((((M1.set_far 8 _ hb hbm).set_far 9 _ hb hbm).drew).set_far _ _ n2 hgm).set_far _ _ n2 hgm
  · exact ((Below.heap_setCell _ ⟨g, 1, none⟩ _ k (by show k ≠ g; omega)).trans (Below.heap_setCell _ ⟨g, 0, none⟩ _ k (by show k ≠ g; omega))).trans (F2.block k hk h1 h2)
theorem stopG {p : Prop} (h : Hid p) : p := h

set_option maxRecDepth 100000 in
set_option maxHeartbeats 4000000 in
theorem pageGather_ok {L : List Nat} (H : PageAt w b bm p) (M : MemAt w bm bb sz f) (hb : b ≠ bb) (hbm : b ≠ bm) (hn : p.n ≤ 1024) (hns : p.n ≤ sz) (hc : Chain f p.word L) (hL : ∀ a ∈ L, a + 8 ≤ sz) (hl0 : 0 < L.length) (hlu : L.length ≤ p.used) (hun : p.used ≤ p.n) (hll : p.loc.length ≤ 1024) (hhd : p.loc.headD 0 < 18446744073709551616) (h0 : 0 ≤ p.asked) (h1 : p.asked < 4611686018427387904) :
    Calls Tryz.prog 68 #[.pointer (some ⟨b, 0, none⟩)] w fun e w' => e = .returned (.tuple #[.int .i64 (L.length : Nat), .int .i64 0]) ∧ PageAt w' b bm { p with loc := L ++ p.loc, used := p.used - L.length, word := 0, tag := IntKind.u64.wrap (p.tag + 1), asked := p.asked + 1, head := 0 } ∧ MemAt w' bm bb sz (putW f (L.getLastD 0) (p.loc.headD 0)) ∧ PFr w w' b bb := by
  have HH := Lib.hid H
  have HM := Lib.hid M
  have HC := Lib.hid hc
  have hs1 := M.s1
  have hbl := Obj_.lt H (by omega)
  have HBM := Lib.hid M.lt_bm
  clear H M hc
  go_enter Tryz.func68, Tryz.ntmps68
  go_wp2_with fail
  (with_reducible refine (swap_any b 10 _ _ _ 0 w (PageAt.posted HH.out) h0 h1).mono ?_)
  rintro e w1 ⟨rfl, hw1⟩
  have H1 : Hid (PageAt w1 b bm { p with word := 0, tag := IntKind.u64.wrap (p.tag + 1), asked := p.asked + 1 }) := by
    have := PageAt.wrote HH.out 0 (IntKind.u64.wrap (p.tag + 1)) (p.asked + 1)
    rw [← hw1]
    exact this
  have M1 : Hid (MemAt w1 bm bb sz f) := by
    rw [← hw1]
    exact ((HM.out.set_far _ _ hb hbm).set_far _ _ hb hbm).set_far _ _ hb hbm
  have F1 : Hid (PFr w w1 b bb) := by
    rw [← hw1]
    exact (((PFr.refl w b bb).set _ _).set _ _).set _ _
  have k13 : w1.cell? ⟨b, 13, none⟩ = some (.int .u64 p.head) := Obj_.at_ (j := 13) H1.out (by omega) rfl
  have z13 : w1.frozen? ⟨b, 13, none⟩ = false := by have := Obj_.frz H1.out 13 (by omega); rwa [Nat.zero_add] at this
  clear hw1 HM HH
  go_wp2_with fail
  obtain ⟨w2, hw2⟩ : ∃ w2, w2 = w1.setCell ⟨b, 13, none⟩ (.int .u64 0) := ⟨_, rfl⟩
  have H2 : Hid (PageAt w2 b bm { p with word := 0, tag := IntKind.u64.wrap (p.tag + 1), asked := p.asked + 1, head := 0 }) := by rw [hw2]; exact H1.out.headed 0
  have M2 : Hid (MemAt w2 bm bb sz f) := by rw [hw2]; exact M1.out.set_far _ _ hb hbm
  have F2 : Hid (PFr w w2 b bb) := by rw [hw2]; exact F1.out.set _ _
  obtain ⟨p2, hp2⟩ : ∃ p2, p2 = ({ p with word := 0, tag := IntKind.u64.wrap (p.tag + 1), asked := p.asked + 1, head := 0 } : Pg) := ⟨_, rfl⟩
  rw [← hp2] at H2
  have hpn : p2.n = p.n := by rw [hp2]
  have HS2 := Lib.hid H2.out.s52
  rw [hpn] at HS2
  have HP2 := Lib.hid hp2
  have hbl2 : b < w2.heap.size := Obj_.lt H2.out (by omega)
  have HCH : Hid (∀ wx, MemAt wx bm bb sz f → Calls Tryz.prog 107 #[.pointer (some ⟨bm, 0, none⟩), .int .u64 p.word, .int .i64 p.n] wx fun e w' => e = .returned (.tuple #[.agg #[.int .u64 p.word, .int .i64 (L.length : Nat)], .int .i64 0]) ∧ Below wx.heap.size wx w') := fun wx hM => chain_ok hM HC.out hL (by omega) (by omega) (by omega)
  rw [← hw2]
  have HW2 := Lib.hid hw2
  have HS5 : Hid (∀ o, (w2.alloc o).drew.cell? ⟨b, 5, none⟩ = some (.pointer (some ⟨bm, 0, none⟩)) ∧ (w2.alloc o).drew.cell? ⟨b, 2, none⟩ = some (.int .i64 p.n)) := (by intro o; have := (PageAt.drew (H2.out.alloc o)).s52; rw [hpn] at this; exact this)
  clear hw2 k13 z13 H1 M1 F1 hp2
  go_region_held3 (fun w' => w'.cell? ⟨b, 5, none⟩ = some (.pointer (some ⟨bm, 0, none⟩)) ∧ w'.cell? ⟨b, 2, none⟩ = some (.int .i64 p.n))
    (first | exact HS2.out | exact HS3.out | exact HS4.out _ | exact HS5.out _ | exact HS6.out _ _ | go_keep | fail)
    (first
      | (go_at_call 107
         (with_reducible refine (HCH.out _ (by first | exact M2.out.drew | exact (M2.out.alloc _).drew)).mono ?_)
         rintro e w3 ⟨rfl, hb3⟩
         have HP3 : Hid (PageAt w3 b bm p2) := (by first | exact PageAt.on H2.out.drew hb3 | exact PageAt.on (PageAt.drew (H2.out.alloc _)) hb3)
         have HS3 : Hid (w3.cell? ⟨b, 5, none⟩ = some (.pointer (some ⟨bm, 0, none⟩)) ∧ w3.cell? ⟨b, 2, none⟩ = some (.int .i64 p.n)) := (by have := HP3.out.s52; rw [hpn] at this; exact this)
         have HS4 : Hid (∀ o, (w3.alloc o).cell? ⟨b, 5, none⟩ = some (.pointer (some ⟨bm, 0, none⟩)) ∧ (w3.alloc o).cell? ⟨b, 2, none⟩ = some (.int .i64 p.n)) := (by intro o; have := (HP3.out.alloc o).s52; rw [hpn] at this; exact this)
         (first
           | (have KG : w3.heap[w2.heap.size]? = some (.cells #[.int .u64 0, .int .i64 0] 145 (0, 0)) := ((hb3.block w2.heap.size (alloc_lt w2 _)).trans (alloc_at w2 _))
              have KG0 : w3.cell? ⟨w2.heap.size, 0, none⟩ = some (.int .u64 0) := (by simp [World.cell?, KG])
              have KG1 : w3.cell? ⟨w2.heap.size, 1, none⟩ = some (.int .i64 0) := (by simp [World.cell?, KG])
              have KZ0 : w3.frozen? ⟨w2.heap.size, 0, none⟩ = false := (by simp [World.frozen?, KG])
              have KZ1 : w3.frozen? ⟨w2.heap.size, 1, none⟩ = false := (by simp [World.frozen?, KG])
              have HKG := Lib.hid KG
              have HS6 : Hid (∀ v v', ((w3.setCell ⟨w2.heap.size, 0, none⟩ v).setCell ⟨w2.heap.size, 1, none⟩ v').cell? ⟨b, 5, none⟩ = some (.pointer (some ⟨bm, 0, none⟩)) ∧ ((w3.setCell ⟨w2.heap.size, 0, none⟩ v).setCell ⟨w2.heap.size, 1, none⟩ v').cell? ⟨b, 2, none⟩ = some (.int .i64 p.n)) := (by intro v v'; have := (PageAt.far (g := w2.heap.size) (i := 0) (j := 1) HP3.out (by omega) v v').s52; rw [hpn] at this; exact this)
              clear KG)
           | skip)
         have HB3 := Lib.hid hb3
         clear hb3)
      | fail)
  all_goals (first
    | (have HG4 := Lib.hid (g4_late (wd := p.word) (n := L.length) F2.out H2.out M2.out HB3.out)
       obtain ⟨w4, hw4⟩ : ∃ w4, w4 = w3.alloc (.cells #[.int .u64 (p.word : Nat), .int .i64 (L.length : Nat)] 145) := ⟨_, rfl⟩
       rw [← hw4] at HG4 ⊢
       clear hw4
       generalize w3.heap.size = g at HG4 ⊢)
    | (have HG4 := Lib.hid (g4_early (wd := p.word) (n := L.length) F2.out H2.out M2.out HB3.out HKG.out)
       obtain ⟨w4, hw4⟩ : ∃ w4, w4 = ((w3.setCell ⟨w2.heap.size, 0, none⟩ (.int .u64 (p.word : Nat))).setCell ⟨w2.heap.size, 1, none⟩ (.int .i64 (L.length : Nat))) := ⟨_, rfl⟩
       rw [← hw4] at HG4 ⊢
       clear hw4 KG0 KG1 KZ0 KZ1
       generalize w2.heap.size = g at HG4 ⊢))
  all_goals
    (try clear HKG HS6)
    clear HCH HS2 HS3 HS4 HS5 HP3 HB3 H2 M2 F2 hbl2
    have hbl4 : b < w4.heap.size := Obj_.lt HG4.out.hp (by omega)
    have hgl4 : g < w4.heap.size := lt_of_block HG4.out.hg
    have hpu : p2.used = p.used := by rw [HP2.out]
    have hpl : p2.loc = p.loc := by rw [HP2.out]
    have c4 : w4.cell? ⟨b, 4, none⟩ = some (.int .i64 p.used) := by have := Obj_.at_ (j := 4) HG4.out.hp (by omega) rfl; rw [Nat.zero_add] at this; rw [this]; show some (Value.int .i64 (p2.used : Nat)) = _; rw [hpu]
    have gl0 : w4.cell? ⟨g, 0, none⟩ = some (.int .u64 (p.word : Nat)) := by simp [World.cell?, HG4.out.hg]
    have gl1 : w4.cell? ⟨g, 1, none⟩ = some (.int .i64 (L.length : Nat)) := by simp [World.cell?, HG4.out.hg]
    have hcmp : ((L.length : Int) > (p.used : Int)) ↔ False := by simp; omega
    go_wp2_with fail
    go_quiet (fail)
    have HG5 := Lib.hid (HG4.out.drewN nq)
    generalize w4.drewN nq = w5 at HG5 ⊢
    clear HG4 c4 gl0 gl1 hbl4 hgl4 hcmp
    have hbl5 : b < w5.heap.size := Obj_.lt HG5.out.hp (by omega)
    have c4 : w5.cell? ⟨b, 4, none⟩ = some (.int .i64 p.used) := by have := Obj_.at_ (j := 4) HG5.out.hp (by omega) rfl; rw [Nat.zero_add] at this; rw [this]; show some (Value.int .i64 (p2.used : Nat)) = _; rw [hpu]
    have z4 : w5.frozen? ⟨b, 4, none⟩ = false := by have := Obj_.frz HG5.out.hp 4 (by omega); rwa [Nat.zero_add] at this
    have c5 : w5.cell? ⟨b, 5, none⟩ = some (.pointer (some ⟨bm, 0, none⟩)) := Obj_.at_ (j := 5) HG5.out.hp (by omega) rfl
    have gl1 : w5.cell? ⟨g, 1, none⟩ = some (.int .i64 (L.length : Nat)) := by simp [World.cell?, HG5.out.hg]
    have c8 : w5.cell? ⟨b, 8, none⟩ = some (.int .u64 (p.loc.headD 0 : Nat)) := by have := Obj_.at_ (j := 8) HG5.out.hp (by omega) rfl; rw [Nat.zero_add] at this; rw [this]; show some (Value.int .u64 (p2.loc.headD 0 : Nat)) = _; rw [hpl]
    have c9 : w5.cell? ⟨b, 9, none⟩ = some (.int .i64 (p.loc.length : Nat)) := by have := Obj_.at_ (j := 9) HG5.out.hp (by omega) rfl; rw [Nat.zero_add] at this; rw [this]; show some (Value.int .i64 (p2.loc.length : Nat)) = _; rw [hpl]
    have z8 : w5.frozen? ⟨b, 8, none⟩ = false := by have := Obj_.frz HG5.out.hp 8 (by omega); rwa [Nat.zero_add] at this
    have z9 : w5.frozen? ⟨b, 9, none⟩ = false := by have := Obj_.frz HG5.out.hp 9 (by omega); rwa [Nat.zero_add] at this
    have hwd : p.word = L.headD 0 := HC.out.head
    have HJ : Hid (Calls Tryz.prog 108 #[.pointer (some ⟨b, 8, none⟩), .pointer (some ⟨bm, 0, none⟩), .pointer (some ⟨g, 0, none⟩)] w5.drew fun e w' => e = .returned (.int .i64 0) ∧ JoinTo w5.drew b 8 g bm bb sz (putW f (L.getLastD 0) (p.loc.headD 0)) (L.headD 0) ((p.loc.length : Int) + L.length) w') :=
      listJoin_ok (w := w5.drew) (o := 8) HG5.out.hm.drew c8 c9 z8 z9 (by rw [← hwd]; exact HG5.out.hg) (by rw [← hwd]; exact HC.out) hL (by omega) hl0 (by omega) HG5.out.n1 hb HG5.out.n2 hhd (by omega) (by omega)
    have HS5 : Hid (w5.cell? ⟨b, 5, none⟩ = some (.pointer (some ⟨bm, 0, none⟩))) := c5
    have hgm : g ≠ bm := fun e => by
      have := HG5.out.n3
      have := HBM.out
      omega
    clear c8 c9 z8 z9 hwd c5
    go_wp2_with fail
    go_region_held3 (fun w' => w'.cell? ⟨b, 5, none⟩ = some (.pointer (some ⟨bm, 0, none⟩)))
      (first | exact HS5.out | exact HS6.out | fail)
      (first
        | (go_at_call 108
           (with_reducible refine HJ.out.mono ?_)
           rintro e w6 ⟨rfl, J6⟩
           obtain ⟨H6, M6, F6⟩ := g4_join (L := L) HG5.out hbm hgm hb hl0 (by rw [hpl]; exact J6)
           have HS6 : Hid (w6.cell? ⟨b, 5, none⟩ = some (.pointer (some ⟨bm, 0, none⟩))) := Obj_.at_ (j := 5) H6 (by omega) rfl
           have HH6 := Lib.hid H6
           have HM6 := Lib.hid M6
           have HF6 := Lib.hid F6
           clear J6 H6 M6 F6)
        | fail)
    have j4 : w6.cell? ⟨b, 4, none⟩ = some (.int .i64 p.used) := by have := Obj_.at_ (j := 4) HH6.out (by omega) rfl; rw [Nat.zero_add] at this; rw [this]; show some (Value.int .i64 (p2.used : Nat)) = _; rw [hpu]
    have y4 : w6.frozen? ⟨b, 4, none⟩ = false := by have := Obj_.frz HH6.out 4 (by omega); rwa [Nat.zero_add] at this
    have hwu : IntKind.i64.wrap ((p.used : Int) - (L.length : Int)) = ((p.used - L.length : Nat) : Int) := by rw [Go.IntWalk.i64_in _ ⟨by omega, by omega⟩]; omega
    clear HS5 HS6 HJ HG5 c4 z4 gl1
    go_wp2_with fail
    go_ret2
    have h7 := HH6.out.left (p.used - L.length)
    rw [HP2.out] at h7
    exact ⟨rfl, h7, HM6.out.set_far _ _ hb hbm, HF6.out.set _ _⟩
end Go.Proofs.YtbljphaklciinaaGreat

/- HeapBack, plain: what hangs on pages' cells; a page ends with all that hangs on it. -/
namespace Go.Proofs.YtbljphaklciinaaGreat
open Go.RowKit
variable {ro ro' : Nat → Role} {hn : Nat} {w w' : World} {B bm bb sz : Nat} {f f' : Nat → Nat} {h h' : HeapR} {S S' : List SegR} {k x n k' r : Nat} {U : List Nat} {a a' : ArR} {W : World} {s : SegR} {p : PageR}

theorem chain_join : ∀ {L : List Nat} {h m : Nat} {M : List Nat} {f : Nat → Nat}, Chain f h L → L ≠ [] → Chain f m M → m < 18446744073709551616 → L.Pairwise (fun a b => a + 8 ≤ b ∨ b + 8 ≤ a) → (∀ a ∈ L, ∀ b ∈ M, a + 8 ≤ b ∨ b + 8 ≤ a) → Chain (putW f (L.getLastD 0) m) h (L ++ M)
  | [], _, _, _, _, _, hne, _, _, _, _ => absurd rfl hne
  | [a], h, m, M, f, hc, _, hm, hml, _, hd => ⟨hc.1, hc.2.1, by
      show Chain (putW f a m) (word (putW f a m) a) M
      rw [word_putW hml]
      exact hm.put (fun b hb => (hd a (by simp) b hb).symm)⟩
  | a :: b :: r, h, m, M, f, hc, _, hm, hml, hp, hd => by
      rw [List.pairwise_cons] at hp
      have hlast : (a :: b :: r).getLastD 0 = (b :: r).getLastD 0 := by simp [List.getLastD_eq_getLast?, List.getLast?_cons_cons]
      have hmem : (b :: r).getLastD 0 ∈ b :: r := by
        rw [List.getLastD_eq_getLast?, List.getLast?_eq_some_getLast (by simp)]
        exact List.getLast_mem (by simp)
      refine ⟨hc.1, hc.2.1, ?_⟩
      rw [hlast, word_other (hp.1 _ hmem)]
      exact chain_join hc.2.2 (by simp) hm hml hp.2 (fun x hx => hd x (by simp only [List.mem_cons] at hx ⊢; exact .inr hx))

theorem last_mem {L : List Nat} (hne : L ≠ []) : L.getLastD 0 ∈ L := by
  rw [List.getLastD_eq_getLast?, List.getLast?_eq_some_getLast hne]
  exact List.getLast_mem hne

theorem blocks_apart {p : Pg} {i j x y : Nat} (h16 : 16 ≤ p.s) (hx : x = p.f + i * p.s) (hy : y = p.f + j * p.s) (hne : x ≠ y) : x + 8 ≤ y ∨ y + 8 ≤ x := by
  rcases Nat.lt_trichotomy i j with h | rfl | h
  · have := mul_apart (s := p.s) h
    omega
  · omega
  · have := mul_apart (s := p.s) h
    omega

/-- A block of a page that is used. -/
def UsedIn (p : Pg) (y : Nat) : Prop := ∃ j, j < p.made ∧ y = p.f + j * p.s ∧ y ∉ p.free ++ p.loc

theorem PgInv.posted_le {p : Pg} (I : PgInv f sz p) {L : List Nat} (hn : L.Nodup) (hb : ∀ y ∈ L, UsedIn p y) : L.length ≤ p.used := by
  have := I.len_le (L := L ++ (p.free ++ p.loc)) (List.nodup_append.2 ⟨hn, I.nd, fun a ha b hb' e => by
    obtain ⟨_, _, _, ho⟩ := hb a ha
    exact ho (e ▸ hb')⟩) (fun y hy => by
    rcases List.mem_append.1 hy with hy | hy
    · obtain ⟨j, hj, e, _⟩ := hb y hy
      exact ⟨j, hj, e⟩
    · exact I.blk y hy)
  have := I.us
  simp only [List.length_append] at *
  omega

theorem PgInv.gathered {p : Pg} (I : PgInv f sz p) {L : List Nat} {t ak : Int} (hs1 : sz ≤ 1048576) (hc : Chain f p.word L) (hne : L ≠ []) (hn : L.Nodup) (hb : ∀ y ∈ L, UsedIn p y) :
    PgInv (putW f (L.getLastD 0) (p.loc.headD 0)) sz { p with loc := L ++ p.loc, used := p.used - L.length, word := 0, tag := t, asked := ak, head := 0 } ∧ (∀ j, j < p.f ∨ p.f + p.n * p.s ≤ j → putW f (L.getLastD 0) (p.loc.headD 0) j = f j) := by
  have h16 := I.s16
  have hlast := last_mem hne
  obtain ⟨j0, hj0, e0, _⟩ := hb _ hlast
  have hin0 := I.in_ (Nat.lt_of_lt_of_le hj0 I.mn)
  have hap : ∀ y ∈ L, ∀ z ∈ p.free ++ p.loc, y + 8 ≤ z ∨ z + 8 ≤ y := fun y hy z hz => by
    obtain ⟨j, hj, e, ho⟩ := hb y hy
    obtain ⟨i, hi, ez⟩ := I.blk z hz
    exact blocks_apart h16 e ez (fun e => ho (e ▸ hz))
  have hhd : p.loc.headD 0 < 18446744073709551616 := by
    rcases hl : p.loc with _ | ⟨y, r⟩
    · simp
    · have := I.a8 (a := y) (by rw [hl]; simp)
      have := I.fit
      simp
      omega
  have hle := I.posted_le hn hb
  refine ⟨⟨I.run, I.fit, I.s16, I.f0, I.mn, ?_, ?_, fun y hy => ?_, ?_, ?_⟩, fun j hj => ?_⟩
  · exact I.fc.put fun z hz => (hap _ hlast z (List.mem_append_left _ hz)).symm
  · have e : (L ++ p.loc).headD 0 = p.word := by
      rw [hc.head]
      cases L with
      | nil => exact absurd rfl hne
      | cons a r => rfl
    show Chain _ ((L ++ p.loc).headD 0) (L ++ p.loc)
    rw [e]
    exact chain_join hc hne I.lc hhd (List.Pairwise.imp_of_mem (fun {y z} hy hz hyz => by
      obtain ⟨j, _, e, _⟩ := hb y hy
      obtain ⟨i, _, e', _⟩ := hb z hz
      exact blocks_apart h16 e e' hyz) hn) (fun y hy z hz => hap y hy z (List.mem_append_right _ hz))
  · have hy' : y ∈ p.free ++ (L ++ p.loc) := hy
    rcases List.mem_append.1 hy' with h | h
    · exact I.blk y (List.mem_append_left _ h)
    · rcases List.mem_append.1 h with h | h
      · obtain ⟨j, hj, e, _⟩ := hb y h
        exact ⟨j, hj, e⟩
      · exact I.blk y (List.mem_append_right _ h)
  · show (p.free ++ (L ++ p.loc)).Nodup
    have hp : (p.free ++ (L ++ p.loc)).Perm (L ++ (p.free ++ p.loc)) := List.perm_append_comm_assoc p.free L p.loc
    rw [hp.nodup_iff]
    exact List.nodup_append.2 ⟨hn, I.nd, fun a ha b hb' e => by
      obtain ⟨_, _, _, ho⟩ := hb a ha
      exact ho (e ▸ hb')⟩
  · have := I.us
    show p.used - L.length + (p.free ++ (L ++ p.loc)).length = p.made
    simp only [List.length_append] at *
    omega
  · unfold putW
    rw [if_neg (by omega)]

theorem ends_sub (K : SOk sz f S) (hs : s ∈ S) (he : EndsAt a S s p.at_ S' a') {t' : SegR} {q : PageR} (ht : t' ∈ S') (hq : q ∈ t'.P) : ∃ t ∈ S, q ∈ t.P ∧ t'.pl = t.pl ∧ (t.pl ≠ s.pl ∨ q.at_ ≠ p.at_) := by
  rcases he with ⟨_, rfl, _⟩ | ⟨_, rfl, _⟩
  · rcases delPg_mem K hs ht with ⟨ht, hne⟩ | rfl
    · exact ⟨t', ht, hq, rfl, .inl hne⟩
    · have := List.mem_filter.1 hq
      exact ⟨s, hs, this.1, rfl, .inr (noAt_iff.1 this.2)⟩
  · have := List.mem_filter.1 ht
    exact ⟨t', this.1, hq, rfl, .inl (noPl_iff.1 this.2)⟩
theorem ends_sup (K : SOk sz f S) (hs : s ∈ S) (he : EndsAt a S s p.at_ S' a') {t : SegR} {q : PageR} (ht : t ∈ S) (hq : q ∈ t.P) (hne : t.pl ≠ s.pl ∨ q.at_ ≠ p.at_) : ∃ t' ∈ S', q ∈ t'.P ∧ t'.pl = t.pl := by
  rcases he with ⟨_, rfl, _⟩ | ⟨hP, rfl, _⟩
  · by_cases e : t.pl = s.pl
    · have := pair_at (F := SegR.pl) K.pls ht hs e
      subst this
      exact ⟨_, mem_delPg ht p.at_, List.mem_filter.2 ⟨hq, noAt_iff.2 (hne.resolve_left (fun h => h rfl))⟩, rfl⟩
    · exact ⟨t, mem_delPg_other ht e, hq, rfl⟩
  · by_cases e : t.pl = s.pl
    · have := pair_at (F := SegR.pl) K.pls ht hs e
      subst this
      have : q ∈ t.P.filter (noAt p.at_) := List.mem_filter.2 ⟨hq, noAt_iff.2 (hne.resolve_left (fun h => h rfl))⟩
      rw [hP] at this
      cases this
    · exact ⟨t, List.mem_filter.2 ⟨ht, noPl_iff.2 e⟩, hq, rfl⟩
theorem ends_used (K : SOk sz f S) (hs : s ∈ S) (hp : p ∈ s.P) (he : EndsAt a S s p.at_ S' a') : usedS S' + p.pg.used = usedS S := by
  rcases he with ⟨_, rfl, _⟩ | ⟨hP, rfl, _⟩
  · exact usedS_del K hs hp
  · have h1 := usedP_del (K.nod s hs) hp
    rw [hP] at h1
    have h2 := usedS_lost K.pls hs
    simp [usedP] at h1
    unfold usedP at h2
    omega
theorem ends_ne (K : SOk sz f S) (ne : NE S) (hs : s ∈ S) (he : EndsAt a S s p.at_ S' a') : NE S' := fun t ht => by
  rcases he with ⟨hP, rfl, _⟩ | ⟨_, rfl, _⟩
  · rcases delPg_mem K hs ht with ⟨ht, _⟩ | rfl
    · exact ne t ht
    · exact hP
  · exact ne t (List.mem_filter.1 ht).1

/-- In a page's range. -/
def inPg (p : Pg) (y : Nat) : Bool := decide (p.f ≤ y ∧ y < p.f + p.n * p.s)

theorem UsedIn.in_pg {p : Pg} (I : PgInv f sz p) {y : Nat} (hy : UsedIn p y) : inPg p y = true := by
  obtain ⟨j, hj, e, _⟩ := hy
  have := I.in_page (Nat.lt_of_lt_of_le hj I.mn) e
  simpa [inPg] using this

/-- Where a block in a page's range is used. -/
theorem InUse.at_ (K : SOk sz f S) (A : SApart S) {y : Nat} (hu : InUse S y) (hs : s ∈ S) (hp : p ∈ s.P) (hy : inPg p.pg y = true) : UsedIn p.pg y := by
  obtain ⟨t, ht, q, hq, j, hj, e, ho⟩ := hu
  have h1 := (K.pag t ht q hq).1.in_page (Nat.lt_of_lt_of_le hj (K.pag t ht q hq).1.mn) e
  have h2 : p.pg.f ≤ y ∧ y < p.pg.f + p.pg.n * p.pg.s := by simpa [inPg] using hy
  obtain ⟨_, rfl⟩ := A.same ht hq hs hp h1.1 h1.2 h2.1 h2.2
  exact ⟨j, hj, e, ho⟩

theorem InUse.apart (K : SOk sz f S) (A : SApart S) {x y : Nat} (hx : InUse S x) (hy : InUse S y) (hne : x ≠ y) : x + 8 ≤ y ∨ y + 8 ≤ x := by
  obtain ⟨s, hs, p, hp, i, hi, ex, _⟩ := hx
  obtain ⟨t, ht, q, hq, j, hj, ey, _⟩ := hy
  have Ip := (K.pag s hs p hp).1
  have Iq := (K.pag t ht q hq).1
  have h1 := Ip.in_ (Nat.lt_of_lt_of_le hi Ip.mn)
  have h2 := Iq.in_ (Nat.lt_of_lt_of_le hj Iq.mn)
  have s1 := Ip.s16
  have s2 := Iq.s16
  by_cases hc : x + 8 ≤ y ∨ y + 8 ≤ x
  · exact hc
  · rcases Nat.le_total x y with hxy | hxy
    · obtain ⟨_, rfl⟩ := A.same hs hp ht hq (x := y) (by omega) (by omega) (by omega) (by omega)
      exact blocks_apart s1 ex ey hne
    · obtain ⟨_, rfl⟩ := A.same hs hp ht hq (x := x) (by omega) (by omega) (by omega) (by omega)
      exact blocks_apart s1 ex ey hne

theorem BInv.perm {U' : List Nat} (I : BInv h U) (hp : U'.Perm U) : BInv h U' :=
  ⟨hp.length_eq.trans I.cnt, fun x hx => I.use x (hp.mem_iff.1 hx), hp.nodup_iff.2 I.nod, I.pos, I.keys⟩

/-- A page ends, and all of it that was used. -/
theorem BInv.dropped (I : BInv h U) (ne : NE h.S) (K : SOk sz f h.S) (hs : s ∈ h.S) (hp : p ∈ s.P) (he : EndsAt a h.S s p.at_ S' a') {U' : List Nat} {i : Nat} {R F : List Int} {k1 k2 : Option Nat}
    (hl : U'.length + p.pg.used = U.length) (hn : U'.Nodup) (hsub : ∀ y ∈ U', y ∈ U ∧ inPg p.pg y = false) (hk : ∀ y, y ≠ keyOf s p → (y ∈ h.Q1 i ∨ y ∈ h.Q2 i) → y ∈ R ∨ y ∈ F) :
    BInv (({ h with S := S' } : HeapR).queued i R F k1 k2) U' ∧ NE S' := by
  refine ⟨⟨?_, fun y hy => ?_, hn, fun t ht q hq => ?_, fun t ht q hq => ?_⟩, ends_ne K ne hs he⟩
  · have := ends_used K hs hp he
    have := I.cnt
    show U'.length = usedS S'
    omega
  · obtain ⟨hyU, hyp⟩ := hsub y hy
    obtain ⟨t, ht, q, hq, j, hj, e, ho⟩ := I.use y hyU
    have hne : t.pl ≠ s.pl ∨ q.at_ ≠ p.at_ := by
      by_cases e1 : t.pl = s.pl
      · right
        intro e2
        have := pair_at (F := SegR.pl) K.pls ht hs e1
        subst this
        have := pair_at (K.nod t ht) hq hp e2
        subst this
        rw [UsedIn.in_pg (K.pag t ht q hq).1 ⟨j, hj, e, ho⟩] at hyp
        cases hyp
      · exact .inl e1
    obtain ⟨t', ht', hq', _⟩ := ends_sup K hs he ht hq hne
    exact ⟨t', ht', q, hq', j, hj, e, ho⟩
  · obtain ⟨t0, ht0, hq0, _⟩ := ends_sub K hs he ht hq
    exact I.pos t0 ht0 q hq0
  · obtain ⟨t0, ht0, hq0, epl, hne⟩ := ends_sub K hs he ht hq
    obtain ⟨c, e, hkk⟩ := I.keys t0 ht0 q hq0
    have ek : keyOf t q = keyOf t0 q := by unfold keyOf; rw [epl]
    have hkne : keyOf t0 q ≠ keyOf s p := fun ek => by
      obtain ⟨rfl, rfl⟩ := K.key_inj ht0 hs hq0 hp ek
      rcases hne with h | h <;> exact h rfl
    refine ⟨c, e, ?_⟩
    rw [ek]
    by_cases ec : c = i
    · subst ec
      rw [q1_queued, q2_queued]
      exact hk _ hkne hkk
    · rw [show (({ h with S := S' } : HeapR).queued i R F k1 k2).Q1 c = h.Q1 c from updF_ne _ _ ec, show (({ h with S := S' } : HeapR).queued i R F k1 k2).Q2 c = h.Q2 c from updF_ne _ _ ec]
      exact hkk

/-- A page whose cell reads otherwise. -/
theorem BInv.celled (I : BInv h U) (K : SOk sz f h.S) (hs : s ∈ h.S) (hp : p ∈ s.P) (x : Nat) (t ak : Int) (d : Nat) : BInv { h with S := setPg s.pl p.at_ { p.pg with word := x, tag := t, asked := ak, head := d } h.S } U := by
  obtain ⟨pg', hpg⟩ : ∃ pg' : Pg, pg' = { p.pg with word := x, tag := t, asked := ak, head := d } := ⟨_, rfl⟩
  rw [← hpg]
  have hu : pg'.used = p.pg.used := by rw [hpg]
  have hself := mem_setPg_self (at_ := p.at_) (pg' := pg') hs
  have hpself := mem_setPP_self (pg' := pg') hp
  refine ⟨?_, fun y hy => ?_, I.nod, fun t ht q hq => ?_, fun t ht q hq => ?_⟩
  · have h1 := usedS_set (pg' := pg') K hs hp
    have h3 := I.cnt
    show U.length = usedS (setPg s.pl p.at_ pg' h.S)
    omega
  · obtain ⟨t, ht, q, hq, j, hj, ey, hoy⟩ := I.use y hy
    by_cases e1 : t.pl = s.pl
    · have := pair_at (F := SegR.pl) K.pls ht hs e1
      subst this
      by_cases e2 : q.at_ = p.at_
      · have := pair_at (K.nod t ht) hq hp e2
        subst this
        exact ⟨_, hself, _, hpself, j, by rw [hpg]; exact hj, by rw [hpg]; exact ey, by rw [hpg]; exact hoy⟩
      · exact ⟨_, hself, q, mem_setPP hq e2, j, hj, ey, hoy⟩
    · exact ⟨t, mem_setPg hs ht e1, q, hq, j, hj, ey, hoy⟩
  · rcases setPg_mem K hs ht with ⟨ht, _⟩ | rfl
    · exact I.pos t ht q hq
    · rcases setPP_mem (K.nod s hs) hp hq with ⟨hq, _⟩ | rfl
      · exact I.pos s hs q hq
      · show 1 ≤ pg'.used
        rw [hu]
        exact I.pos s hs p hp
  · rcases setPg_mem K hs ht with ⟨ht, _⟩ | rfl
    · exact I.keys t ht q hq
    · rcases setPP_mem (K.nod s hs) hp hq with ⟨hq, _⟩ | rfl
      · exact I.keys s hs q hq
      · exact I.keys s hs p hp

theorem sum_eq_at {α : Type} {g g' : α → Nat} : ∀ {l : List α}, (∀ x ∈ l, g x ≤ g' x) → (l.map g').sum ≤ (l.map g).sum → ∀ x ∈ l, g x = g' x
  | [], _, _, _, hx => by cases hx
  | y :: r, hle, hs, x, hx => by
    simp only [List.map_cons, List.sum_cons] at hs
    have h1 := hle y (by simp)
    have h2 : (r.map g).sum ≤ (r.map g').sum := by
      clear hs hx
      have hr : ∀ x ∈ r, g x ≤ g' x := fun x hx => hle x (by simp [hx])
      clear hle h1
      induction r with
      | nil => simp
      | cons z q ih =>
        simp only [List.map_cons, List.sum_cons]
        have := hr z (by simp)
        have := ih (fun x hx => hr x (by simp [hx]))
        omega
    rcases List.mem_cons.1 hx with rfl | hx
    · omega
    · exact sum_eq_at (fun x hx => hle x (by simp [hx])) (by omega) x hx
theorem sum_one_more {α : Type} {g g' : α → Nat} {P : α → Prop} : ∀ {l : List α}, (∀ x ∈ l, g x ≤ g' x) → (∃ x ∈ l, g x + 1 ≤ g' x) → 1 + (l.map g).sum ≤ (l.map g').sum
  | [], _, ⟨x, hx, _⟩ => by cases hx
  | y :: r, hle, ⟨x, hx, h1⟩ => by
    simp only [List.map_cons, List.sum_cons]
    have hy := hle y (by simp)
    have hr : (r.map g).sum ≤ (r.map g').sum := by
      have hr : ∀ x ∈ r, g x ≤ g' x := fun x hx => hle x (by simp [hx])
      clear hx hle hy
      induction r with
      | nil => simp
      | cons z q ih =>
        simp only [List.map_cons, List.sum_cons]
        have := hr z (by simp)
        have := ih (fun x hx => hr x (by simp [hx]))
        omega
    rcases List.mem_cons.1 hx with rfl | hx
    · omega
    · have := sum_one_more (P := P) (l := r) (fun x hx => hle x (by simp [hx])) ⟨x, hx, h1⟩
      omega
theorem len_le_sum {α : Type} {l : List α} {P : α → Nat → Bool} : ∀ {U : List Nat}, (∀ y ∈ U, ∃ x ∈ l, P x y = true) → U.length ≤ (l.map fun x => (U.filter (P x)).length).sum
  | [], _ => Nat.zero_le _
  | y :: r, hU => by
    have ih := len_le_sum (l := l) (P := P) (U := r) (fun z hz => hU z (by simp [hz]))
    have := sum_one_more (P := fun _ : α => True) (l := l) (g := fun x => (r.filter (P x)).length) (g' := fun x => ((y :: r).filter (P x)).length) (fun x _ => by
      show (r.filter (P x)).length ≤ ((y :: r).filter (P x)).length
      rw [List.filter_cons]
      split
      · simp
      · exact Nat.le_refl _) (by
      obtain ⟨x, hx, hP⟩ := hU y (by simp)
      refine ⟨x, hx, ?_⟩
      show (r.filter (P x)).length + 1 ≤ ((y :: r).filter (P x)).length
      rw [List.filter_cons, if_pos hP]
      simp)
    simp only [List.length_cons]
    omega
theorem usedS_flat : ∀ (S : List SegR), usedS S = ((S.flatMap (·.P)).map fun p => p.pg.used).sum
  | [] => rfl
  | s :: r => by
    have := usedS_flat r
    unfold usedS at *
    simp only [List.map_cons, List.sum_cons, List.flatMap_cons, List.map_append, List.sum_append, this]
    rfl

/-- All of a page that is used is told of. -/
theorem BInv.count (I : BInv h U) (K : SOk sz f h.S) (A : SApart h.S) (hs : s ∈ h.S) (hp : p ∈ s.P) : (U.filter (inPg p.pg)).length = p.pg.used := by
  refine sum_eq_at (l := h.S.flatMap (·.P)) (g := fun q => (U.filter (inPg q.pg)).length) (g' := fun q => q.pg.used) (fun q hq => ?_) ?_ p (List.mem_flatMap.2 ⟨s, hs, hp⟩)
  · obtain ⟨t, ht, hq⟩ := List.mem_flatMap.1 hq
    refine (K.pag t ht q hq).1.posted_le (I.nod.filter _) fun y hy => ?_
    have := List.mem_filter.1 hy
    exact (I.use y this.1).at_ K A ht hq this.2
  · have h1 := I.cnt
    rw [usedS_flat] at h1
    have h2 := len_le_sum (l := h.S.flatMap (·.P)) (P := fun q => inPg q.pg) (U := U) (fun y hy => by
      obtain ⟨t, ht, q, hq, j, hj, e, ho⟩ := I.use y hy
      exact ⟨q, List.mem_flatMap.2 ⟨t, ht, hq⟩, UsedIn.in_pg (K.pag t ht q hq).1 ⟨j, hj, e, ho⟩⟩)
    omega
end Go.Proofs.YtbljphaklciinaaGreat

/- Layer 12 (heap): Gather of all of a page that is used. -/
namespace Go.Proofs.YtbljphaklciinaaGreat
open Go.RowKit
variable {ro ro' : Nat → Role} {hn : Nat} {w w' : World} {B bm bb sz : Nat} {f g : Nat → Nat} {h : HeapR} {X : Role → Prop} {a : ArR}

/-- A page whose posted ones were taken. -/
def Pg.took (p : Pg) (L : List Nat) : Pg := { p with loc := L ++ p.loc, used := p.used - L.length, word := 0, tag := IntKind.u64.wrap (p.tag + 1), asked := p.asked + 1, head := 0 }

/-- What Gather leaves: the page ends. -/
def GatherTo (ro : Nat → Role) (hn : Nat) (w : World) (B bm bb sz : Nat) (f : Nat → Nat) (h : HeapR) (a : ArR) (s : SegR) (p : PageR) (i : Nat) (L : List Nat) (w' : World) : Prop :=
  ∃ ro' k1 k2 S' a', (∀ k, k < w.heap.size → ro' k = ro k) ∧ RFr ro w w' (hpT hn) ∧ ArOk ro' w' B h.ba a' ∧ EndsAt a h.S s p.at_ S' a' ∧
    Hp ro' hn w' B bm bb sz (putW f (L.getLastD 0) (p.pg.loc.headD 0)) (({ h with S := S' } : HeapR).queued i (removeS (wakeS (h.Q1 i) (h.Q2 i) ((s.pl * 16 + p.at_ : Nat) : Int)).2.1 (wakeS (h.Q1 i) (h.Q2 i) ((s.pl * 16 + p.at_ : Nat) : Int)).2.2 ((s.pl * 16 + p.at_ : Nat) : Int)).2.1
      (removeS (wakeS (h.Q1 i) (h.Q2 i) ((s.pl * 16 + p.at_ : Nat) : Int)).2.1 (wakeS (h.Q1 i) (h.Q2 i) ((s.pl * 16 + p.at_ : Nat) : Int)).2.2 ((s.pl * 16 + p.at_ : Nat) : Int)).2.2 k1 k2)

set_option maxRecDepth 100000 in
set_option maxHeartbeats 8000000 in
theorem gather_ok (H : Hp ro hn w B bm bb sz f h) (A : ArOk ro w B h.ba a) (AS : ArSeg a h.S) {s : SegR} {p : PageR} (hs : s ∈ h.S) (hp : p ∈ s.P) {i : Nat} (hi : i < 13) (hr : rowIx p.cls = some i) {L : List Nat} (hc : Chain f p.pg.word L) (hne : L ≠ []) (hnd : L.Nodup) (hb : ∀ y ∈ L, UsedIn p.pg y) (hu : L.length = p.pg.used) (h0 : 0 ≤ p.pg.asked) (h1 : p.pg.asked < 4611686018427387904) :
    Calls Tryz.prog 32 #[.pointer (some ⟨h.bh, 0, none⟩), .int .u64 (p.pg.f : Nat)] w fun e w' => e = .returned (.tuple #[.int .i64 (L.length : Nat), .int .i64 0]) ∧ GatherTo ro hn w B bm bb sz f h a s p i L w' := by
  have HH := Lib.hid H
  have HA := Lib.hid A
  have HAS := Lib.hid AS
  have hso := H.hp.segs s hs
  have hpo := hso.pages p hp
  have inv := hpo.inv
  have h16 := inv.s16
  have hfit := inv.fit
  have hf0 := inv.f0
  have hs1 := H.mem.s1
  have hmn := inv.mn
  have hn1 := inv.n1
  have hn0 : 1 ≤ p.pg.n := by have := inv.us; have := List.length_pos_iff.2 hne; omega
  have hus := inv.us
  rw [List.length_append] at hus
  have hl0 : 0 < L.length := List.length_pos_iff.2 hne
  have hns : p.pg.n * 16 ≤ p.pg.n * p.pg.s := Nat.mul_le_mul_left _ h16
  have hc0 := hpo.c0
  have hc1 := hpo.c1
  have hpfit := hpo.fit
  have hps1 := hpo.s1
  have hL8 : ∀ y ∈ L, y + 8 ≤ sz := fun y hy => by
    obtain ⟨j, hj, e, _⟩ := hb y hy
    have := inv.in_ (Nat.lt_of_lt_of_le hj hmn)
    omega
  have HFR := Lib.hid (inv.gathered (t := IntKind.u64.wrap (p.pg.tag + 1)) (ak := p.pg.asked + 1) hs1 hc hne hnd hb)
  have HFIND := Lib.hid (find_any H.hp p.pg.f (by omega))
  rw [H.hp.find_in hs hp (by omega) (by omega)] at HFIND
  simp only [Option.map_some, ptrV] at HFIND
  have HS := Lib.hid hs
  have HP := Lib.hid hp
  have HROW := Lib.hid hr
  have HI := Lib.hid inv
  have HC := Lib.hid hc
  have HL8 := Lib.hid hL8
  obtain ⟨x, hx⟩ : ∃ x, x = p.pg.f := ⟨_, rfl⟩
  rw [← hx] at HFIND ⊢
  clear H A AS hso hpo inv hs hp hr hc hne hnd hb hL8 hx
  go_enter Tryz.func32, Tryz.ntmps32
  go_wp2_with fail
  (with_reducible refine HFIND.out.mono ?_)
  rintro e w1 ⟨rfl, hb1⟩
  have HB1 := Lib.hid hb1
  have HH1 := Lib.hid (HH.out.below hb1)
  have hpo1 := (HH1.out.hp.segs s HS.out).pages p HP.out
  have o0 : w1.cell? ⟨p.bo, 0, none⟩ = some (.pointer (some ⟨p.bp, 0, none⟩)) := hpo1.own.at0 (by omega) rfl
  have hneb : p.bp ≠ bb := fun e => by have h1 := hpo1.rp; rw [e, HH1.out.rb] at h1; cases h1
  have hnem : p.bp ≠ bm := fun e => by have h1 := hpo1.rp; rw [e, HH1.out.rm] at h1; cases h1
  have hhd : p.pg.loc.headD 0 < 18446744073709551616 := by
    rcases hl : p.pg.loc with _ | ⟨y, r⟩
    · simp
    · have := HI.out.a8 (a := y) (by rw [hl]; simp)
      simp
      omega
  have HG : Hid (Calls Tryz.prog 68 #[.pointer (some ⟨p.bp, 0, none⟩)] w1 fun e w' => e = .returned (.tuple #[.int .i64 (L.length : Nat), .int .i64 0]) ∧ PageAt w' p.bp bm (p.pg.took L) ∧ MemAt w' bm bb sz (putW f (L.getLastD 0) (p.pg.loc.headD 0)) ∧ PFr w1 w' p.bp bb) :=
    pageGather_ok hpo1.page HH1.out.mem hneb hnem hn1 (by omega) HC.out HL8.out hl0 (by omega) (by omega) (by omega) hhd h0 h1
  clear hb1 hpo1 HFIND hneb hnem hhd
  go_wp2_with fail
  (with_reducible refine HG.out.mono ?_)
  rintro e w3 ⟨rfl, hpg3, hm3, hfr3⟩
  obtain ⟨T1, T2⟩ := HH1.out.turned HS.out HP.out hfr3 hpg3 hm3 HFR.out.1 HFR.out.2 rfl rfl rfl
  have HH3 : Hid (Hp ro hn w3 B bm bb sz (putW f (L.getLastD 0) (p.pg.loc.headD 0)) { h with S := setPg s.pl p.at_ (p.pg.took L) h.S }) := T1
  have HF3 := Lib.hid T2
  have hs3 : ({ s with P := setPP p.at_ (p.pg.took L) s.P } : SegR) ∈ setPg s.pl p.at_ (p.pg.took L) h.S := List.mem_map.2 ⟨s, HS.out, if_pos rfl⟩
  have hp3 : ({ p with pg := p.pg.took L } : PageR) ∈ setPP p.at_ (p.pg.took L) s.P := List.mem_map.2 ⟨p, HP.out, if_pos rfl⟩
  have HS3 := Lib.hid hs3
  have HP3 := Lib.hid hp3
  have hso3 := HH3.out.hp.segs _ hs3
  have hpo3 := hso3.pages _ hp3
  have o1 : w3.cell? ⟨p.bo, 1, none⟩ = some (.int .i64 p.cls) := HH3.out.own1 (s := { s with P := setPP p.at_ (p.pg.took L) s.P }) (p := { p with pg := p.pg.took L }) hs3 hp3
  have hbo : p.bo < w3.heap.size := Obj_.lt hpo3.own (by omega)
  have HR := Lib.hid (row_any w3.drew h.bh p.cls (by omega) (by omega))
  rw [HROW.out] at HR
  simp only [Option.map_some] at HR
  have HK : Hid (Calls Tryz.prog 47 #[.pointer (some ⟨s.bs, 0, none⟩), .pointer (some ⟨p.bo, 0, none⟩)] w3.drew fun e w' => e = .returned (.int .i64 ((s.pl * 16 + p.at_ : Nat) : Int)) ∧ ∃ k, w' = w3.drew.drewN k) := key_any (hso3.seg.stays (w' := w3.drew) rfl rfl rfl) (Obj_.of_block hpo3.own (w' := w3.drew) rfl) (by omega)
  obtain ⟨key, hkey⟩ : ∃ key : Nat, key = s.pl * 16 + p.at_ := ⟨_, rfl⟩
  rw [← hkey] at HK
  have HKY := Lib.hid hkey
  have KG3 : Hid (w3.drew.cell? ⟨p.bo, 1, none⟩ = some (.int .i64 p.cls)) := o1
  have HO1 := Lib.hid o1
  have hlI : (0 : Int) < (L.length : Int) := by omega
  clear hpg3 hm3 hfr3 T1 T2 hs3 hp3 hso3 hpo3 hkey HG HFR o0
  go_wp2_with fail
  go_region_held3 (fun w' => w'.cell? ⟨p.bo, 1, none⟩ = some (.int .i64 p.cls))
    (first | exact KG3.out | exact KG4.out | exact KG5.out | go_keep | fail)
    (first
      | (go_at_call 39; refine HR.out.mono ?_; rintro e wx ⟨rfl, rfl⟩)
      | (go_at_call 47
         refine HK.out.mono ?_
         rintro e w4 ⟨rfl, kk, hw4⟩
         have B4 : Hid (Below w3.heap.size w3 w4) := by rw [hw4]; exact below_drewN (below_drew (Below.refl _ _)) kk
         have HH4 := Lib.hid (HH3.out.below B4.out)
         have HWK : Hid (Calls Tryz.prog 46 #[.pointer (some ⟨h.bh, 2 * i, none⟩), .int .i64 (key : Int)] w4 fun e w' => e = .returned (.int .i64 (wakeS (h.Q1 i) (h.Q2 i) (key : Int)).1) ∧ QTo w4 w' B h.bh (2 * i) (h.g1 i) (h.g2 i) (wakeS (h.Q1 i) (h.Q2 i) (key : Int)).2.1 (wakeS (h.Q1 i) (h.Q2 i) (key : Int)).2.2) := wake_any w4 B h.bh (2 * i) (h.Q1 i) (h.Q2 i) (h.g1 i) (h.g2 i) (key : Int) (HH4.out.hp.q i hi) HH4.out.b (Nat.le_trans (Nat.succ_le_succ (HH4.out.hp.qlen hi)) (by omega))
         have KG4 : Hid (w4.cell? ⟨p.bo, 1, none⟩ = some (.int .i64 p.cls)) := by rw [hw4]; exact HO1.out
         clear hw4)
      | (go_at_call 46
         (with_reducible refine HWK.out.mono ?_)
         rintro e w5 ⟨rfl, hq5⟩
         obtain ⟨ro5, k1, k2, e5, H5, r5⟩ := HH4.out.wake_to hi _ hq5
         have HE5 := Lib.hid e5
         have HH5 := Lib.hid H5
         have HR5 := Lib.hid r5
         have KG5 : Hid (w5.cell? ⟨p.bo, 1, none⟩ = some (.int .i64 p.cls)) := H5.own1 (s := { s with P := setPP p.at_ (p.pg.took L) s.P }) (p := { p with pg := p.pg.took L }) HS3.out HP3.out
         clear hq5 e5 H5 r5)
      | fail)
  generalize (wakeS (h.Q1 i) (h.Q2 i) (key : Int)).1 = rc at *
  have e1 : ∀ k, k < w.heap.size → ro5 k = ro k := fun k hk => HE5.out k (by
    have h1 := HB1.out.size
    have h3 := HF3.out.size
    have h4 := B4.out.size
    omega)
  have r5 : RFr ro w w5 (hpX hn) := (((RFr.of_below HB1.out : RFr ro w w1 (hpX hn)).over (fun _ _ => rfl) HF3.out).over (fun _ _ => rfl) (RFr.of_below B4.out)).over (fun _ _ => rfl) HR5.out
  have HA5 : Hid (ArOk ro5 w5 B h.ba a) := HA.out.over r5 (fun i => hpX_ar) e1
  have HR := Lib.hid r5
  have HE := Lib.hid e1
  have HT : Hid (Calls Tryz.prog 48 #[.pointer (some ⟨h.bh, 0, none⟩), .pointer (some ⟨s.bs, 0, none⟩), .pointer (some ⟨p.bo, 0, none⟩)] w5 fun e w' => e = .returned (.tuple #[]) ∧
      TidyTo ro5 hn w5 B bm bb sz (putW f (L.getLastD 0) (p.pg.loc.headD 0)) (({ h with S := setPg s.pl p.at_ (p.pg.took L) h.S } : HeapR).queued i (wakeS (h.Q1 i) (h.Q2 i) (key : Int)).2.1 (wakeS (h.Q1 i) (h.Q2 i) (key : Int)).2.2 k1 k2) a { s with P := setPP p.at_ (p.pg.took L) s.P } { p with pg := p.pg.took L } i w') :=
    tidy_end (s := { s with P := setPP p.at_ (p.pg.took L) s.P }) (p := { p with pg := p.pg.took L }) HH5.out HA5.out HAS.out.set HS3.out HP3.out (by show p.pg.used - L.length = 0; omega) hi HROW.out
  clear e1 r5 HWK HR5 KG3 KG4 KG5 HK o1
  go_wp2_with fail
  (with_reducible refine HT.out.mono ?_)
  rintro e w6 ⟨rfl, ro6, q1, q2, S', a', e6, hend, H6, A6, r6⟩
  have HE6 := Lib.hid e6
  have HND := Lib.hid hend
  have HH6 := Lib.hid H6
  have HA6 := Lib.hid A6
  have HR6 := Lib.hid r6
  clear e6 hend H6 A6 r6 HT
  go_wp2_with fail
  go_ret2
  have hk := HKY.out
  subst hk
  have h6 := HH6.out
  rw [show (({ h with S := setPg s.pl p.at_ (p.pg.took L) h.S } : HeapR).queued i (wakeS (h.Q1 i) (h.Q2 i) ((s.pl * 16 + p.at_ : Nat) : Int)).2.1 (wakeS (h.Q1 i) (h.Q2 i) ((s.pl * 16 + p.at_ : Nat) : Int)).2.2 k1 k2).Q1 i = (wakeS (h.Q1 i) (h.Q2 i) ((s.pl * 16 + p.at_ : Nat) : Int)).2.1 from updF_same _ _ _,
    show (({ h with S := setPg s.pl p.at_ (p.pg.took L) h.S } : HeapR).queued i (wakeS (h.Q1 i) (h.Q2 i) ((s.pl * 16 + p.at_ : Nat) : Int)).2.1 (wakeS (h.Q1 i) (h.Q2 i) ((s.pl * 16 + p.at_ : Nat) : Int)).2.2 k1 k2).Q2 i = (wakeS (h.Q1 i) (h.Q2 i) ((s.pl * 16 + p.at_ : Nat) : Int)).2.2 from updF_same _ _ _, HeapR.queued_set] at h6
  have hsz := HR.out.size
  exact ⟨by rw [hu]; rfl, ro6, q1, q2, S', a', fun k hk => (HE6.out k (by omega)).trans (HE.out k hk), (HR.out.mono fun r h => .inl (.inl h)).over HE.out HR6.out, HA6.out, HND.out.of_set, h6⟩
end Go.Proofs.YtbljphaklciinaaGreat

/- HeapBack, plain: what hangs on the pages' cells, through all that is done. -/
namespace Go.Proofs.YtbljphaklciinaaGreat
open Go.RowKit
variable {ro ro' : Nat → Role} {hn : Nat} {w w' : World} {B bm bb sz : Nat} {f f' : Nat → Nat} {h h' : HeapR} {S S' : List SegR} {k x n k' r m m' : Nat} {U R : List Nat} {a a' : ArR} {W : World} {s : SegR} {p : PageR}

/-- What hangs on each page's cell: those of R that lie in it. -/
def GP (f : Nat → Nat) (S : List SegR) (R : List Nat) (m : Nat) : Prop := ∀ s ∈ S, ∀ p ∈ s.P, Chain f p.pg.word (R.filter (inPg p.pg)) ∧ 0 ≤ p.pg.asked ∧ p.pg.asked ≤ m

theorem GP.mono (G : GP f S R m) (hm : m ≤ m') : GP f S R m' := fun s hs p hp => have h := G s hs p hp; ⟨h.1, h.2.1, by have := h.2.2; omega⟩
theorem GP.put {v : Nat} (G : GP f S R m) (hd : ∀ y ∈ R, y + 8 ≤ x ∨ x + 8 ≤ y) : GP (putW f x v) S R m := fun s hs p hp => have h := G s hs p hp; ⟨h.1.put fun b hb => hd b (List.mem_filter.1 hb).1, h.2⟩
theorem GP.set {pg' : Pg} (G : GP f S R m) (K : SOk sz f' S) (hs : s ∈ S) (hp : p ∈ s.P) (h1 : Chain f pg'.word (R.filter (inPg pg')) ∧ 0 ≤ pg'.asked ∧ pg'.asked ≤ m) : GP f (setPg s.pl p.at_ pg' S) R m := fun t ht q hq => by
  rcases setPg_mem K hs ht with ⟨ht, _⟩ | rfl
  · exact G t ht q hq
  · rcases setPP_mem (K.nod s hs) hp hq with ⟨hq, _⟩ | rfl
    · exact G s hs q hq
    · exact h1
theorem GP.ends (G : GP f S R m) (K : SOk sz f' S) (hs : s ∈ S) (he : EndsAt a S s p.at_ S' a') : GP f S' R m := fun t ht q hq => by
  obtain ⟨t0, ht0, hq0, _⟩ := ends_sub K hs he ht hq
  exact G t0 ht0 q hq0

theorem not_in_other (K : SOk sz f S) (A : SApart S) (hs : s ∈ S) (hp : p ∈ s.P) {t : SegR} {q : PageR} (ht : t ∈ S) (hq : q ∈ t.P) (hne : t.pl ≠ s.pl ∨ q.at_ ≠ p.at_) {y : Nat} (hy : inPg p.pg y = true) : inPg q.pg y = false := by
  cases e : inPg q.pg y with
  | false => rfl
  | true =>
    have h1 : p.pg.f ≤ y ∧ y < p.pg.f + p.pg.n * p.pg.s := by simpa [inPg] using hy
    have h2 : q.pg.f ≤ y ∧ y < q.pg.f + q.pg.n * q.pg.s := by simpa [inPg] using e
    obtain ⟨rfl, rfl⟩ := A.same hs hp ht hq h1.1 h1.2 h2.1 h2.2
    rcases hne with h | h <;> exact absurd rfl h

/-- A block is posted. -/
theorem GP.post {tg : Int} (G : GP f S R m) (K : SOk sz f S) (A : SApart S) (hsz : sz ≤ 1048576) (hs : s ∈ S) (hp : p ∈ s.P) (hx : UsedIn p.pg x) (hR : ∀ y ∈ R, InUse S y ∧ y ≠ x) (ham : p.pg.asked + 1 ≤ m') (hm : m ≤ m') :
    GP (putW f x p.pg.word) (setPg s.pl p.at_ { p.pg with word := x, tag := tg, asked := p.pg.asked + 1, head := x } S) (x :: R) m' := by
  have Ip := (K.pag s hs p hp).1
  have hin := hx.in_pg Ip
  obtain ⟨j, hj, ex, ho⟩ := hx
  have hux : InUse S x := ⟨s, hs, p, hp, j, hj, ex, ho⟩
  have hd : ∀ y ∈ R, y + 8 ≤ x ∨ x + 8 ≤ y := fun y hy => (hR y hy).1.apart K A hux (hR y hy).2
  have hx0 : x ≠ 0 := by have := Ip.f0; omega
  have hg := G s hs p hp
  have hw : p.pg.word < 18446744073709551616 := by
    rw [hg.1.head]
    cases hl : R.filter (inPg p.pg) with
    | nil => simp
    | cons z q =>
      have hz : z ∈ R.filter (inPg p.pg) := by rw [hl]; simp
      obtain ⟨i, hi, ez, _⟩ := (hR z (List.mem_filter.1 hz).1).1.at_ K A hs hp (List.mem_filter.1 hz).2
      have h1 := Ip.in_ (Nat.lt_of_lt_of_le hi Ip.mn)
      have h2 := Ip.fit
      simp
      omega
  intro t ht q hq
  have other : ∀ {t q}, t ∈ S → q ∈ t.P → (t.pl ≠ s.pl ∨ q.at_ ≠ p.at_) → Chain (putW f x p.pg.word) q.pg.word ((x :: R).filter (inPg q.pg)) ∧ 0 ≤ q.pg.asked ∧ q.pg.asked ≤ m' := fun {t q} ht hq hne => by
    have h1 := G t ht q hq
    rw [List.filter_cons, if_neg (by rw [not_in_other K A hs hp ht hq hne hin]; simp)]
    exact ⟨h1.1.put fun b hb => hd b (List.mem_filter.1 hb).1, h1.2.1, by have := h1.2.2; omega⟩
  rcases setPg_mem K hs ht with ⟨ht, hne⟩ | rfl
  · exact other ht hq (.inl hne)
  · rcases setPP_mem (K.nod s hs) hp hq with ⟨hq, hne⟩ | rfl
    · exact other hs hq (.inr hne)
    · have e : (x :: R).filter (inPg p.pg) = x :: R.filter (inPg p.pg) := by rw [List.filter_cons, if_pos hin]
      refine ⟨?_, by show 0 ≤ p.pg.asked + 1; have := hg.2.1; omega, ham⟩
      show Chain (putW f x p.pg.word) x ((x :: R).filter (inPg p.pg))
      rw [e]
      exact hg.1.cons hx0 hw (fun b hb => hd b (List.mem_filter.1 hb).1)

/-- A page is gathered: its blocks go. -/
theorem GP.gathered {v : Nat} (G : GP f S R m) (K : SOk sz f S) (A : SApart S) (hs : s ∈ S) (hp : p ∈ s.P) (hR : ∀ y ∈ R, InUse S y) (hne : R.filter (inPg p.pg) ≠ []) (he : EndsAt a S s p.at_ S' a') :
    GP (putW f ((R.filter (inPg p.pg)).getLastD 0) v) S' (R.filter fun y => !inPg p.pg y) m := fun t ht q hq => by
  obtain ⟨t0, ht0, hq0, _, hne2⟩ := ends_sub K hs he ht hq
  have h1 := G t0 ht0 q hq0
  have hl := last_mem hne
  have hl2 := List.mem_filter.1 hl
  have e : (R.filter fun y => !inPg p.pg y).filter (inPg q.pg) = R.filter (inPg q.pg) := by
    rw [List.filter_filter]
    refine List.filter_congr fun y hy => ?_
    cases ep : inPg p.pg y with
    | false => simp
    | true => rw [not_in_other K A hs hp ht0 hq0 hne2 ep]; rfl
  rw [e]
  refine ⟨h1.1.put fun b hb => ?_, h1.2⟩
  have hb2 := List.mem_filter.1 hb
  refine (hR b hb2.1).apart K A (hR _ hl2.1) (fun eb => ?_)
  have := not_in_other K A hs hp ht0 hq0 hne2 hl2.2
  rw [← eb, hb2.2] at this
  cases this

/-- Nothing hangs on any page's cell. -/
def W0 (S : List SegR) : Prop := ∀ s ∈ S, ∀ p ∈ s.P, p.pg.word = 0 ∧ p.pg.asked = 0
theorem W0.gp (H : W0 S) : GP f S [] 0 := fun s hs p hp => have h := H s hs p hp; ⟨h.1, by omega, by have := h.2; omega⟩
theorem setPg_w0 {pl at_ : Nat} {pg : Pg} (hS : W0 S) (h : pg.word = 0 ∧ pg.asked = 0) : W0 (setPg pl at_ pg S) := fun s hs q hq => by
  obtain ⟨t, ht, rfl⟩ := List.mem_map.1 hs
  by_cases e : t.pl = pl
  · rw [if_pos e] at hq
    obtain ⟨q0, hq0, rfl⟩ := List.mem_map.1 hq
    by_cases e2 : q0.at_ = at_
    · rw [if_pos e2]; exact h
    · rw [if_neg e2]; exact hS t ht q0 hq0
  · rw [if_neg e] at hq
    exact hS t ht q hq
theorem addPg_w0 {pl : Nat} {q : PageR} (hS : W0 S) (h : q.pg.word = 0 ∧ q.pg.asked = 0) : W0 (addPg pl q S) := fun s hs u hu => by
  obtain ⟨t, ht, rfl⟩ := List.mem_map.1 hs
  unfold addI at hu
  by_cases e : t.pl = pl
  · rw [if_pos e] at hu
    rcases List.mem_append.1 hu with hu | hu
    · exact hS t ht u hu
    · simp only [List.mem_singleton] at hu
      subst hu
      exact h
  · rw [if_neg e] at hu
    exact hS t ht u hu
theorem GetR.w0 {c : Int} {i sl Sz N : Nat} {y : Option Nat} (hg : GetR sz n k f h c i sl Sz N y f' h' k') (ho : W0 h.S) : W0 h'.S := by
  have new : ∀ {h h' : HeapR} {x : Nat} {f f'}, GNew sz f h c i sl Sz N x f' h' → W0 h.S → W0 h'.S := fun hg ho => by
    obtain ⟨s, hs, at_, bo, bp, pg', k1, k2, _, _, _, hgot, rfl⟩ := hg
    exact addPg_w0 ho ⟨hgot.sw.1, hgot.sw.2.2.1⟩
  rcases hg with ⟨x, rfl, _, ⟨kk, s, hs, p, hp, pg', k1, k2, _, _, _, hgot, rfl⟩, rfl⟩ | ⟨h1, h2, hg⟩
  · have := ho s hs p hp
    exact setPg_w0 ho ⟨hgot.sw.1.trans this.1, hgot.sw.2.2.1.trans this.2⟩
  · have h1o : h1.S = h.S := by
      rcases h2 with ⟨_, k1, k2, _, rfl⟩ | ⟨_, rfl⟩
      · rfl
      · rfl
    have ho1 : W0 h1.S := by rw [h1o]; exact ho
    rcases hg with ⟨x, rfl, hg, rfl⟩ | ⟨_, _, h3, x, rfl, ⟨s, gs, hpl, hP, hx, rfl⟩, hg, rfl⟩ | ⟨_, _, rfl, rfl, rfl, rfl⟩
    · exact new hg ho1
    · exact new hg (fun t ht q hq => by
        rcases List.mem_append.1 ht with ht | ht
        · exact ho1 t ht q hq
        · simp only [List.mem_singleton] at ht
          subst ht
          rw [hP] at hq
          cases hq)
    · exact ho1
end Go.Proofs.YtbljphaklciinaaGreat

/- HeapBack: the law's states while blocks come; what holds while they go. -/
namespace Go.Proofs.YtbljphaklciinaaGreat
open Go.RowKit
variable {ro ro' : Nat → Role} {w w' : World} {bm bb : Nat} {f f' : Nat → Nat} {h h' : HeapR} {S S' : List SegR} {k x n r m m' : Nat} {U R : List Nat} {a a' : ArR} {W : World} {s : SegR} {p : PageR} {bh ba rb : Nat} {v v' : Value} {G : List (Nat × Nat)}

/-- The law's own block, and its row. -/
def runCs (bh : Nat) (v : Value) : Array Value := #[.pointer (some ⟨bh, 0, none⟩), .pointer none, v]
structure RunAt (W : World) (ro : Nat → Role) (bh rb : Nat) (v : Value) (U : List Nat) (w : World) : Prop where
  ot : ro rb = .other
  old : W.heap.size ≤ rb
  blk : w.heap[rb]? = some (.cells (runCs bh v) 73)
  own : OwnU W ro v U w
  ne : v.ownBlock ≠ some rb

theorem RunAt.stay (Q : RunAt W ro bh rb v U w) (hs : Stay ro w ro' w') : RunAt W ro' bh rb v U w' :=
  have h := hs.2 rb (lt_of_block Q.blk) Q.ot
  ⟨h.2, Q.old, h.1.trans Q.blk, Q.own.stay hs, Q.ne⟩
theorem run_cells (hb : w.heap[rb]? = some (.cells (runCs bh v) 73)) : w.cell? ⟨rb, 0, none⟩ = some (.pointer (some ⟨bh, 0, none⟩)) ∧ w.cell? ⟨rb, 2, none⟩ = some v ∧ w.frozen? ⟨rb, 2, none⟩ = false := by
  refine ⟨?_, ?_, by simp [World.frozen?, hb]⟩
  · rw [cell_of_row w rb 0 _ _ _ hb]; rfl
  · rw [cell_of_row w rb 2 _ _ _ hb]; rfl

/-- While blocks come. -/
def Z1 (W : World) (ro : Nat → Role) (bh ba k : Nat) (U : List Nat) (w : World) : Prop :=
  ∃ bm bb f h a kk, MS W ro w bm bb f h a 16 kk k U ∧ W0 h.S ∧ h.bh = bh ∧ h.ba = ba

theorem Z1.below (M : Z1 W ro bh ba k U w) : Below W.heap.size W w := by
  obtain ⟨bm, bb, f, h, a, kk, M, _⟩ := M
  exact M.law.below
theorem Z1.on (M : Z1 W ro bh ba k U w) (hb : Below w.heap.size w w') : Z1 W ro bh ba k U w' := by
  obtain ⟨bm, bb, f, h, a, kk, M, e⟩ := M
  exact ⟨bm, bb, f, h, a, kk, M.on hb, e⟩
theorem Z1.cut (M : Z1 W ro bh ba k U w) : Z1 W (cutR ro w.heap.size) bh ba k U w := by
  obtain ⟨bm, bb, f, h, a, kk, M, e⟩ := M
  exact ⟨bm, bb, f, h, a, kk, { M with law := M.law.cut rfl }, e⟩
theorem Z1.own {go : Option Nat} (M : Z1 W ro bh ba k U w) (hg : w.grownBy w' go) (hr : ∀ b, go = some b → ro b = .other ∧ W.heap.size ≤ b) : Z1 W ro bh ba k U w' := by
  obtain ⟨bm, bb, f, h, a, kk, M, e⟩ := M
  exact ⟨bm, bb, f, h, a, kk, { M with law := M.law.own hg hr }, e⟩

theorem Z1.begin {bk bt : Nat} (L : LawH W ro 0 w bm bb (16 * 16384) f (newHR bh ba 7) (newAr bk bt 16)) :
    Z1 W (cutR ro w.heap.size) bh ba 0 [] (w.alloc (.cells (runCs bh (.slice none 0 0)) 73)) ∧ RunAt W (cutR ro w.heap.size) bh w.heap.size (.slice none 0 0) [] (w.alloc (.cells (runCs bh (.slice none 0 0)) 73)) := by
  refine ⟨⟨bm, bb, f, _, _, 0, MS.new ((L.cut rfl).on ((Below.refl _ _).alloc (Nat.le_refl _) _)), nofun, rfl, rfl⟩, if_neg (by omega), L.below.size, ?_, ⟨World.ownsRow_nil _ _ _ _, nofun⟩, nofun⟩
  show (w.heap.push _)[w.heap.size]? = _
  simp

theorem Z1.get (M : Z1 W ro bh ba k U w) (hr : k < 1000000) {nn : Int} (h0 : 0 ≤ nn) :
    Calls Tryz.prog 11 #[.pointer (some ⟨bh, 0, none⟩), .int .u64 nn] w fun e w' => ∃ ro', Stay ro w ro' w' ∧
      ((∃ (x : Nat) (v : Nat), e = .returned (.tuple #[.int .u64 x, .int .u64 v, .bool true]) ∧ Z1 W ro' bh ba (k + 1) (U ++ [x]) w') ∨ (e = .returned (.tuple #[.int .u64 0, .int .u64 0, .bool false]) ∧ Z1 W ro' bh ba (k + 1) U w')) := by
  obtain ⟨bm, bb, f, h, a, kk, M, w0, rfl, rfl⟩ := M
  refine (get_any M.law M.ka (by omega) hr h0).mono ?_
  rintro e w' ⟨c, q, i, sl, S, N, hp, y, f', h', k', ro', a', rfl, hg, L', K', e1, e2, hs⟩
  obtain ⟨g1, g2, g3⟩ := hg.also M.len M.own
  obtain ⟨b1, b2⟩ := M.bi.got M.ne M.law.hp.hp.sok M.law.hp.hp.sapart L'.hp.hp.sok L'.hp.hp.sapart M.ka.pls hp hg
  refine ⟨ro', hs, ?_⟩
  rcases b2 with ⟨x, rfl, I'⟩ | ⟨rfl, I'⟩
  · exact .inl ⟨x, S, rfl, bm, bb, f', h', a', k', ⟨L', K', I', b1, g1, g2⟩, hg.w0 w0, e1, e2⟩
  · exact .inr ⟨rfl, bm, bb, f', h', a', k', ⟨L', K', I', b1, g1, g2⟩, hg.w0 w0, e1, e2⟩

/-- The row grows, and is put into the law's block. -/
theorem RunAt.mid {ob : Obj} (Q : RunAt W ro bh rb v U w) (hg : (w.alloc ob).grownBy w' v.ownBlock) : w'.heap[rb]? = some (.cells (runCs bh v) 73) :=
  have hl := lt_of_block Q.blk
  ((hg.block rb (by simp; omega) (fun e => Q.ne e.symm)).trans (Below.heap_alloc w _ rb hl)).trans Q.blk
theorem Z1.app {ob : Obj} {U0 : List Nat} (M : Z1 W ro bh ba k U w) (Q : RunAt W ro bh rb v U0 w) (hown : w'.ownsRow W.heap.size 29 1 v' (U0.length + 1) (rowU U0 ++ [.int .u64 (x : Nat)])) (hg : (w.alloc ob).grownBy w' v.ownBlock) (hat : v'.ownBlock = v.ownBlock ∨ v'.ownBlock = some (w.alloc ob).heap.size) :
    Z1 W (cutR ro w.heap.size) bh ba k U (w'.setCell ⟨rb, 2, none⟩ v') ∧ RunAt W (cutR ro w.heap.size) bh rb v' (U0 ++ [x]) (w'.setCell ⟨rb, 2, none⟩ v') := by
  have hl := lt_of_block Q.blk
  have hne : v'.ownBlock ≠ some rb := at_ne hl Q.ne hat
  have hrb : cutR ro w.heap.size rb = .other := by unfold cutR; rw [if_pos hl]; exact Q.ot
  have hmid := Q.mid hg
  have O' := Q.own.app hown hat
  refine ⟨((M.cut.on ((Below.refl _ _).alloc (Nat.le_refl _) _)).own hg (fun b hb => ⟨?_, (Q.own.1.lt b hb).1⟩)).own (only_set (World.grownBy.refl w' _) _) (fun b hb => by obtain rfl := Option.some.inj hb; exact ⟨hrb, Q.old⟩), hrb, Q.old, ?_, ⟨own_stays O'.1 (fun b hb => Below.heap_setCell w' ⟨rb, 2, none⟩ v' b (fun e => hne (by rw [hb, e]))), O'.2⟩, hne⟩
  · unfold cutR
    rw [if_pos (Q.own.1.lt b hb).2]
    exact Q.own.2 b hb
  · show (w'.heap.modify rb _)[rb]? = _
    rw [Array.getElem?_modify, if_pos rfl, hmid]
    rfl

/-- While blocks go. -/
structure BS (W : World) (ro : Nat → Role) (bh ba m : Nat) (U R : List Nat) (w : World) (bm bb : Nat) (f : Nat → Nat) (h : HeapR) (a : ArR) : Prop where
  law : LawH W ro 0 w bm bb (16 * 16384) f h a
  eh : h.bh = bh
  ea : h.ba = ba
  bi : BInv h (U ++ R)
  ne : NE h.S
  ai : AInv a h.S
  gp : GP f h.S R m
  an : a.n = 16
/-- Where the segments lie. -/
def Gof (S : List SegR) : List (Nat × Nat) := S.map fun s => (s.bs, s.pl)
def BG (W : World) (ro : Nat → Role) (bh ba m : Nat) (U R : List Nat) (G : List (Nat × Nat)) (w : World) : Prop := ∃ bm bb f h a, BS W ro bh ba m U R w bm bb f h a ∧ Gof h.S = G

theorem Z1.back (M : Z1 W ro bh ba k U w) : ∃ G, BG W ro bh ba 0 U [] G w := by
  obtain ⟨bm, bb, f, h, a, kk, M, w0, e1, e2⟩ := M
  exact ⟨_, bm, bb, f, h, a, ⟨M.law, e1, e2, by rw [List.append_nil]; exact M.bi, M.ne, AInv.of_ka M.ka (by omega) M.len M.law.hp.hp.pls, w0.gp, M.ka.en⟩, rfl⟩
theorem BS.mono (M : BS W ro bh ba m U R w bm bb f h a) (hm : m ≤ m') : BS W ro bh ba m' U R w bm bb f h a := { M with gp := M.gp.mono hm }
theorem BG.mono (M : BG W ro bh ba m U R G w) (hm : m ≤ m') : BG W ro bh ba m' U R G w := by
  obtain ⟨bm, bb, f, h, a, M, e⟩ := M
  exact ⟨bm, bb, f, h, a, M.mono hm, e⟩
theorem BS.on (M : BS W ro bh ba m U R w bm bb f h a) (hb : Below w.heap.size w w') : BS W ro bh ba m U R w' bm bb f h a := { M with law := M.law.on hb }
theorem BS.cut (M : BS W ro bh ba m U R w bm bb f h a) : BS W (cutR ro w.heap.size) bh ba m U R w bm bb f h a := { M with law := M.law.cut rfl }
theorem BG.on (M : BG W ro bh ba m U R G w) (hb : Below w.heap.size w w') : BG W ro bh ba m U R G w' := by
  obtain ⟨bm, bb, f, h, a, M, e⟩ := M
  exact ⟨bm, bb, f, h, a, M.on hb, e⟩
theorem BG.cut (M : BG W ro bh ba m U R G w) : BG W (cutR ro w.heap.size) bh ba m U R G w := by
  obtain ⟨bm, bb, f, h, a, M, e⟩ := M
  exact ⟨bm, bb, f, h, a, M.cut, e⟩
theorem BG.below (M : BG W ro bh ba m U R G w) : Below W.heap.size W w := by
  obtain ⟨bm, bb, f, h, a, M, e⟩ := M
  exact M.law.below
theorem BS.lt (M : BS W ro bh ba m U R w bm bb f h a) (hx : x ∈ U ++ R) : x < 18446744073709551616 := by
  obtain ⟨s, hs, p, hp, q, hq, hxe, ho⟩ := M.bi.use x hx
  have inv := ((M.law.hp.hp.segs s hs).pages p hp).inv
  have hin := inv.in_ (Nat.lt_of_lt_of_le hq inv.mn)
  have h16 := inv.s16
  have hfit := inv.fit
  omega
theorem BG.lt (M : BG W ro bh ba m U R G w) (hx : x ∈ U ++ R) : x < 18446744073709551616 := by
  obtain ⟨bm, bb, f, h, a, M, e⟩ := M
  exact M.lt hx

/-- A block is given back. -/
theorem BG.free (M : BG W ro bh ba m (x :: U) R G w) : Calls Tryz.prog 16 #[.pointer (some ⟨bh, 0, none⟩), .int .u64 x] w fun e w' => e = .returned (.int .i64 0) ∧ ∃ ro' G', BG W ro' bh ba m U R G' w' ∧ Stay ro w ro' w' := by
  obtain ⟨bm, bb, f, h, a, ⟨L, rfl, rfl, I, ne, A, gp, an⟩, _⟩ := M
  have K := L.hp.hp.sok
  have SA := L.hp.hp.sapart
  have hx : x ∈ (x :: U) ++ R := by simp
  have hux := I.use x hx
  obtain ⟨s, hs, p, hp, q, hq, hxe, ho⟩ := I.use x hx
  obtain ⟨i, hr, _⟩ := I.keys s hs p hp
  have hnx : ∀ y ∈ R, y + 8 ≤ x ∨ x + 8 ≤ y := fun y hy => (I.use y (by simp [hy])).apart K SA hux (fun e => by
    have hn := I.nod
    rw [List.cons_append, List.nodup_cons] at hn
    exact hn.1 (by rw [← e]; simp [hy]))
  refine (free_ok L.hp L.ar A.seg hs hp (rowIx_lt hr) hr hq hxe ho).mono ?_
  rintro e w' ⟨rfl, ro', R', F, k1, k2, S', a', he, rr, A', H, hk⟩
  have L' := L.step H A' rr hpT_other he
  have gp1 := gp.put (v := p.pg.loc.headD 0) hnx
  refine ⟨rfl, ro', _, ⟨bm, bb, _, _, a', ⟨L', rfl, rfl, ?_, ?_, ?_, ?_, ?_⟩, rfl⟩, Stay.of_fr rr hpT_other he⟩
  all_goals (rcases hk with ⟨hu, rfl, rfl, rfl, rfl⟩ | ⟨hu, hend, rfl, rfl⟩)
  · have := I.gave K SA hx hs hp hq hxe ho hu (i := i) (k1 := k1) (k2 := k2)
    rw [List.cons_append, List.erase_cons_head] at this
    exact this
  · have := (I.ended K SA hx hs hp hq hxe ho hu hend ne (i := i) (k1 := k1) (k2 := k2)).1
    rw [List.cons_append, List.erase_cons_head] at this
    exact this
  · intro t ht
    obtain ⟨t0, ht0, rfl⟩ := List.mem_map.1 ht
    split
    · intro e
      exact ne t0 ht0 (List.map_eq_nil_iff.1 (show setPP p.at_ (p.pg.gave x) t0.P = [] from e))
    · exact ne t0 ht0
  · exact (I.ended K SA hx hs hp hq hxe ho hu hend ne (i := i) (k1 := k1) (k2 := k2)).2
  · exact A.set
  · exact (A.ends L.hp.hp.pls hs hend).1
  · exact gp1.set K hs hp (gp1 s hs p hp)
  · exact gp1.ends K hs hend
  · exact an
  · exact (A.ends L.hp.hp.pls hs hend).2.trans an

def segG (G : List (Nat × Nat)) : List Value := G.map fun g => .pointer (some ⟨g.1, 0, none⟩)
theorem BG.segs (M : BG W ro bh ba m U R G w) : Calls Tryz.prog 23 #[.pointer (some ⟨bh, 0, none⟩)] w (NewSegs w (segG G)) := by
  obtain ⟨bm, bb, f, h, a, ⟨L, rfl, rfl, I, ne, A, gp, an⟩, rfl⟩ := M
  have e : segG (Gof h.S) = segP h.S := by unfold segG Gof segP; rw [List.map_map]; rfl
  rw [e]
  exact segs_any L.hp.hp
end Go.Proofs.YtbljphaklciinaaGreat

/- HeapBack: posts and gathers, call by call. -/
namespace Go.Proofs.YtbljphaklciinaaGreat
open Go.RowKit
variable {ro ro' : Nat → Role} {hn B sz : Nat} {w w' : World} {bm bb : Nat} {f f' : Nat → Nat} {h h' : HeapR} {S S' : List SegR} {k x n r m m' j : Nat} {U R : List Nat} {a a' : ArR} {W : World} {s : SegR} {p : PageR} {bh ba rb bo bp word : Nat} {v v' : Value} {G : List (Nat × Nat)} {g : Nat × Nat} {tag : Int} {K : List Int}

theorem NE.set {pl at_ : Nat} {pg : Pg} (ne : NE S) : NE (setPg pl at_ pg S) := fun t ht => by
  obtain ⟨t0, ht0, rfl⟩ := List.mem_map.1 ht
  split
  · intro e
    exact ne t0 ht0 (List.map_eq_nil_iff.1 (show setPP at_ pg t0.P = [] from e))
  · exact ne t0 ht0
theorem Gof_set {pl at_ : Nat} {pg : Pg} : Gof (setPg pl at_ pg S) = Gof S := by
  unfold Gof setPg
  rw [List.map_map]
  refine List.map_congr_left fun t _ => ?_
  show ((if t.pl = pl then ({ t with P := setPP at_ pg t.P } : SegR) else t).bs, (if t.pl = pl then ({ t with P := setPP at_ pg t.P } : SegR) else t).pl) = _
  split <;> rfl

/-- A block's page is found. -/
def BP (W : World) (ro : Nat → Role) (bh ba m x : Nat) (U R : List Nat) (G : List (Nat × Nat)) (bo bp word : Nat) (tag : Int) (w : World) : Prop :=
  ∃ bm bb f h a s p, BS W ro bh ba m (x :: U) R w bm bb f h a ∧ Gof h.S = G ∧ s ∈ h.S ∧ p ∈ s.P ∧ UsedIn p.pg x ∧ p.bo = bo ∧ p.bp = bp ∧ p.pg.word = word ∧ p.pg.tag = tag
/-- The first j segments were asked for the block. -/
def BL (W : World) (ro : Nat → Role) (bh ba m x : Nat) (U R : List Nat) (G : List (Nat × Nat)) (j : Nat) (w : World) : Prop :=
  (BG W ro bh ba m (x :: U) R G w ∧ ∀ (i : Nat) (g : Nat × Nat), i < j → G[i]? = some g → g.2 ≠ x / 16384) ∨ (BG W ro bh ba (m + 2) U (x :: R) G w ∧ ∃ (i : Nat) (g : Nat × Nat), i < j ∧ G[i]? = some g ∧ g.2 = x / 16384)

theorem Gof_at (e : Gof S = G) (hg : G[j]? = some g) : ∃ s, S[j]? = some s ∧ s.bs = g.1 ∧ s.pl = g.2 := by
  rw [← e] at hg
  unfold Gof at hg
  rw [List.getElem?_map] at hg
  cases hs : S[j]? with
  | none => rw [hs] at hg; cases hg
  | some s =>
    rw [hs] at hg
    have := Option.some.inj hg
    exact ⟨s, rfl, by rw [← this], by rw [← this]⟩
theorem Gof_pl (K : SOk sz f S) (e : Gof S = G) {i : Nat} {g' : Nat × Nat} (hg : G[j]? = some g) (hg' : G[i]? = some g') (hij : i ≠ j) : g'.2 ≠ g.2 := by
  obtain ⟨s, hs, _, e2⟩ := Gof_at e hg
  obtain ⟨t, ht, _, e4⟩ := Gof_at e hg'
  rw [← e2, ← e4]
  obtain ⟨hj1, e5⟩ := List.getElem?_eq_some_iff.1 hs
  obtain ⟨hi1, e6⟩ := List.getElem?_eq_some_iff.1 ht
  have hp := List.pairwise_iff_getElem.1 K.pls
  rcases Nat.lt_trichotomy i j with h | h | h
  · have := hp i j hi1 hj1 h
    rw [e5, e6] at this
    exact this
  · exact absurd h hij
  · have := hp j i hj1 hi1 h
    rw [e5, e6] at this
    exact fun e => this e.symm

theorem BS.used (M : BS W ro bh ba m (x :: U) R w bm bb f h a) : ∃ s ∈ h.S, ∃ p ∈ s.P, UsedIn p.pg x ∧ x / 16384 = s.pl ∧ segO s.P (x / 1024 % 16) = some p.bo := by
  obtain ⟨s, hs, p, hp, q, hq, hxe, ho⟩ := M.bi.use x (by simp)
  have H := M.law.hp.hp
  have hpo := (H.segs s hs).pages p hp
  have hf := hpo.fit
  have hpf := hpo.pf
  have hps := hpo.ps
  have hin := hpo.inv.in_page (Nat.lt_of_lt_of_le hq hpo.inv.mn) hxe
  have e2 : covers (x / 1024 % 16) p = true := by simp [covers]; omega
  refine ⟨s, hs, p, hp, ⟨q, hq, hxe, ho⟩, by omega, ?_⟩
  unfold segO
  cases hF : s.P.find? (covers (x / 1024 % 16)) with
  | none =>
    rw [List.find?_eq_none] at hF
    exact absurd e2 (hF p hp)
  | some q =>
    rw [(H.segs s hs).cov_one hp (List.mem_of_find?_eq_some hF) e2 (List.find?_some hF)]
    rfl

theorem BL.find (M : BL W ro bh ba m x U R G j w) (hg : G[j]? = some g) : Calls Tryz.prog 29 #[.pointer (some ⟨g.1, 0, none⟩), .int .u64 x] w fun e w' =>
    (e = .returned (.tuple #[.pointer none, .int .i64 3]) ∧ BL W ro bh ba m x U R G (j + 1) w' ∧ Below w.heap.size w w') ∨
    (∃ bo bp word tag, e = .returned (.tuple #[.pointer (some ⟨bo, 0, none⟩), .int .i64 0]) ∧ BP W ro bh ba m x U R G bo bp word tag w' ∧ g.2 = x / 16384 ∧ Below w.heap.size w w') := by
  rcases M with ⟨⟨bm, bb, f, h, a, M, e⟩, hno⟩ | ⟨⟨bm, bb, f, h, a, M, e⟩, i, g', hi, hg', ex⟩
  · obtain ⟨s, hs, e1, e2⟩ := Gof_at e hg
    have hsm := List.mem_of_getElem? hs
    by_cases hx : x / 16384 = s.pl
    · obtain ⟨t, ht, p, hp, hu, ht2, ho⟩ := M.used
      have := M.law.hp.hp.seg_at ht hsm (ht2.symm.trans hx)
      subst this
      rw [← e1]
      refine (segFind_in (M.law.hp.hp.segs t hsm).seg x _ hx rfl).mono ?_
      rw [ho]
      rintro en w' ⟨rfl, hb⟩
      exact .inr ⟨p.bo, p.bp, p.pg.word, p.pg.tag, rfl, ⟨bm, bb, f, h, a, t, p, M.on hb, e, ht, hp, hu, rfl, rfl, rfl, rfl⟩, by rw [← e2, hx], hb⟩
    · rw [← e1]
      refine (segFind_out (M.law.hp.hp.segs s hsm).seg x hx (M.lt (by simp))).mono ?_
      rintro en w' ⟨rfl, hb⟩
      refine .inl ⟨rfl, .inl ⟨⟨bm, bb, f, h, a, M.on hb, e⟩, fun i g' hi hg' => ?_⟩, hb⟩
      rcases Nat.lt_or_ge i j with hij | hij
      · exact hno i g' hij hg'
      · obtain rfl : i = j := by omega
        rw [hg] at hg'
        obtain rfl := Option.some.inj hg'
        rw [← e2]
        exact fun h => hx h.symm
  · obtain ⟨s, hs, e1, e2⟩ := Gof_at e hg
    have hsm := List.mem_of_getElem? hs
    have hx : x / 16384 ≠ s.pl := by
      rw [e2, ← ex]
      exact Gof_pl M.law.hp.hp.sok e hg hg' (by omega)
    rw [← e1]
    refine (segFind_out (M.law.hp.hp.segs s hsm).seg x hx (M.lt (by simp))).mono ?_
    rintro en w' ⟨rfl, hb⟩
    exact .inl ⟨rfl, .inr ⟨⟨bm, bb, f, h, a, M.on hb, e⟩, i, g', by omega, hg', ex⟩, hb⟩

theorem BL.end_ (M : BL W ro bh ba m x U R G j w) (hj : G.length ≤ j) : BG W ro bh ba (m + 2) U (x :: R) G w := by
  rcases M with ⟨⟨bm, bb, f, h, a, M, e⟩, hno⟩ | ⟨M, _⟩
  · obtain ⟨s, hs, p, hp, hu, ht2, ho⟩ := M.used
    obtain ⟨i, hi⟩ := List.getElem?_of_mem hs
    have hG : G[i]? = some (s.bs, s.pl) := by rw [← e]; unfold Gof; rw [List.getElem?_map, hi]; rfl
    have := (List.getElem?_eq_some_iff.1 hG).1
    exact absurd ht2.symm (hno i _ (by omega) hG)
  · exact M

theorem BP.on (M : BP W ro bh ba m x U R G bo bp word tag w) (hb : Below w.heap.size w w') : BP W ro bh ba m x U R G bo bp word tag w' := by
  obtain ⟨bm, bb, f, h, a, s, p, M, e⟩ := M
  exact ⟨bm, bb, f, h, a, s, p, M.on hb, e⟩
/-- The page in what Find gave. -/
theorem BP.cell (M : BP W ro bh ba m x U R G bo bp word tag w) : w.cell? ⟨bo, 0, none⟩ = some (.pointer (some ⟨bp, 0, none⟩)) := by
  obtain ⟨bm, bb, f, h, a, s, p, M, e, hs, hp, hu, rfl, rfl, rfl, rfl⟩ := M
  exact Obj_.at_ ((M.law.hp.hp.segs s hs).pages p hp).own (j := 0) (by omega) rfl

theorem BP.load (M : BP W ro bh ba m x U R G bo bp word tag w) (hm : m < 1000000) : Calls Tryz.prog 28 #[.pointer (some ⟨bp, 10, none⟩)] w fun e w' => e = .returned (.tuple #[.int .u64 word, .int .u64 tag]) ∧ BP W ro bh ba (m + 1) x U R G bo bp word tag w' ∧ Stay ro w ro w' := by
  obtain ⟨bm, bb, f, h, a, s, p, M, e, hs, hp, hu, rfl, rfl, rfl, rfl⟩ := M
  have H := M.law.hp
  have K := H.hp.sok
  have hpo := (H.hp.segs s hs).pages p hp
  have hg := M.gp s hs p hp
  refine (pageLoad_ok hpo.page hg.2.1 (by have := hg.2.2; omega)).mono ?_
  rintro en w' ⟨rfl, hpg, hgr⟩
  have hfr : PFr w w' p.bp bb := ⟨hgr.os, hgr.tape, hgr.output, hgr.size, fun k hk h1 _ => hgr.block k hk (fun e => h1 (Option.some.inj e))⟩
  have hmem : MemAt w' bm bb (16 * 16384) f := H.mem.stays (hgr.block bm H.mem.lt_bm (fun e => by have := hpo.rp; rw [← Option.some.inj e, H.rm] at this; cases this)) (hgr.block bb H.mem.lt_bb (fun e => by have := hpo.rp; rw [← Option.some.inj e, H.rb] at this; cases this))
  have I := hpo.inv
  obtain ⟨H', rr⟩ := H.turned hs hp hfr hpg hmem ⟨I.run, I.fit, I.s16, I.f0, I.mn, I.fc, I.lc, I.blk, I.nd, I.us⟩ (fun _ _ => rfl) rfl rfl rfl
  have L' := M.law.step H' (M.law.ar.over rr (fun i => hpX_ar) (fun _ _ => rfl)) rr hpX_other (fun _ _ => rfl)
  refine ⟨rfl, ⟨bm, bb, f, _, a, _, _, ⟨L', M.eh, M.ea, M.bi.celled K hs hp p.pg.word p.pg.tag (p.pg.asked + 1) p.pg.head, M.ne.set, M.ai.set, (M.gp.mono (Nat.le_succ m)).set K hs hp ⟨hg.1, ?_, ?_⟩, M.an⟩, Gof_set.trans e, mem_setPg_self hs, mem_setPP_self hp, hu, rfl, rfl, rfl, rfl⟩, Stay.of_fr rr hpX_other (fun _ _ => rfl)⟩
  · show 0 ≤ p.pg.asked + 1
    have := hg.2.1
    omega
  · show p.pg.asked + 1 ≤ ((m + 1 : Nat) : Int)
    have := hg.2.2
    omega

theorem GP.word_lt (G : GP f S R m) (K : SOk sz f S) (A : SApart S) (hsz : sz ≤ 1048576) (hs : s ∈ S) (hp : p ∈ s.P) (hR : ∀ y ∈ R, InUse S y) : p.pg.word < 18446744073709551616 := by
  have Ip := (K.pag s hs p hp).1
  rw [(G s hs p hp).1.head]
  cases hl : R.filter (inPg p.pg) with
  | nil => simp
  | cons z q =>
    have hz : z ∈ R.filter (inPg p.pg) := by rw [hl]; simp
    obtain ⟨i, hi, ez, _⟩ := (hR z (List.mem_filter.1 hz).1).at_ K A hs hp (List.mem_filter.1 hz).2
    have h1 := Ip.in_ (Nat.lt_of_lt_of_le hi Ip.mn)
    have h2 := Ip.fit
    have h3 := Ip.s16
    simp
    omega

theorem BP.post (M : BP W ro bh ba m x U R G bo bp word tag w) (hm : m < 1000000) : Calls Tryz.prog 31 #[.pointer (some ⟨bp, 0, none⟩), .int .u64 x, .int .u64 word, .int .u64 tag] w fun e w' => e = .returned (.tuple #[.bool true, .int .i64 0]) ∧ BG W ro bh ba (m + 1) U (x :: R) G w' ∧ Stay ro w ro w' := by
  obtain ⟨bm, bb, f, h, a, s, p, M, e, hs, hp, hu, rfl, rfl, rfl, rfl⟩ := M
  have H := M.law.hp
  have K := H.hp.sok
  have SA := H.hp.sapart
  have hpo := (H.hp.segs s hs).pages p hp
  have hg := M.gp s hs p hp
  have I := hpo.inv
  have hsz := H.mem.s1
  have hR : ∀ y ∈ R, InUse h.S y ∧ y ≠ x := fun y hy => ⟨M.bi.use y (by simp [hy]), fun e => by
    have hn := M.bi.nod
    rw [List.cons_append, List.nodup_cons] at hn
    exact hn.1 (by rw [← e]; simp [hy])⟩
  obtain ⟨q, hq, hxe, ho⟩ := id hu
  have hin := I.in_ (Nat.lt_of_lt_of_le hq I.mn)
  have h16 := I.s16
  have hfit := I.fit
  have hf0 := I.f0
  have nb : p.bp ≠ bb := fun e => by have := hpo.rp; rw [e, H.rb] at this; cases this
  have nm : p.bp ≠ bm := fun e => by have := hpo.rp; rw [e, H.rm] at this; cases this
  refine (pagePost_ok hpo.page H.mem nb nm I.run (a := x) (by omega) (by omega) (by rw [hxe]; exact givV_ok I hq) (M.gp.word_lt K SA hsz hs hp (fun y hy => (hR y hy).1)) hg.2.1 (by have := hg.2.2; omega)).mono ?_
  rintro en w' ⟨rfl, hpg, hmem, hfr⟩
  have hap : ∀ z ∈ p.pg.free ++ p.pg.loc, z + 8 ≤ x ∨ x + 8 ≤ z := fun z hz => by
    obtain ⟨i, hi, ez⟩ := I.blk z hz
    exact (blocks_apart h16 hxe ez (fun e => ho (e ▸ hz))).symm
  have I' : PgInv (putW f x p.pg.word) (16 * 16384) { p.pg with word := x, tag := IntKind.u64.wrap (p.pg.tag + 1), asked := p.pg.asked + 1, head := x } :=
    ⟨I.run, I.fit, I.s16, I.f0, I.mn, I.fc.put fun z hz => hap z (List.mem_append_left _ hz), I.lc.put fun z hz => hap z (List.mem_append_right _ hz), I.blk, I.nd, I.us⟩
  obtain ⟨H', rr⟩ := H.turned hs hp hfr hpg hmem I' (fun j hj => by unfold putW; rw [if_neg (by omega)]) rfl rfl rfl
  have L' := M.law.step H' (M.law.ar.over rr (fun i => hpX_ar) (fun _ _ => rfl)) rr hpX_other (fun _ _ => rfl)
  refine ⟨rfl, ⟨bm, bb, _, _, a, ⟨L', M.eh, M.ea, (M.bi.celled K hs hp x (IntKind.u64.wrap (p.pg.tag + 1)) (p.pg.asked + 1) x).perm List.perm_middle, M.ne.set, M.ai.set, M.gp.post K SA hsz hs hp hu hR ?_ (Nat.le_succ m), M.an⟩, Gof_set.trans e⟩, Stay.of_fr rr hpX_other (fun _ _ => rfl)⟩
  have := hg.2.2
  omega

theorem rows_nodup (H : HeapAt ro hn w B bm sz f h) : (rowsOf h classes).Nodup := by
  have K := H.sok
  have hcl : ∀ x ∈ classes, x < 12 := by decide
  unfold rowsOf
  rw [List.Nodup, List.pairwise_flatMap]
  refine ⟨fun x hx => ?_, List.Pairwise.imp_of_mem (fun {x y} hx hy hxy u hu v hv e => ?_) (show classes.Pairwise (· ≠ ·) by decide)⟩
  · unfold rowOf
    split
    · rename_i i e
      exact (H.qo i (rowIx_lt e)).all
    · exact List.Pairwise.nil
  · subst e
    unfold rowOf at hu hv
    split at hu
    · rename_i i e1
      split at hv
      · rename_i j e2
        obtain ⟨s, hs, p, hp, e3, e4⟩ := H.link i (rowIx_lt e1) u (List.mem_append.1 hu)
        obtain ⟨t, ht, q, hq, e5, e6⟩ := H.link j (rowIx_lt e2) u (List.mem_append.1 hv)
        obtain ⟨_, rfl⟩ := K.key_inj hs ht hp hq (e3.symm.trans e5)
        rw [e4] at e6
        have := Option.some.inj e6
        subst this
        exact hxy (rowIx_inj e1 e2 (hcl x hx) (hcl y hy))
      · cases hv
    · cases hu
theorem rows_mem (H : HeapAt ro hn w B bm sz f h) {y : Int} (hy : y ∈ rowsOf h classes) : ∃ s ∈ h.S, ∃ p ∈ s.P, y = keyOf s p := by
  unfold rowsOf at hy
  obtain ⟨x, hx, hy⟩ := List.mem_flatMap.1 hy
  unfold rowOf at hy
  split at hy
  · rename_i i e1
    obtain ⟨s, hs, p, hp, e3, _⟩ := H.link i (rowIx_lt e1) y (List.mem_append.1 hy)
    exact ⟨s, hs, p, hp, e3⟩
  · cases hy
theorem rows_all (hk : ∀ s ∈ h.S, ∀ p ∈ s.P, ∃ c, rowIx p.cls = some c ∧ (keyOf s p ∈ h.Q1 c ∨ keyOf s p ∈ h.Q2 c)) : ∀ s ∈ h.S, ∀ p ∈ s.P, keyOf s p ∈ rowsOf h classes := fun s hs p hp => by
  obtain ⟨c, e1, e2⟩ := hk s hs p hp
  obtain ⟨x, hx, ex⟩ := mem_classes (rowIx_lt e1)
  refine List.mem_flatMap.2 ⟨x, hx, ?_⟩
  unfold rowOf
  rw [ex]
  exact List.mem_append.2 e2

/-- While pages are gathered: K are their keys. -/
def GS (W : World) (ro : Nat → Role) (bh ba m : Nat) (K : List Int) (w : World) : Prop :=
  ∃ R bm bb f h a, BS W ro bh ba m [] R w bm bb f h a ∧ (∀ s ∈ h.S, ∀ p ∈ s.P, keyOf s p ∈ K) ∧ (∀ k ∈ K, ∃ s ∈ h.S, ∃ p ∈ s.P, k = keyOf s p) ∧ K.Nodup
theorem GS.on (M : GS W ro bh ba m K w) (hb : Below w.heap.size w w') : GS W ro bh ba m K w' := by
  obtain ⟨R, bm, bb, f, h, a, M, e⟩ := M
  exact ⟨R, bm, bb, f, h, a, M.on hb, e⟩
theorem GS.cut (M : GS W ro bh ba m K w) : GS W (cutR ro w.heap.size) bh ba m K w := by
  obtain ⟨R, bm, bb, f, h, a, M, e⟩ := M
  exact ⟨R, bm, bb, f, h, a, M.cut, e⟩
theorem GS.below (M : GS W ro bh ba m K w) : Below W.heap.size W w := by
  obtain ⟨R, bm, bb, f, h, a, M, e⟩ := M
  exact M.law.below
theorem BG.pages (M : BG W ro bh ba m [] R G w) : ∃ K, Calls Tryz.prog 21 #[.pointer (some ⟨bh, 0, none⟩), .slice none 0 0] w (NewU64 w (startsOf K)) ∧ GS W ro bh ba m K w := by
  obtain ⟨bm, bb, f, h, a, M, e⟩ := M
  have H := M.law.hp.hp
  refine ⟨rowsOf h classes, ?_, R, bm, bb, f, h, a, M, rows_all M.bi.keys, fun k hk => rows_mem H hk, rows_nodup H⟩
  have := pages_all H
  rw [M.eh] at this
  exact this

theorem filter_two {α : Type} (F : α → Bool) : ∀ l : List α, (l.filter fun y => !F y).length + (l.filter F).length = l.length
  | [] => rfl
  | y :: r => by
    have ih := filter_two F r
    cases e : F y
    · rw [List.filter_cons, List.filter_cons, if_pos (by rw [e]; rfl), if_neg (by rw [e]; simp), List.length_cons, List.length_cons]
      omega
    · rw [List.filter_cons, List.filter_cons, if_neg (by rw [e]; simp), if_pos e, List.length_cons, List.length_cons]
      omega

theorem GS.gather {kk : Int} (M : GS W ro bh ba m (kk :: K) w) (hm : m < 1000000) : Calls Tryz.prog 32 #[.pointer (some ⟨bh, 0, none⟩), .int .u64 (kk * 1024)] w fun e w' => (∃ n : Nat, e = .returned (.tuple #[.int .i64 n, .int .i64 0])) ∧ ∃ ro', GS W ro' bh ba m K w' ∧ Stay ro w ro' w' := by
  obtain ⟨R, bm, bb, f, h, a, ⟨L, rfl, rfl, I, ne, A, gp, an⟩, k1, k2, k3⟩ := M
  obtain ⟨s, hs, p, hp, rfl⟩ := k2 kk (by simp)
  rw [List.nil_append] at I
  rw [List.nodup_cons] at k3
  have KS := L.hp.hp.sok
  have SA := L.hp.hp.sapart
  have hpo := (L.hp.hp.segs s hs).pages p hp
  have hg := gp s hs p hp
  obtain ⟨i, hr, _⟩ := I.keys s hs p hp
  have hcnt := I.count KS SA hs hp
  have hpos := I.pos s hs p hp
  have hne : R.filter (inPg p.pg) ≠ [] := fun e => by rw [e] at hcnt; simp at hcnt; omega
  have est : keyOf s p * 1024 = (p.pg.f : Nat) := by
    have := hpo.pf
    unfold keyOf
    omega
  rw [est]
  refine (gather_ok L.hp L.ar A.seg hs hp (rowIx_lt hr) hr hg.1 hne (I.nod.filter _) (fun y hy => (I.use y (List.mem_filter.1 hy).1).at_ KS SA hs hp (List.mem_filter.1 hy).2) hcnt hg.2.1 (by have := hg.2.2; omega)).mono ?_
  rintro e w' ⟨rfl, ro', q1, q2, S', a', he, rr, A', hend, H⟩
  have L' := L.step H A' rr hpT_other he
  obtain ⟨I', ne'⟩ := I.dropped ne KS hs hp hend (U' := R.filter fun y => !inPg p.pg y) (i := i)
    (R := (removeS (wakeS (h.Q1 i) (h.Q2 i) (keyOf s p)).2.1 (wakeS (h.Q1 i) (h.Q2 i) (keyOf s p)).2.2 (keyOf s p)).2.1) (F := (removeS (wakeS (h.Q1 i) (h.Q2 i) (keyOf s p)).2.1 (wakeS (h.Q1 i) (h.Q2 i) (keyOf s p)).2.2 (keyOf s p)).2.2) (k1 := q1) (k2 := q2)
    (by rw [← hcnt]; exact filter_two _ R) (I.nod.filter _) (fun y hy => by
      have := List.mem_filter.1 hy
      exact ⟨this.1, by simpa using this.2⟩) (fun y hy hk => removeS_keep hy (wakeS_mem.2 hk))
  refine ⟨⟨_, rfl⟩, ro', ⟨R.filter fun y => !inPg p.pg y, bm, bb, _, _, a', ⟨L', rfl, rfl, I', ne', (A.ends L.hp.hp.pls hs hend).1, gp.gathered KS SA hs hp I.use hne hend, (A.ends L.hp.hp.pls hs hend).2.trans an⟩, fun t ht q hq => ?_, fun y hy => ?_, k3.2⟩, Stay.of_fr rr hpT_other he⟩
  · obtain ⟨t0, ht0, hq0, epl, hne2⟩ := ends_sub KS hs hend ht hq
    have ek : keyOf t q = keyOf t0 q := by unfold keyOf; rw [epl]
    rw [ek]
    rcases List.mem_cons.1 (k1 t0 ht0 q hq0) with e | e
    · obtain ⟨rfl, rfl⟩ := KS.key_inj ht0 hs hq0 hp e
      rcases hne2 with h | h <;> exact absurd rfl h
    · exact e
  · obtain ⟨t, ht, q, hq, ey⟩ := k2 y (by simp [hy])
    have hne2 : t.pl ≠ s.pl ∨ q.at_ ≠ p.at_ := by
      by_cases e1 : t.pl = s.pl
      · right
        intro e2
        have := pair_at (F := SegR.pl) KS.pls ht hs e1
        subst this
        have := pair_at (KS.nod t ht) hq hp e2
        subst this
        exact k3.1 (ey ▸ hy)
      · exact .inl e1
    obtain ⟨t', ht', hq', epl⟩ := ends_sup KS hs hend ht hq hne2
    exact ⟨t', ht', q, hq', by rw [ey]; unfold keyOf; rw [epl]⟩

theorem GS.nil_ (M : GS W ro bh ba m [] w) : ∃ R bm bb f h a, BS W ro bh ba m [] R w bm bb f h a ∧ h.S = [] := by
  obtain ⟨R, bm, bb, f, h, a, M, k1, _⟩ := M
  refine ⟨R, bm, bb, f, h, a, M, ?_⟩
  cases hS : h.S with
  | nil => rfl
  | cons s r =>
    have hs : s ∈ h.S := by rw [hS]; simp
    cases hP : s.P with
    | nil => exact absurd hP (M.ne s hs)
    | cons p q => exact absurd (k1 s hs p (by rw [hP]; simp)) (by simp)
theorem GS.segs (M : GS W ro bh ba m [] w) : Calls Tryz.prog 23 #[.pointer (some ⟨bh, 0, none⟩)] w (SegsTo w 0) := by
  obtain ⟨R, bm, bb, f, h, a, M, e⟩ := M.nil_
  have := segs_n M.law.hp.hp (n := 0) (by rw [e]; rfl)
  rw [M.eh] at this
  exact this
theorem GS.pages (M : GS W ro bh ba m [] w) : Calls Tryz.prog 21 #[.pointer (some ⟨bh, 0, none⟩), .slice none 0 0] w (PagesTo w 0) := by
  obtain ⟨R, bm, bb, f, h, a, M, e⟩ := M.nil_
  have := pages_n M.law.hp.hp M.bi.keys (n := 0) (by rw [e]; rfl)
  rw [M.eh] at this
  exact this
theorem GS.given (M : GS W ro bh ba m [] w) : Calls Tryz.prog 14 #[.pointer (some ⟨ba, 0, none⟩)] w fun e w' => e = .returned (.int .i64 0) ∧ Below W.heap.size W w' := by
  obtain ⟨R, bm, bb, f, h, a, M, e⟩ := M.nil_
  have A := M.ai
  rw [e] at A
  have := arenaGiven M.law.ar.at_
  rw [M.ea] at this
  refine this.mono ?_
  rintro en w' ⟨rfl, k, rfl⟩
  refine ⟨?_, below_drewN M.law.below k⟩
  rw [A.none]
  simp
end Go.Proofs.YtbljphaklciinaaGreat
