/- Walks of the program's functions, and plain laws on what they compute, text by text (Gather, GatherP, MemF, ApP, ApS, ApO, Acts12). No condition. -/
import Derived.Test.YtbljphaklciinaaGreatHeapApart04
import Derived.Laws.IdiomCopy

/- Layer 9 (page): Gather. -/
namespace Go.Proofs.YtbljphaklciinaaGreat
open Go.RowKit
variable {w w' : World} {b bm bb sz : Nat} {p : Pg} {f : Nat → Nat}

theorem PageAt.on (H : PageAt w b bm p) (hb : Below w.heap.size w w') : PageAt w' b bm p := Obj_.of_block H (hb.block b (Obj_.lt H (by omega)))
theorem PageAt.drew (H : PageAt w b bm p) : PageAt w.drew b bm p := Obj_.drew H
theorem PageAt.alloc (H : PageAt w b bm p) (o : Obj) : PageAt (w.alloc o) b bm p := H.on ((Below.refl _ _).alloc (Nat.le_refl _) _)
theorem PageAt.s52 (H : PageAt w b bm p) : w.cell? ⟨b, 5, none⟩ = some (.pointer (some ⟨bm, 0, none⟩)) ∧ w.cell? ⟨b, 2, none⟩ = some (.int .i64 p.n) := ⟨Obj_.at_ (j := 5) H (by omega) rfl, Obj_.at_ (j := 2) H (by omega) rfl⟩
theorem alloc_at (w : World) (o : Obj) : (w.alloc o).heap[w.heap.size]? = some o := by
  show (w.heap.push _)[w.heap.size]? = _
  simp
theorem alloc_lt (w : World) (o : Obj) : w.heap.size < (w.alloc o).heap.size := by
  show _ < (w.heap.push _).size
  simp
theorem PageAt.far {g i j : Nat} (H : PageAt w b bm p) (hg : b ≠ g) (v v' : Value) : PageAt ((w.setCell ⟨g, i, none⟩ v).setCell ⟨g, j, none⟩ v') b bm p :=
  Obj_.of_block H ((Below.heap_setCell _ ⟨g, j, none⟩ v' b hg).trans (Below.heap_setCell _ ⟨g, i, none⟩ v b hg))
theorem set_at {g i : Nat} {cs : Array Value} {T : TypeId} (h : w.heap[g]? = some (.cells cs T (0, 0))) (v : Value) : (w.setCell ⟨g, i, none⟩ v).heap[g]? = some (.cells (cs.setIfInBounds i v) T (0, 0)) := by
  simp [World.setCell, Array.getElem?_modify, h]
/-- The list that has come off the page's cell, in a block of its own. -/
structure G4 (w w4 : World) (b bm bb sz : Nat) (f : Nat → Nat) (p2 : Pg) (g wd n : Nat) : Prop where
  hg : w4.heap[g]? = some (.cells #[.int .u64 (wd : Nat), .int .i64 (n : Nat)] 145 (0, 0))
  hp : PageAt w4 b bm p2
  hm : MemAt w4 bm bb sz f
  fr : PFr w w4 b bb
  n1 : b ≠ g
  n2 : g ≠ bb
  n3 : w.heap.size ≤ g
theorem g4_late {w2 w3 : World} {p2 : Pg} {wd n : Nat} (F2 : PFr w w2 b bb) (H2 : PageAt w2 b bm p2) (M2 : MemAt w2 bm bb sz f) (hb3 : Below w2.drew.heap.size w2.drew w3) :
    G4 w (w3.alloc (.cells #[.int .u64 (wd : Nat), .int .i64 (n : Nat)] 145)) b bm bb sz f p2 w3.heap.size wd n := by
  have hb : Below w2.heap.size w2 w3 := ⟨hb3.os, hb3.tape, hb3.output, hb3.size, hb3.block⟩
  have hbl := Obj_.lt H2 (by omega)
  have hsz := hb.size
  have hbbl := M2.lt_bb
  have h4 : Below w2.heap.size w2 (w3.alloc (.cells #[.int .u64 (wd : Nat), .int .i64 (n : Nat)] 145)) := hb.alloc hsz _
  exact ⟨alloc_at _ _, H2.on h4, M2.below h4 (Nat.le_refl _), F2.trans (PFr.of_below h4), by omega, by omega, by have := F2.size; omega⟩
theorem g4_early {w2 w3 : World} {p2 : Pg} {wd n : Nat} {o : Obj} (F2 : PFr w w2 b bb) (H2 : PageAt w2 b bm p2) (M2 : MemAt w2 bm bb sz f) (hb3 : Below (w2.alloc o).drew.heap.size (w2.alloc o).drew w3) (hg : w3.heap[w2.heap.size]? = some (.cells #[.int .u64 0, .int .i64 0] 145 (0, 0))) :
    G4 w ((w3.setCell ⟨w2.heap.size, 0, none⟩ (.int .u64 (wd : Nat))).setCell ⟨w2.heap.size, 1, none⟩ (.int .i64 (n : Nat))) b bm bb sz f p2 w2.heap.size wd n := by
  have ha : Below w2.heap.size w2 (w2.alloc o) := (Below.refl _ _).alloc (Nat.le_refl _) _
  have hb : Below w2.heap.size w2 w3 := ⟨hb3.os, hb3.tape, hb3.output, Nat.le_trans ha.size hb3.size, fun k hk => (hb3.block k (Nat.lt_of_lt_of_le hk ha.size)).trans (ha.block k hk)⟩
  have hbl := Obj_.lt H2 (by omega)
  have hbbl := M2.lt_bb
  have hbml := M2.lt_bm
  have h3 := H2.on hb
  have m3 := M2.below hb (Nat.le_refl _)
  have f3 := F2.trans (PFr.of_below (b := b) (bb := bb) hb)
  refine ⟨?_, h3.far (by omega) _ _, (m3.set_far _ _ (by omega) (by omega)).set_far _ _ (by omega) (by omega), ⟨f3.os, f3.tape, f3.output, by simpa [World.setCell] using f3.size, fun k hk h1 h2 => ?_⟩, by omega, by omega, F2.size⟩
  · have h := set_at (i := 1) (set_at (i := 0) hg (.int .u64 (wd : Nat))) (.int .i64 (n : Nat))
    exact h
  · have := F2.size
    exact ((Below.heap_setCell _ ⟨w2.heap.size, 1, none⟩ _ k (by show k ≠ w2.heap.size; omega)).trans (Below.heap_setCell _ ⟨w2.heap.size, 0, none⟩ _ k (by show k ≠ w2.heap.size; omega))).trans (f3.block k hk h1 h2)
theorem G4.drewN {w4 : World} {p2 : Pg} {g wd n : Nat} (G : G4 w w4 b bm bb sz f p2 g wd n) (k : Nat) : G4 w (w4.drewN k) b bm bb sz f p2 g wd n :=
  ⟨G.hg, Obj_.drewN G.hp k, G.hm.drewN k, ⟨G.fr.os, G.fr.tape, G.fr.output, G.fr.size, G.fr.block⟩, G.n1, G.n2, G.n3⟩
theorem PageAt.left (H : PageAt w b bm p) (u : Nat) : PageAt (w.setCell ⟨b, 4, none⟩ (.int .i64 (u : Nat))) b bm { p with used := u } := by
  have h := Obj_.set H (i := 4) (by omega) (.int .i64 (u : Nat))
  simp only [Nat.zero_add] at h
  refine h.congr fun j hj => ?_
  rcases lt14 hj with rfl | rfl | rfl | rfl | rfl | rfl | rfl | rfl | rfl | rfl | rfl | rfl | rfl | rfl <;> rfl
theorem g4_join {w5 w6 : World} {p2 : Pg} {g wd n : Nat} {f' : Nat → Nat} {L : List Nat} (G : G4 w w5 b bm bb sz f p2 g wd n) (hbm : b ≠ bm) (hgm : g ≠ bm) (hb : b ≠ bb) (hl : 0 < L.length) (J : JoinTo w5.drew b 8 g bm bb sz f' (L.headD 0) ((p2.loc.length : Int) + L.length) w6) :
    PageAt w6 b bm { p2 with loc := L ++ p2.loc } ∧ MemAt w6 bm bb sz f' ∧ PFr w w6 b bb := by
  obtain ⟨w1, hg, M1, rfl⟩ := J
  have hbl := Obj_.lt G.hp (by omega)
  have H1 : PageAt w1 b bm p2 := Obj_.of_block G.hp (hg.block b hbl (by simpa using hb))
  have h := (Obj_.set H1 (i := 8) (by omega) (.int .u64 (L.headD 0 : Nat))).set (i := 9) (by omega) (.int .i64 ((p2.loc.length : Int) + L.length))
  simp only [Nat.zero_add] at h
  have F1 : PFr w w1 b bb := G.fr.trans ⟨hg.os, hg.tape, hg.output, hg.size, fun k hk _ h2 => hg.block k hk (by simpa using h2)⟩
  have F2 : PFr w ((w1.setCell ⟨b, 8, none⟩ (.int .u64 (L.headD 0 : Nat))).setCell ⟨b, 9, none⟩ (.int .i64 ((p2.loc.length : Int) + L.length))).drew b bb := by
    have := (F1.set 8 (.int .u64 (L.headD 0 : Nat))).set 9 (.int .i64 ((p2.loc.length : Int) + L.length))
    exact ⟨this.os, this.tape, this.output, this.size, this.block⟩
  have n1 := G.n1
  have n2 := G.n2
  have n3 := G.n3
  refine ⟨?_, ?_, ⟨F2.os, F2.tape, F2.output, by simpa [World.setCell] using F2.size, fun k hk h1 h2 => ?_⟩⟩
  · refine PageAt.far (g := g) ?_ n1 _ _
    refine PageAt.drew ?_
    refine h.congr fun j hj => ?_
    rcases L with _ | ⟨x, r⟩
    · simp at hl
    · rcases lt14 hj with rfl | rfl | rfl | rfl | rfl | rfl | rfl | rfl | rfl | rfl | rfl | rfl | rfl | rfl <;> first | rfl | (simp [upd, pgV]; done) | (simp [upd, pgV]; omega)
  · exact ((((M1.set_far 8 _ hb hbm).set_far 9 _ hb hbm).drew).set_far _ _ n2 hgm).set_far _ _ n2 hgm
  · exact ((Below.heap_setCell _ ⟨g, 1, none⟩ _ k (by show k ≠ g; omega)).trans (Below.heap_setCell _ ⟨g, 0, none⟩ _ k (by show k ≠ g; omega))).trans (F2.block k hk h1 h2)
theorem stopG {p : Prop} (h : Hid p) : p := h

set_option maxRecDepth 100000 in
set_option maxHeartbeats 4000000 in
theorem pageGather_ok {L : List Nat} (H : PageAt w b bm p) (M : MemAt w bm bb sz f) (hb : b ≠ bb) (hbm : b ≠ bm) (hn : p.n ≤ 1024) (hns : p.n ≤ sz) (hc : Chain f p.word L) (hL : ∀ a ∈ L, a + 8 ≤ sz) (hl0 : 0 < L.length) (hlu : L.length ≤ p.used) (hun : p.used ≤ p.n) (hll : p.loc.length ≤ 1024) (hhd : p.loc.headD 0 < 18446744073709551616) (h0 : 0 ≤ p.asked) (h1 : p.asked < 4611686018427387904) :
    Calls Tryz.prog 68 #[.pointer (some ⟨b, 0, none⟩)] w fun e w' => e = .returned (.tuple #[.int .i64 (L.length : Nat), .int .i64 0]) ∧ PageAt w' b bm { p with loc := L ++ p.loc, used := p.used - L.length, word := 0, tag := IntKind.u64.wrap (p.tag + 1), asked := p.asked + 1, head := 0 } ∧ MemAt w' bm bb sz (putW f (L.getLastD 0) (p.loc.headD 0)) ∧ PFr w w' b bb := by
  have HH := Lib.hid H
  have HM := Lib.hid M
  have HC := Lib.hid hc
  have hs1 := M.s1
  have hbl := Obj_.lt H (by omega)
  have HBM := Lib.hid M.lt_bm
  clear H M hc
  go_enter Tryz.func68, Tryz.ntmps68
  go_wp2_with fail
  (with_reducible refine (swap_any b 10 _ _ _ 0 w (PageAt.posted HH.out) h0 h1).mono ?_)
  rintro e w1 ⟨rfl, hw1⟩
  have H1 : Hid (PageAt w1 b bm { p with word := 0, tag := IntKind.u64.wrap (p.tag + 1), asked := p.asked + 1 }) := by
    have := PageAt.wrote HH.out 0 (IntKind.u64.wrap (p.tag + 1)) (p.asked + 1)
    rw [← hw1]
    exact this
  have M1 : Hid (MemAt w1 bm bb sz f) := by
    rw [← hw1]
    exact ((HM.out.set_far _ _ hb hbm).set_far _ _ hb hbm).set_far _ _ hb hbm
  have F1 : Hid (PFr w w1 b bb) := by
    rw [← hw1]
    exact (((PFr.refl w b bb).set _ _).set _ _).set _ _
  have k13 : w1.cell? ⟨b, 13, none⟩ = some (.int .u64 p.head) := Obj_.at_ (j := 13) H1.out (by omega) rfl
  have z13 : w1.frozen? ⟨b, 13, none⟩ = false := by have := Obj_.frz H1.out 13 (by omega); rwa [Nat.zero_add] at this
  clear hw1 HM HH
  go_wp2_with fail
  obtain ⟨w2, hw2⟩ : ∃ w2, w2 = w1.setCell ⟨b, 13, none⟩ (.int .u64 0) := ⟨_, rfl⟩
  have H2 : Hid (PageAt w2 b bm { p with word := 0, tag := IntKind.u64.wrap (p.tag + 1), asked := p.asked + 1, head := 0 }) := by rw [hw2]; exact H1.out.headed 0
  have M2 : Hid (MemAt w2 bm bb sz f) := by rw [hw2]; exact M1.out.set_far _ _ hb hbm
  have F2 : Hid (PFr w w2 b bb) := by rw [hw2]; exact F1.out.set _ _
  obtain ⟨p2, hp2⟩ : ∃ p2, p2 = ({ p with word := 0, tag := IntKind.u64.wrap (p.tag + 1), asked := p.asked + 1, head := 0 } : Pg) := ⟨_, rfl⟩
  rw [← hp2] at H2
  have hpn : p2.n = p.n := by rw [hp2]
  have HS2 := Lib.hid H2.out.s52
  rw [hpn] at HS2
  have HP2 := Lib.hid hp2
  have hbl2 : b < w2.heap.size := Obj_.lt H2.out (by omega)
  have HCH : Hid (∀ wx, MemAt wx bm bb sz f → Calls Tryz.prog 107 #[.pointer (some ⟨bm, 0, none⟩), .int .u64 p.word, .int .i64 p.n] wx fun e w' => e = .returned (.tuple #[.agg #[.int .u64 p.word, .int .i64 (L.length : Nat)], .int .i64 0]) ∧ Below wx.heap.size wx w') := fun wx hM => chain_ok hM HC.out hL (by omega) (by omega) (by omega)
  rw [← hw2]
  have HW2 := Lib.hid hw2
  have HS5 : Hid (∀ o, (w2.alloc o).drew.cell? ⟨b, 5, none⟩ = some (.pointer (some ⟨bm, 0, none⟩)) ∧ (w2.alloc o).drew.cell? ⟨b, 2, none⟩ = some (.int .i64 p.n)) := (by intro o; have := (PageAt.drew (H2.out.alloc o)).s52; rw [hpn] at this; exact this)
  clear hw2 k13 z13 H1 M1 F1 hp2
  go_region_held3 (fun w' => w'.cell? ⟨b, 5, none⟩ = some (.pointer (some ⟨bm, 0, none⟩)) ∧ w'.cell? ⟨b, 2, none⟩ = some (.int .i64 p.n))
    (first | exact HS2.out | exact HS3.out | exact HS4.out _ | exact HS5.out _ | exact HS6.out _ _ | go_keep | fail)
    (first
      | (go_at_call 107
         (with_reducible refine (HCH.out _ (by first | exact M2.out.drew | exact (M2.out.alloc _).drew)).mono ?_)
         rintro e w3 ⟨rfl, hb3⟩
         have HP3 : Hid (PageAt w3 b bm p2) := (by first | exact PageAt.on H2.out.drew hb3 | exact PageAt.on (PageAt.drew (H2.out.alloc _)) hb3)
         have HS3 : Hid (w3.cell? ⟨b, 5, none⟩ = some (.pointer (some ⟨bm, 0, none⟩)) ∧ w3.cell? ⟨b, 2, none⟩ = some (.int .i64 p.n)) := (by have := HP3.out.s52; rw [hpn] at this; exact this)
         have HS4 : Hid (∀ o, (w3.alloc o).cell? ⟨b, 5, none⟩ = some (.pointer (some ⟨bm, 0, none⟩)) ∧ (w3.alloc o).cell? ⟨b, 2, none⟩ = some (.int .i64 p.n)) := (by intro o; have := (HP3.out.alloc o).s52; rw [hpn] at this; exact this)
         (first
           | (have KG : w3.heap[w2.heap.size]? = some (.cells #[.int .u64 0, .int .i64 0] 145 (0, 0)) := ((hb3.block w2.heap.size (alloc_lt w2 _)).trans (alloc_at w2 _))
              have KG0 : w3.cell? ⟨w2.heap.size, 0, none⟩ = some (.int .u64 0) := (by simp [World.cell?, KG])
              have KG1 : w3.cell? ⟨w2.heap.size, 1, none⟩ = some (.int .i64 0) := (by simp [World.cell?, KG])
              have KZ0 : w3.frozen? ⟨w2.heap.size, 0, none⟩ = false := (by simp [World.frozen?, KG])
              have KZ1 : w3.frozen? ⟨w2.heap.size, 1, none⟩ = false := (by simp [World.frozen?, KG])
              have HKG := Lib.hid KG
              have HS6 : Hid (∀ v v', ((w3.setCell ⟨w2.heap.size, 0, none⟩ v).setCell ⟨w2.heap.size, 1, none⟩ v').cell? ⟨b, 5, none⟩ = some (.pointer (some ⟨bm, 0, none⟩)) ∧ ((w3.setCell ⟨w2.heap.size, 0, none⟩ v).setCell ⟨w2.heap.size, 1, none⟩ v').cell? ⟨b, 2, none⟩ = some (.int .i64 p.n)) := (by intro v v'; have := (PageAt.far (g := w2.heap.size) (i := 0) (j := 1) HP3.out (by omega) v v').s52; rw [hpn] at this; exact this)
              clear KG)
           | skip)
         have HB3 := Lib.hid hb3
         clear hb3)
      | fail)
  all_goals (first
    | (have HG4 := Lib.hid (g4_late (wd := p.word) (n := L.length) F2.out H2.out M2.out HB3.out)
       obtain ⟨w4, hw4⟩ : ∃ w4, w4 = w3.alloc (.cells #[.int .u64 (p.word : Nat), .int .i64 (L.length : Nat)] 145) := ⟨_, rfl⟩
       rw [← hw4] at HG4 ⊢
       clear hw4
       generalize w3.heap.size = g at HG4 ⊢)
    | (have HG4 := Lib.hid (g4_early (wd := p.word) (n := L.length) F2.out H2.out M2.out HB3.out HKG.out)
       obtain ⟨w4, hw4⟩ : ∃ w4, w4 = ((w3.setCell ⟨w2.heap.size, 0, none⟩ (.int .u64 (p.word : Nat))).setCell ⟨w2.heap.size, 1, none⟩ (.int .i64 (L.length : Nat))) := ⟨_, rfl⟩
       rw [← hw4] at HG4 ⊢
       clear hw4 KG0 KG1 KZ0 KZ1
       generalize w2.heap.size = g at HG4 ⊢))
  all_goals
    (try clear HKG HS6)
    clear HCH HS2 HS3 HS4 HS5 HP3 HB3 H2 M2 F2 hbl2
    have hbl4 : b < w4.heap.size := Obj_.lt HG4.out.hp (by omega)
    have hgl4 : g < w4.heap.size := lt_of_block HG4.out.hg
    have hpu : p2.used = p.used := by rw [HP2.out]
    have hpl : p2.loc = p.loc := by rw [HP2.out]
    have c4 : w4.cell? ⟨b, 4, none⟩ = some (.int .i64 p.used) := by have := Obj_.at_ (j := 4) HG4.out.hp (by omega) rfl; rw [Nat.zero_add] at this; rw [this]; show some (Value.int .i64 (p2.used : Nat)) = _; rw [hpu]
    have gl0 : w4.cell? ⟨g, 0, none⟩ = some (.int .u64 (p.word : Nat)) := by simp [World.cell?, HG4.out.hg]
    have gl1 : w4.cell? ⟨g, 1, none⟩ = some (.int .i64 (L.length : Nat)) := by simp [World.cell?, HG4.out.hg]
    have hcmp : ((L.length : Int) > (p.used : Int)) ↔ False := by simp; omega
    go_wp2_with fail
    go_quiet (fail)
    have HG5 := Lib.hid (HG4.out.drewN nq)
    generalize w4.drewN nq = w5 at HG5 ⊢
    clear HG4 c4 gl0 gl1 hbl4 hgl4 hcmp
    have hbl5 : b < w5.heap.size := Obj_.lt HG5.out.hp (by omega)
    have c4 : w5.cell? ⟨b, 4, none⟩ = some (.int .i64 p.used) := by have := Obj_.at_ (j := 4) HG5.out.hp (by omega) rfl; rw [Nat.zero_add] at this; rw [this]; show some (Value.int .i64 (p2.used : Nat)) = _; rw [hpu]
    have z4 : w5.frozen? ⟨b, 4, none⟩ = false := by have := Obj_.frz HG5.out.hp 4 (by omega); rwa [Nat.zero_add] at this
    have c5 : w5.cell? ⟨b, 5, none⟩ = some (.pointer (some ⟨bm, 0, none⟩)) := Obj_.at_ (j := 5) HG5.out.hp (by omega) rfl
    have gl1 : w5.cell? ⟨g, 1, none⟩ = some (.int .i64 (L.length : Nat)) := by simp [World.cell?, HG5.out.hg]
    have c8 : w5.cell? ⟨b, 8, none⟩ = some (.int .u64 (p.loc.headD 0 : Nat)) := by have := Obj_.at_ (j := 8) HG5.out.hp (by omega) rfl; rw [Nat.zero_add] at this; rw [this]; show some (Value.int .u64 (p2.loc.headD 0 : Nat)) = _; rw [hpl]
    have c9 : w5.cell? ⟨b, 9, none⟩ = some (.int .i64 (p.loc.length : Nat)) := by have := Obj_.at_ (j := 9) HG5.out.hp (by omega) rfl; rw [Nat.zero_add] at this; rw [this]; show some (Value.int .i64 (p2.loc.length : Nat)) = _; rw [hpl]
    have z8 : w5.frozen? ⟨b, 8, none⟩ = false := by have := Obj_.frz HG5.out.hp 8 (by omega); rwa [Nat.zero_add] at this
    have z9 : w5.frozen? ⟨b, 9, none⟩ = false := by have := Obj_.frz HG5.out.hp 9 (by omega); rwa [Nat.zero_add] at this
    have hwd : p.word = L.headD 0 := HC.out.head
    have HJ : Hid (Calls Tryz.prog 108 #[.pointer (some ⟨b, 8, none⟩), .pointer (some ⟨bm, 0, none⟩), .pointer (some ⟨g, 0, none⟩)] w5.drew fun e w' => e = .returned (.int .i64 0) ∧ JoinTo w5.drew b 8 g bm bb sz (putW f (L.getLastD 0) (p.loc.headD 0)) (L.headD 0) ((p.loc.length : Int) + L.length) w') :=
      listJoin_ok (w := w5.drew) (o := 8) HG5.out.hm.drew c8 c9 z8 z9 (by rw [← hwd]; exact HG5.out.hg) (by rw [← hwd]; exact HC.out) hL (by omega) hl0 (by omega) HG5.out.n1 hb HG5.out.n2 hhd (by omega) (by omega)
    have HS5 : Hid (w5.cell? ⟨b, 5, none⟩ = some (.pointer (some ⟨bm, 0, none⟩))) := c5
    have hgm : g ≠ bm := fun e => by
      have := HG5.out.n3
      have := HBM.out
      omega
    clear c8 c9 z8 z9 hwd c5
    go_wp2_with fail
    go_region_held3 (fun w' => w'.cell? ⟨b, 5, none⟩ = some (.pointer (some ⟨bm, 0, none⟩)))
      (first | exact HS5.out | exact HS6.out | fail)
      (first
        | (go_at_call 108
           (with_reducible refine HJ.out.mono ?_)
           rintro e w6 ⟨rfl, J6⟩
           obtain ⟨H6, M6, F6⟩ := g4_join (L := L) HG5.out hbm hgm hb hl0 (by rw [hpl]; exact J6)
           have HS6 : Hid (w6.cell? ⟨b, 5, none⟩ = some (.pointer (some ⟨bm, 0, none⟩))) := Obj_.at_ (j := 5) H6 (by omega) rfl
           have HH6 := Lib.hid H6
           have HM6 := Lib.hid M6
           have HF6 := Lib.hid F6
           clear J6 H6 M6 F6)
        | fail)
    have j4 : w6.cell? ⟨b, 4, none⟩ = some (.int .i64 p.used) := by have := Obj_.at_ (j := 4) HH6.out (by omega) rfl; rw [Nat.zero_add] at this; rw [this]; show some (Value.int .i64 (p2.used : Nat)) = _; rw [hpu]
    have y4 : w6.frozen? ⟨b, 4, none⟩ = false := by have := Obj_.frz HH6.out 4 (by omega); rwa [Nat.zero_add] at this
    have hwu : IntKind.i64.wrap ((p.used : Int) - (L.length : Int)) = ((p.used - L.length : Nat) : Int) := by rw [Go.IntWalk.i64_in _ ⟨by omega, by omega⟩]; omega
    clear HS5 HS6 HJ HG5 c4 z4 gl1
    go_wp2_with fail
    go_ret2
    have h7 := HH6.out.left (p.used - L.length)
    rw [HP2.out] at h7
    exact ⟨rfl, h7, HM6.out.set_far _ _ hb hbm, HF6.out.set _ _⟩
end Go.Proofs.YtbljphaklciinaaGreat

/- HeapBack, plain: what hangs on pages' cells; a page ends with all that hangs on it. -/
namespace Go.Proofs.YtbljphaklciinaaGreat
open Go.RowKit
variable {ro ro' : Nat → Role} {hn : Nat} {w w' : World} {B bm bb sz : Nat} {f f' : Nat → Nat} {h h' : HeapR} {S S' : List SegR} {k x n k' r : Nat} {U : List Nat} {a a' : ArR} {W : World} {s : SegR} {p : PageR}

theorem chain_join : ∀ {L : List Nat} {h m : Nat} {M : List Nat} {f : Nat → Nat}, Chain f h L → L ≠ [] → Chain f m M → m < 18446744073709551616 → L.Pairwise (fun a b => a + 8 ≤ b ∨ b + 8 ≤ a) → (∀ a ∈ L, ∀ b ∈ M, a + 8 ≤ b ∨ b + 8 ≤ a) → Chain (putW f (L.getLastD 0) m) h (L ++ M)
  | [], _, _, _, _, _, hne, _, _, _, _ => absurd rfl hne
  | [a], h, m, M, f, hc, _, hm, hml, _, hd => ⟨hc.1, hc.2.1, by
      show Chain (putW f a m) (word (putW f a m) a) M
      rw [word_putW hml]
      exact hm.put (fun b hb => (hd a (by simp) b hb).symm)⟩
  | a :: b :: r, h, m, M, f, hc, _, hm, hml, hp, hd => by
      rw [List.pairwise_cons] at hp
      have hlast : (a :: b :: r).getLastD 0 = (b :: r).getLastD 0 := by simp [List.getLastD_eq_getLast?, List.getLast?_cons_cons]
      have hmem : (b :: r).getLastD 0 ∈ b :: r := by
        rw [List.getLastD_eq_getLast?, List.getLast?_eq_some_getLast (by simp)]
        exact List.getLast_mem (by simp)
      refine ⟨hc.1, hc.2.1, ?_⟩
      rw [hlast, word_other (hp.1 _ hmem)]
      exact chain_join hc.2.2 (by simp) hm hml hp.2 (fun x hx => hd x (by simp only [List.mem_cons] at hx ⊢; exact .inr hx))

theorem last_mem {L : List Nat} (hne : L ≠ []) : L.getLastD 0 ∈ L := by
  rw [List.getLastD_eq_getLast?, List.getLast?_eq_some_getLast hne]
  exact List.getLast_mem hne

theorem blocks_apart {p : Pg} {i j x y : Nat} (h16 : 16 ≤ p.s) (hx : x = p.f + i * p.s) (hy : y = p.f + j * p.s) (hne : x ≠ y) : x + 8 ≤ y ∨ y + 8 ≤ x := by
  rcases Nat.lt_trichotomy i j with h | rfl | h
  · have := mul_apart (s := p.s) h
    omega
  · omega
  · have := mul_apart (s := p.s) h
    omega

/-- A block of a page that is used. -/
def UsedIn (p : Pg) (y : Nat) : Prop := ∃ j, j < p.made ∧ y = p.f + j * p.s ∧ y ∉ p.free ++ p.loc

theorem PgInv.posted_le {p : Pg} (I : PgInv f sz p) {L : List Nat} (hn : L.Nodup) (hb : ∀ y ∈ L, UsedIn p y) : L.length ≤ p.used := by
  have := I.len_le (L := L ++ (p.free ++ p.loc)) (List.nodup_append.2 ⟨hn, I.nd, fun a ha b hb' e => by
    obtain ⟨_, _, _, ho⟩ := hb a ha
    exact ho (e ▸ hb')⟩) (fun y hy => by
    rcases List.mem_append.1 hy with hy | hy
    · obtain ⟨j, hj, e, _⟩ := hb y hy
      exact ⟨j, hj, e⟩
    · exact I.blk y hy)
  have := I.us
  simp only [List.length_append] at *
  omega

theorem PgInv.gathered {p : Pg} (I : PgInv f sz p) {L : List Nat} {t ak : Int} (hs1 : sz ≤ 1048576) (hc : Chain f p.word L) (hne : L ≠ []) (hn : L.Nodup) (hb : ∀ y ∈ L, UsedIn p y) :
    PgInv (putW f (L.getLastD 0) (p.loc.headD 0)) sz { p with loc := L ++ p.loc, used := p.used - L.length, word := 0, tag := t, asked := ak, head := 0 } ∧ (∀ j, j < p.f ∨ p.f + p.n * p.s ≤ j → putW f (L.getLastD 0) (p.loc.headD 0) j = f j) := by
  have h16 := I.s16
  have hlast := last_mem hne
  obtain ⟨j0, hj0, e0, _⟩ := hb _ hlast
  have hin0 := I.in_ (Nat.lt_of_lt_of_le hj0 I.mn)
  have hap : ∀ y ∈ L, ∀ z ∈ p.free ++ p.loc, y + 8 ≤ z ∨ z + 8 ≤ y := fun y hy z hz => by
    obtain ⟨j, hj, e, ho⟩ := hb y hy
    obtain ⟨i, hi, ez⟩ := I.blk z hz
    exact blocks_apart h16 e ez (fun e => ho (e ▸ hz))
  have hhd : p.loc.headD 0 < 18446744073709551616 := by
    rcases hl : p.loc with _ | ⟨y, r⟩
    · simp
    · have := I.a8 (a := y) (by rw [hl]; simp)
      have := I.fit
      simp
      omega
  have hle := I.posted_le hn hb
  refine ⟨⟨I.run, I.fit, I.s16, I.f0, I.mn, ?_, ?_, fun y hy => ?_, ?_, ?_⟩, fun j hj => ?_⟩
  · exact I.fc.put fun z hz => (hap _ hlast z (List.mem_append_left _ hz)).symm
  · have e : (L ++ p.loc).headD 0 = p.word := by
      rw [hc.head]
      cases L with
      | nil => exact absurd rfl hne
      | cons a r => rfl
    show Chain _ ((L ++ p.loc).headD 0) (L ++ p.loc)
    rw [e]
    exact chain_join hc hne I.lc hhd (List.Pairwise.imp_of_mem (fun {y z} hy hz hyz => by
      obtain ⟨j, _, e, _⟩ := hb y hy
      obtain ⟨i, _, e', _⟩ := hb z hz
      exact blocks_apart h16 e e' hyz) hn) (fun y hy z hz => hap y hy z (List.mem_append_right _ hz))
  · have hy' : y ∈ p.free ++ (L ++ p.loc) := hy
    rcases List.mem_append.1 hy' with h | h
    · exact I.blk y (List.mem_append_left _ h)
    · rcases List.mem_append.1 h with h | h
      · obtain ⟨j, hj, e, _⟩ := hb y h
        exact ⟨j, hj, e⟩
      · exact I.blk y (List.mem_append_right _ h)
  · show (p.free ++ (L ++ p.loc)).Nodup
    have hp : (p.free ++ (L ++ p.loc)).Perm (L ++ (p.free ++ p.loc)) := List.perm_append_comm_assoc p.free L p.loc
    rw [hp.nodup_iff]
    exact List.nodup_append.2 ⟨hn, I.nd, fun a ha b hb' e => by
      obtain ⟨_, _, _, ho⟩ := hb a ha
      exact ho (e ▸ hb')⟩
  · have := I.us
    show p.used - L.length + (p.free ++ (L ++ p.loc)).length = p.made
    simp only [List.length_append] at *
    omega
  · unfold putW
    rw [if_neg (by omega)]

theorem ends_sub (K : SOk sz f S) (hs : s ∈ S) (he : EndsAt a S s p.at_ S' a') {t' : SegR} {q : PageR} (ht : t' ∈ S') (hq : q ∈ t'.P) : ∃ t ∈ S, q ∈ t.P ∧ t'.pl = t.pl ∧ (t.pl ≠ s.pl ∨ q.at_ ≠ p.at_) := by
  rcases he with ⟨_, rfl, _⟩ | ⟨_, rfl, _⟩
  · rcases delPg_mem K hs ht with ⟨ht, hne⟩ | rfl
    · exact ⟨t', ht, hq, rfl, .inl hne⟩
    · have := List.mem_filter.1 hq
      exact ⟨s, hs, this.1, rfl, .inr (noAt_iff.1 this.2)⟩
  · have := List.mem_filter.1 ht
    exact ⟨t', this.1, hq, rfl, .inl (noPl_iff.1 this.2)⟩
theorem ends_sup (K : SOk sz f S) (hs : s ∈ S) (he : EndsAt a S s p.at_ S' a') {t : SegR} {q : PageR} (ht : t ∈ S) (hq : q ∈ t.P) (hne : t.pl ≠ s.pl ∨ q.at_ ≠ p.at_) : ∃ t' ∈ S', q ∈ t'.P ∧ t'.pl = t.pl := by
  rcases he with ⟨_, rfl, _⟩ | ⟨hP, rfl, _⟩
  · by_cases e : t.pl = s.pl
    · have := pair_at (F := SegR.pl) K.pls ht hs e
      subst this
      exact ⟨_, mem_delPg ht p.at_, List.mem_filter.2 ⟨hq, noAt_iff.2 (hne.resolve_left (fun h => h rfl))⟩, rfl⟩
    · exact ⟨t, mem_delPg_other ht e, hq, rfl⟩
  · by_cases e : t.pl = s.pl
    · have := pair_at (F := SegR.pl) K.pls ht hs e
      subst this
      have : q ∈ t.P.filter (noAt p.at_) := List.mem_filter.2 ⟨hq, noAt_iff.2 (hne.resolve_left (fun h => h rfl))⟩
      rw [hP] at this
      cases this
    · exact ⟨t, List.mem_filter.2 ⟨ht, noPl_iff.2 e⟩, hq, rfl⟩
theorem ends_used (K : SOk sz f S) (hs : s ∈ S) (hp : p ∈ s.P) (he : EndsAt a S s p.at_ S' a') : usedS S' + p.pg.used = usedS S := by
  rcases he with ⟨_, rfl, _⟩ | ⟨hP, rfl, _⟩
  · exact usedS_del K hs hp
  · have h1 := usedP_del (K.nod s hs) hp
    rw [hP] at h1
    have h2 := usedS_lost K.pls hs
    simp [usedP] at h1
    unfold usedP at h2
    omega
theorem ends_ne (K : SOk sz f S) (ne : NE S) (hs : s ∈ S) (he : EndsAt a S s p.at_ S' a') : NE S' := fun t ht => by
  rcases he with ⟨hP, rfl, _⟩ | ⟨_, rfl, _⟩
  · rcases delPg_mem K hs ht with ⟨ht, _⟩ | rfl
    · exact ne t ht
    · exact hP
  · exact ne t (List.mem_filter.1 ht).1

/-- In a page's range. -/
def inPg (p : Pg) (y : Nat) : Bool := decide (p.f ≤ y ∧ y < p.f + p.n * p.s)

theorem UsedIn.in_pg {p : Pg} (I : PgInv f sz p) {y : Nat} (hy : UsedIn p y) : inPg p y = true := by
  obtain ⟨j, hj, e, _⟩ := hy
  have := I.in_page (Nat.lt_of_lt_of_le hj I.mn) e
  simpa [inPg] using this

/-- Where a block in a page's range is used. -/
theorem InUse.at_ (K : SOk sz f S) (A : SApart S) {y : Nat} (hu : InUse S y) (hs : s ∈ S) (hp : p ∈ s.P) (hy : inPg p.pg y = true) : UsedIn p.pg y := by
  obtain ⟨t, ht, q, hq, j, hj, e, ho⟩ := hu
  have h1 := (K.pag t ht q hq).1.in_page (Nat.lt_of_lt_of_le hj (K.pag t ht q hq).1.mn) e
  have h2 : p.pg.f ≤ y ∧ y < p.pg.f + p.pg.n * p.pg.s := by simpa [inPg] using hy
  obtain ⟨_, rfl⟩ := A.same ht hq hs hp h1.1 h1.2 h2.1 h2.2
  exact ⟨j, hj, e, ho⟩

theorem InUse.apart (K : SOk sz f S) (A : SApart S) {x y : Nat} (hx : InUse S x) (hy : InUse S y) (hne : x ≠ y) : x + 8 ≤ y ∨ y + 8 ≤ x := by
  obtain ⟨s, hs, p, hp, i, hi, ex, _⟩ := hx
  obtain ⟨t, ht, q, hq, j, hj, ey, _⟩ := hy
  have Ip := (K.pag s hs p hp).1
  have Iq := (K.pag t ht q hq).1
  have h1 := Ip.in_ (Nat.lt_of_lt_of_le hi Ip.mn)
  have h2 := Iq.in_ (Nat.lt_of_lt_of_le hj Iq.mn)
  have s1 := Ip.s16
  have s2 := Iq.s16
  by_cases hc : x + 8 ≤ y ∨ y + 8 ≤ x
  · exact hc
  · rcases Nat.le_total x y with hxy | hxy
    · obtain ⟨_, rfl⟩ := A.same hs hp ht hq (x := y) (by omega) (by omega) (by omega) (by omega)
      exact blocks_apart s1 ex ey hne
    · obtain ⟨_, rfl⟩ := A.same hs hp ht hq (x := x) (by omega) (by omega) (by omega) (by omega)
      exact blocks_apart s1 ex ey hne

theorem BInv.perm {U' : List Nat} (I : BInv h U) (hp : U'.Perm U) : BInv h U' :=
  ⟨hp.length_eq.trans I.cnt, fun x hx => I.use x (hp.mem_iff.1 hx), hp.nodup_iff.2 I.nod, I.pos, I.keys⟩

/-- A page ends, and all of it that was used. -/
theorem BInv.dropped (I : BInv h U) (ne : NE h.S) (K : SOk sz f h.S) (hs : s ∈ h.S) (hp : p ∈ s.P) (he : EndsAt a h.S s p.at_ S' a') {U' : List Nat} {i : Nat} {R F : List Int} {k1 k2 : Option Nat}
    (hl : U'.length + p.pg.used = U.length) (hn : U'.Nodup) (hsub : ∀ y ∈ U', y ∈ U ∧ inPg p.pg y = false) (hk : ∀ y, y ≠ keyOf s p → (y ∈ h.Q1 i ∨ y ∈ h.Q2 i) → y ∈ R ∨ y ∈ F) :
    BInv (({ h with S := S' } : HeapR).queued i R F k1 k2) U' ∧ NE S' := by
  refine ⟨⟨?_, fun y hy => ?_, hn, fun t ht q hq => ?_, fun t ht q hq => ?_⟩, ends_ne K ne hs he⟩
  · have := ends_used K hs hp he
    have := I.cnt
    show U'.length = usedS S'
    omega
  · obtain ⟨hyU, hyp⟩ := hsub y hy
    obtain ⟨t, ht, q, hq, j, hj, e, ho⟩ := I.use y hyU
    have hne : t.pl ≠ s.pl ∨ q.at_ ≠ p.at_ := by
      by_cases e1 : t.pl = s.pl
      · right
        intro e2
        have := pair_at (F := SegR.pl) K.pls ht hs e1
        subst this
        have := pair_at (K.nod t ht) hq hp e2
        subst this
        rw [UsedIn.in_pg (K.pag t ht q hq).1 ⟨j, hj, e, ho⟩] at hyp
        cases hyp
      · exact .inl e1
    obtain ⟨t', ht', hq', _⟩ := ends_sup K hs he ht hq hne
    exact ⟨t', ht', q, hq', j, hj, e, ho⟩
  · obtain ⟨t0, ht0, hq0, _⟩ := ends_sub K hs he ht hq
    exact I.pos t0 ht0 q hq0
  · obtain ⟨t0, ht0, hq0, epl, hne⟩ := ends_sub K hs he ht hq
    obtain ⟨c, e, hkk⟩ := I.keys t0 ht0 q hq0
    have ek : keyOf t q = keyOf t0 q := by unfold keyOf; rw [epl]
    have hkne : keyOf t0 q ≠ keyOf s p := fun ek => by
      obtain ⟨rfl, rfl⟩ := K.key_inj ht0 hs hq0 hp ek
      rcases hne with h | h <;> exact h rfl
    refine ⟨c, e, ?_⟩
    rw [ek]
    by_cases ec : c = i
    · subst ec
      rw [q1_queued, q2_queued]
      exact hk _ hkne hkk
    · rw [show (({ h with S := S' } : HeapR).queued i R F k1 k2).Q1 c = h.Q1 c from updF_ne _ _ ec, show (({ h with S := S' } : HeapR).queued i R F k1 k2).Q2 c = h.Q2 c from updF_ne _ _ ec]
      exact hkk

/-- A page whose cell reads otherwise. -/
theorem BInv.celled (I : BInv h U) (K : SOk sz f h.S) (hs : s ∈ h.S) (hp : p ∈ s.P) (x : Nat) (t ak : Int) (d : Nat) : BInv { h with S := setPg s.pl p.at_ { p.pg with word := x, tag := t, asked := ak, head := d } h.S } U := by
  obtain ⟨pg', hpg⟩ : ∃ pg' : Pg, pg' = { p.pg with word := x, tag := t, asked := ak, head := d } := ⟨_, rfl⟩
  rw [← hpg]
  have hu : pg'.used = p.pg.used := by rw [hpg]
  have hself := mem_setPg_self (at_ := p.at_) (pg' := pg') hs
  have hpself := mem_setPP_self (pg' := pg') hp
  refine ⟨?_, fun y hy => ?_, I.nod, fun t ht q hq => ?_, fun t ht q hq => ?_⟩
  · have h1 := usedS_set (pg' := pg') K hs hp
    have h3 := I.cnt
    show U.length = usedS (setPg s.pl p.at_ pg' h.S)
    omega
  · obtain ⟨t, ht, q, hq, j, hj, ey, hoy⟩ := I.use y hy
    by_cases e1 : t.pl = s.pl
    · have := pair_at (F := SegR.pl) K.pls ht hs e1
      subst this
      by_cases e2 : q.at_ = p.at_
      · have := pair_at (K.nod t ht) hq hp e2
        subst this
        exact ⟨_, hself, _, hpself, j, by rw [hpg]; exact hj, by rw [hpg]; exact ey, by rw [hpg]; exact hoy⟩
      · exact ⟨_, hself, q, mem_setPP hq e2, j, hj, ey, hoy⟩
    · exact ⟨t, mem_setPg hs ht e1, q, hq, j, hj, ey, hoy⟩
  · rcases setPg_mem K hs ht with ⟨ht, _⟩ | rfl
    · exact I.pos t ht q hq
    · rcases setPP_mem (K.nod s hs) hp hq with ⟨hq, _⟩ | rfl
      · exact I.pos s hs q hq
      · show 1 ≤ pg'.used
        rw [hu]
        exact I.pos s hs p hp
  · rcases setPg_mem K hs ht with ⟨ht, _⟩ | rfl
    · exact I.keys t ht q hq
    · rcases setPP_mem (K.nod s hs) hp hq with ⟨hq, _⟩ | rfl
      · exact I.keys s hs q hq
      · exact I.keys s hs p hp

theorem sum_eq_at {α : Type} {g g' : α → Nat} : ∀ {l : List α}, (∀ x ∈ l, g x ≤ g' x) → (l.map g').sum ≤ (l.map g).sum → ∀ x ∈ l, g x = g' x
  | [], _, _, _, hx => by cases hx
  | y :: r, hle, hs, x, hx => by
    simp only [List.map_cons, List.sum_cons] at hs
    have h1 := hle y (by simp)
    have h2 : (r.map g).sum ≤ (r.map g').sum := by
      clear hs hx
      have hr : ∀ x ∈ r, g x ≤ g' x := fun x hx => hle x (by simp [hx])
      clear hle h1
      induction r with
      | nil => simp
      | cons z q ih =>
        simp only [List.map_cons, List.sum_cons]
        have := hr z (by simp)
        have := ih (fun x hx => hr x (by simp [hx]))
        omega
    rcases List.mem_cons.1 hx with rfl | hx
    · omega
    · exact sum_eq_at (fun x hx => hle x (by simp [hx])) (by omega) x hx
theorem sum_one_more {α : Type} {g g' : α → Nat} {P : α → Prop} : ∀ {l : List α}, (∀ x ∈ l, g x ≤ g' x) → (∃ x ∈ l, g x + 1 ≤ g' x) → 1 + (l.map g).sum ≤ (l.map g').sum
  | [], _, ⟨x, hx, _⟩ => by cases hx
  | y :: r, hle, ⟨x, hx, h1⟩ => by
    simp only [List.map_cons, List.sum_cons]
    have hy := hle y (by simp)
    have hr : (r.map g).sum ≤ (r.map g').sum := by
      have hr : ∀ x ∈ r, g x ≤ g' x := fun x hx => hle x (by simp [hx])
      clear hx hle hy
      induction r with
      | nil => simp
      | cons z q ih =>
        simp only [List.map_cons, List.sum_cons]
        have := hr z (by simp)
        have := ih (fun x hx => hr x (by simp [hx]))
        omega
    rcases List.mem_cons.1 hx with rfl | hx
    · omega
    · have := sum_one_more (P := P) (l := r) (fun x hx => hle x (by simp [hx])) ⟨x, hx, h1⟩
      omega
theorem len_le_sum {α : Type} {l : List α} {P : α → Nat → Bool} : ∀ {U : List Nat}, (∀ y ∈ U, ∃ x ∈ l, P x y = true) → U.length ≤ (l.map fun x => (U.filter (P x)).length).sum
  | [], _ => Nat.zero_le _
  | y :: r, hU => by
    have ih := len_le_sum (l := l) (P := P) (U := r) (fun z hz => hU z (by simp [hz]))
    have := sum_one_more (P := fun _ : α => True) (l := l) (g := fun x => (r.filter (P x)).length) (g' := fun x => ((y :: r).filter (P x)).length) (fun x _ => by
      show (r.filter (P x)).length ≤ ((y :: r).filter (P x)).length
      rw [List.filter_cons]
      split
      · simp
      · exact Nat.le_refl _) (by
      obtain ⟨x, hx, hP⟩ := hU y (by simp)
      refine ⟨x, hx, ?_⟩
      show (r.filter (P x)).length + 1 ≤ ((y :: r).filter (P x)).length
      rw [List.filter_cons, if_pos hP]
      simp)
    simp only [List.length_cons]
    omega
theorem usedS_flat : ∀ (S : List SegR), usedS S = ((S.flatMap (·.P)).map fun p => p.pg.used).sum
  | [] => rfl
  | s :: r => by
    have := usedS_flat r
    unfold usedS at *
    simp only [List.map_cons, List.sum_cons, List.flatMap_cons, List.map_append, List.sum_append, this]
    rfl

/-- All of a page that is used is told of. -/
theorem BInv.count (I : BInv h U) (K : SOk sz f h.S) (A : SApart h.S) (hs : s ∈ h.S) (hp : p ∈ s.P) : (U.filter (inPg p.pg)).length = p.pg.used := by
  refine sum_eq_at (l := h.S.flatMap (·.P)) (g := fun q => (U.filter (inPg q.pg)).length) (g' := fun q => q.pg.used) (fun q hq => ?_) ?_ p (List.mem_flatMap.2 ⟨s, hs, hp⟩)
  · obtain ⟨t, ht, hq⟩ := List.mem_flatMap.1 hq
    refine (K.pag t ht q hq).1.posted_le (I.nod.filter _) fun y hy => ?_
    have := List.mem_filter.1 hy
    exact (I.use y this.1).at_ K A ht hq this.2
  · have h1 := I.cnt
    rw [usedS_flat] at h1
    have h2 := len_le_sum (l := h.S.flatMap (·.P)) (P := fun q => inPg q.pg) (U := U) (fun y hy => by
      obtain ⟨t, ht, q, hq, j, hj, e, ho⟩ := I.use y hy
      exact ⟨q, List.mem_flatMap.2 ⟨t, ht, hq⟩, UsedIn.in_pg (K.pag t ht q hq).1 ⟨j, hj, e, ho⟩⟩)
    omega
end Go.Proofs.YtbljphaklciinaaGreat

/- Layer 2 (mem): Fill with one byte; Get. -/
namespace Go.Proofs.YtbljphaklciinaaGreat
open Go.RowKit
variable {w w' : World} {bm bb sz : Nat} {f : Nat → Nat}

/-- Bytes, laid over and over. -/
def fillF (f : Nat → Nat) (a n c : Nat) : Nat → Nat := fun j => if a ≤ j ∧ j < a + n then c else f j
theorem fillF_zero (a c : Nat) : fillF f a 0 c = f := by
  funext j
  unfold fillF
  rw [if_neg (by omega)]
theorem info_u8 : (Tryz.prog.info? 5).map (fun i => (i.zero, i.size, i.bytes)) = some (some (.int .u8 0), 1, 1) := by kernel_rfl

theorem MemAt.filled1 (h : MemAt w bm bb sz f) {a k c : Nat} (hc : c < 256) (ha : a + k < sz) : MemAt (w.setCells bb (a + k) [.int .u8 (c : Nat)]) bm bb sz (fun j => if j = a + k then c else f j) := by
  refine ⟨?_, h.ne, fun i hi => ?_, fun i hi => ?_, fun j => ?_, h.s0, h.s1⟩
  · exact (World.cell?_of_block (a := ⟨bm, 0, none⟩) (Below.heap_setCell w ⟨bb, a + k, none⟩ _ bm h.ne)).trans h.ptr
  · by_cases e : i = a + k
    · subst e
      rw [if_pos rfl]
      exact World.cell?_setCell_same' _ _ _ (by rw [h.cell _ hi]; rfl)
    · rw [if_neg e]
      exact (World.cell?_setCell_other _ _ _ _ (by simp [e])).trans (h.cell i hi)
  · show (w.setCell ⟨bb, a + k, none⟩ _).frozen? _ = false
    rw [World.frozen?_setCell]
    exact h.frz i hi
  · show (if j = a + k then c else f j) < 256
    split
    · exact hc
    · exact h.lt j

set_option maxRecDepth 100000 in
set_option maxHeartbeats 4000000 in
theorem memFill_ok (h : MemAt w bm bb sz f) {a n c pb : Nat} (hc : c < 256) (hp : w.cell? ⟨pb, 0, none⟩ = some (.int .u8 c)) (hpb : pb ≠ bb) (hn0 : 0 < n) (hn : a + n ≤ sz) :
    Calls Tryz.prog 17 #[.pointer (some ⟨bm, 0, none⟩), .int .u64 a, .int .u64 n, .slice (some ⟨pb, 0, none⟩) 1 1] w fun e w' => e = .returned (.int .i64 0) ∧ MemAt w' bm bb sz (fillF f a n c) ∧ w.grownBy w' (some bb) := by
  have HH := Lib.hid h
  have hs1 := h.s1
  have HPC := Lib.hid hp
  have hsB : (Tryz.prog.info? 5).map (·.size) = some 1 := by
    obtain ⟨i0, hi0, h0, h1, h2⟩ := info_parts info_u8
    rw [hi0]; simp [h1]
  clear h hp
  go_enter Tryz.func17, Tryz.ntmps17
  go_wp2_with fail
  refine (memIn_ok HH.out a n (by omega) hn).mono ?_
  rintro e w1 ⟨rfl, rfl⟩
  go_wp2_with fail
  go_loopw [9] (fun to wr => ∃ (k : Nat) (ad : Addr), k ≤ n ∧ to = .slice (some ad) (n - k) (sz - a - k) ∧ Hid (k < n → ad = ⟨bb, a + k, none⟩) ∧ Hid (MemAt wr bm bb sz (fillF f a k c)) ∧ Hid (w.grownBy wr (some bb))) (fun to _ => match to with | .slice _ n _ => n | _ => 0)
  case atStart => exact ⟨0, ⟨bb, a, none⟩, by omega, rfl, fun _ => rfl, by rw [fillF_zero]; exact HH.out, World.grownBy.refl w _⟩
  case round =>
    obtain ⟨k, ad, hk, rfl, HA, HM, HG⟩ := hrel
    by_cases hlt : k < n
    · obtain rfl := HA.out hlt
      have hcp : ∀ ty, (Builtin.copy_ #[47, 47] ty #[.slice (some ⟨bb, a + k, none⟩) (n - k) (sz - a - k), .slice (some ⟨pb, 0, none⟩) 1 1]).run Tryz.prog wr = .ok (goInt 1) (wr.setCells bb (a + k) [.int .u8 (c : Nat)]) := fun ty => by
        have hpr : wr.cell? ⟨pb, 0, none⟩ = some (.int .u8 (c : Nat)) := HG.out.cell HPC.out (fun e => hpb (Option.some.inj e))
        exact run_copy_cells wr _ 47 ty 5 bb (a + k) (n - k) (sz - a - k) ⟨pb, 0, none⟩ 1 1 [.int .u8 (c : Nat)] Tryz.underlying47 hsB (by show 1 = Nat.min 1 (n - k); simp only [Nat.min_def]; split <;> omega)
          (fun j v hj => by
            match j with
            | 0 => simp at hj; rw [← hj, Addr.add_lit]; exact hpr
            | j + 1 => simp at hj)
          (fun j hj => by simp at hj; subst hj; rw [Nat.add_zero, HM.out.cell _ (by omega)]; rfl) (fun j hj => by simp at hj; subst hj; exact HM.out.frz _ (by omega)) (fun v hv => by simp at hv; subst hv; rfl)
      go_wp2_with (first | simp only [hcp] | fail)
      refine ⟨⟨k + 1, if sz - a - k = 1 then ⟨bb, a + k, none⟩ else ⟨bb, a + k + 1, none⟩, by omega, ?_, fun h => ?_, ?_, ?_⟩, ?_⟩
      · rw [show n - (k + 1) = n - k - 1 by omega, show sz - a - (k + 1) = sz - a - k - 1 by omega]
        split <;> rfl
      · rw [if_neg (by omega)]
        rfl
      · have hm := HM.out.filled1 (a := a) (k := k) hc (by omega)
        have e : (fun j => if j = a + k then c else fillF f a k c j) = fillF f a (k + 1) c := by
          funext j
          unfold fillF
          by_cases h1 : j = a + k
          · rw [if_pos h1, if_pos (by omega)]
          · rw [if_neg h1]
            by_cases h2 : a ≤ j ∧ j < a + k
            · rw [if_pos h2, if_pos (by omega)]
            · rw [if_neg h2, if_neg (by omega)]
        rw [e] at hm
        exact hm
      · exact only_set HG.out _
      · show n - k - 1 < n - k
        omega
    · obtain rfl : k = n := by omega
      go_wp2_with fail
      go_ret
      exact ⟨rfl, HM.out, HG.out⟩

/-- What lies there. -/
def bytesV (f : Nat → Nat) (a n : Nat) : List Value := (List.range n).map fun i => .int .u8 (f (a + i) : Nat)
theorem bytesV_len (a n : Nat) : (bytesV f a n).length = n := by unfold bytesV; simp
theorem bytesV_at {a n i : Nat} (hi : i < n) : (bytesV f a n)[i]? = some (.int .u8 (f (a + i) : Nat)) := by
  unfold bytesV
  rw [List.getElem?_map, List.getElem?_range hi]
  rfl
/-- A new row of bytes. -/
def NewBytes (w : World) (l : List Value) (e : Ending) (w' : World) : Prop := ∃ v, e = .returned v ∧ w'.ownsRow w.heap.size 5 1 v l.length l ∧ Below w.heap.size w w'
theorem eql_nil_u8 (w : World) (A : Option Addr) (n c : Nat) : (binOp .eql 47 (.slice A n c) (.slice none 0 0)).run Tryz.prog w = .ok (.bool A.isNone) w := by
  simp only [binOp]
  simp [Op.equal, Op.maxDepth, Lib.run_equalIn_slice_nil w 9999 47 5 A n c 0 0 Tryz.underlying47]

set_option maxRecDepth 100000 in
set_option maxHeartbeats 2000000 in
theorem cloneU8_some (w : World) (N : Nat) (ad : Addr) (n c : Nat) (l : List Value) (hl : Reads w N 1 (some ad) n l) (h1 : ∀ u ∈ l, u.oneCell' = true) (hN : N ≤ w.heap.size) (hn : n ≤ 2000000) :
    Calls Tryz.prog 50 #[.slice (some ad) n c] w (NewBytes w l) := by
  have hlen : l.length = n := by have := hl.1; omega
  have HL := Lib.hid hlen
  have HR := Lib.hid (Reads.alloc hl hN (.cells #[] 5))
  have H1C := Lib.hid h1
  obtain ⟨i0, hi0, hz0, hz1, hz2⟩ := info_parts info_u8
  clear hlen hl h1
  have hq := fun w => eql_nil_u8 w (some ad) n c
  simp only [Option.isNone_some] at hq
  go_enter Tryz.func50, Tryz.ntmps50
  go_wp2_with (first
    | (at_builtin
       refine wpList_append_any _ rfl (.tmp 5) (.tmp 6) _ rfl w.heap.size 5 i0 _ 1 1 Tryz.underlying47 hi0 hz0 hz1 hz2 rfl (by omega) (.slice (some ⟨w.heap.size, 0, none⟩) 0 0) 0 [] rfl
         (World.ownsRow_made w #[] 0 (Nat.le_refl _) (Nat.zero_le _) rfl) N (some ad) n c l rfl HR.out H1C.out (by simp only [maxLen]; omega) (by omega) (by simp) ?_
       intro v1 w1 hown1 hg1 hat1
       have H1 := Lib.hid hown1
       have H2 := Lib.hid hg1
       have H3 := Lib.hid hat1
       obtain ⟨A1, n1, c1, rfl⟩ : ∃ A n c, v1 = .slice A n c := by
         rcases hown1.2 with ⟨rfl, _⟩ | ⟨g, cap, cur, rfl, _⟩
         · exact ⟨_, _, _, rfl⟩
         · exact ⟨_, _, _, rfl⟩
       clear hown1 hg1 hat1))
  go_ret
  refine ⟨_, rfl, ?_, ?_⟩
  · have h := H1.out
    rw [Nat.zero_add, List.nil_append, ← HL.out] at h
    exact h
  · exact ((Below.refl _ w).alloc (Nat.le_refl _) _).grown H2.out (by simp) (fun k e => by simp [Value.ownBlock] at e; omega)

set_option maxRecDepth 100000 in
set_option maxHeartbeats 4000000 in
theorem memGet_ok (h : MemAt w bm bb sz f) {a n : Nat} (hn0 : 0 < n) (hn : a + n ≤ sz) :
    Calls Tryz.prog 18 #[.pointer (some ⟨bm, 0, none⟩), .int .u64 a, .int .u64 n] w fun e w' => ∃ A c, e = .returned (.tuple #[.slice A n c, .int .i64 0]) ∧ w'.ownsRow w.heap.size 5 1 (.slice A n c) (bytesV f a n).length (bytesV f a n) ∧ Below w.heap.size w w' := by
  have HH := Lib.hid h
  have hs1 := h.s1
  have HR : Hid (Reads w w.heap.size 1 (some ⟨bb, a, none⟩) n (bytesV f a n)) := by
    refine ⟨by rw [bytesV_len]; omega, fun _ => ⟨⟨bb, a, none⟩, rfl, h.lt_bb, fun j u hu => ?_⟩⟩
    have hj := (List.getElem?_eq_some_iff.1 hu).1
    rw [bytesV_len] at hj
    rw [bytesV_at hj] at hu
    rw [Addr.add_lit, ← hu]
    exact h.cell _ (by omega)
  clear h
  go_enter Tryz.func18, Tryz.ntmps18
  go_wp2_with fail
  refine (memIn_ok HH.out a n (by omega) hn).mono ?_
  rintro e w1 ⟨rfl, rfl⟩
  go_wp2_with fail
  refine (cloneU8_some w w.heap.size ⟨bb, a, none⟩ n (sz - a) (bytesV f a n) HR.out (fun u hu => by
    unfold bytesV at hu
    obtain ⟨i, _, rfl⟩ := List.mem_map.1 hu
    rfl) (Nat.le_refl _) (by omega)).mono ?_
  rintro e w2 ⟨v2, rfl, ho2, hb2⟩
  obtain ⟨A, c, rfl, _⟩ := own_at ho2
  rw [bytesV_len] at ho2 ⊢
  have HO := Lib.hid ho2
  have HB := Lib.hid hb2
  clear ho2 hb2
  go_wp2_with fail
  go_ret2
  exact ⟨A, c, rfl, by rw [bytesV_len]; exact HO.out, HB.out⟩
end Go.Proofs.YtbljphaklciinaaGreat

/- HeapApart, plain: blocks that are used, and what users wrote there, through get, Free, Fill. -/
namespace Go.Proofs.YtbljphaklciinaaGreat
open Go.RowKit
variable {ro ro' : Nat → Role} {hn : Nat} {w w' : World} {B bm bb sz : Nat} {f f' : Nat → Nat} {h h' : HeapR} {S S' : List SegR} {k x y n k' r v c : Nat} {U : List Nat} {a a' : ArR} {W : World} {s t : SegR} {p q : PageR} {u u' : Nat × Nat × Nat}

/-- A block, how many bytes it has, and what is in them. -/
def AB (f : Nat → Nat) (S : List SegR) (u : Nat × Nat × Nat) : Prop := ∃ s ∈ S, ∃ p ∈ s.P, UsedIn p.pg u.1 ∧ u.2.1 = p.pg.s ∧ ∀ i, i < u.2.1 → f (u.1 + i) = u.2.2

theorem UsedIn.ends {pg : Pg} (I : PgInv f sz pg) (hx : UsedIn pg x) : pg.f ≤ x ∧ x + pg.s ≤ pg.f + pg.made * pg.s ∧ x + pg.s ≤ pg.f + pg.n * pg.s := by
  obtain ⟨j, hj, e, _⟩ := hx
  have h1 : (j + 1) * pg.s ≤ pg.made * pg.s := Nat.mul_le_mul_right _ hj
  have h2 : pg.made * pg.s ≤ pg.n * pg.s := Nat.mul_le_mul_right _ I.mn
  rw [Nat.succ_mul] at h1
  omega

/-- Two blocks are apart, whatever the pages. -/
theorem used_apart (K : SOk sz f S) (A : SApart S) (hs : s ∈ S) (hp : p ∈ s.P) (hx : UsedIn p.pg x) (ht : t ∈ S) (hq : q ∈ t.P) (hy : UsedIn q.pg y) (hne : x ≠ y) : x + p.pg.s ≤ y ∨ y + q.pg.s ≤ x := by
  have Ip := (K.pag s hs p hp).1
  have Iq := (K.pag t ht q hq).1
  have e1 := hx.ends Ip
  have e2 := hy.ends Iq
  have s1 := Ip.s16
  have s2 := Iq.s16
  by_cases h : s = t ∧ p = q
  · obtain ⟨rfl, rfl⟩ := h
    obtain ⟨i, hi, ex, _⟩ := hx
    obtain ⟨j, hj, ey, _⟩ := hy
    rcases Nat.lt_trichotomy i j with h | h | h
    · have := mul_apart (s := p.pg.s) h; omega
    · subst h; exact absurd (ex.trans ey.symm) hne
    · have := mul_apart (s := p.pg.s) h; omega
  · refine Classical.byContradiction fun hc => h ?_
    -- an address of both
    by_cases hxy : x ≤ y
    · exact A.same hs hp ht hq (x := y) (by omega) (by omega) (by omega) (by omega)
    · exact A.same hs hp ht hq (x := x) (by omega) (by omega) (by omega) (by omega)

theorem AB.apart (K : SOk sz f S) (A : SApart S) (h : AB f' S u) (h' : AB f' S u') (hne : u.1 ≠ u'.1) : u.1 + u.2.1 ≤ u'.1 ∨ u'.1 + u'.2.1 ≤ u.1 := by
  obtain ⟨s, hs, p, hp, hx, e1, _⟩ := h
  obtain ⟨t, ht, q, hq, hy, e2, _⟩ := h'
  rw [e1, e2]
  exact used_apart K A hs hp hx ht hq hy hne

theorem setPg_other {pg' : Pg} (ht : t ∈ S) (hq : q ∈ t.P) (hne : t.pl ≠ s.pl ∨ q.at_ ≠ p.at_) : ∃ t' ∈ setPg s.pl p.at_ pg' S, q ∈ t'.P := by
  refine ⟨_, List.mem_map.2 ⟨t, ht, rfl⟩, ?_⟩
  by_cases e : t.pl = s.pl
  · rw [if_pos e]
    refine List.mem_map.2 ⟨q, hq, ?_⟩
    rw [if_neg]
    rcases hne with h | h
    · exact absurd e h
    · exact h
  · rw [if_neg e]
    exact hq

/-- Bytes of another page. -/
theorem not_there (K : SOk sz f S) (A : SApart S) (hs : s ∈ S) (hp : p ∈ s.P) (ht : t ∈ S) (hq : q ∈ t.P) (hne : t.pl ≠ s.pl ∨ q.at_ ≠ p.at_) {j : Nat} (h1 : q.pg.f ≤ j) (h2 : j < q.pg.f + q.pg.n * q.pg.s) : j < p.pg.f ∨ p.pg.f + p.pg.n * p.pg.s ≤ j := by
  refine Classical.byContradiction fun hc => ?_
  obtain ⟨rfl, rfl⟩ := A.same hs hp ht hq (x := j) (by omega) (by omega) h1 h2
  rcases hne with h | h <;> exact h rfl

theorem same_page (K : SOk sz f S) (hs : s ∈ S) (hp : p ∈ s.P) (ht : t ∈ S) (hq : q ∈ t.P) : (s = t ∧ p = q) ∨ (t.pl ≠ s.pl ∨ q.at_ ≠ p.at_) := by
  by_cases e1 : t.pl = s.pl
  · have := pair_at (F := SegR.pl) K.pls ht hs e1
    subst this
    by_cases e2 : q.at_ = p.at_
    · exact .inl ⟨rfl, pair_at (F := PageR.at_) (K.nod t ht) hp hq e2.symm⟩
    · exact .inr (.inr e2)
  · exact .inr (.inl e1)

theorem AB.loc {pg' : Pg} (K : SOk sz f S) (A : SApart S) (hs : s ∈ S) (hp : p ∈ s.P) (hg : PgGot f sz p.pg f' pg' x) (h : AB f S u) : AB f' (setPg s.pl p.at_ pg' S) u := by
  obtain ⟨t, ht, q, hq, hu, es, hb⟩ := h
  have Iq := (K.pag t ht q hq).1
  have he := hu.ends Iq
  rcases same_page K hs hp ht hq with ⟨rfl, rfl⟩ | hne
  · obtain ⟨j, hj, e, ho⟩ := hu
    refine ⟨_, mem_setPg_self hs, _, mem_setPP_self hp, ⟨j, Nat.lt_of_lt_of_le hj hg.more_, by show u.1 = pg'.f + j * pg'.s; rw [hg.sf, hg.ss]; exact e, fun hy => ?_⟩, es.trans hg.ss.symm, fun i hi => (hg.low _ (by omega)).trans (hb i hi)⟩
    rcases hg.sub _ hy with h | h
    · exact ho h
    · have := Iq.s16; omega
  · obtain ⟨t', ht', hq'⟩ := setPg_other (pg' := pg') ht hq hne
    refine ⟨t', ht', q, hq', hu, es, fun i hi => (hg.far _ (not_there K A hs hp ht hq hne (by omega) (by omega))).trans (hb i hi)⟩

theorem AB.new {F Sz N : Nat} {p0 : PageR} (K : SOk sz f S) (K' : SOk sz f' (addPg s.pl p0 S)) (A' : SApart (addPg s.pl p0 S)) (hs : s ∈ S) (hg : PgGot f sz (newPg F Sz N) f' p0.pg x) (h : AB f S u) : AB f' (addPg s.pl p0 S) u := by
  obtain ⟨t, ht, q, hq, hu, es, hb⟩ := h
  have Iq := (K.pag t ht q hq).1
  have he := hu.ends Iq
  have ht' : addI s.pl p0 t ∈ addPg s.pl p0 S := List.mem_map.2 ⟨t, ht, rfl⟩
  have hq' : q ∈ (addI s.pl p0 t).P := by
    unfold addI
    split
    · exact List.mem_append_left _ hq
    · exact hq
  have hs' := mem_addPg_self (p := p0) hs
  have hp0 : p0 ∈ ({ s with P := s.P ++ [p0] } : SegR).P := by simp
  have hne : (addI s.pl p0 t).pl ≠ s.pl ∨ q.at_ ≠ p0.at_ := by
    by_cases e : t.pl = s.pl
    · right
      have := pair_at (F := SegR.pl) K.pls ht hs e
      subst this
      have := K'.nod _ hs'
      rw [List.pairwise_append] at this
      exact this.2.2 q hq p0 (by simp)
    · left
      rw [addI_pl]
      exact e
  refine ⟨_, ht', q, hq', hu, es, fun i hi => (hg.far _ ?_).trans (hb i hi)⟩
  have := not_there K' A' hs' hp0 ht' hq' hne (j := u.1 + i) (by omega) (by omega)
  rw [hg.sf, hg.ss, hg.sn] at this
  exact this

theorem AB.grow (hg : GGrow k h h') (hb : AB f h.S u) : AB f h'.S u := by
  obtain ⟨s, gs, _, _, _, rfl⟩ := hg
  obtain ⟨t, ht, e⟩ := hb
  exact ⟨t, List.mem_append_left _ ht, e⟩

/-- A class's pages have its blocks. -/
def CS (S : List SegR) : Prop := ∀ s ∈ S, ∀ p ∈ s.P, ∀ i, i < 12 → rowIx p.cls = some i → p.pg.s = szs.getD i 0
theorem CS.set {pl at_ : Nat} {pg : Pg} (H : CS S) (hs : ∀ s ∈ S, s.pl = pl → ∀ p ∈ s.P, p.at_ = at_ → pg.s = p.pg.s) : CS (setPg pl at_ pg S) := fun t ht q hq i hi hr => by
  obtain ⟨t0, ht0, rfl⟩ := List.mem_map.1 ht
  by_cases e : t0.pl = pl
  · rw [if_pos e] at hq
    obtain ⟨q0, hq0, rfl⟩ := List.mem_map.1 hq
    by_cases e2 : q0.at_ = at_
    · rw [if_pos e2] at hr ⊢
      show pg.s = _
      rw [hs t0 ht0 e q0 hq0 e2]
      exact H t0 ht0 q0 hq0 i hi hr
    · rw [if_neg e2] at hr ⊢
      exact H t0 ht0 q0 hq0 i hi hr
  · rw [if_neg e] at hq
    exact H t0 ht0 q hq i hi hr
theorem CS.add {pl : Nat} {p0 : PageR} (H : CS S) (h0 : ∀ i, i < 12 → rowIx p0.cls = some i → p0.pg.s = szs.getD i 0) : CS (addPg pl p0 S) := fun t ht q hq i hi hr => by
  obtain ⟨t0, ht0, rfl⟩ := List.mem_map.1 ht
  unfold addI at hq
  by_cases e : t0.pl = pl
  · rw [if_pos e] at hq
    rcases List.mem_append.1 hq with hq | hq
    · exact H t0 ht0 q hq i hi hr
    · simp only [List.mem_singleton] at hq
      subst hq
      exact h0 i hi hr
  · rw [if_neg e] at hq
    exact H t0 ht0 q hq i hi hr

theorem SOk.grown (K : SOk sz f h.S) (hpl : ∀ s ∈ h.S, s.pl ≠ k) (hg : GGrow k h h') : SOk sz f h'.S := by
  obtain ⟨s, gs, e, hP, _, rfl⟩ := hg
  have hm : ∀ {t : SegR}, t ∈ h.S ++ [s] → t ∈ h.S ∨ t = s := fun {t} ht => by
    rcases List.mem_append.1 ht with ht | ht
    · exact .inl ht
    · exact .inr (by simpa using ht)
  refine ⟨?_, fun t ht p hp => ?_, fun t ht => ?_⟩
  · show (h.S ++ [s]).Pairwise _
    rw [List.pairwise_append]
    refine ⟨K.pls, List.pairwise_singleton _ _, fun t ht u hu => ?_⟩
    simp only [List.mem_singleton] at hu
    subst hu
    rw [e]
    exact hpl t ht
  · rcases hm ht with ht | rfl
    · exact K.pag t ht p hp
    · rw [hP] at hp; cases hp
  · rcases hm ht with ht | rfl
    · exact K.nod t ht
    · rw [hP]; exact List.Pairwise.nil

theorem PlanOk.s16 {c q : Int} {i sl Sz N : Nat} (hp : PlanOk c q i sl Sz N) : Sz % 16 = 0 ∧ 0 < Sz := by
  rcases hp with ⟨_, _, _, h1, _, rfl, _⟩ | ⟨_, hi, _, rfl, _⟩
  · omega
  · rcases (show i = 0 ∨ i = 1 ∨ i = 2 ∨ i = 3 ∨ i = 4 ∨ i = 5 ∨ i = 6 ∨ i = 7 ∨ i = 8 ∨ i = 9 ∨ i = 10 ∨ i = 11 by omega) with rfl | rfl | rfl | rfl | rfl | rfl | rfl | rfl | rfl | rfl | rfl | rfl <;> decide

/-- What get gives, and what stays. -/
theorem got_ab {c q : Int} {i sl Sz N : Nat} (I : BInv h U) (ne : NE h.S) (K : SOk sz f h.S) (A : SApart h.S) (K' : SOk sz f' h'.S) (A' : SApart h'.S) (hpl : ∀ s ∈ h.S, s.pl ≠ k) (hC : CS h.S) (hp : PlanOk c q i sl Sz N) {y : Option Nat} (hg : GetR sz n k f h c i sl Sz N y f' h' k') :
    NE h'.S ∧ CS h'.S ∧ (∀ u, AB f h.S u → AB f' h'.S u) ∧ ((∃ x, y = some x ∧ BInv h' (U ++ [x]) ∧ ∃ s ∈ h'.S, ∃ p ∈ s.P, UsedIn p.pg x ∧ Sz = p.pg.s) ∨ (y = none ∧ BInv h' U)) := by
  obtain ⟨f1, f2, f3, f4, f5, f6, _⟩ := hp.facts
  have newS : ∀ {h h' : HeapR} {x : Nat} {f}, GNew sz f h c i sl Sz N x f' h' → SOk sz f h.S → SOk sz f' h'.S → SApart h'.S → CS h.S → CS h'.S ∧ (∀ u, AB f h.S u → AB f' h'.S u) ∧ ∃ s ∈ h'.S, ∃ p ∈ s.P, UsedIn p.pg x ∧ Sz = p.pg.s := fun {h h' x f} hg K K' A' hC => by
    obtain ⟨s, hs, at_, bo, bp, pg', k1, k2, _, _, hx, hgot, rfl⟩ := hg
    refine ⟨hC.add fun j hj hr => ?_, fun u hu => hu.new K K' A' hs hgot, ⟨_, mem_addPg_self (p := ⟨bo, bp, c, at_, sl, pg'⟩) hs, ⟨bo, bp, c, at_, sl, pg'⟩, by simp, ?_, hgot.ss.symm⟩⟩
    · have e : j = i := Option.some.inj ((show rowIx c = some j from hr).symm.trans f2)
      subst e
      show pg'.s = _
      rw [hgot.ss]
      rcases hp with ⟨_, rfl, _⟩ | ⟨_, _, _, h4, _⟩
      · omega
      · exact h4
    · obtain ⟨j, hj, e⟩ := hgot.blk
      exact ⟨j, hj, by show x = pg'.f + j * pg'.s; rw [hgot.sf, hgot.ss]; exact e, hgot.out⟩
  rcases hg with ⟨x, rfl, h0, hg, rfl⟩ | ⟨h1, h2, hg⟩
  · have := I.loc K A hg
    have hi12 : i < 12 := by
      rcases hp with ⟨rfl, _⟩ | ⟨_, hi, _⟩
      · omega
      · exact hi
    have hSz : Sz = szs.getD i 0 := by
      rcases hp with ⟨rfl, _⟩ | ⟨_, _, _, h4, _⟩
      · omega
      · exact h4
    refine ⟨this.2 ne, ?_, ?_, .inl ⟨x, rfl, this.1, ?_⟩⟩
    all_goals (obtain ⟨kk, s, hs, p, hpm, pg', k1, k2, _, hkey, hr, hgot, rfl⟩ := hg)
    · refine hC.set fun t ht e q hq e2 => ?_
      have := pair_at (F := SegR.pl) K.pls ht hs e
      subst this
      have := pair_at (F := PageR.at_) (K.nod t ht) hq hpm e2
      subst this
      exact hgot.ss
    · exact fun u hu => hu.loc K A hs hpm hgot
    · obtain ⟨j, hj, e⟩ := hgot.blk
      exact ⟨_, mem_setPg_self hs, _, mem_setPP_self hpm, ⟨j, hj, by show x = pg'.f + j * pg'.s; rw [hgot.sf, hgot.ss]; exact e, hgot.out⟩, by show Sz = pg'.s; rw [hgot.ss, hC s hs p hpm i hi12 hr, hSz]⟩
  · have h1I : BInv h1 U ∧ h1.S = h.S := by
      rcases h2 with ⟨_, hf⟩ | ⟨_, rfl⟩
      · exact I.fill hf
      · exact ⟨I, rfl⟩
    obtain ⟨I1, hS⟩ := h1I
    have K1 : SOk sz f h1.S := by rw [hS]; exact K
    have ne1 : NE h1.S := by rw [hS]; exact ne
    have hpl1 : ∀ s ∈ h1.S, s.pl ≠ k := by rw [hS]; exact hpl
    have C1 : CS h1.S := by rw [hS]; exact hC
    rw [← hS]
    rcases hg with ⟨x, rfl, hg, rfl⟩ | ⟨hno, _, h2, x, rfl, hgr, hg, rfl⟩ | ⟨hno, hk, rfl, rfl, rfl, rfl⟩
    · have := I1.new K1 K' A' f2 f5 hg
      obtain ⟨n1, n2, n3⟩ := newS hg K1 K' A' C1
      exact ⟨this.2 (fun s hs e => absurd e (ne1 s hs)) (fun s hs t ht e _ => absurd e (ne1 s hs)), n1, n2, .inl ⟨x, rfl, this.1, n3⟩⟩
    · have K2 := K1.grown hpl1 hgr
      have I2 := I1.grow hgr
      have := I2.new K2 K' A' f2 f5 hg
      have C2 : CS h2.S := by
        obtain ⟨s0, gs, hpl0, hP0, _, rfl⟩ := hgr
        intro t ht q hq
        rcases List.mem_append.1 ht with ht | ht
        · exact C1 t ht q hq
        · simp only [List.mem_singleton] at ht
          subst ht
          rw [hP0] at hq
          cases hq
      obtain ⟨n1, n2, n3⟩ := newS hg K2 K' A' C2
      refine ⟨?_, n1, fun u hu => n2 u (hu.grow hgr), .inl ⟨x, rfl, this.1, n3⟩⟩
      obtain ⟨s0, gs, hpl0, hP0, _, rfl⟩ := hgr
      have hm : ∀ {t : SegR}, t ∈ h1.S ++ [s0] → t ∈ h1.S ∨ t = s0 := fun {t} ht => by
        rcases List.mem_append.1 ht with ht | ht
        · exact .inl ht
        · exact .inr (by simpa using ht)
      refine this.2 (fun s hs e t ht het j => ?_) (fun s hs t ht e1 e2 => ?_)
      · rcases hm ht with ht | rfl
        · exact hno t ht j
        · exact absurd hP0 het
      · rcases hm hs with hs | rfl
        · exact absurd e1 (ne1 s hs)
        · rcases hm ht with ht | rfl
          · exact absurd e2 (ne1 t ht)
          · rfl
    · exact ⟨ne1, C1, fun u hu => hu, .inr ⟨rfl, I1⟩⟩

/-- A block is given back: others stay. -/
theorem AB.put {v : Nat} (K : SOk sz f S) (A : SApart S) (hs : s ∈ S) (hp : p ∈ s.P) (hx : UsedIn p.pg x) (h : AB f S u) (hne : u.1 ≠ x) : AB (putW f x v) S u := by
  obtain ⟨t, ht, q, hq, hu, es, hb⟩ := h
  have := used_apart K A ht hq hu hs hp hx hne
  have s1 := (K.pag s hs p hp).1.s16
  refine ⟨t, ht, q, hq, hu, es, fun i hi => ?_⟩
  unfold putW
  rw [if_neg (by omega)]
  exact hb i hi
theorem AB.gave (K : SOk sz f' S) (hs : s ∈ S) (hp : p ∈ s.P) (h : AB f S u) (hne : u.1 ≠ x) : AB f (setPg s.pl p.at_ (p.pg.gave x) S) u := by
  obtain ⟨t, ht, q, hq, hu, es, hb⟩ := h
  rcases same_page K hs hp ht hq with ⟨rfl, rfl⟩ | hn
  · obtain ⟨j, hj, e, ho⟩ := hu
    refine ⟨_, mem_setPg_self hs, _, mem_setPP_self hp, ⟨j, hj, e, fun hy => ?_⟩, es, hb⟩
    have hy2 : u.1 ∈ p.pg.free ++ x :: p.pg.loc := hy
    simp only [List.mem_append, List.mem_cons] at hy2 ho
    rcases hy2 with h | h | h
    · exact ho (.inl h)
    · exact hne h
    · exact ho (.inr h)
  · obtain ⟨t', ht', hq'⟩ := setPg_other (pg' := p.pg.gave x) ht hq hn
    exact ⟨t', ht', q, hq', hu, es, hb⟩
theorem AB.ended (K : SOk sz f' S) (hs : s ∈ S) (hp : p ∈ s.P) (hx : UsedIn p.pg x) (hu1 : p.pg.used = 1) (hend : EndsAt a S s p.at_ S' a') (h : AB f S u) (hne : u.1 ≠ x) : AB f S' u := by
  obtain ⟨t, ht, q, hq, hu, es, hb⟩ := h
  rcases same_page K hs hp ht hq with ⟨rfl, rfl⟩ | hn
  · obtain ⟨i, hi, ex, ox⟩ := hx
    obtain ⟨j, hj, ey, oy⟩ := hu
    have := (K.pag s hs p hp).1.used_two hj hi ey ex hne oy ox
    omega
  · obtain ⟨t', ht', hq', _⟩ := ends_sup K hs hend ht hq hn
    exact ⟨t', ht', q, hq', hu, es, hb⟩
theorem CS.ends (H : CS S) (K : SOk sz f' S) (hs : s ∈ S) (hend : EndsAt a S s p.at_ S' a') : CS S' := fun t ht q hq => by
  obtain ⟨t0, ht0, hq0, _⟩ := ends_sub K hs hend ht hq
  exact H t0 ht0 q hq0

/-- A block is filled. -/
theorem AB.fill (K : SOk sz f S) (A : SApart S) (hs : s ∈ S) (hp : p ∈ s.P) (hx : UsedIn p.pg x) (h : AB f S u) (hne : u.1 ≠ x) : AB (fillF f x p.pg.s c) S u := by
  obtain ⟨t, ht, q, hq, hu, es, hb⟩ := h
  have := used_apart K A ht hq hu hs hp hx hne
  refine ⟨t, ht, q, hq, hu, es, fun i hi => ?_⟩
  unfold fillF
  rw [if_neg (by omega)]
  exact hb i hi
theorem AB.filled (hs : s ∈ S) (hp : p ∈ s.P) (hx : UsedIn p.pg x) : AB (fillF f x p.pg.s c) S (x, p.pg.s, c) :=
  ⟨s, hs, p, hp, hx, rfl, fun i hi => by unfold fillF; rw [if_pos ⟨Nat.le_add_right _ _, Nat.add_lt_add_left hi _⟩]⟩
theorem fill_inv (K : SOk sz f S) (A : SApart S) (hs : s ∈ S) (hp : p ∈ s.P) (hx : UsedIn p.pg x) (ht : t ∈ S) (hq : q ∈ t.P) : PgInv (fillF f x p.pg.s c) sz q.pg := by
  have Iq := (K.pag t ht q hq).1
  have Ip := (K.pag s hs p hp).1
  have he := hx.ends Ip
  rcases same_page K hs hp ht hq with ⟨rfl, rfl⟩ | hn
  · obtain ⟨i, hi, ex, ox⟩ := hx
    have hw : ∀ b ∈ p.pg.free ++ p.pg.loc, word (fillF f x p.pg.s c) b = word f b := fun b hb => word_congr fun j h1 h2 => by
      obtain ⟨j0, hj0, eb⟩ := Ip.blk b hb
      have s16 := Ip.s16
      unfold fillF
      rw [if_neg]
      rcases Nat.lt_trichotomy i j0 with h | h | h
      · have := mul_apart (s := p.pg.s) h; omega
      · subst h; exact absurd (by rw [ex, ← eb]; exact hb) ox
      · have := mul_apart (s := p.pg.s) h; omega
    exact { Ip with fc := Ip.fc.congr fun b hb => hw b (List.mem_append_left _ hb), lc := Ip.lc.congr fun b hb => hw b (List.mem_append_right _ hb) }
  · refine Iq.congr fun j h1 h2 => ?_
    have := not_there K A hs hp ht hq hn h1 h2
    unfold fillF
    rw [if_neg (by omega)]
end Go.Proofs.YtbljphaklciinaaGreat

/- HeapApart: the law's states, call by call. -/
namespace Go.Proofs.YtbljphaklciinaaGreat
open Go.RowKit
variable {ro ro' : Nat → Role} {hn B sz : Nat} {w w' : World} {bm bb : Nat} {f f' : Nat → Nat} {h h' : HeapR} {S S' : List SegR} {k x n r v c j : Nat} {U : List (Nat × Nat × Nat)} {a a' : ArR} {W : World} {s : SegR} {p : PageR} {bh ba pb : Nat} {u : Nat × Nat × Nat} {o : Obj}

theorem perm_erase {α : Type} : ∀ {U : List α} {j : Nat} {u : α}, U[j]? = some u → (u :: U.eraseIdx j).Perm U
  | [], _, _, h => by cases h
  | x :: r, 0, u, h => by
    simp at h
    subst h
    exact List.Perm.refl _
  | x :: r, j + 1, u, h => by
    have ih := perm_erase (U := r) (j := j) (u := u) (by simpa using h)
    exact (List.Perm.swap x u _).trans (ih.cons x)
theorem ne_set {pl at_ : Nat} {pg : Pg} (ne : NE S) : NE (setPg pl at_ pg S) := fun t ht => by
  obtain ⟨t0, ht0, rfl⟩ := List.mem_map.1 ht
  split
  · intro e
    exact ne t0 ht0 (List.map_eq_nil_iff.1 (show setPP at_ pg t0.P = [] from e))
  · exact ne t0 ht0

/-- A block of the law's own. -/
def OwnB (ro : Nat → Role) (x : Nat) (o : Obj) (w : World) : Prop := ro x = .other ∧ w.heap[x]? = some o
theorem OwnB.stay (b : OwnB ro x o w) (hs : Stay ro w ro' w') : OwnB ro' x o w' :=
  have h := hs.2 x (lt_of_block b.2) b.1
  ⟨h.2, h.1.trans b.2⟩
theorem OwnB.new : OwnB (cutR ro w.heap.size) w.heap.size o (w.alloc o) := ⟨if_neg (by omega), by show (w.heap.push o)[w.heap.size]? = _; simp⟩
theorem OwnB.cell {cs : Array Value} {T : TypeId} {v : Value} (b : OwnB ro x (.cells cs T) w) (hj : cs[j]? = some v) : w.cell? ⟨x, j, none⟩ = some v := by
  rw [cell_of_row w x j cs _ _ b.2]
  exact hj

theorem KB.ends (K : KB n k r h a) (hpl : h.S.Pairwise fun s t => s.pl ≠ t.pl) (hs : s ∈ h.S) {at_ : Nat} (hend : EndsAt a h.S s at_ S' a') (e : h'.S = S') : ∃ k', KB n k' r h' a' := by
  obtain ⟨A', en⟩ := K.ai.ends hpl hs hend
  rw [← e] at A'
  obtain ⟨k', hk'⟩ := nextAt a'.T n
  rcases hend with ⟨_, _, rfl⟩ | ⟨_, _, j, hj, rfl⟩
  · exact ⟨k', K.en, K.lim, K.rf, A', K.rb, hk'⟩
  · refine ⟨k', K.en, K.lim, K.rf, A', fun x hx => ?_, hk'⟩
    obtain ⟨i, hij, hi⟩ := List.mem_eraseIdx_iff_getElem?.1 hx
    have hb := K.rb x (List.mem_of_getElem? hi)
    have hne : x.1 ≠ s.pl := by
      rcases Nat.lt_trichotomy i j with h | h | h
      · have := K.ai.seg.srt i j _ _ h hi hj
        simp only at this
        omega
      · exact absurd h hij
      · have := K.ai.seg.srt j i _ _ h hj hi
        simp only at this
        omega
    refine ⟨hb.1, ?_⟩
    show setT a.T s.pl 1 false x.1 = true
    unfold setT
    rw [if_neg (by omega)]
    exact hb.2

/-- Behind Fill. -/
theorem LawH.filled (L : LawH W ro hn w bm bb sz f h a) (hg : w.grownBy w' (some bb)) (hm : MemAt w' bm bb sz f') (hI : ∀ t ∈ h.S, ∀ q ∈ t.P, PgInv f' sz q.pg) : LawH W ro hn w' bm bb sz f' h a ∧ Stay ro w ro w' := by
  have H := L.hp
  have hf : RFr ro w w' (fun r => r = .bytes) := ⟨hg.os, hg.tape, hg.output, hg.size, fun k hk hx => hg.block k hk (fun e => hx (by rw [Option.some.inj e]; exact H.rb))⟩
  have hh := H.hp.reseg (g := f') hf nofun (fun c i => nofun) nofun (S' := h.S) rfl (fun s hs => by
    have h1 := (H.hp.segs s hs).fr hf nofun nofun nofun (fun p _ => ⟨nofun, nofun⟩)
    exact { h1 with pages := fun q hq => { h1.pages q hq with inv := hI s hs q hq } }) H.hp.pls H.hp.link
  exact ⟨L.step ⟨hh, hm, H.rm, H.rb, Nat.le_trans H.b hg.size⟩ (L.ar.fr hf nofun) hf nofun (fun _ _ => rfl), Stay.of_fr hf nofun (fun _ _ => rfl)⟩

structure AS (W : World) (ro : Nat → Role) (bh bm bb r : Nat) (U : List Nat) (V : List (Nat × Nat × Nat)) (w : World) (f : Nat → Nat) (h : HeapR) (a : ArR) (k : Nat) : Prop where
  law : LawH W ro 0 w bm bb (8 * 16384) f h a
  eh : h.bh = bh
  bi : BInv h U
  ne : NE h.S
  kb : KB 8 k r h a
  cs : CS h.S
  ab : ∀ u ∈ V, AB f h.S u
/-- Blocks that are used, and filled. -/
def AW (W : World) (ro : Nat → Role) (bh bm r : Nat) (U : List (Nat × Nat × Nat)) (w : World) : Prop := ∃ bb f h a k, AS W ro bh bm bb r (U.map (·.1)) U w f h a k
/-- One more, that isn't filled yet. -/
def AG (W : World) (ro : Nat → Role) (bh bm r : Nat) (U : List (Nat × Nat × Nat)) (x v : Nat) (w : World) : Prop := ∃ bb f h a k, AS W ro bh bm bb r (U.map (·.1) ++ [x]) U w f h a k ∧ ∃ s ∈ h.S, ∃ p ∈ s.P, UsedIn p.pg x ∧ v = p.pg.s

variable {U' : List Nat} {V : List (Nat × Nat × Nat)}
theorem AS.on (M : AS W ro bh bm bb r U' V w f h a k) (hb : Below w.heap.size w w') : AS W ro bh bm bb r U' V w' f h a k := { M with law := M.law.on hb }
theorem AS.cut (M : AS W ro bh bm bb r U' V w f h a k) : AS W (cutR ro w.heap.size) bh bm bb r U' V w f h a k := { M with law := M.law.cut rfl }
theorem AW.on (M : AW W ro bh bm r U w) (hb : Below w.heap.size w w') : AW W ro bh bm r U w' := by
  obtain ⟨bb, f, h, a, k, M⟩ := M
  exact ⟨bb, f, h, a, k, M.on hb⟩
theorem AW.cut (M : AW W ro bh bm r U w) : AW W (cutR ro w.heap.size) bh bm r U w := by
  obtain ⟨bb, f, h, a, k, M⟩ := M
  exact ⟨bb, f, h, a, k, M.cut⟩
theorem AW.own {go : Option Nat} (M : AW W ro bh bm r U w) (hg : w.grownBy w' go) (hr : ∀ b, go = some b → ro b = .other ∧ W.heap.size ≤ b) : AW W ro bh bm r U w' := by
  obtain ⟨bb, f, h, a, k, M⟩ := M
  exact ⟨bb, f, h, a, k, { M with law := M.law.own hg hr }⟩
theorem AW.below (M : AW W ro bh bm r U w) : Below W.heap.size W w := by
  obtain ⟨bb, f, h, a, k, M⟩ := M
  exact M.law.below
theorem AW.up (M : AW W ro bh bm r U w) : AW W ro bh bm (r + 1) U w := by
  obtain ⟨bb, f, h, a, k, M⟩ := M
  exact ⟨bb, f, h, a, k, { M with kb := M.kb.up }⟩
theorem AG.on (M : AG W ro bh bm r U x v w) (hb : Below w.heap.size w w') : AG W ro bh bm r U x v w' := by
  obtain ⟨bb, f, h, a, k, M, e⟩ := M
  exact ⟨bb, f, h, a, k, M.on hb, e⟩
theorem AG.cut (M : AG W ro bh bm r U x v w) : AG W (cutR ro w.heap.size) bh bm r U x v w := by
  obtain ⟨bb, f, h, a, k, M, e⟩ := M
  exact ⟨bb, f, h, a, k, M.cut, e⟩
theorem AG.below (M : AG W ro bh bm r U x v w) : Below W.heap.size W w := by
  obtain ⟨bb, f, h, a, k, M, e⟩ := M
  exact M.law.below

theorem AW.begin {bk bt : Nat} (L : LawH W ro 0 w bm bb (8 * 16384) f (newHR bh ba 7) (newAr bk bt 8)) : AW W ro bh bm 0 [] w :=
  ⟨bb, f, _, _, 0, L, rfl, ⟨rfl, nofun, List.nodup_nil, nofun, nofun⟩, nofun, ⟨rfl, rfl, Nat.le_refl _, ⟨⟨fun i j x y _ hx _ => by simp [newAr] at hx, by simp [newAr], nofun⟩, fun j hj => by simp [newAr] at hj⟩, nofun, .inl ⟨by omega, rfl, fun j hj => by omega⟩⟩, nofun, nofun⟩

theorem AW.get (M : AW W ro bh bm r U w) (hr : r < 1000000) {nn : Int} (h0 : 0 ≤ nn) :
    Calls Tryz.prog 11 #[.pointer (some ⟨bh, 0, none⟩), .int .u64 nn] w fun e w' => ∃ ro', Stay ro w ro' w' ∧
      ((∃ (x : Nat) (v : Nat), e = .returned (.tuple #[.int .u64 x, .int .u64 v, .bool true]) ∧ AG W ro' bh bm (r + 1) U x v w' ∧ x % 16 = 0) ∨ (e = .returned (.tuple #[.int .u64 0, .int .u64 0, .bool false]) ∧ AW W ro' bh bm (r + 1) U w')) := by
  obtain ⟨bb, f, h, a, k, L, rfl, I, ne, K, C, A⟩ := M
  refine (get_anyY L K (by omega) hr h0).mono ?_
  rintro e w' ⟨c, q, i, sl, Sz, N, hp, y, f', h', k', ro', a', rfl, hg, L', ⟨k2, K'⟩, e1, e2, hs⟩
  obtain ⟨g1, g2, g3, g4⟩ := got_ab I ne L.hp.hp.sok L.hp.hp.sapart L'.hp.hp.sok L'.hp.hp.sapart K.ne C hp hg
  refine ⟨ro', hs, ?_⟩
  rcases g4 with ⟨x, rfl, I', s, hs', p, hp', hu, es⟩ | ⟨rfl, I'⟩
  · refine .inl ⟨x, Sz, rfl, ⟨bb, f', h', a', k2, ⟨L', e1, I', g1, K', g2, fun u hu => g3 u (A u hu)⟩, s, hs', p, hp', hu, es⟩, ?_⟩
    obtain ⟨j, hj, ex, _⟩ := hu
    have hpf := (L'.hp.hp.sapart.pos s hs' p hp').1
    have h16 := hp.s16.1
    rw [es] at h16
    have : (j * p.pg.s) % 16 = 0 := by rw [Nat.mul_mod, h16]; simp
    omega
  · exact .inr ⟨rfl, bb, f', h', a', k2, L', e1, I', g1, K', g2, fun u hu => g3 u (A u hu)⟩

theorem AG.ends (M : AG W ro bh bm r U x v w) : 16 ≤ v ∧ x + v ≤ 8 * 16384 := by
  obtain ⟨bb, f, h, a, k, M, s, hs, p, hp, hu, rfl⟩ := M
  have I := ((M.law.hp.hp.segs s hs).pages p hp).inv
  have he := hu.ends I
  have h1 := I.fit
  exact ⟨I.s16, by omega⟩

theorem AG.fill (M : AG W ro bh bm r U x v w) (hc : c < 256) (hp : w.cell? ⟨pb, 0, none⟩ = some (.int .u8 c)) (ho : ro pb = .other) :
    Calls Tryz.prog 17 #[.pointer (some ⟨bm, 0, none⟩), .int .u64 x, .int .u64 v, .slice (some ⟨pb, 0, none⟩) 1 1] w fun e w' => e = .returned (.int .i64 0) ∧ AW W ro bh bm r (U ++ [(x, v, c)]) w' ∧ Stay ro w ro w' := by
  have hends := M.ends
  obtain ⟨bb, f, h, a, k, M, s, hs, p, hpp, hu, rfl⟩ := M
  have H := M.law.hp
  have K := H.hp.sok
  have A := H.hp.sapart
  refine (memFill_ok H.mem hc hp (fun e => by have := H.rb; rw [← e, ho] at this; cases this) (by omega) hends.2).mono ?_
  rintro e w' ⟨rfl, hm, hg⟩
  obtain ⟨L', hs'⟩ := M.law.filled hg hm (fun t ht q hq => fill_inv K A hs hpp hu ht hq)
  refine ⟨rfl, ⟨bb, _, h, a, k, L', M.eh, ?_, M.ne, M.kb, M.cs, fun u' hu' => ?_⟩, hs'⟩
  · rw [List.map_append]
    exact M.bi
  · rcases List.mem_append.1 hu' with hu' | hu'
    · refine (M.ab u' hu').fill K A hs hpp hu (fun e => ?_)
      have hn := M.bi.nod
      rw [List.nodup_append] at hn
      exact hn.2.2 _ (List.mem_map.2 ⟨u', hu', rfl⟩) x (by simp) e
    · simp only [List.mem_singleton] at hu'
      subst hu'
      exact AB.filled hs hpp hu

theorem AW.free (M : AW W ro bh bm r U w) (hu : U[j]? = some u) : Calls Tryz.prog 16 #[.pointer (some ⟨bh, 0, none⟩), .int .u64 u.1] w fun e w' => e = .returned (.int .i64 0) ∧ ∃ ro', AW W ro' bh bm r (U.eraseIdx j) w' ∧ Stay ro w ro' w' := by
  obtain ⟨bb, f, h, a, k, L, rfl, I0, ne, KK, C, AA⟩ := M
  have K := L.hp.hp.sok
  have SA := L.hp.hp.sapart
  have hperm : (u.1 :: (U.eraseIdx j).map (·.1)).Perm (U.map (·.1)) := by
    exact (perm_erase hu).map (·.1)
  have I := I0.perm hperm
  have hx : u.1 ∈ u.1 :: (U.eraseIdx j).map (·.1) := by simp
  obtain ⟨s, hs, p, hp, q, hq, hxe, ho⟩ := I.use u.1 hx
  have hux : UsedIn p.pg u.1 := ⟨q, hq, hxe, ho⟩
  obtain ⟨i, hr, _⟩ := I.keys s hs p hp
  have hother : ∀ u' ∈ U.eraseIdx j, AB f h.S u' ∧ u'.1 ≠ u.1 := fun u' hu' => ⟨AA u' (List.mem_of_mem_eraseIdx hu'), fun e => by
    have hn := I.nod
    rw [List.nodup_cons] at hn
    exact hn.1 (by rw [← e]; exact List.mem_map.2 ⟨u', hu', rfl⟩)⟩
  refine (free_ok L.hp L.ar KK.ai.seg hs hp (rowIx_lt hr) hr hq hxe ho).mono ?_
  rintro e w' ⟨rfl, ro', R', F, k1, k2, S', a', he, rr, A', H, hk⟩
  have L' := L.step H A' rr hpT_other he
  refine ⟨rfl, ro', ?_, Stay.of_fr rr hpT_other he⟩
  rcases hk with ⟨hu1, rfl, rfl, rfl, rfl⟩ | ⟨hu1, hend, rfl, rfl⟩
  · have := I.gave K SA hx hs hp hq hxe ho hu1 (i := i) (k1 := k1) (k2 := k2)
    rw [List.erase_cons_head] at this
    exact ⟨bb, _, _, _, k, L', rfl, this, ne_set ne, KK.keep setPg_pls setPg_sup, C.set fun t ht e q' hq' e2 => by
      have := pair_at (F := SegR.pl) K.pls ht hs e
      subst this
      have := pair_at (F := PageR.at_) (K.nod t ht) hq' hp e2
      subst this
      rfl, fun u' hu' => ((hother u' hu').1.put K SA hs hp hux (hother u' hu').2).gave K hs hp (hother u' hu').2⟩
  · obtain ⟨I', ne'⟩ := I.ended K SA hx hs hp hq hxe ho hu1 hend ne (i := i) (k1 := k1) (k2 := k2)
    rw [List.erase_cons_head] at I'
    obtain ⟨k', K'⟩ := KK.ends (h' := (({ h with S := S' } : HeapR).queued i (removeS (wakeS (h.Q1 i) (h.Q2 i) ((s.pl * 16 + p.at_ : Nat) : Int)).2.1 (wakeS (h.Q1 i) (h.Q2 i) ((s.pl * 16 + p.at_ : Nat) : Int)).2.2 ((s.pl * 16 + p.at_ : Nat) : Int)).2.1 (removeS (wakeS (h.Q1 i) (h.Q2 i) ((s.pl * 16 + p.at_ : Nat) : Int)).2.1 (wakeS (h.Q1 i) (h.Q2 i) ((s.pl * 16 + p.at_ : Nat) : Int)).2.2 ((s.pl * 16 + p.at_ : Nat) : Int)).2.2 k1 k2)) L.hp.hp.pls hs hend rfl
    exact ⟨bb, _, _, _, k', L', rfl, I', ne', K', C.ends K hs hend, fun u' hu' => ((hother u' hu').1.put K SA hs hp hux (hother u' hu').2).ended K hs hp hux hu1 hend (hother u' hu').2⟩

theorem AW.ends (M : AW W ro bh bm r U w) (hu : u ∈ U) : 16 ≤ u.2.1 ∧ u.1 + u.2.1 ≤ 8 * 16384 := by
  obtain ⟨bb, f, h, a, k, M⟩ := M
  obtain ⟨s, hs, p, hp, hx, es, _⟩ := M.ab u hu
  have I := ((M.law.hp.hp.segs s hs).pages p hp).inv
  have he := hx.ends I
  have h1 := I.fit
  rw [es]
  exact ⟨I.s16, by omega⟩
theorem AW.byte (M : AW W ro bh bm r U w) (hu : u ∈ U) : u.2.2 < 256 := by
  have he := M.ends hu
  obtain ⟨bb, f, h, a, k, M⟩ := M
  obtain ⟨s, hs, p, hp, hx, es, hb⟩ := M.ab u hu
  rw [← hb 0 (by omega)]
  exact M.law.hp.mem.lt _

theorem AW.getb (M : AW W ro bh bm r U w) (hu : u ∈ U) : Calls Tryz.prog 18 #[.pointer (some ⟨bm, 0, none⟩), .int .u64 u.1, .int .u64 u.2.1] w fun e w' => ∃ A cc, e = .returned (.tuple #[.slice A u.2.1 cc, .int .i64 0]) ∧
    w'.ownsRow w.heap.size 5 1 (.slice A u.2.1 cc) (List.replicate u.2.1 (Value.int .u8 (u.2.2 : Nat))).length (List.replicate u.2.1 (Value.int .u8 (u.2.2 : Nat))) ∧ Below w.heap.size w w' := by
  have he := M.ends hu
  obtain ⟨bb, f, h, a, k, M⟩ := M
  obtain ⟨s, hs, p, hp, hx, es, hb⟩ := M.ab u hu
  refine (memGet_ok M.law.hp.mem (a := u.1) (n := u.2.1) (by omega) (by omega)).mono ?_
  have e : bytesV f u.1 u.2.1 = List.replicate u.2.1 (Value.int .u8 (u.2.2 : Nat)) := by
    rw [List.eq_replicate_iff]
    refine ⟨bytesV_len _ _, fun b hb' => ?_⟩
    unfold bytesV at hb'
    obtain ⟨i, hi, rfl⟩ := List.mem_map.1 hb'
    rw [hb i (by simpa using hi)]
  rw [e]
  exact fun e w' h => h

theorem AW.apart (M : AW W ro bh bm r U w) {i j : Nat} {u u' : Nat × Nat × Nat} (hu : U[i]? = some u) (hu' : U[j]? = some u') (hij : j < i) : u.1 + u.2.1 ≤ u'.1 ∨ u'.1 + u'.2.1 ≤ u.1 := by
  obtain ⟨bb, f, h, a, k, M⟩ := M
  refine (M.ab u (List.mem_of_getElem? hu)).apart M.law.hp.hp.sok M.law.hp.hp.sapart (M.ab u' (List.mem_of_getElem? hu')) (fun e => ?_)
  obtain ⟨hi, e1⟩ := List.getElem?_eq_some_iff.1 hu
  obtain ⟨hj, e2⟩ := List.getElem?_eq_some_iff.1 hu'
  have := List.pairwise_iff_getElem.1 M.bi.nod j i (by simpa using hj) (by simpa using hi) hij
  rw [List.getElem_map, List.getElem_map, e1, e2] at this
  exact this e.symm
end Go.Proofs.YtbljphaklciinaaGreat

/- HeapApart: the law's own row of blocks. -/
namespace Go.Proofs.YtbljphaklciinaaGreat
open Go.RowKit
variable {ro ro' : Nat → Role} {w w' : World} {bm : Nat} {k n r c : Nat} {U V : List (Nat × Nat × Nat)} {W : World} {bh : Nat} {u : Nat × Nat × Nat} {v v' : Value} {o : Obj}

theorem info_one : (Tryz.prog.info? 45).map (fun i => (i.zero, i.size, i.bytes)) = some (some (.agg #[.int .u64 0, .int .u64 0, .int .u8 0]), 3, 24) := by kernel_rfl
def oneV (u : Nat × Nat × Nat) : List Value := [.int .u64 (u.1 : Nat), .int .u64 (u.2.1 : Nat), .int .u8 (u.2.2 : Nat)]
def flatO (U : List (Nat × Nat × Nat)) : List Value := U.flatMap oneV
theorem flatO_len (U : List (Nat × Nat × Nat)) : (flatO U).length = U.length * 3 := by
  induction U with
  | nil => rfl
  | cons x r ih =>
    simp only [flatO, List.flatMap_cons, List.length_append, List.length_cons] at ih ⊢
    rw [ih]
    simp [oneV]
    omega
theorem flatO_app (U V : List (Nat × Nat × Nat)) : flatO (U ++ V) = flatO U ++ flatO V := by simp [flatO]
theorem flatO_one (U : List (Nat × Nat × Nat)) : ∀ x ∈ flatO U, x.oneCell' = true := fun x hx => by
  obtain ⟨u, _, hx⟩ := List.mem_flatMap.1 hx
  simp [oneV] at hx
  rcases hx with rfl | rfl | rfl <;> rfl
theorem flatO_at : ∀ {U : List (Nat × Nat × Nat)} {k : Nat} {u : Nat × Nat × Nat}, U[k]? = some u → (flatO U)[k * 3]? = some (.int .u64 (u.1 : Nat)) ∧ (flatO U)[k * 3 + 1]? = some (.int .u64 (u.2.1 : Nat)) ∧ (flatO U)[k * 3 + 2]? = some (.int .u8 (u.2.2 : Nat))
  | [], _, _, h => by cases h
  | x :: r, 0, u, h => by
    simp at h
    subst h
    exact ⟨rfl, rfl, rfl⟩
  | x :: r, k + 1, u, h => by
    have ih := flatO_at (U := r) (k := k) (u := u) (by simpa using h)
    have e : flatO (x :: r) = oneV x ++ flatO r := rfl
    have hl : (oneV x).length = 3 := rfl
    rw [e, List.getElem?_append_right (by omega), List.getElem?_append_right (by omega), List.getElem?_append_right (by omega), hl, show (k + 1) * 3 - 3 = k * 3 by omega, show (k + 1) * 3 + 1 - 3 = k * 3 + 1 by omega, show (k + 1) * 3 + 2 - 3 = k * 3 + 2 by omega]
    exact ih
theorem flatO_take : ∀ (U : List (Nat × Nat × Nat)) (i : Nat), (flatO U).take (i * 3) = flatO (U.take i)
  | [], i => by simp [flatO]
  | x :: r, 0 => by simp [flatO]
  | x :: r, i + 1 => by
    have e : flatO (x :: r) = oneV x ++ flatO r := rfl
    have hl : (oneV x).length = 3 := rfl
    rw [e, List.take_append, hl, show (i + 1) * 3 - 3 = i * 3 by omega, flatO_take r i, List.take_of_length_le (by omega)]
    rfl
theorem flatO_drop : ∀ (U : List (Nat × Nat × Nat)) (i : Nat), (flatO U).drop (i * 3) = flatO (U.drop i)
  | [], i => by simp [flatO]
  | x :: r, 0 => by simp [flatO]
  | x :: r, i + 1 => by
    have e : flatO (x :: r) = oneV x ++ flatO r := rfl
    have hl : (oneV x).length = 3 := rfl
    rw [e, List.drop_append, hl, show (i + 1) * 3 - 3 = i * 3 by omega, flatO_drop r i, List.drop_eq_nil_of_le (by omega)]
    rfl

def OwnO (W : World) (ro : Nat → Role) (v : Value) (U : List (Nat × Nat × Nat)) (w : World) : Prop := w.ownsRow W.heap.size 45 3 v U.length (flatO U) ∧ ∀ b, v.ownBlock = some b → ro b = .other
theorem OwnO.stay (H : OwnO W ro v U w) (hs : Stay ro w ro' w') : OwnO W ro' v U w' :=
  ⟨own_stays H.1 (fun k hk => (hs.2 k (H.1.lt k hk).2 (H.2 k hk)).1), fun b hb => (hs.2 b (H.1.lt b hb).2 (H.2 b hb)).2⟩
theorem OwnO.nil : OwnO W ro (.slice none 0 0) [] w := ⟨World.ownsRow_nil _ _ _ _, nofun⟩
theorem OwnO.form (H : OwnO W ro v U w) : ∃ A c, v = .slice A U.length c ∧ U.length ≤ c ∧ c ≤ maxLen := by
  rcases H.1.2 with ⟨rfl, h0⟩ | ⟨g, cap, cur, rfl, _, hh, hn, hc, _, ht⟩
  · exact ⟨none, 0, by rw [h0], by omega, by simp⟩
  · exact ⟨_, cap, rfl, hn, hc⟩
theorem OwnO.reads0 {A : Option Addr} (H : OwnO W ro (.slice A n c) U w) (hU : U ≠ []) : ∃ g, A = some ⟨g, 0, none⟩ ∧ g < w.heap.size ∧ U.length ≤ c ∧ ∀ j u, (flatO U)[j]? = some u → w.cell? ⟨g, j, none⟩ = some u := by
  rcases H.1.2 with ⟨e, h0⟩ | ⟨g, cap, cur, e, _, hh, hn, hc, _, ht⟩
  · exact absurd (List.eq_nil_of_length_eq_zero h0) hU
  · injection e with e1 e2 e3
    subst e1 e3
    refine ⟨g, rfl, lt_of_block hh, hn, fun j u hu => ?_⟩
    have hj := (List.getElem?_eq_some_iff.1 hu).1
    rw [flatO_len] at hj
    rw [cell_of_row w g j cur _ _ hh, ← Array.getElem?_toList, ← hu, ← ht, List.getElem?_take_of_lt (by omega)]
theorem OwnO.cell {A : Option Addr} (H : OwnO W ro (.slice A n c) U w) (hu : U[k]? = some u) : ∃ g, A = some ⟨g, 0, none⟩ ∧ g < w.heap.size ∧ U.length ≤ c ∧ w.cell? ⟨g, k * 3, none⟩ = some (.int .u64 (u.1 : Nat)) ∧ w.cell? ⟨g, k * 3 + 1, none⟩ = some (.int .u64 (u.2.1 : Nat)) ∧ w.cell? ⟨g, k * 3 + 2, none⟩ = some (.int .u8 (u.2.2 : Nat)) := by
  obtain ⟨g, e, hg, hc, h⟩ := H.reads0 (fun e => by rw [e] at hu; cases hu)
  obtain ⟨h1, h2, h3⟩ := flatO_at hu
  exact ⟨g, e, hg, hc, h _ _ h1, h _ _ h2, h _ _ h3⟩
theorem OwnO.app (O : OwnO W ro v U w) (hown : w'.ownsRow W.heap.size 45 3 v' (U.length + 1) (flatO U ++ oneV u)) (hat : v'.ownBlock = v.ownBlock ∨ v'.ownBlock = some (w.alloc o).heap.size) : OwnO W (cutR ro w.heap.size) v' (U ++ [u]) w' := by
  refine ⟨?_, fun b hb => ?_⟩
  · rw [show (U ++ [u]).length = U.length + 1 by simp, flatO_app, show flatO [u] = oneV u by simp [flatO]]
    exact hown
  · unfold cutR
    rcases hat with e | e
    · rw [if_pos (O.1.lt b (e ▸ hb)).2]
      exact O.2 b (e ▸ hb)
    · rw [hb] at e
      have : b = (w.alloc o).heap.size := Option.some.inj e
      rw [if_neg (by rw [this]; simp)]
theorem AW.apped (M : AW W ro bh bm r V w) (O : OwnO W ro v U w) (hg : (w.alloc o).grownBy w' v.ownBlock) : AW W (cutR ro w.heap.size) bh bm r V w' :=
  (M.cut.on ((Below.refl _ _).alloc (Nat.le_refl _) _)).own hg (fun b hb => ⟨by
    unfold cutR
    rw [if_pos (O.1.lt b hb).2]
    exact O.2 b hb, (O.1.lt b hb).1⟩)
/-- A row of the law's own that is made anew. -/
theorem OwnO.new (h : w'.ownsRow w.heap.size 45 3 v' U.length (flatO U)) (hB : W.heap.size ≤ w.heap.size) : OwnO W (cutR ro w.heap.size) v' U w' :=
  ⟨own_lower h hB, fun b hb => by
    have := (h.lt b hb).1
    unfold cutR
    rw [if_neg (by omega)]⟩
theorem OwnO.take {A : Option Addr} (H : OwnO W ro (.slice A n c) U w) (hk : k ≤ U.length) : Reads w w.heap.size 3 A k (flatO (U.take k)) := by
  refine ⟨by rw [flatO_len, List.length_take, Nat.min_eq_left hk], fun h0 => ?_⟩
  obtain ⟨g, e, hg, hc, h⟩ := H.reads0 (fun e => by rw [e] at hk; simp at hk; omega)
  refine ⟨_, e, hg, fun j u hu => ?_⟩
  rw [Addr.add_lit, Nat.zero_add]
  rw [← flatO_take, List.getElem?_take] at hu
  split at hu
  · exact h j u hu
  · cases hu
theorem OwnO.drop {A : Option Addr} {g : Nat} (H : OwnO W ro (.slice (some ⟨g, 0, none⟩) n c) U w) (hA : (k < U.length → A = some ⟨g, k * 3, none⟩)) (hk : k ≤ U.length) : Reads w w.heap.size 3 A (U.length - k) (flatO (U.drop k)) := by
  refine ⟨by rw [flatO_len, List.length_drop], fun h0 => ?_⟩
  obtain ⟨g', e, hg, hc, h⟩ := H.reads0 (fun e => by rw [e] at h0; simp at h0)
  injection e with e
  injection e with e
  subst e
  refine ⟨_, hA (by omega), hg, fun j u hu => ?_⟩
  rw [Addr.add_lit]
  rw [← flatO_drop, List.getElem?_drop] at hu
  exact h _ u hu
theorem erase_flat (hk : k < U.length) : flatO (U.take k) ++ flatO (U.drop (k + 1)) = flatO (U.eraseIdx k) ∧ k + (U.length - (k + 1)) = (U.eraseIdx k).length := by
  rw [← flatO_app, List.eraseIdx_eq_take_drop_succ]
  refine ⟨rfl, ?_⟩
  rw [List.length_append, List.length_take, List.length_drop]
  omega
theorem reads_new3 (w : World) (u : Nat × Nat × Nat) (T : TypeId) : Reads (w.alloc (.cells #[.int .u64 (u.1 : Nat), .int .u64 (u.2.1 : Nat), .int .u8 (u.2.2 : Nat)] T)) (w.heap.size + 1) 3 (some ⟨w.heap.size, 0, none⟩) 1 (oneV u) := by
  refine ⟨rfl, fun _ => ⟨_, rfl, Nat.lt_succ_self _, fun j x hx => ?_⟩⟩
  rw [Addr.add_lit, Nat.zero_add, World.cell?_alloc_new]
  show (oneV u).toArray[j]? = some x
  rw [List.getElem?_toArray]
  exact hx
theorem oneV_one (u : Nat × Nat × Nat) : ∀ x ∈ oneV u, x.oneCell' = true := fun x hx => by
  simp [oneV] at hx
  rcases hx with rfl | rfl | rfl <;> rfl
end Go.Proofs.YtbljphaklciinaaGreat

/- The acts of layer 12's laws, as arguments. -/
namespace Go.Proofs.YtbljphaklciinaaGreat
open Go.ChangeShapes Go.WideShapes Go.RowKit

structure Act12 where
  K : Int
  N : Int
  S : Int
  Q : Int
  D : Int
instance : Inhabited Act12 := ⟨⟨0, 0, 0, 0, 0⟩⟩

/-- A row of acts. -/
def Acts12 (W : World) (A : Option Addr) (n : Nat) (L : Nat → Act12) : Prop := ∀ i, i < n → ∃ g off, A = some ⟨g, off, none⟩ ∧ g < W.heap.size ∧
  W.cell? ⟨g, off + i * 5, none⟩ = some (.int .i64 (L i).K) ∧ W.cell? ⟨g, off + i * 5 + 1, none⟩ = some (.int .i64 (L i).N) ∧ W.cell? ⟨g, off + i * 5 + 2, none⟩ = some (.int .i64 (L i).S) ∧
  W.cell? ⟨g, off + i * 5 + 3, none⟩ = some (.int .i64 (L i).Q) ∧ W.cell? ⟨g, off + i * 5 + 4, none⟩ = some (.int .u64 (L i).D) ∧
  (-9223372036854775808 ≤ (L i).N ∧ (L i).N ≤ 9223372036854775807) ∧ (-9223372036854775808 ≤ (L i).S ∧ (L i).S ≤ 9223372036854775807) ∧ (-9223372036854775808 ≤ (L i).Q ∧ (L i).Q ≤ 9223372036854775807) ∧ (0 ≤ (L i).D ∧ (L i).D < 18446744073709551616)

section
variable {H : Type} {enc : TypeId × Value → H} {W : World} {base : Nat} {args : Array Value} {ds : List (DataW H)} {p : List MemPlace}

theorem wf_i64 {x : Int} (h : (Lit.int .i64 x).wf = true) : -9223372036854775808 ≤ x ∧ x ≤ 9223372036854775807 := by
  simp only [Lit.wf, Bool.and_eq_true, decide_eq_true_eq] at h
  exact h
theorem wf_u64 {x : Int} (h : (Lit.int .u64 x).wf = true) : 0 ≤ x ∧ x < 18446744073709551616 := by
  simp only [Lit.wf, Bool.and_eq_true, decide_eq_true_eq] at h
  have h1 : (0 : Int) ≤ x := h.1
  have h2 : x ≤ 18446744073709551615 := h.2
  omega

theorem cells_act12 : Tryz.prog.cellsOf 43 = 5 := by kernel_rfl
set_option maxRecDepth 100000 in
theorem open_acts12 {v : Value} {d : DataW H} {ps : List MemPlace} (hv : Value.okWide Tryz.prog W .any base 40 v) (h : DataW.Trod enc Tryz.prog W 0 (fun _ => true) true 40 v d ps) (hlt : ∀ x ∈ ps, x.block < W.heap.size) :
    ∃ A n c L, v = .slice A n c ∧ n ≤ c ∧ c ≤ maxLen ∧ Acts12 W A n L := by
  obtain ⟨A, n, c, rfl, hn, hc, hi⟩ := arg_structs Tryz.underlying40 Tryz.underlying43 (by kernel_rfl) cells_act12 (by decide) hv h hlt
  have hx : ∀ i, i < n → ∃ x : Act12, ∃ g off, A = some ⟨g, off, none⟩ ∧ g < W.heap.size ∧
      W.cell? ⟨g, off + i * 5, none⟩ = some (.int .i64 x.K) ∧ W.cell? ⟨g, off + i * 5 + 1, none⟩ = some (.int .i64 x.N) ∧ W.cell? ⟨g, off + i * 5 + 2, none⟩ = some (.int .i64 x.S) ∧
      W.cell? ⟨g, off + i * 5 + 3, none⟩ = some (.int .i64 x.Q) ∧ W.cell? ⟨g, off + i * 5 + 4, none⟩ = some (.int .u64 x.D) ∧
      (-9223372036854775808 ≤ x.N ∧ x.N ≤ 9223372036854775807) ∧ (-9223372036854775808 ≤ x.S ∧ x.S ≤ 9223372036854775807) ∧ (-9223372036854775808 ≤ x.Q ∧ x.Q ≤ 9223372036854775807) ∧ (0 ≤ x.D ∧ x.D < 18446744073709551616) := fun i hin => by
    obtain ⟨b, off, hA, hb, hf⟩ := hi i hin
    obtain ⟨u0, y0, f0, c0, t0, _⟩ := hf 0 _ rfl
    obtain ⟨u1, y1, f1, c1, t1, _⟩ := hf 1 _ rfl
    obtain ⟨u2, y2, f2, c2, t2, _⟩ := hf 2 _ rfl
    obtain ⟨u3, y3, f3, c3, t3, _⟩ := hf 3 _ rfl
    obtain ⟨u4, y4, f4, c4, t4, _⟩ := hf 4 _ rfl
    obtain ⟨x, hx, _, _⟩ := DataW.trod_int Tryz.underlying3 t0
    obtain ⟨y, hy, _, wy⟩ := DataW.trod_int Tryz.underlying3 t1
    obtain ⟨z, hz, _, wz⟩ := DataW.trod_int Tryz.underlying3 t2
    obtain ⟨q, hq, _, wq⟩ := DataW.trod_int Tryz.underlying3 t3
    obtain ⟨d, hd, _, wd⟩ := DataW.trod_int Tryz.underlying29 t4
    simp at hx hy hz hq hd
    subst hx hy hz hq hd
    exact ⟨⟨x, y, z, q, d⟩, b, off, hA, hb, c0, c1, c2, c3, c4, wf_i64 wy, wf_i64 wz, wf_i64 wq, wf_u64 wd⟩
  obtain ⟨L, hk⟩ := Go.Deep.choose_lt hx
  exact ⟨A, n, c, L, rfl, hn, hc, hk⟩
end
end Go.Proofs.YtbljphaklciinaaGreat
