/- Walks of the program's functions, and plain laws on what they compute, text by text (ArenaF, ArenaR, ArenaU, CellRow, ArenaD, ArenaL, Seg, SegF, SegA, SegP, PgInv, PgAny). No condition. -/
import Derived.Test.YtbljphaklciinaaGreatHb04
import Derived.Laws.IdiomCopy
import Derived.Deep.RegionLaw
import Derived.Lib.SliceRun

/- Layer 4 (arena): find: the binary search over regions. -/
namespace Go.Proofs.YtbljphaklciinaaGreat
open Go.RowKit

theorem isNaN_int (w : World) (x : Int) : Calls Tryz.prog 135 #[.int .i64 x] w fun e w' => e = .returned (.bool false) ∧ w' = w := by
  have hq : (x != x) = false := by simp
  go_enter Tryz.func135, Tryz.ntmps135
  go_wp2_with fail
  go_ret
  exact ⟨rfl, rfl⟩

/-- Which of two numbers is the greater one. -/
def cmpV (x y : Int) : Int := if x < y then -1 else if y < x then 1 else 0

set_option maxHeartbeats 1000000 in
theorem compare_int (w : World) (x y : Int) : Calls Tryz.prog 117 #[.int .i64 x, .int .i64 y] w fun e w' => e = .returned (.int .i64 (cmpV x y)) ∧ w' = w := by
  by_cases h1 : x < y
  · have HC : Hid (cmpV x y = -1) := by show _ = _; simp [cmpV, h1]
    go_enter Tryz.func117, Tryz.ntmps117
    go_wp2_with fail
    (with_reducible refine (isNaN_int _ x).mono ?_)
    rintro e w' ⟨rfl, rfl⟩
    go_wp2_with fail
    (with_reducible refine (isNaN_int _ y).mono ?_)
    rintro e w' ⟨rfl, rfl⟩
    go_wp2_with fail
    go_ret
    rw [HC.out]
    exact ⟨rfl, rfl⟩
  · by_cases h2 : y < x
    · have HC : Hid (cmpV x y = 1) := by show _ = _; simp [cmpV, h1, h2]
      go_enter Tryz.func117, Tryz.ntmps117
      go_wp2_with fail
      (with_reducible refine (isNaN_int _ x).mono ?_)
      rintro e w' ⟨rfl, rfl⟩
      go_wp2_with fail
      (with_reducible refine (isNaN_int _ y).mono ?_)
      rintro e w' ⟨rfl, rfl⟩
      go_wp2_with fail
      go_ret
      rw [HC.out]
      exact ⟨rfl, rfl⟩
    · have HC : Hid (cmpV x y = 0) := by show _ = _; simp [cmpV, h1, h2]
      go_enter Tryz.func117, Tryz.ntmps117
      go_wp2_with fail
      (with_reducible refine (isNaN_int _ x).mono ?_)
      rintro e w' ⟨rfl, rfl⟩
      go_wp2_with fail
      (with_reducible refine (isNaN_int _ y).mono ?_)
      rintro e w' ⟨rfl, rfl⟩
      go_wp2_with fail
      go_ret
      rw [HC.out]
      exact ⟨rfl, rfl⟩

theorem find1_any (w : World) (a n t : Int) : Calls Tryz.prog 116 #[.agg #[.int .i64 a, .int .i64 n], .int .i64 t] w fun e w' => e = .returned (.int .i64 (cmpV a t)) ∧ Below w.heap.size w w' := by
  go_enter Tryz.func116, Tryz.ntmps116
  go_wp2_with fail
  (with_reducible refine (compare_int _ a t).mono ?_)
  rintro e w' ⟨rfl, rfl⟩
  go_wp2_with fail
  go_ret
  exact ⟨rfl, (Below.refl _ _).alloc (Nat.le_refl _) _⟩

/-- Regions stand by their places. -/
def SortedR (R : List (Nat × Nat)) : Prop := ∀ (i j : Nat) (x y : Nat × Nat), i < j → R[i]? = some x → R[j]? = some y → x.1 < y.1

/-- How many regions begin ahead of a place. -/
def rank (R : List (Nat × Nat)) (t : Nat) : Nat := R.countP fun x => decide (x.1 < t)

set_option maxRecDepth 100000 in
set_option maxHeartbeats 2000000 in
theorem bsearch_any (w : World) (A : Option Addr) (k c : Nat) (R : List (Nat × Nat)) (t : Nat) (hk : k = R.length) (hk2 : k ≤ 1000)
    (hc : ∀ j x, R[j]? = some x → ∃ g, A = some ⟨g, 0, none⟩ ∧ w.cell? ⟨g, j * 2, none⟩ = some (.int .i64 (x.1 : Nat)) ∧ w.cell? ⟨g, j * 2 + 1, none⟩ = some (.int .i64 (x.2 : Nat))) (hs : SortedR R) :
    Calls Tryz.prog 115 #[.slice A k c, .int .i64 t, .func (.func 116) #[] #[]] w fun e w' =>
      ∃ i f, e = .returned (.tuple #[.int .i64 (i : Nat), .bool f]) ∧ i ≤ k ∧ (∀ j x, j < i → R[j]? = some x → x.1 < t) ∧ (∀ j x, i ≤ j → R[j]? = some x → t ≤ x.1) ∧ (f = true ↔ ∃ x, R[i]? = some x ∧ x.1 = t) ∧ Below w.heap.size w w' := by
  have HC := Lib.hid hc
  have HS := Lib.hid hs
  have HK := Lib.hid hk
  have HN : Hid (∀ (m : Nat) (x : Nat × Nat), k ≤ m → R[m]? = some x → False) := fun m x h hx => by
    rw [List.getElem?_eq_none (by rw [← HK.out]; exact h)] at hx
    cases hx
  clear hc hs hk
  go_enter Tryz.func115, Tryz.ntmps115
  go_wp2_with fail
  go_loopw [9, 10] (fun i j wr => ∃ lo hi : Nat, lo ≤ hi ∧ hi ≤ k ∧ i = .int .i64 lo ∧ j = .int .i64 hi ∧ Hid (∀ (m : Nat) (x : Nat × Nat), m < lo → R[m]? = some x → x.1 < t) ∧ Hid (∀ (m : Nat) (x : Nat × Nat), hi ≤ m → R[m]? = some x → t ≤ x.1) ∧ Hid (Below w.heap.size w wr)) (fun i j _ => (intOf j - intOf i).toNat)
  case atStart => exact ⟨0, k, by omega, by omega, rfl, rfl, fun m x h => absurd h (by omega), fun m x h hx => (HN.out m x h hx).elim, Below.refl _ _⟩
  case round =>
    obtain ⟨lo, hi, hlh, hhk, rfl, rfl, HL, HH, HB⟩ := hrel
    by_cases hlt : lo < hi
    · obtain ⟨m, hm⟩ : ∃ m, m = (lo + hi) / 2 := ⟨_, rfl⟩
      have hmi : ((lo : Int) + (hi : Int)) / 2 = (m : Int) := by omega
      have hmk : m < k := by omega
      have hml : lo ≤ m := by omega
      have hmh : m < hi := by omega
      obtain ⟨x, hx⟩ : ∃ x, R[m]? = some x := ⟨_, List.getElem?_eq_getElem (by rw [← HK.out]; exact hmk)⟩
      obtain ⟨g, rfl, h0, h1⟩ := HC.out m x hx
      have h0' := (HB.out.cell (p := ⟨g, m * 2, none⟩) (World.block_lt_of_cell? _ _ h0)).trans h0
      have h1' := (HB.out.cell (p := ⟨g, m * 2 + 1, none⟩) (World.block_lt_of_cell? _ _ h1)).trans h1
      have HX := Lib.hid hx
      have hb : HB.out.size = HB.out.size := rfl
      have hsz := HB.out.size
      clear h0 h1 hx hm hb
      go_wp2_with fail
      (with_reducible refine (find1_any _ x.1 x.2 t).mono ?_)
      rintro e w2 ⟨rfl, B2⟩
      have HB2 : Hid (Below w.heap.size w w2) := HB.out.trans (B2.mono hsz)
      clear B2 h0' h1'
      by_cases hxt : x.1 < t
      · have hcv : cmpV (x.1 : Int) t = -1 := by unfold cmpV; rw [if_pos (by omega)]
        have HL2 : Hid (∀ (j : Nat) (y : Nat × Nat), j < m + 1 → R[j]? = some y → y.1 < t) := fun j y hj hy => by
          rcases Nat.lt_succ_iff_lt_or_eq.1 hj with h | rfl
          · exact Nat.lt_trans (HS.out j m y x h hy HX.out) hxt
          · rw [HX.out] at hy; injection hy with hy; subst hy; exact hxt
        rw [hcv]
        clear hcv hxt HL HX
        go_wp2_with fail
        go_roundw
        case rel => exact ⟨m + 1, hi, by omega, by omega, by go_num, rfl, HL2, HH, HB2⟩
        case measure => simp [intOf]; omega
      · have hcv : ¬ cmpV (x.1 : Int) t < 0 := by
          unfold cmpV
          rw [if_neg (by omega)]
          split <;> omega
        have HH2 : Hid (∀ (j : Nat) (y : Nat × Nat), m ≤ j → R[j]? = some y → t ≤ y.1) := fun j y hj hy => by
          by_cases e : j = m
          · subst e; rw [HX.out] at hy; injection hy with hy; subst hy; omega
          · have := HS.out m j x y (by omega) HX.out hy; omega
        clear hxt HH HX
        go_wp2_with fail
        go_roundw
        case rel => exact ⟨lo, m, by omega, by omega, rfl, rfl, HL, HH2, HB2⟩
        case measure => simp [intOf]; omega
    · obtain rfl : lo = hi := by omega
      by_cases hlk : lo < k
      · obtain ⟨x, hx⟩ : ∃ x, R[lo]? = some x := ⟨_, List.getElem?_eq_getElem (by rw [← HK.out]; exact hlk)⟩
        obtain ⟨g, rfl, h0, h1⟩ := HC.out lo x hx
        have h0' := (HB.out.cell (p := ⟨g, lo * 2, none⟩) (World.block_lt_of_cell? _ _ h0)).trans h0
        have h1' := (HB.out.cell (p := ⟨g, lo * 2 + 1, none⟩) (World.block_lt_of_cell? _ _ h1)).trans h1
        have HX := Lib.hid hx
        have hsz := HB.out.size
        clear h0 h1 hx
        go_wp2_with fail
        (with_reducible refine (find1_any _ x.1 x.2 t).mono ?_)
        rintro e w2 ⟨rfl, B2⟩
        have HB2 : Hid (Below w.heap.size w w2) := HB.out.trans (B2.mono hsz)
        clear B2 h0' h1'
        by_cases hxt : x.1 = t
        · have hcv : cmpV (x.1 : Int) t = 0 := by unfold cmpV; rw [if_neg (by omega), if_neg (by omega)]
          have HXT := Lib.hid hxt
          rw [hcv]
          clear hcv hxt
          go_wp2_with fail
          go_ret2
          exact ⟨lo, true, rfl, by omega, HL.out, HH.out, ⟨fun _ => ⟨x, HX.out, HXT.out⟩, fun _ => rfl⟩, HB2.out⟩
        · have hcv : (cmpV (x.1 : Int) t == 0) = false := by
            have := HH.out lo x (Nat.le_refl _) HX.out
            unfold cmpV
            rw [if_neg (by omega), if_pos (by omega)]
            rfl
          have HXT := Lib.hid hxt
          clear hxt
          go_wp2_with fail
          go_ret2
          exact ⟨lo, false, rfl, by omega, HL.out, HH.out, ⟨nofun, fun ⟨y, hy, e⟩ => by rw [HX.out] at hy; injection hy with hy; exact absurd (hy ▸ e) HXT.out⟩, HB2.out⟩
      · go_wp2_with fail
        go_ret2
        refine ⟨lo, false, rfl, by omega, HL.out, HH.out, ⟨nofun, fun ⟨x, hx, _⟩ => (HN.out lo x (by omega) hx).elim⟩, HB.out⟩

/-- find, in an arena. -/
theorem arenaFind {w : World} {B ba bk bt n lim rf : Nat} {T : Nat → Bool} {R : List (Nat × Nat)} {g : Option Nat} (H : ArenaAt w B ba bk bt n lim T R g rf) (hs : SortedR R) (hR : R.length ≤ 1000) (t : Nat) (ht : t ≤ 1000000) :
    Calls Tryz.prog 87 #[.pointer (some ⟨ba, 0, none⟩), .int .i64 t] w fun e w' =>
      ∃ i f, e = .returned (.tuple #[.int .i64 (i : Nat), .bool f]) ∧ i ≤ R.length ∧ (∀ (j : Nat) (x : Nat × Nat), j < i → R[j]? = some x → x.1 < t) ∧ (∀ (j : Nat) (x : Nat × Nat), i ≤ j → R[j]? = some x → t ≤ x.1) ∧ (f = true ↔ ∃ x, R[i]? = some x ∧ x.1 = t) ∧ Below w.heap.size w w' := by
  obtain ⟨v, hv, ho, _⟩ := H.c3
  have hval : ∃ A c, v = .slice A R.length c ∧ ∀ (j : Nat) (x : Nat × Nat), R[j]? = some x → ∃ g, A = some ⟨g, 0, none⟩ ∧ w.cell? ⟨g, j * 2, none⟩ = some (.int .i64 (x.1 : Nat)) ∧ w.cell? ⟨g, j * 2 + 1, none⟩ = some (.int .i64 (x.2 : Nat)) := by
    rcases ho.2 with ⟨rfl, h0⟩ | ⟨g, cap, cur, rfl, _, hh, hn, _, _, ht⟩
    · exact ⟨none, 0, by rw [h0], fun j x hx => by rw [List.length_eq_zero_iff.1 h0] at hx; simp at hx⟩
    · refine ⟨_, cap, rfl, fun j x hx => ⟨g, rfl, ?_⟩⟩
      have hj : j < R.length := (List.getElem?_eq_some_iff.1 hx).1
      obtain ⟨f1, f2⟩ := flatR_at hx
      rw [← ht] at f1 f2
      have hcell : ∀ i, w.cell? ⟨g, i, none⟩ = cur[i]? := fun i => cell_of_row w g i cur _ _ hh
      rw [hcell, hcell]
      have g1 : (cur.toList.take (R.length * 2))[j * 2]? = cur.toList[j * 2]? := by rw [List.getElem?_take]; simp; omega
      have g2 : (cur.toList.take (R.length * 2))[j * 2 + 1]? = cur.toList[j * 2 + 1]? := by rw [List.getElem?_take]; simp; omega
      rw [g1] at f1
      rw [g2] at f2
      exact ⟨by simpa using f1, by simpa using f2⟩
  obtain ⟨A, c, rfl, hcs⟩ := hval
  have HX0 := Lib.hid (bsearch_any w A R.length c R t rfl hR hcs hs)
  clear H ho hcs hs
  go_enter Tryz.func87, Tryz.ntmps87
  go_wp2_with fail
  refine HX0.out.mono ?_
  rintro e w1 ⟨i, f, rfl, h1, h2, h3, h4, h5⟩
  have HA := Lib.hid (⟨h1, h2, h3, h4, h5⟩ : i ≤ R.length ∧ _ ∧ _ ∧ _ ∧ _)
  clear h1 h2 h3 h4 h5 HX0
  go_wp2_with fail
  go_ret2
  exact ⟨i, f, rfl, HA.out⟩
end Go.Proofs.YtbljphaklciinaaGreat

/- Layer 4 (arena): slices.Insert behind all; Reserve. -/
namespace Go.Proofs.YtbljphaklciinaaGreat
open Go.RowKit

theorem info_region : (Tryz.prog.info? 172).map (fun i => (i.zero, i.size, i.bytes)) = some (some (.agg #[.int .i64 0, .int .i64 0]), 2, 16) := by kernel_rfl

theorem flatR_app (R S : List (Nat × Nat)) : flatR (R ++ S) = flatR R ++ flatR S := by simp [flatR]
theorem flatR_one (R : List (Nat × Nat)) : ∀ u ∈ flatR R, u.oneCell' = true := fun u hu => by
  obtain ⟨x, _, hx⟩ := List.mem_flatMap.1 hu
  simp at hx
  rcases hx with rfl | rfl <;> rfl

set_option maxRecDepth 100000 in
set_option maxHeartbeats 2000000 in
theorem insert_end {w : World} {B gv : Nat} {v : Value} {R : List (Nat × Nat)} {a n : Nat} (ho : w.ownsRow B 172 2 v R.length (flatR R)) (hR : R.length ≤ 1000) (h0 : w.cell? ⟨gv, 0, none⟩ = some (.int .i64 a)) (h1 : w.cell? ⟨gv, 1, none⟩ = some (.int .i64 n)) (hB : B ≤ w.heap.size) :
    Calls Tryz.prog 88 #[v, .int .i64 R.length, .slice (some ⟨gv, 0, none⟩) 1 1] w fun e w' => ∃ v', e = .returned v' ∧ w'.ownsRow B 172 2 v' (R.length + 1) (flatR (R ++ [(a, n)])) ∧ w.grownBy w' v.ownBlock ∧ (v'.ownBlock = v.ownBlock ∨ v'.ownBlock = some w.heap.size) := by
  obtain ⟨i0, hi0, hz0, hz1, hz2⟩ := info_parts info_region
  have HO := Lib.hid ho
  have hgl : gv < w.heap.size := World.block_lt_of_cell? w _ h0
  have hval : ∃ A c, v = .slice A R.length c ∧ R.length ≤ c ∧ c ≤ maxLen ∧ (∀ ad, A = some ad → ad.spot = none ∧ ad.off = 0) := by
    rcases ho.2 with ⟨rfl, h0⟩ | ⟨g, cap, cur, rfl, _, hh, hn, hc, _, ht⟩
    · exact ⟨none, 0, by rw [h0], by omega, by simp, nofun⟩
    · exact ⟨_, cap, rfl, hn, hc, fun ad e => by injection e with e; subst e; exact ⟨rfl, rfl⟩⟩
  obtain ⟨A, c, rfl, hc1, hc2, hA⟩ := hval
  have HRD : Hid (Reads w w.heap.size 2 (some ⟨gv, 0, none⟩) 1 [.int .i64 a, .int .i64 n]) := by
    refine ⟨rfl, fun _ => ⟨⟨gv, 0, none⟩, rfl, hgl, fun j u hu => ?_⟩⟩
    have e : (⟨gv, 0, none⟩ : Addr).add j = ⟨gv, j, none⟩ := by
      unfold Addr.add
      split
      · rename_i h; simp [h]
      · simp
    rw [e]
    match j with
    | 0 => simp at hu; rw [h0, hu]
    | 1 => simp at hu; rw [h1, hu]
    | j + 2 => simp at hu
  clear ho h0 h1
  unfold maxLen at hc2
  cases A with
  | none =>
    have hc0 : R.length = 0 := by
      rcases HO.out.2 with ⟨_, h⟩ | ⟨g, cap, cur, e, _⟩
      · exact h
      · simp at e
    go_enter Tryz.func88, Tryz.ntmps88
    go_wp2_with (first
      | (at_builtin
         refine wpList_append_any _ rfl (.tmp 23) (.tmp 24) _ rfl B 172 i0 _ 2 16 Tryz.underlying95 hi0 hz0 hz1 hz2 rfl (by omega) _ R.length (flatR R) rfl HO.out _ _ 1 1 [.int .i64 a, .int .i64 n] rfl HRD.out (fun u hu => by simp at hu; rcases hu with rfl | rfl <;> rfl) (by simp only [maxLen]; omega) (by omega) hB ?_
         intro v1 w1 hown1 hg1 hat1
         have H1 := Lib.hid hown1
         have HG1 := Lib.hid hg1
         have HT1 := Lib.hid hat1
         clear hown1 hg1 hat1)
      | fail)
    all_goals go_ret
    all_goals (refine ⟨v1, rfl, ?_, HG1.out, HT1.out⟩; rw [flatR_app]; exact H1.out)
  | some ad =>
    obtain ⟨g, off, sp⟩ := ad
    obtain ⟨rfl, rfl⟩ := hA _ rfl
    go_enter Tryz.func88, Tryz.ntmps88
    go_wp2_with (first
      | (at_builtin
         refine wpList_append_any _ rfl (.tmp 23) (.tmp 24) _ rfl B 172 i0 _ 2 16 Tryz.underlying95 hi0 hz0 hz1 hz2 rfl (by omega) _ R.length (flatR R) rfl HO.out _ _ 1 1 [.int .i64 a, .int .i64 n] rfl HRD.out (fun u hu => by simp at hu; rcases hu with rfl | rfl <;> rfl) (by simp only [maxLen]; omega) (by omega) hB ?_
         intro v1 w1 hown1 hg1 hat1
         have H1 := Lib.hid hown1
         have HG1 := Lib.hid hg1
         have HT1 := Lib.hid hat1
         clear hown1 hg1 hat1)
      | fail)
    all_goals go_ret
    all_goals (refine ⟨v1, rfl, ?_, HG1.out, HT1.out⟩; rw [flatR_app]; exact H1.out)

theorem Fr.of_drew {w w' : World} {S : Nat → Prop} {k : Nat} (h : Fr (w.drewN k) w' S) : Fr w w' S := ⟨h.os, h.tape, h.output, h.size, h.block⟩
theorem ArenaAt.drewN {w : World} {B ba bk bt n lim rf : Nat} {T : Nat → Bool} {R : List (Nat × Nat)} {g : Option Nat} (h : ArenaAt w B ba bk bt n lim T R g rf) (k : Nat) : ArenaAt (w.drewN k) B ba bk bt n lim T R g rf := h.stays rfl rfl rfl (fun _ _ => rfl)

theorem ArenaAt.marked {w w' : World} {B ba bk bt n lim rf : Nat} {T T' : Nat → Bool} {R : List (Nat × Nat)} {g : Option Nat} (h : ArenaAt w B ba bk bt n lim T R g rf) (hm : MarksAt w' bk bt n T') (hp : PFr w w' bk bt) : ArenaAt w' B ba bk bt n lim T' R g rf := by
  have ha := hp.block ba h.lt_a h.nk h.nt
  have hg : ∀ k, g = some k → w'.heap[k]? = w.heap[k]? := fun k e => hp.block k (h.lt_g e).1 (fun e' => h.gk (by rw [e, e'])) (fun e' => h.gt (by rw [e, e']))
  obtain ⟨v, hv, ho, e⟩ := h.c3
  exact ⟨(World.cell?_of_block (a := ⟨ba, 0, none⟩) ha).trans h.c0, (World.cell?_of_block (a := ⟨ba, 1, none⟩) ha).trans h.c1, (World.cell?_of_block (a := ⟨ba, 2, none⟩) ha).trans h.c2,
    ⟨v, (World.cell?_of_block (a := ⟨ba, 3, none⟩) ha).trans hv, own_stays ho (fun k hk => hg k (e.symm.trans hk)), e⟩, (World.cell?_of_block (a := ⟨ba, 4, none⟩) ha).trans h.c4, (World.cell?_of_block (a := ⟨ba, 5, none⟩) ha).trans h.c5,
    (World.frozen?_of_block (a := ⟨ba, 3, none⟩) ha).trans h.z3, (World.frozen?_of_block (a := ⟨ba, 5, none⟩) ha).trans h.z5, hm, h.nk, h.nt, h.ga, h.gk, h.gt, h.n64, h.ll, h.rn⟩

theorem ArenaAt.below {w w' : World} {B ba bk bt n lim rf : Nat} {T : Nat → Bool} {R : List (Nat × Nat)} {g : Option Nat} (h : ArenaAt w B ba bk bt n lim T R g rf) (hb : Below w.heap.size w w') : ArenaAt w' B ba bk bt n lim T R g rf :=
  h.stays (hb.block _ h.lt_a) (hb.block _ h.marks.lt_b) (hb.block _ h.marks.lt_bt) (fun k e => hb.block k (h.lt_g e).1)

set_option maxRecDepth 100000 in
set_option maxHeartbeats 4000000 in
/-- Reserve of one segment that stands behind all. -/
theorem reserve_ok {w : World} {B ba bk bt n lim rf : Nat} {T : Nat → Bool} {R : List (Nat × Nat)} {g : Option Nat} (H : ArenaAt w B ba bk bt n lim T R g rf) (hs : SortedR R) (hR : R.length ≤ 64) (hB : B ≤ w.heap.size) (a : Nat) (hfree : FreeRow T n 1 a) (hlow : ∀ j, j < a → ¬ FreeRow T n 1 j)
    (hbig : ∀ (j : Nat) (x : Nat × Nat), R[j]? = some x → x.1 < a) (hgiv : n - freeN T n + 1 ≤ lim) :
    Calls Tryz.prog 51 #[.pointer (some ⟨ba, 0, none⟩), .int .i64 1] w fun e w' => e = .returned (.tuple #[.int .i64 a, .int .i64 0]) ∧ ∃ g', ArenaAt w' B ba bk bt n lim (setT T a 1 true) (R ++ [(a, 1)]) g' rf ∧ Fr w w' (arS ba bk bt g) ∧ (g' = g ∨ ∃ k, g' = some k ∧ w.heap.size ≤ k) := by
  have HH := Lib.hid H
  have c1 := H.c1
  have c2 := H.c2
  have n64 := H.n64
  have hf1 : freeN T n ≤ n := by unfold freeN; exact Nat.le_trans List.countP_le_length (by simp)
  have HN := Lib.hid (fun z => arenaNext (H.drewN z).c4)
  have c0 := H.c0
  have h1n := H.marks.n0
  have hll := H.ll
  clear H
  go_enter Tryz.func51, Tryz.ntmps51
  go_wp2_with fail
  have hwr : IntKind.i64.wrap ((n : Int) - (freeN T n : Int) + 1) = (n : Int) - (freeN T n : Int) + 1 := by simp only [IntKind.wrap_i64]; omega
  have q1 : decide ((n : Int) - (freeN T n : Int) + 1 ≤ (lim : Int)) = true := decide_eq_true (by omega)
  have q1' : ((n : Int) - (freeN T n : Int) + 1 ≤ (lim : Int)) := by omega
  have HD : Hid (∀ k, ArenaAt (w.drew.drewN k) B ba bk bt n lim T R g rf) := fun k => (HH.out.stays (w' := w.drew.drewN k) rfl rfl rfl (fun _ _ => rfl))
  go_region_held3 (fun w' => w'.cell? ⟨ba, 2, none⟩ = some (.int .i64 lim))
    (first | exact (HD.out 0).c2 | exact KG.out | go_keep | fail)
    (first
      | (go_at_call 85; refine (arenaNext (w := w.drew) (HD.out 0).c4).mono ?_; rintro e w1 ⟨rfl, rfl⟩)
      | (go_at_call 14; refine (arenaGiven (w := w.drew) (HD.out 0)).mono ?_; rintro e w1 ⟨rfl, kk, rfl⟩; have KG := Lib.hid (HD.out kk).c2)
      | fail)
  have HZ := Lib.hid (HH.out.drewN (1 + kk))
  have FZ : Hid (Fr w (w.drewN (1 + kk)) (arS ba bk bt g)) := ⟨rfl, rfl, rfl, Nat.le_refl _, fun _ _ _ => rfl⟩
  have SZ : w.heap.size = (w.drewN (1 + kk)).heap.size := rfl
  generalize w.drewN (1 + kk) = wz at *
  have z0 := HZ.out.c0
  clear KG HD hwr q1 q1' c0 c1 c2 HN
  go_wp2_with fail
  refine (marksTake HZ.out.marks 1 (by omega) (by omega)).mono ?_
  rintro e w3 (⟨a', hf', hl', rfl, hm', hp'⟩ | ⟨hno, _⟩)
  · have ha : a' = a := by
      rcases Nat.lt_trichotomy a' a with h | h | h
      · exact absurd hf' (hlow a' h)
      · exact h
      · exact absurd hfree (hl' a h)
    subst ha
    have HA3 := Lib.hid (HZ.out.marked hm' hp')
    have F3 : Hid (Fr w w3 (arS ba bk bt g)) := FZ.out.trans (Fr.of_pfr hp') (fun k hk => .inl (by rcases hk with h | h; exact .inr (.inl h); exact .inr (.inr (.inl h))))
    clear hf' hl' hm' hp' HZ FZ z0
    go_wp2_with fail
    refine (arenaFind HA3.out hs (by omega) a' (by have := hfree.1; omega)).mono ?_
    rintro e w4 ⟨i, f, rfl, hi, _, h3, _, B4⟩
    have hiR : i = R.length := by
      by_cases h : i < R.length
      · have hx := List.getElem?_eq_getElem h
        have h5 := h3 i _ (Nat.le_refl _) hx
        have h6 := hbig i _ hx
        omega
      · omega
    subst hiR
    have HA4 := Lib.hid (HA3.out.below B4)
    have F4 : Hid (Fr w w4 (arS ba bk bt g)) := F3.out.trans (Fr.of_below B4 (fun _ => False)) (fun k hk => hk.elim)
    clear h3 hi B4 HA3 F3
    obtain ⟨v, hv, ho, hg⟩ := HA4.out.c3
    have HO := Lib.hid ho
    have HG := Lib.hid hg
    have z3 := HA4.out.z3
    clear ho hg
    go_wp2_with fail
    obtain ⟨wA, hwA⟩ : ∃ wA, wA = w4.alloc (.cells #[.int .i64 a', .int .i64 1] 172) := ⟨_, rfl⟩
    have BA : Below w4.heap.size w4 wA := by rw [hwA]; exact (Below.refl _ _).alloc (Nat.le_refl _) _
    have SA : wA.heap.size = w4.heap.size + 1 := by rw [hwA]; simp
    have k0 : wA.cell? ⟨w4.heap.size, 0, none⟩ = some (.int .i64 a') := by rw [hwA, World.cell?_alloc_new]; rfl
    have k1 : wA.cell? ⟨w4.heap.size, 1, none⟩ = some (.int .i64 ((1 : Nat) : Int)) := by rw [hwA, World.cell?_alloc_new]; rfl
    have hoA : wA.ownsRow B 172 2 v R.length (flatR R) := own_stays HO.out (fun k e => BA.block k (HO.out.lt k e).2)
    rw [← hwA]
    clear hwA
    have hB4 : B ≤ w4.heap.size := Nat.le_trans hB F4.out.size
    refine (insert_end hoA (by omega) k0 k1 (by omega)).mono ?_
    rintro e w5 ⟨v5, rfl, ho5, hg5, ht5⟩
    have hbl : ∀ k, k < w4.heap.size → some k ≠ g → w5.heap[k]? = w4.heap[k]? := fun k hk hn => (hg5.block k (by omega) (fun e => hn (e.trans HG.out))).trans (BA.block k hk)
    have HBL := Lib.hid hbl
    have HO5 := Lib.hid ho5
    have HT5 := Lib.hid ht5
    have HG5 := Lib.hid hg5
    have hba : w5.heap[ba]? = w4.heap[ba]? := hbl ba HA4.out.lt_a (fun e => HA4.out.ga e.symm)
    have m3 : w5.cell? ⟨ba, 3, none⟩ = some v := (World.cell?_of_block (a := ⟨ba, 3, none⟩) hba).trans hv
    have y3 : w5.frozen? ⟨ba, 3, none⟩ = false := (World.frozen?_of_block (a := ⟨ba, 3, none⟩) hba).trans z3
    have HBA := Lib.hid hba
    obtain ⟨A5, c5, hv5⟩ : ∃ A c, v5 = .slice A (R.length + 1) c := by
      rcases ho5.2 with ⟨rfl, h⟩ | ⟨g, cap, cur, rfl, _⟩
      · omega
      · exact ⟨_, _, rfl⟩
    clear hbl ho5 hg5 ht5 hba k0 k1 hoA hv z3
    subst hv5
    go_wp2_with fail
    go_ret2
    have hg' : ∀ k, (Value.slice A5 (R.length + 1) c5).ownBlock = some k → g = some k ∨ k = w4.heap.size + 1 := fun k e => by
      rcases HT5.out with h | h
      · exact .inl (by rw [← HG.out, ← h, e])
      · rw [h, SA] at e; injection e with e; exact .inr e.symm
    have hlt := HA4.out.lt_a
    have hlk := HA4.out.marks.lt_b
    have hlt' := HA4.out.marks.lt_bt
    have ne : ∀ k, k < w4.heap.size → g ≠ some k → (Value.slice A5 (R.length + 1) c5).ownBlock ≠ some k := fun k hk hn e => by
      rcases hg' k e with h | h
      · exact hn h
      · omega
    have oth : ∀ j, j ≠ 3 → (w5.setCell ⟨ba, 3, none⟩ (.slice A5 (R.length + 1) c5)).cell? ⟨ba, j, none⟩ = w4.cell? ⟨ba, j, none⟩ := fun j hj => by
      rw [World.cell?_setCell_other _ _ _ _ (by simp [hj])]
      exact World.cell?_of_block (a := ⟨ba, j, none⟩) HBA.out
    refine ⟨rfl, _, ⟨(oth 0 (by omega)).trans HA4.out.c0, (oth 1 (by omega)).trans HA4.out.c1, (oth 2 (by omega)).trans HA4.out.c2, ⟨_, World.cell?_setCell_same' _ _ _ (by rw [m3]; rfl), ?_, rfl⟩, (oth 4 (by omega)).trans HA4.out.c4, (oth 5 (by omega)).trans HA4.out.c5, by simpa using y3, ?_, ?_, HA4.out.nk, HA4.out.nt, ne ba hlt HA4.out.ga, ne bk hlk HA4.out.gk, ne bt hlt' HA4.out.gt, n64, hll, HA4.out.rn⟩, ?_, ?_⟩
    · refine own_stays ?_ (fun k e => Below.heap_setCell _ _ _ _ (fun e' => ne ba hlt HA4.out.ga (by rw [e, show k = ba from e'])))
      have h := HO5.out
      simpa using h
    · rw [World.frozen?_setCell]
      exact (World.frozen?_of_block (a := ⟨ba, 5, none⟩) HBA.out).trans HA4.out.z5
    · refine HA4.out.marks.stays ?_ ?_
      · rw [Below.heap_setCell _ _ _ _ (fun e => HA4.out.nk e.symm)]; exact HBL.out bk hlk (fun e => HA4.out.gk e.symm)
      · rw [Below.heap_setCell _ _ _ _ (fun e => HA4.out.nt e.symm)]; exact HBL.out bt hlt' (fun e => HA4.out.gt e.symm)
    · refine Fr.set ⟨HG5.out.os.trans (BA.os.trans F4.out.os), HG5.out.tape.trans (BA.tape.trans F4.out.tape), HG5.out.output.trans (BA.output.trans F4.out.output), Nat.le_trans F4.out.size (Nat.le_trans BA.size HG5.out.size), fun k hk hn => (HBL.out k (Nat.lt_of_lt_of_le hk F4.out.size) (fun e => hn (.inr (.inr (.inr e))))).trans (F4.out.block k hk hn)⟩ (.inl (.inl rfl)) _ _
    · rcases hgv : (Value.slice A5 (R.length + 1) c5).ownBlock with _ | k
      · rcases HT5.out with h | h
        · exact .inl (by rw [← HG.out, ← h, hgv])
        · rw [hgv] at h; cases h
      · rcases hg' k hgv with h | h
        · exact .inl h.symm
        · exact .inr ⟨k, rfl, by have := F4.out.size; omega⟩
  · exact absurd hfree (hno a)
end Go.Proofs.YtbljphaklciinaaGreat

/- Layer 4 (arena): Reserve when all that may be given is given. -/
namespace Go.Proofs.YtbljphaklciinaaGreat
open Go.RowKit

theorem freeRow_some {T : Nat → Bool} {n : Nat} (h : 0 < freeN T n) : ∃ a, FreeRow T n 1 a ∧ ∀ j, j < a → ¬ FreeRow T n 1 j := by
  have hex : ∃ a, FreeRow T n 1 a := by
    obtain ⟨a, ha, hT⟩ := List.countP_pos_iff.1 h
    exact ⟨a, by have := List.mem_range.1 ha; omega, fun j hj => by obtain rfl : j = 0 := by omega
                                                                    simpa using hT⟩
  obtain ⟨a, ha⟩ := hex
  induction a using Nat.strongRecOn with
  | _ a ih =>
    by_cases hm : ∃ j, j < a ∧ FreeRow T n 1 j
    · obtain ⟨j, hj, hf⟩ := hm
      exact ih j hj hf
    · exact ⟨a, ha, fun j hj hf => hm ⟨j, hj, hf⟩⟩

set_option maxRecDepth 100000 in
set_option maxHeartbeats 4000000 in
theorem reserve_full {w : World} {B ba bk bt n lim rf : Nat} {T : Nat → Bool} {R : List (Nat × Nat)} {g : Option Nat} (H : ArenaAt w B ba bk bt n lim T R g rf) (hrf : rf < 1000000) (hgiv : lim < n - freeN T n + 1) :
    Calls Tryz.prog 51 #[.pointer (some ⟨ba, 0, none⟩), .int .i64 1] w fun e w' => e = .returned (.tuple #[.int .i64 0, .int .i64 4]) ∧ ArenaAt w' B ba bk bt n lim T R g (rf + 1) ∧ Fr w w' (arS ba bk bt g) := by
  have HH := Lib.hid H
  have c1 := H.c1
  have c2 := H.c2
  have n64 := H.n64
  have hf1 : freeN T n ≤ n := by unfold freeN; exact Nat.le_trans List.countP_le_length (by simp)
  have c0 := H.c0
  have h1n := H.marks.n0
  have hll := H.ll
  clear H
  go_enter Tryz.func51, Tryz.ntmps51
  go_wp2_with fail
  have hwr : IntKind.i64.wrap ((n : Int) - (freeN T n : Int) + 1) = (n : Int) - (freeN T n : Int) + 1 := by simp only [IntKind.wrap_i64]; omega
  have q1 : decide ((n : Int) - (freeN T n : Int) + 1 ≤ (lim : Int)) = false := decide_eq_false (by omega)
  have q1' : ¬ ((n : Int) - (freeN T n : Int) + 1 ≤ (lim : Int)) := by omega
  have HD : Hid (∀ k, ArenaAt (w.drew.drewN k) B ba bk bt n lim T R g rf) := fun k => (HH.out.stays (w' := w.drew.drewN k) rfl rfl rfl (fun _ _ => rfl))
  go_region_held3 (fun w' => w'.cell? ⟨ba, 2, none⟩ = some (.int .i64 lim))
    (first | exact (HD.out 0).c2 | exact KG.out | go_keep | fail)
    (first
      | (go_at_call 85; refine (arenaNext (w := w.drew) (HD.out 0).c4).mono ?_; rintro e w1 ⟨rfl, rfl⟩)
      | (go_at_call 14; refine (arenaGiven (w := w.drew) (HD.out 0)).mono ?_; rintro e w1 ⟨rfl, kk, rfl⟩; have KG := Lib.hid (HD.out kk).c2)
      | fail)
  have HZ := Lib.hid (HH.out.drewN (1 + kk))
  have FZ : Hid (Fr w (w.drewN (1 + kk)) (arS ba bk bt g)) := ⟨rfl, rfl, rfl, Nat.le_refl _, fun _ _ _ => rfl⟩
  generalize w.drewN (1 + kk) = wz at *
  have z5 := HZ.out.c5
  have y5 := HZ.out.z5
  clear KG HD hwr q1 q1' c0 c1 c2
  go_wp2_with fail
  go_ret2
  have hb : ∀ k, k ≠ ba → (wz.setCell ⟨ba, 5, none⟩ (.int .i64 ((rf : Int) + 1))).heap[k]? = wz.heap[k]? := fun k hk => Below.heap_setCell wz ⟨ba, 5, none⟩ _ k hk
  have oth : ∀ j, j ≠ 5 → (wz.setCell ⟨ba, 5, none⟩ (.int .i64 ((rf : Int) + 1))).cell? ⟨ba, j, none⟩ = wz.cell? ⟨ba, j, none⟩ := fun j hj => World.cell?_setCell_other _ _ _ _ (by simp [hj])
  obtain ⟨v, hv, ho, hg⟩ := HZ.out.c3
  refine ⟨rfl, ⟨(oth 0 (by omega)).trans HZ.out.c0, (oth 1 (by omega)).trans HZ.out.c1, (oth 2 (by omega)).trans HZ.out.c2, ⟨v, (oth 3 (by omega)).trans hv, own_stays ho (fun k e => hb k (fun e' => HZ.out.ga (by rw [← hg, e, e']))), hg⟩, (oth 4 (by omega)).trans HZ.out.c4, ?_, by simpa using HZ.out.z3, by simpa using HZ.out.z5, HZ.out.marks.stays (hb bk HZ.out.nk.symm) (hb bt HZ.out.nt.symm), HZ.out.nk, HZ.out.nt, HZ.out.ga, HZ.out.gk, HZ.out.gt, n64, hll, hrf⟩, FZ.out.set (.inl (.inl rfl)) _ _⟩
  rw [World.cell?_setCell_same' _ _ _ (by rw [z5]; rfl)]
  congr 2
end Go.Proofs.YtbljphaklciinaaGreat

/- Rows of cells that are written in place: what 'setCells' makes of a block. -/
namespace Go.Proofs.YtbljphaklciinaaGreat
open Go.RowKit

/-- vs laid over l from place o on (where l has room). -/
def over (l : List Value) (o : Nat) (vs : List Value) : List Value := l.take o ++ vs ++ l.drop (o + vs.length)

theorem over_cons (l : List Value) (o : Nat) (v : Value) (r : List Value) (h : o < l.length) : over (l.set o v) (o + 1) r = over l o (v :: r) := by
  unfold over
  have h1 : (l.set o v).take (o + 1) = l.take o ++ [v] := by
    rw [List.take_succ_eq_append_getElem (by simpa using h), List.take_set_of_le (Nat.le_refl _)]
    simp
  have h2 : (l.set o v).drop (o + 1 + r.length) = l.drop (o + (v :: r).length) := by
    rw [List.drop_set_of_lt (by omega), List.length_cons]
    congr 1
    omega
  rw [h1, h2]
  simp

theorem setCells_block (b : Nat) (t : TypeId) : ∀ (vs : List Value) (o : Nat) (w : World) (cur : Array Value), w.heap[b]? = some (.cells cur t (0, 0)) → o + vs.length ≤ cur.size →
    (w.setCells b o vs).heap[b]? = some (.cells (over cur.toList o vs).toArray t (0, 0))
  | [], o, w, cur, h, _ => by
    simp [World.setCells, over, h]
  | v :: r, o, w, cur, h, hl => by
    have hl' : o + 1 + r.length ≤ (cur.setIfInBounds o v).size := by simp at hl ⊢; omega
    have h1 : (w.setCell ⟨b, o, none⟩ v).heap[b]? = some (.cells (cur.setIfInBounds o v) t (0, 0)) := by
      simp [World.setCell, Array.getElem?_modify, h]
    rw [World.setCells, setCells_block b t r (o + 1) _ _ h1 hl']
    have hlo : o < cur.toList.length := by simp at hl ⊢; omega
    rw [← over_cons cur.toList o v r hlo, Array.toList_setIfInBounds]

theorem setCells_size (b : Nat) : ∀ (vs : List Value) (o : Nat) (w : World), (w.setCells b o vs).heap.size = w.heap.size
  | [], _, _ => rfl
  | v :: r, o, w => by rw [World.setCells, setCells_size b r (o + 1) _]; simp [World.setCell]
theorem setCells_grown (b : Nat) : ∀ (vs : List Value) (o : Nat) (w w0 : World), w0.grownBy w (some b) → w0.grownBy (w.setCells b o vs) (some b)
  | [], _, _, _, h => h
  | v :: r, o, w, w0, h => setCells_grown b r (o + 1) _ w0
      ⟨h.os, h.tape, h.output, by simpa [World.setCell] using h.size, fun k hk hne => (Below.heap_setCell w ⟨b, o, none⟩ v k (fun e => hne (by rw [e]))).trans (h.block k hk hne)⟩

end Go.Proofs.YtbljphaklciinaaGreat

/- Layer 4 (arena): slices.Delete of one region. -/
namespace Go.Proofs.YtbljphaklciinaaGreat
open Go.RowKit

theorem run_clear_two {P : Program} (w : World) (t e ty : TypeId) (z1 z2 : Value) (ht : P.underlying t = some (.slice e)) (hv : ∀ w, (zeroValue e).run P w = .ok (.agg #[z1, z2]) w) (h1 : z1.oneCell' = true) (h2 : z2.oneCell' = true) (b o c : Nat)
    (hc : ∀ j, j < 2 → (w.cell? ⟨b, o + j, none⟩).isSome = true) (hf : ∀ j, j < 2 → w.frozen? ⟨b, o + j, none⟩ = false) :
    (Builtin.clear_ #[t] ty #[.slice (some ⟨b, o, none⟩) 1 c]).run P w = .ok (.tuple #[]) (w.setCells b o [z1, z2]) := by
  have hzc : (Builtin.zeroCells (Value.agg #[z1, z2]).cells 1).toList = [z1, z2] := by
    simp [Builtin.zeroCells, Value.cells]
    apply List.ext_getElem
    · simp
    · intro i h1 h2
      match i with
      | 0 => simp
      | 1 => simp
      | k + 2 => exact absurd h2 (by simp)
  have hst := run_storeCells_cells (P := P) b o [z1, z2] 0 w (by simpa using hc) (by simpa using hf) (by intro v hv'; simp at hv'; rcases hv' with rfl | rfl; exact h1; exact h2)
  simp only [Nat.add_zero] at hst
  simp [Builtin.clear_, run_underlying ht, hv, hzc, hst]

theorem zero_region (w : World) : (zeroValue 172).run Tryz.prog w = .ok (.agg #[.int .i64 0, .int .i64 0]) w := by kernel_rfl

def DelR (w : World) (g cap : Nat) (xs : List Value) (i n : Nat) (e : Ending) (w' : World) : Prop :=
  e = .returned (.slice (some ⟨g, 0, none⟩) (n - 1) cap) ∧ w.grownBy w' (some g) ∧
    ∃ cur' : Array Value, w'.heap[g]? = some (.cells cur' 172 (0, 0)) ∧ cur'.size = cap * 2 ∧ cur'.toList.take ((n - 1) * 2) = xs.take (i * 2) ++ xs.drop ((i + 1) * 2)

set_option maxRecDepth 100000 in
set_option maxHeartbeats 4000000 in
theorem delete_region (g cap n i : Nat) (cur : Array Value) (w : World) (hcur : w.heap[g]? = some (.cells cur 172 (0, 0))) (hsz : cur.size = cap * 2) (hn : n ≤ cap) (hcap : cap ≤ maxLen) (hn2 : n ≤ 1000) (hi : i < n)
    (h1c : ∀ u ∈ cur.toList.take (n * 2), u.oneCell' = true) :
    Calls Tryz.prog 91 #[.slice (some ⟨g, 0, none⟩) n cap, .int .i64 i, .int .i64 ((i : Int) + 1)] w (DelR w g cap (cur.toList.take (n * 2)) i n) := by
  unfold maxLen at hcap
  obtain ⟨news, hnews⟩ : ∃ news, news = (cur.toList.take (n * 2)).drop ((i + 1) * 2) := ⟨_, rfl⟩
  have hlen : news.length = (n - (i + 1)) * 2 := by rw [hnews]; simp; omega
  have s1 : Hid (news.length = (n - (i + 1)) * 2) := hlen
  have s2 : Hid (∀ u ∈ news, u.oneCell' = true) := fun u hu => h1c u (List.mem_of_mem_drop (hnews ▸ hu))
  have hcell : ∀ j, w.drew.cell? ⟨g, j, none⟩ = cur[j]? := fun j => cell_of_row w g j cur _ _ hcur
  have s3 : Hid (∀ j, j < news.length → (w.drew.cell? ⟨g, 0 + i * 2 + j, none⟩).isSome = true ∧ w.drew.frozen? ⟨g, 0 + i * 2 + j, none⟩ = false) := fun j hj => by
    refine ⟨?_, by have h2 : w.drew.heap[g]? = some (.cells cur 172 (0, 0)) := hcur; simp [World.frozen?, h2]⟩
    rw [hcell, Array.getElem?_eq_getElem (by omega)]
    rfl
  obtain ⟨W1, hW1⟩ : ∃ W1, W1 = w.drew.setCells g (0 + i * 2) news := ⟨_, rfl⟩
  have hb1 : W1.heap[g]? = some (.cells (over cur.toList (0 + i * 2) news).toArray 172 (0, 0)) := by
    rw [hW1]; exact setCells_block g _ news _ w.drew cur hcur (by rw [hlen]; omega)
  have hg1 : w.grownBy W1 (some g) := by
    rw [hW1]; exact setCells_grown g _ _ _ w ⟨rfl, rfl, rfl, Nat.le_refl _, fun _ _ _ => rfl⟩
  obtain ⟨cur1, hcur1⟩ : ∃ cur1, cur1 = (over cur.toList (0 + i * 2) news).toArray := ⟨_, rfl⟩
  rw [← hcur1] at hb1
  have hz1 : cur1.size = cap * 2 := by rw [hcur1]; simp [over, hlen]; omega
  have hcl : ∀ ty, (Builtin.clear_ #[95] ty #[.slice (some ⟨g, (n - 1) * 2, none⟩) 1 (cap - (n - 1))]).run Tryz.prog W1 = .ok (.tuple #[]) (W1.setCells g ((n - 1) * 2) [.int .i64 0, .int .i64 0]) := fun ty =>
    run_clear_two W1 _ _ ty _ _ Tryz.underlying95 zero_region rfl rfl g ((n - 1) * 2) _
      (fun j hj => by
        have e : W1.cell? ⟨g, (n - 1) * 2 + j, none⟩ = cur1[(n - 1) * 2 + j]? := cell_of_row W1 g _ cur1 _ _ hb1
        rw [e, Array.getElem?_eq_getElem (by omega)]; rfl)
      (fun j hj => by simp [World.frozen?, hb1])
  have hb2 : (W1.setCells g ((n - 1) * 2) [.int .i64 0, .int .i64 0]).heap[g]? = some (.cells (over cur1.toList ((n - 1) * 2) [.int .i64 0, .int .i64 0]).toArray 172 (0, 0)) :=
    setCells_block g _ _ _ W1 cur1 hb1 (by simp; omega)
  have hg2 : w.grownBy (W1.setCells g ((n - 1) * 2) [.int .i64 0, .int .i64 0]) (some g) := setCells_grown g _ _ _ w hg1
  have hfin : ∃ cur' : Array Value, (W1.setCells g ((n - 1) * 2) [.int .i64 0, .int .i64 0]).heap[g]? = some (.cells cur' 172 (0, 0)) ∧ cur'.size = cap * 2 ∧ cur'.toList.take ((n - 1) * 2) = (cur.toList.take (n * 2)).take (i * 2) ++ (cur.toList.take (n * 2)).drop ((i + 1) * 2) := by
    refine ⟨_, hb2, by simp [over]; omega, ?_⟩
    have e0 : (cur.toList.take (n * 2)).take (i * 2) = cur.toList.take (i * 2) := by rw [List.take_take, Nat.min_eq_left (by omega)]
    have e3 : (cur.toList.take (i * 2) ++ news).length = (n - 1) * 2 := by simp [hlen]; omega
    rw [← hnews, e0]
    simp only [over]
    rw [List.append_assoc, List.take_append_of_le_length (by simp; omega), List.take_of_length_le (by simp; omega), hcur1]
    simp only [over, Nat.zero_add]
    rw [List.take_append_of_le_length (by rw [e3]; exact Nat.le_refl _), List.take_of_length_le (by rw [e3]; exact Nat.le_refl _)]
  have HF : Hid (DelR w g cap (cur.toList.take (n * 2)) i n (.returned (.slice (some ⟨g, 0, none⟩) (n - 1) cap)) (W1.setCells g ((n - 1) * 2) [.int .i64 0, .int .i64 0])) := ⟨rfl, hg2, hfin⟩
  have HW : Hid (W1 = w.drew.setCells g (0 + i * 2) news) := hW1
  obtain ⟨A, hA, hsrc⟩ : ∃ A : Addr, (if cap = i + 1 then some (⟨g, 0, none⟩ : Addr) else some ⟨g, (i + 1) * 2, none⟩) = some A ∧ Hid (∀ j u, news[j]? = some u → w.drew.cell? (A.add j) = some u) := by
    by_cases h : cap = i + 1
    · refine ⟨⟨g, 0, none⟩, by simp [h], fun j u hu => ?_⟩
      have h0 : news.length = 0 := by rw [hlen]; omega
      rw [List.length_eq_zero_iff.1 h0] at hu
      simp at hu
    · refine ⟨⟨g, (i + 1) * 2, none⟩, by simp [h], fun j u hu => ?_⟩
      have hj := (List.getElem?_eq_some_iff.1 hu).1
      rw [Addr.add_lit, hcell]
      rw [hnews, List.getElem?_drop, List.getElem?_take_of_lt (by omega)] at hu
      rw [← hu, Array.getElem?_toList]
  obtain ⟨i0, hi0, hz0, hzz1, hzz2⟩ := info_parts info_region
  have hne : ((i : Int) == (i : Int) + 1) = false := by simp; omega
  have ek : n - 1 = i + (n - (i + 1)) := by omega
  obtain ⟨W2, hW2⟩ : ∃ W2, W2 = W1.setCells g ((n - 1) * 2) [.int .i64 0, .int .i64 0] := ⟨_, rfl⟩
  rw [← hW2] at HF
  rw [← hW2] at hcl
  clear hW2
  rw [ek] at HF
  have hcl2 : ∀ ty, (Builtin.clear_ #[95] ty #[.slice (some ⟨g, (i + (n - (i + 1))) * 2, none⟩) (n - (i + (n - (i + 1)))) (cap - (i + (n - (i + 1))))]).run Tryz.prog W1 = .ok (.tuple #[]) W2 := fun ty => by
    rw [← ek, show n - (n - 1) = 1 by omega]; exact hcl ty
  clear hcl ek
  clear hcell hnews hW1 hlen hb1 hg1 hcur1 hz1 hb2 hg2 hfin h1c hcur
  go_enter Tryz.func91, Tryz.ntmps91
  go_wp2_with fail
  clear hne
  have hic : i ≤ cap := by omega
  have hjc : i + 1 ≤ cap := by omega
  have hi0' : (0 : Int) ≤ (i : Int) + 1 := by omega
  have hin : (i : Int) + 1 ≤ (n : Int) := by omega
  go_region_law (refine step_append_room rfl (.tmp 22) (.tmp 25) 95 rfl 172 i0 2 Tryz.underlying95 hi0 hzz1 g 0 i cap (by simp [Act.eval, Act.put]) A (n - (i + 1)) (cap - (i + 1)) news (by simp [Act.eval, Act.put]) s1.out hsrc.out s2.out (by omega) s3.out ?_; rw [← HW.out])
  go_wp2_with fail
  go_ret
  exact HF.out
end Go.Proofs.YtbljphaklciinaaGreat

/- Layer 4 (arena): Release. -/
namespace Go.Proofs.YtbljphaklciinaaGreat
open Go.RowKit

theorem flatR_erase : ∀ (R : List (Nat × Nat)) (i : Nat), (flatR R).take (i * 2) ++ (flatR R).drop ((i + 1) * 2) = flatR (R.eraseIdx i)
  | [], i => by simp [flatR]
  | x :: r, 0 => by simp [flatR]
  | x :: r, i + 1 => by
    have h := flatR_erase r i
    have e : flatR (x :: r) = .int .i64 (x.1 : Nat) :: .int .i64 (x.2 : Nat) :: flatR r := rfl
    have e2 : flatR ((x :: r).eraseIdx (i + 1)) = .int .i64 (x.1 : Nat) :: .int .i64 (x.2 : Nat) :: flatR (r.eraseIdx i) := rfl
    rw [e, e2, ← h, show (i + 1) * 2 = i * 2 + 1 + 1 by omega, show (i + 1 + 1) * 2 = (i + 1) * 2 + 1 + 1 by omega]
    simp only [List.take_succ_cons, List.drop_succ_cons, List.cons_append]
    rw [show i * 2 + 1 + 1 = (i + 1) * 2 by omega]

set_option maxRecDepth 100000 in
set_option maxHeartbeats 4000000 in
/-- Release of a segment that was given. -/
theorem release_ok {w : World} {B ba bk bt n lim rf : Nat} {T : Nat → Bool} {R : List (Nat × Nat)} {g : Option Nat} (H : ArenaAt w B ba bk bt n lim T R g rf) (hs : SortedR R) (hR : R.length ≤ 64) (i a : Nat) (hx : R[i]? = some (a, 1)) (ha : a < n) (hT : T a = true) :
    Calls Tryz.prog 53 #[.pointer (some ⟨ba, 0, none⟩), .int .i64 a] w fun e w' => e = .returned (.int .i64 0) ∧ ArenaAt w' B ba bk bt n lim (setT T a 1 false) (R.eraseIdx i) g rf ∧ Fr w w' (arS ba bk bt g) := by
  have HH := Lib.hid H
  have n64 := H.n64
  have hiR : i < R.length := (List.getElem?_eq_some_iff.1 hx).1
  have HX := Lib.hid hx
  clear H hx
  go_enter Tryz.func53, Tryz.ntmps53
  go_wp2_with fail
  refine (arenaFind HH.out hs (by omega) a (by omega)).mono ?_
  rintro e w1 ⟨i', f, rfl, h1, h2, h3, h4, B1⟩
  have hii : i' = i := by
    rcases Nat.lt_trichotomy i' i with h | h | h
    · have hx' := List.getElem?_eq_getElem (show i' < R.length by omega)
      have := h3 i' _ (Nat.le_refl _) hx'
      have := hs i' i _ _ h hx' HX.out
      simp at this
      omega
    · exact h
    · have := h2 i _ h HX.out
      simp at this
  subst hii
  have hf : f = true := h4.2 ⟨_, HX.out, rfl⟩
  subst hf
  have HA1 := Lib.hid (HH.out.below B1)
  have F1 : Hid (Fr w w1 (arS ba bk bt g)) := Fr.of_below B1 _
  clear h1 h2 h3 h4 B1
  obtain ⟨v, hv, ho, hg⟩ := HA1.out.c3
  obtain ⟨gg, cap, cur, rfl, hBg, hh, hn, hcm, hcs, hct⟩ : ∃ gg cap cur, v = .slice (some ⟨gg, 0, none⟩) R.length cap ∧ B ≤ gg ∧ w1.heap[gg]? = some (.cells cur 172 (0, 0)) ∧ R.length ≤ cap ∧ cap ≤ maxLen ∧ cur.size = cap * 2 ∧ cur.toList.take (R.length * 2) = flatR R := by
    rcases ho.2 with ⟨rfl, h⟩ | h
    · omega
    · exact h
  obtain rfl : some gg = g := hg
  have hcell : ∀ j, w1.cell? ⟨gg, j, none⟩ = cur[j]? := fun j => cell_of_row w1 gg j cur _ _ hh
  obtain ⟨f1, f2⟩ := flatR_at HX.out
  have k1 : w1.cell? ⟨gg, i' * 2 + 1, none⟩ = some (.int .i64 1) := by
    rw [hcell]
    rw [← hct, List.getElem?_take_of_lt (by omega)] at f2
    simpa using f2
  have k0 : w1.cell? ⟨gg, i' * 2, none⟩ = some (.int .i64 (a : Nat)) := by
    rw [hcell]
    rw [← hct, List.getElem?_take_of_lt (by omega)] at f1
    simpa using f1
  have c0 := HA1.out.c0
  have HO := Lib.hid ho
  have HCT := Lib.hid hct
  have HHB := Lib.hid hh
  have HCS := Lib.hid hcs
  clear ho hct hh hcs hcell f1 f2
  go_wp2_with fail
  have hS0 : w1.drew.cell? ⟨ba, 0, none⟩ = some (.pointer (some ⟨bk, 0, none⟩)) ∧ w1.drew.cell? ⟨ba, 3, none⟩ = some (.slice (some ⟨gg, 0, none⟩) R.length cap) ∧ w1.drew.cell? ⟨gg, i' * 2 + 1, none⟩ = some (.int .i64 1) := ⟨c0, hv, k1⟩
  have HS0 := Lib.hid hS0
  obtain ⟨s1, s2, s3⟩ := hS0
  have HD := Lib.hid (HA1.out.below (w' := w1.drew) ((Below.refl _ _).drew))
  have hT1 : ∀ j, j < 1 → T (a + j) = true := fun j hj => by
    obtain rfl : j = 0 := by omega
    exact hT
  have HFREE : Hid (Calls Tryz.prog 90 #[.pointer (some ⟨bk, 0, none⟩), .int .i64 a, .int .i64 1] w1.drew fun e w' => e = .returned (.int .i64 0) ∧ MarksAt w' bk bt n (setT T a 1 false) ∧ PFr w1.drew w' bk bt) := marksFree HD.out.marks a 1 (by omega) (by omega) hT1
  go_region_held3 (fun w' => w'.cell? ⟨ba, 0, none⟩ = some (.pointer (some ⟨bk, 0, none⟩)) ∧ w'.cell? ⟨ba, 3, none⟩ = some (.slice (some ⟨gg, 0, none⟩) R.length cap) ∧ w'.cell? ⟨gg, i' * 2 + 1, none⟩ = some (.int .i64 1))
    (first | exact HS0.out | exact KF.out | go_keep | fail)
    (first
      | (go_at_call 90; refine HFREE.out.mono ?_; rintro e w2 ⟨rfl, hm2, hp2⟩; have HM2 := Lib.hid hm2; have HP2 := Lib.hid hp2; have HA2 := Lib.hid (HD.out.marked hm2 hp2);
         have KF : Hid (w2.cell? ⟨ba, 0, none⟩ = some (.pointer (some ⟨bk, 0, none⟩)) ∧ w2.cell? ⟨ba, 3, none⟩ = some (.slice (some ⟨gg, 0, none⟩) R.length cap) ∧ w2.cell? ⟨gg, i' * 2 + 1, none⟩ = some (.int .i64 1)) := ⟨HA2.out.c0, (World.cell?_of_block (a := ⟨ba, 3, none⟩) (hp2.block ba HD.out.lt_a HD.out.nk HD.out.nt)).trans HS0.out.2.1, (World.cell?_of_block (a := ⟨gg, i' * 2 + 1, none⟩) (hp2.block gg (HD.out.lt_g rfl).1 (fun e => HD.out.gk (by rw [e])) (fun e => HD.out.gt (by rw [e])))).trans HS0.out.2.2⟩; clear hm2 hp2)
      | fail)
  have F2 : Hid (Fr w w2 (arS ba bk bt (some gg))) := (F1.out.trans (S' := fun _ => False) (⟨rfl, rfl, rfl, Nat.le_refl _, fun _ _ _ => rfl⟩ : Fr w1 w1.drew _) (fun k hk => hk.elim)).trans (Fr.of_pfr HP2.out) (fun k hk => .inl (by rcases hk with h | h; exact .inr (.inl h); exact .inr (.inr (.inl h))))
  have hgb : w2.heap[gg]? = some (.cells cur 172 (0, 0)) := (HP2.out.block gg (HD.out.lt_g rfl).1 (fun e => HD.out.gk (by rw [e])) (fun e => HD.out.gt (by rw [e]))).trans HHB.out
  have hv2 := KF.out.2.1
  have HDEL := Lib.hid (delete_region gg cap R.length i' cur w2 hgb HCS.out hn hcm (by omega) hiR (fun u hu => flatR_one R u (HCT.out ▸ hu)))
  have z3 := HA2.out.z3
  have hlt2 := HA2.out.lt_a
  clear HS0 s1 s2 s3 HD KF HM2 HP2 HHB hgb c0 hv k1 k0 F1 HA1 HO
  go_wp2_with fail
  refine HDEL.out.mono ?_
  rintro e w3 ⟨rfl, hg3, cur', hb3, hs3, ht3⟩
  have hba : w3.heap[ba]? = w2.heap[ba]? := hg3.block ba hlt2 (fun e => HA2.out.ga e.symm)
  have m3 : w3.cell? ⟨ba, 3, none⟩ = some (.slice (some ⟨gg, 0, none⟩) R.length cap) := (World.cell?_of_block (a := ⟨ba, 3, none⟩) hba).trans hv2
  have y3 : w3.frozen? ⟨ba, 3, none⟩ = false := (World.frozen?_of_block (a := ⟨ba, 3, none⟩) hba).trans z3
  have HBA := Lib.hid hba
  have HG3 := Lib.hid hg3
  have HB3 := Lib.hid hb3
  have HS3 := Lib.hid hs3
  have HT3 := Lib.hid ht3
  clear hba hg3 hb3 hs3 ht3 HDEL hv2 z3
  go_wp2_with fail
  go_ret
  have oth : ∀ j v, j ≠ 3 → (w3.setCell ⟨ba, 3, none⟩ v).cell? ⟨ba, j, none⟩ = w2.cell? ⟨ba, j, none⟩ := fun j v hj => by
    rw [World.cell?_setCell_other _ _ _ _ (by simp [hj])]
    exact World.cell?_of_block (a := ⟨ba, j, none⟩) HBA.out
  have hne : gg ≠ ba := fun e => HA2.out.ga (by rw [e])
  have hle : (R.eraseIdx i').length = R.length - 1 := by rw [List.length_eraseIdx]; simp [hiR]
  refine ⟨rfl, ⟨(oth 0 _ (by omega)).trans HA2.out.c0, (oth 1 _ (by omega)).trans HA2.out.c1, (oth 2 _ (by omega)).trans HA2.out.c2, ⟨_, World.cell?_setCell_same' _ _ _ (by rw [m3]; rfl), ?_, rfl⟩, (oth 4 _ (by omega)).trans HA2.out.c4, (oth 5 _ (by omega)).trans HA2.out.c5, by simpa using y3, ?_, ?_, HA2.out.nk, HA2.out.nt, HA2.out.ga, HA2.out.gk, HA2.out.gt, n64, HA2.out.ll, HA2.out.rn⟩, ?_⟩
  · refine ⟨flatR_len _, .inr ⟨gg, cap, cur', by rw [hle], hBg, (Below.heap_setCell _ _ _ _ hne).trans HB3.out, by rw [hle]; omega, hcm, HS3.out, ?_⟩⟩
    rw [hle, HT3.out, HCT.out]
    exact flatR_erase R i'
  · rw [World.frozen?_setCell]
    exact (World.frozen?_of_block (a := ⟨ba, 5, none⟩) HBA.out).trans HA2.out.z5
  · refine HA2.out.marks.stays ?_ ?_
    · rw [Below.heap_setCell _ _ _ _ (fun e => HA2.out.nk e.symm)]; exact HG3.out.block bk HA2.out.marks.lt_b (fun e => HA2.out.gk e.symm)
    · rw [Below.heap_setCell _ _ _ _ (fun e => HA2.out.nt e.symm)]; exact HG3.out.block bt HA2.out.marks.lt_bt (fun e => HA2.out.gt e.symm)
  · exact (F2.out.trans (Fr.of_grown HG3.out) (fun k hk => .inl (.inr (.inr (.inr hk))))).set (.inl (.inl rfl)) _ _
end Go.Proofs.YtbljphaklciinaaGreat

/- Layer 10 (seg): a segment at a block; New. -/
namespace Go.Proofs.YtbljphaklciinaaGreat
open Go.RowKit

def segV (bk bm pl : Nat) (O : Nat → Option Nat) (x t a : Int) : Nat → Value
  | 0 => .pointer (some ⟨bk, 0, none⟩)
  | 1 => .pointer (some ⟨bm, 0, none⟩)
  | 2 => .int .i64 pl
  | 19 => .int .u64 x
  | 20 => .int .u64 t
  | 21 => .int .i64 a
  | j => .pointer ((O (j - 3)).map fun b => ⟨b, 0, none⟩)

/-- A block of cells, none of them frozen. -/
def Shp (w : World) (b : Nat) : Prop := ∃ cs T, w.heap[b]? = some (.cells cs T (0, 0))
theorem Shp.of_block {w w' : World} {b : Nat} (h : Shp w b) (e : w'.heap[b]? = w.heap[b]?) : Shp w' b := by
  obtain ⟨cs, T, h⟩ := h
  exact ⟨cs, T, e.trans h⟩
theorem Shp.set {w : World} {b : Nat} (h : Shp w b) (k i : Nat) (v : Value) : Shp (w.setCell ⟨k, i, none⟩ v) b := by
  obtain ⟨cs, T, h⟩ := h
  by_cases e : b = k
  · subst e
    exact ⟨cs.setIfInBounds i v, T, by simp [World.setCell, Array.getElem?_modify, h]⟩
  · exact ⟨cs, T, (Below.heap_setCell w ⟨k, i, none⟩ v b e).trans h⟩
theorem Shp.new (w : World) (cs : Array Value) (T : TypeId) : Shp (w.alloc (.cells cs T)) w.heap.size := ⟨cs, T, by show (w.heap.push _)[w.heap.size]? = _; simp⟩

structure SegAt (w : World) (bs bk bt bm pl : Nat) (T : Nat → Bool) (O : Nat → Option Nat) (x t a : Int) : Prop where
  obj : Obj_ w bs 0 22 (segV bk bm pl O x t a)
  marks : MarksAt w bk bt 16 T
  nk : bs ≠ bk
  nt : bs ≠ bt
  pl64 : pl < 64
  shp : Shp w bs

variable {w w' : World} {bs bk bt bm pl : Nat} {T : Nat → Bool} {O : Nat → Option Nat} {x t a : Int}

theorem SegAt.lt (h : SegAt w bs bk bt bm pl T O x t a) : bs < w.heap.size := h.obj.lt (by omega)
theorem SegAt.stays (h : SegAt w bs bk bt bm pl T O x t a) (h1 : w'.heap[bs]? = w.heap[bs]?) (h2 : w'.heap[bk]? = w.heap[bk]?) (h3 : w'.heap[bt]? = w.heap[bt]?) : SegAt w' bs bk bt bm pl T O x t a :=
  ⟨h.obj.of_block h1, h.marks.stays h2 h3, h.nk, h.nt, h.pl64, h.shp.of_block h1⟩
theorem SegAt.below (h : SegAt w bs bk bt bm pl T O x t a) (hb : Below w.heap.size w w') : SegAt w' bs bk bt bm pl T O x t a :=
  h.stays (hb.block _ h.lt) (hb.block _ h.marks.lt_b) (hb.block _ h.marks.lt_bt)
theorem SegAt.c0 (h : SegAt w bs bk bt bm pl T O x t a) : w.cell? ⟨bs, 0, none⟩ = some (.pointer (some ⟨bk, 0, none⟩)) := h.obj.at0 (by omega) rfl
theorem SegAt.c1 (h : SegAt w bs bk bt bm pl T O x t a) : w.cell? ⟨bs, 1, none⟩ = some (.pointer (some ⟨bm, 0, none⟩)) := by have := h.obj.cell 1 (by omega); rwa [Nat.zero_add] at this
theorem SegAt.c2 (h : SegAt w bs bk bt bm pl T O x t a) : w.cell? ⟨bs, 2, none⟩ = some (.int .i64 pl) := by have := h.obj.cell 2 (by omega); rwa [Nat.zero_add] at this
theorem segV_of (j : Nat) (hj : j < 16) : segV bk bm pl O x t a (3 + j) = .pointer ((O j).map fun b => ⟨b, 0, none⟩) := by
  rcases (show j = 0 ∨ j = 1 ∨ j = 2 ∨ j = 3 ∨ j = 4 ∨ j = 5 ∨ j = 6 ∨ j = 7 ∨ j = 8 ∨ j = 9 ∨ j = 10 ∨ j = 11 ∨ j = 12 ∨ j = 13 ∨ j = 14 ∨ j = 15 by omega) with rfl | rfl | rfl | rfl | rfl | rfl | rfl | rfl | rfl | rfl | rfl | rfl | rfl | rfl | rfl | rfl <;> rfl
theorem SegAt.of_ (h : SegAt w bs bk bt bm pl T O x t a) {j : Nat} (hj : j < 16) : w.cell? ⟨bs, 3 + j, none⟩ = some (.pointer ((O j).map fun b => ⟨b, 0, none⟩)) ∧ w.frozen? ⟨bs, 3 + j, none⟩ = false := by
  have h1 := h.obj.cell (3 + j) (by omega)
  have h2 := h.obj.frz (3 + j) (by omega)
  rw [Nat.zero_add] at h1 h2
  rw [segV_of j hj] at h1
  exact ⟨h1, h2⟩

theorem lt22 {j : Nat} (h : j < 22) : j = 0 ∨ j = 1 ∨ j = 2 ∨ (∃ i, i < 16 ∧ j = 3 + i) ∨ j = 19 ∨ j = 20 ∨ j = 21 := by
  by_cases h1 : j < 3
  · omega
  · by_cases h2 : j < 19
    · exact .inr (.inr (.inr (.inl ⟨j - 3, by omega, by omega⟩)))
    · omega

/-- A new segment's cells. -/
def segCs (bk bm pl : Nat) : Array Value := #[.pointer (some ⟨bk, 0, none⟩), .pointer (some ⟨bm, 0, none⟩), .int .i64 pl, .pointer none, .pointer none, .pointer none, .pointer none, .pointer none, .pointer none, .pointer none, .pointer none, .pointer none, .pointer none, .pointer none, .pointer none, .pointer none, .pointer none, .pointer none, .pointer none, .int .u64 0, .int .u64 0, .int .i64 0]
theorem segCs_at (j : Nat) (hj : j < 22) : (segCs bk bm pl).getD j undef = segV bk bm pl (fun _ => none) 0 0 0 j := by
  rcases (show j = 0 ∨ j = 1 ∨ j = 2 ∨ j = 3 ∨ j = 4 ∨ j = 5 ∨ j = 6 ∨ j = 7 ∨ j = 8 ∨ j = 9 ∨ j = 10 ∨ j = 11 ∨ j = 12 ∨ j = 13 ∨ j = 14 ∨ j = 15 ∨ j = 16 ∨ j = 17 ∨ j = 18 ∨ j = 19 ∨ j = 20 ∨ j = 21 by omega) with rfl | rfl | rfl | rfl | rfl | rfl | rfl | rfl | rfl | rfl | rfl | rfl | rfl | rfl | rfl | rfl | rfl | rfl | rfl | rfl | rfl | rfl <;> rfl

set_option maxRecDepth 100000 in
set_option maxHeartbeats 2000000 in
theorem segNew_ok {bb sz : Nat} {f : Nat → Nat} (M : MemAt w bm bb sz f) (hpl : pl < 64) (hsz : (pl + 1) * 16384 ≤ sz) :
    Calls Tryz.prog 52 #[.pointer (some ⟨bm, 0, none⟩), .int .i64 pl] w fun e w' => ∃ bs bk bt, e = .returned (.tuple #[.pointer (some ⟨bs, 0, none⟩), .int .i64 0]) ∧
      SegAt w' bs bk bt bm pl (setT (fun _ => false) 0 1 true) (fun _ => none) 0 0 0 ∧ w.heap.size ≤ bs ∧ w.heap.size ≤ bk ∧ w.heap.size ≤ bt ∧ Below w.heap.size w w' := by
  have HM := Lib.hid M
  have hs1 := M.s1
  clear M
  go_enter Tryz.func52, Tryz.ntmps52
  go_wp2_with fail
  (with_reducible refine (memSize HM.out).mono ?_)
  rintro e w1 ⟨rfl, rfl⟩
  have HN : Hid (Calls Tryz.prog 72 #[.int .i64 16] w fun e w' => ∃ b bt, e = .returned (.tuple #[.pointer (some ⟨b, 0, none⟩), .int .i64 0]) ∧ MarksAt w' b bt 16 (fun _ => false) ∧ w.heap.size ≤ b ∧ w.heap.size ≤ bt ∧ Below w.heap.size w w') := markNew_ok w 16 (by omega) (by omega)
  have hsz' : ((pl : Int) + 1) * 16384 ≤ (sz : Int) := by omega
  go_wp2_with fail
  refine HN.out.mono ?_
  rintro e w2 ⟨bk, bt, rfl, hm, hk, ht, hb⟩
  have HMA := Lib.hid hm
  have HB := Lib.hid hb
  clear hm hb HN hsz'
  go_wp2_with fail
  obtain ⟨wA, hwA⟩ : ∃ wA, wA = w2.alloc (.cells (segCs bk bm pl) 135) := ⟨_, rfl⟩
  have BA : Below w2.heap.size w2 wA := by rw [hwA]; exact (Below.refl _ _).alloc (Nat.le_refl _) _
  have HOB : Hid (Obj_ wA w2.heap.size 0 22 (segV bk bm pl (fun _ => none) 0 0 0)) := by
    rw [hwA]
    exact (Obj_.new w2 (segCs bk bm pl) 135).congr (fun j hj => segCs_at j hj)
  have HSH : Hid (Shp wA w2.heap.size) := by rw [hwA]; exact Shp.new _ _ _
  unfold segCs at hwA
  rw [← hwA]
  have HBA := Lib.hid BA
  have SA : wA.heap.size = w2.heap.size + 1 := by rw [hwA]; simp
  clear hwA BA
  have MA := HMA.out.below HBA.out (Nat.le_refl _)
  have hlk := HMA.out.lt_b
  have hlt := HMA.out.lt_bt
  have HK : Hid (Calls Tryz.prog 89 #[.pointer (some ⟨bk, 0, none⟩), .int .i64 0, .int .i64 1] wA fun e w' => e = .returned (.int .i64 0) ∧ MarksAt w' bk bt 16 (setT (fun _ => false) 0 1 true) ∧ PFr wA w' bk bt) := marksMark MA 0 1 (by omega) (by omega) (fun _ _ => rfl)
  clear MA
  refine HK.out.mono ?_
  rintro e w3 ⟨rfl, hm3, hp3⟩
  have HM3 := Lib.hid hm3
  have HP3 := Lib.hid hp3
  clear hm3 hp3 HK
  go_wp2_with fail
  go_ret2
  refine ⟨w2.heap.size, bk, bt, rfl, ⟨HOB.out.of_block (HP3.out.block _ (by omega) (by omega) (by omega)), HM3.out, by omega, by omega, hpl, HSH.out.of_block (HP3.out.block _ (by omega) (by omega) (by omega))⟩, HB.out.size, hk, ht, ?_⟩
  have h1 : Below w.heap.size w wA := HB.out.trans (HBA.out.mono HB.out.size)
  exact ⟨HP3.out.os.trans h1.os, HP3.out.tape.trans h1.tape, HP3.out.output.trans h1.output, Nat.le_trans h1.size HP3.out.size, fun k hk' => (HP3.out.block k (by have := h1.size; omega) (by omega) (by omega)).trans (h1.block k hk')⟩

set_option maxRecDepth 100000 in
theorem segPlace (h : SegAt w bs bk bt bm pl T O x t a) : Calls Tryz.prog 25 #[.pointer (some ⟨bs, 0, none⟩)] w fun e w' => e = .returned (.int .i64 pl) ∧ w' = w := by
  have c2 := h.c2
  clear h
  go_enter Tryz.func25, Tryz.ntmps25
  go_wp2_with fail
  go_ret
  exact ⟨rfl, rfl⟩

set_option maxRecDepth 100000 in
theorem segOwner (w : World) (bs : Nat) : Calls Tryz.prog 27 #[.pointer (some ⟨bs, 0, none⟩)] w fun e w' => e = .returned (.pointer (some ⟨bs, 19, none⟩)) ∧ w' = w := by
  go_enter Tryz.func27, Tryz.ntmps27
  go_wp2_with fail
  go_ret
  exact ⟨rfl, rfl⟩
end Go.Proofs.YtbljphaklciinaaGreat

/- Layer 10 (seg): Find. -/
namespace Go.Proofs.YtbljphaklciinaaGreat
open Go.RowKit
variable {w w' : World} {bs bk bt bm pl : Nat} {T : Nat → Bool} {O : Nat → Option Nat} {x t a : Int}

def ptrO (o : Option Nat) : Value := .pointer (o.map fun b => ⟨b, 0, none⟩)

set_option maxRecDepth 100000 in
set_option maxHeartbeats 2000000 in
/-- An address in the segment. -/
theorem segFind_in (h : SegAt w bs bk bt bm pl T O x t a) (ad j : Nat) (hp : ad / 16384 = pl) (hj : ad / 1024 % 16 = j) :
    Calls Tryz.prog 29 #[.pointer (some ⟨bs, 0, none⟩), .int .u64 ad] w fun e w' => e = .returned (.tuple #[ptrO (O j), .int .i64 (if (O j).isSome then 0 else 5)]) ∧ Below w.heap.size w w' := by
  have hj16 : j < 16 := by omega
  have h64 := h.pl64
  have HA := Lib.hid (geoAt_ok w ad (by omega) (by omega))
  have HH := Lib.hid h
  have e1 : (ad : Int) / 16384 = (pl : Int) := by omega
  have e2 : (ad : Int) / 1024 % 16 = (j : Int) := by omega
  rw [e1, e2] at HA
  clear h hp hj e1 e2
  go_enter Tryz.func29, Tryz.ntmps29
  go_wp2_with fail
  refine HA.out.mono ?_
  rintro e w1 ⟨rfl, B1⟩
  have H1 := HH.out.below B1
  have c2 := H1.c2
  obtain ⟨cj, _⟩ := H1.of_ hj16
  have HB := Lib.hid B1
  have q0 : ((pl : Int) != (pl : Int)) = false := by simp
  have hbsl := H1.lt
  clear B1 H1 HA HH
  cases ho : O j with
  | none =>
    rw [ho] at cj
    simp only [Option.map_none] at cj
    go_wp2_with fail
    go_quiet (fail)
    go_wp2_with fail
    go_quiet (fail)
    go_wp2_with fail
    all_goals go_ret2
    all_goals exact ⟨rfl, (HB.out.alloc HB.out.size _).trans ⟨rfl, rfl, rfl, Nat.le_refl _, fun _ _ => rfl⟩⟩
  | some b =>
    rw [ho] at cj
    simp only [Option.map_some] at cj
    go_wp2_with fail
    go_quiet (fail)
    go_wp2_with fail
    go_quiet (fail)
    go_wp2_with fail
    all_goals go_quiet (fail)
    all_goals go_wp2_with fail
    all_goals go_ret2
    all_goals exact ⟨rfl, (HB.out.alloc HB.out.size _).trans ⟨rfl, rfl, rfl, Nat.le_refl _, fun _ _ => rfl⟩⟩

set_option maxRecDepth 100000 in
set_option maxHeartbeats 2000000 in
/-- An address elsewhere. -/
theorem segFind_out (h : SegAt w bs bk bt bm pl T O x t a) (ad : Nat) (hp : ad / 16384 ≠ pl) (h64 : ad < 18446744073709551616) :
    Calls Tryz.prog 29 #[.pointer (some ⟨bs, 0, none⟩), .int .u64 ad] w fun e w' => e = .returned (.tuple #[.pointer none, .int .i64 3]) ∧ Below w.heap.size w w' := by
  have HH := Lib.hid h
  clear h
  by_cases hbig : ad < 1048576
  · have HA := Lib.hid (geoAt_ok w ad (by omega) (by omega))
    have hp2 : ((ad : Int) / 16384 != (pl : Int)) = true := by simp; omega
    obtain ⟨q, hq⟩ : ∃ q : Int, q = (ad : Int) / 16384 := ⟨_, rfl⟩
    rw [← hq] at HA hp2
    clear hp hq
    go_enter Tryz.func29, Tryz.ntmps29
    go_wp2_with fail
    refine HA.out.mono ?_
    rintro e w1 ⟨rfl, B1⟩
    have c2 := (HH.out.below B1).c2
    have hbsl := (HH.out.below B1).lt
    have HB := Lib.hid B1
    clear B1 HA HH
    go_wp2_with fail
    go_quiet (fail)
    go_wp2_with fail
    go_ret2
    exact ⟨rfl, (HB.out.alloc HB.out.size _).trans ⟨rfl, rfl, rfl, Nat.le_refl _, fun _ _ => rfl⟩⟩
  · have HA := Lib.hid (geoAt_no w ad (by omega))
    go_enter Tryz.func29, Tryz.ntmps29
    go_wp2_with fail
    refine HA.out.mono ?_
    rintro e w1 ⟨rfl, B1⟩
    have HB := Lib.hid B1
    clear B1 HA HH
    go_wp2_with fail
    go_quiet (fail)
    go_wp2_with fail
    go_ret2
    exact ⟨rfl, (HB.out.alloc HB.out.size _).trans ⟨rfl, rfl, rfl, Nat.le_refl _, fun _ _ => rfl⟩⟩
end Go.Proofs.YtbljphaklciinaaGreat

/- Layer 10 (seg): add. -/
namespace Go.Proofs.YtbljphaklciinaaGreat
open Go.RowKit
variable {w w' : World} {bs bk bt bm pl : Nat} {T : Nat → Bool} {O : Nat → Option Nat} {x t a : Int}

/-- A page's place in a segment. -/
def ownV (bp : Nat) (c : Int) (at_ sl : Nat) : Nat → Value
  | 0 => .pointer (some ⟨bp, 0, none⟩)
  | 1 => .int .i64 c
  | 2 => .int .i64 at_
  | _ => .int .i64 sl
def OwnedAt (w : World) (bo bp : Nat) (c : Int) (at_ sl : Nat) : Prop := Obj_ w bo 0 4 (ownV bp c at_ sl)

/-- Some slices' page. -/
def setO (O : Nat → Option Nat) (at_ k : Nat) (b : Option Nat) : Nat → Option Nat := fun j => if at_ ≤ j ∧ j < k then b else O j

theorem segV_set (at_ k bo : Nat) (hk : k < 16) (h : at_ ≤ k) (j : Nat) (hj : j < 22) : upd (segV bk bm pl (setO O at_ k (some bo)) x t a) (3 + k) (.pointer (some ⟨bo, 0, none⟩)) j = segV bk bm pl (setO O at_ (k + 1) (some bo)) x t a j := by
  unfold upd
  rcases lt22 hj with rfl | rfl | rfl | ⟨i, hi, rfl⟩ | rfl | rfl | rfl
  · rw [if_neg (by omega)]; rfl
  · rw [if_neg (by omega)]; rfl
  · rw [if_neg (by omega)]; rfl
  · rw [segV_of i hi, segV_of i hi]
    by_cases e : i = k
    · subst e
      rw [if_pos rfl]
      have : setO O at_ (i + 1) (some bo) i = some bo := by unfold setO; rw [if_pos (by omega)]
      rw [this]
      rfl
    · rw [if_neg (by omega)]
      have : setO O at_ (k + 1) (some bo) i = setO O at_ k (some bo) i := by
        unfold setO
        by_cases h1 : at_ ≤ i ∧ i < k
        · rw [if_pos (by omega), if_pos h1]
        · rw [if_neg (by omega), if_neg h1]
      rw [this]
  · rw [if_neg (by omega)]; rfl
  · rw [if_neg (by omega)]; rfl
  · rw [if_neg (by omega)]; rfl

theorem PageAt.below_ {w w' : World} {b bm : Nat} {p : Pg} (h : PageAt w b bm p) (hb : Below w.heap.size w w') : PageAt w' b bm p := Obj_.of_block h (hb.block b (Obj_.lt h (by omega)))
def sgS (bs bk bt : Nat) (k : Nat) : Prop := k = bs ∨ k = bk ∨ k = bt

set_option maxRecDepth 100000 in
set_option maxHeartbeats 4000000 in
theorem segAdd_ok {bb sz S N sl at_ : Nat} {c : Int} {f : Nat → Nat} (h : SegAt w bs bk bt bm pl T O x t a) (M : MemAt w bm bb sz f) (hd : ∀ k, k = bm ∨ k = bb → k ≠ bs ∧ k ≠ bk ∧ k ≠ bt) (hpl : (pl + 1) * 16384 ≤ sz) (hs1 : 1 ≤ sl) (hs2 : sl ≤ 15)
    (hS : 16 ≤ S) (hN : 1 ≤ N) (hNS : N * S ≤ sl * 1024) (hf : FreeRow T 16 sl at_) (hlow : ∀ j, j < at_ → ¬ FreeRow T 16 sl j) (h0 : 1 ≤ at_) :
    Calls Tryz.prog 122 #[.pointer (some ⟨bs, 0, none⟩), .int .i64 c, .int .i64 sl, .int .u64 S, .int .i64 N] w fun e w' => ∃ bo bp, e = .returned (.tuple #[.pointer (some ⟨bo, 0, none⟩), .int .i64 0]) ∧ w.heap.size ≤ bo ∧ w.heap.size ≤ bp ∧ bo ≠ bp ∧
      SegAt w' bs bk bt bm pl (setT T at_ sl true) (setO O at_ (at_ + sl) (some bo)) x t a ∧ OwnedAt w' bo bp c at_ sl ∧ PageAt w' bp bm { f := pl * 16384 + at_ * 1024, s := S, n := N, made := 0, used := 0, free := [], loc := [], word := 0, tag := 0, asked := 0, head := 0 } ∧ Fr w w' (sgS bs bk bt) := by
  have HH := Lib.hid h
  have HM := Lib.hid M
  have c0 := h.c0
  have h64 := h.pl64
  have hsz1 := M.s1
  have hat : at_ + sl ≤ 16 := hf.1
  have HT := Lib.hid (marksTake h.marks sl hs1 (by omega))
  clear h M
  go_enter Tryz.func122, Tryz.ntmps122
  go_wp2_with fail
  refine HT.out.mono ?_
  rintro e w1 (⟨a', hf', hl', rfl, hm', hp'⟩ | ⟨hno, _⟩)
  · have ha : a' = at_ := by
      rcases Nat.lt_trichotomy a' at_ with h | h | h
      · exact absurd hf' (hlow a' h)
      · exact h
      · exact absurd hf (hl' at_ h)
    subst ha
    have HM1 := Lib.hid hm'
    have HP1 := Lib.hid hp'
    have hO1 : Obj_ w1 bs 0 22 (segV bk bm pl O x t a) := HH.out.obj.of_block (hp'.block bs HH.out.lt HH.out.nk HH.out.nt)
    have HS1 : Hid (SegAt w1 bs bk bt bm pl (setT T a' sl true) O x t a) := ⟨hO1, hm', HH.out.nk, HH.out.nt, h64, HH.out.shp.of_block (hp'.block bs HH.out.lt HH.out.nk HH.out.nt)⟩
    have HMM : Hid (MemAt w1 bm bb sz f) := HM.out.stays (hp'.block bm HM.out.lt_bm (hd bm (.inl rfl)).2.1 (hd bm (.inl rfl)).2.2) (hp'.block bb HM.out.lt_bb (hd bb (.inr rfl)).2.1 (hd bb (.inr rfl)).2.2)
    have c2 := HS1.out.c2
    have c1 := HS1.out.c1
    have HGA := Lib.hid (fun w => geoAddr_ok w pl a' (by omega) (by omega) (by omega) (by omega))
    clear hf' hl' hm' hp' HT c0 hO1
    go_wp2_with fail
    refine (HGA.out _).mono ?_
    rintro e w2 ⟨rfl, B2⟩
    obtain ⟨F, hF⟩ : ∃ F : Nat, F = pl * 16384 + a' * 1024 := ⟨_, rfl⟩
    have eF : (pl : Int) * 16384 + (a' : Int) * 1024 = (F : Int) := by omega
    rw [eF]
    have hN16 : N * 16 ≤ N * S := Nat.mul_le_mul_left _ hS
    have hF1 : F + N * S ≤ sz := by omega
    have hSN : 1 * S ≤ N * S := Nat.mul_le_mul_right _ hN
    have hRun : RunOk (F : Int) (S : Int) (N : Int) := by
      have e : ((N : Int) * (S : Int)) = ((N * S : Nat) : Int) := by rw [Int.natCast_mul]
      exact ⟨by omega, by omega, by omega, by omega, by omega, by omega, by rw [e]; omega⟩
    have HS2 := Lib.hid (HS1.out.below B2)
    have HMM2 := Lib.hid (HMM.out.below B2 (Nat.le_refl _))
    have HNEW := Lib.hid (pageNew_ok HMM2.out hRun (by omega) hS hN hF1)
    have HF := Lib.hid hF
    have HB2 := Lib.hid B2
    have d1 := HS2.out.c1
    clear B2 c1 c2 HGA eF hN16 hSN hRun HS1 HMM hF
    go_wp2_with fail
    (with_reducible refine HNEW.out.mono ?_)
    rintro e w3 ⟨bp, rfl, hbp, hpg, B3⟩
    have HS3 := Lib.hid (HS2.out.below B3)
    have HPG := Lib.hid hpg
    have HB3 := Lib.hid B3
    clear B3 hpg HNEW d1 HS2
    go_wp2_with fail
    obtain ⟨wA, hwA⟩ : ∃ wA, wA = w3.alloc (.cells #[.pointer (some ⟨bp, 0, none⟩), .int .i64 c, .int .i64 a', .int .i64 sl] 79) := ⟨_, rfl⟩
    obtain ⟨bo, hbo⟩ : ∃ bo, bo = w3.heap.size := ⟨_, rfl⟩
    have BA : Below w3.heap.size w3 wA := by rw [hwA]; exact (Below.refl _ _).alloc (Nat.le_refl _) _
    have HOW : Hid (OwnedAt wA bo bp c a' sl) := by
      rw [hwA, hbo]
      exact (Obj_.new w3 #[.pointer (some ⟨bp, 0, none⟩), .int .i64 c, .int .i64 a', .int .i64 sl] 79).congr (fun j hj => by
        rcases (show j = 0 ∨ j = 1 ∨ j = 2 ∨ j = 3 from by simp at hj; omega) with rfl | rfl | rfl | rfl <;> rfl)
    have hbsl := HS3.out.lt
    have hne : bs ≠ bo := by omega
    have HS4 := Lib.hid (HS3.out.below BA)
    have HP4 := Lib.hid (PageAt.below_ HPG.out BA)
    have HB4 := Lib.hid BA
    have SA : wA.heap.size = bo + 1 := by rw [hwA, hbo]; simp
    have HBO := Lib.hid hbo
    rw [← hwA, ← hbo]
    clear hwA hbo BA HS3
    have q0 : (1 : Int) ≤ (a' : Int) := by omega
    go_loopw [17] (fun i wr => ∃ k : Nat, a' ≤ k ∧ k ≤ a' + sl ∧ i = .int .i64 k ∧ Hid (Obj_ wr bs 0 22 (segV bk bm pl (setO O a' k (some bo)) x t a)) ∧ Hid (Only wA wr bs) ∧ Hid (Shp wr bs)) (fun i _ => a' + sl - (intOf i).toNat)
    case atStart => exact ⟨a', by omega, by omega, rfl, HS4.out.obj.congr (fun j hj => by
      congr 1
      funext i
      unfold setO
      rw [if_neg (by omega)]), Only.refl _ _, HS4.out.shp⟩
    case round =>
      obtain ⟨k, hk1, hk2, rfl, HO, HN, HSH⟩ := hrel
      by_cases hlt : k < a' + sl
      · have hk16 : k < 16 := by omega
        have cj := HO.out.cell (3 + k) (by omega)
        have zj := HO.out.frz (3 + k) (by omega)
        rw [Nat.zero_add] at cj zj
        obtain ⟨vv, hvv⟩ : ∃ vv, vv = segV bk bm pl (setO O a' k (some bo)) x t a (3 + k) := ⟨_, rfl⟩
        rw [← hvv] at cj
        have HO2 : Hid (Obj_ (wr.setCell ⟨bs, 3 + k, none⟩ (.pointer (some ⟨bo, 0, none⟩))) bs 0 22 (segV bk bm pl (setO O a' (k + 1) (some bo)) x t a)) := by
          have h := HO.out.set (i := 3 + k) (by omega) (.pointer (some ⟨bo, 0, none⟩))
          rw [Nat.zero_add] at h
          exact h.congr (fun j hj => segV_set a' k bo hk16 hk1 j hj)
        have HN2 : Hid (Only wA (wr.setCell ⟨bs, 3 + k, none⟩ (.pointer (some ⟨bo, 0, none⟩))) bs) := HN.out.set _ _
        have HSH2 : Hid (Shp (wr.setCell ⟨bs, 3 + k, none⟩ (.pointer (some ⟨bo, 0, none⟩))) bs) := HSH.out.set _ _ _
        clear HO HN HSH hvv
        go_wp2_with fail
        all_goals go_roundw
        case rel => exact ⟨k + 1, by omega, by omega, by go_num, HO2, HN2, HSH2⟩
        case measure => simp [intOf]; omega
      · obtain rfl : k = a' + sl := by omega
        go_wp2_with fail
        go_ret2
        have bl : ∀ q, q ≠ bs → q < wA.heap.size → wr.heap[q]? = wA.heap[q]? := fun q hq hl => HN.out.gr.block q hl (fun e => hq (Option.some.inj e))
        have hk := HS4.out.marks.lt_b
        have ht' := HS4.out.marks.lt_bt
        have hs3 : w3.heap.size ≤ wA.heap.size := HB4.out.size
        have hbp3 : bp < w3.heap.size := Obj_.lt HPG.out (by omega)
        have hsz : w.heap.size ≤ w3.heap.size := Nat.le_trans HP1.out.size (Nat.le_trans HB2.out.size HB3.out.size)
        have hw2 : w.heap.size ≤ w2.heap.size := Nat.le_trans HP1.out.size HB2.out.size
        have hlw := HH.out.lt
        refine ⟨bo, bp, rfl, by have := HBO.out; omega, by omega, by have := HBO.out; omega, ⟨HO.out, HS4.out.marks.stays (bl bk (Ne.symm HS4.out.nk) hk) (bl bt (Ne.symm HS4.out.nt) ht'), HS4.out.nk, HS4.out.nt, h64, HSH.out⟩, Obj_.of_block HOW.out (bl bo hne.symm (by omega)), ?_, ?_⟩
        · have h := HP4.out
          rw [HF.out] at h
          exact Obj_.of_block h (bl bp (by omega) (by omega))
        · refine ⟨HN.out.gr.os.trans (HB4.out.os.trans (HB3.out.os.trans (HB2.out.os.trans HP1.out.os))), HN.out.gr.tape.trans (HB4.out.tape.trans (HB3.out.tape.trans (HB2.out.tape.trans HP1.out.tape))), HN.out.gr.output.trans (HB4.out.output.trans (HB3.out.output.trans (HB2.out.output.trans HP1.out.output))), by have := HN.out.size; omega, fun q hq hn => ?_⟩
          have h1 := Nat.lt_of_lt_of_le hq HP1.out.size
          have h2 := Nat.lt_of_lt_of_le h1 HB2.out.size
          have h3 := Nat.lt_of_lt_of_le h2 HB3.out.size
          exact (bl q (fun e => hn (.inl e)) (by omega)).trans ((HB4.out.block q h3).trans ((HB3.out.block q h2).trans ((HB2.out.block q h1).trans (HP1.out.block q hq (fun e => hn (.inr (.inl e))) (fun e => hn (.inr (.inr e)))))))
  · exact absurd hf (hno at_)
end Go.Proofs.YtbljphaklciinaaGreat

/- Layer 10 (seg): add in whatever case; Page, Big. -/
namespace Go.Proofs.YtbljphaklciinaaGreat
open Go.RowKit
variable {w w' : World} {bs bk bt bm pl : Nat} {T : Nat → Bool} {O : Nat → Option Nat} {x t a : Int}

def newPg (F S N : Nat) : Pg := { f := F, s := S, n := N, made := 0, used := 0, free := [], loc := [], word := 0, tag := 0, asked := 0, head := 0 }

/-- What add leaves. -/
def SegTo (w : World) (bs bk bt bm pl : Nat) (T : Nat → Bool) (O : Nat → Option Nat) (x t a : Int) (c : Int) (sl S N : Nat) (e : Ending) (w' : World) : Prop :=
  (∃ at_ bo bp, FreeRow T 16 sl at_ ∧ (∀ j, j < at_ → ¬ FreeRow T 16 sl j) ∧ 1 ≤ at_ ∧ e = .returned (.tuple #[.pointer (some ⟨bo, 0, none⟩), .int .i64 0]) ∧ w.heap.size ≤ bo ∧ w.heap.size ≤ bp ∧ bo ≠ bp ∧
    SegAt w' bs bk bt bm pl (setT T at_ sl true) (setO O at_ (at_ + sl) (some bo)) x t a ∧ OwnedAt w' bo bp c at_ sl ∧ PageAt w' bp bm (newPg (pl * 16384 + at_ * 1024) S N) ∧ Fr w w' (sgS bs bk bt)) ∨
  ((∀ q, ¬ FreeRow T 16 sl q) ∧ e = .returned (.tuple #[.pointer none, .int .i64 4]) ∧ SegAt w' bs bk bt bm pl T O x t a ∧ Below w.heap.size w w')

theorem SegTo.over {w0 w : World} {c : Int} {sl S N : Nat} {e : Ending} {w' : World} (hb : Below w0.heap.size w0 w) (h : SegTo w bs bk bt bm pl T O x t a c sl S N e w') : SegTo w0 bs bk bt bm pl T O x t a c sl S N e w' := by
  rcases h with ⟨at_, bo, bp, h1, h2, h3, h4, h5, h6, h7, h8, h9, h10, h11⟩ | ⟨h1, h2, h3, h4⟩
  · exact .inl ⟨at_, bo, bp, h1, h2, h3, h4, Nat.le_trans hb.size h5, Nat.le_trans hb.size h6, h7, h8, h9, h10, (Fr.of_below hb (sgS bs bk bt)).trans h11 (fun k hk => .inl hk)⟩
  · exact .inr ⟨h1, h2, h3, hb.trans (h4.mono hb.size)⟩

set_option maxRecDepth 100000 in
set_option maxHeartbeats 2000000 in
theorem segAdd_full {S N sl : Nat} {c : Int} (h : SegAt w bs bk bt bm pl T O x t a) (hs1 : 1 ≤ sl) (hs2 : sl ≤ 15) (hno : ∀ q, ¬ FreeRow T 16 sl q) :
    Calls Tryz.prog 122 #[.pointer (some ⟨bs, 0, none⟩), .int .i64 c, .int .i64 sl, .int .u64 S, .int .i64 N] w fun e w' => e = .returned (.tuple #[.pointer none, .int .i64 4]) ∧ SegAt w' bs bk bt bm pl T O x t a ∧ Below w.heap.size w w' := by
  have HH := Lib.hid h
  have c0 := h.c0
  have HT := Lib.hid (marksTake h.marks sl hs1 (by omega))
  clear h
  go_enter Tryz.func122, Tryz.ntmps122
  go_wp2_with fail
  (with_reducible refine HT.out.mono ?_)
  rintro e w1 (⟨a', hf', _⟩ | ⟨_, rfl, hm, hb⟩)
  · exact absurd hf' (hno a')
  · have HB := Lib.hid hb
    clear hm hb HT c0
    go_wp2_with fail
    go_ret2
    exact ⟨rfl, HH.out.below HB.out, HB.out⟩

theorem freeRow_or (T : Nat → Bool) (n run : Nat) : (∃ a, FreeRow T n run a ∧ ∀ j, j < a → ¬ FreeRow T n run j) ∨ ∀ q, ¬ FreeRow T n run q := by
  by_cases h : ∃ a, FreeRow T n run a
  · obtain ⟨a, ha⟩ := h
    left
    induction a using Nat.strongRecOn with
    | _ a ih =>
      by_cases hm : ∃ j, j < a ∧ FreeRow T n run j
      · obtain ⟨j, hj, hf⟩ := hm
        exact ih j hj hf
      · exact ⟨a, ha, fun j hj hf => hm ⟨j, hj, hf⟩⟩
  · exact .inr fun q hq => h ⟨q, hq⟩

theorem segAdd_any {bb sz S N sl : Nat} {c : Int} {f : Nat → Nat} (h : SegAt w bs bk bt bm pl T O x t a) (M : MemAt w bm bb sz f) (hd : ∀ k, k = bm ∨ k = bb → k ≠ bs ∧ k ≠ bk ∧ k ≠ bt) (hpl : (pl + 1) * 16384 ≤ sz) (hs1 : 1 ≤ sl) (hs2 : sl ≤ 15)
    (hS : 16 ≤ S) (hN : 1 ≤ N) (hNS : N * S ≤ sl * 1024) (hT : T 0 = true) :
    Calls Tryz.prog 122 #[.pointer (some ⟨bs, 0, none⟩), .int .i64 c, .int .i64 sl, .int .u64 S, .int .i64 N] w (SegTo w bs bk bt bm pl T O x t a c sl S N) := by
  rcases freeRow_or T 16 sl with ⟨at_, hf, hlow⟩ | hno
  · have h0 : 1 ≤ at_ := by
      rcases Nat.eq_zero_or_pos at_ with rfl | h
      · have := hf.2 0 (by omega)
        rw [Nat.zero_add, hT] at this
        cases this
      · exact h
    exact (segAdd_ok h M hd hpl hs1 hs2 hS hN hNS hf hlow h0).mono fun e w' ⟨bo, bp, h1, h2, h3, h4, h5, h6, h7, h8⟩ => .inl ⟨at_, bo, bp, hf, hlow, h0, h1, h2, h3, h4, h5, h6, h7, h8⟩
  · exact (segAdd_full h hs1 hs2 hno).mono fun e w' ⟨h1, h2, h3⟩ => .inr ⟨hno, h1, h2, h3⟩

theorem class_fits {c : Nat} (h : c < 12) : 1 ≤ sls.getD c 0 ∧ sls.getD c 0 ≤ 4 ∧ 16 ≤ szs.getD c 0 ∧ 1 ≤ blks.getD c 0 ∧ blks.getD c 0 * szs.getD c 0 ≤ sls.getD c 0 * 1024 := by
  rcases (show c = 0 ∨ c = 1 ∨ c = 2 ∨ c = 3 ∨ c = 4 ∨ c = 5 ∨ c = 6 ∨ c = 7 ∨ c = 8 ∨ c = 9 ∨ c = 10 ∨ c = 11 by omega) with rfl | rfl | rfl | rfl | rfl | rfl | rfl | rfl | rfl | rfl | rfl | rfl <;> decide

set_option maxRecDepth 100000 in
set_option maxHeartbeats 2000000 in
/-- A page of a class. -/
theorem segPage {bb sz c : Nat} {f : Nat → Nat} (h : SegAt w bs bk bt bm pl T O x t a) (M : MemAt w bm bb sz f) (hd : ∀ k, k = bm ∨ k = bb → k ≠ bs ∧ k ≠ bk ∧ k ≠ bt) (hpl : (pl + 1) * 16384 ≤ sz) (hT : T 0 = true) (hc : c < 12) :
    Calls Tryz.prog 94 #[.pointer (some ⟨bs, 0, none⟩), .int .i64 c] w (SegTo w bs bk bt bm pl T O x t a c (sls.getD c 0) (szs.getD c 0) (blks.getD c 0)) := by
  have HH := Lib.hid h
  have HM := Lib.hid M
  have HZ := Lib.hid (fun w => size_ok w c hc)
  have HL := Lib.hid (fun w => slices_ok w c hc)
  have HK := Lib.hid (fun w => blocks_ok w c hc)
  obtain ⟨f1, f2, f3, f4, f5⟩ := class_fits hc
  clear h M
  generalize sls.getD c 0 = sl at *
  generalize szs.getD c 0 = S at *
  generalize blks.getD c 0 = N at *
  go_enter Tryz.func94, Tryz.ntmps94
  go_wp2_with fail
  (with_reducible refine (HZ.out _).mono ?_)
  rintro e w1 ⟨rfl, B1⟩
  have HB1 := Lib.hid B1
  clear B1
  go_wp2_with fail
  (with_reducible refine (HL.out _).mono ?_)
  rintro e w2 ⟨rfl, B2⟩
  have HB2 : Hid (Below w.heap.size w w2) := HB1.out.trans (B2.mono HB1.out.size)
  clear B2
  go_wp2_with fail
  (with_reducible refine (HK.out _).mono ?_)
  rintro e w3 ⟨rfl, B3⟩
  have HB3 : Hid (Below w.heap.size w w3) := HB2.out.trans (B3.mono HB2.out.size)
  clear B3
  go_wp2_with fail
  have HADD := Lib.hid (segAdd_any (c := (c : Int)) (HH.out.below HB3.out) (HM.out.below HB3.out (Nat.le_refl _)) hd hpl f1 (by omega) f3 f4 f5 hT)
  (with_reducible refine HADD.out.mono ?_)
  intro e w4 h4
  have h5 := h4.over HB3.out
  clear h4 HADD
  rcases h5 with ⟨at_, bo, bp, h1, h2, h3, rfl, h⟩ | ⟨h1, rfl, h⟩
  · have HX := Lib.hid h
    clear h
    go_wp2_with fail
    go_ret2
    exact .inl ⟨at_, bo, bp, h1, h2, h3, rfl, HX.out⟩
  · have HX := Lib.hid h
    clear h
    go_wp2_with fail
    go_ret2
    exact .inr ⟨h1, rfl, HX.out⟩

set_option maxRecDepth 100000 in
set_option maxHeartbeats 2000000 in
/-- A page of one block alone. -/
theorem segBig {bb sz sl : Nat} {f : Nat → Nat} (h : SegAt w bs bk bt bm pl T O x t a) (M : MemAt w bm bb sz f) (hd : ∀ k, k = bm ∨ k = bb → k ≠ bs ∧ k ≠ bk ∧ k ≠ bt) (hpl : (pl + 1) * 16384 ≤ sz) (hT : T 0 = true) (h1 : 1 ≤ sl) (h2 : sl ≤ 15) :
    Calls Tryz.prog 93 #[.pointer (some ⟨bs, 0, none⟩), .int .i64 sl] w (SegTo w bs bk bt bm pl T O x t a (-1) sl (sl * 1024) 1) := by
  have HADD := Lib.hid (segAdd_any (c := (-1 : Int)) (S := sl * 1024) (N := 1) h M hd hpl h1 h2 (by omega) (by omega) (by omega) hT)
  have HADD2 : Hid (Calls Tryz.prog 122 #[.pointer (some ⟨bs, 0, none⟩), .int .i64 (-1), .int .i64 sl, .int .u64 ((sl : Int) * 1024), .int .i64 1] w (SegTo w bs bk bt bm pl T O x t a (-1) sl (sl * 1024) 1)) := by
    have e : ((sl * 1024 : Nat) : Int) = (sl : Int) * 1024 := by omega
    have h := HADD.out
    rw [e] at h
    exact h
  clear h M HADD
  go_enter Tryz.func93, Tryz.ntmps93
  go_wp2_with fail
  (with_reducible refine HADD2.out.mono ?_)
  intro e w4 h5
  clear HADD2
  rcases h5 with ⟨at_, bo, bp, h1, h2, h3, rfl, h⟩ | ⟨h1, rfl, h⟩
  · have HX := Lib.hid h
    clear h
    go_wp2_with fail
    go_ret2
    exact .inl ⟨at_, bo, bp, h1, h2, h3, rfl, HX.out⟩
  · have HX := Lib.hid h
    clear h
    go_wp2_with fail
    go_ret2
    exact .inr ⟨h1, rfl, HX.out⟩
end Go.Proofs.YtbljphaklciinaaGreat

/- Layer 9 (page): what holds of a page and its bytes; Alloc and Free of a page, in one law each. -/
namespace Go.Proofs.YtbljphaklciinaaGreat
open Go.RowKit

structure PgInv (f : Nat → Nat) (sz : Nat) (p : Pg) : Prop where
  run : RunOk (p.f : Int) (p.s : Int) (p.n : Int)
  fit : p.f + p.n * p.s ≤ sz
  s16 : 16 ≤ p.s
  f0 : 0 < p.f
  mn : p.made ≤ p.n
  fc : Chain f (p.free.headD 0) p.free
  lc : Chain f (p.loc.headD 0) p.loc
  blk : ∀ a ∈ p.free ++ p.loc, ∃ i, i < p.made ∧ a = p.f + i * p.s
  nd : (p.free ++ p.loc).Nodup
  us : p.used + (p.free ++ p.loc).length = p.made

variable {f g : Nat → Nat} {sz : Nat} {p : Pg}

theorem PgInv.n1 (h : PgInv f sz p) : p.n ≤ 1024 := by have := h.run.n1; omega
theorem PgInv.in_ (h : PgInv f sz p) {i : Nat} (hi : i < p.n) : p.f + i * p.s + p.s ≤ p.f + p.n * p.s := by
  have h1 : (i + 1) * p.s ≤ p.n * p.s := Nat.mul_le_mul_right _ hi
  rw [Nat.succ_mul] at h1
  omega
theorem PgInv.a8 (h : PgInv f sz p) {a : Nat} (ha : a ∈ p.free ++ p.loc) : p.f ≤ a ∧ a + 8 ≤ p.f + p.n * p.s := by
  obtain ⟨i, hi, rfl⟩ := h.blk a ha
  have := h.in_ (Nat.lt_of_lt_of_le hi h.mn)
  have := h.s16
  omega

theorem PgInv.congr (h : PgInv f sz p) (e : ∀ j, p.f ≤ j → j < p.f + p.n * p.s → g j = f j) : PgInv g sz p := by
  have hw : ∀ a ∈ p.free ++ p.loc, word g a = word f a := fun a ha => word_congr fun j h1 h2 => e j (by have := h.a8 ha; omega) (by have := h.a8 ha; omega)
  exact { h with fc := h.fc.congr (fun a ha => hw a (List.mem_append_left _ ha)), lc := h.lc.congr (fun a ha => hw a (List.mem_append_right _ ha)) }

theorem linkAll_far {f : Nat → Nat} {j : Nat} : ∀ {L : List Nat}, (∀ a ∈ L, j < a ∨ a + 8 ≤ j) → linkAll f L j = f j
  | [], _ => rfl
  | a :: r, h => by
    show putW (linkAll f r) a (r.headD 0) j = f j
    unfold putW
    rw [if_neg (by have := h a (by simp); omega)]
    exact linkAll_far (fun x hx => h x (by simp [hx]))

theorem mul_apart {s i j : Nat} (h : i < j) : i * s + s ≤ j * s := by
  have := Nat.mul_le_mul_right s (show i + 1 ≤ j by omega)
  rwa [Nat.succ_mul] at this

theorem addrs_nodup {p : Pg} {i k : Nat} (h : 0 < p.s) : (addrs p i k).Nodup := by
  unfold addrs
  rw [List.Nodup, List.pairwise_map]
  refine List.pairwise_lt_range.imp (fun {x y} hxy => ?_)
  have := mul_apart (s := p.s) (show i + x < i + y by omega)
  omega

/-- What Alloc leaves of a page. -/
structure PgGot (f : Nat → Nat) (sz : Nat) (p : Pg) (f' : Nat → Nat) (p' : Pg) (a : Nat) : Prop where
  inv : PgInv f' sz p'
  far : ∀ j, j < p.f ∨ p.f + p.n * p.s ≤ j → f' j = f j
  sf : p'.f = p.f
  ss : p'.s = p.s
  sn : p'.n = p.n
  sw : p'.word = p.word ∧ p'.tag = p.tag ∧ p'.asked = p.asked ∧ p'.head = p.head
  used : p'.used = p.used + 1
  blk : ∃ i, i < p'.made ∧ a = p.f + i * p.s
  more_ : p.made ≤ p'.made
  new : a ∈ p.free ++ p.loc ∨ p.made * p.s ≤ a - p.f
  out : a ∉ p'.free ++ p'.loc
  sub : ∀ x ∈ p'.free ++ p'.loc, x ∈ p.free ++ p.loc ∨ p.f + p.made * p.s ≤ x
  low : ∀ j, j < p.f + p.made * p.s → f' j = f j

theorem PgGot.free (h : PgInv f sz p) {a : Nat} {r : List Nat} (hf : p.free = a :: r) : PgGot f sz p f { p with free := r, used := p.used + 1 } a := by
  have hb := h.blk
  have hn := h.nd
  have hc := h.fc
  have hu := h.us
  rw [hf] at hb hn hc hu
  obtain ⟨i, hi, e⟩ := hb a (by simp)
  have hn2 := List.nodup_cons.1 (show (a :: (r ++ p.loc)).Nodup from hn)
  refine ⟨{ h with fc := ?_, blk := fun x hx => hb x (by simp only [List.cons_append, List.mem_cons]; exact .inr hx), nd := hn2.2, us := ?_ }, fun _ _ => rfl, rfl, rfl, rfl, ⟨rfl, rfl, rfl, rfl⟩, rfl, ⟨i, hi, e⟩, Nat.le_refl _, .inl (by rw [hf]; simp), hn2.1, fun x hx => .inl (by rw [hf]; simp only [List.cons_append, List.mem_cons]; exact .inr hx), fun _ _ => rfl⟩
  · have := hc.2.2
    rw [← this.head]
    exact this
  · simp at hu ⊢
    omega

theorem PgGot.loc (h : PgInv f sz p) {a : Nat} {r : List Nat} (hf : p.free = []) (hl : p.loc = a :: r) : PgGot f sz p f { p with free := r, loc := [], used := p.used + 1 } a := by
  have hb := h.blk
  have hn := h.nd
  have hc := h.lc
  have hu := h.us
  rw [hf, hl] at hb hn hu
  rw [hl] at hc
  obtain ⟨i, hi, e⟩ := hb a (by simp)
  have hn2 := List.nodup_cons.1 (show (a :: r).Nodup from hn)
  refine ⟨{ h with fc := ?_, lc := rfl, blk := fun x hx => hb x (by simp at hx; simp [hx]), nd := by simpa using hn2.2, us := ?_ }, fun _ _ => rfl, rfl, rfl, rfl, ⟨rfl, rfl, rfl, rfl⟩, rfl, ⟨i, hi, e⟩, Nat.le_refl _, .inl (by rw [hf, hl]; simp), by simpa using hn2.1, fun x hx => .inl (by rw [hf, hl]; simp at hx; simp [hx]), fun _ _ => rfl⟩
  · have := hc.2.2
    rw [← this.head]
    exact this
  · simp at hu ⊢
    omega

theorem PgGot.more (h : PgInv f sz p) (hsz : sz ≤ 1048576) {k : Nat} (hf : p.free = []) (hl : p.loc = []) (hk0 : 0 < k) (hk : p.made + k ≤ p.n) :
    PgGot f sz p (linkAll f (addrs p p.made k)) { p with made := p.made + k, used := p.used + 1, free := (addrs p p.made k).drop 1 } (p.f + p.made * p.s) := by
  have h16 := h.s16
  have hu := h.us
  rw [hf, hl] at hu
  have hmem : ∀ x ∈ addrs p p.made k, p.f + p.made * p.s ≤ x ∧ x + 8 ≤ p.f + p.n * p.s ∧ ∃ i, i < p.made + k ∧ x = p.f + i * p.s := fun x hx => by
    obtain ⟨j, hj, rfl⟩ := addrs_mem hx
    have h1 := h.in_ (i := p.made + j) (by omega)
    have h2 : p.made * p.s ≤ (p.made + j) * p.s := Nat.mul_le_mul_right _ (by omega)
    exact ⟨by omega, by omega, p.made + j, by omega, rfl⟩
  have hcons : addrs p p.made k = (p.f + p.made * p.s) :: (addrs p p.made k).drop 1 := by
    have := addrs_drop (p := p) (i := p.made) (k := k) (j := 0) hk0
    simpa using this
  have hch : Chain (linkAll f (addrs p p.made k)) ((addrs p p.made k).headD 0) (addrs p p.made k) := linkAll_chain (addrs_apart (by omega)) (fun a ha => by have := hmem a ha; have := h.fit; have := h.f0; omega)
  have hnd := addrs_nodup (p := p) (i := p.made) (k := k) (by omega)
  have hdm : ∀ x ∈ (addrs p p.made k).drop 1, x ∈ addrs p p.made k := fun x hx => List.mem_of_mem_drop hx
  refine ⟨{ run := h.run, fit := h.fit, s16 := h.s16, f0 := h.f0, mn := hk, fc := ?_, lc := ?_, blk := fun x hx => ?_, nd := ?_, us := ?_ }, fun j hj => linkAll_far fun a ha => by have := hmem a ha; omega, rfl, rfl, rfl, ⟨rfl, rfl, rfl, rfl⟩, rfl, ⟨p.made, by show p.made < p.made + k; omega, rfl⟩, Nat.le_add_right _ _, .inr (by omega), ?_, fun x hx => ?_, fun j hj => linkAll_far fun a ha => .inl (by have := hmem a ha; omega)⟩
  · rw [hcons] at hch
    have := hch.2.2
    rw [← hcons] at this
    show Chain _ (((addrs p p.made k).drop 1).headD 0) _
    rw [← this.head]
    exact this
  · show Chain _ (p.loc.headD 0) p.loc
    rw [hl]
    rfl
  · simp only [hl, List.append_nil] at hx
    exact (hmem x (hdm x hx)).2.2
  · simp only [hl, List.append_nil]
    exact hnd.sublist (List.drop_sublist _ _)
  · simp only [hl, List.append_nil, List.length_drop, addrs_len]
    simp at hu
    omega
  · simp only [hl, List.append_nil]
    intro hx
    rw [hcons] at hnd
    exact (List.nodup_cons.1 hnd).1 hx
  · simp only [hl, List.append_nil] at hx
    exact .inr (hmem x (hdm x hx)).1
end Go.Proofs.YtbljphaklciinaaGreat

/- Layer 9 (page): Alloc and Free by the page's invariant. -/
namespace Go.Proofs.YtbljphaklciinaaGreat
open Go.RowKit
variable {f g : Nat → Nat} {sz : Nat} {p : Pg}

theorem MemAt.pfr {w w' : World} {b bm bb : Nat} (M : MemAt w bm bb sz f) (hg : w.grownBy w' (some b)) (hb : b ≠ bb) (hbm : b ≠ bm) : MemAt w' bm bb sz f :=
  M.stays (hg.block bm M.lt_bm (fun e => hbm (Option.some.inj e).symm)) (hg.block bb M.lt_bb (fun e => hb (Option.some.inj e).symm))

theorem pageAlloc_any {w : World} {b bm bb : Nat} (H : PageAt w b bm p) (M : MemAt w bm bb sz f) (I : PgInv f sz p) (hb : b ≠ bb) (hbm : b ≠ bm) :
    Calls Tryz.prog 43 #[.pointer (some ⟨b, 0, none⟩)] w fun e w' =>
      (∃ f' p' a, e = .returned (.tuple #[.int .u64 (a : Nat), .int .i64 0]) ∧ PgGot f sz p f' p' a ∧ PageAt w' b bm p' ∧ MemAt w' bm bb sz f' ∧ PFr w w' b bb) ∨
      (e = .returned (.tuple #[.int .u64 0, .int .i64 4]) ∧ p.free = [] ∧ p.loc = [] ∧ p.made = p.n ∧ PageAt w' b bm p ∧ MemAt w' bm bb sz f ∧ PFr w w' b bb) := by
  have hn1 := I.n1
  have hmn := I.mn
  have hus := I.us
  rw [List.length_append] at hus
  have h16 := I.s16
  have hfit := I.fit
  have hs1 := M.s1
  rcases hf : p.free with _ | ⟨a, r⟩
  · rcases hl : p.loc with _ | ⟨a, r⟩
    · by_cases hm : p.made = p.n
      · exact (pageAlloc_full H M hb hbm hf hl I.run I.fit (by omega) I.f0 hm).mono fun e w' ⟨h1, h2, h3, h4⟩ => .inr ⟨h1, rfl, rfl, hm, h2, h3, h4⟩
      · refine (pageAlloc_more H M hb hbm hf hl I.run I.fit (by omega) I.f0 (by omega) (by omega) rfl).mono fun e w' ⟨h1, h2, h3, h4⟩ => .inl ⟨_, _, _, h1, PgGot.more I hs1 hf hl (by omega) (by omega), h2, h3, h4⟩
    · have ha := I.a8 (a := a) (by rw [hf, hl]; simp)
      have hc := I.lc
      rw [hl] at hc
      refine (pageAlloc_loc H M hb hbm hf hl hc (by omega) hn1 (by omega) (by omega)).mono fun e w' ⟨h1, h2, h3⟩ => .inl ⟨_, _, _, h1, PgGot.loc I hf hl, h2, M.pfr h3 hb hbm, PFr.grown h3⟩
  · have ha := I.a8 (a := a) (by rw [hf]; simp)
    have hc := I.fc
    rw [hf] at hc
    refine (pageAlloc_free H M hb hf hc (by omega) hn1 (by omega) (by omega)).mono fun e w' ⟨h1, h2, h3⟩ => .inl ⟨_, _, _, h1, PgGot.free I hf, h2, M.pfr h3 hb hbm, PFr.grown h3⟩

theorem nodup_bound : ∀ (n : Nat) (l : List Nat), l.Nodup → (∀ x ∈ l, x < n) → l.length ≤ n
  | 0, l, _, h => by
    cases l with
    | nil => simp
    | cons x r => have := h x (by simp); omega
  | n + 1, l, hn, h => by
    by_cases hm : n ∈ l
    · have h1 := nodup_bound n (l.erase n) (hn.erase n) (fun x hx => by
        have h2 := h x (List.mem_of_mem_erase hx)
        have h3 : x ≠ n := fun e => by
          subst e
          exact (List.Nodup.not_mem_erase hn) hx
        omega)
      rw [List.length_erase_of_mem hm] at h1
      omega
    · have h1 := nodup_bound n l hn (fun x hx => by
        have := h x hx
        have h3 : x ≠ n := fun e => hm (e ▸ hx)
        omega)
      omega

/-- A block that is used: one is. -/
theorem PgInv.used_pos (h : PgInv f sz p) {i : Nat} (hi : i < p.made) (ho : p.f + i * p.s ∉ p.free ++ p.loc) : 0 < p.used := by
  have h16 := h.s16
  have hn : ((p.f + i * p.s) :: (p.free ++ p.loc)).Nodup := List.nodup_cons.2 ⟨ho, h.nd⟩
  have hall : ∀ x ∈ (p.f + i * p.s) :: (p.free ++ p.loc), ∃ j, j < p.made ∧ x = p.f + j * p.s := fun x hx => by
    rcases List.mem_cons.1 hx with rfl | hx
    · exact ⟨i, hi, rfl⟩
    · exact h.blk x hx
  have hinj : ∀ {x y : Nat}, x ∈ (p.f + i * p.s) :: (p.free ++ p.loc) → y ∈ (p.f + i * p.s) :: (p.free ++ p.loc) → (x - p.f) / p.s = (y - p.f) / p.s → x = y := by
    intro x y hx hy e
    obtain ⟨j, _, rfl⟩ := hall x hx
    obtain ⟨k, _, rfl⟩ := hall y hy
    rw [Nat.add_sub_cancel_left, Nat.add_sub_cancel_left, Nat.mul_div_cancel _ (by omega), Nat.mul_div_cancel _ (by omega)] at e
    rw [e]
  have h1 := nodup_bound p.made (((p.f + i * p.s) :: (p.free ++ p.loc)).map fun x => (x - p.f) / p.s) (by
    rw [List.Nodup, List.pairwise_map]
    exact List.Pairwise.imp_of_mem (fun hx hy hne e => hne (hinj hx hy e)) hn) (fun x hx => by
    obtain ⟨y, hy, rfl⟩ := List.mem_map.1 hx
    obtain ⟨j, hj, rfl⟩ := hall y hy
    rw [Nat.add_sub_cancel_left, Nat.mul_div_cancel _ (by omega)]
    exact hj)
  have := h.us
  simp only [List.length_map, List.length_cons] at h1
  omega

theorem givV_ok (h : PgInv f sz p) {i : Nat} (hi : i < p.made) : givV p (p.f + i * p.s) = 0 := by
  have h16 := h.s16
  have h1 := h.in_ (Nat.lt_of_lt_of_le hi h.mn)
  have e : idxV p.f p.s p.n ((p.f + i * p.s : Nat) : Int) = ((i : Int), 0) := by
    unfold idxV
    have e1 : (((p.f + i * p.s : Nat) : Int) - (p.f : Int)) = ((i * p.s : Nat) : Int) := by omega
    have e2 : ((p.n : Int) * (p.s : Int)) = ((p.n * p.s : Nat) : Int) := by rw [Int.natCast_mul]
    rw [if_neg (by rw [e2]; omega), e1]
    have e3 : ((i * p.s : Nat) : Int) % (p.s : Int) = 0 := by rw [← Int.natCast_emod, Nat.mul_mod_left]; rfl
    have e4 : ((i * p.s : Nat) : Int) / (p.s : Int) = (i : Int) := by rw [← Int.natCast_ediv, Nat.mul_div_cancel _ (by omega)]
    rw [if_pos e3, e4]
  unfold givV
  rw [e]
  simp
  omega

/-- What Free leaves of a page. -/
theorem PgInv.freed (h : PgInv f sz p) (hsz : sz ≤ 1048576) {i : Nat} (hi : i < p.made) (ho : p.f + i * p.s ∉ p.free ++ p.loc) :
    PgInv (putW f (p.f + i * p.s) (p.loc.headD 0)) sz { p with used := p.used - 1, loc := (p.f + i * p.s) :: p.loc } ∧ (∀ j, j < p.f ∨ p.f + p.n * p.s ≤ j → putW f (p.f + i * p.s) (p.loc.headD 0) j = f j) := by
  have h16 := h.s16
  have h1 := h.in_ (Nat.lt_of_lt_of_le hi h.mn)
  have hu := h.used_pos hi ho
  have hfit := h.fit
  have hap : ∀ x ∈ p.free ++ p.loc, x + 8 ≤ p.f + i * p.s ∨ p.f + i * p.s + 8 ≤ x := fun x hx => by
    obtain ⟨j, _, rfl⟩ := h.blk x hx
    rcases Nat.lt_trichotomy j i with e | e | e
    · have := mul_apart (s := p.s) e; omega
    · subst e; exact absurd hx ho
    · have := mul_apart (s := p.s) e; omega
  have hhd : p.loc.headD 0 < 18446744073709551616 := by
    rcases hl : p.loc with _ | ⟨x, r⟩
    · simp
    · have := h.a8 (a := x) (by rw [hl]; simp)
      simp
      omega
  refine ⟨⟨h.run, h.fit, h.s16, h.f0, h.mn, h.fc.put (fun x hx => hap x (List.mem_append_left _ hx)), ?_, fun x hx => ?_, ?_, ?_⟩, fun j hj => ?_⟩
  · exact h.lc.cons (by have := h.f0; omega) hhd (fun x hx => hap x (List.mem_append_right _ hx))
  · simp only [List.mem_append, List.mem_cons] at hx
    rcases hx with hx | rfl | hx
    · exact h.blk x (List.mem_append_left _ hx)
    · exact ⟨i, hi, rfl⟩
    · exact h.blk x (List.mem_append_right _ hx)
  · have h2 := h.nd
    simp only [List.mem_append, not_or] at ho
    rw [List.nodup_append] at h2 ⊢
    refine ⟨h2.1, List.nodup_cons.2 ⟨ho.2, h2.2.1⟩, fun x hx y hy => ?_⟩
    rcases List.mem_cons.1 hy with rfl | hy
    · exact fun e => ho.1 (e ▸ hx)
    · exact h2.2.2 x hx y hy
  · have := h.us
    simp only [List.length_append, List.length_cons] at this ⊢
    omega
  · unfold putW
    rw [if_neg (by omega)]
end Go.Proofs.YtbljphaklciinaaGreat
