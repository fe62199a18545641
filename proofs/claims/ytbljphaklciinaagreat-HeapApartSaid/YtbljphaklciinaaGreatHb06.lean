/- Walks of the program's functions, and plain laws on what they compute, text by text (SlInts, QueueW, QueueH, QueueP, QueueS, SlInts2, QueueR, HeapW, QOnce, Heap). No condition. -/
import Derived.Test.YtbljphaklciinaaGreatHb05
import Derived.Laws.AppendOwnNone
import Derived.Lib.AppendZeros

/- slices.Index, slices.Contains, slices.Delete (of one), slices.Clone, at []int, walked. -/
namespace Go.Proofs.YtbljphaklciinaaGreat
open Go.RowKit

/-- Where a number stands; below 0: nowhere. -/
def idx : List Int → Int → Int
  | [], _ => -1
  | y :: l, x => if y = x then 0 else if idx l x < 0 then -1 else idx l x + 1

theorem idx_lo (l : List Int) (x : Int) : -1 ≤ idx l x := by
  induction l with
  | nil => simp [idx]
  | cons y l ih => simp only [idx]; split <;> (try split) <;> omega
theorem idx_neg {l : List Int} {x : Int} : idx l x < 0 ↔ x ∉ l := by
  induction l with
  | nil => simp [idx]
  | cons y l ih =>
    simp only [idx, List.mem_cons, not_or]
    by_cases h : y = x
    · simp [h]
    · rw [if_neg h]
      have h' : ¬ x = y := fun e => h e.symm
      by_cases hi : idx l x < 0
      · simp [hi, h', ih.1 hi]
      · rw [if_neg hi]
        constructor
        · intro h1; omega
        · intro ⟨_, h2⟩; exact absurd (ih.2 h2) hi
/-- What a search from the left comes to. -/
theorem idx_at {l : List Int} {x : Int} {k : Nat} (hk : l[k]? = some x) (hb : ∀ j, j < k → l[j]? ≠ some x) : idx l x = k := by
  induction l generalizing k with
  | nil => simp at hk
  | cons y l ih =>
    simp only [idx]
    cases k with
    | zero =>
      simp at hk
      simp [hk]
    | succ k =>
      have hy : y ≠ x := fun e => hb 0 (by omega) (by simp [e])
      have h1 := ih (k := k) (by simpa using hk) (fun j hj => by have := hb (j + 1) (by omega); simpa using this)
      rw [if_neg hy, h1, if_neg (by omega)]
      omega
theorem idx_none {l : List Int} {x : Int} (hb : ∀ j, j < l.length → l[j]? ≠ some x) : idx l x = -1 := by
  have h : x ∉ l := fun hm => by
    obtain ⟨j, hj, e⟩ := List.mem_iff_getElem.1 hm
    exact hb j hj (by rw [List.getElem?_eq_getElem hj, e])
  have := idx_neg.2 h
  have := idx_lo l x
  omega

/-- A row of ints as a slice of whatever place. -/
def IntRow (w : World) (B : Nat) (A : Option Addr) (n : Nat) (l : List Int) : Prop := Reads w B 1 A n (l.map (.int .i64))

theorem IntRow.len {w : World} {B : Nat} {A : Option Addr} {n : Nat} {l : List Int} (h : IntRow w B A n l) : n = l.length := by
  have := h.1
  simpa using this.symm

theorem IntRow.at_ {w : World} {B : Nat} {A : Option Addr} {n : Nat} {l : List Int} (h : IntRow w B A n l) (hA : ∀ ad, A = some ad → ad.spot = none) {k : Nat} (hk : k < n) :
    ∃ g off x, A = some ⟨g, off, none⟩ ∧ l[k]? = some x ∧ w.cell? ⟨g, off + k, none⟩ = some (.int .i64 x) := by
  obtain ⟨ad, u, rfl, _, hx, hc⟩ := Reads.at_ h hk
  obtain ⟨g, off, spot⟩ := ad
  have hs := hA _ rfl
  simp only at hs
  subst hs
  rw [List.getElem?_map] at hx
  cases hl : l[k]? with
  | none => rw [hl] at hx; simp at hx
  | some x =>
    rw [hl] at hx
    simp at hx
    subst hx
    refine ⟨g, off, x, rfl, rfl, ?_⟩
    rw [← hc]
    congr 1
    unfold Addr.add
    split
    · rename_i h0; simp [h0]
    · rfl

set_option maxHeartbeats 1000000 in
theorem index_ints (w : World) (B : Nat) (A : Option Addr) (n c : Nat) (l : List Int) (x : Int) (H : IntRow w B A n l) (hA : ∀ ad, A = some ad → ad.spot = none) (hn : n ≤ 9223372036854775807) :
    Calls Tryz.prog 112 #[.slice A n c, .int .i64 x] w fun e w' => e = .returned (.int .i64 (idx l x)) ∧ w = w' := by
  have HH := Lib.hid H
  have HA := Lib.hid hA
  have hl := H.len
  have HL := Lib.hid hl
  clear hl hA H
  go_enter Tryz.func112, Tryz.ntmps112
  go_wp2_with fail
  go_loop [8] (fun i => ∃ k : Nat, k ≤ n ∧ i = .int .i64 k ∧ Hid (∀ j, j < k → l[j]? ≠ some x)) (fun i => n - (intOf i).toNat)
  case atStart => exact ⟨0, by omega, rfl, fun j hj => by omega⟩
  case round =>
    obtain ⟨k, hk, rfl, hb⟩ := hrel
    by_cases hlt : k < n
    · obtain ⟨g, off, y, rfl, hy, hc⟩ := HH.out.at_ HA.out hlt
      by_cases hxy : x = y
      · have HE := Lib.hid (idx_at (hxy ▸ hy) hb)
        subst hxy
        clear hy
        go_wp2_with fail
        go_ret
        rw [HE.out]
        exact ⟨rfl, rfl⟩
      · have hq : (x == y) = false := by simpa using hxy
        have HB : Hid (∀ j, j < k + 1 → l[j]? ≠ some x) := fun j hj => by
          rcases Nat.lt_succ_iff_lt_or_eq.1 hj with h | rfl
          · exact hb j h
          · rw [hy]; intro e; injection e with e; exact hxy e.symm
        clear hxy hy hb
        go_wp2_with fail
        go_round
        case rel => exact ⟨k + 1, by omega, by go_num, HB⟩
        case measure => simp [intOf]; omega
    · obtain rfl : k = n := by omega
      have HE := Lib.hid (idx_none (l := l) (x := x) (fun j hj => hb j (by rw [HL.out]; exact hj)))
      clear hb
      go_wp2_with fail
      go_ret
      rw [HE.out]
      exact ⟨rfl, rfl⟩

set_option maxHeartbeats 400000 in
theorem contains_ints (w : World) (B : Nat) (A : Option Addr) (n c : Nat) (l : List Int) (x : Int) (H : IntRow w B A n l) (hA : ∀ ad, A = some ad → ad.spot = none) (hn : n ≤ 9223372036854775807) :
    Calls Tryz.prog 126 #[.slice A n c, .int .i64 x] w fun e w' => e = .returned (.bool (decide (x ∈ l))) ∧ w = w' := by
  have HH := Lib.hid H
  have HA := Lib.hid hA
  clear hA H
  go_enter Tryz.func126, Tryz.ntmps126
  go_wp2_with fail
  (with_reducible refine (index_ints _ B A n c l x HH.out HA.out hn).mono ?_)
  rintro e w' ⟨rfl, rfl⟩
  have e1 : decide (0 ≤ idx l x) = decide (x ∈ l) := by
    have := @idx_neg l x
    by_cases h : x ∈ l
    · simp only [h, decide_true, decide_eq_true_eq]
      by_cases h2 : idx l x < 0
      · exact absurd h (this.1 h2)
      · omega
    · simp only [h, decide_false, decide_eq_false_iff_not]
      have := this.2 h
      omega
  have E1 := Lib.hid e1
  clear e1
  go_wp2_with fail
  go_ret
  refine ⟨?_, rfl⟩
  rw [← E1.out]
  rfl

theorem info_int : (Tryz.prog.info? 3).map (fun i => (i.zero, i.size, i.bytes)) = some (some (.int .i64 0), 1, 8) := by kernel_rfl
theorem zero_int (w : World) : (zeroValue 3).run Tryz.prog w = .ok (.int .i64 0) w := by kernel_rfl

/-- slices.Delete(s, i, i+1), of a row that begins its block: in place; the cells of the rest. -/
def DelTo (w : World) (g : Nat) (t : TypeId) (cap : Nat) (xs : List Value) (i n : Nat) (e : Ending) (w' : World) : Prop :=
  e = .returned (.slice (some ⟨g, 0, none⟩) (n - 1) cap) ∧ w.grownBy w' (some g) ∧ w'.heap.size = w.heap.size ∧
    ∃ cur' : Array Value, w'.heap[g]? = some (.cells cur' t (0, 0)) ∧ cur'.size = cap ∧ cur'.toList.take (n - 1) = xs.eraseIdx i

set_option maxRecDepth 100000 in
set_option maxHeartbeats 4000000 in
theorem delete_int (g cap n i : Nat) (cur : Array Value) (w : World) (hcur : w.heap[g]? = some (.cells cur 3 (0, 0))) (hsz : cur.size = cap) (hn : n ≤ cap) (hcap : cap ≤ maxLen) (hi : i < n)
    (h1c : ∀ u ∈ cur.toList.take n, u.oneCell' = true) :
    Calls Tryz.prog 113 #[.slice (some ⟨g, 0, none⟩) n cap, .int .i64 i, .int .i64 ((i : Int) + 1)] w (DelTo w g 3 cap (cur.toList.take n) i n) := by
  unfold maxLen at hcap
  obtain ⟨news, hnews⟩ : ∃ news, news = (cur.toList.take n).drop (i + 1) := ⟨_, rfl⟩
  have hlen : news.length = n - (i + 1) := by rw [hnews]; simp; omega
  have s1 : Hid (news.length = (n - (i + 1)) * 1) := by rw [Nat.mul_one]; exact hlen
  have s2 : Hid (∀ u ∈ news, u.oneCell' = true) := fun u hu => h1c u (List.mem_of_mem_drop (hnews ▸ hu))
  have hcell : ∀ j, w.drew.cell? ⟨g, j, none⟩ = cur[j]? := fun j => cell_of_row w g j cur _ _ hcur
  have s3 : Hid (∀ j, j < news.length → (w.drew.cell? ⟨g, 0 + i * 1 + j, none⟩).isSome = true ∧ w.drew.frozen? ⟨g, 0 + i * 1 + j, none⟩ = false) := fun j hj => by
    refine ⟨?_, by have h2 : w.drew.heap[g]? = some (.cells cur 3 (0, 0)) := hcur; simp [World.frozen?, h2]⟩
    rw [hcell, Array.getElem?_eq_getElem (by omega)]
    rfl
  obtain ⟨W1, hW1⟩ : ∃ W1, W1 = w.drew.setCells g (0 + i * 1) news := ⟨_, rfl⟩
  have hb1 : W1.heap[g]? = some (.cells (over cur.toList (0 + i * 1) news).toArray 3 (0, 0)) := by
    rw [hW1]; exact setCells_block g _ news _ w.drew cur hcur (by rw [hlen]; omega)
  have hg1 : w.grownBy W1 (some g) := by
    rw [hW1]; exact setCells_grown g _ _ _ w ⟨rfl, rfl, rfl, Nat.le_refl _, fun _ _ _ => rfl⟩
  have hs1 : W1.heap.size = w.heap.size := by rw [hW1]; exact setCells_size g _ _ _
  obtain ⟨cur1, hcur1⟩ : ∃ cur1, cur1 = (over cur.toList (0 + i * 1) news).toArray := ⟨_, rfl⟩
  rw [← hcur1] at hb1
  have hz1 : cur1.size = cap := by rw [hcur1]; simp [over, hlen]; omega
  have hcl : ∀ ty, (Builtin.clear_ #[100] ty #[.slice (some ⟨g, n - 1, none⟩) 1 (cap - (n - 1))]).run Tryz.prog W1 = .ok (.tuple #[]) (W1.setCells g (n - 1) (List.replicate 1 (.int .i64 0))) := fun ty =>
    Lib.run_clear_slice W1 _ _ ty _ Tryz.underlying100 zero_int rfl rfl g (n - 1) _ _ (by omega)
      (fun j hj => by
        have e : W1.cell? ⟨g, n - 1 + j, none⟩ = cur1[n - 1 + j]? := cell_of_row W1 g _ cur1 _ _ hb1
        rw [e, Array.getElem?_eq_getElem (by omega)]; rfl)
      (fun j hj => by simp [World.frozen?, hb1])
  -- what is in the block in the end
  have hb2 : (W1.setCells g (n - 1) (List.replicate 1 (.int .i64 0))).heap[g]? = some (.cells (over cur1.toList (n - 1) (List.replicate 1 (.int .i64 0))).toArray 3 (0, 0)) :=
    setCells_block g _ _ _ W1 cur1 hb1 (by simp; omega)
  have hg2 : w.grownBy (W1.setCells g (n - 1) (List.replicate 1 (.int .i64 0))) (some g) := setCells_grown g _ _ _ w hg1
  have hs2 : (W1.setCells g (n - 1) (List.replicate 1 (.int .i64 0))).heap.size = w.heap.size := (setCells_size g _ _ _).trans hs1
  have hfin : ∃ cur' : Array Value, (W1.setCells g (n - 1) (List.replicate 1 (.int .i64 0))).heap[g]? = some (.cells cur' 3 (0, 0)) ∧ cur'.size = cap ∧ cur'.toList.take (n - 1) = (cur.toList.take n).eraseIdx i := by
    refine ⟨_, hb2, by simp [over]; omega, ?_⟩
    have e1 : (cur.toList.take n).eraseIdx i = cur.toList.take i ++ news := by
      rw [List.eraseIdx_eq_take_drop_succ, hnews, List.take_take, Nat.min_eq_left (by omega)]
    have e3 : (cur.toList.take i ++ news).length = n - 1 := by simp [hlen]; omega
    rw [e1]
    simp only [over]
    rw [List.append_assoc, List.take_append_of_le_length (by simp; omega), List.take_of_length_le (by simp; omega), hcur1]
    simp only [over, Nat.zero_add, Nat.mul_one]
    rw [List.take_append_of_le_length (by rw [e3]; exact Nat.le_refl _), List.take_of_length_le (by rw [e3]; exact Nat.le_refl _)]
  have HF : Hid (DelTo w g 3 cap (cur.toList.take n) i n (.returned (.slice (some ⟨g, 0, none⟩) (n - 1) cap)) (W1.setCells g (n - 1) (List.replicate 1 (.int .i64 0)))) := ⟨rfl, hg2, hs2, hfin⟩
  have HW : Hid (W1 = w.drew.setCells g (0 + i * 1) news) := hW1
  -- where the rest begins
  obtain ⟨A, hA, hsrc⟩ : ∃ A : Addr, (if cap = i + 1 then some (⟨g, 0, none⟩ : Addr) else some ⟨g, i + 1, none⟩) = some A ∧ Hid (∀ j u, news[j]? = some u → w.drew.cell? (A.add j) = some u) := by
    by_cases h : cap = i + 1
    · refine ⟨⟨g, 0, none⟩, by simp [h], fun j u hu => ?_⟩
      have h0 : news.length = 0 := by rw [hlen]; omega
      rw [List.length_eq_zero_iff.1 h0] at hu
      simp at hu
    · refine ⟨⟨g, i + 1, none⟩, by simp [h], fun j u hu => ?_⟩
      have hj := (List.getElem?_eq_some_iff.1 hu).1
      rw [Addr.add_lit, hcell]
      rw [hnews, List.getElem?_drop, List.getElem?_take_of_lt (by omega)] at hu
      rw [← hu, Array.getElem?_toList]
  obtain ⟨i0, hi0, hz0, hzz1, hzz2⟩ := info_parts info_int
  have hne : ((i : Int) == (i : Int) + 1) = false := by simp; omega
  have ek : n - 1 = i + (n - (i + 1)) := by omega
  obtain ⟨W2, hW2⟩ : ∃ W2, W2 = W1.setCells g (n - 1) (List.replicate 1 (.int .i64 0)) := ⟨_, rfl⟩
  rw [← hW2] at HF
  rw [← hW2] at hcl
  clear hW2
  rw [ek] at HF
  have hcl2 : ∀ ty, (Builtin.clear_ #[100] ty #[.slice (some ⟨g, i + (n - (i + 1)), none⟩) (n - (i + (n - (i + 1)))) (cap - (i + (n - (i + 1))))]).run Tryz.prog W1 = .ok (.tuple #[]) W2 := fun ty => by
    rw [← ek, show n - (n - 1) = 1 by omega]; exact hcl ty
  clear hcl ek
  clear hcell hnews hW1 hlen hb1 hg1 hs1 hcur1 hz1 hb2 hg2 hs2 hfin h1c hcur
  go_enter Tryz.func113, Tryz.ntmps113
  go_wp2_with fail
  clear hne
  have hic : i ≤ cap := by omega
  have hjc : i + 1 ≤ cap := by omega
  have hi0' : (0 : Int) ≤ (i : Int) + 1 := by omega
  have hin : (i : Int) + 1 ≤ (n : Int) := by omega
  go_region_law (refine step_append_room rfl (.tmp 22) (.tmp 25) 100 rfl 3 i0 1 Tryz.underlying100 hi0 hzz1 g 0 i cap (by simp [Act.eval, Act.put]) A (n - (i + 1)) (cap - (i + 1)) news (by simp [Act.eval, Act.put]) s1.out hsrc.out s2.out (by omega) s3.out ?_; rw [← HW.out])
  go_wp2_with fail
  go_ret
  exact HF.out

end Go.Proofs.YtbljphaklciinaaGreat

/- The methods of queue.Queue, walked: at whatever place (b, o) the queue lies: its two rows in blocks of their own. -/
namespace Go.Proofs.YtbljphaklciinaaGreat
open Go.RowKit

/-- A row of ints at one cell: its numbers, and the block that holds them (none: nil). -/
structure RowAt (w : World) (B b o : Nat) (l : List Int) (g : Option Nat) : Prop where
  val : ∃ v, w.cell? ⟨b, o, none⟩ = some v ∧ w.ownsRow B 3 1 v l.length (l.map (.int .i64)) ∧ v.ownBlock = g
  frz : w.frozen? ⟨b, o, none⟩ = false
  ne : g ≠ some b

/-- What a write of a row leaves: its own cell, its block, and what is new, aside. -/
structure RowFr (w w' : World) (b o : Nat) (g : Option Nat) : Prop where
  os : w'.os = w.os
  tape : w'.tape = w.tape
  output : w'.output = w.output
  size : w.heap.size ≤ w'.heap.size
  self : ∃ v, w'.heap[b]? = (w.setCell ⟨b, o, none⟩ v).heap[b]?
  block : ∀ k, k < w.heap.size → k ≠ b → some k ≠ g → w'.heap[k]? = w.heap[k]?

theorem own_ints_shape {w : World} {B : Nat} {v : Value} {l : List Int} (h : w.ownsRow B 3 1 v l.length (l.map (.int .i64))) :
    ∃ A c, v = .slice A l.length c ∧ (∀ ad, A = some ad → ad.spot = none) ∧ l.length ≤ c ∧ c ≤ maxLen ∧ IntRow w w.heap.size A l.length l ∧ (A.map (·.block)) = v.ownBlock := by
  have hr := h
  rcases h.2 with ⟨rfl, hn⟩ | ⟨g, cap, cur, rfl, hg, hh, hle, hcap, hs, ht⟩
  · obtain rfl := List.eq_nil_of_length_eq_zero hn
    exact ⟨none, 0, rfl, (fun _ e => by cases e), Nat.le_refl _, Nat.zero_le _, Reads.none_, rfl⟩
  · exact ⟨_, cap, rfl, (fun ad e => by injection e with e; subst e; rfl), hle, hcap, Reads.of_own hr, rfl⟩

def AddTo (w : World) (B b o : Nat) (l : List Int) (g : Option Nat) (x : Int) (w' : World) : Prop :=
  ∃ g', RowAt w' B b o (l ++ [x]) g' ∧ (g' = g ∨ ∃ k, g' = some k ∧ w.heap.size ≤ k) ∧ RowFr w w' b o g

set_option maxRecDepth 100000 in
set_option maxHeartbeats 2000000 in
theorem add_any (w : World) (B b o : Nat) (l : List Int) (g : Option Nat) (x : Int) (H : RowAt w B b o l g) (hl : l.length ≤ 1000000) (hB : B ≤ w.heap.size) :
    Calls Tryz.prog 79 #[.pointer (some ⟨b, o, none⟩), .int .i64 x] w fun e w' => e = .returned (.tuple #[]) ∧ AddTo w B b o l g x w' := by
  obtain ⟨⟨v, hv, hown, hg⟩, hf, hne⟩ := H
  have hbl : b < w.heap.size := World.block_lt_of_cell? w _ hv
  obtain ⟨i0, hi0, hz0, hz1, hz2⟩ := info_parts info_int
  obtain ⟨A, c, rfl, _, _, _, _, _⟩ := own_ints_shape hown
  have HO := Lib.hid hown
  have HG := Lib.hid hg
  clear hown hg
  go_enter Tryz.func79, Tryz.ntmps79
  go_wp2_with (first
    | (at_builtin
       refine wpList_append_any _ rfl (.tmp 8) (.tmp 10) _ rfl B 3 i0 _ 1 8 Tryz.underlying100 hi0 hz0 hz1 hz2 rfl (by omega) (.slice A l.length c) l.length (l.map (.int .i64)) rfl
         (HO.out.alloc _) _ _ 1 1 [.int .i64 x] rfl (Reads.new1 w _ _) (fun u hu => by simp at hu; subst hu; rfl) (by simp only [maxLen]; omega) (by omega) (by simp; omega) ?_
       intro v1 w1 hown1 hg1 hat1
       have G1 := (World.grownBy_alloc w (.cells #[.int .i64 x] 3) ((Value.slice A l.length c).ownBlock))
       have c1 : w1.cell? ⟨b, o, none⟩ = some (.slice A l.length c) := hg1.cell ((World.cell?_alloc_lt w _ ⟨b, o, none⟩ hbl).trans hv) (by rw [HG.out]; exact fun e => hne e.symm)
       have f1 : w1.frozen? ⟨b, o, none⟩ = false := (World.frozen?_of_block (hg1.block b (by simp; omega) (by rw [HG.out]; exact fun e => hne e.symm))).trans ((World.frozen?_of_block (Below.heap_alloc w _ b hbl)).trans hf)
       have H1 := Lib.hid hown1
       have H2 := Lib.hid hg1
       have H3 := Lib.hid hat1
       obtain ⟨gb, cap4, rfl, hgb, hgl⟩ := hown1.form (by omega)
       clear hown1 hg1 hat1 G1))
  go_end0
  have hat := H3.out
  rw [HG.out] at hat
  have hgb2 : some gb ≠ some b := by
    rcases hat with e | e
    · simp only [Value.ownBlock] at e; rw [e]; exact hne
    · simp only [Value.ownBlock, Option.some.injEq] at e; simp at e; simp; omega
  have hgr := H2.out
  rw [HG.out] at hgr
  refine ⟨rfl, some gb, ⟨⟨.slice (some ⟨gb, 0, none⟩) (l.length + 1) cap4, by go_simp, ?_, rfl⟩, by go_simp, hgb2⟩, ?_, ?_⟩
  · have h := H1.out
    have e1 : (l ++ [x]).length = l.length + 1 := by simp
    have e2 : (l ++ [x]).map (Value.int .i64) = l.map (.int .i64) ++ [.int .i64 x] := by simp
    rw [e1, e2]
    exact h.kept (only_set (World.grownBy.refl _ _) _) (.inr hgb2)
  · rcases hat with e | e
    · exact .inl e
    · refine .inr ⟨gb, rfl, ?_⟩
      simp only [Value.ownBlock, Option.some.injEq] at e
      simp at e
      omega
  · refine ⟨hgr.os, hgr.tape, hgr.output, ?_, ⟨.slice (some ⟨gb, 0, none⟩) (l.length + 1) cap4, ?_⟩, fun k hk hkb hkg => ?_⟩
    · have := hgr.size
      simp [World.setCell] at this ⊢
      omega
    · have e : w1.heap[b]? = w.heap[b]? := (hgr.block b (by simp; omega) (fun e => hne e.symm)).trans (Below.heap_alloc w _ b hbl)
      simp only [World.setCell, Array.getElem?_modify, if_true]
      rw [e]
    · rw [Below.heap_setCell _ _ _ _ hkb]
      exact (hgr.block k (by simp; omega) hkg).trans (Below.heap_alloc w _ k hk)

/-- What a drop leaves: the number out of the row. -/
def DropTo (w : World) (B b o : Nat) (l : List Int) (g : Option Nat) (x : Int) (e : Ending) (w' : World) : Prop :=
  e = .returned (.bool (decide (x ∈ l))) ∧ RowAt w' B b o (l.erase x) g ∧ RowFr w w' b o g ∧ w'.heap.size = w.heap.size

theorem map_eraseIdx {α β : Type} (f : α → β) : ∀ (l : List α) (i : Nat), (l.map f).eraseIdx i = (l.eraseIdx i).map f
  | [], _ => by simp
  | _ :: _, 0 => by simp
  | _ :: l, i + 1 => by simp [map_eraseIdx f l i]

theorem erase_idx {l : List Int} {x : Int} (h : x ∈ l) : l.eraseIdx (idx l x).toNat = l.erase x := by
  induction l with
  | nil => cases h
  | cons y l ih =>
    simp only [idx]
    by_cases hy : y = x
    · subst hy
      simp
    · have hm : x ∈ l := by
        rcases List.mem_cons.1 h with rfl | h
        · exact absurd rfl hy
        · exact h
      have hn : ¬ idx l x < 0 := fun hc => idx_neg.1 hc hm
      rw [if_neg hy, if_neg hn, List.erase_cons_tail (by simpa using hy)]
      rw [show (idx l x + 1).toNat = (idx l x).toNat + 1 by omega, List.eraseIdx_cons_succ, ih hm]
theorem idx_lt {l : List Int} {x : Int} (h : x ∈ l) : idx l x < l.length := by
  induction l with
  | nil => cases h
  | cons y l ih =>
    simp only [idx, List.length_cons]
    by_cases hy : y = x
    · rw [if_pos hy]; omega
    · have hm : x ∈ l := by
        rcases List.mem_cons.1 h with rfl | h
        · exact absurd rfl hy
        · exact h
      have := ih hm
      rw [if_neg hy]
      split <;> omega

theorem rowFr_refl {w : World} {B b o : Nat} {l : List Int} {g : Option Nat} (H : RowAt w B b o l g) : RowFr w w b o g := by
  obtain ⟨⟨v, hv, _, _⟩, _, _⟩ := H
  refine ⟨rfl, rfl, rfl, Nat.le_refl _, ⟨v, ?_⟩, fun _ _ _ _ => rfl⟩
  have hbl : b < w.heap.size := World.block_lt_of_cell? w _ hv
  simp only [World.setCell, Array.getElem?_modify, if_true]
  have hv' := hv
  simp only [World.cell?] at hv'
  cases hb : w.heap[b]? with
  | none => rfl
  | some ob =>
    rw [hb] at hv'
    cases ob with
    | cells c t fr =>
      simp at hv'
      simp only [Option.map_some, Option.isSome_none, Bool.false_eq_true, if_false, Option.some.injEq]
      congr 1
      apply Array.ext_getElem?
      intro i
      rw [Array.getElem?_setIfInBounds]
      split
      · rename_i h
        subst h
        split
        · exact hv'
        · rename_i h2; exact (Array.getElem?_eq_none (by omega))
      · rfl
    | _ => rfl

set_option maxRecDepth 100000 in
set_option maxHeartbeats 2000000 in
theorem drop_no (w : World) (B b o : Nat) (l : List Int) (g : Option Nat) (x : Int) (H : RowAt w B b o l g) (hl : l.length ≤ 1000000) (hx : x ∉ l) :
    Calls Tryz.prog 78 #[.pointer (some ⟨b, o, none⟩), .int .i64 x] w fun e w' => e = .returned (.bool false) ∧ w = w' := by
  obtain ⟨⟨v, hv, hown, hg⟩, hf, hne⟩ := H
  obtain ⟨A, c, rfl, hA, hc1, hc2, hrow, _⟩ := own_ints_shape hown
  have hi : idx l x < 0 := idx_neg.2 hx
  have HR := Lib.hid hrow
  have HA := Lib.hid hA
  clear hown hg hrow hA hx
  go_enter Tryz.func78, Tryz.ntmps78
  go_wp2_with fail
  (with_reducible refine (index_ints _ _ A l.length c l x HR.out HA.out (by omega)).mono ?_)
  rintro e w' ⟨rfl, rfl⟩
  go_wp2_with fail
  go_ret
  exact ⟨rfl, rfl⟩

set_option maxRecDepth 100000 in
set_option maxHeartbeats 2000000 in
theorem drop_yes (w : World) (B b o : Nat) (l : List Int) (g : Option Nat) (x : Int) (H : RowAt w B b o l g) (hl : l.length ≤ 1000000) (hx : x ∈ l) :
    Calls Tryz.prog 78 #[.pointer (some ⟨b, o, none⟩), .int .i64 x] w fun e w' =>
      e = .returned (.bool true) ∧ RowAt w' B b o (l.erase x) g ∧ RowFr w w' b o g ∧ w'.heap.size = w.heap.size := by
  obtain ⟨⟨v, hv, hown, hg⟩, hf, hne⟩ := H
  have hbl : b < w.heap.size := World.block_lt_of_cell? w _ hv
  have hpos : 0 < l.length := List.length_pos_of_mem hx
  obtain ⟨A, c, rfl, hA, hc1, hc2, hrow, _⟩ := own_ints_shape hown
  rcases hown.2 with ⟨e, _⟩ | ⟨gb, cap, cur, e, hgB, hcur, hle, hcap, hsz, htake⟩
  · simp only [Value.slice.injEq] at e; omega
  · simp only [Value.slice.injEq, true_and] at e
    obtain ⟨rfl, rfl⟩ := e
    simp only [Value.ownBlock] at hg
    subst hg
    have hi0 : ¬ idx l x < 0 := fun hc => idx_neg.1 hc hx
    have hil := idx_lt hx
    have hgl : gb < w.heap.size := block_lt_of_blk hcur
    have hee := erase_idx hx
    rw [Nat.mul_one] at htake hsz
    obtain ⟨i, hii⟩ : ∃ i : Nat, idx l x = i := ⟨(idx l x).toNat, by omega⟩
    rw [hii] at hil hee
    have hil' : i < l.length := by omega
    have h1c : ∀ u ∈ cur.toList.take l.length, u.oneCell' = true := fun u hu => by
      rw [htake] at hu
      obtain ⟨y, _, rfl⟩ := List.mem_map.1 hu
      rfl
    have HD := Lib.hid (delete_int gb c l.length i cur w hcur (by omega) hle hcap hil' h1c)
    have HR := Lib.hid hrow
    have HA := Lib.hid hA
    have HI := Lib.hid hii
    have HT := Lib.hid htake
    have HE := Lib.hid hee
    clear hown hrow hA hx hii htake hee hcur hsz h1c hi0 hil
    have hw : IntKind.i64.wrap ((i : Int) + 1) = (i : Int) + 1 := by simp only [IntKind.wrap_i64]; omega
    go_enter Tryz.func78, Tryz.ntmps78
    go_wp2_with fail
    (with_reducible refine (index_ints _ _ _ l.length c l x HR.out HA.out (by omega)).mono ?_)
    rintro e w' ⟨rfl, rfl⟩
    rw [HI.out]
    go_wp2_with fail
    refine HD.out.mono ?_
    rintro e w1 ⟨rfl, hg1, hs1, cur', hcur', hsz', ht'⟩
    have c1 : w1.cell? ⟨b, o, none⟩ = some (.slice (some ⟨gb, 0, none⟩) l.length c) := hg1.cell hv (fun e => hne e.symm)
    have f1 : w1.frozen? ⟨b, o, none⟩ = false := (World.frozen?_of_block (hg1.block b hbl (fun e => hne e.symm))).trans hf
    have HG := Lib.hid hg1
    have HS := Lib.hid hs1
    have HC := Lib.hid hcur'
    have HZ := Lib.hid hsz'
    have HT' := Lib.hid ht'
    clear hg1 hs1 hcur' hsz' ht'
    go_wp2_with fail
    go_ret
    have hel : (l.erase x).length = l.length - 1 := by rw [← HE.out, Int.toNat_natCast, List.length_eraseIdx_of_lt hil']
    refine ⟨rfl, ⟨⟨.slice (some ⟨gb, 0, none⟩) (l.length - 1) c, by go_simp, ?_, rfl⟩, by go_simp, hne⟩, ?_, by simp [World.setCell, HS.out]⟩
    · rw [hel]
      refine ⟨by simp [hel], .inr ⟨gb, c, cur', rfl, hgB, ?_, by omega, hcap, by rw [HZ.out]; omega, ?_⟩⟩
      · rw [Below.heap_setCell _ _ _ _ (by simp only; intro e; exact hne (by rw [e]))]
        exact HC.out
      · rw [Nat.mul_one, HT'.out, HT.out, ← HE.out, Int.toNat_natCast, map_eraseIdx]
    · refine ⟨HG.out.os, HG.out.tape, HG.out.output, by simp [World.setCell, HS.out], ⟨.slice (some ⟨gb, 0, none⟩) (l.length - 1) c, ?_⟩, fun k hk hkb hkg => ?_⟩
      · have e : w1.heap[b]? = w.heap[b]? := HG.out.block b hbl (fun e => hne e.symm)
        simp only [World.setCell, Array.getElem?_modify, if_true]
        rw [e]
      · rw [Below.heap_setCell _ _ _ _ hkb]
        exact HG.out.block k hk hkg

end Go.Proofs.YtbljphaklciinaaGreat

/- queue.Queue's Has, walked. -/
namespace Go.Proofs.YtbljphaklciinaaGreat
open Go.RowKit

structure QueueAt (w : World) (B b o : Nat) (R F : List Int) (g1 g2 : Option Nat) : Prop where
  r1 : RowAt w B b o R g1
  r2 : RowAt w B b (o + 1) F g2
  apart : g1 = g2 → g1 = none

theorem RowAt.lt {w : World} {B b o : Nat} {l : List Int} {g : Option Nat} (H : RowAt w B b o l g) : b < w.heap.size := by
  obtain ⟨⟨v, hv, _, _⟩, _, _⟩ := H
  exact World.block_lt_of_cell? w _ hv
theorem RowAt.g_lt {w : World} {B b o : Nat} {l : List Int} {g : Option Nat} (H : RowAt w B b o l g) : ∀ k, g = some k → B ≤ k ∧ k < w.heap.size := by
  obtain ⟨⟨v, _, h, rfl⟩, _, _⟩ := H
  exact h.lt

/-- A row stays where neither its cell's block nor its own block turns. -/
theorem RowAt.stays {w w' : World} {B b o : Nat} {l : List Int} {g : Option Nat} (H : RowAt w B b o l g) (hb : w'.heap[b]? = w.heap[b]?) (hg : ∀ k, g = some k → w'.heap[k]? = w.heap[k]?) : RowAt w' B b o l g := by
  obtain ⟨⟨v, hv, h, rfl⟩, hf, hne⟩ := H
  refine ⟨⟨v, (World.cell?_of_block (a := ⟨b, o, none⟩) hb).trans hv, ⟨h.1, ?_⟩, rfl⟩, (World.frozen?_of_block (a := ⟨b, o, none⟩) hb).trans hf, hne⟩
  rcases h.2 with hn | ⟨g, cap, cur, rfl, h1, h2, r⟩
  · exact .inl hn
  · exact .inr ⟨g, cap, cur, rfl, h1, (hg g rfl).trans h2, r⟩

theorem QueueAt.stays {w w' : World} {B b o : Nat} {R F : List Int} {g1 g2 : Option Nat} (H : QueueAt w B b o R F g1 g2) (hb : w'.heap[b]? = w.heap[b]?) (h1 : ∀ k, g1 = some k → w'.heap[k]? = w.heap[k]?)
    (h2 : ∀ k, g2 = some k → w'.heap[k]? = w.heap[k]?) : QueueAt w' B b o R F g1 g2 := ⟨H.r1.stays hb h1, H.r2.stays hb h2, H.apart⟩

theorem QueueAt.below {w w' : World} {B b o N : Nat} {R F : List Int} {g1 g2 : Option Nat} (H : QueueAt w B b o R F g1 g2) (hb : Below N w w') (hN : w.heap.size ≤ N) : QueueAt w' B b o R F g1 g2 :=
  H.stays (hb.block b (by have := H.r1.lt; omega)) (fun k e => hb.block k (by have := (H.r1.g_lt k e).2; omega)) (fun k e => hb.block k (by have := (H.r2.g_lt k e).2; omega))

/-- Is a number in one of the rows? -/
def inQ (R F : List Int) (y : Int) : Bool := decide (y ∈ R) || decide (y ∈ F)

theorem row_slice {w : World} {B b o : Nat} {l : List Int} {g : Option Nat} (H : RowAt w B b o l g) :
    ∃ A c, w.cell? ⟨b, o, none⟩ = some (.slice A l.length c) ∧ Hid (∀ ad, A = some ad → ad.spot = none) ∧ Hid (IntRow w w.heap.size A l.length l) ∧ l.length ≤ c ∧ c ≤ maxLen := by
  obtain ⟨⟨v, hv, hown, _⟩, _, _⟩ := H
  obtain ⟨A, c, rfl, hA, hc1, hc2, hrow, _⟩ := own_ints_shape hown
  exact ⟨A, c, hv, hA, hrow, hc1, hc2⟩

set_option maxRecDepth 100000 in
set_option maxHeartbeats 2000000 in
theorem has1_any (w : World) (B b o x : Nat) (R F : List Int) (g1 g2 : Option Nat) (y : Int) (H : QueueAt w B b o R F g1 g2) (hx : w.cell? ⟨x, 0, none⟩ = some (.pointer (some ⟨b, o, none⟩))) (hR : R.length ≤ 1000000) (hF : F.length ≤ 1000000) :
    Calls Tryz.prog 125 #[.int .i64 y, .pointer (some ⟨x, 0, none⟩)] w fun e w' => e = .returned (.bool (!inQ R F y)) ∧ w = w' := by
  obtain ⟨A1, c1, hv1, hA1, hr1, _, _⟩ := row_slice H.r1
  obtain ⟨A2, c2, hv2, hA2, hr2, _, _⟩ := row_slice H.r2
  have e1 : inQ R F y = (decide (y ∈ R) || decide (y ∈ F)) := rfl
  have E1 := Lib.hid e1
  clear e1 H
  go_enter Tryz.func125, Tryz.ntmps125
  go_wp2_with fail
  (with_reducible refine (contains_ints _ _ A1 R.length c1 R y hr1.out hA1.out (by omega)).mono ?_)
  rintro e w' ⟨rfl, rfl⟩
  by_cases h1 : y ∈ R
  · have hd : decide (y ∈ R) = true := by simpa using h1
    rw [hd] at E1 ⊢
    clear h1 hd
    go_wp2_with fail
    go_ret
    rw [E1.out]
    exact ⟨rfl, rfl⟩
  · have hd : decide (y ∈ R) = false := by simpa using h1
    rw [hd] at E1 ⊢
    clear h1 hd
    go_wp2_with fail
    (with_reducible refine (contains_ints _ _ A2 F.length c2 F y hr2.out hA2.out (by omega)).mono ?_)
    rintro e w' ⟨rfl, rfl⟩
    generalize decide (y ∈ F) = d at *
    go_wp2_with fail
    go_ret
    rw [E1.out]
    exact ⟨by simp, rfl⟩

set_option maxRecDepth 100000 in
set_option maxHeartbeats 2000000 in
theorem indexfunc_has (w : World) (B b o x : Nat) (R F : List Int) (g1 g2 : Option Nat) (H : QueueAt w B b o R F g1 g2) (hx : w.cell? ⟨x, 0, none⟩ = some (.pointer (some ⟨b, o, none⟩))) (hR : R.length ≤ 1000000) (hF : F.length ≤ 1000000)
    (N : Nat) (A : Option Addr) (n c : Nat) (l : List Int) (hl : IntRow w N A n l) (hA : ∀ ad, 0 < n → A = some ad → ad.spot = none) (hn : n ≤ 9223372036854775807) :
    Calls Tryz.prog 140 #[.slice A n c, .func (.func 125) #[] #[.pointer (some ⟨x, 0, none⟩)]] w fun e w' =>
      (∃ r : Int, e = .returned (.int .i64 r) ∧ (r < 0 ↔ ∀ y ∈ l, inQ R F y = true)) ∧ w = w' := by
  have HH := Lib.hid hl
  have HA := Lib.hid hA
  have HQ := Lib.hid H
  have hlen := hl.len
  have HL := Lib.hid hlen
  clear hlen hA hl H
  go_enter Tryz.func140, Tryz.ntmps140
  go_wp2_with fail
  go_loop [8] (fun i => ∃ k : Nat, k ≤ n ∧ i = .int .i64 k ∧ Hid (∀ j y, j < k → l[j]? = some y → inQ R F y = true)) (fun i => n - (intOf i).toNat)
  case atStart => exact ⟨0, by omega, rfl, fun j y hj => by omega⟩
  case round =>
    obtain ⟨k, hk, rfl, hb⟩ := hrel
    by_cases hlt : k < n
    · obtain ⟨g, off, y, rfl, hy, hc⟩ := HH.out.at_ (fun ad e => HA.out ad (by omega) e) hlt
      have HY := Lib.hid hy
      clear hy
      go_wp2_with fail
      (with_reducible refine (has1_any _ B b o x R F g1 g2 y HQ.out hx hR hF).mono ?_)
      rintro e w' ⟨rfl, rfl⟩
      cases hq : inQ R F y with
      | true =>
        have HB : Hid (∀ j z, j < k + 1 → l[j]? = some z → inQ R F z = true) := fun j z hj hz => by
          rcases Nat.lt_succ_iff_lt_or_eq.1 hj with h | rfl
          · exact hb j z h hz
          · rw [HY.out] at hz; injection hz with hz; rw [← hz]; exact hq
        clear hb hq
        go_wp2_with fail
        go_round
        case rel => exact ⟨k + 1, by omega, by go_num, HB⟩
        case measure => simp [intOf]; omega
      | false =>
        have HN : Hid (¬ ∀ y ∈ l, inQ R F y = true) := fun h => by
          have := h y (List.mem_of_getElem? HY.out)
          rw [hq] at this
          cases this
        clear hb hq
        go_wp2_with fail
        go_ret
        exact ⟨⟨k, rfl, ⟨fun h => by omega, fun h => absurd h HN.out⟩⟩, rfl⟩
    · obtain rfl : k = n := by omega
      have HE : Hid (∀ y ∈ l, inQ R F y = true) := fun y hy => by
        obtain ⟨j, hj, e⟩ := List.mem_iff_getElem.1 hy
        exact hb j y (by rw [HL.out]; exact hj) (by rw [List.getElem?_eq_getElem hj, e])
      clear hb
      go_wp2_with fail
      go_ret
      exact ⟨⟨-1, rfl, ⟨fun _ => HE.out, fun _ => by omega⟩⟩, rfl⟩

end Go.Proofs.YtbljphaklciinaaGreat

/- queue.Queue's Has, Push, Remove, Fill, Wake, walked. -/
namespace Go.Proofs.YtbljphaklciinaaGreat
open Go.RowKit

set_option maxHeartbeats 1000000 in
theorem containsfunc_has (w : World) (B b o x : Nat) (R F : List Int) (g1 g2 : Option Nat) (H : QueueAt w B b o R F g1 g2) (hx : w.cell? ⟨x, 0, none⟩ = some (.pointer (some ⟨b, o, none⟩))) (hR : R.length ≤ 1000000) (hF : F.length ≤ 1000000)
    (N : Nat) (A : Option Addr) (n c : Nat) (l : List Int) (hl : IntRow w N A n l) (hA : ∀ ad, 0 < n → A = some ad → ad.spot = none) (hn : n ≤ 9223372036854775807) :
    Calls Tryz.prog 124 #[.slice A n c, .func (.func 125) #[] #[.pointer (some ⟨x, 0, none⟩)]] w fun e w' =>
      e = .returned (.bool (!l.all (inQ R F))) ∧ w = w' := by
  have HC := Lib.hid (indexfunc_has w B b o x R F g1 g2 H hx hR hF N A n c l hl hA hn)
  clear H hl hA
  go_enter Tryz.func124, Tryz.ntmps124
  go_wp2_with fail
  refine HC.out.mono ?_
  rintro e w' ⟨⟨r, rfl, hr⟩, rfl⟩
  have hd : decide (0 ≤ r) = !l.all (inQ R F) := by
    cases ha : l.all (inQ R F) with
    | true =>
      have := hr.2 (by simpa using ha)
      simp; omega
    | false =>
      have h : ¬ r < 0 := fun h => by
        have h2 := hr.1 h
        rw [List.all_eq_false] at ha
        obtain ⟨y, hy, h3⟩ := ha
        exact h3 (h2 y hy)
      simp; omega
  have HD := Lib.hid hd
  clear hd hr
  go_wp2_with fail
  go_ret
  rw [← HD.out]
  exact ⟨rfl, rfl⟩

theorem IntRow.alloc {w : World} {B : Nat} {A : Option Addr} {n : Nat} {l : List Int} (h : IntRow w B A n l) (hB : B ≤ w.heap.size) (o : Obj) : IntRow (w.alloc o) B A n l := Reads.alloc h hB o

set_option maxRecDepth 100000 in
set_option maxHeartbeats 1000000 in
theorem has_any (w : World) (B b o : Nat) (R F : List Int) (g1 g2 : Option Nat) (H : QueueAt w B b o R F g1 g2) (hR : R.length ≤ 1000000) (hF : F.length ≤ 1000000)
    (N : Nat) (A : Option Addr) (n c : Nat) (l : List Int) (hl : IntRow w N A n l) (hA : ∀ ad, 0 < n → A = some ad → ad.spot = none) (hn : n ≤ 9223372036854775807) (hN : N ≤ w.heap.size) :
    Calls Tryz.prog 96 #[.pointer (some ⟨b, o, none⟩), .slice A n c] w fun e w' =>
      e = .returned (.bool (l.all (inQ R F))) ∧ Below w.heap.size w w' := by
  have hb := H.r1.lt
  have B1 := (Below.refl w.heap.size w).alloc (Nat.le_refl _) (.cells #[.pointer (some ⟨b, o, none⟩)] 98)
  have Q1 := Lib.hid (H.below B1 (Nat.le_refl _))
  have HL := Lib.hid (IntRow.alloc hl hN (.cells #[.pointer (some ⟨b, o, none⟩)] 98))
  have HA := Lib.hid hA
  clear H hl hA
  go_enter Tryz.func96, Tryz.ntmps96
  go_wp2_with fail
  (with_reducible refine (containsfunc_has _ B b o w.heap.size R F g1 g2 Q1.out (by go_simp) hR hF N A n c l HL.out HA.out hn).mono ?_)
  rintro e w' ⟨rfl, rfl⟩
  obtain ⟨q, hq⟩ : ∃ q, q = l.all (inQ R F) := ⟨_, rfl⟩
  have HQ := Lib.hid hq
  rw [← hq]
  clear hq
  go_wp2_with fail
  go_ret
  exact ⟨by rw [← HQ.out]; simp, B1⟩

/-- What a step of the queue leaves. -/
structure QFr (w w' : World) (b o : Nat) (g1 g2 : Option Nat) : Prop where
  os : w'.os = w.os
  tape : w'.tape = w.tape
  output : w'.output = w.output
  size : w.heap.size ≤ w'.heap.size
  self : ∀ cs T fr, w.heap[b]? = some (.cells cs T fr) → ∃ v1 v2, w'.heap[b]? = some (.cells ((cs.setIfInBounds o v1).setIfInBounds (o + 1) v2) T fr)
  block : ∀ k, k < w.heap.size → k ≠ b → some k ≠ g1 → some k ≠ g2 → w'.heap[k]? = w.heap[k]?

def newOr (w : World) (g g' : Option Nat) : Prop := g' = g ∨ ∃ k, g' = some k ∧ w.heap.size ≤ k

structure QTo (w w' : World) (B b o : Nat) (g1 g2 : Option Nat) (R F : List Int) : Prop where
  at_ : ∃ g1' g2', QueueAt w' B b o R F g1' g2' ∧ newOr w g1 g1' ∧ newOr w g2 g2'
  fr : QFr w w' b o g1 g2

theorem set_self {cs : Array Value} {o : Nat} {v : Value} (h : cs[o]? = some v) : cs.setIfInBounds o v = cs := by
  apply Array.ext_getElem?
  intro i
  rw [Array.getElem?_setIfInBounds]
  split
  · rename_i e
    subst e
    split
    · exact h.symm
    · exact (Array.getElem?_eq_none (by omega)).symm
  · rfl
theorem cells_of {w : World} {b o : Nat} {v : Value} {cs : Array Value} {T : TypeId} {fr : Nat × Nat} (h : w.cell? ⟨b, o, none⟩ = some v) (hb : w.heap[b]? = some (.cells cs T fr)) : cs[o]? = some v := by
  simpa [World.cell?, hb] using h

theorem QFr.of_below {w w' : World} {B b o : Nat} {R F : List Int} {g1 g2 : Option Nat} (H : QueueAt w B b o R F g1 g2) (h : Below w.heap.size w w') : QFr w w' b o g1 g2 := by
  refine ⟨h.os, h.tape, h.output, h.size, fun cs T fr hb => ?_, fun k hk _ _ _ => h.block k hk⟩
  obtain ⟨⟨v1, h1, _, _⟩, _, _⟩ := H.r1
  obtain ⟨⟨v2, h2, _, _⟩, _, _⟩ := H.r2
  refine ⟨v1, v2, ?_⟩
  rw [set_self (cells_of h1 hb), set_self (cells_of h2 hb), h.block b H.r1.lt]
  exact hb

theorem QTo.of_below {w w' : World} {B b o : Nat} {R F : List Int} {g1 g2 : Option Nat} (H : QueueAt w B b o R F g1 g2) (h : Below w.heap.size w w') : QTo w w' B b o g1 g2 R F :=
  ⟨⟨g1, g2, H.below h (Nat.le_refl _), .inl rfl, .inl rfl⟩, QFr.of_below H h⟩

theorem QFr.of_row1 {w w' : World} {B b o : Nat} {R F : List Int} {g1 g2 : Option Nat} (H : QueueAt w B b o R F g1 g2) (h : RowFr w w' b o g1) : QFr w w' b o g1 g2 := by
  refine ⟨h.os, h.tape, h.output, h.size, fun cs T fr hb => ?_, fun k hk h1 h2 _ => h.block k hk h1 h2⟩
  obtain ⟨⟨v2, h2, _, _⟩, _, _⟩ := H.r2
  obtain ⟨v, hv⟩ := h.self
  refine ⟨v, v2, ?_⟩
  have hc := cells_of h2 hb
  rw [hv]
  simp only [World.setCell, Array.getElem?_modify, if_true, hb, Option.map_some, Option.isSome_none, Bool.false_eq_true, if_false]
  congr 2
  refine (set_self ?_).symm
  rw [Array.getElem?_setIfInBounds_ne (by omega)]
  exact hc

theorem QFr.of_row2 {w w' : World} {B b o : Nat} {R F : List Int} {g1 g2 : Option Nat} (H : QueueAt w B b o R F g1 g2) (h : RowFr w w' b (o + 1) g2) : QFr w w' b o g1 g2 := by
  refine ⟨h.os, h.tape, h.output, h.size, fun cs T fr hb => ?_, fun k hk h1 _ h2 => h.block k hk h1 h2⟩
  obtain ⟨⟨v1, h1, _, _⟩, _, _⟩ := H.r1
  obtain ⟨v, hv⟩ := h.self
  refine ⟨v1, v, ?_⟩
  rw [set_self (cells_of h1 hb), hv]
  simp only [World.setCell, Array.getElem?_modify, if_true, hb, Option.map_some, Option.isSome_none, Bool.false_eq_true, if_false]

theorem set_over (cs : Array Value) (o : Nat) (v1 v2 u1 u2 : Value) : ((((cs.setIfInBounds o v1).setIfInBounds (o + 1) v2).setIfInBounds o u1).setIfInBounds (o + 1) u2) = (cs.setIfInBounds o u1).setIfInBounds (o + 1) u2 := by
  apply Array.ext_getElem?
  intro i
  simp only [Array.getElem?_setIfInBounds, Array.size_setIfInBounds]
  by_cases h1 : o + 1 = i
  · subst h1; simp
  · by_cases h2 : o = i
    · subst h2; simp
    · simp [h1, h2]

theorem newOr.trans {w w1 : World} {g g1 g2 : Option Nat} (h1 : newOr w g g1) (h2 : newOr w1 g1 g2) (hs : w.heap.size ≤ w1.heap.size) : newOr w g g2 := by
  rcases h2 with rfl | ⟨k, rfl, hk⟩
  · exact h1
  · exact .inr ⟨k, rfl, Nat.le_trans hs hk⟩

theorem QFr.trans {w w1 w2 : World} {b o : Nat} {g1 g2 k1 k2 : Option Nat} (h : QFr w w1 b o g1 g2) (h' : QFr w1 w2 b o k1 k2) (n1 : newOr w g1 k1) (n2 : newOr w g2 k2) : QFr w w2 b o g1 g2 := by
  refine ⟨h'.os.trans h.os, h'.tape.trans h.tape, h'.output.trans h.output, Nat.le_trans h.size h'.size, fun cs T fr hb => ?_, fun k hk hkb hk1 hk2 => ?_⟩
  · obtain ⟨v1, v2, e1⟩ := h.self cs T fr hb
    obtain ⟨u1, u2, e2⟩ := h'.self _ T fr e1
    exact ⟨u1, u2, by rw [e2, set_over]⟩
  · refine (h'.block k (Nat.lt_of_lt_of_le hk h.size) hkb ?_ ?_).trans (h.block k hk hkb hk1 hk2)
    · rcases n1 with rfl | ⟨j, rfl, hj⟩
      · exact hk1
      · simp; omega
    · rcases n2 with rfl | ⟨j, rfl, hj⟩
      · exact hk2
      · simp; omega

theorem QTo.trans {w w1 w2 : World} {B b o : Nat} {g1 g2 k1 k2 : Option Nat} {R F : List Int} (h : QFr w w1 b o g1 g2) (n1 : newOr w g1 k1) (n2 : newOr w g2 k2) (h' : QTo w1 w2 B b o k1 k2 R F) : QTo w w2 B b o g1 g2 R F := by
  obtain ⟨⟨j1, j2, hq, m1, m2⟩, hf⟩ := h'
  exact ⟨⟨j1, j2, hq, n1.trans m1 h.size, n2.trans m2 h.size⟩, h.trans hf n1 n2⟩

/-- The other row stays behind a write of the first; and of the second. -/
theorem RowAt.other {w w' : World} {B b o o' : Nat} {l : List Int} {g g' : Option Nat} (H : RowAt w B b o' l g') (h : RowFr w w' b o g) (ho : o ≠ o') (hg : ∀ k, g' = some k → g ≠ some k) : RowAt w' B b o' l g' := by
  have hb := H.lt
  have hgl := H.g_lt
  obtain ⟨⟨v, hv, hown, rfl⟩, hf, hne⟩ := H
  obtain ⟨u, hu⟩ := h.self
  refine ⟨⟨v, ?_, ⟨hown.1, ?_⟩, rfl⟩, ?_, hne⟩
  · rw [World.cell?_of_block (w := w.setCell ⟨b, o, none⟩ u) (a := ⟨b, o', none⟩) hu, World.cell?_setCell_other _ _ _ _ (by first | (simp; done) | (simp; omega))]
    exact hv
  · rcases hown.2 with hn | ⟨gb, cap, cur, rfl, h1, h2, r⟩
    · exact .inl hn
    · refine .inr ⟨gb, cap, cur, rfl, h1, (h.block gb (block_lt_of_blk h2) (fun e => hne (by simp [Value.ownBlock, e])) (fun e => hg gb rfl e.symm)).trans h2, r⟩
  · rw [World.frozen?_of_block (w := w.setCell ⟨b, o, none⟩ u) (a := ⟨b, o', none⟩) hu]
    simpa using hf

/-- The queue's steps, plainly. -/
def pushS (R F : List Int) (x : Int) : Int × List Int × List Int := if inQ R F x then (6, R, F) else (0, R ++ [x], F)
def removeS (R F : List Int) (x : Int) : Int × List Int × List Int := if x ∈ R then (0, R.erase x, F) else if x ∈ F then (0, R, F.erase x) else (5, R, F)
def fillS (R F : List Int) (x : Int) : Int × List Int × List Int := if x ∈ R then (0, R.erase x, F ++ [x]) else (5, R, F)
def wakeS (R F : List Int) (x : Int) : Int × List Int × List Int := if x ∈ F then (0, R ++ [x], F.erase x) else (5, R, F)
/-- Each of some, till one error. -/
def eachS (f : List Int → List Int → Int → Int × List Int × List Int) : List Int → List Int → List Int → Int × List Int × List Int
  | [], R, F => (0, R, F)
  | x :: l, R, F => if (f R F x).1 = 0 then eachS f l (f R F x).2.1 (f R F x).2.2 else f R F x

/-- One step of a closure at a queue. -/
def Step1 (fid : FuncId) (S : List Int → List Int → Int → Int × List Int × List Int) : Prop :=
  ∀ (w : World) (B b o x : Nat) (R F : List Int) (g1 g2 : Option Nat) (y : Int), QueueAt w B b o R F g1 g2 → w.cell? ⟨x, 0, none⟩ = some (.pointer (some ⟨b, o, none⟩)) → x ≠ b → some x ≠ g1 → some x ≠ g2 →
    R.length + F.length ≤ 900000 → B ≤ w.heap.size →
    Calls Tryz.prog fid #[.int .i64 y, .pointer (some ⟨x, 0, none⟩)] w fun e w' => e = .returned (.int .i64 (S R F y).1) ∧ QTo w w' B b o g1 g2 (S R F y).2.1 (S R F y).2.2

theorem length_erase_lt {l : List Int} {x : Int} (h : x ∈ l) : (l.erase x).length + 1 = l.length := by
  rw [List.length_erase_of_mem h]
  have := List.length_pos_of_mem h
  omega

theorem row1_to {w w' : World} {B b o : Nat} {R F R' : List Int} {g1 g2 g' : Option Nat} (H : QueueAt w B b o R F g1 g2) (hr : RowAt w' B b o R' g') (hn : newOr w g1 g') (hf : RowFr w w' b o g1) : QTo w w' B b o g1 g2 R' F := by
  have h2 : RowAt w' B b (o + 1) F g2 := H.r2.other hf (by omega) (fun k e h => by have := H.apart (h.trans e.symm); rw [this] at h; cases h)
  refine ⟨⟨g', g2, ⟨hr, h2, fun e => ?_⟩, hn, .inl rfl⟩, QFr.of_row1 H hf⟩
  rcases hn with rfl | ⟨k, rfl, hk⟩
  · exact H.apart e
  · have := (H.r2.g_lt k e.symm).2
    omega
theorem row2_to {w w' : World} {B b o : Nat} {R F F' : List Int} {g1 g2 g' : Option Nat} (H : QueueAt w B b o R F g1 g2) (hr : RowAt w' B b (o + 1) F' g') (hn : newOr w g2 g') (hf : RowFr w w' b (o + 1) g2) : QTo w w' B b o g1 g2 R F' := by
  have h1 : RowAt w' B b o R g1 := H.r1.other hf (by omega) (fun k e h => by have := H.apart (e.trans h.symm); rw [this] at e; cases e)
  refine ⟨⟨g1, g', ⟨h1, hr, fun e => ?_⟩, .inl rfl, hn⟩, QFr.of_row2 H hf⟩
  rcases hn with rfl | ⟨k, rfl, hk⟩
  · exact H.apart e
  · have := (H.r1.g_lt k e).2
    omega

set_option maxRecDepth 100000 in
set_option maxHeartbeats 2000000 in
theorem push1 : Step1 95 pushS := by
  intro w B b o x R F g1 g2 y H hx hxb _ _ hRF hB
  have HQ := Lib.hid H
  have B1 := (Below.refl w.heap.size w).alloc (Nat.le_refl _) (.cells #[.int .i64 y] 3)
  have hr : IntRow (w.alloc (.cells #[.int .i64 y] 3)) (w.heap.size + 1) (some ⟨w.heap.size, 0, none⟩) 1 [y] := Reads.new1 w _ _
  have HR := Lib.hid hr
  have hxl := World.block_lt_of_cell? w _ hx
  clear hr H
  cases hq : inQ R F y with
  | true =>
    have HP := Lib.hid (show pushS R F y = (6, R, F) by simp [pushS, hq])
    have HI := Lib.hid hq
    clear hq
    go_enter Tryz.func95, Tryz.ntmps95
    go_wp2_with fail
    (with_reducible refine (has_any _ B b o R F g1 g2 (HQ.out.below B1 (Nat.le_refl _)) (by omega) (by omega) _ _ 1 1 [y] HR.out (fun ad _ e => by injection e with e; subst e; rfl) (by omega) (by simp)).mono ?_)
    rintro e w1 ⟨rfl, B2⟩
    rw [show [y].all (inQ R F) = true by simp [HI.out]]
    go_wp2_with fail
    go_ret
    rw [HP.out]
    exact ⟨rfl, QTo.of_below HQ.out (B1.trans (B2.mono (by simp)))⟩
  | false =>
    have HP := Lib.hid (show pushS R F y = (0, R ++ [y], F) by simp [pushS, hq])
    have HI := Lib.hid hq
    clear hq
    go_enter Tryz.func95, Tryz.ntmps95
    go_wp2_with fail
    (with_reducible refine (has_any _ B b o R F g1 g2 (HQ.out.below B1 (Nat.le_refl _)) (by omega) (by omega) _ _ 1 1 [y] HR.out (fun ad _ e => by injection e with e; subst e; rfl) (by omega) (by simp)).mono ?_)
    rintro e w1 ⟨rfl, B2⟩
    rw [show [y].all (inQ R F) = false by simp [HI.out]]
    have B3 := B1.trans (B2.mono (by simp))
    have hx1 := (B3.cell (p := ⟨x, 0, none⟩) hxl).trans hx
    have HB := Lib.hid B3
    clear B2 B1 B3 hx
    go_wp2_with fail
    (with_reducible refine (add_any _ B b o R g1 y (HQ.out.below HB.out (Nat.le_refl _)).r1 (by omega) (by have := HB.out.size; omega)).mono ?_)
    rintro e w2 ⟨rfl, g', hr', hn', hf'⟩
    have HT := Lib.hid (QTo.trans (QFr.of_below HQ.out HB.out) (.inl rfl) (.inl rfl) (row1_to (HQ.out.below HB.out (Nat.le_refl _)) hr' hn' hf'))
    clear hr' hn' hf'
    go_wp2_with fail
    go_ret
    rw [HP.out]
    exact ⟨rfl, HT.out⟩

end Go.Proofs.YtbljphaklciinaaGreat

/- queue.Queue's closures of Fill, Wake, Remove; each; Push, Fill, Wake, Remove, walked. -/
namespace Go.Proofs.YtbljphaklciinaaGreat
open Go.RowKit

set_option maxRecDepth 100000 in
set_option maxHeartbeats 2000000 in
theorem fill1 : Step1 77 fillS := by
  intro w B b o x R F g1 g2 y H hx hxb hx1 hx2 hRF hB
  have HQ := Lib.hid H
  have hxl := World.block_lt_of_cell? w _ hx
  clear H
  by_cases hq : y ∈ R
  · have HP := Lib.hid (show fillS R F y = (0, R.erase y, F ++ [y]) by simp [fillS, hq])
    have HL := Lib.hid (length_erase_lt hq)
    have HI := Lib.hid hq
    clear hq
    go_enter Tryz.func77, Tryz.ntmps77
    go_wp2_with fail
    (with_reducible refine (drop_yes _ B b o R g1 y HQ.out.r1 (by omega) HI.out).mono ?_)
    rintro e w1 ⟨rfl, hr1, hf1, hs1⟩
    have HT := Lib.hid (row1_to HQ.out hr1 (.inl rfl) hf1)
    have hx3 : w1.cell? ⟨x, 0, none⟩ = some (.pointer (some ⟨b, o, none⟩)) := (World.cell?_of_block (a := ⟨x, 0, none⟩) (hf1.block x hxl hxb hx1)).trans hx
    have hQ1 : QueueAt w1 B b o (R.erase y) F g1 g2 := ⟨hr1, HQ.out.r2.other hf1 (by omega) (fun k e h => by have := HQ.out.apart (h.trans e.symm); rw [this] at h; cases h), HQ.out.apart⟩
    have HQ1 := Lib.hid hQ1
    have HF := Lib.hid (QFr.of_row1 HQ.out hf1)
    have hsz : w.heap.size ≤ w1.heap.size := hf1.size
    clear hr1 hf1 hs1 hQ1 hx
    go_wp2_with fail
    (with_reducible refine (add_any _ B b (o + 1) F g2 y HQ1.out.r2 (by have := HL.out; omega) (by omega)).mono ?_)
    rintro e w2 ⟨rfl, g', hr', hn', hf'⟩
    have HZ := Lib.hid (QTo.trans HF.out (.inl rfl) (.inl rfl) (row2_to HQ1.out hr' hn' hf'))
    clear hr' hn' hf' HT
    go_wp2_with fail
    go_ret
    rw [HP.out]
    exact ⟨rfl, HZ.out⟩
  · have HP := Lib.hid (show fillS R F y = (5, R, F) by simp [fillS, hq])
    have HI := Lib.hid hq
    clear hq
    go_enter Tryz.func77, Tryz.ntmps77
    go_wp2_with fail
    (with_reducible refine (drop_no _ B b o R g1 y HQ.out.r1 (by omega) HI.out).mono ?_)
    rintro e w1 ⟨rfl, rfl⟩
    go_wp2_with fail
    go_ret
    rw [HP.out]
    exact ⟨rfl, QTo.of_below HQ.out (Below.refl _ _)⟩

set_option maxRecDepth 100000 in
set_option maxHeartbeats 2000000 in
theorem wake1 : Step1 81 wakeS := by
  intro w B b o x R F g1 g2 y H hx hxb hx1 hx2 hRF hB
  have HQ := Lib.hid H
  have hxl := World.block_lt_of_cell? w _ hx
  clear H
  by_cases hq : y ∈ F
  · have HP := Lib.hid (show wakeS R F y = (0, R ++ [y], F.erase y) by simp [wakeS, hq])
    have HL := Lib.hid (length_erase_lt hq)
    have HI := Lib.hid hq
    clear hq
    go_enter Tryz.func81, Tryz.ntmps81
    go_wp2_with fail
    (with_reducible refine (drop_yes _ B b (o + 1) F g2 y HQ.out.r2 (by omega) HI.out).mono ?_)
    rintro e w1 ⟨rfl, hr1, hf1, hs1⟩
    have HT := Lib.hid (row2_to HQ.out hr1 (.inl rfl) hf1)
    have hx3 : w1.cell? ⟨x, 0, none⟩ = some (.pointer (some ⟨b, o, none⟩)) := (World.cell?_of_block (a := ⟨x, 0, none⟩) (hf1.block x hxl hxb hx2)).trans hx
    have hQ1 : QueueAt w1 B b o R (F.erase y) g1 g2 := ⟨HQ.out.r1.other hf1 (by omega) (fun k e h => by have := HQ.out.apart (e.trans h.symm); rw [this] at e; cases e), hr1, HQ.out.apart⟩
    have HQ1 := Lib.hid hQ1
    have HF := Lib.hid (QFr.of_row2 HQ.out hf1)
    have hsz : w.heap.size ≤ w1.heap.size := hf1.size
    clear hr1 hf1 hs1 hQ1 hx
    go_wp2_with fail
    (with_reducible refine (add_any _ B b o R g1 y HQ1.out.r1 (by have := HL.out; omega) (by omega)).mono ?_)
    rintro e w2 ⟨rfl, g', hr', hn', hf'⟩
    have HZ := Lib.hid (QTo.trans HF.out (.inl rfl) (.inl rfl) (row1_to HQ1.out hr' hn' hf'))
    clear hr' hn' hf' HT
    go_wp2_with fail
    go_ret
    rw [HP.out]
    exact ⟨rfl, HZ.out⟩
  · have HP := Lib.hid (show wakeS R F y = (5, R, F) by simp [wakeS, hq])
    have HI := Lib.hid hq
    clear hq
    go_enter Tryz.func81, Tryz.ntmps81
    go_wp2_with fail
    (with_reducible refine (drop_no _ B b (o + 1) F g2 y HQ.out.r2 (by omega) HI.out).mono ?_)
    rintro e w1 ⟨rfl, rfl⟩
    go_wp2_with fail
    go_ret
    rw [HP.out]
    exact ⟨rfl, QTo.of_below HQ.out (Below.refl _ _)⟩

set_option maxRecDepth 100000 in
set_option maxHeartbeats 2000000 in
theorem remove1 : Step1 101 removeS := by
  intro w B b o x R F g1 g2 y H hx hxb hx1 hx2 hRF hB
  have HQ := Lib.hid H
  have hxl := World.block_lt_of_cell? w _ hx
  clear H
  by_cases hq : y ∈ R
  · have HP := Lib.hid (show removeS R F y = (0, R.erase y, F) by simp [removeS, hq])
    have HI := Lib.hid hq
    clear hq
    go_enter Tryz.func101, Tryz.ntmps101
    go_wp2_with fail
    (with_reducible refine (drop_yes _ B b o R g1 y HQ.out.r1 (by omega) HI.out).mono ?_)
    rintro e w1 ⟨rfl, hr1, hf1, hs1⟩
    have HT := Lib.hid (row1_to HQ.out hr1 (.inl rfl) hf1)
    clear hr1 hf1 hs1
    go_wp2_with fail
    go_ret
    rw [HP.out]
    exact ⟨rfl, HT.out⟩
  · by_cases hq2 : y ∈ F
    · have HP := Lib.hid (show removeS R F y = (0, R, F.erase y) by simp [removeS, hq, hq2])
      have HI := Lib.hid hq
      have HI2 := Lib.hid hq2
      clear hq hq2
      go_enter Tryz.func101, Tryz.ntmps101
      go_wp2_with fail
      (with_reducible refine (drop_no _ B b o R g1 y HQ.out.r1 (by omega) HI.out).mono ?_)
      rintro e w1 ⟨rfl, rfl⟩
      go_wp2_with fail
      (with_reducible refine (drop_yes _ B b (o + 1) F g2 y HQ.out.r2 (by omega) HI2.out).mono ?_)
      rintro e w1 ⟨rfl, hr1, hf1, hs1⟩
      have HT := Lib.hid (row2_to HQ.out hr1 (.inl rfl) hf1)
      clear hr1 hf1 hs1
      go_wp2_with fail
      go_ret
      rw [HP.out]
      exact ⟨rfl, HT.out⟩
    · have HP := Lib.hid (show removeS R F y = (5, R, F) by simp [removeS, hq, hq2])
      have HI := Lib.hid hq
      have HI2 := Lib.hid hq2
      clear hq hq2
      go_enter Tryz.func101, Tryz.ntmps101
      go_wp2_with fail
      (with_reducible refine (drop_no _ B b o R g1 y HQ.out.r1 (by omega) HI.out).mono ?_)
      rintro e w1 ⟨rfl, rfl⟩
      go_wp2_with fail
      (with_reducible refine (drop_no _ B b (o + 1) F g2 y HQ.out.r2 (by omega) HI2.out).mono ?_)
      rintro e w1 ⟨rfl, rfl⟩
      go_wp2_with fail
      go_ret
      rw [HP.out]
      exact ⟨rfl, QTo.of_below HQ.out (Below.refl _ _)⟩

/-- No step makes the rows longer than by one. -/
def Slow (S : List Int → List Int → Int → Int × List Int × List Int) : Prop := ∀ R F y, (S R F y).2.1.length + (S R F y).2.2.length ≤ R.length + F.length + 1

theorem slow_push : Slow pushS := fun R F y => by unfold pushS; split <;> simp <;> omega
theorem slow_fill : Slow fillS := fun R F y => by
  unfold fillS; split
  · rename_i h; have := length_erase_lt h; simp; omega
  · simp
theorem slow_wake : Slow wakeS := fun R F y => by
  unfold wakeS; split
  · rename_i h; have := length_erase_lt h; simp; omega
  · simp
theorem slow_remove : Slow removeS := fun R F y => by
  unfold removeS; split
  · rename_i h; have := length_erase_lt h; simp; omega
  · split
    · rename_i h; have := length_erase_lt h; simp; omega
    · simp

theorem eachS_stop {f : List Int → List Int → Int → Int × List Int × List Int} {l : List Int} {R F : List Int} {x : Int} (h : (f R F x).1 ≠ 0) : eachS f (x :: l) R F = f R F x := by simp [eachS, h]
theorem eachS_go {f : List Int → List Int → Int → Int × List Int × List Int} {l : List Int} {R F : List Int} {x : Int} (h : (f R F x).1 = 0) : eachS f (x :: l) R F = eachS f l (f R F x).2.1 (f R F x).2.2 := by simp [eachS, h]

theorem IntRow.below {w w' : World} {N : Nat} {A : Option Addr} {n : Nat} {l : List Int} (h : IntRow w N A n l) (hk : ∀ ad, A = some ad → w'.heap[ad.block]? = w.heap[ad.block]?) : IntRow w' N A n l := by
  refine ⟨h.1, fun hn => ?_⟩
  obtain ⟨ad, e, hb, hc⟩ := h.2 hn
  refine ⟨ad, e, hb, fun j u hu => ?_⟩
  rw [World.cell?_of_block (w := w) (by rw [block_of_add]; exact hk ad e)]
  exact hc j u hu

set_option maxRecDepth 100000 in
set_option maxHeartbeats 4000000 in
theorem each_any (fid : FuncId) (S : List Int → List Int → Int → Int × List Int × List Int) (hS : Step1 fid S) (hslow : Slow S) (hcf : ∀ (vs : Array Value) (w : World), (callFunc fid vs).run Tryz.prog w = .ok (.enter fid vs) w) (w : World) (B b o x : Nat) (R F : List Int) (g1 g2 : Option Nat) (H : QueueAt w B b o R F g1 g2)
    (hx : w.cell? ⟨x, 0, none⟩ = some (.pointer (some ⟨b, o, none⟩))) (hxb : x ≠ b) (hx1 : some x ≠ g1) (hx2 : some x ≠ g2) (hB : B ≤ w.heap.size)
    (N : Nat) (A : Option Addr) (n c : Nat) (l : List Int) (hl : IntRow w N A n l) (hA : ∀ ad, 0 < n → A = some ad → ad.spot = none ∧ ad.block < w.heap.size ∧ ad.block ≠ b ∧ some ad.block ≠ g1 ∧ some ad.block ≠ g2) (hn : R.length + F.length + n ≤ 900000) :
    Calls Tryz.prog 76 #[.pointer (some ⟨b, o, none⟩), .func (.func fid) #[] #[.pointer (some ⟨x, 0, none⟩)], .slice A n c] w fun e w' =>
      e = .returned (.int .i64 (eachS S l R F).1) ∧ QTo w w' B b o g1 g2 (eachS S l R F).2.1 (eachS S l R F).2.2 := by
  have hxl := World.block_lt_of_cell? w _ hx
  have HS := Lib.hid hS
  have HW := Lib.hid hslow
  have HH := Lib.hid hl
  have HA := Lib.hid hA
  have hlen := hl.len
  have HL := Lib.hid hlen
  have HQ := Lib.hid H
  have HX := Lib.hid hx
  clear hS hslow hl hA hlen H hx
  go_enter Tryz.func76, Tryz.ntmps76
  go_wp2_with fail
  go_loopw [14] (fun i wr => ∃ (k : Nat) (R' F' : List Int) (k1 k2 : Option Nat), k ≤ n ∧ i = .int .i64 k ∧ Hid (QueueAt wr B b o R' F' k1 k2 ∧ newOr w g1 k1 ∧ newOr w g2 k2 ∧ QFr w wr b o g1 g2 ∧ eachS S l R F = eachS S (l.drop k) R' F') ∧ R'.length + F'.length + (n - k) ≤ 900000) (fun i _ => n - (intOf i).toNat)
  case atStart => exact ⟨0, R, F, g1, g2, by omega, rfl, ⟨HQ.out, .inl rfl, .inl rfl, QFr.of_below HQ.out (Below.refl _ _), by simp⟩, by omega⟩
  case round =>
    obtain ⟨k, R', F', k1, k2, hk, rfl, HR, hb⟩ := hrel
    have hfr := HR.out.2.2.2.1
    have hsz := hfr.size
    by_cases hlt : k < n
    · have hl' : IntRow wr N A n l := HH.out.below (fun ad e => by
        obtain ⟨_, h1, h2, h3, h4⟩ := HA.out ad (by omega) e
        exact hfr.block _ h1 h2 h3 h4)
      obtain ⟨g, off, y, rfl, hy, hc⟩ := hl'.at_ (fun ad e => (HA.out ad (by omega) e).1) hlt
      have hxr : wr.cell? ⟨x, 0, none⟩ = some (.pointer (some ⟨b, o, none⟩)) := (World.cell?_of_block (a := ⟨x, 0, none⟩) (hfr.block x hxl hxb hx1 hx2)).trans HX.out
      have hk1 : some x ≠ k1 := by
        rcases HR.out.2.1 with rfl | ⟨j, rfl, hj⟩
        · exact hx1
        · simp; omega
      have hk2 : some x ≠ k2 := by
        rcases HR.out.2.2.1 with rfl | ⟨j, rfl, hj⟩
        · exact hx2
        · simp; omega
      have HY := Lib.hid hy
      have HD : Hid (l.drop k = y :: l.drop (k + 1)) := by
        rw [List.drop_eq_getElem_cons (by rw [← HL.out]; exact hlt)]
        congr 1
        have h1 := HY.out
        rw [List.getElem?_eq_getElem (by rw [← HL.out]; exact hlt)] at h1
        injection h1
      have HC := Lib.hid (HS.out wr B b o x R' F' k1 k2 y HR.out.1 hxr hxb hk1 hk2 (by omega) (by omega))
      have HV := Lib.hid (HW.out R' F' y)
      clear hy hxr hl' hfr hk1 hk2
      go_wp2_with fail
      refine HC.out.mono ?_
      rintro e w1 ⟨rfl, ⟨j1, j2, hq', m1, m2⟩, hf'⟩
      by_cases h0 : (S R' F' y).1 = 0
      · have hE := HR.out.2.2.2.2
        rw [HD.out, eachS_go h0] at hE
        have HE : Hid (QueueAt w1 B b o (S R' F' y).2.1 (S R' F' y).2.2 j1 j2 ∧ newOr w g1 j1 ∧ newOr w g2 j2 ∧ QFr w w1 b o g1 g2 ∧ eachS S l R F = eachS S (l.drop (k + 1)) (S R' F' y).2.1 (S R' F' y).2.2) :=
          ⟨hq', HR.out.2.1.trans m1 hsz, HR.out.2.2.1.trans m2 hsz, HR.out.2.2.2.1.trans hf' HR.out.2.1 HR.out.2.2.1, hE⟩
        have hb' : (S R' F' y).2.1.length + (S R' F' y).2.2.length + (n - (k + 1)) ≤ 900000 := by have := HV.out; omega
        rw [h0]
        clear h0 hE hq' m1 m2 hf' HC
        go_wp2_with fail
        go_roundw
        case rel => exact ⟨k + 1, _, _, j1, j2, by omega, by go_num, HE, hb'⟩
        case measure => simp [intOf]; omega
      · have hE := HR.out.2.2.2.2
        rw [HD.out, eachS_stop h0] at hE
        have HE := Lib.hid hE
        have HT : Hid (QTo w w1 B b o g1 g2 (S R' F' y).2.1 (S R' F' y).2.2) := QTo.trans HR.out.2.2.2.1 HR.out.2.1 HR.out.2.2.1 ⟨⟨j1, j2, hq', m1, m2⟩, hf'⟩
        have hne : ((S R' F' y).1 != 0) = true := by simpa using h0
        clear h0 hE hq' m1 m2 hf' HC
        go_wp2_with fail
        go_ret
        rw [HE.out]
        exact ⟨rfl, HT.out⟩
    · obtain rfl : k = n := by omega
      have hE := HR.out.2.2.2.2
      rw [List.drop_of_length_le (by rw [← HL.out]; exact Nat.le_refl _)] at hE
      have HE := Lib.hid hE
      clear hE hfr
      go_wp2_with fail
      go_ret
      rw [HE.out]
      exact ⟨rfl, ⟨k1, k2, HR.out.1, HR.out.2.1, HR.out.2.2.1⟩, HR.out.2.2.2.1⟩

set_option maxRecDepth 100000 in
set_option maxHeartbeats 2000000 in
theorem push_any (w : World) (B b o : Nat) (R F : List Int) (g1 g2 : Option Nat) (H : QueueAt w B b o R F g1 g2) (hB : B ≤ w.heap.size)
    (N : Nat) (A : Option Addr) (n c : Nat) (l : List Int) (hl : IntRow w N A n l) (hA : ∀ ad, 0 < n → A = some ad → ad.spot = none ∧ ad.block < w.heap.size ∧ ad.block ≠ b ∧ some ad.block ≠ g1 ∧ some ad.block ≠ g2) (hn : R.length + F.length + n ≤ 900000) (hN : N ≤ w.heap.size) :
    Calls Tryz.prog 56 #[.pointer (some ⟨b, o, none⟩), .slice A n c] w fun e w' =>
      e = .returned (.int .i64 (eachS pushS l R F).1) ∧ QTo w w' B b o g1 g2 (eachS pushS l R F).2.1 (eachS pushS l R F).2.2 := by
  have hb := H.r1.lt
  have B1 := (Below.refl w.heap.size w).alloc (Nat.le_refl _) (.cells #[.pointer (some ⟨b, o, none⟩)] 98)
  have HQ := Lib.hid H
  have HL := Lib.hid (IntRow.alloc hl hN (.cells #[.pointer (some ⟨b, o, none⟩)] 98))
  have HA := Lib.hid hA
  have hx1 : some w.heap.size ≠ g1 := fun e => by have := (H.r1.g_lt _ e.symm).2; omega
  have hx2 : some w.heap.size ≠ g2 := fun e => by have := (H.r2.g_lt _ e.symm).2; omega
  clear H hl hA
  go_enter Tryz.func56, Tryz.ntmps56
  go_wp2_with fail
  (with_reducible refine (each_any 95 pushS push1 slow_push (fun _ _ => rfl) _ B b o w.heap.size R F g1 g2 (HQ.out.below B1 (Nat.le_refl _)) (by go_simp) (by omega) hx1 hx2 (by simp; omega) N A n c l HL.out
    (fun ad h0 e => by obtain ⟨h1, h2, h3⟩ := HA.out ad h0 e; exact ⟨h1, by simp; omega, h3⟩) hn).mono ?_)
  rintro e w1 ⟨rfl, ht⟩
  have HT := Lib.hid (QTo.trans (QFr.of_below HQ.out B1) (.inl rfl) (.inl rfl) ht)
  clear ht
  go_wp2_with fail
  go_ret
  exact ⟨rfl, HT.out⟩

set_option maxRecDepth 100000 in
set_option maxHeartbeats 2000000 in
theorem remove_any (w : World) (B b o : Nat) (R F : List Int) (g1 g2 : Option Nat) (H : QueueAt w B b o R F g1 g2) (hB : B ≤ w.heap.size)
    (N : Nat) (A : Option Addr) (n c : Nat) (l : List Int) (hl : IntRow w N A n l) (hA : ∀ ad, 0 < n → A = some ad → ad.spot = none ∧ ad.block < w.heap.size ∧ ad.block ≠ b ∧ some ad.block ≠ g1 ∧ some ad.block ≠ g2) (hn : R.length + F.length + n ≤ 900000) (hN : N ≤ w.heap.size) :
    Calls Tryz.prog 61 #[.pointer (some ⟨b, o, none⟩), .slice A n c] w fun e w' =>
      e = .returned (.int .i64 (eachS removeS l R F).1) ∧ QTo w w' B b o g1 g2 (eachS removeS l R F).2.1 (eachS removeS l R F).2.2 := by
  have hb := H.r1.lt
  have B1 := (Below.refl w.heap.size w).alloc (Nat.le_refl _) (.cells #[.pointer (some ⟨b, o, none⟩)] 98)
  have HQ := Lib.hid H
  have HL := Lib.hid (IntRow.alloc hl hN (.cells #[.pointer (some ⟨b, o, none⟩)] 98))
  have HA := Lib.hid hA
  have hx1 : some w.heap.size ≠ g1 := fun e => by have := (H.r1.g_lt _ e.symm).2; omega
  have hx2 : some w.heap.size ≠ g2 := fun e => by have := (H.r2.g_lt _ e.symm).2; omega
  clear H hl hA
  go_enter Tryz.func61, Tryz.ntmps61
  go_wp2_with fail
  (with_reducible refine (each_any 101 removeS remove1 slow_remove (fun _ _ => rfl) _ B b o w.heap.size R F g1 g2 (HQ.out.below B1 (Nat.le_refl _)) (by go_simp) (by omega) hx1 hx2 (by simp; omega) N A n c l HL.out
    (fun ad h0 e => by obtain ⟨h1, h2, h3⟩ := HA.out ad h0 e; exact ⟨h1, by simp; omega, h3⟩) hn).mono ?_)
  rintro e w1 ⟨rfl, ht⟩
  have HT := Lib.hid (QTo.trans (QFr.of_below HQ.out B1) (.inl rfl) (.inl rfl) ht)
  clear ht
  go_wp2_with fail
  go_ret
  exact ⟨rfl, HT.out⟩

set_option maxRecDepth 100000 in
set_option maxHeartbeats 2000000 in
theorem fill_any (w : World) (B b o : Nat) (R F : List Int) (g1 g2 : Option Nat) (x : Int) (H : QueueAt w B b o R F g1 g2) (hB : B ≤ w.heap.size) (hn : R.length + F.length + 1 ≤ 900000) :
    Calls Tryz.prog 44 #[.pointer (some ⟨b, o, none⟩), .int .i64 x] w fun e w' =>
      e = .returned (.int .i64 (fillS R F x).1) ∧ QTo w w' B b o g1 g2 (fillS R F x).2.1 (fillS R F x).2.2 := by
  have hb := H.r1.lt
  have B1 := ((Below.refl w.heap.size w).alloc (Nat.le_refl _) (.cells #[.pointer (some ⟨b, o, none⟩)] 98)).alloc (by simp) (.cells #[.int .i64 x] 3)
  have HQ := Lib.hid H
  have hl : IntRow ((w.alloc (.cells #[.pointer (some ⟨b, o, none⟩)] 98)).alloc (.cells #[.int .i64 x] 3)) (w.heap.size + 1 + 1) (some ⟨w.heap.size + 1, 0, none⟩) 1 [x] := by
    have h := Reads.new1 (w.alloc (.cells #[.pointer (some ⟨b, o, none⟩)] 98)) (.int .i64 x) 3
    unfold IntRow
    simpa using h
  have HL := Lib.hid hl
  have hx1 : some w.heap.size ≠ g1 := fun e => by have := (H.r1.g_lt _ e.symm).2; omega
  have hx2 : some w.heap.size ≠ g2 := fun e => by have := (H.r2.g_lt _ e.symm).2; omega
  have hy1 : some (w.heap.size + 1) ≠ g1 := fun e => by have := (H.r1.g_lt _ e.symm).2; omega
  have hy2 : some (w.heap.size + 1) ≠ g2 := fun e => by have := (H.r2.g_lt _ e.symm).2; omega
  have he : eachS fillS [x] R F = fillS R F x := by
    by_cases h : (fillS R F x).1 = 0
    · rw [eachS_go h]
      simp only [eachS]
      rw [← h]
    · rw [eachS_stop h]
  have HE := Lib.hid he
  clear H hl he
  go_enter Tryz.func44, Tryz.ntmps44
  go_wp2_with fail
  (with_reducible refine (each_any 77 fillS fill1 slow_fill (fun _ _ => rfl) _ B b o w.heap.size R F g1 g2 (HQ.out.below B1 (Nat.le_refl _)) (by go_simp) (by omega) hx1 hx2 (by simp; omega) _ _ 1 1 [x] HL.out
    (fun ad _ e => by injection e with e; subst e; exact ⟨rfl, by simp, by simp; omega, hy1, hy2⟩) hn).mono ?_)
  rintro e w1 ⟨rfl, ht⟩
  rw [HE.out] at ht
  rw [HE.out]
  have HT := Lib.hid (QTo.trans (QFr.of_below HQ.out B1) (.inl rfl) (.inl rfl) ht)
  clear ht
  go_wp2_with fail
  go_ret
  exact ⟨rfl, HT.out⟩

set_option maxRecDepth 100000 in
set_option maxHeartbeats 2000000 in
theorem wake_any (w : World) (B b o : Nat) (R F : List Int) (g1 g2 : Option Nat) (x : Int) (H : QueueAt w B b o R F g1 g2) (hB : B ≤ w.heap.size) (hn : R.length + F.length + 1 ≤ 900000) :
    Calls Tryz.prog 46 #[.pointer (some ⟨b, o, none⟩), .int .i64 x] w fun e w' =>
      e = .returned (.int .i64 (wakeS R F x).1) ∧ QTo w w' B b o g1 g2 (wakeS R F x).2.1 (wakeS R F x).2.2 := by
  have hb := H.r1.lt
  have B1 := ((Below.refl w.heap.size w).alloc (Nat.le_refl _) (.cells #[.pointer (some ⟨b, o, none⟩)] 98)).alloc (by simp) (.cells #[.int .i64 x] 3)
  have HQ := Lib.hid H
  have hl : IntRow ((w.alloc (.cells #[.pointer (some ⟨b, o, none⟩)] 98)).alloc (.cells #[.int .i64 x] 3)) (w.heap.size + 1 + 1) (some ⟨w.heap.size + 1, 0, none⟩) 1 [x] := by
    have h := Reads.new1 (w.alloc (.cells #[.pointer (some ⟨b, o, none⟩)] 98)) (.int .i64 x) 3
    unfold IntRow
    simpa using h
  have HL := Lib.hid hl
  have hx1 : some w.heap.size ≠ g1 := fun e => by have := (H.r1.g_lt _ e.symm).2; omega
  have hx2 : some w.heap.size ≠ g2 := fun e => by have := (H.r2.g_lt _ e.symm).2; omega
  have hy1 : some (w.heap.size + 1) ≠ g1 := fun e => by have := (H.r1.g_lt _ e.symm).2; omega
  have hy2 : some (w.heap.size + 1) ≠ g2 := fun e => by have := (H.r2.g_lt _ e.symm).2; omega
  have he : eachS wakeS [x] R F = wakeS R F x := by
    by_cases h : (wakeS R F x).1 = 0
    · rw [eachS_go h]
      simp only [eachS]
      rw [← h]
    · rw [eachS_stop h]
  have HE := Lib.hid he
  clear H hl he
  go_enter Tryz.func46, Tryz.ntmps46
  go_wp2_with fail
  (with_reducible refine (each_any 81 wakeS wake1 slow_wake (fun _ _ => rfl) _ B b o w.heap.size R F g1 g2 (HQ.out.below B1 (Nat.le_refl _)) (by go_simp) (by omega) hx1 hx2 (by simp; omega) _ _ 1 1 [x] HL.out
    (fun ad _ e => by injection e with e; subst e; exact ⟨rfl, by simp, by simp; omega, hy1, hy2⟩) hn).mono ?_)
  rintro e w1 ⟨rfl, ht⟩
  rw [HE.out] at ht
  rw [HE.out]
  have HT := Lib.hid (QTo.trans (QFr.of_below HQ.out B1) (.inl rfl) (.inl rfl) ht)
  clear ht
  go_wp2_with fail
  go_ret
  exact ⟨rfl, HT.out⟩

end Go.Proofs.YtbljphaklciinaaGreat

/- slices.Clone, slices.Grow (of nil), slices.Concat (of two), at []int, walked. -/
namespace Go.Proofs.YtbljphaklciinaaGreat
open Go.RowKit

theorem oneCell_ints {l : List Int} : ∀ u ∈ l.map (Value.int .i64), u.oneCell' = true := fun u hu => by
  obtain ⟨y, _, rfl⟩ := List.mem_map.1 hu
  rfl

theorem eql_nil_ints (w : World) (A : Option Addr) (n c : Nat) : (binOp .eql 100 (.slice A n c) (.slice none 0 0)).run Tryz.prog w = .ok (.bool A.isNone) w := by
  simp only [binOp]
  simp [Op.equal, Op.maxDepth, Lib.run_equalIn_slice_nil w 9999 100 3 A n c 0 0 Tryz.underlying100]

/-- A new row of ints, of the call's own. -/
def NewInts (w : World) (l : List Int) (e : Ending) (w' : World) : Prop :=
  ∃ v, e = .returned v ∧ w'.ownsRow w.heap.size 3 1 v l.length (l.map (.int .i64)) ∧ Below w.heap.size w w'

set_option maxRecDepth 100000 in
set_option maxHeartbeats 2000000 in
theorem clone_some (w : World) (N : Nat) (ad : Addr) (n c : Nat) (l : List Int) (hl : IntRow w N (some ad) n l) (hN : N ≤ w.heap.size) (hn : n ≤ 1000000) :
    Calls Tryz.prog 73 #[.slice (some ad) n c] w (NewInts w l) := by
  have hlen := hl.len
  have HL := Lib.hid hlen
  have HH := Lib.hid (IntRow.len hl)
  have HR := Lib.hid (Reads.alloc hl hN (.cells #[] 3))
  obtain ⟨i0, hi0, hz0, hz1, hz2⟩ := info_parts info_int
  clear hlen hl
  have hq := fun w => eql_nil_ints w (some ad) n c
  simp only [Option.isNone_some] at hq
  go_enter Tryz.func73, Tryz.ntmps73
  go_wp2_with (first
    | (at_builtin
       refine wpList_append_any _ rfl (.tmp 5) (.tmp 6) _ rfl w.heap.size 3 i0 _ 1 8 Tryz.underlying100 hi0 hz0 hz1 hz2 rfl (by omega) (.slice (some ⟨w.heap.size, 0, none⟩) 0 0) 0 [] rfl
         (World.ownsRow_made w #[] 0 (Nat.le_refl _) (Nat.zero_le _) rfl) N (some ad) n c (l.map (.int .i64)) rfl HR.out oneCell_ints (by simp only [maxLen]; omega) (by omega) (by simp) ?_
       intro v1 w1 hown1 hg1 hat1
       have H1 := Lib.hid hown1
       have H2 := Lib.hid hg1
       have H3 := Lib.hid hat1
       obtain ⟨A1, n1, c1, rfl⟩ : ∃ A n c, v1 = .slice A n c := by
         rcases hown1.2 with ⟨rfl, _⟩ | ⟨g, cap, cur, rfl, _⟩
         · exact ⟨_, _, _, rfl⟩
         · exact ⟨_, _, _, rfl⟩
       clear hown1 hg1 hat1))
  go_ret
  refine ⟨_, rfl, ?_, ?_⟩
  · have h := H1.out
    rw [Nat.zero_add, List.nil_append, HL.out] at h
    exact h
  · exact ((Below.refl _ w).alloc (Nat.le_refl _) _).grown H2.out (by simp) (fun k e => by simp [Value.ownBlock] at e; omega)

set_option maxHeartbeats 1000000 in
set_option maxRecDepth 100000 in
theorem clone_nil (w : World) : Calls Tryz.prog 73 #[.slice none 0 0] w (NewInts w []) := by
  have hq := fun w => eql_nil_ints w none 0 0
  simp only [Option.isNone_none] at hq
  go_enter Tryz.func73, Tryz.ntmps73
  go_wp2_with fail
  go_ret
  exact ⟨_, rfl, World.ownsRow_nil _ _ _ _, Below.refl _ _⟩

set_option maxRecDepth 100000 in
set_option maxHeartbeats 2000000 in
theorem grow_nil (w : World) (n : Nat) (hn : n ≤ 2000000) : Calls Tryz.prog 127 #[.slice none 0 0, .int .i64 n] w (NewInts w []) := by
  obtain ⟨i0, hi0, hz0, hz1, hz2⟩ := info_parts info_int
  rcases Nat.eq_zero_or_pos n with h0 | h0
  · subst h0
    go_enter Tryz.func127, Tryz.ntmps127
    go_wp2_with fail
    go_ret
    exact ⟨_, rfl, World.ownsRow_nil _ _ _ _, Below.refl _ _⟩
  · have hr : ∀ ty, (Builtin.append_ #[100, 3] ty #[.slice none 0 0, .int .i64 n]).run Tryz.prog w =
        .ok (.slice (some ⟨w.heap.size, 0, none⟩) n (grownCap w n 0 3)) (w.drew.alloc (.cells (Builtin.zeroCells (Value.int .i64 0).cells n ++ Builtin.zeroCells (Value.int .i64 0).cells (grownCap w n 0 3 - n)) 3)) := fun ty =>
      Lib.run_append_nil_zeros w _ _ ty _ i0 _ _ _ Tryz.underlying100 Tryz.underlying3 hi0 hz0 n h0 (by omega) (by omega) (by rw [hz2]; omega)
    have hge := grownCap_ge w n 0 3
    have hle := grownCap_le_maxLen w n 0 3 (by simp only [maxLen]; omega)
    generalize grownCap w n 0 3 = C at *
    have HR := Lib.hid hr
    unfold maxLen at hle
    clear hr
    go_enter Tryz.func127, Tryz.ntmps127
    go_wp2_with (first
      | (at_builtin
         refine Lib.wpList_append_run _ rfl (.tmp 20) (.tmp 21) _ _ rfl _ _ rfl rfl _ _ (HR.out _) ?_))
    go_ret
    refine ⟨_, rfl, ?_, ((Below.refl _ _).drew).alloc (Nat.le_refl _) _⟩
    exact World.ownsRow_made _ _ _ (Nat.le_refl _) (by simp only [maxLen]; omega) (by simp [size_zeroCells, Value.cells]; omega)

theorem grow_nil' (w : World) (m : Int) (h0 : 0 ≤ m) (h1 : m ≤ 2000000) : Calls Tryz.prog 127 #[.slice none 0 0, .int .i64 m] w (NewInts w []) := by
  obtain ⟨n, rfl⟩ := Int.eq_ofNat_of_zero_le h0
  exact grow_nil w n (by omega)

/-- The rows of a Concat: the first k together. -/
def catTo (l1 l2 : List Int) : Nat → List Int
  | 0 => []
  | 1 => l1
  | _ => l1 ++ l2

theorem IntRow.under {w w' : World} {B : Nat} {A : Option Addr} {n : Nat} {l : List Int} (h : IntRow w B A n l) (hb : Below B w w') : IntRow w' B A n l := Reads.below h hb

set_option maxRecDepth 100000 in
set_option maxHeartbeats 4000000 in
theorem concat_two (w : World) (S : Nat) (A1 A2 : Option Addr) (n1 c1 n2 c2 : Nat) (l1 l2 : List Int) (h0 : w.cell? ⟨S, 0, none⟩ = some (.slice A1 n1 c1)) (h1 : w.cell? ⟨S, 1, none⟩ = some (.slice A2 n2 c2))
    (hl1 : IntRow w w.heap.size A1 n1 l1) (hl2 : IntRow w w.heap.size A2 n2 l2) (hn1 : n1 ≤ 1000000) (hn2 : n2 ≤ 1000000) :
    Calls Tryz.prog 97 #[.slice (some ⟨S, 0, none⟩) 2 2] w (NewInts w (l1 ++ l2)) := by
  have e1 := hl1.len
  have e2 := hl2.len
  have E1 := Lib.hid e1
  have E2 := Lib.hid e2
  have H1 := Lib.hid hl1
  have H2 := Lib.hid hl2
  have hSl := World.block_lt_of_cell? w _ h0
  simp only at hSl
  obtain ⟨i0, hi0, hz0, hz1, hz2⟩ := info_parts info_int
  clear e1 e2 hl1 hl2
  go_enter Tryz.func97, Tryz.ntmps97
  go_wp2_with fail
  go_loop [3, 11] (fun z i => ∃ k : Nat, k ≤ 2 ∧ i = .int .i64 k ∧ z = .int .i64 ((if k = 0 then 0 else if k = 1 then n1 else n1 + n2 : Nat) : Int)) (fun _ i => 2 - (intOf i).toNat)
  case atStart => exact ⟨0, by omega, rfl, rfl⟩
  case round =>
    obtain ⟨k, hk, rfl, rfl⟩ := hrel
    rcases (by omega : k = 0 ∨ k = 1 ∨ k = 2) with rfl | rfl | rfl
    · simp only [if_true]
      go_wp2_with fail
      go_round
      case rel => exact ⟨1, by omega, rfl, by simp⟩
      case measure => simp [intOf]
    · have e : (if (1 : Nat) = 0 then 0 else if (1 : Nat) = 1 then n1 else n1 + n2) = n1 := rfl
      rw [e]
      clear e
      go_wp2_with fail
      go_round
      case rel => exact ⟨2, by omega, rfl, by simp⟩
      case measure => simp [intOf]
    · have e : (if (2 : Nat) = 0 then 0 else if (2 : Nat) = 1 then n1 else n1 + n2) = n1 + n2 := rfl
      rw [e]
      clear e
      go_wp2_with fail
      (with_reducible refine (grow_nil' _ _ (by omega) (by omega)).mono ?_)
      rintro e w1 ⟨v1, rfl, hown, B1⟩
      have HO := Lib.hid hown
      have HB := Lib.hid B1
      clear hown B1
      go_wp2_with fail
      go_loopw [6, 27] (fun v i wr => ∃ k : Nat, k ≤ 2 ∧ i = .int .i64 k ∧ Hid (wr.ownsRow w.heap.size 3 1 v (catTo l1 l2 k).length ((catTo l1 l2 k).map (.int .i64)) ∧ Below w.heap.size w wr)) (fun _ i _ => 2 - (intOf i).toNat)
      case atStart => exact ⟨0, by omega, rfl, HO.out, HB.out⟩
      case round =>
        clear HO HB
        obtain ⟨j, hj, rfl, HR⟩ := hrel
        have hBw := HR.out.2
        have hsz := hBw.size
        have g0 := (hBw.cell (p := ⟨S, 0, none⟩) hSl).trans h0
        have g1 := (hBw.cell (p := ⟨S, 1, none⟩) hSl).trans h1
        clear hBw
        rcases (by omega : j = 0 ∨ j = 1 ∨ j = 2) with rfl | rfl | rfl
        · have HC := Lib.hid HR.out.1
          simp only [catTo, List.length_nil, List.map_nil] at HC
          go_wp2_with (first
            | (at_builtin
               refine wpList_append_any _ rfl (.tmp 31) (.tmp 32) _ rfl w.heap.size 3 i0 _ 1 8 Tryz.underlying100 hi0 hz0 hz1 hz2 rfl (by omega) _ 0 [] rfl
                 HC.out w.heap.size A1 n1 c1 (l1.map (.int .i64)) rfl (H1.out.under HR.out.2) oneCell_ints (by simp only [maxLen]; omega) (by omega) hsz ?_
               intro v2 w2 hown2 hg2 hat2
               have HX : Hid (w2.ownsRow w.heap.size 3 1 v2 (catTo l1 l2 1).length ((catTo l1 l2 1).map (.int .i64)) ∧ Below w.heap.size w w2) := by
                 refine ⟨?_, HR.out.2.grown hg2 hsz (fun k e => (HC.out.lt k e).1)⟩
                 have h := hown2
                 rw [Nat.zero_add, List.nil_append, E1.out] at h
                 exact h
               clear hown2 hg2 hat2))
          go_roundw
          case rel => exact ⟨1, by omega, rfl, HX⟩
          case measure => simp [intOf]
        · have HC := Lib.hid HR.out.1
          simp only [catTo] at HC
          go_wp2_with (first
            | (at_builtin
               refine wpList_append_any _ rfl (.tmp 31) (.tmp 32) _ rfl w.heap.size 3 i0 _ 1 8 Tryz.underlying100 hi0 hz0 hz1 hz2 rfl (by omega) _ l1.length (l1.map (.int .i64)) rfl
                 HC.out w.heap.size A2 n2 c2 (l2.map (.int .i64)) rfl (H2.out.under HR.out.2) oneCell_ints (by have := E1.out; simp only [maxLen]; omega) (by have := E1.out; omega) hsz ?_
               intro v2 w2 hown2 hg2 hat2
               have HX : Hid (w2.ownsRow w.heap.size 3 1 v2 (catTo l1 l2 2).length ((catTo l1 l2 2).map (.int .i64)) ∧ Below w.heap.size w w2) := by
                 refine ⟨?_, HR.out.2.grown hg2 hsz (fun k e => (HC.out.lt k e).1)⟩
                 have h := hown2
                 rw [E2.out, ← List.map_append, ← List.length_append] at h
                 exact h
               clear hown2 hg2 hat2))
          go_roundw
          case rel => exact ⟨2, by omega, rfl, HX⟩
          case measure => simp [intOf]
        · go_wp2_with fail
          go_ret
          exact ⟨_, rfl, HR.out.1, HR.out.2⟩

end Go.Proofs.YtbljphaklciinaaGreat

/- queue.Queue's Ready, Full, All, walked. -/
namespace Go.Proofs.YtbljphaklciinaaGreat
open Go.RowKit

/-- A clone of a row that is owned. -/
theorem clone_row {w : World} {B b o : Nat} {l : List Int} {g : Option Nat} (H : RowAt w B b o l g) (hn : l.length ≤ 1000000) :
    ∃ v, w.cell? ⟨b, o, none⟩ = some v ∧ (∃ A n c, v = .slice A n c) ∧ Hid (Calls Tryz.prog 73 #[v] w (NewInts w l)) := by
  obtain ⟨⟨v, hv, hown, _⟩, _, _⟩ := H
  refine ⟨v, hv, ?_, ?_⟩
  · rcases hown.2 with ⟨rfl, _⟩ | ⟨g, cap, cur, rfl, _⟩
    · exact ⟨_, _, _, rfl⟩
    · exact ⟨_, _, _, rfl⟩
  · have hr := hown
    rcases hown.2 with ⟨rfl, h0⟩ | ⟨g, cap, cur, rfl, _⟩
    · obtain rfl := List.eq_nil_of_length_eq_zero h0
      exact clone_nil w
    · exact clone_some w w.heap.size _ _ _ l (Reads.of_own hr) (Nat.le_refl _) hn

set_option maxRecDepth 100000 in
set_option maxHeartbeats 1000000 in
theorem ready_any (w : World) (B b o : Nat) (R F : List Int) (g1 g2 : Option Nat) (H : QueueAt w B b o R F g1 g2) (hn : R.length ≤ 1000000) :
    Calls Tryz.prog 40 #[.pointer (some ⟨b, o, none⟩)] w (NewInts w R) := by
  obtain ⟨v, hv, ⟨A, n, c, rfl⟩, HC⟩ := clone_row H.r1 hn
  clear H
  go_enter Tryz.func40, Tryz.ntmps40
  go_wp2_with fail
  refine HC.out.mono ?_
  rintro e w1 ⟨v1, rfl, ho, hb⟩
  have HO := Lib.hid ho
  have HB := Lib.hid hb
  clear ho hb
  go_wp2_with fail
  go_ret
  exact ⟨_, rfl, HO.out, HB.out⟩

set_option maxRecDepth 100000 in
set_option maxHeartbeats 1000000 in
theorem full_any (w : World) (B b o : Nat) (R F : List Int) (g1 g2 : Option Nat) (H : QueueAt w B b o R F g1 g2) (hn : F.length ≤ 1000000) :
    Calls Tryz.prog 98 #[.pointer (some ⟨b, o, none⟩)] w (NewInts w F) := by
  obtain ⟨v, hv, ⟨A, n, c, rfl⟩, HC⟩ := clone_row H.r2 hn
  clear H
  go_enter Tryz.func98, Tryz.ntmps98
  go_wp2_with fail
  refine HC.out.mono ?_
  rintro e w1 ⟨v1, rfl, ho, hb⟩
  have HO := Lib.hid ho
  have HB := Lib.hid hb
  clear ho hb
  go_wp2_with fail
  go_ret
  exact ⟨_, rfl, HO.out, HB.out⟩

theorem own_slice {w : World} {B : Nat} {v : Value} {l : List Int} (h : w.ownsRow B 3 1 v l.length (l.map (.int .i64))) : ∃ A c, v = .slice A l.length c := by
  obtain ⟨A, c, e, _⟩ := own_ints_shape h
  exact ⟨A, c, e⟩

set_option maxRecDepth 100000 in
set_option maxHeartbeats 2000000 in
theorem all_any (w : World) (B b o : Nat) (R F : List Int) (g1 g2 : Option Nat) (H : QueueAt w B b o R F g1 g2) (hR : R.length ≤ 1000000) (hF : F.length ≤ 1000000) :
    Calls Tryz.prog 57 #[.pointer (some ⟨b, o, none⟩)] w (NewInts w (R ++ F)) := by
  have HQ := Lib.hid H
  clear H
  go_enter Tryz.func57, Tryz.ntmps57
  go_wp2_with fail
  (with_reducible refine (ready_any _ B b o R F g1 g2 HQ.out hR).mono ?_)
  rintro e w1 ⟨v1, rfl, ho1, hb1⟩
  obtain ⟨A1, c1, rfl⟩ := own_slice ho1
  have O1 := Lib.hid ho1
  have B1 := Lib.hid hb1
  clear ho1 hb1
  go_wp2_with fail
  (with_reducible refine (full_any _ B b o R F g1 g2 (HQ.out.below B1.out (Nat.le_refl _)) hF).mono ?_)
  rintro e w2 ⟨v2, rfl, ho2, hb2⟩
  obtain ⟨A2, c2, rfl⟩ := own_slice ho2
  have O2 := Lib.hid ho2
  have B2 := Lib.hid hb2
  have hz : w.heap.size ≤ w2.heap.size := Nat.le_trans B1.out.size B2.out.size
  clear ho2 hb2
  have r1 : IntRow (w2.alloc (.cells #[.slice A1 R.length c1, .slice A2 F.length c2] 100)) (w2.heap.size + 1) A1 R.length R := by
    have h : IntRow w1 w1.heap.size A1 R.length R := Reads.of_own O1.out
    exact Reads.more (Reads.alloc (Reads.more (Reads.below h B2.out) B2.out.size) (Nat.le_refl _) _) (by omega)
  have r2 : IntRow (w2.alloc (.cells #[.slice A1 R.length c1, .slice A2 F.length c2] 100)) (w2.heap.size + 1) A2 F.length F := by
    have h : IntRow w2 w2.heap.size A2 F.length F := Reads.of_own O2.out
    exact Reads.more (Reads.alloc h (Nat.le_refl _) _) (by omega)
  have Q1 := Lib.hid r1
  have Q2 := Lib.hid r2
  clear r1 r2
  go_wp2_with fail
  (with_reducible refine (concat_two _ w2.heap.size A1 A2 R.length c1 F.length c2 R F (by go_simp) (by go_simp) (by simpa using Q1.out) (by simpa using Q2.out) hR hF).mono ?_)
  rintro e w3 ⟨v3, rfl, ho3, hb3⟩
  obtain ⟨A3, c3, rfl⟩ := own_slice ho3
  have O3 := Lib.hid ho3
  have B3 := Lib.hid hb3
  clear ho3 hb3
  go_wp2_with fail
  go_ret
  refine ⟨.slice A3 (R ++ F).length c3, by simp, ?_, ?_⟩
  · obtain ⟨h1, h2⟩ := O3.out
    refine ⟨h1, ?_⟩
    rcases h2 with hn | ⟨g, cap, cur, e, hg, r⟩
    · exact .inl hn
    · exact .inr ⟨g, cap, cur, e, by simp at hg; omega, r⟩
  · exact ((B1.out.trans (B2.out.mono B1.out.size)).alloc hz _).trans (B3.out.mono (by simp; omega))

end Go.Proofs.YtbljphaklciinaaGreat

/- Layer 12 (heap): row, start, key. -/
namespace Go.Proofs.YtbljphaklciinaaGreat
open Go.RowKit

/-- Where a class's queue stands in a heap: which one of the thirteen. -/
def rowIx (c : Int) : Option Nat := if c = -1 then some 12 else if 0 ≤ c ∧ c < 12 then some c.toNat else none

set_option maxRecDepth 100000 in
set_option maxHeartbeats 2000000 in
theorem row_any (w : World) (bh : Nat) (c : Int) (h1 : -9223372036854775808 ≤ c) (h2 : c ≤ 9223372036854775807) :
    Calls Tryz.prog 39 #[.pointer (some ⟨bh, 0, none⟩), .int .i64 c] w fun e w' => e = .returned (.pointer ((rowIx c).map fun i => ⟨bh, 2 * i, none⟩)) ∧ w' = w := by
  by_cases e1 : c = -1
  · subst e1
    go_enter Tryz.func39, Tryz.ntmps39
    go_wp2_with fail
    go_ret
    exact ⟨rfl, rfl⟩
  · have q1 : (c == -1) = false := by simpa using e1
    by_cases e2 : 0 ≤ c ∧ c < 12
    · obtain ⟨k, rfl⟩ : ∃ k : Nat, c = k := ⟨c.toNat, by omega⟩
      have hk : k < 12 := by omega
      have hr : Hid (rowIx (k : Int) = some k) := by
        show _ = _
        unfold rowIx
        rw [if_neg e1, if_pos e2]
        simp
      clear e2 e1
      go_enter Tryz.func39, Tryz.ntmps39
      go_wp2_with fail
      all_goals go_ret
      all_goals rw [hr.out]
      all_goals (refine ⟨?_, rfl⟩; first | rfl | (simp; done) | (simp; omega))
    · have hr : Hid (rowIx c = none) := by
        show _ = _
        unfold rowIx
        rw [if_neg e1, if_neg e2]
      by_cases e3 : c < 0
      · clear e2 e1
        go_enter Tryz.func39, Tryz.ntmps39
        go_wp2_with fail
        go_ret
        rw [hr.out]
        exact ⟨rfl, rfl⟩
      · have e4 : 12 ≤ c := by omega
        clear e2 e1
        go_enter Tryz.func39, Tryz.ntmps39
        go_wp2_with fail
        go_ret
        rw [hr.out]
        exact ⟨rfl, rfl⟩

theorem start_any (w : World) (k : Nat) (hk : k < 1048576) : Calls Tryz.prog 42 #[.int .i64 k] w fun e w' => e = .returned (.int .u64 ((k * 1024 : Nat) : Int)) ∧ w' = w := by
  go_enter Tryz.func42, Tryz.ntmps42
  go_wp2_with fail
  go_ret
  exact ⟨by simp, rfl⟩

variable {w w' : World} {bs bk bt bm pl : Nat} {T : Nat → Bool} {O : Nat → Option Nat} {x t a : Int}
set_option maxRecDepth 100000 in
set_option maxHeartbeats 2000000 in
theorem key_any {bo bp at_ sl : Nat} {c : Int} (h : SegAt w bs bk bt bm pl T O x t a) (ho : OwnedAt w bo bp c at_ sl) (hat : at_ < 16) :
    Calls Tryz.prog 47 #[.pointer (some ⟨bs, 0, none⟩), .pointer (some ⟨bo, 0, none⟩)] w fun e w' => e = .returned (.int .i64 ((pl * 16 + at_ : Nat) : Int)) ∧ ∃ k, w' = w.drewN k := by
  have h64 := h.pl64
  have c2 : w.cell? ⟨bo, 2, none⟩ = some (.int .i64 at_) := by have := ho.cell 2 (by omega); rwa [Nat.zero_add] at this
  have HQ : Hid (∀ z, Calls Tryz.prog 25 #[.pointer (some ⟨bs, 0, none⟩)] (w.drewN z) fun e w' => e = .returned (.int .i64 pl) ∧ w' = w.drewN z) := fun z => segPlace (h.stays (w' := w.drewN z) rfl rfl rfl)
  have HQ0 : Hid (Calls Tryz.prog 25 #[.pointer (some ⟨bs, 0, none⟩)] w fun e w' => e = .returned (.int .i64 pl) ∧ w' = w) := segPlace h
  clear h ho
  go_enter Tryz.func47, Tryz.ntmps47
  go_wp2_with fail
  go_quiet ((first | (go_at_call 25; exact Calls.quiet_of_same (HQ.out _)) | fail))
  go_wp2_with fail
  go_ret
  exact ⟨by simp, nq, rfl⟩
end Go.Proofs.YtbljphaklciinaaGreat

/- The plain law of the queue (XQueueN over the heap seat): each number is in one row at most, once. -/
namespace Go.Proofs.YtbljphaklciinaaGreat

structure QOnce (R F : List Int) : Prop where
  r : R.Nodup
  f : F.Nodup
  apart : ∀ x, x ∈ R → x ∈ F → False

theorem QOnce.nil : QOnce [] [] := ⟨List.nodup_nil, List.nodup_nil, fun _ h => by simp at h⟩

theorem nodup_add {l : List Int} {x : Int} (h : l.Nodup) (hx : x ∉ l) : (l ++ [x]).Nodup := by
  rw [List.nodup_append]
  exact ⟨h, by simp, fun a ha b hb e => by simp at hb; subst hb; subst e; exact hx ha⟩

theorem QOnce.push {R F : List Int} (h : QOnce R F) (x : Int) : QOnce (pushS R F x).2.1 (pushS R F x).2.2 := by
  unfold pushS
  cases hq : inQ R F x with
  | true => simpa using h
  | false =>
    simp [inQ] at hq
    simp only [Bool.false_eq_true, if_false]
    exact ⟨nodup_add h.r hq.1, h.f, fun y hy hf => by
      rcases List.mem_append.1 hy with h1 | h1
      · exact h.apart y h1 hf
      · simp at h1; subst h1; exact hq.2 hf⟩
theorem QOnce.remove {R F : List Int} (h : QOnce R F) (x : Int) : QOnce (removeS R F x).2.1 (removeS R F x).2.2 := by
  unfold removeS
  split
  · exact ⟨h.r.erase x, h.f, fun y hy hf => h.apart y (List.mem_of_mem_erase hy) hf⟩
  · split
    · exact ⟨h.r, h.f.erase x, fun y hy hf => h.apart y hy (List.mem_of_mem_erase hf)⟩
    · exact h
theorem QOnce.fill {R F : List Int} (h : QOnce R F) (x : Int) : QOnce (fillS R F x).2.1 (fillS R F x).2.2 := by
  unfold fillS
  split
  · rename_i hx
    exact ⟨h.r.erase x, nodup_add h.f (fun hf => h.apart x hx hf), fun y hy hf => by
      rcases List.mem_append.1 hf with h1 | h1
      · exact h.apart y (List.mem_of_mem_erase hy) h1
      · simp at h1; subst h1; exact (h.r.mem_erase_iff.1 hy).1 rfl⟩
  · exact h
theorem QOnce.wake {R F : List Int} (h : QOnce R F) (x : Int) : QOnce (wakeS R F x).2.1 (wakeS R F x).2.2 := by
  unfold wakeS
  split
  · rename_i hx
    exact ⟨nodup_add h.r (fun hf => h.apart x hf hx), h.f.erase x, fun y hy hf => by
      rcases List.mem_append.1 hy with h1 | h1
      · exact h.apart y h1 (List.mem_of_mem_erase hf)
      · simp at h1; subst h1; exact (h.f.mem_erase_iff.1 hf).1 rfl⟩
  · exact h

theorem eachS_once {S : List Int → List Int → Int → Int × List Int × List Int} (hS : ∀ R F x, QOnce R F → QOnce (S R F x).2.1 (S R F x).2.2) : ∀ (l R F : List Int), QOnce R F → QOnce (eachS S l R F).2.1 (eachS S l R F).2.2
  | [], R, F, h => h
  | x :: l, R, F, h => by
    by_cases h0 : (S R F x).1 = 0
    · rw [eachS_go h0]; exact eachS_once hS l _ _ (hS R F x h)
    · rw [eachS_stop h0]; exact hS R F x h

theorem QOnce.pushes {R F : List Int} (h : QOnce R F) (l : List Int) : QOnce (eachS pushS l R F).2.1 (eachS pushS l R F).2.2 := eachS_once (fun _ _ x h => h.push x) l R F h
theorem QOnce.removes {R F : List Int} (h : QOnce R F) (l : List Int) : QOnce (eachS removeS l R F).2.1 (eachS removeS l R F).2.2 := eachS_once (fun _ _ x h => h.remove x) l R F h

/-- All that are there are removed. -/
theorem remove_all : ∀ (R F : List Int), QOnce R F → eachS removeS (R ++ F) R F = (0, [], [])
  | [], [], _ => rfl
  | [], x :: F, h => by
    have e : removeS [] (x :: F) x = (0, [], F) := by simp [removeS]
    rw [List.nil_append, eachS_go (by rw [e]), e]
    exact remove_all [] F ⟨List.nodup_nil, (List.nodup_cons.1 h.f).2, fun _ h => by simp at h⟩
  | x :: R, F, h => by
    have e : removeS (x :: R) F x = (0, R, F) := by simp [removeS]
    rw [List.cons_append, eachS_go (by rw [e]), e]
    exact remove_all R F ⟨(List.nodup_cons.1 h.r).2, h.f, fun y hy hf => h.apart y (List.mem_cons_of_mem _ hy) hf⟩

theorem push_all : ∀ (l R : List Int), (R ++ l).Nodup → eachS pushS l R [] = (0, R ++ l, [])
  | [], R, _ => by simp [eachS]
  | x :: l, R, h => by
    have hx : x ∉ R := fun hx => by
      have := (List.nodup_append.1 h).2.2 x hx x (by simp)
      exact this rfl
    have e : pushS R [] x = (0, R ++ [x], []) := by simp [pushS, inQ, hx]
    rw [eachS_go (by rw [e]), e]
    have := push_all l (R ++ [x]) (by simpa using h)
    simpa using this

theorem QOnce.all {R F : List Int} (h : QOnce R F) : (R ++ F).Nodup := by
  rw [List.nodup_append]
  exact ⟨h.r, h.f, fun a ha b hb e => by subst e; exact h.apart a ha hb⟩
end Go.Proofs.YtbljphaklciinaaGreat

/- Layer 12 (heap): a heap as a whole: its segments, their pages, its queues; who owns which block. -/
namespace Go.Proofs.YtbljphaklciinaaGreat
open Go.RowKit

/-- What a block of memory is there for. Blocks of two roles are two. -/
inductive Role where
  | other
  | mem
  | bytes
  | ar (i : Nat)
  | heap (h : Nat)
  | row (h c : Nat) (full : Bool)
  | segs (h : Nat)
  | sg (pl : Nat)
  | mk (pl : Nat)
  | tk (pl : Nat)
  | po (pl at_ : Nat)
  | pp (pl at_ : Nat)

structure PageR where
  bo : Nat
  bp : Nat
  cls : Int
  at_ : Nat
  sl : Nat
  pg : Pg

structure SegR where
  bs : Nat
  bk : Nat
  bt : Nat
  pl : Nat
  x : Int
  t : Int
  a : Int
  P : List PageR

def covers (j : Nat) (p : PageR) : Bool := decide (p.at_ ≤ j ∧ j < p.at_ + p.sl)
def segT (P : List PageR) (j : Nat) : Bool := decide (j = 0) || P.any (covers j)
def segO (P : List PageR) (j : Nat) : Option Nat := (P.find? (covers j)).map (·.bo)

structure PageOk (ro : Nat → Role) (w : World) (bm sz : Nat) (f : Nat → Nat) (pl : Nat) (p : PageR) : Prop where
  own : OwnedAt w p.bo p.bp p.cls p.at_ p.sl
  page : PageAt w p.bp bm p.pg
  inv : PgInv f sz p.pg
  a1 : 1 ≤ p.at_
  s1 : 1 ≤ p.sl
  fit : p.at_ + p.sl ≤ 16
  pf : p.pg.f = pl * 16384 + p.at_ * 1024
  ps : p.pg.n * p.pg.s ≤ p.sl * 1024
  c0 : -1 ≤ p.cls
  c1 : p.cls < 12
  rq : ro p.bo = .po pl p.at_
  rp : ro p.bp = .pp pl p.at_

structure SegOk (ro : Nat → Role) (w : World) (bm sz : Nat) (f : Nat → Nat) (s : SegR) : Prop where
  seg : SegAt w s.bs s.bk s.bt bm s.pl (segT s.P) (segO s.P) s.x s.t s.a
  fit : (s.pl + 1) * 16384 ≤ sz
  pages : ∀ p ∈ s.P, PageOk ro w bm sz f s.pl p
  apart : s.P.Pairwise fun p q => ∀ j, covers j p = true → covers j q = false
  rs : ro s.bs = .sg s.pl
  rk : ro s.bk = .mk s.pl
  rt : ro s.bt = .tk s.pl

/-- A heap. -/
structure HeapR where
  bh : Nat
  ba : Nat
  id : Int
  Q1 : Nat → List Int
  Q2 : Nat → List Int
  g1 : Nat → Option Nat
  g2 : Nat → Option Nat
  gs : Option Nat
  S : List SegR

def segP (S : List SegR) : List Value := S.map fun s => .pointer (some ⟨s.bs, 0, none⟩)

structure HeapAt (ro : Nat → Role) (hn : Nat) (w : World) (B bm sz : Nat) (f : Nat → Nat) (h : HeapR) : Prop where
  rb : ro h.bh = .heap hn
  c26 : w.cell? ⟨h.bh, 26, none⟩ = some (.pointer (some ⟨bm, 0, none⟩))
  c27 : w.cell? ⟨h.bh, 27, none⟩ = some (.pointer (some ⟨h.ba, 0, none⟩))
  c28 : w.cell? ⟨h.bh, 28, none⟩ = some (.int .u64 h.id)
  c29 : ∃ v, w.cell? ⟨h.bh, 29, none⟩ = some v ∧ w.ownsRow B 60 1 v h.S.length (segP h.S) ∧ v.ownBlock = h.gs
  z29 : w.frozen? ⟨h.bh, 29, none⟩ = false
  q : ∀ c, c < 13 → QueueAt w B h.bh (2 * c) (h.Q1 c) (h.Q2 c) (h.g1 c) (h.g2 c)
  qo : ∀ c, c < 13 → QOnce (h.Q1 c) (h.Q2 c)
  r1 : ∀ c, c < 13 → ∀ k, h.g1 c = some k → ro k = .row hn c false
  r2 : ∀ c, c < 13 → ∀ k, h.g2 c = some k → ro k = .row hn c true
  rs : ∀ k, h.gs = some k → ro k = .segs hn
  segs : ∀ s ∈ h.S, SegOk ro w bm sz f s
  pls : h.S.Pairwise fun s t => s.pl ≠ t.pl
  link : ∀ c, c < 13 → ∀ k, k ∈ h.Q1 c ∨ k ∈ h.Q2 c → ∃ s ∈ h.S, ∃ p ∈ s.P, k = ((s.pl * 16 + p.at_ : Nat) : Int) ∧ rowIx p.cls = some c
  len : h.S.length ≤ 64

/-- What a call leaves, by roles. -/
structure RFr (ro : Nat → Role) (w w' : World) (X : Role → Prop) : Prop where
  os : w'.os = w.os
  tape : w'.tape = w.tape
  output : w'.output = w.output
  size : w.heap.size ≤ w'.heap.size
  block : ∀ k, k < w.heap.size → ¬ X (ro k) → w'.heap[k]? = w.heap[k]?

variable {ro : Nat → Role} {hn : Nat} {w w' : World} {B bm bb sz : Nat} {f g : Nat → Nat} {h : HeapR} {X : Role → Prop}

theorem RFr.of_below (hb : Below w.heap.size w w') : RFr ro w w' X := ⟨hb.os, hb.tape, hb.output, hb.size, fun k hk _ => hb.block k hk⟩
theorem RFr.of_fr {S : Nat → Prop} (hf : Fr w w' S) (hs : ∀ k, S k → X (ro k)) : RFr ro w w' X := ⟨hf.os, hf.tape, hf.output, hf.size, fun k hk hn => hf.block k hk (fun hk' => hn (hs k hk'))⟩
theorem RFr.trans {w2 : World} {Y : Role → Prop} (h1 : RFr ro w w' X) (h2 : RFr ro w' w2 X) : RFr ro w w2 X :=
  ⟨h2.os.trans h1.os, h2.tape.trans h1.tape, h2.output.trans h1.output, Nat.le_trans h1.size h2.size, fun k hk hn => (h2.block k (Nat.lt_of_lt_of_le hk h1.size) hn).trans (h1.block k hk hn)⟩

theorem PageOk.fr {pl : Nat} {p : PageR} (hp : PageOk ro w bm sz f pl p) (hf : RFr ro w w' X) (h1 : ¬ X (.po pl p.at_)) (h2 : ¬ X (.pp pl p.at_)) : PageOk ro w' bm sz f pl p :=
  { hp with own := Obj_.of_block hp.own (hf.block _ (Obj_.lt hp.own (by omega)) (by rw [hp.rq]; exact h1)), page := Obj_.of_block hp.page (hf.block _ (Obj_.lt hp.page (by omega)) (by rw [hp.rp]; exact h2)) }
theorem PageOk.mem {pl : Nat} {p : PageR} (hp : PageOk ro w bm sz f pl p) (e : ∀ j, p.pg.f ≤ j → j < p.pg.f + p.pg.n * p.pg.s → g j = f j) : PageOk ro w bm sz g pl p :=
  { hp with inv := hp.inv.congr e }

theorem SegOk.fr {s : SegR} (hs : SegOk ro w bm sz f s) (hf : RFr ro w w' X) (h1 : ¬ X (.sg s.pl)) (h2 : ¬ X (.mk s.pl)) (h3 : ¬ X (.tk s.pl)) (h4 : ∀ p ∈ s.P, ¬ X (.po s.pl p.at_) ∧ ¬ X (.pp s.pl p.at_)) : SegOk ro w' bm sz f s :=
  { hs with seg := hs.seg.stays (hf.block _ hs.seg.lt (by rw [hs.rs]; exact h1)) (hf.block _ hs.seg.marks.lt_b (by rw [hs.rk]; exact h2)) (hf.block _ hs.seg.marks.lt_bt (by rw [hs.rt]; exact h3)),
            pages := fun p hp => (hs.pages p hp).fr hf (h4 p hp).1 (h4 p hp).2 }

/-- The heap behind a call that turns nothing of its. -/
theorem HeapAt.below (H : HeapAt ro hn w B bm sz f h) (hb : Below w.heap.size w w') : HeapAt ro hn w' B bm sz f h := by
  have hlt : h.bh < w.heap.size := World.block_lt_of_cell? w _ H.c26
  have hbh := hb.block _ hlt
  obtain ⟨v, hv, ho, hg⟩ := H.c29
  exact { H with
    c26 := (World.cell?_of_block (a := ⟨h.bh, 26, none⟩) hbh).trans H.c26
    c27 := (World.cell?_of_block (a := ⟨h.bh, 27, none⟩) hbh).trans H.c27
    c28 := (World.cell?_of_block (a := ⟨h.bh, 28, none⟩) hbh).trans H.c28
    c29 := ⟨v, (World.cell?_of_block (a := ⟨h.bh, 29, none⟩) hbh).trans hv, own_stays ho (fun k hk => hb.block k (ho.lt k hk).2), hg⟩
    z29 := (World.frozen?_of_block (a := ⟨h.bh, 29, none⟩) hbh).trans H.z29
    q := fun c hc => (H.q c hc).below hb (Nat.le_refl _)
    segs := fun s hs => (H.segs s hs).fr (X := fun _ => False) (RFr.of_below hb) (fun h => h) (fun h => h) (fun h => h) (fun _ _ => ⟨fun h => h, fun h => h⟩) }
end Go.Proofs.YtbljphaklciinaaGreat
