/- slices.Index, slices.Contains, slices.Delete (of one), slices.Clone, at []int, walked. -/
import Derived.Test.YtpddlnedaleblaaCellRow
import Derived.Laws.AppendOwnNone
namespace Go.Proofs.Ytpddlnedaleblaa
open Go.RowKit

/-- Where a number stands; below 0: nowhere. -/
def idx : List Int → Int → Int
  | [], _ => -1
  | y :: l, x => if y = x then 0 else if idx l x < 0 then -1 else idx l x + 1

theorem idx_lo (l : List Int) (x : Int) : -1 ≤ idx l x := by
  induction l with
  | nil => simp [idx]
  | cons y l ih => simp only [idx]; split <;> (try split) <;> omega
theorem idx_neg {l : List Int} {x : Int} : idx l x < 0 ↔ x ∉ l := by
  induction l with
  | nil => simp [idx]
  | cons y l ih =>
    simp only [idx, List.mem_cons, not_or]
    by_cases h : y = x
    · simp [h]
    · rw [if_neg h]
      have h' : ¬ x = y := fun e => h e.symm
      by_cases hi : idx l x < 0
      · simp [hi, h', ih.1 hi]
      · rw [if_neg hi]
        constructor
        · intro h1; omega
        · intro ⟨_, h2⟩; exact absurd (ih.2 h2) hi
/-- What a search from the left comes to. -/
theorem idx_at {l : List Int} {x : Int} {k : Nat} (hk : l[k]? = some x) (hb : ∀ j, j < k → l[j]? ≠ some x) : idx l x = k := by
  induction l generalizing k with
  | nil => simp at hk
  | cons y l ih =>
    simp only [idx]
    cases k with
    | zero =>
      simp at hk
      simp [hk]
    | succ k =>
      have hy : y ≠ x := fun e => hb 0 (by omega) (by simp [e])
      have h1 := ih (k := k) (by simpa using hk) (fun j hj => by have := hb (j + 1) (by omega); simpa using this)
      rw [if_neg hy, h1, if_neg (by omega)]
      omega
theorem idx_none {l : List Int} {x : Int} (hb : ∀ j, j < l.length → l[j]? ≠ some x) : idx l x = -1 := by
  have h : x ∉ l := fun hm => by
    obtain ⟨j, hj, e⟩ := List.mem_iff_getElem.1 hm
    exact hb j hj (by rw [List.getElem?_eq_getElem hj, e])
  have := idx_neg.2 h
  have := idx_lo l x
  omega

/-- A row of ints as a slice of whatever place. -/
def IntRow (w : World) (B : Nat) (A : Option Addr) (n : Nat) (l : List Int) : Prop := Reads w B 1 A n (l.map (.int .i64))

theorem IntRow.len {w : World} {B : Nat} {A : Option Addr} {n : Nat} {l : List Int} (h : IntRow w B A n l) : n = l.length := by
  have := h.1
  simpa using this.symm

theorem IntRow.at_ {w : World} {B : Nat} {A : Option Addr} {n : Nat} {l : List Int} (h : IntRow w B A n l) (hA : ∀ ad, A = some ad → ad.spot = none) {k : Nat} (hk : k < n) :
    ∃ g off x, A = some ⟨g, off, none⟩ ∧ l[k]? = some x ∧ w.cell? ⟨g, off + k, none⟩ = some (.int .i64 x) := by
  obtain ⟨ad, u, rfl, _, hx, hc⟩ := Reads.at_ h hk
  obtain ⟨g, off, spot⟩ := ad
  have hs := hA _ rfl
  simp only at hs
  subst hs
  rw [List.getElem?_map] at hx
  cases hl : l[k]? with
  | none => rw [hl] at hx; simp at hx
  | some x =>
    rw [hl] at hx
    simp at hx
    subst hx
    refine ⟨g, off, x, rfl, rfl, ?_⟩
    rw [← hc]
    congr 1
    unfold Addr.add
    split
    · rename_i h0; simp [h0]
    · rfl

set_option maxHeartbeats 1000000 in
theorem index_ints (w : World) (B : Nat) (A : Option Addr) (n c : Nat) (l : List Int) (x : Int) (H : IntRow w B A n l) (hA : ∀ ad, A = some ad → ad.spot = none) (hn : n ≤ 9223372036854775807) :
    Calls Try.prog 79 #[.slice A n c, .int .i64 x] w fun e w' => e = .returned (.int .i64 (idx l x)) ∧ w = w' := by
  have HH := Lib.hid H
  have HA := Lib.hid hA
  have hl := H.len
  have HL := Lib.hid hl
  clear hl hA H
  go_enter Try.func79, Try.ntmps79
  go_wp2_with fail
  go_loop [8] (fun i => ∃ k : Nat, k ≤ n ∧ i = .int .i64 k ∧ Hid (∀ j, j < k → l[j]? ≠ some x)) (fun i => n - (intOf i).toNat)
  case atStart => exact ⟨0, by omega, rfl, fun j hj => by omega⟩
  case round =>
    obtain ⟨k, hk, rfl, hb⟩ := hrel
    by_cases hlt : k < n
    · obtain ⟨g, off, y, rfl, hy, hc⟩ := HH.out.at_ HA.out hlt
      by_cases hxy : x = y
      · have HE := Lib.hid (idx_at (hxy ▸ hy) hb)
        subst hxy
        clear hy
        go_wp2_with fail
        go_ret
        rw [HE.out]
        exact ⟨rfl, rfl⟩
      · have hq : (x == y) = false := by simpa using hxy
        have HB : Hid (∀ j, j < k + 1 → l[j]? ≠ some x) := fun j hj => by
          rcases Nat.lt_succ_iff_lt_or_eq.1 hj with h | rfl
          · exact hb j h
          · rw [hy]; intro e; injection e with e; exact hxy e.symm
        clear hxy hy hb
        go_wp2_with fail
        go_round
        case rel => exact ⟨k + 1, by omega, by go_num, HB⟩
        case measure => simp [intOf]; omega
    · obtain rfl : k = n := by omega
      have HE := Lib.hid (idx_none (l := l) (x := x) (fun j hj => hb j (by rw [HL.out]; exact hj)))
      clear hb
      go_wp2_with fail
      go_ret
      rw [HE.out]
      exact ⟨rfl, rfl⟩

set_option maxHeartbeats 400000 in
theorem contains_ints (w : World) (B : Nat) (A : Option Addr) (n c : Nat) (l : List Int) (x : Int) (H : IntRow w B A n l) (hA : ∀ ad, A = some ad → ad.spot = none) (hn : n ≤ 9223372036854775807) :
    Calls Try.prog 71 #[.slice A n c, .int .i64 x] w fun e w' => e = .returned (.bool (decide (x ∈ l))) ∧ w = w' := by
  have HH := Lib.hid H
  have HA := Lib.hid hA
  clear hA H
  go_enter Try.func71, Try.ntmps71
  go_wp2_with fail
  (with_reducible refine (index_ints _ B A n c l x HH.out HA.out hn).mono ?_)
  rintro e w' ⟨rfl, rfl⟩
  have e1 : decide (0 ≤ idx l x) = decide (x ∈ l) := by
    have := @idx_neg l x
    by_cases h : x ∈ l
    · simp only [h, decide_true, decide_eq_true_eq]
      by_cases h2 : idx l x < 0
      · exact absurd h (this.1 h2)
      · omega
    · simp only [h, decide_false, decide_eq_false_iff_not]
      have := this.2 h
      omega
  have E1 := Lib.hid e1
  clear e1
  go_wp2_with fail
  go_ret
  refine ⟨?_, rfl⟩
  rw [← E1.out]
  rfl

theorem info_int : (Try.prog.info? 3).map (fun i => (i.zero, i.size, i.bytes)) = some (some (.int .i64 0), 1, 8) := by kernel_rfl
theorem zero_int (w : World) : (zeroValue 3).run Try.prog w = .ok (.int .i64 0) w := by kernel_rfl

/-- slices.Delete(s, i, i+1), of a row that begins its block: in place; the cells of the rest. -/
def DelTo (w : World) (g : Nat) (t : TypeId) (cap : Nat) (xs : List Value) (i n : Nat) (e : Ending) (w' : World) : Prop :=
  e = .returned (.slice (some ⟨g, 0, none⟩) (n - 1) cap) ∧ w.grownBy w' (some g) ∧ w'.heap.size = w.heap.size ∧
    ∃ cur' : Array Value, w'.heap[g]? = some (.cells cur' t (0, 0)) ∧ cur'.size = cap ∧ cur'.toList.take (n - 1) = xs.eraseIdx i

set_option maxRecDepth 100000 in
set_option maxHeartbeats 4000000 in
theorem delete_int (g cap n i : Nat) (cur : Array Value) (w : World) (hcur : w.heap[g]? = some (.cells cur 3 (0, 0))) (hsz : cur.size = cap) (hn : n ≤ cap) (hcap : cap ≤ maxLen) (hi : i < n)
    (h1c : ∀ u ∈ cur.toList.take n, u.oneCell' = true) :
    Calls Try.prog 80 #[.slice (some ⟨g, 0, none⟩) n cap, .int .i64 i, .int .i64 ((i : Int) + 1)] w (DelTo w g 3 cap (cur.toList.take n) i n) := by
  unfold maxLen at hcap
  obtain ⟨news, hnews⟩ : ∃ news, news = (cur.toList.take n).drop (i + 1) := ⟨_, rfl⟩
  have hlen : news.length = n - (i + 1) := by rw [hnews]; simp; omega
  have s1 : Hid (news.length = (n - (i + 1)) * 1) := by rw [Nat.mul_one]; exact hlen
  have s2 : Hid (∀ u ∈ news, u.oneCell' = true) := fun u hu => h1c u (List.mem_of_mem_drop (hnews ▸ hu))
  have hcell : ∀ j, w.drew.cell? ⟨g, j, none⟩ = cur[j]? := fun j => cell_of_row w g j cur _ _ hcur
  have s3 : Hid (∀ j, j < news.length → (w.drew.cell? ⟨g, 0 + i * 1 + j, none⟩).isSome = true ∧ w.drew.frozen? ⟨g, 0 + i * 1 + j, none⟩ = false) := fun j hj => by
    refine ⟨?_, by have h2 : w.drew.heap[g]? = some (.cells cur 3 (0, 0)) := hcur; simp [World.frozen?, h2]⟩
    rw [hcell, Array.getElem?_eq_getElem (by omega)]
    rfl
  obtain ⟨W1, hW1⟩ : ∃ W1, W1 = w.drew.setCells g (0 + i * 1) news := ⟨_, rfl⟩
  have hb1 : W1.heap[g]? = some (.cells (over cur.toList (0 + i * 1) news).toArray 3 (0, 0)) := by
    rw [hW1]; exact setCells_block g _ news _ w.drew cur hcur (by rw [hlen]; omega)
  have hg1 : w.grownBy W1 (some g) := by
    rw [hW1]; exact setCells_grown g _ _ _ w ⟨rfl, rfl, rfl, Nat.le_refl _, fun _ _ _ => rfl⟩
  have hs1 : W1.heap.size = w.heap.size := by rw [hW1]; exact setCells_size g _ _ _
  obtain ⟨cur1, hcur1⟩ : ∃ cur1, cur1 = (over cur.toList (0 + i * 1) news).toArray := ⟨_, rfl⟩
  rw [← hcur1] at hb1
  have hz1 : cur1.size = cap := by rw [hcur1]; simp [over, hlen]; omega
  have hcl : ∀ ty, (Builtin.clear_ #[51] ty #[.slice (some ⟨g, n - 1, none⟩) 1 (cap - (n - 1))]).run Try.prog W1 = .ok (.tuple #[]) (W1.setCells g (n - 1) (List.replicate 1 (.int .i64 0))) := fun ty =>
    Lib.run_clear_slice W1 _ _ ty _ Try.underlying51 zero_int rfl rfl g (n - 1) _ _ (by omega)
      (fun j hj => by
        have e : W1.cell? ⟨g, n - 1 + j, none⟩ = cur1[n - 1 + j]? := cell_of_row W1 g _ cur1 _ _ hb1
        rw [e, Array.getElem?_eq_getElem (by omega)]; rfl)
      (fun j hj => by simp [World.frozen?, hb1])
  -- what is in the block in the end
  have hb2 : (W1.setCells g (n - 1) (List.replicate 1 (.int .i64 0))).heap[g]? = some (.cells (over cur1.toList (n - 1) (List.replicate 1 (.int .i64 0))).toArray 3 (0, 0)) :=
    setCells_block g _ _ _ W1 cur1 hb1 (by simp; omega)
  have hg2 : w.grownBy (W1.setCells g (n - 1) (List.replicate 1 (.int .i64 0))) (some g) := setCells_grown g _ _ _ w hg1
  have hs2 : (W1.setCells g (n - 1) (List.replicate 1 (.int .i64 0))).heap.size = w.heap.size := (setCells_size g _ _ _).trans hs1
  have hfin : ∃ cur' : Array Value, (W1.setCells g (n - 1) (List.replicate 1 (.int .i64 0))).heap[g]? = some (.cells cur' 3 (0, 0)) ∧ cur'.size = cap ∧ cur'.toList.take (n - 1) = (cur.toList.take n).eraseIdx i := by
    refine ⟨_, hb2, by simp [over]; omega, ?_⟩
    have e1 : (cur.toList.take n).eraseIdx i = cur.toList.take i ++ news := by
      rw [List.eraseIdx_eq_take_drop_succ, hnews, List.take_take, Nat.min_eq_left (by omega)]
    have e3 : (cur.toList.take i ++ news).length = n - 1 := by simp [hlen]; omega
    rw [e1]
    simp only [over]
    rw [List.append_assoc, List.take_append_of_le_length (by simp; omega), List.take_of_length_le (by simp; omega), hcur1]
    simp only [over, Nat.zero_add, Nat.mul_one]
    rw [List.take_append_of_le_length (by rw [e3]; exact Nat.le_refl _), List.take_of_length_le (by rw [e3]; exact Nat.le_refl _)]
  have HF : Hid (DelTo w g 3 cap (cur.toList.take n) i n (.returned (.slice (some ⟨g, 0, none⟩) (n - 1) cap)) (W1.setCells g (n - 1) (List.replicate 1 (.int .i64 0)))) := ⟨rfl, hg2, hs2, hfin⟩
  have HW : Hid (W1 = w.drew.setCells g (0 + i * 1) news) := hW1
  -- where the rest begins
  obtain ⟨A, hA, hsrc⟩ : ∃ A : Addr, (if cap = i + 1 then some (⟨g, 0, none⟩ : Addr) else some ⟨g, i + 1, none⟩) = some A ∧ Hid (∀ j u, news[j]? = some u → w.drew.cell? (A.add j) = some u) := by
    by_cases h : cap = i + 1
    · refine ⟨⟨g, 0, none⟩, by simp [h], fun j u hu => ?_⟩
      have h0 : news.length = 0 := by rw [hlen]; omega
      rw [List.length_eq_zero_iff.1 h0] at hu
      simp at hu
    · refine ⟨⟨g, i + 1, none⟩, by simp [h], fun j u hu => ?_⟩
      have hj := (List.getElem?_eq_some_iff.1 hu).1
      rw [Addr.add_lit, hcell]
      rw [hnews, List.getElem?_drop, List.getElem?_take_of_lt (by omega)] at hu
      rw [← hu, Array.getElem?_toList]
  obtain ⟨i0, hi0, hz0, hzz1, hzz2⟩ := info_parts info_int
  have hne : ((i : Int) == (i : Int) + 1) = false := by simp; omega
  have ek : n - 1 = i + (n - (i + 1)) := by omega
  obtain ⟨W2, hW2⟩ : ∃ W2, W2 = W1.setCells g (n - 1) (List.replicate 1 (.int .i64 0)) := ⟨_, rfl⟩
  rw [← hW2] at HF
  rw [← hW2] at hcl
  clear hW2
  rw [ek] at HF
  have hcl2 : ∀ ty, (Builtin.clear_ #[51] ty #[.slice (some ⟨g, i + (n - (i + 1)), none⟩) (n - (i + (n - (i + 1)))) (cap - (i + (n - (i + 1))))]).run Try.prog W1 = .ok (.tuple #[]) W2 := fun ty => by
    rw [← ek, show n - (n - 1) = 1 by omega]; exact hcl ty
  clear hcl ek
  clear hcell hnews hW1 hlen hb1 hg1 hs1 hcur1 hz1 hb2 hg2 hs2 hfin h1c hcur
  go_enter Try.func80, Try.ntmps80
  go_wp2_with fail
  clear hne
  have hic : i ≤ cap := by omega
  have hjc : i + 1 ≤ cap := by omega
  have hi0' : (0 : Int) ≤ (i : Int) + 1 := by omega
  have hin : (i : Int) + 1 ≤ (n : Int) := by omega
  go_region_law (refine step_append_room rfl (.tmp 22) (.tmp 25) 51 rfl 3 i0 1 Try.underlying51 hi0 hzz1 g 0 i cap (by simp [Act.eval, Act.put]) A (n - (i + 1)) (cap - (i + 1)) news (by simp [Act.eval, Act.put]) s1.out hsrc.out s2.out (by omega) s3.out ?_; rw [← HW.out])
  go_wp2_with fail
  go_ret
  exact HF.out

end Go.Proofs.Ytpddlnedaleblaa
