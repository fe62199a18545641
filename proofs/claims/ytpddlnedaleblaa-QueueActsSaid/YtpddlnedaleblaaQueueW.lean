/- The methods of queue.Queue, walked: at whatever place (b, o) the queue lies: its two rows in blocks of their own. -/
import Derived.Test.YtpddlnedaleblaaSlInts
namespace Go.Proofs.Ytpddlnedaleblaa
open Go.RowKit

/-- A row of ints at one cell: its numbers, and the block that holds them (none: nil). -/
structure RowAt (w : World) (B b o : Nat) (l : List Int) (g : Option Nat) : Prop where
  val : ∃ v, w.cell? ⟨b, o, none⟩ = some v ∧ w.ownsRow B 3 1 v l.length (l.map (.int .i64)) ∧ v.ownBlock = g
  frz : w.frozen? ⟨b, o, none⟩ = false
  ne : g ≠ some b

/-- What a write of a row leaves: its own cell, its block, and what is new, aside. -/
structure RowFr (w w' : World) (b o : Nat) (g : Option Nat) : Prop where
  os : w'.os = w.os
  tape : w'.tape = w.tape
  output : w'.output = w.output
  size : w.heap.size ≤ w'.heap.size
  self : ∃ v, w'.heap[b]? = (w.setCell ⟨b, o, none⟩ v).heap[b]?
  block : ∀ k, k < w.heap.size → k ≠ b → some k ≠ g → w'.heap[k]? = w.heap[k]?

theorem own_ints_shape {w : World} {B : Nat} {v : Value} {l : List Int} (h : w.ownsRow B 3 1 v l.length (l.map (.int .i64))) :
    ∃ A c, v = .slice A l.length c ∧ (∀ ad, A = some ad → ad.spot = none) ∧ l.length ≤ c ∧ c ≤ maxLen ∧ IntRow w w.heap.size A l.length l ∧ (A.map (·.block)) = v.ownBlock := by
  have hr := h
  rcases h.2 with ⟨rfl, hn⟩ | ⟨g, cap, cur, rfl, hg, hh, hle, hcap, hs, ht⟩
  · obtain rfl := List.eq_nil_of_length_eq_zero hn
    exact ⟨none, 0, rfl, (fun _ e => by cases e), Nat.le_refl _, Nat.zero_le _, Reads.none_, rfl⟩
  · exact ⟨_, cap, rfl, (fun ad e => by injection e with e; subst e; rfl), hle, hcap, Reads.of_own hr, rfl⟩

def AddTo (w : World) (B b o : Nat) (l : List Int) (g : Option Nat) (x : Int) (w' : World) : Prop :=
  ∃ g', RowAt w' B b o (l ++ [x]) g' ∧ (g' = g ∨ ∃ k, g' = some k ∧ w.heap.size ≤ k) ∧ RowFr w w' b o g

set_option maxRecDepth 100000 in
set_option maxHeartbeats 2000000 in
theorem add_any (w : World) (B b o : Nat) (l : List Int) (g : Option Nat) (x : Int) (H : RowAt w B b o l g) (hl : l.length ≤ 1000000) (hB : B ≤ w.heap.size) :
    Calls Try.prog 64 #[.pointer (some ⟨b, o, none⟩), .int .i64 x] w fun e w' => e = .returned (.tuple #[]) ∧ AddTo w B b o l g x w' := by
  obtain ⟨⟨v, hv, hown, hg⟩, hf, hne⟩ := H
  have hbl : b < w.heap.size := World.block_lt_of_cell? w _ hv
  obtain ⟨i0, hi0, hz0, hz1, hz2⟩ := info_parts info_int
  obtain ⟨A, c, rfl, _, _, _, _, _⟩ := own_ints_shape hown
  have HO := Lib.hid hown
  have HG := Lib.hid hg
  clear hown hg
  go_enter Try.func64, Try.ntmps64
  go_wp2_with (first
    | (at_builtin
       refine wpList_append_any _ rfl (.tmp 8) (.tmp 10) _ rfl B 3 i0 _ 1 8 Try.underlying51 hi0 hz0 hz1 hz2 rfl (by omega) (.slice A l.length c) l.length (l.map (.int .i64)) rfl
         (HO.out.alloc _) _ _ 1 1 [.int .i64 x] rfl (Reads.new1 w _ _) (fun u hu => by simp at hu; subst hu; rfl) (by simp only [maxLen]; omega) (by omega) (by simp; omega) ?_
       intro v1 w1 hown1 hg1 hat1
       have G1 := (World.grownBy_alloc w (.cells #[.int .i64 x] 3) ((Value.slice A l.length c).ownBlock))
       have c1 : w1.cell? ⟨b, o, none⟩ = some (.slice A l.length c) := hg1.cell ((World.cell?_alloc_lt w _ ⟨b, o, none⟩ hbl).trans hv) (by rw [HG.out]; exact fun e => hne e.symm)
       have f1 : w1.frozen? ⟨b, o, none⟩ = false := (World.frozen?_of_block (hg1.block b (by simp; omega) (by rw [HG.out]; exact fun e => hne e.symm))).trans ((World.frozen?_of_block (Below.heap_alloc w _ b hbl)).trans hf)
       have H1 := Lib.hid hown1
       have H2 := Lib.hid hg1
       have H3 := Lib.hid hat1
       obtain ⟨gb, cap4, rfl, hgb, hgl⟩ := hown1.form (by omega)
       clear hown1 hg1 hat1 G1))
  go_end0
  have hat := H3.out
  rw [HG.out] at hat
  have hgb2 : some gb ≠ some b := by
    rcases hat with e | e
    · simp only [Value.ownBlock] at e; rw [e]; exact hne
    · simp only [Value.ownBlock, Option.some.injEq] at e; simp at e; simp; omega
  have hgr := H2.out
  rw [HG.out] at hgr
  refine ⟨rfl, some gb, ⟨⟨.slice (some ⟨gb, 0, none⟩) (l.length + 1) cap4, by go_simp, ?_, rfl⟩, by go_simp, hgb2⟩, ?_, ?_⟩
  · have h := H1.out
    have e1 : (l ++ [x]).length = l.length + 1 := by simp
    have e2 : (l ++ [x]).map (Value.int .i64) = l.map (.int .i64) ++ [.int .i64 x] := by simp
    rw [e1, e2]
    exact h.kept (only_set (World.grownBy.refl _ _) _) (.inr hgb2)
  · rcases hat with e | e
    · exact .inl e
    · refine .inr ⟨gb, rfl, ?_⟩
      simp only [Value.ownBlock, Option.some.injEq] at e
      simp at e
      omega
  · refine ⟨hgr.os, hgr.tape, hgr.output, ?_, ⟨.slice (some ⟨gb, 0, none⟩) (l.length + 1) cap4, ?_⟩, fun k hk hkb hkg => ?_⟩
    · have := hgr.size
      simp [World.setCell] at this ⊢
      omega
    · have e : w1.heap[b]? = w.heap[b]? := (hgr.block b (by simp; omega) (fun e => hne e.symm)).trans (Below.heap_alloc w _ b hbl)
      simp only [World.setCell, Array.getElem?_modify, if_true]
      rw [e]
    · rw [Below.heap_setCell _ _ _ _ hkb]
      exact (hgr.block k (by simp; omega) hkg).trans (Below.heap_alloc w _ k hk)

/-- What a drop leaves: the number out of the row. -/
def DropTo (w : World) (B b o : Nat) (l : List Int) (g : Option Nat) (x : Int) (e : Ending) (w' : World) : Prop :=
  e = .returned (.bool (decide (x ∈ l))) ∧ RowAt w' B b o (l.erase x) g ∧ RowFr w w' b o g ∧ w'.heap.size = w.heap.size

theorem map_eraseIdx {α β : Type} (f : α → β) : ∀ (l : List α) (i : Nat), (l.map f).eraseIdx i = (l.eraseIdx i).map f
  | [], _ => by simp
  | _ :: _, 0 => by simp
  | _ :: l, i + 1 => by simp [map_eraseIdx f l i]

theorem erase_idx {l : List Int} {x : Int} (h : x ∈ l) : l.eraseIdx (idx l x).toNat = l.erase x := by
  induction l with
  | nil => cases h
  | cons y l ih =>
    simp only [idx]
    by_cases hy : y = x
    · subst hy
      simp
    · have hm : x ∈ l := by
        rcases List.mem_cons.1 h with rfl | h
        · exact absurd rfl hy
        · exact h
      have hn : ¬ idx l x < 0 := fun hc => idx_neg.1 hc hm
      rw [if_neg hy, if_neg hn, List.erase_cons_tail (by simpa using hy)]
      rw [show (idx l x + 1).toNat = (idx l x).toNat + 1 by omega, List.eraseIdx_cons_succ, ih hm]
theorem idx_lt {l : List Int} {x : Int} (h : x ∈ l) : idx l x < l.length := by
  induction l with
  | nil => cases h
  | cons y l ih =>
    simp only [idx, List.length_cons]
    by_cases hy : y = x
    · rw [if_pos hy]; omega
    · have hm : x ∈ l := by
        rcases List.mem_cons.1 h with rfl | h
        · exact absurd rfl hy
        · exact h
      have := ih hm
      rw [if_neg hy]
      split <;> omega

theorem rowFr_refl {w : World} {B b o : Nat} {l : List Int} {g : Option Nat} (H : RowAt w B b o l g) : RowFr w w b o g := by
  obtain ⟨⟨v, hv, _, _⟩, _, _⟩ := H
  refine ⟨rfl, rfl, rfl, Nat.le_refl _, ⟨v, ?_⟩, fun _ _ _ _ => rfl⟩
  have hbl : b < w.heap.size := World.block_lt_of_cell? w _ hv
  simp only [World.setCell, Array.getElem?_modify, if_true]
  have hv' := hv
  simp only [World.cell?] at hv'
  cases hb : w.heap[b]? with
  | none => rfl
  | some ob =>
    rw [hb] at hv'
    cases ob with
    | cells c t fr =>
      simp at hv'
      simp only [Option.map_some, Option.isSome_none, Bool.false_eq_true, if_false, Option.some.injEq]
      congr 1
      apply Array.ext_getElem?
      intro i
      rw [Array.getElem?_setIfInBounds]
      split
      · rename_i h
        subst h
        split
        · exact hv'
        · rename_i h2; exact (Array.getElem?_eq_none (by omega))
      · rfl
    | _ => rfl

set_option maxRecDepth 100000 in
set_option maxHeartbeats 2000000 in
theorem drop_no (w : World) (B b o : Nat) (l : List Int) (g : Option Nat) (x : Int) (H : RowAt w B b o l g) (hl : l.length ≤ 1000000) (hx : x ∉ l) :
    Calls Try.prog 66 #[.pointer (some ⟨b, o, none⟩), .int .i64 x] w fun e w' => e = .returned (.bool false) ∧ w = w' := by
  obtain ⟨⟨v, hv, hown, hg⟩, hf, hne⟩ := H
  obtain ⟨A, c, rfl, hA, hc1, hc2, hrow, _⟩ := own_ints_shape hown
  have hi : idx l x < 0 := idx_neg.2 hx
  have HR := Lib.hid hrow
  have HA := Lib.hid hA
  clear hown hg hrow hA hx
  go_enter Try.func66, Try.ntmps66
  go_wp2_with fail
  (with_reducible refine (index_ints _ _ A l.length c l x HR.out HA.out (by omega)).mono ?_)
  rintro e w' ⟨rfl, rfl⟩
  go_wp2_with fail
  go_ret
  exact ⟨rfl, rfl⟩

set_option maxRecDepth 100000 in
set_option maxHeartbeats 2000000 in
theorem drop_yes (w : World) (B b o : Nat) (l : List Int) (g : Option Nat) (x : Int) (H : RowAt w B b o l g) (hl : l.length ≤ 1000000) (hx : x ∈ l) :
    Calls Try.prog 66 #[.pointer (some ⟨b, o, none⟩), .int .i64 x] w fun e w' =>
      e = .returned (.bool true) ∧ RowAt w' B b o (l.erase x) g ∧ RowFr w w' b o g ∧ w'.heap.size = w.heap.size := by
  obtain ⟨⟨v, hv, hown, hg⟩, hf, hne⟩ := H
  have hbl : b < w.heap.size := World.block_lt_of_cell? w _ hv
  have hpos : 0 < l.length := List.length_pos_of_mem hx
  obtain ⟨A, c, rfl, hA, hc1, hc2, hrow, _⟩ := own_ints_shape hown
  rcases hown.2 with ⟨e, _⟩ | ⟨gb, cap, cur, e, hgB, hcur, hle, hcap, hsz, htake⟩
  · simp only [Value.slice.injEq] at e; omega
  · simp only [Value.slice.injEq, true_and] at e
    obtain ⟨rfl, rfl⟩ := e
    simp only [Value.ownBlock] at hg
    subst hg
    have hi0 : ¬ idx l x < 0 := fun hc => idx_neg.1 hc hx
    have hil := idx_lt hx
    have hgl : gb < w.heap.size := block_lt_of_blk hcur
    have hee := erase_idx hx
    rw [Nat.mul_one] at htake hsz
    obtain ⟨i, hii⟩ : ∃ i : Nat, idx l x = i := ⟨(idx l x).toNat, by omega⟩
    rw [hii] at hil hee
    have hil' : i < l.length := by omega
    have h1c : ∀ u ∈ cur.toList.take l.length, u.oneCell' = true := fun u hu => by
      rw [htake] at hu
      obtain ⟨y, _, rfl⟩ := List.mem_map.1 hu
      rfl
    have HD := Lib.hid (delete_int gb c l.length i cur w hcur (by omega) hle hcap hil' h1c)
    have HR := Lib.hid hrow
    have HA := Lib.hid hA
    have HI := Lib.hid hii
    have HT := Lib.hid htake
    have HE := Lib.hid hee
    clear hown hrow hA hx hii htake hee hcur hsz h1c hi0 hil
    have hw : IntKind.i64.wrap ((i : Int) + 1) = (i : Int) + 1 := by simp only [IntKind.wrap_i64]; omega
    go_enter Try.func66, Try.ntmps66
    go_wp2_with fail
    (with_reducible refine (index_ints _ _ _ l.length c l x HR.out HA.out (by omega)).mono ?_)
    rintro e w' ⟨rfl, rfl⟩
    rw [HI.out]
    go_wp2_with fail
    refine HD.out.mono ?_
    rintro e w1 ⟨rfl, hg1, hs1, cur', hcur', hsz', ht'⟩
    have c1 : w1.cell? ⟨b, o, none⟩ = some (.slice (some ⟨gb, 0, none⟩) l.length c) := hg1.cell hv (fun e => hne e.symm)
    have f1 : w1.frozen? ⟨b, o, none⟩ = false := (World.frozen?_of_block (hg1.block b hbl (fun e => hne e.symm))).trans hf
    have HG := Lib.hid hg1
    have HS := Lib.hid hs1
    have HC := Lib.hid hcur'
    have HZ := Lib.hid hsz'
    have HT' := Lib.hid ht'
    clear hg1 hs1 hcur' hsz' ht'
    go_wp2_with fail
    go_ret
    have hel : (l.erase x).length = l.length - 1 := by rw [← HE.out, Int.toNat_natCast, List.length_eraseIdx_of_lt hil']
    refine ⟨rfl, ⟨⟨.slice (some ⟨gb, 0, none⟩) (l.length - 1) c, by go_simp, ?_, rfl⟩, by go_simp, hne⟩, ?_, by simp [World.setCell, HS.out]⟩
    · rw [hel]
      refine ⟨by simp [hel], .inr ⟨gb, c, cur', rfl, hgB, ?_, by omega, hcap, by rw [HZ.out]; omega, ?_⟩⟩
      · rw [Below.heap_setCell _ _ _ _ (by simp only; intro e; exact hne (by rw [e]))]
        exact HC.out
      · rw [Nat.mul_one, HT'.out, HT.out, ← HE.out, Int.toNat_natCast, map_eraseIdx]
    · refine ⟨HG.out.os, HG.out.tape, HG.out.output, by simp [World.setCell, HS.out], ⟨.slice (some ⟨gb, 0, none⟩) (l.length - 1) c, ?_⟩, fun k hk hkb hkg => ?_⟩
      · have e : w1.heap[b]? = w.heap[b]? := HG.out.block b hbl (fun e => hne e.symm)
        simp only [World.setCell, Array.getElem?_modify, if_true]
        rw [e]
      · rw [Below.heap_setCell _ _ _ _ hkb]
        exact HG.out.block k hk hkg

end Go.Proofs.Ytpddlnedaleblaa
