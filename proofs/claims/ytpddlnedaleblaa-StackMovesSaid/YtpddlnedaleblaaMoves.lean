/- Moves of a stack of a law's own, kept in a slice of pointers. -/
import Derived.Test.YtpddlnedaleblaaStackOnceV
import Derived.Test.YtpddlnedaleblaaRef11c
import Derived.Test.YtpddlnedaleblaaArgs
namespace Go.Proofs.Ytpddlnedaleblaa
open Go.RowKit

def mptr (m : Nat) : Value := .pointer (some ⟨m, 0, none⟩)
theorem info_move : (Try.prog.info? 73).map (fun i => (i.zero, i.size, i.bytes)) = some (some (.pointer none), 1, 8) := by kernel_rfl

structure MvSt (W w : World) (b : Nat) (s : Stk) (v : Value) (ms : List Nat) (vs : List Mv) : Prop where
  st : SSt W w b s
  own : w.ownsRow W.heap.size 73 1 v ms.length (ms.map mptr)
  len : vs.length = ms.length
  mv : ∀ (j m : Nat) (u : Mv), ms[j]? = some m → vs[j]? = some u → MoveAt w m b 0 u
  ap : ∀ m ∈ ms, m ≠ b ∧ W.heap.size ≤ m ∧ v.ownBlock ≠ some m ∧ m < w.heap.size
  nb : v.ownBlock ≠ some b
  nd : ms.Nodup

variable {W w w' : World} {b : Nat} {s s' : Stk} {v : Value} {ms : List Nat} {vs : List Mv}

theorem MvSt.new (H : SSt W w b s) : MvSt W w b s (.slice none 0 0) [] [] :=
  ⟨H, ⟨rfl, .inl ⟨rfl, rfl⟩⟩, rfl, fun j m u h => by simp at h, fun m h => by simp at h, (fun h => by simp [Value.ownBlock] at h), List.nodup_nil⟩

theorem own_of_block {base : Nat} {E : TypeId} {n : Nat} {xs : List Value} (h : w.ownsRow base E 1 v n xs) (hb : ∀ k, v.ownBlock = some k → w'.heap[k]? = w.heap[k]?) : w'.ownsRow base E 1 v n xs := by
  refine ⟨h.1, ?_⟩
  rcases h.2 with h0 | ⟨g, cap, cur, rfl, hg, hh, hle, hcap, hs, ht⟩
  · exact .inl h0
  · exact .inr ⟨g, cap, cur, rfl, hg, (hb g rfl).trans hh, hle, hcap, hs, ht⟩

theorem MvSt.of_below (H : MvSt W w b s v ms vs) (h : Below w.heap.size w w') : MvSt W w' b s v ms vs :=
  ⟨H.st.of_below h, own_of_block H.own (fun k e => h.block k (H.own.lt k e).2), H.len, fun j m u h1 h2 => (H.mv j m u h1 h2).of_below h, fun m hm => ⟨(H.ap m hm).1, (H.ap m hm).2.1, (H.ap m hm).2.2.1, Nat.lt_of_lt_of_le (H.ap m hm).2.2.2 h.size⟩, H.nb, H.nd⟩

theorem MvSt.only (H : MvSt W w b s v ms vs) {g : Nat} (h : w.grownBy w' (some g)) (hgb : g ≠ b) (hgW : W.heap.size ≤ g) (hgv : v.ownBlock ≠ some g) (hgm : g ∉ ms) : MvSt W w' b s v ms vs := by
  have hs : SSt W w' b s := ⟨StackAt.of_block H.st.at_ (h.block b H.st.lt (by simp; omega)), H.st.below.grown h H.st.below.size (fun j e => by injection e with e; omega), H.st.hb, Nat.lt_of_lt_of_le H.st.lt h.size⟩
  refine ⟨hs, own_of_block H.own (fun k e => h.block k (H.own.lt k e).2 (fun e' => by injection e' with e'; exact hgv (e' ▸ e))), H.len, fun j m u h1 h2 => ?_, fun m hm => ⟨(H.ap m hm).1, (H.ap m hm).2.1, (H.ap m hm).2.2.1, Nat.lt_of_lt_of_le (H.ap m hm).2.2.2 h.size⟩, H.nb, H.nd⟩
  have hm := List.mem_of_getElem? h1
  exact Obj_.of_block (H.mv j m u h1 h2) (h.block m (H.ap m hm).2.2.2 (fun e' => by injection e' with e'; exact hgm (e' ▸ hm)))

theorem MvSt.step (H : MvSt W w b s v ms vs) {j m : Nat} (hj : ms[j]? = some m) {u : Mv} (h : Only2 w w' b m) (hs : SSt W w' b s') (hm : MoveAt w' m b 0 u) : MvSt W w' b s' v ms (vs.set j u) := by
  have hmm := List.mem_of_getElem? hj
  refine ⟨hs, own_of_block H.own (fun k e => h.block k (H.own.lt k e).2 (fun e' => H.nb (e' ▸ e)) (fun e' => (H.ap m hmm).2.2.1 (e' ▸ e))), by simp [H.len], fun i m' u' h1 h2 => ?_, fun m hm => ⟨(H.ap m hm).1, (H.ap m hm).2.1, (H.ap m hm).2.2.1, by rw [h.size]; exact (H.ap m hm).2.2.2⟩, H.nb, H.nd⟩
  have hil : i < vs.length := by
    rw [H.len]
    by_cases h : i < ms.length
    · exact h
    · rw [List.getElem?_eq_none (by omega)] at h1; cases h1
  by_cases e : i = j
  · subst e
    rw [hj] at h1
    injection h1 with h1
    subst h1
    simp [hil] at h2
    subst h2
    exact hm
  · rw [List.getElem?_set_ne (Ne.symm e)] at h2
    have hm' := List.mem_of_getElem? h1
    have hne : m' ≠ m := fun e' => by
      subst e'
      have hjl : j < ms.length := by
        by_cases h : j < ms.length
        · exact h
        · rw [List.getElem?_eq_none (by omega)] at hj; cases hj
      have hil' : i < ms.length := by rw [← H.len]; exact hil
      rw [List.getElem?_eq_getElem hil'] at h1
      rw [List.getElem?_eq_getElem hjl] at hj
      injection h1 with h1
      injection hj with hj
      have hpw := List.pairwise_iff_getElem.1 H.nd
      rcases Nat.lt_or_gt_of_ne e with h | h
      · exact hpw i j hil' hjl h (h1.trans hj.symm)
      · exact hpw j i hjl hil' h (hj.trans h1.symm)
    exact (H.mv i m' u' h1 h2).other h (H.ap m' hm').1 hne

/-- A new move, put behind. -/
theorem MvSt.add {w1 w2 : World} {m : Nat} {u : Mv} {v' : Value} {T : TypeId} (H : MvSt W w b s v ms vs) (hm : m = w.heap.size) (hb : Below w.heap.size w w1) (M : MoveAt w1 m b 0 u)
    (ho : w2.ownsRow W.heap.size 73 1 v' (ms.length + 1) (ms.map mptr ++ [mptr m])) (hg : (w1.alloc (.cells #[mptr m] T)).grownBy w2 v.ownBlock) (hv : v'.ownBlock = v.ownBlock ∨ v'.ownBlock = some (w1.alloc (.cells #[mptr m] T)).heap.size) :
    MvSt W w2 b s v' (ms ++ [m]) (vs ++ [u]) := by
  have H1 := H.of_below hb
  have hml := Obj_.lt M (by omega)
  have hbm : m ≠ b := by have := H.st.lt; omega
  have hWm : W.heap.size ≤ m := by have := H.st.below.size; omega
  have hvm : v.ownBlock ≠ some m := fun e => by have := (H.own.lt m e).2; omega
  have hba : Below w1.heap.size w1 (w1.alloc (.cells #[mptr m] T)) := (Below.refl _ _).alloc (Nat.le_refl _) _
  have H2 := H1.of_below hba
  have M2 := M.of_below hba
  have hsz : (w1.alloc (.cells #[mptr m] T)).heap.size = w1.heap.size + 1 := by simp
  have hblk : ∀ k, k < w1.heap.size → v.ownBlock ≠ some k → w2.heap[k]? = (w1.alloc (.cells #[mptr m] T)).heap[k]? := fun k hk hn => hg.block k (by omega) (fun e => hn e.symm)
  have hs : SSt W w2 b s := ⟨StackAt.of_block H2.st.at_ (hblk b H1.st.lt H.nb), H2.st.below.grown hg H2.st.below.size (fun j e => (H2.own.lt j e).1), H.st.hb, Nat.lt_of_lt_of_le H2.st.lt hg.size⟩
  have hvn : ∀ k, k < w1.heap.size → v.ownBlock ≠ some k → v'.ownBlock ≠ some k := fun k hk hn e => by
    rcases hv with h | h
    · exact hn (h ▸ e)
    · rw [h] at e; injection e with e; omega
  refine ⟨hs, by simpa using ho, by simp [H.len], fun j m' u' h1 h2 => ?_, fun m' hm' => ?_, hvn b H1.st.lt H.nb, ?_⟩
  · by_cases hj : j < ms.length
    · rw [List.getElem?_append_left hj] at h1
      rw [List.getElem?_append_left (by rw [H.len]; exact hj)] at h2
      have hmm := List.mem_of_getElem? h1
      exact Obj_.of_block (H2.mv j m' u' h1 h2) (hblk m' (H1.ap m' hmm).2.2.2 (H.ap m' hmm).2.2.1)
    · rw [List.getElem?_append_right (by omega)] at h1
      rw [List.getElem?_append_right (by rw [H.len]; omega), H.len] at h2
      have : j - ms.length = 0 := by
        by_cases h : j - ms.length = 0
        · exact h
        · rw [List.getElem?_eq_none (by simp; omega)] at h1; cases h1
      rw [this] at h1 h2
      simp at h1 h2
      subst h1 h2
      exact Obj_.of_block M2 (hblk m hml hvm)
  · rcases List.mem_append.1 hm' with h | h
    · have := H1.ap m' h
      exact ⟨this.1, this.2.1, hvn m' this.2.2.2 this.2.2.1, Nat.lt_of_lt_of_le (Nat.lt_of_lt_of_le this.2.2.2 hba.size) hg.size⟩
    · simp at h
      subst h
      exact ⟨hbm, hWm, hvn m' hml hvm, Nat.lt_of_lt_of_le (Nat.lt_of_lt_of_le hml hba.size) hg.size⟩
  · rw [List.nodup_append]
    refine ⟨H.nd, by simp, fun x hx y hy => ?_⟩
    simp at hy
    subst hy
    have := (H.ap x hx).2.2.2
    omega

/-- One of the slice. -/
theorem MvSt.get (H : MvSt W w b s v ms vs) {k : Nat} (hk : k < ms.length) : ∃ g c m u, v = .slice (some ⟨g, 0, none⟩) ms.length c ∧ ms[k]? = some m ∧ vs[k]? = some u ∧ w.cell? ⟨g, k, none⟩ = some (.pointer (some ⟨m, 0, none⟩)) ∧ MoveAt w m b 0 u ∧ m ≠ b ∧ W.heap.size ≤ m := by
  have hown := H.own
  rcases hown.2 with ⟨rfl, hn⟩ | ⟨g, cap, cur, rfl, hg, hh, hle, hcap, hs, ht⟩
  · omega
  · obtain ⟨ad, x, e, _, hx, hc⟩ := (Reads.of_own hown).at_ hk
    injection e with e
    subst e
    have hkv : k < vs.length := by rw [H.len]; exact hk
    have hm : ms[k]? = some ms[k] := List.getElem?_eq_getElem hk
    have hu : vs[k]? = some vs[k] := List.getElem?_eq_getElem hkv
    have hmem := List.mem_of_getElem? hm
    rw [List.getElem?_map, hm] at hx
    simp at hx
    subst hx
    exact ⟨g, cap, ms[k], vs[k], rfl, hm, hu, by have := cell_plain hc; rwa [Nat.zero_add] at this, H.mv k _ _ hm hu, (H.ap _ hmem).1, (H.ap _ hmem).2.1⟩

theorem MvSt.slice (H : MvSt W w b s v ms vs) : ∃ A c, v = .slice A ms.length c := by
  rcases H.own.2 with ⟨rfl, hn⟩ | ⟨g, cap, cur, rfl, hg, hh, hle, hcap, hs, ht⟩
  · rw [hn]; exact ⟨none, 0, rfl⟩
  · exact ⟨_, cap, rfl⟩

def StkUp (s s' : Stk) : Prop := s'.n ≤ s.n + 1 ∧ s.n ≤ s'.n ∧ s'.t ≤ s.t + 1 ∧ s.t ≤ s'.t
theorem stepV_up (u : Mv) (s : Stk) : StkUp s (stepV u s).2.2 := by
  have h0 : StkUp s s := ⟨by omega, by omega, by omega, by omega⟩
  have h1 : ∀ L, StkUp s ⟨L, s.t, s.n + 1⟩ := fun L => ⟨Int.le_refl _, by simp; omega, by simp; omega, Int.le_refl _⟩
  have h2 : ∀ L, StkUp s ⟨L, s.t + 1, s.n + 1⟩ := fun L => ⟨Int.le_refl _, by simp; omega, Int.le_refl _, by simp; omega⟩
  unfold stepV
  repeat (first | exact h0 | exact h1 _ | exact h2 _ | split)
theorem stepV_bd (u : Mv) (s : Stk) : (stepV u s).2.2.n ≤ s.n + 1 ∧ s.n ≤ (stepV u s).2.2.n ∧ (stepV u s).2.2.t ≤ s.t + 1 ∧ s.t ≤ (stepV u s).2.2.t := stepV_up u s

/-- What all moves know. -/
def AllOk (vs : List Mv) (s : Stk) : Prop := ∀ u ∈ vs, MvOk u s ∧ TagOk u s
theorem AllOk.step {j : Nat} {u : Mv} (h : AllOk vs s) (hb : ∀ p ∈ s.L, 0 ≤ p ∧ p < 64) (hj : vs[j]? = some u) : AllOk (vs.set j (stepV u s).2.1) (stepV u s).2.2 := fun x hx => by
  have hu := h u (List.mem_of_getElem? hj)
  rcases List.mem_or_eq_of_mem_set hx with hx | rfl
  · have := h x hx
    exact other_ok this.1 this.2
  · exact ⟨hu.1.self hb, hu.2.self⟩

/-- A block that is new. -/
theorem MvSt.fresh (H : MvSt W w b s v ms vs) {g : Nat} (hg : g = w.heap.size) : g ≠ b ∧ W.heap.size ≤ g ∧ v.ownBlock ≠ some g ∧ g ∉ ms := by
  refine ⟨by have := H.st.lt; omega, by have := H.st.below.size; omega, fun e => by have := (H.own.lt g e).2; omega, fun h => by have := (H.ap g h).2.2.2; omega⟩

/-- How often a number is in a stack, or was popped. -/
def cntC (L : List Int) (vs : List Mv) (y : Int) : Int := (L.count y : Nat) + (vs.countP (popOf y) : Nat)
end Go.Proofs.Ytpddlnedaleblaa
