/- Moves of a stack and of the reference's, in pairs. -/
import Derived.Test.YtpddlnedaleblaaRef13
import Derived.Test.YtpddlnedaleblaaMoves
namespace Go.Proofs.Ytpddlnedaleblaa
open Go.RowKit

theorem info_pair : (Try.prog.info? 99).map (fun i => (i.zero, i.size, i.bytes)) = some (some (.agg #[.pointer none, .pointer none]), 2, 16) := by kernel_rfl

/-- The pairs' cells. -/
def flat : List Nat → List Nat → List Value
  | m :: ms, r :: rs => mptr m :: mptr r :: flat ms rs
  | _, _ => []
theorem flat_add : ∀ {ms rs : List Nat} (m r : Nat), ms.length = rs.length → flat (ms ++ [m]) (rs ++ [r]) = flat ms rs ++ [mptr m, mptr r]
  | [], [], m, r, _ => rfl
  | a :: ms, c :: rs, m, r, h => by simp [flat, flat_add m r (by simpa using h)]
  | [], _ :: _, _, _, h => by simp at h
  | _ :: _, [], _, _, h => by simp at h
theorem flat_get : ∀ {ms rs : List Nat} {k m r : Nat}, ms[k]? = some m → rs[k]? = some r → (flat ms rs)[2 * k]? = some (mptr m) ∧ (flat ms rs)[2 * k + 1]? = some (mptr r)
  | [], _, k, _, _, h, _ => by simp at h
  | _ :: _, [], k, _, _, _, h => by simp at h
  | a :: ms, c :: rs, 0, m, r, h, h' => by simp at h h'; subst h h'; exact ⟨rfl, rfl⟩
  | a :: ms, c :: rs, k + 1, m, r, h, h' => by
    have := flat_get (ms := ms) (rs := rs) (k := k) (by simpa using h) (by simpa using h')
    exact ⟨by rw [show 2 * (k + 1) = 2 * k + 1 + 1 by omega]; simpa [flat] using this.1, by rw [show 2 * (k + 1) + 1 = 2 * k + 1 + 1 + 1 by omega]; simpa [flat] using this.2⟩

theorem nodup_idx {l : List Nat} {i j x : Nat} (h : l.Nodup) (hi : l[i]? = some x) (hj : l[j]? = some x) : i = j := by
  have hil : i < l.length := by
    by_cases h : i < l.length
    · exact h
    · rw [List.getElem?_eq_none (by omega)] at hi; cases hi
  have hjl : j < l.length := by
    by_cases h : j < l.length
    · exact h
    · rw [List.getElem?_eq_none (by omega)] at hj; cases hj
  rw [List.getElem?_eq_getElem hil] at hi
  rw [List.getElem?_eq_getElem hjl] at hj
  injection hi with hi
  injection hj with hj
  have hpw := List.pairwise_iff_getElem.1 h
  by_cases e : i = j
  · exact e
  · rcases Nat.lt_or_gt_of_ne e with h | h
    · exact absurd (hi.trans hj.symm) (hpw i j hil hjl h)
    · exact absurd (hj.trans hi.symm) (hpw j i hjl hil h)

structure PSt (W w : World) (b so : Nat) (s : Stk) (a : Option Nat) (v : Value) (ms rs : List Nat) (vs : List Mv) : Prop where
  st : SSt W w b s
  rf : RStk w so s a
  own : w.ownsRow W.heap.size 99 2 v ms.length (flat ms rs)
  lenr : rs.length = ms.length
  len : vs.length = ms.length
  mv : ∀ (j m : Nat) (u : Mv), ms[j]? = some m → vs[j]? = some u → MoveAt w m b 0 u
  rv : ∀ (j r : Nat) (u : Mv), rs[j]? = some r → vs[j]? = some u → MoveAt w r so 0 u
  nd : (b :: so :: (ms ++ rs)).Nodup
  lo : ∀ k ∈ b :: so :: (ms ++ rs), W.heap.size ≤ k ∧ k < w.heap.size ∧ v.ownBlock ≠ some k ∧ a ≠ some k
  av : ∀ k, a = some k → W.heap.size ≤ k ∧ k < w.heap.size ∧ v.ownBlock ≠ some k

variable {W w w' w1 w2 : World} {b so : Nat} {s s1 : Stk} {a a' : Option Nat} {v : Value} {ms rs : List Nat} {vs : List Mv}

theorem own2_of_block {base : Nat} {E : TypeId} {z n : Nat} {xs : List Value} (h : w.ownsRow base E z v n xs) (hb : ∀ k, v.ownBlock = some k → w'.heap[k]? = w.heap[k]?) : w'.ownsRow base E z v n xs := by
  refine ⟨h.1, ?_⟩
  rcases h.2 with h0 | ⟨g, cap, cur, rfl, hg, hh, hle, hcap, hs, ht⟩
  · exact .inl h0
  · exact .inr ⟨g, cap, cur, rfl, hg, (hb g rfl).trans hh, hle, hcap, hs, ht⟩

/-- All blocks of its own stay. -/
theorem PSt.stays (H : PSt W w b so s a v ms rs vs) (hs : w.heap.size ≤ w'.heap.size) (hB : Below W.heap.size W w') (he : ∀ k, k < w.heap.size → (k ∈ b :: so :: (ms ++ rs) ∨ v.ownBlock = some k ∨ a = some k) → w'.heap[k]? = w.heap[k]?) : PSt W w' b so s a v ms rs vs := by
  have hm : ∀ k ∈ b :: so :: (ms ++ rs), w'.heap[k]? = w.heap[k]? := fun k hk => he k (H.lo k hk).2.1 (.inl hk)
  have hmm : ∀ (j m : Nat), ms[j]? = some m → m ∈ b :: so :: (ms ++ rs) := fun j m h => by
    have := List.mem_of_getElem? h
    simp [this]
  have hrr : ∀ (j r : Nat), rs[j]? = some r → r ∈ b :: so :: (ms ++ rs) := fun j r h => by
    have := List.mem_of_getElem? h
    simp [this]
  refine ⟨⟨StackAt.of_block H.st.at_ (hm b (by simp)), hB, H.st.hb, Nat.lt_of_lt_of_le H.st.lt hs⟩, H.rf.stays hs (hm so (by simp)) (fun k e => he k (H.av k e).2.1 (.inr (.inr e))), own2_of_block H.own (fun k e => he k (H.own.lt k e).2 (.inr (.inl e))), H.lenr, H.len,
    fun j m u h1 h2 => Obj_.of_block (H.mv j m u h1 h2) (hm m (hmm j m h1)), fun j r u h1 h2 => Obj_.of_block (H.rv j r u h1 h2) (hm r (hrr j r h1)), H.nd, fun k hk => ⟨(H.lo k hk).1, Nat.lt_of_lt_of_le (H.lo k hk).2.1 hs, (H.lo k hk).2.2⟩, fun k e => ⟨(H.av k e).1, Nat.lt_of_lt_of_le (H.av k e).2.1 hs, (H.av k e).2.2⟩⟩

theorem PSt.of_below (H : PSt W w b so s a v ms rs vs) (h : Below w.heap.size w w') : PSt W w' b so s a v ms rs vs :=
  H.stays h.size (H.st.below.trans (h.mono H.st.below.size)) (fun k hk _ => h.block k hk)

theorem PSt.mid (H : PSt W w b so s a v ms rs vs) {j m r : Nat} {u : Mv} (hm : ms[j]? = some m) (hr : rs[j]? = some r) (hu : vs[j]? = some u) (h : Only2 w w1 b m) : RStk w1 so s a ∧ MoveAt w1 r so 0 u ∧ r ≠ so ∧ a ≠ some r := by
  have hmm := List.mem_of_getElem? hm
  have hrm := List.mem_of_getElem? hr
  have hnd := H.nd
  simp only [List.nodup_cons, List.nodup_append, List.mem_cons, List.mem_append, not_or] at hnd
  obtain ⟨⟨n1, n2, n3⟩, ⟨n4, n5⟩, n6, n7, n8⟩ := hnd
  have hso : so ≠ m := fun e => n4 (e ▸ hmm)
  have hrm' : r ≠ m := fun e => n8 m hmm r hrm e.symm
  have hrb : r ≠ b := fun e => n3 (e ▸ hrm)
  have hlr := H.lo r (by simp [hrm])
  have hlm := H.lo m (by simp [hmm])
  have hlb := H.lo b (by simp)
  refine ⟨H.rf.stays (Nat.le_of_eq h.size.symm) (h.block so (H.lo so (by simp)).2.1 (Ne.symm n1) hso) (fun k e => h.block k (H.av k e).2.1 (fun e' => hlb.2.2.2 (e' ▸ e)) (fun e' => hlm.2.2.2 (e' ▸ e))),
    Obj_.of_block (H.rv j r u hr hu) (h.block r hlr.2.1 hrb hrm'), fun e => n5 (e ▸ hrm), hlr.2.2.2⟩

/-- Both did a step. -/
theorem PSt.step (H : PSt W w b so s a v ms rs vs) {j m r : Nat} {u u1 : Mv} (hm : ms[j]? = some m) (hr : rs[j]? = some r) (hu : vs[j]? = some u) (h : Only2 w w1 b m) (hs : SSt W w1 b s1) (hM : MoveAt w1 m b 0 u1)
    (K : RKeep w1 w2 so r) (hR : RStk w2 so s1 a') (hN : ANew w1 a a') (hV : MoveAt w2 r so 0 u1) : PSt W w2 b so s1 a' v ms rs (vs.set j u1) := by
  have hmm := List.mem_of_getElem? hm
  have hrm := List.mem_of_getElem? hr
  have hnd := H.nd
  simp only [List.nodup_cons, List.nodup_append, List.mem_cons, List.mem_append, not_or] at hnd
  obtain ⟨⟨n1, n2, n3⟩, ⟨n4, n5⟩, n6, n7, n8⟩ := hnd
  have hlr := H.lo r (by simp [hrm])
  have hlm := H.lo m (by simp [hmm])
  have hlb := H.lo b (by simp)
  have hls := H.lo so (by simp)
  have hjl : j < vs.length := by
    rw [H.len]
    by_cases h : j < ms.length
    · exact h
    · rw [List.getElem?_eq_none (by omega)] at hm; cases hm
  have hbr : b ≠ r := fun e => n3 (e ▸ hrm)
  have hmr : m ≠ r := n8 m hmm r hrm
  have hmso : m ≠ so := fun e => n4 (e ▸ hmm)
  have blk : ∀ k, k < w.heap.size → k ≠ b → k ≠ m → k ≠ so → k ≠ r → w2.heap[k]? = w.heap[k]? := fun k hk h1 h2 h3 h4 => (K.block k (by rw [h.size]; exact hk) h3 h4).trans (h.block k hk h1 h2)
  have hsz : w.heap.size ≤ w2.heap.size := by have := K.size; rw [h.size] at this; exact this
  have hB : Below W.heap.size W w2 := ⟨K.os.trans hs.below.os, K.tape.trans hs.below.tape, K.output.trans hs.below.output, Nat.le_trans hs.below.size K.size,
    fun k hk => (K.block k (Nat.lt_of_lt_of_le hk hs.below.size) (fun e => by omega) (fun e => by omega)).trans (hs.below.block k hk)⟩
  have hN' : ∀ k, a' = some k → (a = some k ∨ w.heap.size ≤ k) := fun k e => by
    rcases hN with h' | h'
    · exact .inl (h' ▸ e)
    · have := h' k e; rw [h.size] at this; exact .inr this
  have hBb : w2.heap[b]? = w1.heap[b]? := K.block b (by rw [h.size]; exact hlb.2.1) n1 hbr
  have hBm : w2.heap[m]? = w1.heap[m]? := K.block m (by rw [h.size]; exact hlm.2.1) hmso hmr
  refine ⟨⟨StackAt.of_block hs.at_ hBb, hB, hs.hb, Nat.lt_of_lt_of_le hs.lt K.size⟩, hR,
    own2_of_block H.own (fun k e => blk k (H.own.lt k e).2 (fun e' => hlb.2.2.1 (e' ▸ e)) (fun e' => hlm.2.2.1 (e' ▸ e)) (fun e' => hls.2.2.1 (e' ▸ e)) (fun e' => hlr.2.2.1 (e' ▸ e))), H.lenr, by simp [H.len], fun i m' x h1 h2 => ?_, fun i r' x h1 h2 => ?_, H.nd,
    fun k hk => ⟨(H.lo k hk).1, Nat.lt_of_lt_of_le (H.lo k hk).2.1 hsz, (H.lo k hk).2.2.1, fun e => ?_⟩, fun k e => ?_⟩
  · by_cases e : i = j
    · subst e
      rw [hm] at h1
      injection h1 with h1
      subst h1
      simp [hjl] at h2
      subst h2
      exact Obj_.of_block hM hBm
    · rw [List.getElem?_set_ne (Ne.symm e)] at h2
      have hm' := List.mem_of_getElem? h1
      have hne : m' ≠ m := fun e' => e (nodup_idx n6 (e' ▸ h1) hm)
      have hl' := H.lo m' (by simp [hm'])
      exact Obj_.of_block (H.mv i m' x h1 h2) (blk m' hl'.2.1 (fun e' => n2 (e' ▸ hm')) hne (fun e' => n4 (e' ▸ hm')) (n8 m' hm' r hrm))
  · by_cases e : i = j
    · subst e
      rw [hr] at h1
      injection h1 with h1
      subst h1
      simp [hjl] at h2
      subst h2
      exact hV
    · rw [List.getElem?_set_ne (Ne.symm e)] at h2
      have hr' := List.mem_of_getElem? h1
      have hne : r' ≠ r := fun e' => e (nodup_idx n7 (e' ▸ h1) hr)
      have hl' := H.lo r' (by simp [hr'])
      exact Obj_.of_block (H.rv i r' x h1 h2) (blk r' hl'.2.1 (fun e' => n3 (e' ▸ hr')) (fun e' => n8 m hmm r' hr' e'.symm) (fun e' => n5 (e' ▸ hr')) hne)
  · rcases hN' k e with h' | h'
    · exact (H.lo k hk).2.2.2 h'
    · have := (H.lo k hk).2.1; omega
  · have hlt : k < w2.heap.size := (hR.a_ne e).2
    rcases hN' k e with h' | h'
    · exact ⟨(H.av k h').1, hlt, (H.av k h').2.2⟩
    · exact ⟨by have := H.st.below.size; omega, hlt, fun e' => by have := (H.own.lt k e').2; omega⟩

/-- A new pair, put behind: w2: both are there; w3: the slice has grown. -/
theorem PSt.add {w3 : World} {m r : Nat} {u : Mv} {v' : Value} (H : PSt W w b so s a v ms rs vs) (hb : Below w.heap.size w w2) (hm0 : w.heap.size ≤ m) (hr0 : w.heap.size ≤ r) (hmr : m ≠ r) (M : MoveAt w2 m b 0 u) (R : MoveAt w2 r so 0 u)
    (ho : w3.ownsRow W.heap.size 99 2 v' (ms.length + 1) (flat ms rs ++ [mptr m, mptr r])) (hg : w2.grownBy w3 v.ownBlock) (hv : v'.ownBlock = v.ownBlock ∨ ∃ k, v'.ownBlock = some k ∧ w2.heap.size ≤ k) :
    PSt W w3 b so s a v' (ms ++ [m]) (rs ++ [r]) (vs ++ [u]) := by
  have H2 := H.of_below hb
  have hml := Obj_.lt M (by omega)
  have hrl := Obj_.lt R (by omega)
  have hvw : ∀ k, v.ownBlock = some k → k < w.heap.size := fun k e => (H.own.lt k e).2
  have hblk : ∀ k, k < w2.heap.size → v.ownBlock ≠ some k → w3.heap[k]? = w2.heap[k]? := fun k hk hn => hg.block k hk (fun e => hn e.symm)
  have hB : Below W.heap.size W w3 := H2.st.below.grown hg H2.st.below.size (fun j e => (H2.own.lt j e).1)
  have hvn : ∀ k, k < w2.heap.size → v.ownBlock ≠ some k → v'.ownBlock ≠ some k := fun k hk hn e => by
    rcases hv with h | ⟨k', h, hk'⟩
    · exact hn (h ▸ e)
    · rw [h] at e; injection e with e; omega
  have hvm : v.ownBlock ≠ some m := fun e => by have := hvw m e; omega
  have hvr : v.ownBlock ≠ some r := fun e => by have := hvw r e; omega
  have hWw := H.st.below.size
  have hold : ∀ k ∈ b :: so :: (ms ++ rs), k < w.heap.size := fun k hk => (H.lo k hk).2.1
  have hk2 : ∀ k ∈ b :: so :: (ms ++ rs), w3.heap[k]? = w2.heap[k]? := fun k hk => hblk k (H2.lo k hk).2.1 (H2.lo k hk).2.2.1
  have hmem : ∀ k, k ∈ b :: so :: ((ms ++ [m]) ++ (rs ++ [r])) → k ∈ b :: so :: (ms ++ rs) ∨ k = m ∨ k = r := fun k hk => by
    simp only [List.mem_cons, List.mem_append, List.mem_singleton, List.not_mem_nil, or_false] at hk ⊢
    rcases hk with h | h | (h | h) | (h | h) <;> simp [h]
  refine ⟨⟨StackAt.of_block H2.st.at_ (hk2 b (by simp)), hB, H.st.hb, Nat.lt_of_lt_of_le H2.st.lt hg.size⟩, H2.rf.stays hg.size (hk2 so (by simp)) (fun k e => hblk k (H2.av k e).2.1 (H2.av k e).2.2), ?_, by simp [H.lenr], by simp [H.len], fun j m' x h1 h2 => ?_, fun j r' x h1 h2 => ?_, ?_, fun k hk => ?_, fun k e => ⟨(H.av k e).1, Nat.lt_of_lt_of_le (H2.av k e).2.1 hg.size, hvn k (H2.av k e).2.1 (H2.av k e).2.2⟩⟩
  · rw [flat_add m r H.lenr.symm]
    simpa using ho
  · by_cases hj : j < ms.length
    · rw [List.getElem?_append_left hj] at h1
      rw [List.getElem?_append_left (by rw [H.len]; exact hj)] at h2
      have hmm := List.mem_of_getElem? h1
      exact Obj_.of_block (H2.mv j m' x h1 h2) (hk2 m' (by simp [hmm]))
    · rw [List.getElem?_append_right (by omega)] at h1
      rw [List.getElem?_append_right (by rw [H.len]; omega), H.len] at h2
      have h0 : j - ms.length = 0 := by
        by_cases h : j - ms.length = 0
        · exact h
        · rw [List.getElem?_eq_none (by simp; omega)] at h1; cases h1
      rw [h0] at h1 h2
      simp at h1 h2
      subst h1 h2
      exact Obj_.of_block M (hblk m hml hvm)
  · by_cases hj : j < rs.length
    · rw [List.getElem?_append_left hj] at h1
      rw [List.getElem?_append_left (by rw [H.len, ← H.lenr]; exact hj)] at h2
      have hmm := List.mem_of_getElem? h1
      exact Obj_.of_block (H2.rv j r' x h1 h2) (hk2 r' (by simp [hmm]))
    · rw [List.getElem?_append_right (by omega)] at h1
      rw [List.getElem?_append_right (by rw [H.len, ← H.lenr]; omega), H.len, ← H.lenr] at h2
      have h0 : j - rs.length = 0 := by
        by_cases h : j - rs.length = 0
        · exact h
        · rw [List.getElem?_eq_none (by simp; omega)] at h1; cases h1
      rw [h0] at h1 h2
      simp at h1 h2
      subst h1 h2
      exact Obj_.of_block R (hblk r hrl hvr)
  · have hnd := H.nd
    have hlb := hold b (by simp)
    have hls := hold so (by simp)
    have hmsl : ∀ x ∈ ms, x < w.heap.size := fun x hx => hold x (by simp [hx])
    have hrsl : ∀ x ∈ rs, x < w.heap.size := fun x hx => hold x (by simp [hx])
    simp only [List.nodup_cons, List.nodup_append, List.mem_cons, List.mem_append, not_or, List.mem_singleton, List.not_mem_nil, or_false, List.nodup_nil, not_false_eq_true, and_true] at hnd ⊢
    obtain ⟨⟨n1, n2, n3⟩, ⟨n4, n5⟩, n6, n7, n8⟩ := hnd
    refine ⟨⟨n1, ⟨n2, by omega⟩, n3, by omega⟩, ⟨⟨n4, by omega⟩, n5, by omega⟩, ⟨n6, trivial, fun x hx y hy => ?_⟩, ⟨n7, trivial, fun x hx y hy => ?_⟩, fun x hx y hy => ?_⟩
    · have := hmsl x hx; omega
    · have := hrsl x hx; omega
    · rcases hx with hx | hx <;> rcases hy with hy | hy
      · exact n8 x hx y hy
      · have := hmsl x hx; omega
      · have := hrsl y hy; omega
      · omega
  · rcases hmem k hk with h | rfl | rfl
    · have := H2.lo k h
      exact ⟨this.1, Nat.lt_of_lt_of_le this.2.1 hg.size, hvn k this.2.1 this.2.2.1, this.2.2.2⟩
    · exact ⟨by omega, Nat.lt_of_lt_of_le hml hg.size, hvn _ hml hvm, fun e => by have := (H.av _ e).2.1; omega⟩
    · exact ⟨by omega, Nat.lt_of_lt_of_le hrl hg.size, hvn _ hrl hvr, fun e => by have := (H.av _ e).2.1; omega⟩

/-- One of the slice. -/
theorem PSt.get (H : PSt W w b so s a v ms rs vs) {k : Nat} (hk : k < ms.length) : ∃ g c m r u, v = .slice (some ⟨g, 0, none⟩) ms.length c ∧ ms[k]? = some m ∧ rs[k]? = some r ∧ vs[k]? = some u ∧ w.cell? ⟨g, k * 2, none⟩ = some (.pointer (some ⟨m, 0, none⟩)) ∧ w.cell? ⟨g, k * 2 + 1, none⟩ = some (.pointer (some ⟨r, 0, none⟩)) ∧ MoveAt w m b 0 u ∧ MoveAt w r so 0 u ∧ m ≠ b ∧ r ≠ so ∧ W.heap.size ≤ m := by
  have hown := H.own
  rcases hown.2 with ⟨rfl, hn⟩ | ⟨g, cap, cur, rfl, hg, hh, hle, hcap, hs, ht⟩
  · omega
  · have hkv : k < vs.length := by rw [H.len]; exact hk
    have hkr : k < rs.length := by rw [H.lenr]; exact hk
    have hm : ms[k]? = some ms[k] := List.getElem?_eq_getElem hk
    have hr : rs[k]? = some rs[k] := List.getElem?_eq_getElem hkr
    have hu : vs[k]? = some vs[k] := List.getElem?_eq_getElem hkv
    have hmem := List.mem_of_getElem? hm
    have hrem := List.mem_of_getElem? hr
    obtain ⟨f1, f2⟩ := flat_get hm hr
    have hc : ∀ j x, (flat ms rs)[j]? = some x → w.cell? ⟨g, j, none⟩ = some x := fun j x hx => by
      rw [← ht] at hx
      rw [cell_of_row w g j cur _ (0, 0) hh]
      have hj : j < ms.length * 2 := by
        by_cases h : j < ms.length * 2
        · exact h
        · rw [List.getElem?_eq_none (by simp; omega)] at hx; cases hx
      rw [List.getElem?_take_of_lt hj] at hx
      simpa using hx
    have hnd := H.nd
    simp only [List.nodup_cons, List.nodup_append, List.mem_cons, List.mem_append, not_or] at hnd
    obtain ⟨⟨n1, n2, n3⟩, ⟨n4, n5⟩, n6, n7, n8⟩ := hnd
    exact ⟨g, cap, ms[k], rs[k], vs[k], rfl, hm, hr, hu, by rw [Nat.mul_comm]; exact hc _ _ f1, by rw [Nat.mul_comm]; exact hc _ _ f2, H.mv k _ _ hm hu, H.rv k _ _ hr hu, fun e => n2 (e ▸ hmem), fun e => n5 (e ▸ hrem), (H.lo _ (by simp [hmem])).1⟩
theorem PSt.slice (H : PSt W w b so s a v ms rs vs) : ∃ A c, v = .slice A ms.length c := by
  rcases H.own.2 with ⟨rfl, hn⟩ | ⟨g, cap, cur, rfl, hg, hh, hle, hcap, hs, ht⟩
  · rw [hn]; exact ⟨none, 0, rfl⟩
  · exact ⟨_, cap, rfl⟩
end Go.Proofs.Ytpddlnedaleblaa
