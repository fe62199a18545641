/- The reference of layer 8 (all words that were there), walked. -/
import Derived.Test.YtpddlnedaleblaaMem
import Derived.Test.YtpddlnedaleblaaCellA
namespace Go.Proofs.Ytpddlnedaleblaa
open Go.RowKit

def lastD (L : List Int) : Int := L.getLast?.getD 0

/-- The reference's cell stands in block r: its words L, asked N times; its row is neither its own block nor block b. -/
structure RefAt (w : World) (r b : Nat) (L : List Int) (N : Int) : Prop where
  row : ∃ A c, w.cell? ⟨r, 0, none⟩ = some (.slice A L.length c) ∧ Reads w w.heap.size 1 A L.length (L.map (.int .u64)) ∧ (∀ ad, A = some ad → ad.spot = none ∧ ad.block ≠ r ∧ ad.block ≠ b) ∧ L.length ≤ c ∧ c ≤ maxLen
  c1 : w.cell? ⟨r, 1, none⟩ = some (.int .i64 N)
  f0 : w.frozen? ⟨r, 0, none⟩ = false
  f1 : w.frozen? ⟨r, 1, none⟩ = false

theorem Reads.only {w w' : World} {B size n : Nat} {A : Option Addr} {xs : List Value} {g : Nat} (h : Reads w B size A n xs) (hB : B ≤ w.heap.size) (hg : w.grownBy w' (some g)) (hA : ∀ ad, A = some ad → ad.block ≠ g) : Reads w' B size A n xs :=
  ⟨h.1, fun hn => by
    obtain ⟨ad, e, hb, hc⟩ := h.2 hn
    refine ⟨ad, e, hb, fun j u hu => ?_⟩
    refine hg.cell (hc j u hu) ?_
    rw [block_of_add]
    intro e'
    injection e' with e'
    exact hA ad e e'⟩

theorem RefAt.kept {w w' : World} {r b g : Nat} {L : List Int} {N : Int} (h : RefAt w r b L N) (hg : w.grownBy w' (some g)) (hr : r ≠ g) (hgb : g = b ∨ w.heap.size ≤ g) : RefAt w' r b L N := by
  obtain ⟨⟨A, c, h0, hrd, hA, h1, h2⟩, c1, f0, f1⟩ := h
  have hrl : r < w.heap.size := World.block_lt_of_cell? w _ h0
  have hf : ∀ i, w'.frozen? ⟨r, i, none⟩ = w.frozen? ⟨r, i, none⟩ := fun i => World.frozen?_of_block (a := ⟨r, i, none⟩) (hg.block r hrl (by simpa using hr))
  refine ⟨⟨A, c, hg.cell h0 (by simpa using hr), (Reads.more ?_ hg.size), hA, h1, h2⟩, hg.cell c1 (by simpa using hr), (hf 0).trans f0, (hf 1).trans f1⟩
  refine ⟨hrd.1, fun hn => ?_⟩
  obtain ⟨ad, e, hb, hc⟩ := hrd.2 hn
  refine ⟨ad, e, hb, fun j u hu => ?_⟩
  refine hg.cell (hc j u hu) ?_
  rw [block_of_add]
  intro e'
  injection e' with e'
  have := (hA ad e).2.2
  omega

theorem RefAt.lt {w : World} {r b : Nat} {L : List Int} {N : Int} (h : RefAt w r b L N) : r < w.heap.size := World.block_lt_of_cell? w _ h.c1

set_option maxHeartbeats 400000 in
theorem word_nil (r b : Nat) (N : Int) (w : World) (H : RefAt w r b [] N) :
    Calls Try.prog 61 #[.pointer (some ⟨r, 0, none⟩)] w fun e w' => e = .returned (.int .u64 0) ∧ w = w' := by
  obtain ⟨⟨A, c, h0, _, _, _, _⟩, c1, f0, f1⟩ := H
  simp only [List.length_nil] at h0
  go_enter Try.func61, Try.ntmps61
  go_wp2_with fail
  go_ret
  exact ⟨rfl, rfl⟩

set_option maxHeartbeats 1000000 in
theorem word_cons (r b : Nat) (L : List Int) (N : Int) (w : World) (H : RefAt w r b L N) (hl : 0 < L.length) (hs : L.length ≤ 1000000) :
    Calls Try.prog 61 #[.pointer (some ⟨r, 0, none⟩)] w fun e w' => e = .returned (.int .u64 (lastD L)) ∧ ∃ k, w.drewN k = w' := by
  obtain ⟨⟨A, c, h0, hrd, hA, hc1, hc2⟩, c1, f0, f1⟩ := H
  obtain ⟨ad, e, hb, hcell⟩ := hrd.2 hl
  subst e
  obtain ⟨g, off, spot⟩ := ad
  obtain ⟨hsp, _, _⟩ := hA _ rfl
  simp only at hsp
  subst hsp
  have hlast : w.cell? ⟨g, off + (L.length - 1), none⟩ = some (.int .u64 (lastD L)) := by
    have := hcell (L.length - 1) (.int .u64 (lastD L)) (by
      rw [List.getElem?_map, ← List.getLast?_eq_getElem?]
      simp only [lastD]
      cases hL : L.getLast? with
      | none => simp at hL; simp [hL] at hl
      | some x => rfl)
    rw [← this]
    congr 1
    unfold Addr.add
    split
    · rename_i h; simp [h]
    · rfl
  clear hcell hrd hA hb
  obtain ⟨n, hn⟩ : ∃ n, L.length = n + 1 := ⟨L.length - 1, by omega⟩
  rw [hn] at h0 hlast hs
  simp only [Nat.add_sub_cancel] at hlast
  clear hn hl hc1 hc2
  generalize lastD L = x at *
  go_enter Try.func61, Try.ntmps61
  go_wp2_with fail
  have hx : IntKind.i64.wrap ((n : Int) + 1 - 1) = (n : Int) := by simp only [IntKind.wrap_i64]; omega
  go_quiet (fail)
  go_wp2_with fail
  go_ret
  exact ⟨rfl, _, rfl⟩

/-- The word, whether there is one or none; the world's blocks stay. -/
theorem word_any (r b : Nat) (L : List Int) (N : Int) (w : World) (H : RefAt w r b L N) (hs : L.length ≤ 1000000) :
    Calls Try.prog 61 #[.pointer (some ⟨r, 0, none⟩)] w fun e w' => e = .returned (.int .u64 (lastD L)) ∧ ∃ k, w.drewN k = w' := by
  rcases Nat.eq_zero_or_pos L.length with h | h
  · obtain rfl := List.eq_nil_of_length_eq_zero h
    exact (word_nil r b N w H).mono fun _ _ ⟨he, hw⟩ => ⟨he, 0, hw⟩
  · exact word_cons r b L N w H h hs

theorem RefAt.drewN {w : World} {r b : Nat} {L : List Int} {N : Int} (h : RefAt w r b L N) (k : Nat) : RefAt (w.drewN k) r b L N := by
  obtain ⟨⟨A, c, h0, hrd, hA, h1, h2⟩, c1, f0, f1⟩ := h
  exact ⟨⟨A, c, h0, hrd, hA, h1, h2⟩, c1, f0, f1⟩

theorem RefAt.asked {w : World} {r b : Nat} {L : List Int} {N : Int} (h : RefAt w r b L N) (M : Int) : RefAt (w.setCell ⟨r, 1, none⟩ (.int .i64 M)) r b L M := by
  obtain ⟨⟨A, c, h0, hrd, hA, h1, h2⟩, c1, f0, f1⟩ := h
  refine ⟨⟨A, c, by go_simp, ?_, hA, h1, h2⟩, by go_simp, by go_simp, by go_simp⟩
  refine ⟨hrd.1, fun hn => ?_⟩
  obtain ⟨ad, e, hb, hc⟩ := hrd.2 hn
  refine ⟨ad, e, by simpa [World.setCell] using hb, fun j u hu => ?_⟩
  rw [World.cell?_setCell_other _ _ _ _ (by
    intro e'
    have h3 := congrArg Addr.block e'
    rw [block_of_add] at h3
    exact (hA ad e).2.1 h3.symm)]
  exact hc j u hu

theorem info_u64 : (Try.prog.info? 22).map (fun i => (i.zero, i.size, i.bytes)) = some (some (.int .u64 0), 1, 8) := by kernel_rfl

set_option maxRecDepth 100000 in
set_option maxHeartbeats 2000000 in
theorem refswap_any (r b : Nat) (L : List Int) (N x : Int) (w : World) (H : RefAt w r b L N) (hs : L.length ≤ 100000) (hN0 : 0 ≤ N) (hN1 : N < 4611686018427387904) (hb : b < w.heap.size) (hrb : r ≠ b) :
    Calls Try.prog 24 #[.pointer (some ⟨r, 0, none⟩), .int .u64 x] w fun e w' =>
      e = .returned (.int .u64 (lastD L)) ∧ RefAt w' r b (L ++ [x]) (N + 1) ∧ w.grownBy w' (some r) := by
  have H1 := H.asked (N + 1)
  have hrl := H.lt
  have HH := Lib.hid H1
  obtain ⟨_, c1, _, f1⟩ := H
  clear H1
  obtain ⟨i0, hi0, hz0, hz1, hz2⟩ := info_parts info_u64
  go_enter Try.func24, Try.ntmps24
  go_wp2_with fail
  (with_reducible refine (word_any r b L _ _ HH.out (by omega)).mono ?_)
  rintro e w1 ⟨rfl, k1, rfl⟩
  have H2 := HH.out.drewN k1
  obtain ⟨w2, hw2⟩ : ∃ w2, w2 = (w.setCell ⟨r, 1, none⟩ (.int .i64 (N + 1))).drewN k1 := ⟨_, rfl⟩
  have G2 : w.grownBy w2 (some r) := by rw [hw2]; exact only_drewN (only_set (World.grownBy.refl w _) _) _
  rw [← hw2] at H2 ⊢
  have S2 : w.heap.size ≤ w2.heap.size := G2.size
  clear hw2 HH c1 f1
  have H2' := H2
  obtain ⟨⟨A, c, h0, hrd, hA, hc1, hc2⟩, c1, f0, f1⟩ := H2'
  have HA := Lib.hid hA
  have HR := Lib.hid hrd
  clear hA hrd
  have hr2 : r < w2.heap.size := by omega
  have B2 := Below.refl w2.heap.size w2
  have h1u : ∀ u ∈ L.map (Value.int .u64), u.oneCell' = true := fun u hu => by
    obtain ⟨y, _, rfl⟩ := List.mem_map.1 hu
    rfl
  have H1u := Lib.hid h1u
  clear h1u
  go_wp2_with (first
    | (at_builtin
       refine wpList_append_any _ rfl (.tmp 16) (.tmp 20) _ rfl w2.heap.size 22 i0 _ 1 8 Try.underlying23 hi0 hz0 hz1 hz2 rfl (by omega) (.slice (some ⟨w2.heap.size, 0, none⟩) 0 0) 0 [] rfl
         (World.ownsRow_made w2 #[] 0 (Nat.le_refl _) (Nat.zero_le _) rfl) w2.heap.size A L.length c (L.map (.int .u64)) rfl (HR.out.alloc (Nat.le_refl _) _) H1u.out (by simp only [maxLen]; omega) (by omega) (by simp) ?_
       intro v3 w3 hown3 hg3 hat3
       have B3 : Below w2.heap.size w2 w3 := ((Below.refl _ w2).alloc (Nat.le_refl _) _).grown hg3 (by simp) (fun k e => by simp [Value.ownBlock] at e; omega)
       have hr3 : r < w3.heap.size := Nat.lt_of_lt_of_le hr2 B3.size
       have O3 := Lib.hid hown3
       clear hg3 hat3 hown3)
    | (at_builtin
       refine wpList_append_any _ rfl (.tmp 21) (.tmp 23) _ rfl w2.heap.size 22 i0 _ 1 8 Try.underlying23 hi0 hz0 hz1 hz2 rfl (by omega) v3 (0 + L.length) ([] ++ L.map (.int .u64)) rfl
         (O3.out.alloc _) _ _ 1 1 [.int .u64 x] rfl (Reads.new1 w3 _ _) (fun u hu => by simp at hu; subst hu; rfl) (by simp only [maxLen]; omega) (by omega) (by have := B3.size; simp; omega) ?_
       intro v4 w4 hown4 hg4 hat4
       have B4 : Below w2.heap.size w2 w4 := (B3.alloc B3.size _).grown hg4 (by have := B3.size; simp; omega) (fun k e => (O3.out.lt k e).1)
       have hr4 : r < w4.heap.size := Nat.lt_of_lt_of_le hr2 B4.size
       have g0 := (B4.cell (p := ⟨r, 0, none⟩) hr2).trans h0
       have g1 := (B4.cell (p := ⟨r, 1, none⟩) hr2).trans c1
       have e0 := (B4.frozen (p := ⟨r, 0, none⟩) hr2).trans f0
       have e1 := (B4.frozen (p := ⟨r, 1, none⟩) hr2).trans f1
       clear h0 c1 f0 f1
       have O4 := Lib.hid hown4
       obtain ⟨gb, cap4, rfl, hgb, hgl⟩ := hown4.form (by omega)
       clear hg4 hat4 hown4))
  go_ret
  refine ⟨rfl, ?_, ?_⟩
  · have O := O4.out
    have e2 : [] ++ L.map (Value.int .u64) ++ [Value.int .u64 x] = (L ++ [x]).map (.int .u64) := by simp
    rw [e2] at O
    have hlen : (L ++ [x]).length = 0 + L.length + 1 := by simp
    obtain ⟨hl, hrow⟩ := O
    rcases hrow with ⟨e, _⟩ | ⟨gb', cap, cur, e, _, hcur, hle, hcap, hsz, htake⟩
    · cases e
    · simp only [Value.slice.injEq, Option.some.injEq, Addr.mk.injEq] at e
      obtain ⟨⟨rfl, _, _⟩, _, rfl⟩ := e
      have hO : w4.ownsRow w2.heap.size 22 1 (.slice (some ⟨gb, 0, none⟩) (0 + L.length + 1) cap4) (0 + L.length + 1) ((L ++ [x]).map (.int .u64)) :=
        ⟨hl, .inr ⟨gb, cap4, cur, rfl, hgb, hcur, hle, hcap, hsz, htake⟩⟩
      have hR := Reads.of_own hO
      refine ⟨⟨some ⟨gb, 0, none⟩, cap4, ?_, ?_, fun ad e => ?_, ?_, hcap⟩, ?_, ?_, ?_⟩
      · rw [hlen]; go_simp
      · rw [hlen]
        refine ⟨hR.1, fun hn => ?_⟩
        obtain ⟨ad, ea, hb', hc'⟩ := hR.2 hn
        injection ea with ea
        refine ⟨ad, by rw [ea], by simpa [World.setCell] using hb', fun j u hu => ?_⟩
        rw [World.cell?_setCell_other _ _ _ _ (by
          intro e'
          have h3 := congrArg Addr.block e'
          rw [block_of_add, ← ea] at h3
          simp at h3
          omega)]
        exact hc' j u hu
      · injection e with e
        subst e
        exact ⟨rfl, by simp; omega, by simp; omega⟩
      · rw [hlen]; exact hle
      · go_simp
      · go_simp
      · go_simp
  · refine only_set ?_ _
    exact ⟨B4.os.trans G2.os, B4.tape.trans G2.tape, B4.output.trans G2.output, Nat.le_trans G2.size B4.size, fun k hk hne => (B4.block k (by omega)).trans (G2.block k hk hne)⟩

theorem word_quiet (r b : Nat) (L : List Int) (N : Int) (w : World) (H : RefAt w r b L N) (hs : L.length ≤ 1000000) :
    Calls Try.prog 61 #[.pointer (some ⟨r, 0, none⟩)] w fun e w' => e = .returned (.int .u64 (lastD L)) ∧ ∃ k, w' = w.drewN k :=
  (word_any r b L N w H hs).mono fun _ _ ⟨he, k, hw⟩ => ⟨he, k, hw.symm⟩

set_option maxHeartbeats 1000000 in
theorem refload_any (r b : Nat) (L : List Int) (N : Int) (w : World) (H : RefAt w r b L N) (hs : L.length ≤ 100000) (hN0 : 0 ≤ N) (hN1 : N < 4611686018427387904) :
    Calls Try.prog 27 #[.pointer (some ⟨r, 0, none⟩)] w fun e w' =>
      e = .returned (.tuple #[.int .u64 (lastD L), .int .u64 L.length]) ∧ RefAt w' r b L (N + 1) ∧ w.grownBy w' (some r) ∧ w'.heap.size = w.heap.size := by
  have H1 := H.asked (N + 1)
  have HH := Lib.hid H1
  obtain ⟨_, c1, _, f1⟩ := H
  clear H1
  go_enter Try.func27, Try.ntmps27
  go_wp2_with fail
  obtain ⟨w2, hw2⟩ : ∃ w2, w2 = w.setCell ⟨r, 1, none⟩ (.int .i64 (N + 1)) := ⟨_, rfl⟩
  have H2 := HH.out
  have G2 : w.grownBy w2 (some r) := by rw [hw2]; exact only_set (World.grownBy.refl w _) _
  have S2 : w2.heap.size = w.heap.size := by rw [hw2]; simp [World.setCell]
  rw [← hw2] at H2 ⊢
  clear hw2 HH c1 f1
  have HH := Lib.hid H2
  have HS := Lib.hid S2
  obtain ⟨⟨A, c, h0, _, _, _, _⟩, _, _, _⟩ := H2
  clear S2
  have hw : IntKind.u64.wrap (L.length : Int) = (L.length : Int) := by simp only [IntKind.wrap_u64]; omega
  go_quiet ((go_at_call 61; exact Calls.quiet_of (word_quiet r b L _ _ (HH.out.drewN _) (by omega))))
  go_wp2_with fail
  go_ret2
  exact ⟨rfl, HH.out.drewN _, only_drewN G2 _, HS.out⟩

set_option maxHeartbeats 1000000 in
theorem refcas_yes (r b : Nat) (L : List Int) (N x : Int) (w : World) (H : RefAt w r b L N) (hs : L.length ≤ 100000) (hN0 : 0 ≤ N) (hN1 : N < 4611686018427387904) (hb : b < w.heap.size) (hrb : r ≠ b) :
    Calls Try.prog 26 #[.pointer (some ⟨r, 0, none⟩), .int .u64 L.length, .int .u64 x] w fun e w' =>
      e = .returned (.bool true) ∧ RefAt w' r b (L ++ [x]) (N + 1) ∧ w.grownBy w' (some r) := by
  have HH := Lib.hid H
  obtain ⟨⟨A, c, h0, _, _, _, _⟩, _, _, _⟩ := H
  have hw : IntKind.u64.wrap (L.length : Int) = (L.length : Int) := by simp only [IntKind.wrap_u64]; omega
  go_enter Try.func26, Try.ntmps26
  go_wp2_with fail
  (with_reducible refine (refswap_any r b L N x _ HH.out hs hN0 hN1 hb hrb).mono ?_)
  rintro e w1 ⟨rfl, H1, G1⟩
  go_wp2_with fail
  go_ret
  exact ⟨rfl, H1, G1⟩

set_option maxHeartbeats 1000000 in
theorem refcas_no (r b : Nat) (L : List Int) (N x t : Int) (w : World) (H : RefAt w r b L N) (hs : L.length ≤ 100000) (hN0 : 0 ≤ N) (hN1 : N < 4611686018427387904) (ht : t ≠ L.length) :
    Calls Try.prog 26 #[.pointer (some ⟨r, 0, none⟩), .int .u64 t, .int .u64 x] w fun e w' =>
      e = .returned (.bool false) ∧ RefAt w' r b L (N + 1) ∧ w.grownBy w' (some r) := by
  have HH := Lib.hid H
  obtain ⟨⟨A, c, h0, _, _, _, _⟩, c1, _, f1⟩ := H
  have hw : IntKind.u64.wrap (L.length : Int) = (L.length : Int) := by simp only [IntKind.wrap_u64]; omega
  have hb : (t != (L.length : Int)) = true := by simpa using ht
  clear ht
  go_enter Try.func26, Try.ntmps26
  go_wp2_with fail
  go_ret
  exact ⟨rfl, HH.out.asked _, only_set (World.grownBy.refl w _) _⟩

end Go.Proofs.Ytpddlnedaleblaa
