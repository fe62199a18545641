/- queue.Queue's closures of Fill, Wake, Remove; each; Push, Fill, Wake, Remove, walked. -/
import Derived.Test.YtpddlnedaleblaaQueueP
namespace Go.Proofs.Ytpddlnedaleblaa
open Go.RowKit

set_option maxRecDepth 100000 in
set_option maxHeartbeats 2000000 in
theorem fill1 : Step1 65 fillS := by
  intro w B b o x R F g1 g2 y H hx hxb hx1 hx2 hRF hB
  have HQ := Lib.hid H
  have hxl := World.block_lt_of_cell? w _ hx
  clear H
  by_cases hq : y ∈ R
  · have HP := Lib.hid (show fillS R F y = (0, R.erase y, F ++ [y]) by simp [fillS, hq])
    have HL := Lib.hid (length_erase_lt hq)
    have HI := Lib.hid hq
    clear hq
    go_enter Try.func65, Try.ntmps65
    go_wp2_with fail
    (with_reducible refine (drop_yes _ B b o R g1 y HQ.out.r1 (by omega) HI.out).mono ?_)
    rintro e w1 ⟨rfl, hr1, hf1, hs1⟩
    have HT := Lib.hid (row1_to HQ.out hr1 (.inl rfl) hf1)
    have hx3 : w1.cell? ⟨x, 0, none⟩ = some (.pointer (some ⟨b, o, none⟩)) := (World.cell?_of_block (a := ⟨x, 0, none⟩) (hf1.block x hxl hxb hx1)).trans hx
    have hQ1 : QueueAt w1 B b o (R.erase y) F g1 g2 := ⟨hr1, HQ.out.r2.other hf1 (by omega) (fun k e h => by have := HQ.out.apart (h.trans e.symm); rw [this] at h; cases h), HQ.out.apart⟩
    have HQ1 := Lib.hid hQ1
    have HF := Lib.hid (QFr.of_row1 HQ.out hf1)
    have hsz : w.heap.size ≤ w1.heap.size := hf1.size
    clear hr1 hf1 hs1 hQ1 hx
    go_wp2_with fail
    (with_reducible refine (add_any _ B b (o + 1) F g2 y HQ1.out.r2 (by have := HL.out; omega) (by omega)).mono ?_)
    rintro e w2 ⟨rfl, g', hr', hn', hf'⟩
    have HZ := Lib.hid (QTo.trans HF.out (.inl rfl) (.inl rfl) (row2_to HQ1.out hr' hn' hf'))
    clear hr' hn' hf' HT
    go_wp2_with fail
    go_ret
    rw [HP.out]
    exact ⟨rfl, HZ.out⟩
  · have HP := Lib.hid (show fillS R F y = (5, R, F) by simp [fillS, hq])
    have HI := Lib.hid hq
    clear hq
    go_enter Try.func65, Try.ntmps65
    go_wp2_with fail
    (with_reducible refine (drop_no _ B b o R g1 y HQ.out.r1 (by omega) HI.out).mono ?_)
    rintro e w1 ⟨rfl, rfl⟩
    go_wp2_with fail
    go_ret
    rw [HP.out]
    exact ⟨rfl, QTo.of_below HQ.out (Below.refl _ _)⟩

set_option maxRecDepth 100000 in
set_option maxHeartbeats 2000000 in
theorem wake1 : Step1 68 wakeS := by
  intro w B b o x R F g1 g2 y H hx hxb hx1 hx2 hRF hB
  have HQ := Lib.hid H
  have hxl := World.block_lt_of_cell? w _ hx
  clear H
  by_cases hq : y ∈ F
  · have HP := Lib.hid (show wakeS R F y = (0, R ++ [y], F.erase y) by simp [wakeS, hq])
    have HL := Lib.hid (length_erase_lt hq)
    have HI := Lib.hid hq
    clear hq
    go_enter Try.func68, Try.ntmps68
    go_wp2_with fail
    (with_reducible refine (drop_yes _ B b (o + 1) F g2 y HQ.out.r2 (by omega) HI.out).mono ?_)
    rintro e w1 ⟨rfl, hr1, hf1, hs1⟩
    have HT := Lib.hid (row2_to HQ.out hr1 (.inl rfl) hf1)
    have hx3 : w1.cell? ⟨x, 0, none⟩ = some (.pointer (some ⟨b, o, none⟩)) := (World.cell?_of_block (a := ⟨x, 0, none⟩) (hf1.block x hxl hxb hx2)).trans hx
    have hQ1 : QueueAt w1 B b o R (F.erase y) g1 g2 := ⟨HQ.out.r1.other hf1 (by omega) (fun k e h => by have := HQ.out.apart (e.trans h.symm); rw [this] at e; cases e), hr1, HQ.out.apart⟩
    have HQ1 := Lib.hid hQ1
    have HF := Lib.hid (QFr.of_row2 HQ.out hf1)
    have hsz : w.heap.size ≤ w1.heap.size := hf1.size
    clear hr1 hf1 hs1 hQ1 hx
    go_wp2_with fail
    (with_reducible refine (add_any _ B b o R g1 y HQ1.out.r1 (by have := HL.out; omega) (by omega)).mono ?_)
    rintro e w2 ⟨rfl, g', hr', hn', hf'⟩
    have HZ := Lib.hid (QTo.trans HF.out (.inl rfl) (.inl rfl) (row1_to HQ1.out hr' hn' hf'))
    clear hr' hn' hf' HT
    go_wp2_with fail
    go_ret
    rw [HP.out]
    exact ⟨rfl, HZ.out⟩
  · have HP := Lib.hid (show wakeS R F y = (5, R, F) by simp [wakeS, hq])
    have HI := Lib.hid hq
    clear hq
    go_enter Try.func68, Try.ntmps68
    go_wp2_with fail
    (with_reducible refine (drop_no _ B b (o + 1) F g2 y HQ.out.r2 (by omega) HI.out).mono ?_)
    rintro e w1 ⟨rfl, rfl⟩
    go_wp2_with fail
    go_ret
    rw [HP.out]
    exact ⟨rfl, QTo.of_below HQ.out (Below.refl _ _)⟩

set_option maxRecDepth 100000 in
set_option maxHeartbeats 2000000 in
theorem remove1 : Step1 77 removeS := by
  intro w B b o x R F g1 g2 y H hx hxb hx1 hx2 hRF hB
  have HQ := Lib.hid H
  have hxl := World.block_lt_of_cell? w _ hx
  clear H
  by_cases hq : y ∈ R
  · have HP := Lib.hid (show removeS R F y = (0, R.erase y, F) by simp [removeS, hq])
    have HI := Lib.hid hq
    clear hq
    go_enter Try.func77, Try.ntmps77
    go_wp2_with fail
    (with_reducible refine (drop_yes _ B b o R g1 y HQ.out.r1 (by omega) HI.out).mono ?_)
    rintro e w1 ⟨rfl, hr1, hf1, hs1⟩
    have HT := Lib.hid (row1_to HQ.out hr1 (.inl rfl) hf1)
    clear hr1 hf1 hs1
    go_wp2_with fail
    go_ret
    rw [HP.out]
    exact ⟨rfl, HT.out⟩
  · by_cases hq2 : y ∈ F
    · have HP := Lib.hid (show removeS R F y = (0, R, F.erase y) by simp [removeS, hq, hq2])
      have HI := Lib.hid hq
      have HI2 := Lib.hid hq2
      clear hq hq2
      go_enter Try.func77, Try.ntmps77
      go_wp2_with fail
      (with_reducible refine (drop_no _ B b o R g1 y HQ.out.r1 (by omega) HI.out).mono ?_)
      rintro e w1 ⟨rfl, rfl⟩
      go_wp2_with fail
      (with_reducible refine (drop_yes _ B b (o + 1) F g2 y HQ.out.r2 (by omega) HI2.out).mono ?_)
      rintro e w1 ⟨rfl, hr1, hf1, hs1⟩
      have HT := Lib.hid (row2_to HQ.out hr1 (.inl rfl) hf1)
      clear hr1 hf1 hs1
      go_wp2_with fail
      go_ret
      rw [HP.out]
      exact ⟨rfl, HT.out⟩
    · have HP := Lib.hid (show removeS R F y = (5, R, F) by simp [removeS, hq, hq2])
      have HI := Lib.hid hq
      have HI2 := Lib.hid hq2
      clear hq hq2
      go_enter Try.func77, Try.ntmps77
      go_wp2_with fail
      (with_reducible refine (drop_no _ B b o R g1 y HQ.out.r1 (by omega) HI.out).mono ?_)
      rintro e w1 ⟨rfl, rfl⟩
      go_wp2_with fail
      (with_reducible refine (drop_no _ B b (o + 1) F g2 y HQ.out.r2 (by omega) HI2.out).mono ?_)
      rintro e w1 ⟨rfl, rfl⟩
      go_wp2_with fail
      go_ret
      rw [HP.out]
      exact ⟨rfl, QTo.of_below HQ.out (Below.refl _ _)⟩

/-- No step makes the rows longer than by one. -/
def Slow (S : List Int → List Int → Int → Int × List Int × List Int) : Prop := ∀ R F y, (S R F y).2.1.length + (S R F y).2.2.length ≤ R.length + F.length + 1

theorem slow_push : Slow pushS := fun R F y => by unfold pushS; split <;> simp <;> omega
theorem slow_fill : Slow fillS := fun R F y => by
  unfold fillS; split
  · rename_i h; have := length_erase_lt h; simp; omega
  · simp
theorem slow_wake : Slow wakeS := fun R F y => by
  unfold wakeS; split
  · rename_i h; have := length_erase_lt h; simp; omega
  · simp
theorem slow_remove : Slow removeS := fun R F y => by
  unfold removeS; split
  · rename_i h; have := length_erase_lt h; simp; omega
  · split
    · rename_i h; have := length_erase_lt h; simp; omega
    · simp

theorem eachS_stop {f : List Int → List Int → Int → Int × List Int × List Int} {l : List Int} {R F : List Int} {x : Int} (h : (f R F x).1 ≠ 0) : eachS f (x :: l) R F = f R F x := by simp [eachS, h]
theorem eachS_go {f : List Int → List Int → Int → Int × List Int × List Int} {l : List Int} {R F : List Int} {x : Int} (h : (f R F x).1 = 0) : eachS f (x :: l) R F = eachS f l (f R F x).2.1 (f R F x).2.2 := by simp [eachS, h]

theorem IntRow.below {w w' : World} {N : Nat} {A : Option Addr} {n : Nat} {l : List Int} (h : IntRow w N A n l) (hk : ∀ ad, A = some ad → w'.heap[ad.block]? = w.heap[ad.block]?) : IntRow w' N A n l := by
  refine ⟨h.1, fun hn => ?_⟩
  obtain ⟨ad, e, hb, hc⟩ := h.2 hn
  refine ⟨ad, e, hb, fun j u hu => ?_⟩
  rw [World.cell?_of_block (w := w) (by rw [block_of_add]; exact hk ad e)]
  exact hc j u hu

set_option maxRecDepth 100000 in
set_option maxHeartbeats 4000000 in
theorem each_any (fid : FuncId) (S : List Int → List Int → Int → Int × List Int × List Int) (hS : Step1 fid S) (hslow : Slow S) (hcf : ∀ (vs : Array Value) (w : World), (callFunc fid vs).run Try.prog w = .ok (.enter fid vs) w) (w : World) (B b o x : Nat) (R F : List Int) (g1 g2 : Option Nat) (H : QueueAt w B b o R F g1 g2)
    (hx : w.cell? ⟨x, 0, none⟩ = some (.pointer (some ⟨b, o, none⟩))) (hxb : x ≠ b) (hx1 : some x ≠ g1) (hx2 : some x ≠ g2) (hB : B ≤ w.heap.size)
    (N : Nat) (A : Option Addr) (n c : Nat) (l : List Int) (hl : IntRow w N A n l) (hA : ∀ ad, 0 < n → A = some ad → ad.spot = none ∧ ad.block < w.heap.size ∧ ad.block ≠ b ∧ some ad.block ≠ g1 ∧ some ad.block ≠ g2) (hn : R.length + F.length + n ≤ 900000) :
    Calls Try.prog 62 #[.pointer (some ⟨b, o, none⟩), .func (.func fid) #[] #[.pointer (some ⟨x, 0, none⟩)], .slice A n c] w fun e w' =>
      e = .returned (.int .i64 (eachS S l R F).1) ∧ QTo w w' B b o g1 g2 (eachS S l R F).2.1 (eachS S l R F).2.2 := by
  have hxl := World.block_lt_of_cell? w _ hx
  have HS := Lib.hid hS
  have HW := Lib.hid hslow
  have HH := Lib.hid hl
  have HA := Lib.hid hA
  have hlen := hl.len
  have HL := Lib.hid hlen
  have HQ := Lib.hid H
  have HX := Lib.hid hx
  clear hS hslow hl hA hlen H hx
  go_enter Try.func62, Try.ntmps62
  go_wp2_with fail
  go_loopw [14] (fun i wr => ∃ (k : Nat) (R' F' : List Int) (k1 k2 : Option Nat), k ≤ n ∧ i = .int .i64 k ∧ Hid (QueueAt wr B b o R' F' k1 k2 ∧ newOr w g1 k1 ∧ newOr w g2 k2 ∧ QFr w wr b o g1 g2 ∧ eachS S l R F = eachS S (l.drop k) R' F') ∧ R'.length + F'.length + (n - k) ≤ 900000) (fun i _ => n - (intOf i).toNat)
  case atStart => exact ⟨0, R, F, g1, g2, by omega, rfl, ⟨HQ.out, .inl rfl, .inl rfl, QFr.of_below HQ.out (Below.refl _ _), by simp⟩, by omega⟩
  case round =>
    obtain ⟨k, R', F', k1, k2, hk, rfl, HR, hb⟩ := hrel
    have hfr := HR.out.2.2.2.1
    have hsz := hfr.size
    by_cases hlt : k < n
    · have hl' : IntRow wr N A n l := HH.out.below (fun ad e => by
        obtain ⟨_, h1, h2, h3, h4⟩ := HA.out ad (by omega) e
        exact hfr.block _ h1 h2 h3 h4)
      obtain ⟨g, off, y, rfl, hy, hc⟩ := hl'.at_ (fun ad e => (HA.out ad (by omega) e).1) hlt
      have hxr : wr.cell? ⟨x, 0, none⟩ = some (.pointer (some ⟨b, o, none⟩)) := (World.cell?_of_block (a := ⟨x, 0, none⟩) (hfr.block x hxl hxb hx1 hx2)).trans HX.out
      have hk1 : some x ≠ k1 := by
        rcases HR.out.2.1 with rfl | ⟨j, rfl, hj⟩
        · exact hx1
        · simp; omega
      have hk2 : some x ≠ k2 := by
        rcases HR.out.2.2.1 with rfl | ⟨j, rfl, hj⟩
        · exact hx2
        · simp; omega
      have HY := Lib.hid hy
      have HD : Hid (l.drop k = y :: l.drop (k + 1)) := by
        rw [List.drop_eq_getElem_cons (by rw [← HL.out]; exact hlt)]
        congr 1
        have h1 := HY.out
        rw [List.getElem?_eq_getElem (by rw [← HL.out]; exact hlt)] at h1
        injection h1
      have HC := Lib.hid (HS.out wr B b o x R' F' k1 k2 y HR.out.1 hxr hxb hk1 hk2 (by omega) (by omega))
      have HV := Lib.hid (HW.out R' F' y)
      clear hy hxr hl' hfr hk1 hk2
      go_wp2_with fail
      refine HC.out.mono ?_
      rintro e w1 ⟨rfl, ⟨j1, j2, hq', m1, m2⟩, hf'⟩
      by_cases h0 : (S R' F' y).1 = 0
      · have hE := HR.out.2.2.2.2
        rw [HD.out, eachS_go h0] at hE
        have HE : Hid (QueueAt w1 B b o (S R' F' y).2.1 (S R' F' y).2.2 j1 j2 ∧ newOr w g1 j1 ∧ newOr w g2 j2 ∧ QFr w w1 b o g1 g2 ∧ eachS S l R F = eachS S (l.drop (k + 1)) (S R' F' y).2.1 (S R' F' y).2.2) :=
          ⟨hq', HR.out.2.1.trans m1 hsz, HR.out.2.2.1.trans m2 hsz, HR.out.2.2.2.1.trans hf' HR.out.2.1 HR.out.2.2.1, hE⟩
        have hb' : (S R' F' y).2.1.length + (S R' F' y).2.2.length + (n - (k + 1)) ≤ 900000 := by have := HV.out; omega
        rw [h0]
        clear h0 hE hq' m1 m2 hf' HC
        go_wp2_with fail
        go_roundw
        case rel => exact ⟨k + 1, _, _, j1, j2, by omega, by go_num, HE, hb'⟩
        case measure => simp [intOf]; omega
      · have hE := HR.out.2.2.2.2
        rw [HD.out, eachS_stop h0] at hE
        have HE := Lib.hid hE
        have HT : Hid (QTo w w1 B b o g1 g2 (S R' F' y).2.1 (S R' F' y).2.2) := QTo.trans HR.out.2.2.2.1 HR.out.2.1 HR.out.2.2.1 ⟨⟨j1, j2, hq', m1, m2⟩, hf'⟩
        have hne : ((S R' F' y).1 != 0) = true := by simpa using h0
        clear h0 hE hq' m1 m2 hf' HC
        go_wp2_with fail
        go_ret
        rw [HE.out]
        exact ⟨rfl, HT.out⟩
    · obtain rfl : k = n := by omega
      have hE := HR.out.2.2.2.2
      rw [List.drop_of_length_le (by rw [← HL.out]; exact Nat.le_refl _)] at hE
      have HE := Lib.hid hE
      clear hE hfr
      go_wp2_with fail
      go_ret
      rw [HE.out]
      exact ⟨rfl, ⟨k1, k2, HR.out.1, HR.out.2.1, HR.out.2.2.1⟩, HR.out.2.2.2.1⟩

set_option maxRecDepth 100000 in
set_option maxHeartbeats 2000000 in
theorem push_any (w : World) (B b o : Nat) (R F : List Int) (g1 g2 : Option Nat) (H : QueueAt w B b o R F g1 g2) (hB : B ≤ w.heap.size)
    (N : Nat) (A : Option Addr) (n c : Nat) (l : List Int) (hl : IntRow w N A n l) (hA : ∀ ad, 0 < n → A = some ad → ad.spot = none ∧ ad.block < w.heap.size ∧ ad.block ≠ b ∧ some ad.block ≠ g1 ∧ some ad.block ≠ g2) (hn : R.length + F.length + n ≤ 900000) (hN : N ≤ w.heap.size) :
    Calls Try.prog 31 #[.pointer (some ⟨b, o, none⟩), .slice A n c] w fun e w' =>
      e = .returned (.int .i64 (eachS pushS l R F).1) ∧ QTo w w' B b o g1 g2 (eachS pushS l R F).2.1 (eachS pushS l R F).2.2 := by
  have hb := H.r1.lt
  have B1 := (Below.refl w.heap.size w).alloc (Nat.le_refl _) (.cells #[.pointer (some ⟨b, o, none⟩)] 113)
  have HQ := Lib.hid H
  have HL := Lib.hid (IntRow.alloc hl hN (.cells #[.pointer (some ⟨b, o, none⟩)] 113))
  have HA := Lib.hid hA
  have hx1 : some w.heap.size ≠ g1 := fun e => by have := (H.r1.g_lt _ e.symm).2; omega
  have hx2 : some w.heap.size ≠ g2 := fun e => by have := (H.r2.g_lt _ e.symm).2; omega
  clear H hl hA
  go_enter Try.func31, Try.ntmps31
  go_wp2_with fail
  (with_reducible refine (each_any 63 pushS push1 slow_push (fun _ _ => rfl) _ B b o w.heap.size R F g1 g2 (HQ.out.below B1 (Nat.le_refl _)) (by go_simp) (by omega) hx1 hx2 (by simp; omega) N A n c l HL.out
    (fun ad h0 e => by obtain ⟨h1, h2, h3⟩ := HA.out ad h0 e; exact ⟨h1, by simp; omega, h3⟩) hn).mono ?_)
  rintro e w1 ⟨rfl, ht⟩
  have HT := Lib.hid (QTo.trans (QFr.of_below HQ.out B1) (.inl rfl) (.inl rfl) ht)
  clear ht
  go_wp2_with fail
  go_ret
  exact ⟨rfl, HT.out⟩

set_option maxRecDepth 100000 in
set_option maxHeartbeats 2000000 in
theorem remove_any (w : World) (B b o : Nat) (R F : List Int) (g1 g2 : Option Nat) (H : QueueAt w B b o R F g1 g2) (hB : B ≤ w.heap.size)
    (N : Nat) (A : Option Addr) (n c : Nat) (l : List Int) (hl : IntRow w N A n l) (hA : ∀ ad, 0 < n → A = some ad → ad.spot = none ∧ ad.block < w.heap.size ∧ ad.block ≠ b ∧ some ad.block ≠ g1 ∧ some ad.block ≠ g2) (hn : R.length + F.length + n ≤ 900000) (hN : N ≤ w.heap.size) :
    Calls Try.prog 53 #[.pointer (some ⟨b, o, none⟩), .slice A n c] w fun e w' =>
      e = .returned (.int .i64 (eachS removeS l R F).1) ∧ QTo w w' B b o g1 g2 (eachS removeS l R F).2.1 (eachS removeS l R F).2.2 := by
  have hb := H.r1.lt
  have B1 := (Below.refl w.heap.size w).alloc (Nat.le_refl _) (.cells #[.pointer (some ⟨b, o, none⟩)] 113)
  have HQ := Lib.hid H
  have HL := Lib.hid (IntRow.alloc hl hN (.cells #[.pointer (some ⟨b, o, none⟩)] 113))
  have HA := Lib.hid hA
  have hx1 : some w.heap.size ≠ g1 := fun e => by have := (H.r1.g_lt _ e.symm).2; omega
  have hx2 : some w.heap.size ≠ g2 := fun e => by have := (H.r2.g_lt _ e.symm).2; omega
  clear H hl hA
  go_enter Try.func53, Try.ntmps53
  go_wp2_with fail
  (with_reducible refine (each_any 77 removeS remove1 slow_remove (fun _ _ => rfl) _ B b o w.heap.size R F g1 g2 (HQ.out.below B1 (Nat.le_refl _)) (by go_simp) (by omega) hx1 hx2 (by simp; omega) N A n c l HL.out
    (fun ad h0 e => by obtain ⟨h1, h2, h3⟩ := HA.out ad h0 e; exact ⟨h1, by simp; omega, h3⟩) hn).mono ?_)
  rintro e w1 ⟨rfl, ht⟩
  have HT := Lib.hid (QTo.trans (QFr.of_below HQ.out B1) (.inl rfl) (.inl rfl) ht)
  clear ht
  go_wp2_with fail
  go_ret
  exact ⟨rfl, HT.out⟩

set_option maxRecDepth 100000 in
set_option maxHeartbeats 2000000 in
theorem fill_any (w : World) (B b o : Nat) (R F : List Int) (g1 g2 : Option Nat) (x : Int) (H : QueueAt w B b o R F g1 g2) (hB : B ≤ w.heap.size) (hn : R.length + F.length + 1 ≤ 900000) :
    Calls Try.prog 32 #[.pointer (some ⟨b, o, none⟩), .int .i64 x] w fun e w' =>
      e = .returned (.int .i64 (fillS R F x).1) ∧ QTo w w' B b o g1 g2 (fillS R F x).2.1 (fillS R F x).2.2 := by
  have hb := H.r1.lt
  have B1 := ((Below.refl w.heap.size w).alloc (Nat.le_refl _) (.cells #[.pointer (some ⟨b, o, none⟩)] 113)).alloc (by simp) (.cells #[.int .i64 x] 3)
  have HQ := Lib.hid H
  have hl : IntRow ((w.alloc (.cells #[.pointer (some ⟨b, o, none⟩)] 113)).alloc (.cells #[.int .i64 x] 3)) (w.heap.size + 1 + 1) (some ⟨w.heap.size + 1, 0, none⟩) 1 [x] := by
    have h := Reads.new1 (w.alloc (.cells #[.pointer (some ⟨b, o, none⟩)] 113)) (.int .i64 x) 3
    unfold IntRow
    simpa using h
  have HL := Lib.hid hl
  have hx1 : some w.heap.size ≠ g1 := fun e => by have := (H.r1.g_lt _ e.symm).2; omega
  have hx2 : some w.heap.size ≠ g2 := fun e => by have := (H.r2.g_lt _ e.symm).2; omega
  have hy1 : some (w.heap.size + 1) ≠ g1 := fun e => by have := (H.r1.g_lt _ e.symm).2; omega
  have hy2 : some (w.heap.size + 1) ≠ g2 := fun e => by have := (H.r2.g_lt _ e.symm).2; omega
  have he : eachS fillS [x] R F = fillS R F x := by
    by_cases h : (fillS R F x).1 = 0
    · rw [eachS_go h]
      simp only [eachS]
      rw [← h]
    · rw [eachS_stop h]
  have HE := Lib.hid he
  clear H hl he
  go_enter Try.func32, Try.ntmps32
  go_wp2_with fail
  (with_reducible refine (each_any 65 fillS fill1 slow_fill (fun _ _ => rfl) _ B b o w.heap.size R F g1 g2 (HQ.out.below B1 (Nat.le_refl _)) (by go_simp) (by omega) hx1 hx2 (by simp; omega) _ _ 1 1 [x] HL.out
    (fun ad _ e => by injection e with e; subst e; exact ⟨rfl, by simp, by simp; omega, hy1, hy2⟩) hn).mono ?_)
  rintro e w1 ⟨rfl, ht⟩
  rw [HE.out] at ht
  rw [HE.out]
  have HT := Lib.hid (QTo.trans (QFr.of_below HQ.out B1) (.inl rfl) (.inl rfl) ht)
  clear ht
  go_wp2_with fail
  go_ret
  exact ⟨rfl, HT.out⟩

set_option maxRecDepth 100000 in
set_option maxHeartbeats 2000000 in
theorem wake_any (w : World) (B b o : Nat) (R F : List Int) (g1 g2 : Option Nat) (x : Int) (H : QueueAt w B b o R F g1 g2) (hB : B ≤ w.heap.size) (hn : R.length + F.length + 1 ≤ 900000) :
    Calls Try.prog 36 #[.pointer (some ⟨b, o, none⟩), .int .i64 x] w fun e w' =>
      e = .returned (.int .i64 (wakeS R F x).1) ∧ QTo w w' B b o g1 g2 (wakeS R F x).2.1 (wakeS R F x).2.2 := by
  have hb := H.r1.lt
  have B1 := ((Below.refl w.heap.size w).alloc (Nat.le_refl _) (.cells #[.pointer (some ⟨b, o, none⟩)] 113)).alloc (by simp) (.cells #[.int .i64 x] 3)
  have HQ := Lib.hid H
  have hl : IntRow ((w.alloc (.cells #[.pointer (some ⟨b, o, none⟩)] 113)).alloc (.cells #[.int .i64 x] 3)) (w.heap.size + 1 + 1) (some ⟨w.heap.size + 1, 0, none⟩) 1 [x] := by
    have h := Reads.new1 (w.alloc (.cells #[.pointer (some ⟨b, o, none⟩)] 113)) (.int .i64 x) 3
    unfold IntRow
    simpa using h
  have HL := Lib.hid hl
  have hx1 : some w.heap.size ≠ g1 := fun e => by have := (H.r1.g_lt _ e.symm).2; omega
  have hx2 : some w.heap.size ≠ g2 := fun e => by have := (H.r2.g_lt _ e.symm).2; omega
  have hy1 : some (w.heap.size + 1) ≠ g1 := fun e => by have := (H.r1.g_lt _ e.symm).2; omega
  have hy2 : some (w.heap.size + 1) ≠ g2 := fun e => by have := (H.r2.g_lt _ e.symm).2; omega
  have he : eachS wakeS [x] R F = wakeS R F x := by
    by_cases h : (wakeS R F x).1 = 0
    · rw [eachS_go h]
      simp only [eachS]
      rw [← h]
    · rw [eachS_stop h]
  have HE := Lib.hid he
  clear H hl he
  go_enter Try.func36, Try.ntmps36
  go_wp2_with fail
  (with_reducible refine (each_any 68 wakeS wake1 slow_wake (fun _ _ => rfl) _ B b o w.heap.size R F g1 g2 (HQ.out.below B1 (Nat.le_refl _)) (by go_simp) (by omega) hx1 hx2 (by simp; omega) _ _ 1 1 [x] HL.out
    (fun ad _ e => by injection e with e; subst e; exact ⟨rfl, by simp, by simp; omega, hy1, hy2⟩) hn).mono ?_)
  rintro e w1 ⟨rfl, ht⟩
  rw [HE.out] at ht
  rw [HE.out]
  have HT := Lib.hid (QTo.trans (QFr.of_below HQ.out B1) (.inl rfl) (.inl rfl) ht)
  clear ht
  go_wp2_with fail
  go_ret
  exact ⟨rfl, HT.out⟩

end Go.Proofs.Ytpddlnedaleblaa
