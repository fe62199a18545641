/- The stack's Put and Take, walked. -/
import Derived.Test.YtpddlnedaleblaaStackW
namespace Go.Proofs.Ytpddlnedaleblaa
open Go.RowKit

theorem is_yes (q : Nat) (h : q < 64) : decide (0 ≤ (q : Int) ∧ (q : Int) < 64) = true := by simp; omega

/-- Who is below, one place turned. -/
def belU (bel : Nat → Int) (q : Nat) (top : Int) : Nat → Int := fun j => if j = q then top else bel j

theorem hd_mem {L : List Int} (h : L ≠ []) : hd L ∈ L := by
  cases L with
  | nil => exact absurd rfl h
  | cons p r => simp [hd]

theorem Lnk.upd {bel : Nat → Int} {q : Nat} {top : Int} : ∀ {L : List Int}, Lnk bel L → (∀ p ∈ L, 0 ≤ p) → (q : Int) ∉ L → Lnk (belU bel q top) L
  | [], _, _, _ => trivial
  | p :: r, h, hp, hq => by
    have hp0 := hp p (by simp)
    refine ⟨?_, Lnk.upd h.2 (fun x hx => hp x (by simp [hx])) (fun hx => hq (by simp [hx]))⟩
    have : p.toNat ≠ q := fun e => hq (by rw [show (q : Int) = p by omega]; simp)
    simp only [belU, if_neg this]
    exact h.1

theorem stk_no {L : List Int} {t n m : Int} {bel : Nat → Int} {q : Nat} {top : Int} (hq : q < 64) (j : Nat) : upd (upd (stkV L t n bel) (3 + q) (.int .i64 top)) 2 (.int .i64 m) j = stkV L t m (belU bel q top) j := by
  unfold upd stkV belU
  by_cases h2 : j = 2
  · subst h2; simp
  · by_cases h3 : j = 3 + q
    · subst h3
      rw [if_neg h2, if_pos rfl, if_neg (by omega), if_neg (by omega), if_neg h2, if_pos (by omega), if_pos (by omega)]
    · by_cases h4 : j < 67
      · by_cases h5 : j = 0
        · simp [h5]; omega
        · by_cases h6 : j = 1
          · simp [h6]; omega
          · simp only [h2, h3, h4, h5, h6, if_false, if_true]
            rw [if_neg (by omega)]
      · have h5 : j ≠ 0 := by omega
        have h6 : j ≠ 1 := by omega
        simp only [h2, h3, h4, h5, h6, if_false]

theorem StackAt.no {w : World} {b o : Nat} {L : List Int} {t n m : Int} {bel : Nat → Int} {q : Nat} {top : Int} (H : StackAt w b o L t n) (hl : Lnk bel L) (hbl : ∀ j, j < 64 → -1 ≤ bel j ∧ bel j < 64) (hq : q < 64) (hqL : (q : Int) ∉ L) (ht : -1 ≤ top ∧ top < 64)
    {w1 : World} (ho : Obj_ w1 b o 132 (upd (stkV L t n bel) (3 + q) (.int .i64 top))) : StackAt (w1.setCell ⟨b, o + 2, none⟩ (.int .i64 m)) b o L t m :=
  ⟨⟨belU bel q top, (ho.set (i := 2) (by omega) _).congr (fun j _ => stk_no hq j), hl.upd (fun p hp => (H.bd p hp).1) hqL, fun j hj => by unfold belU; split <;> first | exact ht | exact hbl j hj⟩, H.nd, H.bd⟩

theorem stk_yes {L : List Int} {t n : Int} {bel : Nat → Int} {q : Nat} {top : Int} (hq : q < 64) (ht0 : 0 ≤ t) (ht1 : t < 4611686018427387904) (j : Nat) (hj : j < 132) :
    upd (upd (upd (upd (upd (upd (stkV L t n bel) (3 + q) (.int .i64 top)) 2 (.int .i64 (n + 1))) 0 (.int .u64 ((q : Int) + 1))) 1 (.int .u64 (IntKind.u64.wrap (t + 1)))) (67 + q) (.bool true)) 131 (.int .i64 ((q : Int) + 1)) j =
      stkV ((q : Int) :: L) (t + 1) (n + 1) (belU bel q top) j := by
  have hw : IntKind.u64.wrap (t + 1) = t + 1 := by simp only [IntKind.wrap_u64]; omega
  unfold upd stkV belU
  by_cases a0 : j = 0
  · subst a0
    rw [if_neg (by omega), if_neg (by omega), if_neg (by omega), if_pos rfl, if_pos rfl]; rfl
  by_cases a1 : j = 1
  · subst a1
    rw [if_neg (by omega), if_neg (by omega), if_pos rfl, if_neg (by omega), if_pos rfl, hw]
  by_cases a2 : j = 2
  · subst a2
    rw [if_neg (by omega), if_neg (by omega), if_neg (by omega), if_neg (by omega), if_pos rfl, if_neg (by omega), if_neg (by omega), if_pos rfl]
  by_cases a3 : j = 131
  · subst a3
    rw [if_pos rfl, if_neg (by omega), if_neg (by omega), if_neg (by omega), if_neg (by omega), if_neg (by omega)]; rfl
  by_cases a4 : j < 67
  · by_cases a5 : j = 3 + q
    · subst a5
      rw [if_neg a3, if_neg (by omega), if_neg a1, if_neg a0, if_neg a2, if_pos rfl, if_neg a0, if_neg a1, if_neg a2, if_pos a4, if_pos (by omega)]
    · rw [if_neg a3, if_neg (by omega), if_neg a1, if_neg a0, if_neg a2, if_neg a5, if_neg a0, if_neg a1, if_neg a2, if_pos a4, if_neg a0, if_neg a1, if_neg a2, if_pos a4, if_neg (by omega)]
  · have a6 : j < 131 := by omega
    by_cases a5 : j = 67 + q
    · subst a5
      rw [if_neg a3, if_pos rfl, if_neg a0, if_neg a1, if_neg a2, if_neg a4, if_pos a6]
      rw [show 67 + q - 67 = q by omega]
      simp
    · rw [if_neg a3, if_neg a5, if_neg a1, if_neg a0, if_neg a2, if_neg (by omega), if_neg a0, if_neg a1, if_neg a2, if_neg a4, if_pos a6, if_neg a0, if_neg a1, if_neg a2, if_neg a4, if_pos a6]
      have : ((j - 67 : Nat) : Int) ≠ (q : Int) := by omega
      simp [this]

theorem StackAt.yes {w : World} {b o : Nat} {L : List Int} {t n : Int} {bel : Nat → Int} {q : Nat} {top : Int} (H : StackAt w b o L t n) (hl : Lnk bel L) (hbl : ∀ j, j < 64 → -1 ≤ bel j ∧ bel j < 64) (hq : q < 64) (hqL : (q : Int) ∉ L) (ht : -1 ≤ top ∧ top < 64) (hs : top = hd L)
    (ht0 : 0 ≤ t) (ht1 : t < 4611686018427387904) {w2 : World} (ho : Obj_ w2 b o 132 (upd (upd (upd (upd (stkV L t n bel) (3 + q) (.int .i64 top)) 2 (.int .i64 (n + 1))) 0 (.int .u64 ((q : Int) + 1))) 1 (.int .u64 (IntKind.u64.wrap (t + 1))))) :
    StackAt ((w2.setCell ⟨b, o + 67 + q, none⟩ (.bool true)).setCell ⟨b, o + 131, none⟩ (.int .i64 ((q : Int) + 1))) b o ((q : Int) :: L) (t + 1) (n + 1) := by
  have h := (ho.set (i := 67 + q) (by omega) (.bool true)).set (i := 131) (by omega) (.int .i64 ((q : Int) + 1))
  rw [show o + (67 + q) = o + 67 + q by omega] at h
  refine ⟨⟨belU bel q top, h.congr (fun j hj => stk_yes hq ht0 ht1 j hj), ⟨?_, hl.upd (fun p hp => (H.bd p hp).1) hqL⟩, fun j hj => by unfold belU; split <;> first | exact ht | exact hbl j hj⟩, List.nodup_cons.2 ⟨hqL, H.nd⟩, fun p hp => ?_⟩
  · simp [belU, hs]
  · rcases List.mem_cons.1 hp with rfl | h
    · omega
    · exact H.bd p h

set_option maxRecDepth 100000 in
set_option maxHeartbeats 2000000 in
theorem put_no {w : World} {b o : Nat} {L : List Int} {t n : Int} (q : Nat) (top s : Int) (H : StackAt w b o L t n) (hq : q < 64) (hqL : (q : Int) ∉ L) (ht : -1 ≤ top ∧ top < 64) (hs : t ≠ s) (h0 : 0 ≤ n) (h1 : n < 4611686018427387904) :
    Calls Try.prog 47 #[.pointer (some ⟨b, o, none⟩), .int .i64 q, .int .i64 top, .int .u64 s] w fun e w' => e = .returned (.tuple #[.bool false, .int .i64 0]) ∧ StackAt w' b o L t (n + 1) ∧ Only w w' b := by
  obtain ⟨bel, ho, hl, hbl⟩ := H.obj
  have hin : w.cell? ⟨b, o + 67 + q, none⟩ = some (.bool false) := by
    have h := ho.at_ (j := 67 + q) (by omega) (v := .bool false) (by
      simp only [stkV]
      rw [if_neg (by omega), if_neg (by omega), if_neg (by omega), if_neg (by omega), if_pos (by omega)]
      rw [show 67 + q - 67 = q by omega]
      simp [hqL])
    rw [← h]; congr 2; omega
  have hif : w.frozen? ⟨b, o + 67 + q, none⟩ = false := by
    have h := ho.frz (67 + q) (by omega)
    rw [← h]; congr 2; omega
  have hto : w.cell? ⟨b, o + 131, none⟩ = some (.int .i64 (hd L + 1)) := ho.at_ (by omega) (by simp [stkV])
  have htf : w.frozen? ⟨b, o + 131, none⟩ = false := ho.frz 131 (by omega)
  have hbe : w.cell? ⟨b, o + 3 + q, none⟩ = some (.int .i64 (bel q)) := by
    have h := ho.at_ (j := 3 + q) (by omega) (v := .int .i64 (bel q)) (by
      simp only [stkV]
      rw [if_neg (by omega), if_neg (by omega), if_neg (by omega), if_pos (by omega)]
      rw [show 3 + q - 3 = q by omega])
    rw [← h]; congr 2; omega
  have hbf : w.frozen? ⟨b, o + 3 + q, none⟩ = false := by
    have h := ho.frz (3 + q) (by omega)
    rw [← h]; congr 2; omega
  have ho1 := ho.set (i := 3 + q) (by omega) (.int .i64 top)
  rw [show o + (3 + q) = o + 3 + q by omega] at ho1
  have hc : CellAt (w.setCell ⟨b, o + 3 + q, none⟩ (.int .i64 top)) b o (hd L + 1) t n := ho1.cellAt (by omega) (by simp only [upd]; rw [if_neg (by omega)]; rfl) (by simp only [upd]; rw [if_neg (by omega)]; rfl) (by simp only [upd]; rw [if_neg (by omega)]; rfl)
  have HH := Lib.hid H
  have HC := Lib.hid hc
  have HO := Lib.hid ho1
  have HQL := Lib.hid hqL
  have hq0 : (0 : Int) ≤ (q : Int) := by omega
  have hq1 : (q : Int) < 64 := by omega
  have HS := Lib.hid hs
  clear H hc ho ho1 hqL hs hto htf
  by_cases htop : top = -1
  · have e1 : (top != -1) = false := by simp [htop]
    clear htop
    go_enter Try.func47, Try.ntmps47
    go_wp2_with fail
    (with_reducible refine (is_any _ _).mono ?_)
    rintro e w1 ⟨rfl, rfl⟩
    rw [is_yes q hq]
    go_wp2_with fail
    (with_reducible refine (cas_no b o (hd L + 1) t n s ((q : Int) + 1) _ HC.out h0 h1 HS.out).mono ?_)
    rintro e w2 ⟨rfl, hw⟩
    have HW := Lib.hid hw
    clear hw
    go_wp2_with fail
    go_ret2
    have h := HW.out
    subst h
    exact ⟨rfl, HH.out.no hl hbl hq HQL.out ht HO.out, ((Only.refl w b).set _ _).set _ _⟩
  · have e1 : (top != -1) = true := by simp [htop]
    have htp0 : 0 ≤ top := by omega
    clear htop
    go_enter Try.func47, Try.ntmps47
    go_wp2_with fail
    (with_reducible refine (is_any _ _).mono ?_)
    rintro e w1 ⟨rfl, rfl⟩
    rw [is_yes q hq]
    go_wp2_with fail
    (with_reducible refine (is_any _ _).mono ?_)
    rintro e w1 ⟨rfl, rfl⟩
    rw [show decide (0 ≤ top ∧ top < 64) = true by simp; omega]
    go_wp2_with fail
    (with_reducible refine (cas_no b o (hd L + 1) t n s ((q : Int) + 1) _ HC.out h0 h1 HS.out).mono ?_)
    rintro e w2 ⟨rfl, hw⟩
    have HW := Lib.hid hw
    clear hw
    go_wp2_with fail
    go_ret2
    have h := HW.out
    subst h
    exact ⟨rfl, HH.out.no hl hbl hq HQL.out ht HO.out, ((Only.refl w b).set _ _).set _ _⟩

set_option maxRecDepth 100000 in
set_option maxHeartbeats 2000000 in
theorem put_there {w : World} {b o : Nat} {L : List Int} {t n : Int} (q : Nat) (top s : Int) (H : StackAt w b o L t n) (hq : q < 64) (hqL : (q : Int) ∈ L) (ht : -1 ≤ top ∧ top < 64) (h0 : 0 ≤ n) (h1 : n < 4611686018427387904) :
    Calls Try.prog 47 #[.pointer (some ⟨b, o, none⟩), .int .i64 q, .int .i64 top, .int .u64 s] w fun e w' => e = .returned (.tuple #[.bool false, .int .i64 6]) ∧ w = w' := by
  obtain ⟨bel, ho, hl, hbl⟩ := H.obj
  have hin : w.cell? ⟨b, o + 67 + q, none⟩ = some (.bool true) := by
    have h := ho.at_ (j := 67 + q) (by omega) (v := .bool true) (by
      simp only [stkV]
      rw [if_neg (by omega), if_neg (by omega), if_neg (by omega), if_neg (by omega), if_pos (by omega)]
      rw [show 67 + q - 67 = q by omega]
      simp [hqL])
    rw [← h]; congr 2; omega
  have hif : w.frozen? ⟨b, o + 67 + q, none⟩ = false := by
    have h := ho.frz (67 + q) (by omega)
    rw [← h]; congr 2; omega
  have hto : w.cell? ⟨b, o + 131, none⟩ = some (.int .i64 (hd L + 1)) := ho.at_ (by omega) (by simp [stkV])
  have htf : w.frozen? ⟨b, o + 131, none⟩ = false := ho.frz 131 (by omega)
  have hbe : w.cell? ⟨b, o + 3 + q, none⟩ = some (.int .i64 (bel q)) := by
    have h := ho.at_ (j := 3 + q) (by omega) (v := .int .i64 (bel q)) (by
      simp only [stkV]
      rw [if_neg (by omega), if_neg (by omega), if_neg (by omega), if_pos (by omega)]
      rw [show 3 + q - 3 = q by omega])
    rw [← h]; congr 2; omega
  have hbf : w.frozen? ⟨b, o + 3 + q, none⟩ = false := by
    have h := ho.frz (3 + q) (by omega)
    rw [← h]; congr 2; omega
  have ho1 := ho.set (i := 3 + q) (by omega) (.int .i64 top)
  rw [show o + (3 + q) = o + 3 + q by omega] at ho1
  have hc : CellAt (w.setCell ⟨b, o + 3 + q, none⟩ (.int .i64 top)) b o (hd L + 1) t n := ho1.cellAt (by omega) (by simp only [upd]; rw [if_neg (by omega)]; rfl) (by simp only [upd]; rw [if_neg (by omega)]; rfl) (by simp only [upd]; rw [if_neg (by omega)]; rfl)
  have HH := Lib.hid H
  have HC := Lib.hid hc
  have HO := Lib.hid ho1
  have HQL := Lib.hid hqL
  have hq0 : (0 : Int) ≤ (q : Int) := by omega
  have hq1 : (q : Int) < 64 := by omega
  clear H hc ho ho1 hqL hto htf hif hbe hbf HC HO
  by_cases htop : top = -1
  · have e1 : (top != -1) = false := by simp [htop]
    clear htop
    go_enter Try.func47, Try.ntmps47
    go_wp2_with fail
    (with_reducible refine (is_any _ _).mono ?_)
    rintro e w1 ⟨rfl, rfl⟩
    rw [is_yes q hq]
    go_wp2_with fail
    go_ret2
    exact ⟨rfl, rfl⟩
  · have e1 : (top != -1) = true := by simp [htop]
    have htp0 : 0 ≤ top := by omega
    clear htop
    go_enter Try.func47, Try.ntmps47
    go_wp2_with fail
    (with_reducible refine (is_any _ _).mono ?_)
    rintro e w1 ⟨rfl, rfl⟩
    rw [is_yes q hq]
    go_wp2_with fail
    (with_reducible refine (is_any _ _).mono ?_)
    rintro e w1 ⟨rfl, rfl⟩
    rw [show decide (0 ≤ top ∧ top < 64) = true by simp; omega]
    go_wp2_with fail
    go_ret2
    exact ⟨rfl, rfl⟩

set_option maxRecDepth 100000 in
set_option maxHeartbeats 2000000 in
theorem put_arg (w : World) (b o : Nat) (p top s : Int) (hp : ¬ (0 ≤ p ∧ p < 64)) :
    Calls Try.prog 47 #[.pointer (some ⟨b, o, none⟩), .int .i64 p, .int .i64 top, .int .u64 s] w fun e w' => e = .returned (.tuple #[.bool false, .int .i64 2]) ∧ w = w' := by
  have HP := Lib.hid hp
  clear hp
  go_enter Try.func47, Try.ntmps47
  go_wp2_with fail
  (with_reducible refine (is_any _ _).mono ?_)
  rintro e w1 ⟨rfl, rfl⟩
  rw [show decide (0 ≤ p ∧ p < 64) = false from decide_eq_false HP.out]
  go_wp2_with fail
  go_ret2
  exact ⟨rfl, rfl⟩

set_option maxRecDepth 100000 in
set_option maxHeartbeats 2000000 in
theorem put_yes {w : World} {b o : Nat} {L : List Int} {t n : Int} (q : Nat) (top : Int) (H : StackAt w b o L t n) (hq : q < 64) (hqL : (q : Int) ∉ L) (ht : -1 ≤ top ∧ top < 64) (hs : top = hd L) (ht0 : 0 ≤ t) (ht1 : t < 4611686018427387904) (h0 : 0 ≤ n) (h1 : n < 4611686018427387904) :
    Calls Try.prog 47 #[.pointer (some ⟨b, o, none⟩), .int .i64 q, .int .i64 top, .int .u64 t] w fun e w' => e = .returned (.tuple #[.bool true, .int .i64 0]) ∧ StackAt w' b o ((q : Int) :: L) (t + 1) (n + 1) ∧ Only w w' b := by
  obtain ⟨bel, ho, hl, hbl⟩ := H.obj
  have hin : w.cell? ⟨b, o + 67 + q, none⟩ = some (.bool false) := by
    have h := ho.at_ (j := 67 + q) (by omega) (v := .bool false) (by
      simp only [stkV]
      rw [if_neg (by omega), if_neg (by omega), if_neg (by omega), if_neg (by omega), if_pos (by omega)]
      rw [show 67 + q - 67 = q by omega]
      simp [hqL])
    rw [← h]; congr 2; omega
  have hif : w.frozen? ⟨b, o + 67 + q, none⟩ = false := by
    have h := ho.frz (67 + q) (by omega)
    rw [← h]; congr 2; omega
  have hto : w.cell? ⟨b, o + 131, none⟩ = some (.int .i64 (hd L + 1)) := ho.at_ (by omega) (by simp [stkV])
  have htf : w.frozen? ⟨b, o + 131, none⟩ = false := ho.frz 131 (by omega)
  have hbe : w.cell? ⟨b, o + 3 + q, none⟩ = some (.int .i64 (bel q)) := by
    have h := ho.at_ (j := 3 + q) (by omega) (v := .int .i64 (bel q)) (by
      simp only [stkV]
      rw [if_neg (by omega), if_neg (by omega), if_neg (by omega), if_pos (by omega)]
      rw [show 3 + q - 3 = q by omega])
    rw [← h]; congr 2; omega
  have hbf : w.frozen? ⟨b, o + 3 + q, none⟩ = false := by
    have h := ho.frz (3 + q) (by omega)
    rw [← h]; congr 2; omega
  have ho1 := ho.set (i := 3 + q) (by omega) (.int .i64 top)
  rw [show o + (3 + q) = o + 3 + q by omega] at ho1
  have hc : CellAt (w.setCell ⟨b, o + 3 + q, none⟩ (.int .i64 top)) b o (hd L + 1) t n := ho1.cellAt (by omega) (by simp only [upd]; rw [if_neg (by omega)]; rfl) (by simp only [upd]; rw [if_neg (by omega)]; rfl) (by simp only [upd]; rw [if_neg (by omega)]; rfl)
  have HH := Lib.hid H
  have HC := Lib.hid hc
  have HO := Lib.hid ho1
  have HQL := Lib.hid hqL
  have hq0 : (0 : Int) ≤ (q : Int) := by omega
  have hq1 : (q : Int) < 64 := by omega
  have ho4 := ((ho1.set (i := 2) (by omega) (.int .i64 (n + 1))).set0 (by omega) (.int .u64 ((q : Int) + 1))).set (i := 1) (by omega) (.int .u64 (IntKind.u64.wrap (t + 1)))
  have HO4 := Lib.hid ho4
  have HS := Lib.hid hs
  clear H hc ho ho1 hqL hs ho4
  by_cases htop : top = -1
  · have e1 : (top != -1) = false := by simp [htop]
    clear htop
    go_enter Try.func47, Try.ntmps47
    go_wp2_with fail
    (with_reducible refine (is_any _ _).mono ?_)
    rintro e w1 ⟨rfl, rfl⟩
    rw [is_yes q hq]
    go_wp2_with fail
    (with_reducible refine (cas_yes b o (hd L + 1) t n ((q : Int) + 1) _ HC.out h0 h1).mono ?_)
    rintro e w2 ⟨rfl, hw⟩
    have hO2 : Obj_ w2 b o 132 _ := hw ▸ HO4.out
    have g1 : w2.cell? ⟨b, o + 67 + q, none⟩ = some (.bool false) := by
      have h := hO2.at_ (j := 67 + q) (by omega) (v := .bool false) (by
        simp only [upd]
        rw [if_neg (by omega), if_neg (by omega), if_neg (by omega), if_neg (by omega)]
        simp only [stkV]
        rw [if_neg (by omega), if_neg (by omega), if_neg (by omega), if_neg (by omega), if_pos (by omega)]
        rw [show 67 + q - 67 = q by omega]
        simp [HQL.out])
      rw [← h]; congr 2; omega
    have g2 : w2.frozen? ⟨b, o + 67 + q, none⟩ = false := by
      have h := hO2.frz (67 + q) (by omega)
      rw [← h]; congr 2; omega
    have g3 : w2.cell? ⟨b, o + 131, none⟩ = some (.int .i64 (hd L + 1)) := hO2.at_ (by omega) (by simp only [upd]; rw [if_neg (by omega), if_neg (by omega), if_neg (by omega), if_neg (by omega)]; simp [stkV])
    have g4 : w2.frozen? ⟨b, o + 131, none⟩ = false := hO2.frz 131 (by omega)
    have HW := Lib.hid hw
    have HO2 := Lib.hid hO2
    clear hw hO2 hin hif hto htf hbe hbf
    go_wp2_with fail
    go_ret2
    refine ⟨rfl, HH.out.yes hl hbl hq HQL.out ht HS.out ht0 ht1 HO2.out, ?_⟩
    have h := HW.out
    subst h
    exact ((((((Only.refl w b).set _ _).set _ _).set _ _).set _ _).set _ _).set _ _
  · have e1 : (top != -1) = true := by simp [htop]
    have htp0 : 0 ≤ top := by omega
    clear htop
    go_enter Try.func47, Try.ntmps47
    go_wp2_with fail
    (with_reducible refine (is_any _ _).mono ?_)
    rintro e w1 ⟨rfl, rfl⟩
    rw [is_yes q hq]
    go_wp2_with fail
    (with_reducible refine (is_any _ _).mono ?_)
    rintro e w1 ⟨rfl, rfl⟩
    rw [show decide (0 ≤ top ∧ top < 64) = true by simp; omega]
    go_wp2_with fail
    (with_reducible refine (cas_yes b o (hd L + 1) t n ((q : Int) + 1) _ HC.out h0 h1).mono ?_)
    rintro e w2 ⟨rfl, hw⟩
    have hO2 : Obj_ w2 b o 132 _ := hw ▸ HO4.out
    have g1 : w2.cell? ⟨b, o + 67 + q, none⟩ = some (.bool false) := by
      have h := hO2.at_ (j := 67 + q) (by omega) (v := .bool false) (by
        simp only [upd]
        rw [if_neg (by omega), if_neg (by omega), if_neg (by omega), if_neg (by omega)]
        simp only [stkV]
        rw [if_neg (by omega), if_neg (by omega), if_neg (by omega), if_neg (by omega), if_pos (by omega)]
        rw [show 67 + q - 67 = q by omega]
        simp [HQL.out])
      rw [← h]; congr 2; omega
    have g2 : w2.frozen? ⟨b, o + 67 + q, none⟩ = false := by
      have h := hO2.frz (67 + q) (by omega)
      rw [← h]; congr 2; omega
    have g3 : w2.cell? ⟨b, o + 131, none⟩ = some (.int .i64 (hd L + 1)) := hO2.at_ (by omega) (by simp only [upd]; rw [if_neg (by omega), if_neg (by omega), if_neg (by omega), if_neg (by omega)]; simp [stkV])
    have g4 : w2.frozen? ⟨b, o + 131, none⟩ = false := hO2.frz 131 (by omega)
    have HW := Lib.hid hw
    have HO2 := Lib.hid hO2
    clear hw hO2 hin hif hto htf hbe hbf
    go_wp2_with fail
    go_ret2
    refine ⟨rfl, HH.out.yes hl hbl hq HQL.out ht HS.out ht0 ht1 HO2.out, ?_⟩
    have h := HW.out
    subst h
    exact ((((((Only.refl w b).set _ _).set _ _).set _ _).set _ _).set _ _).set _ _

set_option maxRecDepth 100000 in
set_option maxHeartbeats 2000000 in
theorem take_no {w : World} {b o : Nat} {L : List Int} {t n : Int} (q : Nat) (s : Int) (H : StackAt w b o L t n) (hq : q < 64) (hs : t ≠ s) (h0 : 0 ≤ n) (h1 : n < 4611686018427387904) :
    Calls Try.prog 48 #[.pointer (some ⟨b, o, none⟩), .int .i64 q, .int .u64 s] w fun e w' => e = .returned (.tuple #[.bool false, .int .i64 0]) ∧ StackAt w' b o L t (n + 1) ∧ Only w w' b := by
  obtain ⟨bel, ho, hl, hbl⟩ := H.obj
  have hif : w.frozen? ⟨b, o + 67 + q, none⟩ = false := by
    have h := ho.frz (67 + q) (by omega)
    rw [← h]; congr 2; omega
  have hbe : w.cell? ⟨b, o + 3 + q, none⟩ = some (.int .i64 (bel q)) := by
    have h := ho.at_ (j := 3 + q) (by omega) (v := .int .i64 (bel q)) (by
      simp only [stkV]
      rw [if_neg (by omega), if_neg (by omega), if_neg (by omega), if_pos (by omega)]
      rw [show 3 + q - 3 = q by omega])
    rw [← h]; congr 2; omega
  have hc : CellAt w b o (hd L + 1) t n := ho.cellAt (by omega) rfl rfl rfl
  have HH := Lib.hid H
  have HC := Lib.hid hc
  have HO := Lib.hid ho
  have hq0 : (0 : Int) ≤ (q : Int) := by omega
  have hq1 : (q : Int) < 64 := by omega
  have hb0 := hbl q hq
  have HS := Lib.hid hs
  clear H hc ho hs
  generalize bel q = nx at *
  go_enter Try.func48, Try.ntmps48
  go_wp2_with fail
  (with_reducible refine (is_any _ _).mono ?_)
  rintro e w1 ⟨rfl, rfl⟩
  rw [is_yes q hq]
  go_wp2_with fail
  (with_reducible refine (cas_no b o (hd L + 1) t n s (nx + 1) _ HC.out h0 h1 HS.out).mono ?_)
  rintro e w2 ⟨rfl, hw⟩
  have HW := Lib.hid hw
  clear hw
  go_wp2_with fail
  go_ret2
  have h := HW.out
  subst h
  exact ⟨rfl, ⟨⟨bel, (HO.out.set (i := 2) (by omega) _).congr stkV_n, hl, hbl⟩, HH.out.nd, HH.out.bd⟩, (Only.refl w b).set _ _⟩

set_option maxRecDepth 100000 in
set_option maxHeartbeats 2000000 in
theorem take_arg (w : World) (b o : Nat) (p s : Int) (hp : ¬ (0 ≤ p ∧ p < 64)) :
    Calls Try.prog 48 #[.pointer (some ⟨b, o, none⟩), .int .i64 p, .int .u64 s] w fun e w' => e = .returned (.tuple #[.bool false, .int .i64 2]) ∧ w = w' := by
  have HP := Lib.hid hp
  clear hp
  go_enter Try.func48, Try.ntmps48
  go_wp2_with fail
  (with_reducible refine (is_any _ _).mono ?_)
  rintro e w1 ⟨rfl, rfl⟩
  rw [show decide (0 ≤ p ∧ p < 64) = false from decide_eq_false HP.out]
  go_wp2_with fail
  go_ret2
  exact ⟨rfl, rfl⟩

theorem stk_take {r : List Int} {t n : Int} {bel : Nat → Int} {q : Nat} (hq : q < 64) (hqr : (q : Int) ∉ r) (ht0 : 0 ≤ t) (ht1 : t < 4611686018427387904) (j : Nat) (hj : j < 132) :
    upd (upd (upd (upd (upd (stkV ((q : Int) :: r) t n bel) 2 (.int .i64 (n + 1))) 0 (.int .u64 (hd r + 1))) 1 (.int .u64 (IntKind.u64.wrap (t + 1)))) (67 + q) (.bool false)) 131 (.int .i64 (hd r + 1)) j =
      stkV r (t + 1) (n + 1) bel j := by
  have hw : IntKind.u64.wrap (t + 1) = t + 1 := by simp only [IntKind.wrap_u64]; omega
  unfold upd stkV
  by_cases a0 : j = 0
  · subst a0
    rw [if_neg (by omega), if_neg (by omega), if_neg (by omega), if_pos rfl, if_pos rfl]
  by_cases a1 : j = 1
  · subst a1
    rw [if_neg (by omega), if_neg (by omega), if_pos rfl, if_neg (by omega), if_pos rfl, hw]
  by_cases a2 : j = 2
  · subst a2
    rw [if_neg (by omega), if_neg (by omega), if_neg (by omega), if_neg (by omega), if_pos rfl, if_neg (by omega), if_neg (by omega), if_pos rfl]
  by_cases a3 : j = 131
  · subst a3
    rw [if_pos rfl, if_neg (by omega), if_neg (by omega), if_neg (by omega), if_neg (by omega), if_neg (by omega)]
  by_cases a4 : j < 67
  · rw [if_neg a3, if_neg (by omega), if_neg a1, if_neg a0, if_neg a2, if_neg a0, if_neg a1, if_neg a2, if_pos a4, if_neg a0, if_neg a1, if_neg a2, if_pos a4]
  · have a6 : j < 131 := by omega
    by_cases a5 : j = 67 + q
    · subst a5
      rw [if_neg a3, if_pos rfl, if_neg a0, if_neg a1, if_neg a2, if_neg a4, if_pos a6]
      rw [show 67 + q - 67 = q by omega]
      simp [hqr]
    · rw [if_neg a3, if_neg a5, if_neg a1, if_neg a0, if_neg a2, if_neg a0, if_neg a1, if_neg a2, if_neg a4, if_pos a6, if_neg a0, if_neg a1, if_neg a2, if_neg a4, if_pos a6]
      have : ((j - 67 : Nat) : Int) ≠ (q : Int) := by omega
      simp [this]

theorem StackAt.take {w : World} {b o : Nat} {r : List Int} {t n : Int} {bel : Nat → Int} {q : Nat} (H : StackAt w b o ((q : Int) :: r) t n) (hl : Lnk bel ((q : Int) :: r)) (hbl : ∀ j, j < 64 → -1 ≤ bel j ∧ bel j < 64) (hq : q < 64)
    (ht0 : 0 ≤ t) (ht1 : t < 4611686018427387904) {w2 : World} (ho : Obj_ w2 b o 132 (upd (upd (upd (stkV ((q : Int) :: r) t n bel) 2 (.int .i64 (n + 1))) 0 (.int .u64 (hd r + 1))) 1 (.int .u64 (IntKind.u64.wrap (t + 1))))) :
    StackAt ((w2.setCell ⟨b, o + 67 + q, none⟩ (.bool false)).setCell ⟨b, o + 131, none⟩ (.int .i64 (hd r + 1))) b o r (t + 1) (n + 1) := by
  have h := (ho.set (i := 67 + q) (by omega) (.bool false)).set (i := 131) (by omega) (.int .i64 (hd r + 1))
  rw [show o + (67 + q) = o + 67 + q by omega] at h
  exact ⟨⟨bel, h.congr (fun j hj => stk_take hq (List.nodup_cons.1 H.nd).1 ht0 ht1 j hj), hl.2, hbl⟩, (List.nodup_cons.1 H.nd).2, fun p hp => H.bd p (List.mem_cons_of_mem _ hp)⟩

set_option maxRecDepth 100000 in
set_option maxHeartbeats 2000000 in
theorem take_yes {w : World} {b o : Nat} {t n : Int} (q : Nat) {r : List Int} (H : StackAt w b o ((q : Int) :: r) t n) (hq : q < 64) (ht0 : 0 ≤ t) (ht1 : t < 4611686018427387904) (h0 : 0 ≤ n) (h1 : n < 4611686018427387904) :
    Calls Try.prog 48 #[.pointer (some ⟨b, o, none⟩), .int .i64 q, .int .u64 t] w fun e w' => e = .returned (.tuple #[.bool true, .int .i64 0]) ∧ StackAt w' b o r (t + 1) (n + 1) ∧ Only w w' b := by
  obtain ⟨bel, ho, hl, hbl⟩ := H.obj
  have hif : w.frozen? ⟨b, o + 67 + q, none⟩ = false := by
    have h := ho.frz (67 + q) (by omega)
    rw [← h]; congr 2; omega
  have hbe : w.cell? ⟨b, o + 3 + q, none⟩ = some (.int .i64 (bel q)) := by
    have h := ho.at_ (j := 3 + q) (by omega) (v := .int .i64 (bel q)) (by
      simp only [stkV]
      rw [if_neg (by omega), if_neg (by omega), if_neg (by omega), if_pos (by omega)]
      rw [show 3 + q - 3 = q by omega])
    rw [← h]; congr 2; omega
  have hc : CellAt w b o (hd ((q : Int) :: r) + 1) t n := ho.cellAt (by omega) rfl rfl rfl
  have HH := Lib.hid H
  have HC := Lib.hid hc
  have HO := Lib.hid ho
  have hq0 : (0 : Int) ≤ (q : Int) := by omega
  have hq1 : (q : Int) < 64 := by omega
  have hb0 := hbl q hq
  have hnx : bel q = hd r := by have h := hl.1; simpa using h
  rw [hnx] at hbe hb0
  have ho4 := ((ho.set (i := 2) (by omega) (.int .i64 (n + 1))).set0 (by omega) (.int .u64 (hd r + 1))).set (i := 1) (by omega) (.int .u64 (IntKind.u64.wrap (t + 1)))
  have HO4 := Lib.hid ho4
  clear H hc ho ho4 hnx
  go_enter Try.func48, Try.ntmps48
  go_wp2_with fail
  (with_reducible refine (is_any _ _).mono ?_)
  rintro e w1 ⟨rfl, rfl⟩
  rw [is_yes q hq]
  go_wp2_with fail
  (with_reducible refine (cas_yes b o (hd ((q : Int) :: r) + 1) t n (hd r + 1) _ HC.out h0 h1).mono ?_)
  rintro e w2 ⟨rfl, hw⟩
  have hO2 : Obj_ w2 b o 132 _ := hw ▸ HO4.out
  have g1 : w2.cell? ⟨b, o + 67 + q, none⟩ = some (.bool true) := by
    have h := hO2.at_ (j := 67 + q) (by omega) (v := .bool true) (by
      simp only [upd]
      rw [if_neg (by omega), if_neg (by omega), if_neg (by omega)]
      simp only [stkV]
      rw [if_neg (by omega), if_neg (by omega), if_neg (by omega), if_neg (by omega), if_pos (by omega)]
      rw [show 67 + q - 67 = q by omega]
      simp)
    rw [← h]; congr 2; omega
  have g2 : w2.frozen? ⟨b, o + 67 + q, none⟩ = false := by
    have h := hO2.frz (67 + q) (by omega)
    rw [← h]; congr 2; omega
  have g3 : w2.cell? ⟨b, o + 131, none⟩ = some (.int .i64 (hd ((q : Int) :: r) + 1)) := hO2.at_ (by omega) (by simp only [upd]; rw [if_neg (by omega), if_neg (by omega), if_neg (by omega)]; simp [stkV])
  have g4 : w2.frozen? ⟨b, o + 131, none⟩ = false := hO2.frz 131 (by omega)
  have HW := Lib.hid hw
  have HO2 := Lib.hid hO2
  clear hw hO2 hif hbe
  go_wp2_with fail
  go_ret2
  refine ⟨rfl, HH.out.take hl hbl hq ht0 ht1 HO2.out, ?_⟩
  have h := HW.out
  subst h
  exact (((((Only.refl w b).set _ _).set _ _).set _ _).set _ _).set _ _
end Go.Proofs.Ytpddlnedaleblaa
