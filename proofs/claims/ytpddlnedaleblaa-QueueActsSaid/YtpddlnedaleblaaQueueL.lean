/- A queue of a law's own: what each method does to it, and what else stays. -/
import Derived.Test.YtpddlnedaleblaaQueueR
import Derived.Test.YtpddlnedaleblaaRef11
namespace Go.Proofs.Ytpddlnedaleblaa
open Go.RowKit

/-- Blocks that are not the queue's. -/
structure QAp (w : World) (b : Nat) (g1 g2 : Option Nat) (k : Nat) : Prop where
  lt : k < w.heap.size
  nb : k ≠ b
  n1 : some k ≠ g1
  n2 : some k ≠ g2

structure QSt (W w : World) (b : Nat) (R F : List Int) (g1 g2 : Option Nat) : Prop where
  at_ : QueueAt w W.heap.size b 0 R F g1 g2
  below : Below W.heap.size W w
  hb : W.heap.size ≤ b

/-- What a call leaves of all else. -/
structure QKeep (w w' : World) (b : Nat) (g1 g2 k1 k2 : Option Nat) : Prop where
  size : w.heap.size ≤ w'.heap.size
  ap : ∀ k, QAp w b g1 g2 k → QAp w' b k1 k2 k
  eq : ∀ k, QAp w b g1 g2 k → w'.heap[k]? = w.heap[k]?

theorem QKeep.trans {w w1 w2 : World} {b : Nat} {g1 g2 k1 k2 j1 j2 : Option Nat} (h : QKeep w w1 b g1 g2 k1 k2) (h' : QKeep w1 w2 b k1 k2 j1 j2) : QKeep w w2 b g1 g2 j1 j2 :=
  ⟨Nat.le_trans h.size h'.size, fun k hk => h'.ap k (h.ap k hk), fun k hk => (h'.eq k (h.ap k hk)).trans (h.eq k hk)⟩

theorem QSt.old {W w : World} {b : Nat} {R F : List Int} {g1 g2 : Option Nat} (H : QSt W w b R F g1 g2) {k : Nat} (hk : k < W.heap.size) : QAp w b g1 g2 k :=
  ⟨Nat.lt_of_lt_of_le hk H.below.size, fun e => by have := H.hb; omega, fun e => by have := (H.at_.r1.g_lt k e.symm).1; omega, fun e => by have := (H.at_.r2.g_lt k e.symm).1; omega⟩

theorem QSt.of_below {W w w' : World} {b : Nat} {R F : List Int} {g1 g2 : Option Nat} (H : QSt W w b R F g1 g2) (h : Below w.heap.size w w') : QSt W w' b R F g1 g2 ∧ QKeep w w' b g1 g2 g1 g2 :=
  ⟨⟨H.at_.below h (Nat.le_refl _), H.below.trans (h.mono H.below.size), H.hb⟩, h.size, fun k hk => ⟨Nat.lt_of_lt_of_le hk.lt h.size, hk.nb, hk.n1, hk.n2⟩, fun k hk => h.block k hk.lt⟩

theorem QSt.alloc {W w : World} {b : Nat} {R F : List Int} {g1 g2 : Option Nat} (H : QSt W w b R F g1 g2) (o : Obj) : QSt W (w.alloc o) b R F g1 g2 ∧ QKeep w (w.alloc o) b g1 g2 g1 g2 :=
  H.of_below ((Below.refl _ _).alloc (Nat.le_refl _) o)

/-- The next state, and what stays. -/
def QNext (W w : World) (b : Nat) (g1 g2 : Option Nat) (R F : List Int) (w' : World) : Prop := ∃ k1 k2, QSt W w' b R F k1 k2 ∧ QKeep w w' b g1 g2 k1 k2

theorem QSt.to {W w w' : World} {b : Nat} {R F R' F' : List Int} {g1 g2 : Option Nat} (H : QSt W w b R F g1 g2) (h : QTo w w' W.heap.size b 0 g1 g2 R' F') : QNext W w b g1 g2 R' F' w' := by
  obtain ⟨⟨k1, k2, hq, n1, n2⟩, hf⟩ := h
  have hne : ∀ k, QAp w b g1 g2 k → QAp w' b k1 k2 k := fun k hk => by
    refine ⟨Nat.lt_of_lt_of_le hk.lt hf.size, hk.nb, fun e => ?_, fun e => ?_⟩
    · rcases n1 with rfl | ⟨j, rfl, hj⟩
      · exact hk.n1 e
      · have := hk.lt; injection e with e; omega
    · rcases n2 with rfl | ⟨j, rfl, hj⟩
      · exact hk.n2 e
      · have := hk.lt; injection e with e; omega
  have heq : ∀ k, QAp w b g1 g2 k → w'.heap[k]? = w.heap[k]? := fun k hk => hf.block k hk.lt hk.nb hk.n1 hk.n2
  refine ⟨k1, k2, ⟨hq, ⟨?_, ?_, ?_, ?_, ?_⟩, H.hb⟩, hf.size, hne, heq⟩
  all_goals first
    | exact hf.os.trans H.below.os
    | exact hf.tape.trans H.below.tape
    | exact hf.output.trans H.below.output
    | exact Nat.le_trans H.below.size hf.size
    | exact fun k hk => (heq k (H.old hk)).trans (H.below.block k hk)

/-- A slice that a queue's call may read. -/
structure Arg (w : World) (b : Nat) (g1 g2 : Option Nat) (A : Option Addr) (n : Nat) (l : List Int) : Prop where
  row : IntRow w w.heap.size A n l
  ap : ∀ ad, 0 < n → A = some ad → ad.spot = none ∧ QAp w b g1 g2 ad.block

theorem IntRow.below0 {w w' : World} {N : Nat} {A : Option Addr} {n : Nat} {l : List Int} (h : IntRow w N A n l) (hk : ∀ ad, 0 < n → A = some ad → w'.heap[ad.block]? = w.heap[ad.block]?) : IntRow w' N A n l := by
  refine ⟨h.1, fun hn => ?_⟩
  obtain ⟨ad, e, hb, hc⟩ := h.2 hn
  refine ⟨ad, e, hb, fun j u hu => ?_⟩
  rw [World.cell?_of_block (w := w) (by rw [block_of_add]; exact hk ad hn e)]
  exact hc j u hu

theorem Arg.keep {w w' : World} {b : Nat} {g1 g2 k1 k2 : Option Nat} {A : Option Addr} {n : Nat} {l : List Int} (h : Arg w b g1 g2 A n l) (hk : QKeep w w' b g1 g2 k1 k2) : Arg w' b k1 k2 A n l :=
  ⟨(IntRow.below0 h.row (fun ad h0 e => hk.eq _ (h.ap ad h0 e).2)).more hk.size, fun ad h0 e => ⟨(h.ap ad h0 e).1, hk.ap _ (h.ap ad h0 e).2⟩⟩

theorem Arg.len {w : World} {b : Nat} {g1 g2 : Option Nat} {A : Option Addr} {n : Nat} {l : List Int} (h : Arg w b g1 g2 A n l) : l.length = n := h.row.len.symm

theorem push_law {W w : World} {b : Nat} {R F : List Int} {g1 g2 : Option Nat} (H : QSt W w b R F g1 g2) {A : Option Addr} {n c : Nat} {l : List Int} (hl : Arg w b g1 g2 A n l) (hn : R.length + F.length + n ≤ 900000) :
    Calls Try.prog 31 #[.pointer (some ⟨b, 0, none⟩), .slice A n c] w fun e w' => e = .returned (.int .i64 (eachS pushS l R F).1) ∧ QNext W w b g1 g2 (eachS pushS l R F).2.1 (eachS pushS l R F).2.2 w' :=
  (push_any w W.heap.size b 0 R F g1 g2 H.at_ H.below.size _ A n c l hl.row (fun ad h0 e => ⟨(hl.ap ad h0 e).1, (hl.ap ad h0 e).2.lt, (hl.ap ad h0 e).2.nb, (hl.ap ad h0 e).2.n1, (hl.ap ad h0 e).2.n2⟩) hn (Nat.le_refl _)).mono fun _ _ h => ⟨h.1, H.to h.2⟩

theorem remove_law {W w : World} {b : Nat} {R F : List Int} {g1 g2 : Option Nat} (H : QSt W w b R F g1 g2) {A : Option Addr} {n c : Nat} {l : List Int} (hl : Arg w b g1 g2 A n l) (hn : R.length + F.length + n ≤ 900000) :
    Calls Try.prog 53 #[.pointer (some ⟨b, 0, none⟩), .slice A n c] w fun e w' => e = .returned (.int .i64 (eachS removeS l R F).1) ∧ QNext W w b g1 g2 (eachS removeS l R F).2.1 (eachS removeS l R F).2.2 w' :=
  (remove_any w W.heap.size b 0 R F g1 g2 H.at_ H.below.size _ A n c l hl.row (fun ad h0 e => ⟨(hl.ap ad h0 e).1, (hl.ap ad h0 e).2.lt, (hl.ap ad h0 e).2.nb, (hl.ap ad h0 e).2.n1, (hl.ap ad h0 e).2.n2⟩) hn (Nat.le_refl _)).mono fun _ _ h => ⟨h.1, H.to h.2⟩

theorem fill_law {W w : World} {b : Nat} {R F : List Int} {g1 g2 : Option Nat} (H : QSt W w b R F g1 g2) (x : Int) (hn : R.length + F.length + 1 ≤ 900000) :
    Calls Try.prog 32 #[.pointer (some ⟨b, 0, none⟩), .int .i64 x] w fun e w' => e = .returned (.int .i64 (fillS R F x).1) ∧ QNext W w b g1 g2 (fillS R F x).2.1 (fillS R F x).2.2 w' :=
  (fill_any w W.heap.size b 0 R F g1 g2 x H.at_ H.below.size hn).mono fun _ _ h => ⟨h.1, H.to h.2⟩

theorem wake_law {W w : World} {b : Nat} {R F : List Int} {g1 g2 : Option Nat} (H : QSt W w b R F g1 g2) (x : Int) (hn : R.length + F.length + 1 ≤ 900000) :
    Calls Try.prog 36 #[.pointer (some ⟨b, 0, none⟩), .int .i64 x] w fun e w' => e = .returned (.int .i64 (wakeS R F x).1) ∧ QNext W w b g1 g2 (wakeS R F x).2.1 (wakeS R F x).2.2 w' :=
  (wake_any w W.heap.size b 0 R F g1 g2 x H.at_ H.below.size hn).mono fun _ _ h => ⟨h.1, H.to h.2⟩

theorem has_law {W w : World} {b : Nat} {R F : List Int} {g1 g2 : Option Nat} (H : QSt W w b R F g1 g2) {A : Option Addr} {n c : Nat} {l : List Int} (hl : Arg w b g1 g2 A n l) (hR : R.length ≤ 1000000) (hF : F.length ≤ 1000000) (hn : n ≤ 9223372036854775807) :
    Calls Try.prog 37 #[.pointer (some ⟨b, 0, none⟩), .slice A n c] w fun e w' => e = .returned (.bool (l.all (inQ R F))) ∧ QSt W w' b R F g1 g2 ∧ QKeep w w' b g1 g2 g1 g2 :=
  (has_any w W.heap.size b 0 R F g1 g2 H.at_ hR hF _ A n c l hl.row (fun ad h0 e => (hl.ap ad h0 e).1) hn (Nat.le_refl _)).mono fun _ _ h => ⟨h.1, H.of_below h.2⟩

/-- A row that was handed out: ints of its own, which the queue doesn't write. -/
def QGives (W w : World) (b : Nat) (R F : List Int) (g1 g2 : Option Nat) (l : List Int) (e : Ending) (w' : World) : Prop :=
  ∃ A c, e = .returned (.slice A l.length c) ∧ Arg w' b g1 g2 A l.length l ∧ w'.ownsRow w.heap.size 3 1 (.slice A l.length c) l.length (l.map (.int .i64)) ∧ QSt W w' b R F g1 g2 ∧ QKeep w w' b g1 g2 g1 g2 ∧ l.length ≤ c

theorem QSt.gives {W w w' : World} {b : Nat} {R F : List Int} {g1 g2 : Option Nat} (H : QSt W w b R F g1 g2) {l : List Int} {e : Ending} (h : NewInts w l e w') : QGives W w b R F g1 g2 l e w' := by
  obtain ⟨v, rfl, ho, hb⟩ := h
  obtain ⟨A, c, rfl, hA, hlc, _, hrow, _⟩ := own_ints_shape ho
  obtain ⟨h1, h2⟩ := H.of_below hb
  refine ⟨A, c, rfl, ⟨hrow, fun ad _ e => ⟨hA ad e, ?_⟩⟩, ho, h1, h2, hlc⟩
  subst e
  have hlt := ho.lt ad.block rfl
  exact ⟨hlt.2, fun e => by have := H.at_.r1.lt; omega, fun e => by have := (H.at_.r1.g_lt _ e.symm).2; omega, fun e => by have := (H.at_.r2.g_lt _ e.symm).2; omega⟩

theorem ready_law {W w : World} {b : Nat} {R F : List Int} {g1 g2 : Option Nat} (H : QSt W w b R F g1 g2) (hR : R.length ≤ 1000000) :
    Calls Try.prog 33 #[.pointer (some ⟨b, 0, none⟩)] w (QGives W w b R F g1 g2 R) :=
  (ready_any w W.heap.size b 0 R F g1 g2 H.at_ hR).mono fun _ _ h => H.gives h
theorem full_law {W w : World} {b : Nat} {R F : List Int} {g1 g2 : Option Nat} (H : QSt W w b R F g1 g2) (hF : F.length ≤ 1000000) :
    Calls Try.prog 34 #[.pointer (some ⟨b, 0, none⟩)] w (QGives W w b R F g1 g2 F) :=
  (full_any w W.heap.size b 0 R F g1 g2 H.at_ hF).mono fun _ _ h => H.gives h
theorem all_law {W w : World} {b : Nat} {R F : List Int} {g1 g2 : Option Nat} (H : QSt W w b R F g1 g2) (hR : R.length ≤ 1000000) (hF : F.length ≤ 1000000) :
    Calls Try.prog 52 #[.pointer (some ⟨b, 0, none⟩)] w (QGives W w b R F g1 g2 (R ++ F)) :=
  (all_any w W.heap.size b 0 R F g1 g2 H.at_ hR hF).mono fun _ _ h => H.gives h

/-- A new queue. -/
theorem QSt.new {W w : World} (h : Below W.heap.size W w) (T : TypeId) : QSt W (w.alloc (.cells #[.slice none 0 0, .slice none 0 0] T)) w.heap.size [] [] none none := by
  refine ⟨⟨⟨⟨.slice none 0 0, by go_simp, ⟨rfl, .inl ⟨rfl, rfl⟩⟩, rfl⟩, by go_simp, by simp⟩, ⟨⟨.slice none 0 0, by go_simp, ⟨rfl, .inl ⟨rfl, rfl⟩⟩, rfl⟩, by go_simp, by simp⟩, fun _ => rfl⟩, h.alloc h.size _, h.size⟩

/-- A block of one number, made for a call. -/
theorem QSt.one {W w : World} {b : Nat} {R F : List Int} {g1 g2 : Option Nat} (H : QSt W w b R F g1 g2) (x : Int) (T : TypeId) :
    QSt W (w.alloc (.cells #[.int .i64 x] T)) b R F g1 g2 ∧ QKeep w (w.alloc (.cells #[.int .i64 x] T)) b g1 g2 g1 g2 ∧ Arg (w.alloc (.cells #[.int .i64 x] T)) b g1 g2 (some ⟨w.heap.size, 0, none⟩) 1 [x] := by
  refine ⟨(H.alloc _).1, (H.alloc _).2, ⟨by simpa [IntRow] using Reads.new1 w (.int .i64 x) T, fun ad _ e => ?_⟩⟩
  injection e with e
  subst e
  exact ⟨rfl, by simp, fun e => by have := H.at_.r1.lt; simp at e; omega, fun e => by have := (H.at_.r1.g_lt _ e.symm).2; simp at this, fun e => by have := (H.at_.r2.g_lt _ e.symm).2; simp at this⟩

/-- A block of some numbers, made for a call. -/
theorem QSt.many {W w : World} {b : Nat} {R F : List Int} {g1 g2 : Option Nat} (H : QSt W w b R F g1 g2) (l : List Int) (T : TypeId) {cs : Array Value} {n : Nat} (hcs : cs.toList = l.map (.int .i64)) (hn : n = l.length) :
    QSt W (w.alloc (.cells cs T)) b R F g1 g2 ∧ QKeep w (w.alloc (.cells cs T)) b g1 g2 g1 g2 ∧ Arg (w.alloc (.cells cs T)) b g1 g2 (some ⟨w.heap.size, 0, none⟩) n l := by
  refine ⟨(H.alloc _).1, (H.alloc _).2, ⟨?_, fun ad _ e => ?_⟩⟩
  · subst hn
    refine ⟨by simp, fun _ => ⟨⟨w.heap.size, 0, none⟩, rfl, by simp, fun j u hu => ?_⟩⟩
    rw [← hcs] at hu
    have e : (⟨w.heap.size, 0, none⟩ : Addr).add j = ⟨w.heap.size, j, none⟩ := by
      unfold Addr.add
      split
      · rename_i h; simp [h]
      · simp
    rw [e]
    rw [World.cell?_alloc_new]
    simpa using hu
  · injection e with e
    subst e
    exact ⟨rfl, by simp, fun e => by have := H.at_.r1.lt; simp at e; omega, fun e => by have := (H.at_.r1.g_lt _ e.symm).2; simp at this, fun e => by have := (H.at_.r2.g_lt _ e.symm).2; simp at this⟩

/-- No number at all. -/
theorem Arg.none_ {w : World} {b : Nat} {g1 g2 : Option Nat} : Arg w b g1 g2 none 0 [] := ⟨Reads.none_, fun _ _ e => by cases e⟩

theorem same_law {W w : World} {b : Nat} {R F : List Int} {g1 g2 : Option Nat} (H : QSt W w b R F g1 g2) {A1 A2 : Option Addr} {n1 c1 n2 c2 : Nat} {l1 l2 : List Int} (h1 : Arg w b g1 g2 A1 n1 l1) (h2 : Arg w b g1 g2 A2 n2 l2) (hn1 : n1 ≤ 9223372036854775807) (hn2 : n2 ≤ 9223372036854775807) :
    Calls Try.prog 35 #[.slice A1 n1 c1, .slice A2 n2 c2] w fun e w' => e = .returned (.bool (decide (l1 = l2))) ∧ QSt W w' b R F g1 g2 ∧ QKeep w w' b g1 g2 g1 g2 :=
  (same_any w _ _ A1 A2 n1 c1 n2 c2 l1 l2 h1.row h2.row (fun ad h0 e => (h1.ap ad h0 e).1) (fun ad h0 e => (h2.ap ad h0 e).1) hn1 hn2).mono fun _ _ ⟨h, k, e⟩ => ⟨h, by subst e; exact H.of_below ⟨rfl, rfl, rfl, Nat.le_refl _, fun _ _ => rfl⟩⟩

theorem QSt.fresh {W w : World} {b : Nat} {R F : List Int} {g1 g2 : Option Nat} (H : QSt W w b R F g1 g2) (o : Obj) : QAp (w.alloc o) b g1 g2 w.heap.size :=
  ⟨by simp, fun e => by have := H.at_.r1.lt; omega, fun e => by have := (H.at_.r1.g_lt _ e.symm).2; omega, fun e => by have := (H.at_.r2.g_lt _ e.symm).2; omega⟩

theorem QKeep.cell {w w' : World} {b : Nat} {g1 g2 k1 k2 : Option Nat} (h : QKeep w w' b g1 g2 k1 k2) {d j : Nat} (hd : QAp w b g1 g2 d) {v : Value} (hv : w.cell? ⟨d, j, none⟩ = some v) : w'.cell? ⟨d, j, none⟩ = some v :=
  (World.cell?_of_block (a := ⟨d, j, none⟩) (h.eq d hd)).trans hv

/-- How the rows' lengths grow. -/
theorem eachS_len {S : List Int → List Int → Int → Int × List Int × List Int} (h : Slow S) : ∀ (l R F : List Int), (eachS S l R F).2.1.length + (eachS S l R F).2.2.length ≤ R.length + F.length + l.length
  | [], R, F => by simp [eachS]
  | x :: l, R, F => by
    by_cases h0 : (S R F x).1 = 0
    · rw [eachS_go h0]
      have h1 := eachS_len h l (S R F x).2.1 (S R F x).2.2
      have h2 := h R F x
      simp only [List.length_cons]
      omega
    · rw [eachS_stop h0]
      have h2 := h R F x
      simp only [List.length_cons]
      omega
theorem fillS_len (R F : List Int) (x : Int) : (fillS R F x).2.1.length + (fillS R F x).2.2.length = R.length + F.length := by
  unfold fillS; split
  · rename_i h; have := length_erase_lt h; simp; omega
  · rfl
theorem wakeS_len (R F : List Int) (x : Int) : (wakeS R F x).2.1.length + (wakeS R F x).2.2.length = R.length + F.length := by
  unfold wakeS; split
  · rename_i h; have := length_erase_lt h; simp; omega
  · rfl
theorem pushS_there (R F : List Int) (x : Int) : inQ (pushS R F x).2.1 (pushS R F x).2.2 x = true := by
  unfold pushS; split
  · assumption
  · simp [inQ]
theorem eachS_one (S : List Int → List Int → Int → Int × List Int × List Int) (R F : List Int) (x : Int) : eachS S [x] R F = S R F x := by
  by_cases h : (S R F x).1 = 0
  · rw [eachS_go h]
    simp only [eachS]
    rw [← h]
  · rw [eachS_stop h]

theorem Arg.take {w : World} {b : Nat} {g1 g2 : Option Nat} {A : Option Addr} {n k : Nat} {l : List Int} (h : Arg w b g1 g2 A n l) (hk : k ≤ n) : Arg w b g1 g2 A k (l.take k) := by
  refine ⟨⟨?_, fun hn => ?_⟩, fun ad h0 e => h.ap ad (by omega) e⟩
  · have := h.len
    simp
    omega
  · obtain ⟨ad, e, hb, hc⟩ := h.row.2 (by omega)
    refine ⟨ad, e, hb, fun j u hu => hc j u ?_⟩
    have hj : j < k := by
      by_cases hj : j < k
      · exact hj
      · rw [List.getElem?_eq_none (by simp; omega)] at hu
        cases hu
    rw [← hu]
    simp [hj]

/-- One number of a row. -/
theorem Arg.get {w : World} {b : Nat} {g1 g2 : Option Nat} {A : Option Addr} {n k : Nat} {l : List Int} (h : Arg w b g1 g2 A n l) (hk : k < n) :
    ∃ g off x, A = some ⟨g, off, none⟩ ∧ l[k]? = some x ∧ w.cell? ⟨g, off + k, none⟩ = some (.int .i64 x) :=
  h.row.at_ (fun ad e => (h.ap ad (by omega) e).1) hk

end Go.Proofs.Ytpddlnedaleblaa
