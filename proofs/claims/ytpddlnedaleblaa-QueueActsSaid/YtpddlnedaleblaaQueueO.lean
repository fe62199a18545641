/- Rows of a law's own beside its queue, which the law writes. -/
import Derived.Test.YtpddlnedaleblaaQueueN
import Derived.Test.YtpddlnedaleblaaQueueAlive
namespace Go.Proofs.Ytpddlnedaleblaa
open Go.RowKit

structure Own (W w : World) (b : Nat) (g1 g2 : Option Nat) (A : Option Addr) (n c : Nat) (l : List Int) : Prop where
  own : w.ownsRow W.heap.size 3 1 (.slice A n c) n (l.map (.int .i64))
  ap : ∀ ad, A = some ad → QAp w b g1 g2 ad.block

/-- Two rows in blocks of their own. -/
def Apart2 (A A' : Option Addr) : Prop := ∀ ad ad', A = some ad → A' = some ad' → ad.block ≠ ad'.block

theorem Own.at_ {W w : World} {b : Nat} {g1 g2 : Option Nat} {A : Option Addr} {n c : Nat} {l : List Int} (h : Own W w b g1 g2 A n c l) {k : Nat} (hk : k < n) :
    ∃ g x, A = some ⟨g, 0, none⟩ ∧ w.cell? ⟨g, k, none⟩ = some (.int .i64 x) ∧ w.frozen? ⟨g, k, none⟩ = false := by
  have hl : l.length = n := by simpa using h.own.1
  rcases h.own.2 with ⟨_, hn⟩ | ⟨g, cap, cur, e, hg, hh, hle, hcap, hs, ht⟩
  · omega
  · injection e with e1 e2 e3
    refine ⟨g, l[k]'(by omega), e1, ?_, ?_⟩
    · have h1 : cur.toList[k]? = some (.int .i64 (l[k]'(by omega))) := by
        have h2 : (cur.toList.take (n * 1))[k]? = (l.map (Value.int .i64))[k]? := by rw [ht]
        rw [List.getElem?_take_of_lt (by omega)] at h2
        rw [h2]
        simp [List.getElem?_eq_getElem (show k < l.length by omega)]
      simp only [World.cell?, hh]
      simpa using h1
    · simp [World.frozen?, hh]

theorem QSt.set {W w : World} {b : Nat} {R F : List Int} {g1 g2 : Option Nat} (H : QSt W w b R F g1 g2) {g : Nat} (hg : QAp w b g1 g2 g) (hW : W.heap.size ≤ g) (i : Nat) (v : Value) : QSt W (w.setCell ⟨g, i, none⟩ v) b R F g1 g2 :=
  ⟨H.at_.stays (Below.heap_setCell w _ v b (fun e => hg.nb e.symm)) (fun k e => Below.heap_setCell w _ v k (fun e' => hg.n1 (by rw [e, e']))) (fun k e => Below.heap_setCell w _ v k (fun e' => hg.n2 (by rw [e, e']))),
    H.below.setCell hW v, H.hb⟩

theorem QAp.set {w : World} {b : Nat} {g1 g2 : Option Nat} {k : Nat} (h : QAp w b g1 g2 k) (a : Addr) (v : Value) : QAp (w.setCell a v) b g1 g2 k := ⟨by simpa [World.setCell] using h.lt, h.nb, h.n1, h.n2⟩

theorem Own.set {W w : World} {b : Nat} {g1 g2 : Option Nat} {g n c : Nat} {l : List Int} (h : Own W w b g1 g2 (some ⟨g, 0, none⟩) n c l) {k : Nat} (hk : k < n) (y : Int) :
    Own W (w.setCell ⟨g, k, none⟩ (.int .i64 y)) b g1 g2 (some ⟨g, 0, none⟩) n c (l.set k y) := by
  have hl : l.length = n := by simpa using h.own.1
  refine ⟨⟨by simpa using hl, ?_⟩, fun ad e => (h.ap ad e).set _ _⟩
  rcases h.own.2 with ⟨_, hn⟩ | ⟨g', cap, cur, e, hg, hh, hle, hcap, hs, ht⟩
  · omega
  · injection e with e1 e2 e3
    injection e1 with e1
    injection e1 with e1 _ _
    subst e1 e3
    refine .inr ⟨g, c, cur.setIfInBounds k (.int .i64 y), rfl, hg, ?_, hle, hcap, by simpa using hs, ?_⟩
    · simp [World.setCell, Array.getElem?_modify, hh]
    · have e0 : (l.set k y).map (Value.int .i64) = (l.map (.int .i64)).set k (.int .i64 y) := by simp
      rw [e0, ← ht]
      simp [List.take_set]

theorem Own.other {W w : World} {b : Nat} {g1 g2 : Option Nat} {A : Option Addr} {n c : Nat} {l : List Int} (h : Own W w b g1 g2 A n c l) {g : Nat} (hA : Apart2 (some ⟨g, 0, none⟩) A) (k : Nat) (v : Value) :
    Own W (w.setCell ⟨g, k, none⟩ v) b g1 g2 A n c l := by
  refine ⟨⟨h.own.1, ?_⟩, fun ad e => (h.ap ad e).set _ _⟩
  rcases h.own.2 with hn | ⟨g', cap, cur, e, hg, hh, r⟩
  · exact .inl hn
  · injection e with e1 e2 e3
    subst e1 e3
    exact .inr ⟨g', c, cur, rfl, hg, (Below.heap_setCell w ⟨g, k, none⟩ v g' (fun e => hA _ _ rfl rfl e.symm)).trans hh, r⟩

theorem Own.keep {W w w' : World} {b : Nat} {g1 g2 k1 k2 : Option Nat} {A : Option Addr} {n c : Nat} {l : List Int} (h : Own W w b g1 g2 A n c l) (hk : QKeep w w' b g1 g2 k1 k2) : Own W w' b k1 k2 A n c l := by
  refine ⟨⟨h.own.1, ?_⟩, fun ad e => hk.ap _ (h.ap ad e)⟩
  rcases h.own.2 with hn | ⟨g', cap, cur, e, hg, hh, r⟩
  · exact .inl hn
  · injection e with e1 e2 e3
    subst e1 e3
    exact .inr ⟨g', c, cur, rfl, hg, (hk.eq g' (h.ap _ rfl)).trans hh, r⟩

theorem Own.arg {W w : World} {b : Nat} {g1 g2 : Option Nat} {A : Option Addr} {n c : Nat} {l : List Int} (h : Own W w b g1 g2 A n c l) : Arg w b g1 g2 A n l := by
  refine ⟨Reads.of_own h.own, fun ad _ e => ⟨?_, h.ap ad e⟩⟩
  rcases h.own.2 with ⟨e', _⟩ | ⟨g', cap, cur, e', _⟩
  · injection e' with e1 _ _
    rw [e] at e1
    cases e1
  · injection e' with e1 _ _
    rw [e] at e1
    injection e1 with e1
    subst e1
    rfl

/-- What was handed out, as a row of the law's own, apart from all that were there. -/
theorem QGives.own {W w w' : World} {b : Nat} {R F : List Int} {g1 g2 : Option Nat} {l : List Int} {A : Option Addr} {c : Nat} (hb : W.heap.size ≤ w.heap.size) (ho : w'.ownsRow w.heap.size 3 1 (.slice A l.length c) l.length (l.map (.int .i64)))
    (ha : Arg w' b g1 g2 A l.length l) (hap : ∀ ad, A = some ad → QAp w' b g1 g2 ad.block) : Own W w' b g1 g2 A l.length c l ∧ ∀ A', (∀ ad', A' = some ad' → ad'.block < w.heap.size) → Apart2 A A' := by
  refine ⟨⟨⟨ho.1, ?_⟩, hap⟩, fun A' h' ad ad' e e' => ?_⟩
  · rcases ho.2 with hn | ⟨g', cap, cur, e, hg, r⟩
    · exact .inl hn
    · exact .inr ⟨g', cap, cur, e, Nat.le_trans hb hg, r⟩
  · subst e
    have := ho.lt ad.block rfl
    have := h' ad' e'
    omega
end Go.Proofs.Ytpddlnedaleblaa
