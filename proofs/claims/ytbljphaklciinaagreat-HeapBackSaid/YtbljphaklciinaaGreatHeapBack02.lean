/- Walks of the program's functions, and plain laws on what they compute, text by text (ForBig, GetA, Back, FullW, BackF, HeapP, HeapB, HeapJ, HeapI). No condition. -/
import Derived.Test.YtbljphaklciinaaGreatHeapBack01

/- Layer 5 (class): For of more bytes than the greatest class has. -/
namespace Go.Proofs.YtbljphaklciinaaGreat
open Go.RowKit

set_option maxRecDepth 100000 in
theorem units_any (w : World) (n : Nat) (h0 : 1024 < n) (h1 : n ≤ 15360) : Calls Tryz.prog 71 #[.int .u64 n, .int .u64 1024] w fun e w' => e = .returned (.tuple #[.int .i64 ((n + 1023) / 1024 : Nat), .int .u64 ((n + 1023) / 1024 * 1024 : Nat)]) ∧ w' = w := by
  obtain ⟨k, hk⟩ : ∃ k, k = (n + 1023) / 1024 := ⟨_, rfl⟩
  have hk1 : k ≤ 15 := by omega
  have q1 : ((n : Int) + 1024 - 1) / 1024 = (k : Int) := by omega
  rw [← hk]
  clear hk
  go_enter Tryz.func71, Tryz.ntmps71
  go_wp2_with fail
  go_ret2
  exact ⟨by simp, rfl⟩
theorem szs_max : ∀ k, k < 12 → szs.getD k 0 ≤ 1024 := by decide

set_option maxRecDepth 100000 in
set_option maxHeartbeats 1000000 in
theorem for_big (w : World) (n : Nat) (h0 : 1024 < n) (h1 : n ≤ 15360) : Calls Tryz.prog 33 #[.int .u64 n, .int .u64 1] w fun e w' =>
    e = .returned (.tuple #[.agg #[.int .i64 (-1), .int .i64 ((n + 1023) / 1024 : Nat), .int .i64 0, .int .u64 ((n + 1023) / 1024 * 1024 : Nat)], .int .i64 0]) ∧ Below w.heap.size w w' := by
  have HU := Lib.hid (fun w => units_any w n h0 h1)
  obtain ⟨k1, hk1⟩ : ∃ k, k = (n + 1023) / 1024 := ⟨_, rfl⟩
  obtain ⟨k2, hk2⟩ : ∃ k, k = (n + 1023) / 1024 * 1024 := ⟨_, rfl⟩
  rw [← hk2, ← hk1] at HU
  rw [← hk2, ← hk1]
  clear hk1 hk2
  have HX : Hid (∀ k : Nat, k < 12 → ∀ w : World, (Instr.index 91 (.agg #[.int .u64 16, .int .u64 32, .int .u64 48, .int .u64 64, .int .u64 96, .int .u64 128, .int .u64 192, .int .u64 256, .int .u64 384, .int .u64 512, .int .u64 768, .int .u64 1024]) (.int .i64 k)).run Tryz.prog w = .ok (.int .u64 (szs.getD k 0 : Nat)) w) := fun k hk w => by
    rcases (show k = 0 ∨ k = 1 ∨ k = 2 ∨ k = 3 ∨ k = 4 ∨ k = 5 ∨ k = 6 ∨ k = 7 ∨ k = 8 ∨ k = 9 ∨ k = 10 ∨ k = 11 by omega) with rfl | rfl | rfl | rfl | rfl | rfl | rfl | rfl | rfl | rfl | rfl | rfl <;> kernel_rfl
  go_enter Tryz.func33, Tryz.ntmps33
  go_wp2_with fail
  (with_reducible refine (pow2_one _).mono ?_)
  rintro e w1 ⟨rfl, rfl⟩
  go_wp2_with fail
  (with_reducible refine (sizes_ok _).mono ?_)
  rintro e w1 ⟨rfl, B1⟩
  have HB1 := Lib.hid B1
  clear B1
  unfold szV
  go_wp2_with fail
  go_loop [25] (fun i => ∃ k : Nat, k ≤ 12 ∧ i = .int .i64 k) (fun i => 12 - (intOf i).toNat)
  case atStart => exact ⟨0, by omega, rfl⟩
  case round =>
    obtain ⟨k, hk, rfl⟩ := hrel
    by_cases hlt : k < 12
    · have hx := HX.out k hlt
      have hS := szs_max k hlt
      generalize szs.getD k 0 = S at *
      have hs2 : ¬ (n : Int) ≤ (S : Int) := by omega
      go_wp2_with fail
      go_round
      case rel => exact ⟨k + 1, by omega, by go_num⟩
      case measure => simp [intOf]; omega
    · obtain rfl : k = 12 := by omega
      have hsz0 : (w.alloc (.cells #[.int .i64 0, .int .i64 0, .int .i64 0, .int .u64 0] 54)).heap.size = w.heap.size + 1 := by simp
      have HBX : Below (w.heap.size + 1) (w.alloc (.cells #[.int .i64 0, .int .i64 0, .int .i64 0, .int .u64 0] 54)) w1 := by have h1 := HB1.out; rw [hsz0] at h1; exact h1
      have q0 : w1.cell? ⟨w.heap.size, 0, none⟩ = some (.int .i64 0) := (HBX.cell (p := ⟨w.heap.size, 0, none⟩) (Nat.lt_succ_self _)).trans (by rw [World.cell?_alloc_new]; rfl)
      have q1 : w1.cell? ⟨w.heap.size, 1, none⟩ = some (.int .i64 0) := (HBX.cell (p := ⟨w.heap.size, 1, none⟩) (Nat.lt_succ_self _)).trans (by rw [World.cell?_alloc_new]; rfl)
      have q2 : w1.cell? ⟨w.heap.size, 2, none⟩ = some (.int .i64 0) := (HBX.cell (p := ⟨w.heap.size, 2, none⟩) (Nat.lt_succ_self _)).trans (by rw [World.cell?_alloc_new]; rfl)
      have q3 : w1.cell? ⟨w.heap.size, 3, none⟩ = some (.int .u64 0) := (HBX.cell (p := ⟨w.heap.size, 3, none⟩) (Nat.lt_succ_self _)).trans (by rw [World.cell?_alloc_new]; rfl)
      have z0 : ∀ j, w1.frozen? ⟨w.heap.size, j, none⟩ = false := fun j => (World.frozen?_of_block (a := ⟨w.heap.size, j, none⟩) (HBX.block w.heap.size (Nat.lt_succ_self _))).trans (by simp)
      have y0 := z0 0
      have y1 := z0 1
      have y2 := z0 2
      have y3 := z0 3
      have HB2 : Hid (Below w.heap.size w w1) := ((Below.refl w.heap.size w).alloc (Nat.le_refl _) _).trans (HBX.mono (Nat.le_succ _))
      have HOB := Lib.hid ((Obj_.new w #[.int .i64 0, .int .i64 0, .int .i64 0, .int .u64 0] 54).of_block (HBX.block w.heap.size (Nat.lt_succ_self _)))
      clear hsz0 HBX z0 HB1
      go_wp2_with fail
      (with_reducible refine (HU.out _).mono ?_)
      rintro e w2 ⟨rfl, rfl⟩
      go_wp2_with fail
      have HO := ((((((HOB.out.set (i := 0) (by simp) (.int .i64 (-1))).set (i := 1) (by simp) (.int .i64 (k1 : Nat))).set (i := 3) (by simp) (.int .u64 (k2 : Nat))).set (i := 0) (by simp) (.int .i64 (-1))).set (i := 1) (by simp) (.int .i64 (k1 : Nat))).set (i := 2) (by simp) (.int .i64 0)).set (i := 3) (by simp) (.int .u64 (k2 : Nat))
      have HBF : Below w.heap.size w (((((((w1.setCell ⟨w.heap.size, 0, none⟩ (.int .i64 (-1))).setCell ⟨w.heap.size, 1, none⟩ (.int .i64 (k1 : Nat))).setCell ⟨w.heap.size, 3, none⟩ (.int .u64 (k2 : Nat))).setCell ⟨w.heap.size, 0, none⟩ (.int .i64 (-1))).setCell ⟨w.heap.size, 1, none⟩ (.int .i64 (k1 : Nat))).setCell ⟨w.heap.size, 2, none⟩ (.int .i64 0)).setCell ⟨w.heap.size, 3, none⟩ (.int .u64 (k2 : Nat))) :=
        ((((((HB2.out.setCell (Nat.le_refl _) _).setCell (Nat.le_refl _) _).setCell (Nat.le_refl _) _).setCell (Nat.le_refl _) _).setCell (Nat.le_refl _) _).setCell (Nat.le_refl _) _).setCell (Nat.le_refl _) _
      generalize hwF : ((((((w1.setCell ⟨w.heap.size, 0, none⟩ (.int .i64 (-1))).setCell ⟨w.heap.size, 1, none⟩ (.int .i64 (k1 : Nat))).setCell ⟨w.heap.size, 3, none⟩ (.int .u64 (k2 : Nat))).setCell ⟨w.heap.size, 0, none⟩ (.int .i64 (-1))).setCell ⟨w.heap.size, 1, none⟩ (.int .i64 (k1 : Nat))).setCell ⟨w.heap.size, 2, none⟩ (.int .i64 0)).setCell ⟨w.heap.size, 3, none⟩ (.int .u64 (k2 : Nat)) = wF at *
      have c0 : wF.cell? ⟨w.heap.size, 0, none⟩ = some (.int .i64 (-1)) := by have := HO.cell 0 (by simp); rw [Nat.zero_add] at this; exact this
      have c1 : wF.cell? ⟨w.heap.size, 1, none⟩ = some (.int .i64 (k1 : Nat)) := by have := HO.cell 1 (by simp); rw [Nat.zero_add] at this; exact this
      have c2 : wF.cell? ⟨w.heap.size, 2, none⟩ = some (.int .i64 0) := by have := HO.cell 2 (by simp); rw [Nat.zero_add] at this; exact this
      have c3 : wF.cell? ⟨w.heap.size, 3, none⟩ = some (.int .u64 (k2 : Nat)) := by have := HO.cell 3 (by simp); rw [Nat.zero_add] at this; exact this
      have HBG := Lib.hid HBF
      clear hwF HO HOB HB2 HX HU q0 q1 q2 q3 y0 y1 y2 y3 HBF
      refine bodyPost_ret (v := .tuple #[.agg #[.int .i64 (-1), .int .i64 (k1 : Nat), .int .i64 0, .int .u64 (k2 : Nat)], .int .i64 0]) (by simp only [results, Tryz.results33]; go_simp) rfl ?_
      exact ⟨rfl, HBG.out⟩
end Go.Proofs.YtbljphaklciinaaGreat

/- Layer 12's laws: get of any number of bytes. -/
namespace Go.Proofs.YtbljphaklciinaaGreat
open Go.RowKit
variable {ro ro' : Nat → Role} {w w' : World} {bm bb sz : Nat} {f : Nat → Nat} {h : HeapR} {a : ArR} {W : World} {n k r : Nat}

theorem get_any (L : LawH W ro 0 w bm bb (n * 16384) f h a) (K : KA n k r h a) (hn : n ≤ 16) (hr : r < 1000000) {nn : Int} (h0 : 0 ≤ nn) :
    Calls Tryz.prog 11 #[.pointer (some ⟨h.bh, 0, none⟩), .int .u64 nn] w fun e w' => ∃ c q i sl S N, PlanOk c q i sl S N ∧ GetTo W ro w bm bb n k r f h c i sl S N (S : Nat) e w' := by
  obtain ⟨m, hm⟩ : ∃ m : Nat, (m : Int) = nn % 15361 := ⟨(nn % 15361).toNat, by omega⟩
  by_cases hs : m ≤ 1024
  · -- a class's
    obtain ⟨c, hc, h1, h2⟩ : ∃ c, c < 12 ∧ m ≤ szs.getD c 0 ∧ ∀ j, j < c → szs.getD j 0 < max m 1 := by
      have key : ∀ k, k ≤ 12 → (∃ c, c < 12 ∧ m ≤ szs.getD c 0 ∧ ∀ j, j < c → szs.getD j 0 < max m 1) ∨ ∀ j, j < k → szs.getD j 0 < max m 1 := by
        intro k
        induction k with
        | zero => intro _; exact .inr fun j hj => by omega
        | succ k ih =>
          intro hk
          rcases ih (by omega) with h | h
          · exact .inl h
          · by_cases e : m ≤ szs.getD k 0
            · exact .inl ⟨k, by omega, e, h⟩
            · refine .inr fun j hj => ?_
              rcases Nat.lt_succ_iff_lt_or_eq.1 hj with h3 | rfl
              · exact h j h3
              · omega
      rcases key 12 (by omega) with h | h
      · exact h
      · have := h 11 (by omega)
        simp [szs] at this
        omega
    have hl : sls.getD c 0 ≤ 4 ∧ szs.getD c 0 ≤ 1024 := by
      rcases (show c = 0 ∨ c = 1 ∨ c = 2 ∨ c = 3 ∨ c = 4 ∨ c = 5 ∨ c = 6 ∨ c = 7 ∨ c = 8 ∨ c = 9 ∨ c = 10 ∨ c = 11 by omega) with rfl | rfl | rfl | rfl | rfl | rfl | rfl | rfl | rfl | rfl | rfl | rfl <;> decide
    have hp : PlanOk (c : Int) (sls.getD c 0 : Nat) c (sls.getD c 0) (szs.getD c 0) (blks.getD c 0) := .inr ⟨rfl, hc, rfl, rfl, rfl⟩
    refine (get_walk (m := (m : Nat)) (v := (szs.getD c 0 : Nat)) L K hn hr hp (by omega) (by omega) hm.symm h0 ?_).mono fun e w' hg => ⟨_, _, _, _, _, _, hp, hg⟩
    refine (for_small w m hs).mono ?_
    rintro e w' ⟨c', hc', h3, h4, rfl, hb⟩
    have : c' = c := by
      rcases Nat.lt_trichotomy c' c with h | h | h
      · have h5 := h2 c' h
        have h6 : 16 ≤ szs.getD c' 0 := by
          rcases (show c' = 0 ∨ c' = 1 ∨ c' = 2 ∨ c' = 3 ∨ c' = 4 ∨ c' = 5 ∨ c' = 6 ∨ c' = 7 ∨ c' = 8 ∨ c' = 9 ∨ c' = 10 ∨ c' = 11 by omega) with rfl | rfl | rfl | rfl | rfl | rfl | rfl | rfl | rfl | rfl | rfl | rfl <;> decide
        omega
      · exact h
      · have h5 := h4 c h
        have h6 : 16 ≤ szs.getD c 0 := by
          rcases (show c = 0 ∨ c = 1 ∨ c = 2 ∨ c = 3 ∨ c = 4 ∨ c = 5 ∨ c = 6 ∨ c = 7 ∨ c = 8 ∨ c = 9 ∨ c = 10 ∨ c = 11 by omega) with rfl | rfl | rfl | rfl | rfl | rfl | rfl | rfl | rfl | rfl | rfl | rfl <;> decide
        omega
    subst this
    exact ⟨rfl, hb⟩
  · have hm2 : m ≤ 15360 := by omega
    have hp : PlanOk (-1) ((m + 1023) / 1024 : Nat) 12 ((m + 1023) / 1024) ((m + 1023) / 1024 * 1024) 1 := .inl ⟨rfl, rfl, rfl, by omega, by omega, rfl, rfl⟩
    exact (get_walk (m := (m : Nat)) L K hn hr hp (by omega) (by omega) hm.symm h0 (for_big w m (by omega) hm2)).mono fun e w' hg => ⟨_, _, _, _, _, _, hp, hg⟩
end Go.Proofs.YtbljphaklciinaaGreat

/- Layer 12's laws, plain: blocks that are used, of whatever classes: how they come. -/
namespace Go.Proofs.YtbljphaklciinaaGreat
open Go.RowKit
variable {ro ro' : Nat → Role} {hn : Nat} {w w' : World} {B bm bb sz : Nat} {f f' : Nat → Nat} {h h' : HeapR} {S : List SegR} {k x n k' r : Nat} {U : List Nat} {a : ArR} {W : World}

/-- Where pages lie. -/
structure SApart (S : List SegR) : Prop where
  pos : ∀ s ∈ S, ∀ p ∈ s.P, p.pg.f = s.pl * 16384 + p.at_ * 1024 ∧ p.pg.n * p.pg.s ≤ p.sl * 1024 ∧ p.at_ + p.sl ≤ 16 ∧ 1 ≤ p.at_ ∧ 1 ≤ p.sl
  apart : ∀ s ∈ S, s.P.Pairwise fun p q => ∀ j, covers j p = true → covers j q = false
  pls : S.Pairwise fun s t => s.pl ≠ t.pl
theorem HeapAt.sapart (H : HeapAt ro hn w B bm sz f h) : SApart h.S :=
  ⟨fun s hs p hp => have h := (H.segs s hs).pages p hp; ⟨h.pf, h.ps, h.fit, h.a1, h.s1⟩, fun s hs => (H.segs s hs).apart, H.pls⟩

theorem SApart.same (A : SApart S) {s t : SegR} {p q : PageR} {x : Nat} (hs : s ∈ S) (hp : p ∈ s.P) (ht : t ∈ S) (hq : q ∈ t.P) (h1 : p.pg.f ≤ x) (h2 : x < p.pg.f + p.pg.n * p.pg.s) (h3 : q.pg.f ≤ x) (h4 : x < q.pg.f + q.pg.n * q.pg.s) : s = t ∧ p = q := by
  obtain ⟨a1, a2, a3, a4, a5⟩ := A.pos s hs p hp
  obtain ⟨b1, b2, b3, b4, b5⟩ := A.pos t ht q hq
  have es : s = t := pair_at (F := SegR.pl) A.pls hs ht (by omega)
  subst es
  refine ⟨rfl, ?_⟩
  have hc : covers (x / 1024 % 16) p = true := by simp [covers]; omega
  have hd : covers (x / 1024 % 16) q = true := by simp [covers]; omega
  rcases List.mem_iff_getElem.1 hp with ⟨i, hi, rfl⟩
  rcases List.mem_iff_getElem.1 hq with ⟨j, hj, rfl⟩
  have hpi := List.pairwise_iff_getElem.1 (A.apart s hs)
  rcases Nat.lt_trichotomy i j with h | h | h
  · rw [hpi i j hi hj h _ hc] at hd; cases hd
  · subst h; rfl
  · rw [hpi j i hj hi h _ hd] at hc; cases hc

/-- An address of a page's block lies in the page. -/
theorem PgInv.in_page {p : Pg} (I : PgInv f sz p) {q x : Nat} (hq : q < p.n) (hx : x = p.f + q * p.s) : p.f ≤ x ∧ x < p.f + p.n * p.s := by
  have := I.in_ hq
  have := I.s16
  omega

structure BInv (h : HeapR) (U : List Nat) : Prop where
  cnt : U.length = usedS h.S
  use : ∀ x ∈ U, InUse h.S x
  nod : U.Nodup
  pos : ∀ s ∈ h.S, ∀ p ∈ s.P, 1 ≤ p.pg.used
  keys : ∀ s ∈ h.S, ∀ p ∈ s.P, ∃ c, rowIx p.cls = some c ∧ (keyOf s p ∈ h.Q1 c ∨ keyOf s p ∈ h.Q2 c)
/-- No segment without a page. -/
def NE (S : List SegR) : Prop := ∀ s ∈ S, s.P ≠ []

theorem queued_mem {h : HeapR} {c c' : Nat} {R F : List Int} {k1 k2 : Option Nat} {y : Int} (hold : ∀ y, y ∈ h.Q1 c ∨ y ∈ h.Q2 c → y ∈ R ∨ y ∈ F) (hy : y ∈ h.Q1 c' ∨ y ∈ h.Q2 c') : y ∈ (h.queued c R F k1 k2).Q1 c' ∨ y ∈ (h.queued c R F k1 k2).Q2 c' := by
  by_cases e : c' = c
  · subst e
    rw [q1_queued, q2_queued]
    exact hold y hy
  · rw [show (h.queued c R F k1 k2).Q1 c' = h.Q1 c' from updF_ne _ _ e, show (h.queued c R F k1 k2).Q2 c' = h.Q2 c' from updF_ne _ _ e]
    exact hy

theorem InUse.not_new (K : SOk sz f S) {s : SegR} {p : PageR} {pg' : Pg} (hs : s ∈ S) (hp : p ∈ s.P) (A : SApart S) (hg : PgGot f sz p.pg f' pg' x) : ¬ InUse S x := fun ⟨t, ht, q, hq, j, hj, e, ho⟩ => by
  have Iq := (K.pag t ht q hq).1
  have h1 := Iq.in_page (Nat.lt_of_lt_of_le hj Iq.mn) e
  obtain ⟨i, hi, e2⟩ := hg.blk
  have hmn : pg'.made ≤ p.pg.n := by have := hg.inv.mn; rw [hg.sn] at this; exact this
  have h2 := (K.pag s hs p hp).1.in_page (Nat.lt_of_lt_of_le hi hmn) e2
  obtain ⟨rfl, rfl⟩ := A.same ht hq hs hp h1.1 h1.2 h2.1 h2.2
  rcases hg.new with h3 | h3
  · exact ho h3
  · have := mul_apart (s := q.pg.s) hj
    have := Iq.s16
    omega

theorem BInv.loc {c : Nat} (I : BInv h U) (K : SOk sz f h.S) (A : SApart h.S) (hg : GLoc sz f h c x f' h') : BInv h' (U ++ [x]) ∧ (NE h.S → NE h'.S) := by
  obtain ⟨kk, s, hs, p, hp, pg', k1, k2, hful, hkey, _, hgot, rfl⟩ := hg
  have hmem := fun {t : SegR} (ht : t ∈ setPg s.pl p.at_ pg' h.S) => setPg_mem K hs ht
  refine ⟨⟨?_, fun y hy => ?_, ?_, fun t ht q hq => ?_, fun t ht q hq => ?_⟩, fun hne t ht => ?_⟩
  · have := usedS_set (pg' := pg') K hs hp
    have hu := hgot.used
    rw [List.length_append, I.cnt]
    show usedS h.S + 1 = usedS (setPg s.pl p.at_ pg' h.S)
    omega
  · refine InUse.set K hs hp hgot ?_
    rcases List.mem_append.1 hy with hy | hy
    · exact .inl (I.use y hy)
    · exact .inr (by simpa using hy)
  · rw [List.nodup_append]
    refine ⟨I.nod, by simp, fun y hy z hz e => ?_⟩
    simp only [List.mem_singleton] at hz
    subst hz e
    exact InUse.not_new K hs hp A hgot (I.use _ hy)
  · rcases hmem ht with ⟨ht, _⟩ | rfl
    · exact I.pos t ht q hq
    · rcases setPP_mem (K.nod s hs) hp hq with ⟨hq, _⟩ | rfl
      · exact I.pos s hs q hq
      · show 1 ≤ pg'.used
        rw [hgot.used]
        omega
  · have hold : ∀ y, y ∈ h.Q1 c ∨ y ∈ h.Q2 c → y ∈ (h.Q1 c).drop kk ∨ y ∈ h.Q2 c ++ (h.Q1 c).take kk := fun y hy => by
      rcases hy with hy | hy
      · rw [← List.take_append_drop kk (h.Q1 c)] at hy
        rcases List.mem_append.1 hy with hy | hy
        · exact .inr (List.mem_append_right _ hy)
        · exact .inl hy
      · exact .inr (List.mem_append_left _ hy)
    have put : ∀ {t : SegR} {q : PageR}, t ∈ h.S → q ∈ t.P → ∃ c', rowIx q.cls = some c' ∧ _ := fun ht hq => by
      obtain ⟨c', e, hk⟩ := I.keys _ ht _ hq
      exact ⟨c', e, queued_mem (h := { h with S := setPg s.pl p.at_ pg' h.S }) (k1 := k1) (k2 := k2) hold hk⟩
    rcases hmem ht with ⟨ht, _⟩ | rfl
    · exact put ht hq
    · rcases setPP_mem (K.nod s hs) hp hq with ⟨hq, _⟩ | rfl
      · exact put (t := s) (q := q) hs hq
      · exact put (t := s) (q := p) hs hp
  · rcases hmem ht with ⟨ht, _⟩ | rfl
    · exact hne t ht
    · intro e
      have := hne s hs
      exact this (List.map_eq_nil_iff.1 (show setPP p.at_ pg' s.P = [] from e))

theorem BInv.fill {c : Nat} (I : BInv h U) (hg : GFill h c h') : BInv h' U ∧ h'.S = h.S := by
  obtain ⟨k1, k2, hful, rfl⟩ := hg
  refine ⟨⟨I.cnt, I.use, I.nod, I.pos, fun t ht q hq => ?_⟩, rfl⟩
  obtain ⟨c', e, hk⟩ := I.keys t ht q hq
  exact ⟨c', e, queued_mem (fun y hy => .inr (by rcases hy with hy | hy; exact List.mem_append_right _ hy; exact List.mem_append_left _ hy)) hk⟩

theorem BInv.grow (I : BInv h U) (hg : GGrow k h h') : BInv h' U := by
  obtain ⟨s, gs, hpl, hP, _, rfl⟩ := hg
  have hm : ∀ {t : SegR}, t ∈ h.S ++ [s] → t ∈ h.S ∨ t.P = [] := fun {t} ht => by
    rcases List.mem_append.1 ht with ht | ht
    · exact .inl ht
    · simp only [List.mem_singleton] at ht
      subst ht
      exact .inr hP
  refine ⟨?_, fun y hy => ?_, I.nod, fun t ht p hp => ?_, fun t ht p hp => ?_⟩
  · show U.length = usedS (h.S ++ [s])
    rw [I.cnt]
    simp [usedS, usedP, hP]
  · obtain ⟨t, ht, p, hp, q, hq, e, ho⟩ := I.use y hy
    exact ⟨t, List.mem_append_left _ ht, p, hp, q, hq, e, ho⟩
  · rcases hm ht with ht | ht
    · exact I.pos t ht p hp
    · rw [ht] at hp; cases hp
  · rcases hm ht with ht | ht
    · exact I.keys t ht p hp
    · rw [ht] at hp; cases hp

theorem BInv.new {c : Int} {i sl Sz N : Nat} (I : BInv h U) (K : SOk sz f h.S) (K' : SOk sz f' h'.S) (A' : SApart h'.S) (hr : rowIx c = some i) (hs1 : 1 ≤ sl) (hg : GNew sz f h c i sl Sz N x f' h') : BInv h' (U ++ [x]) ∧ ((∀ s ∈ h.S, s.P = [] → ∀ t ∈ h.S, t.P ≠ [] → ∀ j, ¬ FreeRow (segT t.P) 16 sl j) → (∀ s ∈ h.S, ∀ t ∈ h.S, s.P = [] → t.P = [] → s = t) → NE h'.S) := by
  obtain ⟨s, hs, at_, bo, bp, pg', k1, k2, hfr, hlow, hx, hgot, rfl⟩ := hg
  have hmem := fun {t : SegR} (ht : t ∈ addPg s.pl ⟨bo, bp, c, at_, sl, pg'⟩ h.S) => addPg_mem K hs ht
  have hself := mem_addPg_self (p := ⟨bo, bp, c, at_, sl, pg'⟩) hs
  have hblk := hgot.blk
  refine ⟨⟨?_, fun y hy => ?_, ?_, fun t ht q hq => ?_, fun t ht q hq => ?_⟩, fun h2 h3 t ht => ?_⟩
  · have := usedS_add (p := ⟨bo, bp, c, at_, sl, pg'⟩) K hs
    have hu := hgot.used
    rw [List.length_append, I.cnt]
    show usedS h.S + 1 = usedS (addPg s.pl _ h.S)
    rw [this]
    show _ = _ + pg'.used
    rw [hu]
    rfl
  · refine InUse.add K hs (x := x) ?_ ?_
    · obtain ⟨j, hj, e⟩ := hgot.blk
      exact ⟨j, hj, by show x = pg'.f + j * pg'.s; rw [hgot.sf, hgot.ss]; exact e, hgot.out⟩
    · rcases List.mem_append.1 hy with hy | hy
      · exact .inl (I.use y hy)
      · exact .inr (by simpa using hy)
  · rw [List.nodup_append]
    refine ⟨I.nod, by simp, fun y hy z hz e => ?_⟩
    simp only [List.mem_singleton] at hz
    subst hz e
    -- the old page that the block would lie in
    obtain ⟨t, ht, q, hq, j, hj, e, ho⟩ := I.use _ hy
    have Iq := (K.pag t ht q hq).1
    have g1 := Iq.in_page (Nat.lt_of_lt_of_le hj Iq.mn) e
    obtain ⟨i', hi', e2⟩ := hgot.blk
    have g2 := hgot.inv.in_page (x := y) (Nat.lt_of_lt_of_le hi' hgot.inv.mn) (by rw [hgot.sf, hgot.ss]; exact e2)
    have hin : ∃ t' ∈ addPg s.pl (⟨bo, bp, c, at_, sl, pg'⟩ : PageR) h.S, q ∈ t'.P ∧ t'.pl = t.pl := by
      by_cases e1 : t.pl = s.pl
      · have := pair_at (F := SegR.pl) K.pls ht hs e1
        subst this
        exact ⟨_, hself, List.mem_append_left _ hq, rfl⟩
      · exact ⟨t, mem_addPg ht e1, hq, rfl⟩
    obtain ⟨t', ht', hq', hpl'⟩ := hin
    obtain ⟨e5, e6⟩ := A'.same ht' hq' hself (q := ⟨bo, bp, c, at_, sl, pg'⟩) (by simp) g1.1 g1.2 g2.1 g2.2
    have hplts : t.pl = s.pl := by rw [← hpl', e5]
    have := pair_at (F := SegR.pl) K.pls ht hs hplts
    subst this
    have hat : q.at_ = at_ := by rw [e6]
    have hsl := (K.pag t ht q hq).2.2.1
    have hT : segT t.P at_ = true := by
      unfold segT
      rw [Bool.or_eq_true, List.any_eq_true]
      exact .inr ⟨q, hq, by simp [covers]; omega⟩
    have h3 := hfr.2 0 (by omega)
    rw [Nat.add_zero, hT] at h3
    cases h3
  · rcases hmem ht with ⟨ht, _⟩ | rfl
    · exact I.pos t ht q hq
    · rcases List.mem_append.1 hq with hq | hq
      · exact I.pos s hs q hq
      · simp only [List.mem_singleton] at hq
        subst hq
        show 1 ≤ pg'.used
        rw [hgot.used]
        omega
  · have put : ∀ {t : SegR} {q : PageR}, t ∈ h.S → q ∈ t.P → ∃ c', rowIx q.cls = some c' ∧ _ := fun ht hq => by
      obtain ⟨c', e, hk⟩ := I.keys _ ht _ hq
      exact ⟨c', e, queued_mem (h := { h with S := addPg s.pl ⟨bo, bp, c, at_, sl, pg'⟩ h.S }) (R := h.Q1 i ++ [((s.pl * 16 + at_ : Nat) : Int)]) (F := h.Q2 i) (k1 := k1) (k2 := k2) (fun y hy => hy.imp (fun h => List.mem_append_left _ h) id) hk⟩
    rcases hmem ht with ⟨ht, _⟩ | rfl
    · exact put ht hq
    · rcases List.mem_append.1 hq with hq | hq
      · exact put (t := s) (q := q) hs hq
      · simp only [List.mem_singleton] at hq
        subst hq
        refine ⟨i, hr, .inl ?_⟩
        rw [q1_queued]
        simp [keyOf]
  · rcases hmem ht with ⟨ht, hne⟩ | rfl
    · intro e
      by_cases es : s.P = []
      · exact hne (congrArg SegR.pl (h3 t ht s hs e es))
      · exact h2 t ht e s hs es at_ hfr
    · simp
end Go.Proofs.YtbljphaklciinaaGreat

/- HeapFull, walked: as many blocks come of a class as its segments' pages have; one given back comes again. -/
namespace Go.Proofs.YtbljphaklciinaaGreat
open Go.RowKit
variable {ro ro' : Nat → Role} {hn : Nat} {w w' : World} {B bm bb sz : Nat} {f f' : Nat → Nat} {h h' : HeapR} {S : List SegR} {c k x n k' r : Nat} {U : List Nat} {a : ArR} {W : World}

theorem szs_mono : ∀ c, c < 12 → ∀ j, j < c → szs.getD j 0 < szs.getD c 0 := by decide

/-- get of a class's size. -/
theorem get_class (L : LawH W ro 0 w bm bb (n * 16384) f h a) (K : KA n k r h a) (hn : n ≤ 16) (hr : r < 1000000) (hc : c < 12) :
    Calls Tryz.prog 11 #[.pointer (some ⟨h.bh, 0, none⟩), .int .u64 (szs.getD c 0 : Nat)] w (GetTo W ro w bm bb n k r f h (c : Int) c (sls.getD c 0) (szs.getD c 0) (blks.getD c 0) (szs.getD c 0 : Nat)) := by
  have hs := szs_in hc
  have hl : sls.getD c 0 ≤ 4 := by
    rw [sls_of hc]
    split
    · omega
    · split <;> omega
  refine get_walk (m := (szs.getD c 0 : Nat)) L K hn hr (.inr ⟨rfl, hc, rfl, rfl, rfl⟩ : PlanOk (c : Int) (sls.getD c 0 : Nat) c (sls.getD c 0) (szs.getD c 0) (blks.getD c 0)) (by omega) (by omega) (by omega) (by omega) ?_
  refine (for_small w (szs.getD c 0) hs.2).mono ?_
  rintro e w' ⟨c', hc', h1, h2, rfl, hb⟩
  have : c' = c := by
    rcases Nat.lt_trichotomy c' c with h | h | h
    · have := szs_mono c hc c' h; omega
    · exact h
    · have := h2 c h; omega
  subst this
  exact ⟨rfl, hb⟩

/-- What HeapFull holds: the heap, the blocks that came, in a row of its own. -/
structure FS (W : World) (ro : Nat → Role) (bh ba n c k r : Nat) (U : List Nat) (w : World) : Prop where
  st : ∃ bm bb f h a, LawH W ro 0 w bm bb (n * 16384) f h a ∧ KA n k r h a ∧ FInv c k h U ∧ h.bh = bh ∧ h.ba = ba

def rowU (U : List Nat) : List Value := U.map fun x => .int .u64 (x : Nat)
/-- The law's own row. -/
def OwnU (W : World) (ro : Nat → Role) (v : Value) (U : List Nat) (w : World) : Prop := w.ownsRow W.heap.size 29 1 v U.length (rowU U) ∧ ∀ b, v.ownBlock = some b → ro b = .other

theorem OwnU.stay {v : Value} (H : OwnU W ro v U w) (hs : Stay ro w ro' w') : OwnU W ro' v U w' :=
  ⟨own_stays H.1 (fun k hk => (hs.2 k (H.1.lt k hk).2 (H.2 k hk)).1), fun b hb => (hs.2 b (H.1.lt b hb).2 (H.2 b hb)).2⟩

theorem get_fs (bh ba : Nat) {v : Value} (F : FS W ro bh ba n c k r U w) (O : OwnU W ro v U w) (hn : n ≤ 16) (hr : r < 1000000) (hc : c < 12) :
    Calls Tryz.prog 11 #[.pointer (some ⟨bh, 0, none⟩), .int .u64 (szs.getD c 0 : Nat)] w fun e w' =>
      ∃ ro' k', OwnU W ro' v U w' ∧ ((∃ x, e = .returned (.tuple #[.int .u64 (x : Nat), .int .u64 (szs.getD c 0 : Nat), .bool true]) ∧ FS W ro' bh ba n c k' (r + 1) (U ++ [x]) w') ∨
        (e = .returned (.tuple #[.int .u64 0, .int .u64 0, .bool false]) ∧ k' = n ∧ ∃ bm bb f h a, LawH W ro' 0 w' bm bb (n * 16384) f h a ∧ KA n n (r + 1) h a ∧ FInv c n h U ∧ h.bh = bh ∧ h.ba = ba ∧ h.Q1 c = [] ∧ NoRoom h (sls.getD c 0))) := by
  obtain ⟨bm, bb, f, h, a, L, K, I, rfl, rfl⟩ := F.st
  refine (get_class L K hn hr hc).mono ?_
  rintro e w' ⟨y, f', h', k', ro', a', rfl, hg, L', K', e1, e2, hs⟩
  have ho := L.hp.hp.qo c (by omega)
  rcases I.got L.hp.hp.sok ho (L.hp.hp.linkOk (by omega)) K.pls hc hg with ⟨x, rfl, I'⟩ | ⟨rfl, I', h1, h2, rfl⟩
  · exact ⟨ro', k', O.stay hs, .inl ⟨x, rfl, ⟨bm, bb, f', h', a', L', K', I', e1, e2⟩⟩⟩
  · exact ⟨ro', k', O.stay hs, .inr ⟨rfl, rfl, bm, bb, f', h', a', L', K', I', e1, e2, h1, h2⟩⟩

theorem FS.len {bh ba : Nat} (F : FS W ro bh ba n c k r U w) (hn : n ≤ 2) (hc : c < 12) : U.length ≤ 1920 := by
  obtain ⟨bm, bb, f, h, a, L, K, I, rfl, rfl⟩ := F.st
  have h1 := I.bound L.hp.hp.sok hc
  have h2 := K.kn
  have h3 : k * 960 ≤ 2 * 960 := Nat.mul_le_mul_right _ (by omega)
  omega

theorem FS.size {bh ba : Nat} (F : FS W ro bh ba n c k r U w) : W.heap.size ≤ w.heap.size := by
  obtain ⟨bm, bb, f, h, a, L, _⟩ := F.st
  exact L.below.size
theorem FS.app {bh ba : Nat} {v : Value} {U0 : List Nat} {o : Obj} (F : FS W ro bh ba n c k r U w) (O : OwnU W ro v U0 w) (hg : (w.alloc o).grownBy w' v.ownBlock) : FS W (cutR ro w.heap.size) bh ba n c k r U w' := by
  obtain ⟨bm, bb, f, h, a, L, K, I, e1, e2⟩ := F.st
  refine ⟨bm, bb, f, h, a, ((L.cut rfl).on ((Below.refl _ _).alloc (Nat.le_refl _) _)).own hg (fun b hb => ⟨?_, (O.1.lt b hb).1⟩), K, I, e1, e2⟩
  unfold cutR
  rw [if_pos (O.1.lt b hb).2]
  exact O.2 b hb
theorem OwnU.app {v v' : Value} {o : Obj} {x : Nat} (O : OwnU W ro v U w) (hown : w'.ownsRow W.heap.size 29 1 v' (U.length + 1) (rowU U ++ [.int .u64 (x : Nat)])) (hat : v'.ownBlock = v.ownBlock ∨ v'.ownBlock = some (w.alloc o).heap.size) : OwnU W (cutR ro w.heap.size) v' (U ++ [x]) w' := by
  refine ⟨?_, fun b hb => ?_⟩
  · rw [show (U ++ [x]).length = U.length + 1 by simp, show rowU (U ++ [x]) = rowU U ++ [.int .u64 (x : Nat)] by simp [rowU]]
    exact hown
  · unfold cutR
    rcases hat with e | e
    · rw [if_pos (O.1.lt b (e ▸ hb)).2]
      exact O.2 b (e ▸ hb)
    · rw [hb] at e
      have : b = (w.alloc o).heap.size := Option.some.inj e
      rw [if_neg (by rw [this]; simp)]

theorem KA.arSeg (K : KA n k r h a) (hn : n ≤ 64) : ArSeg a h.S := ⟨K.sorted, by rw [K.len]; have := K.kn; omega, fun s hs => by
  have h1 := K.pls s hs
  have h2 := K.kn
  refine ⟨by rw [K.en]; omega, by rw [K.T]; simpa using h1, ?_⟩
  rw [K.R]
  exact List.mem_map.2 ⟨s.pl, by simpa using h1, rfl⟩⟩

theorem local_full {v : Value} (L : LawH W ro 0 w bm bb (n * 16384) f h a) (K : KA n k r h a) (I : FInv c k h U) (O : OwnU W ro v U w) (hU : 0 < U.length) (hq : h.Q1 c = []) (hc : c < 12) :
    Calls Tryz.prog 15 #[.pointer (some ⟨h.bh, 0, none⟩), .int .i64 c] w fun e w' => e = .returned (.tuple #[.int .u64 0, .int .i64 4]) ∧
      ∃ ro' h', LawH W ro' 0 w' bm bb (n * 16384) f h' a ∧ KA n k r h' a ∧ FInv c k h' U ∧ OwnU W ro' v U w' ∧ h'.bh = h.bh ∧ h'.ba = h.ba ∧ h'.Q1 c = [] := by
  rcases O.1.2 with ⟨_, h0⟩ | ⟨g, cap, cur, hv, hgB, hh, _⟩
  · omega
  · have X : LX W ro w bm bb f h a n k r g (.cells cur 29) := ⟨L, K, O.2 g (by rw [hv]; rfl), hh⟩
    refine (local_g X hc).mono ?_
    rintro e w' (⟨y, f', h', ro', rfl, ⟨kk, s, hs, p, hp, pg', k1, k2, _, hkey, _⟩, _⟩ | ⟨h', ro', rfl, hg, L', e1, e2, hs⟩)
    · rw [hq] at hkey
      simp at hkey
    · obtain ⟨I', hq', _⟩ := I.fill L.hp.hp.sok hg
      exact ⟨rfl, ro', h', L'.law, L'.ka, I', O.stay hs, e1, e2, hq'⟩

theorem free_full {v : Value} {x : Nat} (L : LawH W ro 0 w bm bb (n * 16384) f h a) (K : KA n k r h a) (I : FInv c k h U) (O : OwnU W ro v U w) (hn : n ≤ 16) (hq : h.Q1 c = []) (hc : c < 12) (hx : x ∈ U) :
    Calls Tryz.prog 16 #[.pointer (some ⟨h.bh, 0, none⟩), .int .u64 x] w fun e w' => e = .returned (.int .i64 0) ∧
      ∃ ro' f' s p F k1 k2, s ∈ h.S ∧ p ∈ s.P ∧ p.pg.full ∧ LawH W ro' 0 w' bm bb (n * 16384) f' (({ h with S := setPg s.pl p.at_ (p.pg.gave x) h.S } : HeapR).queued c [keyOf s p] F k1 k2) a ∧ KA n k r (({ h with S := setPg s.pl p.at_ (p.pg.gave x) h.S } : HeapR).queued c [keyOf s p] F k1 k2) a ∧ OwnU W ro' v U w' := by
  obtain ⟨s, hs, p, hp, q, hqm, hxe, ho⟩ := I.use x hx
  have hcls := (I.kind s hs p hp).1
  have huf := I.used_full L.hp.hp.sok hq hs hp
  have hN := (blks_le hc).1
  refine (free_ok L.hp L.ar (K.arSeg (by omega)) hs hp (i := c) (by omega) (by rw [hcls]; unfold rowIx; rw [if_neg (by omega), if_pos (by omega)]; simp) hqm hxe ho).mono ?_
  rintro e w' ⟨rfl, ro', R, F, k1, k2, S', a', he, rr, A, H, hk⟩
  rcases hk with ⟨_, rfl, rfl, rfl, rfl⟩ | ⟨h1, _⟩
  · have hkey : keyOf s p ∈ h.Q2 c := by
      rcases I.keys s hs p hp with h1 | h1
      · rw [hq] at h1; cases h1
      · exact h1
    have eW : wakeS (h.Q1 c) (h.Q2 c) ((s.pl * 16 + p.at_ : Nat) : Int) = (0, [keyOf s p], (h.Q2 c).erase (keyOf s p)) := by
      unfold wakeS
      rw [if_pos (show ((s.pl * 16 + p.at_ : Nat) : Int) ∈ h.Q2 c from hkey), hq]
      rfl
    rw [eW] at H
    exact ⟨rfl, ro', _, s, p, _, k1, k2, hs, hp, I.allfull hq hs hp, L.step H A rr hpT_other he, K.keep setPg_pls, O.stay (Stay.of_fr rr hpT_other he)⟩
  · omega

theorem get_again {v : Value} {x : Nat} {s : SegR} {p : PageR} {F : List Int} {k1 k2 : Option Nat} (hs : s ∈ h.S) (hp : p ∈ s.P) (hf : p.pg.full) (L : LawH W ro 0 w bm bb (n * 16384) f (({ h with S := setPg s.pl p.at_ (p.pg.gave x) h.S } : HeapR).queued c [keyOf s p] F k1 k2) a)
    (K : KA n k r (({ h with S := setPg s.pl p.at_ (p.pg.gave x) h.S } : HeapR).queued c [keyOf s p] F k1 k2) a) (O : OwnU W ro v U w) (hn : n ≤ 16) (hr : r < 1000000) (hc : c < 12) :
    Calls Tryz.prog 11 #[.pointer (some ⟨h.bh, 0, none⟩), .int .u64 (szs.getD c 0 : Nat)] w fun e w' => e = .returned (.tuple #[.int .u64 (x : Nat), .int .u64 (szs.getD c 0 : Nat), .bool true]) ∧ Below W.heap.size W w' ∧ ∃ ro', OwnU W ro' v U w' := by
  refine (get_class L K hn hr hc).mono ?_
  rintro e w' ⟨y, f', h', k', ro', a', rfl, hg, L', K', e1, e2, hst⟩
  have := last_get hs hp hf L.hp.hp.sok hg
  subst this
  exact ⟨rfl, L'.below, ro', O.stay hst⟩

def lenOf : Value → Nat
  | .slice _ n _ => n
  | _ => 0

set_option maxRecDepth 100000 in
set_option maxHeartbeats 16000000 in
theorem full_walk (W : World) (cc ww : Int) (h0 : 0 ≤ cc) (h1 : cc ≤ 255) (h2 : 0 ≤ ww) (h3 : ww ≤ 65535) :
    Calls Tryz.prog 3 #[.int .u8 cc, .int .u16 ww] W (TrueBelow W) := by
  obtain ⟨c, hc⟩ : ∃ c : Nat, (c : Int) = cc % 12 := ⟨(cc % 12).toNat, by omega⟩
  have hc12 : c < 12 := by omega
  have HCC := Lib.hid hc
  go_enter Tryz.func3, Tryz.ntmps3
  go_wp2_with fail
  refine (alive12 W).mono ?_
  rintro e w1 ⟨rfl, B1⟩
  have HM : Hid (Calls Tryz.prog 9 #[.int .i64 2, .int .i64 2] w1 fun e w' => ∃ ro bm bb bh ba bk bt, e = .returned (.tuple #[.pointer (some ⟨bh, 0, none⟩), .pointer (some ⟨bm, 0, none⟩), .pointer (some ⟨ba, 0, none⟩), .bool true]) ∧
      LawH W ro 0 w' bm bb (2 * 16384) (fun _ => 0) (newHR bh ba 7) (newAr bk bt 2) ∧ Below w1.heap.size w1 w') := made_ok B1 2 (by omega) (by omega)
  clear B1
  go_wp2_with fail
  refine HM.out.mono ?_
  rintro e w2 ⟨ro, bm, bb, bh, ba, bk, bt, rfl, L2, _⟩
  have HL2 := Lib.hid L2
  have HSZ : Hid (Calls Tryz.prog 10 #[.int .i64 (cc % 12)] w2 fun e w' => e = .returned (.tuple #[.int .u64 (szs.getD c 0 : Nat), .int .i64 0]) ∧ Below w2.heap.size w2 w') := by
    have := size_ok w2 c hc12
    rw [hc] at this
    exact this
  clear L2 HM hc
  go_wp2_with fail
  refine HSZ.out.mono ?_
  rintro e w3 ⟨rfl, hb3⟩
  rw [← HCC.out]
  have HF3 : Hid (FS W ro bh ba 2 c 0 0 [] w3) := ⟨bm, bb, _, _, _, HL2.out.on hb3, ⟨rfl, rfl, by funext j; simp [newAr], rfl, by omega, nofun, Nat.le_refl _⟩, ⟨rfl, nofun, nofun, nofun, nofun, rfl, nofun⟩, rfl, rfl⟩
  have HO3 : Hid (OwnU W ro (.slice none 0 0) [] w3) := ⟨World.ownsRow_nil _ _ _ _, nofun⟩
  have HSIN := szs_in hc12
  obtain ⟨Sz, hSz⟩ : ∃ Sz, Sz = szs.getD c 0 := ⟨_, rfl⟩
  have HGET : Hid (∀ (ro : Nat → Role) (U : List Nat) (k r : Nat) (v : Value) (w : World), FS W ro bh ba 2 c k r U w → OwnU W ro v U w → r < 1000000 → Calls Tryz.prog 11 #[.pointer (some ⟨bh, 0, none⟩), .int .u64 (Sz : Nat)] w fun e w' =>
      ∃ ro' k', OwnU W ro' v U w' ∧ ((∃ x, e = .returned (.tuple #[.int .u64 (x : Nat), .int .u64 (Sz : Nat), .bool true]) ∧ FS W ro' bh ba 2 c k' (r + 1) (U ++ [x]) w') ∨
        (e = .returned (.tuple #[.int .u64 0, .int .u64 0, .bool false]) ∧ k' = 2 ∧ ∃ bm bb f h a, LawH W ro' 0 w' bm bb (2 * 16384) f h a ∧ KA 2 2 (r + 1) h a ∧ FInv c 2 h U ∧ h.bh = bh ∧ h.ba = ba ∧ h.Q1 c = [] ∧ NoRoom h (sls.getD c 0)))) := fun ro U k r v w F O hr => by
    rw [hSz]
    exact get_fs bh ba F O (by omega) hr hc12
  rw [← hSz]
  rw [← hSz] at HSIN
  have HSE := Lib.hid hSz
  clear hb3 HL2 HSZ hSz
  go_wp2_with fail
  obtain ⟨i0, hi0, hz0, hzz1, hz2⟩ := info_parts info_u64
  go_loopw [12] (fun v wr => ∃ (ro : Nat → Role) (k : Nat) (U : List Nat), Hid (FS W ro bh ba 2 c k U.length U wr) ∧ Hid (OwnU W ro v U wr)) (fun v _ => 6000 - lenOf v)
  case atStart => exact ⟨ro, 0, [], HF3.out, HO3.out⟩
  case round =>
    obtain ⟨ro, k, U, HF, HO⟩ := hrel
    have hU := HF.out.len (by omega) hc12
    have hlv : lenOf u12 = U.length := by
      obtain ⟨A, c, e, _⟩ := own_at HO.out.1
      rw [e]
      rfl
    go_wp2_with fail
    refine (HGET.out ro U k U.length u12 _ HF.out HO.out (by omega)).mono ?_
    rintro e w4 ⟨ro4, k4, O4, (⟨x, rfl, F4⟩ | ⟨rfl, rfl, bm4, bb4, f4, h4, a4, L4, K4, I4, e4, e5, hq4, hno4⟩)⟩
    · have HO4 := Lib.hid O4
      have HF4 := Lib.hid F4
      clear O4 F4
      go_wp2_with (first
        | (at_builtin
           refine wpList_append_any _ rfl (.tmp 50) (.tmp 52) _ rfl W.heap.size 29 i0 _ 1 8 Tryz.underlying33 hi0 hz0 hzz1 hz2 rfl (by omega) u12 _ _ rfl
             (HO4.out.1.alloc _) _ _ 1 1 [.int .u64 (x : Nat)] rfl (Reads.new1 _ _ _) (fun u hu => by simp at hu; subst hu; rfl) (by simp only [maxLen]; omega) (by omega) (by have := HF4.out.size; simp; omega) ?_
           intro v5 w5 hown5 hg5 hat5
           have HF5 := Lib.hid (HF4.out.app HO4.out hg5)
           have HO5 := Lib.hid (HO4.out.app hown5 hat5)
           obtain ⟨gb, cap5, rfl, _, _⟩ := hown5.form (by omega)
           clear hown5 hg5 hat5))
      go_roundw
      case rel =>
        have e5 : (U ++ [x]).length = U.length + 1 := by simp
        exact ⟨_, k4, U ++ [x], by rw [e5]; exact HF5.out, HO5.out⟩
      case measure =>
        rw [hlv]
        show 6000 - (U.length + 1) < 6000 - U.length
        omega
    · have HO4 := Lib.hid O4
      have HST : Hid (LawH W ro4 0 w4 bm4 bb4 (2 * 16384) f4 h4 a4 ∧ KA 2 2 (U.length + 1) h4 a4 ∧ FInv c 2 h4 U ∧ h4.bh = bh ∧ h4.ba = ba ∧ h4.Q1 c = [] ∧ NoRoom h4 (sls.getD c 0)) := ⟨L4, K4, I4, e4, e5, hq4, hno4⟩
      obtain ⟨A4, c4, hv, _, _, HC⟩ := own_at O4.1
      subst hv
      have hUL0 := I4.end_ L4.hp.hp.sok hc12 hq4 hno4
      have hBl := blks_le hc12
      have hSl : 1 ≤ sls.getD c 0 ∧ sls.getD c 0 ≤ 4 := by
        rw [sls_of hc12]
        split
        · omega
        · split <;> omega
      have HSL := Lib.hid (fun w => refSlices_ok w c hc12)
      have HBL := Lib.hid (fun w => refBlocks_ok w c hc12)
      obtain ⟨sl, hsl⟩ : ∃ sl, sl = sls.getD c 0 := ⟨_, rfl⟩
      obtain ⟨N, hN⟩ : ∃ N, N = blks.getD c 0 := ⟨_, rfl⟩
      rw [← hsl] at HSL hSl hUL0
      rw [← hN] at HBL hBl hUL0
      obtain ⟨per, hper⟩ : ∃ per, per = 15 / sl * N := ⟨_, rfl⟩
      rw [← hper] at hUL0
      have hdl : 15 / sl ≤ 15 := Nat.div_le_self _ _
      have hd1 : 1 ≤ 15 / sl := by rw [Nat.le_div_iff_mul_le (by omega)]; omega
      have hp1 : per ≤ 15 * 64 := by rw [hper]; exact Nat.mul_le_mul hdl hBl.2
      have hp0 : 1 * 4 ≤ per := by rw [hper]; exact Nat.mul_le_mul hd1 hBl.1
      have hq1 : IntKind.i64.wrap ((15 : Int).tdiv (sl : Int)) = 15 / (sl : Int) := Go.IntWalk.i64_quo _ _ ⟨by omega, by omega, by omega⟩
      have hpe : (15 : Int) / (sl : Int) * (N : Int) = (per : Int) := by
        rw [hper, Int.natCast_mul, Int.natCast_ediv]
        rfl
      have hq2 : IntKind.i64.wrap ((15 : Int) / (sl : Int) * (N : Int)) = (per : Int) := by
        rw [hpe]
        exact Go.IntWalk.i64_in _ ⟨by omega, by omega⟩
      have hs0 : ¬ ((sl : Int) = 0) := by omega
      have hs0' : ((sl : Int) == 0) = false := by simp; omega
      have hs1 : ¬ (sl = 0) := by omega
      have hs2 : (sl == 0) = false := by simp; omega
      have HUL := Lib.hid hUL0
      have HSLE := Lib.hid hsl
      clear O4 L4 K4 I4 e4 e5 hq4 hno4 hUL0 hper hdl hd1 hsl hN hpe
      go_wp2_with fail
      go_region_held3 (fun _ => True) (first | exact trivial | fail)
        (first
          | (go_at_call 12; refine (HSL.out _).mono ?_; rintro e w5 ⟨rfl, hb5⟩; have HB5 : Hid (Below w4.heap.size w4 w5) := ⟨hb5.os, hb5.tape, hb5.output, hb5.size, hb5.block⟩; clear hb5)
          | (go_at_call 13; refine (HBL.out _).mono ?_; rintro e w6 ⟨rfl, hb6⟩; have HB6 : Hid (Below w4.heap.size w4 w6) := HB5.out.trans (hb6.mono HB5.out.size); clear hb6)
          | fail)
      have HGV : Hid (Calls Tryz.prog 14 #[.pointer (some ⟨ba, 0, none⟩)] w6 fun e w' => e = .returned (.int .i64 2) ∧ ∃ k, w' = w6.drewN k) := by
        obtain ⟨L4, K4, I4, e4, e5, _⟩ := HST.out
        have := arenaGiven (L4.on HB6.out).ar.at_
        rw [K4.given, K4.en, e5] at this
        exact this
      have hUL : U.length = 2 * per := HUL.out
      go_wp2_with fail
      refine HGV.out.mono ?_
      rintro e w7 ⟨rfl, kk, hw7⟩
      have HB7 : Hid (Below w4.heap.size w4 w7) := by rw [hw7]; exact below_drewN HB6.out kk
      clear hw7 HGV
      have HLO : Hid (Calls Tryz.prog 15 #[.pointer (some ⟨bh, 0, none⟩), .int .i64 c] w7 fun e w' => e = .returned (.tuple #[.int .u64 0, .int .i64 4]) ∧
          ∃ ro' h', LawH W ro' 0 w' bm4 bb4 (2 * 16384) f4 h' a4 ∧ KA 2 2 (U.length + 1) h' a4 ∧ FInv c 2 h' U ∧ OwnU W ro' (.slice A4 U.length c4) U w' ∧ h'.bh = bh ∧ h'.ba = h4.ba ∧ h'.Q1 c = []) := by
        obtain ⟨L4, K4, I4, e4, e5, hq4, _⟩ := HST.out
        have := local_full (L4.on HB7.out) K4 I4 (HO4.out.stay (Stay.below HB7.out)) (by omega) hq4 hc12
        rw [e4] at this
        exact this
      go_wp2_with fail
      refine HLO.out.mono ?_
      rintro e w8 ⟨rfl, ro8, h8, L8, K8, I8, O8, e8, _, hq8⟩
      have HST8 : Hid (LawH W ro8 0 w8 bm4 bb4 (2 * 16384) f4 h8 a4 ∧ KA 2 2 (U.length + 1) h8 a4 ∧ FInv c 2 h8 U ∧ OwnU W ro8 (.slice A4 U.length c4) U w8 ∧ h8.bh = bh ∧ h8.Q1 c = []) := ⟨L8, K8, I8, O8, e8, hq8⟩
      clear L8 K8 I8 O8 e8 hq8 HLO
      obtain ⟨i, hi⟩ : ∃ i : Nat, (i : Int) = ww % (2 * (per : Int)) := ⟨(ww % (2 * (per : Int))).toNat, by have := Int.emod_nonneg ww (show (2 * (per : Int)) ≠ 0 by omega); omega⟩
      have hil : i < U.length := by have := Int.emod_lt_of_pos ww (show 0 < (2 * (per : Int)) by omega); omega
      obtain ⟨xi, hxi⟩ : ∃ xi, U[i]? = some xi := ⟨_, List.getElem?_eq_getElem hil⟩
      have hxu := List.mem_of_getElem? hxi
      have HXI := Lib.hid hxi
      obtain ⟨A', c', hv', _, _, HC8⟩ := own_at HST8.out.2.2.2.1.1
      injection hv' with hA _ hc'
      subst hA hc'
      obtain ⟨gg, hgg, hcell⟩ := HC8 i (.int .u64 (xi : Nat)) (by unfold rowU; rw [List.getElem?_map, hxi]; rfl)
      have hti : (ww % (2 * (per : Int))).toNat = i := by omega
      have hb1 : 0 ≤ ww % (2 * (per : Int)) := by omega
      have hb2 : ww % (2 * (per : Int)) < 2 * (per : Int) := by omega
      have hcell' : w8.cell? ⟨gg, (ww % (2 * (per : Int))).toNat, none⟩ = some (.int .u64 (xi : Nat)) := by rw [hti]; exact hcell
      have HTI := Lib.hid hti
      have HFREE : Hid (Calls Tryz.prog 16 #[.pointer (some ⟨bh, 0, none⟩), .int .u64 xi] w8 fun e w' => e = .returned (.int .i64 0) ∧
          ∃ ro' f' s p F k1 k2, s ∈ h8.S ∧ p ∈ s.P ∧ p.pg.full ∧ LawH W ro' 0 w' bm4 bb4 (2 * 16384) f' (({ h8 with S := setPg s.pl p.at_ (p.pg.gave xi) h8.S } : HeapR).queued c [keyOf s p] F k1 k2) a4 ∧ KA 2 2 (U.length + 1) (({ h8 with S := setPg s.pl p.at_ (p.pg.gave xi) h8.S } : HeapR).queued c [keyOf s p] F k1 k2) a4 ∧ OwnU W ro' (.slice A4 U.length c4) U w') := by
        obtain ⟨L8, K8, I8, O8, e8, hq8⟩ := HST8.out
        rw [← e8]
        exact free_full L8 K8 I8 O8 (by omega) hq8 hc12 hxu
      have HXI := Lib.hid hxi
      clear HC8 hxi hxu hi hcell hti HST HB7 HB6
      go_wp2_with fail
      refine HFREE.out.mono ?_
      rintro e w9 ⟨rfl, ro9, f9, s9, p9, F9, k91, k92, hs9, hp9, hf9, L9, K9, O9⟩
      have HGT : Hid (Calls Tryz.prog 11 #[.pointer (some ⟨bh, 0, none⟩), .int .u64 (Sz : Nat)] w9 fun e w' => e = .returned (.tuple #[.int .u64 (xi : Nat), .int .u64 (Sz : Nat), .bool true]) ∧ Below W.heap.size W w' ∧ ∃ ro', OwnU W ro' (.slice A4 U.length c4) U w') := by
        have := get_again hs9 hp9 hf9 L9 K9 O9 (by omega) (by omega) hc12
        rw [← HSE.out, HST8.out.2.2.2.2.1] at this
        exact this
      clear hs9 hp9 hf9 L9 K9 O9 HFREE hcell'
      go_wp2_with fail
      refine HGT.out.mono ?_
      rintro e w10 ⟨rfl, hb10, ro10, O10⟩
      obtain ⟨A', c', hv', _, _, HC10⟩ := own_at O10.1
      injection hv' with hA _ hc'
      subst hA hc'
      obtain ⟨g2, hg2, hcell⟩ := HC10 i (.int .u64 (xi : Nat)) (by unfold rowU; rw [List.getElem?_map, HXI.out]; rfl)
      have e2 : g2 = gg := by
        rw [hgg] at hg2
        injection hg2 with h
        injection h with h _ _
        exact h.symm
      subst e2
      have hcell' : w10.cell? ⟨g2, (ww % (2 * (per : Int))).toNat, none⟩ = some (.int .u64 (xi : Nat)) := by rw [HTI.out]; exact hcell
      have HB10 := Lib.hid hb10
      clear HC10 hcell hb10 O10 HGT
      go_wp2_with fail
      go_ret
      exact ⟨rfl, HB10.out⟩

section
open Go.ChangeShapes Go.WideShapes
variable {H : Type} {enc : TypeId × Value → H} {W : World} {base : Nat} {args : Array Value} {ds : List (DataW H)} {p : List MemPlace}
end
end Go.Proofs.YtbljphaklciinaaGreat

/- Layer 12's laws, plain: get on blocks of whatever classes; how they go. -/
namespace Go.Proofs.YtbljphaklciinaaGreat
open Go.RowKit
variable {ro ro' : Nat → Role} {hn : Nat} {w w' : World} {B bm bb sz : Nat} {f f' : Nat → Nat} {h h' : HeapR} {S : List SegR} {k x n k' r : Nat} {U : List Nat} {a a' : ArR} {W : World}

theorem BInv.got {c q : Int} {i sl Sz N : Nat} (I : BInv h U) (ne : NE h.S) (K : SOk sz f h.S) (A : SApart h.S) (K' : SOk sz f' h'.S) (A' : SApart h'.S) (hpl : ∀ s ∈ h.S, s.pl < k) (hp : PlanOk c q i sl Sz N) {y : Option Nat} (hg : GetR sz n k f h c i sl Sz N y f' h' k') :
    NE h'.S ∧ ((∃ x, y = some x ∧ BInv h' (U ++ [x])) ∨ (y = none ∧ BInv h' U)) := by
  obtain ⟨f1, f2, f3, f4, f5, f6, _⟩ := hp.facts
  rcases hg with ⟨x, rfl, _, hg, rfl⟩ | ⟨h1, h2, hg⟩
  · have := I.loc K A hg
    exact ⟨this.2 ne, .inl ⟨x, rfl, this.1⟩⟩
  · have h1I : BInv h1 U ∧ h1.S = h.S := by
      rcases h2 with ⟨_, hf⟩ | ⟨_, rfl⟩
      · exact I.fill hf
      · exact ⟨I, rfl⟩
    obtain ⟨I1, hS⟩ := h1I
    have K1 : SOk sz f h1.S := by rw [hS]; exact K
    have ne1 : NE h1.S := by rw [hS]; exact ne
    have hpl1 : ∀ s ∈ h1.S, s.pl < k := by rw [hS]; exact hpl
    rcases hg with ⟨x, rfl, hg, rfl⟩ | ⟨hno, _, h2, x, rfl, hgr, hg, rfl⟩ | ⟨hno, hk, rfl, rfl, rfl, rfl⟩
    · have := I1.new K1 K' A' f2 f5 hg
      exact ⟨this.2 (fun s hs e => absurd e (ne1 s hs)) (fun s hs t ht e _ => absurd e (ne1 s hs)), .inl ⟨x, rfl, this.1⟩⟩
    · have K2 := K1.grow hpl1 hgr
      have I2 := I1.grow hgr
      have := I2.new K2 K' A' f2 f5 hg
      obtain ⟨s0, gs, hpl0, hP0, _, rfl⟩ := hgr
      have hm : ∀ {t : SegR}, t ∈ h1.S ++ [s0] → t ∈ h1.S ∨ t = s0 := fun {t} ht => by
        rcases List.mem_append.1 ht with ht | ht
        · exact .inl ht
        · exact .inr (by simpa using ht)
      refine ⟨this.2 (fun s hs e t ht het j => ?_) (fun s hs t ht e1 e2 => ?_), .inl ⟨x, rfl, this.1⟩⟩
      · rcases hm ht with ht | rfl
        · exact hno t ht j
        · exact absurd hP0 het
      · rcases hm hs with hs | rfl
        · exact absurd e1 (ne1 s hs)
        · rcases hm ht with ht | rfl
          · exact absurd e2 (ne1 t ht)
          · rfl
    · exact ⟨ne1, .inr ⟨rfl, I1⟩⟩

theorem PgInv.len_le {p : Pg} (h : PgInv f sz p) {L : List Nat} (hn : L.Nodup) (hall : ∀ x ∈ L, ∃ j, j < p.made ∧ x = p.f + j * p.s) : L.length ≤ p.made := by
  have h16 := h.s16
  have hinj : ∀ {x y : Nat}, x ∈ L → y ∈ L → (x - p.f) / p.s = (y - p.f) / p.s → x = y := by
    intro x y hx hy e
    obtain ⟨j, _, rfl⟩ := hall x hx
    obtain ⟨k, _, rfl⟩ := hall y hy
    rw [Nat.add_sub_cancel_left, Nat.add_sub_cancel_left, Nat.mul_div_cancel _ (by omega), Nat.mul_div_cancel _ (by omega)] at e
    rw [e]
  have h1 := nodup_bound p.made (L.map fun x => (x - p.f) / p.s) (by
    rw [List.Nodup, List.pairwise_map]
    exact List.Pairwise.imp_of_mem (fun hx hy hne e => hne (hinj hx hy e)) hn) (fun x hx => by
    obtain ⟨y, hy, rfl⟩ := List.mem_map.1 hx
    obtain ⟨j, hj, rfl⟩ := hall y hy
    rw [Nat.add_sub_cancel_left, Nat.mul_div_cancel _ (by omega)]
    exact hj)
  simpa using h1
theorem PgInv.used_two {p : Pg} (h : PgInv f sz p) {i j x y : Nat} (hi : i < p.made) (hj : j < p.made) (hx : x = p.f + i * p.s) (hy : y = p.f + j * p.s) (hxy : x ≠ y) (hox : x ∉ p.free ++ p.loc) (hoy : y ∉ p.free ++ p.loc) : 2 ≤ p.used := by
  have := h.len_le (L := x :: y :: (p.free ++ p.loc)) (List.nodup_cons.2 ⟨by simp only [List.mem_cons, not_or]; exact ⟨hxy, hox⟩, List.nodup_cons.2 ⟨hoy, h.nd⟩⟩) (fun z hz => by
    rcases List.mem_cons.1 hz with rfl | hz
    · exact ⟨i, hi, hx⟩
    · rcases List.mem_cons.1 hz with rfl | hz
      · exact ⟨j, hj, hy⟩
      · exact h.blk z hz)
  have hu := h.us
  simp only [List.length_cons] at this
  omega

theorem usedP_del {p : PageR} : ∀ {P : List PageR}, P.Pairwise (fun p q => p.at_ ≠ q.at_) → p ∈ P → usedP (P.filter (noAt p.at_)) + p.pg.used = usedP P
  | [], _, hp => by cases hp
  | q :: r, hn, hp => by
    rw [List.pairwise_cons] at hn
    by_cases e : q.at_ = p.at_
    · have hq : q = p := by
        rcases List.mem_cons.1 hp with h | h
        · exact h.symm
        · exact absurd e (hn.1 p h)
      subst hq
      rw [List.filter_cons_of_neg (by simp [noAt])]
      have : r.filter (noAt q.at_) = r := List.filter_eq_self.2 fun t ht => noAt_iff.2 (fun e => hn.1 t ht e.symm)
      rw [this]
      simp [usedP]
      omega
    · have hpr : p ∈ r := by
        rcases List.mem_cons.1 hp with h | h
        · exact absurd (by rw [h]) e
        · exact h
      have ih := usedP_del hn.2 hpr
      rw [List.filter_cons_of_pos (noAt_iff.2 e)]
      simp only [usedP, List.map_cons, List.sum_cons] at ih ⊢
      omega
theorem usedS_del (K : SOk sz f S) {s : SegR} {p : PageR} (hs : s ∈ S) (hp : p ∈ s.P) : usedS (delPg s.pl p.at_ S) + p.pg.used = usedS S := by
  unfold usedS delPg
  rw [List.map_map]
  have := sum_map_one (g := fun t : SegR => usedP t.P) (g' := (fun t : SegR => usedP t.P) ∘ delI s.pl p.at_) hs (pair_nodup K.pls) (fun t ht hne => by
    show usedP (delI s.pl p.at_ t).P = _
    unfold delI
    rw [if_neg (fun e => hne (pair_at K.pls ht hs e))])
  have e2 : ((fun t : SegR => usedP t.P) ∘ delI s.pl p.at_) s + p.pg.used = usedP s.P := by
    show usedP (delI s.pl p.at_ s).P + _ = _
    unfold delI
    rw [if_pos rfl]
    exact usedP_del (K.nod s hs) hp
  omega
theorem usedS_lost {s : SegR} : ∀ {S : List SegR}, S.Pairwise (fun s t => s.pl ≠ t.pl) → s ∈ S → usedS (S.filter (noPl s.pl)) + usedP s.P = usedS S
  | [], _, hs => by cases hs
  | t :: r, hn, hs => by
    rw [List.pairwise_cons] at hn
    by_cases e : t.pl = s.pl
    · have ht : t = s := by
        rcases List.mem_cons.1 hs with h | h
        · exact h.symm
        · exact absurd e (hn.1 s h)
      subst ht
      rw [List.filter_cons_of_neg (by simp [noPl])]
      have : r.filter (noPl t.pl) = r := List.filter_eq_self.2 fun u hu => noPl_iff.2 (fun e => hn.1 u hu e.symm)
      rw [this]
      simp [usedS]
      omega
    · have hsr : s ∈ r := by
        rcases List.mem_cons.1 hs with h | h
        · exact absurd (by rw [h]) e
        · exact h
      have ih := usedS_lost hn.2 hsr
      rw [List.filter_cons_of_pos (noPl_iff.2 e)]
      simp only [usedS, List.map_cons, List.sum_cons] at ih ⊢
      omega

theorem removeS_keep {R F : List Int} {x y : Int} (hne : y ≠ x) (h : y ∈ R ∨ y ∈ F) : y ∈ (removeS R F x).2.1 ∨ y ∈ (removeS R F x).2.2 := by
  unfold removeS
  split
  · exact h.imp (fun h => (List.mem_erase_of_ne hne).2 h) id
  · split
    · exact h.imp id (fun h => (List.mem_erase_of_ne hne).2 h)
    · exact h

theorem mem_erase_nodup {U : List Nat} (hn : U.Nodup) {x y : Nat} (hy : y ∈ U.erase x) : y ∈ U ∧ y ≠ x := ⟨List.mem_of_mem_erase hy, fun e => by rw [e] at hy; exact (hn.mem_erase_iff.1 hy).1 rfl⟩

theorem mem_delPg_other {s t : SegR} {at_ : Nat} (ht : t ∈ S) (hne : t.pl ≠ s.pl) : t ∈ delPg s.pl at_ S := List.mem_map.2 ⟨t, ht, if_neg hne⟩
theorem delPg_mem (K : SOk sz f S) {s t : SegR} {at_ : Nat} (hs : s ∈ S) (ht : t ∈ delPg s.pl at_ S) : (t ∈ S ∧ t.pl ≠ s.pl) ∨ t = { s with P := s.P.filter (noAt at_) } := by
  obtain ⟨t0, ht0, rfl⟩ := List.mem_map.1 ht
  unfold delI
  by_cases e : t0.pl = s.pl
  · have := pair_at K.pls ht0 hs e
    subst this
    rw [if_pos rfl]
    exact .inr rfl
  · rw [if_neg e]
    exact .inl ⟨ht0, e⟩

/-- A block is given back: its page stays. -/
theorem BInv.gave (I : BInv h U) (K : SOk sz f h.S) (A : SApart h.S) {s : SegR} {p : PageR} {i q : Nat} {k1 k2 : Option Nat} (hx : x ∈ U) (hs : s ∈ h.S) (hp : p ∈ s.P) (hq : q < p.pg.made) (e : x = p.pg.f + q * p.pg.s) (ho : x ∉ p.pg.free ++ p.pg.loc) (hu : 1 < p.pg.used) :
    BInv (({ h with S := setPg s.pl p.at_ (p.pg.gave x) h.S } : HeapR).queued i (wakeS (h.Q1 i) (h.Q2 i) (keyOf s p)).2.1 (wakeS (h.Q1 i) (h.Q2 i) (keyOf s p)).2.2 k1 k2) (U.erase x) := by
  have hmem := fun {t : SegR} (ht : t ∈ setPg s.pl p.at_ (p.pg.gave x) h.S) => setPg_mem K hs ht
  have hself := mem_setPg_self (at_ := p.at_) (pg' := p.pg.gave x) hs
  have hpself := mem_setPP_self (pg' := p.pg.gave x) hp
  refine ⟨?_, fun y hy => ?_, I.nod.erase x, fun t ht r hr => ?_, fun t ht r hr => ?_⟩
  · have h1 := usedS_set (pg' := p.pg.gave x) K hs hp
    have h2 : (p.pg.gave x).used = p.pg.used - 1 := rfl
    have h3 := I.cnt
    have h4 : 0 < U.length := List.length_pos_of_mem hx
    rw [List.length_erase_of_mem hx]
    show U.length - 1 = usedS (setPg s.pl p.at_ (p.pg.gave x) h.S)
    omega
  · obtain ⟨hyU, hyx⟩ := mem_erase_nodup I.nod hy
    obtain ⟨t, ht, r, hr, j, hj, ey, hoy⟩ := I.use y hyU
    by_cases e1 : t.pl = s.pl
    · have := pair_at (F := SegR.pl) K.pls ht hs e1
      subst this
      by_cases e2 : r.at_ = p.at_
      · have := pair_at (K.nod t ht) hr hp e2
        subst this
        refine ⟨_, hself, _, hpself, j, hj, ey, fun hc => ?_⟩
        have hc' : y ∈ r.pg.free ++ (x :: r.pg.loc) := hc
        rcases List.mem_append.1 hc' with h1 | h1
        · exact hoy (List.mem_append_left _ h1)
        · rcases List.mem_cons.1 h1 with h1 | h1
          · exact hyx h1
          · exact hoy (List.mem_append_right _ h1)
      · exact ⟨_, hself, r, mem_setPP hr e2, j, hj, ey, hoy⟩
    · exact ⟨t, mem_setPg hs ht e1, r, hr, j, hj, ey, hoy⟩
  · rcases hmem ht with ⟨ht, _⟩ | rfl
    · exact I.pos t ht r hr
    · rcases setPP_mem (K.nod s hs) hp hr with ⟨hr, _⟩ | rfl
      · exact I.pos s hs r hr
      · show 1 ≤ p.pg.used - 1
        omega
  · have put : ∀ {t : SegR} {r : PageR}, t ∈ h.S → r ∈ t.P → ∃ c', rowIx r.cls = some c' ∧ _ := fun ht hr => by
      obtain ⟨c', e, hk⟩ := I.keys _ ht _ hr
      exact ⟨c', e, queued_mem (h := { h with S := setPg s.pl p.at_ (p.pg.gave x) h.S }) (c := i) (R := (wakeS (h.Q1 i) (h.Q2 i) (keyOf s p)).2.1) (F := (wakeS (h.Q1 i) (h.Q2 i) (keyOf s p)).2.2) (k1 := k1) (k2 := k2) (fun y hy => wakeS_mem.2 hy) hk⟩
    rcases hmem ht with ⟨ht, _⟩ | rfl
    · exact put ht hr
    · rcases setPP_mem (K.nod s hs) hp hr with ⟨hr, _⟩ | rfl
      · exact put (t := s) (r := r) hs hr
      · exact put (t := s) (r := p) hs hp

/-- A block is given back: its page ends. -/
theorem BInv.ended (I : BInv h U) (K : SOk sz f h.S) (A : SApart h.S) {s : SegR} {p : PageR} {i q : Nat} {k1 k2 : Option Nat} {S' : List SegR} (hx : x ∈ U) (hs : s ∈ h.S) (hp : p ∈ s.P) (hq : q < p.pg.made) (e : x = p.pg.f + q * p.pg.s) (ho : x ∉ p.pg.free ++ p.pg.loc) (hu : p.pg.used = 1) (hend : EndsAt a h.S s p.at_ S' a') (ne : NE h.S) :
    BInv (({ h with S := S' } : HeapR).queued i (removeS (wakeS (h.Q1 i) (h.Q2 i) (keyOf s p)).2.1 (wakeS (h.Q1 i) (h.Q2 i) (keyOf s p)).2.2 (keyOf s p)).2.1 (removeS (wakeS (h.Q1 i) (h.Q2 i) (keyOf s p)).2.1 (wakeS (h.Q1 i) (h.Q2 i) (keyOf s p)).2.2 (keyOf s p)).2.2 k1 k2) (U.erase x) ∧ NE S' := by
  -- another block that is used lies in another page
  have other : ∀ y, y ∈ U → y ≠ x → ∃ t ∈ h.S, ∃ r ∈ t.P, ∃ j, j < r.pg.made ∧ y = r.pg.f + j * r.pg.s ∧ y ∉ r.pg.free ++ r.pg.loc ∧ (t.pl ≠ s.pl ∨ r.at_ ≠ p.at_) := fun y hy hyx => by
    obtain ⟨t, ht, r, hr, j, hj, ey, hoy⟩ := I.use y hy
    refine ⟨t, ht, r, hr, j, hj, ey, hoy, ?_⟩
    by_cases e1 : t.pl = s.pl
    · have := pair_at (F := SegR.pl) K.pls ht hs e1
      subst this
      right
      intro e2
      have := pair_at (K.nod t ht) hr hp e2
      subst this
      have := (K.pag t ht r hr).1.used_two hq hj e ey (fun h => hyx h.symm) ho hoy
      omega
    · exact .inl e1
  have hlen : 0 < U.length := List.length_pos_of_mem hx
  have hcnt := I.cnt
  have hpos : ∀ {t : SegR} {r : PageR}, t ∈ h.S → r ∈ t.P → 1 ≤ r.pg.used := fun ht hr => I.pos _ ht _ hr
  have put : ∀ {t : SegR} {r : PageR}, t ∈ h.S → r ∈ t.P → (t.pl ≠ s.pl ∨ r.at_ ≠ p.at_) → ∃ c', rowIx r.cls = some c' ∧ (keyOf t r ∈ (({ h with S := S' } : HeapR).queued i (removeS (wakeS (h.Q1 i) (h.Q2 i) (keyOf s p)).2.1 (wakeS (h.Q1 i) (h.Q2 i) (keyOf s p)).2.2 (keyOf s p)).2.1 (removeS (wakeS (h.Q1 i) (h.Q2 i) (keyOf s p)).2.1 (wakeS (h.Q1 i) (h.Q2 i) (keyOf s p)).2.2 (keyOf s p)).2.2 k1 k2).Q1 c' ∨
      keyOf t r ∈ (({ h with S := S' } : HeapR).queued i (removeS (wakeS (h.Q1 i) (h.Q2 i) (keyOf s p)).2.1 (wakeS (h.Q1 i) (h.Q2 i) (keyOf s p)).2.2 (keyOf s p)).2.1 (removeS (wakeS (h.Q1 i) (h.Q2 i) (keyOf s p)).2.1 (wakeS (h.Q1 i) (h.Q2 i) (keyOf s p)).2.2 (keyOf s p)).2.2 k1 k2).Q2 c') := fun {t r} ht hr hne => by
    obtain ⟨c', e, hk⟩ := I.keys t ht r hr
    have hkne : keyOf t r ≠ keyOf s p := fun ek => by
      obtain ⟨rfl, rfl⟩ := K.key_inj ht hs hr hp ek
      rcases hne with h | h <;> exact h rfl
    refine ⟨c', e, ?_⟩
    by_cases ec : c' = i
    · subst ec
      rw [q1_queued, q2_queued]
      exact removeS_keep hkne (wakeS_mem.2 hk)
    · rw [show (({ h with S := S' } : HeapR).queued i (removeS (wakeS (h.Q1 i) (h.Q2 i) (keyOf s p)).2.1 (wakeS (h.Q1 i) (h.Q2 i) (keyOf s p)).2.2 (keyOf s p)).2.1 (removeS (wakeS (h.Q1 i) (h.Q2 i) (keyOf s p)).2.1 (wakeS (h.Q1 i) (h.Q2 i) (keyOf s p)).2.2 (keyOf s p)).2.2 k1 k2).Q1 c' = h.Q1 c' from updF_ne _ _ ec, show (({ h with S := S' } : HeapR).queued i (removeS (wakeS (h.Q1 i) (h.Q2 i) (keyOf s p)).2.1 (wakeS (h.Q1 i) (h.Q2 i) (keyOf s p)).2.2 (keyOf s p)).2.1 (removeS (wakeS (h.Q1 i) (h.Q2 i) (keyOf s p)).2.1 (wakeS (h.Q1 i) (h.Q2 i) (keyOf s p)).2.2 (keyOf s p)).2.2 k1 k2).Q2 c' = h.Q2 c' from updF_ne _ _ ec]
      exact hk
  rcases hend with ⟨hP, rfl, rfl⟩ | ⟨hP, rfl, j0, hj0, rfl⟩
  · have hmem := fun {t : SegR} (ht : t ∈ delPg s.pl p.at_ h.S) => delPg_mem K hs ht
    refine ⟨⟨?_, fun y hy => ?_, I.nod.erase x, fun t ht r hr => ?_, fun t ht r hr => ?_⟩, fun t ht => ?_⟩
    · have := usedS_del K hs hp
      rw [List.length_erase_of_mem hx]
      show U.length - 1 = usedS (delPg s.pl p.at_ h.S)
      omega
    · obtain ⟨hyU, hyx⟩ := mem_erase_nodup I.nod hy
      obtain ⟨t, ht, r, hr, j, hj, ey, hoy, hne⟩ := other y hyU hyx
      by_cases e1 : t.pl = s.pl
      · have := pair_at (F := SegR.pl) K.pls ht hs e1
        subst this
        exact ⟨_, mem_delPg ht p.at_, r, List.mem_filter.2 ⟨hr, noAt_iff.2 (hne.resolve_left (fun h => h rfl))⟩, j, hj, ey, hoy⟩
      · exact ⟨t, mem_delPg_other ht e1, r, hr, j, hj, ey, hoy⟩
    · rcases hmem ht with ⟨ht, _⟩ | rfl
      · exact hpos ht hr
      · exact hpos hs (List.mem_filter.1 hr).1
    · rcases hmem ht with ⟨ht, hne⟩ | rfl
      · exact put ht hr (.inl hne)
      · exact put (t := s) (r := r) hs (List.mem_filter.1 hr).1 (.inr (noAt_iff.1 (List.mem_filter.1 hr).2))
    · rcases hmem ht with ⟨ht, _⟩ | rfl
      · exact ne t ht
      · exact hP
  · have hU1 : usedP s.P = 1 := by
      have := usedP_del (K.nod s hs) hp
      rw [hP] at this
      simp [usedP] at this
      unfold usedP
      omega
    refine ⟨⟨?_, fun y hy => ?_, I.nod.erase x, fun t ht r hr => ?_, fun t ht r hr => ?_⟩, fun t ht => ?_⟩
    · have := usedS_lost K.pls hs
      rw [List.length_erase_of_mem hx]
      show U.length - 1 = usedS (h.S.filter (noPl s.pl))
      omega
    · obtain ⟨hyU, hyx⟩ := mem_erase_nodup I.nod hy
      obtain ⟨t, ht, r, hr, j, hj, ey, hoy, hne⟩ := other y hyU hyx
      by_cases e1 : t.pl = s.pl
      · have := pair_at (F := SegR.pl) K.pls ht hs e1
        subst this
        have : r ∈ t.P.filter (noAt p.at_) := List.mem_filter.2 ⟨hr, noAt_iff.2 (hne.resolve_left (fun h => h rfl))⟩
        rw [hP] at this
        cases this
      · exact ⟨t, List.mem_filter.2 ⟨ht, noPl_iff.2 e1⟩, r, hr, j, hj, ey, hoy⟩
    · exact hpos (List.mem_filter.1 ht).1 hr
    · exact put (List.mem_filter.1 ht).1 hr (.inl (noPl_iff.1 (List.mem_filter.1 ht).2))
    · exact ne t (List.mem_filter.1 ht).1

/-- What the arena holds: the heap's segments, and no more. -/
structure AInv (a : ArR) (S : List SegR) : Prop where
  seg : ArSeg a S
  tru : ∀ j, a.T j = true → ∃ s ∈ S, s.pl = j

theorem AInv.of_ka (K : KA n k r h a) (hn : n ≤ 64) (hl : h.S.length = k) (hp : h.S.Pairwise fun s t => s.pl ≠ t.pl) : AInv a h.S := by
  refine ⟨K.arSeg hn, fun j hj => ?_⟩
  rw [K.T] at hj
  have hjk : j < k := by simpa using hj
  refine Classical.byContradiction fun hno => ?_
  have := nodup_bound k (j :: h.S.map (·.pl)) (List.nodup_cons.2 ⟨fun hm => by
    obtain ⟨s, hs, e⟩ := List.mem_map.1 hm
    exact hno ⟨s, hs, e⟩, by rw [List.Nodup, List.pairwise_map]; exact hp⟩) (fun x hx => by
    rcases List.mem_cons.1 hx with rfl | hx
    · exact hjk
    · obtain ⟨s, hs, rfl⟩ := List.mem_map.1 hx
      exact K.pls s hs)
  simp at this
  omega

theorem AInv.set {pl at_ : Nat} {pg : Pg} (A : AInv a S) : AInv a (setPg pl at_ pg S) := ⟨A.seg.set, fun j hj => by
  obtain ⟨s, hs, e⟩ := A.tru j hj
  refine ⟨_, List.mem_map.2 ⟨s, hs, rfl⟩, ?_⟩
  split <;> exact e⟩

theorem AInv.ends {s : SegR} {at_ : Nat} {S' : List SegR} (A : AInv a S) (hp : S.Pairwise fun s t => s.pl ≠ t.pl) (hs : s ∈ S) (he : EndsAt a S s at_ S' a') : AInv a' S' ∧ a'.n = a.n := by
  rcases he with ⟨_, rfl, rfl⟩ | ⟨_, rfl, j0, hj0, rfl⟩
  · refine ⟨⟨⟨A.seg.srt, A.seg.rl, fun t ht => ?_⟩, fun j hj => ?_⟩, rfl⟩
    · obtain ⟨t0, ht0, rfl⟩ := List.mem_map.1 ht
      have := A.seg.own t0 ht0
      rw [delI_pl]
      exact this
    · obtain ⟨t, ht, e⟩ := A.tru j hj
      exact ⟨_, List.mem_map.2 ⟨t, ht, rfl⟩, by rw [delI_pl]; exact e⟩
  · refine ⟨⟨⟨fun i j x y hij hx hy => ?_, ?_, fun t ht => ?_⟩, fun j hj => ?_⟩, rfl⟩
    · rw [List.getElem?_eraseIdx] at hx hy
      split at hx <;> split at hy
      · exact A.seg.srt i j x y hij hx hy
      · exact A.seg.srt i (j + 1) x y (by omega) hx hy
      · omega
      · exact A.seg.srt (i + 1) (j + 1) x y (by omega) hx hy
    · show (a.R.eraseIdx j0).length ≤ 64
      have := List.length_eraseIdx_le a.R j0
      have := A.seg.rl
      omega
    · have hne := noPl_iff.1 (List.mem_filter.1 ht).2
      obtain ⟨h1, h2, h3⟩ := A.seg.own t (List.mem_filter.1 ht).1
      refine ⟨h1, ?_, ?_⟩
      · show setT a.T s.pl 1 false t.pl = true
        unfold setT
        rw [if_neg (by omega)]
        exact h2
      · obtain ⟨m, hm, em⟩ := List.mem_iff_getElem.1 h3
        have hmj : m ≠ j0 := fun e => by
          subst e
          rw [List.getElem?_eq_getElem hm, em] at hj0
          injection hj0 with hj0
          injection hj0 with hj0 _
          exact hne hj0
        show (t.pl, 1) ∈ a.R.eraseIdx j0
        rw [List.mem_eraseIdx_iff_getElem?]
        exact ⟨m, hmj, by rw [List.getElem?_eq_getElem hm, em]⟩
    · have hj' : setT a.T s.pl 1 false j = true := hj
      unfold setT at hj'
      split at hj'
      · cases hj'
      · rename_i hn
        obtain ⟨t, ht, e⟩ := A.tru j hj'
        exact ⟨t, List.mem_filter.2 ⟨ht, noPl_iff.2 (by omega)⟩, e⟩

/-- With nothing used there is nothing. -/
theorem BInv.none (I : BInv h []) (ne : NE h.S) : h.S = [] := by
  cases hS : h.S with
  | nil => rfl
  | cons s r =>
    exfalso
    have hs : s ∈ h.S := by rw [hS]; simp
    cases hP : s.P with
    | nil => exact ne s hs hP
    | cons p t =>
      have h1 := I.pos s hs p (by rw [hP]; simp)
      have h2 := I.cnt
      rw [hS] at h2
      simp [usedS, usedP, hP] at h2
      omega
theorem AInv.none (A : AInv a []) : freeN a.T a.n = a.n := by
  have : a.T = fun _ => false := by
    funext j
    cases hj : a.T j with
    | false => rfl
    | true =>
      obtain ⟨s, hs, _⟩ := A.tru j hj
      cases hs
  rw [this]
  simp [freeN]
end Go.Proofs.YtbljphaklciinaaGreat

/- Layer 12 (heap): at. -/
namespace Go.Proofs.YtbljphaklciinaaGreat
open Go.RowKit
variable {ro ro' : Nat → Role} {hn : Nat} {w w' : World} {B bm bb sz : Nat} {f g : Nat → Nat} {h : HeapR} {X : Role → Prop}

set_option maxRecDepth 100000 in
theorem at1_any {bs bk bt pl : Nat} {T : Nat → Bool} {O : Nat → Option Nat} {x t a : Int} (h : SegAt w bs bk bt bm pl T O x t a) {xc : Nat} {place : Int} (hx : w.cell? ⟨xc, 0, none⟩ = some (.int .i64 place)) :
    Calls Tryz.prog 100 #[.pointer (some ⟨bs, 0, none⟩), .pointer (some ⟨xc, 0, none⟩)] w fun e w' => e = .returned (.bool (decide ((pl : Int) = place))) ∧ ∃ k, w' = w.drewN k := by
  have HP : Hid (∀ z, Calls Tryz.prog 25 #[.pointer (some ⟨bs, 0, none⟩)] (w.drewN z) fun e w' => e = .returned (.int .i64 pl) ∧ w' = w.drewN z) := fun z => segPlace (h.stays (w' := w.drewN z) rfl rfl rfl)
  clear h
  go_enter Tryz.func100, Tryz.ntmps100
  go_wp2_with fail
  go_quiet ((first | (go_at_call 25; exact Calls.quiet_of_same (HP.out _)) | fail))
  go_wp2_with fail
  go_ret
  have eb : ((pl : Int) == place) = decide ((pl : Int) = place) := by
    by_cases e : (pl : Int) = place <;> simp [e]
  exact ⟨by rw [← eb]; rfl, nq, rfl⟩

/-- Which of a heap's segments stands at a place. -/
def AtPl (S : List SegR) (place : Int) (e : Ending) : Prop := (∃ i s, S[i]? = some s ∧ (s.pl : Int) = place ∧ e = .returned (.int .i64 (i : Nat))) ∨ ((∀ s ∈ S, (s.pl : Int) ≠ place) ∧ e = .returned (.int .i64 (-1)))

set_option maxRecDepth 100000 in
set_option maxHeartbeats 2000000 in
theorem indexfunc_at (H : HeapAt ro hn w B bm sz f h) {A : Option Addr} {c : Nat} (hcs : ∀ k u, (segP h.S)[k]? = some u → ∃ g, A = some ⟨g, 0, none⟩ ∧ w.cell? ⟨g, k, none⟩ = some u) {xc : Nat} {place : Int} (hx : w.cell? ⟨xc, 0, none⟩ = some (.int .i64 place)) :
    Calls Tryz.prog 99 #[.slice A h.S.length c, .func (.func 100) #[] #[.pointer (some ⟨xc, 0, none⟩)]] w fun e w' => AtPl h.S place e ∧ Below w.heap.size w w' := by
  have HH := Lib.hid H
  have HCS := Lib.hid hcs
  have HX := Lib.hid hx
  have hlen := H.len
  clear H hcs hx
  go_enter Tryz.func99, Tryz.ntmps99
  go_wp2_with fail
  go_loopw [8] (fun ix wr => ∃ k : Nat, k ≤ h.S.length ∧ ix = .int .i64 k ∧ Hid (Below w.heap.size w wr) ∧ Hid (∀ j s, j < k → h.S[j]? = some s → (s.pl : Int) ≠ place)) (fun ix _ => h.S.length - (intOf ix).toNat)
  case atStart => exact ⟨0, by omega, rfl, Below.refl _ _, fun j s hj => by omega⟩
  case round =>
    obtain ⟨k, hk, rfl, HB, HN⟩ := hrel
    by_cases hlt : k < h.S.length
    · obtain ⟨s, hs⟩ : ∃ s, h.S[k]? = some s := ⟨_, List.getElem?_eq_getElem hlt⟩
      have hsm := List.mem_of_getElem? hs
      obtain ⟨gg, rfl, hcell⟩ := HCS.out k (.pointer (some ⟨s.bs, 0, none⟩)) (by simp [segP, hs])
      have hcell' := (HB.out.cell (p := ⟨gg, k, none⟩) (World.block_lt_of_cell? _ _ hcell)).trans hcell
      have HD := Lib.hid (at1_any ((HH.out.below HB.out).segs s hsm).seg ((HB.out.cell (p := ⟨xc, 0, none⟩) (World.block_lt_of_cell? _ _ HX.out)).trans HX.out))
      have HS := Lib.hid hs
      clear hs hsm hcell
      go_wp2_with fail
      (with_reducible refine HD.out.mono ?_)
      rintro e w2 ⟨rfl, kk, hw2⟩
      have HB2 : Hid (Below w.heap.size w w2) := by rw [hw2]; exact below_drewN HB.out kk
      clear hw2 HD hcell'
      by_cases e : (s.pl : Int) = place
      · have HE := Lib.hid e
        rw [decide_eq_true e]
        clear e
        go_wp2_with fail
        go_ret
        exact ⟨.inl ⟨k, s, HS.out, HE.out, rfl⟩, HB2.out⟩
      · have HE := Lib.hid e
        rw [decide_eq_false e]
        clear e
        go_wp2_with fail
        go_roundw
        case rel =>
          refine ⟨k + 1, by omega, by go_num, HB2, fun j t hj ht => ?_⟩
          rcases Nat.lt_or_ge j k with h1 | h1
          · exact HN.out j t h1 ht
          · obtain rfl : j = k := by omega
            rw [HS.out] at ht
            injection ht with ht
            rw [← ht]
            exact HE.out
        case measure => simp [intOf]; omega
    · obtain rfl : k = h.S.length := by omega
      go_wp2_with fail
      go_ret
      refine ⟨.inr ⟨fun s hs => ?_, rfl⟩, HB.out⟩
      obtain ⟨j, hj, rfl⟩ := List.mem_iff_getElem.1 hs
      exact HN.out j _ hj (List.getElem?_eq_getElem hj)

set_option maxRecDepth 100000 in
set_option maxHeartbeats 2000000 in
theorem at_any (H : HeapAt ro hn w B bm sz f h) (place : Int) : Calls Tryz.prog 59 #[.pointer (some ⟨h.bh, 0, none⟩), .int .i64 place] w fun e w' => AtPl h.S place e ∧ Below w.heap.size w w' := by
  obtain ⟨v, hv, ho, hg⟩ := H.c29
  obtain ⟨A, c, rfl, _, _, hcs⟩ := own_at ho
  obtain ⟨w0, hw0⟩ : ∃ w0, w0 = w.alloc (.cells #[.int .i64 place] 3) := ⟨_, rfl⟩
  have B0 : Below w.heap.size w w0 := by rw [hw0]; exact (Below.refl _ _).alloc (Nat.le_refl _) _
  have x0 : w0.cell? ⟨w.heap.size, 0, none⟩ = some (.int .i64 place) := by
    rw [hw0]
    have := (Obj_.new w #[.int .i64 place] 3).cell 0 (by simp)
    rw [Nat.zero_add] at this
    exact this
  have hbh := H.lt_h
  have v0 := (B0.cell (p := ⟨h.bh, 29, none⟩) hbh).trans hv
  have HIX := Lib.hid (indexfunc_at (c := c) (H.below B0) (fun k u hu => by obtain ⟨g, e, hc⟩ := hcs k u hu; exact ⟨g, e, (B0.cell (p := ⟨g, k, none⟩) (World.block_lt_of_cell? _ _ hc)).trans hc⟩) x0)
  have HB0 := Lib.hid B0
  have HW0 := Lib.hid hw0
  clear H ho hg hcs B0 x0 hw0
  go_enter Tryz.func59, Tryz.ntmps59
  go_wp2_with fail
  rw [← HW0.out]
  (with_reducible refine HIX.out.mono ?_)
  rintro e w2 ⟨ha, hb⟩
  have HA := Lib.hid ha
  have HB := Lib.hid hb
  obtain ⟨r, rfl⟩ : ∃ r : Int, e = .returned (.int .i64 r) := by
    rcases ha with ⟨i, s, _, _, rfl⟩ | ⟨_, rfl⟩
    · exact ⟨_, rfl⟩
    · exact ⟨_, rfl⟩
  clear ha hb HIX v0 hv
  go_wp2_with fail
  go_ret
  exact ⟨HA.out, HB0.out.trans (HB.out.mono HB0.out.size)⟩
end Go.Proofs.YtbljphaklciinaaGreat

/- Layer 12 (heap): plain: a segment's pages in their order; queues without some of them. -/
namespace Go.Proofs.YtbljphaklciinaaGreat
open Go.RowKit
variable {ro ro' : Nat → Role} {hn : Nat} {w w' : World} {B bm bb sz : Nat} {f g : Nat → Nat} {h h' : HeapR} {X : Role → Prop}

/-- A segment's pages, in their order. -/
def pgsOf (P : List PageR) : List PageR := (List.range 16).filterMap fun j => P.find? fun q => decide (q.at_ = j)
theorem begins_pgs (P : List PageR) : beginsP (startsD P) 16 = (pgsOf P).map fun p => .pointer (some ⟨p.bo, 0, none⟩) := by
  unfold beginsP pgsOf
  have : (List.range 16).filterMap (startsD P) = ((List.range 16).filterMap fun j => P.find? fun q => decide (q.at_ = j)).map (·.bo) := by
    rw [List.map_filterMap]
    rfl
  rw [this, List.map_map]
  rfl
theorem SegOk.mem_pgs {s : SegR} (hs : SegOk ro w bm sz f s) {p : PageR} : p ∈ pgsOf s.P ↔ p ∈ s.P := by
  unfold pgsOf
  rw [List.mem_filterMap]
  constructor
  · rintro ⟨j, _, e⟩
    exact List.mem_of_find?_eq_some e
  · intro hp
    have h1 := (hs.pages p hp).fit
    have h2 := (hs.pages p hp).s1
    refine ⟨p.at_, by simp; omega, ?_⟩
    cases hF : s.P.find? (fun q => decide (q.at_ = p.at_)) with
    | none =>
      rw [List.find?_eq_none] at hF
      exact absurd (by simp) (hF p hp)
    | some q =>
      have hq := List.mem_of_find?_eq_some hF
      have eq := List.find?_some hF
      simp only [decide_eq_true_eq] at eq
      rw [hs.page_at hq hp eq]

/-- What a call on a heap's queues may turn. -/
def hpQ (hn : Nat) (r : Role) : Prop := r = .heap hn ∨ ∃ c i, r = .row hn c i

theorem Hp.queuedQ (H : Hp ro hn w B bm bb sz f h) {c : Nat} (hc : c < 13) {R F : List Int} (ht : QTo w w' B h.bh (2 * c) (h.g1 c) (h.g2 c) R F) (ho : QOnce R F)
    (hl : ∀ k, k ∈ R ∨ k ∈ F → ∃ s ∈ h.S, ∃ p ∈ s.P, k = ((s.pl * 16 + p.at_ : Nat) : Int) ∧ rowIx p.cls = some c) :
    ∃ ro' k1 k2, (∀ k, k < w.heap.size → ro' k = ro k) ∧ Hp ro' hn w' B bm bb sz f (h.queued c R F k1 k2) ∧ RFr ro w w' (hpQ hn) := by
  obtain ⟨ro', k1, k2, e, hh, hr⟩ := H.hp.queued hc ht ho hl
  have hlm := H.mem.lt_bm
  have hlb := H.mem.lt_bb
  exact ⟨ro', k1, k2, e, ⟨hh, H.mem.stays (hr.block bm hlm (by rw [H.rm]; rintro (h | ⟨i, h⟩) <;> cases h)) (hr.block bb hlb (by rw [H.rb]; rintro (h | ⟨i, h⟩) <;> cases h)), (e bm hlm).trans H.rm, (e bb hlb).trans H.rb, Nat.le_trans H.b hr.size⟩, hr.mono (by
    rintro r (h | ⟨i, h⟩)
    · exact .inl h
    · exact .inr ⟨c, i, h⟩)⟩

/-- A heap whose queues lack some numbers. -/
structure RemQ (h h' : HeapR) (L : List Int) : Prop where
  bh : h'.bh = h.bh
  ba : h'.ba = h.ba
  id : h'.id = h.id
  S : h'.S = h.S
  q : ∀ c, c < 13 → ∀ y, y ∈ h'.Q1 c ∨ y ∈ h'.Q2 c ↔ (y ∈ h.Q1 c ∨ y ∈ h.Q2 c) ∧ y ∉ L
theorem RemQ.refl (h : HeapR) : RemQ h h [] := ⟨rfl, rfl, rfl, rfl, fun c _ y => by simp⟩

theorem RemQ.step {L : List Int} (R : RemQ h h' L) (H : HeapAt ro hn w B bm sz f h') {s : SegR} {p : PageR} (hs : s ∈ h'.S) (hp : p ∈ s.P) {i : Nat} (hi : i < 13) (hr : rowIx p.cls = some i) {k1 k2 : Option Nat} :
    RemQ h (h'.queued i (removeS (h'.Q1 i) (h'.Q2 i) ((s.pl * 16 + p.at_ : Nat) : Int)).2.1 (removeS (h'.Q1 i) (h'.Q2 i) ((s.pl * 16 + p.at_ : Nat) : Int)).2.2 k1 k2) (L ++ [((s.pl * 16 + p.at_ : Nat) : Int)]) := by
  refine ⟨R.bh, R.ba, R.id, R.S, fun c hc13 y => ?_⟩
  have hgone := H.key_gone hs hp hr (removeS_out (H.qo i hi) _) (k1 := k1) (k2 := k2)
  constructor
  · intro hy
    have hyk : y ≠ ((s.pl * 16 + p.at_ : Nat) : Int) := fun e => hgone c hc13 (e ▸ hy)
    have hold : y ∈ h'.Q1 c ∨ y ∈ h'.Q2 c := by
      by_cases e : c = i
      · subst e
        rw [show (h'.queued c _ _ k1 k2).Q1 c = _ from updF_same _ _ _, show (h'.queued c _ _ k1 k2).Q2 c = _ from updF_same _ _ _] at hy
        exact removeS_sub hy
      · rw [show (h'.queued i _ _ k1 k2).Q1 c = h'.Q1 c from updF_ne _ _ e, show (h'.queued i _ _ k1 k2).Q2 c = h'.Q2 c from updF_ne _ _ e] at hy
        exact hy
    have := (R.q c hc13 y).1 hold
    exact ⟨this.1, fun hm => by
      rcases List.mem_append.1 hm with h1 | h1
      · exact this.2 h1
      · exact hyk (by simpa using h1)⟩
  · rintro ⟨h1, h2⟩
    rw [List.mem_append, not_or] at h2
    have hyk : y ≠ ((s.pl * 16 + p.at_ : Nat) : Int) := by simpa using h2.2
    have hold := (R.q c hc13 y).2 ⟨h1, h2.1⟩
    by_cases e : c = i
    · subst e
      rw [show (h'.queued c _ _ k1 k2).Q1 c = _ from updF_same _ _ _, show (h'.queued c _ _ k1 k2).Q2 c = _ from updF_same _ _ _]
      unfold removeS
      split
      · exact hold.imp (fun h => (List.mem_erase_of_ne hyk).2 h) (fun h => h)
      · split
        · exact hold.imp (fun h => h) (fun h => (List.mem_erase_of_ne hyk).2 h)
        · exact hold
    · rw [show (h'.queued i _ _ k1 k2).Q1 c = h'.Q1 c from updF_ne _ _ e, show (h'.queued i _ _ k1 k2).Q2 c = h'.Q2 c from updF_ne _ _ e]
      exact hold
end Go.Proofs.YtbljphaklciinaaGreat

/- Layer 12 (heap): Leave. -/
namespace Go.Proofs.YtbljphaklciinaaGreat
open Go.RowKit
variable {ro ro' : Nat → Role} {hn : Nat} {w w' : World} {B bm bb sz : Nat} {f g : Nat → Nat} {h h' : HeapR} {X : Role → Prop}

/-- What Leave, Adopt may turn. -/
def hpL (hn : Nat) (r : Role) : Prop := hpQ hn r ∨ r = .segs hn

theorem Hp.removeQ_to (H : Hp ro hn w B bm bb sz f h) {i : Nat} (hi : i < 13) (x : Int) (ht : QTo (w.alloc (.cells #[.int .i64 x] 3)) w' B h.bh (2 * i) (h.g1 i) (h.g2 i) (removeS (h.Q1 i) (h.Q2 i) x).2.1 (removeS (h.Q1 i) (h.Q2 i) x).2.2) :
    ∃ ro' k1 k2, (∀ k, k < w.heap.size → ro' k = ro k) ∧ Hp ro' hn w' B bm bb sz f (h.queued i (removeS (h.Q1 i) (h.Q2 i) x).2.1 (removeS (h.Q1 i) (h.Q2 i) x).2.2 k1 k2) ∧ RFr ro w w' (hpQ hn) := by
  have B5 : Below w.heap.size w (w.alloc (.cells #[.int .i64 x] 3)) := (Below.refl _ _).alloc (Nat.le_refl _) _
  obtain ⟨ro6, k1, k2, e6, H6, r6⟩ := (H.below B5).queuedQ hi ht ((H.hp.qo i hi).remove _) (fun y hy => H.hp.link i hi y (removeS_sub hy))
  exact ⟨ro6, k1, k2, fun k hk => e6 k (Nat.lt_of_lt_of_le hk B5.size), H6, (RFr.of_below B5).over (fun _ _ => rfl) r6⟩

set_option maxRecDepth 100000 in
set_option maxHeartbeats 1000000 in
theorem leave_none (H : HeapAt ro hn w B bm sz f h) {place : Int} (hno : ∀ s ∈ h.S, (s.pl : Int) ≠ place) : Calls Tryz.prog 24 #[.pointer (some ⟨h.bh, 0, none⟩), .int .i64 place] w fun e w' => e = .returned (.tuple #[.pointer none, .int .i64 5]) ∧ Below w.heap.size w w' := by
  have HA := Lib.hid (at_any H place)
  have HN := Lib.hid hno
  clear H hno
  go_enter Tryz.func24, Tryz.ntmps24
  go_wp2_with fail
  (with_reducible refine HA.out.mono ?_)
  rintro e w1 ⟨ha, hb⟩
  rcases ha with ⟨i, s, hs, e1, _⟩ | ⟨_, rfl⟩
  · exact absurd e1 (HN.out s (List.mem_of_getElem? hs))
  · have HB := Lib.hid hb
    clear hb HA
    go_wp2_with fail
    go_ret2
    exact ⟨rfl, HB.out⟩

theorem rowIx_some {c : Int} (h0 : -1 ≤ c) (h1 : c < 12) : ∃ i, i < 13 ∧ rowIx c = some i := by
  unfold rowIx
  by_cases e : c = -1
  · exact ⟨12, by omega, by rw [if_pos e]⟩
  · exact ⟨c.toNat, by omega, by rw [if_neg e, if_pos (by omega)]⟩

/-- A heap without one segment, whose pages' numbers are in no queue. -/
theorem Hp.left (H : Hp ro hn w B bm bb sz f h) (hf : RFr ro w w' (hpD hn)) {v : Value} {s : SegR} (hs : s ∈ h.S) (hq : ∀ c, c < 13 → ∀ p ∈ s.P, ¬ (((s.pl * 16 + p.at_ : Nat) : Int) ∈ h.Q1 c ∨ ((s.pl * 16 + p.at_ : Nat) : Int) ∈ h.Q2 c)) (hself : w'.heap[h.bh]? = (w.setCell ⟨h.bh, 29, none⟩ v).heap[h.bh]?)
    (ho : w'.ownsRow B 60 1 v (h.S.filter (noPl s.pl)).length (segP (h.S.filter (noPl s.pl)))) (hg : v.ownBlock = h.gs) : Hp ro hn w' B bm bb sz f { h with S := h.S.filter (noPl s.pl) } := by
  refine ⟨H.hp.fewer hf hself ho hg List.filter_sublist (fun c hc k hk => ?_), H.mem.stays (hf.block bm H.mem.lt_bm (by rw [H.rm]; rintro (h | h) <;> cases h)) (hf.block bb H.mem.lt_bb (by rw [H.rb]; rintro (h | h) <;> cases h)), H.rm, H.rb, Nat.le_trans H.b hf.size⟩
  obtain ⟨t, ht, q, hq', e, hr⟩ := H.hp.link c hc k hk
  refine ⟨t, List.mem_filter.2 ⟨ht, noPl_iff.2 fun ep => ?_⟩, q, hq', e, hr⟩
  have := H.hp.seg_at ht hs ep
  subst this
  exact hq c hc q hq' (e ▸ hk)

/-- What Leave leaves. -/
def LeaveTo (ro : Nat → Role) (hn : Nat) (w : World) (B bm bb sz : Nat) (f : Nat → Nat) (h : HeapR) (s : SegR) (w' : World) : Prop :=
  ∃ ro' h', (∀ k, k < w.heap.size → ro' k = ro k) ∧ RFr ro w w' (hpL hn) ∧ Hp ro' hn w' B bm bb sz f { h' with S := h.S.filter (noPl s.pl) } ∧ RemQ h h' ((pgsOf s.P).map fun p => ((s.pl * 16 + p.at_ : Nat) : Int)) ∧ SegOk ro' w' bm sz f s

set_option maxRecDepth 100000 in
set_option maxHeartbeats 8000000 in
theorem leave_ok (H : Hp ro hn w B bm bb sz f h) {s : SegR} (hs : s ∈ h.S) : Calls Tryz.prog 24 #[.pointer (some ⟨h.bh, 0, none⟩), .int .i64 s.pl] w fun e w' => e = .returned (.tuple #[.pointer (some ⟨s.bs, 0, none⟩), .int .i64 0]) ∧ LeaveTo ro hn w B bm bb sz f h s w' := by
  have HA := Lib.hid (at_any H.hp (s.pl : Int))
  have HH := Lib.hid H
  have HS := Lib.hid hs
  have hlen := H.hp.len
  clear H hs
  go_enter Tryz.func24, Tryz.ntmps24
  go_wp2_with fail
  (with_reducible refine HA.out.mono ?_)
  rintro e w1 ⟨ha, hb⟩
  rcases ha with ⟨i, s', hs', e1, rfl⟩ | ⟨hno, _⟩
  · have es := HH.out.hp.seg_at (List.mem_of_getElem? hs') HS.out (by omega)
    subst es
    have hil := (List.getElem?_eq_some_iff.1 hs').1
    have HH1 := Lib.hid (HH.out.below hb)
    obtain ⟨v, hv, ho, hg⟩ := HH1.out.hp.c29
    obtain ⟨A, c, rfl, hc1, hc2, hcs⟩ := own_at ho
    obtain ⟨gg, rfl, hcell⟩ := hcs i (.pointer (some ⟨s'.bs, 0, none⟩)) (by simp [segP, hs'])
    have hso := HH1.out.hp.segs s' HS.out
    have HPG : Hid (Calls Tryz.prog 60 #[.pointer (some ⟨s'.bs, 0, none⟩)] w1 (NewOwn w1 ((pgsOf s'.P).map fun p => .pointer (some ⟨p.bo, 0, none⟩)))) := by
      have := segPages_ok hso.seg hso.begins
      rw [begins_pgs] at this
      exact this
    have HB := Lib.hid hb
    clear hb ho hg hcs hso hs' e1 HA
    go_wp2_with fail
    (with_reducible refine HPG.out.mono ?_)
    rintro e w2 ⟨v2, rfl, ho2, hb2⟩
    obtain ⟨A2, c2, rfl, hd1, hd2, hcs2⟩ := own_at ho2
    obtain ⟨NP, hNP⟩ : ∃ NP, NP = (pgsOf s'.P).length := ⟨_, rfl⟩
    have hNP16 : NP ≤ 16 := by
      rw [hNP]
      unfold pgsOf
      have := List.length_filterMap_le (fun j => s'.P.find? fun q => decide (q.at_ = j)) (List.range 16)
      rw [List.length_range] at this
      exact this
    rw [List.length_map, ← hNP] at hd1 ⊢
    have HCS2 := Lib.hid hcs2
    have HAB : Hid (∀ g, A2 = some ⟨g, 0, none⟩ → w1.heap.size ≤ g ∧ g < w2.heap.size) := fun g e => ho2.lt g (by rw [e]; rfl)
    have HB2 := Lib.hid hb2
    have er2 : ∀ k, k < w1.heap.size → cutR ro w1.heap.size k = ro k := fun k hk => if_pos hk
    have HH2 : Hid (Hp (cutR ro w1.heap.size) hn w2 B bm bb sz f h) := (show Hp (cutR ro w1.heap.size) hn w1 B bm bb sz f h from ⟨HH1.out.hp.role er2, HH1.out.mem, (er2 _ HH1.out.mem.lt_bm).trans HH1.out.rm, (er2 _ HH1.out.mem.lt_bb).trans HH1.out.rb, HH1.out.b⟩).below hb2
    have HE2 := Lib.hid er2
    have HO2 : Hid (∀ k, w1.heap.size ≤ k → cutR ro w1.heap.size k = .other) := fun k hk => if_neg (by omega)
    have HNP := Lib.hid hNP
    generalize cutR ro w1.heap.size = ro2 at *
    clear ho2 hb2 hcs2 er2 hNP HPG hv hcell
    go_wp2_with fail
    go_loopw [27] (fun ix wr => ∃ (k : Nat) (ro' : Nat → Role) (h' : HeapR), k ≤ NP ∧ ix = .int .i64 k ∧ Hid (∀ q, q < w2.heap.size → ro' q = ro2 q) ∧ Hid (Hp ro' hn wr B bm bb sz f h') ∧ Hid (RFr ro2 w2 wr (hpQ hn)) ∧ Hid (RemQ h h' (((pgsOf s'.P).take k).map fun p => ((s'.pl * 16 + p.at_ : Nat) : Int)))) (fun ix _ => NP - (intOf ix).toNat)
    case atStart => exact ⟨0, ro2, h, by omega, rfl, fun _ _ => rfl, HH2.out, RFr.of_below (Below.refl _ _), RemQ.refl h⟩
    case round =>
      obtain ⟨k, ro', h', hk, rfl, HRO, HP, HRF, HRQ⟩ := hrel
      have hsS : s' ∈ h'.S := by rw [HRQ.out.S]; exact HS.out
      have hbh : h'.bh = h.bh := HRQ.out.bh
      by_cases hlt : k < NP
      · obtain ⟨p, hp⟩ : ∃ p, (pgsOf s'.P)[k]? = some p := ⟨_, List.getElem?_eq_getElem (by rw [← HNP.out]; exact hlt)⟩
        have hso := HP.out.hp.segs s' hsS
        have hpm := hso.mem_pgs.1 (List.mem_of_getElem? hp)
        have hpo := hso.pages p hpm
        obtain ⟨g2, rfl, hcell2⟩ := HCS2.out k (.pointer (some ⟨p.bo, 0, none⟩)) (by rw [List.getElem?_map, hp]; rfl)
        have hcw : wr.cell? ⟨g2, k, none⟩ = some (.pointer (some ⟨p.bo, 0, none⟩)) := (World.cell?_of_block (a := ⟨g2, k, none⟩) (HRF.out.block g2 (HAB.out g2 rfl).2 (by rw [HO2.out g2 (HAB.out g2 rfl).1]; rintro (h | ⟨_, _, h⟩) <;> cases h))).trans hcell2
        obtain ⟨i2, hi2, hr2⟩ := rowIx_some hpo.c0 hpo.c1
        have hc0 := hpo.c0
        have hc1 := hpo.c1
        have hfit := hpo.fit
        have hs1 := hpo.s1
        have o1 : wr.cell? ⟨p.bo, 1, none⟩ = some (.int .i64 p.cls) := HP.out.own1 hsS hpm
        have hbo := Obj_.lt hpo.own (by omega)
        have HR := Lib.hid (row_any wr.drew h.bh p.cls (by omega) (by omega))
        rw [hr2] at HR
        simp only [Option.map_some] at HR
        have HK := Lib.hid (key_any (hso.seg.stays (w' := wr.drew) rfl rfl rfl) (Obj_.of_block hpo.own (w' := wr.drew) rfl) (by omega))
        obtain ⟨key, hkey⟩ : ∃ key : Nat, key = s'.pl * 16 + p.at_ := ⟨_, rfl⟩
        rw [← hkey] at HK
        have HKY := Lib.hid hkey
        have HSS := Lib.hid hsS
        have HPM := Lib.hid hpm
        have HPK := Lib.hid hp
        have HROW := Lib.hid hr2
        have HBH := Lib.hid hbh
        have KG3 : Hid (wr.drew.cell? ⟨p.bo, 1, none⟩ = some (.int .i64 p.cls)) := o1
        have HO1 := Lib.hid o1
        clear hsS hso hpm hpo hcell2 hp hr2 hkey hbh
        go_wp2_with fail
        go_region_held3 (fun w' => w'.cell? ⟨p.bo, 1, none⟩ = some (.int .i64 p.cls))
          (first | exact KG3.out | exact KG4.out | exact KG5.out | exact KG6.out | go_keep | fail)
          (first
            | (go_at_call 39; refine HR.out.mono ?_; rintro e wx ⟨rfl, rfl⟩)
            | (go_at_call 47
               refine HK.out.mono ?_
               rintro e w4 ⟨rfl, kk, hw4⟩
               have B4 : Hid (Below wr.heap.size wr w4) := by rw [hw4]; exact below_drewN (below_drew (Below.refl _ _)) kk
               have HP4 := Lib.hid (HP.out.below B4.out)
               have HRM := Lib.hid (HP4.out.remove1 hi2 (key : Int))
               rw [HBH.out] at HRM
               have KG4 : Hid (w4.cell? ⟨p.bo, 1, none⟩ = some (.int .i64 p.cls)) := by rw [hw4]; exact HO1.out
               have KG5 : Hid ((w4.alloc (.cells #[.int .i64 (key : Int)] 3)).cell? ⟨p.bo, 1, none⟩ = some (.int .i64 p.cls)) := (World.cell?_alloc_lt w4 _ ⟨p.bo, 1, none⟩ (Nat.lt_of_lt_of_le hbo B4.out.size)).trans KG4.out
               clear hw4)
            | (go_at_call 61
               (with_reducible refine HRM.out.mono ?_)
               rintro e w6 ⟨rfl, hq6⟩
               rw [← HBH.out] at hq6
               obtain ⟨ro6, k1, k2, e6, H6, r6⟩ := HP4.out.removeQ_to hi2 _ hq6
               have HE6 := Lib.hid e6
               have HH6 := Lib.hid H6
               have HR6 := Lib.hid r6
               have KG6 : Hid (w6.cell? ⟨p.bo, 1, none⟩ = some (.int .i64 p.cls)) := H6.own1 HSS.out HPM.out
               clear hq6 e6 H6 r6)
            | fail)
        have z4 := B4.out.size
        have zr := HRF.out.size
        have HEN : Hid (∀ q, q < w2.heap.size → ro6 q = ro2 q) := fun q hq => (HE6.out q (by omega)).trans (HRO.out q hq)
        have HRN : Hid (RFr ro2 w2 w6 (hpQ hn)) := (HRF.out.over HRO.out (RFr.of_below B4.out)).over HRO.out HR6.out
        have HRQ6 : Hid (RemQ h (h'.queued i2 (removeS (h'.Q1 i2) (h'.Q2 i2) (key : Int)).2.1 (removeS (h'.Q1 i2) (h'.Q2 i2) (key : Int)).2.2 k1 k2) (((pgsOf s'.P).take (k + 1)).map fun p => ((s'.pl * 16 + p.at_ : Nat) : Int))) := by
          have hkk := HKY.out
          subst hkk
          have := HRQ.out.step HP.out.hp HSS.out HPM.out hi2 HROW.out (k1 := k1) (k2 := k2)
          rw [List.take_add_one, HPK.out, List.map_append]
          exact this
        generalize (removeS (h'.Q1 i2) (h'.Q2 i2) (key : Int)).1 = rc at *
        clear HR HK KG3 KG4 KG5 KG6 HRM HR6 HE6 z4 zr
        go_wp2_with fail
        go_roundw
        case rel => exact ⟨k + 1, ro6, _, by omega, by go_num, HEN, HH6, HRN, HRQ6⟩
        case measure => simp [intOf]; omega
      · obtain rfl : k = NP := by omega
        have HDP := Lib.hid (drop_any HP.out.hp hsS)
        rw [hbh] at HDP
        have HSS := Lib.hid hsS
        have HBH := Lib.hid hbh
        clear hsS hbh
        go_wp2_with fail
        (with_reducible refine HDP.out.mono ?_)
        rintro e w9 ⟨rfl, vv, hf9, hself9, ho9, hg9⟩
        have HF9 := Lib.hid hf9
        have H9 : Hid (Hp ro' hn w9 B bm bb sz f { h' with S := h'.S.filter (noPl s'.pl) }) := by
          refine HP.out.left hf9 HSS.out (fun c hc p hp hk => ?_) hself9 ho9 hg9
          have h1 := ((HRQ.out.q c hc _).1 hk).2
          refine h1 (List.mem_map.2 ⟨p, ?_, rfl⟩)
          rw [List.take_of_length_le (by rw [HNP.out]; exact Nat.le_refl _)]
          exact (HP.out.hp.segs s' HSS.out).mem_pgs.2 hp
        clear hf9 hself9 ho9 hg9 HDP
        go_wp2_with fail
        go_ret2
        have h9 := H9.out
        rw [HRQ.out.S] at h9
        have hrq := HRQ.out
        rw [List.take_of_length_le (by rw [HNP.out]; exact Nat.le_refl _)] at hrq
        have e1 : ∀ q, q < w.heap.size → ro' q = ro q := fun q hq => (HRO.out q (Nat.lt_of_lt_of_le hq (Nat.le_trans HB.out.size HB2.out.size))).trans (HE2.out q (Nat.lt_of_lt_of_le hq HB.out.size))
        have r1 : RFr ro w w2 (hpL hn) := (RFr.of_below HB.out : RFr ro w w1 (hpL hn)).over (fun _ _ => rfl) (RFr.of_below HB2.out)
        have e2 : ∀ q, q < w.heap.size → ro2 q = ro q := fun q hq => HE2.out q (Nat.lt_of_lt_of_le hq HB.out.size)
        refine ⟨rfl, ro', h', e1, (r1.over e2 (HRF.out.mono fun r h => .inl h)).over e1 (HF9.out.mono fun r h => by
          rcases h with h | h
          · exact .inl (.inl h)
          · exact .inr h), h9, hrq, (HP.out.hp.segs s' HSS.out).fr HF9.out (by rintro (e | e) <;> cases e) (by rintro (e | e) <;> cases e) (by rintro (e | e) <;> cases e) (fun p _ => ⟨(by rintro (e | e) <;> cases e), (by rintro (e | e) <;> cases e)⟩)⟩
  · exact absurd rfl (hno s HS.out)
end Go.Proofs.YtbljphaklciinaaGreat

/- Layer 12 (heap): Adopt. -/
namespace Go.Proofs.YtbljphaklciinaaGreat
open Go.RowKit
variable {ro ro' : Nat → Role} {hn : Nat} {w w' : World} {B bm bb sz : Nat} {f g : Nat → Nat} {h h' : HeapR} {X : Role → Prop}

/-- Roles with what is new the row of segments. -/
def roSegs (ro : Nat → Role) (N hn : Nat) (k : Nat) : Role := if k < N then ro k else .segs hn

theorem Hp.appended (H : Hp ro hn w B bm bb sz f h) {s : SegR} (hs : SegOk ro w bm sz f s) (hno : ∀ t ∈ h.S, t.pl ≠ s.pl) {o : Obj} {v4 : Value} {w4 : World} (hg4 : (w.alloc o).grownBy w4 h.gs) (hat : v4.ownBlock = h.gs ∨ v4.ownBlock = some (w.alloc o).heap.size) (hsome : ∃ b, v4.ownBlock = some b) 
    (hown : w4.ownsRow B 60 1 v4 (h.S.length + 1) (segP h.S ++ [.pointer (some ⟨s.bs, 0, none⟩)])) :
    ∃ ro', (∀ k, k < w.heap.size → ro' k = ro k) ∧ Hp ro' hn (w4.setCell ⟨h.bh, 29, none⟩ v4) B bm bb sz f { h with S := h.S ++ [s], gs := v4.ownBlock } ∧ RFr ro w (w4.setCell ⟨h.bh, 29, none⟩ v4) (hpD hn) := by
  obtain ⟨v, hv, hov, hgv⟩ := H.hp.c29
  have hbl := H.hp.lt_h
  have hgl : ∀ k, h.gs = some k → k < w.heap.size := fun k e => (hov.lt k (hgv.trans e)).2
  have hgb : h.gs ≠ some h.bh := fun e => by have h1 := H.hp.rs _ e; rw [H.hp.rb] at h1; cases h1
  have zA : (w.alloc o).heap.size = w.heap.size + 1 := by simp
  obtain ⟨gb, hgb4⟩ := hsome
  have hgb2 : gb ≠ h.bh := fun e => by
    rcases hat with h1 | h1
    · rw [hgb4] at h1; exact hgb (by rw [← h1, e])
    · rw [hgb4] at h1; have := Option.some.inj h1; omega
  obtain ⟨wF, hwF⟩ : ∃ wF, wF = w4.setCell ⟨h.bh, 29, none⟩ v4 := ⟨_, rfl⟩
  have b4 : ∀ k, k < w.heap.size → some k ≠ h.gs → w4.heap[k]? = w.heap[k]? := fun k hk h1 => (hg4.block k (by omega) h1).trans (Below.heap_alloc w o k hk)
  have bF : ∀ k, k < w.heap.size → k ≠ h.bh → some k ≠ h.gs → wF.heap[k]? = w.heap[k]? := fun k hk h1 h2 => by
    rw [hwF, Below.heap_setCell _ _ _ _ h1]
    exact b4 k hk h2
  have hself : wF.heap[h.bh]? = (w.setCell ⟨h.bh, 29, none⟩ v4).heap[h.bh]? := by
    rw [hwF]
    simp only [World.setCell, Array.getElem?_modify, if_true]
    rw [b4 h.bh hbl (fun e => hgb e.symm)]
  have zF : w.heap.size ≤ wF.heap.size := by
    rw [hwF]
    have := hg4.size
    simp [World.setCell] at this ⊢
    omega
  have hR : RFr ro w wF (hpD hn) := ⟨by rw [hwF]; exact hg4.os, by rw [hwF]; exact hg4.tape, by rw [hwF]; exact hg4.output, zF, fun k hk hx => bF k hk (fun e => hx (by rw [e, H.hp.rb]; exact .inl rfl)) (fun e => hx (by rw [H.hp.rs k e.symm]; exact .inr rfl))⟩
  have e0 : ∀ k, k < w.heap.size → roSegs ro w.heap.size hn k = ro k := fun k hk => if_pos hk
  have hrs : ∀ k, v4.ownBlock = some k → roSegs ro w.heap.size hn k = .segs hn := fun k e => by
    rcases hat with h1 | h1
    · rw [e0 k (hgl k (h1.symm.trans e))]
      exact H.hp.rs k (h1.symm.trans e)
    · rw [h1] at e
      have := Option.some.inj e
      unfold roSegs
      rw [if_neg (by omega)]
  have hownF : wF.ownsRow B 60 1 v4 (h.S.length + 1) (segP h.S ++ [.pointer (some ⟨s.bs, 0, none⟩)]) := by
    rw [hwF]
    exact hown.kept (only_set (World.grownBy.refl _ _) _) (.inr (fun e => hgb2 (by rw [hgb4] at e; exact Option.some.inj e)))
  have hs' : SegOk (roSegs ro w.heap.size hn) wF bm sz f s := (hs.role e0).fr (X := hpD hn) ⟨hR.os, hR.tape, hR.output, hR.size, fun k hk hx => hR.block k hk (by rw [← e0 k hk]; exact hx)⟩ (by rintro (e | e) <;> cases e) (by rintro (e | e) <;> cases e) (by rintro (e | e) <;> cases e) (fun p _ => ⟨(by rintro (e | e) <;> cases e), (by rintro (e | e) <;> cases e)⟩)
  have hh := H.hp.grown (ro' := roSegs ro w.heap.size hn) hR (by rintro c i (e | e) <;> cases e) (fun pl => ⟨(by rintro (e | e) <;> cases e), (by rintro (e | e) <;> cases e), (by rintro (e | e) <;> cases e)⟩)
    (fun pl at_ => ⟨(by rintro (e | e) <;> cases e), (by rintro (e | e) <;> cases e)⟩) e0 (s := s) (gs := v4.ownBlock) hself hownF rfl hrs hs' hno
  rw [← hwF]
  have hlm := H.mem.lt_bm
  have hlb := H.mem.lt_bb
  exact ⟨_, e0, ⟨hh, H.mem.stays (hR.block bm hlm (by rw [H.rm]; rintro (e | e) <;> cases e)) (hR.block bb hlb (by rw [H.rb]; rintro (e | e) <;> cases e)), (e0 bm hlm).trans H.rm, (e0 bb hlb).trans H.rb, Nat.le_trans H.b zF⟩, hR⟩

/-- A heap whose queues have some pages' numbers more. -/
structure AddQ (h h' : HeapR) (s : SegR) (L : List PageR) : Prop where
  bh : h'.bh = h.bh
  ba : h'.ba = h.ba
  idd : h'.id = h.id
  S : h'.S = h.S
  q : ∀ c, c < 13 → ∀ y, y ∈ h'.Q1 c ∨ y ∈ h'.Q2 c ↔ (y ∈ h.Q1 c ∨ y ∈ h.Q2 c) ∨ ∃ p ∈ L, rowIx p.cls = some c ∧ y = ((s.pl * 16 + p.at_ : Nat) : Int)
theorem AddQ.refl (h : HeapR) (s : SegR) : AddQ h h s [] := ⟨rfl, rfl, rfl, rfl, fun c _ y => by simp⟩

theorem pushS_mem {R F : List Int} {x y : Int} : y ∈ (pushS R F x).2.1 ∨ y ∈ (pushS R F x).2.2 ↔ (y ∈ R ∨ y ∈ F) ∨ y = x := by
  unfold pushS
  cases hq : inQ R F x with
  | true =>
    simp [inQ] at hq
    simp only [if_true]
    constructor
    · exact .inl
    · rintro (h | rfl)
      · exact h
      · exact hq
  | false =>
    simp only [Bool.false_eq_true, if_false, List.mem_append, List.mem_singleton]
    constructor
    · rintro ((h | h) | h)
      · exact .inl (.inl h)
      · exact .inr h
      · exact .inl (.inr h)
    · rintro ((h | h) | h)
      · exact .inl (.inl h)
      · exact .inr h
      · exact .inl (.inr h)

theorem AddQ.step {s : SegR} {L : List PageR} (R : AddQ h h' s L) {p : PageR} {i : Nat} (hr : rowIx p.cls = some i) {k1 k2 : Option Nat} :
    AddQ h (h'.queued i (pushS (h'.Q1 i) (h'.Q2 i) ((s.pl * 16 + p.at_ : Nat) : Int)).2.1 (pushS (h'.Q1 i) (h'.Q2 i) ((s.pl * 16 + p.at_ : Nat) : Int)).2.2 k1 k2) s (L ++ [p]) := by
  refine ⟨R.bh, R.ba, R.idd, R.S, fun c hc y => ?_⟩
  by_cases e : c = i
  · subst e
    rw [show (h'.queued c _ _ k1 k2).Q1 c = _ from updF_same _ _ _, show (h'.queued c _ _ k1 k2).Q2 c = _ from updF_same _ _ _]
    constructor
    · intro hy
      rcases pushS_mem.1 hy with h1 | h1
      · rcases (R.q c hc y).1 h1 with h2 | ⟨q, hq, h2⟩
        · exact .inl h2
        · exact .inr ⟨q, List.mem_append_left _ hq, h2⟩
      · exact .inr ⟨p, by simp, hr, h1⟩
    · rintro (h1 | ⟨q, hq, h1, h2⟩)
      · exact pushS_mem.2 (.inl ((R.q c hc y).2 (.inl h1)))
      · rcases List.mem_append.1 hq with hq | hq
        · exact pushS_mem.2 (.inl ((R.q c hc y).2 (.inr ⟨q, hq, h1, h2⟩)))
        · simp only [List.mem_singleton] at hq
          subst hq
          exact pushS_mem.2 (.inr h2)
  · rw [show (h'.queued i _ _ k1 k2).Q1 c = h'.Q1 c from updF_ne _ _ e, show (h'.queued i _ _ k1 k2).Q2 c = h'.Q2 c from updF_ne _ _ e, R.q c hc y]
    constructor
    · rintro (h1 | ⟨q, hq, h1⟩)
      · exact .inl h1
      · exact .inr ⟨q, List.mem_append_left _ hq, h1⟩
    · rintro (h1 | ⟨q, hq, h1, h2⟩)
      · exact .inl h1
      · rcases List.mem_append.1 hq with hq | hq
        · exact .inr ⟨q, hq, h1, h2⟩
        · simp only [List.mem_singleton] at hq
          subst hq
          rw [hr] at h1
          exact absurd (Option.some.inj h1).symm e

theorem Hp.pushQ_to (H : Hp ro hn w B bm bb sz f h) {s : SegR} {p : PageR} (hs : s ∈ h.S) (hp : p ∈ s.P) {i : Nat} (hi : i < 13) (hr : rowIx p.cls = some i) {x : Int} (hx : x = ((s.pl * 16 + p.at_ : Nat) : Int)) (ht : QTo (w.alloc (.cells #[.int .i64 x] 3)) w' B h.bh (2 * i) (h.g1 i) (h.g2 i) (pushS (h.Q1 i) (h.Q2 i) x).2.1 (pushS (h.Q1 i) (h.Q2 i) x).2.2) :
    ∃ ro' k1 k2, (∀ k, k < w.heap.size → ro' k = ro k) ∧ Hp ro' hn w' B bm bb sz f (h.queued i (pushS (h.Q1 i) (h.Q2 i) x).2.1 (pushS (h.Q1 i) (h.Q2 i) x).2.2 k1 k2) ∧ RFr ro w w' (hpQ hn) := by
  have B5 : Below w.heap.size w (w.alloc (.cells #[.int .i64 x] 3)) := (Below.refl _ _).alloc (Nat.le_refl _) _
  obtain ⟨ro6, k1, k2, e6, H6, r6⟩ := (H.below B5).queuedQ hi ht ((H.hp.qo i hi).push _) (fun y hy => by
    rcases pushS_mem.1 hy with h1 | h1
    · exact H.hp.link i hi y h1
    · exact ⟨s, hs, p, hp, h1.trans hx, hr⟩)
  exact ⟨ro6, k1, k2, fun k hk => e6 k (Nat.lt_of_lt_of_le hk B5.size), H6, (RFr.of_below B5).over (fun _ _ => rfl) r6⟩
end Go.Proofs.YtbljphaklciinaaGreat
