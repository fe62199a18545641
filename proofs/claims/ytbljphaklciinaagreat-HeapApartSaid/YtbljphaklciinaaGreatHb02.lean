/- Walks of the program's functions, and plain laws on what they compute, text by text (PageMore, PageLoc, PageFull, PageNew, Class, Class2). No condition. -/
import Derived.Test.YtbljphaklciinaaGreatHb01

/- Layer 9 (page): more, walked. -/
namespace Go.Proofs.YtbljphaklciinaaGreat
open Go.RowKit

/-- Only two blocks of all that were there have turned. -/
structure PFr (w w' : World) (b bb : Nat) : Prop where
  os : w'.os = w.os
  tape : w'.tape = w.tape
  output : w'.output = w.output
  size : w.heap.size ≤ w'.heap.size
  block : ∀ k, k < w.heap.size → k ≠ b → k ≠ bb → w'.heap[k]? = w.heap[k]?
theorem PFr.refl (w : World) (b bb : Nat) : PFr w w b bb := ⟨rfl, rfl, rfl, Nat.le_refl _, fun _ _ _ _ => rfl⟩
theorem PFr.trans {w w1 w2 : World} {b bb : Nat} (h : PFr w w1 b bb) (h' : PFr w1 w2 b bb) : PFr w w2 b bb :=
  ⟨h'.os.trans h.os, h'.tape.trans h.tape, h'.output.trans h.output, Nat.le_trans h.size h'.size, fun k hk h1 h2 => (h'.block k (Nat.lt_of_lt_of_le hk h.size) h1 h2).trans (h.block k hk h1 h2)⟩
theorem PFr.of_below {w w' : World} {b bb : Nat} (h : Below w.heap.size w w') : PFr w w' b bb := ⟨h.os, h.tape, h.output, h.size, fun k hk _ _ => h.block k hk⟩
theorem PFr.set {w w' : World} {b bb : Nat} (h : PFr w w' b bb) (i : Nat) (v : Value) : PFr w (w'.setCell ⟨b, i, none⟩ v) b bb :=
  ⟨h.os, h.tape, h.output, by simpa [World.setCell] using h.size, fun k hk h1 h2 => (Below.heap_setCell w' ⟨b, i, none⟩ v k h1).trans (h.block k hk h1 h2)⟩
theorem PFr.only {w w' : World} {b bb : Nat} (h : OnlyB w w' bb) : PFr w w' b bb := ⟨h.gr.os, h.gr.tape, h.gr.output, h.gr.size, fun k hk _ h2 => h.gr.block k hk (by simpa using h2)⟩
theorem PFr.grown {w w' : World} {b bb : Nat} (h : w.grownBy w' (some b)) : PFr w w' b bb := ⟨h.os, h.tape, h.output, h.size, fun k hk h1 _ => h.block k hk (by simpa using h1)⟩

theorem PFr.push {w w2 w3 : World} {b bb q : Nat} {o : Obj} (h : PFr w w2 b bb) (h3 : OnlyB (w2.alloc o).drew w3 bb) (v v' : Value) : PFr w ((w3.setCell ⟨b, 6, none⟩ v).setCell ⟨b, q, none⟩ v') b bb :=
  have h1 : PFr w2 (w2.alloc o).drew b bb := have h := PFr.grown (World.grownBy_alloc w2 o (some b)); ⟨h.os, h.tape, h.output, h.size, h.block⟩
  ((h.trans (h1.trans (PFr.only h3))).set _ _).set _ _

theorem MemAt.set_far {w : World} {bm bb sz b : Nat} {f : Nat → Nat} (h : MemAt w bm bb sz f) (i : Nat) (v : Value) (h1 : b ≠ bb) (h2 : b ≠ bm) : MemAt (w.setCell ⟨b, i, none⟩ v) bm bb sz f :=
  h.stays (Below.heap_setCell w ⟨b, i, none⟩ v bm h2.symm) (Below.heap_setCell w ⟨b, i, none⟩ v bb h1.symm)

/-- Blocks laid free, each on the next one. -/
def linkAll (f : Nat → Nat) : List Nat → (Nat → Nat)
  | [] => f
  | a :: r => putW (linkAll f r) a (r.headD 0)
/-- The addresses of some blocks of a page. -/
def addrs (p : Pg) (i k : Nat) : List Nat := (List.range k).map fun j => p.f + (i + j) * p.s
theorem addrs_len (p : Pg) (i k : Nat) : (addrs p i k).length = k := by simp [addrs]
theorem addrs_drop {p : Pg} {i k j : Nat} (h : j < k) : (addrs p i k).drop j = (p.f + (i + j) * p.s) :: (addrs p i k).drop (j + 1) := by
  rw [List.drop_eq_getElem_cons (by rw [addrs_len]; exact h)]
  simp [addrs]

theorem addrs_hd {p : Pg} {i k j B : Nat} (h : p.f + (i + k) * p.s ≤ B) : ((addrs p i k).drop j).headD 0 ≤ B := by
  by_cases hj : j < k
  · rw [addrs_drop hj]
    have : (i + j) * p.s ≤ (i + k) * p.s := Nat.mul_le_mul_right _ (by omega)
    simp only [List.headD_cons]
    omega
  · rw [List.drop_of_length_le (by rw [addrs_len]; omega)]
    simp

set_option maxRecDepth 100000 in
set_option maxHeartbeats 4000000 in
theorem pageMore_ok {w : World} {b bm bb sz k : Nat} {p : Pg} {f : Nat → Nat} (H : PageAt w b bm p) (M : MemAt w bm bb sz f) (hb : b ≠ bb) (hbmem : b ≠ bm) (hf : p.free = []) (hR : RunOk p.f p.s p.n) (hs : p.f + p.n * p.s ≤ sz) (h8 : 8 ≤ p.s) (hf0 : 0 < p.f) (hm : p.made ≤ p.n) (hk : k = min 4 (p.n - p.made)) :
    Calls Tryz.prog 74 #[.pointer (some ⟨b, 0, none⟩)] w fun e w' => e = .returned (.int .i64 0) ∧ PageAt w' b bm { p with free := addrs p p.made k, made := p.made + k } ∧ MemAt w' bm bb sz (linkAll f (addrs p p.made k)) ∧ PFr w w' b bb := by
  have hh : ∀ j, j < 14 → w.cell? ⟨b, j, none⟩ = some (pgV bm p j) := fun j hj => by have := H.cell j hj; rwa [Nat.zero_add] at this
  have c2 : w.cell? ⟨b, 2, none⟩ = some (.int .i64 p.n) := hh 2 (by omega)
  have c3 : w.cell? ⟨b, 3, none⟩ = some (.int .i64 p.made) := hh 3 (by omega)
  have hn1 := hR.n1
  have HH := Lib.hid H
  have HM := Lib.hid M
  have HR := Lib.hid hR
  have HF := Lib.hid hf
  have HK := Lib.hid hk
  have hk4 : k ≤ 4 := by omega
  have hkn : p.made + k ≤ p.n := by omega
  have hbm : b ≠ bm := hbmem
  have HE : Hid (p.f + (p.made + k) * p.s ≤ 1048576) := by
    show _ ≤ _
    have h1 : (p.made + k) * p.s ≤ p.n * p.s := Nat.mul_le_mul_right _ hkn
    have h2 := hR.end_
    have h3 : ((p.n * p.s : Nat) : Int) = (p.n : Int) * (p.s : Int) := by simp
    omega
  have pk : ∀ q, PageAt (w.drewN q) b bm { p with free := (addrs p p.made k).drop k } := fun q => by
    rw [List.drop_of_length_le (by rw [addrs_len]; exact Nat.le_refl _)]
    have h := Obj_.drewN HH.out q
    have e : ({ p with free := [] } : Pg) = p := by cases p; simp at hf; simp [hf]
    rw [e]
    exact h
  have mk : ∀ q, MemAt (w.drewN q) bm bb sz (linkAll f ((addrs p p.made k).drop k)) := fun q => by
    rw [List.drop_of_length_le (by rw [addrs_len]; exact Nat.le_refl _)]
    exact HM.out.drewN q
  clear hh H M hR hf hk
  go_enter Tryz.func74, Tryz.ntmps74
  go_wp2_with fail
  go_quiet (fail)
  go_wp2_with fail
  · have ek : ((p.n : Int) - p.made) = (k : Int) := by have := HK.out; omega
    rw [ek]
    clear ek
    have PK := Lib.hid (pk nq)
    have MK := Lib.hid (mk nq)
    clear pk mk
    go_loopw [4] (fun i wr => ∃ j : Nat, j ≤ k ∧ i = .int .i64 ((j : Int) - 1) ∧ Hid (PageAt wr b bm { p with free := (addrs p p.made k).drop j }) ∧ Hid (MemAt wr bm bb sz (linkAll f ((addrs p p.made k).drop j))) ∧ Hid (PFr w wr b bb)) (fun i _ => (intOf i + 1).toNat)
    case atStart => exact ⟨k, Nat.le_refl _, rfl, PK, MK, PFr.of_below ⟨rfl, rfl, rfl, Nat.le_refl _, fun _ _ => rfl⟩⟩
    case round =>
      clear PK MK c2 c3
      obtain ⟨j, hj, rfl, HP, HM, HG⟩ := hrel
      cases j with
      | zero =>
        have hi : ((0 : Nat) : Int) - 1 = -1 := by omega
        rw [hi]
        clear hi
        have k3 : wr.cell? ⟨b, 3, none⟩ = some (.int .i64 p.made) := by have h := HP.out.cell 3 (by omega); rwa [Nat.zero_add] at h
        have y3 : wr.frozen? ⟨b, 3, none⟩ = false := by have h := Obj_.frz HP.out 3 (by omega); rwa [Nat.zero_add] at h
        go_wp2_with fail
        go_ret
        refine ⟨rfl, ?_, ?_, HG.out.set _ _⟩
        · have O3 := Obj_.set HP.out (i := 3) (by omega) (.int .i64 ((p.made : Int) + (k : Int)))
          rw [Nat.zero_add] at O3
          refine O3.congr (fun j hj => ?_)
          rcases lt14 hj with rfl | rfl | rfl | rfl | rfl | rfl | rfl | rfl | rfl | rfl | rfl | rfl | rfl | rfl <;> first | rfl | (simp [upd, pgV]; done) | (simp [upd, pgV]; omega)
        · have h := HM.out
          exact h.set_far _ _ hb hbm
      | succ j =>
        have hi : (((j + 1 : Nat) : Int)) - 1 = (j : Int) := by omega
        rw [hi]
        have hj0 : (0 : Int) ≤ (j : Int) := by omega
        have hjn : (p.made : Int) + (j : Int) < p.n := by omega
        clear hi
        have hc : ∀ q, q < 14 → wr.cell? ⟨b, q, none⟩ = some (pgV bm { p with free := (addrs p p.made k).drop (j + 1) } q) := fun q hq => by have := HP.out.cell q hq; rwa [Nat.zero_add] at this
        have b0 : wr.cell? ⟨b, 0, none⟩ = some (.int .u64 p.f) := hc 0 (by omega)
        have b1 : wr.cell? ⟨b, 1, none⟩ = some (.int .u64 p.s) := hc 1 (by omega)
        have b2 : wr.cell? ⟨b, 2, none⟩ = some (.int .i64 p.n) := hc 2 (by omega)
        have b3 : wr.cell? ⟨b, 3, none⟩ = some (.int .i64 p.made) := hc 3 (by omega)
        clear hc
        have hbl := Obj_.lt HP.out (by omega)
        have HCB := Lib.hid (block_ok wr.drew p.f p.s p.n (p.made + j) HR.out (by omega) hjn)
        have hwr : IntKind.i64.wrap ((p.made : Int) + (j : Int)) = (p.made : Int) + (j : Int) := by simp only [IntKind.wrap_i64]; omega
        go_wp2_with fail
        go_region_held3 (fun w' => w'.cell? ⟨b, 0, none⟩ = some (.int .u64 p.f) ∧ w'.cell? ⟨b, 1, none⟩ = some (.int .u64 p.s) ∧ w'.cell? ⟨b, 2, none⟩ = some (.int .i64 p.n) ∧ w'.cell? ⟨b, 3, none⟩ = some (.int .i64 p.made))
          (first | exact ⟨b0, b1, b2, b3⟩ | exact KA.out | fail)
          (first
            | (go_at_call 110; (with_reducible refine HCB.out.mono ?_); rintro e w2 ⟨rfl, B2⟩; have HB2 : Hid (Below wr.heap.size wr w2) := ⟨B2.os, B2.tape, B2.output, B2.size, B2.block⟩; have KA : Hid (w2.cell? ⟨b, 0, none⟩ = some (.int .u64 p.f) ∧ w2.cell? ⟨b, 1, none⟩ = some (.int .u64 p.s) ∧ w2.cell? ⟨b, 2, none⟩ = some (.int .i64 p.n) ∧ w2.cell? ⟨b, 3, none⟩ = some (.int .i64 p.made)) := ⟨(HB2.out.cell (p := ⟨b, 0, none⟩) hbl).trans b0, (HB2.out.cell (p := ⟨b, 1, none⟩) hbl).trans b1, (HB2.out.cell (p := ⟨b, 2, none⟩) hbl).trans b2, (HB2.out.cell (p := ⟨b, 3, none⟩) hbl).trans b3⟩; clear B2)
            | fail)
        have hq : (p.f : Int) + ((p.made : Int) + (j : Int)) * (p.s : Int) = ((p.f + (p.made + j) * p.s : Nat) : Int) := by simp [Int.natCast_add, Int.natCast_mul]
        rw [hq]
        have HD1 : Hid ((addrs p p.made k).drop j = (p.f + (p.made + j) * p.s) :: (addrs p p.made k).drop (j + 1)) := addrs_drop (by omega)
        have HIS := Lib.hid (HR.out.is (i := (p.made : Int) + (j : Int)) (by omega) hjn)
        have hqa : 0 < p.f + (p.made + j) * p.s := by omega
        have hqb : p.f + (p.made + j) * p.s + 8 ≤ sz := by
          have h1 := HIS.out.2
          have h2 : (((p.made + j) * p.s : Nat) : Int) = ((p.made : Int) + (j : Int)) * (p.s : Int) := by simp [Int.natCast_add, Int.natCast_mul]
          have h3 : ((p.n * p.s : Nat) : Int) = (p.n : Int) * (p.s : Int) := by simp
          omega
        clear hq HIS hwr HCB b0 b1 b2 b3 KA
        generalize p.f + (p.made + j) * p.s = q at *
        have HP2 := Lib.hid (Obj_.of_block HP.out (HB2.out.block b hbl))
        have HM2 := Lib.hid (HM.out.below HB2.out (Nat.le_refl _))
        have HG2 := Lib.hid (HG.out.trans (PFr.of_below HB2.out))
        have hbl2 : b < w2.heap.size := Obj_.lt HP2.out (by omega)
        clear HP HM HG
        have HHD : Hid (((addrs p p.made k).drop (j + 1)).headD 0 ≤ 1048576) := addrs_hd HE.out
        generalize hL : (addrs p p.made k).drop (j + 1) = L at *
        have HL := Lib.hid hL
        have hLl : L.length ≤ 4 := by rw [← hL]; simp [addrs_len]; omega
        clear hL
        have hc : ∀ q, q < 14 → w2.cell? ⟨b, q, none⟩ = some (pgV bm { p with free := L } q) := fun q hq => by have := HP2.out.cell q hq; rwa [Nat.zero_add] at this
        have hz : ∀ q, q < 14 → w2.frozen? ⟨b, q, none⟩ = false := fun q hq => by have := Obj_.frz HP2.out q hq; rwa [Nat.zero_add] at this
        have b5 : w2.cell? ⟨b, 5, none⟩ = some (.pointer (some ⟨bm, 0, none⟩)) := hc 5 (by omega)
        have hb5 : (w2.alloc (.cells #[.int .u64 (q : Int)] 29)).drew.cell? ⟨b, 5, none⟩ = some (.pointer (some ⟨bm, 0, none⟩)) := (World.cell?_alloc_lt _ _ _ hbl2).trans b5
        have HCP : Hid (Calls Tryz.prog 80 #[.pointer (some ⟨b, 6, none⟩), .pointer (some ⟨bm, 0, none⟩), .slice (some ⟨w2.heap.size, 0, none⟩) 1 1] (w2.alloc (.cells #[.int .u64 (q : Int)] 29)).drew fun e w' => e = .returned (.int .i64 0) ∧ PushTo (w2.alloc (.cells #[.int .u64 (q : Int)] 29)).drew b 6 bm bb sz (putW (linkAll f L) q (L.headD 0)) q ((L.length : Int) + 1) w') :=
          listPush_ok (o := 6) ((HM2.out.alloc _).drew) ((World.cell?_alloc_lt _ _ _ hbl2).trans (hc 6 (by omega))) ((World.cell?_alloc_lt _ _ _ hbl2).trans (hc 7 (by omega))) ((World.frozen?_of_block (a := ⟨b, 6, none⟩) (Below.heap_alloc _ _ _ hbl2)).trans (hz 6 (by omega))) ((World.frozen?_of_block (a := ⟨b, 7, none⟩) (Below.heap_alloc _ _ _ hbl2)).trans (hz 7 (by omega)))
            (by show (w2.alloc _).cell? _ = _; rw [World.cell?_alloc_new]; rfl) hb hqa hqb (by have := HHD.out; omega) (by omega) (by omega)
        clear hc hz
        go_wp2_with fail
        go_region_held3 (fun w' => w'.cell? ⟨b, 5, none⟩ = some (.pointer (some ⟨bm, 0, none⟩)))
          (first | exact b5 | exact hb5 | exact KC.out | fail)
          (first
            | (go_at_call 80; (with_reducible refine HCP.out.mono ?_); rintro e w4 ⟨rfl, w3, O3, M3, hw4⟩; have HW4 := Lib.hid hw4; have HO3 := Lib.hid O3; have HM3 := Lib.hid M3; have KC : Hid (w4.cell? ⟨b, 5, none⟩ = some (.pointer (some ⟨bm, 0, none⟩))) := (by show _ = _; rw [HW4.out, World.cell?_setCell_other _ _ _ _ (by simp), World.cell?_setCell_other _ _ _ _ (by simp)]; exact (World.cell?_of_block (a := ⟨b, 5, none⟩) (HO3.out.gr.block b (by simp; omega) (by simpa using hb))).trans hb5); clear hw4 O3 M3)
            | fail)
        go_wp2_with fail
        go_roundw
        case measure =>
          show (((j : Int) - 1) + 1).toNat < ((j : Int) + 1).toNat
          omega
        case rel =>
          have HPq := Obj_.of_block (w' := (w2.alloc (.cells #[.int .u64 (q : Int)] 29)).drew) HP2.out (Below.heap_alloc _ _ _ hbl2)
          have HP3 := Obj_.of_block HPq (HO3.out.gr.block b (Obj_.lt HPq (by omega)) (by simpa using hb))
          have HP4 := (HP3.set (i := 6) (by omega) (.int .u64 q)).set (i := 7) (by omega) (.int .i64 ((L.length : Int) + 1))
          refine ⟨j, by omega, rfl, ?_, ?_, ?_⟩
          · show PageAt _ _ _ _
            rw [HD1.out, HW4.out]
            refine Obj_.congr HP4 (fun j hj => ?_)
            rcases lt14 hj with rfl | rfl | rfl | rfl | rfl | rfl | rfl | rfl | rfl | rfl | rfl | rfl | rfl | rfl <;> first | rfl | (simp [upd, pgV]; done)
          · show MemAt _ _ _ _ _
            rw [HD1.out, HW4.out]
            exact (HM3.out.set_far 6 _ hb hbm).set_far _ _ hb hbm
          · show PFr _ _ _ _
            rw [HW4.out]
            exact HG2.out.push HO3.out _ _
  · have ek : k = 4 := by have := HK.out; omega
    have PK := Lib.hid (pk nq)
    have MK := Lib.hid (mk nq)
    clear pk mk
    go_loopw [4] (fun i wr => ∃ j : Nat, j ≤ k ∧ i = .int .i64 ((j : Int) - 1) ∧ Hid (PageAt wr b bm { p with free := (addrs p p.made k).drop j }) ∧ Hid (MemAt wr bm bb sz (linkAll f ((addrs p p.made k).drop j))) ∧ Hid (PFr w wr b bb)) (fun i _ => (intOf i + 1).toNat)
    case atStart => exact ⟨k, Nat.le_refl _, by rw [ek]; rfl, PK, MK, PFr.of_below ⟨rfl, rfl, rfl, Nat.le_refl _, fun _ _ => rfl⟩⟩
    case round =>
      clear PK MK c2 c3
      obtain ⟨j, hj, rfl, HP, HM, HG⟩ := hrel
      cases j with
      | zero =>
        have hi : ((0 : Nat) : Int) - 1 = -1 := by omega
        rw [hi]
        clear hi
        have k3 : wr.cell? ⟨b, 3, none⟩ = some (.int .i64 p.made) := by have h := HP.out.cell 3 (by omega); rwa [Nat.zero_add] at h
        have y3 : wr.frozen? ⟨b, 3, none⟩ = false := by have h := Obj_.frz HP.out 3 (by omega); rwa [Nat.zero_add] at h
        go_wp2_with fail
        go_ret
        refine ⟨rfl, ?_, ?_, HG.out.set _ _⟩
        · have O3 := Obj_.set HP.out (i := 3) (by omega) (.int .i64 ((p.made : Int) + 4))
          rw [Nat.zero_add] at O3
          refine O3.congr (fun j hj => ?_)
          rcases lt14 hj with rfl | rfl | rfl | rfl | rfl | rfl | rfl | rfl | rfl | rfl | rfl | rfl | rfl | rfl <;> first | rfl | (simp [upd, pgV]; done) | (simp [upd, pgV]; omega)
        · have h := HM.out
          exact h.set_far _ _ hb hbm
      | succ j =>
        have hi : (((j + 1 : Nat) : Int)) - 1 = (j : Int) := by omega
        rw [hi]
        have hj0 : (0 : Int) ≤ (j : Int) := by omega
        have hjn : (p.made : Int) + (j : Int) < p.n := by omega
        clear hi
        have hc : ∀ q, q < 14 → wr.cell? ⟨b, q, none⟩ = some (pgV bm { p with free := (addrs p p.made k).drop (j + 1) } q) := fun q hq => by have := HP.out.cell q hq; rwa [Nat.zero_add] at this
        have b0 : wr.cell? ⟨b, 0, none⟩ = some (.int .u64 p.f) := hc 0 (by omega)
        have b1 : wr.cell? ⟨b, 1, none⟩ = some (.int .u64 p.s) := hc 1 (by omega)
        have b2 : wr.cell? ⟨b, 2, none⟩ = some (.int .i64 p.n) := hc 2 (by omega)
        have b3 : wr.cell? ⟨b, 3, none⟩ = some (.int .i64 p.made) := hc 3 (by omega)
        clear hc
        have hbl := Obj_.lt HP.out (by omega)
        have HCB := Lib.hid (block_ok wr.drew p.f p.s p.n (p.made + j) HR.out (by omega) hjn)
        have hwr : IntKind.i64.wrap ((p.made : Int) + (j : Int)) = (p.made : Int) + (j : Int) := by simp only [IntKind.wrap_i64]; omega
        go_wp2_with fail
        go_region_held3 (fun w' => w'.cell? ⟨b, 0, none⟩ = some (.int .u64 p.f) ∧ w'.cell? ⟨b, 1, none⟩ = some (.int .u64 p.s) ∧ w'.cell? ⟨b, 2, none⟩ = some (.int .i64 p.n) ∧ w'.cell? ⟨b, 3, none⟩ = some (.int .i64 p.made))
          (first | exact ⟨b0, b1, b2, b3⟩ | exact KA.out | fail)
          (first
            | (go_at_call 110; (with_reducible refine HCB.out.mono ?_); rintro e w2 ⟨rfl, B2⟩; have HB2 : Hid (Below wr.heap.size wr w2) := ⟨B2.os, B2.tape, B2.output, B2.size, B2.block⟩; have KA : Hid (w2.cell? ⟨b, 0, none⟩ = some (.int .u64 p.f) ∧ w2.cell? ⟨b, 1, none⟩ = some (.int .u64 p.s) ∧ w2.cell? ⟨b, 2, none⟩ = some (.int .i64 p.n) ∧ w2.cell? ⟨b, 3, none⟩ = some (.int .i64 p.made)) := ⟨(HB2.out.cell (p := ⟨b, 0, none⟩) hbl).trans b0, (HB2.out.cell (p := ⟨b, 1, none⟩) hbl).trans b1, (HB2.out.cell (p := ⟨b, 2, none⟩) hbl).trans b2, (HB2.out.cell (p := ⟨b, 3, none⟩) hbl).trans b3⟩; clear B2)
            | fail)
        have hq : (p.f : Int) + ((p.made : Int) + (j : Int)) * (p.s : Int) = ((p.f + (p.made + j) * p.s : Nat) : Int) := by simp [Int.natCast_add, Int.natCast_mul]
        rw [hq]
        have HD1 : Hid ((addrs p p.made k).drop j = (p.f + (p.made + j) * p.s) :: (addrs p p.made k).drop (j + 1)) := addrs_drop (by omega)
        have HIS := Lib.hid (HR.out.is (i := (p.made : Int) + (j : Int)) (by omega) hjn)
        have hqa : 0 < p.f + (p.made + j) * p.s := by omega
        have hqb : p.f + (p.made + j) * p.s + 8 ≤ sz := by
          have h1 := HIS.out.2
          have h2 : (((p.made + j) * p.s : Nat) : Int) = ((p.made : Int) + (j : Int)) * (p.s : Int) := by simp [Int.natCast_add, Int.natCast_mul]
          have h3 : ((p.n * p.s : Nat) : Int) = (p.n : Int) * (p.s : Int) := by simp
          omega
        clear hq HIS hwr HCB b0 b1 b2 b3 KA
        generalize p.f + (p.made + j) * p.s = q at *
        have HP2 := Lib.hid (Obj_.of_block HP.out (HB2.out.block b hbl))
        have HM2 := Lib.hid (HM.out.below HB2.out (Nat.le_refl _))
        have HG2 := Lib.hid (HG.out.trans (PFr.of_below HB2.out))
        have hbl2 : b < w2.heap.size := Obj_.lt HP2.out (by omega)
        clear HP HM HG
        have HHD : Hid (((addrs p p.made k).drop (j + 1)).headD 0 ≤ 1048576) := addrs_hd HE.out
        generalize hL : (addrs p p.made k).drop (j + 1) = L at *
        have HL := Lib.hid hL
        have hLl : L.length ≤ 4 := by rw [← hL]; simp [addrs_len]; omega
        clear hL
        have hc : ∀ q, q < 14 → w2.cell? ⟨b, q, none⟩ = some (pgV bm { p with free := L } q) := fun q hq => by have := HP2.out.cell q hq; rwa [Nat.zero_add] at this
        have hz : ∀ q, q < 14 → w2.frozen? ⟨b, q, none⟩ = false := fun q hq => by have := Obj_.frz HP2.out q hq; rwa [Nat.zero_add] at this
        have b5 : w2.cell? ⟨b, 5, none⟩ = some (.pointer (some ⟨bm, 0, none⟩)) := hc 5 (by omega)
        have hb5 : (w2.alloc (.cells #[.int .u64 (q : Int)] 29)).drew.cell? ⟨b, 5, none⟩ = some (.pointer (some ⟨bm, 0, none⟩)) := (World.cell?_alloc_lt _ _ _ hbl2).trans b5
        have HCP : Hid (Calls Tryz.prog 80 #[.pointer (some ⟨b, 6, none⟩), .pointer (some ⟨bm, 0, none⟩), .slice (some ⟨w2.heap.size, 0, none⟩) 1 1] (w2.alloc (.cells #[.int .u64 (q : Int)] 29)).drew fun e w' => e = .returned (.int .i64 0) ∧ PushTo (w2.alloc (.cells #[.int .u64 (q : Int)] 29)).drew b 6 bm bb sz (putW (linkAll f L) q (L.headD 0)) q ((L.length : Int) + 1) w') :=
          listPush_ok (o := 6) ((HM2.out.alloc _).drew) ((World.cell?_alloc_lt _ _ _ hbl2).trans (hc 6 (by omega))) ((World.cell?_alloc_lt _ _ _ hbl2).trans (hc 7 (by omega))) ((World.frozen?_of_block (a := ⟨b, 6, none⟩) (Below.heap_alloc _ _ _ hbl2)).trans (hz 6 (by omega))) ((World.frozen?_of_block (a := ⟨b, 7, none⟩) (Below.heap_alloc _ _ _ hbl2)).trans (hz 7 (by omega)))
            (by show (w2.alloc _).cell? _ = _; rw [World.cell?_alloc_new]; rfl) hb hqa hqb (by have := HHD.out; omega) (by omega) (by omega)
        clear hc hz
        go_wp2_with fail
        go_region_held3 (fun w' => w'.cell? ⟨b, 5, none⟩ = some (.pointer (some ⟨bm, 0, none⟩)))
          (first | exact b5 | exact hb5 | exact KC.out | fail)
          (first
            | (go_at_call 80; (with_reducible refine HCP.out.mono ?_); rintro e w4 ⟨rfl, w3, O3, M3, hw4⟩; have HW4 := Lib.hid hw4; have HO3 := Lib.hid O3; have HM3 := Lib.hid M3; have KC : Hid (w4.cell? ⟨b, 5, none⟩ = some (.pointer (some ⟨bm, 0, none⟩))) := (by show _ = _; rw [HW4.out, World.cell?_setCell_other _ _ _ _ (by simp), World.cell?_setCell_other _ _ _ _ (by simp)]; exact (World.cell?_of_block (a := ⟨b, 5, none⟩) (HO3.out.gr.block b (by simp; omega) (by simpa using hb))).trans hb5); clear hw4 O3 M3)
            | fail)
        go_wp2_with fail
        go_roundw
        case measure =>
          show (((j : Int) - 1) + 1).toNat < ((j : Int) + 1).toNat
          omega
        case rel =>
          have HPq := Obj_.of_block (w' := (w2.alloc (.cells #[.int .u64 (q : Int)] 29)).drew) HP2.out (Below.heap_alloc _ _ _ hbl2)
          have HP3 := Obj_.of_block HPq (HO3.out.gr.block b (Obj_.lt HPq (by omega)) (by simpa using hb))
          have HP4 := (HP3.set (i := 6) (by omega) (.int .u64 q)).set (i := 7) (by omega) (.int .i64 ((L.length : Int) + 1))
          refine ⟨j, by omega, rfl, ?_, ?_, ?_⟩
          · show PageAt _ _ _ _
            rw [HD1.out, HW4.out]
            refine Obj_.congr HP4 (fun j hj => ?_)
            rcases lt14 hj with rfl | rfl | rfl | rfl | rfl | rfl | rfl | rfl | rfl | rfl | rfl | rfl | rfl | rfl <;> first | rfl | (simp [upd, pgV]; done)
          · show MemAt _ _ _ _ _
            rw [HD1.out, HW4.out]
            exact (HM3.out.set_far 6 _ hb hbm).set_far _ _ hb hbm
          · show PFr _ _ _ _
            rw [HW4.out]
            exact HG2.out.push HO3.out _ _

end Go.Proofs.YtbljphaklciinaaGreat

/- Layer 9 (page): Alloc by the local list, and by more. -/
namespace Go.Proofs.YtbljphaklciinaaGreat
open Go.RowKit

set_option maxRecDepth 100000 in
set_option maxHeartbeats 4000000 in
theorem pageAlloc_loc {w : World} {b bm bb sz : Nat} {p : Pg} {fx : Nat → Nat} {a : Nat} {r : List Nat} (H : PageAt w b bm p) (M : MemAt w bm bb sz fx) (hb : b ≠ bb) (hbm : b ≠ bm) (hf : p.free = []) (hl : p.loc = a :: r) (hc : Chain fx a (a :: r)) (ha : a + 8 ≤ sz) (hn : p.n ≤ 1024) (hl2 : p.loc.length ≤ 1024) (hu : p.used ≤ 1024) :
    Calls Tryz.prog 43 #[.pointer (some ⟨b, 0, none⟩)] w fun e w' => e = .returned (.tuple #[.int .u64 a, .int .i64 0]) ∧ PageAt w' b bm { p with free := r, loc := [], used := p.used + 1 } ∧ w.grownBy w' (some b) := by
  have hh : ∀ j, j < 14 → w.cell? ⟨b, j, none⟩ = some (pgV bm p j) := fun j hj => by have := H.cell j hj; rwa [Nat.zero_add] at this
  have hz : ∀ j, j < 14 → w.frozen? ⟨b, j, none⟩ = false := fun j hj => by have := Obj_.frz H j hj; rwa [Nat.zero_add] at this
  have c7 : w.cell? ⟨b, 7, none⟩ = some (.int .i64 0) := by rw [hh 7 (by omega)]; simp [pgV, hf]
  have c6 : w.cell? ⟨b, 6, none⟩ = some (.int .u64 0) := by rw [hh 6 (by omega)]; simp [pgV, hf]
  have c8 : w.cell? ⟨b, 8, none⟩ = some (.int .u64 a) := by rw [hh 8 (by omega)]; simp [pgV, hl]
  have c9 : w.cell? ⟨b, 9, none⟩ = some (.int .i64 ((r.length : Int) + 1)) := by rw [hh 9 (by omega)]; simp [pgV, hl]
  have c4 : w.cell? ⟨b, 4, none⟩ = some (.int .i64 p.used) := hh 4 (by omega)
  have c5 : w.cell? ⟨b, 5, none⟩ = some (.pointer (some ⟨bm, 0, none⟩)) := hh 5 (by omega)
  have z4 := hz 4 (by omega)
  have z6 := hz 6 (by omega)
  have z7 := hz 7 (by omega)
  have z8 := hz 8 (by omega)
  have z9 := hz 9 (by omega)
  have hr : r.length ≤ 1023 := by rw [hl] at hl2; simp at hl2; omega
  have HH := Lib.hid H
  have HM := Lib.hid M
  have HC := Lib.hid hc
  have HF := Lib.hid hf
  have HL := Lib.hid hl
  have e7 : ((r.length : Int) + 1 == 0) = false := beq_eq_false_iff_ne.2 (by omega)
  clear hh hz H M hc hf hl hl2
  go_enter Tryz.func43, Tryz.ntmps43
  go_wp2_with fail
  have O4 := (((HH.out.set (i := 6) (by omega) (.int .u64 a)).set (i := 7) (by omega) (.int .i64 ((r.length : Int) + 1))).set (i := 8) (by omega) (.int .u64 0)).set (i := 9) (by omega) (.int .i64 0)
  simp only [Nat.zero_add] at O4
  have OX : Hid (PageAt ((((w.setCell ⟨b, 6, none⟩ (.int .u64 a)).setCell ⟨b, 7, none⟩ (.int .i64 ((r.length : Int) + 1))).setCell ⟨b, 8, none⟩ (.int .u64 0)).setCell ⟨b, 9, none⟩ (.int .i64 0)) b bm { p with free := a :: r, loc := [] }) := by
    refine O4.congr (fun j hj => ?_)
    rcases lt14 hj with rfl | rfl | rfl | rfl | rfl | rfl | rfl | rfl | rfl | rfl | rfl | rfl | rfl | rfl <;> first | rfl | (simp [upd, pgV]; done)
  have MX : Hid (MemAt ((((w.setCell ⟨b, 6, none⟩ (.int .u64 a)).setCell ⟨b, 7, none⟩ (.int .i64 ((r.length : Int) + 1))).setCell ⟨b, 8, none⟩ (.int .u64 0)).setCell ⟨b, 9, none⟩ (.int .i64 0)) bm bb sz fx) := (((HM.out.set_far 6 _ hb hbm).set_far 7 _ hb hbm).set_far 8 _ hb hbm).set_far 9 _ hb hbm
  have GX : Hid (w.grownBy ((((w.setCell ⟨b, 6, none⟩ (.int .u64 a)).setCell ⟨b, 7, none⟩ (.int .i64 ((r.length : Int) + 1))).setCell ⟨b, 8, none⟩ (.int .u64 0)).setCell ⟨b, 9, none⟩ (.int .i64 0)) (some b)) := only_set (only_set (only_set (only_set (World.grownBy.refl w _) _) _) _) _
  clear O4 c4 c5 c6 c7 c8 c9 z4 z6 z7 z8 z9 HH HM
  generalize ((((w.setCell ⟨b, 6, none⟩ (.int .u64 a)).setCell ⟨b, 7, none⟩ (.int .i64 ((r.length : Int) + 1))).setCell ⟨b, 8, none⟩ (.int .u64 0)).setCell ⟨b, 9, none⟩ (.int .i64 0)) = wx at *
  have HBL : b < wx.heap.size := Obj_.lt OX.out (by omega)
  have HNX : Hid (word fx a = r.headD 0) := by show _ = _; exact HC.out.2.2.head
  have hh : ∀ j, j < 14 → wx.cell? ⟨b, j, none⟩ = some (pgV bm { p with free := a :: r, loc := [] } j) := fun j hj => by have := OX.out.cell j hj; rwa [Nat.zero_add] at this
  have hz : ∀ j, j < 14 → wx.frozen? ⟨b, j, none⟩ = false := fun j hj => by have := Obj_.frz OX.out j hj; rwa [Nat.zero_add] at this
  have c5 : wx.cell? ⟨b, 5, none⟩ = some (.pointer (some ⟨bm, 0, none⟩)) := hh 5 (by omega)
  have HCALL : Hid (Calls Tryz.prog 75 #[.pointer (some ⟨b, 6, none⟩), .pointer (some ⟨bm, 0, none⟩)] wx.drew fun e w' => e = .returned (.tuple #[.int .u64 a, .int .i64 0]) ∧
      ∃ w1, Below wx.heap.size wx w1 ∧ w' = (w1.setCell ⟨b, 6, none⟩ (.int .u64 (word fx a : Nat))).setCell ⟨b, 7, none⟩ (.int .i64 ((r.length : Int) + 1 - 1))) :=
    (listPop_ok (w := wx.drew) (b := b) (o := 6) MX.out.drew (hh 6 (by omega)) (hh 7 (by omega)) (hz 6 (by omega)) (hz 7 (by omega)) HBL ha (by simp <;> omega) (by simp <;> omega)).mono fun e w' ⟨he, w1, B, hw⟩ => ⟨he, w1, ⟨B.os, B.tape, B.output, B.size, B.block⟩, by simpa using hw⟩
  clear hh hz
  go_region_held3 (fun w' => w'.cell? ⟨b, 5, none⟩ = some (.pointer (some ⟨bm, 0, none⟩)))
    (first | exact c5 | exact KA.out | fail)
    (first
      | (go_at_call 75; refine HCALL.out.mono ?_; rintro e w2 ⟨rfl, w1, B1, hw2⟩; have HB1 := Lib.hid B1; have HW2 := Lib.hid hw2; have KA : Hid (w2.cell? ⟨b, 5, none⟩ = some (.pointer (some ⟨bm, 0, none⟩))) := (by show _ = _; rw [HW2.out, World.cell?_setCell_other _ _ _ _ (by simp), World.cell?_setCell_other _ _ _ _ (by simp)]; exact (HB1.out.cell (p := ⟨b, 5, none⟩) HBL).trans c5); clear B1 hw2)
      | fail)
  have O1 := Lib.hid (Obj_.of_block OX.out (HB1.out.block b HBL))
  have O2 : Hid (Obj_ w2 b 0 14 (upd (upd (pgV bm { p with free := a :: r, loc := [] }) 6 (.int .u64 (word fx a : Nat))) 7 (.int .i64 ((r.length : Int) + 1 - 1)))) := by
    have h := ((Obj_.set O1.out (i := 6) (by omega) (.int .u64 (word fx a : Nat))).set (i := 7) (by omega) (.int .i64 ((r.length : Int) + 1 - 1)))
    simp only [Nat.zero_add] at h
    rw [HW2.out]
    exact h
  have HG2 : Hid (wx.grownBy w2 (some b)) := by
    show World.grownBy _ _ _
    rw [HW2.out]
    exact only_set (only_set (grown_of_below HB1.out) _) _
  have k4 : w2.cell? ⟨b, 4, none⟩ = some (.int .i64 p.used) := by have h := Obj_.cell O2.out 4 (by omega); rwa [Nat.zero_add] at h
  have y4 : w2.frozen? ⟨b, 4, none⟩ = false := by have h := Obj_.frz O2.out 4 (by omega); rwa [Nat.zero_add] at h
  clear KA c5 HCALL
  go_wp2_with fail
  go_ret2
  refine ⟨rfl, ?_, only_set (GX.out.trans HG2.out) _⟩
  have O3 := Obj_.set O2.out (i := 4) (by omega) (.int .i64 ((p.used : Int) + 1))
  rw [Nat.zero_add] at O3
  refine O3.congr (fun j hj => ?_)
  rcases lt14 hj with rfl | rfl | rfl | rfl | rfl | rfl | rfl | rfl | rfl | rfl | rfl | rfl | rfl | rfl <;> first | rfl | (simp [upd, pgV, HNX.out]; done) | (simp [upd, pgV]; omega)

def Apart (a b : Nat) : Prop := b + 8 ≤ a ∨ a + 8 ≤ b
theorem linkAll_chain {f : Nat → Nat} : ∀ {L : List Nat}, L.Pairwise Apart → (∀ a ∈ L, 0 < a ∧ a < 18446744073709551616) → Chain (linkAll f L) (L.headD 0) L
  | [], _, _ => rfl
  | a :: r, hp, hb => by
    have hp' := List.pairwise_cons.1 hp
    have h := linkAll_chain (f := f) hp'.2 (fun x hx => hb x (by simp [hx]))
    refine Chain.cons h (by have := (hb a (by simp)).1; omega) ?_ (fun b hb' => hp'.1 b hb')
    cases r with
    | nil => simp
    | cons x l => exact (hb x (by simp)).2
theorem addrs_apart {p : Pg} {i k : Nat} (h8 : 8 ≤ p.s) : (addrs p i k).Pairwise Apart := by
  unfold addrs
  rw [List.pairwise_map]
  refine List.pairwise_lt_range.imp (fun {x y} hxy => ?_)
  have h1 : (i + (x + 1)) * p.s ≤ (i + y) * p.s := Nat.mul_le_mul_right _ (by omega)
  have h2 : (i + (x + 1)) * p.s = (i + x) * p.s + p.s := by rw [← Nat.add_assoc, Nat.succ_mul]
  unfold Apart
  omega
theorem addrs_mem {p : Pg} {i k x : Nat} (h : x ∈ addrs p i k) : ∃ j, j < k ∧ x = p.f + (i + j) * p.s := by
  obtain ⟨j, hj, rfl⟩ := List.mem_map.1 h
  exact ⟨j, List.mem_range.1 hj, rfl⟩

set_option maxRecDepth 100000 in
set_option maxHeartbeats 4000000 in
theorem pageAlloc_more {w : World} {b bm bb sz k : Nat} {p : Pg} {f : Nat → Nat} (H : PageAt w b bm p) (M : MemAt w bm bb sz f) (hb : b ≠ bb) (hbm : b ≠ bm) (hf : p.free = []) (hl : p.loc = []) (hR : RunOk p.f p.s p.n) (hs : p.f + p.n * p.s ≤ sz) (h8 : 8 ≤ p.s) (hf0 : 0 < p.f) (hm : p.made < p.n) (hu : p.used ≤ 1024) (hk : k = min 4 (p.n - p.made)) :
    Calls Tryz.prog 43 #[.pointer (some ⟨b, 0, none⟩)] w fun e w' => e = .returned (.tuple #[.int .u64 (p.f + p.made * p.s : Nat), .int .i64 0]) ∧ PageAt w' b bm { p with free := (addrs p p.made k).drop 1, made := p.made + k, used := p.used + 1 } ∧ MemAt w' bm bb sz (linkAll f (addrs p p.made k)) ∧ PFr w w' b bb := by
  have hh : ∀ j, j < 14 → w.cell? ⟨b, j, none⟩ = some (pgV bm p j) := fun j hj => by have := H.cell j hj; rwa [Nat.zero_add] at this
  have hz : ∀ j, j < 14 → w.frozen? ⟨b, j, none⟩ = false := fun j hj => by have := Obj_.frz H j hj; rwa [Nat.zero_add] at this
  have c7 : w.cell? ⟨b, 7, none⟩ = some (.int .i64 0) := by rw [hh 7 (by omega)]; simp [pgV, hf]
  have c6 : w.cell? ⟨b, 6, none⟩ = some (.int .u64 0) := by rw [hh 6 (by omega)]; simp [pgV, hf]
  have c8 : w.cell? ⟨b, 8, none⟩ = some (.int .u64 0) := by rw [hh 8 (by omega)]; simp [pgV, hl]
  have c9 : w.cell? ⟨b, 9, none⟩ = some (.int .i64 0) := by rw [hh 9 (by omega)]; simp [pgV, hl]
  have z6 := hz 6 (by omega)
  have z7 := hz 7 (by omega)
  have z8 := hz 8 (by omega)
  have z9 := hz 9 (by omega)
  have hn1 := hR.n1
  have HH := Lib.hid H
  have HM := Lib.hid M
  have HF := Lib.hid hf
  have HL := Lib.hid hl
  have HR := Lib.hid hR
  have HK := Lib.hid hk
  have hk0 : 0 < k := by omega
  have HA : Hid (addrs p p.made k = (p.f + p.made * p.s) :: (addrs p p.made k).drop 1) := addrs_drop (i := p.made) (j := 0) hk0
  have HE : Hid (p.f + (p.made + k) * p.s ≤ 1048576) := by
    show _ ≤ _
    have h1 : (p.made + k) * p.s ≤ p.n * p.s := Nat.mul_le_mul_right _ (by omega)
    have h2 := hR.end_
    have h3 : ((p.n * p.s : Nat) : Int) = (p.n : Int) * (p.s : Int) := by simp
    omega
  have ha : p.f + p.made * p.s + 8 ≤ sz := by
    have h1 : (p.made + 1) * p.s ≤ p.n * p.s := Nat.mul_le_mul_right _ (by omega)
    rw [Nat.succ_mul] at h1
    omega
  have HC : Hid (Chain (linkAll f (addrs p p.made k)) (p.f + p.made * p.s) ((p.f + p.made * p.s) :: (addrs p p.made k).drop 1)) := by
    show Chain _ _ _
    have h := linkAll_chain (f := f) (addrs_apart (p := p) (i := p.made) (k := k) h8) (fun x hx => by
      obtain ⟨j, hj, rfl⟩ := addrs_mem hx
      have h1 : (p.made + j) * p.s ≤ (p.made + k) * p.s := Nat.mul_le_mul_right _ (by omega)
      have := HE.out
      omega)
    have e : (addrs p p.made k).headD 0 = p.f + p.made * p.s := by rw [HA.out]; rfl
    rw [e, HA.out] at h
    rw [HA.out]
    exact h
  clear hh hz H M hf hl hR hk
  go_enter Tryz.func43, Tryz.ntmps43
  go_wp2_with fail
  have O4 := (((HH.out.set (i := 6) (by omega) (.int .u64 0)).set (i := 7) (by omega) (.int .i64 0)).set (i := 8) (by omega) (.int .u64 0)).set (i := 9) (by omega) (.int .i64 0)
  simp only [Nat.zero_add] at O4
  have OY : Hid (PageAt ((((w.setCell ⟨b, 6, none⟩ (.int .u64 0)).setCell ⟨b, 7, none⟩ (.int .i64 0)).setCell ⟨b, 8, none⟩ (.int .u64 0)).setCell ⟨b, 9, none⟩ (.int .i64 0)) b bm p) := by
    refine O4.congr (fun j hj => ?_)
    rcases lt14 hj with rfl | rfl | rfl | rfl | rfl | rfl | rfl | rfl | rfl | rfl | rfl | rfl | rfl | rfl <;> first | rfl | (simp [upd, pgV, HF.out, HL.out]; done)
  have MY : Hid (MemAt ((((w.setCell ⟨b, 6, none⟩ (.int .u64 0)).setCell ⟨b, 7, none⟩ (.int .i64 0)).setCell ⟨b, 8, none⟩ (.int .u64 0)).setCell ⟨b, 9, none⟩ (.int .i64 0)) bm bb sz f) := (((HM.out.set_far 6 _ hb hbm).set_far 7 _ hb hbm).set_far 8 _ hb hbm).set_far 9 _ hb hbm
  have GY : Hid (w.grownBy ((((w.setCell ⟨b, 6, none⟩ (.int .u64 0)).setCell ⟨b, 7, none⟩ (.int .i64 0)).setCell ⟨b, 8, none⟩ (.int .u64 0)).setCell ⟨b, 9, none⟩ (.int .i64 0)) (some b)) := only_set (only_set (only_set (only_set (World.grownBy.refl w _) _) _) _) _
  clear O4 c6 c7 c8 c9 z6 z7 z8 z9 HH HM
  generalize ((((w.setCell ⟨b, 6, none⟩ (.int .u64 0)).setCell ⟨b, 7, none⟩ (.int .i64 0)).setCell ⟨b, 8, none⟩ (.int .u64 0)).setCell ⟨b, 9, none⟩ (.int .i64 0)) = wy at *
  have hrl : ((addrs p p.made k).drop 1).length ≤ 3 := by simp [addrs_len]; have := HK.out; omega
  (with_reducible refine (pageMore_ok OY.out MY.out hb hbm HF.out HR.out hs h8 hf0 (by omega) HK.out).mono ?_)
  rintro e wx ⟨rfl, O5, M5, G5⟩
  have OX : Hid (PageAt wx b bm { p with free := (p.f + p.made * p.s) :: (addrs p p.made k).drop 1, made := p.made + k, loc := [] }) := by
    show PageAt _ _ _ _
    rw [← HA.out]
    refine Obj_.congr O5 (fun j hj => ?_)
    rcases lt14 hj with rfl | rfl | rfl | rfl | rfl | rfl | rfl | rfl | rfl | rfl | rfl | rfl | rfl | rfl <;> first | rfl | (simp [pgV, HL.out]; done)
  have MX := Lib.hid M5
  have GX : Hid (PFr w wx b bb) := (PFr.grown GY.out).trans G5
  clear O5 M5 G5 OY MY GY HA
  generalize hfx : linkAll f (addrs p p.made k) = fx at *
  generalize hrx : (addrs p p.made k).drop 1 = r at *
  generalize hax : p.f + p.made * p.s = a at *
  have HFX := Lib.hid hfx
  have HRX := Lib.hid hrx
  have HAX := Lib.hid hax
  clear hfx hrx hax
  have e7 : ((r.length : Int) + 1 == 0) = false := beq_eq_false_iff_ne.2 (by omega)
  have c7 : wx.cell? ⟨b, 7, none⟩ = some (.int .i64 ((r.length : Int) + 1)) := by have h := Obj_.cell OX.out 7 (by omega); rwa [Nat.zero_add] at h
  clear HF HR HE
  go_wp2_with fail
  have HBL : b < wx.heap.size := Obj_.lt OX.out (by omega)
  have HNX : Hid (word fx a = r.headD 0) := by show _ = _; exact HC.out.2.2.head
  have hh : ∀ j, j < 14 → wx.cell? ⟨b, j, none⟩ = some (pgV bm { p with free := a :: r, made := p.made + k, loc := [] } j) := fun j hj => by have := OX.out.cell j hj; rwa [Nat.zero_add] at this
  have hz : ∀ j, j < 14 → wx.frozen? ⟨b, j, none⟩ = false := fun j hj => by have := Obj_.frz OX.out j hj; rwa [Nat.zero_add] at this
  have c5 : wx.cell? ⟨b, 5, none⟩ = some (.pointer (some ⟨bm, 0, none⟩)) := hh 5 (by omega)
  have HCALL : Hid (Calls Tryz.prog 75 #[.pointer (some ⟨b, 6, none⟩), .pointer (some ⟨bm, 0, none⟩)] wx.drew fun e w' => e = .returned (.tuple #[.int .u64 a, .int .i64 0]) ∧
      ∃ w1, Below wx.heap.size wx w1 ∧ w' = (w1.setCell ⟨b, 6, none⟩ (.int .u64 (word fx a : Nat))).setCell ⟨b, 7, none⟩ (.int .i64 ((r.length : Int) + 1 - 1))) :=
    (listPop_ok (w := wx.drew) (b := b) (o := 6) MX.out.drew (hh 6 (by omega)) (hh 7 (by omega)) (hz 6 (by omega)) (hz 7 (by omega)) HBL ha (by simp <;> omega) (by simp <;> omega)).mono fun e w' ⟨he, w1, B, hw⟩ => ⟨he, w1, ⟨B.os, B.tape, B.output, B.size, B.block⟩, by simpa using hw⟩
  clear hh hz
  go_region_held3 (fun w' => w'.cell? ⟨b, 5, none⟩ = some (.pointer (some ⟨bm, 0, none⟩)))
    (first | exact c5 | exact KA.out | fail)
    (first
      | (go_at_call 75; refine HCALL.out.mono ?_; rintro e w2 ⟨rfl, w1, B1, hw2⟩; have HB1 := Lib.hid B1; have HW2 := Lib.hid hw2; have KA : Hid (w2.cell? ⟨b, 5, none⟩ = some (.pointer (some ⟨bm, 0, none⟩))) := (by show _ = _; rw [HW2.out, World.cell?_setCell_other _ _ _ _ (by simp), World.cell?_setCell_other _ _ _ _ (by simp)]; exact (HB1.out.cell (p := ⟨b, 5, none⟩) HBL).trans c5); clear B1 hw2)
      | fail)
  have O1 := Lib.hid (Obj_.of_block OX.out (HB1.out.block b HBL))
  have O2 : Hid (Obj_ w2 b 0 14 (upd (upd (pgV bm { p with free := a :: r, made := p.made + k, loc := [] }) 6 (.int .u64 (word fx a : Nat))) 7 (.int .i64 ((r.length : Int) + 1 - 1)))) := by
    have h := ((Obj_.set O1.out (i := 6) (by omega) (.int .u64 (word fx a : Nat))).set (i := 7) (by omega) (.int .i64 ((r.length : Int) + 1 - 1)))
    simp only [Nat.zero_add] at h
    rw [HW2.out]
    exact h
  have HG2 : Hid (wx.grownBy w2 (some b)) := by
    show World.grownBy _ _ _
    rw [HW2.out]
    exact only_set (only_set (grown_of_below HB1.out) _) _
  have k4 : w2.cell? ⟨b, 4, none⟩ = some (.int .i64 p.used) := by have h := Obj_.cell O2.out 4 (by omega); rwa [Nat.zero_add] at h
  have y4 : w2.frozen? ⟨b, 4, none⟩ = false := by have h := Obj_.frz O2.out 4 (by omega); rwa [Nat.zero_add] at h
  clear KA c5 HCALL
  go_wp2_with fail
  go_ret2
  try rw [HFX.out]
  try rw [HRX.out]
  try rw [HAX.out]
  refine ⟨rfl, ?_, MX.out.stays ((only_set HG2.out _).block bm MX.out.lt_bm (by simpa using hbm.symm)) ((only_set HG2.out _).block bb MX.out.lt_bb (by simpa using hb.symm)), GX.out.trans (PFr.grown (only_set HG2.out _))⟩
  have O3 := Obj_.set O2.out (i := 4) (by omega) (.int .i64 ((p.used : Int) + 1))
  rw [Nat.zero_add] at O3
  refine O3.congr (fun j hj => ?_)
  rcases lt14 hj with rfl | rfl | rfl | rfl | rfl | rfl | rfl | rfl | rfl | rfl | rfl | rfl | rfl | rfl <;> first | rfl | (simp [upd, pgV, HNX.out, HL.out]; done) | (simp [upd, pgV]; omega)
end Go.Proofs.YtbljphaklciinaaGreat

/- Layer 9 (page): Alloc of a page that has no block left. -/
namespace Go.Proofs.YtbljphaklciinaaGreat
open Go.RowKit

theorem listPop_none {w : World} {b o bm : Nat} (h1 : w.cell? ⟨b, o + 1, none⟩ = some (.int .i64 0)) :
    Calls Tryz.prog 75 #[.pointer (some ⟨b, o, none⟩), .pointer (some ⟨bm, 0, none⟩)] w fun e w' => e = .returned (.tuple #[.int .u64 0, .int .i64 5]) ∧ w' = w := by
  go_enter Tryz.func75, Tryz.ntmps75
  go_wp2_with fail
  go_ret2
  exact ⟨rfl, rfl⟩

set_option maxRecDepth 100000 in
set_option maxHeartbeats 4000000 in
theorem pageAlloc_full {w : World} {b bm bb sz : Nat} {p : Pg} {f : Nat → Nat} (H : PageAt w b bm p) (M : MemAt w bm bb sz f) (hb : b ≠ bb) (hbm : b ≠ bm) (hf : p.free = []) (hl : p.loc = []) (hR : RunOk p.f p.s p.n) (hs : p.f + p.n * p.s ≤ sz) (h8 : 8 ≤ p.s) (hf0 : 0 < p.f) (hm : p.made = p.n) :
    Calls Tryz.prog 43 #[.pointer (some ⟨b, 0, none⟩)] w fun e w' => e = .returned (.tuple #[.int .u64 0, .int .i64 4]) ∧ PageAt w' b bm p ∧ MemAt w' bm bb sz f ∧ PFr w w' b bb := by
  have hh : ∀ j, j < 14 → w.cell? ⟨b, j, none⟩ = some (pgV bm p j) := fun j hj => by have := H.cell j hj; rwa [Nat.zero_add] at this
  have hz : ∀ j, j < 14 → w.frozen? ⟨b, j, none⟩ = false := fun j hj => by have := Obj_.frz H j hj; rwa [Nat.zero_add] at this
  have c7 : w.cell? ⟨b, 7, none⟩ = some (.int .i64 0) := by rw [hh 7 (by omega)]; simp [pgV, hf]
  have c6 : w.cell? ⟨b, 6, none⟩ = some (.int .u64 0) := by rw [hh 6 (by omega)]; simp [pgV, hf]
  have c8 : w.cell? ⟨b, 8, none⟩ = some (.int .u64 0) := by rw [hh 8 (by omega)]; simp [pgV, hl]
  have c9 : w.cell? ⟨b, 9, none⟩ = some (.int .i64 0) := by rw [hh 9 (by omega)]; simp [pgV, hl]
  have z6 := hz 6 (by omega)
  have z7 := hz 7 (by omega)
  have z8 := hz 8 (by omega)
  have z9 := hz 9 (by omega)
  have hn1 := hR.n1
  have HH := Lib.hid H
  have HM := Lib.hid M
  have HF := Lib.hid hf
  have HL := Lib.hid hl
  have HR := Lib.hid hR
  clear hh hz H M hf hl hR
  go_enter Tryz.func43, Tryz.ntmps43
  go_wp2_with fail
  have O4 := (((HH.out.set (i := 6) (by omega) (.int .u64 0)).set (i := 7) (by omega) (.int .i64 0)).set (i := 8) (by omega) (.int .u64 0)).set (i := 9) (by omega) (.int .i64 0)
  simp only [Nat.zero_add] at O4
  have OY : Hid (PageAt ((((w.setCell ⟨b, 6, none⟩ (.int .u64 0)).setCell ⟨b, 7, none⟩ (.int .i64 0)).setCell ⟨b, 8, none⟩ (.int .u64 0)).setCell ⟨b, 9, none⟩ (.int .i64 0)) b bm p) := by
    refine O4.congr (fun j hj => ?_)
    rcases lt14 hj with rfl | rfl | rfl | rfl | rfl | rfl | rfl | rfl | rfl | rfl | rfl | rfl | rfl | rfl <;> first | rfl | (simp [upd, pgV, HF.out, HL.out]; done)
  have MY : Hid (MemAt ((((w.setCell ⟨b, 6, none⟩ (.int .u64 0)).setCell ⟨b, 7, none⟩ (.int .i64 0)).setCell ⟨b, 8, none⟩ (.int .u64 0)).setCell ⟨b, 9, none⟩ (.int .i64 0)) bm bb sz f) := (((HM.out.set_far 6 _ hb hbm).set_far 7 _ hb hbm).set_far 8 _ hb hbm).set_far 9 _ hb hbm
  have GY : Hid (w.grownBy ((((w.setCell ⟨b, 6, none⟩ (.int .u64 0)).setCell ⟨b, 7, none⟩ (.int .i64 0)).setCell ⟨b, 8, none⟩ (.int .u64 0)).setCell ⟨b, 9, none⟩ (.int .i64 0)) (some b)) := only_set (only_set (only_set (only_set (World.grownBy.refl w _) _) _) _) _
  clear O4 c6 c7 c8 c9 z6 z7 z8 z9 HH HM
  generalize ((((w.setCell ⟨b, 6, none⟩ (.int .u64 0)).setCell ⟨b, 7, none⟩ (.int .i64 0)).setCell ⟨b, 8, none⟩ (.int .u64 0)).setCell ⟨b, 9, none⟩ (.int .i64 0)) = wy at *
  have hk : (0 : Nat) = min 4 (p.n - p.made) := by omega
  (with_reducible refine (pageMore_ok OY.out MY.out hb hbm HF.out HR.out hs h8 hf0 (by omega) hk).mono ?_)
  rintro e wx ⟨rfl, O5, M5, G5⟩
  have OX : Hid (PageAt wx b bm p) := by
    show PageAt _ _ _ _
    refine Obj_.congr O5 (fun j hj => ?_)
    rcases lt14 hj with rfl | rfl | rfl | rfl | rfl | rfl | rfl | rfl | rfl | rfl | rfl | rfl | rfl | rfl <;> first | rfl | (simp [pgV, HF.out, addrs]; done)
  have MX : Hid (MemAt wx bm bb sz f) := M5
  have GX : Hid (PFr w wx b bb) := (PFr.grown GY.out).trans G5
  clear O5 M5 G5 OY MY GY hk
  have c7 : wx.cell? ⟨b, 7, none⟩ = some (.int .i64 0) := by have h := Obj_.cell OX.out 7 (by omega); rw [Nat.zero_add] at h; rw [h]; simp [pgV, HF.out]
  have c5 : wx.cell? ⟨b, 5, none⟩ = some (.pointer (some ⟨bm, 0, none⟩)) := by have h := Obj_.cell OX.out 5 (by omega); rwa [Nat.zero_add] at h
  have HCALL := Lib.hid (listPop_none (w := wx.drew) (b := b) (o := 6) (bm := bm) c7)
  clear HF HL HR
  go_wp2_with fail
  go_region_held3 (fun w' => w'.cell? ⟨b, 5, none⟩ = some (.pointer (some ⟨bm, 0, none⟩)))
    (first | exact c5 | exact KA.out | fail)
    (first
      | (go_at_call 75; refine HCALL.out.mono ?_; rintro e w2 ⟨rfl, rfl⟩; have KA : Hid (wx.drew.cell? ⟨b, 5, none⟩ = some (.pointer (some ⟨bm, 0, none⟩))) := c5)
      | fail)
  go_wp2_with fail
  go_ret2
  exact ⟨rfl, Obj_.drew OX.out, MX.out.drew, ⟨GX.out.os, GX.out.tape, GX.out.output, GX.out.size, GX.out.block⟩⟩
end Go.Proofs.YtbljphaklciinaaGreat

/- Layer 9 (page): New. -/
namespace Go.Proofs.YtbljphaklciinaaGreat
open Go.RowKit

set_option maxRecDepth 100000 in
set_option maxHeartbeats 4000000 in
theorem pageNew_ok {w : World} {bm bb sz F S N : Nat} {f : Nat → Nat} (M : MemAt w bm bb sz f) (hR : RunOk F S N) (hf0 : 0 < F) (hs : 16 ≤ S) (hn : 1 ≤ N) (he : F + N * S ≤ sz) :
    Calls Tryz.prog 139 #[.pointer (some ⟨bm, 0, none⟩), .agg #[.int .u64 F, .int .u64 S, .int .i64 N]] w fun e w' => ∃ q, e = .returned (.tuple #[.pointer (some ⟨q, 0, none⟩), .int .i64 0]) ∧ w.heap.size ≤ q ∧ PageAt w' q bm { f := F, s := S, n := N, made := 0, used := 0, free := [], loc := [], word := 0, tag := 0, asked := 0, head := 0 } ∧ Below w.heap.size w w' := by
  have HM := Lib.hid M
  have HR := Lib.hid hR
  have hn1 := hR.n1
  clear M hR
  go_enter Tryz.func139, Tryz.ntmps139
  go_wp2_with fail
  have he2 : 0 < (F : Int) + (N : Int) * (S : Int) := by have := HR.out.ns; omega
  have he0 : (((F : Int) + (N : Int) * (S : Int)) == 0) = false := beq_eq_false_iff_ne.2 (by omega)
  have hf1 : ((F : Int) == 0) = false := beq_eq_false_iff_ne.2 (by omega)
  have he1 : (F : Int) + (N : Int) * (S : Int) ≤ sz := by have : ((N * S : Nat) : Int) = (N : Int) * (S : Int) := by simp
                                                          omega
  (with_reducible refine (end_ok _ F S N HR.out).mono ?_)
  rintro e w1 ⟨rfl, B1⟩
  obtain ⟨k0, k1, k2⟩ := cells3 B1
  have HB1 := Lib.hid B1
  clear B1
  have hs1 : w.heap.size < w1.heap.size := by have h := HB1.out.size; simp at h; omega
  have BW1 : Hid (Below w.heap.size w w1) := by
    have h := (Below.refl w.heap.size w).alloc (Nat.le_refl _) (.cells #[.int .u64 F, .int .u64 S, .int .i64 N] 141)
    have h2 := HB1.out
    exact h.trans ⟨h2.os, h2.tape, h2.output, h2.size, fun k hk => h2.block k (by simp; omega)⟩
  go_wp2_with fail
  (with_reducible refine (end_ok _ F S N HR.out).mono ?_)
  rintro e w2 ⟨rfl, B2⟩
  have j0 := (B2.cell (p := ⟨w.heap.size, 0, none⟩) hs1).trans k0
  have j1 := (B2.cell (p := ⟨w.heap.size, 1, none⟩) hs1).trans k1
  have j2 := (B2.cell (p := ⟨w.heap.size, 2, none⟩) hs1).trans k2
  have BW2 : Hid (Below w.heap.size w w2) := BW1.out.trans ⟨B2.os, B2.tape, B2.output, B2.size, fun k hk => B2.block k (by omega)⟩
  have HM2 := Lib.hid (HM.out.below BW2.out (Nat.le_refl _))
  clear B2 k0 k1 k2
  go_wp2_with fail
  (with_reducible refine (memSize HM2.out).mono ?_)
  rintro e w3 ⟨rfl, rfl⟩
  go_wp2_with fail
  go_ret2
  refine ⟨w2.heap.size, rfl, BW2.out.size, ?_, BW2.out.alloc BW2.out.size _⟩
  refine Obj_.congr (Obj_.new w2 _ _) (fun j hj => ?_)
  rcases lt14 hj with rfl | rfl | rfl | rfl | rfl | rfl | rfl | rfl | rfl | rfl | rfl | rfl | rfl | rfl <;> first | rfl | (simp [pgV]; done)
end Go.Proofs.YtbljphaklciinaaGreat

/- Layer 5 (class): Size. -/
namespace Go.Proofs.YtbljphaklciinaaGreat
open Go.RowKit

/-- The classes' sizes. -/
def szs : List Nat := [16, 32, 48, 64, 96, 128, 192, 256, 384, 512, 768, 1024]
def szV : Value := .agg #[.int .u64 16, .int .u64 32, .int .u64 48, .int .u64 64, .int .u64 96, .int .u64 128, .int .u64 192, .int .u64 256, .int .u64 384, .int .u64 512, .int .u64 768, .int .u64 1024]

set_option maxRecDepth 100000 in
theorem sizes_ok (w : World) : Calls Tryz.prog 36 #[] w fun e w' => e = .returned szV ∧ Below w.heap.size w w' := by
  go_enter Tryz.func36, Tryz.ntmps36
  go_wp2_with fail
  refine bodyPost_ret (v := szV) (by simp [results, Tryz.results36, go_sem, szV]; done) rfl ?_
  exact ⟨rfl, (Below.refl w.heap.size w).alloc (Nat.le_refl _) _⟩

set_option maxRecDepth 100000 in
set_option maxHeartbeats 4000000 in
theorem size_ok (w : World) (c : Nat) (hc : c < 12) : Calls Tryz.prog 10 #[.int .i64 c] w fun e w' => e = .returned (.tuple #[.int .u64 (szs.getD c 0 : Nat), .int .i64 0]) ∧ Below w.heap.size w w' := by
  rcases (show c = 0 ∨ c = 1 ∨ c = 2 ∨ c = 3 ∨ c = 4 ∨ c = 5 ∨ c = 6 ∨ c = 7 ∨ c = 8 ∨ c = 9 ∨ c = 10 ∨ c = 11 by omega) with rfl | rfl | rfl | rfl | rfl | rfl | rfl | rfl | rfl | rfl | rfl | rfl <;>
  · go_enter Tryz.func10, Tryz.ntmps10
    go_wp2_with fail
    (with_reducible refine (sizes_ok _).mono ?_)
    rintro e w1 ⟨rfl, B1⟩
    have HB := Lib.hid B1
    clear B1
    unfold szV
    go_wp2_with fail
    go_ret2
    first | exact ⟨rfl, HB.out.alloc HB.out.size _⟩ | exact ⟨rfl, HB.out⟩
end Go.Proofs.YtbljphaklciinaaGreat

/- Layer 5 (class): Slices, Blocks. -/
namespace Go.Proofs.YtbljphaklciinaaGreat
open Go.RowKit

def sls : List Nat := [1, 1, 1, 1, 1, 1, 1, 1, 2, 2, 4, 4]

set_option maxRecDepth 100000 in
set_option maxHeartbeats 4000000 in
theorem slices_ok (w : World) (c : Nat) (hc : c < 12) : Calls Tryz.prog 70 #[.int .i64 c] w fun e w' => e = .returned (.tuple #[.int .i64 (sls.getD c 0 : Nat), .int .i64 0]) ∧ Below w.heap.size w w' := by
  rcases (show c = 0 ∨ c = 1 ∨ c = 2 ∨ c = 3 ∨ c = 4 ∨ c = 5 ∨ c = 6 ∨ c = 7 ∨ c = 8 ∨ c = 9 ∨ c = 10 ∨ c = 11 by omega) with rfl | rfl | rfl | rfl | rfl | rfl | rfl | rfl | rfl | rfl | rfl | rfl <;>
  · have HS := Lib.hid (size_ok w _ hc)
    simp only [szs, List.getD_cons_zero, List.getD_cons_succ] at HS
    go_enter Tryz.func70, Tryz.ntmps70
    go_wp2_with fail
    refine HS.out.mono ?_
    rintro e w1 ⟨rfl, B1⟩
    have HB := Lib.hid B1
    clear B1 HS
    go_wp2_with fail
    go_ret2
    exact ⟨rfl, HB.out⟩
end Go.Proofs.YtbljphaklciinaaGreat
