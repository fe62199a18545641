/- Walks of the program's functions, and plain laws on what they compute, text by text (FullW, FullR, RowHeapFull). No condition. -/
import Derived.Test.YtbljphaklciinaaGreatHeapFull01

/- HeapFull, walked: as many blocks come of a class as its segments' pages have; one given back comes again. -/
namespace Go.Proofs.YtbljphaklciinaaGreat
open Go.RowKit
variable {ro ro' : Nat → Role} {hn : Nat} {w w' : World} {B bm bb sz : Nat} {f f' : Nat → Nat} {h h' : HeapR} {S : List SegR} {c k x n k' r : Nat} {U : List Nat} {a : ArR} {W : World}

theorem szs_mono : ∀ c, c < 12 → ∀ j, j < c → szs.getD j 0 < szs.getD c 0 := by decide

/-- get of a class's size. -/
theorem get_class (L : LawH W ro 0 w bm bb (n * 16384) f h a) (K : KA n k r h a) (hn : n ≤ 16) (hr : r < 1000000) (hc : c < 12) :
    Calls Tryz.prog 11 #[.pointer (some ⟨h.bh, 0, none⟩), .int .u64 (szs.getD c 0 : Nat)] w (GetTo W ro w bm bb n k r f h (c : Int) c (sls.getD c 0) (szs.getD c 0) (blks.getD c 0) (szs.getD c 0 : Nat)) := by
  have hs := szs_in hc
  have hl : sls.getD c 0 ≤ 4 := by
    rw [sls_of hc]
    split
    · omega
    · split <;> omega
  refine get_walk (m := (szs.getD c 0 : Nat)) L K hn hr (.inr ⟨rfl, hc, rfl, rfl, rfl⟩ : PlanOk (c : Int) (sls.getD c 0 : Nat) c (sls.getD c 0) (szs.getD c 0) (blks.getD c 0)) (by omega) (by omega) (by omega) (by omega) ?_
  refine (for_small w (szs.getD c 0) hs.2).mono ?_
  rintro e w' ⟨c', hc', h1, h2, rfl, hb⟩
  have : c' = c := by
    rcases Nat.lt_trichotomy c' c with h | h | h
    · have := szs_mono c hc c' h; omega
    · exact h
    · have := h2 c h; omega
  subst this
  exact ⟨rfl, hb⟩

/-- What HeapFull holds: the heap, the blocks that came, in a row of its own. -/
structure FS (W : World) (ro : Nat → Role) (bh ba n c k r : Nat) (U : List Nat) (w : World) : Prop where
  st : ∃ bm bb f h a, LawH W ro 0 w bm bb (n * 16384) f h a ∧ KA n k r h a ∧ FInv c k h U ∧ h.bh = bh ∧ h.ba = ba

def rowU (U : List Nat) : List Value := U.map fun x => .int .u64 (x : Nat)
/-- The law's own row. -/
def OwnU (W : World) (ro : Nat → Role) (v : Value) (U : List Nat) (w : World) : Prop := w.ownsRow W.heap.size 29 1 v U.length (rowU U) ∧ ∀ b, v.ownBlock = some b → ro b = .other

theorem OwnU.stay {v : Value} (H : OwnU W ro v U w) (hs : Stay ro w ro' w') : OwnU W ro' v U w' :=
  ⟨own_stays H.1 (fun k hk => (hs.2 k (H.1.lt k hk).2 (H.2 k hk)).1), fun b hb => (hs.2 b (H.1.lt b hb).2 (H.2 b hb)).2⟩

theorem get_fs (bh ba : Nat) {v : Value} (F : FS W ro bh ba n c k r U w) (O : OwnU W ro v U w) (hn : n ≤ 16) (hr : r < 1000000) (hc : c < 12) :
    Calls Tryz.prog 11 #[.pointer (some ⟨bh, 0, none⟩), .int .u64 (szs.getD c 0 : Nat)] w fun e w' =>
      ∃ ro' k', OwnU W ro' v U w' ∧ ((∃ x, e = .returned (.tuple #[.int .u64 (x : Nat), .int .u64 (szs.getD c 0 : Nat), .bool true]) ∧ FS W ro' bh ba n c k' (r + 1) (U ++ [x]) w') ∨
        (e = .returned (.tuple #[.int .u64 0, .int .u64 0, .bool false]) ∧ k' = n ∧ ∃ bm bb f h a, LawH W ro' 0 w' bm bb (n * 16384) f h a ∧ KA n n (r + 1) h a ∧ FInv c n h U ∧ h.bh = bh ∧ h.ba = ba ∧ h.Q1 c = [] ∧ NoRoom h (sls.getD c 0))) := by
  obtain ⟨bm, bb, f, h, a, L, K, I, rfl, rfl⟩ := F.st
  refine (get_class L K hn hr hc).mono ?_
  rintro e w' ⟨y, f', h', k', ro', a', rfl, hg, L', K', e1, e2, hs⟩
  have ho := L.hp.hp.qo c (by omega)
  rcases I.got L.hp.hp.sok ho (L.hp.hp.linkOk (by omega)) K.pls hc hg with ⟨x, rfl, I'⟩ | ⟨rfl, I', h1, h2, rfl⟩
  · exact ⟨ro', k', O.stay hs, .inl ⟨x, rfl, ⟨bm, bb, f', h', a', L', K', I', e1, e2⟩⟩⟩
  · exact ⟨ro', k', O.stay hs, .inr ⟨rfl, rfl, bm, bb, f', h', a', L', K', I', e1, e2, h1, h2⟩⟩

theorem FS.len {bh ba : Nat} (F : FS W ro bh ba n c k r U w) (hn : n ≤ 2) (hc : c < 12) : U.length ≤ 1920 := by
  obtain ⟨bm, bb, f, h, a, L, K, I, rfl, rfl⟩ := F.st
  have h1 := I.bound L.hp.hp.sok hc
  have h2 := K.kn
  have h3 : k * 960 ≤ 2 * 960 := Nat.mul_le_mul_right _ (by omega)
  omega

theorem FS.size {bh ba : Nat} (F : FS W ro bh ba n c k r U w) : W.heap.size ≤ w.heap.size := by
  obtain ⟨bm, bb, f, h, a, L, _⟩ := F.st
  exact L.below.size
theorem FS.app {bh ba : Nat} {v : Value} {U0 : List Nat} {o : Obj} (F : FS W ro bh ba n c k r U w) (O : OwnU W ro v U0 w) (hg : (w.alloc o).grownBy w' v.ownBlock) : FS W (cutR ro w.heap.size) bh ba n c k r U w' := by
  obtain ⟨bm, bb, f, h, a, L, K, I, e1, e2⟩ := F.st
  refine ⟨bm, bb, f, h, a, ((L.cut rfl).on ((Below.refl _ _).alloc (Nat.le_refl _) _)).own hg (fun b hb => ⟨?_, (O.1.lt b hb).1⟩), K, I, e1, e2⟩
  unfold cutR
  rw [if_pos (O.1.lt b hb).2]
  exact O.2 b hb
theorem OwnU.app {v v' : Value} {o : Obj} {x : Nat} (O : OwnU W ro v U w) (hown : w'.ownsRow W.heap.size 29 1 v' (U.length + 1) (rowU U ++ [.int .u64 (x : Nat)])) (hat : v'.ownBlock = v.ownBlock ∨ v'.ownBlock = some (w.alloc o).heap.size) : OwnU W (cutR ro w.heap.size) v' (U ++ [x]) w' := by
  refine ⟨?_, fun b hb => ?_⟩
  · rw [show (U ++ [x]).length = U.length + 1 by simp, show rowU (U ++ [x]) = rowU U ++ [.int .u64 (x : Nat)] by simp [rowU]]
    exact hown
  · unfold cutR
    rcases hat with e | e
    · rw [if_pos (O.1.lt b (e ▸ hb)).2]
      exact O.2 b (e ▸ hb)
    · rw [hb] at e
      have : b = (w.alloc o).heap.size := Option.some.inj e
      rw [if_neg (by rw [this]; simp)]

theorem KA.arSeg (K : KA n k r h a) (hn : n ≤ 64) : ArSeg a h.S := ⟨K.sorted, by rw [K.len]; have := K.kn; omega, fun s hs => by
  have h1 := K.pls s hs
  have h2 := K.kn
  refine ⟨by rw [K.en]; omega, by rw [K.T]; simpa using h1, ?_⟩
  rw [K.R]
  exact List.mem_map.2 ⟨s.pl, by simpa using h1, rfl⟩⟩

theorem local_full {v : Value} (L : LawH W ro 0 w bm bb (n * 16384) f h a) (K : KA n k r h a) (I : FInv c k h U) (O : OwnU W ro v U w) (hU : 0 < U.length) (hq : h.Q1 c = []) (hc : c < 12) :
    Calls Tryz.prog 15 #[.pointer (some ⟨h.bh, 0, none⟩), .int .i64 c] w fun e w' => e = .returned (.tuple #[.int .u64 0, .int .i64 4]) ∧
      ∃ ro' h', LawH W ro' 0 w' bm bb (n * 16384) f h' a ∧ KA n k r h' a ∧ FInv c k h' U ∧ OwnU W ro' v U w' ∧ h'.bh = h.bh ∧ h'.ba = h.ba ∧ h'.Q1 c = [] := by
  rcases O.1.2 with ⟨_, h0⟩ | ⟨g, cap, cur, hv, hgB, hh, _⟩
  · omega
  · have X : LX W ro w bm bb f h a n k r g (.cells cur 29) := ⟨L, K, O.2 g (by rw [hv]; rfl), hh⟩
    refine (local_g X hc).mono ?_
    rintro e w' (⟨y, f', h', ro', rfl, ⟨kk, s, hs, p, hp, pg', k1, k2, _, hkey, _⟩, _⟩ | ⟨h', ro', rfl, hg, L', e1, e2, hs⟩)
    · rw [hq] at hkey
      simp at hkey
    · obtain ⟨I', hq', _⟩ := I.fill L.hp.hp.sok hg
      exact ⟨rfl, ro', h', L'.law, L'.ka, I', O.stay hs, e1, e2, hq'⟩

theorem free_full {v : Value} {x : Nat} (L : LawH W ro 0 w bm bb (n * 16384) f h a) (K : KA n k r h a) (I : FInv c k h U) (O : OwnU W ro v U w) (hn : n ≤ 16) (hq : h.Q1 c = []) (hc : c < 12) (hx : x ∈ U) :
    Calls Tryz.prog 16 #[.pointer (some ⟨h.bh, 0, none⟩), .int .u64 x] w fun e w' => e = .returned (.int .i64 0) ∧
      ∃ ro' f' s p F k1 k2, s ∈ h.S ∧ p ∈ s.P ∧ p.pg.full ∧ LawH W ro' 0 w' bm bb (n * 16384) f' (({ h with S := setPg s.pl p.at_ (p.pg.gave x) h.S } : HeapR).queued c [keyOf s p] F k1 k2) a ∧ KA n k r (({ h with S := setPg s.pl p.at_ (p.pg.gave x) h.S } : HeapR).queued c [keyOf s p] F k1 k2) a ∧ OwnU W ro' v U w' := by
  obtain ⟨s, hs, p, hp, q, hqm, hxe, ho⟩ := I.use x hx
  have hcls := (I.kind s hs p hp).1
  have huf := I.used_full L.hp.hp.sok hq hs hp
  have hN := (blks_le hc).1
  refine (free_ok L.hp L.ar (K.arSeg (by omega)) hs hp (i := c) (by omega) (by rw [hcls]; unfold rowIx; rw [if_neg (by omega), if_pos (by omega)]; simp) hqm hxe ho).mono ?_
  rintro e w' ⟨rfl, ro', R, F, k1, k2, S', a', he, rr, A, H, hk⟩
  rcases hk with ⟨_, rfl, rfl, rfl, rfl⟩ | ⟨h1, _⟩
  · have hkey : keyOf s p ∈ h.Q2 c := by
      rcases I.keys s hs p hp with h1 | h1
      · rw [hq] at h1; cases h1
      · exact h1
    have eW : wakeS (h.Q1 c) (h.Q2 c) ((s.pl * 16 + p.at_ : Nat) : Int) = (0, [keyOf s p], (h.Q2 c).erase (keyOf s p)) := by
      unfold wakeS
      rw [if_pos (show ((s.pl * 16 + p.at_ : Nat) : Int) ∈ h.Q2 c from hkey), hq]
      rfl
    rw [eW] at H
    exact ⟨rfl, ro', _, s, p, _, k1, k2, hs, hp, I.allfull hq hs hp, L.step H A rr hpT_other he, K.keep setPg_pls, O.stay (Stay.of_fr rr hpT_other he)⟩
  · omega

theorem get_again {v : Value} {x : Nat} {s : SegR} {p : PageR} {F : List Int} {k1 k2 : Option Nat} (hs : s ∈ h.S) (hp : p ∈ s.P) (hf : p.pg.full) (L : LawH W ro 0 w bm bb (n * 16384) f (({ h with S := setPg s.pl p.at_ (p.pg.gave x) h.S } : HeapR).queued c [keyOf s p] F k1 k2) a)
    (K : KA n k r (({ h with S := setPg s.pl p.at_ (p.pg.gave x) h.S } : HeapR).queued c [keyOf s p] F k1 k2) a) (O : OwnU W ro v U w) (hn : n ≤ 16) (hr : r < 1000000) (hc : c < 12) :
    Calls Tryz.prog 11 #[.pointer (some ⟨h.bh, 0, none⟩), .int .u64 (szs.getD c 0 : Nat)] w fun e w' => e = .returned (.tuple #[.int .u64 (x : Nat), .int .u64 (szs.getD c 0 : Nat), .bool true]) ∧ Below W.heap.size W w' ∧ ∃ ro', OwnU W ro' v U w' := by
  refine (get_class L K hn hr hc).mono ?_
  rintro e w' ⟨y, f', h', k', ro', a', rfl, hg, L', K', e1, e2, hst⟩
  have := last_get hs hp hf L.hp.hp.sok hg
  subst this
  exact ⟨rfl, L'.below, ro', O.stay hst⟩

def lenOf : Value → Nat
  | .slice _ n _ => n
  | _ => 0

set_option maxRecDepth 100000 in
set_option maxHeartbeats 16000000 in
theorem full_walk (W : World) (cc ww : Int) (h0 : 0 ≤ cc) (h1 : cc ≤ 255) (h2 : 0 ≤ ww) (h3 : ww ≤ 65535) :
    Calls Tryz.prog 3 #[.int .u8 cc, .int .u16 ww] W (TrueBelow W) := by
  obtain ⟨c, hc⟩ : ∃ c : Nat, (c : Int) = cc % 12 := ⟨(cc % 12).toNat, by omega⟩
  have hc12 : c < 12 := by omega
  have HCC := Lib.hid hc
  go_enter Tryz.func3, Tryz.ntmps3
  go_wp2_with fail
  refine (alive12 W).mono ?_
  rintro e w1 ⟨rfl, B1⟩
  have HM : Hid (Calls Tryz.prog 9 #[.int .i64 2, .int .i64 2] w1 fun e w' => ∃ ro bm bb bh ba bk bt, e = .returned (.tuple #[.pointer (some ⟨bh, 0, none⟩), .pointer (some ⟨bm, 0, none⟩), .pointer (some ⟨ba, 0, none⟩), .bool true]) ∧
      LawH W ro 0 w' bm bb (2 * 16384) (fun _ => 0) (newHR bh ba 7) (newAr bk bt 2) ∧ Below w1.heap.size w1 w') := made_ok B1 2 (by omega) (by omega)
  clear B1
  go_wp2_with fail
  refine HM.out.mono ?_
  rintro e w2 ⟨ro, bm, bb, bh, ba, bk, bt, rfl, L2, _⟩
  have HL2 := Lib.hid L2
  have HSZ : Hid (Calls Tryz.prog 10 #[.int .i64 (cc % 12)] w2 fun e w' => e = .returned (.tuple #[.int .u64 (szs.getD c 0 : Nat), .int .i64 0]) ∧ Below w2.heap.size w2 w') := by
    have := size_ok w2 c hc12
    rw [hc] at this
    exact this
  clear L2 HM hc
  go_wp2_with fail
  refine HSZ.out.mono ?_
  rintro e w3 ⟨rfl, hb3⟩
  rw [← HCC.out]
  have HF3 : Hid (FS W ro bh ba 2 c 0 0 [] w3) := ⟨bm, bb, _, _, _, HL2.out.on hb3, ⟨rfl, rfl, by funext j; simp [newAr], rfl, by omega, nofun, Nat.le_refl _⟩, ⟨rfl, nofun, nofun, nofun, nofun, rfl, nofun⟩, rfl, rfl⟩
  have HO3 : Hid (OwnU W ro (.slice none 0 0) [] w3) := ⟨World.ownsRow_nil _ _ _ _, nofun⟩
  have HSIN := szs_in hc12
  obtain ⟨Sz, hSz⟩ : ∃ Sz, Sz = szs.getD c 0 := ⟨_, rfl⟩
  have HGET : Hid (∀ (ro : Nat → Role) (U : List Nat) (k r : Nat) (v : Value) (w : World), FS W ro bh ba 2 c k r U w → OwnU W ro v U w → r < 1000000 → Calls Tryz.prog 11 #[.pointer (some ⟨bh, 0, none⟩), .int .u64 (Sz : Nat)] w fun e w' =>
      ∃ ro' k', OwnU W ro' v U w' ∧ ((∃ x, e = .returned (.tuple #[.int .u64 (x : Nat), .int .u64 (Sz : Nat), .bool true]) ∧ FS W ro' bh ba 2 c k' (r + 1) (U ++ [x]) w') ∨
        (e = .returned (.tuple #[.int .u64 0, .int .u64 0, .bool false]) ∧ k' = 2 ∧ ∃ bm bb f h a, LawH W ro' 0 w' bm bb (2 * 16384) f h a ∧ KA 2 2 (r + 1) h a ∧ FInv c 2 h U ∧ h.bh = bh ∧ h.ba = ba ∧ h.Q1 c = [] ∧ NoRoom h (sls.getD c 0)))) := fun ro U k r v w F O hr => by
    rw [hSz]
    exact get_fs bh ba F O (by omega) hr hc12
  rw [← hSz]
  rw [← hSz] at HSIN
  have HSE := Lib.hid hSz
  clear hb3 HL2 HSZ hSz
  go_wp2_with fail
  obtain ⟨i0, hi0, hz0, hzz1, hz2⟩ := info_parts info_u64
  go_loopw [12] (fun v wr => ∃ (ro : Nat → Role) (k : Nat) (U : List Nat), Hid (FS W ro bh ba 2 c k U.length U wr) ∧ Hid (OwnU W ro v U wr)) (fun v _ => 6000 - lenOf v)
  case atStart => exact ⟨ro, 0, [], HF3.out, HO3.out⟩
  case round =>
    obtain ⟨ro, k, U, HF, HO⟩ := hrel
    have hU := HF.out.len (by omega) hc12
    have hlv : lenOf u12 = U.length := by
      obtain ⟨A, c, e, _⟩ := own_at HO.out.1
      rw [e]
      rfl
    go_wp2_with fail
    refine (HGET.out ro U k U.length u12 _ HF.out HO.out (by omega)).mono ?_
    rintro e w4 ⟨ro4, k4, O4, (⟨x, rfl, F4⟩ | ⟨rfl, rfl, bm4, bb4, f4, h4, a4, L4, K4, I4, e4, e5, hq4, hno4⟩)⟩
    · have HO4 := Lib.hid O4
      have HF4 := Lib.hid F4
      clear O4 F4
      go_wp2_with (first
        | (at_builtin
           refine wpList_append_any _ rfl (.tmp 50) (.tmp 52) _ rfl W.heap.size 29 i0 _ 1 8 Tryz.underlying33 hi0 hz0 hzz1 hz2 rfl (by omega) u12 _ _ rfl
             (HO4.out.1.alloc _) _ _ 1 1 [.int .u64 (x : Nat)] rfl (Reads.new1 _ _ _) (fun u hu => by simp at hu; subst hu; rfl) (by simp only [maxLen]; omega) (by omega) (by have := HF4.out.size; simp; omega) ?_
           intro v5 w5 hown5 hg5 hat5
           have HF5 := Lib.hid (HF4.out.app HO4.out hg5)
           have HO5 := Lib.hid (HO4.out.app hown5 hat5)
           obtain ⟨gb, cap5, rfl, _, _⟩ := hown5.form (by omega)
           clear hown5 hg5 hat5))
      go_roundw
      case rel =>
        have e5 : (U ++ [x]).length = U.length + 1 := by simp
        exact ⟨_, k4, U ++ [x], by rw [e5]; exact HF5.out, HO5.out⟩
      case measure =>
        rw [hlv]
        show 6000 - (U.length + 1) < 6000 - U.length
        omega
    · have HO4 := Lib.hid O4
      have HST : Hid (LawH W ro4 0 w4 bm4 bb4 (2 * 16384) f4 h4 a4 ∧ KA 2 2 (U.length + 1) h4 a4 ∧ FInv c 2 h4 U ∧ h4.bh = bh ∧ h4.ba = ba ∧ h4.Q1 c = [] ∧ NoRoom h4 (sls.getD c 0)) := ⟨L4, K4, I4, e4, e5, hq4, hno4⟩
      obtain ⟨A4, c4, hv, _, _, HC⟩ := own_at O4.1
      subst hv
      have hUL0 := I4.end_ L4.hp.hp.sok hc12 hq4 hno4
      have hBl := blks_le hc12
      have hSl : 1 ≤ sls.getD c 0 ∧ sls.getD c 0 ≤ 4 := by
        rw [sls_of hc12]
        split
        · omega
        · split <;> omega
      have HSL := Lib.hid (fun w => refSlices_ok w c hc12)
      have HBL := Lib.hid (fun w => refBlocks_ok w c hc12)
      obtain ⟨sl, hsl⟩ : ∃ sl, sl = sls.getD c 0 := ⟨_, rfl⟩
      obtain ⟨N, hN⟩ : ∃ N, N = blks.getD c 0 := ⟨_, rfl⟩
      rw [← hsl] at HSL hSl hUL0
      rw [← hN] at HBL hBl hUL0
      obtain ⟨per, hper⟩ : ∃ per, per = 15 / sl * N := ⟨_, rfl⟩
      rw [← hper] at hUL0
      have hdl : 15 / sl ≤ 15 := Nat.div_le_self _ _
      have hd1 : 1 ≤ 15 / sl := by rw [Nat.le_div_iff_mul_le (by omega)]; omega
      have hp1 : per ≤ 15 * 64 := by rw [hper]; exact Nat.mul_le_mul hdl hBl.2
      have hp0 : 1 * 4 ≤ per := by rw [hper]; exact Nat.mul_le_mul hd1 hBl.1
      have hq1 : IntKind.i64.wrap ((15 : Int).tdiv (sl : Int)) = 15 / (sl : Int) := Go.IntWalk.i64_quo _ _ ⟨by omega, by omega, by omega⟩
      have hpe : (15 : Int) / (sl : Int) * (N : Int) = (per : Int) := by
        rw [hper, Int.natCast_mul, Int.natCast_ediv]
        rfl
      have hq2 : IntKind.i64.wrap ((15 : Int) / (sl : Int) * (N : Int)) = (per : Int) := by
        rw [hpe]
        exact Go.IntWalk.i64_in _ ⟨by omega, by omega⟩
      have hs0 : ¬ ((sl : Int) = 0) := by omega
      have hs0' : ((sl : Int) == 0) = false := by simp; omega
      have hs1 : ¬ (sl = 0) := by omega
      have hs2 : (sl == 0) = false := by simp; omega
      have HUL := Lib.hid hUL0
      have HSLE := Lib.hid hsl
      clear O4 L4 K4 I4 e4 e5 hq4 hno4 hUL0 hper hdl hd1 hsl hN hpe
      go_wp2_with fail
      go_region_held3 (fun _ => True) (first | exact trivial | fail)
        (first
          | (go_at_call 12; refine (HSL.out _).mono ?_; rintro e w5 ⟨rfl, hb5⟩; have HB5 : Hid (Below w4.heap.size w4 w5) := ⟨hb5.os, hb5.tape, hb5.output, hb5.size, hb5.block⟩; clear hb5)
          | (go_at_call 13; refine (HBL.out _).mono ?_; rintro e w6 ⟨rfl, hb6⟩; have HB6 : Hid (Below w4.heap.size w4 w6) := HB5.out.trans (hb6.mono HB5.out.size); clear hb6)
          | fail)
      have HGV : Hid (Calls Tryz.prog 14 #[.pointer (some ⟨ba, 0, none⟩)] w6 fun e w' => e = .returned (.int .i64 2) ∧ ∃ k, w' = w6.drewN k) := by
        obtain ⟨L4, K4, I4, e4, e5, _⟩ := HST.out
        have := arenaGiven (L4.on HB6.out).ar.at_
        rw [K4.given, K4.en, e5] at this
        exact this
      have hUL : U.length = 2 * per := HUL.out
      go_wp2_with fail
      refine HGV.out.mono ?_
      rintro e w7 ⟨rfl, kk, hw7⟩
      have HB7 : Hid (Below w4.heap.size w4 w7) := by rw [hw7]; exact below_drewN HB6.out kk
      clear hw7 HGV
      have HLO : Hid (Calls Tryz.prog 15 #[.pointer (some ⟨bh, 0, none⟩), .int .i64 c] w7 fun e w' => e = .returned (.tuple #[.int .u64 0, .int .i64 4]) ∧
          ∃ ro' h', LawH W ro' 0 w' bm4 bb4 (2 * 16384) f4 h' a4 ∧ KA 2 2 (U.length + 1) h' a4 ∧ FInv c 2 h' U ∧ OwnU W ro' (.slice A4 U.length c4) U w' ∧ h'.bh = bh ∧ h'.ba = h4.ba ∧ h'.Q1 c = []) := by
        obtain ⟨L4, K4, I4, e4, e5, hq4, _⟩ := HST.out
        have := local_full (L4.on HB7.out) K4 I4 (HO4.out.stay (Stay.below HB7.out)) (by omega) hq4 hc12
        rw [e4] at this
        exact this
      go_wp2_with fail
      refine HLO.out.mono ?_
      rintro e w8 ⟨rfl, ro8, h8, L8, K8, I8, O8, e8, _, hq8⟩
      have HST8 : Hid (LawH W ro8 0 w8 bm4 bb4 (2 * 16384) f4 h8 a4 ∧ KA 2 2 (U.length + 1) h8 a4 ∧ FInv c 2 h8 U ∧ OwnU W ro8 (.slice A4 U.length c4) U w8 ∧ h8.bh = bh ∧ h8.Q1 c = []) := ⟨L8, K8, I8, O8, e8, hq8⟩
      clear L8 K8 I8 O8 e8 hq8 HLO
      obtain ⟨i, hi⟩ : ∃ i : Nat, (i : Int) = ww % (2 * (per : Int)) := ⟨(ww % (2 * (per : Int))).toNat, by have := Int.emod_nonneg ww (show (2 * (per : Int)) ≠ 0 by omega); omega⟩
      have hil : i < U.length := by have := Int.emod_lt_of_pos ww (show 0 < (2 * (per : Int)) by omega); omega
      obtain ⟨xi, hxi⟩ : ∃ xi, U[i]? = some xi := ⟨_, List.getElem?_eq_getElem hil⟩
      have hxu := List.mem_of_getElem? hxi
      have HXI := Lib.hid hxi
      obtain ⟨A', c', hv', _, _, HC8⟩ := own_at HST8.out.2.2.2.1.1
      injection hv' with hA _ hc'
      subst hA hc'
      obtain ⟨gg, hgg, hcell⟩ := HC8 i (.int .u64 (xi : Nat)) (by unfold rowU; rw [List.getElem?_map, hxi]; rfl)
      have hti : (ww % (2 * (per : Int))).toNat = i := by omega
      have hb1 : 0 ≤ ww % (2 * (per : Int)) := by omega
      have hb2 : ww % (2 * (per : Int)) < 2 * (per : Int) := by omega
      have hcell' : w8.cell? ⟨gg, (ww % (2 * (per : Int))).toNat, none⟩ = some (.int .u64 (xi : Nat)) := by rw [hti]; exact hcell
      have HTI := Lib.hid hti
      have HFREE : Hid (Calls Tryz.prog 16 #[.pointer (some ⟨bh, 0, none⟩), .int .u64 xi] w8 fun e w' => e = .returned (.int .i64 0) ∧
          ∃ ro' f' s p F k1 k2, s ∈ h8.S ∧ p ∈ s.P ∧ p.pg.full ∧ LawH W ro' 0 w' bm4 bb4 (2 * 16384) f' (({ h8 with S := setPg s.pl p.at_ (p.pg.gave xi) h8.S } : HeapR).queued c [keyOf s p] F k1 k2) a4 ∧ KA 2 2 (U.length + 1) (({ h8 with S := setPg s.pl p.at_ (p.pg.gave xi) h8.S } : HeapR).queued c [keyOf s p] F k1 k2) a4 ∧ OwnU W ro' (.slice A4 U.length c4) U w') := by
        obtain ⟨L8, K8, I8, O8, e8, hq8⟩ := HST8.out
        rw [← e8]
        exact free_full L8 K8 I8 O8 (by omega) hq8 hc12 hxu
      have HXI := Lib.hid hxi
      clear HC8 hxi hxu hi hcell hti HST HB7 HB6
      go_wp2_with fail
      refine HFREE.out.mono ?_
      rintro e w9 ⟨rfl, ro9, f9, s9, p9, F9, k91, k92, hs9, hp9, hf9, L9, K9, O9⟩
      have HGT : Hid (Calls Tryz.prog 11 #[.pointer (some ⟨bh, 0, none⟩), .int .u64 (Sz : Nat)] w9 fun e w' => e = .returned (.tuple #[.int .u64 (xi : Nat), .int .u64 (Sz : Nat), .bool true]) ∧ Below W.heap.size W w' ∧ ∃ ro', OwnU W ro' (.slice A4 U.length c4) U w') := by
        have := get_again hs9 hp9 hf9 L9 K9 O9 (by omega) (by omega) hc12
        rw [← HSE.out, HST8.out.2.2.2.2.1] at this
        exact this
      clear hs9 hp9 hf9 L9 K9 O9 HFREE hcell'
      go_wp2_with fail
      refine HGT.out.mono ?_
      rintro e w10 ⟨rfl, hb10, ro10, O10⟩
      obtain ⟨A', c', hv', _, _, HC10⟩ := own_at O10.1
      injection hv' with hA _ hc'
      subst hA hc'
      obtain ⟨g2, hg2, hcell⟩ := HC10 i (.int .u64 (xi : Nat)) (by unfold rowU; rw [List.getElem?_map, HXI.out]; rfl)
      have e2 : g2 = gg := by
        rw [hgg] at hg2
        injection hg2 with h
        injection h with h _ _
        exact h.symm
      subst e2
      have hcell' : w10.cell? ⟨g2, (ww % (2 * (per : Int))).toNat, none⟩ = some (.int .u64 (xi : Nat)) := by rw [HTI.out]; exact hcell
      have HB10 := Lib.hid hb10
      clear HC10 hcell hb10 O10 HGT
      go_wp2_with fail
      go_ret
      exact ⟨rfl, HB10.out⟩

section
open Go.ChangeShapes Go.WideShapes
variable {H : Type} {enc : TypeId × Value → H} {W : World} {base : Nat} {args : Array Value} {ds : List (DataW H)} {p : List MemPlace}
end
end Go.Proofs.YtbljphaklciinaaGreat

/- HeapFull: its arguments. -/
namespace Go.Proofs.YtbljphaklciinaaGreat
open Go.ChangeShapes Go.WideShapes Go.RowKit
section
variable {H : Type} {enc : TypeId × Value → H} {W : World} {base : Nat} {args : Array Value} {ds : List (DataW H)} {p : List MemPlace}
theorem wf_u8 {x : Int} (h : (Lit.int .u8 x).wf = true) : 0 ≤ x ∧ x ≤ 255 := by
  simp only [Lit.wf, Bool.and_eq_true, decide_eq_true_eq] at h
  exact h
theorem wf_u16 {x : Int} (h : (Lit.int .u16 x).wf = true) : 0 ≤ x ∧ x ≤ 65535 := by
  simp only [Lit.wf, Bool.and_eq_true, decide_eq_true_eq] at h
  exact h
set_option maxRecDepth 100000 in
theorem HeapFull_run (hval : ∀ (j : Nat) t v, #[5, 22][j]? = some t → args[j]? = some v → Value.okWide Tryz.prog W .any base t v)
    (hA : DataW.TrodAll enc Tryz.prog W 0 (fun _ => true) true [5, 22] args.toList ds p) (hlt : ∀ x ∈ p, x.block < W.heap.size) :
    Calls Tryz.prog 3 args W (TrueBelow W) := by
  obtain ⟨v0, v1, d0, d1, p0, p1, rfl, rfl, rfl, h0, h1⟩ := trodAll_two hA
  obtain ⟨q, rfl, rfl, rfl, wq⟩ := open_int Tryz.underlying5 (hval 0 5 v0 rfl rfl) h0
  obtain ⟨z, rfl, rfl, rfl, wz⟩ := open_int Tryz.underlying22 (hval 1 22 v1 rfl rfl) h1
  have hb := wf_u8 wq
  have hz := wf_u16 wz
  exact full_walk W q z hb.1 hb.2 hz.1 hz.2
end
end Go.Proofs.YtbljphaklciinaaGreat

/- 'allotmentlaw12.HeapFull' returns true for every input, and each argument reads afterwards as it read before. No condition. -/
namespace Go.Proofs.YtbljphaklciinaaGreat
open Go.ChangeShapes Go.WideShapes Go.ChangeAt Go.RowKit

set_option maxRecDepth 100000 in
theorem HeapFull_lifted (os : Os) (started : os.Started) (H : Type) (enc : TypeId × Value → H) :
    ReturnsInHanded {} Tryz.checked os 3 .any (Rows.heapFullSpec.pre6 enc Tryz.prog Tryz.f3 Rows.heapFullRow.domain false) (Rows.heapFullSpec.post enc Tryz.prog Tryz.f3 false true false false) := by
  refine returnsInHanded_of_change (C := Tryz.checked) Tryz.own started (by kernel_rfl) Tryz.func3
    (ChangeSpec.witness6 (enc := enc) (C := Tryz.checked) false ⟨#[], #[.int .u8 0, .int .u16 0], []⟩ 8 (by kernel_rfl) (by kernel_rfl) (by kernel_rfl) (by kernel_rfl)) ?_
  intro W base args ds gs before hval0 hW hcnd _
  have hval : ∀ (j : Nat) t v, Tryz.f3.params[j]? = some t → args[j]? = some v → Value.okWide Tryz.prog W .any base t v := hval0
  have hW' := hW
  obtain ⟨p, q, hA0, hV, rfl, _, _⟩ := hW
  have hA : DataW.TrodAll enc Tryz.prog W 0 (fun _ => true) true Tryz.f3.params.toList args.toList ds p := hA0
  obtain ⟨rfl, rfl⟩ := trodVars_none hV
  have hlt : ∀ x ∈ p, x.block < W.heap.size := fun x hx => hW'.lt x (List.mem_append.2 (.inl hx))
  rw [Tryz.params3] at hA hval
  have hrun := HeapFull_run hval hA hlt
  refine hrun.mono fun e W' ⟨he, hb⟩ => ?_
  subst he
  refine ⟨_, rfl, law_post Tryz.laidOut ?_ rfl hW' ?_ ?_ ?_ rfl Tryz.underlying4 hb⟩
  · rw [Tryz.params3]
    intro t ht
    refine ⟨?_, ?_⟩
    · revert t ht; exact of_decide_eq_true (by kernel_rfl)
    · revert t ht; exact of_decide_eq_true (by kernel_rfl)
  all_goals
    obtain ⟨l⟩ := args
    obtain ⟨v0, vs0, d0, ds0, p0, q0, rfl, rfl, rfl, h0, r0⟩ := trodAll_cons hA
    obtain ⟨v1, vs1, d1, ds1, p1, q1, rfl, rfl, rfl, h1, r1⟩ := trodAll_cons r0
    obtain ⟨rfl, rfl, rfl⟩ := trodAll_nil r1
    rfl

theorem HeapFull_holds : Rows.HeapFullSaid :=
  OpenClaim.holds_of_wide 3 Tryz.f3 rfl rfl rfl rfl rfl rfl rfl ⟨rfl, rfl, rfl, rfl, rfl⟩ rfl rfl rfl rfl rfl (by kernel_rfl) Tryz.func3
    (joined_of Tryz.may Tryz.lifts Tryz.makes (by kernel_rfl) Tryz.laidOut (by kernel_rfl) (by kernel_rfl) (by kernel_rfl) (by kernel_rfl) (by kernel_rfl) (by kernel_rfl) (by kernel_rfl) (by kernel_rfl) (by kernel_rfl) (by kernel_rfl) (by kernel_rfl) (by kernel_rfl) (by kernel_rfl) (by kernel_rfl) (by kernel_rfl) (by kernel_rfl) (by kernel_rfl) (by kernel_rfl) (by kernel_rfl) (by kernel_rfl) (by kernel_rfl) (by kernel_rfl) (by kernel_rfl) (by kernel_rfl) (by kernel_rfl) rfl rfl (by kernel_rfl) (by kernel_rfl) (by kernel_rfl))
    (of_decide_eq_true (by kernel_rfl)) (by unfold Func.isWrapper; rw [if_neg (of_decide_eq_false (by kernel_rfl))]; exact ⟨rfl, rfl⟩)
    (fun os started H enc _ => HeapFull_lifted os started H enc)
#print axioms HeapFull_holds
end Go.Proofs.YtbljphaklciinaaGreat
