/- Walks of the program's functions, and plain laws on what they compute, text by text (HeapIW, MovesA, MovesB, MovesC, MovesD, MovesE, Moves12, Acts12, MovesR, RowHeapMoves). No condition. -/
import Derived.Test.YtbljphaklciinaaGreatHeapMoves02

/- Layer 12 (heap): Adopt, walked. -/
namespace Go.Proofs.YtbljphaklciinaaGreat
open Go.RowKit
variable {ro ro' : Nat → Role} {hn : Nat} {w w' : World} {B bm bb sz : Nat} {f g : Nat → Nat} {h h' : HeapR} {X : Role → Prop}

set_option maxRecDepth 100000 in
set_option maxHeartbeats 1000000 in
theorem adopt_there (H : HeapAt ro hn w B bm sz f h) {s : SegR} (hs : SegOk ro w bm sz f s) (hth : ∃ t ∈ h.S, t.pl = s.pl) : Calls Tryz.prog 26 #[.pointer (some ⟨h.bh, 0, none⟩), .pointer (some ⟨s.bs, 0, none⟩)] w fun e w' => e = .returned (.int .i64 6) ∧ Below w.heap.size w w' := by
  have HA := Lib.hid (at_any H (s.pl : Int))
  have HP := Lib.hid (segPlace hs.seg)
  have HT := Lib.hid hth
  clear H hs hth
  go_enter Tryz.func26, Tryz.ntmps26
  go_wp2_with fail
  (with_reducible refine HP.out.mono ?_)
  rintro e w1 ⟨rfl, rfl⟩
  go_wp2_with fail
  (with_reducible refine HA.out.mono ?_)
  rintro e w2 ⟨ha, hb⟩
  rcases ha with ⟨i, s', hs', e1, rfl⟩ | ⟨hno, _⟩
  · have HB := Lib.hid hb
    clear hb HA
    go_wp2_with fail
    go_ret
    exact ⟨rfl, HB.out⟩
  · obtain ⟨t, ht, e⟩ := HT.out
    exact absurd (by rw [e]) (hno t ht)

/-- What Adopt leaves. -/
def AdoptTo (ro : Nat → Role) (hn : Nat) (w : World) (B bm bb sz : Nat) (f : Nat → Nat) (h : HeapR) (s : SegR) (w' : World) : Prop :=
  ∃ ro' h' gs, (∀ k, k < w.heap.size → ro' k = ro k) ∧ RFr ro w w' (hpL hn) ∧ Hp ro' hn w' B bm bb sz f h' ∧ AddQ { h with S := h.S ++ [s], gs := gs } h' s (pgsOf s.P)

set_option maxRecDepth 100000 in
set_option maxHeartbeats 8000000 in
theorem adopt_ok (H : Hp ro hn w B bm bb sz f h) {s : SegR} (hs : SegOk ro w bm sz f s) (hno : ∀ t ∈ h.S, t.pl ≠ s.pl) : Calls Tryz.prog 26 #[.pointer (some ⟨h.bh, 0, none⟩), .pointer (some ⟨s.bs, 0, none⟩)] w fun e w' => e = .returned (.int .i64 0) ∧ AdoptTo ro hn w B bm bb sz f h s w' := by
  have HA := Lib.hid (at_any H.hp (s.pl : Int))
  have HPL := Lib.hid (segPlace hs.seg)
  have HH := Lib.hid H
  have HSO := Lib.hid hs
  have HNO := Lib.hid hno
  have hlen := H.hp.len
  clear H hs hno
  go_enter Tryz.func26, Tryz.ntmps26
  go_wp2_with fail
  (with_reducible refine HPL.out.mono ?_)
  rintro e w1 ⟨rfl, rfl⟩
  go_wp2_with fail
  (with_reducible refine HA.out.mono ?_)
  rintro e w2 ⟨ha, hb⟩
  rcases ha with ⟨i, s', hs', e1, _⟩ | ⟨_, rfl⟩
  · exact absurd (by omega) (HNO.out s' (List.mem_of_getElem? hs'))
  · have HB := Lib.hid hb
    have HH2 := Lib.hid (HH.out.below hb)
    have HSO2 := Lib.hid (HSO.out.fr (X := fun _ => False) (RFr.of_below hb) (fun h => h) (fun h => h) (fun h => h) (fun _ _ => ⟨fun h => h, fun h => h⟩))
    obtain ⟨v, hv, hov, hgv⟩ := HH2.out.hp.c29
    obtain ⟨A, c, rfl, _, _, _⟩ := own_at hov
    have HOV := Lib.hid hov
    have HGV := Lib.hid hgv
    have z29 := HH2.out.hp.z29
    have hbl := HH2.out.hp.lt_h
    have hgb : h.gs ≠ some h.bh := fun e => by have h1 := HH2.out.hp.rs _ e; rw [HH2.out.hp.rb] at h1; cases h1
    have hB := HH2.out.b
    obtain ⟨i0, hi0, hz0, hz1, hz2⟩ := info_parts info_segp
    clear hb HA HPL hov hgv
    go_wp2_with (first
      | (at_builtin
         refine wpList_append_any _ rfl (.tmp 24) (.tmp 26) _ rfl B 60 i0 _ 1 8 Tryz.underlying58 hi0 hz0 hz1 hz2 rfl (by omega) (.slice A h.S.length c) h.S.length (segP h.S) rfl
           (HOV.out.alloc _) _ _ 1 1 [.pointer (some ⟨s.bs, 0, none⟩)] rfl (Reads.new1 w2 _ _) (fun u hu => by simp at hu; subst hu; rfl) (by simp only [maxLen]; omega) (by omega) (by simp; omega) ?_
         intro v4 w4 hown4 hg4 hat4
         have c4 : w4.cell? ⟨h.bh, 29, none⟩ = some (.slice A h.S.length c) := hg4.cell ((World.cell?_alloc_lt w2 _ ⟨h.bh, 29, none⟩ (by show h.bh < _; omega)).trans hv) (by rw [HGV.out]; exact fun e => hgb e.symm)
         have f4 : w4.frozen? ⟨h.bh, 29, none⟩ = false := (World.frozen?_of_block (hg4.block h.bh (by simp; omega) (by rw [HGV.out]; exact fun e => hgb e.symm))).trans ((World.frozen?_of_block (Below.heap_alloc w2 _ h.bh (by omega))).trans z29)
         rw [HGV.out] at hg4 hat4
         obtain ⟨gb, cap4, rfl, hgb4, hgl4⟩ := hown4.form (by omega)
         have HAPP := Lib.hid (HH2.out.appended HSO2.out HNO.out hg4 hat4 ⟨gb, rfl⟩ hown4)
         clear hown4 hg4 hat4))
    obtain ⟨roA, eA, HpA, rA⟩ := HAPP.out
    obtain ⟨wA, hwA⟩ : ∃ wA, wA = w4.setCell ⟨h.bh, 29, none⟩ (.slice (some ⟨gb, 0, none⟩) (h.S.length + 1) cap4) := ⟨_, rfl⟩
    rw [← hwA] at HpA rA
    rw [← hwA]
    have HHA := Lib.hid HpA
    have HEA := Lib.hid eA
    have HRA := Lib.hid rA
    obtain ⟨hA, hhA⟩ : ∃ hA : HeapR, hA = { h with S := h.S ++ [s], gs := (Value.slice (some ⟨gb, 0, none⟩) (h.S.length + 1) cap4).ownBlock } := ⟨_, rfl⟩
    rw [← hhA] at HHA
    have hsA : s ∈ hA.S := by rw [hhA]; simp
    have hbA : hA.bh = h.bh := by rw [hhA]
    have HHAE := Lib.hid hhA
    have hso := HHA.out.hp.segs s hsA
    clear HAPP eA HpA rA hwA hhA c4 f4 hv z29
    have HPG : Hid (Calls Tryz.prog 60 #[.pointer (some ⟨s.bs, 0, none⟩)] wA (NewOwn wA ((pgsOf s.P).map fun p => .pointer (some ⟨p.bo, 0, none⟩)))) := by
      have := segPages_ok hso.seg hso.begins
      rw [begins_pgs] at this
      exact this
    clear hso
    go_wp2_with fail
    (with_reducible refine HPG.out.mono ?_)
    rintro e wB ⟨v2, rfl, ho2, hb2⟩
    obtain ⟨A2, c2, rfl, hd1, hd2, hcs2⟩ := own_at ho2
    obtain ⟨NP, hNP⟩ : ∃ NP, NP = (pgsOf s.P).length := ⟨_, rfl⟩
    have hNP16 : NP ≤ 16 := by
      rw [hNP]
      unfold pgsOf
      have := List.length_filterMap_le (fun j => s.P.find? fun q => decide (q.at_ = j)) (List.range 16)
      rw [List.length_range] at this
      exact this
    rw [List.length_map, ← hNP] at hd1 ⊢
    have HCS2 := Lib.hid hcs2
    have HAB : Hid (∀ g, A2 = some ⟨g, 0, none⟩ → wA.heap.size ≤ g ∧ g < wB.heap.size) := fun g e => ho2.lt g (by rw [e]; rfl)
    have HB2 := Lib.hid hb2
    have er2 : ∀ k, k < wA.heap.size → cutR roA wA.heap.size k = roA k := fun k hk => if_pos hk
    have HH2 : Hid (Hp (cutR roA wA.heap.size) hn wB B bm bb sz f hA) := (show Hp (cutR roA wA.heap.size) hn wA B bm bb sz f hA from ⟨HHA.out.hp.role er2, HHA.out.mem, (er2 _ HHA.out.mem.lt_bm).trans HHA.out.rm, (er2 _ HHA.out.mem.lt_bb).trans HHA.out.rb, HHA.out.b⟩).below hb2
    have HE2 := Lib.hid er2
    have HO2 : Hid (∀ k, wA.heap.size ≤ k → cutR roA wA.heap.size k = .other) := fun k hk => if_neg (by omega)
    have HNP := Lib.hid hNP
    generalize cutR roA wA.heap.size = ro2 at *
    clear ho2 hb2 hcs2 er2 hNP HPG
    go_wp2_with fail
    go_loopw [33] (fun ix wr => ∃ (k : Nat) (ro' : Nat → Role) (h' : HeapR), k ≤ NP ∧ ix = .int .i64 k ∧ Hid (∀ q, q < wB.heap.size → ro' q = ro2 q) ∧ Hid (Hp ro' hn wr B bm bb sz f h') ∧ Hid (RFr ro2 wB wr (hpQ hn)) ∧ Hid (AddQ hA h' s ((pgsOf s.P).take k))) (fun ix _ => NP - (intOf ix).toNat)
    case atStart => exact ⟨0, ro2, hA, by omega, rfl, fun _ _ => rfl, HH2.out, RFr.of_below (Below.refl _ _), AddQ.refl hA s⟩
    case round =>
      obtain ⟨k, ro', h', hk, rfl, HRO, HP, HRF, HRQ⟩ := hrel
      have hsS : s ∈ h'.S := by rw [HRQ.out.S]; exact hsA
      have hbh : h'.bh = h.bh := HRQ.out.bh.trans hbA
      by_cases hlt : k < NP
      · obtain ⟨p, hp⟩ : ∃ p, (pgsOf s.P)[k]? = some p := ⟨_, List.getElem?_eq_getElem (by rw [← HNP.out]; exact hlt)⟩
        have hso := HP.out.hp.segs s hsS
        have hpm := hso.mem_pgs.1 (List.mem_of_getElem? hp)
        have hpo := hso.pages p hpm
        obtain ⟨g2, rfl, hcell2⟩ := HCS2.out k (.pointer (some ⟨p.bo, 0, none⟩)) (by rw [List.getElem?_map, hp]; rfl)
        have hcw : wr.cell? ⟨g2, k, none⟩ = some (.pointer (some ⟨p.bo, 0, none⟩)) := (World.cell?_of_block (a := ⟨g2, k, none⟩) (HRF.out.block g2 (HAB.out g2 rfl).2 (by rw [HO2.out g2 (HAB.out g2 rfl).1]; rintro (h | ⟨_, _, h⟩) <;> cases h))).trans hcell2
        obtain ⟨i2, hi2, hr2⟩ := rowIx_some hpo.c0 hpo.c1
        have hc0 := hpo.c0
        have hc1 := hpo.c1
        have hfit := hpo.fit
        have hs1 := hpo.s1
        have o1 : wr.cell? ⟨p.bo, 1, none⟩ = some (.int .i64 p.cls) := HP.out.own1 hsS hpm
        have hbo := Obj_.lt hpo.own (by omega)
        have HR := Lib.hid (row_any wr.drew h.bh p.cls (by omega) (by omega))
        rw [hr2] at HR
        simp only [Option.map_some] at HR
        have HK := Lib.hid (key_any (hso.seg.stays (w' := wr.drew) rfl rfl rfl) (Obj_.of_block hpo.own (w' := wr.drew) rfl) (by omega))
        obtain ⟨key, hkey⟩ : ∃ key : Nat, key = s.pl * 16 + p.at_ := ⟨_, rfl⟩
        rw [← hkey] at HK
        have HKY := Lib.hid hkey
        have HSS := Lib.hid hsS
        have HPM := Lib.hid hpm
        have HPK := Lib.hid hp
        have HROW := Lib.hid hr2
        have HBH := Lib.hid hbh
        have KG3 : Hid (wr.drew.cell? ⟨p.bo, 1, none⟩ = some (.int .i64 p.cls)) := o1
        have HO1 := Lib.hid o1
        clear hsS hso hpm hpo hcell2 hp hr2 hkey hbh
        go_wp2_with fail
        go_region_held3 (fun w' => w'.cell? ⟨p.bo, 1, none⟩ = some (.int .i64 p.cls))
          (first | exact KG3.out | exact KG4.out | exact KG5.out | exact KG6.out | go_keep | fail)
          (first
            | (go_at_call 39; refine HR.out.mono ?_; rintro e wx ⟨rfl, rfl⟩)
            | (go_at_call 47
               refine HK.out.mono ?_
               rintro e w4 ⟨rfl, kk, hw4⟩
               have B4 : Hid (Below wr.heap.size wr w4) := by rw [hw4]; exact below_drewN (below_drew (Below.refl _ _)) kk
               have HP4 := Lib.hid (HP.out.below B4.out)
               have HRM := Lib.hid (HP4.out.push1 hi2 (key : Int))
               rw [HBH.out] at HRM
               have KG4 : Hid (w4.cell? ⟨p.bo, 1, none⟩ = some (.int .i64 p.cls)) := by rw [hw4]; exact HO1.out
               have KG5 : Hid ((w4.alloc (.cells #[.int .i64 (key : Int)] 3)).cell? ⟨p.bo, 1, none⟩ = some (.int .i64 p.cls)) := (World.cell?_alloc_lt w4 _ ⟨p.bo, 1, none⟩ (Nat.lt_of_lt_of_le hbo B4.out.size)).trans KG4.out
               clear hw4)
            | (go_at_call 56
               (with_reducible refine HRM.out.mono ?_)
               rintro e w6 ⟨rfl, hq6⟩
               rw [← HBH.out] at hq6
               obtain ⟨ro6, k1, k2, e6, H6, r6⟩ := HP4.out.pushQ_to HSS.out HPM.out hi2 HROW.out (by rw [HKY.out]) hq6
               have HE6 := Lib.hid e6
               have HH6 := Lib.hid H6
               have HR6 := Lib.hid r6
               have KG6 : Hid (w6.cell? ⟨p.bo, 1, none⟩ = some (.int .i64 p.cls)) := H6.own1 HSS.out HPM.out
               clear hq6 e6 H6 r6)
            | fail)
        have z4 := B4.out.size
        have zr := HRF.out.size
        have HEN : Hid (∀ q, q < wB.heap.size → ro6 q = ro2 q) := fun q hq => (HE6.out q (by omega)).trans (HRO.out q hq)
        have HRN : Hid (RFr ro2 wB w6 (hpQ hn)) := (HRF.out.over HRO.out (RFr.of_below B4.out)).over HRO.out HR6.out
        have HRQ6 : Hid (AddQ hA (h'.queued i2 (pushS (h'.Q1 i2) (h'.Q2 i2) (key : Int)).2.1 (pushS (h'.Q1 i2) (h'.Q2 i2) (key : Int)).2.2 k1 k2) s ((pgsOf s.P).take (k + 1))) := by
          have hkk := HKY.out
          subst hkk
          have := HRQ.out.step HROW.out (k1 := k1) (k2 := k2)
          rw [List.take_add_one, HPK.out]
          exact this
        generalize (pushS (h'.Q1 i2) (h'.Q2 i2) (key : Int)).1 = rc at *
        clear HR HK KG3 KG4 KG5 KG6 HRM HR6 HE6 z4 zr
        go_wp2_with fail
        go_roundw
        case rel => exact ⟨k + 1, ro6, _, by omega, by go_num, HEN, HH6, HRN, HRQ6⟩
        case measure => simp [intOf]; omega
      · obtain rfl : k = NP := by omega
        go_wp2_with fail
        go_ret
        have hrq := HRQ.out
        rw [List.take_of_length_le (by rw [HNP.out]; exact Nat.le_refl _)] at hrq
        rw [HHAE.out] at hrq
        have hzw := HB.out.size
        have hza := HRA.out.size
        have hzb := HB2.out.size
        have e1 : ∀ q, q < w1.heap.size → roA q = ro q := fun q hq => HEA.out q (by omega)
        have e2 : ∀ q, q < w1.heap.size → ro2 q = ro q := fun q hq => (HE2.out q (by omega)).trans (e1 q hq)
        have e3 : ∀ q, q < w1.heap.size → ro' q = ro q := fun q hq => (HRO.out q (by omega)).trans (e2 q hq)
        have r1 : RFr ro w1 wA (hpL hn) := (RFr.of_below HB.out : RFr ro w1 w2 (hpL hn)).over (fun _ _ => rfl) (HRA.out.mono fun r h => by
          rcases h with h | h
          · exact .inl (.inl h)
          · exact .inr h)
        have r2 : RFr ro w1 wB (hpL hn) := r1.over e1 (RFr.of_below HB2.out)
        exact ⟨rfl, ro', h', _, e3, r2.over e2 (HRF.out.mono fun r h => .inl h), HP.out, hrq⟩
end Go.Proofs.YtbljphaklciinaaGreat

/- HeapMoves: what holds while blocks come; heaps side by side. -/
namespace Go.Proofs.YtbljphaklciinaaGreat
open Go.RowKit
variable {ro ro' : Nat → Role} {hn hm : Nat} {w w' : World} {B bm bb sz : Nat} {f f' : Nat → Nat} {h h' : HeapR} {X : Role → Prop} {a : ArR} {W : World} {n k k' r x : Nat} {U : List Nat}

/-- Whose the segments are. -/
def Owns (h : HeapR) : Prop := ∀ s ∈ h.S, s.x = h.id ∧ s.a = 1

theorem setPg_own {pl at_ : Nat} {pg : Pg} {S : List SegR} {i : Int} (hS : ∀ s ∈ S, s.x = i ∧ s.a = 1) : ∀ s ∈ setPg pl at_ pg S, s.x = i ∧ s.a = 1 := fun s hs => by
  obtain ⟨t, ht, rfl⟩ := List.mem_map.1 hs
  have := hS t ht
  split <;> exact this
theorem addPg_own {pl : Nat} {p : PageR} {S : List SegR} {i : Int} (hS : ∀ s ∈ S, s.x = i ∧ s.a = 1) : ∀ s ∈ addPg pl p S, s.x = i ∧ s.a = 1 := fun s hs => by
  obtain ⟨t, ht, rfl⟩ := List.mem_map.1 hs
  have := hS t ht
  unfold addI
  split <;> exact this

theorem GetR.also {c : Int} {i sl Sz N : Nat} {y : Option Nat} (hg : GetR sz n k f h c i sl Sz N y f' h' k') (hl : h.S.length = k) (ho : Owns h) : h'.S.length = k' ∧ Owns h' ∧ h'.id = h.id := by
  have loc : ∀ {h h' : HeapR} {x : Nat} {f'}, GLoc sz f h i x f' h' → Owns h → h'.S.length = h.S.length ∧ Owns h' ∧ h'.id = h.id := fun hg ho => by
    obtain ⟨kk, s, hs, p, hp, pg', k1, k2, _, _, _, _, rfl⟩ := hg
    exact ⟨by show (setPg _ _ _ _).length = _; unfold setPg; rw [List.length_map], setPg_own ho, rfl⟩
  have new : ∀ {h h' : HeapR} {x : Nat} {f f'}, GNew sz f h c i sl Sz N x f' h' → Owns h → h'.S.length = h.S.length ∧ Owns h' ∧ h'.id = h.id := fun hg ho => by
    obtain ⟨s, hs, at_, bo, bp, pg', k1, k2, _, _, _, _, rfl⟩ := hg
    exact ⟨by show (addPg _ _ _).length = _; unfold addPg; rw [List.length_map], addPg_own ho, rfl⟩
  rcases hg with ⟨x, rfl, _, hg, rfl⟩ | ⟨h1, h2, hg⟩
  · have := loc hg ho
    exact ⟨this.1.trans hl, this.2⟩
  · have h1o : h1.S = h.S ∧ h1.id = h.id := by
      rcases h2 with ⟨_, k1, k2, _, rfl⟩ | ⟨_, rfl⟩
      · exact ⟨rfl, rfl⟩
      · exact ⟨rfl, rfl⟩
    have ho1 : Owns h1 := fun s hs => by rw [h1o.2]; exact ho s (h1o.1 ▸ hs)
    have hl1 : h1.S.length = k := by rw [h1o.1]; exact hl
    rcases hg with ⟨x, rfl, hg, rfl⟩ | ⟨_, _, h3, x, rfl, hgr, hg, rfl⟩ | ⟨_, _, rfl, rfl, rfl, rfl⟩
    · have := new hg ho1
      exact ⟨this.1.trans hl1, this.2.1, this.2.2.trans h1o.2⟩
    · obtain ⟨s, gs, hpl, hP, hx, rfl⟩ := hgr
      have := new hg (fun t ht => by
        rcases List.mem_append.1 ht with ht | ht
        · exact ho1 t ht
        · simp only [List.mem_singleton] at ht
          subst ht
          exact hx)
      refine ⟨this.1.trans ?_, this.2.1, this.2.2.trans h1o.2⟩
      show (h1.S ++ [s]).length = _
      rw [List.length_append, hl1]
      rfl
    · exact ⟨hl1, ho1, h1o.2⟩

/-- A law's heap while blocks come. -/
structure MS (W : World) (ro : Nat → Role) (w : World) (bm bb : Nat) (f : Nat → Nat) (h : HeapR) (a : ArR) (n k r : Nat) (U : List Nat) : Prop where
  law : LawH W ro 0 w bm bb (n * 16384) f h a
  ka : KA n k r h a
  bi : BInv h U
  ne : NE h.S
  len : h.S.length = k
  own : Owns h

theorem MS.new {bh ba bk bt : Nat} (L : LawH W ro 0 w bm bb (n * 16384) f (newHR bh ba 7) (newAr bk bt n)) : MS W ro w bm bb f (newHR bh ba 7) (newAr bk bt n) n 0 0 [] :=
  ⟨L, ⟨rfl, rfl, by funext j; simp [newAr], rfl, by omega, nofun, Nat.le_refl _⟩, ⟨rfl, nofun, List.nodup_nil, nofun, nofun⟩, nofun, rfl, nofun⟩
theorem MS.on (M : MS W ro w bm bb f h a n k r U) (hb : Below w.heap.size w w') : MS W ro w' bm bb f h a n k r U := { M with law := M.law.on hb }

theorem MS.get (M : MS W ro w bm bb f h a n k r U) (hn : n ≤ 16) (hr : r < 1000000) {nn : Int} (h0 : 0 ≤ nn) :
    Calls Tryz.prog 11 #[.pointer (some ⟨h.bh, 0, none⟩), .int .u64 nn] w fun e w' => ∃ ro' f' h' a' k', Stay ro w ro' w' ∧ h'.bh = h.bh ∧ h'.ba = h.ba ∧ h'.id = h.id ∧
      ((∃ (x : Nat) (v : Nat), e = .returned (.tuple #[.int .u64 x, .int .u64 v, .bool true]) ∧ MS W ro' w' bm bb f' h' a' n k' (r + 1) (U ++ [x])) ∨ (e = .returned (.tuple #[.int .u64 0, .int .u64 0, .bool false]) ∧ MS W ro' w' bm bb f' h' a' n k' (r + 1) U)) := by
  refine (get_any M.law M.ka hn hr h0).mono ?_
  rintro e w' ⟨c, q, i, sl, S, N, hp, y, f', h', k', ro', a', rfl, hg, L', K', e1, e2, hs⟩
  obtain ⟨g1, g2, g3⟩ := hg.also M.len M.own
  obtain ⟨b1, b2⟩ := M.bi.got M.ne M.law.hp.hp.sok M.law.hp.hp.sapart L'.hp.hp.sok L'.hp.hp.sapart M.ka.pls hp hg
  refine ⟨ro', f', h', a', k', hs, e1, e2, g3, ?_⟩
  rcases b2 with ⟨x, rfl, I'⟩ | ⟨rfl, I'⟩
  · exact .inl ⟨x, S, rfl, L', K', I', b1, g1, g2⟩
  · exact .inr ⟨rfl, L', K', I', b1, g1, g2⟩

theorem Hp.rerole (H : Hp ro hn w B bm bb sz f h) (e : ∀ k, k < w.heap.size → ro' k = ro k) : Hp ro' hn w B bm bb sz f h :=
  ⟨H.hp.role e, H.mem, (e bm H.mem.lt_bm).trans H.rm, (e bb H.mem.lt_bb).trans H.rb, H.b⟩
theorem RFr.rerole (hf : RFr ro w w' X) (e : ∀ k, k < w.heap.size → ro' k = ro k) : RFr ro' w w' X := ⟨hf.os, hf.tape, hf.output, hf.size, fun k hk hx => hf.block k hk (by rw [← e k hk]; exact hx)⟩

/-- A call that turns nothing of a heap's. -/
theorem Hp.kept (H : Hp ro hn w B bm bb sz f h) (hf : RFr ro w w' X) (e : ∀ k, k < w.heap.size → ro' k = ro k) (x0 : ¬ X .mem ∧ ¬ X .bytes) (x1 : ¬ X (.heap hn)) (x2 : ∀ c i, ¬ X (.row hn c i)) (x3 : ¬ X (.segs hn))
    (x4 : ∀ s ∈ h.S, ¬ X (.sg s.pl) ∧ ¬ X (.mk s.pl) ∧ ¬ X (.tk s.pl)) (x5 : ∀ pl at_, ¬ X (.po pl at_) ∧ ¬ X (.pp pl at_)) : Hp ro' hn w' B bm bb sz f h := by
  have H' := H.rerole e
  have hf' := hf.rerole e
  have hh := H'.hp.reseg hf' x1 x2 x3 (S' := h.S) rfl (fun s hs => (H'.hp.segs s hs).fr hf' (x4 s hs).1 (x4 s hs).2.1 (x4 s hs).2.2 (fun p _ => x5 _ _)) H'.hp.pls H'.hp.link
  exact ⟨hh, H'.mem.stays (hf'.block bm H'.mem.lt_bm (by rw [H'.rm]; exact x0.1)) (hf'.block bb H'.mem.lt_bb (by rw [H'.rb]; exact x0.2)), H'.rm, H'.rb, Nat.le_trans H'.b hf'.size⟩

/-- Another heap's call: this one stays. -/
theorem Hp.beside (H : Hp ro hn w B bm bb sz f h) (hne : hn ≠ hm) (hf : RFr ro w w' (hpL hm)) (e : ∀ k, k < w.heap.size → ro' k = ro k) : Hp ro' hn w' B bm bb sz f h := by
  refine H.kept hf e ⟨?_, ?_⟩ ?_ (fun c i => ?_) ?_ (fun s _ => ⟨?_, ?_, ?_⟩) (fun pl at_ => ⟨?_, ?_⟩)
  all_goals (rintro ((h | ⟨_, _, h⟩) | h) <;> cases h <;> exact absurd rfl hne)

theorem hpL_ar {i : Nat} : ¬ hpL hn (.ar i) := by rintro ((h | ⟨_, _, h⟩) | h) <;> cases h
theorem hpL_other : ¬ hpL hn .other := by rintro ((h | ⟨_, _, h⟩) | h) <;> cases h

/-- A heap that has nothing stays, whatever another one's Free does. -/
theorem Hp.idle (H : Hp ro hn w B bm bb sz f h) (hS : h.S = []) (hne : hn ≠ hm) (hf : RFr ro w w' (hpT hm)) (e : ∀ k, k < w.heap.size → ro' k = ro k) (M : MemAt w' bm bb sz f') : Hp ro' hn w' B bm bb sz f' h := by
  have H' := H.rerole e
  have hf' := hf.rerole e
  have y1 : ¬ hpT hm (.heap hn) := by
    rintro (((h | ⟨_, _, h⟩ | h | ⟨_, _, h⟩) | ⟨_, h | h | h⟩) | (⟨_, h⟩ | h | h)) <;> first | (injection h with h; exact hne h) | cases h
  have y2 : ∀ c i, ¬ hpT hm (.row hn c i) := by
    rintro c i (((h | ⟨_, _, h⟩ | h | ⟨_, _, h⟩) | ⟨_, h | h | h⟩) | (⟨_, h⟩ | h | h)) <;> first | (injection h with h _ _; exact hne h) | cases h
  have y3 : ¬ hpT hm (.segs hn) := by
    rintro (((h | ⟨_, _, h⟩ | h | ⟨_, _, h⟩) | ⟨_, h | h | h⟩) | (⟨_, h⟩ | h | h)) <;> first | (injection h with h; exact hne h) | cases h
  have hh := H'.hp.reseg (g := f') hf' y1 y2 y3 (S' := h.S) rfl (fun s hs => by rw [hS] at hs; cases hs) H'.hp.pls H'.hp.link
  exact ⟨hh, M, H'.rm, H'.rb, Nat.le_trans H'.b hf'.size⟩
end Go.Proofs.YtbljphaklciinaaGreat

/- HeapMoves: the owner's cell; two heaps; how many pages there are. -/
namespace Go.Proofs.YtbljphaklciinaaGreat
open Go.RowKit
variable {ro ro' : Nat → Role} {hn hm : Nat} {w w' : World} {B bm bb sz : Nat} {f f' : Nat → Nat} {h h' o o' : HeapR} {X : Role → Prop} {a : ArR} {W : World} {n k k' r x : Nat} {U : List Nat}

theorem segLoad {bs bk bt pl : Nat} {T : Nat → Bool} {O : Nat → Option Nat} {x t a : Int} (h : SegAt w bs bk bt bm pl T O x t a) (h0 : 0 ≤ a) (h1 : a < 4611686018427387904) :
    Calls Tryz.prog 28 #[.pointer (some ⟨bs, 19, none⟩)] w fun e w' => e = .returned (.tuple #[.int .u64 x, .int .u64 t]) ∧ SegAt w' bs bk bt bm pl T O x t (a + 1) ∧ w.grownBy w' (some bs) := by
  have hc : CellAt w bs 19 x t a := ⟨h.obj.at_ (j := 19) (by omega) rfl, h.obj.at_ (j := 20) (by omega) rfl, h.obj.at_ (j := 21) (by omega) rfl, h.obj.frz 19 (by omega), h.obj.frz 20 (by omega), h.obj.frz 21 (by omega)⟩
  refine (load_any bs 19 x t a w hc h0 h1).mono fun e w' ⟨he, kk, hw⟩ => ⟨he, ?_, ?_⟩
  · subst hw
    have ho := (h.obj.set (i := 21) (by omega) (.int .i64 (a + 1))).drewN kk
    refine ⟨ho.congr (fun j hj => ?_), h.marks.stays ?_ ?_, h.nk, h.nt, h.pl64, ?_⟩
    · unfold upd
      rcases lt22 hj with rfl | rfl | rfl | ⟨i, hi, rfl⟩ | rfl | rfl | rfl
      · rfl
      · rfl
      · rfl
      · rw [if_neg (by omega), segV_of i hi, segV_of i hi]
      · rfl
      · rfl
      · rfl
    · exact Below.heap_setCell _ _ _ _ h.nk.symm
    · exact Below.heap_setCell _ _ _ _ h.nt.symm
    · exact (h.shp.set bs 21 _).of_block rfl
  · subst hw
    exact only_drewN (only_set (World.grownBy.refl w _) _) _

/-- A segment whose cell has been asked. -/
def askedI (pl : Nat) (s : SegR) : SegR := if s.pl = pl then { s with a := s.a + 1 } else s
def asked (pl : Nat) (S : List SegR) : List SegR := S.map (askedI pl)
theorem askedI_pl (pl : Nat) (s : SegR) : (askedI pl s).pl = s.pl := by unfold askedI; split <;> rfl
theorem askedI_P (pl : Nat) (s : SegR) : (askedI pl s).P = s.P := by unfold askedI; split <;> rfl
theorem askedI_bs (pl : Nat) (s : SegR) : (askedI pl s).bs = s.bs := by unfold askedI; split <;> rfl

theorem Hp.asked (H : Hp ro hn w B bm bb sz f h) {s : SegR} (hs : s ∈ h.S) (hseg : SegAt w' s.bs s.bk s.bt bm s.pl (segT s.P) (segO s.P) s.x s.t (s.a + 1)) (hg : w.grownBy w' (some s.bs)) :
    Hp ro hn w' B bm bb sz f { h with S := asked s.pl h.S } ∧ RFr ro w w' (fun r => r = .sg s.pl) := by
  have hso := H.hp.segs s hs
  have hR : RFr ro w w' (fun r => r = .sg s.pl) := ⟨hg.os, hg.tape, hg.output, hg.size, fun k hk hx => hg.block k hk (fun e => hx (by rw [Option.some.inj e]; exact hso.rs))⟩
  have hh := H.hp.reseg hR nofun (fun c i => nofun) nofun (S' := Go.Proofs.YtbljphaklciinaaGreat.asked s.pl h.S) (by
    unfold segP Go.Proofs.YtbljphaklciinaaGreat.asked
    rw [List.map_map]
    refine List.map_congr_left fun t _ => ?_
    show Value.pointer (some ⟨(askedI s.pl t).bs, 0, none⟩) = _
    rw [askedI_bs]) (fun t ht => by
    obtain ⟨t0, ht0, rfl⟩ := List.mem_map.1 ht
    have h0 := H.hp.segs t0 ht0
    by_cases e : t0.pl = s.pl
    · have es := H.hp.seg_at ht0 hs e
      subst es
      unfold askedI
      rw [if_pos rfl]
      exact ⟨hseg, h0.fit, fun q hq => (h0.pages q hq).fr hR nofun nofun, h0.apart, h0.rs, h0.rk, h0.rt⟩
    · unfold askedI
      rw [if_neg e]
      exact h0.fr hR (fun h => by injection h with h; exact e h) nofun nofun (fun q _ => ⟨nofun, nofun⟩)) (by
    unfold Go.Proofs.YtbljphaklciinaaGreat.asked
    rw [List.pairwise_map]
    exact H.hp.pls.imp fun {a b} hab => by rw [askedI_pl, askedI_pl]; exact hab) (fun c hc k hk => by
    obtain ⟨t, ht, q, hq, e, hr⟩ := H.hp.link c hc k hk
    exact ⟨_, List.mem_map.2 ⟨t, ht, rfl⟩, q, by rw [askedI_P]; exact hq, by rw [askedI_pl]; exact e, hr⟩)
  exact ⟨⟨hh, H.mem.stays (hR.block bm H.mem.lt_bm (by rw [H.rm]; nofun)) (hR.block bb H.mem.lt_bb (by rw [H.rb]; nofun)), H.rm, H.rb, Nat.le_trans H.b hg.size⟩, hR⟩

theorem nodup_len_le : ∀ {L M : List Int}, L.Nodup → (∀ x ∈ L, x ∈ M) → L.length ≤ M.length
  | [], _, _, _ => Nat.zero_le _
  | x :: r, M, hn, hs => by
    rw [List.nodup_cons] at hn
    have h1 := hs x (by simp)
    have h2 := nodup_len_le (L := r) (M := M.erase x) hn.2 (fun y hy => (List.mem_erase_of_ne (fun e : y = x => hn.1 (by rw [← e]; exact hy))).2 (hs y (by simp [hy])))
    rw [List.length_erase_of_mem h1] at h2
    have := List.length_pos_of_mem h1
    simp only [List.length_cons]
    omega

/-- How many pages there are. -/
def pagesN (S : List SegR) : Nat := (S.map fun s => s.P.length).sum
def keysOf (S : List SegR) : List Int := S.flatMap fun s => s.P.map (keyOf s)
theorem keysOf_len (S : List SegR) : (keysOf S).length = pagesN S := by
  unfold keysOf pagesN
  rw [List.length_flatMap]
  congr 1
  refine List.map_congr_left fun s _ => ?_
  rw [List.length_map]
theorem keysOf_nodup {S : List SegR} (K : SOk sz f S) : (keysOf S).Nodup := by
  unfold keysOf
  rw [List.Nodup, List.pairwise_flatMap]
  refine ⟨fun s hs => ?_, List.Pairwise.imp_of_mem (fun {s t} hs ht hst x hx y hy e => ?_) K.pls⟩
  · rw [List.pairwise_map]
    refine List.Pairwise.imp_of_mem (fun {p q} hp hq hpq e => ?_) (K.nod s hs)
    obtain ⟨_, rfl⟩ := K.key_inj hs hs hp hq e
    exact hpq rfl
  · obtain ⟨p, hp, rfl⟩ := List.mem_map.1 hx
    obtain ⟨q, hq, rfl⟩ := List.mem_map.1 hy
    obtain ⟨rfl, _⟩ := K.key_inj hs ht hp hq e
    exact hst rfl

theorem mem_classes {c : Nat} (hc : c < 13) : ∃ x ∈ classes, rowIx x = some c := by
  by_cases e : c = 12
  · exact ⟨-1, by decide, by rw [e]; rfl⟩
  · refine ⟨(c : Int), ?_, ?_⟩
    · unfold classes
      exact List.mem_append_left _ (List.mem_map.2 ⟨c, by simp; omega, rfl⟩)
    · unfold rowIx
      rw [if_neg (by omega), if_pos (by omega)]
      simp

theorem rowIx_inj {c d : Int} {i : Nat} (h1 : rowIx c = some i) (h2 : rowIx d = some i) (hc : c < 12) (hd : d < 12) : c = d := by
  unfold rowIx at h1 h2
  split at h1 <;> split at h2
  · omega
  · split at h2
    · rename_i a b _
      simp at h1 h2
      omega
    · cases h2
  · split at h1
    · simp at h1 h2
      omega
    · cases h1
  · split at h1 <;> split at h2
    · simp at h1 h2
      omega
    · cases h2
    · cases h1
    · cases h1

theorem pages_count (H : HeapAt ro hn w B bm sz f h) (hk : ∀ s ∈ h.S, ∀ p ∈ s.P, ∃ c, rowIx p.cls = some c ∧ (keyOf s p ∈ h.Q1 c ∨ keyOf s p ∈ h.Q2 c)) : (rowsOf h classes).length = pagesN h.S := by
  have K := H.sok
  rw [← keysOf_len]
  have hcl : ∀ x ∈ classes, x < 12 := by decide
  refine Nat.le_antisymm (nodup_len_le ?_ fun y hy => ?_) (nodup_len_le (keysOf_nodup K) fun y hy => ?_)
  · unfold rowsOf
    rw [List.Nodup, List.pairwise_flatMap]
    refine ⟨fun x hx => ?_, List.Pairwise.imp_of_mem (fun {x y} hx hy hxy u hu v hv e => ?_) (show classes.Pairwise (· ≠ ·) by decide)⟩
    · unfold rowOf
      split
      · rename_i i e
        exact (H.qo i (rowIx_lt e)).all
      · exact List.Pairwise.nil
    · subst e
      unfold rowOf at hu hv
      split at hu
      · rename_i i e1
        split at hv
        · rename_i j e2
          obtain ⟨s, hs, p, hp, e3, e4⟩ := H.link i (rowIx_lt e1) u (List.mem_append.1 hu)
          obtain ⟨t, ht, q, hq, e5, e6⟩ := H.link j (rowIx_lt e2) u (List.mem_append.1 hv)
          obtain ⟨_, rfl⟩ := K.key_inj hs ht hp hq (e3.symm.trans e5)
          rw [e4] at e6
          have := Option.some.inj e6
          subst this
          exact hxy (rowIx_inj e1 e2 (hcl x hx) (hcl y hy))
        · cases hv
      · cases hu
  · unfold rowsOf at hy
    obtain ⟨x, hx, hy⟩ := List.mem_flatMap.1 hy
    unfold rowOf at hy
    split at hy
    · rename_i i e1
      obtain ⟨s, hs, p, hp, e3, _⟩ := H.link i (rowIx_lt e1) y (List.mem_append.1 hy)
      exact List.mem_flatMap.2 ⟨s, hs, List.mem_map.2 ⟨p, hp, e3.symm⟩⟩
    · cases hy
  · obtain ⟨s, hs, hy⟩ := List.mem_flatMap.1 hy
    obtain ⟨p, hp, rfl⟩ := List.mem_map.1 hy
    obtain ⟨c, e1, e2⟩ := hk s hs p hp
    obtain ⟨x, hx, ex⟩ := mem_classes (rowIx_lt e1)
    refine List.mem_flatMap.2 ⟨x, hx, ?_⟩
    unfold rowOf
    rw [ex]
    exact List.mem_append.2 e2
end Go.Proofs.YtbljphaklciinaaGreat

/- HeapMoves: two heaps over one arena and memory, call by call. -/
namespace Go.Proofs.YtbljphaklciinaaGreat
open Go.RowKit
variable {ro ro' : Nat → Role} {hn hm : Nat} {w w' : World} {B bm bb sz : Nat} {f f' : Nat → Nat} {h h' o o' : HeapR} {X : Role → Prop} {a a' : ArR} {W : World} {n k k' r x : Nat} {U : List Nat} {S : List SegR}

structure P2 (W : World) (ro : Nat → Role) (w : World) (bm bb sz : Nat) (f : Nat → Nat) (h o : HeapR) (a : ArR) : Prop where
  hh : Hp ro 0 w W.heap.size bm bb sz f h
  oo : Hp ro 1 w W.heap.size bm bb sz f o
  ar : ArOk ro w W.heap.size h.ba a
  ba : o.ba = h.ba
  below : Below W.heap.size W w
  old : ∀ k, k < W.heap.size → ro k = .other

theorem P2.to (P : P2 W ro w bm bb sz f h o a) (H : Hp ro' 0 w' W.heap.size bm bb sz f' h') (O : Hp ro' 1 w' W.heap.size bm bb sz f' o') (A : ArOk ro' w' W.heap.size h'.ba a') (hba : o'.ba = h'.ba) (hf : RFr ro w w' X) (hx : ¬ X .other) (e : ∀ k, k < w.heap.size → ro' k = ro k) : P2 W ro' w' bm bb sz f' h' o' a' :=
  have := RFr.law P.below P.old hf hx e
  ⟨H, O, A, hba, this.1, this.2⟩
theorem P2.on (P : P2 W ro w bm bb sz f h o a) (hb : Below w.heap.size w w') : P2 W ro w' bm bb sz f h o a :=
  P.to (P.hh.below hb) (P.oo.below hb) (P.ar.over (RFr.of_below hb : RFr ro w w' (fun _ => False)) (fun _ h => h) (fun _ _ => rfl)) P.ba (RFr.of_below hb : RFr ro w w' (fun _ => False)) (fun h => h) (fun _ _ => rfl)
/-- Roles of what is to come. -/
theorem P2.cut (P : P2 W ro w bm bb sz f h o a) : P2 W (cutR ro w.heap.size) w bm bb sz f h o a :=
  have e : ∀ k, k < w.heap.size → cutR ro w.heap.size k = ro k := fun k hk => if_pos hk
  ⟨P.hh.rerole e, P.oo.rerole e, P.ar.role e, P.ba, P.below, fun k hk => (e k (Nat.lt_of_lt_of_le hk P.below.size)).trans (P.old k hk)⟩

theorem P2.leave (P : P2 W ro w bm bb sz f h o a) {s : SegR} (hs : s ∈ h.S) : Calls Tryz.prog 24 #[.pointer (some ⟨h.bh, 0, none⟩), .int .i64 s.pl] w fun e w' => e = .returned (.tuple #[.pointer (some ⟨s.bs, 0, none⟩), .int .i64 0]) ∧
    ∃ ro' h', P2 W ro' w' bm bb sz f h' o a ∧ h'.S = h.S.filter (noPl s.pl) ∧ h'.bh = h.bh ∧ h'.ba = h.ba ∧ SegOk ro' w' bm sz f s ∧ Stay ro w ro' w' := by
  refine (leave_ok P.hh hs).mono ?_
  rintro e w' ⟨rfl, ro', h', he, hf, H, R, hso⟩
  refine ⟨rfl, ro', { h' with S := h.S.filter (noPl s.pl) }, P.to H (P.oo.beside (by decide) hf he) ?_ (P.ba.trans R.ba.symm) hf hpL_other he, rfl, R.bh, R.ba, hso, Stay.of_fr hf hpL_other he⟩
  show ArOk ro' w' W.heap.size h'.ba a
  rw [R.ba]
  exact P.ar.over hf (fun i => hpL_ar) he

def KeysIn (h : HeapR) : Prop := ∀ s ∈ h.S, ∀ p ∈ s.P, ∃ c, rowIx p.cls = some c ∧ (keyOf s p ∈ h.Q1 c ∨ keyOf s p ∈ h.Q2 c)

theorem P2.adopt (P : P2 W ro w bm bb sz f h o a) {s : SegR} (hs : SegOk ro w bm sz f s) (hno : ∀ t ∈ o.S, t.pl ≠ s.pl) (hk : KeysIn o) : Calls Tryz.prog 26 #[.pointer (some ⟨o.bh, 0, none⟩), .pointer (some ⟨s.bs, 0, none⟩)] w fun e w' => e = .returned (.int .i64 0) ∧
    ∃ ro' o', P2 W ro' w' bm bb sz f h o' a ∧ o'.S = o.S ++ [s] ∧ o'.bh = o.bh ∧ o'.ba = o.ba ∧ KeysIn o' ∧ Stay ro w ro' w' := by
  refine (adopt_ok P.oo hs hno).mono ?_
  rintro e w' ⟨rfl, ro', o', gs, he, hf, O, R⟩
  have hS : o'.S = o.S ++ [s] := R.S
  have hba : o'.ba = o.ba := R.ba
  refine ⟨rfl, ro', o', P.to (P.hh.beside (by decide) hf he) O (P.ar.over hf (fun i => hpL_ar) he) (hba.trans P.ba) hf hpL_other he, hS, R.bh, hba, fun t ht p hp => ?_, Stay.of_fr hf hpL_other he⟩
  rw [hS] at ht
  rcases List.mem_append.1 ht with ht | ht
  · obtain ⟨c, e1, e2⟩ := hk t ht p hp
    exact ⟨c, e1, (R.q c (rowIx_lt e1) _).2 (.inl e2)⟩
  · simp only [List.mem_singleton] at ht
    subst ht
    have hpo := hs.pages p hp
    obtain ⟨c, hc, e1⟩ := rowIx_some hpo.c0 hpo.c1
    exact ⟨c, e1, (R.q c hc _).2 (.inr ⟨p, hs.mem_pgs.2 hp, e1, rfl⟩)⟩

theorem P2.load (P : P2 W ro w bm bb sz f h o a) {s : SegR} (hs : s ∈ o.S) (hno : ∀ t ∈ h.S, t.pl ≠ s.pl) (h0 : 0 ≤ s.a) (h1 : s.a < 4611686018427387904) : Calls Tryz.prog 28 #[.pointer (some ⟨s.bs, 19, none⟩)] w fun e w' => e = .returned (.tuple #[.int .u64 s.x, .int .u64 s.t]) ∧
    P2 W ro w' bm bb sz f h { o with S := asked s.pl o.S } a ∧ Stay ro w ro w' := by
  refine (segLoad (P.oo.hp.segs s hs).seg h0 h1).mono ?_
  rintro e w' ⟨rfl, hseg, hg⟩
  obtain ⟨O, hf⟩ := P.oo.asked hs hseg hg
  have hx : ¬ (Role.other = Role.sg s.pl) := nofun
  refine ⟨rfl, P.to (P.hh.kept hf (fun _ _ => rfl) ⟨nofun, nofun⟩ nofun (fun _ _ => nofun) nofun (fun t ht => ⟨fun e => by injection e with e; exact hno t ht e, nofun, nofun⟩) (fun _ _ => ⟨nofun, nofun⟩)) O (P.ar.over hf (fun i => nofun) (fun _ _ => rfl)) P.ba hf hx (fun _ _ => rfl), Stay.of_fr hf hx (fun _ _ => rfl)⟩

theorem KeysIn.asked {pl : Nat} (hk : KeysIn o) : KeysIn { o with S := asked pl o.S } := fun t ht p hp => by
  obtain ⟨t0, ht0, rfl⟩ := List.mem_map.1 ht
  rw [askedI_P] at hp
  obtain ⟨c, e1, e2⟩ := hk t0 ht0 p hp
  have : keyOf (askedI pl t0) p = keyOf t0 p := by unfold keyOf; rw [askedI_pl]
  exact ⟨c, e1, by rw [this]; exact e2⟩

/-- A segment that has moved. -/
def mv (s : SegR) : SegR := { s with a := s.a + 1 }
theorem asked_mv {s : SegR} (hno : ∀ t ∈ S, t.pl ≠ s.pl) : asked s.pl (S ++ [s]) = S ++ [mv s] := by
  unfold asked
  rw [List.map_append]
  congr 1
  · rw [List.map_congr_left (g := id)]
    · simp
    · intro t ht
      show askedI s.pl t = t
      unfold askedI
      rw [if_neg (hno t ht)]
  · show [askedI s.pl s] = _
    unfold askedI
    rw [if_pos rfl]
    rfl

theorem mv_used (S : List SegR) : usedS (S.map mv) = usedS S := by
  unfold usedS
  rw [List.map_map]
  rfl
theorem mv_pages (S : List SegR) : pagesN (S.map mv) = pagesN S := by
  unfold pagesN
  rw [List.map_map]
  rfl
/-- All that was used is so behind the move. -/
theorem BInv.moved (I : BInv h U) (hS : o.S = h.S.map mv) (hk : KeysIn o) : BInv o U := by
  have hm : ∀ {t : SegR}, t ∈ o.S → ∃ s ∈ h.S, t = mv s := fun {t} ht => by
    rw [hS] at ht
    obtain ⟨s, hs, e⟩ := List.mem_map.1 ht
    exact ⟨s, hs, e.symm⟩
  refine ⟨by rw [hS, mv_used]; exact I.cnt, fun x hx => ?_, I.nod, fun t ht p hp => ?_, hk⟩
  · obtain ⟨s, hs, p, hp, q, hq, e, ho⟩ := I.use x hx
    exact ⟨mv s, by rw [hS]; exact List.mem_map.2 ⟨s, hs, rfl⟩, p, hp, q, hq, e, ho⟩
  · obtain ⟨s, hs, rfl⟩ := hm ht
    exact I.pos s hs p hp
theorem NE.moved (ne : NE S) : NE (S.map mv) := fun t ht => by
  obtain ⟨s, hs, rfl⟩ := List.mem_map.1 ht
  exact ne s hs
theorem AInv.moved (A : AInv a S) : AInv a (S.map mv) := ⟨⟨A.seg.srt, A.seg.rl, fun t ht => by
  obtain ⟨s, hs, rfl⟩ := List.mem_map.1 ht
  exact A.seg.own s hs⟩, fun j hj => by
  obtain ⟨s, hs, e⟩ := A.tru j hj
  exact ⟨mv s, List.mem_map.2 ⟨s, hs, rfl⟩, e⟩⟩

set_option maxRecDepth 100000 in
set_option maxHeartbeats 1000000 in
theorem free_none (H : HeapAt ro hn w B bm sz f h) (hS : h.S = []) {x : Nat} (hx : x < 18446744073709551616) : Calls Tryz.prog 16 #[.pointer (some ⟨h.bh, 0, none⟩), .int .u64 x] w fun e w' => e = .returned (.int .i64 5) ∧ Below w.heap.size w w' := by
  have HF := Lib.hid (find_any H x hx)
  rw [show findV h.S x = none from by rw [hS]; rfl] at HF
  simp only [Option.map_none, ptrV] at HF
  clear H hS
  go_enter Tryz.func16, Tryz.ntmps16
  go_wp2_with fail
  (with_reducible refine HF.out.mono ?_)
  rintro e w1 ⟨rfl, hb⟩
  have HB := Lib.hid hb
  clear hb HF
  go_wp2_with fail
  go_ret
  exact ⟨rfl, HB.out⟩

/-- The second heap's Free. -/
theorem P2.free (P : P2 W ro w bm bb sz f h o a) (hS : h.S = []) (I : BInv o U) (ne : NE o.S) (A : AInv a o.S) (hx : x ∈ U) : Calls Tryz.prog 16 #[.pointer (some ⟨o.bh, 0, none⟩), .int .u64 x] w fun e w' => e = .returned (.int .i64 0) ∧
    ∃ ro' f' o' a', P2 W ro' w' bm bb sz f' h o' a' ∧ BInv o' (U.erase x) ∧ NE o'.S ∧ AInv a' o'.S ∧ a'.n = a.n ∧ o'.bh = o.bh ∧ o'.ba = o.ba ∧ Stay ro w ro' w' := by
  obtain ⟨s, hs, p, hp, q, hq, hxe, ho⟩ := I.use x hx
  obtain ⟨i, hr, _⟩ := I.keys s hs p hp
  have ar : ArOk ro w W.heap.size o.ba a := by rw [P.ba]; exact P.ar
  refine (free_ok P.oo ar A.seg hs hp (rowIx_lt hr) hr hq hxe ho).mono ?_
  rintro e w' ⟨rfl, ro', R, F, k1, k2, S', a', he, rr, A', H, hk⟩
  have hI := P.hh.idle hS (by decide) rr he H.mem
  have hA2 : ArOk ro' w' W.heap.size h.ba a' := by rw [← P.ba]; exact A'
  refine ⟨rfl, ro', _, _, a', P.to hI H hA2 P.ba rr hpT_other he, ?_⟩
  rcases hk with ⟨hu, rfl, rfl, rfl, rfl⟩ | ⟨hu, hend, rfl, rfl⟩
  · refine ⟨I.gave P.oo.hp.sok P.oo.hp.sapart hx hs hp hq hxe ho hu, fun t ht => ?_, A.set, rfl, rfl, rfl, Stay.of_fr rr hpT_other he⟩
    obtain ⟨t0, ht0, rfl⟩ := List.mem_map.1 ht
    split
    · intro e
      exact ne t0 ht0 (List.map_eq_nil_iff.1 (show setPP p.at_ (p.pg.gave x) t0.P = [] from e))
    · exact ne t0 ht0
  · obtain ⟨I', ne'⟩ := I.ended P.oo.hp.sok P.oo.hp.sapart hx hs hp hq hxe ho hu hend ne (i := i) (k1 := k1) (k2 := k2)
    obtain ⟨A2, en⟩ := A.ends P.oo.hp.pls hs hend
    exact ⟨I', ne', A2, en, rfl, rfl, Stay.of_fr rr hpT_other he⟩
end Go.Proofs.YtbljphaklciinaaGreat

/- HeapMoves: the law's states. -/
namespace Go.Proofs.YtbljphaklciinaaGreat
open Go.RowKit
variable {ro ro' : Nat → Role} {w w' : World} {bm bb : Nat} {f f' : Nat → Nat} {h h' o o' : HeapR} {a a' : ArR} {W : World} {k r x : Nat} {U : List Nat} {bh ba ob : Nat}

/-- While blocks come: the other heap's block lies by. -/
structure S1 (W : World) (ro : Nat → Role) (bh ba ob bm bb k : Nat) (U : List Nat) (w : World) : Prop where
  st : ∃ f h a kk, MS W ro w bm bb f h a 16 kk k U ∧ h.bh = bh ∧ h.ba = ba ∧ h.id = 7
  ot : ro ob = .other
  blk : w.heap[ob]? = some (.cells (heapCs bm ba 9) 111)

theorem S1.size (M : S1 W ro bh ba ob bm bb k U w) : W.heap.size ≤ w.heap.size := by
  obtain ⟨f, h, a, kk, M, _⟩ := M.st
  exact M.law.below.size
theorem S1.begin {bk bt : Nat} (L : LawH W ro 0 w bm bb (16 * 16384) f (newHR bh ba 7) (newAr bk bt 16)) : S1 W (cutR ro w.heap.size) bh ba w.heap.size bm bb 0 [] (w.alloc (.cells (heapCs bm ba 9) 111)) := by
  refine ⟨⟨f, _, _, 0, MS.new ((L.cut rfl).on ((Below.refl _ _).alloc (Nat.le_refl _) _)), rfl, rfl, rfl⟩, if_neg (by omega), ?_⟩
  show (w.heap.push _)[w.heap.size]? = _
  simp

theorem S1.get {v : Value} (M : S1 W ro bh ba ob bm bb k U w) (O : OwnU W ro v U w) (hr : k < 1000000) {nn : Int} (h0 : 0 ≤ nn) :
    Calls Tryz.prog 11 #[.pointer (some ⟨bh, 0, none⟩), .int .u64 nn] w fun e w' => ∃ ro', OwnU W ro' v U w' ∧
      ((∃ (x : Nat) (v : Nat), e = .returned (.tuple #[.int .u64 x, .int .u64 v, .bool true]) ∧ S1 W ro' bh ba ob bm bb (k + 1) (U ++ [x]) w') ∨ (e = .returned (.tuple #[.int .u64 0, .int .u64 0, .bool false]) ∧ S1 W ro' bh ba ob bm bb (k + 1) U w')) := by
  obtain ⟨f, h, a, kk, MM, rfl, rfl, e3⟩ := M.st
  refine (MM.get (by omega) hr h0).mono ?_
  rintro e w' ⟨ro', f', h', a', k', hs, e1, e2, e4, hk⟩
  obtain ⟨s1, s2⟩ := hs.2 ob (lt_of_block M.blk) M.ot
  refine ⟨ro', O.stay hs, ?_⟩
  rcases hk with ⟨x, v, rfl, M'⟩ | ⟨rfl, M'⟩
  · exact .inl ⟨x, v, rfl, ⟨f', h', a', k', M', e1, e2, e4.trans e3⟩, s2, s1.trans M.blk⟩
  · exact .inr ⟨rfl, ⟨f', h', a', k', M', e1, e2, e4.trans e3⟩, s2, s1.trans M.blk⟩

theorem S1.app {v : Value} {U0 : List Nat} {ob' : Obj} (M : S1 W ro bh ba ob bm bb k U w) (O : OwnU W ro v U0 w) (hne : v.ownBlock ≠ some ob) (hg : (w.alloc ob').grownBy w' v.ownBlock) : S1 W (cutR ro w.heap.size) bh ba ob bm bb k U w' := by
  obtain ⟨f, h, a, kk, MM, e1, e2, e3⟩ := M.st
  have hl := lt_of_block M.blk
  refine ⟨⟨f, h, a, kk, { MM with law := ((MM.law.cut rfl).on ((Below.refl _ _).alloc (Nat.le_refl _) _)).own hg (fun b hb => ⟨?_, (O.1.lt b hb).1⟩) }, e1, e2, e3⟩, ?_, ?_⟩
  · unfold cutR
    rw [if_pos (O.1.lt b hb).2]
    exact O.2 b hb
  · unfold cutR
    rw [if_pos hl]
    exact M.ot
  · exact ((hg.block ob (by simp; omega) (fun e => hne e.symm)).trans (Below.heap_alloc w _ ob hl)).trans M.blk

/-- The two heaps, ahead of the moves. -/
theorem S1.two (M : S1 W ro bh ba ob bm bb k U w) (hob : W.heap.size ≤ ob) : ∃ ro' f h a, P2 W ro' w bm bb (16 * 16384) f h (newHR ob ba 9) a ∧ h.bh = bh ∧ h.ba = ba ∧ BInv h U ∧ NE h.S ∧ AInv a h.S ∧ (∀ s ∈ h.S, s.x = 7 ∧ s.a = 1) ∧ (∀ b, b ≠ ob → ro' b = ro b) ∧ KeysIn h ∧ a.n = 16 := by
  obtain ⟨f, h, a, kk, MM, e1, e2, e3⟩ := M.st
  have L := MM.law
  have hne : ∀ b, ro b ≠ .other → b ≠ ob := fun b hb e => hb (by rw [e]; exact M.ot)
  obtain ⟨ro', hro⟩ : ∃ ro' : Nat → Role, ro' = fun b => if b = ob then .heap 1 else ro b := ⟨_, rfl⟩
  have ero : ∀ b, b ≠ ob → ro' b = ro b := fun b hb => by rw [hro]; exact if_neg hb
  have eob : ro' ob = .heap 1 := by rw [hro]; exact if_pos rfl
  -- the first heap's blocks are none of the other's
  have keep : ∀ {b : Nat} {R : Role}, ro b = R → R ≠ .other → ro' b = R := fun {b R} hb hR => (ero b (hne b (by rw [hb]; exact hR))).trans hb
  have pok : ∀ {pl : Nat} {p : PageR}, PageOk ro w bm (16 * 16384) f pl p → PageOk ro' w bm (16 * 16384) f pl p := fun hp => { hp with rq := keep hp.rq nofun, rp := keep hp.rp nofun }
  have sok : ∀ {s : SegR}, SegOk ro w bm (16 * 16384) f s → SegOk ro' w bm (16 * 16384) f s := fun hs => { hs with pages := fun p hp => pok (hs.pages p hp), rs := keep hs.rs nofun, rk := keep hs.rk nofun, rt := keep hs.rt nofun }
  have H := L.hp.hp
  have Hh : HeapAt ro' 0 w W.heap.size bm (16 * 16384) f h := { H with
    rb := keep H.rb nofun
    r1 := fun c hc b hb => keep (H.r1 c hc b hb) nofun
    r2 := fun c hc b hb => keep (H.r2 c hc b hb) nofun
    rs := fun b hb => keep (H.rs b hb) nofun
    segs := fun s hs => sok (H.segs s hs) }
  have Hp1 : Hp ro' 0 w W.heap.size bm bb (16 * 16384) f h := ⟨Hh, L.hp.mem, keep L.hp.rm nofun, keep L.hp.rb nofun, L.hp.b⟩
  have Ar1 : ArOk ro' w W.heap.size h.ba a := ⟨L.ar.at_, keep L.ar.ra nofun, keep L.ar.rk nofun, keep L.ar.rt nofun, fun b hb => keep (L.ar.rg b hb) nofun⟩
  -- the other heap, new
  have Oh : HeapAt ro' 1 w W.heap.size bm (16 * 16384) f (newHR ob ba 9) := by
    have hc : ∀ j, j < 30 → w.cell? ⟨ob, j, none⟩ = some ((heapCs bm ba 9).getD j undef) := fun j hj => by
      rw [cell_of_row w ob j (heapCs bm ba 9) _ _ M.blk]
      have : j < (heapCs bm ba 9).size := hj
      simp [Array.getD, this]
    have hz : ∀ j, w.frozen? ⟨ob, j, none⟩ = false := fun j => by simp [World.frozen?, M.blk]
    have hrow : ∀ q, q < 26 → RowAt w W.heap.size ob q [] none := fun q hq => by
      refine ⟨⟨.slice none 0 0, ?_, World.ownsRow_nil _ _ _ _, rfl⟩, hz q, nofun⟩
      rw [hc q (by omega)]
      rcases (show q = 0 ∨ q = 1 ∨ q = 2 ∨ q = 3 ∨ q = 4 ∨ q = 5 ∨ q = 6 ∨ q = 7 ∨ q = 8 ∨ q = 9 ∨ q = 10 ∨ q = 11 ∨ q = 12 ∨ q = 13 ∨ q = 14 ∨ q = 15 ∨ q = 16 ∨ q = 17 ∨ q = 18 ∨ q = 19 ∨ q = 20 ∨ q = 21 ∨ q = 22 ∨ q = 23 ∨ q = 24 ∨ q = 25 by omega) with rfl | rfl | rfl | rfl | rfl | rfl | rfl | rfl | rfl | rfl | rfl | rfl | rfl | rfl | rfl | rfl | rfl | rfl | rfl | rfl | rfl | rfl | rfl | rfl | rfl | rfl <;> rfl
    exact {
      rb := eob
      c26 := hc 26 (by omega)
      c27 := hc 27 (by omega)
      c28 := hc 28 (by omega)
      c29 := ⟨.slice none 0 0, hc 29 (by omega), World.ownsRow_nil _ _ _ _, rfl⟩
      z29 := hz 29
      q := fun c hc => ⟨hrow _ (by omega), hrow _ (by omega), fun _ => rfl⟩
      qo := fun _ _ => QOnce.nil
      r1 := nofun
      r2 := nofun
      rs := nofun
      segs := nofun
      pls := List.Pairwise.nil
      link := fun c hc k hk => by rcases hk with h | h <;> cases h
      len := by simp [newHR] }
  refine ⟨ro', f, h, a, ⟨Hp1, ⟨Oh, L.hp.mem, keep L.hp.rm nofun, keep L.hp.rb nofun, L.hp.b⟩, Ar1, e2.symm, L.below, fun b hb => ?_⟩, e1, e2, MM.bi, MM.ne, AInv.of_ka MM.ka (by omega) MM.len H.pls, fun s hs => ?_, ero, MM.bi.keys, MM.ka.en⟩
  · rw [ero b (by omega)]
    exact L.old b hb
  · have := MM.own s hs
    rw [e3] at this
    exact this
end Go.Proofs.YtbljphaklciinaaGreat

/- HeapMoves: the law's states, call by call. -/
namespace Go.Proofs.YtbljphaklciinaaGreat
open Go.RowKit
variable {ro ro' : Nat → Role} {w w' : World} {bm bb : Nat} {f f' : Nat → Nat} {h h' o o' : HeapR} {a a' : ArR} {W : World} {k r x : Nat} {U : List Nat} {bh ba ob : Nat} {hS oS : List SegR}

theorem at_ne {v v' : Value} {b : Obj} (hb : ob < w.heap.size) (hn : v.ownBlock ≠ some ob) (hat : v'.ownBlock = v.ownBlock ∨ v'.ownBlock = some (w.alloc b).heap.size) : v'.ownBlock ≠ some ob := by
  rcases hat with h1 | h1
  · rw [h1]; exact hn
  · rw [h1]
    intro e
    have e := Option.some.inj e
    simp at e
    omega

/-- Both heaps, while segments go over. -/
def M2 (W : World) (ro : Nat → Role) (bh ba ob bm bb : Nat) (f : Nat → Nat) (a : ArR) (hS oS : List SegR) (w : World) : Prop :=
  ∃ h o, P2 W ro w bm bb (16 * 16384) f h o a ∧ h.bh = bh ∧ h.ba = ba ∧ o.bh = ob ∧ h.S = hS ∧ o.S = oS ∧ KeysIn o

theorem M2.on (M : M2 W ro bh ba ob bm bb f a hS oS w) (hb : Below w.heap.size w w') : M2 W ro bh ba ob bm bb f a hS oS w' := by
  obtain ⟨h, o, P, e⟩ := M
  exact ⟨h, o, P.on hb, e⟩
theorem M2.cut (M : M2 W ro bh ba ob bm bb f a hS oS w) : M2 W (cutR ro w.heap.size) bh ba ob bm bb f a hS oS w := by
  obtain ⟨h, o, P, e⟩ := M
  exact ⟨h, o, P.cut, e⟩
theorem M2.below (M : M2 W ro bh ba ob bm bb f a hS oS w) : Below W.heap.size W w := by
  obtain ⟨h, o, P, e⟩ := M
  exact P.below

theorem M2.segs (M : M2 W ro bh ba ob bm bb f a hS oS w) : Calls Tryz.prog 23 #[.pointer (some ⟨bh, 0, none⟩)] w (NewSegs w (segP hS)) := by
  obtain ⟨h, o, P, rfl, rfl, rfl, rfl, rfl, _⟩ := M
  exact segs_any P.hh.hp

def PagesTo (w : World) (n : Nat) (e : Ending) (w' : World) : Prop := ∃ A c, e = .returned (.slice A n c) ∧ Below w.heap.size w w'
theorem pages_n {hn B sz : Nat} (H : HeapAt ro hn w B bm sz f h) (hk : KeysIn h) {n : Nat} (e : n = pagesN h.S) :
    Calls Tryz.prog 21 #[.pointer (some ⟨h.bh, 0, none⟩), .slice none 0 0] w (PagesTo w n) := by
  refine (pages_all H).mono ?_
  rintro e w' ⟨v, rfl, ho, hb⟩
  obtain ⟨A, c, rfl, _⟩ := own_at ho
  refine ⟨A, c, ?_, hb⟩
  rw [e, ← pages_count H hk]
  unfold startsOf
  rw [List.length_map]
def SegsTo (w : World) (n : Nat) (e : Ending) (w' : World) : Prop := ∃ A c, e = .returned (.slice A n c) ∧ Below w.heap.size w w'
theorem segs_n {hn B sz : Nat} (H : HeapAt ro hn w B bm sz f h) {n : Nat} (e : n = h.S.length) :
    Calls Tryz.prog 23 #[.pointer (some ⟨h.bh, 0, none⟩)] w (SegsTo w n) := by
  refine (segs_any H).mono ?_
  rintro e w' ⟨v, rfl, ho, hb⟩
  obtain ⟨A, c, rfl, _⟩ := own_at ho
  refine ⟨A, c, ?_, hb⟩
  rw [e]
  unfold segP
  rw [List.length_map]

theorem M2.pages0 (M : M2 W ro bh ba ob bm bb f a [] oS w) : Calls Tryz.prog 21 #[.pointer (some ⟨bh, 0, none⟩), .slice none 0 0] w (PagesTo w 0) := by
  obtain ⟨h, o, P, rfl, rfl, rfl, e, rfl, _⟩ := M
  exact pages_n P.hh.hp (fun s hs => by rw [e] at hs; cases hs) (by rw [e]; rfl)
theorem M2.segs0 (M : M2 W ro bh ba ob bm bb f a [] oS w) : Calls Tryz.prog 23 #[.pointer (some ⟨bh, 0, none⟩)] w (SegsTo w 0) := by
  obtain ⟨h, o, P, rfl, rfl, rfl, e, rfl, _⟩ := M
  exact segs_n P.hh.hp (by rw [e]; rfl)
theorem M2.pages1 (M : M2 W ro bh ba ob bm bb f a hS oS w) : Calls Tryz.prog 21 #[.pointer (some ⟨ob, 0, none⟩), .slice none 0 0] w (PagesTo w (pagesN oS)) := by
  obtain ⟨h, o, P, rfl, rfl, rfl, e, rfl, hk⟩ := M
  exact pages_n P.oo.hp hk rfl

theorem M2.leave1 (M : M2 W ro bh ba ob bm bb f a hS oS w) : Calls Tryz.prog 24 #[.pointer (some ⟨bh, 0, none⟩), .int .i64 (-1)] w fun e w' => e = .returned (.tuple #[.pointer none, .int .i64 5]) ∧ Below w.heap.size w w' := by
  obtain ⟨h, o, P, rfl, rfl, rfl, rfl, rfl, _⟩ := M
  exact leave_none P.hh.hp (fun s hs => by omega)
theorem M2.place {s : SegR} {r : List SegR} (M : M2 W ro bh ba ob bm bb f a (s :: r) oS w) : Calls Tryz.prog 25 #[.pointer (some ⟨s.bs, 0, none⟩)] w fun e w' => e = .returned (.int .i64 s.pl) ∧ w' = w := by
  obtain ⟨h, o, P, rfl, rfl, rfl, e, rfl, _⟩ := M
  exact segPlace (P.hh.hp.segs s (by rw [e]; simp)).seg

/-- A segment that has left. -/
def M2L (W : World) (ro : Nat → Role) (bh ba ob bm bb : Nat) (f : Nat → Nat) (a : ArR) (s : SegR) (hS oS : List SegR) (w : World) : Prop := M2 W ro bh ba ob bm bb f a hS oS w ∧ SegOk ro w bm (16 * 16384) f s

theorem M2.leave {s : SegR} {r : List SegR} (M : M2 W ro bh ba ob bm bb f a (s :: r) oS w) : Calls Tryz.prog 24 #[.pointer (some ⟨bh, 0, none⟩), .int .i64 s.pl] w fun e w' => e = .returned (.tuple #[.pointer (some ⟨s.bs, 0, none⟩), .int .i64 0]) ∧
    ∃ ro', M2L W ro' bh ba ob bm bb f a s r oS w' ∧ Stay ro w ro' w' := by
  obtain ⟨h, o, P, rfl, rfl, rfl, e, rfl, hk⟩ := M
  refine (P.leave (s := s) (by rw [e]; simp)).mono ?_
  rintro en w' ⟨rfl, ro', h', P', hS', e1, e2, hso, hst⟩
  refine ⟨rfl, ro', ⟨⟨h', o, P', e1, e2, rfl, ?_, rfl, hk⟩, hso⟩, hst⟩
  rw [hS', e]
  have hp := P.hh.hp.pls
  rw [e, List.pairwise_cons] at hp
  rw [List.filter_cons, if_neg (by simp [noPl])]
  refine List.filter_eq_self.2 fun t ht => ?_
  have := hp.1 t ht
  simp [noPl]
  omega

theorem M2L.adopt {s : SegR} (M : M2L W ro bh ba ob bm bb f a s hS oS w) (hno : ∀ t ∈ oS, t.pl ≠ s.pl) : Calls Tryz.prog 26 #[.pointer (some ⟨ob, 0, none⟩), .pointer (some ⟨s.bs, 0, none⟩)] w fun e w' => e = .returned (.int .i64 0) ∧
    ∃ ro', M2 W ro' bh ba ob bm bb f a hS (oS ++ [s]) w' ∧ Stay ro w ro' w' := by
  obtain ⟨⟨h, o, P, rfl, rfl, rfl, e, rfl, hk⟩, hso⟩ := M
  refine (P.adopt hso hno hk).mono ?_
  rintro en w' ⟨rfl, ro', o', P', hS', e1, e2, hk', hst⟩
  exact ⟨rfl, ro', ⟨h, o', P', rfl, rfl, e1, e, hS', hk'⟩, hst⟩
theorem M2.there {s : SegR} (M : M2 W ro bh ba ob bm bb f a hS (oS ++ [s]) w) : Calls Tryz.prog 26 #[.pointer (some ⟨ob, 0, none⟩), .pointer (some ⟨s.bs, 0, none⟩)] w fun e w' => e = .returned (.int .i64 6) ∧ Below w.heap.size w w' := by
  obtain ⟨h, o, P, rfl, rfl, rfl, e, e2, hk⟩ := M
  have hs : s ∈ o.S := by rw [e2]; simp
  exact adopt_there P.oo.hp (P.oo.hp.segs s hs) ⟨s, hs, rfl⟩
theorem M2.load {s : SegR} (M : M2 W ro bh ba ob bm bb f a hS (oS ++ [s]) w) (hno : ∀ t ∈ oS, t.pl ≠ s.pl) (hno' : ∀ t ∈ hS, t.pl ≠ s.pl) (ha : s.a = 1) : Calls Tryz.prog 28 #[.pointer (some ⟨s.bs, 19, none⟩)] w fun e w' => e = .returned (.tuple #[.int .u64 s.x, .int .u64 s.t]) ∧
    M2 W ro bh ba ob bm bb f a hS (oS ++ [mv s]) w' ∧ Stay ro w ro w' := by
  obtain ⟨h, o, P, rfl, rfl, rfl, e, e2, hk⟩ := M
  have hs : s ∈ o.S := by rw [e2]; simp
  refine (P.load hs (by rw [e]; exact hno') (by omega) (by omega)).mono ?_
  rintro en w' ⟨rfl, P', hst⟩
  refine ⟨rfl, ⟨h, _, P', rfl, rfl, rfl, e, ?_, hk.asked⟩, hst⟩
  show asked s.pl o.S = _
  rw [e2]
  exact asked_mv hno

/-- The second heap, while blocks go. -/
def M3 (W : World) (ro : Nat → Role) (bh ba ob bm bb : Nat) (U : List Nat) (w : World) : Prop :=
  ∃ f h o a, P2 W ro w bm bb (16 * 16384) f h o a ∧ h.bh = bh ∧ h.ba = ba ∧ o.bh = ob ∧ h.S = [] ∧ BInv o U ∧ NE o.S ∧ AInv a o.S ∧ a.n = 16

theorem M2.done (M : M2 W ro bh ba ob bm bb f a [] (h.S.map mv) w) (I : BInv h U) (ne : NE h.S) (A : AInv a h.S) (hn : a.n = 16) : M3 W ro bh ba ob bm bb U w := by
  obtain ⟨h', o, P, rfl, rfl, rfl, e, e2, hk⟩ := M
  exact ⟨f, h', o, a, P, rfl, rfl, rfl, e, I.moved e2 hk, by rw [e2]; exact ne.moved, by rw [e2]; exact A.moved, hn⟩
theorem M3.on (M : M3 W ro bh ba ob bm bb U w) (hb : Below w.heap.size w w') : M3 W ro bh ba ob bm bb U w' := by
  obtain ⟨f, h, o, a, P, e⟩ := M
  exact ⟨f, h, o, a, P.on hb, e⟩
theorem M3.below (M : M3 W ro bh ba ob bm bb U w) : Below W.heap.size W w := by
  obtain ⟨f, h, o, a, P, e⟩ := M
  exact P.below
theorem M3.free1 (M : M3 W ro bh ba ob bm bb U w) {x : Nat} (hx : x < 18446744073709551616) : Calls Tryz.prog 16 #[.pointer (some ⟨bh, 0, none⟩), .int .u64 x] w fun e w' => e = .returned (.int .i64 5) ∧ Below w.heap.size w w' := by
  obtain ⟨f, h, o, a, P, rfl, rfl, rfl, e, _⟩ := M
  exact free_none P.hh.hp e hx
theorem M3.free2 {x : Nat} (M : M3 W ro bh ba ob bm bb (x :: U) w) : Calls Tryz.prog 16 #[.pointer (some ⟨ob, 0, none⟩), .int .u64 x] w fun e w' => e = .returned (.int .i64 0) ∧ ∃ ro', M3 W ro' bh ba ob bm bb U w' ∧ Stay ro w ro' w' := by
  obtain ⟨f, h, o, a, P, rfl, rfl, rfl, e, I, ne, A, hn⟩ := M
  refine (P.free e I ne A (x := x) (by simp)).mono ?_
  rintro en w' ⟨rfl, ro', f', o', a', P', I', ne', A', en, e1, e2, hst⟩
  rw [List.erase_cons_head] at I'
  exact ⟨rfl, ro', ⟨f', h, o', a', P', rfl, rfl, e1, e, I', ne', A', en.trans hn⟩, hst⟩
theorem M3.segs (M : M3 W ro bh ba ob bm bb [] w) : Calls Tryz.prog 23 #[.pointer (some ⟨ob, 0, none⟩)] w (SegsTo w 0) := by
  obtain ⟨f, h, o, a, P, rfl, rfl, rfl, e, I, ne, A, hn⟩ := M
  exact segs_n P.oo.hp (by rw [I.none ne]; rfl)
theorem M3.given (M : M3 W ro bh ba ob bm bb [] w) : Calls Tryz.prog 14 #[.pointer (some ⟨ba, 0, none⟩)] w fun e w' => e = .returned (.int .i64 0) ∧ Below W.heap.size W w' := by
  obtain ⟨f, h, o, a, P, rfl, rfl, rfl, e, I, ne, A, hn⟩ := M
  rw [I.none ne] at A
  refine (arenaGiven P.ar.at_).mono ?_
  rintro en w' ⟨rfl, k, rfl⟩
  refine ⟨?_, below_drewN P.below k⟩
  rw [A.none]
  simp
theorem M3.lt (M : M3 W ro bh ba ob bm bb U w) (hx : x ∈ U) : x < 18446744073709551616 := by
  obtain ⟨f, h, o, a, P, rfl, rfl, rfl, e, I, ne, A, hn⟩ := M
  obtain ⟨s, hs, p, hp, q, hq, hxe, ho⟩ := I.use x hx
  have inv := ((P.oo.hp.segs s hs).pages p hp).inv
  have hin := inv.in_ (Nat.lt_of_lt_of_le hq inv.mn)
  have h16 := inv.s16
  have hfit := inv.fit
  omega

/-- A row of the law's own, of whatever. -/
def OwnX (W : World) (ro : Nat → Role) (E : TypeId) (v : Value) (xs : List Value) (w : World) : Prop := w.ownsRow W.heap.size E 1 v xs.length xs ∧ ∀ b, v.ownBlock = some b → ro b = .other
theorem OwnX.stay {E : TypeId} {v : Value} {xs : List Value} (H : OwnX W ro E v xs w) (hs : Stay ro w ro' w') : OwnX W ro' E v xs w' :=
  ⟨own_stays H.1 (fun k hk => (hs.2 k (H.1.lt k hk).2 (H.2 k hk)).1), fun b hb => (hs.2 b (H.1.lt b hb).2 (H.2 b hb)).2⟩
theorem OwnX.new {E : TypeId} {v : Value} {xs : List Value} (h : w'.ownsRow w.heap.size E 1 v xs.length xs) (hB : W.heap.size ≤ w.heap.size) : OwnX W (cutR ro w.heap.size) E v xs w' :=
  ⟨own_lower h hB, fun b hb => by
    have := (h.lt b hb).1
    unfold cutR
    rw [if_neg (by omega)]⟩
theorem OwnX.at_ {E : TypeId} {A : Option Addr} {n c : Nat} {xs : List Value} (H : OwnX W ro E (.slice A n c) xs w) {k : Nat} {u : Value} (hu : xs[k]? = some u) : ∃ g, A = some ⟨g, 0, none⟩ ∧ w.cell? ⟨g, k, none⟩ = some u := by
  obtain ⟨A', c', e, _, _, hc⟩ := own_at H.1
  injection e with e1 e2 e3
  subst e1
  exact hc k u hu
theorem OwnX.form {E : TypeId} {v : Value} {xs : List Value} (H : OwnX W ro E v xs w) : ∃ A c, v = .slice A xs.length c ∧ xs.length ≤ c ∧ c ≤ maxLen := by
  obtain ⟨A', c', e, h1, h2, _⟩ := own_at H.1
  exact ⟨A', c', e, h1, h2⟩
theorem OwnU.gen {v : Value} (H : OwnU W ro v U w) : OwnX W ro 29 v (rowU U) w := by
  have : (rowU U).length = U.length := by unfold rowU; rw [List.length_map]
  refine ⟨?_, H.2⟩
  rw [this]
  exact H.1

theorem neq_segp (w : World) (b : Nat) : (binOp .neq 60 (.pointer (some ⟨b, 0, none⟩)) (.pointer (some ⟨b, 0, none⟩))).run Tryz.prog w = .ok (.bool false) w := by
  obtain ⟨j, hj⟩ : ∃ j, Tryz.prog.info? 135 = some j := by
    cases hi : Tryz.prog.info? 135 with
    | none => have := info_seg; rw [hi] at this; cases this
    | some j => exact ⟨j, rfl⟩
  have h : ∀ d : Nat, (Op.equalIn (d + 1) 60 (.pointer (some ⟨b, 0, none⟩)) (.pointer (some ⟨b, 0, none⟩))).run Tryz.prog w = .ok true w := fun d => by
    simp [Op.equalIn, run_underlying Tryz.underlying60, sizeOf, typeInfo, hj, run_sameAddr_same]
  simp only [binOp]
  simp [Op.equal, Op.maxDepth, h 9999]

theorem segP_at {S : List SegR} {j : Nat} {s : SegR} (h : S[j]? = some s) : (segP S)[j]? = some (.pointer (some ⟨s.bs, 0, none⟩)) := by
  unfold segP
  rw [List.getElem?_map, h]
  rfl
theorem drop_at {α : Type} {S : List α} {j : Nat} {s : α} (h : S[j]? = some s) : S.drop j = s :: S.drop (j + 1) := by
  obtain ⟨hj, e⟩ := List.getElem?_eq_some_iff.1 h
  rw [List.drop_eq_getElem_cons hj, e]
theorem take_at {S : List SegR} {j : Nat} {s : SegR} (h : S[j]? = some s) : (S.take j).map mv ++ [mv s] = (S.take (j + 1)).map mv := by
  rw [List.take_add_one, h]
  simp
theorem pls_take {S : List SegR} (hp : S.Pairwise (fun s t => s.pl ≠ t.pl)) {j : Nat} {s : SegR} (h : S[j]? = some s) : ∀ t ∈ (S.take j).map mv, t.pl ≠ s.pl := fun t ht => by
  obtain ⟨u, hu, rfl⟩ := List.mem_map.1 ht
  obtain ⟨i, hi⟩ := List.getElem?_of_mem hu
  rw [List.getElem?_take] at hi
  split at hi
  · rename_i hij
    obtain ⟨hi1, e1⟩ := List.getElem?_eq_some_iff.1 hi
    obtain ⟨hj1, e2⟩ := List.getElem?_eq_some_iff.1 h
    have := List.pairwise_iff_getElem.1 hp i j hi1 hj1 hij
    rw [e1, e2] at this
    exact this
  · cases hi
theorem pls_drop {S : List SegR} (hp : S.Pairwise (fun s t => s.pl ≠ t.pl)) {j : Nat} {s : SegR} (h : S[j]? = some s) : ∀ t ∈ S.drop (j + 1), t.pl ≠ s.pl := fun t ht => by
  obtain ⟨i, hi⟩ := List.getElem?_of_mem ht
  rw [List.getElem?_drop] at hi
  obtain ⟨hi1, e1⟩ := List.getElem?_eq_some_iff.1 hi
  obtain ⟨hj1, e2⟩ := List.getElem?_eq_some_iff.1 h
  have := List.pairwise_iff_getElem.1 hp j (j + 1 + i) hj1 hi1 (by omega)
  rw [e1, e2] at this
  exact this.symm
end Go.Proofs.YtbljphaklciinaaGreat

/- HeapMoves, walked: segments that one heap leaves, and another one adopts, have all their blocks. -/
namespace Go.Proofs.YtbljphaklciinaaGreat
open Go.RowKit

set_option maxRecDepth 100000 in
set_option maxHeartbeats 16000000 in
theorem moves_walk (W : World) (A : Option Addr) (n c : Nat) (L : Nat → Int) (hn : n ≤ c) (hc : c ≤ maxLen)
    (hf : ∀ i, i < n → ∃ b off, A = some ⟨b, off, none⟩ ∧ b < W.heap.size ∧ W.cell? ⟨b, off + i, none⟩ = some (.int .u64 (L i)) ∧ 0 ≤ L i) :
    Calls Tryz.prog 6 #[.slice A n c] W (TrueBelow W) := by
  have HF := Lib.hid hf
  clear hf
  unfold maxLen at hc
  go_enter Tryz.func6, Tryz.ntmps6
  go_wp2_with fail
  refine (alive12 W).mono ?_
  rintro e w1 ⟨rfl, B1⟩
  have HM : Hid (Calls Tryz.prog 9 #[.int .i64 16, .int .i64 16] w1 fun e w' => ∃ ro bm bb bh ba bk bt, e = .returned (.tuple #[.pointer (some ⟨bh, 0, none⟩), .pointer (some ⟨bm, 0, none⟩), .pointer (some ⟨ba, 0, none⟩), .bool true]) ∧
      LawH W ro 0 w' bm bb (16 * 16384) (fun _ => 0) (newHR bh ba 7) (newAr bk bt 16) ∧ Below w1.heap.size w1 w') := made_ok B1 16 (by omega) (by omega)
  clear B1
  go_wp2_with fail
  refine HM.out.mono ?_
  rintro e w2 ⟨ro, bm, bb, bh, ba, bk, bt, rfl, L2, _⟩
  have HL2 := Lib.hid L2
  clear L2 HM
  go_wp2_with fail
  refine (heapNew_ok w2 bm ba 9 (by decide)).mono ?_
  rintro e w3 ⟨rfl, hw3⟩
  have HS3 : Hid (S1 W (cutR ro w2.heap.size) bh ba w2.heap.size bm bb 0 [] w3) := by rw [hw3]; exact S1.begin HL2.out
  have HB3 : Hid (Below W.heap.size W w3) := by rw [hw3]; exact HL2.out.below.alloc HL2.out.below.size _
  have HOB : W.heap.size ≤ w2.heap.size := HL2.out.below.size
  obtain ⟨ob, hob⟩ : ∃ ob, ob = w2.heap.size := ⟨_, rfl⟩
  rw [← hob] at HS3 HOB
  rw [← hob]
  generalize cutR ro ob = ro3 at HS3
  clear hw3 HL2 hob
  by_cases hbig : (100 : Int) < n
  · go_wp2_with fail
    go_ret
    exact ⟨rfl, HB3.out⟩
  · clear HB3
    go_wp2_with fail
    obtain ⟨i0, hi0, hz0, hzz1, hz2⟩ := info_parts info_u64
    go_loopw [9, 58] (fun v ix wr => ∃ (k : Nat) (ro : Nat → Role) (U : List Nat), k ≤ n ∧ ix = .int .i64 k ∧ U.length ≤ k ∧ Hid (S1 W ro bh ba ob bm bb k U wr) ∧ Hid (OwnU W ro v U wr) ∧ Hid (v.ownBlock ≠ some ob)) (fun _ ix _ => n - (intOf ix).toNat)
    case atStart => exact ⟨0, ro3, [], by omega, rfl, by simp, HS3.out, ⟨World.ownsRow_nil _ _ _ _, nofun⟩, nofun⟩
    case round =>
      obtain ⟨k, ro, U, hk, rfl, hUk, HS, HO, HNB⟩ := hrel
      by_cases hlt : k < n
      · obtain ⟨g, off, hAe, hg, hcell, hL0⟩ := HF.out k hlt
        have hBW : Below W.heap.size W wr := by
          obtain ⟨f, h, a, kk, MM, _⟩ := HS.out.st
          exact MM.law.below
        have d0 := (hBW.cell (p := ⟨g, off + k, none⟩) hg).trans hcell
        obtain ⟨Lk, hLk⟩ : ∃ Lk, Lk = L k := ⟨_, rfl⟩
        rw [← hLk] at d0 hL0
        subst hAe
        clear hLk hcell hBW
        go_wp2_with fail
        refine (HS.out.get HO.out (by omega) hL0).mono ?_
        rintro e w4 ⟨ro4, O4, (⟨x, v4, rfl, M4⟩ | ⟨rfl, M4⟩)⟩
        · have HO4 := Lib.hid O4
          have HS4 := Lib.hid M4
          have hsz4 := M4.size
          clear O4 M4 d0
          go_wp2_with (first
            | (at_builtin
               refine wpList_append_any _ rfl (.tmp 70) (.tmp 72) _ rfl W.heap.size 29 i0 _ 1 8 Tryz.underlying33 hi0 hz0 hzz1 hz2 rfl (by omega) u9 _ _ rfl
                 (HO4.out.1.alloc _) _ _ 1 1 [.int .u64 (x : Nat)] rfl (Reads.new1 _ _ _) (fun u hu => by simp at hu; subst hu; rfl) (by simp only [maxLen]; omega) (by omega) (by simp; omega) ?_
               intro v5 w5 hown5 hg5 hat5
               have HS5 := Lib.hid (HS4.out.app HO4.out HNB.out hg5)
               have HO5 := Lib.hid (HO4.out.app hown5 hat5)
               have HN5 : Hid (v5.ownBlock ≠ some ob) := at_ne (lt_of_block HS4.out.blk) HNB.out hat5
               obtain ⟨gb, cap5, rfl, _, _⟩ := hown5.form (by omega)
               clear hown5 hg5 hat5))
          go_roundw
          case rel => exact ⟨k + 1, _, U ++ [x], by omega, by go_num, by simp; omega, HS5.out, HO5.out, HN5.out⟩
          case measure => simp [intOf]; omega
        · have HO4 := Lib.hid O4
          have HS4 := Lib.hid M4
          clear O4 M4 d0
          go_wp2_with fail
          go_roundw
          case rel => exact ⟨k + 1, _, U, by omega, by go_num, by omega, HS4.out, HO4.out, HNB.out⟩
          case measure => simp [intOf]; omega
      · obtain rfl : k = n := by omega
        obtain ⟨ro5, f5, h5, a5, P5, hb5, hba5, I5, ne5, AI5, ow5, er5, ki5, an5⟩ := HS.out.two HOB
        have HPG : Hid (Calls Tryz.prog 21 #[.pointer (some ⟨bh, 0, none⟩), .slice none 0 0] wr (PagesTo wr (pagesN h5.S))) := by
          have := pages_n P5.hh.hp ki5 rfl
          rw [hb5] at this
          exact this
        have HM5 : Hid (M2 W ro5 bh ba ob bm bb f5 a5 h5.S [] wr) := ⟨h5, _, P5, hb5, hba5, rfl, rfl, rfl, nofun⟩
        have HI5 : Hid (BInv h5 U ∧ NE h5.S ∧ AInv a5 h5.S ∧ (∀ s ∈ h5.S, s.x = 7 ∧ s.a = 1) ∧ a5.n = 16) := ⟨I5, ne5, AI5, ow5, an5⟩
        have HP5 : Hid (h5.S.Pairwise (fun s t => s.pl ≠ t.pl)) := P5.hh.hp.pls
        have hlen5 : h5.S.length ≤ 64 := P5.hh.hp.len
        have HO5 : Hid (OwnU W ro5 u9 U wr) := ⟨HO.out.1, fun b hb => by
          rw [er5 b (fun e => HNB.out (by rw [hb, e]))]
          exact HO.out.2 b hb⟩
        clear P5 I5 ne5 AI5 ow5 ki5 an5 er5 HS HO hb5 hba5
        go_wp2_with fail
        refine HPG.out.mono ?_
        rintro e w6 ⟨A6, c6, rfl, hb6⟩
        have HM6 := Lib.hid (HM5.out.on hb6).cut
        have HO6 := Lib.hid ((HO5.out.stay (Stay.below hb6)).stay (Stay.cut rfl))
        generalize cutR ro5 w6.heap.size = ro6 at HM6 HO6
        clear hb6 HPG HM5 HO5
        go_wp2_with fail
        refine HM6.out.segs.mono ?_
        rintro e w7 ⟨v7, rfl, ho7, hb7⟩
        have HM7 := Lib.hid (HM6.out.cut.on hb7)
        have HO7 := Lib.hid ((HO6.out.stay (Stay.cut rfl)).stay (Stay.below hb7))
        have hX7 := OwnX.new (ro := ro6) ho7 HM6.out.below.size
        obtain ⟨A7, c7, rfl, hc7, hc7'⟩ := hX7.form
        have HX7 := Lib.hid hX7
        have hlp : (segP h5.S).length = h5.S.length := by unfold segP; rw [List.length_map]
        rw [hlp] at HX7 hc7
        rw [hlp]
        obtain ⟨m5, hm5⟩ : ∃ m, m = h5.S.length := ⟨_, rfl⟩
        rw [← hm5] at HX7 hc7 hlen5 hlp
        rw [← hm5]
        generalize cutR ro6 w6.heap.size = ro7 at HM7 HO7 HX7
        clear ho7 hb7 HM6 HO6 hX7
        go_wp2_with fail
        go_loopw [81] (fun ix wr => ∃ (j : Nat) (ro : Nat → Role), j ≤ m5 ∧ ix = .int .i64 j ∧ Hid (M2 W ro bh ba ob bm bb f5 a5 (h5.S.drop j) ((h5.S.take j).map mv) wr) ∧ Hid (OwnU W ro u9 U wr) ∧ Hid (OwnX W ro 60 (.slice A7 m5 c7) (segP h5.S) wr)) (fun ix _ => m5 - (intOf ix).toNat)
        case atStart => exact ⟨0, ro7, by omega, rfl, HM7.out, HO7.out, HX7.out⟩
        case round =>
          obtain ⟨j, ro, hj, rfl, HM, HO, HX⟩ := hrel
          by_cases hlt : j < m5
          · obtain ⟨s, hs⟩ : ∃ s, h5.S[j]? = some s := ⟨h5.S[j]'(by omega), List.getElem?_eq_getElem (by omega)⟩
            obtain ⟨g7, rfl, d0⟩ := HX.out.at_ (segP_at hs)
            have how := HI5.out.2.2.2.1 s (List.mem_of_getElem? hs)
            have HP1 := Lib.hid (pls_take HP5.out hs)
            have HP2 := Lib.hid (pls_drop HP5.out hs)
            have HMs : Hid (M2 W ro bh ba ob bm bb f5 a5 (s :: h5.S.drop (j + 1)) ((h5.S.take j).map mv) wr) := by
              rw [← drop_at hs]
              exact HM.out
            have HTK := Lib.hid (take_at hs)
            have hpl : s.pl < 64 := by
              obtain ⟨h, o, P, _, _, _, e, _⟩ := HMs.out
              exact (P.hh.hp.segs s (by rw [e]; simp)).seg.pl64
            clear hs HM
            go_wp2_with fail
            refine HMs.out.leave1.mono ?_
            rintro e w8 ⟨rfl, hb8⟩
            have HM8 := Lib.hid (HMs.out.on hb8)
            have HO8 := Lib.hid (HO.out.stay (Stay.below hb8))
            have HX8 := Lib.hid (HX.out.stay (Stay.below hb8))
            clear hb8 HMs HO HX d0
            go_wp2_with fail
            refine HM8.out.place.mono ?_
            rintro e w9 ⟨rfl, rfl⟩
            go_wp2_with fail
            refine HM8.out.leave.mono ?_
            rintro e w9 ⟨rfl, ro9, M9, hs9⟩
            have HM9 := Lib.hid M9
            have HO9 := Lib.hid (HO8.out.stay hs9)
            have HX9 := Lib.hid (HX8.out.stay hs9)
            clear M9 hs9 HM8 HO8 HX8
            have hq := fun w => neq_segp w s.bs
            go_wp2_with fail
            refine (HM9.out.adopt HP1.out).mono ?_
            rintro e w10 ⟨rfl, ro10, M10, hs10⟩
            have HM10 := Lib.hid M10
            have HO10 := Lib.hid (HO9.out.stay hs10)
            have HX10 := Lib.hid (HX9.out.stay hs10)
            clear M10 hs10 HM9 HO9 HX9 hq
            go_wp2_with fail
            refine HM10.out.there.mono ?_
            rintro e w11 ⟨rfl, hb11⟩
            have HM11 := Lib.hid (HM10.out.on hb11)
            have HO11 := Lib.hid (HO10.out.stay (Stay.below hb11))
            have HX11 := Lib.hid (HX10.out.stay (Stay.below hb11))
            clear hb11 HM10 HO10 HX10
            go_wp2_with fail
            refine (segOwner w11 s.bs).mono ?_
            rintro e w12 ⟨rfl, rfl⟩
            go_wp2_with fail
            refine (HM11.out.load HP1.out HP2.out how.2).mono ?_
            rintro e w13 ⟨rfl, M13, hs13⟩
            have HM13 : Hid (M2 W ro10 bh ba ob bm bb f5 a5 (h5.S.drop (j + 1)) ((h5.S.take (j + 1)).map mv) w13) := by
              rw [← HTK.out]
              exact M13
            have HO13 := Lib.hid (HO11.out.stay hs13)
            have HX13 := Lib.hid (HX11.out.stay hs13)
            rw [how.1]
            clear M13 hs13 HM11 HO11 HX11 how
            go_wp2_with fail
            go_roundw
            case rel => exact ⟨j + 1, ro10, by omega, by go_num, HM13.out, HO13.out, HX13.out⟩
            case measure => simp [intOf]; omega
          · obtain rfl : j = m5 := by omega
            have HM8 : Hid (M2 W ro bh ba ob bm bb f5 a5 [] (h5.S.map mv) wr) := by
              have := HM.out
              rw [List.drop_eq_nil_of_le (by omega), List.take_of_length_le (by omega)] at this
              exact this
            clear HM HX
            go_wp2_with fail
            refine HM8.out.segs0.mono ?_
            rintro e w9 ⟨A9, c9, rfl, hb9⟩
            have HM9 := Lib.hid (HM8.out.on hb9)
            have HO9 := Lib.hid (HO.out.stay (Stay.below hb9))
            clear hb9 HM8 HO
            go_wp2_with fail
            refine HM9.out.pages0.mono ?_
            rintro e w10 ⟨A10, c10, rfl, hb10⟩
            have HM10 := Lib.hid (HM9.out.on hb10)
            have HO10 := Lib.hid (HO9.out.stay (Stay.below hb10))
            clear hb10 HM9 HO9
            go_wp2_with fail
            refine HM10.out.pages1.mono ?_
            rintro e w11 ⟨A11, c11, rfl, hb11⟩
            rw [mv_pages]
            have HM11 := Lib.hid (HM10.out.on hb11)
            have HO11 := Lib.hid (HO10.out.stay (Stay.below hb11))
            clear hb11 HM10 HO10
            have HM12 : Hid (M3 W ro bh ba ob bm bb U w11) := HM11.out.done HI5.out.1 HI5.out.2.1 HI5.out.2.2.1 HI5.out.2.2.2.2
            obtain ⟨Au, cu, hu9, hcu, hcu'⟩ := HO11.out.gen.form
            have hlu : (rowU U).length = U.length := by unfold rowU; rw [List.length_map]
            rw [hlu] at hu9 hcu
            subst hu9
            clear HM11 HI5 HP5
            go_wp2_with fail
            go_loopw [146] (fun ix wr => ∃ (j : Nat) (ro : Nat → Role), j ≤ U.length ∧ ix = .int .i64 j ∧ Hid (M3 W ro bh ba ob bm bb (U.drop j) wr) ∧ Hid (OwnU W ro (.slice Au U.length cu) U wr)) (fun ix _ => U.length - (intOf ix).toNat)
            case atStart => exact ⟨0, _, by omega, rfl, HM12.out, HO11.out⟩
            case round =>
              clear HM12 HO11
              obtain ⟨j, ro, hj, rfl, HM, HO⟩ := hrel
              by_cases hlt : j < U.length
              · obtain ⟨x, hx⟩ : ∃ x, U[j]? = some x := ⟨U[j]'(by omega), List.getElem?_eq_getElem (by omega)⟩
                obtain ⟨gu, rfl, d0⟩ := HO.out.gen.at_ (k := j) (u := .int .u64 (x : Nat)) (by unfold rowU; rw [List.getElem?_map, hx]; rfl)
                have HMs : Hid (M3 W ro bh ba ob bm bb (x :: U.drop (j + 1)) wr) := by
                  rw [← drop_at hx]
                  exact HM.out
                have hxl := HMs.out.lt (x := x) (by simp)
                clear hx HM
                go_wp2_with fail
                refine (HMs.out.free1 hxl).mono ?_
                rintro e w12 ⟨rfl, hb12⟩
                have HM12 := Lib.hid (HMs.out.on hb12)
                have HO12 := Lib.hid (HO.out.stay (Stay.below hb12))
                clear hb12 HMs HO d0
                go_wp2_with fail
                refine HM12.out.free2.mono ?_
                rintro e w13 ⟨rfl, ro13, M13, hs13⟩
                have HM13 := Lib.hid M13
                have HO13 := Lib.hid (HO12.out.stay hs13)
                clear M13 hs13 HM12 HO12
                go_wp2_with fail
                go_roundw
                case rel => exact ⟨j + 1, ro13, by omega, by go_num, HM13.out, HO13.out⟩
                case measure => simp [intOf]; omega
              · obtain rfl : j = U.length := by omega
                have HMs : Hid (M3 W ro bh ba ob bm bb [] wr) := by
                  have := HM.out
                  rw [List.drop_eq_nil_of_le (by omega)] at this
                  exact this
                clear HM HO
                go_wp2_with fail
                refine HMs.out.segs.mono ?_
                rintro e w12 ⟨A12, c12, rfl, hb12⟩
                have HM12 := Lib.hid (HMs.out.on hb12)
                clear hb12 HMs
                go_wp2_with fail
                refine HM12.out.given.mono ?_
                rintro e w13 ⟨rfl, hb13⟩
                have HB13 := Lib.hid hb13
                clear hb13 HM12
                go_wp2_with fail
                go_ret
                exact ⟨rfl, HB13.out⟩
end Go.Proofs.YtbljphaklciinaaGreat

/- The acts of layer 12's laws, as arguments. -/
namespace Go.Proofs.YtbljphaklciinaaGreat
open Go.ChangeShapes Go.WideShapes Go.RowKit

structure Act12 where
  K : Int
  N : Int
  S : Int
  Q : Int
  D : Int
instance : Inhabited Act12 := ⟨⟨0, 0, 0, 0, 0⟩⟩

/-- A row of acts. -/
def Acts12 (W : World) (A : Option Addr) (n : Nat) (L : Nat → Act12) : Prop := ∀ i, i < n → ∃ g off, A = some ⟨g, off, none⟩ ∧ g < W.heap.size ∧
  W.cell? ⟨g, off + i * 5, none⟩ = some (.int .i64 (L i).K) ∧ W.cell? ⟨g, off + i * 5 + 1, none⟩ = some (.int .i64 (L i).N) ∧ W.cell? ⟨g, off + i * 5 + 2, none⟩ = some (.int .i64 (L i).S) ∧
  W.cell? ⟨g, off + i * 5 + 3, none⟩ = some (.int .i64 (L i).Q) ∧ W.cell? ⟨g, off + i * 5 + 4, none⟩ = some (.int .u64 (L i).D) ∧
  (-9223372036854775808 ≤ (L i).N ∧ (L i).N ≤ 9223372036854775807) ∧ (-9223372036854775808 ≤ (L i).S ∧ (L i).S ≤ 9223372036854775807) ∧ (-9223372036854775808 ≤ (L i).Q ∧ (L i).Q ≤ 9223372036854775807) ∧ (0 ≤ (L i).D ∧ (L i).D < 18446744073709551616)

section
variable {H : Type} {enc : TypeId × Value → H} {W : World} {base : Nat} {args : Array Value} {ds : List (DataW H)} {p : List MemPlace}

theorem wf_i64 {x : Int} (h : (Lit.int .i64 x).wf = true) : -9223372036854775808 ≤ x ∧ x ≤ 9223372036854775807 := by
  simp only [Lit.wf, Bool.and_eq_true, decide_eq_true_eq] at h
  exact h
theorem wf_u64 {x : Int} (h : (Lit.int .u64 x).wf = true) : 0 ≤ x ∧ x < 18446744073709551616 := by
  simp only [Lit.wf, Bool.and_eq_true, decide_eq_true_eq] at h
  have h1 : (0 : Int) ≤ x := h.1
  have h2 : x ≤ 18446744073709551615 := h.2
  omega

theorem cells_act12 : Tryz.prog.cellsOf 43 = 5 := by kernel_rfl
set_option maxRecDepth 100000 in
theorem open_acts12 {v : Value} {d : DataW H} {ps : List MemPlace} (hv : Value.okWide Tryz.prog W .any base 40 v) (h : DataW.Trod enc Tryz.prog W 0 (fun _ => true) true 40 v d ps) (hlt : ∀ x ∈ ps, x.block < W.heap.size) :
    ∃ A n c L, v = .slice A n c ∧ n ≤ c ∧ c ≤ maxLen ∧ Acts12 W A n L := by
  obtain ⟨A, n, c, rfl, hn, hc, hi⟩ := arg_structs Tryz.underlying40 Tryz.underlying43 (by kernel_rfl) cells_act12 (by decide) hv h hlt
  have hx : ∀ i, i < n → ∃ x : Act12, ∃ g off, A = some ⟨g, off, none⟩ ∧ g < W.heap.size ∧
      W.cell? ⟨g, off + i * 5, none⟩ = some (.int .i64 x.K) ∧ W.cell? ⟨g, off + i * 5 + 1, none⟩ = some (.int .i64 x.N) ∧ W.cell? ⟨g, off + i * 5 + 2, none⟩ = some (.int .i64 x.S) ∧
      W.cell? ⟨g, off + i * 5 + 3, none⟩ = some (.int .i64 x.Q) ∧ W.cell? ⟨g, off + i * 5 + 4, none⟩ = some (.int .u64 x.D) ∧
      (-9223372036854775808 ≤ x.N ∧ x.N ≤ 9223372036854775807) ∧ (-9223372036854775808 ≤ x.S ∧ x.S ≤ 9223372036854775807) ∧ (-9223372036854775808 ≤ x.Q ∧ x.Q ≤ 9223372036854775807) ∧ (0 ≤ x.D ∧ x.D < 18446744073709551616) := fun i hin => by
    obtain ⟨b, off, hA, hb, hf⟩ := hi i hin
    obtain ⟨u0, y0, f0, c0, t0, _⟩ := hf 0 _ rfl
    obtain ⟨u1, y1, f1, c1, t1, _⟩ := hf 1 _ rfl
    obtain ⟨u2, y2, f2, c2, t2, _⟩ := hf 2 _ rfl
    obtain ⟨u3, y3, f3, c3, t3, _⟩ := hf 3 _ rfl
    obtain ⟨u4, y4, f4, c4, t4, _⟩ := hf 4 _ rfl
    obtain ⟨x, hx, _, _⟩ := DataW.trod_int Tryz.underlying3 t0
    obtain ⟨y, hy, _, wy⟩ := DataW.trod_int Tryz.underlying3 t1
    obtain ⟨z, hz, _, wz⟩ := DataW.trod_int Tryz.underlying3 t2
    obtain ⟨q, hq, _, wq⟩ := DataW.trod_int Tryz.underlying3 t3
    obtain ⟨d, hd, _, wd⟩ := DataW.trod_int Tryz.underlying29 t4
    simp at hx hy hz hq hd
    subst hx hy hz hq hd
    exact ⟨⟨x, y, z, q, d⟩, b, off, hA, hb, c0, c1, c2, c3, c4, wf_i64 wy, wf_i64 wz, wf_i64 wq, wf_u64 wd⟩
  obtain ⟨L, hk⟩ := Go.Deep.choose_lt hx
  exact ⟨A, n, c, L, rfl, hn, hc, hk⟩
end
end Go.Proofs.YtbljphaklciinaaGreat

/- HeapMoves: its arguments. -/
namespace Go.Proofs.YtbljphaklciinaaGreat
open Go.ChangeShapes Go.WideShapes Go.RowKit
section
variable {H : Type} {enc : TypeId × Value → H} {W : World} {base : Nat} {args : Array Value} {ds : List (DataW H)} {p : List MemPlace}
set_option maxRecDepth 100000 in
theorem HeapMoves_run (hval : ∀ (j : Nat) t v, #[33][j]? = some t → args[j]? = some v → Value.okWide Tryz.prog W .any base t v)
    (hA : DataW.TrodAll enc Tryz.prog W 0 (fun _ => true) true [33] args.toList ds p) (hlt : ∀ x ∈ p, x.block < W.heap.size) :
    Calls Tryz.prog 6 args W (TrueBelow W) := by
  obtain ⟨v0, d0, rfl, rfl, h0⟩ := trodAll_one hA
  obtain ⟨A, n, c, L, rfl, hn, hc, hf⟩ := arg_ints Tryz.underlying33 Tryz.underlying29 (by kernel_rfl) (hval 0 33 v0 rfl rfl) h0 hlt
  refine moves_walk W A n c L hn hc fun i hi => ?_
  obtain ⟨b, off, e, hb, hcell, hw⟩ := hf i hi
  exact ⟨b, off, e, hb, hcell, (wf_u64 hw).1⟩
end
end Go.Proofs.YtbljphaklciinaaGreat

/- 'allotmentlaw12.HeapMoves' returns true for every input, and each argument reads afterwards as it read before. No condition. -/
namespace Go.Proofs.YtbljphaklciinaaGreat
open Go.ChangeShapes Go.WideShapes Go.ChangeAt Go.RowKit

set_option maxRecDepth 100000 in
theorem HeapMoves_lifted (os : Os) (started : os.Started) (H : Type) (enc : TypeId × Value → H) :
    ReturnsInHanded {} Tryz.checked os 6 .any (Rows.heapMovesSpec.pre6 enc Tryz.prog Tryz.f6 Rows.heapMovesRow.domain false) (Rows.heapMovesSpec.post enc Tryz.prog Tryz.f6 false true false false) := by
  refine returnsInHanded_of_change (C := Tryz.checked) Tryz.own started (by kernel_rfl) Tryz.func6
    (ChangeSpec.witness6 (enc := enc) (C := Tryz.checked) false ⟨#[], #[.slice none 0 0], []⟩ 8 (by kernel_rfl) (by kernel_rfl) (by kernel_rfl) (by kernel_rfl)) ?_
  intro W base args ds gs before hval0 hW hcnd _
  have hval : ∀ (j : Nat) t v, Tryz.f6.params[j]? = some t → args[j]? = some v → Value.okWide Tryz.prog W .any base t v := hval0
  have hW' := hW
  obtain ⟨p, q, hA0, hV, rfl, _, _⟩ := hW
  have hA : DataW.TrodAll enc Tryz.prog W 0 (fun _ => true) true Tryz.f6.params.toList args.toList ds p := hA0
  obtain ⟨rfl, rfl⟩ := trodVars_none hV
  have hlt : ∀ x ∈ p, x.block < W.heap.size := fun x hx => hW'.lt x (List.mem_append.2 (.inl hx))
  rw [Tryz.params6] at hA hval
  have hrun := HeapMoves_run hval hA hlt
  refine hrun.mono fun e W' ⟨he, hb⟩ => ?_
  subst he
  refine ⟨_, rfl, law_post Tryz.laidOut ?_ rfl hW' ?_ ?_ ?_ rfl Tryz.underlying4 hb⟩
  · rw [Tryz.params6]
    intro t ht
    refine ⟨?_, ?_⟩
    · revert t ht; exact of_decide_eq_true (by kernel_rfl)
    · revert t ht; exact of_decide_eq_true (by kernel_rfl)
  all_goals
    obtain ⟨l⟩ := args
    obtain ⟨v0, vs0, d0, ds0, p0, q0, rfl, rfl, rfl, h0, r0⟩ := trodAll_cons hA
    obtain ⟨rfl, rfl, rfl⟩ := trodAll_nil r0
    rfl

theorem HeapMoves_holds : Rows.HeapMovesSaid :=
  OpenClaim.holds_of_wide 6 Tryz.f6 rfl rfl rfl rfl rfl rfl rfl ⟨rfl, rfl, rfl, rfl, rfl⟩ rfl rfl rfl rfl rfl (by kernel_rfl) Tryz.func6
    (joined_of Tryz.may Tryz.lifts Tryz.makes (by kernel_rfl) Tryz.laidOut (by kernel_rfl) (by kernel_rfl) (by kernel_rfl) (by kernel_rfl) (by kernel_rfl) (by kernel_rfl) (by kernel_rfl) (by kernel_rfl) (by kernel_rfl) (by kernel_rfl) (by kernel_rfl) (by kernel_rfl) (by kernel_rfl) (by kernel_rfl) (by kernel_rfl) (by kernel_rfl) (by kernel_rfl) (by kernel_rfl) (by kernel_rfl) (by kernel_rfl) (by kernel_rfl) (by kernel_rfl) (by kernel_rfl) (by kernel_rfl) (by kernel_rfl) rfl rfl (by kernel_rfl) (by kernel_rfl) (by kernel_rfl))
    (of_decide_eq_true (by kernel_rfl)) (by unfold Func.isWrapper; rw [if_neg (of_decide_eq_false (by kernel_rfl))]; exact ⟨rfl, rfl⟩)
    (fun os started H enc _ => HeapMoves_lifted os started H enc)
#print axioms HeapMoves_holds
end Go.Proofs.YtbljphaklciinaaGreat
