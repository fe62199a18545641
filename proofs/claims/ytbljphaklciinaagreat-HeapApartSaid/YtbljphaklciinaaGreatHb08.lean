/- Walks of the program's functions, and plain laws on what they compute, text by text (HeapU, PageGet, SegD, HeapV, SegL, HeapD, SegX, HeapX, HeapE, HeapT). No condition. -/
import Derived.Test.YtbljphaklciinaaGreatHb07
import Derived.Lib.SliceRun
import Derived.LaidEqlPtr

/- Layer 12 (heap): Grow. -/
namespace Go.Proofs.YtbljphaklciinaaGreat
open Go.RowKit
variable {ro ro' : Nat → Role} {hn : Nat} {w w' : World} {B bm bb sz : Nat} {f g : Nat → Nat} {h : HeapR} {X : Role → Prop} {a : ArR}

theorem info_segp : (Tryz.prog.info? 60).map (fun i => (i.zero, i.size, i.bytes)) = some (some (.pointer none), 1, 8) := by kernel_rfl

theorem segStore {bs bk bt pl : Nat} {T : Nat → Bool} {O : Nat → Option Nat} {x t a : Int} (h : SegAt w bs bk bt bm pl T O x t a) (y : Int) (h0 : 0 ≤ a) (h1 : a < 4611686018427387904) :
    Calls Tryz.prog 54 #[.pointer (some ⟨bs, 19, none⟩), .int .u64 y] w fun e w' => e = .returned (.tuple #[]) ∧ SegAt w' bs bk bt bm pl T O y (IntKind.u64.wrap (t + 1)) (a + 1) ∧ w.grownBy w' (some bs) := by
  have hc : CellAt w bs 19 x t a := ⟨h.obj.at_ (j := 19) (by omega) rfl, h.obj.at_ (j := 20) (by omega) rfl, h.obj.at_ (j := 21) (by omega) rfl, h.obj.frz 19 (by omega), h.obj.frz 20 (by omega), h.obj.frz 21 (by omega)⟩
  refine (store_any bs 19 x t a y w hc h0 h1).mono fun e w' ⟨he, hw⟩ => ⟨he, ?_, ?_⟩
  · subst hw
    have ho := ((h.obj.set (i := 21) (by omega) (.int .i64 (a + 1))).set (i := 19) (by omega) (.int .u64 y)).set (i := 20) (by omega) (.int .u64 (IntKind.u64.wrap (t + 1)))
    refine ⟨ho.congr (fun j hj => ?_), h.marks.stays ?_ ?_, h.nk, h.nt, h.pl64, ((h.shp.set _ _ _).set _ _ _).set _ _ _⟩
    · unfold upd
      rcases lt22 hj with rfl | rfl | rfl | ⟨i, hi, rfl⟩ | rfl | rfl | rfl
      · rfl
      · rfl
      · rfl
      · rw [if_neg (by omega), if_neg (by omega), if_neg (by omega), segV_of i hi, segV_of i hi]
      · rfl
      · rfl
      · rfl
    · rw [Below.heap_setCell _ _ _ _ h.nk.symm, Below.heap_setCell _ _ _ _ h.nk.symm, Below.heap_setCell _ _ _ _ h.nk.symm]
    · rw [Below.heap_setCell _ _ _ _ h.nt.symm, Below.heap_setCell _ _ _ _ h.nt.symm, Below.heap_setCell _ _ _ _ h.nt.symm]
  · subst hw
    exact only_set (only_set (only_set (World.grownBy.refl w _) _) _) _

/-- What Grow may turn. -/
def hpZ (hn : Nat) (r : Role) : Prop := (∃ i, r = .ar i) ∨ r = .heap hn ∨ r = .segs hn

set_option maxRecDepth 100000 in
set_option maxHeartbeats 8000000 in
theorem grow_full (H : Hp ro hn w B bm bb sz f h) (A : ArOk ro w B h.ba a) (hrf : a.rf < 1000000) (hgiv : a.lim < a.n - freeN a.T a.n + 1) :
    Calls Tryz.prog 19 #[.pointer (some ⟨h.bh, 0, none⟩)] w fun e w' => e = .returned (.int .i64 4) ∧ Hp ro hn w' B bm bb sz f h ∧ ArOk ro w' B h.ba { a with rf := a.rf + 1 } ∧ RFr ro w w' (hpZ hn) := by
  have HRES := Lib.hid (reserve_full A.at_ hrf hgiv)
  have HH := Lib.hid H
  have HA := Lib.hid A
  have c27 := H.hp.c27
  clear H A
  go_enter Tryz.func19, Tryz.ntmps19
  go_wp2_with fail
  (with_reducible refine HRES.out.mono ?_)
  rintro e w1 ⟨rfl, ha, hf⟩
  have HA1 := Lib.hid ha
  have HF1 := Lib.hid hf
  clear ha hf HRES c27
  go_wp2_with fail
  go_ret
  have hR : RFr ro w w1 (fun r => ∃ i, r = .ar i) := RFr.of_fr HF1.out (fun k hk => by
    rcases hk with rfl | rfl | rfl | hk
    · exact ⟨_, HA.out.ra⟩
    · exact ⟨_, HA.out.rk⟩
    · exact ⟨_, HA.out.rt⟩
    · exact ⟨_, HA.out.rg k hk.symm⟩)
  have hn1 : ∀ r : Role, (∀ i, r ≠ .ar i) → ¬ ∃ i, r = .ar i := fun r h ⟨i, e⟩ => h i e
  have hh := HH.out.hp.reseg hR (hn1 _ nofun) (fun c i => hn1 _ nofun) (hn1 _ nofun) (S' := h.S) rfl (fun s hs => (HH.out.hp.segs s hs).fr hR (hn1 _ nofun) (hn1 _ nofun) (hn1 _ nofun) (fun p _ => ⟨hn1 _ nofun, hn1 _ nofun⟩)) HH.out.hp.pls HH.out.hp.link
  exact ⟨rfl, ⟨hh, HH.out.mem.stays (hR.block _ HH.out.mem.lt_bm (by rw [HH.out.rm]; exact hn1 _ nofun)) (hR.block _ HH.out.mem.lt_bb (by rw [HH.out.rb]; exact hn1 _ nofun)), HH.out.rm, HH.out.rb, Nat.le_trans HH.out.b hR.size⟩, ⟨HA1.out, HA.out.ra, HA.out.rk, HA.out.rt, HA.out.rg⟩, hR.mono (fun r h => .inl h)⟩

def roGr (ro : Nat → Role) (N bs bk bt pl : Nat) (gs ga : Option Nat) (hn k : Nat) : Role :=
  if k < N then ro k else if k = bs then .sg pl else if k = bk then .mk pl else if k = bt then .tk pl else if some k = gs then .segs hn else if some k = ga then .ar 3 else .other

set_option maxRecDepth 100000 in
set_option maxHeartbeats 8000000 in
theorem grow_room (H : Hp ro hn w B bm bb sz f h) (A : ArOk ro w B h.ba a) (hs : SortedR a.R) (hR : a.R.length ≤ 64) {at_ : Nat} (hfree : FreeRow a.T a.n 1 at_) (hlow : ∀ j, j < at_ → ¬ FreeRow a.T a.n 1 j)
    (hbig : ∀ (j : Nat) (x : Nat × Nat), a.R[j]? = some x → x.1 < at_) (hgiv : a.n - freeN a.T a.n + 1 ≤ a.lim) (hpl : ∀ t ∈ h.S, t.pl ≠ at_) (hsz : (at_ + 1) * 16384 ≤ sz) :
    Calls Tryz.prog 19 #[.pointer (some ⟨h.bh, 0, none⟩)] w fun e w' => e = .returned (.int .i64 0) ∧ ∃ ro' s gs g', (∀ k, k < w.heap.size → ro' k = ro k) ∧ s.pl = at_ ∧ s.P = [] ∧ (s.x = h.id ∧ s.a = 1) ∧
      Hp ro' hn w' B bm bb sz f { h with S := h.S ++ [s], gs := gs } ∧ ArOk ro' w' B h.ba { a with T := setT a.T at_ 1 true, R := a.R ++ [(at_, 1)], g := g' } ∧ RFr ro w w' (hpZ hn) := by
  have HRES := Lib.hid (reserve_ok A.at_ hs hR H.b at_ hfree hlow hbig hgiv)
  have h64 : at_ < 64 := by have := hfree.1; have := A.at_.n64; omega
  have HH := Lib.hid H
  have HA := Lib.hid A
  have HPL := Lib.hid hpl
  have c27 := H.hp.c27
  clear H A hbig hlow hfree hs
  go_enter Tryz.func19, Tryz.ntmps19
  go_wp2_with fail
  (with_reducible refine HRES.out.mono ?_)
  rintro e w1 ⟨rfl, g', ha, hf, hgn⟩
  have HA1 := Lib.hid ha
  have HF1 := Lib.hid hf
  have HG1 := Lib.hid hgn
  have R1 : RFr ro w w1 (fun r => ∃ i, r = .ar i) := RFr.of_fr hf (fun k hk => by
    rcases hk with rfl | rfl | rfl | hk
    · exact ⟨_, HA.out.ra⟩
    · exact ⟨_, HA.out.rk⟩
    · exact ⟨_, HA.out.rt⟩
    · exact ⟨_, HA.out.rg k hk.symm⟩)
  have hn1 : ∀ r : Role, (∀ i, r ≠ .ar i) → ¬ ∃ i, r = .ar i := fun r h ⟨i, e⟩ => h i e
  have hbh1 : w1.heap[h.bh]? = w.heap[h.bh]? := R1.block _ HH.out.hp.lt_h (by rw [HH.out.hp.rb]; exact hn1 _ nofun)
  have HM1 : Hid (MemAt w1 bm bb sz f) := HH.out.mem.stays (R1.block _ HH.out.mem.lt_bm (by rw [HH.out.rm]; exact hn1 _ nofun)) (R1.block _ HH.out.mem.lt_bb (by rw [HH.out.rb]; exact hn1 _ nofun))
  have HSN := Lib.hid (segNew_ok HM1.out h64 hsz)
  have d26 := (World.cell?_of_block (a := ⟨h.bh, 26, none⟩) hbh1).trans HH.out.hp.c26
  have HBH1 := Lib.hid hbh1
  have HR1 := Lib.hid R1
  clear ha hf hgn HRES c27 R1 hn1 hbh1
  go_wp2_with fail
  (with_reducible refine HSN.out.mono ?_)
  rintro e w2 ⟨bs, bk, bt, rfl, hsg, nb1, nb2, nb3, B2⟩
  have hbl1 : h.bh < w1.heap.size := Nat.lt_of_lt_of_le HH.out.hp.lt_h HR1.out.size
  have HBH2 : Hid (w2.heap[h.bh]? = w.heap[h.bh]?) := (B2.block _ hbl1).trans HBH1.out
  have d28 := (World.cell?_of_block (a := ⟨h.bh, 28, none⟩) HBH2.out).trans HH.out.hp.c28
  have HSG := Lib.hid hsg
  have HB2 := Lib.hid B2
  have HST := Lib.hid (segStore (hsg.stays (w' := w2.drew) rfl rfl rfl) h.id (by omega) (by omega))
  have HOW := Lib.hid (fun w => segOwner w bs)
  have hbb : h.bh ≠ bs := by omega
  have HHL : Hid (w2.drew.cell? ⟨h.bh, 28, none⟩ = some (.int .u64 h.id)) := d28
  clear hsg B2 HSN d26 HBH1
  go_wp2_with fail
  go_region_held3 (fun w' => w'.cell? ⟨h.bh, 28, none⟩ = some (.int .u64 h.id))
    (first | exact HHL.out | exact KG.out | go_keep | fail)
    (first
      | (go_at_call 27; refine (HOW.out _).mono ?_; rintro e wx ⟨rfl, rfl⟩)
      | (go_at_call 54; refine HST.out.mono ?_; rintro e w3 ⟨rfl, hs3, hg3⟩; have KG : Hid (w3.cell? ⟨h.bh, 28, none⟩ = some (.int .u64 h.id)) := hg3.cell HHL.out (fun e => hbb (Option.some.inj e)))
      | fail)
  have HS3 := Lib.hid hs3
  have HG3 : Hid (w2.grownBy w3 (some bs)) := ⟨hg3.os, hg3.tape, hg3.output, hg3.size, hg3.block⟩
  have hbs2 : bs < w2.heap.size := by have := HSG.out.lt; exact this
  have hbk2 : bk < w2.heap.size := HSG.out.marks.lt_b
  have hbt2 : bt < w2.heap.size := HSG.out.marks.lt_bt
  have hwa : w.heap.size ≤ w1.heap.size := HR1.out.size
  have hwb : w1.heap.size ≤ w2.heap.size := HB2.out.size
  have hwc : w2.heap.size ≤ w3.heap.size := HG3.out.size
  have hblw : h.bh < w.heap.size := HH.out.hp.lt_h
  have HBH3 : Hid (w3.heap[h.bh]? = w.heap[h.bh]?) := (HG3.out.block _ (by omega) (fun e => hbb (Option.some.inj e))).trans HBH2.out
  obtain ⟨v, hv, hov, hgv⟩ := HH.out.hp.c29
  obtain ⟨A, c, rfl, _, _, _⟩ := own_at hov
  have HGV := Lib.hid hgv
  have hgl : ∀ k, h.gs = some k → k < w.heap.size := fun k e => (hov.lt k (hgv.trans e)).2
  have HGL := Lib.hid hgl
  have HOV : Hid (w3.ownsRow B 60 1 (.slice A h.S.length c) h.S.length (segP h.S)) := own_stays hov (fun k hk => by
    have hr := HH.out.hp.rs k (hgv.symm.trans hk)
    have hl := hgl k (hgv.symm.trans hk)
    exact (HG3.out.block k (by omega) (fun e => by have := Option.some.inj e; omega)).trans ((HB2.out.block k (by omega)).trans (HR1.out.block k hl (by rw [hr]; rintro ⟨i, e⟩; cases e))))
  have c29 : w3.cell? ⟨h.bh, 29, none⟩ = some (.slice A h.S.length c) := (World.cell?_of_block (a := ⟨h.bh, 29, none⟩) HBH3.out).trans hv
  have z29 : w3.frozen? ⟨h.bh, 29, none⟩ = false := (World.frozen?_of_block (a := ⟨h.bh, 29, none⟩) HBH3.out).trans HH.out.hp.z29
  have hgb : h.gs ≠ some h.bh := fun e => by have h1 := HH.out.hp.rs _ e; rw [HH.out.hp.rb] at h1; cases h1
  have HB3 : B ≤ w3.heap.size := by have := HH.out.b; omega
  have hlen := HH.out.hp.len
  obtain ⟨i0, hi0, hz0, hz1, hz2⟩ := info_parts info_segp
  clear hs3 hg3 KG HST HOW hv hov hgv hgl d28 HHL
  go_wp2_with (first
    | (at_builtin
       refine wpList_append_any _ rfl (.tmp 48) (.tmp 50) _ rfl B 60 i0 _ 1 8 Tryz.underlying58 hi0 hz0 hz1 hz2 rfl (by omega) (.slice A h.S.length c) h.S.length (segP h.S) rfl
         (HOV.out.alloc _) _ _ 1 1 [.pointer (some ⟨bs, 0, none⟩)] rfl (Reads.new1 w3 _ _) (fun u hu => by simp at hu; subst hu; rfl) (by simp only [maxLen]; omega) (by omega) (by simp; omega) ?_
       intro v4 w4 hown4 hg4 hat4
       have c4 : w4.cell? ⟨h.bh, 29, none⟩ = some (.slice A h.S.length c) := hg4.cell ((World.cell?_alloc_lt w3 _ ⟨h.bh, 29, none⟩ (by show h.bh < _; omega)).trans c29) (by rw [HGV.out]; exact fun e => hgb e.symm)
       have f4 : w4.frozen? ⟨h.bh, 29, none⟩ = false := (World.frozen?_of_block (hg4.block h.bh (by simp; omega) (by rw [HGV.out]; exact fun e => hgb e.symm))).trans ((World.frozen?_of_block (Below.heap_alloc w3 _ h.bh (by omega))).trans z29)
       have H4 := Lib.hid hown4
       have G4 := Lib.hid hg4
       have AT4 := Lib.hid hat4
       obtain ⟨gb, cap4, rfl, hgb4, hgl4⟩ := hown4.form (by omega)
       clear hown4 hg4 hat4))
  go_ret
  -- what stands where
  have G := G4.out
  rw [HGV.out] at G
  have hat := AT4.out
  rw [HGV.out] at hat
  have zA : (w3.alloc (.cells #[.pointer (some ⟨bs, 0, none⟩)] 60)).heap.size = w3.heap.size + 1 := by simp
  have hgb2 : gb ≠ h.bh := fun e => by
    rcases hat with h1 | h1
    · simp only [Value.ownBlock] at h1; exact hgb (by rw [← h1, e])
    · simp only [Value.ownBlock, Option.some.injEq] at h1; rw [zA] at h1; omega
  have hgs : some gb = h.gs ∨ w3.heap.size ≤ gb := by
    rcases hat with h1 | h1
    · exact .inl h1
    · right; simp only [Value.ownBlock, Option.some.injEq] at h1; rw [zA] at h1; omega
  obtain ⟨V, hV⟩ : ∃ V, V = Value.slice (some ⟨gb, 0, none⟩) (h.S.length + 1) cap4 := ⟨_, rfl⟩
  obtain ⟨wF, hwF⟩ : ∃ wF, wF = w4.setCell ⟨h.bh, 29, none⟩ V := ⟨_, rfl⟩
  rw [← hV, ← hwF]
  have zF : w3.heap.size ≤ wF.heap.size := by
    rw [hwF]
    have := G.size
    simp [World.setCell] at this ⊢
    omega
  have b3 : ∀ k, k < w3.heap.size → k ≠ h.bh → some k ≠ h.gs → wF.heap[k]? = w3.heap[k]? := fun k hk h1 h2 => by
    rw [hwF, Below.heap_setCell _ _ _ _ h1]
    exact (G.block k (by rw [zA]; omega) h2).trans (Below.heap_alloc w3 _ k hk)
  have b1 : ∀ k, k < w1.heap.size → k ≠ h.bh → some k ≠ h.gs → wF.heap[k]? = w1.heap[k]? := fun k hk h1 h2 =>
    (b3 k (by omega) h1 h2).trans ((HG3.out.block k (by omega) (fun e => by have := Option.some.inj e; omega)).trans (HB2.out.block k hk))
  have hself : wF.heap[h.bh]? = (w.setCell ⟨h.bh, 29, none⟩ V).heap[h.bh]? := by
    have e : w4.heap[h.bh]? = w.heap[h.bh]? := (G.block h.bh (by rw [zA]; omega) (fun e => hgb e.symm)).trans ((Below.heap_alloc w3 _ h.bh (by omega)).trans HBH3.out)
    rw [hwF]
    simp only [World.setCell, Array.getElem?_modify, if_true]
    rw [e]
  have HR : RFr ro w wF (hpZ hn) := by
    have hg3 := HG3.out
    have hb2 := HB2.out
    have hr1 := HR1.out
    refine ⟨?_, ?_, ?_, by omega, fun k hk hx => ?_⟩
    · rw [hwF]; exact G.os.trans (hg3.os.trans (hb2.os.trans hr1.os))
    · rw [hwF]; exact G.tape.trans (hg3.tape.trans (hb2.tape.trans hr1.tape))
    · rw [hwF]; exact G.output.trans (hg3.output.trans (hb2.output.trans hr1.output))
    · exact (b1 k (by omega) (fun e => hx (by rw [e, HH.out.hp.rb]; exact .inr (.inl rfl))) (fun e => hx (by rw [HH.out.hp.rs k e.symm]; exact .inr (.inr rfl)))).trans (hr1.block k hk (fun e => hx (.inl e)))
  have e0 : ∀ k, k < w.heap.size → roGr ro w.heap.size bs bk bt at_ (some gb) g' hn k = ro k := fun k hk => if_pos hk
  have hnk := HSG.out.nk
  have hnt := HSG.out.nt
  have hnm := HSG.out.marks.ne
  have hs3 : SegAt wF bs bk bt bm at_ (segT []) (segO []) h.id (IntKind.u64.wrap (0 + 1)) (0 + 1) := by
    have e1 : segT [] = setT (fun _ => false) 0 1 true := by
      funext j
      unfold segT setT
      by_cases e : j = 0
      · subst e; simp
      · rw [if_neg (by omega)]; simp [e]
    have e2 : segO [] = fun _ => none := by funext j; simp [segO]
    rw [e1, e2]
    have ng : ∀ k, w.heap.size ≤ k → some k ≠ h.gs := fun k hk e => by have := HGL.out k e.symm; omega
    exact HS3.out.stays (b3 bs (by omega) (by omega) (ng _ (by omega))) (b3 bk (by omega) (by omega) (ng _ (by omega))) (b3 bt (by omega) (by omega) (ng _ (by omega)))
  have hsok : SegOk (roGr ro w.heap.size bs bk bt at_ (some gb) g' hn) wF bm sz f ⟨bs, bk, bt, at_, h.id, IntKind.u64.wrap (0 + 1), 0 + 1, []⟩ :=
    ⟨hs3, hsz, nofun, List.Pairwise.nil, by show roGr ro w.heap.size bs bk bt at_ (some gb) g' hn bs = .sg at_; unfold roGr; rw [if_neg (by omega), if_pos rfl], by show roGr ro w.heap.size bs bk bt at_ (some gb) g' hn bk = .mk at_; unfold roGr; rw [if_neg (by omega), if_neg (by omega), if_pos rfl], by show roGr ro w.heap.size bs bk bt at_ (some gb) g' hn bt = .tk at_; unfold roGr; rw [if_neg (by omega), if_neg (by omega), if_neg (by omega), if_pos rfl]⟩
  have hrs : ∀ k, some gb = some k → roGr ro w.heap.size bs bk bt at_ (some gb) g' hn k = .segs hn := fun k e => by
    injection e with e
    subst e
    rcases hgs with h1 | h1
    · rw [e0 gb (HGL.out gb h1.symm)]
      exact HH.out.hp.rs gb h1.symm
    · unfold roGr
      rw [if_neg (by omega), if_neg (by omega), if_neg (by omega), if_neg (by omega), if_pos rfl]
  have hown : wF.ownsRow B 60 1 V (h.S.length + 1) (segP h.S ++ [.pointer (some ⟨bs, 0, none⟩)]) := by
    rw [hwF, hV]
    exact H4.out.kept (only_set (World.grownBy.refl _ _) _) (.inr (fun e => hgb2 (Option.some.inj e)))
  have zn : ∀ {r : Role}, hpZ hn r → (∃ i, r = .ar i) ∨ r = .heap hn ∨ r = .segs hn := fun h => h
  have hh := HH.out.hp.grown (ro' := roGr ro w.heap.size bs bk bt at_ (some gb) g' hn) HR (by rintro c i (⟨_, e⟩ | e | e) <;> cases e) (fun pl => ⟨(by rintro (⟨_, e⟩ | e | e) <;> cases e), (by rintro (⟨_, e⟩ | e | e) <;> cases e), (by rintro (⟨_, e⟩ | e | e) <;> cases e)⟩)
    (fun pl at_ => ⟨(by rintro (⟨_, e⟩ | e | e) <;> cases e), (by rintro (⟨_, e⟩ | e | e) <;> cases e)⟩) e0 (s := ⟨bs, bk, bt, at_, h.id, IntKind.u64.wrap (0 + 1), 0 + 1, []⟩) (gs := some gb) hself hown (by rw [hV]; rfl) hrs hsok HPL.out
  have hlm := HH.out.mem.lt_bm
  have hlb := HH.out.mem.lt_bb
  have hmem := HH.out.mem.stays (HR.block bm hlm (by rw [HH.out.rm]; rintro (⟨_, e⟩ | e | e) <;> cases e)) (HR.block bb hlb (by rw [HH.out.rb]; rintro (⟨_, e⟩ | e | e) <;> cases e))
  refine ⟨rfl, roGr ro w.heap.size bs bk bt at_ (some gb) g' hn, ⟨bs, bk, bt, at_, h.id, IntKind.u64.wrap (0 + 1), 0 + 1, []⟩, some gb, g', e0, rfl, rfl, ⟨rfl, rfl⟩, ⟨hh, hmem, (e0 bm hlm).trans HH.out.rm, (e0 bb hlb).trans HH.out.rb, Nat.le_trans HH.out.b HR.size⟩, ?_, HR⟩
  have hA := HA.out
  have A1 := HA1.out
  have nb : ∀ k, k < w.heap.size → (∃ i, ro k = .ar i) → k ≠ h.bh ∧ some k ≠ h.gs := fun k _ ⟨i, e⟩ => ⟨(fun e2 => by rw [e2, HH.out.hp.rb] at e; cases e), (fun e2 => by rw [HH.out.hp.rs k e2.symm] at e; cases e)⟩
  have ga : ∀ k, g' = some k → k ≠ h.bh ∧ some k ≠ h.gs := fun k e => by
    rcases HG1.out with h1 | ⟨k', h1, h2⟩
    · exact nb k (hA.at_.lt_g (h1.symm.trans e)).1 ⟨_, hA.rg k (h1.symm.trans e)⟩
    · have : k = k' := Option.some.inj (e.symm.trans h1)
      exact ⟨by omega, fun e2 => by have := HGL.out k e2.symm; omega⟩
  have l1 := hA.at_.lt_a
  have l2 := hA.at_.marks.lt_b
  have l3 := hA.at_.marks.lt_bt
  refine ⟨A1.stays (b1 _ (by omega) (nb _ l1 ⟨_, hA.ra⟩).1 (nb _ l1 ⟨_, hA.ra⟩).2) (b1 _ (by omega) (nb _ l2 ⟨_, hA.rk⟩).1 (nb _ l2 ⟨_, hA.rk⟩).2) (b1 _ (by omega) (nb _ l3 ⟨_, hA.rt⟩).1 (nb _ l3 ⟨_, hA.rt⟩).2) (fun k e => b1 k (A1.lt_g e).1 (ga k e).1 (ga k e).2),
    (e0 _ l1).trans hA.ra, (e0 _ l2).trans hA.rk, (e0 _ l3).trans hA.rt, fun k e => ?_⟩
  rcases HG1.out with h1 | ⟨k', h1, h2⟩
  · rw [e0 k (hA.at_.lt_g (h1.symm.trans e)).1]
    exact hA.rg k (h1.symm.trans e)
  · have hk : k = k' := Option.some.inj (e.symm.trans h1)
    have hk1 := (A1.lt_g e).1
    unfold roGr
    rw [if_neg (by omega), if_neg (by omega), if_neg (by omega), if_neg (by omega), if_neg (fun e2 => by
      have := Option.some.inj e2
      rcases hgs with h3 | h3
      · exact (ga k e).2 (by rw [this]; exact h3)
      · omega), if_pos e.symm]
end Go.Proofs.YtbljphaklciinaaGreat

/- Layer 9 (page): what is asked alone. -/
namespace Go.Proofs.YtbljphaklciinaaGreat
open Go.RowKit

theorem pageUsed_ok {w : World} {b bm : Nat} {p : Pg} (H : PageAt w b bm p) : Calls Tryz.prog 82 #[.pointer (some ⟨b, 0, none⟩)] w fun e w' => e = .returned (.int .i64 p.used) ∧ w' = w := by
  have c4 : w.cell? ⟨b, 4, none⟩ = some (.int .i64 p.used) := by have h := H.cell 4 (by omega); rwa [Nat.zero_add] at h
  clear H
  go_enter Tryz.func82, Tryz.ntmps82
  go_wp2_with fail
  go_ret
  exact ⟨rfl, rfl⟩

theorem pageCell_ok {w : World} {b : Nat} : Calls Tryz.prog 30 #[.pointer (some ⟨b, 0, none⟩)] w fun e w' => e = .returned (.pointer (some ⟨b, 10, none⟩)) ∧ w' = w := by
  go_enter Tryz.func30, Tryz.ntmps30
  go_wp2_with fail
  go_ret
  exact ⟨rfl, rfl⟩
end Go.Proofs.YtbljphaklciinaaGreat

/- Layer 10 (seg): Drop. -/
namespace Go.Proofs.YtbljphaklciinaaGreat
open Go.RowKit
variable {w w' : World} {bs bk bt bm pl : Nat} {T : Nat → Bool} {O : Nat → Option Nat} {x t a : Int}

theorem zero_owned (w : World) : (zeroValue 74).run Tryz.prog w = .ok (.pointer none) w := by kernel_rfl

theorem shp_cells (b : Nat) : ∀ (vs : List Value) (o : Nat) (w : World), Shp w b → Shp (w.setCells b o vs) b
  | [], _, _, h => h
  | v :: r, o, w, h => by
    rw [World.setCells]
    exact shp_cells b r (o + 1) _ (h.set _ _ _)

theorem slice_of (bs at_ sl : Nat) (h1 : 1 ≤ sl) (h16 : at_ + sl ≤ 16) (w : World) : (Instr.sliceAt 131 (.pointer (some ⟨bs, 3, none⟩)) (some (.int .i64 at_)) (some (.int .i64 ((at_ : Int) + sl))) none).run Tryz.prog w = .ok (.slice (some ⟨bs, 3 + at_, none⟩) sl (16 - at_)) w := by
  have hal : Tryz.prog.arrayLen 131 = 16 := by kernel_rfl
  have hel : ∀ w, (sizeOf (Tryz.prog.elem 131)).run Tryz.prog w = .ok 1 w := fun w => by kernel_rfl
  rw [run_sliceAt_array_lh w _ _ (by kernel_rfl) .i64 .i64 _ _ (by omega) (by omega) (by rw [hal]; omega), hel, hal]
  have e1 : ((at_ : Int) + sl).toNat = at_ + sl := by omega
  show Result.ok (slicedAt ⟨bs, 3, none⟩ (at_ : Int).toNat ((at_ : Int) + sl).toNat 16 1) w = _
  rw [e1, Int.toNat_natCast]
  unfold slicedAt
  rw [if_neg (by omega), Nat.add_sub_cancel_left, Nat.mul_one]
  simp [Addr.add]

set_option maxRecDepth 100000 in
set_option maxHeartbeats 4000000 in
theorem segDrop_ok {bo bp at_ sl : Nat} {c : Int} {pg : Pg} (h : SegAt w bs bk bt bm pl T O x t a) (h1 : 1 ≤ sl) (h16 : at_ + sl ≤ 16) (hO : O at_ = some bo) (ho : OwnedAt w bo bp c at_ sl) (hp : PageAt w bp bm pg) (hu : pg.used = 0)
    (hT : ∀ j, j < sl → T (at_ + j) = true) :
    Calls Tryz.prog 83 #[.pointer (some ⟨bs, 0, none⟩), .int .i64 at_] w fun e w' => e = .returned (.int .i64 0) ∧ SegAt w' bs bk bt bm pl (setT T at_ sl false) (setO O at_ (at_ + sl) none) x t a ∧ Fr w w' (sgS bs bk bt) := by
  have HOW := Lib.hid ho
  have hof := (h.of_ (j := at_) (by omega)).1
  rw [hO] at hof
  simp only [Option.map_some] at hof
  have o0 : w.cell? ⟨bo, 0, none⟩ = some (.pointer (some ⟨bp, 0, none⟩)) := ho.at0 (by omega) rfl
  have o2 : w.cell? ⟨bo, 2, none⟩ = some (.int .i64 at_) := by have := ho.cell 2 (by omega); rwa [Nat.zero_add] at this
  have o3 : w.cell? ⟨bo, 3, none⟩ = some (.int .i64 sl) := by have := ho.cell 3 (by omega); rwa [Nat.zero_add] at this
  have HTT := Lib.hid hT
  have hsl := slice_of bs at_ sl h1 h16
  have HH := Lib.hid h
  have hcl : ∀ ty, (Builtin.clear_ #[128] ty #[.slice (some ⟨bs, 3 + at_, none⟩) sl (16 - at_)]).run Tryz.prog w = .ok (.tuple #[]) (w.setCells bs (3 + at_) (List.replicate sl (.pointer none))) := fun ty =>
    Lib.run_clear_slice w _ _ ty _ Tryz.underlying128 zero_owned rfl rfl bs (3 + at_) sl _ (by omega)
      (fun j hj => by rw [show 3 + at_ + j = 3 + (at_ + j) by omega, (HH.out.of_ (j := at_ + j) (by omega)).1]; rfl)
      (fun j hj => by rw [show 3 + at_ + j = 3 + (at_ + j) by omega]; exact (HH.out.of_ (j := at_ + j) (by omega)).2)
  obtain ⟨w2, hw2⟩ : ∃ w2, w2 = w.setCells bs (3 + at_) (List.replicate sl (.pointer none)) := ⟨_, rfl⟩
  rw [← hw2] at hcl
  have hO2 : Obj_ w2 bs 0 22 (segV bk bm pl (setO O at_ (at_ + sl) none) x t a) := by
    rw [hw2]
    refine ⟨fun j hj => ?_, fun j hj => by rw [World.frozen?_setCells]; exact h.obj.frz j hj⟩
    rw [Nat.zero_add]
    by_cases hj2 : 3 + at_ ≤ j ∧ j < 3 + at_ + sl
    · obtain ⟨i, rfl⟩ : ∃ i, j = 3 + at_ + i := ⟨j - (3 + at_), by omega⟩
      rw [World.cell?_setCells_in bs (List.replicate sl (.pointer none)) (3 + at_) w (fun q hq => by
        simp at hq
        rw [show 3 + at_ + q = 3 + (at_ + q) by omega, (h.of_ (j := at_ + q) (by omega)).1]; rfl) i (by simp; omega)]
      rw [show 3 + at_ + i = 3 + (at_ + i) by omega, segV_of (at_ + i) (by omega)]
      have : setO O at_ (at_ + sl) none (at_ + i) = none := by unfold setO; rw [if_pos (by omega)]
      rw [this]
      simp
    · rw [World.cell?_setCells_out bs _ _ _ _ (fun _ _ => by simp; omega)]
      have h0 := h.obj.cell j hj
      rw [Nat.zero_add] at h0
      rw [h0]
      congr 1
      rcases lt22 hj with rfl | rfl | rfl | ⟨i, hi, rfl⟩ | rfl | rfl | rfl
      · rfl
      · rfl
      · rfl
      · rw [segV_of i hi, segV_of i hi]
        have : setO O at_ (at_ + sl) none i = O i := by unfold setO; rw [if_neg (by omega)]
        rw [this]
      · rfl
      · rfl
      · rfl
  have hsh2 : Shp w2 bs := by rw [hw2]; exact shp_cells bs _ _ w h.shp
  have hg : w.grownBy w2 (some bs) := by rw [hw2]; exact setCells_grown bs _ _ _ w (World.grownBy.refl w _)
  have hb2 : ∀ k, k < w.heap.size → k ≠ bs → w2.heap[k]? = w.heap[k]? := fun k hl hk => hg.block k hl (fun e => hk (Option.some.inj e))
  have HS2 : Hid (SegAt w2 bs bk bt bm pl T (setO O at_ (at_ + sl) none) x t a) := ⟨hO2, h.marks.stays (hb2 bk h.marks.lt_b h.nk.symm) (hb2 bt h.marks.lt_bt h.nt.symm), h.nk, h.nt, h.pl64, hsh2⟩
  have HF2 : Hid (Fr w w2 (sgS bs bk bt)) := (Fr.of_grown hg).mono (fun k e => .inl (Option.some.inj e))
  have e2 := HS2.out.c0
  have HFREE := Lib.hid (marksFree HS2.out.marks at_ sl h1 h16 hT)
  have HU := Lib.hid (pageUsed_ok hp)
  rw [hu] at HU
  clear h ho hp hT hw2 hb2 hO2 HTT hg hsh2
  go_enter Tryz.func83, Tryz.ntmps83
  go_wp2_with fail
  refine HU.out.mono ?_
  rintro e w1 ⟨rfl, rfl⟩
  go_wp2_with fail
  (with_reducible refine HFREE.out.mono ?_)
  rintro e w3 ⟨rfl, hm3, hp3⟩
  have HM3 := Lib.hid hm3
  have HP3 := Lib.hid hp3
  clear hm3 hp3 HFREE
  go_wp2_with fail
  go_ret
  exact ⟨rfl, ⟨HS2.out.obj.of_block (HP3.out.block bs HS2.out.lt HS2.out.nk HS2.out.nt), HM3.out, HS2.out.nk, HS2.out.nt, HS2.out.pl64, HS2.out.shp.of_block (HP3.out.block bs HS2.out.lt HS2.out.nk HS2.out.nt)⟩, HF2.out.trans (Fr.of_pfr HP3.out) (fun k hk => .inl (.inr hk))⟩
end Go.Proofs.YtbljphaklciinaaGreat

/- Layer 12 (heap): New, Segs; layer 2 (mem): New. -/
namespace Go.Proofs.YtbljphaklciinaaGreat
open Go.RowKit
variable {ro ro' : Nat → Role} {hn : Nat} {w w' : World} {B bm bb sz : Nat} {f g : Nat → Nat} {h : HeapR} {X : Role → Prop}

theorem info_byte : (Tryz.prog.info? 5).map (fun i => (i.zero, i.size, i.bytes)) = some (some (.int .u8 0), 1, 1) := by kernel_rfl

set_option maxRecDepth 100000 in
set_option maxHeartbeats 1000000 in
theorem memNew_ok (w : World) (sz : Nat) (h0 : 0 < sz) (h1 : sz ≤ 1048576) (h2 : sz % 1024 = 0) : Calls Tryz.prog 34 #[.int .u64 sz] w fun e w' => ∃ bm bb, e = .returned (.tuple #[.pointer (some ⟨bm, 0, none⟩), .int .i64 0]) ∧ MemAt w' bm bb sz (fun _ => 0) ∧ w.heap.size ≤ bm ∧ w.heap.size ≤ bb ∧ Below w.heap.size w w' := by
  have hmk : ∀ w : World, (Instr.makeSlice 47 (.int .u64 sz) (.int .u64 sz)).run Tryz.prog w = .ok (.slice (some ⟨w.heap.size, 0, none⟩) sz sz) (w.alloc (.cells (madeCells #[.int .u8 0] sz) 5)) :=
    fun w => run_make_row' 47 5 (.int .u8 0) 1 Tryz.underlying47 info_byte rfl .u64 .u64 sz (by omega) (by omega) w
  have q1 : ((sz : Int) == 0) = false := by simp; omega
  have q2 : ¬ (1048576 < (sz : Int)) := by omega
  have q3 : ((sz : Int) % 1024) = 0 := by omega
  go_enter Tryz.func34, Tryz.ntmps34
  go_wp2_with fail
  go_ret2
  have hB : Below w.heap.size w (w.alloc (.cells (madeCells #[.int .u8 0] sz) 5)) := (Below.refl _ _).alloc (Nat.le_refl _) _
  have hsz : (w.alloc (.cells (madeCells #[.int .u8 0] sz) 5)).heap.size = w.heap.size + 1 := by simp
  refine ⟨w.heap.size + 1, rfl, w.heap.size, ?_, by omega, Nat.le_refl _, hB.alloc hB.size _⟩
  have ho : ∀ (o : Obj) j, ((w.alloc (.cells (madeCells #[.int .u8 0] sz) 5)).alloc o).cell? ⟨w.heap.size, j, none⟩ = (w.alloc (.cells (madeCells #[.int .u8 0] sz) 5)).cell? ⟨w.heap.size, j, none⟩ := fun o j => World.cell?_alloc_lt _ o ⟨w.heap.size, j, none⟩ (by simp)
  refine ⟨?_, by omega, fun j hj => ?_, fun j hj => by simp, fun j => by omega, h0, h1⟩
  · rw [← hsz, World.cell?_alloc_new]; rfl
  · rw [ho, World.cell?_alloc_new]
    exact madeCells_at _ sz j hj

/-- A heap's cells, new. -/
def heapCs (bm ba : Nat) (id : Int) : Array Value := #[.slice none 0 0, .slice none 0 0, .slice none 0 0, .slice none 0 0, .slice none 0 0, .slice none 0 0, .slice none 0 0, .slice none 0 0, .slice none 0 0, .slice none 0 0, .slice none 0 0, .slice none 0 0, .slice none 0 0, .slice none 0 0, .slice none 0 0, .slice none 0 0, .slice none 0 0, .slice none 0 0, .slice none 0 0, .slice none 0 0, .slice none 0 0, .slice none 0 0, .slice none 0 0, .slice none 0 0, .slice none 0 0, .slice none 0 0,
  .pointer (some ⟨bm, 0, none⟩), .pointer (some ⟨ba, 0, none⟩), .int .u64 id, .slice none 0 0]

set_option maxRecDepth 100000 in
set_option maxHeartbeats 1000000 in
theorem heapNew_ok (w : World) (bm ba : Nat) (id : Int) (hid : (id == 0) = false) : Calls Tryz.prog 22 #[.pointer (some ⟨bm, 0, none⟩), .pointer (some ⟨ba, 0, none⟩), .int .u64 id] w fun e w' =>
    e = .returned (.tuple #[.pointer (some ⟨w.heap.size, 0, none⟩), .int .i64 0]) ∧ w' = w.alloc (.cells (heapCs bm ba id) 111) := by
  go_enter Tryz.func22, Tryz.ntmps22
  go_wp2_with fail
  go_ret2
  exact ⟨rfl, rfl⟩

def newHR (bh ba : Nat) (id : Int) : HeapR := ⟨bh, ba, id, fun _ => [], fun _ => [], fun _ => none, fun _ => none, none, []⟩

theorem HeapAt.new (w : World) {bm ba : Nat} {id : Int} {B sz : Nat} {f : Nat → Nat} (hro : ro w.heap.size = .heap hn) : HeapAt ro hn (w.alloc (.cells (heapCs bm ba id) 111)) B bm sz f (newHR w.heap.size ba id) := by
  have ho := Obj_.new w (heapCs bm ba id) 111
  have hc : ∀ j, j < 30 → (w.alloc (.cells (heapCs bm ba id) 111)).cell? ⟨w.heap.size, j, none⟩ = some ((heapCs bm ba id).getD j undef) := fun j hj => by have := ho.cell j hj; rwa [Nat.zero_add] at this
  have hz : ∀ j, j < 30 → (w.alloc (.cells (heapCs bm ba id) 111)).frozen? ⟨w.heap.size, j, none⟩ = false := fun j hj => by have := ho.frz j hj; rwa [Nat.zero_add] at this
  have hrow : ∀ o, o < 26 → RowAt (w.alloc (.cells (heapCs bm ba id) 111)) B w.heap.size o [] none := fun o ho => by
    refine ⟨⟨.slice none 0 0, ?_, World.ownsRow_nil _ _ _ _, rfl⟩, hz o (by omega), nofun⟩
    rw [hc o (by omega)]
    rcases (show o = 0 ∨ o = 1 ∨ o = 2 ∨ o = 3 ∨ o = 4 ∨ o = 5 ∨ o = 6 ∨ o = 7 ∨ o = 8 ∨ o = 9 ∨ o = 10 ∨ o = 11 ∨ o = 12 ∨ o = 13 ∨ o = 14 ∨ o = 15 ∨ o = 16 ∨ o = 17 ∨ o = 18 ∨ o = 19 ∨ o = 20 ∨ o = 21 ∨ o = 22 ∨ o = 23 ∨ o = 24 ∨ o = 25 by omega) with rfl | rfl | rfl | rfl | rfl | rfl | rfl | rfl | rfl | rfl | rfl | rfl | rfl | rfl | rfl | rfl | rfl | rfl | rfl | rfl | rfl | rfl | rfl | rfl | rfl | rfl <;> rfl
  exact {
    rb := hro
    c26 := hc 26 (by omega)
    c27 := hc 27 (by omega)
    c28 := hc 28 (by omega)
    c29 := ⟨.slice none 0 0, hc 29 (by omega), World.ownsRow_nil _ _ _ _, rfl⟩
    z29 := hz 29 (by omega)
    q := fun c hc => ⟨hrow _ (by omega), hrow _ (by omega), fun _ => rfl⟩
    qo := fun _ _ => QOnce.nil
    r1 := nofun
    r2 := nofun
    rs := nofun
    segs := nofun
    pls := List.Pairwise.nil
    link := fun c hc k hk => by rcases hk with h | h <;> cases h
    len := by simp [newHR] }

/-- A new row of pointers to segments, of the call's own. -/
def NewSegs (w : World) (l : List Value) (e : Ending) (w' : World) : Prop :=
  ∃ v, e = .returned v ∧ w'.ownsRow w.heap.size 60 1 v l.length l ∧ Below w.heap.size w w'

theorem eql_nil_segs (w : World) (A : Option Addr) (n c : Nat) : (binOp .eql 58 (.slice A n c) (.slice none 0 0)).run Tryz.prog w = .ok (.bool A.isNone) w := by
  simp only [binOp]
  simp [Op.equal, Op.maxDepth, Lib.run_equalIn_slice_nil w 9999 58 60 A n c 0 0 Tryz.underlying58]

set_option maxRecDepth 100000 in
set_option maxHeartbeats 2000000 in
theorem cloneSegs_some (w : World) (N : Nat) (ad : Addr) (n c : Nat) (l : List Value) (hl : Reads w N 1 (some ad) n l) (h1 : ∀ u ∈ l, u.oneCell' = true) (hN : N ≤ w.heap.size) (hn : n ≤ 1000000) :
    Calls Tryz.prog 58 #[.slice (some ad) n c] w (NewSegs w l) := by
  have hlen : l.length = n := by have := hl.1; omega
  have HL := Lib.hid hlen
  have HR := Lib.hid (Reads.alloc hl hN (.cells #[] 60))
  have H1C := Lib.hid h1
  obtain ⟨i0, hi0, hz0, hz1, hz2⟩ := info_parts info_segp
  clear hlen hl h1
  have hq := fun w => eql_nil_segs w (some ad) n c
  simp only [Option.isNone_some] at hq
  go_enter Tryz.func58, Tryz.ntmps58
  go_wp2_with (first
    | (at_builtin
       refine wpList_append_any _ rfl (.tmp 5) (.tmp 6) _ rfl w.heap.size 60 i0 _ 1 8 Tryz.underlying58 hi0 hz0 hz1 hz2 rfl (by omega) (.slice (some ⟨w.heap.size, 0, none⟩) 0 0) 0 [] rfl
         (World.ownsRow_made w #[] 0 (Nat.le_refl _) (Nat.zero_le _) rfl) N (some ad) n c l rfl HR.out H1C.out (by simp only [maxLen]; omega) (by omega) (by simp) ?_
       intro v1 w1 hown1 hg1 hat1
       have H1 := Lib.hid hown1
       have H2 := Lib.hid hg1
       have H3 := Lib.hid hat1
       obtain ⟨A1, n1, c1, rfl⟩ : ∃ A n c, v1 = .slice A n c := by
         rcases hown1.2 with ⟨rfl, _⟩ | ⟨g, cap, cur, rfl, _⟩
         · exact ⟨_, _, _, rfl⟩
         · exact ⟨_, _, _, rfl⟩
       clear hown1 hg1 hat1))
  go_ret
  refine ⟨_, rfl, ?_, ?_⟩
  · have h := H1.out
    rw [Nat.zero_add, List.nil_append, ← HL.out] at h
    exact h
  · exact ((Below.refl _ w).alloc (Nat.le_refl _) _).grown H2.out (by simp) (fun k e => by simp [Value.ownBlock] at e; omega)

set_option maxHeartbeats 1000000 in
set_option maxRecDepth 100000 in
theorem cloneSegs_nil (w : World) : Calls Tryz.prog 58 #[.slice none 0 0] w (NewSegs w []) := by
  have hq := fun w => eql_nil_segs w none 0 0
  simp only [Option.isNone_none] at hq
  go_enter Tryz.func58, Tryz.ntmps58
  go_wp2_with fail
  go_ret
  exact ⟨_, rfl, World.ownsRow_nil _ _ _ _, Below.refl _ _⟩

set_option maxHeartbeats 1000000 in
set_option maxRecDepth 100000 in
theorem segs_any (H : HeapAt ro hn w B bm sz f h) : Calls Tryz.prog 23 #[.pointer (some ⟨h.bh, 0, none⟩)] w (NewSegs w (segP h.S)) := by
  obtain ⟨v, hv, ho, hg⟩ := H.c29
  have hlen := H.len
  have hl : (segP h.S).length = h.S.length := by simp [segP]
  have HC : Hid (Calls Tryz.prog 58 #[v] w (NewSegs w (segP h.S))) := by
    have hr := ho
    rcases ho.2 with ⟨rfl, h0⟩ | ⟨gg, cap, cur, rfl, _⟩
    · have e : segP h.S = [] := List.eq_nil_of_length_eq_zero (hl.trans h0)
      rw [e]
      exact cloneSegs_nil w
    · exact cloneSegs_some w w.heap.size _ _ _ _ (Reads.of_own hr) (fun u hu => by
        unfold segP at hu
        obtain ⟨s, _, rfl⟩ := List.mem_map.1 hu
        rfl) (Nat.le_refl _) (by omega)
  obtain ⟨A, c, rfl, _⟩ := own_at ho
  clear H ho hg hl
  go_enter Tryz.func23, Tryz.ntmps23
  go_wp2_with fail
  refine HC.out.mono ?_
  rintro e w1 ⟨v1, rfl, ho, hb⟩
  have HO := Lib.hid ho
  have HB := Lib.hid hb
  clear ho hb HC
  go_wp2_with fail
  go_ret
  exact ⟨_, rfl, HO.out, HB.out⟩
end Go.Proofs.YtbljphaklciinaaGreat

/- Layer 10 (seg): Pages. -/
namespace Go.Proofs.YtbljphaklciinaaGreat
open Go.RowKit
variable {w w' : World} {bs bk bt bm pl : Nat} {T : Nat → Bool} {O : Nat → Option Nat} {x t a : Int}

theorem info_ownp : (Tryz.prog.info? 74).map (fun i => (i.zero, i.size, i.bytes)) = some (some (.pointer none), 1, 8) := by kernel_rfl

/-- Where pages begin: of each slice the page that begins there. -/
def Begins (w : World) (O D : Nat → Option Nat) : Prop := ∀ j, j < 16 → (O j = none ∧ D j = none) ∨ ∃ bo bp c at_ sl, O j = some bo ∧ OwnedAt w bo bp c at_ sl ∧ D j = if at_ = j then some bo else none
def beginsP (D : Nat → Option Nat) (k : Nat) : List Value := ((List.range k).filterMap D).map fun b => .pointer (some ⟨b, 0, none⟩)

def NewOwn (w : World) (l : List Value) (e : Ending) (w' : World) : Prop :=
  ∃ v, e = .returned v ∧ w'.ownsRow w.heap.size 74 1 v l.length l ∧ Below w.heap.size w w'

set_option maxRecDepth 100000 in
set_option maxHeartbeats 4000000 in
theorem segPages_ok {D : Nat → Option Nat} (h : SegAt w bs bk bt bm pl T O x t a) (hD : Begins w O D) :
    Calls Tryz.prog 60 #[.pointer (some ⟨bs, 0, none⟩)] w (NewOwn w (beginsP D 16)) := by
  have HH := Lib.hid h
  have HD := Lib.hid hD
  obtain ⟨V, hV⟩ : ∃ V : Nat → Value, ∀ j, V j = ptrO (O j) := ⟨_, fun _ => rfl⟩
  have HC : Hid (∀ j, j < 16 → w.cell? ⟨bs, 3 + j, none⟩ = some (V j)) := fun j hj => by rw [hV]; exact (h.of_ hj).1
  have HV := Lib.hid hV
  have v0 : w.cell? ⟨bs, 3, none⟩ = some (V 0) := HC.out 0 (by omega)
  have v1 : w.cell? ⟨bs, 4, none⟩ = some (V 1) := HC.out 1 (by omega)
  have v2 : w.cell? ⟨bs, 5, none⟩ = some (V 2) := HC.out 2 (by omega)
  have v3 : w.cell? ⟨bs, 6, none⟩ = some (V 3) := HC.out 3 (by omega)
  have v4 : w.cell? ⟨bs, 7, none⟩ = some (V 4) := HC.out 4 (by omega)
  have v5 : w.cell? ⟨bs, 8, none⟩ = some (V 5) := HC.out 5 (by omega)
  have v6 : w.cell? ⟨bs, 9, none⟩ = some (V 6) := HC.out 6 (by omega)
  have v7 : w.cell? ⟨bs, 10, none⟩ = some (V 7) := HC.out 7 (by omega)
  have v8 : w.cell? ⟨bs, 11, none⟩ = some (V 8) := HC.out 8 (by omega)
  have v9 : w.cell? ⟨bs, 12, none⟩ = some (V 9) := HC.out 9 (by omega)
  have v10 : w.cell? ⟨bs, 13, none⟩ = some (V 10) := HC.out 10 (by omega)
  have v11 : w.cell? ⟨bs, 14, none⟩ = some (V 11) := HC.out 11 (by omega)
  have v12 : w.cell? ⟨bs, 15, none⟩ = some (V 12) := HC.out 12 (by omega)
  have v13 : w.cell? ⟨bs, 16, none⟩ = some (V 13) := HC.out 13 (by omega)
  have v14 : w.cell? ⟨bs, 17, none⟩ = some (V 14) := HC.out 14 (by omega)
  have v15 : w.cell? ⟨bs, 18, none⟩ = some (V 15) := HC.out 15 (by omega)
  have HIX : Hid (∀ k : Nat, k < 16 → ∀ w, (Instr.index 131 (.agg #[V 0, V 1, V 2, V 3, V 4, V 5, V 6, V 7, V 8, V 9, V 10, V 11, V 12, V 13, V 14, V 15]) (.int .i64 k)).run Tryz.prog w = .ok (V k) w) := fun k hk w => by
    rcases (show k = 0 ∨ k = 1 ∨ k = 2 ∨ k = 3 ∨ k = 4 ∨ k = 5 ∨ k = 6 ∨ k = 7 ∨ k = 8 ∨ k = 9 ∨ k = 10 ∨ k = 11 ∨ k = 12 ∨ k = 13 ∨ k = 14 ∨ k = 15 by omega) with rfl | rfl | rfl | rfl | rfl | rfl | rfl | rfl | rfl | rfl | rfl | rfl | rfl | rfl | rfl | rfl <;> kernel_rfl
  clear h hD hV
  go_enter Tryz.func60, Tryz.ntmps60
  have HO0 : Hid (w.ownsRow w.heap.size 74 1 (.slice none 0 0) (beginsP D 0).length (beginsP D 0)) := World.ownsRow_nil _ _ _ _
  obtain ⟨i0, hi0, hz0, hz1, hz2⟩ := info_parts info_ownp
  have HII := Lib.hid (And.intro hi0 (And.intro hz0 (And.intro hz1 hz2)))
  clear hi0 hz0 hz1 hz2
  go_wp2_with fail
  clear v0 v1 v2 v3 v4 v5 v6 v7 v8 v9 v10 v11 v12 v13 v14 v15
  go_loopw [2, 11] (fun o ix wr => ∃ k : Nat, k ≤ 16 ∧ ix = .int .i64 k ∧ Hid (wr.ownsRow w.heap.size 74 1 o (beginsP D k).length (beginsP D k)) ∧ Hid (Below w.heap.size w wr)) (fun _ ix _ => 16 - (intOf ix).toNat)
  case atStart => exact ⟨0, by omega, rfl, HO0, Below.refl _ _⟩
  case round =>
    obtain ⟨k, hk, rfl, HO, HB⟩ := hrel
    have hlb : (beginsP D k).length ≤ 16 := by
      unfold beginsP
      rw [List.length_map]
      have h1 := List.length_filterMap_le D (List.range k)
      rw [List.length_range] at h1
      omega
    by_cases hlt : k < 16
    · have hx := HIX.out k hlt
      rw [HV.out k] at hx
      have hsn : ∀ b, D k = b → beginsP D (k + 1) = beginsP D k ++ (match b with | some b => [.pointer (some ⟨b, 0, none⟩)] | none => []) := fun b e => by
        unfold beginsP
        rw [List.range_succ, List.filterMap_append, List.map_append]
        subst e
        cases h : D k <;> simp [h]
      rcases HD.out k hlt with ⟨e1, e2⟩ | ⟨bo, bp, c, at_, sl, e1, ho, e2⟩
      · rw [e1] at hx
        simp only [ptrO, Option.map_none] at hx
        have HE : Hid (beginsP D (k + 1) = beginsP D k) := (hsn _ e2).trans (by simp)
        clear hsn e1 e2
        go_wp2_with fail
        go_roundw
        case rel => exact ⟨k + 1, by omega, by go_num, by rw [HE.out]; exact HO, HB⟩
        case measure => simp [intOf]; omega
      · rw [e1] at hx
        simp only [ptrO, Option.map_some] at hx
        have o2 : wr.cell? ⟨bo, 2, none⟩ = some (.int .i64 at_) := (HB.out.cell (p := ⟨bo, 2, none⟩) (Obj_.lt ho (by omega))).trans (by have := ho.cell 2 (by omega); rwa [Nat.zero_add] at this)
        by_cases hat : at_ = k
        · subst hat
          rw [if_pos rfl] at e2
          have HE : Hid (beginsP D (at_ + 1) = beginsP D at_ ++ [.pointer (some ⟨bo, 0, none⟩)]) := hsn _ e2
          obtain ⟨hi0, hz0, hz1, hz2⟩ := HII.out
          have hBW : w.heap.size ≤ wr.heap.size := HB.out.size
          clear hsn e1 e2 ho
          go_wp2_with (first
            | (at_builtin
               refine wpList_append_any _ rfl (.tmp 25) (.tmp 27) _ rfl w.heap.size 74 i0 _ 1 8 Tryz.underlying128 hi0 hz0 hz1 hz2 rfl (by omega) u2 _ _ rfl
                 (HO.out.alloc _) _ _ 1 1 [.pointer (some ⟨bo, 0, none⟩)] rfl (Reads.new1 _ _ _) (fun u hu => by simp at hu; subst hu; rfl) (by simp only [maxLen]; omega) (by omega) (by simp; omega) ?_
               intro v5 w5 hown5 hg5 hat5
               have H5 := Lib.hid hown5
               have G5 := Lib.hid hg5
               have T5 := Lib.hid hat5
               clear hown5 hg5 hat5))
          go_roundw
          case rel =>
            have hg := G5.out
            have zA : (wr.alloc (.cells #[.pointer (some ⟨bo, 0, none⟩)] 74)).heap.size = wr.heap.size + 1 := by simp
            refine ⟨at_ + 1, by omega, by go_num, ?_, ?_⟩
            · have ho := H5.out
              have e1 : (beginsP D at_).length + 1 = (beginsP D (at_ + 1)).length := by rw [HE.out, List.length_append]; rfl
              rw [← HE.out, e1] at ho
              exact ho
            · exact (HB.out.alloc HB.out.size _).grown hg (by rw [zA]; omega) (fun k e => (HO.out.lt k e).1)
          case measure => simp [intOf]; omega
        · rw [if_neg hat] at e2
          have HE : Hid (beginsP D (k + 1) = beginsP D k) := (hsn _ e2).trans (by simp)
          have q0 : ((at_ : Int) == (k : Int)) = false := by simp; omega
          clear hsn e1 e2 ho hat
          go_wp2_with fail
          go_roundw
          case rel => exact ⟨k + 1, by omega, by go_num, by rw [HE.out]; exact HO, HB⟩
          case measure => simp [intOf]; omega
    · obtain rfl : k = 16 := by omega
      go_wp2_with fail
      go_ret
      exact ⟨_, rfl, HO.out, HB.out⟩
end Go.Proofs.YtbljphaklciinaaGreat

/- Layer 12 (heap): a heap with a page less, a segment less. -/
namespace Go.Proofs.YtbljphaklciinaaGreat
open Go.RowKit
variable {ro ro' : Nat → Role} {hn : Nat} {w w' : World} {B bm bb sz : Nat} {f g : Nat → Nat} {h : HeapR} {X : Role → Prop}

def noAt (at_ : Nat) (q : PageR) : Bool := !decide (q.at_ = at_)
def delI (pl at_ : Nat) (s : SegR) : SegR := if s.pl = pl then { s with P := s.P.filter (noAt at_) } else s
def delPg (pl at_ : Nat) (S : List SegR) : List SegR := S.map (delI pl at_)
theorem delI_pl (pl at_ : Nat) (s : SegR) : (delI pl at_ s).pl = s.pl := by unfold delI; split <;> rfl
theorem delI_bs (pl at_ : Nat) (s : SegR) : (delI pl at_ s).bs = s.bs := by unfold delI; split <;> rfl
theorem segP_delPg (pl at_ : Nat) (S : List SegR) : segP (delPg pl at_ S) = segP S := by
  unfold segP delPg
  rw [List.map_map]
  refine List.map_congr_left fun s _ => ?_
  show Value.pointer (some ⟨(delI pl at_ s).bs, 0, none⟩) = _
  rw [delI_bs]
theorem noAt_iff {at_ : Nat} {q : PageR} : noAt at_ q = true ↔ q.at_ ≠ at_ := by simp [noAt]

theorem SegOk.cov_one {s : SegR} (hs : SegOk ro w bm sz f s) {p q : PageR} (hp : p ∈ s.P) (hq : q ∈ s.P) {j : Nat} (h1 : covers j p = true) (h2 : covers j q = true) : p = q := by
  rcases List.mem_iff_getElem.1 hp with ⟨i, hi, rfl⟩
  rcases List.mem_iff_getElem.1 hq with ⟨k, hk, rfl⟩
  have hpi := List.pairwise_iff_getElem.1 hs.apart
  rcases Nat.lt_trichotomy i k with h | h | h
  · rw [hpi i k hi hk h j h1] at h2; cases h2
  · subst h; rfl
  · rw [hpi k i hk hi h j h2] at h1; cases h1

theorem SegOk.segT_del {s : SegR} (hs : SegOk ro w bm sz f s) {p : PageR} (hp : p ∈ s.P) : segT (s.P.filter (noAt p.at_)) = setT (segT s.P) p.at_ p.sl false := by
  funext j
  unfold setT
  have ha1 := (hs.pages p hp).a1
  by_cases h : p.at_ ≤ j ∧ j < p.at_ + p.sl
  · rw [if_pos h]
    unfold segT
    rw [Bool.or_eq_false_iff, List.any_eq_false]
    refine ⟨by simp; omega, fun q hq hc => ?_⟩
    rw [List.mem_filter] at hq
    have := hs.cov_one hp hq.1 (j := j) (by simp [covers, h]) hc
    subst this
    exact noAt_iff.1 hq.2 rfl
  · rw [if_neg h]
    unfold segT
    congr 1
    rw [Bool.eq_iff_iff, List.any_eq_true, List.any_eq_true]
    constructor
    · rintro ⟨q, hq, hc⟩; exact ⟨q, (List.mem_filter.1 hq).1, hc⟩
    · rintro ⟨q, hq, hc⟩
      refine ⟨q, List.mem_filter.2 ⟨hq, noAt_iff.2 fun e => ?_⟩, hc⟩
      have := hs.page_at hq hp e
      subst this
      simp only [covers, decide_eq_true_eq] at hc
      exact h hc

theorem find_filter {α : Type} {F P : α → Bool} : ∀ {l : List α}, (∀ q ∈ l, P q = true → F q = true) → (l.filter F).find? P = l.find? P
  | [], _ => rfl
  | x :: r, h => by
    have ih := find_filter (F := F) (P := P) (l := r) (fun q hq => h q (by simp [hq]))
    by_cases hF : F x = true
    · rw [List.filter_cons_of_pos hF, List.find?_cons, List.find?_cons, ih]
    · rw [List.filter_cons_of_neg hF, ih, List.find?_cons]
      have : P x = false := by
        cases hP : P x with
        | false => rfl
        | true => exact absurd (h x (by simp) hP) hF
      rw [this]

theorem SegOk.segO_del {s : SegR} (hs : SegOk ro w bm sz f s) {p : PageR} (hp : p ∈ s.P) : segO (s.P.filter (noAt p.at_)) = setO (segO s.P) p.at_ (p.at_ + p.sl) none := by
  funext j
  unfold setO segO
  by_cases h : p.at_ ≤ j ∧ j < p.at_ + p.sl
  · rw [if_pos h]
    have : (s.P.filter (noAt p.at_)).find? (covers j) = none := by
      rw [List.find?_eq_none]
      intro q hq hc
      rw [List.mem_filter] at hq
      have := hs.cov_one hp hq.1 (j := j) (by simp [covers, h]) hc
      subst this
      exact noAt_iff.1 hq.2 rfl
    rw [this]
    rfl
  · rw [if_neg h]
    congr 1
    refine find_filter fun q hq hc => noAt_iff.2 fun e => ?_
    have := hs.page_at hq hp e
    subst this
    simp only [covers, decide_eq_true_eq] at hc
    exact h hc

/-- A page less. -/
theorem HeapAt.delled (H : HeapAt ro hn w B bm sz f h) {s : SegR} (hs : s ∈ h.S) {p : PageR} (hp : p ∈ s.P)
    (hseg : SegAt w' s.bs s.bk s.bt bm s.pl (setT (segT s.P) p.at_ p.sl false) (setO (segO s.P) p.at_ (p.at_ + p.sl) none) s.x s.t s.a) (hF : Fr w w' (sgS s.bs s.bk s.bt))
    (hq : ∀ c, c < 13 → ¬ (((s.pl * 16 + p.at_ : Nat) : Int) ∈ h.Q1 c ∨ ((s.pl * 16 + p.at_ : Nat) : Int) ∈ h.Q2 c)) :
    HeapAt ro hn w' B bm sz f { h with S := delPg s.pl p.at_ h.S } ∧ RFr ro w w' (sgR s.pl) := by
  have hso := H.segs s hs
  have hR : RFr ro w w' (sgR s.pl) := RFr.of_fr hF (fun k hk => by
    rcases hk with rfl | rfl | rfl
    · exact .inl hso.rs
    · exact .inr (.inl hso.rk)
    · exact .inr (.inr hso.rt))
  refine ⟨H.reseg hR (by rintro (e | e | e) <;> cases e) (by rintro c i (e | e | e) <;> cases e) (by rintro (e | e | e) <;> cases e) (segP_delPg _ _ _) ?_ ?_ ?_, hR⟩
  · intro t ht
    obtain ⟨t0, ht0, rfl⟩ := List.mem_map.1 ht
    have h0 := H.segs t0 ht0
    by_cases e : t0.pl = s.pl
    · have es := H.seg_at ht0 hs e
      subst es
      unfold delI
      rw [if_pos rfl]
      refine ⟨?_, h0.fit, fun q hq => ?_, h0.apart.sublist List.filter_sublist, h0.rs, h0.rk, h0.rt⟩
      · show SegAt w' t0.bs t0.bk t0.bt bm t0.pl (segT (t0.P.filter (noAt p.at_))) (segO (t0.P.filter (noAt p.at_))) t0.x t0.t t0.a
        rw [h0.segT_del hp, h0.segO_del hp]
        exact hseg
      · exact (h0.pages q (List.mem_filter.1 hq).1).fr hR (by rintro (e | e | e) <;> cases e) (by rintro (e | e | e) <;> cases e)
    · unfold delI
      rw [if_neg e]
      obtain ⟨y1, y2, y3⟩ := sgR_ne e
      exact h0.fr hR y1 y2 y3 (fun q _ => ⟨(by rintro (e | e | e) <;> cases e), (by rintro (e | e | e) <;> cases e)⟩)
  · show (delPg s.pl p.at_ h.S).Pairwise _
    unfold delPg
    rw [List.pairwise_map]
    refine H.pls.imp fun {a b} hab => ?_
    rw [delI_pl, delI_pl]
    exact hab
  · intro c hc k hk
    obtain ⟨t, ht, q, hq', e, hr⟩ := H.link c hc k hk
    refine ⟨delI s.pl p.at_ t, List.mem_map.2 ⟨t, ht, rfl⟩, q, ?_, by rw [delI_pl]; exact e, hr⟩
    unfold delI
    split
    · rename_i ep
      refine List.mem_filter.2 ⟨hq', noAt_iff.2 fun ea => ?_⟩
      rw [ep, ea] at e
      subst e
      exact hq c hc hk
    · exact hq'

theorem Hp.delled (H : Hp ro hn w B bm bb sz f h) {s : SegR} (hs : s ∈ h.S) {p : PageR} (hp : p ∈ s.P)
    (hseg : SegAt w' s.bs s.bk s.bt bm s.pl (setT (segT s.P) p.at_ p.sl false) (setO (segO s.P) p.at_ (p.at_ + p.sl) none) s.x s.t s.a) (hF : Fr w w' (sgS s.bs s.bk s.bt))
    (hq : ∀ c, c < 13 → ¬ (((s.pl * 16 + p.at_ : Nat) : Int) ∈ h.Q1 c ∨ ((s.pl * 16 + p.at_ : Nat) : Int) ∈ h.Q2 c)) :
    Hp ro hn w' B bm bb sz f { h with S := delPg s.pl p.at_ h.S } ∧ RFr ro w w' (sgR s.pl) := by
  obtain ⟨hh, hr⟩ := H.hp.delled hs hp hseg hF hq
  exact ⟨⟨hh, H.mem.stays (hr.block bm H.mem.lt_bm (by rw [H.rm]; rintro (h | h | h) <;> cases h)) (hr.block bb H.mem.lt_bb (by rw [H.rb]; rintro (h | h | h) <;> cases h)), H.rm, H.rb, Nat.le_trans H.b hr.size⟩, hr⟩

/-- What drop may turn: the heap's own block, its row of segments. -/
def hpD (hn : Nat) (r : Role) : Prop := r = .heap hn ∨ r = .segs hn

def noPl (pl : Nat) (s : SegR) : Bool := !decide (s.pl = pl)
theorem noPl_iff {pl : Nat} {s : SegR} : noPl pl s = true ↔ s.pl ≠ pl := by simp [noPl]

/-- A heap whose row of segments is another one, of segments that it had. -/
theorem HeapAt.fewer (H : HeapAt ro hn w B bm sz f h) (hf : RFr ro w w' (hpD hn)) {S' : List SegR} {v : Value} (hself : w'.heap[h.bh]? = (w.setCell ⟨h.bh, 29, none⟩ v).heap[h.bh]?) (ho : w'.ownsRow B 60 1 v S'.length (segP S')) (hg : v.ownBlock = h.gs)
    (hsub : S'.Sublist h.S) (link : ∀ c, c < 13 → ∀ k, k ∈ h.Q1 c ∨ k ∈ h.Q2 c → ∃ s ∈ S', ∃ p ∈ s.P, k = ((s.pl * 16 + p.at_ : Nat) : Int) ∧ rowIx p.cls = some c) : HeapAt ro hn w' B bm sz f { h with S := S' } := by
  have cel : ∀ j, j ≠ 29 → w'.cell? ⟨h.bh, j, none⟩ = w.cell? ⟨h.bh, j, none⟩ := fun j hj => (World.cell?_of_block (a := ⟨h.bh, j, none⟩) hself).trans (World.cell?_setCell_other _ _ _ _ (fun e => hj (by injection e with _ e _; exact e.symm)))
  have frz : ∀ j, w'.frozen? ⟨h.bh, j, none⟩ = w.frozen? ⟨h.bh, j, none⟩ := fun j => (World.frozen?_of_block (a := ⟨h.bh, j, none⟩) hself).trans (World.frozen?_setCell _ _ _ _)
  have row : ∀ {o : Nat} {l : List Int} {gg : Option Nat}, RowAt w B h.bh o l gg → o ≠ 29 → (∀ k, gg = some k → ∃ c i, ro k = .row hn c i) → RowAt w' B h.bh o l gg := fun {o l gg} hr hne hro => by
    obtain ⟨u, hu, hou, hgu⟩ := hr.val
    exact ⟨⟨u, (cel o hne).trans hu, own_stays hou (fun k hk => hf.block k (hou.lt k hk).2 (by obtain ⟨c, i, ec⟩ := hro k (hgu.symm.trans hk); rw [ec]; rintro (e | e) <;> cases e)), hgu⟩, (frz o).trans hr.frz, hr.ne⟩
  exact {
    rb := H.rb
    c26 := (cel 26 (by omega)).trans H.c26
    c27 := (cel 27 (by omega)).trans H.c27
    c28 := (cel 28 (by omega)).trans H.c28
    c29 := by
      obtain ⟨u, hu, _⟩ := H.c29
      exact ⟨v, (World.cell?_of_block (a := ⟨h.bh, 29, none⟩) hself).trans (World.cell?_setCell_same _ _ _ hu), ho, hg⟩
    z29 := (frz 29).trans H.z29
    q := fun c hc => ⟨row (H.q c hc).r1 (by omega) (fun k hk => ⟨c, false, H.r1 c hc k hk⟩), row (H.q c hc).r2 (by omega) (fun k hk => ⟨c, true, H.r2 c hc k hk⟩), (H.q c hc).apart⟩
    qo := H.qo
    r1 := H.r1
    r2 := H.r2
    rs := H.rs
    segs := fun s hs => (H.segs s (hsub.subset hs)).fr hf (by rintro (e | e) <;> cases e) (by rintro (e | e) <;> cases e) (by rintro (e | e) <;> cases e) (fun p _ => ⟨(by rintro (e | e) <;> cases e), (by rintro (e | e) <;> cases e)⟩)
    pls := H.pls.sublist hsub
    link := link
    len := Nat.le_trans hsub.length_le H.len }

/-- A segment without pages less. -/
theorem Hp.lost (H : Hp ro hn w B bm bb sz f h) (hf : RFr ro w w' (hpD hn)) {v : Value} {s : SegR} (hs : s ∈ h.S) (hP : s.P = []) (hself : w'.heap[h.bh]? = (w.setCell ⟨h.bh, 29, none⟩ v).heap[h.bh]?)
    (ho : w'.ownsRow B 60 1 v (h.S.filter (noPl s.pl)).length (segP (h.S.filter (noPl s.pl)))) (hg : v.ownBlock = h.gs) : Hp ro hn w' B bm bb sz f { h with S := h.S.filter (noPl s.pl) } := by
  refine ⟨H.hp.fewer hf hself ho hg List.filter_sublist (fun c hc k hk => ?_), H.mem.stays (hf.block bm H.mem.lt_bm (by rw [H.rm]; rintro (h | h) <;> cases h)) (hf.block bb H.mem.lt_bb (by rw [H.rb]; rintro (h | h) <;> cases h)), H.rm, H.rb, Nat.le_trans H.b hf.size⟩
  obtain ⟨t, ht, q, hq, e, hr⟩ := H.hp.link c hc k hk
  refine ⟨t, List.mem_filter.2 ⟨ht, noPl_iff.2 fun ep => ?_⟩, q, hq, e, hr⟩
  have := H.hp.seg_at ht hs ep
  subst this
  rw [hP] at hq
  cases hq
end Go.Proofs.YtbljphaklciinaaGreat

/- slices.IndexFunc, DeleteFunc over segments: which is one, told by its pointer (heap.drop's own function). -/
namespace Go.Proofs.YtbljphaklciinaaGreat
open Go.RowKit

theorem info_seg : (Tryz.prog.info? 135).map (fun i => i.size) = some 22 := by kernel_rfl

theorem eq_seg (w : World) (b1 b : Nat) (h1 : Shp w b1) (h2 : Shp w b) : (binOp .eql 60 (.pointer (some ⟨b1, 0, none⟩)) (.pointer (some ⟨b, 0, none⟩))).run Tryz.prog w = .ok (.bool (decide (b1 = b))) w := by
  cases hi : Tryz.prog.info? 135 with
  | none => have := info_seg; rw [hi] at this; cases this
  | some j =>
    have hj : j.size = 22 := by have := info_seg; rw [hi] at this; injection this
    by_cases e : b1 = b
    · subst e
      rw [decide_eq_true rfl]
      exact run_eql_ptr_same w _ Tryz.underlying60 hi
    · obtain ⟨c1, t1, h1⟩ := h1
      obtain ⟨c2, t2, h2⟩ := h2
      rw [decide_eq_false e]
      exact run_eql_ptr_other w Tryz.underlying60 hi (by omega) (fun h => e (by injection h)) h1 h2

set_option maxRecDepth 100000 in
theorem drop1_any (w : World) (b1 b xc : Nat) (h1 : Shp w b1) (h2 : Shp w b) (hx : w.cell? ⟨xc, 0, none⟩ = some (.pointer (some ⟨b, 0, none⟩))) :
    Calls Tryz.prog 103 #[.pointer (some ⟨b1, 0, none⟩), .pointer (some ⟨xc, 0, none⟩)] w fun e w' => e = .returned (.bool (decide (b1 = b))) ∧ w = w' := by
  have hq := eq_seg w b1 b h1 h2
  clear h1 h2
  go_enter Tryz.func103, Tryz.ntmps103
  go_wp2_with fail
  go_ret
  exact ⟨rfl, rfl⟩

/-- A row of segments. -/
def SegRow (w : World) (g n : Nat) (bf : Nat → Nat) : Prop := ∀ k, k < n → w.cell? ⟨g, k, none⟩ = some (.pointer (some ⟨bf k, 0, none⟩)) ∧ Shp w (bf k)

set_option maxRecDepth 100000 in
set_option maxHeartbeats 2000000 in
theorem indexfunc_seg (w : World) (g n c b xc : Nat) (bf : Nat → Nat) (hr : SegRow w g n bf) (h2 : Shp w b) (hx : w.cell? ⟨xc, 0, none⟩ = some (.pointer (some ⟨b, 0, none⟩))) (i : Nat) (hi : i < n) (hib : bf i = b) (hlo : ∀ j, j < i → bf j ≠ b) (hn : n ≤ 64) :
    Calls Tryz.prog 99 #[.slice (some ⟨g, 0, none⟩) n c, .func (.func 103) #[] #[.pointer (some ⟨xc, 0, none⟩)]] w fun e w' => e = .returned (.int .i64 i) ∧ w = w' := by
  have HR := Lib.hid hr
  have HS := Lib.hid h2
  have HB := Lib.hid hib
  have HL := Lib.hid hlo
  clear hr h2 hib hlo
  go_enter Tryz.func99, Tryz.ntmps99
  go_wp2_with fail
  go_loop [8] (fun ix => ∃ k : Nat, k ≤ i ∧ ix = .int .i64 k) (fun ix => n - (intOf ix).toNat)
  case atStart => exact ⟨0, by omega, rfl⟩
  case round =>
    obtain ⟨k, hk, rfl⟩ := hrel
    have hc := (HR.out k (by omega)).1
    have HD := Lib.hid (drop1_any w (bf k) b xc (HR.out k (by omega)).2 HS.out hx)
    go_wp2_with fail
    (with_reducible refine HD.out.mono ?_)
    rintro e w' ⟨rfl, rfl⟩
    by_cases e : k = i
    · subst e
      rw [decide_eq_true HB.out]
      go_wp2_with fail
      go_ret
      exact ⟨rfl, rfl⟩
    · rw [decide_eq_false (HL.out k (by omega))]
      go_wp2_with fail
      go_round
      case rel => exact ⟨k + 1, by omega, by go_num⟩
      case measure => simp [intOf]; omega

def DelS (w : World) (g cap n i : Nat) (bf : Nat → Nat) (e : Ending) (w' : World) : Prop :=
  e = .returned (.slice (some ⟨g, 0, none⟩) (n - 1) cap) ∧ w.grownBy w' (some g) ∧ ∃ cur' : Array Value, w'.heap[g]? = some (.cells cur' 60 (0, 0)) ∧ cur'.size = cap ∧ ∀ q, q < n - 1 → cur'[q]? = some (.pointer (some ⟨if q < i then bf q else bf (q + 1), 0, none⟩))

theorem set_block {w : World} {g : Nat} {cur : Array Value} {T : TypeId} (h : w.heap[g]? = some (.cells cur T (0, 0))) (q : Nat) (v : Value) : (w.setCell ⟨g, q, none⟩ v).heap[g]? = some (.cells (cur.setIfInBounds q v) T (0, 0)) := by
  simp [World.setCell, Array.getElem?_modify, h]

theorem zero_segp (w : World) : (zeroValue 60).run Tryz.prog w = .ok (.pointer none) w := by kernel_rfl

set_option maxRecDepth 100000 in
set_option maxHeartbeats 4000000 in
theorem deletefunc_seg (w : World) (g cap n i b xc : Nat) (bf : Nat → Nat) (cur : Array Value) (hcur : w.heap[g]? = some (.cells cur 60 (0, 0))) (hsz : cur.size = cap) (hn : n ≤ cap) (h64 : n ≤ 64) (hcap : cap ≤ maxLen)
    (hc : ∀ k, k < n → cur[k]? = some (.pointer (some ⟨bf k, 0, none⟩))) (hsh : ∀ k, k < n → Shp w (bf k) ∧ bf k ≠ g ∧ bf k < w.heap.size) (hxg : xc ≠ g) (hx : w.cell? ⟨xc, 0, none⟩ = some (.pointer (some ⟨b, 0, none⟩)))
    (hi : i < n) (hib : bf i = b) (hinj : ∀ j, j < n → bf j = b → j = i) :
    Calls Tryz.prog 102 #[.slice (some ⟨g, 0, none⟩) n cap, .func (.func 103) #[] #[.pointer (some ⟨xc, 0, none⟩)]] w (DelS w g cap n i bf) := by
  unfold maxLen at hcap
  have hcell : ∀ {w' : World} {c : Array Value}, w'.heap[g]? = some (.cells c 60 (0, 0)) → ∀ j, w'.cell? ⟨g, j, none⟩ = c[j]? := fun h j => cell_of_row _ g j _ _ _ h
  have HX := Lib.hid (indexfunc_seg w g n cap b xc bf (fun k hk => ⟨(hcell hcur k).trans (hc k hk), (hsh k hk).1⟩) (by rw [← hib]; exact (hsh i hi).1) hx i hi hib (fun j hj e => by have := hinj j (by omega) e; omega) h64)
  have HCELL := Lib.hid (fun (w' : World) (c : Array Value) (h : w'.heap[g]? = some (.cells c 60 (0, 0))) (j : Nat) => hcell h j)
  have HSH := Lib.hid hsh
  have HC0 := Lib.hid hc
  have HCUR := Lib.hid hcur
  have HIB := Lib.hid hib
  have HINJ := Lib.hid hinj
  have HXC := Lib.hid hx
  have hxl := World.block_lt_of_cell? w _ hx
  clear hcell hcur hc hsh hib hinj hx
  go_enter Tryz.func102, Tryz.ntmps102
  go_wp2_with fail
  (with_reducible refine HX.out.mono ?_)
  rintro e w' ⟨rfl, rfl⟩
  have hq : ((i : Int) == -1) = false := by simp
  go_wp2_with fail
  go_loopw [5, 6] (fun a b wr => ∃ k : Nat, i ≤ k ∧ k < n ∧ a = .int .i64 k ∧ b = .int .i64 ((k : Int) + 1) ∧ Hid (w.grownBy wr (some g)) ∧ Hid (∃ c : Array Value, wr.heap[g]? = some (.cells c 60 (0, 0)) ∧ c.size = cap ∧ ∀ q, q < n → c[q]? = some (.pointer (some ⟨if i ≤ q ∧ q < k then bf (q + 1) else bf q, 0, none⟩)))) (fun _ b _ => n - (intOf b).toNat)
  case atStart => exact ⟨i, by omega, hi, rfl, rfl, World.grownBy.refl _ _, ⟨cur, HCUR.out, hsz, fun q hq => by rw [if_neg (by omega)]; exact HC0.out q hq⟩⟩
  case round =>
    obtain ⟨k, hk1, hk2, rfl, rfl, HG, HCC⟩ := hrel
    obtain ⟨c, hcb, hcs, hce⟩ := HCC.out
    by_cases hlt : k + 1 < n
    · have v1 : wr.cell? ⟨g, k + 1, none⟩ = some (.pointer (some ⟨bf (k + 1), 0, none⟩)) := by
        rw [HCELL.out wr c hcb, hce (k + 1) hlt, if_neg (by omega)]
      have v0 : wr.cell? ⟨g, k, none⟩ = some (.pointer (some ⟨if i ≤ k ∧ k < k then bf (k + 1) else bf k, 0, none⟩)) := by
        rw [HCELL.out wr c hcb, hce k hk2]
      have f0 : wr.frozen? ⟨g, k, none⟩ = false := by simp [World.frozen?, hcb]
      have HD := Lib.hid (drop1_any wr (bf (k + 1)) b xc ((HSH.out (k + 1) hlt).1.of_block (HG.out.block _ (HSH.out (k + 1) hlt).2.2 (fun e => (HSH.out (k + 1) hlt).2.1 (Option.some.inj e))))
        (by rw [← HIB.out]; exact (HSH.out i hi).1.of_block (HG.out.block _ (HSH.out i hi).2.2 (fun e => (HSH.out i hi).2.1 (Option.some.inj e)))) (HG.out.cell HXC.out (fun e => hxg (Option.some.inj e))))
      rw [decide_eq_false (fun e => by have := HINJ.out (k + 1) hlt e; omega)] at HD
      have HB2 := Lib.hid hcb
      have HS2 := Lib.hid hcs
      have HE2 := Lib.hid hce
      clear hcb hcs hce HCC
      go_wp2_with fail
      (with_reducible refine HD.out.mono ?_)
      rintro e w' ⟨rfl, rfl⟩
      go_wp2_with fail
      go_roundw
      case rel =>
        refine ⟨k + 1, by omega, by omega, by go_num, by go_num, only_set HG.out _, _, set_block HB2.out k _, by simp [HS2.out], fun q hq => ?_⟩
        rw [Array.getElem?_setIfInBounds]
        by_cases e : k = q
        · subst e
          rw [if_pos rfl, if_pos (by rw [HS2.out]; omega), if_pos (by omega)]
        · rw [if_neg e, HE2.out q hq]
          congr 3
          by_cases e1 : i ≤ q ∧ q < k
          · rw [if_pos e1, if_pos (by omega)]
          · rw [if_neg e1, if_neg (by omega)]
      case measure => simp [intOf]; omega
    · obtain rfl : n = k + 1 := by omega
      have hgk : wr.cell? ⟨g, k, none⟩ = some (.pointer (some ⟨if i ≤ k ∧ k < k then bf (k + 1) else bf k, 0, none⟩)) := by rw [HCELL.out wr c hcb, hce k hk2]
      obtain ⟨w2, hw2⟩ : ∃ w2, w2 = wr.setCell ⟨g, k, none⟩ (.pointer none) := ⟨_, rfl⟩
      have hcl : ∀ ty, (Builtin.clear_ #[58] ty #[.slice (some ⟨g, k, none⟩) 1 (cap - k)]).run Tryz.prog wr = .ok (.tuple #[]) w2 := fun ty => by
        rw [hw2]
        exact Lib.run_clear_slice wr _ _ ty _ Tryz.underlying58 zero_segp rfl rfl g k 1 _ (by omega) (fun j hj => by
          obtain rfl : j = 0 := by omega
          rw [Nat.add_zero, hgk]
          rfl) (fun j hj => by simp [World.frozen?, hcb])
      have HF : Hid (DelS w g cap (k + 1) i bf (.returned (.slice (some ⟨g, 0, none⟩) k cap)) w2) := by
        refine ⟨rfl, by rw [hw2]; exact only_set HG.out _, _, by rw [hw2]; exact set_block hcb k _, by simp [hcs], fun q hq => ?_⟩
        have hq2 : q < k := hq
        rw [Array.getElem?_setIfInBounds, if_neg (by omega), hce q (by omega)]
        congr 3
        by_cases e : q < i
        · rw [if_pos e, if_neg (by omega)]
        · rw [if_neg e, if_pos (by omega)]
      clear hcb hcs hce HCC hgk hw2
      go_wp2_with fail
      go_ret
      exact HF.out
end Go.Proofs.YtbljphaklciinaaGreat

/- Layer 12 (heap): drop. -/
namespace Go.Proofs.YtbljphaklciinaaGreat
open Go.RowKit
variable {ro ro' : Nat → Role} {hn : Nat} {w w' : World} {B bm bb sz : Nat} {f g : Nat → Nat} {h : HeapR} {X : Role → Prop}

theorem filter_erase : ∀ {S : List SegR}, S.Pairwise (fun s t => s.pl ≠ t.pl) → ∀ {i : Nat} {s : SegR}, S[i]? = some s → S.filter (noPl s.pl) = S.eraseIdx i
  | [], _, _, _, hi => by simp at hi
  | x :: r, h, 0, s, hi => by
    rw [List.pairwise_cons] at h
    simp at hi
    subst hi
    rw [List.eraseIdx_cons_zero, List.filter_cons_of_neg (by simp [noPl])]
    exact List.filter_eq_self.2 fun t ht => noPl_iff.2 (fun e => h.1 t ht e.symm)
  | x :: r, h, i + 1, s, hi => by
    rw [List.pairwise_cons] at h
    rw [List.getElem?_cons_succ] at hi
    rw [List.eraseIdx_cons_succ, List.filter_cons_of_pos (noPl_iff.2 (h.1 s (List.mem_of_getElem? hi))), filter_erase h.2 hi]

theorem own_of_cells {w : World} {B g cap n : Nat} {E : TypeId} {cur : Array Value} {xs : List Value} (hB : B ≤ g) (hh : w.heap[g]? = some (.cells cur E (0, 0))) (hs : cur.size = cap) (hn : n ≤ cap) (hcap : cap ≤ maxLen) (hl : xs.length = n) (hc : ∀ q, q < n → cur[q]? = xs[q]?) :
    w.ownsRow B E 1 (.slice (some ⟨g, 0, none⟩) n cap) n xs := by
  refine ⟨by omega, .inr ⟨g, cap, cur, rfl, hB, hh, hn, hcap, by omega, ?_⟩⟩
  rw [Nat.mul_one]
  apply List.ext_getElem?
  intro q
  by_cases hq : q < n
  · rw [List.getElem?_take_of_lt hq, Array.getElem?_toList, hc q hq]
  · rw [List.getElem?_eq_none (by simp; omega), List.getElem?_eq_none (by omega)]

def bsOf (S : List SegR) (k : Nat) : Nat := (S.map (·.bs)).getD k 0
theorem bsOf_at {S : List SegR} {k : Nat} {s : SegR} (h : S[k]? = some s) : bsOf S k = s.bs := by simp [bsOf, List.getD_eq_getElem?_getD, h]

/-- What drop leaves. -/
def DropTo12 (ro : Nat → Role) (hn : Nat) (w : World) (B : Nat) (h : HeapR) (S' : List SegR) (w' : World) : Prop :=
  ∃ v, RFr ro w w' (hpD hn) ∧ w'.heap[h.bh]? = (w.setCell ⟨h.bh, 29, none⟩ v).heap[h.bh]? ∧ w'.ownsRow B 60 1 v S'.length (segP S') ∧ v.ownBlock = h.gs

set_option maxRecDepth 100000 in
set_option maxHeartbeats 4000000 in
theorem drop_any (H : HeapAt ro hn w B bm sz f h) {s : SegR} (hs : s ∈ h.S) :
    Calls Tryz.prog 62 #[.pointer (some ⟨h.bh, 0, none⟩), .pointer (some ⟨s.bs, 0, none⟩)] w fun e w' => e = .returned (.tuple #[]) ∧ DropTo12 ro hn w B h (h.S.filter (noPl s.pl)) w' := by
  obtain ⟨i, hi, hie⟩ := List.mem_iff_getElem.1 hs
  have his : h.S[i]? = some s := by rw [List.getElem?_eq_getElem hi, hie]
  have HH := Lib.hid H
  have HIS := Lib.hid his
  have hlen := H.len
  have hbh := H.lt_h
  have z29 := H.z29
  obtain ⟨v, hv, ho, hg⟩ := H.c29
  rcases ho.2 with ⟨_, h0⟩ | ⟨g, cap, cur, rfl, hgB, hh, hn', hcap, hcs, ht⟩
  · omega
  have hgs : h.gs = some g := by rw [← hg]; rfl
  have hrg := H.rs g hgs
  have hgbh : g ≠ h.bh := fun e => by have := H.rb; rw [← e, hrg] at this; cases this
  have hgl : g < w.heap.size := (ho.lt g rfl).2
  have HC : Hid (∀ k, k < h.S.length → cur[k]? = some (.pointer (some ⟨bsOf h.S k, 0, none⟩))) := fun k hk => by
    have e1 : (segP h.S)[k]? = some (.pointer (some ⟨bsOf h.S k, 0, none⟩)) := by
      rw [bsOf_at (List.getElem?_eq_getElem hk)]
      simp [segP, hk]
    rw [← ht, List.getElem?_take_of_lt (by omega), Array.getElem?_toList] at e1
    exact e1
  have HSH : Hid (∀ k, k < h.S.length → Shp w (bsOf h.S k) ∧ bsOf h.S k ≠ g ∧ bsOf h.S k < w.heap.size) := fun k hk => by
    have hk2 := H.segs _ (List.getElem_mem hk)
    rw [bsOf_at (List.getElem?_eq_getElem hk)]
    exact ⟨hk2.seg.shp, (fun e => by have := hk2.rs; rw [e, hrg] at this; cases this), hk2.seg.lt⟩
  have HINJ : Hid (∀ j, j < h.S.length → bsOf h.S j = s.bs → j = i) := fun j hj e => by
    rw [bsOf_at (List.getElem?_eq_getElem hj)] at e
    have h1 := (H.segs _ (List.getElem_mem hj)).rs
    have h2 := (H.segs s hs).rs
    rw [e, h2] at h1
    injection h1 with h1
    have hpi := List.pairwise_iff_getElem.1 H.pls
    rcases Nat.lt_trichotomy j i with h | h | h
    · exact absurd (by rw [hie]; exact h1.symm) (hpi j i hj hi h)
    · exact h
    · exact absurd (by rw [hie]; exact h1) (hpi i j hi hj h)
  have HHH := Lib.hid hh
  have HFE := Lib.hid (filter_erase H.pls his)
  clear H hs hie his ho hg hh ht
  obtain ⟨w0, hw0⟩ : ∃ w0, w0 = w.alloc (.cells #[.pointer (some ⟨s.bs, 0, none⟩)] 60) := ⟨_, rfl⟩
  have B0 : Below w.heap.size w w0 := by rw [hw0]; exact (Below.refl _ _).alloc (Nat.le_refl _) _
  have x0 : w0.cell? ⟨w.heap.size, 0, none⟩ = some (.pointer (some ⟨s.bs, 0, none⟩)) := by
    rw [hw0]
    have := (Obj_.new w #[.pointer (some ⟨s.bs, 0, none⟩)] 60).cell 0 (by simp)
    rw [Nat.zero_add] at this
    exact this
  have HDEL := Lib.hid (deletefunc_seg w0 g cap h.S.length i s.bs w.heap.size (bsOf h.S) cur ((B0.block g hgl).trans HHH.out) (by omega) hn' hlen hcap HC.out
    (fun k hk => ⟨(HSH.out k hk).1.of_block (B0.block _ (HSH.out k hk).2.2), (HSH.out k hk).2.1, Nat.lt_of_lt_of_le (HSH.out k hk).2.2 B0.size⟩) (by omega) x0 hi (bsOf_at HIS.out) HINJ.out)
  have v0 := (B0.cell (p := ⟨h.bh, 29, none⟩) hbh).trans hv
  have HB0 := Lib.hid B0
  have HW0 := Lib.hid hw0
  clear B0 hw0
  go_enter Tryz.func62, Tryz.ntmps62
  go_wp2_with fail
  rw [← HW0.out]
  (with_reducible refine HDEL.out.mono ?_)
  rintro e w2 ⟨rfl, hg2, cur', hb2, hs2, hc2⟩
  have c2 : w2.cell? ⟨h.bh, 29, none⟩ = some (.slice (some ⟨g, 0, none⟩) h.S.length cap) := hg2.cell v0 (fun e => hgbh (Option.some.inj e).symm)
  have f2 : w2.frozen? ⟨h.bh, 29, none⟩ = false := (World.frozen?_of_block (a := ⟨h.bh, 29, none⟩) ((hg2.block h.bh (Nat.lt_of_lt_of_le hbh HB0.out.size) (fun e => hgbh (Option.some.inj e).symm)).trans (HB0.out.block h.bh hbh))).trans z29
  have G2 := Lib.hid hg2
  have HB2 := Lib.hid hb2
  have HS2 := Lib.hid hs2
  have HC2 := Lib.hid hc2
  clear hg2 hb2 hs2 hc2 x0 v0 hv z29 HDEL HSH HINJ
  go_wp2_with fail
  go_end0
  obtain ⟨V, hV⟩ : ∃ V, V = Value.slice (some ⟨g, 0, none⟩) (h.S.length - 1) cap := ⟨_, rfl⟩
  rw [← hV]
  have bk : ∀ k, k < w.heap.size → k ≠ g → w2.heap[k]? = w.heap[k]? := fun k hk h1 => (G2.out.block k (Nat.lt_of_lt_of_le hk HB0.out.size) (fun e => h1 (Option.some.inj e))).trans (HB0.out.block k hk)
  have hsz : w.heap.size ≤ w2.heap.size := Nat.le_trans HB0.out.size G2.out.size
  refine ⟨rfl, V, ⟨G2.out.os.trans HB0.out.os, G2.out.tape.trans HB0.out.tape, G2.out.output.trans HB0.out.output, by simpa [World.setCell] using hsz, fun k hk hx => ?_⟩, ?_, ?_, by rw [hV, hgs]; rfl⟩
  · have h1 : k ≠ h.bh := fun e => hx (by rw [e, HH.out.rb]; exact .inl rfl)
    have h2 : k ≠ g := fun e => hx (by rw [e, hrg]; exact .inr rfl)
    rw [Below.heap_setCell _ _ _ _ h1]
    exact bk k hk h2
  · simp only [World.setCell, Array.getElem?_modify, if_true]
    rw [bk h.bh hbh hgbh.symm]
  · have hl : (h.S.filter (noPl s.pl)).length = h.S.length - 1 := by rw [HFE.out, List.length_eraseIdx_of_lt hi]
    rw [hV, hl]
    refine own_of_cells hgB ((Below.heap_setCell _ _ _ _ hgbh).trans HB2.out) HS2.out (by omega) hcap (by simp [segP, hl]) (fun q hq => ?_)
    rw [HC2.out q hq, HFE.out]
    unfold segP
    rw [List.getElem?_map, List.getElem?_eraseIdx]
    by_cases e : q < i
    · rw [if_pos e, if_pos e, bsOf_at (List.getElem?_eq_getElem (show q < h.S.length by omega)), List.getElem?_eq_getElem (show q < h.S.length by omega)]
      rfl
    · rw [if_neg e, if_neg e, bsOf_at (List.getElem?_eq_getElem (show q + 1 < h.S.length by omega)), List.getElem?_eq_getElem (show q + 1 < h.S.length by omega)]
      rfl
end Go.Proofs.YtbljphaklciinaaGreat

/- Layer 12 (heap): plain: what tidy and Free leave. -/
namespace Go.Proofs.YtbljphaklciinaaGreat
open Go.RowKit
variable {ro ro' : Nat → Role} {hn : Nat} {w w' : World} {B bm bb sz : Nat} {f g : Nat → Nat} {h : HeapR} {X : Role → Prop} {a : ArR}

/-- The arena holds a heap's segments. -/
structure ArSeg (a : ArR) (S : List SegR) : Prop where
  srt : SortedR a.R
  rl : a.R.length ≤ 64
  own : ∀ s ∈ S, s.pl < a.n ∧ a.T s.pl = true ∧ (s.pl, 1) ∈ a.R

theorem removeS_out {R F : List Int} (h : QOnce R F) (x : Int) : ¬ (x ∈ (removeS R F x).2.1 ∨ x ∈ (removeS R F x).2.2) := by
  unfold removeS
  split
  · rename_i hx
    rintro (h1 | h1)
    · exact (h.r.mem_erase_iff.1 h1).1 rfl
    · exact h.apart x hx h1
  · rename_i hx
    split
    · rintro (h1 | h1)
      · exact hx h1
      · exact (h.f.mem_erase_iff.1 h1).1 rfl
    · rename_i hy
      rintro (h1 | h1)
      · exact hx h1
      · exact hy h1
theorem removeS_sub {R F : List Int} {x y : Int} (h : y ∈ (removeS R F x).2.1 ∨ y ∈ (removeS R F x).2.2) : y ∈ R ∨ y ∈ F := by
  unfold removeS at h
  split at h
  · exact h.imp List.mem_of_mem_erase id
  · split at h
    · exact h.imp id List.mem_of_mem_erase
    · exact h
theorem wakeS_mem {R F : List Int} {x y : Int} : y ∈ (wakeS R F x).2.1 ∨ y ∈ (wakeS R F x).2.2 ↔ y ∈ R ∨ y ∈ F := by
  unfold wakeS
  split
  · rename_i hx
    constructor
    · rintro (h | h)
      · rcases List.mem_append.1 h with h | h
        · exact .inl h
        · simp at h; subst h; exact .inr hx
      · exact .inr (List.mem_of_mem_erase h)
    · rintro (h | h)
      · exact .inl (by simp [h])
      · by_cases e : y = x
        · subst e; exact .inl (by simp)
        · exact .inr ((List.mem_erase_of_ne e).2 h)
  · exact Iff.rfl

/-- Where pages begin. -/
def startsD (P : List PageR) (j : Nat) : Option Nat := (P.find? fun q => decide (q.at_ = j)).map (·.bo)

theorem SegOk.begins {s : SegR} (hs : SegOk ro w bm sz f s) : Begins w (segO s.P) (startsD s.P) := fun j hj => by
  cases hO : s.P.find? (covers j) with
  | none =>
    left
    refine ⟨by simp [segO, hO], ?_⟩
    unfold startsD
    rw [List.find?_eq_none] at hO
    rw [Option.map_eq_none_iff, List.find?_eq_none]
    intro q hq e
    have h1 := (hs.pages q hq).s1
    simp only [decide_eq_true_eq] at e
    exact hO q hq (by simp [covers]; omega)
  | some q =>
    right
    have hq := List.mem_of_find?_eq_some hO
    have hc := List.find?_some hO
    refine ⟨q.bo, q.bp, q.cls, q.at_, q.sl, by simp [segO, hO], (hs.pages q hq).own, ?_⟩
    unfold startsD
    by_cases e : q.at_ = j
    · rw [if_pos e]
      cases hF : s.P.find? (fun q => decide (q.at_ = j)) with
      | none =>
        rw [List.find?_eq_none] at hF
        exact absurd (by simpa using e) (hF q hq)
      | some r =>
        have hr := List.mem_of_find?_eq_some hF
        have er := List.find?_some hF
        simp only [decide_eq_true_eq] at er
        rw [hs.page_at hr hq (by omega)]
        rfl
    · rw [if_neg e, Option.map_eq_none_iff, List.find?_eq_none]
      intro r hr er
      simp only [decide_eq_true_eq] at er
      have h1 := (hs.pages r hr).s1
      have := hs.cov_one hq hr hc (by simp [covers]; omega)
      subst this
      exact e er

theorem SegOk.pages_len {s : SegR} (hs : SegOk ro w bm sz f s) : (beginsP (startsD s.P) 16).length = 0 ↔ s.P = [] := by
  unfold beginsP
  rw [List.length_map, List.length_eq_zero_iff]
  constructor
  · intro h
    cases hP : s.P with
    | nil => rfl
    | cons q r =>
      exfalso
      have hq : q ∈ s.P := by rw [hP]; simp
      have h16 := (hs.pages q hq).fit
      have h1 := (hs.pages q hq).s1
      have hD : startsD s.P q.at_ = some q.bo := by
        unfold startsD
        rw [hP]
        simp
      have : q.bo ∈ (List.range 16).filterMap (startsD s.P) := List.mem_filterMap.2 ⟨q.at_, by simp; omega, hD⟩
      rw [h] at this
      cases this
  · intro h
    rw [List.filterMap_eq_nil_iff]
    intro j _
    rw [h]
    rfl

/-- A call that turns the arena's blocks alone. -/
theorem Hp.frame (H : Hp ro hn w B bm bb sz f h) (hf : RFr ro w w' X) (hx : ∀ r, X r → ∃ i, r = .ar i) : Hp ro hn w' B bm bb sz f h := by
  have hn1 : ∀ r : Role, (∀ i, r ≠ .ar i) → ¬ X r := fun r h hr => by obtain ⟨i, e⟩ := hx r hr; exact h i e
  have hh := H.hp.reseg hf (hn1 _ nofun) (fun c i => hn1 _ nofun) (hn1 _ nofun) (S' := h.S) rfl (fun s hs => (H.hp.segs s hs).fr hf (hn1 _ nofun) (hn1 _ nofun) (hn1 _ nofun) (fun p _ => ⟨hn1 _ nofun, hn1 _ nofun⟩)) H.hp.pls H.hp.link
  exact ⟨hh, H.mem.stays (hf.block bm H.mem.lt_bm (by rw [H.rm]; exact hn1 _ nofun)) (hf.block bb H.mem.lt_bb (by rw [H.rb]; exact hn1 _ nofun)), H.rm, H.rb, Nat.le_trans H.b hf.size⟩

theorem Hp.remove1 (H : Hp ro hn w B bm bb sz f h) {i : Nat} (hi : i < 13) (k : Int) :
    Calls Tryz.prog 61 #[.pointer (some ⟨h.bh, 2 * i, none⟩), .slice (some ⟨w.heap.size, 0, none⟩) 1 1] (w.alloc (.cells #[.int .i64 k] 3)) fun e w' =>
      e = .returned (.int .i64 (removeS (h.Q1 i) (h.Q2 i) k).1) ∧ QTo (w.alloc (.cells #[.int .i64 k] 3)) w' B h.bh (2 * i) (h.g1 i) (h.g2 i) (removeS (h.Q1 i) (h.Q2 i) k).2.1 (removeS (h.Q1 i) (h.Q2 i) k).2.2 := by
  have B1 := (Below.refl w.heap.size w).alloc (Nat.le_refl _) (.cells #[.int .i64 k] 3)
  have hq := H.hp.q i hi
  have hl := H.hp.qlen hi
  have hb := H.hp.lt_h
  have := remove_any (w.alloc (.cells #[.int .i64 k] 3)) B h.bh (2 * i) (h.Q1 i) (h.Q2 i) (h.g1 i) (h.g2 i) (hq.below B1 (Nat.le_refl _)) (by have := H.b; simp; omega) (w.heap.size + 1) (some ⟨w.heap.size, 0, none⟩) 1 1 [k] (row_one w k)
    (fun ad _ e => by
      injection e with e
      subst e
      exact ⟨rfl, by simp, by show w.heap.size ≠ h.bh; omega, fun e => by have := (hq.r1.g_lt _ e.symm).2; simp at this, fun e => by have := (hq.r2.g_lt _ e.symm).2; simp at this⟩) (by omega) (by simp)
  rw [eachS_one] at this
  exact this

/-- All that Free may turn. -/
def hpT (hn : Nat) (r : Role) : Prop := hpY hn r ∨ hpZ hn r

/-- How a page ends: its segment stays, or goes to the arena. -/
def EndsAt (a : ArR) (S : List SegR) (s : SegR) (at_ : Nat) (S' : List SegR) (a' : ArR) : Prop :=
  (s.P.filter (noAt at_) ≠ [] ∧ S' = delPg s.pl at_ S ∧ a' = a) ∨
  (s.P.filter (noAt at_) = [] ∧ S' = S.filter (noPl s.pl) ∧ ∃ j, a.R[j]? = some (s.pl, 1) ∧ a' = { a with T := setT a.T s.pl 1 false, R := a.R.eraseIdx j })

theorem delPg_filter (pl at_ : Nat) : ∀ S : List SegR, (delPg pl at_ S).filter (noPl pl) = S.filter (noPl pl)
  | [] => rfl
  | s :: r => by
    have ih := delPg_filter pl at_ r
    show (delI pl at_ s :: delPg pl at_ r).filter (noPl pl) = _
    by_cases e : s.pl = pl
    · rw [List.filter_cons_of_neg (by simp [noPl, delI_pl, e]), List.filter_cons_of_neg (by simp [noPl, e]), ih]
    · rw [List.filter_cons_of_pos (by simp [noPl, delI_pl, e]), List.filter_cons_of_pos (by simp [noPl, e]), ih]
      unfold delI
      rw [if_neg e]

/-- The page that an address lies in. -/
theorem HeapAt.find_in (H : HeapAt ro hn w B bm sz f h) {s : SegR} {p : PageR} (hs : s ∈ h.S) (hp : p ∈ s.P) {x : Nat} (h1 : p.pg.f ≤ x) (h2 : x < p.pg.f + p.pg.n * p.pg.s) : findV h.S x = some (s.bs, p.bo) := by
  have hpo := (H.segs s hs).pages p hp
  have hf := hpo.fit
  have hpf := hpo.pf
  have hps := hpo.ps
  have e1 : x / 16384 = s.pl := by omega
  have e2 : covers (x / 1024 % 16) p = true := by simp [covers]; omega
  have hO : segO s.P (x / 1024 % 16) = some p.bo := by
    unfold segO
    cases hF : s.P.find? (covers (x / 1024 % 16)) with
    | none =>
      rw [List.find?_eq_none] at hF
      exact absurd e2 (hF p hp)
    | some q =>
      rw [(H.segs s hs).cov_one hp (List.mem_of_find?_eq_some hF) e2 (List.find?_some hF)]
      rfl
  have hh : hitAt x s = some (s.bs, p.bo) := by
    unfold hitAt
    rw [e1, if_pos rfl, hO]
    rfl
  refine findSome_at hs hh (fun t ht => ?_)
  by_cases e : t.pl = s.pl
  · rw [H.seg_at ht hs e]; exact .inr hh
  · left
    unfold hitAt
    rw [e1, if_neg e]
end Go.Proofs.YtbljphaklciinaaGreat

/- Layer 12 (heap): tidy where a page ends. -/
namespace Go.Proofs.YtbljphaklciinaaGreat
open Go.RowKit
variable {ro ro' : Nat → Role} {hn : Nat} {w w' : World} {B bm bb sz : Nat} {f g : Nat → Nat} {h : HeapR} {X : Role → Prop} {a : ArR}

theorem below_drew {n : Nat} (h : Below n w w') : Below n w w'.drew := ⟨h.os, h.tape, h.output, h.size, h.block⟩

theorem Hp.remove_to (H : Hp ro hn w B bm bb sz f h) {i : Nat} (hi : i < 13) (x : Int) (ht : QTo (w.alloc (.cells #[.int .i64 x] 3)) w' B h.bh (2 * i) (h.g1 i) (h.g2 i) (removeS (h.Q1 i) (h.Q2 i) x).2.1 (removeS (h.Q1 i) (h.Q2 i) x).2.2) :
    ∃ ro' k1 k2, (∀ k, k < w.heap.size → ro' k = ro k) ∧ Hp ro' hn w' B bm bb sz f (h.queued i (removeS (h.Q1 i) (h.Q2 i) x).2.1 (removeS (h.Q1 i) (h.Q2 i) x).2.2 k1 k2) ∧ RFr ro w w' (hpX hn) := by
  have B5 : Below w.heap.size w (w.alloc (.cells #[.int .i64 x] 3)) := (Below.refl _ _).alloc (Nat.le_refl _) _
  obtain ⟨ro6, k1, k2, e6, H6, r6⟩ := (H.below B5).queued hi ht ((H.hp.qo i hi).remove _) (fun y hy => H.hp.link i hi y (removeS_sub hy))
  exact ⟨ro6, k1, k2, fun k hk => e6 k (Nat.lt_of_lt_of_le hk B5.size), H6, (RFr.of_below B5).over (fun _ _ => rfl) r6⟩

theorem Hp.own1 (H : Hp ro hn w B bm bb sz f h) {s : SegR} {p : PageR} (hs : s ∈ h.S) (hp : p ∈ s.P) : w.cell? ⟨p.bo, 1, none⟩ = some (.int .i64 p.cls) := by
  have := ((H.hp.segs s hs).pages p hp).own.cell 1 (by omega)
  rwa [Nat.zero_add] at this

theorem HeapAt.key_gone (H : HeapAt ro hn w B bm sz f h) {s : SegR} {p : PageR} (hs : s ∈ h.S) (hp : p ∈ s.P) {i : Nat} (hr : rowIx p.cls = some i) {R F : List Int} (hout : ¬ (((s.pl * 16 + p.at_ : Nat) : Int) ∈ R ∨ ((s.pl * 16 + p.at_ : Nat) : Int) ∈ F)) {k1 k2 : Option Nat} :
    ∀ c, c < 13 → ¬ (((s.pl * 16 + p.at_ : Nat) : Int) ∈ (h.queued i R F k1 k2).Q1 c ∨ ((s.pl * 16 + p.at_ : Nat) : Int) ∈ (h.queued i R F k1 k2).Q2 c) := fun c hc hk => by
  by_cases e : c = i
  · subst e
    rw [show (h.queued c R F k1 k2).Q1 c = R from updF_same _ _ _, show (h.queued c R F k1 k2).Q2 c = F from updF_same _ _ _] at hk
    exact hout hk
  · rw [show (h.queued i R F k1 k2).Q1 c = h.Q1 c from updF_ne _ _ e, show (h.queued i R F k1 k2).Q2 c = h.Q2 c from updF_ne _ _ e] at hk
    obtain ⟨t, ht, q, hq, ek, hr'⟩ := H.link c hc _ hk
    have h1 := ((H.segs s hs).pages p hp).fit
    have h2 := ((H.segs t ht).pages q hq).fit
    have h3 := ((H.segs s hs).pages p hp).s1
    have h4 := ((H.segs t ht).pages q hq).s1
    have es := H.seg_at ht hs (by omega)
    subst es
    have ep := (H.segs t ht).page_at hq hp (by omega)
    subst ep
    rw [hr] at hr'
    exact e (Option.some.inj hr').symm

theorem mem_delPg {S : List SegR} {s : SegR} (hs : s ∈ S) (at_ : Nat) : ({ s with P := s.P.filter (noAt at_) } : SegR) ∈ delPg s.pl at_ S := List.mem_map.2 ⟨s, hs, if_pos rfl⟩

/-- What tidy may turn ahead of the arena. -/
def hpU (hn : Nat) (r : Role) : Prop := hpY hn r ∨ r = .segs hn
theorem hpU_ar {hn i : Nat} : ¬ hpU hn (.ar i) := by
  rintro (h | h)
  · exact hpY_ar h
  · cases h

theorem hpD_ar {hn i : Nat} : ¬ hpD hn (.ar i) := by
  rintro (h | h) <;> cases h
theorem ArOk.rfr {ba : Nat} (A : ArOk ro w B ba a) (hf : Fr w w' (arS ba a.bk a.bt a.g)) : RFr ro w w' (fun r => ∃ i, r = .ar i) := RFr.of_fr hf (fun k hk => by
  rcases hk with rfl | rfl | rfl | hk
  · exact ⟨_, A.ra⟩
  · exact ⟨_, A.rk⟩
  · exact ⟨_, A.rt⟩
  · exact ⟨_, A.rg k hk.symm⟩)

/-- What tidy leaves where a page ends. -/
def TidyTo (ro : Nat → Role) (hn : Nat) (w : World) (B bm bb sz : Nat) (f : Nat → Nat) (h : HeapR) (a : ArR) (s : SegR) (p : PageR) (i : Nat) (w' : World) : Prop :=
  ∃ ro' k1 k2 S' a', (∀ k, k < w.heap.size → ro' k = ro k) ∧ EndsAt a h.S s p.at_ S' a' ∧
    Hp ro' hn w' B bm bb sz f (({ h with S := S' } : HeapR).queued i (removeS (h.Q1 i) (h.Q2 i) ((s.pl * 16 + p.at_ : Nat) : Int)).2.1 (removeS (h.Q1 i) (h.Q2 i) ((s.pl * 16 + p.at_ : Nat) : Int)).2.2 k1 k2) ∧ ArOk ro' w' B h.ba a' ∧ RFr ro w w' (hpT hn)

set_option maxRecDepth 100000 in
set_option maxHeartbeats 8000000 in
theorem tidy_end (H : Hp ro hn w B bm bb sz f h) (A : ArOk ro w B h.ba a) (AS : ArSeg a h.S) {s : SegR} {p : PageR} (hs : s ∈ h.S) (hp : p ∈ s.P) (hu : p.pg.used = 0) {i : Nat} (hi : i < 13) (hr : rowIx p.cls = some i) :
    Calls Tryz.prog 48 #[.pointer (some ⟨h.bh, 0, none⟩), .pointer (some ⟨s.bs, 0, none⟩), .pointer (some ⟨p.bo, 0, none⟩)] w fun e w' => e = .returned (.tuple #[]) ∧ TidyTo ro hn w B bm bb sz f h a s p i w' := by
  have HH := Lib.hid H
  have HA := Lib.hid A
  have HAS := Lib.hid AS
  have hso := H.hp.segs s hs
  have hpo := hso.pages p hp
  have hc0 := hpo.c0
  have hc1 := hpo.c1
  have hfit := hpo.fit
  have hs1 := hpo.s1
  have o0 : w.cell? ⟨p.bo, 0, none⟩ = some (.pointer (some ⟨p.bp, 0, none⟩)) := hpo.own.at0 (by omega) rfl
  have o1 : w.cell? ⟨p.bo, 1, none⟩ = some (.int .i64 p.cls) := by have := hpo.own.cell 1 (by omega); rwa [Nat.zero_add] at this
  have HU := Lib.hid (pageUsed_ok hpo.page)
  rw [hu] at HU
  have HR := Lib.hid (row_any w.drew h.bh p.cls (by omega) (by omega))
  rw [hr] at HR
  simp only [Option.map_some] at HR
  have HK := Lib.hid (key_any (hso.seg.stays (w' := w.drew) rfl rfl rfl) (Obj_.of_block hpo.own (w' := w.drew) rfl) (by omega))
  have hbo := Obj_.lt hpo.own (by omega)
  obtain ⟨key, hkey⟩ : ∃ key : Nat, key = s.pl * 16 + p.at_ := ⟨_, rfl⟩
  rw [← hkey] at HK
  have HKY := Lib.hid hkey
  have HS := Lib.hid hs
  have HP := Lib.hid hp
  have HUS := Lib.hid hu
  have HROW := Lib.hid hr
  obtain ⟨j, hj, hje⟩ := List.mem_iff_getElem.1 (AS.own s hs).2.2
  have HJ : Hid (a.R[j]? = some (s.pl, 1)) := by show _ = _; rw [List.getElem?_eq_getElem hj, hje]
  have HSR := Lib.hid AS.srt
  have HSL := AS.rl
  have HSO := Lib.hid (AS.own s hs)
  clear H A AS hso hpo hs hp hu hr hkey hj hje
  have KG3 : Hid (w.drew.cell? ⟨p.bo, 1, none⟩ = some (.int .i64 p.cls)) := o1
  go_enter Tryz.func48, Tryz.ntmps48
  go_wp2_with fail
  refine HU.out.mono ?_
  rintro e w1 ⟨rfl, rfl⟩
  go_wp2_with fail
  go_region_held3 (fun w' => w'.cell? ⟨p.bo, 1, none⟩ = some (.int .i64 p.cls))
    (first | exact KG3.out | exact KG4.out | exact KG5.out | exact KG6.out | go_keep | fail)
    (first
      | (go_at_call 39; refine HR.out.mono ?_; rintro e wx ⟨rfl, rfl⟩)
      | (go_at_call 47
         refine HK.out.mono ?_
         rintro e w4 ⟨rfl, kk, hw4⟩
         have B4 : Hid (Below w1.heap.size w1 w4) := by rw [hw4]; exact below_drewN (below_drew (Below.refl _ _)) kk
         have HP4 := Lib.hid (HH.out.below B4.out)
         have HRM := Lib.hid (HP4.out.remove1 hi (key : Int))
         have KG4 : Hid (w4.cell? ⟨p.bo, 1, none⟩ = some (.int .i64 p.cls)) := by rw [hw4]; exact o1
         have KG5 : Hid ((w4.alloc (.cells #[.int .i64 (key : Int)] 3)).cell? ⟨p.bo, 1, none⟩ = some (.int .i64 p.cls)) := (World.cell?_alloc_lt w4 _ ⟨p.bo, 1, none⟩ (Nat.lt_of_lt_of_le hbo B4.out.size)).trans KG4.out
         clear hw4)
      | (go_at_call 61
         (with_reducible refine HRM.out.mono ?_)
         rintro e w6 ⟨rfl, hq6⟩
         obtain ⟨ro6, k1, k2, e6, H6, r6⟩ := HP4.out.remove_to hi _ hq6
         have HE6 := Lib.hid e6
         have HH6 := Lib.hid H6
         have HR6 := Lib.hid r6
         have KG6 : Hid (w6.cell? ⟨p.bo, 1, none⟩ = some (.int .i64 p.cls)) := H6.own1 HS.out HP.out
         clear hq6 e6 H6 r6)
      | fail)
  obtain ⟨R, hR⟩ : ∃ R, R = (removeS (h.Q1 i) (h.Q2 i) (key : Int)).2.1 := ⟨_, rfl⟩
  obtain ⟨F, hF⟩ : ∃ F, F = (removeS (h.Q1 i) (h.Q2 i) (key : Int)).2.2 := ⟨_, rfl⟩
  rw [← hR, ← hF] at HH6
  have HRF : Hid (R = (removeS (h.Q1 i) (h.Q2 i) (key : Int)).2.1 ∧ F = (removeS (h.Q1 i) (h.Q2 i) (key : Int)).2.2) := ⟨hR, hF⟩
  generalize (removeS (h.Q1 i) (h.Q2 i) (key : Int)).1 = rc at *
  clear HRM KG3 KG4 KG5 KG6 HR HK HU o0 o1 hR hF
  have hso6 := HH6.out.hp.segs s HS.out
  have hpo6 := hso6.pages p HP.out
  have o2 : w6.cell? ⟨p.bo, 2, none⟩ = some (.int .i64 p.at_) := by have := hpo6.own.cell 2 (by omega); rwa [Nat.zero_add] at this
  have hcov : ∀ j, j < p.sl → segT s.P (p.at_ + j) = true := fun j hj => by
    unfold segT
    rw [Bool.or_eq_true, List.any_eq_true]
    exact .inr ⟨p, HP.out, by simp [covers]; omega⟩
  have HDR := Lib.hid (segDrop_ok hso6.seg hs1 hfit (hso6.segO_at HP.out) hpo6.own hpo6.page HUS.out hcov)
  clear hso6 hpo6 hcov
  go_wp2_with fail
  (with_reducible refine HDR.out.mono ?_)
  rintro e w7 ⟨rfl, hs7, hf7⟩
  obtain ⟨D7, r7⟩ := HH6.out.delled HS.out HP.out hs7 hf7 (HH.out.hp.key_gone HS.out HP.out HROW.out (by
    rw [HRF.out.1, HRF.out.2, ← HKY.out]
    exact removeS_out (HH.out.hp.qo i hi) _))
  have HH7 := Lib.hid D7
  have HR7 := Lib.hid r7
  have hso7 := D7.hp.segs _ (mem_delPg HS.out p.at_)
  have HPG : Hid (Calls Tryz.prog 60 #[.pointer (some ⟨s.bs, 0, none⟩)] w7 (NewOwn w7 (beginsP (startsD (s.P.filter (noAt p.at_))) 16))) := segPages_ok hso7.seg hso7.begins
  have HPL := Lib.hid hso7.pages_len
  clear hs7 hf7 D7 r7 hso7 HDR o2
  go_wp2_with fail
  (with_reducible refine HPG.out.mono ?_)
  rintro e w8 ⟨v, rfl, ho8, hb8⟩
  obtain ⟨A8, c8, rfl, _, _, _⟩ := own_at ho8
  have HB8 := Lib.hid hb8
  obtain ⟨nl, hnl⟩ : ∃ nl, nl = (beginsP (startsD (s.P.filter (noAt p.at_))) 16).length := ⟨_, rfl⟩
  have HNL : Hid (nl = 0 ↔ s.P.filter (noAt p.at_) = []) := by show _ ↔ _; rw [hnl]; exact HPL.out
  rw [← hnl]
  clear ho8 hb8 hnl HPG HPL
  -- the frame so far
  have HE : Hid (∀ k, k < w1.heap.size → ro6 k = ro k) := fun k hk => HE6.out k (Nat.lt_of_lt_of_le hk B4.out.size)
  have HF8 : Hid (RFr ro w1 w8 (hpU hn)) := by
    have r4 : RFr ro w1 w4 (hpU hn) := RFr.of_below B4.out
    have r6 : RFr ro w1 w6 (hpU hn) := r4.over (fun _ _ => rfl) (HR6.out.mono fun r h => .inl (.inl h))
    have r7 : RFr ro w1 w7 (hpU hn) := r6.over HE.out (HR7.out.mono fun r h => .inl (.inr ⟨_, h⟩))
    exact r7.over HE.out (RFr.of_below HB8.out)
  have HA8 : Hid (ArOk ro6 w8 B h.ba a) := HA.out.over HF8.out (fun i => hpU_ar) HE.out
  have HH8 := Lib.hid (HH7.out.below HB8.out)
  clear HR6 HR7 HE6 HA HH6 HH7 HB8
  by_cases hP : s.P.filter (noAt p.at_) = []
  · have q0 : nl = 0 := HNL.out.2 hP
    subst q0
    have hs8 := mem_delPg HS.out p.at_
    have HDP : Hid (Calls Tryz.prog 62 #[.pointer (some ⟨h.bh, 0, none⟩), .pointer (some ⟨s.bs, 0, none⟩)] w8 fun e w' => e = .returned (.tuple #[]) ∧ DropTo12 ro6 hn w8 B { h.queued i R F k1 k2 with S := delPg s.pl p.at_ h.S } ((delPg s.pl p.at_ h.S).filter (noPl s.pl)) w') := drop_any (s := { s with P := s.P.filter (noAt p.at_) }) HH8.out.hp hs8
    have HS8 := Lib.hid hs8
    have HPE := Lib.hid hP
    clear hP hs8
    go_wp2_with fail
    (with_reducible refine HDP.out.mono ?_)
    rintro e w9 ⟨rfl, vv, hf9, hself9, ho9, hg9⟩
    have H9 : Hp ro6 hn w9 B bm bb sz f { h.queued i R F k1 k2 with S := h.S.filter (noPl s.pl) } := by
      have := HH8.out.lost (s := { s with P := s.P.filter (noAt p.at_) }) hf9 HS8.out HPE.out hself9 ho9 hg9
      rw [← delPg_filter s.pl p.at_ h.S]
      exact this
    have HH9 := Lib.hid H9
    have B9 : Below w9.heap.size w9 w9.drew := below_drew (Below.refl _ _)
    have A9 : ArOk ro6 w9.drew B h.ba a := (HA8.out.over hf9 (fun i => hpD_ar) (fun _ _ => rfl)).over (RFr.of_below B9 : RFr ro6 w9 w9.drew (fun _ => False)) (fun _ h => h) (fun _ _ => rfl)
    have HA9 := Lib.hid A9
    have hso9 := ((HH8.out.hp.segs _ HS8.out).fr hf9 (by rintro (e | e) <;> cases e) (by rintro (e | e) <;> cases e) (by rintro (e | e) <;> cases e) (fun p _ => ⟨(by rintro (e | e) <;> cases e), (by rintro (e | e) <;> cases e)⟩)).seg
    have HPLC : Hid (Calls Tryz.prog 25 #[.pointer (some ⟨s.bs, 0, none⟩)] w9.drew fun e w' => e = .returned (.int .i64 s.pl) ∧ w' = w9.drew) := segPlace (hso9.stays (w' := w9.drew) rfl rfl rfl)
    have HREL := Lib.hid (release_ok A9.at_ HSR.out HSL j s.pl HJ.out HSO.out.1 HSO.out.2.1)
    have KH9 : Hid (w9.drew.cell? ⟨h.bh, 27, none⟩ = some (.pointer (some ⟨h.ba, 0, none⟩))) := H9.hp.c27
    have c27 : w9.cell? ⟨h.bh, 27, none⟩ = some (.pointer (some ⟨h.ba, 0, none⟩)) := H9.hp.c27
    have HF9 := Lib.hid hf9
    clear hf9 hself9 ho9 hg9 H9 B9 A9 hso9 HDP
    go_wp2_with fail
    go_region_held3 (fun w' => w'.cell? ⟨h.bh, 27, none⟩ = some (.pointer (some ⟨h.ba, 0, none⟩)))
      (first | exact KH9.out | exact KH10.out | go_keep | fail)
      (first
        | (go_at_call 25; refine HPLC.out.mono ?_; rintro e wx ⟨rfl, rfl⟩)
        | (go_at_call 53
           refine HREL.out.mono ?_
           rintro e w10 ⟨rfl, ha10, hf10⟩
           have r10 := HA9.out.rfr hf10
           have KH10 : Hid (w10.cell? ⟨h.bh, 27, none⟩ = some (.pointer (some ⟨h.ba, 0, none⟩))) := (World.cell?_of_block (a := ⟨h.bh, 27, none⟩) (r10.block h.bh HH9.out.hp.lt_h (by rw [show ro6 h.bh = _ from HH9.out.hp.rb]; rintro ⟨_, e⟩; cases e))).trans KH9.out)
        | fail)
    go_end0
    have e6 := HE.out
    have r9 : RFr ro w1 w9 (hpU hn) := HF8.out.over e6 (HF9.out.mono fun r h => by
      rcases h with h | h
      · exact .inl (.inl (.inl h))
      · exact .inr h)
    have h10 := (HH9.out.below (below_drew (Below.refl _ _))).frame r10 (fun _ h => h)
    refine ⟨rfl, ro6, k1, k2, h.S.filter (noPl s.pl), _, e6, .inr ⟨HPE.out, rfl, j, HJ.out, rfl⟩, ?_, ⟨ha10, HA9.out.ra, HA9.out.rk, HA9.out.rt, HA9.out.rg⟩, ?_⟩
    · rw [← HKY.out, ← HRF.out.1, ← HRF.out.2]
      exact h10
    · have rT : RFr ro w1 w9 (hpT hn) := r9.mono fun r h => by
        rcases h with h | h
        · exact .inl h
        · exact .inr (.inr (.inr h))
      exact (rT.over (fun _ _ => rfl) (RFr.of_below (below_drew (Below.refl _ _)))).over e6 (r10.mono fun r h => .inr (.inl h))
  · have q0 : ((nl : Int) == 0) = false := by
      have : nl ≠ 0 := fun e => hP (HNL.out.1 e)
      simp
      omega
    have HPE := Lib.hid hP
    clear hP
    go_wp2_with fail
    go_end0
    refine ⟨rfl, ro6, k1, k2, delPg s.pl p.at_ h.S, a, HE.out, .inl ⟨HPE.out, rfl, rfl⟩, ?_, HA8.out, HF8.out.mono fun r h => ?_⟩
    · rw [← HKY.out, ← HRF.out.1, ← HRF.out.2]
      exact HH8.out
    · rcases h with h | h
      · exact .inl h
      · exact .inr (.inr (.inr h))
end Go.Proofs.YtbljphaklciinaaGreat
