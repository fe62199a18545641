/- Walks of the program's functions, and plain laws on what they compute, text by text (HeapZ, HeapY, Law12, Alive12). No condition. -/
import Derived.Test.YtbljphaklciinaaGreatHb08

/- Layer 12 (heap): Free. -/
namespace Go.Proofs.YtbljphaklciinaaGreat
open Go.RowKit
variable {ro ro' : Nat → Role} {hn : Nat} {w w' : World} {B bm bb sz : Nat} {f g : Nat → Nat} {h : HeapR} {X : Role → Prop} {a : ArR}

set_option maxRecDepth 100000 in
theorem tidy_used {bo bp at_ sl : Nat} {c : Int} {pg : Pg} {v1 v2 : Value} (ho : OwnedAt w bo bp c at_ sl) (hp : PageAt w bp bm pg) (hu : 0 < pg.used) :
    Calls Tryz.prog 48 #[v1, v2, .pointer (some ⟨bo, 0, none⟩)] w fun e w' => e = .returned (.tuple #[]) ∧ w' = w := by
  have o0 : w.cell? ⟨bo, 0, none⟩ = some (.pointer (some ⟨bp, 0, none⟩)) := ho.at0 (by omega) rfl
  have HU := Lib.hid (pageUsed_ok hp)
  clear ho hp
  go_enter Tryz.func48, Tryz.ntmps48
  go_wp2_with fail
  refine HU.out.mono ?_
  rintro e w1 ⟨rfl, rfl⟩
  go_wp2_with fail
  (try simp only [Exit.inBlock, Exit.then])
  refine bodyPost_ret (results_none rfl _ _ _) rfl ?_
  exact ⟨rfl, rfl⟩

/-- A page with one block of its given back. -/
def Pg.gave (p : Pg) (x : Nat) : Pg := { p with loc := x :: p.loc, used := p.used - 1 }

theorem setPP_filter {P : List PageR} {at_ : Nat} {pg : Pg} : (setPP at_ pg P).filter (noAt at_) = P.filter (noAt at_) := by
  induction P with
  | nil => rfl
  | cons q r ih =>
    show ((if q.at_ = at_ then { q with pg := pg } else q) :: setPP at_ pg r).filter (noAt at_) = _
    by_cases e : q.at_ = at_
    · rw [if_pos e, List.filter_cons_of_neg (by simp [noAt, e]), List.filter_cons_of_neg (by simp [noAt, e]), ih]
    · rw [if_neg e, List.filter_cons_of_pos (by simp [noAt, e]), List.filter_cons_of_pos (by simp [noAt, e]), ih]
theorem delPg_setPg {S : List SegR} {pl at_ : Nat} {pg : Pg} : delPg pl at_ (setPg pl at_ pg S) = delPg pl at_ S := by
  unfold delPg setPg
  rw [List.map_map]
  refine List.map_congr_left fun s _ => ?_
  show delI pl at_ (if s.pl = pl then { s with P := setPP at_ pg s.P } else s) = delI pl at_ s
  by_cases e : s.pl = pl
  · rw [if_pos e]
    unfold delI
    rw [if_pos e, if_pos e]
    simp only [setPP_filter]
  · rw [if_neg e]
theorem setPg_filter {pl at_ : Nat} {pg : Pg} : ∀ {S : List SegR}, (setPg pl at_ pg S).filter (noPl pl) = S.filter (noPl pl)
  | [] => rfl
  | s :: r => by
    have ih := setPg_filter (pl := pl) (at_ := at_) (pg := pg) (S := r)
    show ((if s.pl = pl then { s with P := setPP at_ pg s.P } else s) :: setPg pl at_ pg r).filter (noPl pl) = _
    by_cases e : s.pl = pl
    · rw [if_pos e, List.filter_cons_of_neg (by simp [noPl, e]), List.filter_cons_of_neg (by simp [noPl, e]), ih]
    · rw [if_neg e, List.filter_cons_of_pos (by simp [noPl, e]), List.filter_cons_of_pos (by simp [noPl, e]), ih]
theorem EndsAt.of_set {S S' : List SegR} {s : SegR} {at_ : Nat} {pg : Pg} {a' : ArR} (h : EndsAt a (setPg s.pl at_ pg S) { s with P := setPP at_ pg s.P } at_ S' a') : EndsAt a S s at_ S' a' := by
  rcases h with ⟨h1, h2, h3⟩ | ⟨h1, h2, h3⟩
  · exact .inl ⟨by rw [← setPP_filter (pg := pg)]; exact h1, by rw [h2]; exact delPg_setPg, h3⟩
  · exact .inr ⟨by rw [← setPP_filter (pg := pg)]; exact h1, by rw [h2]; exact setPg_filter, h3⟩
theorem ArSeg.set {S : List SegR} {pl at_ : Nat} {pg : Pg} (h : ArSeg a S) : ArSeg a (setPg pl at_ pg S) := ⟨h.srt, h.rl, fun s hs => by
  obtain ⟨t, ht, rfl⟩ := List.mem_map.1 hs
  have := h.own t ht
  split <;> exact this⟩

theorem Hp.wake_to (H : Hp ro hn w B bm bb sz f h) {i : Nat} (hi : i < 13) (x : Int) (ht : QTo w w' B h.bh (2 * i) (h.g1 i) (h.g2 i) (wakeS (h.Q1 i) (h.Q2 i) x).2.1 (wakeS (h.Q1 i) (h.Q2 i) x).2.2) :
    ∃ ro' k1 k2, (∀ k, k < w.heap.size → ro' k = ro k) ∧ Hp ro' hn w' B bm bb sz f (h.queued i (wakeS (h.Q1 i) (h.Q2 i) x).2.1 (wakeS (h.Q1 i) (h.Q2 i) x).2.2 k1 k2) ∧ RFr ro w w' (hpX hn) :=
  H.queued hi ht ((H.hp.qo i hi).wake _) (fun y hy => H.hp.link i hi y (wakeS_mem.1 hy))

theorem HeapR.queued_set (h : HeapR) (S0 S' : List SegR) (i : Nat) (R0 F0 R F : List Int) (k1 k2 q1 q2 : Option Nat) :
    ({ ({ h with S := S0 } : HeapR).queued i R0 F0 k1 k2 with S := S' } : HeapR).queued i R F q1 q2 = ({ h with S := S' } : HeapR).queued i R F q1 q2 := by
  unfold HeapR.queued
  simp only [updF_updF]
theorem hpX_ar {hn i : Nat} : ¬ hpX hn (.ar i) := by
  rintro (h | ⟨_, _, h⟩ | h | ⟨_, _, h⟩) <;> cases h

/-- What Free leaves: the page stays, or ends. -/
def FreeTo (ro : Nat → Role) (hn : Nat) (w : World) (B bm bb sz : Nat) (f : Nat → Nat) (h : HeapR) (a : ArR) (s : SegR) (p : PageR) (i x : Nat) (w' : World) : Prop :=
  ∃ ro' R F k1 k2 S' a', (∀ k, k < w.heap.size → ro' k = ro k) ∧ RFr ro w w' (hpT hn) ∧ ArOk ro' w' B h.ba a' ∧ Hp ro' hn w' B bm bb sz (putW f x (p.pg.loc.headD 0)) (({ h with S := S' } : HeapR).queued i R F k1 k2) ∧
    ((1 < p.pg.used ∧ S' = setPg s.pl p.at_ (p.pg.gave x) h.S ∧ a' = a ∧ R = (wakeS (h.Q1 i) (h.Q2 i) ((s.pl * 16 + p.at_ : Nat) : Int)).2.1 ∧ F = (wakeS (h.Q1 i) (h.Q2 i) ((s.pl * 16 + p.at_ : Nat) : Int)).2.2) ∨
     (p.pg.used = 1 ∧ EndsAt a h.S s p.at_ S' a' ∧
      R = (removeS (wakeS (h.Q1 i) (h.Q2 i) ((s.pl * 16 + p.at_ : Nat) : Int)).2.1 (wakeS (h.Q1 i) (h.Q2 i) ((s.pl * 16 + p.at_ : Nat) : Int)).2.2 ((s.pl * 16 + p.at_ : Nat) : Int)).2.1 ∧
      F = (removeS (wakeS (h.Q1 i) (h.Q2 i) ((s.pl * 16 + p.at_ : Nat) : Int)).2.1 (wakeS (h.Q1 i) (h.Q2 i) ((s.pl * 16 + p.at_ : Nat) : Int)).2.2 ((s.pl * 16 + p.at_ : Nat) : Int)).2.2))

set_option maxRecDepth 100000 in
set_option maxHeartbeats 8000000 in
theorem free_ok (H : Hp ro hn w B bm bb sz f h) (A : ArOk ro w B h.ba a) (AS : ArSeg a h.S) {s : SegR} {p : PageR} (hs : s ∈ h.S) (hp : p ∈ s.P) {i : Nat} (hi : i < 13) (hr : rowIx p.cls = some i) {q x : Nat} (hq : q < p.pg.made) (hx : x = p.pg.f + q * p.pg.s) (hout : x ∉ p.pg.free ++ p.pg.loc) :
    Calls Tryz.prog 16 #[.pointer (some ⟨h.bh, 0, none⟩), .int .u64 x] w fun e w' => e = .returned (.int .i64 0) ∧ FreeTo ro hn w B bm bb sz f h a s p i x w' := by
  have HH := Lib.hid H
  have HA := Lib.hid A
  have HAS := Lib.hid AS
  have hso := H.hp.segs s hs
  have hpo := hso.pages p hp
  have inv := hpo.inv
  have hin := inv.in_ (Nat.lt_of_lt_of_le hq inv.mn)
  have h16 := inv.s16
  have hfit := inv.fit
  have hf0 := inv.f0
  have hs1 := H.mem.s1
  have hmn := inv.mn
  have hn1 := inv.n1
  have hus := inv.us
  rw [List.length_append] at hus
  have hupos : 0 < p.pg.used := inv.used_pos hq (hx ▸ hout)
  have hgv : givV p.pg x = 0 := by rw [hx]; exact givV_ok inv hq
  have hxl : x < 18446744073709551616 := by omega
  have hc0 := hpo.c0
  have hc1 := hpo.c1
  have hpfit := hpo.fit
  have hps1 := hpo.s1
  have HFR := Lib.hid (inv.freed hs1 hq (hx ▸ hout))
  rw [← hx] at HFR
  have HFIND := Lib.hid (find_any H.hp x hxl)
  rw [H.hp.find_in hs hp (by omega) (by omega)] at HFIND
  simp only [Option.map_some, ptrV] at HFIND
  have HS := Lib.hid hs
  have HP := Lib.hid hp
  have HROW := Lib.hid hr
  have HI := Lib.hid inv
  have HGV := Lib.hid hgv
  have hxb : p.pg.f ≤ x ∧ x + 8 ≤ sz ∧ 0 < x := by omega
  have HX := Lib.hid hx
  clear H A AS hso hpo inv hs hp hr hout hgv hx hin
  go_enter Tryz.func16, Tryz.ntmps16
  go_wp2_with fail
  (with_reducible refine HFIND.out.mono ?_)
  rintro e w1 ⟨rfl, hb1⟩
  have HB1 := Lib.hid hb1
  have HH1 := Lib.hid (HH.out.below hb1)
  have hpo1 := (HH1.out.hp.segs s HS.out).pages p HP.out
  have o0 : w1.cell? ⟨p.bo, 0, none⟩ = some (.pointer (some ⟨p.bp, 0, none⟩)) := hpo1.own.at0 (by omega) rfl
  clear hb1 hpo1 HFIND
  go_wp2_with fail
  obtain ⟨w2, hw2⟩ : ∃ w2, w2 = w1.alloc (.cells #[.int .u64 (x : Nat)] 29) := ⟨_, rfl⟩
  have B2 : Below w1.heap.size w1 w2 := by rw [hw2]; exact (Below.refl _ _).alloc (Nat.le_refl _) _
  have g2 : w2.cell? ⟨w1.heap.size, 0, none⟩ = some (.int .u64 (x : Nat)) := by
    rw [hw2]
    have := (Obj_.new w1 #[.int .u64 (x : Nat)] 29).cell 0 (by simp)
    rw [Nat.zero_add] at this
    exact this
  rw [← hw2]
  have HH2 := Lib.hid (HH1.out.below B2)
  have hpo2 := (HH2.out.hp.segs s HS.out).pages p HP.out
  have hneb : p.bp ≠ bb := fun e => by have h1 := hpo2.rp; rw [e, HH2.out.rb] at h1; cases h1
  have hnem : p.bp ≠ bm := fun e => by have h1 := hpo2.rp; rw [e, HH2.out.rm] at h1; cases h1
  have hhd : p.pg.loc.headD 0 < 18446744073709551616 := by
    rcases hl : p.pg.loc with _ | ⟨y, r⟩
    · simp
    · have := HI.out.a8 (a := y) (by rw [hl]; simp)
      simp
      omega
  have HFREE := Lib.hid (pageFree_ok (g := w1.heap.size) (c := 1) hpo2.page HH2.out.mem g2 hneb hnem HI.out.run hxb.2.2 hxb.2.1 HGV.out hupos (by omega) (by omega) hhd)
  have HB2 := Lib.hid B2
  clear hw2 B2 g2 hpo2 hneb hnem hhd o0
  (with_reducible refine HFREE.out.mono ?_)
  rintro e w3 ⟨rfl, hpg3, hm3, hfr3⟩
  obtain ⟨T1, T2⟩ := HH2.out.turned HS.out HP.out hfr3 hpg3 hm3 HFR.out.1 HFR.out.2 rfl rfl rfl
  have HH3 : Hid (Hp ro hn w3 B bm bb sz (putW f x (p.pg.loc.headD 0)) { h with S := setPg s.pl p.at_ (p.pg.gave x) h.S }) := T1
  have HF3 := Lib.hid T2
  have hs3 : ({ s with P := setPP p.at_ (p.pg.gave x) s.P } : SegR) ∈ setPg s.pl p.at_ (p.pg.gave x) h.S := List.mem_map.2 ⟨s, HS.out, if_pos rfl⟩
  have hp3 : ({ p with pg := p.pg.gave x } : PageR) ∈ setPP p.at_ (p.pg.gave x) s.P := List.mem_map.2 ⟨p, HP.out, if_pos rfl⟩
  have HS3 := Lib.hid hs3
  have HP3 := Lib.hid hp3
  have hso3 := HH3.out.hp.segs _ hs3
  have hpo3 := hso3.pages _ hp3
  have o1 : w3.cell? ⟨p.bo, 1, none⟩ = some (.int .i64 p.cls) := HH3.out.own1 (s := { s with P := setPP p.at_ (p.pg.gave x) s.P }) (p := { p with pg := p.pg.gave x }) hs3 hp3
  have hbo : p.bo < w3.heap.size := Obj_.lt hpo3.own (by omega)
  have HR := Lib.hid (row_any w3.drew h.bh p.cls (by omega) (by omega))
  rw [HROW.out] at HR
  simp only [Option.map_some] at HR
  have HK : Hid (Calls Tryz.prog 47 #[.pointer (some ⟨s.bs, 0, none⟩), .pointer (some ⟨p.bo, 0, none⟩)] w3.drew fun e w' => e = .returned (.int .i64 ((s.pl * 16 + p.at_ : Nat) : Int)) ∧ ∃ k, w' = w3.drew.drewN k) := key_any (hso3.seg.stays (w' := w3.drew) rfl rfl rfl) (Obj_.of_block hpo3.own (w' := w3.drew) rfl) (by omega)
  obtain ⟨key, hkey⟩ : ∃ key : Nat, key = s.pl * 16 + p.at_ := ⟨_, rfl⟩
  rw [← hkey] at HK
  have HKY := Lib.hid hkey
  have KG3 : Hid (w3.drew.cell? ⟨p.bo, 1, none⟩ = some (.int .i64 p.cls)) := o1
  have HO1 := Lib.hid o1
  clear hpg3 hm3 hfr3 T1 T2 hs3 hp3 hso3 hpo3 hkey HFREE HFR
  go_wp2_with fail
  go_region_held3 (fun w' => w'.cell? ⟨p.bo, 1, none⟩ = some (.int .i64 p.cls))
    (first | exact KG3.out | exact KG4.out | exact KG5.out | go_keep | fail)
    (first
      | (go_at_call 39; refine HR.out.mono ?_; rintro e wx ⟨rfl, rfl⟩)
      | (go_at_call 47
         refine HK.out.mono ?_
         rintro e w4 ⟨rfl, kk, hw4⟩
         have B4 : Hid (Below w3.heap.size w3 w4) := by rw [hw4]; exact below_drewN (below_drew (Below.refl _ _)) kk
         have HH4 := Lib.hid (HH3.out.below B4.out)
         have HWK : Hid (Calls Tryz.prog 46 #[.pointer (some ⟨h.bh, 2 * i, none⟩), .int .i64 (key : Int)] w4 fun e w' => e = .returned (.int .i64 (wakeS (h.Q1 i) (h.Q2 i) (key : Int)).1) ∧ QTo w4 w' B h.bh (2 * i) (h.g1 i) (h.g2 i) (wakeS (h.Q1 i) (h.Q2 i) (key : Int)).2.1 (wakeS (h.Q1 i) (h.Q2 i) (key : Int)).2.2) := wake_any w4 B h.bh (2 * i) (h.Q1 i) (h.Q2 i) (h.g1 i) (h.g2 i) (key : Int) (HH4.out.hp.q i hi) HH4.out.b (Nat.le_trans (Nat.succ_le_succ (HH4.out.hp.qlen hi)) (by omega))
         have KG4 : Hid (w4.cell? ⟨p.bo, 1, none⟩ = some (.int .i64 p.cls)) := by rw [hw4]; exact HO1.out
         clear hw4)
      | (go_at_call 46
         (with_reducible refine HWK.out.mono ?_)
         rintro e w5 ⟨rfl, hq5⟩
         obtain ⟨ro5, k1, k2, e5, H5, r5⟩ := HH4.out.wake_to hi _ hq5
         have HE5 := Lib.hid e5
         have HH5 := Lib.hid H5
         have HR5 := Lib.hid r5
         have KG5 : Hid (w5.cell? ⟨p.bo, 1, none⟩ = some (.int .i64 p.cls)) := H5.own1 (s := { s with P := setPP p.at_ (p.pg.gave x) s.P }) (p := { p with pg := p.pg.gave x }) HS3.out HP3.out
         clear hq5 e5 H5 r5)
      | fail)
  generalize (wakeS (h.Q1 i) (h.Q2 i) (key : Int)).1 = rc at *
  have e1 : ∀ k, k < w.heap.size → ro5 k = ro k := fun k hk => HE5.out k (by
    have h1 := HB1.out.size
    have h2 := HB2.out.size
    have h3 := HF3.out.size
    have h4 := B4.out.size
    omega)
  have r5 : RFr ro w w5 (hpX hn) := ((((RFr.of_below HB1.out : RFr ro w w1 (hpX hn)).over (fun _ _ => rfl) (RFr.of_below HB2.out)).over (fun _ _ => rfl) HF3.out).over (fun _ _ => rfl) (RFr.of_below B4.out)).over (fun _ _ => rfl) HR5.out
  have HA5 : Hid (ArOk ro5 w5 B h.ba a) := HA.out.over r5 (fun i => hpX_ar) e1
  have HR := Lib.hid r5
  have HE := Lib.hid e1
  by_cases hu1 : p.pg.used = 1
  · have HT : Hid (Calls Tryz.prog 48 #[.pointer (some ⟨h.bh, 0, none⟩), .pointer (some ⟨s.bs, 0, none⟩), .pointer (some ⟨p.bo, 0, none⟩)] w5 fun e w' => e = .returned (.tuple #[]) ∧
      TidyTo ro5 hn w5 B bm bb sz (putW f x (p.pg.loc.headD 0)) (({ h with S := setPg s.pl p.at_ (p.pg.gave x) h.S } : HeapR).queued i (wakeS (h.Q1 i) (h.Q2 i) (key : Int)).2.1 (wakeS (h.Q1 i) (h.Q2 i) (key : Int)).2.2 k1 k2) a { s with P := setPP p.at_ (p.pg.gave x) s.P } { p with pg := p.pg.gave x } i w') :=
      tidy_end (s := { s with P := setPP p.at_ (p.pg.gave x) s.P }) (p := { p with pg := p.pg.gave x }) HH5.out HA5.out HAS.out.set HS3.out HP3.out (by show p.pg.used - 1 = 0; omega) hi HROW.out
    clear e1 r5 HWK HR5 KG3 KG4 KG5 HK o1
    go_wp2_with fail
    (with_reducible refine HT.out.mono ?_)
    rintro e w6 ⟨rfl, ro6, q1, q2, S', a', e6, hend, H6, A6, r6⟩
    have HE6 := Lib.hid e6
    have HND := Lib.hid hend
    have HH6 := Lib.hid H6
    have HA6 := Lib.hid A6
    have HR6 := Lib.hid r6
    clear e6 hend H6 A6 r6 HT
    go_wp2_with fail
    go_ret
    have hk := HKY.out
    subst hk
    have h6 := HH6.out
    rw [show (({ h with S := setPg s.pl p.at_ (p.pg.gave x) h.S } : HeapR).queued i (wakeS (h.Q1 i) (h.Q2 i) ((s.pl * 16 + p.at_ : Nat) : Int)).2.1 (wakeS (h.Q1 i) (h.Q2 i) ((s.pl * 16 + p.at_ : Nat) : Int)).2.2 k1 k2).Q1 i = (wakeS (h.Q1 i) (h.Q2 i) ((s.pl * 16 + p.at_ : Nat) : Int)).2.1 from updF_same _ _ _,
      show (({ h with S := setPg s.pl p.at_ (p.pg.gave x) h.S } : HeapR).queued i (wakeS (h.Q1 i) (h.Q2 i) ((s.pl * 16 + p.at_ : Nat) : Int)).2.1 (wakeS (h.Q1 i) (h.Q2 i) ((s.pl * 16 + p.at_ : Nat) : Int)).2.2 k1 k2).Q2 i = (wakeS (h.Q1 i) (h.Q2 i) ((s.pl * 16 + p.at_ : Nat) : Int)).2.2 from updF_same _ _ _, HeapR.queued_set] at h6
    have hsz := HR.out.size
    exact ⟨rfl, ro6, _, _, q1, q2, S', a', fun k hk => (HE6.out k (by omega)).trans (HE.out k hk), (HR.out.mono fun r h => .inl (.inl h)).over HE.out HR6.out, HA6.out, h6, .inr ⟨hu1, HND.out.of_set, rfl, rfl⟩⟩
  · have hpo5 := (HH5.out.hp.segs _ HS3.out).pages _ HP3.out
    have HT : Hid (Calls Tryz.prog 48 #[.pointer (some ⟨h.bh, 0, none⟩), .pointer (some ⟨s.bs, 0, none⟩), .pointer (some ⟨p.bo, 0, none⟩)] w5 fun e w' => e = .returned (.tuple #[]) ∧ w' = w5) := tidy_used hpo5.own hpo5.page (by show 0 < p.pg.used - 1; omega)
    clear e1 r5 HWK HR5 KG3 KG4 KG5 HK o1 hpo5
    go_wp2_with fail
    (with_reducible refine HT.out.mono ?_)
    rintro e w6 ⟨rfl, rfl⟩
    clear HT
    go_wp2_with fail
    go_ret
    have hk := HKY.out
    subst hk
    exact ⟨rfl, ro5, _, _, k1, k2, _, a, HE.out, HR.out.mono fun r h => .inl (.inl h), HA5.out, HH5.out, .inl ⟨by omega, rfl, rfl, rfl, rfl⟩⟩
end Go.Proofs.YtbljphaklciinaaGreat

/- Layer 12 (heap): Pages (printed by tools/gen_heappages.py). -/
namespace Go.Proofs.YtbljphaklciinaaGreat
open Go.RowKit
variable {ro ro' : Nat → Role} {hn : Nat} {w w' : World} {B bm bb sz : Nat} {f g : Nat → Nat} {h : HeapR} {X : Role → Prop}

theorem info_u64 : (Tryz.prog.info? 29).map (fun i => (i.zero, i.size, i.bytes)) = some (some (.int .u64 0), 1, 8) := by kernel_rfl

/-- Where pages begin, by their numbers. -/
def startsOf (L : List Int) : List Value := L.map fun x => .int .u64 (x * 1024)
def rowOf (h : HeapR) (c : Int) : List Int := match rowIx c with
  | some i => h.Q1 i ++ h.Q2 i
  | none => []
def rowsOf (h : HeapR) (l : List Int) : List Int := l.flatMap (rowOf h)

theorem rowIx_lt {c : Int} {i : Nat} (e : rowIx c = some i) : i < 13 := by
  unfold rowIx at e
  split at e
  · injection e with e; omega
  · split at e
    · injection e with e; omega
    · cases e
theorem HeapAt.rowOf_len (H : HeapAt ro hn w B bm sz f h) (c : Int) : (rowOf h c).length ≤ 1024 := by
  unfold rowOf
  cases e : rowIx c with
  | none => simp
  | some i =>
    have := H.qlen (rowIx_lt e)
    simpa using this
theorem HeapAt.rowOf_nat (H : HeapAt ro hn w B bm sz f h) {c y : Int} (hy : y ∈ rowOf h c) : ∃ q : Nat, q < 1024 ∧ y = (q : Int) := by
  unfold rowOf at hy
  cases e : rowIx c with
  | none => rw [e] at hy; cases hy
  | some i =>
    rw [e] at hy
    obtain ⟨s, hs, p, hp, e1, _⟩ := H.link i (rowIx_lt e) y (List.mem_append.1 hy)
    have h1 := (H.segs s hs).seg.pl64
    have h2 := ((H.segs s hs).pages p hp).fit
    have h3 := ((H.segs s hs).pages p hp).s1
    exact ⟨_, by omega, e1⟩
theorem startsOf_snoc (P R : List Int) {j : Nat} {q : Nat} (h : R[j]? = some (q : Int)) : startsOf (P ++ R.take j) ++ [.int .u64 ((q * 1024 : Nat) : Int)] = startsOf (P ++ R.take (j + 1)) := by
  rw [List.take_add_one, h]
  simp [startsOf]
theorem rowsOf_len {l : List Int} (hb : ∀ c, (rowOf h c).length ≤ 1024) : (rowsOf h l).length ≤ l.length * 1024 := by
  induction l with
  | nil => simp [rowsOf]
  | cons x r ih =>
    have e : rowsOf h (x :: r) = rowOf h x ++ rowsOf h r := rfl
    rw [e, List.length_append, List.length_cons]
    have := hb x
    omega
theorem rowsOf_take {l : List Int} {k : Nat} {x : Int} (hx : l[k]? = some x) : rowsOf h (l.take (k + 1)) = rowsOf h (l.take k) ++ rowOf h x := by
  rw [List.take_add_one, hx]
  simp [rowsOf]

theorem own_lower {N N' c s : Nat} {E : TypeId} {v : Value} {xs : List Value} (h : w.ownsRow N E s v c xs) (hN : N' ≤ N) : w.ownsRow N' E s v c xs := by
  refine ⟨h.1, ?_⟩
  rcases h.2 with hn | ⟨g, cap, cur, rfl, hg, r⟩
  · exact .inl hn
  · exact .inr ⟨g, cap, cur, rfl, Nat.le_trans hN hg, r⟩

/-- A new row of addresses, of the call's own. -/
def NewU64 (w : World) (l : List Value) (e : Ending) (w' : World) : Prop :=
  ∃ v, e = .returned v ∧ w'.ownsRow w.heap.size 29 1 v l.length l ∧ Below w.heap.size w w'

set_option maxRecDepth 100000 in
set_option maxHeartbeats 8000000 in
theorem pages_row (H : HeapAt ro hn w B bm sz f h) {A : Option Addr} {n cc : Nat} {l : List Int} (hl : IntRow w w.heap.size A n l) (hA : ∀ ad, A = some ad → ad.spot = none) (hn1 : n ≤ 1000) (hn0 : 0 < n) (hv : ∀ x ∈ l, ∃ i, i < 13 ∧ rowIx x = some i ∧ -1 ≤ x ∧ x < 12) :
    Calls Tryz.prog 21 #[.pointer (some ⟨h.bh, 0, none⟩), .slice A n cc] w (NewU64 w (startsOf (rowsOf h l))) := by
  have HH := Lib.hid H
  have HL := Lib.hid hl
  have HA := Lib.hid hA
  have HV := Lib.hid hv
  have HBW := Lib.hid (Below.refl w.heap.size w)
  have q0 : ((n : Int) == 0) = false := by simp; omega
  clear H hl hA hv
  go_enter Tryz.func21, Tryz.ntmps21
  go_wp2_with fail
  have HH1 : Hid (HeapAt ro hn w B bm sz f h) := HH.out.below HBW.out
  have hbl1 : ∀ c, (rowOf h c).length ≤ 1024 := fun c => HH1.out.rowOf_len c
  have HBL := Lib.hid hbl1
  have hlen : l.length = n := by have := HL.out.len; omega
  have HO0 : Hid (w.ownsRow w.heap.size 29 1 (.slice none 0 0) (startsOf (rowsOf h (l.take 0))).length (startsOf (rowsOf h (l.take 0)))) := World.ownsRow_nil _ _ _ _
  obtain ⟨i0, hi0, hz0, hz1, hz2⟩ := info_parts info_u64
  have HI0 := Lib.hid (And.intro hi0 (And.intro hz0 (And.intro hz1 hz2)))
  clear hbl1 hi0 hz0 hz1 hz2
  go_loopw [4, 28] (fun o ix wr => ∃ k : Nat, k ≤ n ∧ ix = .int .i64 k ∧ Hid (wr.ownsRow w.heap.size 29 1 o (startsOf (rowsOf h (l.take k))).length (startsOf (rowsOf h (l.take k)))) ∧ Hid (Below w.heap.size w wr)) (fun _ ix _ => n - (intOf ix).toNat)
  case atStart => exact ⟨0, by omega, rfl, HO0, Below.refl _ _⟩
  case round =>
    obtain ⟨k, hk, rfl, HO, HB⟩ := hrel
    have hro : IntRow wr w.heap.size A n l := Reads.below HL.out HB.out
    by_cases hlt : k < n
    · obtain ⟨gg, off, x, hAe, hx, hcx⟩ := hro.at_ HA.out hlt
      obtain ⟨i, hi, hix, hx1, hx2⟩ := HV.out x (List.mem_of_getElem? hx)
      have HRW := Lib.hid (fun w => row_any w h.bh x (by omega) (by omega))
      rw [hix] at HRW
      simp only [Option.map_some] at HRW
      have hre : rowOf h x = h.Q1 i ++ h.Q2 i := by unfold rowOf; rw [hix]
      have HRE := Lib.hid hre
      have HTK := Lib.hid (rowsOf_take (h := h) hx)
      have HHr := Lib.hid (HH1.out.below HB.out)
      have hql := HHr.out.qlen hi
      have HALL := Lib.hid (all_any wr B h.bh (2 * i) _ _ _ _ (HHr.out.q i hi) (by omega) (by omega))
      have hacc : (startsOf (rowsOf h (l.take k))).length ≤ 1024000 := by
        unfold startsOf
        rw [List.length_map]
        have h1 := rowsOf_len (l := l.take k) HBL.out
        have h2 : (l.take k).length ≤ k := by simp; omega
        omega
      clear hro hx hre hix
      cases hAe
      try simp only [Nat.zero_add] at hcx
      go_wp2_with fail
      refine (HRW.out _).mono ?_
      rintro e w2 ⟨rfl, rfl⟩
      clear hcx
      go_wp2_with fail
      (with_reducible refine HALL.out.mono ?_)
      rintro e w3 ⟨v3, rfl, ho3, hb3⟩
      obtain ⟨A3, c3, rfl, hA3, hlc3, hcm3, hrow3, _⟩ := own_ints_shape ho3
      have HAB3 : Hid (∀ ad, A3 = some ad → w2.heap.size ≤ ad.block ∧ ad.block < w3.heap.size) := fun ad e => ho3.lt ad.block (by rw [e]; rfl)
      have HR3 := Lib.hid hrow3
      have HA3 := Lib.hid hA3
      have HB3 : Hid (Below w.heap.size w w3) := HB.out.trans (hb3.mono HB.out.size)
      have HO3 : Hid (w3.ownsRow w.heap.size 29 1 u4 (startsOf (rowsOf h (l.take k) ++ (rowOf h x).take 0)).length (startsOf (rowsOf h (l.take k) ++ (rowOf h x).take 0))) := by
        rw [List.take_zero, List.append_nil]
        exact own_stays HO.out (fun q hq => hb3.block q (HO.out.lt q hq).2)
      have HOA : Hid (∀ ad, A3 = some ad → u4.ownBlock ≠ some ad.block) := fun ad e e2 => by
        have h1 := (HO.out.lt _ e2).2
        have h2 := (HAB3.out ad e).1
        omega
      have hm : (rowOf h x).length = (h.Q1 i ++ h.Q2 i).length := by rw [HRE.out]
      obtain ⟨M, hM⟩ : ∃ M, M = (h.Q1 i ++ h.Q2 i).length := ⟨_, rfl⟩
      have hM1 : M ≤ 1024 := by rw [hM, List.length_append]; exact hql
      rw [← hM] at HR3 hm ⊢
      rw [← HRE.out] at HR3
      clear ho3 hb3 hrow3 hA3 hlc3 hcm3 hM HALL HRW hql
      go_wp2_with fail
      go_loopw [4, 39] (fun o ix wq => ∃ j : Nat, j ≤ M ∧ ix = .int .i64 j ∧ Hid (wq.ownsRow w.heap.size 29 1 o (startsOf (rowsOf h (l.take k) ++ (rowOf h x).take j)).length (startsOf (rowsOf h (l.take k) ++ (rowOf h x).take j))) ∧ Hid (Below w.heap.size w wq) ∧ Hid (∀ ad, A3 = some ad → ad.block < w3.heap.size ∧ wq.heap[ad.block]? = w3.heap[ad.block]? ∧ o.ownBlock ≠ some ad.block) ∧ Hid (w3.heap.size ≤ wq.heap.size)) (fun _ ix _ => M - (intOf ix).toNat)
      case atStart => exact ⟨0, by omega, rfl, HO3, HB3, fun ad e => ⟨(HAB3.out ad e).2, rfl, HOA.out ad e⟩, Nat.le_refl w3.heap.size⟩
      case round =>
        obtain ⟨j, hj, rfl, HOJ, HBJ, HAJ, HZJ⟩ := hrel
        have hroj : IntRow wr w3.heap.size A3 M (rowOf h x) := by
          exact IntRow.below HR3.out (fun ad e => (HAJ.out ad e).2.1)
        by_cases hlj : j < M
        · obtain ⟨gj, offj, y, hAj, hy, hcy⟩ := hroj.at_ HA3.out hlj
          obtain ⟨q, hq, rfl⟩ := HHr.out.rowOf_nat (List.mem_of_getElem? hy)
          have HSN := Lib.hid (startsOf_snoc (rowsOf h (l.take k)) (rowOf h x) hy)
          have HST := Lib.hid (fun w => start_any w q (by omega))
          have hlacc : (startsOf (rowsOf h (l.take k) ++ (rowOf h x).take j)).length ≤ 1025024 := by
            have h0 : (rowsOf h (l.take k)).length ≤ 1024000 := by unfold startsOf at hacc; rwa [List.length_map] at hacc
            have h1 : ((rowOf h x).take j).length ≤ j := by simp; omega
            unfold startsOf
            rw [List.length_map, List.length_append]
            omega
          have hAJ := HAJ.out _ hAj
          clear hroj hy
          subst hAj
          have HAJ2 := Lib.hid hAJ
          obtain ⟨hi0, hz0, hz1, hz2⟩ := HI0.out
          have hzj : w3.heap.size ≤ wr.heap.size := HZJ.out
          have hBW : w.heap.size ≤ wr.heap.size := HBJ.out.size
          clear hAJ
          go_wp2_with (first
            | (at_builtin
               refine wpList_append_any _ rfl (.tmp 43) (.tmp 46) _ rfl w.heap.size 29 i0 _ 1 8 Tryz.underlying33 hi0 hz0 hz1 hz2 rfl (by omega) u4 _ _ rfl
                 (HOJ.out.alloc _) _ _ 1 1 [.int .u64 ((q * 1024 : Nat) : Int)] rfl (Reads.new1 _ _ _) (fun u hu => by simp at hu; subst hu; rfl) (by simp only [maxLen]; omega) (by omega) (by simp; omega) ?_
               intro v5 w5 hown5 hg5 hat5
               have H5 := Lib.hid hown5
               have G5 := Lib.hid hg5
               have T5 := Lib.hid hat5
               clear hown5 hg5 hat5)
            | (go_at_call 42; refine (HST.out _).mono ?_; rintro e w4 ⟨rfl, rfl⟩))
          go_roundw
          case rel =>
            have hg := G5.out
            have ht := T5.out
            have ha := HAJ2.out
            have hz := HZJ.out
            have zA : (w4.alloc (.cells #[.int .u64 ((q : Int) * 1024)] 29)).heap.size = w4.heap.size + 1 := by simp
            refine ⟨j + 1, by omega, by go_num, ?_, ?_, fun ad e => ?_, ?_⟩
            · have ho := H5.out
              have e1 : ((startsOf (rowsOf h (l.take k) ++ (rowOf h x).take j)).length + 1) = (startsOf (rowsOf h (l.take k) ++ (rowOf h x).take (j + 1))).length := by rw [← HSN.out, List.length_append]; rfl
              rw [HSN.out, e1] at ho
              exact ho
            · exact (HBJ.out.alloc HBJ.out.size _).grown hg (by rw [zA]; omega) (fun k e => (HOJ.out.lt k e).1)
            · injection e with e
              subst e
              refine ⟨ha.1, ?_, ?_⟩
              · exact (hg.block gj (by rw [zA]; omega) (fun e => ha.2.2 e.symm)).trans ((Below.heap_alloc w4 _ gj (by omega)).trans ha.2.1)
              · rcases ht with h1 | h1
                · rw [h1]; exact ha.2.2
                · rw [h1, zA]
                  intro e2
                  have := Option.some.inj e2
                  have : w4.heap.size + 1 = gj := this
                  omega
            · have := hg.size
              rw [zA] at this
              show w3.heap.size ≤ w5.heap.size
              omega
          case measure => simp [intOf]; omega
        · obtain rfl : j = M := by omega
          have HT : Hid ((rowOf h x).take j = rowOf h x) := List.take_of_length_le (by omega)
          clear hroj
          go_wp2_with fail
          go_roundw
          case rel =>
            refine ⟨k + 1, by omega, by go_num, ?_, HBJ.out⟩
            have ho := HOJ.out
            rw [HT.out, ← HTK.out] at ho
            exact ho
          case measure => simp [intOf]; omega
    · obtain rfl : k = n := by omega
      have HT : Hid (l.take k = l) := List.take_of_length_le (by omega)
      clear hro
      go_wp2_with fail
      go_ret
      have ho := HO.out
      rw [HT.out] at ho
      exact ⟨_, rfl, own_lower ho HBW.out.size, HBW.out.trans (HB.out.mono HBW.out.size)⟩

def classes : List Int := (List.range 12).map (fun (j : Nat) => (j : Int)) ++ [-1]

set_option maxRecDepth 100000 in
set_option maxHeartbeats 8000000 in
theorem pages_all_ (H : HeapAt ro hn w B bm sz f h) {l : List Int} (hcl : l = classes) :
    Calls Tryz.prog 21 #[.pointer (some ⟨h.bh, 0, none⟩), .slice none 0 0] w (NewU64 w (startsOf (rowsOf h l))) := by
  have HCL := Lib.hid hcl
  clear hcl
  have HH := Lib.hid H
  have HO0 : Hid (w.ownsRow w.heap.size 3 1 (.slice none 0 0) 0 (((List.range 0).map (fun (j : Nat) => (j : Int))).map (.int .i64))) := World.ownsRow_nil _ _ _ _
  obtain ⟨i0, hi0, hz0, hz1, hz2⟩ := info_parts info_int
  have HII := Lib.hid (And.intro hi0 (And.intro hz0 (And.intro hz1 hz2)))
  clear H hi0 hz0 hz1 hz2
  go_enter Tryz.func21, Tryz.ntmps21
  go_wp2_with fail
  go_loopw [1, 15] (fun v ix wr => ∃ k : Nat, k ≤ 12 ∧ ix = .int .i64 k ∧ Hid (wr.ownsRow w.heap.size 3 1 v k (((List.range k).map (fun (j : Nat) => (j : Int))).map (.int .i64))) ∧ Hid (Below w.heap.size w wr)) (fun _ ix _ => 12 - (intOf ix).toNat)
  case atStart => exact ⟨0, by omega, rfl, HO0, Below.refl _ _⟩
  case round =>
    obtain ⟨k, hk, rfl, HO, HB⟩ := hrel
    by_cases hlt : k < 12
    · obtain ⟨hi0, hz0, hz1, hz2⟩ := HII.out
      have hBW : w.heap.size ≤ wr.heap.size := HB.out.size
      go_wp2_with (first
        | (at_builtin
           refine wpList_append_any _ rfl (.tmp 18) (.tmp 20) _ rfl w.heap.size 3 i0 _ 1 8 Tryz.underlying100 hi0 hz0 hz1 hz2 rfl (by omega) u1 _ _ rfl
             (HO.out.alloc _) _ _ 1 1 [.int .i64 k] rfl (Reads.new1 _ _ _) (fun u hu => by simp at hu; subst hu; rfl) (by simp only [maxLen]; omega) (by omega) (by simp; omega) ?_
           intro v5 w5 hown5 hg5 hat5
           have H5 := Lib.hid hown5
           have G5 := Lib.hid hg5
           have T5 := Lib.hid hat5
           clear hown5 hg5 hat5))
      go_roundw
      case rel =>
        have hg := G5.out
        have zA : (wr.alloc (.cells #[.int .i64 (k : Int)] 3)).heap.size = wr.heap.size + 1 := by simp
        refine ⟨k + 1, by omega, by go_num, ?_, ?_⟩
        · have ho := H5.out
          have e1 : ((List.range k).map (fun (j : Nat) => (j : Int))).map (Value.int .i64) ++ [.int .i64 (k : Int)] = ((List.range (k + 1)).map (fun (j : Nat) => (j : Int))).map (Value.int .i64) := by rw [List.range_succ]; simp
          rw [e1] at ho
          exact ho
        · exact (HB.out.alloc HB.out.size _).grown hg (by rw [zA]; omega) (fun k e => (HO.out.lt k e).1)
      case measure => simp [intOf]; omega
    · obtain rfl : k = 12 := by omega
      obtain ⟨hi0, hz0, hz1, hz2⟩ := HII.out
      have hBW : w.heap.size ≤ wr.heap.size := HB.out.size
      go_wp2_with (first
        | (at_builtin
           refine wpList_append_any _ rfl (.tmp 23) (.tmp 24) _ rfl w.heap.size 3 i0 _ 1 8 Tryz.underlying100 hi0 hz0 hz1 hz2 rfl (by omega) u1 _ _ rfl
             (HO.out.alloc _) _ _ 1 1 [.int .i64 (-1)] rfl (Reads.new1 _ _ _) (fun u hu => by simp at hu; subst hu; rfl) (by simp only [maxLen]; omega) (by omega) (by simp; omega) ?_
           intro v1 w1 hown5 hg5 hat5
           obtain ⟨gb, cap4, rfl, hgb4, hgl4⟩ := hown5.form (by omega)
           obtain ⟨n, hn13⟩ : ∃ n : Nat, n = 12 + 1 := ⟨_, rfl⟩
           have hn1 : n ≤ 1000 := by omega
           have hn0 : 0 < n := by omega
           have HN13 := Lib.hid hn13
           rw [← hn13]
           clear hn13
           have H5 := Lib.hid hown5
           have G5 := Lib.hid hg5
           have T5 := Lib.hid hat5
           clear hown5 hg5 hat5))
      have G1 := G5.out
      have HBW : Hid (Below w.heap.size w w1) := (HB.out.alloc HB.out.size _).grown G1 (by simp; omega) (fun k e => (HO.out.lt k e).1)
      have HL : Hid (IntRow w1 w1.heap.size (some ⟨gb, 0, none⟩) n l) := by
        have hr := H5.out
        rw [HCL.out, HN13.out]
        have e : classes.map (Value.int .i64) = ((List.range 12).map (fun (j : Nat) => (j : Int))).map (Value.int .i64) ++ [.int .i64 (-1)] := by simp [classes]
        show Reads _ _ _ _ _ (classes.map (Value.int .i64))
        rw [e]
        exact Reads.of_own hr
      have HA : Hid (∀ ad, some (⟨gb, 0, none⟩ : Addr) = some ad → ad.spot = none) := fun ad e => by injection e with e; subst e; rfl
      have HV : Hid (∀ x ∈ l, ∃ i, i < 13 ∧ rowIx x = some i ∧ -1 ≤ x ∧ x < 12) := fun x hx => by
        rw [HCL.out] at hx
        unfold classes at hx
        rcases List.mem_append.1 hx with hx | hx
        · obtain ⟨j, hj, rfl⟩ := List.mem_map.1 hx
          have hj2 := List.mem_range.1 hj
          exact ⟨j, by omega, by unfold rowIx; rw [if_neg (by omega), if_pos (by omega)]; simp, by omega, by omega⟩
        · simp only [List.mem_singleton] at hx
          subst hx
          exact ⟨12, by omega, rfl, by omega, by omega⟩
      clear H5 G5 T5 HO HO0 HB G1 hBW hi0 hz0 hz1 hz2 HII
      go_wp2_with fail
      have HH1 : Hid (HeapAt ro hn w1 B bm sz f h) := HH.out.below HBW.out
      have hbl1 : ∀ c, (rowOf h c).length ≤ 1024 := fun c => HH1.out.rowOf_len c
      have HBL := Lib.hid hbl1
      have hlen : l.length = n := by have := HL.out.len; omega
      have HO0 : Hid (w1.ownsRow w1.heap.size 29 1 (.slice none 0 0) (startsOf (rowsOf h (l.take 0))).length (startsOf (rowsOf h (l.take 0)))) := World.ownsRow_nil _ _ _ _
      obtain ⟨i0, hi0, hz0, hz1, hz2⟩ := info_parts info_u64
      have HI0 := Lib.hid (And.intro hi0 (And.intro hz0 (And.intro hz1 hz2)))
      clear hbl1 hi0 hz0 hz1 hz2
      go_loopw [4, 28] (fun o ix wr => ∃ k : Nat, k ≤ n ∧ ix = .int .i64 k ∧ Hid (wr.ownsRow w1.heap.size 29 1 o (startsOf (rowsOf h (l.take k))).length (startsOf (rowsOf h (l.take k)))) ∧ Hid (Below w1.heap.size w1 wr)) (fun _ ix _ => n - (intOf ix).toNat)
      case atStart => exact ⟨0, by omega, rfl, HO0, Below.refl _ _⟩
      case round =>
        obtain ⟨k, hk, rfl, HO, HB⟩ := hrel
        have hro : IntRow wr w1.heap.size _ n l := Reads.below HL.out HB.out
        by_cases hlt : k < n
        · obtain ⟨gg, off, x, hAe, hx, hcx⟩ := hro.at_ HA.out hlt
          obtain ⟨i, hi, hix, hx1, hx2⟩ := HV.out x (List.mem_of_getElem? hx)
          have HRW := Lib.hid (fun w => row_any w h.bh x (by omega) (by omega))
          rw [hix] at HRW
          simp only [Option.map_some] at HRW
          have hre : rowOf h x = h.Q1 i ++ h.Q2 i := by unfold rowOf; rw [hix]
          have HRE := Lib.hid hre
          have HTK := Lib.hid (rowsOf_take (h := h) hx)
          have HHr := Lib.hid (HH1.out.below HB.out)
          have hql := HHr.out.qlen hi
          have HALL := Lib.hid (all_any wr B h.bh (2 * i) _ _ _ _ (HHr.out.q i hi) (by omega) (by omega))
          have hacc : (startsOf (rowsOf h (l.take k))).length ≤ 1024000 := by
            unfold startsOf
            rw [List.length_map]
            have h1 := rowsOf_len (l := l.take k) HBL.out
            have h2 : (l.take k).length ≤ k := by simp; omega
            omega
          clear hro hx hre hix
          cases hAe
          try simp only [Nat.zero_add] at hcx
          go_wp2_with fail
          refine (HRW.out _).mono ?_
          rintro e w2 ⟨rfl, rfl⟩
          clear hcx
          go_wp2_with fail
          (with_reducible refine HALL.out.mono ?_)
          rintro e w3 ⟨v3, rfl, ho3, hb3⟩
          obtain ⟨A3, c3, rfl, hA3, hlc3, hcm3, hrow3, _⟩ := own_ints_shape ho3
          have HAB3 : Hid (∀ ad, A3 = some ad → w2.heap.size ≤ ad.block ∧ ad.block < w3.heap.size) := fun ad e => ho3.lt ad.block (by rw [e]; rfl)
          have HR3 := Lib.hid hrow3
          have HA3 := Lib.hid hA3
          have HB3 : Hid (Below w1.heap.size w1 w3) := HB.out.trans (hb3.mono HB.out.size)
          have HO3 : Hid (w3.ownsRow w1.heap.size 29 1 u4 (startsOf (rowsOf h (l.take k) ++ (rowOf h x).take 0)).length (startsOf (rowsOf h (l.take k) ++ (rowOf h x).take 0))) := by
            rw [List.take_zero, List.append_nil]
            exact own_stays HO.out (fun q hq => hb3.block q (HO.out.lt q hq).2)
          have HOA : Hid (∀ ad, A3 = some ad → u4.ownBlock ≠ some ad.block) := fun ad e e2 => by
            have h1 := (HO.out.lt _ e2).2
            have h2 := (HAB3.out ad e).1
            omega
          have hm : (rowOf h x).length = (h.Q1 i ++ h.Q2 i).length := by rw [HRE.out]
          obtain ⟨M, hM⟩ : ∃ M, M = (h.Q1 i ++ h.Q2 i).length := ⟨_, rfl⟩
          have hM1 : M ≤ 1024 := by rw [hM, List.length_append]; exact hql
          rw [← hM] at HR3 hm ⊢
          rw [← HRE.out] at HR3
          clear ho3 hb3 hrow3 hA3 hlc3 hcm3 hM HALL HRW hql
          go_wp2_with fail
          go_loopw [4, 39] (fun o ix wq => ∃ j : Nat, j ≤ M ∧ ix = .int .i64 j ∧ Hid (wq.ownsRow w1.heap.size 29 1 o (startsOf (rowsOf h (l.take k) ++ (rowOf h x).take j)).length (startsOf (rowsOf h (l.take k) ++ (rowOf h x).take j))) ∧ Hid (Below w1.heap.size w1 wq) ∧ Hid (∀ ad, A3 = some ad → ad.block < w3.heap.size ∧ wq.heap[ad.block]? = w3.heap[ad.block]? ∧ o.ownBlock ≠ some ad.block) ∧ Hid (w3.heap.size ≤ wq.heap.size)) (fun _ ix _ => M - (intOf ix).toNat)
          case atStart => exact ⟨0, by omega, rfl, HO3, HB3, fun ad e => ⟨(HAB3.out ad e).2, rfl, HOA.out ad e⟩, Nat.le_refl w3.heap.size⟩
          case round =>
            obtain ⟨j, hj, rfl, HOJ, HBJ, HAJ, HZJ⟩ := hrel
            have hroj : IntRow wr w3.heap.size A3 M (rowOf h x) := by
              exact IntRow.below HR3.out (fun ad e => (HAJ.out ad e).2.1)
            by_cases hlj : j < M
            · obtain ⟨gj, offj, y, hAj, hy, hcy⟩ := hroj.at_ HA3.out hlj
              obtain ⟨q, hq, rfl⟩ := HHr.out.rowOf_nat (List.mem_of_getElem? hy)
              have HSN := Lib.hid (startsOf_snoc (rowsOf h (l.take k)) (rowOf h x) hy)
              have HST := Lib.hid (fun w => start_any w q (by omega))
              have hlacc : (startsOf (rowsOf h (l.take k) ++ (rowOf h x).take j)).length ≤ 1025024 := by
                have h0 : (rowsOf h (l.take k)).length ≤ 1024000 := by unfold startsOf at hacc; rwa [List.length_map] at hacc
                have h1 : ((rowOf h x).take j).length ≤ j := by simp; omega
                unfold startsOf
                rw [List.length_map, List.length_append]
                omega
              have hAJ := HAJ.out _ hAj
              clear hroj hy
              subst hAj
              have HAJ2 := Lib.hid hAJ
              obtain ⟨hi0, hz0, hz1, hz2⟩ := HI0.out
              have hzj : w3.heap.size ≤ wr.heap.size := HZJ.out
              have hBW : w1.heap.size ≤ wr.heap.size := HBJ.out.size
              clear hAJ
              go_wp2_with (first
                | (at_builtin
                   refine wpList_append_any _ rfl (.tmp 43) (.tmp 46) _ rfl w1.heap.size 29 i0 _ 1 8 Tryz.underlying33 hi0 hz0 hz1 hz2 rfl (by omega) u4 _ _ rfl
                     (HOJ.out.alloc _) _ _ 1 1 [.int .u64 ((q * 1024 : Nat) : Int)] rfl (Reads.new1 _ _ _) (fun u hu => by simp at hu; subst hu; rfl) (by simp only [maxLen]; omega) (by omega) (by simp; omega) ?_
                   intro v5 w5 hown5 hg5 hat5
                   have H5 := Lib.hid hown5
                   have G5 := Lib.hid hg5
                   have T5 := Lib.hid hat5
                   clear hown5 hg5 hat5)
                | (go_at_call 42; refine (HST.out _).mono ?_; rintro e w4 ⟨rfl, rfl⟩))
              go_roundw
              case rel =>
                have hg := G5.out
                have ht := T5.out
                have ha := HAJ2.out
                have hz := HZJ.out
                have zA : (w4.alloc (.cells #[.int .u64 ((q : Int) * 1024)] 29)).heap.size = w4.heap.size + 1 := by simp
                refine ⟨j + 1, by omega, by go_num, ?_, ?_, fun ad e => ?_, ?_⟩
                · have ho := H5.out
                  have e1 : ((startsOf (rowsOf h (l.take k) ++ (rowOf h x).take j)).length + 1) = (startsOf (rowsOf h (l.take k) ++ (rowOf h x).take (j + 1))).length := by rw [← HSN.out, List.length_append]; rfl
                  rw [HSN.out, e1] at ho
                  exact ho
                · exact (HBJ.out.alloc HBJ.out.size _).grown hg (by rw [zA]; omega) (fun k e => (HOJ.out.lt k e).1)
                · injection e with e
                  subst e
                  refine ⟨ha.1, ?_, ?_⟩
                  · exact (hg.block gj (by rw [zA]; omega) (fun e => ha.2.2 e.symm)).trans ((Below.heap_alloc w4 _ gj (by omega)).trans ha.2.1)
                  · rcases ht with h1 | h1
                    · rw [h1]; exact ha.2.2
                    · rw [h1, zA]
                      intro e2
                      have := Option.some.inj e2
                      have : w4.heap.size + 1 = gj := this
                      omega
                · have := hg.size
                  rw [zA] at this
                  show w3.heap.size ≤ w5.heap.size
                  omega
              case measure => simp [intOf]; omega
            · obtain rfl : j = M := by omega
              have HT : Hid ((rowOf h x).take j = rowOf h x) := List.take_of_length_le (by omega)
              clear hroj
              go_wp2_with fail
              go_roundw
              case rel =>
                refine ⟨k + 1, by omega, by go_num, ?_, HBJ.out⟩
                have ho := HOJ.out
                rw [HT.out, ← HTK.out] at ho
                exact ho
              case measure => simp [intOf]; omega
        · obtain rfl : k = n := by omega
          have HT : Hid (l.take k = l) := List.take_of_length_le (by omega)
          clear hro
          go_wp2_with fail
          go_ret
          have ho := HO.out
          rw [HT.out] at ho
          exact ⟨_, rfl, own_lower ho HBW.out.size, HBW.out.trans (HB.out.mono HBW.out.size)⟩

theorem pages_all (H : HeapAt ro hn w B bm sz f h) :
    Calls Tryz.prog 21 #[.pointer (some ⟨h.bh, 0, none⟩), .slice none 0 0] w (NewU64 w (startsOf (rowsOf h classes))) := pages_all_ H rfl
end Go.Proofs.YtbljphaklciinaaGreat

/- Layer 12's laws: a heap of the law's own; made. -/
namespace Go.Proofs.YtbljphaklciinaaGreat
open Go.RowKit
variable {ro ro' : Nat → Role} {hn : Nat} {w w' : World} {B bm bb sz : Nat} {f g : Nat → Nat} {h : HeapR} {X : Role → Prop} {a : ArR}

/-- A law's own heap, its arena, its memory: all made behind the law's beginning, the world W. -/
structure LawH (W : World) (ro : Nat → Role) (hn : Nat) (w : World) (bm bb sz : Nat) (f : Nat → Nat) (h : HeapR) (a : ArR) : Prop where
  hp : Hp ro hn w W.heap.size bm bb sz f h
  ar : ArOk ro w W.heap.size h.ba a
  below : Below W.heap.size W w
  old : ∀ k, k < W.heap.size → ro k = .other

theorem RFr.law {W : World} (hb : Below W.heap.size W w) (hold : ∀ k, k < W.heap.size → ro k = .other) (hf : RFr ro w w' X) (hx : ¬ X .other) (e : ∀ k, k < w.heap.size → ro' k = ro k) : Below W.heap.size W w' ∧ ∀ k, k < W.heap.size → ro' k = .other :=
  ⟨⟨hf.os.trans hb.os, hf.tape.trans hb.tape, hf.output.trans hb.output, Nat.le_trans hb.size hf.size, fun k hk => (hf.block k (Nat.lt_of_lt_of_le hk hb.size) (by rw [hold k hk]; exact hx)).trans (hb.block k hk)⟩,
    fun k hk => (e k (Nat.lt_of_lt_of_le hk hb.size)).trans (hold k hk)⟩

theorem LawH.step {W : World} {h' : HeapR} {a' : ArR} (L : LawH W ro hn w bm bb sz f h a) (H : Hp ro' hn w' W.heap.size bm bb sz g h') (A : ArOk ro' w' W.heap.size h'.ba a') (hf : RFr ro w w' X) (hx : ¬ X .other) (e : ∀ k, k < w.heap.size → ro' k = ro k) : LawH W ro' hn w' bm bb sz g h' a' :=
  have := RFr.law L.below L.old hf hx e
  ⟨H, A, this.1, this.2⟩
theorem LawH.on {W : World} (L : LawH W ro hn w bm bb sz f h a) (hb : Below w.heap.size w w') : LawH W ro hn w' bm bb sz f h a :=
  L.step (L.hp.below hb) (L.ar.over (RFr.of_below hb : RFr ro w w' (fun _ => False)) (fun _ h => h) (fun _ _ => rfl)) (RFr.of_below hb : RFr ro w w' (fun _ => False)) (fun h => h) (fun _ _ => rfl)

def newAr (bk bt n : Nat) : ArR := ⟨bk, bt, n, n, fun _ => false, [], none, 0⟩

theorem ArenaAt.lower {B' ba bk bt n lim rf : Nat} {T : Nat → Bool} (A : ArenaAt w B ba bk bt n lim T [] none rf) : ArenaAt w B' ba bk bt n lim T [] none rf := by
  obtain ⟨v, hv, ho, hg⟩ := A.c3
  refine { A with c3 := ⟨v, hv, ?_, hg⟩ }
  rcases ho.2 with ⟨rfl, _⟩ | ⟨g, cap, cur, rfl, _⟩
  · exact World.ownsRow_nil _ _ _ _
  · cases hg

/-- Roles of what made makes. -/
def roNew (bm bb ba bk bt bh : Nat) (k : Nat) : Role := if k = bm then .mem else if k = bb then .bytes else if k = ba then .ar 0 else if k = bk then .ar 1 else if k = bt then .ar 2 else if k = bh then .heap 0 else .other

set_option maxRecDepth 100000 in
set_option maxHeartbeats 4000000 in
theorem made_ok {W : World} (hW : Below W.heap.size W w) (n : Nat) (h0 : 0 < n) (hn : n ≤ 16) :
    Calls Tryz.prog 9 #[.int .i64 n, .int .i64 n] w fun e w' => ∃ ro bm bb bh ba bk bt, e = .returned (.tuple #[.pointer (some ⟨bh, 0, none⟩), .pointer (some ⟨bm, 0, none⟩), .pointer (some ⟨ba, 0, none⟩), .bool true]) ∧
      LawH W ro 0 w' bm bb (n * 16384) (fun _ => 0) (newHR bh ba 7) (newAr bk bt n) ∧ Below w.heap.size w w' := by
  have HM : Hid (Calls Tryz.prog 34 #[.int .u64 ((n : Int) * 16384)] w fun e w' => ∃ bm bb, e = .returned (.tuple #[.pointer (some ⟨bm, 0, none⟩), .int .i64 0]) ∧ MemAt w' bm bb (n * 16384) (fun _ => 0) ∧ w.heap.size ≤ bm ∧ w.heap.size ≤ bb ∧ Below w.heap.size w w') := by
    have := memNew_ok w (n * 16384) (by omega) (by omega) (by omega)
    rw [Int.natCast_mul] at this
    exact this
  have HW := Lib.hid hW
  clear hW
  go_enter Tryz.func9, Tryz.ntmps9
  go_wp2_with fail
  refine HM.out.mono ?_
  rintro e w1 ⟨bm, bb, rfl, hm, hbm, hbb, hb1⟩
  have H1 := Lib.hid hm
  have HB1 := Lib.hid hb1
  have HA := Lib.hid (arenaNew_ok w1 n n h0 (by omega) (Nat.le_refl _))
  clear hm hb1 HM
  go_wp2_with fail
  refine HA.out.mono ?_
  rintro e w2 ⟨ba, bk, bt, rfl, ha, hba, hbk, hbt, hb2⟩
  have H2 := Lib.hid ha
  have HB2 := Lib.hid hb2
  have HN := Lib.hid (heapNew_ok w2 bm ba 7 (by decide))
  clear ha hb2 HA
  go_wp2_with fail
  refine HN.out.mono ?_
  rintro e w3 ⟨rfl, hw3⟩
  have HW3 := Lib.hid hw3
  clear hw3 HN
  go_wp2_with fail
  refine bodyPost_ret (v := .tuple #[.pointer (some ⟨w2.heap.size, 0, none⟩), .pointer (some ⟨bm, 0, none⟩), .pointer (some ⟨ba, 0, none⟩), .bool true]) (by simp only [results, Tryz.results9]; go_simp) rfl ?_
  have M := H1.out
  have A := H2.out
  have B1 := HB1.out
  have B2 := HB2.out
  have B3 : Below w2.heap.size w2 w3 := by rw [HW3.out]; exact (Below.refl _ _).alloc (Nat.le_refl _) _
  have l1 := M.lt_bm
  have l2 := M.lt_bb
  have l3 := M.ne
  have l4 := A.lt_a
  have l5 := A.marks.lt_b
  have l6 := A.marks.lt_bt
  have l7 := A.nk
  have l8 := A.nt
  have l9 := A.marks.ne
  have r1 : roNew bm bb ba bk bt w2.heap.size bm = .mem := if_pos rfl
  have r2 : roNew bm bb ba bk bt w2.heap.size bb = .bytes := by unfold roNew; rw [if_neg (by omega), if_pos rfl]
  have r3 : roNew bm bb ba bk bt w2.heap.size ba = .ar 0 := by unfold roNew; rw [if_neg (by omega), if_neg (by omega), if_pos rfl]
  have r4 : roNew bm bb ba bk bt w2.heap.size bk = .ar 1 := by unfold roNew; rw [if_neg (by omega), if_neg (by omega), if_neg (by omega), if_pos rfl]
  have r5 : roNew bm bb ba bk bt w2.heap.size bt = .ar 2 := by unfold roNew; rw [if_neg (by omega), if_neg (by omega), if_neg (by omega), if_neg (by omega), if_pos rfl]
  have r6 : roNew bm bb ba bk bt w2.heap.size w2.heap.size = .heap 0 := by unfold roNew; rw [if_neg (by omega), if_neg (by omega), if_neg (by omega), if_neg (by omega), if_neg (by omega), if_pos rfl]
  have BW : Below W.heap.size W w1 := HW.out.trans (B1.mono HW.out.size)
  have zw := HW.out.size
  have z1 := B1.size
  have z2 := B2.size
  have BW3 : Below W.heap.size W w3 := (BW.trans (B2.mono BW.size)).trans (B3.mono (by omega))
  have M3 : MemAt w3 bm bb (n * 16384) (fun _ => 0) := (M.below B2 (Nat.le_refl _)).below B3 (Nat.le_refl _)
  have A3 : ArOk (roNew bm bb ba bk bt w2.heap.size) w3 W.heap.size ba (newAr bk bt n) :=
    (show ArOk (roNew bm bb ba bk bt w2.heap.size) w2 W.heap.size ba (newAr bk bt n) from ⟨A.lower, r3, r4, r5, nofun⟩).over (RFr.of_below B3 : RFr (roNew bm bb ba bk bt w2.heap.size) w2 w3 (fun _ => False)) (fun _ h => h) (fun _ _ => rfl)
  have HP3 : HeapAt (roNew bm bb ba bk bt w2.heap.size) 0 w3 W.heap.size bm (n * 16384) (fun _ => 0) (newHR w2.heap.size ba 7) := by
    rw [HW3.out]
    exact HeapAt.new w2 r6
  refine ⟨_, bm, bb, _, ba, bk, bt, rfl, ⟨⟨HP3, M3, r1, r2, BW3.size⟩, A3, BW3, fun k hk => ?_⟩, (B1.trans (B2.mono z1)).trans (B3.mono (by omega))⟩
  unfold roNew
  rw [if_neg (by omega), if_neg (by omega), if_neg (by omega), if_neg (by omega), if_neg (by omega), if_neg (by omega)]
end Go.Proofs.YtbljphaklciinaaGreat

/- Layer 12's laws: alive. -/
namespace Go.Proofs.YtbljphaklciinaaGreat
open Go.RowKit
variable {ro ro' : Nat → Role} {hn : Nat} {w w' : World} {B bm bb sz : Nat} {f g : Nat → Nat} {h : HeapR} {X : Role → Prop} {a : ArR}

set_option maxRecDepth 100000 in
theorem growNil (w : World) : Calls Tryz.prog 19 #[.pointer none] w fun e w' => e = .returned (.int .i64 1) ∧ w' = w := by
  go_enter Tryz.func19, Tryz.ntmps19
  go_wp2_with fail
  go_ret
  exact ⟨rfl, rfl⟩

theorem hpZ_other {hn : Nat} : ¬ hpZ hn .other := by rintro (⟨_, e⟩ | e | e) <;> cases e
theorem hpX_other {hn : Nat} : ¬ hpX hn .other := by rintro (h | ⟨_, _, h⟩ | h | ⟨_, _, h⟩) <;> cases h
theorem hpY_other {hn : Nat} : ¬ hpY hn .other := by
  rintro (h | ⟨_, h | h | h⟩)
  · exact hpX_other h
  · cases h
  · cases h
  · cases h
theorem hpT_other {hn : Nat} : ¬ hpT hn .other := by
  rintro (h | h)
  · exact hpY_other h
  · exact hpZ_other h

/-- The heap behind the first Grow. -/
def oneH (bh ba : Nat) (s : SegR) (gs : Option Nat) : HeapR := { newHR bh ba 7 with S := [s], gs := gs }
def oneA (bk bt n : Nat) (g : Option Nat) : ArR := { newAr bk bt n with T := setT (fun _ => false) 0 1 true, R := [(0, 1)], g := g }

theorem grow_first {W : World} {ba bk bt n bh : Nat} (L : LawH W ro 0 w bm bb (n * 16384) f (newHR bh ba 7) (newAr bk bt n)) (h0 : 0 < n) (hn : n ≤ 16) :
    Calls Tryz.prog 19 #[.pointer (some ⟨bh, 0, none⟩)] w fun e w' => e = .returned (.int .i64 0) ∧ ∃ ro' s gs g', s.pl = 0 ∧ s.P = [] ∧ s.x = 7 ∧ LawH W ro' 0 w' bm bb (n * 16384) f (oneH bh ba s gs) (oneA bk bt n g') := by
  have hfr : freeN (fun _ => false) n = n := by simp [freeN]
  refine (grow_room L.hp L.ar (fun i j x y _ h => by simp [newAr] at h) (by simp [newAr]) (at_ := 0) ⟨by show 0 + 1 ≤ n; omega, fun _ _ => rfl⟩ (fun j hj => by omega) (fun j x h => by simp [newAr] at h) (by show n - freeN (fun _ => false) n + 1 ≤ n; rw [hfr]; omega) nofun (by omega)).mono ?_
  rintro e w' ⟨rfl, ro', s, gs, g', he, h1, h2, h3, H, A, r⟩
  exact ⟨rfl, ro', s, gs, g', h1, h2, h3.1, L.step H A r hpZ_other he⟩

/-- The heap with its first page. -/
def twoH (bh ba : Nat) (s : SegR) (p : PageR) (gs k1 k2 : Option Nat) : HeapR := ({ newHR bh ba 7 with S := [{ s with P := [p] }], gs := gs } : HeapR).queued 0 [1] [] k1 k2

structure First (p : PageR) : Prop where
  at_ : p.at_ = 1
  cls : p.cls = 0
  used : p.pg.used = 1
  blk : ∃ q, q < p.pg.made ∧ 1024 = p.pg.f + q * p.pg.s
  out : 1024 ∉ p.pg.free ++ p.pg.loc

theorem fresh_first {W : World} {ba bk bt n bh : Nat} {s : SegR} {gs g' : Option Nat} (L : LawH W ro 0 w bm bb (n * 16384) f (oneH bh ba s gs) (oneA bk bt n g')) (hpl : s.pl = 0) (hP : s.P = []) :
    Calls Tryz.prog 20 #[.pointer (some ⟨bh, 0, none⟩), .agg #[.int .i64 0, .int .i64 1, .int .i64 0, .int .u64 16]] w fun e w' => e = .returned (.tuple #[.int .u64 1024, .int .i64 0]) ∧
      ∃ ro' f' p k1 k2, First p ∧ LawH W ro' 0 w' bm bb (n * 16384) f' (twoH bh ba s p gs k1 k2) (oneA bk bt n g') := by
  refine (fresh_any L.hp 0 1 0 16 (by omega) (by omega) (by omega) (by omega)).mono ?_
  have hfree : FreeRow (segT s.P) 16 1 1 := ⟨by omega, fun j hj => by rw [hP]; simp [segT]⟩
  rintro e w' (⟨ec, _, _, _, hno⟩ | ⟨i, sl, S, N, hp, t, ht, at_, bo, bp, ro', f', pg', k1, k2, hf, hlow, rfl, he, hg, H, r⟩)
  · exact absurd hfree (hno 0 1 16 64 (.inr ⟨rfl, by omega, rfl, rfl, rfl⟩) s (by simp [oneH]) 1)
  · obtain rfl : s = t := by
      have : t = s := by simpa [oneH] using ht
      exact this.symm
    rcases hp with ⟨e, _⟩ | ⟨e, hi, e1, e2, e3⟩
    · omega
    · obtain rfl : i = 0 := by omega
      obtain rfl : sl = 1 := e1
      obtain rfl : S = 16 := e2
      obtain rfl : N = 64 := e3
      have hat : at_ = 1 := by
        rcases Nat.lt_trichotomy at_ 1 with h | h | h
        · obtain rfl : at_ = 0 := by omega
          have := hf.2 0 (by omega)
          simp [segT] at this
        · exact h
        · exact absurd hfree (hlow 1 h)
      subst hat
      rw [hpl] at hg ⊢
      refine ⟨rfl, ro', f', ⟨bo, bp, 0, 1, 1, pg'⟩, k1, k2, ⟨rfl, rfl, hg.used, by obtain ⟨q, h1, h2⟩ := hg.blk; exact ⟨q, h1, by show 1024 = pg'.f + q * pg'.s; rw [hg.sf, hg.ss]; exact h2⟩, hg.out⟩, L.step ?_ (L.ar.over r (fun i => hpY_ar) he) r hpY_other he⟩
      have e : addPg s.pl ⟨bo, bp, 0, 1, 1, pg'⟩ [s] = [{ s with P := [⟨bo, bp, 0, 1, 1, pg'⟩] }] := by
        simp [addPg, addI, hP]
      have hh : Hp ro' 0 w' W.heap.size bm bb (n * 16384) f' (({ oneH bh ba s gs with S := addPg s.pl ⟨bo, bp, 0, 1, 1, pg'⟩ [s] } : HeapR).queued 0 ([] ++ [((s.pl * 16 + 1 : Nat) : Int)]) [] k1 k2) := H
      rw [e, show ((s.pl * 16 + 1 : Nat) : Int) = 1 from by rw [hpl]; rfl] at hh
      exact hh

theorem free_first {W : World} {ba bk bt n bh : Nat} {s : SegR} {p : PageR} {gs g' k1 k2 : Option Nat} (L : LawH W ro 0 w bm bb (n * 16384) f (twoH bh ba s p gs k1 k2) (oneA bk bt n g')) (hpl : s.pl = 0) (hp : First p) (h0 : 0 < n) :
    Calls Tryz.prog 16 #[.pointer (some ⟨bh, 0, none⟩), .int .u64 1024] w fun e w' => e = .returned (.int .i64 0) ∧
      ∃ ro' f' h' a', LawH W ro' 0 w' bm bb (n * 16384) f' h' a' ∧ h'.S = [] ∧ h'.bh = bh ∧ h'.ba = ba ∧ a'.bk = bk ∧ a'.bt = bt ∧ a'.n = n ∧ a'.lim = n ∧ a'.rf = 0 ∧ freeN a'.T n = n := by
  obtain ⟨q, hq, hx⟩ := hp.blk
  have AS : ArSeg (oneA bk bt n g') (twoH bh ba s p gs k1 k2).S := ⟨fun i j x y hij hi hj => by
    have h1 := (List.getElem?_eq_some_iff.1 hi).1
    have h2 := (List.getElem?_eq_some_iff.1 hj).1
    simp [oneA] at h1 h2
    omega, by simp [oneA], fun t ht => by
    obtain rfl : t = { s with P := [p] } := by simpa [twoH, HeapR.queued] using ht
    exact ⟨by show s.pl < n; omega, by simp [oneA, setT, hpl], by simp [oneA, hpl]⟩⟩
  refine (free_ok (s := { s with P := [p] }) (p := p) (i := 0) (q := q) (x := 1024) L.hp L.ar AS (by simp [twoH, HeapR.queued]) (by simp) (by omega) (by rw [hp.cls]; rfl) hq hx hp.out).mono ?_
  rintro e w' ⟨rfl, ro', R, F, q1, q2, S', a', he, r, A, H, hk⟩
  refine ⟨rfl, ro', _, _, a', L.step H A r hpT_other he, ?_⟩
  rcases hk with ⟨h1, _⟩ | ⟨_, hk, _⟩
  · rw [hp.used] at h1; omega
  · rcases hk with ⟨h1, _⟩ | ⟨_, rfl, j, hj, rfl⟩
    · exact absurd (by simp [noAt]) h1
    · refine ⟨?_, rfl, rfl, rfl, rfl, rfl, rfl, rfl, ?_⟩
      · show (twoH bh ba s p gs k1 k2).S.filter (noPl s.pl) = []
        simp [twoH, HeapR.queued, noPl]
      · show freeN (setT (setT (fun _ => false) 0 1 true) s.pl 1 false) n = n
        rw [hpl]
        have : setT (setT (fun _ => false) 0 1 true) 0 1 false = fun _ => false := by
          funext j
          unfold setT
          split <;> rfl
        rw [this]
        simp [freeN]

set_option maxRecDepth 100000 in
set_option maxHeartbeats 4000000 in
theorem alive12 (w : World) : Calls Tryz.prog 8 #[] w fun e w' => e = .returned (.bool true) ∧ Below w.heap.size w w' := by
  have HM : Hid (Calls Tryz.prog 9 #[.int .i64 4, .int .i64 4] w fun e w' => ∃ ro bm bb bh ba bk bt, e = .returned (.tuple #[.pointer (some ⟨bh, 0, none⟩), .pointer (some ⟨bm, 0, none⟩), .pointer (some ⟨ba, 0, none⟩), .bool true]) ∧
      LawH w ro 0 w' bm bb (4 * 16384) (fun _ => 0) (newHR bh ba 7) (newAr bk bt 4) ∧ Below w.heap.size w w') := made_ok (Below.refl _ w) 4 (by omega) (by omega)
  go_enter Tryz.func8, Tryz.ntmps8
  go_wp2_with fail
  refine HM.out.mono ?_
  rintro e w1 ⟨ro, bm, bb, bh, ba, bk, bt, rfl, L, _⟩
  have HG := Lib.hid (grow_first L (by omega) (by omega))
  clear L HM
  go_wp2_with fail
  refine HG.out.mono ?_
  rintro e w2 ⟨rfl, ro2, s, gs, g2, hpl, hP, hx, L2⟩
  have HL2 := Lib.hid L2
  have HFOR := Lib.hid (for_small w2 1 (by omega))
  have HS := Lib.hid (And.intro hpl hP)
  clear hpl hP hx L2 HG
  go_wp2_with fail
  refine HFOR.out.mono ?_
  rintro e w3 ⟨c, hc, _, hmin, rfl, hb3⟩
  obtain rfl : c = 0 := by
    rcases Nat.eq_zero_or_pos c with e | e
    · exact e
    · have := hmin 0 e
      simp [szs] at this
  rw [show planV 0 = .agg #[.int .i64 0, .int .i64 1, .int .i64 0, .int .u64 16] from rfl]
  have HL3 := Lib.hid (HL2.out.on hb3)
  clear hb3 hmin HFOR HL2
  go_wp2_with fail
  refine (fresh_first (HL3.out.on ((Below.refl _ _).alloc (Nat.le_refl _) _)) HS.out.1 HS.out.2).mono ?_
  rintro e w5 ⟨rfl, ro5, f5, p, k1, k2, hp, L5⟩
  have HL5 := Lib.hid L5
  have HPF := Lib.hid hp
  have HSG : Hid (Calls Tryz.prog 23 #[.pointer (some ⟨bh, 0, none⟩)] w5 (NewSegs w5 (segP [{ s with P := [p] }]))) := segs_any L5.hp.hp
  clear HL3 L5 hp
  go_wp2_with fail
  refine HSG.out.mono ?_
  rintro e w6 ⟨v, rfl, ho6, hb6⟩
  obtain ⟨A6, c6, rfl, _, _, _⟩ := own_at ho6
  have e6 : (segP [({ s with P := [p] } : SegR)]).length = 1 := rfl
  rw [e6]
  have HL6 := Lib.hid (HL5.out.on hb6)
  have HFR := Lib.hid (free_first HL6.out HS.out.1 HPF.out (by omega))
  clear ho6 hb6 e6 HSG HL5
  go_wp2_with fail
  refine HFR.out.mono ?_
  rintro e w7 ⟨rfl, ro7, f7, h7, a7, L7, hS, hbh, hba, hbk, hbt, han, hal, har, hfn⟩
  have HL7 := Lib.hid L7
  have HSG : Hid (Calls Tryz.prog 23 #[.pointer (some ⟨bh, 0, none⟩)] w7 (NewSegs w7 [])) := by
    have := segs_any L7.hp.hp
    rw [hS, hbh] at this
    exact this
  have HC := Lib.hid (And.intro hba (And.intro han hfn))
  clear L7 hS hbh hba hbk hbt han hal har hfn HFR HL6
  go_wp2_with fail
  refine HSG.out.mono ?_
  rintro e w8 ⟨v, rfl, ho8, hb8⟩
  obtain ⟨A8, c8, rfl, _, _, _⟩ := own_at ho8
  have HL8 := Lib.hid (HL7.out.on hb8)
  have HGV : Hid (Calls Tryz.prog 14 #[.pointer (some ⟨ba, 0, none⟩)] w8 fun e w' => e = .returned (.int .i64 0) ∧ ∃ k, w' = w8.drewN k) := by
    have := arenaGiven HL8.out.ar.at_
    rw [HC.out.1, HC.out.2.1] at this
    have e := HC.out.2.2
    rw [e] at this
    refine Lib.hid ?_
    simpa using this
  rw [show ([] : List Value).length = 0 from rfl]
  clear ho8 hb8 HSG HL7
  go_wp2_with fail
  refine HGV.out.mono ?_
  rintro e w9 ⟨rfl, kk, hw9⟩
  have HB9 : Hid (Below w.heap.size w w9) := by rw [hw9]; exact below_drewN HL8.out.below kk
  clear hw9 HGV HL8
  go_wp2_with fail
  refine (growNil _).mono ?_
  rintro e w10 ⟨rfl, rfl⟩
  go_wp2_with fail
  go_ret
  exact ⟨rfl, HB9.out⟩
end Go.Proofs.YtbljphaklciinaaGreat
