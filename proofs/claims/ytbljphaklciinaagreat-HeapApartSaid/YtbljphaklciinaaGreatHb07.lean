/- Walks of the program's functions, and plain laws on what they compute, text by text (HeapF, HeapM, HeapA, HeapQ, HeapK, HeapL, HeapN, HeapG, HeapO). No condition. -/
import Derived.Test.YtbljphaklciinaaGreatHb06

/- Layer 12 (heap): find. -/
namespace Go.Proofs.YtbljphaklciinaaGreat
open Go.RowKit
variable {ro : Nat → Role} {hn : Nat} {w w' : World} {B bm bb sz : Nat} {f g : Nat → Nat} {h : HeapR} {X : Role → Prop}

theorem own_at {E : TypeId} {v : Value} {n : Nat} {xs : List Value} (ho : w.ownsRow B E 1 v n xs) : ∃ A c, v = .slice A n c ∧ n ≤ c ∧ c ≤ maxLen ∧ ∀ k u, xs[k]? = some u → ∃ g, A = some ⟨g, 0, none⟩ ∧ w.cell? ⟨g, k, none⟩ = some u := by
  rcases ho.2 with ⟨rfl, h0⟩ | ⟨g, cap, cur, rfl, _, hh, hn, hc, _, ht⟩
  · refine ⟨none, 0, by rw [h0], by omega, by simp, fun k u hu => ?_⟩
    have := ho.1
    rw [h0, Nat.zero_mul, List.length_eq_zero_iff] at this
    rw [this] at hu
    simp at hu
  · refine ⟨_, cap, rfl, hn, hc, fun k u hu => ⟨g, rfl, ?_⟩⟩
    rw [cell_of_row w g k cur _ _ hh]
    rw [← ht] at hu
    have hk : k < n * 1 := by
      have := (List.getElem?_eq_some_iff.1 hu).1
      simp at this
      omega
    rw [List.getElem?_take_of_lt hk] at hu
    simpa using hu

/-- Where an address lies in a segment. -/
def hitAt (ad : Nat) (s : SegR) : Option (Nat × Nat) := if s.pl = ad / 16384 then (segO s.P (ad / 1024 % 16)).map fun bo => (s.bs, bo) else none
def findV (S : List SegR) (ad : Nat) : Option (Nat × Nat) := S.findSome? (hitAt ad)
def ptrV (o : Option Nat) : Value := .pointer (o.map fun b => ⟨b, 0, none⟩)

set_option maxRecDepth 100000 in
set_option maxHeartbeats 2000000 in
theorem find_any (H : HeapAt ro hn w B bm sz f h) (ad : Nat) (had : ad < 18446744073709551616) :
    Calls Tryz.prog 41 #[.pointer (some ⟨h.bh, 0, none⟩), .int .u64 ad] w fun e w' => e = .returned (.tuple #[ptrV ((findV h.S ad).map (·.1)), ptrV ((findV h.S ad).map (·.2))]) ∧ Below w.heap.size w w' := by
  have HH := Lib.hid H
  obtain ⟨v, hv, ho, hg⟩ := H.c29
  obtain ⟨A, c, rfl, hc1, hc2, hcs⟩ := own_at ho
  have HCS := Lib.hid hcs
  have hlen := H.len
  clear H ho hg hcs
  go_enter Tryz.func41, Tryz.ntmps41
  go_wp2_with fail
  go_loopw [15] (fun i wr => ∃ k : Nat, k ≤ h.S.length ∧ i = .int .i64 k ∧ Hid (findV h.S ad = findV (h.S.drop k) ad) ∧ Hid (Below w.heap.size w wr)) (fun i _ => h.S.length - (intOf i).toNat)
  case atStart => exact ⟨0, by omega, rfl, by simp [Hid], Below.refl _ _⟩
  case round =>
    obtain ⟨k, hk, rfl, HE, HB⟩ := hrel
    by_cases hlt : k < h.S.length
    · obtain ⟨s, hs⟩ : ∃ s, h.S[k]? = some s := ⟨_, List.getElem?_eq_getElem hlt⟩
      have hsm := List.mem_of_getElem? hs
      have hD : h.S.drop k = s :: h.S.drop (k + 1) := by
        rw [List.drop_eq_getElem_cons hlt]
        congr 1
        rw [List.getElem?_eq_getElem hlt] at hs
        injection hs
      obtain ⟨gg, rfl, hcell⟩ := HCS.out k (.pointer (some ⟨s.bs, 0, none⟩)) (by simp [segP, hs])
      have hcell' := (HB.out.cell (p := ⟨gg, k, none⟩) (World.block_lt_of_cell? _ _ hcell)).trans hcell
      have HSG := Lib.hid ((HH.out.below HB.out).segs s hsm).seg
      have HDD := Lib.hid hD
      have hsz := HB.out.size
      clear hs hsm hD hcell
      by_cases hp : s.pl = ad / 16384
      · have HF := Lib.hid (segFind_in HSG.out ad (ad / 1024 % 16) hp.symm rfl)
        have HI : Hid (hitAt ad s = (segO s.P (ad / 1024 % 16)).map fun bo => (s.bs, bo)) := by show _ = _; unfold hitAt; rw [if_pos hp]
        clear hp
        generalize segO s.P (ad / 1024 % 16) = oo at *
        go_wp2_with fail
        (with_reducible refine HF.out.mono ?_)
        rintro e w2 ⟨rfl, B2⟩
        have HB2 : Hid (Below w.heap.size w w2) := HB.out.trans (B2.mono hsz)
        clear B2 HF HSG
        cases oo with
        | none =>
          have HE2 : Hid (findV h.S ad = findV (h.S.drop (k + 1)) ad) := by
            show _ = _
            rw [HE.out, HDD.out]
            unfold findV
            rw [List.findSome?_cons, HI.out]
            rfl
          simp only [ptrO, Option.map_none, Option.isSome_none]
          clear HE HDD HI
          go_wp2_with fail
          all_goals go_roundw
          case rel => exact ⟨k + 1, by omega, by go_num, HE2, HB2⟩
          case measure => simp [intOf]; omega
        | some bo =>
          have HE2 : Hid (findV h.S ad = some (s.bs, bo)) := by
            show _ = _
            rw [HE.out, HDD.out]
            unfold findV
            rw [List.findSome?_cons, HI.out]
            rfl
          simp only [ptrO, Option.map_some, Option.isSome_some, if_true]
          clear HE HDD HI
          go_wp2_with fail
          all_goals go_ret2
          all_goals (rw [HE2.out]; exact ⟨rfl, HB2.out⟩)
      · have HF := Lib.hid (segFind_out HSG.out ad (fun e => hp e.symm) had)
        have HE2 : Hid (findV h.S ad = findV (h.S.drop (k + 1)) ad) := by
          show _ = _
          rw [HE.out, HDD.out]
          unfold findV
          rw [List.findSome?_cons]
          have : hitAt ad s = none := by unfold hitAt; rw [if_neg hp]
          rw [this]
        clear hp HE HDD
        go_wp2_with fail
        (with_reducible refine HF.out.mono ?_)
        rintro e w2 ⟨rfl, B2⟩
        have HB2 : Hid (Below w.heap.size w w2) := HB.out.trans (B2.mono hsz)
        clear B2 HF HSG
        go_wp2_with fail
        all_goals go_roundw
        case rel => exact ⟨k + 1, by omega, by go_num, HE2, HB2⟩
        case measure => simp [intOf]; omega
    · obtain rfl : k = h.S.length := by omega
      have HE2 : Hid (findV h.S ad = none) := by
        show _ = _
        rw [HE.out, List.drop_of_length_le (Nat.le_refl _)]
        rfl
      clear HE
      go_wp2_with fail
      all_goals go_ret2
      all_goals (rw [HE2.out]; exact ⟨rfl, HB.out⟩)
end Go.Proofs.YtbljphaklciinaaGreat

/- Layer 12 (heap): what holds of a heap when a page's bytes, or a queue, have turned. -/
namespace Go.Proofs.YtbljphaklciinaaGreat
open Go.RowKit
variable {ro ro' : Nat → Role} {hn : Nat} {w w' : World} {B bm bb sz : Nat} {f g : Nat → Nat} {h : HeapR} {X : Role → Prop}

theorem HeapAt.lt_h (H : HeapAt ro hn w B bm sz f h) : h.bh < w.heap.size := World.block_lt_of_cell? w _ H.c26

theorem PageOk.role {pl : Nat} {p : PageR} (hp : PageOk ro w bm sz f pl p) (e : ∀ k, k < w.heap.size → ro' k = ro k) : PageOk ro' w bm sz f pl p :=
  { hp with rq := (e _ (Obj_.lt hp.own (by omega))).trans hp.rq, rp := (e _ (Obj_.lt hp.page (by omega))).trans hp.rp }
theorem SegOk.role {s : SegR} (hs : SegOk ro w bm sz f s) (e : ∀ k, k < w.heap.size → ro' k = ro k) : SegOk ro' w bm sz f s :=
  { hs with pages := fun p hp => (hs.pages p hp).role e, rs := (e _ hs.seg.lt).trans hs.rs, rk := (e _ hs.seg.marks.lt_b).trans hs.rk, rt := (e _ hs.seg.marks.lt_bt).trans hs.rt }
/-- Roles of blocks to come may be told anew. -/
theorem HeapAt.role (H : HeapAt ro hn w B bm sz f h) (e : ∀ k, k < w.heap.size → ro' k = ro k) : HeapAt ro' hn w B bm sz f h := by
  obtain ⟨v, hv, ho, hg⟩ := H.c29
  exact { H with
    rb := (e _ H.lt_h).trans H.rb
    r1 := fun c hc k hk => (e _ ((H.q c hc).r1.g_lt k hk).2).trans (H.r1 c hc k hk)
    r2 := fun c hc k hk => (e _ ((H.q c hc).r2.g_lt k hk).2).trans (H.r2 c hc k hk)
    rs := fun k hk => (e _ (ho.lt k (hg.trans hk)).2).trans (H.rs k hk)
    segs := fun s hs => (H.segs s hs).role e }

/-- One page's state put in. -/
def setPP (at_ : Nat) (pg : Pg) (P : List PageR) : List PageR := P.map fun p => if p.at_ = at_ then { p with pg := pg } else p
def setPg (pl at_ : Nat) (pg : Pg) (S : List SegR) : List SegR := S.map fun s => if s.pl = pl then { s with P := setPP at_ pg s.P } else s

theorem covers_setPP (at_ : Nat) (pg : Pg) (j : Nat) (p : PageR) : covers j (if p.at_ = at_ then { p with pg := pg } else p) = covers j p := by
  split <;> rfl
theorem segT_setPP (at_ : Nat) (pg : Pg) (P : List PageR) : segT (setPP at_ pg P) = segT P := by
  funext j
  unfold segT setPP
  rw [List.any_map]
  congr 1
  congr 1
  funext p
  exact covers_setPP at_ pg j p
theorem segO_setPP (at_ : Nat) (pg : Pg) (P : List PageR) : segO (setPP at_ pg P) = segO P := by
  funext j
  unfold segO setPP
  rw [List.find?_map]
  have e : (covers j ∘ fun p : PageR => if p.at_ = at_ then { p with pg := pg } else p) = covers j := by
    funext p
    exact covers_setPP at_ pg j p
  rw [e, Option.map_map]
  congr 1
  funext p
  show (if p.at_ = at_ then { p with pg := pg } else p : PageR).bo = p.bo
  split <;> rfl

theorem segP_setPg (pl at_ : Nat) (pg : Pg) (S : List SegR) : segP (setPg pl at_ pg S) = segP S := by
  unfold segP setPg
  rw [List.map_map]
  refine List.map_congr_left fun s _ => ?_
  show Value.pointer (some ⟨(if s.pl = pl then { s with P := setPP at_ pg s.P } else s : SegR).bs, 0, none⟩) = _
  split <;> rfl

/-- Two pages lie apart. -/
theorem pages_apart {pl pl' : Nat} {p q : PageR} (hp : PageOk ro w bm sz f pl p) (hq : PageOk ro w bm sz f pl' q) (hne : pl ≠ pl' ∨ ∀ j, covers j p = true → covers j q = false) : q.pg.f + q.pg.n * q.pg.s ≤ p.pg.f ∨ p.pg.f + p.pg.n * p.pg.s ≤ q.pg.f := by
  have h1 := hp.pf
  have h2 := hq.pf
  have h3 := hp.ps
  have h4 := hq.ps
  have h5 := hp.fit
  have h6 := hq.fit
  have h7 := hp.s1
  have h8 := hq.s1
  by_cases e : pl = pl'
  · subst e
    have hc := hne.resolve_left (fun h => h rfl)
    have k1 := hc p.at_ (by simp [covers]; omega)
    have k2 : covers q.at_ p = true → False := fun h => by
      have := hc q.at_ h
      simp [covers] at this
      omega
    simp [covers] at k1 k2
    omega
  · omega

/-- What is told of a page is told of just one. -/
theorem SegOk.page_at {s : SegR} (hs : SegOk ro w bm sz f s) {p q : PageR} (hp : p ∈ s.P) (hq : q ∈ s.P) (e : p.at_ = q.at_) : p = q := by
  have h1 := (hs.pages p hp).s1
  have h2 := (hs.pages q hq).s1
  have hpw := hs.apart
  rcases List.mem_iff_getElem.1 hp with ⟨i, hi, rfl⟩
  rcases List.mem_iff_getElem.1 hq with ⟨j, hj, rfl⟩
  have hpi := List.pairwise_iff_getElem.1 hpw
  rcases Nat.lt_trichotomy i j with h | h | h
  · have := hpi i j hi hj h (s.P[i]).at_ (by simp [covers]; omega)
    simp [covers] at this
    omega
  · subst h; rfl
  · have := hpi j i hj hi h (s.P[j]).at_ (by simp [covers]; omega)
    simp [covers] at this
    omega

theorem HeapAt.seg_at (H : HeapAt ro hn w B bm sz f h) {s t : SegR} (hs : s ∈ h.S) (ht : t ∈ h.S) (e : s.pl = t.pl) : s = t := by
  rcases List.mem_iff_getElem.1 hs with ⟨i, hi, rfl⟩
  rcases List.mem_iff_getElem.1 ht with ⟨j, hj, rfl⟩
  have hpi := List.pairwise_iff_getElem.1 H.pls
  rcases Nat.lt_trichotomy i j with h | h | h
  · exact absurd e (hpi i j hi hj h)
  · subst h; rfl
  · exact absurd e.symm (hpi j i hj hi h)
end Go.Proofs.YtbljphaklciinaaGreat

/- Layer 12 (heap): a heap when one page has turned. -/
namespace Go.Proofs.YtbljphaklciinaaGreat
open Go.RowKit
variable {ro ro' : Nat → Role} {hn : Nat} {w w' : World} {B bm bb sz : Nat} {f g : Nat → Nat} {h : HeapR} {X : Role → Prop}

/-- The image of a segment, of a page. -/
def sgI (pl at_ : Nat) (pg : Pg) (s : SegR) : SegR := if s.pl = pl then { s with P := setPP at_ pg s.P } else s
def pgI (at_ : Nat) (pg : Pg) (p : PageR) : PageR := if p.at_ = at_ then { p with pg := pg } else p
theorem sgI_pl (pl at_ : Nat) (pg : Pg) (s : SegR) : (sgI pl at_ pg s).pl = s.pl := by unfold sgI; split <;> rfl

theorem HeapAt.turned (H : HeapAt ro hn w B bm sz f h) (rbb : ro bb = .bytes) {s : SegR} {p : PageR} {pg' : Pg} (hs : s ∈ h.S) (hp : p ∈ s.P) (hfr : PFr w w' p.bp bb) (hpg : PageAt w' p.bp bm pg') (hinv : PgInv g sz pg')
    (far : ∀ j, j < p.pg.f ∨ p.pg.f + p.pg.n * p.pg.s ≤ j → g j = f j) (e1 : pg'.f = p.pg.f) (e2 : pg'.s = p.pg.s) (e3 : pg'.n = p.pg.n) :
    HeapAt ro hn w' B bm sz g { h with S := setPg s.pl p.at_ pg' h.S } := by
  have hso := H.segs s hs
  have hpo := hso.pages p hp
  have hR : RFr ro w w' (fun r => r = .pp s.pl p.at_ ∨ r = .bytes) := RFr.of_fr (Fr.of_pfr hfr) (fun k hk => by
    rcases hk with rfl | rfl
    · exact .inl hpo.rp
    · exact .inr rbb)
  have blk : ∀ k, k < w.heap.size → (ro k ≠ .pp s.pl p.at_) → ro k ≠ .bytes → w'.heap[k]? = w.heap[k]? := fun k hk h1 h2 => hR.block k hk (fun h => h.elim h1 h2)
  have hbh := blk h.bh H.lt_h (by rw [H.rb]; nofun) (by rw [H.rb]; nofun)
  obtain ⟨v, hv, ho, hg⟩ := H.c29
  have hpgs : ∀ s0 ∈ h.S, ∀ p0 ∈ s0.P, (s0.pl ≠ s.pl ∨ p0.at_ ≠ p.at_) → PageOk ro w' bm sz g s0.pl p0 := fun s0 hs0 p0 hp0 hne => by
    have h0 := (H.segs s0 hs0).pages p0 hp0
    have h1 := h0.fr hR (fun h => by rcases h with h | h <;> cases h) (fun h => by
      rcases h with h | h
      · injection h with h1 h2
        rcases hne with h3 | h3
        · exact h3 h1
        · exact h3 h2
      · cases h)
    refine h1.mem (fun j hj1 hj2 => far j ?_)
    have hap := pages_apart h0 hpo (by
      by_cases e : s0.pl = s.pl
      · right
        have es := H.seg_at hs0 hs e
        subst es
        have hne2 := hne.resolve_left (fun h => h rfl)
        rcases List.mem_iff_getElem.1 hp0 with ⟨i, hi, rfl⟩
        rcases List.mem_iff_getElem.1 hp with ⟨k, hk, rfl⟩
        have hpi := List.pairwise_iff_getElem.1 hso.apart
        rcases Nat.lt_trichotomy i k with h | h | h
        · exact hpi i k hi hk h
        · subst h; exact absurd rfl hne2
        · intro j hj
          cases hc : covers j s0.P[k] with
          | false => rfl
          | true => rw [hpi k i hk hi h j hc] at hj; cases hj
      · exact .inl e)
    omega
  have hseg : ∀ s0 ∈ h.S, SegOk ro w' bm sz g (sgI s.pl p.at_ pg' s0) := fun s0 hs0 => by
    have h0 := H.segs s0 hs0
    have hst := h0.seg.stays (blk _ h0.seg.lt (by rw [h0.rs]; nofun) (by rw [h0.rs]; nofun)) (blk _ h0.seg.marks.lt_b (by rw [h0.rk]; nofun) (by rw [h0.rk]; nofun)) (blk _ h0.seg.marks.lt_bt (by rw [h0.rt]; nofun) (by rw [h0.rt]; nofun))
    by_cases e : s0.pl = s.pl
    · have es := H.seg_at hs0 hs e
      subst es
      unfold sgI
      rw [if_pos rfl]
      refine ⟨?_, h0.fit, fun q hq => ?_, ?_, h0.rs, h0.rk, h0.rt⟩
      · show SegAt w' s0.bs s0.bk s0.bt bm s0.pl (segT (setPP p.at_ pg' s0.P)) (segO (setPP p.at_ pg' s0.P)) s0.x s0.t s0.a
        rw [segT_setPP, segO_setPP]
        exact hst
      · obtain ⟨q0, hq0, rfl⟩ := List.mem_map.1 hq
        by_cases ea : q0.at_ = p.at_
        · have eq := h0.page_at hq0 hp ea
          subst eq
          rw [if_pos rfl]
          exact ⟨Obj_.of_block hpo.own (blk _ (Obj_.lt hpo.own (by omega)) (by rw [hpo.rq]; nofun) (by rw [hpo.rq]; nofun)), hpg, hinv, hpo.a1, hpo.s1, hpo.fit, e1.trans hpo.pf, by show pg'.n * pg'.s ≤ _; rw [e2, e3]; exact hpo.ps, hpo.c0, hpo.c1, hpo.rq, hpo.rp⟩
        · rw [if_neg ea]
          exact hpgs s0 hs0 q0 hq0 (.inr ea)
      · show (setPP p.at_ pg' s0.P).Pairwise _
        unfold setPP
        rw [List.pairwise_map]
        refine h0.apart.imp fun {a b} hab j hj => ?_
        rw [covers_setPP] at hj ⊢
        exact hab j hj
    · unfold sgI
      rw [if_neg e]
      exact { h0 with seg := hst, pages := fun q hq => hpgs s0 hs0 q hq (.inl e) }
  exact {
    rb := H.rb
    c26 := (World.cell?_of_block (a := ⟨h.bh, 26, none⟩) hbh).trans H.c26
    c27 := (World.cell?_of_block (a := ⟨h.bh, 27, none⟩) hbh).trans H.c27
    c28 := (World.cell?_of_block (a := ⟨h.bh, 28, none⟩) hbh).trans H.c28
    c29 := ⟨v, (World.cell?_of_block (a := ⟨h.bh, 29, none⟩) hbh).trans hv, by
      show w'.ownsRow B _ 1 v (setPg s.pl p.at_ pg' h.S).length (segP (setPg s.pl p.at_ pg' h.S))
      rw [segP_setPg, show (setPg s.pl p.at_ pg' h.S).length = h.S.length by simp [setPg]]
      exact own_stays ho (fun k hk => blk k (ho.lt k hk).2 (by rw [H.rs k (hg.symm.trans hk)]; nofun) (by rw [H.rs k (hg.symm.trans hk)]; nofun)), hg⟩
    z29 := (World.frozen?_of_block (a := ⟨h.bh, 29, none⟩) hbh).trans H.z29
    q := fun c hc => (H.q c hc).stays hbh (fun k e => blk k ((H.q c hc).r1.g_lt k e).2 (by rw [H.r1 c hc k e]; nofun) (by rw [H.r1 c hc k e]; nofun)) (fun k e => blk k ((H.q c hc).r2.g_lt k e).2 (by rw [H.r2 c hc k e]; nofun) (by rw [H.r2 c hc k e]; nofun))
    qo := H.qo
    r1 := H.r1
    r2 := H.r2
    rs := H.rs
    segs := fun s' hs' => by
      obtain ⟨s0, hs0, rfl⟩ := List.mem_map.1 hs'
      exact hseg s0 hs0
    pls := by
      show (setPg s.pl p.at_ pg' h.S).Pairwise _
      unfold setPg
      rw [List.pairwise_map]
      refine H.pls.imp fun {a b} hab => ?_
      show (sgI s.pl p.at_ pg' a).pl ≠ (sgI s.pl p.at_ pg' b).pl
      rw [sgI_pl, sgI_pl]
      exact hab
    link := fun c hc k hk => by
      obtain ⟨s0, hs0, p0, hp0, e, hr⟩ := H.link c hc k hk
      refine ⟨sgI s.pl p.at_ pg' s0, List.mem_map.2 ⟨s0, hs0, rfl⟩, ?_⟩
      by_cases es : s0.pl = s.pl
      · refine ⟨pgI p.at_ pg' p0, ?_, ?_, ?_⟩
        · unfold sgI
          rw [if_pos es]
          exact List.mem_map.2 ⟨p0, hp0, rfl⟩
        · rw [sgI_pl, e]
          unfold pgI
          split <;> rfl
        · rw [← hr]
          unfold pgI
          split <;> rfl
      · refine ⟨p0, ?_, ?_, hr⟩
        · unfold sgI
          rw [if_neg es]
          exact hp0
        · rw [sgI_pl, e]
    len := by
      show (setPg s.pl p.at_ pg' h.S).length ≤ 64
      simp [setPg]
      exact H.len }
end Go.Proofs.YtbljphaklciinaaGreat

/- Layer 12 (heap): a heap when one of its queues has turned. -/
namespace Go.Proofs.YtbljphaklciinaaGreat
open Go.RowKit
variable {ro ro' : Nat → Role} {hn : Nat} {w w' : World} {B bm bb sz : Nat} {f g : Nat → Nat} {h : HeapR} {X : Role → Prop}

theorem QFr.cells {b o : Nat} {g1 g2 : Option Nat} (hf : QFr w w' b o g1 g2) {i : Nat} {u : Value} (hi : w.cell? ⟨b, i, none⟩ = some u) (j : Nat) (h1 : j ≠ o) (h2 : j ≠ o + 1) :
    w'.cell? ⟨b, j, none⟩ = w.cell? ⟨b, j, none⟩ ∧ w'.frozen? ⟨b, j, none⟩ = w.frozen? ⟨b, j, none⟩ := by
  cases hb : w.heap[b]? with
  | none => simp [World.cell?, hb] at hi
  | some ob =>
    cases ob with
    | cells cs T fr =>
      obtain ⟨v1, v2, hb'⟩ := hf.self cs T fr hb
      refine ⟨?_, by simp [World.frozen?, hb, hb']⟩
      simp [World.cell?, hb, hb', Array.getElem?_setIfInBounds_ne (Ne.symm h1), Array.getElem?_setIfInBounds_ne (Ne.symm h2)]
    | _ => simp [World.cell?, hb] at hi

def updF {α : Type} (f : Nat → α) (c : Nat) (v : α) : Nat → α := fun j => if j = c then v else f j
theorem updF_same {α : Type} (f : Nat → α) (c : Nat) (v : α) : updF f c v c = v := if_pos rfl
theorem updF_ne {α : Type} (f : Nat → α) {c j : Nat} (v : α) (h : j ≠ c) : updF f c v j = f j := if_neg h

/-- Roles with two new rows. -/
def roRow (ro : Nat → Role) (hn c N : Nat) (k1 k2 : Option Nat) (k : Nat) : Role := if k < N then ro k else if some k = k1 then .row hn c false else if some k = k2 then .row hn c true else .other

def HeapR.queued (h : HeapR) (c : Nat) (R F : List Int) (k1 k2 : Option Nat) : HeapR := { h with Q1 := updF h.Q1 c R, Q2 := updF h.Q2 c F, g1 := updF h.g1 c k1, g2 := updF h.g2 c k2 }

theorem HeapAt.queued (H : HeapAt ro hn w B bm sz f h) {c : Nat} (hc : c < 13) {R F : List Int} (ht : QTo w w' B h.bh (2 * c) (h.g1 c) (h.g2 c) R F) (ho : QOnce R F)
    (hl : ∀ k, k ∈ R ∨ k ∈ F → ∃ s ∈ h.S, ∃ p ∈ s.P, k = ((s.pl * 16 + p.at_ : Nat) : Int) ∧ rowIx p.cls = some c) :
    ∃ ro' k1 k2, (∀ k, k < w.heap.size → ro' k = ro k) ∧ HeapAt ro' hn w' B bm sz f (h.queued c R F k1 k2) ∧ RFr ro w w' (fun r => r = .heap hn ∨ ∃ i, r = .row hn c i) := by
  obtain ⟨⟨k1, k2, hq, n1, n2⟩, hf⟩ := ht
  have hR : RFr ro w w' (fun r => r = .heap hn ∨ ∃ i, r = .row hn c i) := ⟨hf.os, hf.tape, hf.output, hf.size, fun k hk hx => hf.block k hk (fun e => hx (.inl (e ▸ H.rb))) (fun e => hx (.inr ⟨false, H.r1 c hc k e.symm⟩)) (fun e => hx (.inr ⟨true, H.r2 c hc k e.symm⟩))⟩
  have e0 : ∀ k, k < w.heap.size → roRow ro hn c w.heap.size k1 k2 k = ro k := fun k hk => if_pos hk
  refine ⟨roRow ro hn c w.heap.size k1 k2, k1, k2, e0, ?_, hR⟩
  have H' := H.role e0
  have blk : ∀ k, k < w.heap.size → ro k ≠ .heap hn → (∀ i, ro k ≠ .row hn c i) → w'.heap[k]? = w.heap[k]? := fun k hk h1 h2 => hR.block k hk (fun h => h.elim h1 (fun ⟨i, e⟩ => h2 i e))
  have cel : ∀ j, j ≠ 2 * c → j ≠ 2 * c + 1 → w'.cell? ⟨h.bh, j, none⟩ = w.cell? ⟨h.bh, j, none⟩ ∧ w'.frozen? ⟨h.bh, j, none⟩ = w.frozen? ⟨h.bh, j, none⟩ := fun j h1 h2 => hf.cells H.c26 j h1 h2
  obtain ⟨v, hv, hov, hg⟩ := H.c29
  have hrow : ∀ {c' i : Nat} {l : List Int} {gg : Option Nat}, RowAt w B h.bh (2 * c' + i) l gg → i < 2 → c' ≠ c → (∀ k, gg = some k → ro k ≠ .heap hn ∧ ∀ i, ro k ≠ .row hn c i) → RowAt w' B h.bh (2 * c' + i) l gg := fun {c' i l gg} hr hi hne hro => by
    obtain ⟨u, hu, hou, hgu⟩ := hr.val
    have hc2 := cel (2 * c' + i) (by omega) (by omega)
    exact ⟨⟨u, hc2.1.trans hu, own_stays hou (fun k hk => blk k (hou.lt k hk).2 (hro k (hgu.symm.trans hk)).1 (hro k (hgu.symm.trans hk)).2), hgu⟩, hc2.2.trans hr.frz, hr.ne⟩
  exact {
    rb := H'.rb
    c26 := (cel 26 (by omega) (by omega)).1.trans H.c26
    c27 := (cel 27 (by omega) (by omega)).1.trans H.c27
    c28 := (cel 28 (by omega) (by omega)).1.trans H.c28
    c29 := ⟨v, (cel 29 (by omega) (by omega)).1.trans hv, own_stays hov (fun k hk => blk k (hov.lt k hk).2 (by rw [H.rs k (hg.symm.trans hk)]; nofun) (fun i => by rw [H.rs k (hg.symm.trans hk)]; nofun)), hg⟩
    z29 := (cel 29 (by omega) (by omega)).2.trans H.z29
    q := fun c' hc' => by
      by_cases e : c' = c
      · subst e
        show QueueAt w' B h.bh (2 * c') (updF h.Q1 c' R c') (updF h.Q2 c' F c') (updF h.g1 c' k1 c') (updF h.g2 c' k2 c')
        rw [updF_same, updF_same, updF_same, updF_same]
        exact hq
      · show QueueAt w' B h.bh (2 * c') (updF h.Q1 c R c') (updF h.Q2 c F c') (updF h.g1 c k1 c') (updF h.g2 c k2 c')
        rw [updF_ne _ _ e, updF_ne _ _ e, updF_ne _ _ e, updF_ne _ _ e]
        have h0 := H.q c' hc'
        exact ⟨hrow (i := 0) h0.r1 (by omega) e (fun k hk => by rw [H.r1 c' hc' k hk]; exact ⟨nofun, fun i h => by injection h with _ h2 _; exact e h2⟩), hrow (i := 1) h0.r2 (by omega) e (fun k hk => by rw [H.r2 c' hc' k hk]; exact ⟨nofun, fun i h => by injection h with _ h2 _; exact e h2⟩), h0.apart⟩
    qo := fun c' hc' => by
      by_cases e : c' = c
      · subst e
        show QOnce (updF h.Q1 c' R c') (updF h.Q2 c' F c')
        rw [updF_same, updF_same]
        exact ho
      · show QOnce (updF h.Q1 c R c') (updF h.Q2 c F c')
        rw [updF_ne _ _ e, updF_ne _ _ e]
        exact H.qo c' hc'
    r1 := fun c' hc' k hk => by
      by_cases e : c' = c
      · subst e
        replace hk : updF h.g1 c' k1 c' = some k := hk
        rw [updF_same] at hk
        rcases n1 with rfl | ⟨j, rfl, hj⟩
        · rw [e0 k ((H.q c' hc').r1.g_lt k hk).2]; exact H.r1 c' hc' k hk
        · injection hk with hk
          subst hk
          unfold roRow
          rw [if_neg (by omega), if_pos rfl]
      · replace hk : updF h.g1 c k1 c' = some k := hk
        rw [updF_ne _ _ e] at hk
        exact H'.r1 c' hc' k hk
    r2 := fun c' hc' k hk => by
      by_cases e : c' = c
      · subst e
        replace hk : updF h.g2 c' k2 c' = some k := hk
        rw [updF_same] at hk
        rcases n2 with rfl | ⟨j, rfl, hj⟩
        · rw [e0 k ((H.q c' hc').r2.g_lt k hk).2]; exact H.r2 c' hc' k hk
        · injection hk with hk
          subst hk
          unfold roRow
          rw [if_neg (by omega), if_neg (fun e => by have := hq.apart e.symm; rw [this] at e; cases e), if_pos rfl]
      · replace hk : updF h.g2 c k2 c' = some k := hk
        rw [updF_ne _ _ e] at hk
        exact H'.r2 c' hc' k hk
    rs := H'.rs
    segs := fun s hs => by
      have hX : RFr (roRow ro hn c w.heap.size k1 k2) w w' (fun r => r = .heap hn ∨ ∃ i, r = .row hn c i) := ⟨hR.os, hR.tape, hR.output, hR.size, fun k hk hx => hR.block k hk (fun h => hx (by rw [e0 k hk]; exact h))⟩
      exact (H'.segs s hs).fr hX (by rintro (h | ⟨i, h⟩) <;> cases h) (by rintro (h | ⟨i, h⟩) <;> cases h) (by rintro (h | ⟨i, h⟩) <;> cases h) (fun p _ => ⟨(by rintro (h | ⟨i, h⟩) <;> cases h), (by rintro (h | ⟨i, h⟩) <;> cases h)⟩)
    pls := H.pls
    link := fun c' hc' k hk => by
      by_cases e : c' = c
      · subst e
        replace hk : k ∈ updF h.Q1 c' R c' ∨ k ∈ updF h.Q2 c' F c' := hk
        rw [updF_same, updF_same] at hk
        exact hl k hk
      · replace hk : k ∈ updF h.Q1 c R c' ∨ k ∈ updF h.Q2 c F c' := hk
        rw [updF_ne _ _ e, updF_ne _ _ e] at hk
        exact H.link c' hc' k hk
    len := H.len }
end Go.Proofs.YtbljphaklciinaaGreat

/- Layer 12 (heap): plain lemmas: numbers of pages; what a queue's Fill keeps; how long queues are. -/
namespace Go.Proofs.YtbljphaklciinaaGreat
open Go.RowKit
variable {ro ro' : Nat → Role} {hn : Nat} {w w' : World} {B bm bb sz : Nat} {f g : Nat → Nat} {h : HeapR} {X : Role → Prop}

/-- A page's first slice is that page's. -/
theorem SegOk.segO_at {s : SegR} (hs : SegOk ro w bm sz f s) {p : PageR} (hp : p ∈ s.P) : segO s.P p.at_ = some p.bo := by
  have h1 := (hs.pages p hp).s1
  have hc : covers p.at_ p = true := by simp [covers]; omega
  unfold segO
  cases hf : s.P.find? (covers p.at_) with
  | none =>
    have := List.find?_eq_none.1 hf p hp
    exact absurd hc this
  | some q =>
    have hq := List.mem_of_find?_eq_some hf
    have hcq := List.find?_some hf
    have e : q = p := by
      rcases List.mem_iff_getElem.1 hq with ⟨i, hi, rfl⟩
      rcases List.mem_iff_getElem.1 hp with ⟨j, hj, rfl⟩
      have hpi := List.pairwise_iff_getElem.1 hs.apart
      rcases Nat.lt_trichotomy i j with h | h | h
      · have := hpi i j hi hj h _ hcq
        rw [hc] at this
        cases this
      · subst h; rfl
      · have := hpi j i hj hi h _ hc
        rw [hcq] at this
        cases this
    rw [e]
    rfl

theorem findSome_at {α β : Type} {F : α → Option β} {l : List α} {x : α} {y : β} (hx : x ∈ l) (hF : F x = some y) (hu : ∀ z ∈ l, F z = none ∨ F z = some y) : l.findSome? F = some y := by
  induction l with
  | nil => cases hx
  | cons z r ih =>
    rw [List.findSome?_cons]
    rcases hu z (by simp) with h | h
    · rw [h]
      rcases List.mem_cons.1 hx with rfl | hx
      · rw [hF] at h; cases h
      · exact ih hx (fun z hz => hu z (by simp [hz]))
    · rw [h]

/-- Where a page is found by its number. -/
theorem HeapAt.find_key (H : HeapAt ro hn w B bm sz f h) {s : SegR} {p : PageR} (hs : s ∈ h.S) (hp : p ∈ s.P) : findV h.S ((s.pl * 16 + p.at_) * 1024) = some (s.bs, p.bo) := by
  have hf := ((H.segs s hs).pages p hp).fit
  have hs1 := ((H.segs s hs).pages p hp).s1
  have e1 : (s.pl * 16 + p.at_) * 1024 / 16384 = s.pl := by omega
  have e2 : (s.pl * 16 + p.at_) * 1024 / 1024 % 16 = p.at_ := by omega
  have hh : hitAt ((s.pl * 16 + p.at_) * 1024) s = some (s.bs, p.bo) := by
    unfold hitAt
    rw [e1, e2, if_pos rfl, (H.segs s hs).segO_at hp]
    rfl
  refine findSome_at hs hh (fun t ht => ?_)
  by_cases e : t.pl = s.pl
  · rw [H.seg_at ht hs e]; exact .inr hh
  · left
    unfold hitAt
    rw [e1, if_neg e]

theorem fillS_mem {R F : List Int} {x y : Int} : y ∈ (fillS R F x).2.1 ∨ y ∈ (fillS R F x).2.2 ↔ y ∈ R ∨ y ∈ F := by
  unfold fillS
  split
  · rename_i hx
    constructor
    · rintro (h | h)
      · exact .inl (List.mem_of_mem_erase h)
      · rcases List.mem_append.1 h with h | h
        · exact .inr h
        · simp at h; subst h; exact .inl hx
    · rintro (h | h)
      · by_cases e : y = x
        · subst e; exact .inr (by simp)
        · exact .inl ((List.mem_erase_of_ne e).2 h)
      · exact .inr (by simp [h])
  · exact Iff.rfl

/-- How long a queue is. -/
theorem HeapAt.qlen (H : HeapAt ro hn w B bm sz f h) {c : Nat} (hc : c < 13) : (h.Q1 c).length + (h.Q2 c).length ≤ 1024 := by
  have hn := (H.qo c hc).all
  have hl : ∀ k ∈ h.Q1 c ++ h.Q2 c, ∃ q : Nat, q < 1024 ∧ k = (q : Int) := fun k hk => by
    obtain ⟨s, hs, p, hp, e, _⟩ := H.link c hc k (List.mem_append.1 hk)
    have h1 := (H.segs s hs).seg.pl64
    have h2 := ((H.segs s hs).pages p hp).fit
    have h3 := ((H.segs s hs).pages p hp).s1
    exact ⟨_, by omega, e⟩
  have := nodup_bound 1024 ((h.Q1 c ++ h.Q2 c).map Int.toNat) (by
    rw [List.Nodup, List.pairwise_map]
    refine List.Pairwise.imp_of_mem (fun {a b} ha hb hne e => ?_) hn
    obtain ⟨q, _, rfl⟩ := hl a ha
    obtain ⟨r, _, rfl⟩ := hl b hb
    simp at e
    exact hne (by rw [e])) (fun x hx => by
    obtain ⟨k, hk, rfl⟩ := List.mem_map.1 hx
    obtain ⟨q, hq, rfl⟩ := hl k hk
    simpa using hq)
  simpa using this

/-- All that a heap's call may turn. -/
def hpX (hn : Nat) (r : Role) : Prop := r = .heap hn ∨ (∃ c i, r = .row hn c i) ∨ r = .bytes ∨ ∃ pl at_, r = .pp pl at_

theorem RFr.mono {Y : Role → Prop} (hf : RFr ro w w' X) (hs : ∀ r, X r → Y r) : RFr ro w w' Y := ⟨hf.os, hf.tape, hf.output, hf.size, fun k hk hn => hf.block k hk (fun hk' => hn (hs _ hk'))⟩
theorem RFr.over {w2 : World} (h1 : RFr ro w w' X) (e : ∀ k, k < w.heap.size → ro' k = ro k) (h2 : RFr ro' w' w2 X) : RFr ro w w2 X :=
  ⟨h2.os.trans h1.os, h2.tape.trans h1.tape, h2.output.trans h1.output, Nat.le_trans h1.size h2.size, fun k hk hn => (h2.block k (Nat.lt_of_lt_of_le hk h1.size) (by rw [e k hk]; exact hn)).trans (h1.block k hk hn)⟩

/-- A heap over a memory. -/
structure Hp (ro : Nat → Role) (hn : Nat) (w : World) (B bm bb sz : Nat) (f : Nat → Nat) (h : HeapR) : Prop where
  hp : HeapAt ro hn w B bm sz f h
  mem : MemAt w bm bb sz f
  rm : ro bm = .mem
  rb : ro bb = .bytes
  b : B ≤ w.heap.size

theorem Hp.below (H : Hp ro hn w B bm bb sz f h) (hb : Below w.heap.size w w') : Hp ro hn w' B bm bb sz f h :=
  ⟨H.hp.below hb, H.mem.below hb (Nat.le_refl _), H.rm, H.rb, Nat.le_trans H.b hb.size⟩

/-- Behind an Alloc, or a Free, of one page. -/
theorem Hp.turned (H : Hp ro hn w B bm bb sz f h) {s : SegR} {p : PageR} {pg' : Pg} (hs : s ∈ h.S) (hp : p ∈ s.P) (hfr : PFr w w' p.bp bb) (hpg : PageAt w' p.bp bm pg') (hm : MemAt w' bm bb sz g) (hinv : PgInv g sz pg')
    (far : ∀ j, j < p.pg.f ∨ p.pg.f + p.pg.n * p.pg.s ≤ j → g j = f j) (e1 : pg'.f = p.pg.f) (e2 : pg'.s = p.pg.s) (e3 : pg'.n = p.pg.n) :
    Hp ro hn w' B bm bb sz g { h with S := setPg s.pl p.at_ pg' h.S } ∧ RFr ro w w' (hpX hn) :=
  ⟨⟨H.hp.turned H.rb hs hp hfr hpg hinv far e1 e2 e3, hm, H.rm, H.rb, Nat.le_trans H.b hfr.size⟩,
    RFr.of_fr (Fr.of_pfr hfr) (fun k hk => by
      rcases hk with rfl | rfl
      · exact .inr (.inr (.inr ⟨_, _, ((H.hp.segs s hs).pages p hp).rp⟩))
      · exact .inr (.inr (.inl H.rb)))⟩

/-- Behind a call of a queue. -/
theorem Hp.queued (H : Hp ro hn w B bm bb sz f h) {c : Nat} (hc : c < 13) {R F : List Int} (ht : QTo w w' B h.bh (2 * c) (h.g1 c) (h.g2 c) R F) (ho : QOnce R F)
    (hl : ∀ k, k ∈ R ∨ k ∈ F → ∃ s ∈ h.S, ∃ p ∈ s.P, k = ((s.pl * 16 + p.at_ : Nat) : Int) ∧ rowIx p.cls = some c) :
    ∃ ro' k1 k2, (∀ k, k < w.heap.size → ro' k = ro k) ∧ Hp ro' hn w' B bm bb sz f (h.queued c R F k1 k2) ∧ RFr ro w w' (hpX hn) := by
  obtain ⟨ro', k1, k2, e, hh, hr⟩ := H.hp.queued hc ht ho hl
  have hlm := H.mem.lt_bm
  have hlb := H.mem.lt_bb
  refine ⟨ro', k1, k2, e, ⟨hh, H.mem.stays (hr.block bm hlm (by rw [H.rm]; rintro (h | ⟨i, h⟩) <;> cases h)) (hr.block bb hlb (by rw [H.rb]; rintro (h | ⟨i, h⟩) <;> cases h)), (e bm hlm).trans H.rm, (e bb hlb).trans H.rb, Nat.le_trans H.b hr.size⟩, hr.mono ?_⟩
  rintro r (h | ⟨i, h⟩)
  · exact .inl h
  · exact .inr (.inl ⟨c, i, h⟩)
end Go.Proofs.YtbljphaklciinaaGreat

/- Layer 12 (heap): Local. -/
namespace Go.Proofs.YtbljphaklciinaaGreat
open Go.RowKit
variable {ro ro' : Nat → Role} {hn : Nat} {w w' : World} {B bm bb sz : Nat} {f g : Nat → Nat} {h : HeapR} {X : Role → Prop}

theorem updF_updF {α : Type} (f : Nat → α) (c : Nat) (u v : α) : updF (updF f c u) c v = updF f c v := by
  funext j
  unfold updF
  split <;> rfl
theorem updF_self {α : Type} (f : Nat → α) (c : Nat) : updF f c (f c) = f := by
  funext j
  unfold updF
  split
  · rename_i e; rw [e]
  · rfl
theorem HeapR.queued_queued (h : HeapR) (c : Nat) (R F R' F' : List Int) (k1 k2 k1' k2' : Option Nat) : (h.queued c R F k1 k2).queued c R' F' k1' k2' = h.queued c R' F' k1' k2' := by
  unfold HeapR.queued
  simp only [updF_updF]
theorem HeapR.queued_self (h : HeapR) (c : Nat) : h.queued c (h.Q1 c) (h.Q2 c) (h.g1 c) (h.g2 c) = h := by
  unfold HeapR.queued
  simp only [updF_self]

/-- A page of which no block is free. -/
def Pg.full (p : Pg) : Prop := p.free = [] ∧ p.loc = [] ∧ p.made = p.n
/-- A number of such a page. -/
def FullKey (S : List SegR) (x : Int) : Prop := ∃ s ∈ S, ∃ p ∈ s.P, x = ((s.pl * 16 + p.at_ : Nat) : Int) ∧ p.pg.full
theorem setPP_self {P : List PageR} {p : PageR} (hu : ∀ q ∈ P, q.at_ = p.at_ → q = p) : setPP p.at_ p.pg P = P := by
  unfold setPP
  rw [List.map_congr_left (g := id)]
  · simp
  · intro q hq
    show (if q.at_ = p.at_ then { q with pg := p.pg } else q : PageR) = q
    split
    · rename_i e
      rw [hu q hq e]
    · rfl
theorem HeapAt.setPg_self (H : HeapAt ro hn w B bm sz f h) {s : SegR} {p : PageR} (hs : s ∈ h.S) (hp : p ∈ s.P) : setPg s.pl p.at_ p.pg h.S = h.S := by
  unfold setPg
  rw [List.map_congr_left (g := id)]
  · simp
  · intro t ht
    show (if t.pl = s.pl then { t with P := setPP p.at_ p.pg t.P } else t : SegR) = t
    split
    · rename_i e
      have es := H.seg_at ht hs e
      subst es
      rw [setPP_self (fun q hq e => (H.segs t ht).page_at hq hp e)]
    · rfl

/-- What Local leaves: the first k pages of its row were full, and stand in the other one. -/
def LocTo (ro : Nat → Role) (hn : Nat) (w : World) (B bm bb sz : Nat) (f : Nat → Nat) (h : HeapR) (i : Nat) (e : Ending) (w' : World) : Prop :=
  ∃ ro' k k1 k2, (∀ k, k < w.heap.size → ro' k = ro k) ∧ RFr ro w w' (hpX hn) ∧ (∀ j x, j < k → (h.Q1 i)[j]? = some x → FullKey h.S x) ∧
    ((∃ s ∈ h.S, ∃ p ∈ s.P, ∃ f' pg' a, rowIx p.cls = some i ∧ (h.Q1 i)[k]? = some ((s.pl * 16 + p.at_ : Nat) : Int) ∧ PgGot f sz p.pg f' pg' a ∧ e = .returned (.tuple #[.int .u64 (a : Nat), .int .i64 0]) ∧ Hp ro' hn w' B bm bb sz f' (({ h with S := setPg s.pl p.at_ pg' h.S } : HeapR).queued i ((h.Q1 i).drop k) (h.Q2 i ++ (h.Q1 i).take k) k1 k2)) ∨
     (e = .returned (.tuple #[.int .u64 0, .int .i64 4]) ∧ k = (h.Q1 i).length ∧ Hp ro' hn w' B bm bb sz f (h.queued i [] (h.Q2 i ++ h.Q1 i) k1 k2)))

theorem fill_head {R F : List Int} {x : Int} : fillS (x :: R) F x = (0, R, F ++ [x]) := by
  unfold fillS
  rw [if_pos (by simp), List.erase_cons_head]

set_option maxRecDepth 100000 in
set_option maxHeartbeats 4000000 in
theorem local_any (H : Hp ro hn w B bm bb sz f h) (c : Int) (h1 : -9223372036854775808 ≤ c) (h2 : c ≤ 9223372036854775807) :
    Calls Tryz.prog 15 #[.pointer (some ⟨h.bh, 0, none⟩), .int .i64 c] w fun e w' => (∃ i : Nat, 0 ≤ c ∧ c = (i : Int) ∧ i < 12 ∧ LocTo ro hn w B bm bb sz f h i e w') ∨ (¬ (0 ≤ c ∧ c < 12) ∧ e = .returned (.tuple #[.int .u64 0, .int .i64 2]) ∧ w' = w) := by
  have HH := Lib.hid H
  have HR := Lib.hid (fun w => row_any w h.bh c h1 h2)
  clear H
  by_cases hc : 0 ≤ c ∧ c < 12
  · obtain ⟨i, rfl⟩ : ∃ i : Nat, c = i := ⟨c.toNat, by omega⟩
    have hi : i < 12 := by omega
    have hix : rowIx (i : Int) = some i := by
      unfold rowIx
      rw [if_neg (by omega), if_pos hc]
      simp
    rw [hix] at HR
    have HIX := Lib.hid hix
    have q1 : ((i : Int) == -1) = false := by simp
    clear hc hix
    go_enter Tryz.func15, Tryz.ntmps15
    go_wp2_with fail
    refine (HR.out _).mono ?_
    rintro e w1 ⟨rfl, rfl⟩
    simp only [Option.map_some]
    have HQ := Lib.hid (HH.out.hp.q i (by omega))
    have HLEN := HH.out.hp.qlen (c := i) (by omega)
    go_wp2_with fail
    (with_reducible refine (ready_any w1 B h.bh (2 * i) (h.Q1 i) (h.Q2 i) _ _ HQ.out (by omega)).mono ?_)
    rintro e w2 ⟨v, rfl, ho, hb⟩
    obtain ⟨A, cc, rfl, hA, hlc, hcm, hrow, _⟩ := own_ints_shape ho
    obtain ⟨ro2, hro2⟩ : ∃ ro2 : Nat → Role, ro2 = fun k => if k < w1.heap.size then ro k else .other := ⟨_, rfl⟩
    have er2 : ∀ k, k < w1.heap.size → ro2 k = ro k := fun k hk => by rw [hro2]; exact if_pos hk
    have eo2 : ∀ k, w1.heap.size ≤ k → ro2 k = .other := fun k hk => by rw [hro2]; exact if_neg (by omega)
    have H2 : Hp ro2 hn w2 B bm bb sz f h := (show Hp ro2 hn w1 B bm bb sz f h from ⟨HH.out.hp.role er2, HH.out.mem, (er2 _ HH.out.mem.lt_bm).trans HH.out.rm, (er2 _ HH.out.mem.lt_bb).trans HH.out.rb, HH.out.b⟩).below hb
    have HH2 := Lib.hid H2
    have HE2 := Lib.hid er2
    have HO2 := Lib.hid eo2
    have HB2 := Lib.hid hb
    have HROW := Lib.hid hrow
    have HA := Lib.hid hA
    have HAB : Hid (∀ ad, A = some ad → w1.heap.size ≤ ad.block ∧ ad.block < w2.heap.size) := fun ad e => ho.lt ad.block (by rw [e]; rfl)
    obtain ⟨N0, hN0⟩ : ∃ N0, N0 = (h.Q1 i).length := ⟨_, rfl⟩
    rw [← hN0] at HROW ⊢
    have hn1 : N0 ≤ 1024 := by omega
    have HN0 := Lib.hid hN0
    clear hro2 er2 eo2 H2 hb hrow hA ho hcm hlc hN0 HQ HLEN
    go_wp2_with fail
    go_loopw [29] (fun ix wr => ∃ (k : Nat) (ro' : Nat → Role) (R F : List Int) (q1 q2 : Option Nat), k ≤ N0 ∧ ix = .int .i64 k ∧ Hid (∀ q, q < w2.heap.size → ro' q = ro2 q) ∧ Hid (Hp ro' hn wr B bm bb sz f (h.queued i R F q1 q2)) ∧ Hid (RFr ro2 w2 wr (hpX hn)) ∧ Hid (R = (h.Q1 i).drop k ∧ F = h.Q2 i ++ (h.Q1 i).take k) ∧ Hid (∀ j x, j < k → (h.Q1 i)[j]? = some x → FullKey h.S x)) (fun ix _ => N0 - (intOf ix).toNat)
    case atStart => exact ⟨0, ro2, h.Q1 i, h.Q2 i, h.g1 i, h.g2 i, by omega, rfl, fun _ _ => rfl, by rw [HeapR.queued_self]; exact HH2.out, RFr.of_below (Below.refl _ _), ⟨by simp, by simp⟩, fun j x hj => absurd hj (by omega)⟩
    case round =>
      obtain ⟨k, ro', R, F, q1, q2, hk, rfl, HRO, HP, HRF, HFI, HFU⟩ := hrel
      have hro : IntRow wr w2.heap.size A N0 (h.Q1 i) := IntRow.below HROW.out (fun ad e => HRF.out.block ad.block (HAB.out ad e).2 (by rw [HO2.out _ (HAB.out ad e).1]; rintro (h | ⟨_, _, h⟩ | h | ⟨_, _, h⟩) <;> cases h))
      by_cases hlt : k < N0
      · obtain ⟨gg, off, y, hAe, hy, hcy⟩ := hro.at_ HA.out hlt
        have hym := List.mem_of_getElem? hy
        obtain ⟨s, hs, p, hp, rfl, hpc⟩ := HP.out.hp.link i (by omega) y (by
          show y ∈ updF h.Q1 i R i ∨ y ∈ updF h.Q2 i F i
          rw [updF_same, updF_same, HFI.out.1]
          exact .inl (List.mem_of_getElem? (i := 0) (by rw [List.getElem?_drop, Nat.add_zero]; exact hy)))
        have HPC := Lib.hid hpc
        have HY := Lib.hid hy
        clear hpc
        have hpok := (HP.out.hp.segs s hs).pages p hp
        have hp64 := (HP.out.hp.segs s hs).seg.pl64
        have hpf := hpok.fit
        have hps := hpok.s1
        have HKEY := Lib.hid (HP.out.hp.find_key hs hp)
        obtain ⟨key, hkey⟩ : ∃ key, key = s.pl * 16 + p.at_ := ⟨_, rfl⟩
        rw [← hkey] at hcy HKEY hym HY
        have HKY := Lib.hid hkey
        have hk1024 : key < 1024 := by omega
        have HYM := Lib.hid hym
        clear hkey hy hym hro
        subst hAe
        go_wp2_with fail
        (with_reducible refine (start_any _ key (by omega)).mono ?_)
        rintro e w3 ⟨rfl, rfl⟩
        obtain ⟨ad, had⟩ : ∃ ad, ad = key * 1024 := ⟨_, rfl⟩
        rw [← had] at HKEY ⊢
        have hadl : ad < 18446744073709551616 := by omega
        clear had
        have HFIND := Lib.hid (find_any HP.out.hp ad hadl)
        rw [HKEY.out, show (h.queued i R F q1 q2).bh = h.bh from rfl] at HFIND
        simp only [Option.map_some, ptrV] at HFIND
        go_wp2_with fail
        (with_reducible refine HFIND.out.mono ?_)
        rintro e w4 ⟨rfl, B4⟩
        have HP4 := Lib.hid (HP.out.below B4)
        have HB4 := Lib.hid B4
        have hpok4 := (HP4.out.hp.segs s hs).pages p hp
        have c0 : w4.cell? ⟨p.bo, 0, none⟩ = some (.pointer (some ⟨p.bp, 0, none⟩)) := hpok4.own.at0 (by omega) rfl
        have hneb : p.bp ≠ bb := fun e => by have h1 := hpok4.rp; rw [e, HP4.out.rb] at h1; cases h1
        have hnem : p.bp ≠ bm := fun e => by have h1 := hpok4.rp; rw [e, HP4.out.rm] at h1; cases h1
        have HAL := Lib.hid (pageAlloc_any hpok4.page HP4.out.mem hpok4.inv hneb hnem)
        clear B4 HFIND hpok hpok4 hneb hnem
        go_wp2_with fail
        (with_reducible refine HAL.out.mono ?_)
        rintro e w5 (⟨f5, pg5, a, rfl, hg, hpg, hm, hfr⟩ | ⟨rfl, hfu1, hfu2, hfu3, hpg, hm, hfr⟩)
        · obtain ⟨T1, T2⟩ := HP4.out.turned hs hp hfr hpg hm hg.inv hg.far hg.sf hg.ss hg.sn
          have HT1 := Lib.hid T1
          have HT2 := Lib.hid T2
          have HGG := Lib.hid hg
          clear hg hpg hm hfr T1 T2 HAL c0
          go_wp2_with fail
          go_ret2
          have e1 : ∀ q, q < w1.heap.size → ro' q = ro q := fun q hq => (HRO.out q (Nat.lt_of_lt_of_le hq HB2.out.size)).trans (HE2.out q hq)
          have r1 : RFr ro w1 w3 (hpX hn) := (RFr.of_below HB2.out).over HE2.out HRF.out
          have r2 : RFr ro w1 w4 (hpX hn) := r1.over (fun _ _ => rfl) (RFr.of_below HB4.out)
          obtain ⟨eR, eF⟩ := HFI.out
          subst eR eF
          have hky := HY.out
          rw [HKY.out] at hky
          exact .inl ⟨i, by omega, rfl, hi, ro', k, q1, q2, e1, r2.over e1 HT2.out, HFU.out, .inl ⟨s, hs, p, hp, f5, pg5, a, HPC.out, hky, HGG.out, rfl, HT1.out⟩⟩
        · have hinv := ((HP4.out.hp.segs s hs).pages p hp).inv
          obtain ⟨T1, T2⟩ := HP4.out.turned hs hp hfr hpg hm hinv (fun _ _ => rfl) rfl rfl rfl
          have T1' : Hp ro' hn w5 B bm bb sz f (h.queued i R F q1 q2) := by
            have e := HP4.out.hp.setPg_self hs hp
            have T3 : Hp ro' hn w5 B bm bb sz f { h.queued i R F q1 q2 with S := (h.queued i R F q1 q2).S } := e ▸ T1
            exact T3
          have HT1 := Lib.hid T1'
          have HT2 := Lib.hid T2
          have HFK : Hid (FullKey h.S (key : Int)) := ⟨s, hs, p, hp, by rw [HKY.out], hfu1, hfu2, hfu3⟩
          have HFQ0 := HT1.out.hp.q i (by omega)
          have HQL := HT1.out.hp.qlen (c := i) (by omega)
          have hu1 : (h.queued i R F q1 q2).Q1 i = R := updF_same _ _ _
          have hu2 : (h.queued i R F q1 q2).Q2 i = F := updF_same _ _ _
          have hu3 : (h.queued i R F q1 q2).g1 i = q1 := updF_same _ _ _
          have hu4 : (h.queued i R F q1 q2).g2 i = q2 := updF_same _ _ _
          rw [hu1, hu2, hu3, hu4] at HFQ0
          rw [hu1, hu2] at HQL
          have HFQ := Lib.hid (fill_any w5 B h.bh (2 * i) R F _ _ (key : Int) HFQ0 HT1.out.b (by omega))
          have HU := Lib.hid (And.intro hu1 (And.intro hu2 (And.intro hu3 hu4)))
          clear hpg hm hfr T1 T1' T2 HAL c0 hinv HFQ0 hu1 hu2 hu3 hu4 hfu1 hfu2 hfu3
          go_wp2_with fail
          (with_reducible refine HFQ.out.mono ?_)
          rintro e w6 ⟨rfl, hq6⟩
          have HQ6 := Lib.hid hq6
          clear hq6 HFQ
          go_wp2_with fail
          have HQ0 := HT1.out.hp.qo i (by omega)
          have HL0 := HT1.out.hp.link i (by omega)
          obtain ⟨hu1, hu2, hu3, hu4⟩ := HU.out
          rw [hu1, hu2] at HQ0 HL0
          have HQT : QTo w5 w6 B (h.queued i R F q1 q2).bh (2 * i) ((h.queued i R F q1 q2).g1 i) ((h.queued i R F q1 q2).g2 i) (fillS R F (key : Int)).2.1 (fillS R F (key : Int)).2.2 := by rw [hu3, hu4]; exact HQ6.out
          obtain ⟨ro6, k1, k2, e6, H6, r6⟩ := HT1.out.queued (c := i) (by omega) HQT (HQ0.fill _) (fun y hy => HL0 y (fillS_mem.1 hy))
          rw [HeapR.queued_queued] at H6
          have e3 : ∀ q, q < w2.heap.size → ro' q = ro2 q := HRO.out
          have r3 : RFr ro2 w2 w3 (hpX hn) := HRF.out
          have r4 : RFr ro2 w2 w4 (hpX hn) := r3.over (fun _ _ => rfl) (RFr.of_below HB4.out)
          have r5 : RFr ro2 w2 w5 (hpX hn) := r4.over e3 HT2.out
          have z5 : w2.heap.size ≤ w5.heap.size := r5.size
          have r7 : RFr ro2 w2 w6 (hpX hn) := r5.over e3 r6
          have HR6 := Lib.hid r7
          have HE6 : Hid (∀ q, q < w2.heap.size → ro6 q = ro2 q) := Lib.hid (fun q hq => (e6 q (Nat.lt_of_lt_of_le hq z5)).trans (e3 q hq))
          have HH6 := Lib.hid H6
          clear r3 r4 r5 r6 r7 e6 H6 e3 z5 HQ0 HL0 hu1 hu2 hu3 hu4 HQT
          go_roundw
          case rel =>
            refine ⟨k + 1, ro6, _, _, k1, k2, by omega, by go_num, HE6, HH6, HR6, ?_, fun j x hj hx => ?_⟩
            · obtain ⟨eR, eF⟩ := HFI.out
              have hky := HY.out
              have hkl := (List.getElem?_eq_some_iff.1 hky).1
              have hd : (h.Q1 i).drop k = (key : Int) :: (h.Q1 i).drop (k + 1) := by
                rw [List.drop_eq_getElem_cons hkl]
                congr 1
                rw [List.getElem?_eq_getElem hkl] at hky
                injection hky
              rw [eR, eF, hd, fill_head]
              refine ⟨rfl, ?_⟩
              show h.Q2 i ++ (h.Q1 i).take k ++ [(key : Int)] = _
              rw [List.append_assoc, List.take_add_one, hky]
              rfl
            · rcases Nat.lt_or_ge j k with h1 | h1
              · exact HFU.out j x h1 hx
              · obtain rfl : j = k := by omega
                rw [HY.out] at hx
                injection hx with hx
                rw [← hx]
                exact HFK.out
          case measure => simp [intOf]; omega
      · obtain rfl : k = N0 := by omega
        clear hro
        go_wp2_with fail
        go_ret2
        have e1 : ∀ q, q < w1.heap.size → ro' q = ro q := fun q hq => (HRO.out q (Nat.lt_of_lt_of_le hq HB2.out.size)).trans (HE2.out q hq)
        obtain ⟨eR, eF⟩ := HFI.out
        rw [List.drop_of_length_le (by rw [HN0.out]; exact Nat.le_refl _)] at eR
        rw [List.take_of_length_le (by rw [HN0.out]; exact Nat.le_refl _)] at eF
        subst eR eF
        exact .inl ⟨i, by omega, rfl, hi, ro', k, q1, q2, e1, (RFr.of_below HB2.out).over HE2.out HRF.out, HFU.out, .inr ⟨rfl, HN0.out, HP.out⟩⟩
  · go_enter Tryz.func15, Tryz.ntmps15
    go_wp2_with fail
    refine (HR.out _).mono ?_
    rintro e w1 ⟨rfl, rfl⟩
    by_cases e1 : c = -1
    · subst e1
      rw [show rowIx (-1) = some 12 from rfl]
      simp only [Option.map_some]
      go_wp2_with fail
      go_ret2
      exact .inr ⟨by omega, rfl, rfl⟩
    · have hr : rowIx c = none := by
        unfold rowIx
        rw [if_neg e1, if_neg hc]
      rw [hr]
      simp only [Option.map_none]
      clear e1 hr
      go_wp2_with fail
      go_ret2
      exact .inr ⟨by omega, rfl, rfl⟩
end Go.Proofs.YtbljphaklciinaaGreat

/- Layer 12 (heap): a heap with a page more. -/
namespace Go.Proofs.YtbljphaklciinaaGreat
open Go.RowKit
variable {ro ro' : Nat → Role} {hn : Nat} {w w' : World} {B bm bb sz : Nat} {f g : Nat → Nat} {h : HeapR} {X : Role → Prop}

/-- A heap whose segments have turned, its own blocks not. -/
theorem HeapAt.reseg (H : HeapAt ro hn w B bm sz f h) (hf : RFr ro w w' X) (x1 : ¬ X (.heap hn)) (x2 : ∀ c i, ¬ X (.row hn c i)) (x3 : ¬ X (.segs hn)) {S' : List SegR} (e : segP S' = segP h.S)
    (segs : ∀ s ∈ S', SegOk ro w' bm sz g s) (pls : S'.Pairwise fun s t => s.pl ≠ t.pl)
    (link : ∀ c, c < 13 → ∀ k, k ∈ h.Q1 c ∨ k ∈ h.Q2 c → ∃ s ∈ S', ∃ p ∈ s.P, k = ((s.pl * 16 + p.at_ : Nat) : Int) ∧ rowIx p.cls = some c) : HeapAt ro hn w' B bm sz g { h with S := S' } := by
  have hbh := hf.block h.bh H.lt_h (by rw [H.rb]; exact x1)
  have hlen : S'.length = h.S.length := by
    have := congrArg List.length e
    simpa [segP] using this
  obtain ⟨v, hv, ho, hg⟩ := H.c29
  exact {
    rb := H.rb
    c26 := (World.cell?_of_block (a := ⟨h.bh, 26, none⟩) hbh).trans H.c26
    c27 := (World.cell?_of_block (a := ⟨h.bh, 27, none⟩) hbh).trans H.c27
    c28 := (World.cell?_of_block (a := ⟨h.bh, 28, none⟩) hbh).trans H.c28
    c29 := ⟨v, (World.cell?_of_block (a := ⟨h.bh, 29, none⟩) hbh).trans hv, by
      show w'.ownsRow B _ 1 v S'.length (segP S')
      rw [e, hlen]
      exact own_stays ho (fun k hk => hf.block k (ho.lt k hk).2 (by rw [H.rs k (hg.symm.trans hk)]; exact x3)), hg⟩
    z29 := (World.frozen?_of_block (a := ⟨h.bh, 29, none⟩) hbh).trans H.z29
    q := fun c hc => (H.q c hc).stays hbh (fun k e => hf.block k ((H.q c hc).r1.g_lt k e).2 (by rw [H.r1 c hc k e]; exact x2 c _)) (fun k e => hf.block k ((H.q c hc).r2.g_lt k e).2 (by rw [H.r2 c hc k e]; exact x2 c _))
    qo := H.qo
    r1 := H.r1
    r2 := H.r2
    rs := H.rs
    segs := segs
    pls := pls
    link := link
    len := by show S'.length ≤ 64; rw [hlen]; exact H.len }

def addI (pl : Nat) (p : PageR) (s : SegR) : SegR := if s.pl = pl then { s with P := s.P ++ [p] } else s
def addPg (pl : Nat) (p : PageR) (S : List SegR) : List SegR := S.map (addI pl p)
theorem addI_pl (pl : Nat) (p : PageR) (s : SegR) : (addI pl p s).pl = s.pl := by unfold addI; split <;> rfl
theorem addI_bs (pl : Nat) (p : PageR) (s : SegR) : (addI pl p s).bs = s.bs := by unfold addI; split <;> rfl
theorem segP_addPg (pl : Nat) (p : PageR) (S : List SegR) : segP (addPg pl p S) = segP S := by
  unfold segP addPg
  rw [List.map_map]
  refine List.map_congr_left fun s _ => ?_
  show Value.pointer (some ⟨(addI pl p s).bs, 0, none⟩) = _
  rw [addI_bs]

theorem segT_add (P : List PageR) (p : PageR) : segT (P ++ [p]) = setT (segT P) p.at_ p.sl true := by
  funext j
  unfold segT setT
  simp only [List.any_append, List.any_cons, List.any_nil, Bool.or_false]
  by_cases h : p.at_ ≤ j ∧ j < p.at_ + p.sl
  · rw [if_pos h]
    simp [covers, h]
  · rw [if_neg h]
    have : covers j p = false := by simp only [covers, decide_eq_false_iff_not]; exact h
    rw [this, Bool.or_false]

theorem cov_none {P : List PageR} {p : PageR} (hf : FreeRow (segT P) 16 p.sl p.at_) {j : Nat} (h : covers j p = true) : ∀ q ∈ P, covers j q = false := fun q hq => by
  simp only [covers, decide_eq_true_eq] at h
  have := hf.2 (j - p.at_) (by omega)
  rw [Nat.add_sub_cancel' h.1] at this
  unfold segT at this
  rw [Bool.or_eq_false_iff, List.any_eq_false] at this
  have h2 := this.2 q hq
  exact Bool.eq_false_iff.2 h2

theorem segO_add (P : List PageR) (p : PageR) (hf : FreeRow (segT P) 16 p.sl p.at_) : segO (P ++ [p]) = setO (segO P) p.at_ (p.at_ + p.sl) (some p.bo) := by
  funext j
  unfold segO setO
  rw [List.find?_append]
  by_cases h : p.at_ ≤ j ∧ j < p.at_ + p.sl
  · rw [if_pos h]
    have hc : covers j p = true := by simp [covers, h]
    have : P.find? (covers j) = none := by
      rw [List.find?_eq_none]
      intro q hq
      rw [cov_none hf hc q hq]
      nofun
    rw [this]
    simp [hc]
  · rw [if_neg h]
    have : covers j p = false := by simp only [covers, decide_eq_false_iff_not]; exact h
    simp [this]

/-- Roles with a new page's two blocks. -/
def roPg (ro : Nat → Role) (N pl at_ bo bp : Nat) (k : Nat) : Role := if k < N then ro k else if k = bo then .po pl at_ else if k = bp then .pp pl at_ else .other

def sgR (pl : Nat) (r : Role) : Prop := r = .sg pl ∨ r = .mk pl ∨ r = .tk pl
theorem sgR_ne {pl pl' : Nat} (h : pl ≠ pl') : ¬ sgR pl' (.sg pl) ∧ ¬ sgR pl' (.mk pl) ∧ ¬ sgR pl' (.tk pl) := by
  refine ⟨?_, ?_, ?_⟩ <;> (rintro (e | e | e) <;> cases e <;> exact h rfl)

theorem HeapAt.added (H : HeapAt ro hn w B bm sz f h) {s : SegR} (hs : s ∈ h.S) (p : PageR)
    (hseg : SegAt w' s.bs s.bk s.bt bm s.pl (setT (segT s.P) p.at_ p.sl true) (setO (segO s.P) p.at_ (p.at_ + p.sl) (some p.bo)) s.x s.t s.a) (hfr : FreeRow (segT s.P) 16 p.sl p.at_)
    (hown : OwnedAt w' p.bo p.bp p.cls p.at_ p.sl) (hpg : PageAt w' p.bp bm p.pg) (inv : PgInv f sz p.pg) (a1 : 1 ≤ p.at_) (s1 : 1 ≤ p.sl) (pf : p.pg.f = s.pl * 16384 + p.at_ * 1024) (ps : p.pg.n * p.pg.s ≤ p.sl * 1024)
    (c0 : -1 ≤ p.cls) (c1 : p.cls < 12) (n1 : w.heap.size ≤ p.bo) (n2 : w.heap.size ≤ p.bp) (ne : p.bo ≠ p.bp) (hF : Fr w w' (sgS s.bs s.bk s.bt)) :
    ∃ ro', (∀ k, k < w.heap.size → ro' k = ro k) ∧ HeapAt ro' hn w' B bm sz f { h with S := addPg s.pl p h.S } ∧ RFr ro w w' (sgR s.pl) := by
  have hso := H.segs s hs
  have hR : RFr ro w w' (sgR s.pl) := RFr.of_fr hF (fun k hk => by
    rcases hk with rfl | rfl | rfl
    · exact .inl hso.rs
    · exact .inr (.inl hso.rk)
    · exact .inr (.inr hso.rt))
  have e0 : ∀ k, k < w.heap.size → roPg ro w.heap.size s.pl p.at_ p.bo p.bp k = ro k := fun k hk => if_pos hk
  have hR' : RFr (roPg ro w.heap.size s.pl p.at_ p.bo p.bp) w w' (sgR s.pl) := ⟨hR.os, hR.tape, hR.output, hR.size, fun k hk hx => hR.block k hk (by rw [← e0 k hk]; exact hx)⟩
  have H' := H.role e0
  have hso' := H'.segs s hs
  refine ⟨roPg ro w.heap.size s.pl p.at_ p.bo p.bp, e0, H'.reseg hR' (by rintro (e | e | e) <;> cases e) (by rintro c i (e | e | e) <;> cases e) (by rintro (e | e | e) <;> cases e) (segP_addPg _ _ _) ?_ ?_ ?_, hR⟩
  · intro t ht
    obtain ⟨t0, ht0, rfl⟩ := List.mem_map.1 ht
    have h0 := H'.segs t0 ht0
    by_cases e : t0.pl = s.pl
    · have es := H.seg_at ht0 hs e
      subst es
      unfold addI
      rw [if_pos rfl]
      refine ⟨?_, h0.fit, fun q hq => ?_, ?_, h0.rs, h0.rk, h0.rt⟩
      · show SegAt w' t0.bs t0.bk t0.bt bm t0.pl (segT (t0.P ++ [p])) (segO (t0.P ++ [p])) t0.x t0.t t0.a
        rw [segT_add, segO_add _ _ hfr]
        exact hseg
      · rcases List.mem_append.1 hq with hq | hq
        · exact (h0.pages q hq).fr hR' (by rintro (e | e | e) <;> cases e) (by rintro (e | e | e) <;> cases e)
        · simp only [List.mem_singleton] at hq
          subst hq
          refine ⟨hown, hpg, inv, a1, s1, hfr.1, pf, ps, c0, c1, ?_, ?_⟩
          · unfold roPg; rw [if_neg (by omega), if_pos rfl]
          · unfold roPg; rw [if_neg (by omega), if_neg (fun e => ne e.symm), if_pos rfl]
      · show (t0.P ++ [p]).Pairwise _
        rw [List.pairwise_append]
        refine ⟨h0.apart, List.pairwise_singleton _ _, fun a ha b hb j hj => ?_⟩
        simp only [List.mem_singleton] at hb
        subst hb
        cases hc : covers j b with
        | false => rfl
        | true => rw [cov_none hfr hc a ha] at hj; cases hj
    · unfold addI
      rw [if_neg e]
      obtain ⟨y1, y2, y3⟩ := sgR_ne e
      exact h0.fr hR' y1 y2 y3 (fun q _ => ⟨(by rintro (e | e | e) <;> cases e), (by rintro (e | e | e) <;> cases e)⟩)
  · show (addPg s.pl p h.S).Pairwise _
    unfold addPg
    rw [List.pairwise_map]
    refine H.pls.imp fun {a b} hab => ?_
    rw [addI_pl, addI_pl]
    exact hab
  · intro c hc k hk
    obtain ⟨t, ht, q, hq, e, hr⟩ := H.link c hc k hk
    refine ⟨addI s.pl p t, List.mem_map.2 ⟨t, ht, rfl⟩, q, ?_, by rw [addI_pl]; exact e, hr⟩
    unfold addI
    split
    · exact List.mem_append_left _ hq
    · exact hq

theorem PgInv.new {F S N : Nat} (hR : RunOk F S N) (hfit : F + N * S ≤ sz) (h16 : 16 ≤ S) (h0 : 0 < F) : PgInv f sz (newPg F S N) := ⟨hR, hfit, h16, h0, Nat.zero_le _, by simp [newPg, Chain], by simp [newPg, Chain], by simp [newPg], by simp [newPg], rfl⟩
end Go.Proofs.YtbljphaklciinaaGreat

/- Layer 12 (heap): cut; Fresh. -/
namespace Go.Proofs.YtbljphaklciinaaGreat
open Go.RowKit
variable {ro ro' : Nat → Role} {hn : Nat} {w w' : World} {B bm bb sz : Nat} {f g : Nat → Nat} {h : HeapR} {X : Role → Prop}

/-- A plan for pages: the queue's row, the slices, the size, how many. -/
def PlanOk (c : Int) (q : Int) (i sl S N : Nat) : Prop := (c = -1 ∧ i = 12 ∧ (sl : Int) = q ∧ 1 ≤ sl ∧ sl ≤ 15 ∧ S = sl * 1024 ∧ N = 1) ∨ (c = (i : Int) ∧ i < 12 ∧ sl = sls.getD i 0 ∧ S = szs.getD i 0 ∧ N = blks.getD i 0)

theorem PlanOk.facts {c q : Int} {i sl S N : Nat} (h : PlanOk c q i sl S N) : i < 13 ∧ rowIx c = some i ∧ -1 ≤ c ∧ c < 12 ∧ 1 ≤ sl ∧ sl ≤ 15 ∧ 16 ≤ S ∧ 1 ≤ N ∧ N * S ≤ sl * 1024 := by
  rcases h with ⟨rfl, rfl, _, h1, h2, rfl, rfl⟩ | ⟨rfl, hi, rfl, rfl, rfl⟩
  · exact ⟨by omega, rfl, by omega, by omega, h1, h2, by omega, by omega, by omega⟩
  · obtain ⟨f1, f2, f3, f4, f5⟩ := class_fits hi
    refine ⟨by omega, ?_, by omega, by omega, f1, by omega, f3, f4, f5⟩
    unfold rowIx
    rw [if_neg (by omega), if_pos (by omega)]
    simp

set_option maxRecDepth 100000 in
set_option maxHeartbeats 2000000 in
theorem cut_any {bs bk bt pl : Nat} {T : Nat → Bool} {O : Nat → Option Nat} {x t a : Int} (h : SegAt w bs bk bt bm pl T O x t a) (M : MemAt w bm bb sz f) (hd : ∀ k, k = bm ∨ k = bb → k ≠ bs ∧ k ≠ bk ∧ k ≠ bt) (hpl : (pl + 1) * 16384 ≤ sz) (hT : T 0 = true)
    {c q u v : Int} {i sl S N : Nat} (hp : PlanOk c q i sl S N) :
    Calls Tryz.prog 55 #[.pointer (some ⟨bs, 0, none⟩), .agg #[.int .i64 c, .int .i64 q, .int .i64 u, .int .u64 v]] w (SegTo w bs bk bt bm pl T O x t a c sl S N) := by
  rcases hp with ⟨rfl, rfl, rfl, h1, h2, rfl, rfl⟩ | ⟨rfl, hi, rfl, rfl, rfl⟩
  · have HB := Lib.hid (fun w1 (hb : Below w.heap.size w w1) => (segBig (h.below hb) (M.below hb (Nat.le_refl _)) hd hpl hT h1 h2).mono fun e w' hh => hh.over hb)
    clear h M
    go_enter Tryz.func55, Tryz.ntmps55
    go_wp2_with fail
    (with_reducible refine (HB.out _ ((Below.refl _ _).alloc (Nat.le_refl _) _)).mono ?_)
    intro e w4 h5
    clear HB
    rcases h5 with ⟨at_, bo, bp, h1, h2, h3, rfl, h⟩ | ⟨h1, rfl, h⟩
    · have H5 := Lib.hid h
      have HF := Lib.hid (And.intro h1 h2)
      clear h h1 h2
      go_wp2_with fail
      go_ret2
      exact .inl ⟨at_, bo, bp, HF.out.1, HF.out.2, h3, rfl, H5.out⟩
    · have H5 := Lib.hid h
      have HF := Lib.hid h1
      clear h h1
      go_wp2_with fail
      go_ret2
      exact .inr ⟨HF.out, rfl, H5.out⟩
  · have HB := Lib.hid (fun w1 (hb : Below w.heap.size w w1) => (segPage (h.below hb) (M.below hb (Nat.le_refl _)) hd hpl hT hi).mono fun e w' hh => hh.over hb)
    have q1 : ((i : Int) == -1) = false := by simp
    clear h M
    generalize sls.getD i 0 = sl at *
    generalize szs.getD i 0 = S at *
    generalize blks.getD i 0 = N at *
    go_enter Tryz.func55, Tryz.ntmps55
    go_wp2_with fail
    (with_reducible refine (HB.out _ ((Below.refl _ _).alloc (Nat.le_refl _) _)).mono ?_)
    intro e w4 h5
    clear HB
    rcases h5 with ⟨at_, bo, bp, h1, h2, h3, rfl, h⟩ | ⟨h1, rfl, h⟩
    · have H5 := Lib.hid h
      have HF := Lib.hid (And.intro h1 h2)
      clear h h1 h2
      go_wp2_with fail
      go_ret2
      exact .inl ⟨at_, bo, bp, HF.out.1, HF.out.2, h3, rfl, H5.out⟩
    · have H5 := Lib.hid h
      have HF := Lib.hid h1
      clear h h1
      go_wp2_with fail
      go_ret2
      exact .inr ⟨HF.out, rfl, H5.out⟩

theorem setPg_addPg {pl : Nat} {p : PageR} {pg : Pg} {S : List SegR} (hne : ∀ s ∈ S, s.pl = pl → ∀ q ∈ s.P, q.at_ ≠ p.at_) : setPg pl p.at_ pg (addPg pl p S) = addPg pl { p with pg := pg } S := by
  unfold setPg addPg
  rw [List.map_map]
  refine List.map_congr_left fun s hs => ?_
  show (if (addI pl p s).pl = pl then { addI pl p s with P := setPP p.at_ pg (addI pl p s).P } else addI pl p s : SegR) = addI pl { p with pg := pg } s
  rw [addI_pl]
  unfold addI
  by_cases e : s.pl = pl
  · rw [if_pos e, if_pos e, if_pos e]
    have : setPP p.at_ pg (s.P ++ [p]) = s.P ++ [{ p with pg := pg }] := by
      unfold setPP
      rw [List.map_append]
      congr 1
      · rw [List.map_congr_left (g := id)]
        · simp
        · intro q hq
          exact if_neg (hne s hs e q hq)
      · simp
    rw [this]
  · rw [if_neg e, if_neg e, if_neg e]

theorem Hp.apart_seg (H : Hp ro hn w B bm bb sz f h) {s : SegR} (hs : s ∈ h.S) : ∀ k, k = bm ∨ k = bb → k ≠ s.bs ∧ k ≠ s.bk ∧ k ≠ s.bt := by
  have hso := H.hp.segs s hs
  have h1 := H.rm
  have h2 := H.rb
  rintro k (rfl | rfl)
  · exact ⟨(fun e => by rw [e, hso.rs] at h1; cases h1), (fun e => by rw [e, hso.rk] at h1; cases h1), (fun e => by rw [e, hso.rt] at h1; cases h1)⟩
  · exact ⟨(fun e => by rw [e, hso.rs] at h2; cases h2), (fun e => by rw [e, hso.rk] at h2; cases h2), (fun e => by rw [e, hso.rt] at h2; cases h2)⟩

theorem Hp.added (H : Hp ro hn w B bm bb sz f h) {s : SegR} (hs : s ∈ h.S) {bo bp at_ sl S N : Nat} {c : Int} (hS : 16 ≤ S) (hN : 1 ≤ N) (hNS : N * S ≤ sl * 1024) (hs1 : 1 ≤ sl)
    (hseg : SegAt w' s.bs s.bk s.bt bm s.pl (setT (segT s.P) at_ sl true) (setO (segO s.P) at_ (at_ + sl) (some bo)) s.x s.t s.a) (hfr : FreeRow (segT s.P) 16 sl at_)
    (hown : OwnedAt w' bo bp c at_ sl) (hpg : PageAt w' bp bm (newPg (s.pl * 16384 + at_ * 1024) S N)) (a1 : 1 ≤ at_) (c0 : -1 ≤ c) (c1 : c < 12) (n1 : w.heap.size ≤ bo) (n2 : w.heap.size ≤ bp) (ne : bo ≠ bp) (hF : Fr w w' (sgS s.bs s.bk s.bt)) :
    ∃ ro', (∀ k, k < w.heap.size → ro' k = ro k) ∧ Hp ro' hn w' B bm bb sz f { h with S := addPg s.pl ⟨bo, bp, c, at_, sl, newPg (s.pl * 16384 + at_ * 1024) S N⟩ h.S } ∧ RFr ro w w' (sgR s.pl) ∧ PgInv f sz (newPg (s.pl * 16384 + at_ * 1024) S N) := by
  have hfit := (H.hp.segs s hs).fit
  have hsz := H.mem.s1
  have hat := hfr.1
  have hN16 : N * 16 ≤ N * S := Nat.mul_le_mul_left _ hS
  have hSN : 1 * S ≤ N * S := Nat.mul_le_mul_right _ hN
  have hR : RunOk ((s.pl * 16384 + at_ * 1024 : Nat) : Int) (S : Int) (N : Int) := by
    have e : ((N : Int) * (S : Int)) = ((N * S : Nat) : Int) := by rw [Int.natCast_mul]
    exact ⟨by omega, by omega, by omega, by omega, by omega, by omega, by rw [e]; omega⟩
  have inv : PgInv f sz (newPg (s.pl * 16384 + at_ * 1024) S N) := PgInv.new hR (by omega) hS (by omega)
  obtain ⟨ro', e, hh, hr⟩ := H.hp.added hs ⟨bo, bp, c, at_, sl, newPg (s.pl * 16384 + at_ * 1024) S N⟩ hseg hfr hown hpg inv a1 hs1 rfl hNS c0 c1 n1 n2 ne hF
  have hlm := H.mem.lt_bm
  have hlb := H.mem.lt_bb
  exact ⟨ro', e, ⟨hh, H.mem.stays (hr.block bm hlm (by rw [H.rm]; rintro (h | h | h) <;> cases h)) (hr.block bb hlb (by rw [H.rb]; rintro (h | h | h) <;> cases h)), (e bm hlm).trans H.rm, (e bb hlb).trans H.rb, Nat.le_trans H.b hr.size⟩, hr, inv⟩

theorem HeapAt.at_new (H : HeapAt ro hn w B bm sz f h) {s : SegR} (hs : s ∈ h.S) {at_ sl : Nat} (hf : FreeRow (segT s.P) 16 sl at_) (hs1 : 1 ≤ sl) : ∀ t ∈ h.S, t.pl = s.pl → ∀ q ∈ t.P, q.at_ ≠ at_ := fun t ht e q hq ea => by
  have es := H.seg_at ht hs e
  subst es
  have h1 := ((H.segs t ht).pages q hq).s1
  have h2 := hf.2 0 hs1
  rw [Nat.add_zero] at h2
  unfold segT at h2
  rw [Bool.or_eq_false_iff, List.any_eq_false] at h2
  exact h2.2 q hq (by simp [covers]; omega)

theorem HeapAt.key_new (H : HeapAt ro hn w B bm sz f h) {s : SegR} (hs : s ∈ h.S) {at_ sl : Nat} (hf : FreeRow (segT s.P) 16 sl at_) (hs1 : 1 ≤ sl) {c : Nat} (hc : c < 13) : ¬ (((s.pl * 16 + at_ : Nat) : Int) ∈ h.Q1 c ∨ ((s.pl * 16 + at_ : Nat) : Int) ∈ h.Q2 c) := fun hk => by
  obtain ⟨t, ht, q, hq, e, _⟩ := H.link c hc _ hk
  have h1 := ((H.segs t ht).pages q hq).fit
  have h2 := ((H.segs t ht).pages q hq).s1
  have h3 := hf.1
  exact H.at_new hs hf hs1 t ht (by omega) q hq (by omega)

theorem eachS_one {S : List Int → List Int → Int → Int × List Int × List Int} {R F : List Int} {x : Int} : eachS S [x] R F = S R F x := by
  by_cases h : (S R F x).1 = 0
  · rw [eachS_go h]
    exact Prod.ext h.symm rfl
  · exact eachS_stop h

/-- A key in a row of its own. -/
theorem row_one (w : World) (k : Int) : IntRow (w.alloc (.cells #[.int .i64 k] 3)) (w.heap.size + 1) (some ⟨w.heap.size, 0, none⟩) 1 [k] := by
  refine ⟨by simp, fun _ => ⟨_, rfl, by simp, fun j u hu => ?_⟩⟩
  have hj : j = 0 := by
    have := (List.getElem?_eq_some_iff.1 hu).1
    simp at this
    omega
  subst hj
  simp at hu
  subst hu
  have := (Obj_.new w #[.int .i64 k] 3).cell 0 (by simp)
  rw [Nat.zero_add] at this
  exact this

theorem Hp.push1 (H : Hp ro hn w B bm bb sz f h) {i : Nat} (hi : i < 13) (k : Int) :
    Calls Tryz.prog 56 #[.pointer (some ⟨h.bh, 2 * i, none⟩), .slice (some ⟨w.heap.size, 0, none⟩) 1 1] (w.alloc (.cells #[.int .i64 k] 3)) fun e w' =>
      e = .returned (.int .i64 (pushS (h.Q1 i) (h.Q2 i) k).1) ∧ QTo (w.alloc (.cells #[.int .i64 k] 3)) w' B h.bh (2 * i) (h.g1 i) (h.g2 i) (pushS (h.Q1 i) (h.Q2 i) k).2.1 (pushS (h.Q1 i) (h.Q2 i) k).2.2 := by
  have B1 := (Below.refl w.heap.size w).alloc (Nat.le_refl _) (.cells #[.int .i64 k] 3)
  have hq := H.hp.q i hi
  have hl := H.hp.qlen hi
  have hb := H.hp.lt_h
  have := push_any (w.alloc (.cells #[.int .i64 k] 3)) B h.bh (2 * i) (h.Q1 i) (h.Q2 i) (h.g1 i) (h.g2 i) (hq.below B1 (Nat.le_refl _)) (by have := H.b; simp; omega) (w.heap.size + 1) (some ⟨w.heap.size, 0, none⟩) 1 1 [k] (row_one w k)
    (fun ad _ e => by
      injection e with e
      subst e
      exact ⟨rfl, by simp, by show w.heap.size ≠ h.bh; omega, fun e => by have := (hq.r1.g_lt _ e.symm).2; simp at this, fun e => by have := (hq.r2.g_lt _ e.symm).2; simp at this⟩) (by omega) (by simp)
  rw [eachS_one] at this
  exact this

theorem below_drewN {n : Nat} (h : Below n w w') (k : Nat) : Below n w (w'.drewN k) := ⟨h.os, h.tape, h.output, h.size, h.block⟩

theorem Hp.new_page {pl i : Nat} {p : PageR} {pg : Pg} {R F : List Int} {k1 k2 : Option Nat} (hne : ∀ s ∈ h.S, s.pl = pl → ∀ q ∈ s.P, q.at_ ≠ p.at_)
    (ht : Hp ro hn w B bm bb sz f { ({ h with S := addPg pl p h.S } : HeapR).queued i R F k1 k2 with S := setPg pl p.at_ pg (addPg pl p h.S) }) : Hp ro hn w B bm bb sz f (({ h with S := addPg pl { p with pg := pg } h.S } : HeapR).queued i R F k1 k2) := by
  rw [setPg_addPg hne] at ht
  exact ht

/-- All that a heap's call may turn, segments too. -/
def hpY (hn : Nat) (r : Role) : Prop := hpX hn r ∨ ∃ pl, sgR pl r

/-- What Fresh leaves where there is room. -/
def FreshTo (ro : Nat → Role) (hn : Nat) (w : World) (B bm bb sz : Nat) (f : Nat → Nat) (h : HeapR) (c : Int) (i sl S N : Nat) (e : Ending) (w' : World) : Prop :=
  ∃ s ∈ h.S, ∃ at_ bo bp ro' f' pg' k1 k2, FreeRow (segT s.P) 16 sl at_ ∧ (∀ j, j < at_ → ¬ FreeRow (segT s.P) 16 sl j) ∧ e = .returned (.tuple #[.int .u64 (s.pl * 16384 + at_ * 1024 : Nat), .int .i64 0]) ∧
    (∀ k, k < w.heap.size → ro' k = ro k) ∧ PgGot f sz (newPg (s.pl * 16384 + at_ * 1024) S N) f' pg' (s.pl * 16384 + at_ * 1024) ∧
    Hp ro' hn w' B bm bb sz f' ({ h with S := addPg s.pl ⟨bo, bp, c, at_, sl, pg'⟩ h.S }.queued i (h.Q1 i ++ [((s.pl * 16 + at_ : Nat) : Int)]) (h.Q2 i) k1 k2) ∧ RFr ro w w' (hpY hn)

set_option maxRecDepth 100000 in
set_option maxHeartbeats 8000000 in
theorem fresh_any (H : Hp ro hn w B bm bb sz f h) (c q u v : Int) (h1 : -9223372036854775808 ≤ c) (h2 : c ≤ 9223372036854775807) (h3 : -9223372036854775808 ≤ q) (h4 : q ≤ 9223372036854775807) :
    Calls Tryz.prog 20 #[.pointer (some ⟨h.bh, 0, none⟩), .agg #[.int .i64 c, .int .i64 q, .int .i64 u, .int .u64 v]] w fun e w' =>
      (∃ ec : Int, ec ≠ 0 ∧ e = .returned (.tuple #[.int .u64 0, .int .i64 ec]) ∧ Below w.heap.size w w' ∧ ∀ i sl S N, PlanOk c q i sl S N → ∀ s ∈ h.S, ∀ j, ¬ FreeRow (segT s.P) 16 sl j) ∨
      ∃ i sl S N, PlanOk c q i sl S N ∧ FreshTo ro hn w B bm bb sz f h c i sl S N e w' := by
  obtain ⟨w1, hw1⟩ : ∃ w1, w1 = w.alloc (.cells #[.int .i64 c, .int .i64 q, .int .i64 u, .int .u64 v] 54) := ⟨_, rfl⟩
  have B1 : Below w.heap.size w w1 := by rw [hw1]; exact (Below.refl _ _).alloc (Nat.le_refl _) _
  have hO := Obj_.new w #[.int .i64 c, .int .i64 q, .int .i64 u, .int .u64 v] 54
  rw [← hw1] at hO
  have k0 : w1.cell? ⟨w.heap.size, 0, none⟩ = some (.int .i64 c) := by have := hO.cell 0 (by simp); rw [Nat.zero_add] at this; exact this
  have k1 : w1.cell? ⟨w.heap.size, 1, none⟩ = some (.int .i64 q) := by have := hO.cell 1 (by simp); rw [Nat.zero_add] at this; exact this
  have k2 : w1.cell? ⟨w.heap.size, 2, none⟩ = some (.int .i64 u) := by have := hO.cell 2 (by simp); rw [Nat.zero_add] at this; exact this
  have k3 : w1.cell? ⟨w.heap.size, 3, none⟩ = some (.int .u64 v) := by have := hO.cell 3 (by simp); rw [Nat.zero_add] at this; exact this
  have s1 : w1.heap.size = w.heap.size + 1 := by rw [hw1]; simp
  have HW := Lib.hid hw1
  clear hw1 hO
  have HR := Lib.hid (fun z => row_any (w1.drewN z) h.bh c h1 h2)
  have HRZ : Hid (∀ z, (w1.drewN z).heap = w1.heap) := fun _ => rfl
  rcases (show (∃ i sl S N, PlanOk c q i sl S N) ∨ (c = -1 ∧ (q < 1 ∨ 16 ≤ q)) ∨ (c ≠ -1 ∧ (c < 0 ∨ 12 ≤ c)) from by
    by_cases e1 : c = -1
    · by_cases e2 : q < 1 ∨ 16 ≤ q
      · exact .inr (.inl ⟨e1, e2⟩)
      · exact .inl ⟨12, q.toNat, q.toNat * 1024, 1, .inl ⟨e1, rfl, by omega, by omega, by omega, rfl, rfl⟩⟩
    · by_cases e2 : c < 0 ∨ 12 ≤ c
      · exact .inr (.inr ⟨e1, e2⟩)
      · exact .inl ⟨c.toNat, _, _, _, .inr ⟨by omega, by omega, rfl, rfl, rfl⟩⟩) with ⟨i, sl, S, N, hp⟩ | ⟨rfl, hq⟩ | ⟨e1, e2⟩
  · have HPL := Lib.hid hp
    obtain ⟨hi, hrow, hc1, hc2, hs1, hs2, hS, hN, hNS⟩ := hp.facts
    have HROW := Lib.hid hrow
    rw [hrow] at HR
    simp only [Option.map_some] at HR
    have HH1 : Hid (Hp ro hn w1 B bm bb sz f h) := H.below B1
    obtain ⟨vv, hv, ho, hg⟩ := HH1.out.hp.c29
    obtain ⟨A, cc, rfl, hcc1, hcc2, hcs⟩ := own_at ho
    have HCS := Lib.hid hcs
    have hlen := HH1.out.hp.len
    have HB1 := Lib.hid B1
    have key : ∀ (b : Bool), (c == -1) = b → (b = true → (q < 1) = False ∧ (16 ≤ q) = False) → True := fun _ _ _ => trivial
    clear H ho hg hcs B1 hrow key
    have hguard : (c == -1) = false ∨ (c == -1) = true ∧ 1 ≤ q ∧ q < 16 := by
      rcases hp with ⟨rfl, _, e, h1, h2, _⟩ | ⟨rfl, _⟩
      · exact .inr ⟨rfl, by omega, by omega⟩
      · exact .inl (by simp)
    clear hp
    rcases hguard with hg | ⟨hg, hg1, hg2⟩ <;>
    · go_enter Tryz.func20, Tryz.ntmps20
      go_wp2_with fail
      rw [← HW.out]
      go_quiet ((first | (go_at_call 39; exact Calls.quiet_of_same (HR.out _)) | fail))
      have HB2 : Hid (Below w.heap.size w (w1.drewN nq)) := below_drewN HB1.out nq
      have HH2 : Hid (Hp ro hn (w1.drewN nq) B bm bb sz f h) := HH1.out.below (below_drewN (Below.refl _ _) nq)
      have d0 : (w1.drewN nq).cell? ⟨w.heap.size, 0, none⟩ = some (.int .i64 c) := k0
      have d1 : (w1.drewN nq).cell? ⟨w.heap.size, 1, none⟩ = some (.int .i64 q) := k1
      have d2 : (w1.drewN nq).cell? ⟨w.heap.size, 2, none⟩ = some (.int .i64 u) := k2
      have d3 : (w1.drewN nq).cell? ⟨w.heap.size, 3, none⟩ = some (.int .u64 v) := k3
      have dv : (w1.drewN nq).cell? ⟨h.bh, 29, none⟩ = some (.slice A h.S.length cc) := hv
      have ds : w.heap.size < (w1.drewN nq).heap.size := by show w.heap.size < w1.heap.size; omega
      have DCS : Hid (∀ k u, (segP h.S)[k]? = some u → ∃ g, A = some ⟨g, 0, none⟩ ∧ (w1.drewN nq).cell? ⟨g, k, none⟩ = some u) := HCS.out
      clear k0 k1 k2 k3 hv s1 HCS HH1 HB1 HR HRZ HW
      generalize w1.drewN nq = w2 at *
      go_wp2_with fail
      go_loopw [42] (fun ix wr => ∃ k : Nat, k ≤ h.S.length ∧ ix = .int .i64 k ∧ Hid (Below w2.heap.size w2 wr) ∧ Hid (∀ j t, j < k → h.S[j]? = some t → ∀ x, ¬ FreeRow (segT t.P) 16 sl x)) (fun ix _ => h.S.length - (intOf ix).toNat)
      case atStart => exact ⟨0, by omega, rfl, Below.refl _ _, fun j t hj => absurd hj (by omega)⟩
      case round =>
        obtain ⟨k, hk, rfl, HB, HN⟩ := hrel
        by_cases hlt : k < h.S.length
        · obtain ⟨s, hs⟩ : ∃ s, h.S[k]? = some s := ⟨_, List.getElem?_eq_getElem hlt⟩
          have hsm := List.mem_of_getElem? hs
          obtain ⟨gg, rfl, hcell⟩ := DCS.out k (.pointer (some ⟨s.bs, 0, none⟩)) (by simp [segP, hs])
          have hcell' := (HB.out.cell (p := ⟨gg, k, none⟩) (World.block_lt_of_cell? _ _ hcell)).trans hcell
          have j0 := (HB.out.cell (p := ⟨w.heap.size, 0, none⟩) ds).trans d0
          have j1 := (HB.out.cell (p := ⟨w.heap.size, 1, none⟩) ds).trans d1
          have j2 := (HB.out.cell (p := ⟨w.heap.size, 2, none⟩) ds).trans d2
          have j3 := (HB.out.cell (p := ⟨w.heap.size, 3, none⟩) ds).trans d3
          have HHr := Lib.hid (HH2.out.below HB.out)
          have hso := HHr.out.hp.segs s hsm
          have HCUT := Lib.hid (cut_any (u := u) (v := v) hso.seg HHr.out.mem (HHr.out.apart_seg hsm) hso.fit (by simp [segT]) HPL.out)
          have HS := Lib.hid hs
          have HSM := Lib.hid hsm
          clear hs hsm hso
          go_wp2_with fail
          (with_reducible refine HCUT.out.mono ?_)
          intro e w3 h5
          clear HCUT j0 j1 j2 j3 hcell'
          rcases h5 with ⟨at_, bo, bp, hf, hlow, ha1, rfl, n1, n2, nb, hsg, how, hpg, hfr⟩ | ⟨hno, rfl, hsg, hb3⟩
          · obtain ⟨ro3, e3, H3, r3, inv3⟩ := HHr.out.added HSM.out hS hN hNS hs1 hsg hf how hpg ha1 hc1 hc2 n1 n2 nb hfr
            have HE3 := Lib.hid e3
            have HP3 := Lib.hid H3
            have HR3 := Lib.hid r3
            have HI3 := Lib.hid inv3
            have HKEY := Lib.hid (key_any hsg how (by have := hf.1; omega))
            have HF := Lib.hid hf
            have HLOW := Lib.hid hlow
            have hat := hf.1
            clear e3 H3 r3 inv3 hsg how hf hlow hpg hfr HN
            go_wp2_with fail
            (with_reducible refine HKEY.out.mono ?_)
            rintro e w4 ⟨rfl, kk, hw4⟩
            have HP4 : Hid (Hp ro3 hn w4 B bm bb sz f { h with S := addPg s.pl ⟨bo, bp, c, at_, sl, newPg (s.pl * 16384 + at_ * 1024) S N⟩ h.S }) := by rw [hw4]; exact HP3.out.below (below_drewN (Below.refl _ _) kk)
            have HB4 : Hid (Below w3.heap.size w3 w4) := by rw [hw4]; exact below_drewN (Below.refl _ _) kk
            clear hw4 HKEY
            obtain ⟨key, hkey⟩ : ∃ key : Nat, key = s.pl * 16 + at_ := ⟨_, rfl⟩
            rw [← hkey]
            have HKY := Lib.hid hkey
            clear hkey
            have hps : pushS (h.Q1 i) (h.Q2 i) (key : Int) = (0, h.Q1 i ++ [(key : Int)], h.Q2 i) := by
              have hk := HHr.out.hp.key_new HSM.out HF.out hs1 hi
              rw [← HKY.out] at hk
              unfold pushS inQ
              rw [if_neg (by simpa using hk)]
            have hpu := HP4.out.push1 hi (key : Int)
            simp only [hps] at hpu
            have HPU := Lib.hid hpu
            have HPS := Lib.hid hps
            clear hpu hps
            go_wp2_with fail
            (with_reducible refine HPU.out.mono ?_)
            rintro e w6 ⟨rfl, hq6⟩
            obtain ⟨w5, hw5⟩ : ∃ w5, w5 = w4.alloc (.cells #[.int .i64 (key : Int)] 3) := ⟨_, rfl⟩
            have B5 : Below w4.heap.size w4 w5 := by rw [hw5]; exact (Below.refl _ _).alloc (Nat.le_refl _) _
            rw [← hw5] at hq6
            have hQO : QOnce (h.Q1 i ++ [(key : Int)]) (h.Q2 i) := by
              have := (HHr.out.hp.qo i hi).push (key : Int)
              rw [HPS.out] at this
              exact this
            have HP5 := HP4.out.below B5
            have hlink : ∀ k, k ∈ h.Q1 i ++ [(key : Int)] ∨ k ∈ h.Q2 i → ∃ s' ∈ addPg s.pl ⟨bo, bp, c, at_, sl, newPg (s.pl * 16384 + at_ * 1024) S N⟩ h.S, ∃ p ∈ s'.P, k = ((s'.pl * 16 + p.at_ : Nat) : Int) ∧ rowIx p.cls = some i := fun k hk => by
              rw [List.mem_append] at hk
              rcases hk with (hk | hk) | hk
              · exact HP5.hp.link i hi k (.inl hk)
              · simp only [List.mem_singleton] at hk
                refine ⟨addI s.pl ⟨bo, bp, c, at_, sl, newPg (s.pl * 16384 + at_ * 1024) S N⟩ s, List.mem_map.2 ⟨s, HSM.out, rfl⟩, ⟨bo, bp, c, at_, sl, newPg (s.pl * 16384 + at_ * 1024) S N⟩, ?_, ?_, HROW.out⟩
                · unfold addI
                  rw [if_pos rfl]
                  simp
                · rw [addI_pl, hk, HKY.out]
              · exact HP5.hp.link i hi k (.inr hk)
            obtain ⟨ro6, g1, g2, e6, H6, r6⟩ := HP5.queued hi hq6 hQO hlink
            have hs6 : addI s.pl ⟨bo, bp, c, at_, sl, newPg (s.pl * 16384 + at_ * 1024) S N⟩ s ∈ addPg s.pl ⟨bo, bp, c, at_, sl, newPg (s.pl * 16384 + at_ * 1024) S N⟩ h.S := List.mem_map.2 ⟨s, HSM.out, rfl⟩
            have hp6 : (⟨bo, bp, c, at_, sl, newPg (s.pl * 16384 + at_ * 1024) S N⟩ : PageR) ∈ (addI s.pl ⟨bo, bp, c, at_, sl, newPg (s.pl * 16384 + at_ * 1024) S N⟩ s).P := by
              unfold addI
              rw [if_pos rfl]
              simp
            have HS6 := Lib.hid hs6
            have HP6 := Lib.hid hp6
            have HH6 := Lib.hid H6
            have HE6 : Hid (∀ k, k < w.heap.size → ro6 k = ro k) := fun k hk => by
              have z2 := HB2.out.size
              have zr := HB.out.size
              have z3 := HR3.out.size
              have z4 := HB4.out.size
              have z5 := B5.size
              rw [e6 k (by omega), HE3.out k (by omega)]
            have HR6 : Hid (RFr ro w w6 (hpY hn)) := by
              have r1 : RFr ro w wr (hpY hn) := RFr.of_below (HB2.out.trans (HB.out.mono HB2.out.size))
              have r3 : RFr ro w w3 (hpY hn) := r1.over (fun _ _ => rfl) (HR3.out.mono fun r h => .inr ⟨_, h⟩)
              have r5 : RFr ro w w5 (hpY hn) := (r3.over (fun _ _ => rfl) (RFr.of_below HB4.out)).over (fun _ _ => rfl) (RFr.of_below B5)
              have z2 := HB2.out.size
              have zr := HB.out.size
              exact r5.over (fun k hk => HE3.out k (by omega)) (r6.mono fun r h => .inl h)
            have hpok6 := (HH6.out.hp.segs _ HS6.out).pages _ HP6.out
            have c0 : w6.cell? ⟨bo, 0, none⟩ = some (.pointer (some ⟨bp, 0, none⟩)) := hpok6.own.at0 (by omega) rfl
            have hneb : bp ≠ bb := fun e => by have h1 := hpok6.rp; rw [e, HH6.out.rb] at h1; cases h1
            have hnem : bp ≠ bm := fun e => by have h1 := hpok6.rp; rw [e, HH6.out.rm] at h1; cases h1
            have hinv := hpok6.inv
            have HI6 := Lib.hid hinv
            have HAL := Lib.hid (pageAlloc_more (k := min 4 (N - 0)) hpok6.page HH6.out.mem hneb hnem rfl rfl hinv.run hinv.fit (by have := hinv.s16; omega) hinv.f0 hN (Nat.zero_le _) rfl)
            clear hq6 hw5 B5 hQO HP5 hlink e6 H6 r6 hs6 hp6 hpok6 hneb hnem hinv HPU HP4 HI3 HR3 HB4 HP3
            go_wp2_with fail
            (with_reducible refine HAL.out.mono ?_)
            rintro e w7 ⟨rfl, hpg, hm, hfr⟩
            have G := PgGot.more HI6.out HH6.out.mem.s1 (k := min 4 (N - 0)) rfl rfl (by omega) (by show 0 + _ ≤ N; omega)
            obtain ⟨T1, T2⟩ := HH6.out.turned HS6.out HP6.out hfr hpg hm G.inv G.far G.sf G.ss G.sn
            have HT1 := Lib.hid T1
            have HT2 := Lib.hid T2
            have HG := Lib.hid G
            clear hpg hm hfr T1 T2 HAL c0 G
            go_wp2_with fail
            go_ret2
            have eI : ((newPg (s.pl * 16384 + at_ * 1024) S N).f : Int) + ((newPg (s.pl * 16384 + at_ * 1024) S N).made : Int) * ((newPg (s.pl * 16384 + at_ * 1024) S N).s : Int) = ((s.pl * 16384 + at_ * 1024 : Nat) : Int) := by simp [newPg]
            have eN : (newPg (s.pl * 16384 + at_ * 1024) S N).f + (newPg (s.pl * 16384 + at_ * 1024) S N).made * (newPg (s.pl * 16384 + at_ * 1024) S N).s = s.pl * 16384 + at_ * 1024 := by simp [newPg]
            have hg := HG.out
            rw [eN] at hg
            refine .inr ⟨i, sl, S, N, HPL.out, s, HSM.out, at_, bo, bp, ro6, _, _, g1, g2, HF.out, HLOW.out, ?_, HE6.out, hg, ?_, HR6.out.over HE6.out (HT2.out.mono fun r h => .inl h)⟩
            · show Ending.returned (.tuple #[.int .u64 (((newPg (s.pl * 16384 + at_ * 1024) S N).f : Int) + ((newPg (s.pl * 16384 + at_ * 1024) S N).made : Int) * ((newPg (s.pl * 16384 + at_ * 1024) S N).s : Int)), .int .i64 0]) = _
              rw [eI]
            · have ht := HT1.out
              rw [addI_pl] at ht
              rw [← HKY.out]
              exact Hp.new_page (p := ⟨bo, bp, c, at_, sl, newPg (s.pl * 16384 + at_ * 1024) S N⟩) (HHr.out.hp.at_new HSM.out HF.out hs1) ht
          · have HB3 : Hid (Below w2.heap.size w2 w3) := HB.out.trans (hb3.mono HB.out.size)
            have HN3 : Hid (∀ j t, j < k + 1 → h.S[j]? = some t → ∀ x, ¬ FreeRow (segT t.P) 16 sl x) := fun j t hj ht => by
              rcases Nat.lt_or_ge j k with h | h
              · exact HN.out j t h ht
              · obtain rfl : j = k := by omega
                rw [HS.out] at ht
                injection ht with ht
                subst ht
                exact hno
            clear hno hsg hb3
            go_wp2_with fail
            all_goals go_roundw
            case rel => exact ⟨k + 1, by omega, by go_num, HB3, HN3⟩
            case measure => simp [intOf]; omega
        · obtain rfl : k = h.S.length := by omega
          go_wp2_with fail
          all_goals go_ret2
          refine .inl ⟨4, by omega, rfl, HB2.out.trans (HB.out.mono HB2.out.size), fun i' sl' S' N' hp' t ht => ?_⟩
          obtain ⟨j, hj, rfl⟩ := List.mem_iff_getElem.1 ht
          have e : sl' = sl := by
            rcases HPL.out with ⟨a1, a2, a3, _⟩ | ⟨a1, a2, a3, _⟩ <;> rcases hp' with ⟨b1, b2, b3, _⟩ | ⟨b1, b2, b3, _⟩
            · omega
            · omega
            · omega
            · have : i' = i := by omega
              subst this
              rw [a3, b3]
          rw [e]
          exact HN.out j _ hj (List.getElem?_eq_getElem hj)
  · have HPN : Hid (∀ i sl S N, ¬ PlanOk (-1) q i sl S N) := fun i sl S N hp => by
      rcases hp with ⟨_, _, e, h1, h2, _⟩ | ⟨e, _⟩ <;> omega
    rw [show rowIx (-1) = some 12 from rfl] at HR
    simp only [Option.map_some] at HR
    have HB1 := Lib.hid B1
    clear H B1
    rcases hq with hq | hq
    · go_enter Tryz.func20, Tryz.ntmps20
      go_wp2_with fail
      rw [← HW.out]
      go_quiet ((first | (go_at_call 39; exact Calls.quiet_of_same (HR.out _)) | fail))
      go_wp2_with fail
      go_ret2
      exact .inl ⟨2, by omega, rfl, below_drewN HB1.out nq, fun i sl S N hp => absurd hp (HPN.out i sl S N)⟩
    · go_enter Tryz.func20, Tryz.ntmps20
      go_wp2_with fail
      rw [← HW.out]
      go_quiet ((first | (go_at_call 39; exact Calls.quiet_of_same (HR.out _)) | fail))
      go_wp2_with fail
      go_ret2
      exact .inl ⟨2, by omega, rfl, below_drewN HB1.out nq, fun i sl S N hp => absurd hp (HPN.out i sl S N)⟩
  · have HPN : Hid (∀ i sl S N, ¬ PlanOk c q i sl S N) := fun i sl S N hp => by
      rcases hp with ⟨e, _⟩ | ⟨e, h, _⟩ <;> omega
    rw [show rowIx c = none from by unfold rowIx; rw [if_neg e1, if_neg (by omega)]] at HR
    simp only [Option.map_none] at HR
    have HB1 := Lib.hid B1
    clear H B1
    go_enter Tryz.func20, Tryz.ntmps20
    go_wp2_with fail
    rw [← HW.out]
    go_quiet ((first | (go_at_call 39; exact Calls.quiet_of_same (HR.out _)) | fail))
    go_wp2_with fail
    go_ret2
    exact .inl ⟨2, by omega, rfl, below_drewN HB1.out nq, fun i sl S N hp => absurd hp (HPN.out i sl S N)⟩
end Go.Proofs.YtbljphaklciinaaGreat

/- Layer 12 (heap): a heap with a segment more; the arena beside a heap. -/
namespace Go.Proofs.YtbljphaklciinaaGreat
open Go.RowKit
variable {ro ro' : Nat → Role} {hn : Nat} {w w' : World} {B bm bb sz : Nat} {f g : Nat → Nat} {h : HeapR} {X : Role → Prop}

/-- An arena's state. -/
structure ArR where
  bk : Nat
  bt : Nat
  n : Nat
  lim : Nat
  T : Nat → Bool
  R : List (Nat × Nat)
  g : Option Nat
  rf : Nat

structure ArOk (ro : Nat → Role) (w : World) (B ba : Nat) (a : ArR) : Prop where
  at_ : ArenaAt w B ba a.bk a.bt a.n a.lim a.T a.R a.g a.rf
  ra : ro ba = .ar 0
  rk : ro a.bk = .ar 1
  rt : ro a.bt = .ar 2
  rg : ∀ k, a.g = some k → ro k = .ar 3

theorem ArOk.role {ba : Nat} {a : ArR} (h : ArOk ro w B ba a) (e : ∀ k, k < w.heap.size → ro' k = ro k) : ArOk ro' w B ba a :=
  ⟨h.at_, (e _ h.at_.lt_a).trans h.ra, (e _ h.at_.marks.lt_b).trans h.rk, (e _ h.at_.marks.lt_bt).trans h.rt, fun k hk => (e _ (h.at_.lt_g hk).1).trans (h.rg k hk)⟩
theorem ArOk.fr {ba : Nat} {a : ArR} (h : ArOk ro w B ba a) (hf : RFr ro w w' X) (hx : ∀ i, ¬ X (.ar i)) : ArOk ro w' B ba a :=
  ⟨h.at_.stays (hf.block _ h.at_.lt_a (by rw [h.ra]; exact hx _)) (hf.block _ h.at_.marks.lt_b (by rw [h.rk]; exact hx _)) (hf.block _ h.at_.marks.lt_bt (by rw [h.rt]; exact hx _)) (fun k hk => hf.block k (h.at_.lt_g hk).1 (by rw [h.rg k hk]; exact hx _)), h.ra, h.rk, h.rt, h.rg⟩
/-- Behind a call that turns nothing of the arena's. -/
theorem ArOk.over {ba : Nat} {a : ArR} (h : ArOk ro w B ba a) (hf : RFr ro w w' X) (hx : ∀ i, ¬ X (.ar i)) (e : ∀ k, k < w.heap.size → ro' k = ro k) : ArOk ro' w' B ba a :=
  (h.role e).fr (X := X) ⟨hf.os, hf.tape, hf.output, hf.size, fun k hk hn => hf.block k hk (by rw [← e k hk]; exact hn)⟩ hx
theorem hpY_ar {hn i : Nat} : ¬ hpY hn (.ar i) := by
  rintro ((h | ⟨_, _, h⟩ | h | ⟨_, _, h⟩) | ⟨_, h | h | h⟩) <;> cases h

theorem nodup_pls {S : List SegR} (h : S.Pairwise fun s t => s.pl ≠ t.pl) (hl : ∀ s ∈ S, s.pl < 64) : S.length ≤ 64 := by
  have := nodup_bound 64 (S.map (·.pl)) (by
    rw [List.Nodup, List.pairwise_map]
    exact h) (fun x hx => by
    obtain ⟨s, hs, rfl⟩ := List.mem_map.1 hx
    exact hl s hs)
  simpa using this

/-- A heap with a segment more. -/
theorem HeapAt.grown (H : HeapAt ro hn w B bm sz f h) (hf : RFr ro w w' X) (x1 : ∀ c i, ¬ X (.row hn c i)) (x2 : ∀ pl, ¬ X (.sg pl) ∧ ¬ X (.mk pl) ∧ ¬ X (.tk pl)) (x3 : ∀ pl at_, ¬ X (.po pl at_) ∧ ¬ X (.pp pl at_))
    (e : ∀ k, k < w.heap.size → ro' k = ro k) {s : SegR} {gs : Option Nat} {v : Value} (hself : w'.heap[h.bh]? = (w.setCell ⟨h.bh, 29, none⟩ v).heap[h.bh]?) (ho : w'.ownsRow B 60 1 v (h.S.length + 1) (segP h.S ++ [.pointer (some ⟨s.bs, 0, none⟩)])) (hg : v.ownBlock = gs)
    (hrs : ∀ k, gs = some k → ro' k = .segs hn) (hs : SegOk ro' w' bm sz f s) (hpl : ∀ t ∈ h.S, t.pl ≠ s.pl) : HeapAt ro' hn w' B bm sz f { h with S := h.S ++ [s], gs := gs } := by
  have H' := H.role e
  have hf' : RFr ro' w w' X := ⟨hf.os, hf.tape, hf.output, hf.size, fun k hk hn => hf.block k hk (by rw [← e k hk]; exact hn)⟩
  have cel : ∀ j, j ≠ 29 → w'.cell? ⟨h.bh, j, none⟩ = w.cell? ⟨h.bh, j, none⟩ := fun j hj => (World.cell?_of_block (a := ⟨h.bh, j, none⟩) hself).trans (World.cell?_setCell_other _ _ _ _ (fun e => hj (by injection e with _ e _; exact e.symm)))
  have frz : ∀ j, w'.frozen? ⟨h.bh, j, none⟩ = w.frozen? ⟨h.bh, j, none⟩ := fun j => (World.frozen?_of_block (a := ⟨h.bh, j, none⟩) hself).trans (World.frozen?_setCell _ _ _ _)
  have hpls : (h.S ++ [s]).Pairwise fun s t => s.pl ≠ t.pl := by
    rw [List.pairwise_append]
    refine ⟨H.pls, List.pairwise_singleton _ _, fun a ha b hb => ?_⟩
    simp only [List.mem_singleton] at hb
    subst hb
    exact hpl a ha
  have hsegs : ∀ t ∈ h.S ++ [s], SegOk ro' w' bm sz f t := fun t ht => by
    rcases List.mem_append.1 ht with ht | ht
    · exact (H'.segs t ht).fr hf' (x2 _).1 (x2 _).2.1 (x2 _).2.2 (fun p _ => x3 _ _)
    · simp only [List.mem_singleton] at ht
      subst ht
      exact hs
  have row : ∀ {o : Nat} {l : List Int} {gg : Option Nat}, RowAt w B h.bh o l gg → o ≠ 29 → (∀ k, gg = some k → ∃ c i, ro k = .row hn c i) → RowAt w' B h.bh o l gg := fun {o l gg} hr hne hro => by
    obtain ⟨u, hu, hou, hgu⟩ := hr.val
    exact ⟨⟨u, (cel o hne).trans hu, own_stays hou (fun k hk => hf.block k (hou.lt k hk).2 (by obtain ⟨c, i, ec⟩ := hro k (hgu.symm.trans hk); rw [ec]; exact x1 _ _)), hgu⟩, (frz o).trans hr.frz, hr.ne⟩
  exact {
    rb := H'.rb
    c26 := (cel 26 (by omega)).trans H.c26
    c27 := (cel 27 (by omega)).trans H.c27
    c28 := (cel 28 (by omega)).trans H.c28
    c29 := by
      obtain ⟨u, hu, _⟩ := H.c29
      refine ⟨v, (World.cell?_of_block (a := ⟨h.bh, 29, none⟩) hself).trans (World.cell?_setCell_same _ _ _ hu), ?_, hg⟩
      show w'.ownsRow B _ 1 v (h.S ++ [s]).length (segP (h.S ++ [s]))
      have e1 : segP (h.S ++ [s]) = segP h.S ++ [.pointer (some ⟨s.bs, 0, none⟩)] := by simp [segP]
      have e2 : (h.S ++ [s]).length = h.S.length + 1 := by simp
      rw [e1, e2]
      exact ho
    z29 := (frz 29).trans H.z29
    q := fun c hc => ⟨row (H.q c hc).r1 (by omega) (fun k hk => ⟨c, false, H.r1 c hc k hk⟩), row (H.q c hc).r2 (by omega) (fun k hk => ⟨c, true, H.r2 c hc k hk⟩), (H.q c hc).apart⟩
    qo := H.qo
    r1 := H'.r1
    r2 := H'.r2
    rs := hrs
    segs := hsegs
    pls := hpls
    link := fun c hc k hk => by
      obtain ⟨t, ht, r⟩ := H.link c hc k hk
      exact ⟨t, List.mem_append_left _ ht, r⟩
    len := nodup_pls hpls (fun t ht => (hsegs t ht).seg.pl64) }
end Go.Proofs.YtbljphaklciinaaGreat
