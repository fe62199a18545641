/- Walks of the program's functions, and plain laws on what they compute, text by text (BackF, ApGet, ApGetW, HeapP, HeapB, HeapJ, HeapI, HeapIW). No condition. -/
import Derived.Test.YtbljphaklciinaaGreatHeapApart02

/- Layer 12's laws, plain: get on blocks of whatever classes; how they go. -/
namespace Go.Proofs.YtbljphaklciinaaGreat
open Go.RowKit
variable {ro ro' : Nat → Role} {hn : Nat} {w w' : World} {B bm bb sz : Nat} {f f' : Nat → Nat} {h h' : HeapR} {S : List SegR} {k x n k' r : Nat} {U : List Nat} {a a' : ArR} {W : World}

theorem BInv.got {c q : Int} {i sl Sz N : Nat} (I : BInv h U) (ne : NE h.S) (K : SOk sz f h.S) (A : SApart h.S) (K' : SOk sz f' h'.S) (A' : SApart h'.S) (hpl : ∀ s ∈ h.S, s.pl < k) (hp : PlanOk c q i sl Sz N) {y : Option Nat} (hg : GetR sz n k f h c i sl Sz N y f' h' k') :
    NE h'.S ∧ ((∃ x, y = some x ∧ BInv h' (U ++ [x])) ∨ (y = none ∧ BInv h' U)) := by
  obtain ⟨f1, f2, f3, f4, f5, f6, _⟩ := hp.facts
  rcases hg with ⟨x, rfl, _, hg, rfl⟩ | ⟨h1, h2, hg⟩
  · have := I.loc K A hg
    exact ⟨this.2 ne, .inl ⟨x, rfl, this.1⟩⟩
  · have h1I : BInv h1 U ∧ h1.S = h.S := by
      rcases h2 with ⟨_, hf⟩ | ⟨_, rfl⟩
      · exact I.fill hf
      · exact ⟨I, rfl⟩
    obtain ⟨I1, hS⟩ := h1I
    have K1 : SOk sz f h1.S := by rw [hS]; exact K
    have ne1 : NE h1.S := by rw [hS]; exact ne
    have hpl1 : ∀ s ∈ h1.S, s.pl < k := by rw [hS]; exact hpl
    rcases hg with ⟨x, rfl, hg, rfl⟩ | ⟨hno, _, h2, x, rfl, hgr, hg, rfl⟩ | ⟨hno, hk, rfl, rfl, rfl, rfl⟩
    · have := I1.new K1 K' A' f2 f5 hg
      exact ⟨this.2 (fun s hs e => absurd e (ne1 s hs)) (fun s hs t ht e _ => absurd e (ne1 s hs)), .inl ⟨x, rfl, this.1⟩⟩
    · have K2 := K1.grow hpl1 hgr
      have I2 := I1.grow hgr
      have := I2.new K2 K' A' f2 f5 hg
      obtain ⟨s0, gs, hpl0, hP0, _, rfl⟩ := hgr
      have hm : ∀ {t : SegR}, t ∈ h1.S ++ [s0] → t ∈ h1.S ∨ t = s0 := fun {t} ht => by
        rcases List.mem_append.1 ht with ht | ht
        · exact .inl ht
        · exact .inr (by simpa using ht)
      refine ⟨this.2 (fun s hs e t ht het j => ?_) (fun s hs t ht e1 e2 => ?_), .inl ⟨x, rfl, this.1⟩⟩
      · rcases hm ht with ht | rfl
        · exact hno t ht j
        · exact absurd hP0 het
      · rcases hm hs with hs | rfl
        · exact absurd e1 (ne1 s hs)
        · rcases hm ht with ht | rfl
          · exact absurd e2 (ne1 t ht)
          · rfl
    · exact ⟨ne1, .inr ⟨rfl, I1⟩⟩

theorem PgInv.len_le {p : Pg} (h : PgInv f sz p) {L : List Nat} (hn : L.Nodup) (hall : ∀ x ∈ L, ∃ j, j < p.made ∧ x = p.f + j * p.s) : L.length ≤ p.made := by
  have h16 := h.s16
  have hinj : ∀ {x y : Nat}, x ∈ L → y ∈ L → (x - p.f) / p.s = (y - p.f) / p.s → x = y := by
    intro x y hx hy e
    obtain ⟨j, _, rfl⟩ := hall x hx
    obtain ⟨k, _, rfl⟩ := hall y hy
    rw [Nat.add_sub_cancel_left, Nat.add_sub_cancel_left, Nat.mul_div_cancel _ (by omega), Nat.mul_div_cancel _ (by omega)] at e
    rw [e]
  have h1 := nodup_bound p.made (L.map fun x => (x - p.f) / p.s) (by
    rw [List.Nodup, List.pairwise_map]
    exact List.Pairwise.imp_of_mem (fun hx hy hne e => hne (hinj hx hy e)) hn) (fun x hx => by
    obtain ⟨y, hy, rfl⟩ := List.mem_map.1 hx
    obtain ⟨j, hj, rfl⟩ := hall y hy
    rw [Nat.add_sub_cancel_left, Nat.mul_div_cancel _ (by omega)]
    exact hj)
  simpa using h1
theorem PgInv.used_two {p : Pg} (h : PgInv f sz p) {i j x y : Nat} (hi : i < p.made) (hj : j < p.made) (hx : x = p.f + i * p.s) (hy : y = p.f + j * p.s) (hxy : x ≠ y) (hox : x ∉ p.free ++ p.loc) (hoy : y ∉ p.free ++ p.loc) : 2 ≤ p.used := by
  have := h.len_le (L := x :: y :: (p.free ++ p.loc)) (List.nodup_cons.2 ⟨by simp only [List.mem_cons, not_or]; exact ⟨hxy, hox⟩, List.nodup_cons.2 ⟨hoy, h.nd⟩⟩) (fun z hz => by
    rcases List.mem_cons.1 hz with rfl | hz
    · exact ⟨i, hi, hx⟩
    · rcases List.mem_cons.1 hz with rfl | hz
      · exact ⟨j, hj, hy⟩
      · exact h.blk z hz)
  have hu := h.us
  simp only [List.length_cons] at this
  omega

theorem usedP_del {p : PageR} : ∀ {P : List PageR}, P.Pairwise (fun p q => p.at_ ≠ q.at_) → p ∈ P → usedP (P.filter (noAt p.at_)) + p.pg.used = usedP P
  | [], _, hp => by cases hp
  | q :: r, hn, hp => by
    rw [List.pairwise_cons] at hn
    by_cases e : q.at_ = p.at_
    · have hq : q = p := by
        rcases List.mem_cons.1 hp with h | h
        · exact h.symm
        · exact absurd e (hn.1 p h)
      subst hq
      rw [List.filter_cons_of_neg (by simp [noAt])]
      have : r.filter (noAt q.at_) = r := List.filter_eq_self.2 fun t ht => noAt_iff.2 (fun e => hn.1 t ht e.symm)
      rw [this]
      simp [usedP]
      omega
    · have hpr : p ∈ r := by
        rcases List.mem_cons.1 hp with h | h
        · exact absurd (by rw [h]) e
        · exact h
      have ih := usedP_del hn.2 hpr
      rw [List.filter_cons_of_pos (noAt_iff.2 e)]
      simp only [usedP, List.map_cons, List.sum_cons] at ih ⊢
      omega
theorem usedS_del (K : SOk sz f S) {s : SegR} {p : PageR} (hs : s ∈ S) (hp : p ∈ s.P) : usedS (delPg s.pl p.at_ S) + p.pg.used = usedS S := by
  unfold usedS delPg
  rw [List.map_map]
  have := sum_map_one (g := fun t : SegR => usedP t.P) (g' := (fun t : SegR => usedP t.P) ∘ delI s.pl p.at_) hs (pair_nodup K.pls) (fun t ht hne => by
    show usedP (delI s.pl p.at_ t).P = _
    unfold delI
    rw [if_neg (fun e => hne (pair_at K.pls ht hs e))])
  have e2 : ((fun t : SegR => usedP t.P) ∘ delI s.pl p.at_) s + p.pg.used = usedP s.P := by
    show usedP (delI s.pl p.at_ s).P + _ = _
    unfold delI
    rw [if_pos rfl]
    exact usedP_del (K.nod s hs) hp
  omega
theorem usedS_lost {s : SegR} : ∀ {S : List SegR}, S.Pairwise (fun s t => s.pl ≠ t.pl) → s ∈ S → usedS (S.filter (noPl s.pl)) + usedP s.P = usedS S
  | [], _, hs => by cases hs
  | t :: r, hn, hs => by
    rw [List.pairwise_cons] at hn
    by_cases e : t.pl = s.pl
    · have ht : t = s := by
        rcases List.mem_cons.1 hs with h | h
        · exact h.symm
        · exact absurd e (hn.1 s h)
      subst ht
      rw [List.filter_cons_of_neg (by simp [noPl])]
      have : r.filter (noPl t.pl) = r := List.filter_eq_self.2 fun u hu => noPl_iff.2 (fun e => hn.1 u hu e.symm)
      rw [this]
      simp [usedS]
      omega
    · have hsr : s ∈ r := by
        rcases List.mem_cons.1 hs with h | h
        · exact absurd (by rw [h]) e
        · exact h
      have ih := usedS_lost hn.2 hsr
      rw [List.filter_cons_of_pos (noPl_iff.2 e)]
      simp only [usedS, List.map_cons, List.sum_cons] at ih ⊢
      omega

theorem removeS_keep {R F : List Int} {x y : Int} (hne : y ≠ x) (h : y ∈ R ∨ y ∈ F) : y ∈ (removeS R F x).2.1 ∨ y ∈ (removeS R F x).2.2 := by
  unfold removeS
  split
  · exact h.imp (fun h => (List.mem_erase_of_ne hne).2 h) id
  · split
    · exact h.imp id (fun h => (List.mem_erase_of_ne hne).2 h)
    · exact h

theorem mem_erase_nodup {U : List Nat} (hn : U.Nodup) {x y : Nat} (hy : y ∈ U.erase x) : y ∈ U ∧ y ≠ x := ⟨List.mem_of_mem_erase hy, fun e => by rw [e] at hy; exact (hn.mem_erase_iff.1 hy).1 rfl⟩

theorem mem_delPg_other {s t : SegR} {at_ : Nat} (ht : t ∈ S) (hne : t.pl ≠ s.pl) : t ∈ delPg s.pl at_ S := List.mem_map.2 ⟨t, ht, if_neg hne⟩
theorem delPg_mem (K : SOk sz f S) {s t : SegR} {at_ : Nat} (hs : s ∈ S) (ht : t ∈ delPg s.pl at_ S) : (t ∈ S ∧ t.pl ≠ s.pl) ∨ t = { s with P := s.P.filter (noAt at_) } := by
  obtain ⟨t0, ht0, rfl⟩ := List.mem_map.1 ht
  unfold delI
  by_cases e : t0.pl = s.pl
  · have := pair_at K.pls ht0 hs e
    subst this
    rw [if_pos rfl]
    exact .inr rfl
  · rw [if_neg e]
    exact .inl ⟨ht0, e⟩

/-- A block is given back: its page stays. -/
theorem BInv.gave (I : BInv h U) (K : SOk sz f h.S) (A : SApart h.S) {s : SegR} {p : PageR} {i q : Nat} {k1 k2 : Option Nat} (hx : x ∈ U) (hs : s ∈ h.S) (hp : p ∈ s.P) (hq : q < p.pg.made) (e : x = p.pg.f + q * p.pg.s) (ho : x ∉ p.pg.free ++ p.pg.loc) (hu : 1 < p.pg.used) :
    BInv (({ h with S := setPg s.pl p.at_ (p.pg.gave x) h.S } : HeapR).queued i (wakeS (h.Q1 i) (h.Q2 i) (keyOf s p)).2.1 (wakeS (h.Q1 i) (h.Q2 i) (keyOf s p)).2.2 k1 k2) (U.erase x) := by
  have hmem := fun {t : SegR} (ht : t ∈ setPg s.pl p.at_ (p.pg.gave x) h.S) => setPg_mem K hs ht
  have hself := mem_setPg_self (at_ := p.at_) (pg' := p.pg.gave x) hs
  have hpself := mem_setPP_self (pg' := p.pg.gave x) hp
  refine ⟨?_, fun y hy => ?_, I.nod.erase x, fun t ht r hr => ?_, fun t ht r hr => ?_⟩
  · have h1 := usedS_set (pg' := p.pg.gave x) K hs hp
    have h2 : (p.pg.gave x).used = p.pg.used - 1 := rfl
    have h3 := I.cnt
    have h4 : 0 < U.length := List.length_pos_of_mem hx
    rw [List.length_erase_of_mem hx]
    show U.length - 1 = usedS (setPg s.pl p.at_ (p.pg.gave x) h.S)
    omega
  · obtain ⟨hyU, hyx⟩ := mem_erase_nodup I.nod hy
    obtain ⟨t, ht, r, hr, j, hj, ey, hoy⟩ := I.use y hyU
    by_cases e1 : t.pl = s.pl
    · have := pair_at (F := SegR.pl) K.pls ht hs e1
      subst this
      by_cases e2 : r.at_ = p.at_
      · have := pair_at (K.nod t ht) hr hp e2
        subst this
        refine ⟨_, hself, _, hpself, j, hj, ey, fun hc => ?_⟩
        have hc' : y ∈ r.pg.free ++ (x :: r.pg.loc) := hc
        rcases List.mem_append.1 hc' with h1 | h1
        · exact hoy (List.mem_append_left _ h1)
        · rcases List.mem_cons.1 h1 with h1 | h1
          · exact hyx h1
          · exact hoy (List.mem_append_right _ h1)
      · exact ⟨_, hself, r, mem_setPP hr e2, j, hj, ey, hoy⟩
    · exact ⟨t, mem_setPg hs ht e1, r, hr, j, hj, ey, hoy⟩
  · rcases hmem ht with ⟨ht, _⟩ | rfl
    · exact I.pos t ht r hr
    · rcases setPP_mem (K.nod s hs) hp hr with ⟨hr, _⟩ | rfl
      · exact I.pos s hs r hr
      · show 1 ≤ p.pg.used - 1
        omega
  · have put : ∀ {t : SegR} {r : PageR}, t ∈ h.S → r ∈ t.P → ∃ c', rowIx r.cls = some c' ∧ _ := fun ht hr => by
      obtain ⟨c', e, hk⟩ := I.keys _ ht _ hr
      exact ⟨c', e, queued_mem (h := { h with S := setPg s.pl p.at_ (p.pg.gave x) h.S }) (c := i) (R := (wakeS (h.Q1 i) (h.Q2 i) (keyOf s p)).2.1) (F := (wakeS (h.Q1 i) (h.Q2 i) (keyOf s p)).2.2) (k1 := k1) (k2 := k2) (fun y hy => wakeS_mem.2 hy) hk⟩
    rcases hmem ht with ⟨ht, _⟩ | rfl
    · exact put ht hr
    · rcases setPP_mem (K.nod s hs) hp hr with ⟨hr, _⟩ | rfl
      · exact put (t := s) (r := r) hs hr
      · exact put (t := s) (r := p) hs hp

/-- A block is given back: its page ends. -/
theorem BInv.ended (I : BInv h U) (K : SOk sz f h.S) (A : SApart h.S) {s : SegR} {p : PageR} {i q : Nat} {k1 k2 : Option Nat} {S' : List SegR} (hx : x ∈ U) (hs : s ∈ h.S) (hp : p ∈ s.P) (hq : q < p.pg.made) (e : x = p.pg.f + q * p.pg.s) (ho : x ∉ p.pg.free ++ p.pg.loc) (hu : p.pg.used = 1) (hend : EndsAt a h.S s p.at_ S' a') (ne : NE h.S) :
    BInv (({ h with S := S' } : HeapR).queued i (removeS (wakeS (h.Q1 i) (h.Q2 i) (keyOf s p)).2.1 (wakeS (h.Q1 i) (h.Q2 i) (keyOf s p)).2.2 (keyOf s p)).2.1 (removeS (wakeS (h.Q1 i) (h.Q2 i) (keyOf s p)).2.1 (wakeS (h.Q1 i) (h.Q2 i) (keyOf s p)).2.2 (keyOf s p)).2.2 k1 k2) (U.erase x) ∧ NE S' := by
  -- another block that is used lies in another page
  have other : ∀ y, y ∈ U → y ≠ x → ∃ t ∈ h.S, ∃ r ∈ t.P, ∃ j, j < r.pg.made ∧ y = r.pg.f + j * r.pg.s ∧ y ∉ r.pg.free ++ r.pg.loc ∧ (t.pl ≠ s.pl ∨ r.at_ ≠ p.at_) := fun y hy hyx => by
    obtain ⟨t, ht, r, hr, j, hj, ey, hoy⟩ := I.use y hy
    refine ⟨t, ht, r, hr, j, hj, ey, hoy, ?_⟩
    by_cases e1 : t.pl = s.pl
    · have := pair_at (F := SegR.pl) K.pls ht hs e1
      subst this
      right
      intro e2
      have := pair_at (K.nod t ht) hr hp e2
      subst this
      have := (K.pag t ht r hr).1.used_two hq hj e ey (fun h => hyx h.symm) ho hoy
      omega
    · exact .inl e1
  have hlen : 0 < U.length := List.length_pos_of_mem hx
  have hcnt := I.cnt
  have hpos : ∀ {t : SegR} {r : PageR}, t ∈ h.S → r ∈ t.P → 1 ≤ r.pg.used := fun ht hr => I.pos _ ht _ hr
  have put : ∀ {t : SegR} {r : PageR}, t ∈ h.S → r ∈ t.P → (t.pl ≠ s.pl ∨ r.at_ ≠ p.at_) → ∃ c', rowIx r.cls = some c' ∧ (keyOf t r ∈ (({ h with S := S' } : HeapR).queued i (removeS (wakeS (h.Q1 i) (h.Q2 i) (keyOf s p)).2.1 (wakeS (h.Q1 i) (h.Q2 i) (keyOf s p)).2.2 (keyOf s p)).2.1 (removeS (wakeS (h.Q1 i) (h.Q2 i) (keyOf s p)).2.1 (wakeS (h.Q1 i) (h.Q2 i) (keyOf s p)).2.2 (keyOf s p)).2.2 k1 k2).Q1 c' ∨
      keyOf t r ∈ (({ h with S := S' } : HeapR).queued i (removeS (wakeS (h.Q1 i) (h.Q2 i) (keyOf s p)).2.1 (wakeS (h.Q1 i) (h.Q2 i) (keyOf s p)).2.2 (keyOf s p)).2.1 (removeS (wakeS (h.Q1 i) (h.Q2 i) (keyOf s p)).2.1 (wakeS (h.Q1 i) (h.Q2 i) (keyOf s p)).2.2 (keyOf s p)).2.2 k1 k2).Q2 c') := fun {t r} ht hr hne => by
    obtain ⟨c', e, hk⟩ := I.keys t ht r hr
    have hkne : keyOf t r ≠ keyOf s p := fun ek => by
      obtain ⟨rfl, rfl⟩ := K.key_inj ht hs hr hp ek
      rcases hne with h | h <;> exact h rfl
    refine ⟨c', e, ?_⟩
    by_cases ec : c' = i
    · subst ec
      rw [q1_queued, q2_queued]
      exact removeS_keep hkne (wakeS_mem.2 hk)
    · rw [show (({ h with S := S' } : HeapR).queued i (removeS (wakeS (h.Q1 i) (h.Q2 i) (keyOf s p)).2.1 (wakeS (h.Q1 i) (h.Q2 i) (keyOf s p)).2.2 (keyOf s p)).2.1 (removeS (wakeS (h.Q1 i) (h.Q2 i) (keyOf s p)).2.1 (wakeS (h.Q1 i) (h.Q2 i) (keyOf s p)).2.2 (keyOf s p)).2.2 k1 k2).Q1 c' = h.Q1 c' from updF_ne _ _ ec, show (({ h with S := S' } : HeapR).queued i (removeS (wakeS (h.Q1 i) (h.Q2 i) (keyOf s p)).2.1 (wakeS (h.Q1 i) (h.Q2 i) (keyOf s p)).2.2 (keyOf s p)).2.1 (removeS (wakeS (h.Q1 i) (h.Q2 i) (keyOf s p)).2.1 (wakeS (h.Q1 i) (h.Q2 i) (keyOf s p)).2.2 (keyOf s p)).2.2 k1 k2).Q2 c' = h.Q2 c' from updF_ne _ _ ec]
      exact hk
  rcases hend with ⟨hP, rfl, rfl⟩ | ⟨hP, rfl, j0, hj0, rfl⟩
  · have hmem := fun {t : SegR} (ht : t ∈ delPg s.pl p.at_ h.S) => delPg_mem K hs ht
    refine ⟨⟨?_, fun y hy => ?_, I.nod.erase x, fun t ht r hr => ?_, fun t ht r hr => ?_⟩, fun t ht => ?_⟩
    · have := usedS_del K hs hp
      rw [List.length_erase_of_mem hx]
      show U.length - 1 = usedS (delPg s.pl p.at_ h.S)
      omega
    · obtain ⟨hyU, hyx⟩ := mem_erase_nodup I.nod hy
      obtain ⟨t, ht, r, hr, j, hj, ey, hoy, hne⟩ := other y hyU hyx
      by_cases e1 : t.pl = s.pl
      · have := pair_at (F := SegR.pl) K.pls ht hs e1
        subst this
        exact ⟨_, mem_delPg ht p.at_, r, List.mem_filter.2 ⟨hr, noAt_iff.2 (hne.resolve_left (fun h => h rfl))⟩, j, hj, ey, hoy⟩
      · exact ⟨t, mem_delPg_other ht e1, r, hr, j, hj, ey, hoy⟩
    · rcases hmem ht with ⟨ht, _⟩ | rfl
      · exact hpos ht hr
      · exact hpos hs (List.mem_filter.1 hr).1
    · rcases hmem ht with ⟨ht, hne⟩ | rfl
      · exact put ht hr (.inl hne)
      · exact put (t := s) (r := r) hs (List.mem_filter.1 hr).1 (.inr (noAt_iff.1 (List.mem_filter.1 hr).2))
    · rcases hmem ht with ⟨ht, _⟩ | rfl
      · exact ne t ht
      · exact hP
  · have hU1 : usedP s.P = 1 := by
      have := usedP_del (K.nod s hs) hp
      rw [hP] at this
      simp [usedP] at this
      unfold usedP
      omega
    refine ⟨⟨?_, fun y hy => ?_, I.nod.erase x, fun t ht r hr => ?_, fun t ht r hr => ?_⟩, fun t ht => ?_⟩
    · have := usedS_lost K.pls hs
      rw [List.length_erase_of_mem hx]
      show U.length - 1 = usedS (h.S.filter (noPl s.pl))
      omega
    · obtain ⟨hyU, hyx⟩ := mem_erase_nodup I.nod hy
      obtain ⟨t, ht, r, hr, j, hj, ey, hoy, hne⟩ := other y hyU hyx
      by_cases e1 : t.pl = s.pl
      · have := pair_at (F := SegR.pl) K.pls ht hs e1
        subst this
        have : r ∈ t.P.filter (noAt p.at_) := List.mem_filter.2 ⟨hr, noAt_iff.2 (hne.resolve_left (fun h => h rfl))⟩
        rw [hP] at this
        cases this
      · exact ⟨t, List.mem_filter.2 ⟨ht, noPl_iff.2 e1⟩, r, hr, j, hj, ey, hoy⟩
    · exact hpos (List.mem_filter.1 ht).1 hr
    · exact put (List.mem_filter.1 ht).1 hr (.inl (noPl_iff.1 (List.mem_filter.1 ht).2))
    · exact ne t (List.mem_filter.1 ht).1

/-- What the arena holds: the heap's segments, and no more. -/
structure AInv (a : ArR) (S : List SegR) : Prop where
  seg : ArSeg a S
  tru : ∀ j, a.T j = true → ∃ s ∈ S, s.pl = j

theorem AInv.of_ka (K : KA n k r h a) (hn : n ≤ 64) (hl : h.S.length = k) (hp : h.S.Pairwise fun s t => s.pl ≠ t.pl) : AInv a h.S := by
  refine ⟨K.arSeg hn, fun j hj => ?_⟩
  rw [K.T] at hj
  have hjk : j < k := by simpa using hj
  refine Classical.byContradiction fun hno => ?_
  have := nodup_bound k (j :: h.S.map (·.pl)) (List.nodup_cons.2 ⟨fun hm => by
    obtain ⟨s, hs, e⟩ := List.mem_map.1 hm
    exact hno ⟨s, hs, e⟩, by rw [List.Nodup, List.pairwise_map]; exact hp⟩) (fun x hx => by
    rcases List.mem_cons.1 hx with rfl | hx
    · exact hjk
    · obtain ⟨s, hs, rfl⟩ := List.mem_map.1 hx
      exact K.pls s hs)
  simp at this
  omega

theorem AInv.set {pl at_ : Nat} {pg : Pg} (A : AInv a S) : AInv a (setPg pl at_ pg S) := ⟨A.seg.set, fun j hj => by
  obtain ⟨s, hs, e⟩ := A.tru j hj
  refine ⟨_, List.mem_map.2 ⟨s, hs, rfl⟩, ?_⟩
  split <;> exact e⟩

theorem AInv.ends {s : SegR} {at_ : Nat} {S' : List SegR} (A : AInv a S) (hp : S.Pairwise fun s t => s.pl ≠ t.pl) (hs : s ∈ S) (he : EndsAt a S s at_ S' a') : AInv a' S' ∧ a'.n = a.n := by
  rcases he with ⟨_, rfl, rfl⟩ | ⟨_, rfl, j0, hj0, rfl⟩
  · refine ⟨⟨⟨A.seg.srt, A.seg.rl, fun t ht => ?_⟩, fun j hj => ?_⟩, rfl⟩
    · obtain ⟨t0, ht0, rfl⟩ := List.mem_map.1 ht
      have := A.seg.own t0 ht0
      rw [delI_pl]
      exact this
    · obtain ⟨t, ht, e⟩ := A.tru j hj
      exact ⟨_, List.mem_map.2 ⟨t, ht, rfl⟩, by rw [delI_pl]; exact e⟩
  · refine ⟨⟨⟨fun i j x y hij hx hy => ?_, ?_, fun t ht => ?_⟩, fun j hj => ?_⟩, rfl⟩
    · rw [List.getElem?_eraseIdx] at hx hy
      split at hx <;> split at hy
      · exact A.seg.srt i j x y hij hx hy
      · exact A.seg.srt i (j + 1) x y (by omega) hx hy
      · omega
      · exact A.seg.srt (i + 1) (j + 1) x y (by omega) hx hy
    · show (a.R.eraseIdx j0).length ≤ 64
      have := List.length_eraseIdx_le a.R j0
      have := A.seg.rl
      omega
    · have hne := noPl_iff.1 (List.mem_filter.1 ht).2
      obtain ⟨h1, h2, h3⟩ := A.seg.own t (List.mem_filter.1 ht).1
      refine ⟨h1, ?_, ?_⟩
      · show setT a.T s.pl 1 false t.pl = true
        unfold setT
        rw [if_neg (by omega)]
        exact h2
      · obtain ⟨m, hm, em⟩ := List.mem_iff_getElem.1 h3
        have hmj : m ≠ j0 := fun e => by
          subst e
          rw [List.getElem?_eq_getElem hm, em] at hj0
          injection hj0 with hj0
          injection hj0 with hj0 _
          exact hne hj0
        show (t.pl, 1) ∈ a.R.eraseIdx j0
        rw [List.mem_eraseIdx_iff_getElem?]
        exact ⟨m, hmj, by rw [List.getElem?_eq_getElem hm, em]⟩
    · have hj' : setT a.T s.pl 1 false j = true := hj
      unfold setT at hj'
      split at hj'
      · cases hj'
      · rename_i hn
        obtain ⟨t, ht, e⟩ := A.tru j hj'
        exact ⟨t, List.mem_filter.2 ⟨ht, noPl_iff.2 (by omega)⟩, e⟩

/-- With nothing used there is nothing. -/
theorem BInv.none (I : BInv h []) (ne : NE h.S) : h.S = [] := by
  cases hS : h.S with
  | nil => rfl
  | cons s r =>
    exfalso
    have hs : s ∈ h.S := by rw [hS]; simp
    cases hP : s.P with
    | nil => exact ne s hs hP
    | cons p t =>
      have h1 := I.pos s hs p (by rw [hP]; simp)
      have h2 := I.cnt
      rw [hS] at h2
      simp [usedS, usedP, hP] at h2
      omega
theorem AInv.none (A : AInv a []) : freeN a.T a.n = a.n := by
  have : a.T = fun _ => false := by
    funext j
    cases hj : a.T j with
    | false => rfl
    | true =>
      obtain ⟨s, hs, _⟩ := A.tru j hj
      cases hs
  rw [this]
  simp [freeN]
end Go.Proofs.YtbljphaklciinaaGreat

/- Layer 12's laws: a heap whose arena has room anywhere: get, call by call. -/
namespace Go.Proofs.YtbljphaklciinaaGreat
open Go.RowKit
variable {ro ro' : Nat → Role} {hn : Nat} {w w' : World} {B bm bb sz : Nat} {f g : Nat → Nat} {h h' : HeapR} {X : Role → Prop} {a : ArR} {W : World} {n k r x : Nat} {o : Obj} {S S' : List SegR}

theorem freeN_pos {T : Nat → Bool} (hk : k < n) (h : T k = false) : 0 < freeN T n := by
  unfold freeN
  rw [List.countP_pos_iff]
  exact ⟨k, by simpa using hk, by rw [h]; rfl⟩
theorem freeN_zero {T : Nat → Bool} (h : ∀ j, j < n → T j = true) : freeN T n = 0 := by
  unfold freeN
  rw [List.countP_eq_zero]
  intro j hj
  rw [h j (by simpa using hj)]
  simp

/-- The lowest place with room, or none. -/
def NextAt (T : Nat → Bool) (n k : Nat) : Prop := (k < n ∧ T k = false ∧ ∀ j, j < k → T j = true) ∨ (k = n ∧ ∀ j, j < n → T j = true)
theorem nextAt (T : Nat → Bool) : ∀ n, ∃ k, NextAt T n k
  | 0 => ⟨0, .inr ⟨rfl, fun j hj => by omega⟩⟩
  | n + 1 => by
    obtain ⟨k, h⟩ := nextAt T n
    rcases h with ⟨h1, h2, h3⟩ | ⟨rfl, h3⟩
    · exact ⟨k, .inl ⟨by omega, h2, h3⟩⟩
    · cases e : T k with
      | false => exact ⟨k, .inl ⟨by omega, e, h3⟩⟩
      | true =>
        refine ⟨k + 1, .inr ⟨rfl, fun j hj => ?_⟩⟩
        rcases Nat.lt_succ_iff_lt_or_eq.1 hj with h | rfl
        · exact h3 j h
        · exact e

theorem AInv.same (A : AInv a S) (h1 : ∀ s ∈ S', ∃ t ∈ S, s.pl = t.pl) (h2 : ∀ t ∈ S, ∃ s ∈ S', s.pl = t.pl) : AInv a S' :=
  ⟨⟨A.seg.srt, A.seg.rl, fun s hs => by obtain ⟨t, ht, e⟩ := h1 s hs; rw [e]; exact A.seg.own t ht⟩, fun j hj => by
    obtain ⟨t, ht, e⟩ := A.tru j hj
    obtain ⟨s, hs, e2⟩ := h2 t ht
    exact ⟨s, hs, e2.trans e⟩⟩
theorem setPg_sup {pl at_ : Nat} {pg : Pg} {S : List SegR} : ∀ t ∈ S, ∃ s ∈ setPg pl at_ pg S, s.pl = t.pl := fun t ht => ⟨_, List.mem_map.2 ⟨t, ht, rfl⟩, by split <;> rfl⟩
theorem addPg_sup {pl : Nat} {p : PageR} {S : List SegR} : ∀ t ∈ S, ∃ s ∈ addPg pl p S, s.pl = t.pl := fun t ht => ⟨_, List.mem_map.2 ⟨t, ht, rfl⟩, addI_pl _ _ _⟩

theorem sorted_ins {R : List (Nat × Nat)} {i m : Nat} (hs : SortedR R) (hi : InsAt R i m) (hne : ∀ x ∈ R, x.1 ≠ m) : SortedR (R.take i ++ (m, 1) :: R.drop i) := by
  obtain ⟨h0, h1, h2⟩ := hi
  have hl : (R.take i).length = i := by rw [List.length_take]; omega
  have at_ : ∀ {p : Nat} {x : Nat × Nat}, (R.take i ++ (m, 1) :: R.drop i)[p]? = some x → (p < i ∧ R[p]? = some x) ∨ (p = i ∧ x = (m, 1)) ∨ (i < p ∧ R[p - 1]? = some x) := fun {p x} hx => by
    rcases Nat.lt_trichotomy p i with h | h | h
    · rw [List.getElem?_append_left (by omega), List.getElem?_take_of_lt h] at hx
      exact .inl ⟨h, hx⟩
    · subst h
      rw [List.getElem?_append_right (by omega), hl, Nat.sub_self] at hx
      exact .inr (.inl ⟨rfl, (Option.some.inj hx).symm⟩)
    · rw [List.getElem?_append_right (by omega), hl, show p - i = (p - i - 1) + 1 by omega, List.getElem?_cons_succ, List.getElem?_drop, show i + (p - i - 1) = p - 1 by omega] at hx
      exact .inr (.inr ⟨h, hx⟩)
  intro p q x y hpq hx hy
  rcases at_ hx with ⟨a1, a2⟩ | ⟨a1, rfl⟩ | ⟨a1, a2⟩ <;> rcases at_ hy with ⟨b1, b2⟩ | ⟨b1, rfl⟩ | ⟨b1, b2⟩
  · exact hs p q x y hpq a2 b2
  · exact h1 p x a1 a2
  · exact hs p (q - 1) x y (by omega) a2 b2
  · omega
  · omega
  · have := h2 (q - 1) y (by omega) b2
    have := hne y (List.mem_of_getElem? b2)
    show m < y.1
    omega
  · omega
  · omega
  · exact hs (p - 1) (q - 1) x y (by omega) a2 b2

/-- The arena holds the heap's segments, and no more; its first room is at k. -/
structure KB (n k r : Nat) (h : HeapR) (a : ArR) : Prop where
  en : a.n = n
  lim : a.lim = n
  rf : a.rf ≤ r
  ai : AInv a h.S
  rb : ∀ x ∈ a.R, x.1 < n ∧ a.T x.1 = true
  nx : NextAt a.T n k
theorem KB.rlen (K : KB n k r h a) : a.R.length ≤ n := by
  have hp : (a.R.map (·.1)).Nodup := by
    rw [List.Nodup, List.pairwise_map, List.pairwise_iff_getElem]
    intro i j hi hj hij e
    have := K.ai.seg.srt i j _ _ hij (List.getElem?_eq_getElem hi) (List.getElem?_eq_getElem hj)
    omega
  have := nodup_bound n (a.R.map (·.1)) hp (fun x hx => by
    obtain ⟨y, hy, rfl⟩ := List.mem_map.1 hx
    exact (K.rb y hy).1)
  rwa [List.length_map] at this
theorem KB.keep (K : KB n k r h a) (h1 : ∀ s ∈ h'.S, ∃ t ∈ h.S, s.pl = t.pl) (h2 : ∀ t ∈ h.S, ∃ s ∈ h'.S, s.pl = t.pl) : KB n k r h' a := { K with ai := K.ai.same h1 h2 }
theorem KB.up (K : KB n k r h a) : KB n k (r + 1) h a := { K with rf := Nat.le_succ_of_le K.rf }
theorem KB.ne (K : KB n k r h a) : ∀ s ∈ h.S, s.pl ≠ k := fun s hs e => by
  have := K.ai.seg.own s hs
  rcases K.nx with ⟨_, h2, _⟩ | ⟨h1, _⟩
  · rw [← e, this.2.1] at h2; cases h2
  · have := K.en; omega
theorem KB.grown (K : KB n k r h a) (hn16 : n ≤ 16) (hk : k < n) (hfree : a.T k = false) {i : Nat} (hi : InsAt a.R i k) {s : SegR} (hs : s.pl = k) {gs g' : Option Nat} :
    ∃ k', KB n k' r { h with S := h.S ++ [s], gs := gs } { a with T := setT a.T k 1 true, R := a.R.take i ++ (k, 1) :: a.R.drop i, g := g' } := by
  have hne : ∀ x ∈ a.R, x.1 ≠ k := fun x hx e => by have := (K.rb x hx).2; rw [e, hfree] at this; cases this
  have hT : ∀ j, a.T j = true → setT a.T k 1 true j = true := fun j hj => by unfold setT; split; rfl; exact hj
  have hTk : setT a.T k 1 true k = true := by unfold setT; rw [if_pos (by omega)]
  have hmem : ∀ {x}, x ∈ a.R.take i ++ (k, 1) :: a.R.drop i ↔ x ∈ a.R ∨ x = (k, 1) := fun {x} => by
    rw [List.mem_append, List.mem_cons]
    constructor
    · rintro (h | h | h)
      · exact .inl (List.mem_of_mem_take h)
      · exact .inr h
      · exact .inl (List.mem_of_mem_drop h)
    · rintro (h | h)
      · rw [← List.take_append_drop i a.R, List.mem_append] at h
        exact h.imp id .inr
      · exact .inr (.inl h)
  have hlen := K.rlen
  have hn := K.en
  obtain ⟨k', hk'⟩ := nextAt (setT a.T k 1 true) n
  refine ⟨k', K.en, K.lim, K.rf, ⟨⟨sorted_ins K.ai.seg.srt hi hne, ?_, fun t ht => ?_⟩, fun j hj => ?_⟩, fun x hx => ?_, hk'⟩
  · show (a.R.take i ++ (k, 1) :: a.R.drop i).length ≤ 64
    rw [ins_R hi.1]
    omega
  · rcases List.mem_append.1 ht with ht | ht
    · have := K.ai.seg.own t ht
      exact ⟨this.1, hT _ this.2.1, hmem.2 (.inl this.2.2)⟩
    · simp only [List.mem_singleton] at ht
      subst ht
      exact ⟨by show t.pl < a.n; omega, by rw [hs]; exact hTk, hmem.2 (.inr (by rw [hs]))⟩
  · by_cases e : j = k
    · exact ⟨s, by simp, by omega⟩
    · have h1 : a.T j = true := by
        have h2 : setT a.T k 1 true j = true := hj
        unfold setT at h2
        rw [if_neg (by omega)] at h2
        exact h2
      obtain ⟨t, ht, e2⟩ := K.ai.tru j h1
      exact ⟨t, List.mem_append_left _ ht, e2⟩
  · rcases hmem.1 hx with hx | rfl
    · have := K.rb x hx
      exact ⟨this.1, hT _ this.2⟩
    · exact ⟨hk, hTk⟩

/-- A law's heap, all of whose arena is its own, and a block x of the law's that stays as it is. -/
structure LY (W : World) (ro : Nat → Role) (w : World) (bm bb : Nat) (f : Nat → Nat) (h : HeapR) (a : ArR) (n k r x : Nat) (o : Obj) : Prop where
  law : LawH W ro 0 w bm bb (n * 16384) f h a
  ka : KB n k r h a
  ot : ro x = .other
  blk : w.heap[x]? = some o

theorem LY.step {h' : HeapR} {a' : ArR} {k' r' : Nat} (L : LY W ro w bm bb f h a n k r x o) (hf : RFr ro w w' X) (hx : ¬ X .other) (he : ∀ k, k < w.heap.size → ro' k = ro k) (H : Hp ro' 0 w' W.heap.size bm bb (n * 16384) g h') (A : ArOk ro' w' W.heap.size h'.ba a') (K : KB n k' r' h' a') : LY W ro' w' bm bb g h' a' n k' r' x o :=
  ⟨L.law.step H A hf hx he, K, (he x (lt_of_block L.blk)).trans L.ot, (hf.block x (lt_of_block L.blk) (by rw [L.ot]; exact hx)).trans L.blk⟩
theorem LY.on (L : LY W ro w bm bb f h a n k r x o) (hb : Below w.heap.size w w') : LY W ro w' bm bb f h a n k r x o :=
  ⟨L.law.on hb, L.ka, L.ot, (hb.block x (lt_of_block L.blk)).trans L.blk⟩
theorem LY.cell {cs : Array Value} {T : TypeId} {j : Nat} {v : Value} (L : LY W ro w bm bb f h a n k r x (.cells cs T)) (hj : cs[j]? = some v) : w.cell? ⟨x, j, none⟩ = some v := by
  rw [cell_of_row w x j cs _ _ L.blk]
  exact hj
theorem LY.made {N : Nat} (L : LawH W ro 0 w bm bb (n * 16384) f h a) (K : KB n k r h a) (hN : N = w.heap.size) (o : Obj) : LY W (cutR ro N) (w.alloc o) bm bb f h a n k r N o := by
  subst hN
  refine ⟨(L.cut rfl).on ((Below.refl _ _).alloc (Nat.le_refl _) _), K, if_neg (by omega), ?_⟩
  show (w.heap.push o)[w.heap.size]? = _
  simp

theorem local_y (L : LY W ro w bm bb f h a n k r x o) {i : Nat} (hi : i < 12) :
    Calls Tryz.prog 15 #[.pointer (some ⟨h.bh, 0, none⟩), .int .i64 i] w fun e w' =>
      (∃ y f' h' ro', e = .returned (.tuple #[.int .u64 (y : Nat), .int .i64 0]) ∧ GLoc (n * 16384) f h i y f' h' ∧ LY W ro' w' bm bb f' h' a n k r x o ∧ h'.bh = h.bh ∧ h'.ba = h.ba ∧ Stay ro w ro' w') ∨
      (∃ h' ro', e = .returned (.tuple #[.int .u64 0, .int .i64 4]) ∧ GFill h i h' ∧ LY W ro' w' bm bb f h' a n k r x o ∧ h'.bh = h.bh ∧ h'.ba = h.ba ∧ Stay ro w ro' w') := by
  refine (local_any L.law.hp i (by omega) (by omega)).mono ?_
  rintro e w' (⟨j, _, hj, _, ro', kk, k1, k2, he, rr, hful, hk⟩ | ⟨h1, _⟩)
  · obtain rfl : i = j := by omega
    have A := L.law.ar.over rr (fun i => hpX_ar) he
    rcases hk with ⟨s, hs, p, hp, f', pg', ad, h1, h2, h3, rfl, H⟩ | ⟨rfl, hkk, H⟩
    · exact .inl ⟨ad, f', _, ro', rfl, ⟨kk, s, hs, p, hp, pg', k1, k2, hful, h2, h1, h3, rfl⟩, L.step rr hpX_other he H A (L.ka.keep setPg_pls setPg_sup), rfl, rfl, Stay.of_fr rr hpX_other he⟩
    · refine .inr ⟨_, ro', rfl, ⟨k1, k2, fun y hy => ?_, rfl⟩, L.step rr hpX_other he H A (L.ka.keep (fun s hs => ⟨s, hs, rfl⟩) fun s hs => ⟨s, hs, rfl⟩), rfl, rfl, Stay.of_fr rr hpX_other he⟩
      obtain ⟨q, hq, e⟩ := List.mem_iff_getElem.1 hy
      exact hful q y (by omega) (by rw [List.getElem?_eq_getElem hq, e])
  · exact absurd ⟨by omega, by omega⟩ h1

theorem fresh_y (L : LY W ro w bm bb f h a n k r x o) {c q u v : Int} {i sl S N : Nat} (hp : PlanOk c q i sl S N) (h3 : -9223372036854775808 ≤ q) (h4 : q ≤ 9223372036854775807) :
    Calls Tryz.prog 20 #[.pointer (some ⟨h.bh, 0, none⟩), .agg #[.int .i64 c, .int .i64 q, .int .i64 u, .int .u64 v]] w fun e w' =>
      (∃ y f' h' ro', e = .returned (.tuple #[.int .u64 (y : Nat), .int .i64 0]) ∧ GNew (n * 16384) f h c i sl S N y f' h' ∧ LY W ro' w' bm bb f' h' a n k r x o ∧ h'.bh = h.bh ∧ h'.ba = h.ba ∧ Stay ro w ro' w') ∨
      (∃ ec : Int, ec ≠ 0 ∧ e = .returned (.tuple #[.int .u64 0, .int .i64 ec]) ∧ NoRoom h sl ∧ LY W ro w' bm bb f h a n k r x o ∧ Stay ro w ro w') := by
  obtain ⟨f1, f2, f3, f4, _⟩ := hp.facts
  refine (fresh_any L.law.hp c q u v (by omega) (by omega) h3 h4).mono ?_
  rintro e w' (⟨ec, h0, rfl, hb, hno⟩ | ⟨i', sl', S', N', hp', t, ht, at_, bo, bp, ro', f', pg', k1, k2, hf, hlow, rfl, he, hg, H, rr⟩)
  · exact .inr ⟨ec, h0, rfl, fun s hs j => hno i sl S N hp s hs j, L.on hb, Stay.below hb⟩
  · have e : i' = i ∧ sl' = sl ∧ S' = S ∧ N' = N := by
      rcases hp with ⟨a1, a2, a3, _, _, a6, a7⟩ | ⟨a1, a2, a3, a6, a7⟩ <;> rcases hp' with ⟨b1, b2, b3, _, _, b6, b7⟩ | ⟨b1, b2, b3, b6, b7⟩
      · have : sl' = sl := by omega
        subst this
        exact ⟨by omega, rfl, by omega, by omega⟩
      · omega
      · omega
      · have : i' = i := by omega
        subst this
        exact ⟨rfl, by rw [a3, b3], by rw [a6, b6], by rw [a7, b7]⟩
    obtain ⟨rfl, rfl, rfl, rfl⟩ := e
    exact .inl ⟨_, f', _, ro', rfl, ⟨t, ht, at_, bo, bp, pg', k1, k2, hf, hlow, rfl, hg, rfl⟩, L.step rr hpY_other he H (L.law.ar.over rr (fun i => hpY_ar) he) (L.ka.keep addPg_pls addPg_sup), rfl, rfl, Stay.of_fr rr hpY_other he⟩

theorem grow_y (L : LY W ro w bm bb f h a n k r x o) (hn : n ≤ 16) (hr : r < 1000000) :
    Calls Tryz.prog 19 #[.pointer (some ⟨h.bh, 0, none⟩)] w fun e w' =>
      (k < n ∧ ∃ h' ro' a' k', e = .returned (.int .i64 0) ∧ GGrow k h h' ∧ LY W ro' w' bm bb f h' a' n k' r x o ∧ h'.bh = h.bh ∧ h'.ba = h.ba ∧ Stay ro w ro' w') ∨
      (k = n ∧ ∃ a', e = .returned (.int .i64 4) ∧ LY W ro w' bm bb f h a' n k (r + 1) x o ∧ Stay ro w ro w') := by
  have J := L.ka
  have hN := J.en
  have hlim := J.lim
  have hrf := J.rf
  have hlen := J.rlen
  rcases J.nx with ⟨hk, hfree, hlow⟩ | ⟨hk, hall⟩
  · refine (grow_any L.law.hp L.law.ar J.ai.seg.srt (by omega) (at_ := k) ⟨by omega, fun j hj => by rw [show k + j = k by omega]; exact hfree⟩ (fun j hj hf => by have := hf.2 0 (by omega); rw [Nat.add_zero, hlow j hj] at this; cases this) (by have := freeN_pos (n := n) hk hfree; rw [hN, hlim]; omega) (fun t ht e => by have := (J.ai.seg.own t ht).2.1; rw [e, hfree] at this; cases this) (by omega)).mono ?_
    rintro e w' ⟨rfl, ro', s, gs, g', i, hins, he, h1, h2, h3, H, A, rr⟩
    obtain ⟨k', J'⟩ := J.grown hn hk hfree hins (s := s) h1 (gs := gs) (g' := g')
    exact .inl ⟨hk, _, ro', _, k', rfl, ⟨s, gs, h1, h2, h3, rfl⟩, L.step rr hpZ_other he H A J', rfl, rfl, Stay.of_fr rr hpZ_other he⟩
  · refine (grow_full L.law.hp L.law.ar (by omega) (by rw [hN, hlim, freeN_zero hall]; omega)).mono ?_
    rintro e w' ⟨rfl, H, A, rr⟩
    exact .inr ⟨hk, _, rfl, L.step rr hpZ_other (fun _ _ => rfl) H A ⟨J.en, J.lim, (by show a.rf + 1 ≤ r + 1; omega), ⟨⟨J.ai.seg.srt, J.ai.seg.rl, J.ai.seg.own⟩, J.ai.tru⟩, J.rb, J.nx⟩, Stay.of_fr rr hpZ_other (fun _ _ => rfl)⟩
end Go.Proofs.YtbljphaklciinaaGreat

/- Layer 12's laws: get, walked, where the arena has room anywhere. -/
namespace Go.Proofs.YtbljphaklciinaaGreat
open Go.RowKit
variable {ro ro' : Nat → Role} {hn : Nat} {w w' : World} {B bm bb sz : Nat} {f g : Nat → Nat} {h : HeapR} {X : Role → Prop} {a : ArR} {W : World} {n k r x : Nat} {o : Obj}

def GetToY (W : World) (ro : Nat → Role) (w : World) (bm bb n k r : Nat) (f : Nat → Nat) (h : HeapR) (c : Int) (i sl S N : Nat) (v : Int) (e : Ending) (w' : World) : Prop :=
  ∃ y f' h' k' ro' a', e = .returned (gotV y v) ∧ GetR (n * 16384) n k f h c i sl S N y f' h' k' ∧ LawH W ro' 0 w' bm bb (n * 16384) f' h' a' ∧ (∃ k2, KB n k2 (r + 1) h' a') ∧ h'.bh = h.bh ∧ h'.ba = h.ba ∧ Stay ro w ro' w'


set_option maxRecDepth 100000 in
set_option maxHeartbeats 8000000 in
theorem get_walkY (L : LawH W ro 0 w bm bb (n * 16384) f h a) (K : KB n k r h a) (hn : n ≤ 16) (hr : r < 1000000) {c q v : Int} {i sl S N : Nat} (hp : PlanOk c q i sl S N) (h3 : -9223372036854775808 ≤ q) (h4 : q ≤ 9223372036854775807) {nn m : Int} (hm : nn % 15361 = m) (hn0 : 0 ≤ nn)
    (HF : Calls Tryz.prog 33 #[.int .u64 m, .int .u64 1] w fun e w' => e = .returned (.tuple #[.agg #[.int .i64 c, .int .i64 q, .int .i64 0, .int .u64 v], .int .i64 0]) ∧ Below w.heap.size w w') :
    Calls Tryz.prog 11 #[.pointer (some ⟨h.bh, 0, none⟩), .int .u64 nn] w (GetToY W ro w bm bb n k r f h c i sl S N v) := by
  have HFOR := Lib.hid HF
  have HL := Lib.hid L
  have HK := Lib.hid K
  have HP := Lib.hid hp
  clear HF L K
  rcases hp with ⟨rfl, _⟩ | ⟨rfl, hi, _⟩
  · go_enter Tryz.func11, Tryz.ntmps11
    go_wp2_with fail
    refine HFOR.out.mono ?_
    rintro e w1 ⟨rfl, hb1⟩
    have L2 := LY.made (HL.out.on hb1) HK.out rfl (.cells #[.int .i64 (-1), .int .i64 q, .int .i64 0, .int .u64 v] 54)
    have HS1 : Hid (Stay ro w (cutR ro w1.heap.size) (w1.alloc (.cells #[.int .i64 (-1), .int .i64 q, .int .i64 0, .int .u64 v] 54))) := ((Stay.below hb1).trans (Stay.cut rfl)).trans (Stay.below ((Below.refl _ _).alloc (Nat.le_refl _) _))
    have v0 := L2.cell (j := 0) rfl
    have v1 := L2.cell (j := 1) rfl
    have v2 := L2.cell (j := 2) rfl
    have v3 := L2.cell (j := 3) rfl
    have HFR := Lib.hid (fresh_y (u := 0) (v := v) L2 HP.out h3 h4)
    have HQ := Lib.hid (And.intro h3 h4)
    clear hb1 HFOR L2 h3 h4
    go_wp2_with fail
    refine HFR.out.mono ?_
    rintro e w3 (⟨y, f3, h3', ro3, rfl, hg, L3, e1, e2, st3⟩ | ⟨ec, hec, rfl, hno, L3, st3⟩)
    · have v3 := L3.cell (j := 3) rfl
      have HL3 := Lib.hid L3
      have HG3 := Lib.hid hg
      have HE3 := Lib.hid (And.intro e1 e2)
      have HS3 := Lib.hid (HS1.out.trans st3)
      clear L3 hg e1 e2 st3  v0 v1 v2 HFR
      go_wp2_with fail
      go_quiet (fail)
      go_wp2_with fail
      (try simp only [Exit.inBlock, Exit.then])
      go_ret3
      exact ⟨some y, f3, h3', k, ro3, a, rfl, .inr ⟨h, .inr ⟨rfl, rfl⟩, .inl ⟨y, rfl, HG3.out, rfl⟩⟩, (HL3.out.law.on (below_drewN (Below.refl _ _) nq)), ⟨_, HL3.out.ka.up⟩, HE3.out.1, HE3.out.2, HS3.out.trans (Stay.below (below_drewN (Below.refl _ _) nq))⟩
    · have q0 : (ec == 0) = false := by simpa using hec
      have HGR := Lib.hid (grow_y L3 hn hr)
      skip
      have HNO := Lib.hid hno
      have HS3 := Lib.hid (HS1.out.trans st3)
      clear L3 hno hec st3  v0 v1 v2 v3 HFR
      go_wp2_with fail
      refine HGR.out.mono ?_
      rintro e w4 (⟨hk, h4', ro4, a4, k4, rfl, hgr, L4, e1, e2, st4⟩ | ⟨hk, a4, rfl, L4, st4⟩)
      · have v0 := L4.cell (j := 0) rfl
        have v1 := L4.cell (j := 1) rfl
        have v2 := L4.cell (j := 2) rfl
        have v3 := L4.cell (j := 3) rfl
        have HFR := Lib.hid (fresh_y (u := 0) (v := v) L4 HP.out HQ.out.1 HQ.out.2)
        rw [e1] at HFR
        have HGG := Lib.hid hgr
        have HE4 := Lib.hid (And.intro e1 e2)
        have HS4 := Lib.hid (HS3.out.trans st4)
        clear L4 hgr e1 e2 HGR st4
        go_wp2_with fail
        refine HFR.out.mono ?_
        rintro e w5 (⟨y, f5, h5, ro5, rfl, hg, L5, e1, e2, st5⟩ | ⟨ec, hec, rfl, hno, L5, st5⟩)
        · have v3' := L5.cell (j := 3) rfl
          have HL5 := Lib.hid L5
          have HG5 := Lib.hid hg
          have HE5 := Lib.hid (And.intro e1 e2)
          have HS5 := Lib.hid (HS4.out.trans st5)
          clear L5 hg e1 e2 st5 v0 v1 v2 v3 HFR
          go_wp2_with fail
          go_quiet (fail)
          go_wp2_with fail
          (try simp only [Exit.inBlock, Exit.then])
          go_ret3
          exact ⟨some y, f5, h5, k + 1, ro5, a4, rfl, .inr ⟨h, .inr ⟨rfl, rfl⟩, .inr (.inl ⟨HNO.out, hk, h4', y, rfl, HGG.out, HG5.out, rfl⟩)⟩, (HL5.out.law.on (below_drewN (Below.refl _ _) nq)), ⟨_, HL5.out.ka.up⟩, HE5.out.1, HE5.out.2.trans HE4.out.2, HS5.out.trans (Stay.below (below_drewN (Below.refl _ _) nq))⟩
        · exact absurd hno (room_new HGG.out HP.out.facts.2.2.2.2.2.1)
      · have HL4 := Lib.hid L4
        have HS4 := Lib.hid (HS3.out.trans st4)
        clear L4 HGR st4
        go_wp2_with fail
        (try simp only [Exit.inBlock, Exit.then])
        go_ret3
        exact ⟨none, f, h, k, _, a4, rfl, .inr ⟨h, .inr ⟨rfl, rfl⟩, .inr (.inr ⟨HNO.out, hk, rfl, rfl, rfl, rfl⟩)⟩, HL4.out.law, ⟨_, HL4.out.ka⟩, rfl, rfl, HS4.out⟩
  · go_enter Tryz.func11, Tryz.ntmps11
    go_wp2_with fail
    refine HFOR.out.mono ?_
    rintro e w1 ⟨rfl, hb1⟩
    have HX := Lib.hid (LY.made (HL.out.on hb1) HK.out rfl (.cells #[.int .i64 (i : Int), .int .i64 q, .int .i64 0, .int .u64 v] 54))
    have HS1 : Hid (Stay ro w (cutR ro w1.heap.size) (w1.alloc (.cells #[.int .i64 (i : Int), .int .i64 q, .int .i64 0, .int .u64 v] 54))) := ((Stay.below hb1).trans (Stay.cut rfl)).trans (Stay.below ((Below.refl _ _).alloc (Nat.le_refl _) _))
    clear hb1 HFOR
    go_wp2_with fail
    refine (local_y HX.out hi).mono ?_
    rintro e w2 (⟨y, f2, h2, ro2, rfl, hg, L2, e1, e2, st2⟩ | ⟨h2, ro2, rfl, hg, L2, e1, e2, st2⟩)
    · have v3 := L2.cell (j := 3) rfl
      have HL2 := Lib.hid L2
      have HG := Lib.hid hg
      have HE := Lib.hid (And.intro e1 e2)
      have HS2 := Lib.hid (HS1.out.trans st2)
      clear L2 hg e1 e2 HX st2 HS1
      go_wp2_with fail
      go_quiet (fail)
      go_wp2_with fail
      (try simp only [Exit.inBlock, Exit.then])
      go_ret3
      exact ⟨some y, f2, h2, k, ro2, a, rfl, .inl ⟨y, rfl, by omega, HG.out, rfl⟩, (HL2.out.law.on (below_drewN (Below.refl _ _) nq)), ⟨_, HL2.out.ka.up⟩, HE.out.1, HE.out.2, HS2.out.trans (Stay.below (below_drewN (Below.refl _ _) nq))⟩
    · have v0 := L2.cell (j := 0) rfl
      have v1 := L2.cell (j := 1) rfl
      have v2 := L2.cell (j := 2) rfl
      have v3 := L2.cell (j := 3) rfl
      have HFR := Lib.hid (fresh_y (u := 0) (v := v) L2 HP.out h3 h4)
      rw [e1] at HFR
      have HL2 := Lib.hid L2
      have HG := Lib.hid hg
      have HE := Lib.hid (And.intro e1 e2)
      have HS2 := Lib.hid (HS1.out.trans st2)
      clear L2 hg e1 e2 HX st2 HS1
      have HQ := Lib.hid (And.intro h3 h4)
      clear h3 h4
      go_wp2_with fail
      refine HFR.out.mono ?_
      rintro e w3 (⟨y, f3, h3', ro3, rfl, hg, L3, e1, e2, st3⟩ | ⟨ec, hec, rfl, hno, L3, st3⟩)
      · have v3 := L3.cell (j := 3) rfl
        have HL3 := Lib.hid L3
        have HG3 := Lib.hid hg
        have HE3 := Lib.hid (And.intro e1 e2)
        have HS3 := Lib.hid (HS2.out.trans st3)
        clear L3 hg e1 e2 st3  v0 v1 v2 HFR
        go_wp2_with fail
        go_quiet (fail)
        go_wp2_with fail
        (try simp only [Exit.inBlock, Exit.then])
        go_ret3
        exact ⟨some y, f3, h3', k, ro3, a, rfl, .inr ⟨h2, .inl ⟨by omega, HG.out⟩, .inl ⟨y, rfl, HG3.out, rfl⟩⟩, (HL3.out.law.on (below_drewN (Below.refl _ _) nq)), ⟨_, HL3.out.ka.up⟩, HE3.out.1, HE3.out.2.trans HE.out.2, HS3.out.trans (Stay.below (below_drewN (Below.refl _ _) nq))⟩
      · have q0 : (ec == 0) = false := by simpa using hec
        have HGR := Lib.hid (grow_y L3 hn hr)
        rw [HE.out.1] at HGR
        have HNO := Lib.hid hno
        have HS3 := Lib.hid (HS2.out.trans st3)
        clear L3 hno hec st3  v0 v1 v2 v3 HFR
        go_wp2_with fail
        refine HGR.out.mono ?_
        rintro e w4 (⟨hk, h4', ro4, a4, k4, rfl, hgr, L4, e1, e2, st4⟩ | ⟨hk, a4, rfl, L4, st4⟩)
        · have v0 := L4.cell (j := 0) rfl
          have v1 := L4.cell (j := 1) rfl
          have v2 := L4.cell (j := 2) rfl
          have v3 := L4.cell (j := 3) rfl
          have HFR := Lib.hid (fresh_y (u := 0) (v := v) L4 HP.out HQ.out.1 HQ.out.2)
          rw [e1] at HFR
          have HGG := Lib.hid hgr
          have HE4 := Lib.hid (And.intro e1 e2)
          have HS4 := Lib.hid (HS3.out.trans st4)
          clear L4 hgr e1 e2 HGR st4
          go_wp2_with fail
          refine HFR.out.mono ?_
          rintro e w5 (⟨y, f5, h5, ro5, rfl, hg, L5, e1, e2, st5⟩ | ⟨ec, hec, rfl, hno, L5, st5⟩)
          · have v3' := L5.cell (j := 3) rfl
            have HL5 := Lib.hid L5
            have HG5 := Lib.hid hg
            have HE5 := Lib.hid (And.intro e1 e2)
            have HS5 := Lib.hid (HS4.out.trans st5)
            clear L5 hg e1 e2 st5 v0 v1 v2 v3 HFR
            go_wp2_with fail
            go_quiet (fail)
            go_wp2_with fail
            (try simp only [Exit.inBlock, Exit.then])
            go_ret3
            exact ⟨some y, f5, h5, k + 1, ro5, a4, rfl, .inr ⟨h2, .inl ⟨by omega, HG.out⟩, .inr (.inl ⟨HNO.out, hk, h4', y, rfl, HGG.out, HG5.out, rfl⟩)⟩, (HL5.out.law.on (below_drewN (Below.refl _ _) nq)), ⟨_, HL5.out.ka.up⟩, HE5.out.1, (HE5.out.2.trans HE4.out.2).trans HE.out.2, HS5.out.trans (Stay.below (below_drewN (Below.refl _ _) nq))⟩
          · exact absurd hno (room_new HGG.out HP.out.facts.2.2.2.2.2.1)
        · have HL4 := Lib.hid L4
          have HS4 := Lib.hid (HS3.out.trans st4)
          clear L4 HGR st4
          go_wp2_with fail
          (try simp only [Exit.inBlock, Exit.then])
          go_ret3
          exact ⟨none, f, h2, k, _, a4, rfl, .inr ⟨h2, .inl ⟨by omega, HG.out⟩, .inr (.inr ⟨HNO.out, hk, rfl, rfl, rfl, rfl⟩)⟩, HL4.out.law, ⟨_, HL4.out.ka⟩, HE.out.1, HE.out.2, HS4.out⟩
theorem get_anyY (L : LawH W ro 0 w bm bb (n * 16384) f h a) (K : KB n k r h a) (hn : n ≤ 16) (hr : r < 1000000) {nn : Int} (h0 : 0 ≤ nn) :
    Calls Tryz.prog 11 #[.pointer (some ⟨h.bh, 0, none⟩), .int .u64 nn] w fun e w' => ∃ c q i sl S N, PlanOk c q i sl S N ∧ GetToY W ro w bm bb n k r f h c i sl S N (S : Nat) e w' := by
  obtain ⟨m, hm⟩ : ∃ m : Nat, (m : Int) = nn % 15361 := ⟨(nn % 15361).toNat, by omega⟩
  by_cases hs : m ≤ 1024
  · -- a class's
    obtain ⟨c, hc, h1, h2⟩ : ∃ c, c < 12 ∧ m ≤ szs.getD c 0 ∧ ∀ j, j < c → szs.getD j 0 < max m 1 := by
      have key : ∀ k, k ≤ 12 → (∃ c, c < 12 ∧ m ≤ szs.getD c 0 ∧ ∀ j, j < c → szs.getD j 0 < max m 1) ∨ ∀ j, j < k → szs.getD j 0 < max m 1 := by
        intro k
        induction k with
        | zero => intro _; exact .inr fun j hj => by omega
        | succ k ih =>
          intro hk
          rcases ih (by omega) with h | h
          · exact .inl h
          · by_cases e : m ≤ szs.getD k 0
            · exact .inl ⟨k, by omega, e, h⟩
            · refine .inr fun j hj => ?_
              rcases Nat.lt_succ_iff_lt_or_eq.1 hj with h3 | rfl
              · exact h j h3
              · omega
      rcases key 12 (by omega) with h | h
      · exact h
      · have := h 11 (by omega)
        simp [szs] at this
        omega
    have hl : sls.getD c 0 ≤ 4 ∧ szs.getD c 0 ≤ 1024 := by
      rcases (show c = 0 ∨ c = 1 ∨ c = 2 ∨ c = 3 ∨ c = 4 ∨ c = 5 ∨ c = 6 ∨ c = 7 ∨ c = 8 ∨ c = 9 ∨ c = 10 ∨ c = 11 by omega) with rfl | rfl | rfl | rfl | rfl | rfl | rfl | rfl | rfl | rfl | rfl | rfl <;> decide
    have hp : PlanOk (c : Int) (sls.getD c 0 : Nat) c (sls.getD c 0) (szs.getD c 0) (blks.getD c 0) := .inr ⟨rfl, hc, rfl, rfl, rfl⟩
    refine (get_walkY (m := (m : Nat)) (v := (szs.getD c 0 : Nat)) L K hn hr hp (by omega) (by omega) hm.symm h0 ?_).mono fun e w' hg => ⟨_, _, _, _, _, _, hp, hg⟩
    refine (for_small w m hs).mono ?_
    rintro e w' ⟨c', hc', h3, h4, rfl, hb⟩
    have : c' = c := by
      rcases Nat.lt_trichotomy c' c with h | h | h
      · have h5 := h2 c' h
        have h6 : 16 ≤ szs.getD c' 0 := by
          rcases (show c' = 0 ∨ c' = 1 ∨ c' = 2 ∨ c' = 3 ∨ c' = 4 ∨ c' = 5 ∨ c' = 6 ∨ c' = 7 ∨ c' = 8 ∨ c' = 9 ∨ c' = 10 ∨ c' = 11 by omega) with rfl | rfl | rfl | rfl | rfl | rfl | rfl | rfl | rfl | rfl | rfl | rfl <;> decide
        omega
      · exact h
      · have h5 := h4 c h
        have h6 : 16 ≤ szs.getD c 0 := by
          rcases (show c = 0 ∨ c = 1 ∨ c = 2 ∨ c = 3 ∨ c = 4 ∨ c = 5 ∨ c = 6 ∨ c = 7 ∨ c = 8 ∨ c = 9 ∨ c = 10 ∨ c = 11 by omega) with rfl | rfl | rfl | rfl | rfl | rfl | rfl | rfl | rfl | rfl | rfl | rfl <;> decide
        omega
    subst this
    exact ⟨rfl, hb⟩
  · have hm2 : m ≤ 15360 := by omega
    have hp : PlanOk (-1) ((m + 1023) / 1024 : Nat) 12 ((m + 1023) / 1024) ((m + 1023) / 1024 * 1024) 1 := .inl ⟨rfl, rfl, rfl, by omega, by omega, rfl, rfl⟩
    exact (get_walkY (m := (m : Nat)) L K hn hr hp (by omega) (by omega) hm.symm h0 (for_big w m (by omega) hm2)).mono fun e w' hg => ⟨_, _, _, _, _, _, hp, hg⟩
end Go.Proofs.YtbljphaklciinaaGreat

/- Layer 12 (heap): at. -/
namespace Go.Proofs.YtbljphaklciinaaGreat
open Go.RowKit
variable {ro ro' : Nat → Role} {hn : Nat} {w w' : World} {B bm bb sz : Nat} {f g : Nat → Nat} {h : HeapR} {X : Role → Prop}

set_option maxRecDepth 100000 in
theorem at1_any {bs bk bt pl : Nat} {T : Nat → Bool} {O : Nat → Option Nat} {x t a : Int} (h : SegAt w bs bk bt bm pl T O x t a) {xc : Nat} {place : Int} (hx : w.cell? ⟨xc, 0, none⟩ = some (.int .i64 place)) :
    Calls Tryz.prog 100 #[.pointer (some ⟨bs, 0, none⟩), .pointer (some ⟨xc, 0, none⟩)] w fun e w' => e = .returned (.bool (decide ((pl : Int) = place))) ∧ ∃ k, w' = w.drewN k := by
  have HP : Hid (∀ z, Calls Tryz.prog 25 #[.pointer (some ⟨bs, 0, none⟩)] (w.drewN z) fun e w' => e = .returned (.int .i64 pl) ∧ w' = w.drewN z) := fun z => segPlace (h.stays (w' := w.drewN z) rfl rfl rfl)
  clear h
  go_enter Tryz.func100, Tryz.ntmps100
  go_wp2_with fail
  go_quiet ((first | (go_at_call 25; exact Calls.quiet_of_same (HP.out _)) | fail))
  go_wp2_with fail
  go_ret
  have eb : ((pl : Int) == place) = decide ((pl : Int) = place) := by
    by_cases e : (pl : Int) = place <;> simp [e]
  exact ⟨by rw [← eb]; rfl, nq, rfl⟩

/-- Which of a heap's segments stands at a place. -/
def AtPl (S : List SegR) (place : Int) (e : Ending) : Prop := (∃ i s, S[i]? = some s ∧ (s.pl : Int) = place ∧ e = .returned (.int .i64 (i : Nat))) ∨ ((∀ s ∈ S, (s.pl : Int) ≠ place) ∧ e = .returned (.int .i64 (-1)))

set_option maxRecDepth 100000 in
set_option maxHeartbeats 2000000 in
theorem indexfunc_at (H : HeapAt ro hn w B bm sz f h) {A : Option Addr} {c : Nat} (hcs : ∀ k u, (segP h.S)[k]? = some u → ∃ g, A = some ⟨g, 0, none⟩ ∧ w.cell? ⟨g, k, none⟩ = some u) {xc : Nat} {place : Int} (hx : w.cell? ⟨xc, 0, none⟩ = some (.int .i64 place)) :
    Calls Tryz.prog 99 #[.slice A h.S.length c, .func (.func 100) #[] #[.pointer (some ⟨xc, 0, none⟩)]] w fun e w' => AtPl h.S place e ∧ Below w.heap.size w w' := by
  have HH := Lib.hid H
  have HCS := Lib.hid hcs
  have HX := Lib.hid hx
  have hlen := H.len
  clear H hcs hx
  go_enter Tryz.func99, Tryz.ntmps99
  go_wp2_with fail
  go_loopw [8] (fun ix wr => ∃ k : Nat, k ≤ h.S.length ∧ ix = .int .i64 k ∧ Hid (Below w.heap.size w wr) ∧ Hid (∀ j s, j < k → h.S[j]? = some s → (s.pl : Int) ≠ place)) (fun ix _ => h.S.length - (intOf ix).toNat)
  case atStart => exact ⟨0, by omega, rfl, Below.refl _ _, fun j s hj => by omega⟩
  case round =>
    obtain ⟨k, hk, rfl, HB, HN⟩ := hrel
    by_cases hlt : k < h.S.length
    · obtain ⟨s, hs⟩ : ∃ s, h.S[k]? = some s := ⟨_, List.getElem?_eq_getElem hlt⟩
      have hsm := List.mem_of_getElem? hs
      obtain ⟨gg, rfl, hcell⟩ := HCS.out k (.pointer (some ⟨s.bs, 0, none⟩)) (by simp [segP, hs])
      have hcell' := (HB.out.cell (p := ⟨gg, k, none⟩) (World.block_lt_of_cell? _ _ hcell)).trans hcell
      have HD := Lib.hid (at1_any ((HH.out.below HB.out).segs s hsm).seg ((HB.out.cell (p := ⟨xc, 0, none⟩) (World.block_lt_of_cell? _ _ HX.out)).trans HX.out))
      have HS := Lib.hid hs
      clear hs hsm hcell
      go_wp2_with fail
      (with_reducible refine HD.out.mono ?_)
      rintro e w2 ⟨rfl, kk, hw2⟩
      have HB2 : Hid (Below w.heap.size w w2) := by rw [hw2]; exact below_drewN HB.out kk
      clear hw2 HD hcell'
      by_cases e : (s.pl : Int) = place
      · have HE := Lib.hid e
        rw [decide_eq_true e]
        clear e
        go_wp2_with fail
        go_ret
        exact ⟨.inl ⟨k, s, HS.out, HE.out, rfl⟩, HB2.out⟩
      · have HE := Lib.hid e
        rw [decide_eq_false e]
        clear e
        go_wp2_with fail
        go_roundw
        case rel =>
          refine ⟨k + 1, by omega, by go_num, HB2, fun j t hj ht => ?_⟩
          rcases Nat.lt_or_ge j k with h1 | h1
          · exact HN.out j t h1 ht
          · obtain rfl : j = k := by omega
            rw [HS.out] at ht
            injection ht with ht
            rw [← ht]
            exact HE.out
        case measure => simp [intOf]; omega
    · obtain rfl : k = h.S.length := by omega
      go_wp2_with fail
      go_ret
      refine ⟨.inr ⟨fun s hs => ?_, rfl⟩, HB.out⟩
      obtain ⟨j, hj, rfl⟩ := List.mem_iff_getElem.1 hs
      exact HN.out j _ hj (List.getElem?_eq_getElem hj)

set_option maxRecDepth 100000 in
set_option maxHeartbeats 2000000 in
theorem at_any (H : HeapAt ro hn w B bm sz f h) (place : Int) : Calls Tryz.prog 59 #[.pointer (some ⟨h.bh, 0, none⟩), .int .i64 place] w fun e w' => AtPl h.S place e ∧ Below w.heap.size w w' := by
  obtain ⟨v, hv, ho, hg⟩ := H.c29
  obtain ⟨A, c, rfl, _, _, hcs⟩ := own_at ho
  obtain ⟨w0, hw0⟩ : ∃ w0, w0 = w.alloc (.cells #[.int .i64 place] 3) := ⟨_, rfl⟩
  have B0 : Below w.heap.size w w0 := by rw [hw0]; exact (Below.refl _ _).alloc (Nat.le_refl _) _
  have x0 : w0.cell? ⟨w.heap.size, 0, none⟩ = some (.int .i64 place) := by
    rw [hw0]
    have := (Obj_.new w #[.int .i64 place] 3).cell 0 (by simp)
    rw [Nat.zero_add] at this
    exact this
  have hbh := H.lt_h
  have v0 := (B0.cell (p := ⟨h.bh, 29, none⟩) hbh).trans hv
  have HIX := Lib.hid (indexfunc_at (c := c) (H.below B0) (fun k u hu => by obtain ⟨g, e, hc⟩ := hcs k u hu; exact ⟨g, e, (B0.cell (p := ⟨g, k, none⟩) (World.block_lt_of_cell? _ _ hc)).trans hc⟩) x0)
  have HB0 := Lib.hid B0
  have HW0 := Lib.hid hw0
  clear H ho hg hcs B0 x0 hw0
  go_enter Tryz.func59, Tryz.ntmps59
  go_wp2_with fail
  rw [← HW0.out]
  (with_reducible refine HIX.out.mono ?_)
  rintro e w2 ⟨ha, hb⟩
  have HA := Lib.hid ha
  have HB := Lib.hid hb
  obtain ⟨r, rfl⟩ : ∃ r : Int, e = .returned (.int .i64 r) := by
    rcases ha with ⟨i, s, _, _, rfl⟩ | ⟨_, rfl⟩
    · exact ⟨_, rfl⟩
    · exact ⟨_, rfl⟩
  clear ha hb HIX v0 hv
  go_wp2_with fail
  go_ret
  exact ⟨HA.out, HB0.out.trans (HB.out.mono HB0.out.size)⟩
end Go.Proofs.YtbljphaklciinaaGreat

/- Layer 12 (heap): plain: a segment's pages in their order; queues without some of them. -/
namespace Go.Proofs.YtbljphaklciinaaGreat
open Go.RowKit
variable {ro ro' : Nat → Role} {hn : Nat} {w w' : World} {B bm bb sz : Nat} {f g : Nat → Nat} {h h' : HeapR} {X : Role → Prop}

/-- A segment's pages, in their order. -/
def pgsOf (P : List PageR) : List PageR := (List.range 16).filterMap fun j => P.find? fun q => decide (q.at_ = j)
theorem begins_pgs (P : List PageR) : beginsP (startsD P) 16 = (pgsOf P).map fun p => .pointer (some ⟨p.bo, 0, none⟩) := by
  unfold beginsP pgsOf
  have : (List.range 16).filterMap (startsD P) = ((List.range 16).filterMap fun j => P.find? fun q => decide (q.at_ = j)).map (·.bo) := by
    rw [List.map_filterMap]
    rfl
  rw [this, List.map_map]
  rfl
theorem SegOk.mem_pgs {s : SegR} (hs : SegOk ro w bm sz f s) {p : PageR} : p ∈ pgsOf s.P ↔ p ∈ s.P := by
  unfold pgsOf
  rw [List.mem_filterMap]
  constructor
  · rintro ⟨j, _, e⟩
    exact List.mem_of_find?_eq_some e
  · intro hp
    have h1 := (hs.pages p hp).fit
    have h2 := (hs.pages p hp).s1
    refine ⟨p.at_, by simp; omega, ?_⟩
    cases hF : s.P.find? (fun q => decide (q.at_ = p.at_)) with
    | none =>
      rw [List.find?_eq_none] at hF
      exact absurd (by simp) (hF p hp)
    | some q =>
      have hq := List.mem_of_find?_eq_some hF
      have eq := List.find?_some hF
      simp only [decide_eq_true_eq] at eq
      rw [hs.page_at hq hp eq]

/-- What a call on a heap's queues may turn. -/
def hpQ (hn : Nat) (r : Role) : Prop := r = .heap hn ∨ ∃ c i, r = .row hn c i

theorem Hp.queuedQ (H : Hp ro hn w B bm bb sz f h) {c : Nat} (hc : c < 13) {R F : List Int} (ht : QTo w w' B h.bh (2 * c) (h.g1 c) (h.g2 c) R F) (ho : QOnce R F)
    (hl : ∀ k, k ∈ R ∨ k ∈ F → ∃ s ∈ h.S, ∃ p ∈ s.P, k = ((s.pl * 16 + p.at_ : Nat) : Int) ∧ rowIx p.cls = some c) :
    ∃ ro' k1 k2, (∀ k, k < w.heap.size → ro' k = ro k) ∧ Hp ro' hn w' B bm bb sz f (h.queued c R F k1 k2) ∧ RFr ro w w' (hpQ hn) := by
  obtain ⟨ro', k1, k2, e, hh, hr⟩ := H.hp.queued hc ht ho hl
  have hlm := H.mem.lt_bm
  have hlb := H.mem.lt_bb
  exact ⟨ro', k1, k2, e, ⟨hh, H.mem.stays (hr.block bm hlm (by rw [H.rm]; rintro (h | ⟨i, h⟩) <;> cases h)) (hr.block bb hlb (by rw [H.rb]; rintro (h | ⟨i, h⟩) <;> cases h)), (e bm hlm).trans H.rm, (e bb hlb).trans H.rb, Nat.le_trans H.b hr.size⟩, hr.mono (by
    rintro r (h | ⟨i, h⟩)
    · exact .inl h
    · exact .inr ⟨c, i, h⟩)⟩

/-- A heap whose queues lack some numbers. -/
structure RemQ (h h' : HeapR) (L : List Int) : Prop where
  bh : h'.bh = h.bh
  ba : h'.ba = h.ba
  id : h'.id = h.id
  S : h'.S = h.S
  q : ∀ c, c < 13 → ∀ y, y ∈ h'.Q1 c ∨ y ∈ h'.Q2 c ↔ (y ∈ h.Q1 c ∨ y ∈ h.Q2 c) ∧ y ∉ L
theorem RemQ.refl (h : HeapR) : RemQ h h [] := ⟨rfl, rfl, rfl, rfl, fun c _ y => by simp⟩

theorem RemQ.step {L : List Int} (R : RemQ h h' L) (H : HeapAt ro hn w B bm sz f h') {s : SegR} {p : PageR} (hs : s ∈ h'.S) (hp : p ∈ s.P) {i : Nat} (hi : i < 13) (hr : rowIx p.cls = some i) {k1 k2 : Option Nat} :
    RemQ h (h'.queued i (removeS (h'.Q1 i) (h'.Q2 i) ((s.pl * 16 + p.at_ : Nat) : Int)).2.1 (removeS (h'.Q1 i) (h'.Q2 i) ((s.pl * 16 + p.at_ : Nat) : Int)).2.2 k1 k2) (L ++ [((s.pl * 16 + p.at_ : Nat) : Int)]) := by
  refine ⟨R.bh, R.ba, R.id, R.S, fun c hc13 y => ?_⟩
  have hgone := H.key_gone hs hp hr (removeS_out (H.qo i hi) _) (k1 := k1) (k2 := k2)
  constructor
  · intro hy
    have hyk : y ≠ ((s.pl * 16 + p.at_ : Nat) : Int) := fun e => hgone c hc13 (e ▸ hy)
    have hold : y ∈ h'.Q1 c ∨ y ∈ h'.Q2 c := by
      by_cases e : c = i
      · subst e
        rw [show (h'.queued c _ _ k1 k2).Q1 c = _ from updF_same _ _ _, show (h'.queued c _ _ k1 k2).Q2 c = _ from updF_same _ _ _] at hy
        exact removeS_sub hy
      · rw [show (h'.queued i _ _ k1 k2).Q1 c = h'.Q1 c from updF_ne _ _ e, show (h'.queued i _ _ k1 k2).Q2 c = h'.Q2 c from updF_ne _ _ e] at hy
        exact hy
    have := (R.q c hc13 y).1 hold
    exact ⟨this.1, fun hm => by
      rcases List.mem_append.1 hm with h1 | h1
      · exact this.2 h1
      · exact hyk (by simpa using h1)⟩
  · rintro ⟨h1, h2⟩
    rw [List.mem_append, not_or] at h2
    have hyk : y ≠ ((s.pl * 16 + p.at_ : Nat) : Int) := by simpa using h2.2
    have hold := (R.q c hc13 y).2 ⟨h1, h2.1⟩
    by_cases e : c = i
    · subst e
      rw [show (h'.queued c _ _ k1 k2).Q1 c = _ from updF_same _ _ _, show (h'.queued c _ _ k1 k2).Q2 c = _ from updF_same _ _ _]
      unfold removeS
      split
      · exact hold.imp (fun h => (List.mem_erase_of_ne hyk).2 h) (fun h => h)
      · split
        · exact hold.imp (fun h => h) (fun h => (List.mem_erase_of_ne hyk).2 h)
        · exact hold
    · rw [show (h'.queued i _ _ k1 k2).Q1 c = h'.Q1 c from updF_ne _ _ e, show (h'.queued i _ _ k1 k2).Q2 c = h'.Q2 c from updF_ne _ _ e]
      exact hold
end Go.Proofs.YtbljphaklciinaaGreat

/- Layer 12 (heap): Leave. -/
namespace Go.Proofs.YtbljphaklciinaaGreat
open Go.RowKit
variable {ro ro' : Nat → Role} {hn : Nat} {w w' : World} {B bm bb sz : Nat} {f g : Nat → Nat} {h h' : HeapR} {X : Role → Prop}

/-- What Leave, Adopt may turn. -/
def hpL (hn : Nat) (r : Role) : Prop := hpQ hn r ∨ r = .segs hn

theorem Hp.removeQ_to (H : Hp ro hn w B bm bb sz f h) {i : Nat} (hi : i < 13) (x : Int) (ht : QTo (w.alloc (.cells #[.int .i64 x] 3)) w' B h.bh (2 * i) (h.g1 i) (h.g2 i) (removeS (h.Q1 i) (h.Q2 i) x).2.1 (removeS (h.Q1 i) (h.Q2 i) x).2.2) :
    ∃ ro' k1 k2, (∀ k, k < w.heap.size → ro' k = ro k) ∧ Hp ro' hn w' B bm bb sz f (h.queued i (removeS (h.Q1 i) (h.Q2 i) x).2.1 (removeS (h.Q1 i) (h.Q2 i) x).2.2 k1 k2) ∧ RFr ro w w' (hpQ hn) := by
  have B5 : Below w.heap.size w (w.alloc (.cells #[.int .i64 x] 3)) := (Below.refl _ _).alloc (Nat.le_refl _) _
  obtain ⟨ro6, k1, k2, e6, H6, r6⟩ := (H.below B5).queuedQ hi ht ((H.hp.qo i hi).remove _) (fun y hy => H.hp.link i hi y (removeS_sub hy))
  exact ⟨ro6, k1, k2, fun k hk => e6 k (Nat.lt_of_lt_of_le hk B5.size), H6, (RFr.of_below B5).over (fun _ _ => rfl) r6⟩

set_option maxRecDepth 100000 in
set_option maxHeartbeats 1000000 in
theorem leave_none (H : HeapAt ro hn w B bm sz f h) {place : Int} (hno : ∀ s ∈ h.S, (s.pl : Int) ≠ place) : Calls Tryz.prog 24 #[.pointer (some ⟨h.bh, 0, none⟩), .int .i64 place] w fun e w' => e = .returned (.tuple #[.pointer none, .int .i64 5]) ∧ Below w.heap.size w w' := by
  have HA := Lib.hid (at_any H place)
  have HN := Lib.hid hno
  clear H hno
  go_enter Tryz.func24, Tryz.ntmps24
  go_wp2_with fail
  (with_reducible refine HA.out.mono ?_)
  rintro e w1 ⟨ha, hb⟩
  rcases ha with ⟨i, s, hs, e1, _⟩ | ⟨_, rfl⟩
  · exact absurd e1 (HN.out s (List.mem_of_getElem? hs))
  · have HB := Lib.hid hb
    clear hb HA
    go_wp2_with fail
    go_ret2
    exact ⟨rfl, HB.out⟩

theorem rowIx_some {c : Int} (h0 : -1 ≤ c) (h1 : c < 12) : ∃ i, i < 13 ∧ rowIx c = some i := by
  unfold rowIx
  by_cases e : c = -1
  · exact ⟨12, by omega, by rw [if_pos e]⟩
  · exact ⟨c.toNat, by omega, by rw [if_neg e, if_pos (by omega)]⟩

/-- A heap without one segment, whose pages' numbers are in no queue. -/
theorem Hp.left (H : Hp ro hn w B bm bb sz f h) (hf : RFr ro w w' (hpD hn)) {v : Value} {s : SegR} (hs : s ∈ h.S) (hq : ∀ c, c < 13 → ∀ p ∈ s.P, ¬ (((s.pl * 16 + p.at_ : Nat) : Int) ∈ h.Q1 c ∨ ((s.pl * 16 + p.at_ : Nat) : Int) ∈ h.Q2 c)) (hself : w'.heap[h.bh]? = (w.setCell ⟨h.bh, 29, none⟩ v).heap[h.bh]?)
    (ho : w'.ownsRow B 60 1 v (h.S.filter (noPl s.pl)).length (segP (h.S.filter (noPl s.pl)))) (hg : v.ownBlock = h.gs) : Hp ro hn w' B bm bb sz f { h with S := h.S.filter (noPl s.pl) } := by
  refine ⟨H.hp.fewer hf hself ho hg List.filter_sublist (fun c hc k hk => ?_), H.mem.stays (hf.block bm H.mem.lt_bm (by rw [H.rm]; rintro (h | h) <;> cases h)) (hf.block bb H.mem.lt_bb (by rw [H.rb]; rintro (h | h) <;> cases h)), H.rm, H.rb, Nat.le_trans H.b hf.size⟩
  obtain ⟨t, ht, q, hq', e, hr⟩ := H.hp.link c hc k hk
  refine ⟨t, List.mem_filter.2 ⟨ht, noPl_iff.2 fun ep => ?_⟩, q, hq', e, hr⟩
  have := H.hp.seg_at ht hs ep
  subst this
  exact hq c hc q hq' (e ▸ hk)

/-- What Leave leaves. -/
def LeaveTo (ro : Nat → Role) (hn : Nat) (w : World) (B bm bb sz : Nat) (f : Nat → Nat) (h : HeapR) (s : SegR) (w' : World) : Prop :=
  ∃ ro' h', (∀ k, k < w.heap.size → ro' k = ro k) ∧ RFr ro w w' (hpL hn) ∧ Hp ro' hn w' B bm bb sz f { h' with S := h.S.filter (noPl s.pl) } ∧ RemQ h h' ((pgsOf s.P).map fun p => ((s.pl * 16 + p.at_ : Nat) : Int)) ∧ SegOk ro' w' bm sz f s

set_option maxRecDepth 100000 in
set_option maxHeartbeats 8000000 in
theorem leave_ok (H : Hp ro hn w B bm bb sz f h) {s : SegR} (hs : s ∈ h.S) : Calls Tryz.prog 24 #[.pointer (some ⟨h.bh, 0, none⟩), .int .i64 s.pl] w fun e w' => e = .returned (.tuple #[.pointer (some ⟨s.bs, 0, none⟩), .int .i64 0]) ∧ LeaveTo ro hn w B bm bb sz f h s w' := by
  have HA := Lib.hid (at_any H.hp (s.pl : Int))
  have HH := Lib.hid H
  have HS := Lib.hid hs
  have hlen := H.hp.len
  clear H hs
  go_enter Tryz.func24, Tryz.ntmps24
  go_wp2_with fail
  (with_reducible refine HA.out.mono ?_)
  rintro e w1 ⟨ha, hb⟩
  rcases ha with ⟨i, s', hs', e1, rfl⟩ | ⟨hno, _⟩
  · have es := HH.out.hp.seg_at (List.mem_of_getElem? hs') HS.out (by omega)
    subst es
    have hil := (List.getElem?_eq_some_iff.1 hs').1
    have HH1 := Lib.hid (HH.out.below hb)
    obtain ⟨v, hv, ho, hg⟩ := HH1.out.hp.c29
    obtain ⟨A, c, rfl, hc1, hc2, hcs⟩ := own_at ho
    obtain ⟨gg, rfl, hcell⟩ := hcs i (.pointer (some ⟨s'.bs, 0, none⟩)) (by simp [segP, hs'])
    have hso := HH1.out.hp.segs s' HS.out
    have HPG : Hid (Calls Tryz.prog 60 #[.pointer (some ⟨s'.bs, 0, none⟩)] w1 (NewOwn w1 ((pgsOf s'.P).map fun p => .pointer (some ⟨p.bo, 0, none⟩)))) := by
      have := segPages_ok hso.seg hso.begins
      rw [begins_pgs] at this
      exact this
    have HB := Lib.hid hb
    clear hb ho hg hcs hso hs' e1 HA
    go_wp2_with fail
    (with_reducible refine HPG.out.mono ?_)
    rintro e w2 ⟨v2, rfl, ho2, hb2⟩
    obtain ⟨A2, c2, rfl, hd1, hd2, hcs2⟩ := own_at ho2
    obtain ⟨NP, hNP⟩ : ∃ NP, NP = (pgsOf s'.P).length := ⟨_, rfl⟩
    have hNP16 : NP ≤ 16 := by
      rw [hNP]
      unfold pgsOf
      have := List.length_filterMap_le (fun j => s'.P.find? fun q => decide (q.at_ = j)) (List.range 16)
      rw [List.length_range] at this
      exact this
    rw [List.length_map, ← hNP] at hd1 ⊢
    have HCS2 := Lib.hid hcs2
    have HAB : Hid (∀ g, A2 = some ⟨g, 0, none⟩ → w1.heap.size ≤ g ∧ g < w2.heap.size) := fun g e => ho2.lt g (by rw [e]; rfl)
    have HB2 := Lib.hid hb2
    have er2 : ∀ k, k < w1.heap.size → cutR ro w1.heap.size k = ro k := fun k hk => if_pos hk
    have HH2 : Hid (Hp (cutR ro w1.heap.size) hn w2 B bm bb sz f h) := (show Hp (cutR ro w1.heap.size) hn w1 B bm bb sz f h from ⟨HH1.out.hp.role er2, HH1.out.mem, (er2 _ HH1.out.mem.lt_bm).trans HH1.out.rm, (er2 _ HH1.out.mem.lt_bb).trans HH1.out.rb, HH1.out.b⟩).below hb2
    have HE2 := Lib.hid er2
    have HO2 : Hid (∀ k, w1.heap.size ≤ k → cutR ro w1.heap.size k = .other) := fun k hk => if_neg (by omega)
    have HNP := Lib.hid hNP
    generalize cutR ro w1.heap.size = ro2 at *
    clear ho2 hb2 hcs2 er2 hNP HPG hv hcell
    go_wp2_with fail
    go_loopw [27] (fun ix wr => ∃ (k : Nat) (ro' : Nat → Role) (h' : HeapR), k ≤ NP ∧ ix = .int .i64 k ∧ Hid (∀ q, q < w2.heap.size → ro' q = ro2 q) ∧ Hid (Hp ro' hn wr B bm bb sz f h') ∧ Hid (RFr ro2 w2 wr (hpQ hn)) ∧ Hid (RemQ h h' (((pgsOf s'.P).take k).map fun p => ((s'.pl * 16 + p.at_ : Nat) : Int)))) (fun ix _ => NP - (intOf ix).toNat)
    case atStart => exact ⟨0, ro2, h, by omega, rfl, fun _ _ => rfl, HH2.out, RFr.of_below (Below.refl _ _), RemQ.refl h⟩
    case round =>
      obtain ⟨k, ro', h', hk, rfl, HRO, HP, HRF, HRQ⟩ := hrel
      have hsS : s' ∈ h'.S := by rw [HRQ.out.S]; exact HS.out
      have hbh : h'.bh = h.bh := HRQ.out.bh
      by_cases hlt : k < NP
      · obtain ⟨p, hp⟩ : ∃ p, (pgsOf s'.P)[k]? = some p := ⟨_, List.getElem?_eq_getElem (by rw [← HNP.out]; exact hlt)⟩
        have hso := HP.out.hp.segs s' hsS
        have hpm := hso.mem_pgs.1 (List.mem_of_getElem? hp)
        have hpo := hso.pages p hpm
        obtain ⟨g2, rfl, hcell2⟩ := HCS2.out k (.pointer (some ⟨p.bo, 0, none⟩)) (by rw [List.getElem?_map, hp]; rfl)
        have hcw : wr.cell? ⟨g2, k, none⟩ = some (.pointer (some ⟨p.bo, 0, none⟩)) := (World.cell?_of_block (a := ⟨g2, k, none⟩) (HRF.out.block g2 (HAB.out g2 rfl).2 (by rw [HO2.out g2 (HAB.out g2 rfl).1]; rintro (h | ⟨_, _, h⟩) <;> cases h))).trans hcell2
        obtain ⟨i2, hi2, hr2⟩ := rowIx_some hpo.c0 hpo.c1
        have hc0 := hpo.c0
        have hc1 := hpo.c1
        have hfit := hpo.fit
        have hs1 := hpo.s1
        have o1 : wr.cell? ⟨p.bo, 1, none⟩ = some (.int .i64 p.cls) := HP.out.own1 hsS hpm
        have hbo := Obj_.lt hpo.own (by omega)
        have HR := Lib.hid (row_any wr.drew h.bh p.cls (by omega) (by omega))
        rw [hr2] at HR
        simp only [Option.map_some] at HR
        have HK := Lib.hid (key_any (hso.seg.stays (w' := wr.drew) rfl rfl rfl) (Obj_.of_block hpo.own (w' := wr.drew) rfl) (by omega))
        obtain ⟨key, hkey⟩ : ∃ key : Nat, key = s'.pl * 16 + p.at_ := ⟨_, rfl⟩
        rw [← hkey] at HK
        have HKY := Lib.hid hkey
        have HSS := Lib.hid hsS
        have HPM := Lib.hid hpm
        have HPK := Lib.hid hp
        have HROW := Lib.hid hr2
        have HBH := Lib.hid hbh
        have KG3 : Hid (wr.drew.cell? ⟨p.bo, 1, none⟩ = some (.int .i64 p.cls)) := o1
        have HO1 := Lib.hid o1
        clear hsS hso hpm hpo hcell2 hp hr2 hkey hbh
        go_wp2_with fail
        go_region_held3 (fun w' => w'.cell? ⟨p.bo, 1, none⟩ = some (.int .i64 p.cls))
          (first | exact KG3.out | exact KG4.out | exact KG5.out | exact KG6.out | go_keep | fail)
          (first
            | (go_at_call 39; refine HR.out.mono ?_; rintro e wx ⟨rfl, rfl⟩)
            | (go_at_call 47
               refine HK.out.mono ?_
               rintro e w4 ⟨rfl, kk, hw4⟩
               have B4 : Hid (Below wr.heap.size wr w4) := by rw [hw4]; exact below_drewN (below_drew (Below.refl _ _)) kk
               have HP4 := Lib.hid (HP.out.below B4.out)
               have HRM := Lib.hid (HP4.out.remove1 hi2 (key : Int))
               rw [HBH.out] at HRM
               have KG4 : Hid (w4.cell? ⟨p.bo, 1, none⟩ = some (.int .i64 p.cls)) := by rw [hw4]; exact HO1.out
               have KG5 : Hid ((w4.alloc (.cells #[.int .i64 (key : Int)] 3)).cell? ⟨p.bo, 1, none⟩ = some (.int .i64 p.cls)) := (World.cell?_alloc_lt w4 _ ⟨p.bo, 1, none⟩ (Nat.lt_of_lt_of_le hbo B4.out.size)).trans KG4.out
               clear hw4)
            | (go_at_call 61
               (with_reducible refine HRM.out.mono ?_)
               rintro e w6 ⟨rfl, hq6⟩
               rw [← HBH.out] at hq6
               obtain ⟨ro6, k1, k2, e6, H6, r6⟩ := HP4.out.removeQ_to hi2 _ hq6
               have HE6 := Lib.hid e6
               have HH6 := Lib.hid H6
               have HR6 := Lib.hid r6
               have KG6 : Hid (w6.cell? ⟨p.bo, 1, none⟩ = some (.int .i64 p.cls)) := H6.own1 HSS.out HPM.out
               clear hq6 e6 H6 r6)
            | fail)
        have z4 := B4.out.size
        have zr := HRF.out.size
        have HEN : Hid (∀ q, q < w2.heap.size → ro6 q = ro2 q) := fun q hq => (HE6.out q (by omega)).trans (HRO.out q hq)
        have HRN : Hid (RFr ro2 w2 w6 (hpQ hn)) := (HRF.out.over HRO.out (RFr.of_below B4.out)).over HRO.out HR6.out
        have HRQ6 : Hid (RemQ h (h'.queued i2 (removeS (h'.Q1 i2) (h'.Q2 i2) (key : Int)).2.1 (removeS (h'.Q1 i2) (h'.Q2 i2) (key : Int)).2.2 k1 k2) (((pgsOf s'.P).take (k + 1)).map fun p => ((s'.pl * 16 + p.at_ : Nat) : Int))) := by
          have hkk := HKY.out
          subst hkk
          have := HRQ.out.step HP.out.hp HSS.out HPM.out hi2 HROW.out (k1 := k1) (k2 := k2)
          rw [List.take_add_one, HPK.out, List.map_append]
          exact this
        generalize (removeS (h'.Q1 i2) (h'.Q2 i2) (key : Int)).1 = rc at *
        clear HR HK KG3 KG4 KG5 KG6 HRM HR6 HE6 z4 zr
        go_wp2_with fail
        go_roundw
        case rel => exact ⟨k + 1, ro6, _, by omega, by go_num, HEN, HH6, HRN, HRQ6⟩
        case measure => simp [intOf]; omega
      · obtain rfl : k = NP := by omega
        have HDP := Lib.hid (drop_any HP.out.hp hsS)
        rw [hbh] at HDP
        have HSS := Lib.hid hsS
        have HBH := Lib.hid hbh
        clear hsS hbh
        go_wp2_with fail
        (with_reducible refine HDP.out.mono ?_)
        rintro e w9 ⟨rfl, vv, hf9, hself9, ho9, hg9⟩
        have HF9 := Lib.hid hf9
        have H9 : Hid (Hp ro' hn w9 B bm bb sz f { h' with S := h'.S.filter (noPl s'.pl) }) := by
          refine HP.out.left hf9 HSS.out (fun c hc p hp hk => ?_) hself9 ho9 hg9
          have h1 := ((HRQ.out.q c hc _).1 hk).2
          refine h1 (List.mem_map.2 ⟨p, ?_, rfl⟩)
          rw [List.take_of_length_le (by rw [HNP.out]; exact Nat.le_refl _)]
          exact (HP.out.hp.segs s' HSS.out).mem_pgs.2 hp
        clear hf9 hself9 ho9 hg9 HDP
        go_wp2_with fail
        go_ret2
        have h9 := H9.out
        rw [HRQ.out.S] at h9
        have hrq := HRQ.out
        rw [List.take_of_length_le (by rw [HNP.out]; exact Nat.le_refl _)] at hrq
        have e1 : ∀ q, q < w.heap.size → ro' q = ro q := fun q hq => (HRO.out q (Nat.lt_of_lt_of_le hq (Nat.le_trans HB.out.size HB2.out.size))).trans (HE2.out q (Nat.lt_of_lt_of_le hq HB.out.size))
        have r1 : RFr ro w w2 (hpL hn) := (RFr.of_below HB.out : RFr ro w w1 (hpL hn)).over (fun _ _ => rfl) (RFr.of_below HB2.out)
        have e2 : ∀ q, q < w.heap.size → ro2 q = ro q := fun q hq => HE2.out q (Nat.lt_of_lt_of_le hq HB.out.size)
        refine ⟨rfl, ro', h', e1, (r1.over e2 (HRF.out.mono fun r h => .inl h)).over e1 (HF9.out.mono fun r h => by
          rcases h with h | h
          · exact .inl (.inl h)
          · exact .inr h), h9, hrq, (HP.out.hp.segs s' HSS.out).fr HF9.out (by rintro (e | e) <;> cases e) (by rintro (e | e) <;> cases e) (by rintro (e | e) <;> cases e) (fun p _ => ⟨(by rintro (e | e) <;> cases e), (by rintro (e | e) <;> cases e)⟩)⟩
  · exact absurd rfl (hno s HS.out)
end Go.Proofs.YtbljphaklciinaaGreat

/- Layer 12 (heap): Adopt. -/
namespace Go.Proofs.YtbljphaklciinaaGreat
open Go.RowKit
variable {ro ro' : Nat → Role} {hn : Nat} {w w' : World} {B bm bb sz : Nat} {f g : Nat → Nat} {h h' : HeapR} {X : Role → Prop}

/-- Roles with what is new the row of segments. -/
def roSegs (ro : Nat → Role) (N hn : Nat) (k : Nat) : Role := if k < N then ro k else .segs hn

theorem Hp.appended (H : Hp ro hn w B bm bb sz f h) {s : SegR} (hs : SegOk ro w bm sz f s) (hno : ∀ t ∈ h.S, t.pl ≠ s.pl) {o : Obj} {v4 : Value} {w4 : World} (hg4 : (w.alloc o).grownBy w4 h.gs) (hat : v4.ownBlock = h.gs ∨ v4.ownBlock = some (w.alloc o).heap.size) (hsome : ∃ b, v4.ownBlock = some b) 
    (hown : w4.ownsRow B 60 1 v4 (h.S.length + 1) (segP h.S ++ [.pointer (some ⟨s.bs, 0, none⟩)])) :
    ∃ ro', (∀ k, k < w.heap.size → ro' k = ro k) ∧ Hp ro' hn (w4.setCell ⟨h.bh, 29, none⟩ v4) B bm bb sz f { h with S := h.S ++ [s], gs := v4.ownBlock } ∧ RFr ro w (w4.setCell ⟨h.bh, 29, none⟩ v4) (hpD hn) := by
  obtain ⟨v, hv, hov, hgv⟩ := H.hp.c29
  have hbl := H.hp.lt_h
  have hgl : ∀ k, h.gs = some k → k < w.heap.size := fun k e => (hov.lt k (hgv.trans e)).2
  have hgb : h.gs ≠ some h.bh := fun e => by have h1 := H.hp.rs _ e; rw [H.hp.rb] at h1; cases h1
  have zA : (w.alloc o).heap.size = w.heap.size + 1 := by simp
  obtain ⟨gb, hgb4⟩ := hsome
  have hgb2 : gb ≠ h.bh := fun e => by
    rcases hat with h1 | h1
    · rw [hgb4] at h1; exact hgb (by rw [← h1, e])
    · rw [hgb4] at h1; have := Option.some.inj h1; omega
  obtain ⟨wF, hwF⟩ : ∃ wF, wF = w4.setCell ⟨h.bh, 29, none⟩ v4 := ⟨_, rfl⟩
  have b4 : ∀ k, k < w.heap.size → some k ≠ h.gs → w4.heap[k]? = w.heap[k]? := fun k hk h1 => (hg4.block k (by omega) h1).trans (Below.heap_alloc w o k hk)
  have bF : ∀ k, k < w.heap.size → k ≠ h.bh → some k ≠ h.gs → wF.heap[k]? = w.heap[k]? := fun k hk h1 h2 => by
    rw [hwF, Below.heap_setCell _ _ _ _ h1]
    exact b4 k hk h2
  have hself : wF.heap[h.bh]? = (w.setCell ⟨h.bh, 29, none⟩ v4).heap[h.bh]? := by
    rw [hwF]
    simp only [World.setCell, Array.getElem?_modify, if_true]
    rw [b4 h.bh hbl (fun e => hgb e.symm)]
  have zF : w.heap.size ≤ wF.heap.size := by
    rw [hwF]
    have := hg4.size
    simp [World.setCell] at this ⊢
    omega
  have hR : RFr ro w wF (hpD hn) := ⟨by rw [hwF]; exact hg4.os, by rw [hwF]; exact hg4.tape, by rw [hwF]; exact hg4.output, zF, fun k hk hx => bF k hk (fun e => hx (by rw [e, H.hp.rb]; exact .inl rfl)) (fun e => hx (by rw [H.hp.rs k e.symm]; exact .inr rfl))⟩
  have e0 : ∀ k, k < w.heap.size → roSegs ro w.heap.size hn k = ro k := fun k hk => if_pos hk
  have hrs : ∀ k, v4.ownBlock = some k → roSegs ro w.heap.size hn k = .segs hn := fun k e => by
    rcases hat with h1 | h1
    · rw [e0 k (hgl k (h1.symm.trans e))]
      exact H.hp.rs k (h1.symm.trans e)
    · rw [h1] at e
      have := Option.some.inj e
      unfold roSegs
      rw [if_neg (by omega)]
  have hownF : wF.ownsRow B 60 1 v4 (h.S.length + 1) (segP h.S ++ [.pointer (some ⟨s.bs, 0, none⟩)]) := by
    rw [hwF]
    exact hown.kept (only_set (World.grownBy.refl _ _) _) (.inr (fun e => hgb2 (by rw [hgb4] at e; exact Option.some.inj e)))
  have hs' : SegOk (roSegs ro w.heap.size hn) wF bm sz f s := (hs.role e0).fr (X := hpD hn) ⟨hR.os, hR.tape, hR.output, hR.size, fun k hk hx => hR.block k hk (by rw [← e0 k hk]; exact hx)⟩ (by rintro (e | e) <;> cases e) (by rintro (e | e) <;> cases e) (by rintro (e | e) <;> cases e) (fun p _ => ⟨(by rintro (e | e) <;> cases e), (by rintro (e | e) <;> cases e)⟩)
  have hh := H.hp.grown (ro' := roSegs ro w.heap.size hn) hR (by rintro c i (e | e) <;> cases e) (fun pl => ⟨(by rintro (e | e) <;> cases e), (by rintro (e | e) <;> cases e), (by rintro (e | e) <;> cases e)⟩)
    (fun pl at_ => ⟨(by rintro (e | e) <;> cases e), (by rintro (e | e) <;> cases e)⟩) e0 (s := s) (gs := v4.ownBlock) hself hownF rfl hrs hs' hno
  rw [← hwF]
  have hlm := H.mem.lt_bm
  have hlb := H.mem.lt_bb
  exact ⟨_, e0, ⟨hh, H.mem.stays (hR.block bm hlm (by rw [H.rm]; rintro (e | e) <;> cases e)) (hR.block bb hlb (by rw [H.rb]; rintro (e | e) <;> cases e)), (e0 bm hlm).trans H.rm, (e0 bb hlb).trans H.rb, Nat.le_trans H.b zF⟩, hR⟩

/-- A heap whose queues have some pages' numbers more. -/
structure AddQ (h h' : HeapR) (s : SegR) (L : List PageR) : Prop where
  bh : h'.bh = h.bh
  ba : h'.ba = h.ba
  idd : h'.id = h.id
  S : h'.S = h.S
  q : ∀ c, c < 13 → ∀ y, y ∈ h'.Q1 c ∨ y ∈ h'.Q2 c ↔ (y ∈ h.Q1 c ∨ y ∈ h.Q2 c) ∨ ∃ p ∈ L, rowIx p.cls = some c ∧ y = ((s.pl * 16 + p.at_ : Nat) : Int)
theorem AddQ.refl (h : HeapR) (s : SegR) : AddQ h h s [] := ⟨rfl, rfl, rfl, rfl, fun c _ y => by simp⟩

theorem pushS_mem {R F : List Int} {x y : Int} : y ∈ (pushS R F x).2.1 ∨ y ∈ (pushS R F x).2.2 ↔ (y ∈ R ∨ y ∈ F) ∨ y = x := by
  unfold pushS
  cases hq : inQ R F x with
  | true =>
    simp [inQ] at hq
    simp only [if_true]
    constructor
    · exact .inl
    · rintro (h | rfl)
      · exact h
      · exact hq
  | false =>
    simp only [Bool.false_eq_true, if_false, List.mem_append, List.mem_singleton]
    constructor
    · rintro ((h | h) | h)
      · exact .inl (.inl h)
      · exact .inr h
      · exact .inl (.inr h)
    · rintro ((h | h) | h)
      · exact .inl (.inl h)
      · exact .inr h
      · exact .inl (.inr h)

theorem AddQ.step {s : SegR} {L : List PageR} (R : AddQ h h' s L) {p : PageR} {i : Nat} (hr : rowIx p.cls = some i) {k1 k2 : Option Nat} :
    AddQ h (h'.queued i (pushS (h'.Q1 i) (h'.Q2 i) ((s.pl * 16 + p.at_ : Nat) : Int)).2.1 (pushS (h'.Q1 i) (h'.Q2 i) ((s.pl * 16 + p.at_ : Nat) : Int)).2.2 k1 k2) s (L ++ [p]) := by
  refine ⟨R.bh, R.ba, R.idd, R.S, fun c hc y => ?_⟩
  by_cases e : c = i
  · subst e
    rw [show (h'.queued c _ _ k1 k2).Q1 c = _ from updF_same _ _ _, show (h'.queued c _ _ k1 k2).Q2 c = _ from updF_same _ _ _]
    constructor
    · intro hy
      rcases pushS_mem.1 hy with h1 | h1
      · rcases (R.q c hc y).1 h1 with h2 | ⟨q, hq, h2⟩
        · exact .inl h2
        · exact .inr ⟨q, List.mem_append_left _ hq, h2⟩
      · exact .inr ⟨p, by simp, hr, h1⟩
    · rintro (h1 | ⟨q, hq, h1, h2⟩)
      · exact pushS_mem.2 (.inl ((R.q c hc y).2 (.inl h1)))
      · rcases List.mem_append.1 hq with hq | hq
        · exact pushS_mem.2 (.inl ((R.q c hc y).2 (.inr ⟨q, hq, h1, h2⟩)))
        · simp only [List.mem_singleton] at hq
          subst hq
          exact pushS_mem.2 (.inr h2)
  · rw [show (h'.queued i _ _ k1 k2).Q1 c = h'.Q1 c from updF_ne _ _ e, show (h'.queued i _ _ k1 k2).Q2 c = h'.Q2 c from updF_ne _ _ e, R.q c hc y]
    constructor
    · rintro (h1 | ⟨q, hq, h1⟩)
      · exact .inl h1
      · exact .inr ⟨q, List.mem_append_left _ hq, h1⟩
    · rintro (h1 | ⟨q, hq, h1, h2⟩)
      · exact .inl h1
      · rcases List.mem_append.1 hq with hq | hq
        · exact .inr ⟨q, hq, h1, h2⟩
        · simp only [List.mem_singleton] at hq
          subst hq
          rw [hr] at h1
          exact absurd (Option.some.inj h1).symm e

theorem Hp.pushQ_to (H : Hp ro hn w B bm bb sz f h) {s : SegR} {p : PageR} (hs : s ∈ h.S) (hp : p ∈ s.P) {i : Nat} (hi : i < 13) (hr : rowIx p.cls = some i) {x : Int} (hx : x = ((s.pl * 16 + p.at_ : Nat) : Int)) (ht : QTo (w.alloc (.cells #[.int .i64 x] 3)) w' B h.bh (2 * i) (h.g1 i) (h.g2 i) (pushS (h.Q1 i) (h.Q2 i) x).2.1 (pushS (h.Q1 i) (h.Q2 i) x).2.2) :
    ∃ ro' k1 k2, (∀ k, k < w.heap.size → ro' k = ro k) ∧ Hp ro' hn w' B bm bb sz f (h.queued i (pushS (h.Q1 i) (h.Q2 i) x).2.1 (pushS (h.Q1 i) (h.Q2 i) x).2.2 k1 k2) ∧ RFr ro w w' (hpQ hn) := by
  have B5 : Below w.heap.size w (w.alloc (.cells #[.int .i64 x] 3)) := (Below.refl _ _).alloc (Nat.le_refl _) _
  obtain ⟨ro6, k1, k2, e6, H6, r6⟩ := (H.below B5).queuedQ hi ht ((H.hp.qo i hi).push _) (fun y hy => by
    rcases pushS_mem.1 hy with h1 | h1
    · exact H.hp.link i hi y h1
    · exact ⟨s, hs, p, hp, h1.trans hx, hr⟩)
  exact ⟨ro6, k1, k2, fun k hk => e6 k (Nat.lt_of_lt_of_le hk B5.size), H6, (RFr.of_below B5).over (fun _ _ => rfl) r6⟩
end Go.Proofs.YtbljphaklciinaaGreat

/- Layer 12 (heap): Adopt, walked. -/
namespace Go.Proofs.YtbljphaklciinaaGreat
open Go.RowKit
variable {ro ro' : Nat → Role} {hn : Nat} {w w' : World} {B bm bb sz : Nat} {f g : Nat → Nat} {h h' : HeapR} {X : Role → Prop}

set_option maxRecDepth 100000 in
set_option maxHeartbeats 1000000 in
theorem adopt_there (H : HeapAt ro hn w B bm sz f h) {s : SegR} (hs : SegOk ro w bm sz f s) (hth : ∃ t ∈ h.S, t.pl = s.pl) : Calls Tryz.prog 26 #[.pointer (some ⟨h.bh, 0, none⟩), .pointer (some ⟨s.bs, 0, none⟩)] w fun e w' => e = .returned (.int .i64 6) ∧ Below w.heap.size w w' := by
  have HA := Lib.hid (at_any H (s.pl : Int))
  have HP := Lib.hid (segPlace hs.seg)
  have HT := Lib.hid hth
  clear H hs hth
  go_enter Tryz.func26, Tryz.ntmps26
  go_wp2_with fail
  (with_reducible refine HP.out.mono ?_)
  rintro e w1 ⟨rfl, rfl⟩
  go_wp2_with fail
  (with_reducible refine HA.out.mono ?_)
  rintro e w2 ⟨ha, hb⟩
  rcases ha with ⟨i, s', hs', e1, rfl⟩ | ⟨hno, _⟩
  · have HB := Lib.hid hb
    clear hb HA
    go_wp2_with fail
    go_ret
    exact ⟨rfl, HB.out⟩
  · obtain ⟨t, ht, e⟩ := HT.out
    exact absurd (by rw [e]) (hno t ht)

/-- What Adopt leaves. -/
def AdoptTo (ro : Nat → Role) (hn : Nat) (w : World) (B bm bb sz : Nat) (f : Nat → Nat) (h : HeapR) (s : SegR) (w' : World) : Prop :=
  ∃ ro' h' gs, (∀ k, k < w.heap.size → ro' k = ro k) ∧ RFr ro w w' (hpL hn) ∧ Hp ro' hn w' B bm bb sz f h' ∧ AddQ { h with S := h.S ++ [s], gs := gs } h' s (pgsOf s.P)

set_option maxRecDepth 100000 in
set_option maxHeartbeats 8000000 in
theorem adopt_ok (H : Hp ro hn w B bm bb sz f h) {s : SegR} (hs : SegOk ro w bm sz f s) (hno : ∀ t ∈ h.S, t.pl ≠ s.pl) : Calls Tryz.prog 26 #[.pointer (some ⟨h.bh, 0, none⟩), .pointer (some ⟨s.bs, 0, none⟩)] w fun e w' => e = .returned (.int .i64 0) ∧ AdoptTo ro hn w B bm bb sz f h s w' := by
  have HA := Lib.hid (at_any H.hp (s.pl : Int))
  have HPL := Lib.hid (segPlace hs.seg)
  have HH := Lib.hid H
  have HSO := Lib.hid hs
  have HNO := Lib.hid hno
  have hlen := H.hp.len
  clear H hs hno
  go_enter Tryz.func26, Tryz.ntmps26
  go_wp2_with fail
  (with_reducible refine HPL.out.mono ?_)
  rintro e w1 ⟨rfl, rfl⟩
  go_wp2_with fail
  (with_reducible refine HA.out.mono ?_)
  rintro e w2 ⟨ha, hb⟩
  rcases ha with ⟨i, s', hs', e1, _⟩ | ⟨_, rfl⟩
  · exact absurd (by omega) (HNO.out s' (List.mem_of_getElem? hs'))
  · have HB := Lib.hid hb
    have HH2 := Lib.hid (HH.out.below hb)
    have HSO2 := Lib.hid (HSO.out.fr (X := fun _ => False) (RFr.of_below hb) (fun h => h) (fun h => h) (fun h => h) (fun _ _ => ⟨fun h => h, fun h => h⟩))
    obtain ⟨v, hv, hov, hgv⟩ := HH2.out.hp.c29
    obtain ⟨A, c, rfl, _, _, _⟩ := own_at hov
    have HOV := Lib.hid hov
    have HGV := Lib.hid hgv
    have z29 := HH2.out.hp.z29
    have hbl := HH2.out.hp.lt_h
    have hgb : h.gs ≠ some h.bh := fun e => by have h1 := HH2.out.hp.rs _ e; rw [HH2.out.hp.rb] at h1; cases h1
    have hB := HH2.out.b
    obtain ⟨i0, hi0, hz0, hz1, hz2⟩ := info_parts info_segp
    clear hb HA HPL hov hgv
    go_wp2_with (first
      | (at_builtin
         refine wpList_append_any _ rfl (.tmp 24) (.tmp 26) _ rfl B 60 i0 _ 1 8 Tryz.underlying58 hi0 hz0 hz1 hz2 rfl (by omega) (.slice A h.S.length c) h.S.length (segP h.S) rfl
           (HOV.out.alloc _) _ _ 1 1 [.pointer (some ⟨s.bs, 0, none⟩)] rfl (Reads.new1 w2 _ _) (fun u hu => by simp at hu; subst hu; rfl) (by simp only [maxLen]; omega) (by omega) (by simp; omega) ?_
         intro v4 w4 hown4 hg4 hat4
         have c4 : w4.cell? ⟨h.bh, 29, none⟩ = some (.slice A h.S.length c) := hg4.cell ((World.cell?_alloc_lt w2 _ ⟨h.bh, 29, none⟩ (by show h.bh < _; omega)).trans hv) (by rw [HGV.out]; exact fun e => hgb e.symm)
         have f4 : w4.frozen? ⟨h.bh, 29, none⟩ = false := (World.frozen?_of_block (hg4.block h.bh (by simp; omega) (by rw [HGV.out]; exact fun e => hgb e.symm))).trans ((World.frozen?_of_block (Below.heap_alloc w2 _ h.bh (by omega))).trans z29)
         rw [HGV.out] at hg4 hat4
         obtain ⟨gb, cap4, rfl, hgb4, hgl4⟩ := hown4.form (by omega)
         have HAPP := Lib.hid (HH2.out.appended HSO2.out HNO.out hg4 hat4 ⟨gb, rfl⟩ hown4)
         clear hown4 hg4 hat4))
    obtain ⟨roA, eA, HpA, rA⟩ := HAPP.out
    obtain ⟨wA, hwA⟩ : ∃ wA, wA = w4.setCell ⟨h.bh, 29, none⟩ (.slice (some ⟨gb, 0, none⟩) (h.S.length + 1) cap4) := ⟨_, rfl⟩
    rw [← hwA] at HpA rA
    rw [← hwA]
    have HHA := Lib.hid HpA
    have HEA := Lib.hid eA
    have HRA := Lib.hid rA
    obtain ⟨hA, hhA⟩ : ∃ hA : HeapR, hA = { h with S := h.S ++ [s], gs := (Value.slice (some ⟨gb, 0, none⟩) (h.S.length + 1) cap4).ownBlock } := ⟨_, rfl⟩
    rw [← hhA] at HHA
    have hsA : s ∈ hA.S := by rw [hhA]; simp
    have hbA : hA.bh = h.bh := by rw [hhA]
    have HHAE := Lib.hid hhA
    have hso := HHA.out.hp.segs s hsA
    clear HAPP eA HpA rA hwA hhA c4 f4 hv z29
    have HPG : Hid (Calls Tryz.prog 60 #[.pointer (some ⟨s.bs, 0, none⟩)] wA (NewOwn wA ((pgsOf s.P).map fun p => .pointer (some ⟨p.bo, 0, none⟩)))) := by
      have := segPages_ok hso.seg hso.begins
      rw [begins_pgs] at this
      exact this
    clear hso
    go_wp2_with fail
    (with_reducible refine HPG.out.mono ?_)
    rintro e wB ⟨v2, rfl, ho2, hb2⟩
    obtain ⟨A2, c2, rfl, hd1, hd2, hcs2⟩ := own_at ho2
    obtain ⟨NP, hNP⟩ : ∃ NP, NP = (pgsOf s.P).length := ⟨_, rfl⟩
    have hNP16 : NP ≤ 16 := by
      rw [hNP]
      unfold pgsOf
      have := List.length_filterMap_le (fun j => s.P.find? fun q => decide (q.at_ = j)) (List.range 16)
      rw [List.length_range] at this
      exact this
    rw [List.length_map, ← hNP] at hd1 ⊢
    have HCS2 := Lib.hid hcs2
    have HAB : Hid (∀ g, A2 = some ⟨g, 0, none⟩ → wA.heap.size ≤ g ∧ g < wB.heap.size) := fun g e => ho2.lt g (by rw [e]; rfl)
    have HB2 := Lib.hid hb2
    have er2 : ∀ k, k < wA.heap.size → cutR roA wA.heap.size k = roA k := fun k hk => if_pos hk
    have HH2 : Hid (Hp (cutR roA wA.heap.size) hn wB B bm bb sz f hA) := (show Hp (cutR roA wA.heap.size) hn wA B bm bb sz f hA from ⟨HHA.out.hp.role er2, HHA.out.mem, (er2 _ HHA.out.mem.lt_bm).trans HHA.out.rm, (er2 _ HHA.out.mem.lt_bb).trans HHA.out.rb, HHA.out.b⟩).below hb2
    have HE2 := Lib.hid er2
    have HO2 : Hid (∀ k, wA.heap.size ≤ k → cutR roA wA.heap.size k = .other) := fun k hk => if_neg (by omega)
    have HNP := Lib.hid hNP
    generalize cutR roA wA.heap.size = ro2 at *
    clear ho2 hb2 hcs2 er2 hNP HPG
    go_wp2_with fail
    go_loopw [33] (fun ix wr => ∃ (k : Nat) (ro' : Nat → Role) (h' : HeapR), k ≤ NP ∧ ix = .int .i64 k ∧ Hid (∀ q, q < wB.heap.size → ro' q = ro2 q) ∧ Hid (Hp ro' hn wr B bm bb sz f h') ∧ Hid (RFr ro2 wB wr (hpQ hn)) ∧ Hid (AddQ hA h' s ((pgsOf s.P).take k))) (fun ix _ => NP - (intOf ix).toNat)
    case atStart => exact ⟨0, ro2, hA, by omega, rfl, fun _ _ => rfl, HH2.out, RFr.of_below (Below.refl _ _), AddQ.refl hA s⟩
    case round =>
      obtain ⟨k, ro', h', hk, rfl, HRO, HP, HRF, HRQ⟩ := hrel
      have hsS : s ∈ h'.S := by rw [HRQ.out.S]; exact hsA
      have hbh : h'.bh = h.bh := HRQ.out.bh.trans hbA
      by_cases hlt : k < NP
      · obtain ⟨p, hp⟩ : ∃ p, (pgsOf s.P)[k]? = some p := ⟨_, List.getElem?_eq_getElem (by rw [← HNP.out]; exact hlt)⟩
        have hso := HP.out.hp.segs s hsS
        have hpm := hso.mem_pgs.1 (List.mem_of_getElem? hp)
        have hpo := hso.pages p hpm
        obtain ⟨g2, rfl, hcell2⟩ := HCS2.out k (.pointer (some ⟨p.bo, 0, none⟩)) (by rw [List.getElem?_map, hp]; rfl)
        have hcw : wr.cell? ⟨g2, k, none⟩ = some (.pointer (some ⟨p.bo, 0, none⟩)) := (World.cell?_of_block (a := ⟨g2, k, none⟩) (HRF.out.block g2 (HAB.out g2 rfl).2 (by rw [HO2.out g2 (HAB.out g2 rfl).1]; rintro (h | ⟨_, _, h⟩) <;> cases h))).trans hcell2
        obtain ⟨i2, hi2, hr2⟩ := rowIx_some hpo.c0 hpo.c1
        have hc0 := hpo.c0
        have hc1 := hpo.c1
        have hfit := hpo.fit
        have hs1 := hpo.s1
        have o1 : wr.cell? ⟨p.bo, 1, none⟩ = some (.int .i64 p.cls) := HP.out.own1 hsS hpm
        have hbo := Obj_.lt hpo.own (by omega)
        have HR := Lib.hid (row_any wr.drew h.bh p.cls (by omega) (by omega))
        rw [hr2] at HR
        simp only [Option.map_some] at HR
        have HK := Lib.hid (key_any (hso.seg.stays (w' := wr.drew) rfl rfl rfl) (Obj_.of_block hpo.own (w' := wr.drew) rfl) (by omega))
        obtain ⟨key, hkey⟩ : ∃ key : Nat, key = s.pl * 16 + p.at_ := ⟨_, rfl⟩
        rw [← hkey] at HK
        have HKY := Lib.hid hkey
        have HSS := Lib.hid hsS
        have HPM := Lib.hid hpm
        have HPK := Lib.hid hp
        have HROW := Lib.hid hr2
        have HBH := Lib.hid hbh
        have KG3 : Hid (wr.drew.cell? ⟨p.bo, 1, none⟩ = some (.int .i64 p.cls)) := o1
        have HO1 := Lib.hid o1
        clear hsS hso hpm hpo hcell2 hp hr2 hkey hbh
        go_wp2_with fail
        go_region_held3 (fun w' => w'.cell? ⟨p.bo, 1, none⟩ = some (.int .i64 p.cls))
          (first | exact KG3.out | exact KG4.out | exact KG5.out | exact KG6.out | go_keep | fail)
          (first
            | (go_at_call 39; refine HR.out.mono ?_; rintro e wx ⟨rfl, rfl⟩)
            | (go_at_call 47
               refine HK.out.mono ?_
               rintro e w4 ⟨rfl, kk, hw4⟩
               have B4 : Hid (Below wr.heap.size wr w4) := by rw [hw4]; exact below_drewN (below_drew (Below.refl _ _)) kk
               have HP4 := Lib.hid (HP.out.below B4.out)
               have HRM := Lib.hid (HP4.out.push1 hi2 (key : Int))
               rw [HBH.out] at HRM
               have KG4 : Hid (w4.cell? ⟨p.bo, 1, none⟩ = some (.int .i64 p.cls)) := by rw [hw4]; exact HO1.out
               have KG5 : Hid ((w4.alloc (.cells #[.int .i64 (key : Int)] 3)).cell? ⟨p.bo, 1, none⟩ = some (.int .i64 p.cls)) := (World.cell?_alloc_lt w4 _ ⟨p.bo, 1, none⟩ (Nat.lt_of_lt_of_le hbo B4.out.size)).trans KG4.out
               clear hw4)
            | (go_at_call 56
               (with_reducible refine HRM.out.mono ?_)
               rintro e w6 ⟨rfl, hq6⟩
               rw [← HBH.out] at hq6
               obtain ⟨ro6, k1, k2, e6, H6, r6⟩ := HP4.out.pushQ_to HSS.out HPM.out hi2 HROW.out (by rw [HKY.out]) hq6
               have HE6 := Lib.hid e6
               have HH6 := Lib.hid H6
               have HR6 := Lib.hid r6
               have KG6 : Hid (w6.cell? ⟨p.bo, 1, none⟩ = some (.int .i64 p.cls)) := H6.own1 HSS.out HPM.out
               clear hq6 e6 H6 r6)
            | fail)
        have z4 := B4.out.size
        have zr := HRF.out.size
        have HEN : Hid (∀ q, q < wB.heap.size → ro6 q = ro2 q) := fun q hq => (HE6.out q (by omega)).trans (HRO.out q hq)
        have HRN : Hid (RFr ro2 wB w6 (hpQ hn)) := (HRF.out.over HRO.out (RFr.of_below B4.out)).over HRO.out HR6.out
        have HRQ6 : Hid (AddQ hA (h'.queued i2 (pushS (h'.Q1 i2) (h'.Q2 i2) (key : Int)).2.1 (pushS (h'.Q1 i2) (h'.Q2 i2) (key : Int)).2.2 k1 k2) s ((pgsOf s.P).take (k + 1))) := by
          have hkk := HKY.out
          subst hkk
          have := HRQ.out.step HROW.out (k1 := k1) (k2 := k2)
          rw [List.take_add_one, HPK.out]
          exact this
        generalize (pushS (h'.Q1 i2) (h'.Q2 i2) (key : Int)).1 = rc at *
        clear HR HK KG3 KG4 KG5 KG6 HRM HR6 HE6 z4 zr
        go_wp2_with fail
        go_roundw
        case rel => exact ⟨k + 1, ro6, _, by omega, by go_num, HEN, HH6, HRN, HRQ6⟩
        case measure => simp [intOf]; omega
      · obtain rfl : k = NP := by omega
        go_wp2_with fail
        go_ret
        have hrq := HRQ.out
        rw [List.take_of_length_le (by rw [HNP.out]; exact Nat.le_refl _)] at hrq
        rw [HHAE.out] at hrq
        have hzw := HB.out.size
        have hza := HRA.out.size
        have hzb := HB2.out.size
        have e1 : ∀ q, q < w1.heap.size → roA q = ro q := fun q hq => HEA.out q (by omega)
        have e2 : ∀ q, q < w1.heap.size → ro2 q = ro q := fun q hq => (HE2.out q (by omega)).trans (e1 q hq)
        have e3 : ∀ q, q < w1.heap.size → ro' q = ro q := fun q hq => (HRO.out q (by omega)).trans (e2 q hq)
        have r1 : RFr ro w1 wA (hpL hn) := (RFr.of_below HB.out : RFr ro w1 w2 (hpL hn)).over (fun _ _ => rfl) (HRA.out.mono fun r h => by
          rcases h with h | h
          · exact .inl (.inl h)
          · exact .inr h)
        have r2 : RFr ro w1 wB (hpL hn) := r1.over e1 (RFr.of_below HB2.out)
        exact ⟨rfl, ro', h', _, e3, r2.over e2 (HRF.out.mono fun r h => .inl h), HP.out, hrq⟩
end Go.Proofs.YtbljphaklciinaaGreat
