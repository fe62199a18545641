/- Walks of the program's functions, and plain laws on what they compute, text by text (MovesA, MovesB, MovesC, MovesD, MovesE, Post, All, Join). No condition. -/
import Derived.Test.YtbljphaklciinaaGreatHeapApart03
import Derived.Maps.AppendAt
import Derived.Maps.OwnIn

/- HeapMoves: what holds while blocks come; heaps side by side. -/
namespace Go.Proofs.YtbljphaklciinaaGreat
open Go.RowKit
variable {ro ro' : Nat → Role} {hn hm : Nat} {w w' : World} {B bm bb sz : Nat} {f f' : Nat → Nat} {h h' : HeapR} {X : Role → Prop} {a : ArR} {W : World} {n k k' r x : Nat} {U : List Nat}

/-- Whose the segments are. -/
def Owns (h : HeapR) : Prop := ∀ s ∈ h.S, s.x = h.id ∧ s.a = 1

theorem setPg_own {pl at_ : Nat} {pg : Pg} {S : List SegR} {i : Int} (hS : ∀ s ∈ S, s.x = i ∧ s.a = 1) : ∀ s ∈ setPg pl at_ pg S, s.x = i ∧ s.a = 1 := fun s hs => by
  obtain ⟨t, ht, rfl⟩ := List.mem_map.1 hs
  have := hS t ht
  split <;> exact this
theorem addPg_own {pl : Nat} {p : PageR} {S : List SegR} {i : Int} (hS : ∀ s ∈ S, s.x = i ∧ s.a = 1) : ∀ s ∈ addPg pl p S, s.x = i ∧ s.a = 1 := fun s hs => by
  obtain ⟨t, ht, rfl⟩ := List.mem_map.1 hs
  have := hS t ht
  unfold addI
  split <;> exact this

theorem GetR.also {c : Int} {i sl Sz N : Nat} {y : Option Nat} (hg : GetR sz n k f h c i sl Sz N y f' h' k') (hl : h.S.length = k) (ho : Owns h) : h'.S.length = k' ∧ Owns h' ∧ h'.id = h.id := by
  have loc : ∀ {h h' : HeapR} {x : Nat} {f'}, GLoc sz f h i x f' h' → Owns h → h'.S.length = h.S.length ∧ Owns h' ∧ h'.id = h.id := fun hg ho => by
    obtain ⟨kk, s, hs, p, hp, pg', k1, k2, _, _, _, _, rfl⟩ := hg
    exact ⟨by show (setPg _ _ _ _).length = _; unfold setPg; rw [List.length_map], setPg_own ho, rfl⟩
  have new : ∀ {h h' : HeapR} {x : Nat} {f f'}, GNew sz f h c i sl Sz N x f' h' → Owns h → h'.S.length = h.S.length ∧ Owns h' ∧ h'.id = h.id := fun hg ho => by
    obtain ⟨s, hs, at_, bo, bp, pg', k1, k2, _, _, _, _, rfl⟩ := hg
    exact ⟨by show (addPg _ _ _).length = _; unfold addPg; rw [List.length_map], addPg_own ho, rfl⟩
  rcases hg with ⟨x, rfl, _, hg, rfl⟩ | ⟨h1, h2, hg⟩
  · have := loc hg ho
    exact ⟨this.1.trans hl, this.2⟩
  · have h1o : h1.S = h.S ∧ h1.id = h.id := by
      rcases h2 with ⟨_, k1, k2, _, rfl⟩ | ⟨_, rfl⟩
      · exact ⟨rfl, rfl⟩
      · exact ⟨rfl, rfl⟩
    have ho1 : Owns h1 := fun s hs => by rw [h1o.2]; exact ho s (h1o.1 ▸ hs)
    have hl1 : h1.S.length = k := by rw [h1o.1]; exact hl
    rcases hg with ⟨x, rfl, hg, rfl⟩ | ⟨_, _, h3, x, rfl, hgr, hg, rfl⟩ | ⟨_, _, rfl, rfl, rfl, rfl⟩
    · have := new hg ho1
      exact ⟨this.1.trans hl1, this.2.1, this.2.2.trans h1o.2⟩
    · obtain ⟨s, gs, hpl, hP, hx, rfl⟩ := hgr
      have := new hg (fun t ht => by
        rcases List.mem_append.1 ht with ht | ht
        · exact ho1 t ht
        · simp only [List.mem_singleton] at ht
          subst ht
          exact hx)
      refine ⟨this.1.trans ?_, this.2.1, this.2.2.trans h1o.2⟩
      show (h1.S ++ [s]).length = _
      rw [List.length_append, hl1]
      rfl
    · exact ⟨hl1, ho1, h1o.2⟩

/-- A law's heap while blocks come. -/
structure MS (W : World) (ro : Nat → Role) (w : World) (bm bb : Nat) (f : Nat → Nat) (h : HeapR) (a : ArR) (n k r : Nat) (U : List Nat) : Prop where
  law : LawH W ro 0 w bm bb (n * 16384) f h a
  ka : KA n k r h a
  bi : BInv h U
  ne : NE h.S
  len : h.S.length = k
  own : Owns h

theorem MS.new {bh ba bk bt : Nat} (L : LawH W ro 0 w bm bb (n * 16384) f (newHR bh ba 7) (newAr bk bt n)) : MS W ro w bm bb f (newHR bh ba 7) (newAr bk bt n) n 0 0 [] :=
  ⟨L, ⟨rfl, rfl, by funext j; simp [newAr], rfl, by omega, nofun, Nat.le_refl _⟩, ⟨rfl, nofun, List.nodup_nil, nofun, nofun⟩, nofun, rfl, nofun⟩
theorem MS.on (M : MS W ro w bm bb f h a n k r U) (hb : Below w.heap.size w w') : MS W ro w' bm bb f h a n k r U := { M with law := M.law.on hb }

theorem MS.get (M : MS W ro w bm bb f h a n k r U) (hn : n ≤ 16) (hr : r < 1000000) {nn : Int} (h0 : 0 ≤ nn) :
    Calls Tryz.prog 11 #[.pointer (some ⟨h.bh, 0, none⟩), .int .u64 nn] w fun e w' => ∃ ro' f' h' a' k', Stay ro w ro' w' ∧ h'.bh = h.bh ∧ h'.ba = h.ba ∧ h'.id = h.id ∧
      ((∃ (x : Nat) (v : Nat), e = .returned (.tuple #[.int .u64 x, .int .u64 v, .bool true]) ∧ MS W ro' w' bm bb f' h' a' n k' (r + 1) (U ++ [x])) ∨ (e = .returned (.tuple #[.int .u64 0, .int .u64 0, .bool false]) ∧ MS W ro' w' bm bb f' h' a' n k' (r + 1) U)) := by
  refine (get_any M.law M.ka hn hr h0).mono ?_
  rintro e w' ⟨c, q, i, sl, S, N, hp, y, f', h', k', ro', a', rfl, hg, L', K', e1, e2, hs⟩
  obtain ⟨g1, g2, g3⟩ := hg.also M.len M.own
  obtain ⟨b1, b2⟩ := M.bi.got M.ne M.law.hp.hp.sok M.law.hp.hp.sapart L'.hp.hp.sok L'.hp.hp.sapart M.ka.pls hp hg
  refine ⟨ro', f', h', a', k', hs, e1, e2, g3, ?_⟩
  rcases b2 with ⟨x, rfl, I'⟩ | ⟨rfl, I'⟩
  · exact .inl ⟨x, S, rfl, L', K', I', b1, g1, g2⟩
  · exact .inr ⟨rfl, L', K', I', b1, g1, g2⟩

theorem Hp.rerole (H : Hp ro hn w B bm bb sz f h) (e : ∀ k, k < w.heap.size → ro' k = ro k) : Hp ro' hn w B bm bb sz f h :=
  ⟨H.hp.role e, H.mem, (e bm H.mem.lt_bm).trans H.rm, (e bb H.mem.lt_bb).trans H.rb, H.b⟩
theorem RFr.rerole (hf : RFr ro w w' X) (e : ∀ k, k < w.heap.size → ro' k = ro k) : RFr ro' w w' X := ⟨hf.os, hf.tape, hf.output, hf.size, fun k hk hx => hf.block k hk (by rw [← e k hk]; exact hx)⟩

/-- A call that turns nothing of a heap's. -/
theorem Hp.kept (H : Hp ro hn w B bm bb sz f h) (hf : RFr ro w w' X) (e : ∀ k, k < w.heap.size → ro' k = ro k) (x0 : ¬ X .mem ∧ ¬ X .bytes) (x1 : ¬ X (.heap hn)) (x2 : ∀ c i, ¬ X (.row hn c i)) (x3 : ¬ X (.segs hn))
    (x4 : ∀ s ∈ h.S, ¬ X (.sg s.pl) ∧ ¬ X (.mk s.pl) ∧ ¬ X (.tk s.pl)) (x5 : ∀ pl at_, ¬ X (.po pl at_) ∧ ¬ X (.pp pl at_)) : Hp ro' hn w' B bm bb sz f h := by
  have H' := H.rerole e
  have hf' := hf.rerole e
  have hh := H'.hp.reseg hf' x1 x2 x3 (S' := h.S) rfl (fun s hs => (H'.hp.segs s hs).fr hf' (x4 s hs).1 (x4 s hs).2.1 (x4 s hs).2.2 (fun p _ => x5 _ _)) H'.hp.pls H'.hp.link
  exact ⟨hh, H'.mem.stays (hf'.block bm H'.mem.lt_bm (by rw [H'.rm]; exact x0.1)) (hf'.block bb H'.mem.lt_bb (by rw [H'.rb]; exact x0.2)), H'.rm, H'.rb, Nat.le_trans H'.b hf'.size⟩

/-- Another heap's call: this one stays. -/
theorem Hp.beside (H : Hp ro hn w B bm bb sz f h) (hne : hn ≠ hm) (hf : RFr ro w w' (hpL hm)) (e : ∀ k, k < w.heap.size → ro' k = ro k) : Hp ro' hn w' B bm bb sz f h := by
  refine H.kept hf e ⟨?_, ?_⟩ ?_ (fun c i => ?_) ?_ (fun s _ => ⟨?_, ?_, ?_⟩) (fun pl at_ => ⟨?_, ?_⟩)
  all_goals (rintro ((h | ⟨_, _, h⟩) | h) <;> cases h <;> exact absurd rfl hne)

theorem hpL_ar {i : Nat} : ¬ hpL hn (.ar i) := by rintro ((h | ⟨_, _, h⟩) | h) <;> cases h
theorem hpL_other : ¬ hpL hn .other := by rintro ((h | ⟨_, _, h⟩) | h) <;> cases h

/-- A heap that has nothing stays, whatever another one's Free does. -/
theorem Hp.idle (H : Hp ro hn w B bm bb sz f h) (hS : h.S = []) (hne : hn ≠ hm) (hf : RFr ro w w' (hpT hm)) (e : ∀ k, k < w.heap.size → ro' k = ro k) (M : MemAt w' bm bb sz f') : Hp ro' hn w' B bm bb sz f' h := by
  have H' := H.rerole e
  have hf' := hf.rerole e
  have y1 : ¬ hpT hm (.heap hn) := by
    rintro (((h | ⟨_, _, h⟩ | h | ⟨_, _, h⟩) | ⟨_, h | h | h⟩) | (⟨_, h⟩ | h | h)) <;> first | (injection h with h; exact hne h) | cases h
  have y2 : ∀ c i, ¬ hpT hm (.row hn c i) := by
    rintro c i (((h | ⟨_, _, h⟩ | h | ⟨_, _, h⟩) | ⟨_, h | h | h⟩) | (⟨_, h⟩ | h | h)) <;> first | (injection h with h _ _; exact hne h) | cases h
  have y3 : ¬ hpT hm (.segs hn) := by
    rintro (((h | ⟨_, _, h⟩ | h | ⟨_, _, h⟩) | ⟨_, h | h | h⟩) | (⟨_, h⟩ | h | h)) <;> first | (injection h with h; exact hne h) | cases h
  have hh := H'.hp.reseg (g := f') hf' y1 y2 y3 (S' := h.S) rfl (fun s hs => by rw [hS] at hs; cases hs) H'.hp.pls H'.hp.link
  exact ⟨hh, M, H'.rm, H'.rb, Nat.le_trans H'.b hf'.size⟩
end Go.Proofs.YtbljphaklciinaaGreat

/- HeapMoves: the owner's cell; two heaps; how many pages there are. -/
namespace Go.Proofs.YtbljphaklciinaaGreat
open Go.RowKit
variable {ro ro' : Nat → Role} {hn hm : Nat} {w w' : World} {B bm bb sz : Nat} {f f' : Nat → Nat} {h h' o o' : HeapR} {X : Role → Prop} {a : ArR} {W : World} {n k k' r x : Nat} {U : List Nat}

theorem segLoad {bs bk bt pl : Nat} {T : Nat → Bool} {O : Nat → Option Nat} {x t a : Int} (h : SegAt w bs bk bt bm pl T O x t a) (h0 : 0 ≤ a) (h1 : a < 4611686018427387904) :
    Calls Tryz.prog 28 #[.pointer (some ⟨bs, 19, none⟩)] w fun e w' => e = .returned (.tuple #[.int .u64 x, .int .u64 t]) ∧ SegAt w' bs bk bt bm pl T O x t (a + 1) ∧ w.grownBy w' (some bs) := by
  have hc : CellAt w bs 19 x t a := ⟨h.obj.at_ (j := 19) (by omega) rfl, h.obj.at_ (j := 20) (by omega) rfl, h.obj.at_ (j := 21) (by omega) rfl, h.obj.frz 19 (by omega), h.obj.frz 20 (by omega), h.obj.frz 21 (by omega)⟩
  refine (load_any bs 19 x t a w hc h0 h1).mono fun e w' ⟨he, kk, hw⟩ => ⟨he, ?_, ?_⟩
  · subst hw
    have ho := (h.obj.set (i := 21) (by omega) (.int .i64 (a + 1))).drewN kk
    refine ⟨ho.congr (fun j hj => ?_), h.marks.stays ?_ ?_, h.nk, h.nt, h.pl64, ?_⟩
    · unfold upd
      rcases lt22 hj with rfl | rfl | rfl | ⟨i, hi, rfl⟩ | rfl | rfl | rfl
      · rfl
      · rfl
      · rfl
      · rw [if_neg (by omega), segV_of i hi, segV_of i hi]
      · rfl
      · rfl
      · rfl
    · exact Below.heap_setCell _ _ _ _ h.nk.symm
    · exact Below.heap_setCell _ _ _ _ h.nt.symm
    · exact (h.shp.set bs 21 _).of_block rfl
  · subst hw
    exact only_drewN (only_set (World.grownBy.refl w _) _) _

/-- A segment whose cell has been asked. -/
def askedI (pl : Nat) (s : SegR) : SegR := if s.pl = pl then { s with a := s.a + 1 } else s
def asked (pl : Nat) (S : List SegR) : List SegR := S.map (askedI pl)
theorem askedI_pl (pl : Nat) (s : SegR) : (askedI pl s).pl = s.pl := by unfold askedI; split <;> rfl
theorem askedI_P (pl : Nat) (s : SegR) : (askedI pl s).P = s.P := by unfold askedI; split <;> rfl
theorem askedI_bs (pl : Nat) (s : SegR) : (askedI pl s).bs = s.bs := by unfold askedI; split <;> rfl

theorem Hp.asked (H : Hp ro hn w B bm bb sz f h) {s : SegR} (hs : s ∈ h.S) (hseg : SegAt w' s.bs s.bk s.bt bm s.pl (segT s.P) (segO s.P) s.x s.t (s.a + 1)) (hg : w.grownBy w' (some s.bs)) :
    Hp ro hn w' B bm bb sz f { h with S := asked s.pl h.S } ∧ RFr ro w w' (fun r => r = .sg s.pl) := by
  have hso := H.hp.segs s hs
  have hR : RFr ro w w' (fun r => r = .sg s.pl) := ⟨hg.os, hg.tape, hg.output, hg.size, fun k hk hx => hg.block k hk (fun e => hx (by rw [Option.some.inj e]; exact hso.rs))⟩
  have hh := H.hp.reseg hR nofun (fun c i => nofun) nofun (S' := Go.Proofs.YtbljphaklciinaaGreat.asked s.pl h.S) (by
    unfold segP Go.Proofs.YtbljphaklciinaaGreat.asked
    rw [List.map_map]
    refine List.map_congr_left fun t _ => ?_
    show Value.pointer (some ⟨(askedI s.pl t).bs, 0, none⟩) = _
    rw [askedI_bs]) (fun t ht => by
    obtain ⟨t0, ht0, rfl⟩ := List.mem_map.1 ht
    have h0 := H.hp.segs t0 ht0
    by_cases e : t0.pl = s.pl
    · have es := H.hp.seg_at ht0 hs e
      subst es
      unfold askedI
      rw [if_pos rfl]
      exact ⟨hseg, h0.fit, fun q hq => (h0.pages q hq).fr hR nofun nofun, h0.apart, h0.rs, h0.rk, h0.rt⟩
    · unfold askedI
      rw [if_neg e]
      exact h0.fr hR (fun h => by injection h with h; exact e h) nofun nofun (fun q _ => ⟨nofun, nofun⟩)) (by
    unfold Go.Proofs.YtbljphaklciinaaGreat.asked
    rw [List.pairwise_map]
    exact H.hp.pls.imp fun {a b} hab => by rw [askedI_pl, askedI_pl]; exact hab) (fun c hc k hk => by
    obtain ⟨t, ht, q, hq, e, hr⟩ := H.hp.link c hc k hk
    exact ⟨_, List.mem_map.2 ⟨t, ht, rfl⟩, q, by rw [askedI_P]; exact hq, by rw [askedI_pl]; exact e, hr⟩)
  exact ⟨⟨hh, H.mem.stays (hR.block bm H.mem.lt_bm (by rw [H.rm]; nofun)) (hR.block bb H.mem.lt_bb (by rw [H.rb]; nofun)), H.rm, H.rb, Nat.le_trans H.b hg.size⟩, hR⟩

theorem nodup_len_le : ∀ {L M : List Int}, L.Nodup → (∀ x ∈ L, x ∈ M) → L.length ≤ M.length
  | [], _, _, _ => Nat.zero_le _
  | x :: r, M, hn, hs => by
    rw [List.nodup_cons] at hn
    have h1 := hs x (by simp)
    have h2 := nodup_len_le (L := r) (M := M.erase x) hn.2 (fun y hy => (List.mem_erase_of_ne (fun e : y = x => hn.1 (by rw [← e]; exact hy))).2 (hs y (by simp [hy])))
    rw [List.length_erase_of_mem h1] at h2
    have := List.length_pos_of_mem h1
    simp only [List.length_cons]
    omega

/-- How many pages there are. -/
def pagesN (S : List SegR) : Nat := (S.map fun s => s.P.length).sum
def keysOf (S : List SegR) : List Int := S.flatMap fun s => s.P.map (keyOf s)
theorem keysOf_len (S : List SegR) : (keysOf S).length = pagesN S := by
  unfold keysOf pagesN
  rw [List.length_flatMap]
  congr 1
  refine List.map_congr_left fun s _ => ?_
  rw [List.length_map]
theorem keysOf_nodup {S : List SegR} (K : SOk sz f S) : (keysOf S).Nodup := by
  unfold keysOf
  rw [List.Nodup, List.pairwise_flatMap]
  refine ⟨fun s hs => ?_, List.Pairwise.imp_of_mem (fun {s t} hs ht hst x hx y hy e => ?_) K.pls⟩
  · rw [List.pairwise_map]
    refine List.Pairwise.imp_of_mem (fun {p q} hp hq hpq e => ?_) (K.nod s hs)
    obtain ⟨_, rfl⟩ := K.key_inj hs hs hp hq e
    exact hpq rfl
  · obtain ⟨p, hp, rfl⟩ := List.mem_map.1 hx
    obtain ⟨q, hq, rfl⟩ := List.mem_map.1 hy
    obtain ⟨rfl, _⟩ := K.key_inj hs ht hp hq e
    exact hst rfl

theorem mem_classes {c : Nat} (hc : c < 13) : ∃ x ∈ classes, rowIx x = some c := by
  by_cases e : c = 12
  · exact ⟨-1, by decide, by rw [e]; rfl⟩
  · refine ⟨(c : Int), ?_, ?_⟩
    · unfold classes
      exact List.mem_append_left _ (List.mem_map.2 ⟨c, by simp; omega, rfl⟩)
    · unfold rowIx
      rw [if_neg (by omega), if_pos (by omega)]
      simp

theorem rowIx_inj {c d : Int} {i : Nat} (h1 : rowIx c = some i) (h2 : rowIx d = some i) (hc : c < 12) (hd : d < 12) : c = d := by
  unfold rowIx at h1 h2
  split at h1 <;> split at h2
  · omega
  · split at h2
    · rename_i a b _
      simp at h1 h2
      omega
    · cases h2
  · split at h1
    · simp at h1 h2
      omega
    · cases h1
  · split at h1 <;> split at h2
    · simp at h1 h2
      omega
    · cases h2
    · cases h1
    · cases h1

theorem pages_count (H : HeapAt ro hn w B bm sz f h) (hk : ∀ s ∈ h.S, ∀ p ∈ s.P, ∃ c, rowIx p.cls = some c ∧ (keyOf s p ∈ h.Q1 c ∨ keyOf s p ∈ h.Q2 c)) : (rowsOf h classes).length = pagesN h.S := by
  have K := H.sok
  rw [← keysOf_len]
  have hcl : ∀ x ∈ classes, x < 12 := by decide
  refine Nat.le_antisymm (nodup_len_le ?_ fun y hy => ?_) (nodup_len_le (keysOf_nodup K) fun y hy => ?_)
  · unfold rowsOf
    rw [List.Nodup, List.pairwise_flatMap]
    refine ⟨fun x hx => ?_, List.Pairwise.imp_of_mem (fun {x y} hx hy hxy u hu v hv e => ?_) (show classes.Pairwise (· ≠ ·) by decide)⟩
    · unfold rowOf
      split
      · rename_i i e
        exact (H.qo i (rowIx_lt e)).all
      · exact List.Pairwise.nil
    · subst e
      unfold rowOf at hu hv
      split at hu
      · rename_i i e1
        split at hv
        · rename_i j e2
          obtain ⟨s, hs, p, hp, e3, e4⟩ := H.link i (rowIx_lt e1) u (List.mem_append.1 hu)
          obtain ⟨t, ht, q, hq, e5, e6⟩ := H.link j (rowIx_lt e2) u (List.mem_append.1 hv)
          obtain ⟨_, rfl⟩ := K.key_inj hs ht hp hq (e3.symm.trans e5)
          rw [e4] at e6
          have := Option.some.inj e6
          subst this
          exact hxy (rowIx_inj e1 e2 (hcl x hx) (hcl y hy))
        · cases hv
      · cases hu
  · unfold rowsOf at hy
    obtain ⟨x, hx, hy⟩ := List.mem_flatMap.1 hy
    unfold rowOf at hy
    split at hy
    · rename_i i e1
      obtain ⟨s, hs, p, hp, e3, _⟩ := H.link i (rowIx_lt e1) y (List.mem_append.1 hy)
      exact List.mem_flatMap.2 ⟨s, hs, List.mem_map.2 ⟨p, hp, e3.symm⟩⟩
    · cases hy
  · obtain ⟨s, hs, hy⟩ := List.mem_flatMap.1 hy
    obtain ⟨p, hp, rfl⟩ := List.mem_map.1 hy
    obtain ⟨c, e1, e2⟩ := hk s hs p hp
    obtain ⟨x, hx, ex⟩ := mem_classes (rowIx_lt e1)
    refine List.mem_flatMap.2 ⟨x, hx, ?_⟩
    unfold rowOf
    rw [ex]
    exact List.mem_append.2 e2
end Go.Proofs.YtbljphaklciinaaGreat

/- HeapMoves: two heaps over one arena and memory, call by call. -/
namespace Go.Proofs.YtbljphaklciinaaGreat
open Go.RowKit
variable {ro ro' : Nat → Role} {hn hm : Nat} {w w' : World} {B bm bb sz : Nat} {f f' : Nat → Nat} {h h' o o' : HeapR} {X : Role → Prop} {a a' : ArR} {W : World} {n k k' r x : Nat} {U : List Nat} {S : List SegR}

structure P2 (W : World) (ro : Nat → Role) (w : World) (bm bb sz : Nat) (f : Nat → Nat) (h o : HeapR) (a : ArR) : Prop where
  hh : Hp ro 0 w W.heap.size bm bb sz f h
  oo : Hp ro 1 w W.heap.size bm bb sz f o
  ar : ArOk ro w W.heap.size h.ba a
  ba : o.ba = h.ba
  below : Below W.heap.size W w
  old : ∀ k, k < W.heap.size → ro k = .other

theorem P2.to (P : P2 W ro w bm bb sz f h o a) (H : Hp ro' 0 w' W.heap.size bm bb sz f' h') (O : Hp ro' 1 w' W.heap.size bm bb sz f' o') (A : ArOk ro' w' W.heap.size h'.ba a') (hba : o'.ba = h'.ba) (hf : RFr ro w w' X) (hx : ¬ X .other) (e : ∀ k, k < w.heap.size → ro' k = ro k) : P2 W ro' w' bm bb sz f' h' o' a' :=
  have := RFr.law P.below P.old hf hx e
  ⟨H, O, A, hba, this.1, this.2⟩
theorem P2.on (P : P2 W ro w bm bb sz f h o a) (hb : Below w.heap.size w w') : P2 W ro w' bm bb sz f h o a :=
  P.to (P.hh.below hb) (P.oo.below hb) (P.ar.over (RFr.of_below hb : RFr ro w w' (fun _ => False)) (fun _ h => h) (fun _ _ => rfl)) P.ba (RFr.of_below hb : RFr ro w w' (fun _ => False)) (fun h => h) (fun _ _ => rfl)
/-- Roles of what is to come. -/
theorem P2.cut (P : P2 W ro w bm bb sz f h o a) : P2 W (cutR ro w.heap.size) w bm bb sz f h o a :=
  have e : ∀ k, k < w.heap.size → cutR ro w.heap.size k = ro k := fun k hk => if_pos hk
  ⟨P.hh.rerole e, P.oo.rerole e, P.ar.role e, P.ba, P.below, fun k hk => (e k (Nat.lt_of_lt_of_le hk P.below.size)).trans (P.old k hk)⟩

theorem P2.leave (P : P2 W ro w bm bb sz f h o a) {s : SegR} (hs : s ∈ h.S) : Calls Tryz.prog 24 #[.pointer (some ⟨h.bh, 0, none⟩), .int .i64 s.pl] w fun e w' => e = .returned (.tuple #[.pointer (some ⟨s.bs, 0, none⟩), .int .i64 0]) ∧
    ∃ ro' h', P2 W ro' w' bm bb sz f h' o a ∧ h'.S = h.S.filter (noPl s.pl) ∧ h'.bh = h.bh ∧ h'.ba = h.ba ∧ SegOk ro' w' bm sz f s ∧ Stay ro w ro' w' := by
  refine (leave_ok P.hh hs).mono ?_
  rintro e w' ⟨rfl, ro', h', he, hf, H, R, hso⟩
  refine ⟨rfl, ro', { h' with S := h.S.filter (noPl s.pl) }, P.to H (P.oo.beside (by decide) hf he) ?_ (P.ba.trans R.ba.symm) hf hpL_other he, rfl, R.bh, R.ba, hso, Stay.of_fr hf hpL_other he⟩
  show ArOk ro' w' W.heap.size h'.ba a
  rw [R.ba]
  exact P.ar.over hf (fun i => hpL_ar) he

def KeysIn (h : HeapR) : Prop := ∀ s ∈ h.S, ∀ p ∈ s.P, ∃ c, rowIx p.cls = some c ∧ (keyOf s p ∈ h.Q1 c ∨ keyOf s p ∈ h.Q2 c)

theorem P2.adopt (P : P2 W ro w bm bb sz f h o a) {s : SegR} (hs : SegOk ro w bm sz f s) (hno : ∀ t ∈ o.S, t.pl ≠ s.pl) (hk : KeysIn o) : Calls Tryz.prog 26 #[.pointer (some ⟨o.bh, 0, none⟩), .pointer (some ⟨s.bs, 0, none⟩)] w fun e w' => e = .returned (.int .i64 0) ∧
    ∃ ro' o', P2 W ro' w' bm bb sz f h o' a ∧ o'.S = o.S ++ [s] ∧ o'.bh = o.bh ∧ o'.ba = o.ba ∧ KeysIn o' ∧ Stay ro w ro' w' := by
  refine (adopt_ok P.oo hs hno).mono ?_
  rintro e w' ⟨rfl, ro', o', gs, he, hf, O, R⟩
  have hS : o'.S = o.S ++ [s] := R.S
  have hba : o'.ba = o.ba := R.ba
  refine ⟨rfl, ro', o', P.to (P.hh.beside (by decide) hf he) O (P.ar.over hf (fun i => hpL_ar) he) (hba.trans P.ba) hf hpL_other he, hS, R.bh, hba, fun t ht p hp => ?_, Stay.of_fr hf hpL_other he⟩
  rw [hS] at ht
  rcases List.mem_append.1 ht with ht | ht
  · obtain ⟨c, e1, e2⟩ := hk t ht p hp
    exact ⟨c, e1, (R.q c (rowIx_lt e1) _).2 (.inl e2)⟩
  · simp only [List.mem_singleton] at ht
    subst ht
    have hpo := hs.pages p hp
    obtain ⟨c, hc, e1⟩ := rowIx_some hpo.c0 hpo.c1
    exact ⟨c, e1, (R.q c hc _).2 (.inr ⟨p, hs.mem_pgs.2 hp, e1, rfl⟩)⟩

theorem P2.load (P : P2 W ro w bm bb sz f h o a) {s : SegR} (hs : s ∈ o.S) (hno : ∀ t ∈ h.S, t.pl ≠ s.pl) (h0 : 0 ≤ s.a) (h1 : s.a < 4611686018427387904) : Calls Tryz.prog 28 #[.pointer (some ⟨s.bs, 19, none⟩)] w fun e w' => e = .returned (.tuple #[.int .u64 s.x, .int .u64 s.t]) ∧
    P2 W ro w' bm bb sz f h { o with S := asked s.pl o.S } a ∧ Stay ro w ro w' := by
  refine (segLoad (P.oo.hp.segs s hs).seg h0 h1).mono ?_
  rintro e w' ⟨rfl, hseg, hg⟩
  obtain ⟨O, hf⟩ := P.oo.asked hs hseg hg
  have hx : ¬ (Role.other = Role.sg s.pl) := nofun
  refine ⟨rfl, P.to (P.hh.kept hf (fun _ _ => rfl) ⟨nofun, nofun⟩ nofun (fun _ _ => nofun) nofun (fun t ht => ⟨fun e => by injection e with e; exact hno t ht e, nofun, nofun⟩) (fun _ _ => ⟨nofun, nofun⟩)) O (P.ar.over hf (fun i => nofun) (fun _ _ => rfl)) P.ba hf hx (fun _ _ => rfl), Stay.of_fr hf hx (fun _ _ => rfl)⟩

theorem KeysIn.asked {pl : Nat} (hk : KeysIn o) : KeysIn { o with S := asked pl o.S } := fun t ht p hp => by
  obtain ⟨t0, ht0, rfl⟩ := List.mem_map.1 ht
  rw [askedI_P] at hp
  obtain ⟨c, e1, e2⟩ := hk t0 ht0 p hp
  have : keyOf (askedI pl t0) p = keyOf t0 p := by unfold keyOf; rw [askedI_pl]
  exact ⟨c, e1, by rw [this]; exact e2⟩

/-- A segment that has moved. -/
def mv (s : SegR) : SegR := { s with a := s.a + 1 }
theorem asked_mv {s : SegR} (hno : ∀ t ∈ S, t.pl ≠ s.pl) : asked s.pl (S ++ [s]) = S ++ [mv s] := by
  unfold asked
  rw [List.map_append]
  congr 1
  · rw [List.map_congr_left (g := id)]
    · simp
    · intro t ht
      show askedI s.pl t = t
      unfold askedI
      rw [if_neg (hno t ht)]
  · show [askedI s.pl s] = _
    unfold askedI
    rw [if_pos rfl]
    rfl

theorem mv_used (S : List SegR) : usedS (S.map mv) = usedS S := by
  unfold usedS
  rw [List.map_map]
  rfl
theorem mv_pages (S : List SegR) : pagesN (S.map mv) = pagesN S := by
  unfold pagesN
  rw [List.map_map]
  rfl
/-- All that was used is so behind the move. -/
theorem BInv.moved (I : BInv h U) (hS : o.S = h.S.map mv) (hk : KeysIn o) : BInv o U := by
  have hm : ∀ {t : SegR}, t ∈ o.S → ∃ s ∈ h.S, t = mv s := fun {t} ht => by
    rw [hS] at ht
    obtain ⟨s, hs, e⟩ := List.mem_map.1 ht
    exact ⟨s, hs, e.symm⟩
  refine ⟨by rw [hS, mv_used]; exact I.cnt, fun x hx => ?_, I.nod, fun t ht p hp => ?_, hk⟩
  · obtain ⟨s, hs, p, hp, q, hq, e, ho⟩ := I.use x hx
    exact ⟨mv s, by rw [hS]; exact List.mem_map.2 ⟨s, hs, rfl⟩, p, hp, q, hq, e, ho⟩
  · obtain ⟨s, hs, rfl⟩ := hm ht
    exact I.pos s hs p hp
theorem NE.moved (ne : NE S) : NE (S.map mv) := fun t ht => by
  obtain ⟨s, hs, rfl⟩ := List.mem_map.1 ht
  exact ne s hs
theorem AInv.moved (A : AInv a S) : AInv a (S.map mv) := ⟨⟨A.seg.srt, A.seg.rl, fun t ht => by
  obtain ⟨s, hs, rfl⟩ := List.mem_map.1 ht
  exact A.seg.own s hs⟩, fun j hj => by
  obtain ⟨s, hs, e⟩ := A.tru j hj
  exact ⟨mv s, List.mem_map.2 ⟨s, hs, rfl⟩, e⟩⟩

set_option maxRecDepth 100000 in
set_option maxHeartbeats 1000000 in
theorem free_none (H : HeapAt ro hn w B bm sz f h) (hS : h.S = []) {x : Nat} (hx : x < 18446744073709551616) : Calls Tryz.prog 16 #[.pointer (some ⟨h.bh, 0, none⟩), .int .u64 x] w fun e w' => e = .returned (.int .i64 5) ∧ Below w.heap.size w w' := by
  have HF := Lib.hid (find_any H x hx)
  rw [show findV h.S x = none from by rw [hS]; rfl] at HF
  simp only [Option.map_none, ptrV] at HF
  clear H hS
  go_enter Tryz.func16, Tryz.ntmps16
  go_wp2_with fail
  (with_reducible refine HF.out.mono ?_)
  rintro e w1 ⟨rfl, hb⟩
  have HB := Lib.hid hb
  clear hb HF
  go_wp2_with fail
  go_ret
  exact ⟨rfl, HB.out⟩

/-- The second heap's Free. -/
theorem P2.free (P : P2 W ro w bm bb sz f h o a) (hS : h.S = []) (I : BInv o U) (ne : NE o.S) (A : AInv a o.S) (hx : x ∈ U) : Calls Tryz.prog 16 #[.pointer (some ⟨o.bh, 0, none⟩), .int .u64 x] w fun e w' => e = .returned (.int .i64 0) ∧
    ∃ ro' f' o' a', P2 W ro' w' bm bb sz f' h o' a' ∧ BInv o' (U.erase x) ∧ NE o'.S ∧ AInv a' o'.S ∧ a'.n = a.n ∧ o'.bh = o.bh ∧ o'.ba = o.ba ∧ Stay ro w ro' w' := by
  obtain ⟨s, hs, p, hp, q, hq, hxe, ho⟩ := I.use x hx
  obtain ⟨i, hr, _⟩ := I.keys s hs p hp
  have ar : ArOk ro w W.heap.size o.ba a := by rw [P.ba]; exact P.ar
  refine (free_ok P.oo ar A.seg hs hp (rowIx_lt hr) hr hq hxe ho).mono ?_
  rintro e w' ⟨rfl, ro', R, F, k1, k2, S', a', he, rr, A', H, hk⟩
  have hI := P.hh.idle hS (by decide) rr he H.mem
  have hA2 : ArOk ro' w' W.heap.size h.ba a' := by rw [← P.ba]; exact A'
  refine ⟨rfl, ro', _, _, a', P.to hI H hA2 P.ba rr hpT_other he, ?_⟩
  rcases hk with ⟨hu, rfl, rfl, rfl, rfl⟩ | ⟨hu, hend, rfl, rfl⟩
  · refine ⟨I.gave P.oo.hp.sok P.oo.hp.sapart hx hs hp hq hxe ho hu, fun t ht => ?_, A.set, rfl, rfl, rfl, Stay.of_fr rr hpT_other he⟩
    obtain ⟨t0, ht0, rfl⟩ := List.mem_map.1 ht
    split
    · intro e
      exact ne t0 ht0 (List.map_eq_nil_iff.1 (show setPP p.at_ (p.pg.gave x) t0.P = [] from e))
    · exact ne t0 ht0
  · obtain ⟨I', ne'⟩ := I.ended P.oo.hp.sok P.oo.hp.sapart hx hs hp hq hxe ho hu hend ne (i := i) (k1 := k1) (k2 := k2)
    obtain ⟨A2, en⟩ := A.ends P.oo.hp.pls hs hend
    exact ⟨I', ne', A2, en, rfl, rfl, Stay.of_fr rr hpT_other he⟩
end Go.Proofs.YtbljphaklciinaaGreat

/- HeapMoves: the law's states. -/
namespace Go.Proofs.YtbljphaklciinaaGreat
open Go.RowKit
variable {ro ro' : Nat → Role} {w w' : World} {bm bb : Nat} {f f' : Nat → Nat} {h h' o o' : HeapR} {a a' : ArR} {W : World} {k r x : Nat} {U : List Nat} {bh ba ob : Nat}

/-- While blocks come: the other heap's block lies by. -/
structure S1 (W : World) (ro : Nat → Role) (bh ba ob bm bb k : Nat) (U : List Nat) (w : World) : Prop where
  st : ∃ f h a kk, MS W ro w bm bb f h a 16 kk k U ∧ h.bh = bh ∧ h.ba = ba ∧ h.id = 7
  ot : ro ob = .other
  blk : w.heap[ob]? = some (.cells (heapCs bm ba 9) 111)

theorem S1.size (M : S1 W ro bh ba ob bm bb k U w) : W.heap.size ≤ w.heap.size := by
  obtain ⟨f, h, a, kk, M, _⟩ := M.st
  exact M.law.below.size
theorem S1.begin {bk bt : Nat} (L : LawH W ro 0 w bm bb (16 * 16384) f (newHR bh ba 7) (newAr bk bt 16)) : S1 W (cutR ro w.heap.size) bh ba w.heap.size bm bb 0 [] (w.alloc (.cells (heapCs bm ba 9) 111)) := by
  refine ⟨⟨f, _, _, 0, MS.new ((L.cut rfl).on ((Below.refl _ _).alloc (Nat.le_refl _) _)), rfl, rfl, rfl⟩, if_neg (by omega), ?_⟩
  show (w.heap.push _)[w.heap.size]? = _
  simp

theorem S1.get {v : Value} (M : S1 W ro bh ba ob bm bb k U w) (O : OwnU W ro v U w) (hr : k < 1000000) {nn : Int} (h0 : 0 ≤ nn) :
    Calls Tryz.prog 11 #[.pointer (some ⟨bh, 0, none⟩), .int .u64 nn] w fun e w' => ∃ ro', OwnU W ro' v U w' ∧
      ((∃ (x : Nat) (v : Nat), e = .returned (.tuple #[.int .u64 x, .int .u64 v, .bool true]) ∧ S1 W ro' bh ba ob bm bb (k + 1) (U ++ [x]) w') ∨ (e = .returned (.tuple #[.int .u64 0, .int .u64 0, .bool false]) ∧ S1 W ro' bh ba ob bm bb (k + 1) U w')) := by
  obtain ⟨f, h, a, kk, MM, rfl, rfl, e3⟩ := M.st
  refine (MM.get (by omega) hr h0).mono ?_
  rintro e w' ⟨ro', f', h', a', k', hs, e1, e2, e4, hk⟩
  obtain ⟨s1, s2⟩ := hs.2 ob (lt_of_block M.blk) M.ot
  refine ⟨ro', O.stay hs, ?_⟩
  rcases hk with ⟨x, v, rfl, M'⟩ | ⟨rfl, M'⟩
  · exact .inl ⟨x, v, rfl, ⟨f', h', a', k', M', e1, e2, e4.trans e3⟩, s2, s1.trans M.blk⟩
  · exact .inr ⟨rfl, ⟨f', h', a', k', M', e1, e2, e4.trans e3⟩, s2, s1.trans M.blk⟩

theorem S1.app {v : Value} {U0 : List Nat} {ob' : Obj} (M : S1 W ro bh ba ob bm bb k U w) (O : OwnU W ro v U0 w) (hne : v.ownBlock ≠ some ob) (hg : (w.alloc ob').grownBy w' v.ownBlock) : S1 W (cutR ro w.heap.size) bh ba ob bm bb k U w' := by
  obtain ⟨f, h, a, kk, MM, e1, e2, e3⟩ := M.st
  have hl := lt_of_block M.blk
  refine ⟨⟨f, h, a, kk, { MM with law := ((MM.law.cut rfl).on ((Below.refl _ _).alloc (Nat.le_refl _) _)).own hg (fun b hb => ⟨?_, (O.1.lt b hb).1⟩) }, e1, e2, e3⟩, ?_, ?_⟩
  · unfold cutR
    rw [if_pos (O.1.lt b hb).2]
    exact O.2 b hb
  · unfold cutR
    rw [if_pos hl]
    exact M.ot
  · exact ((hg.block ob (by simp; omega) (fun e => hne e.symm)).trans (Below.heap_alloc w _ ob hl)).trans M.blk

/-- The two heaps, ahead of the moves. -/
theorem S1.two (M : S1 W ro bh ba ob bm bb k U w) (hob : W.heap.size ≤ ob) : ∃ ro' f h a, P2 W ro' w bm bb (16 * 16384) f h (newHR ob ba 9) a ∧ h.bh = bh ∧ h.ba = ba ∧ BInv h U ∧ NE h.S ∧ AInv a h.S ∧ (∀ s ∈ h.S, s.x = 7 ∧ s.a = 1) ∧ (∀ b, b ≠ ob → ro' b = ro b) ∧ KeysIn h ∧ a.n = 16 := by
  obtain ⟨f, h, a, kk, MM, e1, e2, e3⟩ := M.st
  have L := MM.law
  have hne : ∀ b, ro b ≠ .other → b ≠ ob := fun b hb e => hb (by rw [e]; exact M.ot)
  obtain ⟨ro', hro⟩ : ∃ ro' : Nat → Role, ro' = fun b => if b = ob then .heap 1 else ro b := ⟨_, rfl⟩
  have ero : ∀ b, b ≠ ob → ro' b = ro b := fun b hb => by rw [hro]; exact if_neg hb
  have eob : ro' ob = .heap 1 := by rw [hro]; exact if_pos rfl
  -- the first heap's blocks are none of the other's
  have keep : ∀ {b : Nat} {R : Role}, ro b = R → R ≠ .other → ro' b = R := fun {b R} hb hR => (ero b (hne b (by rw [hb]; exact hR))).trans hb
  have pok : ∀ {pl : Nat} {p : PageR}, PageOk ro w bm (16 * 16384) f pl p → PageOk ro' w bm (16 * 16384) f pl p := fun hp => { hp with rq := keep hp.rq nofun, rp := keep hp.rp nofun }
  have sok : ∀ {s : SegR}, SegOk ro w bm (16 * 16384) f s → SegOk ro' w bm (16 * 16384) f s := fun hs => { hs with pages := fun p hp => pok (hs.pages p hp), rs := keep hs.rs nofun, rk := keep hs.rk nofun, rt := keep hs.rt nofun }
  have H := L.hp.hp
  have Hh : HeapAt ro' 0 w W.heap.size bm (16 * 16384) f h := { H with
    rb := keep H.rb nofun
    r1 := fun c hc b hb => keep (H.r1 c hc b hb) nofun
    r2 := fun c hc b hb => keep (H.r2 c hc b hb) nofun
    rs := fun b hb => keep (H.rs b hb) nofun
    segs := fun s hs => sok (H.segs s hs) }
  have Hp1 : Hp ro' 0 w W.heap.size bm bb (16 * 16384) f h := ⟨Hh, L.hp.mem, keep L.hp.rm nofun, keep L.hp.rb nofun, L.hp.b⟩
  have Ar1 : ArOk ro' w W.heap.size h.ba a := ⟨L.ar.at_, keep L.ar.ra nofun, keep L.ar.rk nofun, keep L.ar.rt nofun, fun b hb => keep (L.ar.rg b hb) nofun⟩
  -- the other heap, new
  have Oh : HeapAt ro' 1 w W.heap.size bm (16 * 16384) f (newHR ob ba 9) := by
    have hc : ∀ j, j < 30 → w.cell? ⟨ob, j, none⟩ = some ((heapCs bm ba 9).getD j undef) := fun j hj => by
      rw [cell_of_row w ob j (heapCs bm ba 9) _ _ M.blk]
      have : j < (heapCs bm ba 9).size := hj
      simp [Array.getD, this]
    have hz : ∀ j, w.frozen? ⟨ob, j, none⟩ = false := fun j => by simp [World.frozen?, M.blk]
    have hrow : ∀ q, q < 26 → RowAt w W.heap.size ob q [] none := fun q hq => by
      refine ⟨⟨.slice none 0 0, ?_, World.ownsRow_nil _ _ _ _, rfl⟩, hz q, nofun⟩
      rw [hc q (by omega)]
      rcases (show q = 0 ∨ q = 1 ∨ q = 2 ∨ q = 3 ∨ q = 4 ∨ q = 5 ∨ q = 6 ∨ q = 7 ∨ q = 8 ∨ q = 9 ∨ q = 10 ∨ q = 11 ∨ q = 12 ∨ q = 13 ∨ q = 14 ∨ q = 15 ∨ q = 16 ∨ q = 17 ∨ q = 18 ∨ q = 19 ∨ q = 20 ∨ q = 21 ∨ q = 22 ∨ q = 23 ∨ q = 24 ∨ q = 25 by omega) with rfl | rfl | rfl | rfl | rfl | rfl | rfl | rfl | rfl | rfl | rfl | rfl | rfl | rfl | rfl | rfl | rfl | rfl | rfl | rfl | rfl | rfl | rfl | rfl | rfl | rfl <;> rfl
    exact {
      rb := eob
      c26 := hc 26 (by omega)
      c27 := hc 27 (by omega)
      c28 := hc 28 (by omega)
      c29 := ⟨.slice none 0 0, hc 29 (by omega), World.ownsRow_nil _ _ _ _, rfl⟩
      z29 := hz 29
      q := fun c hc => ⟨hrow _ (by omega), hrow _ (by omega), fun _ => rfl⟩
      qo := fun _ _ => QOnce.nil
      r1 := nofun
      r2 := nofun
      rs := nofun
      segs := nofun
      pls := List.Pairwise.nil
      link := fun c hc k hk => by rcases hk with h | h <;> cases h
      len := by simp [newHR] }
  refine ⟨ro', f, h, a, ⟨Hp1, ⟨Oh, L.hp.mem, keep L.hp.rm nofun, keep L.hp.rb nofun, L.hp.b⟩, Ar1, e2.symm, L.below, fun b hb => ?_⟩, e1, e2, MM.bi, MM.ne, AInv.of_ka MM.ka (by omega) MM.len H.pls, fun s hs => ?_, ero, MM.bi.keys, MM.ka.en⟩
  · rw [ero b (by omega)]
    exact L.old b hb
  · have := MM.own s hs
    rw [e3] at this
    exact this
end Go.Proofs.YtbljphaklciinaaGreat

/- HeapMoves: the law's states, call by call. -/
namespace Go.Proofs.YtbljphaklciinaaGreat
open Go.RowKit
variable {ro ro' : Nat → Role} {w w' : World} {bm bb : Nat} {f f' : Nat → Nat} {h h' o o' : HeapR} {a a' : ArR} {W : World} {k r x : Nat} {U : List Nat} {bh ba ob : Nat} {hS oS : List SegR}

theorem at_ne {v v' : Value} {b : Obj} (hb : ob < w.heap.size) (hn : v.ownBlock ≠ some ob) (hat : v'.ownBlock = v.ownBlock ∨ v'.ownBlock = some (w.alloc b).heap.size) : v'.ownBlock ≠ some ob := by
  rcases hat with h1 | h1
  · rw [h1]; exact hn
  · rw [h1]
    intro e
    have e := Option.some.inj e
    simp at e
    omega

/-- Both heaps, while segments go over. -/
def M2 (W : World) (ro : Nat → Role) (bh ba ob bm bb : Nat) (f : Nat → Nat) (a : ArR) (hS oS : List SegR) (w : World) : Prop :=
  ∃ h o, P2 W ro w bm bb (16 * 16384) f h o a ∧ h.bh = bh ∧ h.ba = ba ∧ o.bh = ob ∧ h.S = hS ∧ o.S = oS ∧ KeysIn o

theorem M2.on (M : M2 W ro bh ba ob bm bb f a hS oS w) (hb : Below w.heap.size w w') : M2 W ro bh ba ob bm bb f a hS oS w' := by
  obtain ⟨h, o, P, e⟩ := M
  exact ⟨h, o, P.on hb, e⟩
theorem M2.cut (M : M2 W ro bh ba ob bm bb f a hS oS w) : M2 W (cutR ro w.heap.size) bh ba ob bm bb f a hS oS w := by
  obtain ⟨h, o, P, e⟩ := M
  exact ⟨h, o, P.cut, e⟩
theorem M2.below (M : M2 W ro bh ba ob bm bb f a hS oS w) : Below W.heap.size W w := by
  obtain ⟨h, o, P, e⟩ := M
  exact P.below

theorem M2.segs (M : M2 W ro bh ba ob bm bb f a hS oS w) : Calls Tryz.prog 23 #[.pointer (some ⟨bh, 0, none⟩)] w (NewSegs w (segP hS)) := by
  obtain ⟨h, o, P, rfl, rfl, rfl, rfl, rfl, _⟩ := M
  exact segs_any P.hh.hp

def PagesTo (w : World) (n : Nat) (e : Ending) (w' : World) : Prop := ∃ A c, e = .returned (.slice A n c) ∧ Below w.heap.size w w'
theorem pages_n {hn B sz : Nat} (H : HeapAt ro hn w B bm sz f h) (hk : KeysIn h) {n : Nat} (e : n = pagesN h.S) :
    Calls Tryz.prog 21 #[.pointer (some ⟨h.bh, 0, none⟩), .slice none 0 0] w (PagesTo w n) := by
  refine (pages_all H).mono ?_
  rintro e w' ⟨v, rfl, ho, hb⟩
  obtain ⟨A, c, rfl, _⟩ := own_at ho
  refine ⟨A, c, ?_, hb⟩
  rw [e, ← pages_count H hk]
  unfold startsOf
  rw [List.length_map]
def SegsTo (w : World) (n : Nat) (e : Ending) (w' : World) : Prop := ∃ A c, e = .returned (.slice A n c) ∧ Below w.heap.size w w'
theorem segs_n {hn B sz : Nat} (H : HeapAt ro hn w B bm sz f h) {n : Nat} (e : n = h.S.length) :
    Calls Tryz.prog 23 #[.pointer (some ⟨h.bh, 0, none⟩)] w (SegsTo w n) := by
  refine (segs_any H).mono ?_
  rintro e w' ⟨v, rfl, ho, hb⟩
  obtain ⟨A, c, rfl, _⟩ := own_at ho
  refine ⟨A, c, ?_, hb⟩
  rw [e]
  unfold segP
  rw [List.length_map]

theorem M2.pages0 (M : M2 W ro bh ba ob bm bb f a [] oS w) : Calls Tryz.prog 21 #[.pointer (some ⟨bh, 0, none⟩), .slice none 0 0] w (PagesTo w 0) := by
  obtain ⟨h, o, P, rfl, rfl, rfl, e, rfl, _⟩ := M
  exact pages_n P.hh.hp (fun s hs => by rw [e] at hs; cases hs) (by rw [e]; rfl)
theorem M2.segs0 (M : M2 W ro bh ba ob bm bb f a [] oS w) : Calls Tryz.prog 23 #[.pointer (some ⟨bh, 0, none⟩)] w (SegsTo w 0) := by
  obtain ⟨h, o, P, rfl, rfl, rfl, e, rfl, _⟩ := M
  exact segs_n P.hh.hp (by rw [e]; rfl)
theorem M2.pages1 (M : M2 W ro bh ba ob bm bb f a hS oS w) : Calls Tryz.prog 21 #[.pointer (some ⟨ob, 0, none⟩), .slice none 0 0] w (PagesTo w (pagesN oS)) := by
  obtain ⟨h, o, P, rfl, rfl, rfl, e, rfl, hk⟩ := M
  exact pages_n P.oo.hp hk rfl

theorem M2.leave1 (M : M2 W ro bh ba ob bm bb f a hS oS w) : Calls Tryz.prog 24 #[.pointer (some ⟨bh, 0, none⟩), .int .i64 (-1)] w fun e w' => e = .returned (.tuple #[.pointer none, .int .i64 5]) ∧ Below w.heap.size w w' := by
  obtain ⟨h, o, P, rfl, rfl, rfl, rfl, rfl, _⟩ := M
  exact leave_none P.hh.hp (fun s hs => by omega)
theorem M2.place {s : SegR} {r : List SegR} (M : M2 W ro bh ba ob bm bb f a (s :: r) oS w) : Calls Tryz.prog 25 #[.pointer (some ⟨s.bs, 0, none⟩)] w fun e w' => e = .returned (.int .i64 s.pl) ∧ w' = w := by
  obtain ⟨h, o, P, rfl, rfl, rfl, e, rfl, _⟩ := M
  exact segPlace (P.hh.hp.segs s (by rw [e]; simp)).seg

/-- A segment that has left. -/
def M2L (W : World) (ro : Nat → Role) (bh ba ob bm bb : Nat) (f : Nat → Nat) (a : ArR) (s : SegR) (hS oS : List SegR) (w : World) : Prop := M2 W ro bh ba ob bm bb f a hS oS w ∧ SegOk ro w bm (16 * 16384) f s

theorem M2.leave {s : SegR} {r : List SegR} (M : M2 W ro bh ba ob bm bb f a (s :: r) oS w) : Calls Tryz.prog 24 #[.pointer (some ⟨bh, 0, none⟩), .int .i64 s.pl] w fun e w' => e = .returned (.tuple #[.pointer (some ⟨s.bs, 0, none⟩), .int .i64 0]) ∧
    ∃ ro', M2L W ro' bh ba ob bm bb f a s r oS w' ∧ Stay ro w ro' w' := by
  obtain ⟨h, o, P, rfl, rfl, rfl, e, rfl, hk⟩ := M
  refine (P.leave (s := s) (by rw [e]; simp)).mono ?_
  rintro en w' ⟨rfl, ro', h', P', hS', e1, e2, hso, hst⟩
  refine ⟨rfl, ro', ⟨⟨h', o, P', e1, e2, rfl, ?_, rfl, hk⟩, hso⟩, hst⟩
  rw [hS', e]
  have hp := P.hh.hp.pls
  rw [e, List.pairwise_cons] at hp
  rw [List.filter_cons, if_neg (by simp [noPl])]
  refine List.filter_eq_self.2 fun t ht => ?_
  have := hp.1 t ht
  simp [noPl]
  omega

theorem M2L.adopt {s : SegR} (M : M2L W ro bh ba ob bm bb f a s hS oS w) (hno : ∀ t ∈ oS, t.pl ≠ s.pl) : Calls Tryz.prog 26 #[.pointer (some ⟨ob, 0, none⟩), .pointer (some ⟨s.bs, 0, none⟩)] w fun e w' => e = .returned (.int .i64 0) ∧
    ∃ ro', M2 W ro' bh ba ob bm bb f a hS (oS ++ [s]) w' ∧ Stay ro w ro' w' := by
  obtain ⟨⟨h, o, P, rfl, rfl, rfl, e, rfl, hk⟩, hso⟩ := M
  refine (P.adopt hso hno hk).mono ?_
  rintro en w' ⟨rfl, ro', o', P', hS', e1, e2, hk', hst⟩
  exact ⟨rfl, ro', ⟨h, o', P', rfl, rfl, e1, e, hS', hk'⟩, hst⟩
theorem M2.there {s : SegR} (M : M2 W ro bh ba ob bm bb f a hS (oS ++ [s]) w) : Calls Tryz.prog 26 #[.pointer (some ⟨ob, 0, none⟩), .pointer (some ⟨s.bs, 0, none⟩)] w fun e w' => e = .returned (.int .i64 6) ∧ Below w.heap.size w w' := by
  obtain ⟨h, o, P, rfl, rfl, rfl, e, e2, hk⟩ := M
  have hs : s ∈ o.S := by rw [e2]; simp
  exact adopt_there P.oo.hp (P.oo.hp.segs s hs) ⟨s, hs, rfl⟩
theorem M2.load {s : SegR} (M : M2 W ro bh ba ob bm bb f a hS (oS ++ [s]) w) (hno : ∀ t ∈ oS, t.pl ≠ s.pl) (hno' : ∀ t ∈ hS, t.pl ≠ s.pl) (ha : s.a = 1) : Calls Tryz.prog 28 #[.pointer (some ⟨s.bs, 19, none⟩)] w fun e w' => e = .returned (.tuple #[.int .u64 s.x, .int .u64 s.t]) ∧
    M2 W ro bh ba ob bm bb f a hS (oS ++ [mv s]) w' ∧ Stay ro w ro w' := by
  obtain ⟨h, o, P, rfl, rfl, rfl, e, e2, hk⟩ := M
  have hs : s ∈ o.S := by rw [e2]; simp
  refine (P.load hs (by rw [e]; exact hno') (by omega) (by omega)).mono ?_
  rintro en w' ⟨rfl, P', hst⟩
  refine ⟨rfl, ⟨h, _, P', rfl, rfl, rfl, e, ?_, hk.asked⟩, hst⟩
  show asked s.pl o.S = _
  rw [e2]
  exact asked_mv hno

/-- The second heap, while blocks go. -/
def M3 (W : World) (ro : Nat → Role) (bh ba ob bm bb : Nat) (U : List Nat) (w : World) : Prop :=
  ∃ f h o a, P2 W ro w bm bb (16 * 16384) f h o a ∧ h.bh = bh ∧ h.ba = ba ∧ o.bh = ob ∧ h.S = [] ∧ BInv o U ∧ NE o.S ∧ AInv a o.S ∧ a.n = 16

theorem M2.done (M : M2 W ro bh ba ob bm bb f a [] (h.S.map mv) w) (I : BInv h U) (ne : NE h.S) (A : AInv a h.S) (hn : a.n = 16) : M3 W ro bh ba ob bm bb U w := by
  obtain ⟨h', o, P, rfl, rfl, rfl, e, e2, hk⟩ := M
  exact ⟨f, h', o, a, P, rfl, rfl, rfl, e, I.moved e2 hk, by rw [e2]; exact ne.moved, by rw [e2]; exact A.moved, hn⟩
theorem M3.on (M : M3 W ro bh ba ob bm bb U w) (hb : Below w.heap.size w w') : M3 W ro bh ba ob bm bb U w' := by
  obtain ⟨f, h, o, a, P, e⟩ := M
  exact ⟨f, h, o, a, P.on hb, e⟩
theorem M3.below (M : M3 W ro bh ba ob bm bb U w) : Below W.heap.size W w := by
  obtain ⟨f, h, o, a, P, e⟩ := M
  exact P.below
theorem M3.free1 (M : M3 W ro bh ba ob bm bb U w) {x : Nat} (hx : x < 18446744073709551616) : Calls Tryz.prog 16 #[.pointer (some ⟨bh, 0, none⟩), .int .u64 x] w fun e w' => e = .returned (.int .i64 5) ∧ Below w.heap.size w w' := by
  obtain ⟨f, h, o, a, P, rfl, rfl, rfl, e, _⟩ := M
  exact free_none P.hh.hp e hx
theorem M3.free2 {x : Nat} (M : M3 W ro bh ba ob bm bb (x :: U) w) : Calls Tryz.prog 16 #[.pointer (some ⟨ob, 0, none⟩), .int .u64 x] w fun e w' => e = .returned (.int .i64 0) ∧ ∃ ro', M3 W ro' bh ba ob bm bb U w' ∧ Stay ro w ro' w' := by
  obtain ⟨f, h, o, a, P, rfl, rfl, rfl, e, I, ne, A, hn⟩ := M
  refine (P.free e I ne A (x := x) (by simp)).mono ?_
  rintro en w' ⟨rfl, ro', f', o', a', P', I', ne', A', en, e1, e2, hst⟩
  rw [List.erase_cons_head] at I'
  exact ⟨rfl, ro', ⟨f', h, o', a', P', rfl, rfl, e1, e, I', ne', A', en.trans hn⟩, hst⟩
theorem M3.segs (M : M3 W ro bh ba ob bm bb [] w) : Calls Tryz.prog 23 #[.pointer (some ⟨ob, 0, none⟩)] w (SegsTo w 0) := by
  obtain ⟨f, h, o, a, P, rfl, rfl, rfl, e, I, ne, A, hn⟩ := M
  exact segs_n P.oo.hp (by rw [I.none ne]; rfl)
theorem M3.given (M : M3 W ro bh ba ob bm bb [] w) : Calls Tryz.prog 14 #[.pointer (some ⟨ba, 0, none⟩)] w fun e w' => e = .returned (.int .i64 0) ∧ Below W.heap.size W w' := by
  obtain ⟨f, h, o, a, P, rfl, rfl, rfl, e, I, ne, A, hn⟩ := M
  rw [I.none ne] at A
  refine (arenaGiven P.ar.at_).mono ?_
  rintro en w' ⟨rfl, k, rfl⟩
  refine ⟨?_, below_drewN P.below k⟩
  rw [A.none]
  simp
theorem M3.lt (M : M3 W ro bh ba ob bm bb U w) (hx : x ∈ U) : x < 18446744073709551616 := by
  obtain ⟨f, h, o, a, P, rfl, rfl, rfl, e, I, ne, A, hn⟩ := M
  obtain ⟨s, hs, p, hp, q, hq, hxe, ho⟩ := I.use x hx
  have inv := ((P.oo.hp.segs s hs).pages p hp).inv
  have hin := inv.in_ (Nat.lt_of_lt_of_le hq inv.mn)
  have h16 := inv.s16
  have hfit := inv.fit
  omega

/-- A row of the law's own, of whatever. -/
def OwnX (W : World) (ro : Nat → Role) (E : TypeId) (v : Value) (xs : List Value) (w : World) : Prop := w.ownsRow W.heap.size E 1 v xs.length xs ∧ ∀ b, v.ownBlock = some b → ro b = .other
theorem OwnX.stay {E : TypeId} {v : Value} {xs : List Value} (H : OwnX W ro E v xs w) (hs : Stay ro w ro' w') : OwnX W ro' E v xs w' :=
  ⟨own_stays H.1 (fun k hk => (hs.2 k (H.1.lt k hk).2 (H.2 k hk)).1), fun b hb => (hs.2 b (H.1.lt b hb).2 (H.2 b hb)).2⟩
theorem OwnX.new {E : TypeId} {v : Value} {xs : List Value} (h : w'.ownsRow w.heap.size E 1 v xs.length xs) (hB : W.heap.size ≤ w.heap.size) : OwnX W (cutR ro w.heap.size) E v xs w' :=
  ⟨own_lower h hB, fun b hb => by
    have := (h.lt b hb).1
    unfold cutR
    rw [if_neg (by omega)]⟩
theorem OwnX.at_ {E : TypeId} {A : Option Addr} {n c : Nat} {xs : List Value} (H : OwnX W ro E (.slice A n c) xs w) {k : Nat} {u : Value} (hu : xs[k]? = some u) : ∃ g, A = some ⟨g, 0, none⟩ ∧ w.cell? ⟨g, k, none⟩ = some u := by
  obtain ⟨A', c', e, _, _, hc⟩ := own_at H.1
  injection e with e1 e2 e3
  subst e1
  exact hc k u hu
theorem OwnX.form {E : TypeId} {v : Value} {xs : List Value} (H : OwnX W ro E v xs w) : ∃ A c, v = .slice A xs.length c ∧ xs.length ≤ c ∧ c ≤ maxLen := by
  obtain ⟨A', c', e, h1, h2, _⟩ := own_at H.1
  exact ⟨A', c', e, h1, h2⟩
theorem OwnU.gen {v : Value} (H : OwnU W ro v U w) : OwnX W ro 29 v (rowU U) w := by
  have : (rowU U).length = U.length := by unfold rowU; rw [List.length_map]
  refine ⟨?_, H.2⟩
  rw [this]
  exact H.1

theorem neq_segp (w : World) (b : Nat) : (binOp .neq 60 (.pointer (some ⟨b, 0, none⟩)) (.pointer (some ⟨b, 0, none⟩))).run Tryz.prog w = .ok (.bool false) w := by
  obtain ⟨j, hj⟩ : ∃ j, Tryz.prog.info? 135 = some j := by
    cases hi : Tryz.prog.info? 135 with
    | none => have := info_seg; rw [hi] at this; cases this
    | some j => exact ⟨j, rfl⟩
  have h : ∀ d : Nat, (Op.equalIn (d + 1) 60 (.pointer (some ⟨b, 0, none⟩)) (.pointer (some ⟨b, 0, none⟩))).run Tryz.prog w = .ok true w := fun d => by
    simp [Op.equalIn, run_underlying Tryz.underlying60, sizeOf, typeInfo, hj, run_sameAddr_same]
  simp only [binOp]
  simp [Op.equal, Op.maxDepth, h 9999]

theorem segP_at {S : List SegR} {j : Nat} {s : SegR} (h : S[j]? = some s) : (segP S)[j]? = some (.pointer (some ⟨s.bs, 0, none⟩)) := by
  unfold segP
  rw [List.getElem?_map, h]
  rfl
theorem drop_at {α : Type} {S : List α} {j : Nat} {s : α} (h : S[j]? = some s) : S.drop j = s :: S.drop (j + 1) := by
  obtain ⟨hj, e⟩ := List.getElem?_eq_some_iff.1 h
  rw [List.drop_eq_getElem_cons hj, e]
theorem take_at {S : List SegR} {j : Nat} {s : SegR} (h : S[j]? = some s) : (S.take j).map mv ++ [mv s] = (S.take (j + 1)).map mv := by
  rw [List.take_add_one, h]
  simp
theorem pls_take {S : List SegR} (hp : S.Pairwise (fun s t => s.pl ≠ t.pl)) {j : Nat} {s : SegR} (h : S[j]? = some s) : ∀ t ∈ (S.take j).map mv, t.pl ≠ s.pl := fun t ht => by
  obtain ⟨u, hu, rfl⟩ := List.mem_map.1 ht
  obtain ⟨i, hi⟩ := List.getElem?_of_mem hu
  rw [List.getElem?_take] at hi
  split at hi
  · rename_i hij
    obtain ⟨hi1, e1⟩ := List.getElem?_eq_some_iff.1 hi
    obtain ⟨hj1, e2⟩ := List.getElem?_eq_some_iff.1 h
    have := List.pairwise_iff_getElem.1 hp i j hi1 hj1 hij
    rw [e1, e2] at this
    exact this
  · cases hi
theorem pls_drop {S : List SegR} (hp : S.Pairwise (fun s t => s.pl ≠ t.pl)) {j : Nat} {s : SegR} (h : S[j]? = some s) : ∀ t ∈ S.drop (j + 1), t.pl ≠ s.pl := fun t ht => by
  obtain ⟨i, hi⟩ := List.getElem?_of_mem ht
  rw [List.getElem?_drop] at hi
  obtain ⟨hi1, e1⟩ := List.getElem?_eq_some_iff.1 hi
  obtain ⟨hj1, e2⟩ := List.getElem?_eq_some_iff.1 h
  have := List.pairwise_iff_getElem.1 hp j (j + 1 + i) hj1 hi1 (by omega)
  rw [e1, e2] at this
  exact this.symm
end Go.Proofs.YtbljphaklciinaaGreat

/- Layer 9 (page): Cell, Post. -/
namespace Go.Proofs.YtbljphaklciinaaGreat
open Go.RowKit
variable {w w' : World} {b bm bb sz : Nat} {p : Pg} {f : Nat → Nat}

theorem PageAt.posted (H : PageAt w b bm p) : CellAt w b 10 p.word p.tag p.asked :=
  ⟨H.at_ (j := 10) (by omega) rfl, H.at_ (j := 11) (by omega) rfl, H.at_ (j := 12) (by omega) rfl, H.frz 10 (by omega), H.frz 11 (by omega), H.frz 12 (by omega)⟩
theorem pageCellQ_ok {w : World} {b : Nat} : Calls Tryz.prog 30 #[.pointer (some ⟨b, 0, none⟩)] w fun e w' => e = .returned (.pointer (some ⟨b, 10, none⟩)) ∧ w' = w := by
  go_enter Tryz.func30, Tryz.ntmps30
  go_wp2_with fail
  go_ret
  exact ⟨rfl, rfl⟩
/-- A page whose cell was written. -/
theorem PageAt.wrote (H : PageAt w b bm p) (y : Nat) (s m : Int) : PageAt (((w.setCell ⟨b, 12, none⟩ (.int .i64 m)).setCell ⟨b, 10, none⟩ (.int .u64 y)).setCell ⟨b, 11, none⟩ (.int .u64 s)) b bm { p with word := y, tag := s, asked := m } := by
  have h := ((Obj_.set H (i := 12) (by omega) (.int .i64 m)).set (i := 10) (by omega) (.int .u64 y)).set (i := 11) (by omega) (.int .u64 s)
  simp only [Nat.zero_add] at h
  refine h.congr fun j hj => ?_
  rcases lt14 hj with rfl | rfl | rfl | rfl | rfl | rfl | rfl | rfl | rfl | rfl | rfl | rfl | rfl | rfl <;> rfl
theorem PageAt.loaded (H : PageAt w b bm p) (m : Int) (k : Nat) : PageAt ((w.setCell ⟨b, 12, none⟩ (.int .i64 m)).drewN k) b bm { p with asked := m } := by
  have h := Obj_.set H (i := 12) (by omega) (.int .i64 m)
  simp only [Nat.zero_add] at h
  refine (h.congr fun j hj => ?_).drewN k
  rcases lt14 hj with rfl | rfl | rfl | rfl | rfl | rfl | rfl | rfl | rfl | rfl | rfl | rfl | rfl | rfl <;> rfl
theorem PageAt.headed (H : PageAt w b bm p) (y : Nat) : PageAt (w.setCell ⟨b, 13, none⟩ (.int .u64 y)) b bm { p with head := y } := by
  have h := Obj_.set H (i := 13) (by omega) (.int .u64 y)
  simp only [Nat.zero_add] at h
  refine h.congr fun j hj => ?_
  rcases lt14 hj with rfl | rfl | rfl | rfl | rfl | rfl | rfl | rfl | rfl | rfl | rfl | rfl | rfl | rfl <;> rfl

theorem pageLoad_ok (H : PageAt w b bm p) (h0 : 0 ≤ p.asked) (h1 : p.asked < 4611686018427387904) :
    Calls Tryz.prog 28 #[.pointer (some ⟨b, 10, none⟩)] w fun e w' => e = .returned (.tuple #[.int .u64 p.word, .int .u64 p.tag]) ∧ PageAt w' b bm { p with asked := p.asked + 1 } ∧ w.grownBy w' (some b) :=
  (load_any b 10 _ _ _ w H.posted h0 h1).mono fun _ _ ⟨he, k, hw⟩ => ⟨he, by subst hw; exact H.loaded _ k, by subst hw; exact only_drewN (only_set (World.grownBy.refl w _) _) _⟩

set_option maxRecDepth 100000 in
set_option maxHeartbeats 4000000 in
theorem pagePost_ok {a : Nat} (H : PageAt w b bm p) (M : MemAt w bm bb sz f) (hb : b ≠ bb) (hbm : b ≠ bm) (hR : RunOk p.f p.s p.n) (ha0 : 0 < a) (ha : a + 8 ≤ sz) (hv : givV p a = 0) (hw : p.word < 18446744073709551616) (h0 : 0 ≤ p.asked) (h1 : p.asked < 4611686018427387904) :
    Calls Tryz.prog 31 #[.pointer (some ⟨b, 0, none⟩), .int .u64 a, .int .u64 p.word, .int .u64 p.tag] w fun e w' => e = .returned (.tuple #[.bool true, .int .i64 0]) ∧ PageAt w' b bm { p with word := a, tag := IntKind.u64.wrap (p.tag + 1), asked := p.asked + 1, head := a } ∧ MemAt w' bm bb sz (putW f a p.word) ∧ PFr w w' b bb := by
  have HH := Lib.hid H
  have HM := Lib.hid M
  have hs1 := M.s1
  have hbl := Obj_.lt H (by omega)
  have HGV : Hid (Calls Tryz.prog 65 #[.pointer (some ⟨b, 0, none⟩), .int .u64 a] w fun e w' => e = .returned (.int .i64 0) ∧ Below w.heap.size w w') := by
    have h := given_ok H hR (a := a) (by omega)
    rw [hv] at h
    exact h
  clear H M hR hv
  go_enter Tryz.func31, Tryz.ntmps31
  go_wp2_with fail
  (with_reducible refine HGV.out.mono ?_)
  rintro e w1 ⟨rfl, B1⟩
  have HB := Lib.hid B1
  have H1 := Lib.hid (Obj_.of_block HH.out (HB.out.block b hbl))
  have M1 := Lib.hid (HM.out.below HB.out (Nat.le_refl _))
  have hbl1 : b < w1.heap.size := Obj_.lt H1.out (by omega)
  have b5 : w1.cell? ⟨b, 5, none⟩ = some (.pointer (some ⟨bm, 0, none⟩)) := Obj_.at_ (j := 5) H1.out (by omega) rfl
  clear B1 HGV HH HM
  go_wp2_with fail
  (with_reducible refine (memStore_ok M1.out a p.word ha hw).mono ?_)
  rintro e w2 ⟨rfl, M2, O2⟩
  have HM2 := Lib.hid M2
  have HO2 := Lib.hid O2
  have H2 : Hid (PageAt w2 b bm p) := Obj_.of_block H1.out (O2.gr.block b hbl1 (by simpa using hb))
  clear M2 O2 b5 H1 M1
  go_wp2_with fail
  (with_reducible refine (cas_yes b 10 _ _ _ a w2 (PageAt.posted H2.out) h0 h1).mono ?_)
  rintro e w3 ⟨rfl, hw3⟩
  have H3 : Hid (PageAt w3 b bm { p with word := a, tag := IntKind.u64.wrap (p.tag + 1), asked := p.asked + 1 }) := by
    have := PageAt.wrote H2.out a (IntKind.u64.wrap (p.tag + 1)) (p.asked + 1)
    rw [← hw3]
    exact this
  have M3 : Hid (MemAt w3 bm bb sz (putW f a p.word)) := by
    rw [← hw3]
    exact ((HM2.out.set_far _ _ hb hbm).set_far _ _ hb hbm).set_far _ _ hb hbm
  have F3 : Hid (PFr w w3 b bb) := by
    rw [← hw3]
    exact ((((PFr.of_below HB.out).trans (PFr.only HO2.out)).set _ _).set _ _).set _ _
  have k13 : w3.cell? ⟨b, 13, none⟩ = some (.int .u64 p.head) := Obj_.at_ (j := 13) H3.out (by omega) rfl
  have z13 : w3.frozen? ⟨b, 13, none⟩ = false := by have := Obj_.frz H3.out 13 (by omega); rwa [Nat.zero_add] at this
  clear hw3 HM2 HO2 H2
  go_wp2_with fail
  go_ret2
  exact ⟨rfl, H3.out.headed a, M3.out.set_far _ _ hb hbm, F3.out.set _ _⟩
end Go.Proofs.YtbljphaklciinaaGreat

/- Layer 7 (list): All. -/
namespace Go.Proofs.YtbljphaklciinaaGreat
open Go.RowKit Go.Shelf

attribute [local go_sem] Oper.semAt_some

theorem wpIn_noPanic {F : Fence} {n : Nat} {P : Program} {c : Code} {K : Act → World → Prop} {Q' : Exit → Act → World → Prop} {a : Act} {w : World} (h : c.wpIn F n P (Exit.then K (fun _ _ _ => False)) a w) : c.wpIn F n P (Exit.then K Q') a w :=
  wpIn_mono h fun e a w he => by cases e <;> first | exact he | exact he.elim

theorem wpIn_rel {F : Fence} {n : Nat} {P : Program} {c : Code} {K : Act → World → Prop} {Q' : Exit → Act → World → Prop} {a : Act} {w : World} (R : Act → World → Prop) (h : c.wpIn F n P (Exit.then R (fun _ _ _ => False)) a w) (hK : ∀ a' w', R a' w' → K a' w') : c.wpIn F n P (Exit.then K Q') a w :=
  wpIn_mono h fun e a w he => by
    cases e
    case normal => exact hK _ _ he
    all_goals exact he.elim

/-- What All holds behind its look. -/
structure AllC (w : World) (h len q : Nat) (W : World) : Prop where
  box : Boxed W w.heap.size 33 (.slice none 0 0)
  q0 : w.heap.size < q
  c0 : W.cell? ⟨q, 0, none⟩ = some (.int .u64 h)
  c1 : W.cell? ⟨q, 1, none⟩ = some (.int .i64 len)
  bl : Below w.heap.size w W

theorem allC_late {w w2 : World} {h len : Nat} {T : TypeId} (hB : Below (w.alloc (.cells #[.slice none 0 0] 33)).drew.heap.size (w.alloc (.cells #[.slice none 0 0] 33)).drew w2) : AllC w h len w2.heap.size (w2.alloc (.cells #[.int .u64 h, .int .i64 len] T)) := by
  have hs : w.heap.size + 1 ≤ w2.heap.size := by simpa using hB.size
  have hb : w2.heap[w.heap.size]? = some (.cells #[.slice none 0 0] 33) := (hB.block w.heap.size (by simp)).trans (World.alloc_heap_new w _)
  have h0 := (Below.refl w.heap.size w).alloc (Nat.le_refl _) (.cells #[.slice none 0 0] 33)
  have h1 : Below w.heap.size w (w.alloc (.cells #[.slice none 0 0] 33)).drew := ⟨h0.os, h0.tape, h0.output, h0.size, h0.block⟩
  exact ⟨(Below.heap_alloc _ _ _ (by omega)).trans hb, by omega, by go_simp, by go_simp, (h1.trans (Below.weak hB (by simp))).alloc (by omega) _⟩
theorem allC_early {w w2 : World} {h len : Nat} {T : TypeId} (hB : Below ((w.alloc (.cells #[.slice none 0 0] 33)).drew.alloc (.cells #[.int .u64 0, .int .i64 0] T)).heap.size ((w.alloc (.cells #[.slice none 0 0] 33)).drew.alloc (.cells #[.int .u64 0, .int .i64 0] T)) w2)
    (k0 : w2.cell? ⟨w.heap.size + 1, 0, none⟩ = some (.int .u64 0)) (k1 : w2.cell? ⟨w.heap.size + 1, 1, none⟩ = some (.int .i64 0)) :
    AllC w h len (w.heap.size + 1) ((w2.setCell ⟨w.heap.size + 1, 0, none⟩ (.int .u64 h)).setCell ⟨w.heap.size + 1, 1, none⟩ (.int .i64 len)) := by
  have hb : w2.heap[w.heap.size]? = some (.cells #[.slice none 0 0] 33) := (hB.block w.heap.size (by simp; omega)).trans ((Below.heap_alloc _ _ _ (by simp)).trans (World.alloc_heap_new w _))
  have h0 := (Below.refl w.heap.size w).alloc (Nat.le_refl _) (.cells #[.slice none 0 0] 33)
  have h1 : Below w.heap.size w (w.alloc (.cells #[.slice none 0 0] 33)).drew := ⟨h0.os, h0.tape, h0.output, h0.size, h0.block⟩
  have h2 := (h1.alloc (by simp) (.cells #[.int .u64 0, .int .i64 0] T)).trans (Below.weak hB (by simp; omega))
  exact ⟨((Below.heap_setCell _ ⟨w.heap.size + 1, 1, none⟩ _ _ (by simp)).trans (Below.heap_setCell _ ⟨w.heap.size + 1, 0, none⟩ _ _ (by simp))).trans hb, by omega, by go_simp, by go_simp,
    (h2.setCell (p := ⟨w.heap.size + 1, 0, none⟩) (by show w.heap.size ≤ w.heap.size + 1; omega) _).setCell (p := ⟨w.heap.size + 1, 1, none⟩) (by show w.heap.size ≤ w.heap.size + 1; omega) _⟩

theorem stopAt {p : Prop} (h : Hid p) : p := h
def AllI (w : World) (n1 : Nat) (pre : List Nat) (W : World) : Prop :=
  ((∃ v, Boxed W w.heap.size 33 v ∧ W.ownsRow w.heap.size 29 1 v pre.length (pre.map fun a => .int .u64 (a : Nat)) ∧ (∀ r, v.ownBlock = some r → n1 ≤ r)) ∧ Below w.heap.size w W) ∧ n1 ≤ W.heap.size
theorem AllI.kept {w A B : World} {n1 : Nat} {s : List Nat} {row : Option Nat} (h : AllI w n1 s A) (hg : A.grownBy B row) (hr : ∀ r, row = some r → w.heap.size < r ∧ r < n1) : AllI w n1 s B := by
  obtain ⟨⟨⟨v, h1, h2, h3⟩, h4⟩, h5⟩ := h
  refine ⟨⟨⟨v, h1.kept hg (fun e => by have := hr _ e.symm; omega), h2.kept hg ?_, h3⟩, h4.grown hg h4.size (fun r e => by have := hr r e; omega)⟩, Nat.le_trans h5 hg.size⟩
  cases hv : v.ownBlock with
  | none => exact .inl rfl
  | some r => exact .inr (fun e => by have := hr r e.symm; have := h3 r hv; omega)
theorem AllI.own {w : World} {n1 : Nat} (hn : w.heap.size ≤ n1) : OwnFrom n1 (AllI w n1) :=
  OwnFrom.and (OwnFrom.and (Own.from (holdsRow_own w.heap.size w.heap.size 33 29 1 (fun s : List Nat => s.length) (fun s : List Nat => s.map fun a => .int .u64 (a : Nat)) (fun _ v => ∀ r, v.ownBlock = some r → n1 ≤ r)) _) (ownFrom_below (Nat.le_refl _) hn)) (fun _ _ _ _ hs hg _ => Nat.le_trans hs hg.size)
theorem info_u64q : (Tryz.prog.info? 29).map (fun i => (i.zero, i.size, i.bytes)) = some (some (.int .u64 0), 1, 8) := by kernel_rfl

set_option maxRecDepth 100000 in
set_option maxHeartbeats 2000000 in
theorem listAll_ok {w : World} {b o bm bb sz h : Nat} {f : Nat → Nat} {L : List Nat} (M : MemAt w bm bb sz f) (h0 : w.cell? ⟨b, o, none⟩ = some (.int .u64 h)) (h1 : w.cell? ⟨b, o + 1, none⟩ = some (.int .i64 (L.length : Nat))) (hc : Chain f h L) (hL : ∀ a ∈ L, a + 8 ≤ sz) (hl : L.length ≤ sz) :
    Calls Tryz.prog 131 #[.pointer (some ⟨b, o, none⟩), .pointer (some ⟨bm, 0, none⟩)] w fun e w' => ∃ v, e = .returned (.tuple #[v, .int .i64 0]) ∧ w'.ownsRow w.heap.size 29 1 v L.length (L.map fun a => .int .u64 (a : Nat)) ∧ Below w.heap.size w w' := by
  have HH := Lib.hid M
  have HC := Lib.hid hc
  have hs1 := M.s1
  have hbl := World.block_lt_of_cell? w _ h0
  clear M hc
  refine (callsIn_wide (n := 3)).1 ?_
  refine callsIn_of_wp_marks Tryz.func131 rfl trivial ?_ rfl
  simp only [Tryz.ntmps131, List.size_toArray, List.length_cons, List.length_nil, Nat.reduceAdd, Nat.reduceSub, Array.replicate_succ, Array.replicate_zero, List.push_toArray, List.append_toArray, List.nil_append, List.cons_append]
  have hmix : Tryz.prog.follows .mixedOrders = true := by kernel_rfl
  gi_wp2
  have hb' : b ≠ w.heap.size := by omega
  have k0 : (w.alloc (.cells #[.slice none 0 0] 33)).cell? ⟨b, o, none⟩ = some (.int .u64 h) := (World.cell?_alloc_lt _ _ _ hbl).trans h0
  have k1 : (w.alloc (.cells #[.slice none 0 0] 33)).cell? ⟨b, o + 1, none⟩ = some (.int .i64 (L.length : Nat)) := (World.cell?_alloc_lt _ _ _ hbl).trans h1
  refine wpIn_rel (fun a' w' => ∃ q, a' = { tmps := List.toArray ((.pointer (some ⟨b, o, none⟩) : Value) :: (.pointer (some ⟨bm, 0, none⟩) : Value) :: undef :: undef :: (.pointer (some ⟨w.heap.size, 0, none⟩) : Value) :: (.int .i64 0 : Value) :: (.pointer (some ⟨q, 0, none⟩) : Value) :: (.int .i64 0 : Value) :: undef :: (.pointer (some ⟨b, o, none⟩) : Value) :: (.bool false : Value) :: (.bool false : Value) :: (.pointer (some ⟨bm, 0, none⟩) : Value) :: (.bool false : Value) :: (.bool false : Value) :: (.tuple #[.agg #[.int .u64 h, .int .i64 (L.length : Nat)], .int .i64 0] : Value) :: (.pointer (some ⟨bm, 0, none⟩) : Value) :: (.pointer (some ⟨b, o, none⟩) : Value) :: (.pointer (some ⟨b, o, none⟩) : Value) :: (.pointer (some ⟨b, o, none⟩) : Value) :: (.int .u64 h : Value) :: (.pointer (some ⟨b, o, none⟩) : Value) :: (.pointer (some ⟨b, o, none⟩) : Value) :: (.pointer (some ⟨b, o + 1, none⟩) : Value) :: (.int .i64 (L.length : Nat) : Value) :: (.tuple #[.agg #[.int .u64 h, .int .i64 (L.length : Nat)], .int .i64 0] : Value) :: (.agg #[.int .u64 h, .int .i64 (L.length : Nat)] : Value) :: (.int .i64 0 : Value) :: undef :: undef :: undef :: undef :: undef :: undef :: undef :: undef :: undef :: undef :: undef :: undef :: undef :: undef :: undef :: undef :: undef :: undef :: undef :: undef :: undef :: undef :: []), defers := [] } ∧ Hid (AllC w h L.length q w')) ?way ?_
  case way =>
    gi_region_with_o (first
      | (refine ⟨trivial, ?_⟩; gi_at_call 107; refine (callsIn_wide.2 (chain_ok (bb := bb) (sz := sz) (f := f) (((HH.out.alloc _).drew).alloc _) HC.out hL (Int.le_refl _) (by omega) (by omega))).mono ?_; rintro e w2 ⟨rfl, B2⟩; have HB2 := Lib.hid B2; have kc0 : w2.cell? ⟨w.heap.size + 1, 0, none⟩ = some (.int .u64 0) := (B2.cell (p := ⟨w.heap.size + 1, 0, none⟩) (by simp)).trans (by go_simp); have kc1 : w2.cell? ⟨w.heap.size + 1, 1, none⟩ = some (.int .i64 0) := (B2.cell (p := ⟨w.heap.size + 1, 1, none⟩) (by simp)).trans (by go_simp); have zc0 : w2.frozen? ⟨w.heap.size + 1, 0, none⟩ = false := (World.frozen?_of_block (a := ⟨w.heap.size + 1, 0, none⟩) (B2.block (w.heap.size + 1) (by simp))).trans (by go_simp); have zc1 : w2.frozen? ⟨w.heap.size + 1, 1, none⟩ = false := (World.frozen?_of_block (a := ⟨w.heap.size + 1, 1, none⟩) (B2.block (w.heap.size + 1) (by simp))).trans (by go_simp); clear B2)
      | (refine ⟨trivial, ?_⟩; gi_at_call 107; refine (callsIn_wide.2 (chain_ok (bb := bb) (sz := sz) (f := f) (((HH.out.alloc _).alloc _).drew) HC.out hL (Int.le_refl _) (by omega) (by omega))).mono ?_; rintro e w2 ⟨rfl, B2⟩; have HB2 := Lib.hid B2; have kc0 : w2.cell? ⟨w.heap.size + 1, 0, none⟩ = some (.int .u64 0) := (B2.cell (p := ⟨w.heap.size + 1, 0, none⟩) (by simp)).trans (by go_simp); have kc1 : w2.cell? ⟨w.heap.size + 1, 1, none⟩ = some (.int .i64 0) := (B2.cell (p := ⟨w.heap.size + 1, 1, none⟩) (by simp)).trans (by go_simp); have zc0 : w2.frozen? ⟨w.heap.size + 1, 0, none⟩ = false := (World.frozen?_of_block (a := ⟨w.heap.size + 1, 0, none⟩) (B2.block (w.heap.size + 1) (by simp))).trans (by go_simp); have zc1 : w2.frozen? ⟨w.heap.size + 1, 1, none⟩ = false := (World.frozen?_of_block (a := ⟨w.heap.size + 1, 1, none⟩) (B2.block (w.heap.size + 1) (by simp))).trans (by go_simp); clear B2)
      | (refine ⟨trivial, ?_⟩; gi_at_call 107; refine (callsIn_wide.2 (chain_ok (bb := bb) (sz := sz) (f := f) ((HH.out.alloc _).drew) HC.out hL (Int.le_refl _) (by omega) (by omega))).mono ?_; rintro e w2 ⟨rfl, B2⟩; have HB2 := Lib.hid B2; clear B2)
      | fail)
    all_goals (show ∃ q, _ ∧ _)
    all_goals (first
      | exact ⟨w2.heap.size, rfl, allC_late HB2.out⟩
      | exact ⟨w.heap.size + 1, rfl, allC_early HB2.out kc0 kc1⟩
      | fail)
  rintro a' W1 ⟨q, rfl, HA⟩
  have hq := HA.out.q0
  have c0 := HA.out.c0
  have c1 := HA.out.c1
  have m0 : W1.cell? ⟨b, o, none⟩ = some (.int .u64 h) := (HA.out.bl.cell (p := ⟨b, o, none⟩) hbl).trans h0
  have m1 : W1.cell? ⟨b, o + 1, none⟩ = some (.int .i64 (L.length : Nat)) := (HA.out.bl.cell (p := ⟨b, o + 1, none⟩) hbl).trans h1
  have HM1 := Lib.hid (HH.out.below HA.out.bl (Nat.le_refl _))
  clear k0 k1 h0 h1 hb'
  gi_wp2
  refine wpIn_rel (fun a' w' => a' = { tmps := List.toArray ((.pointer (some ⟨b, o, none⟩) : Value) :: (.pointer (some ⟨bm, 0, none⟩) : Value) :: undef :: undef :: (.pointer (some ⟨w.heap.size, 0, none⟩) : Value) :: (.int .i64 0 : Value) :: (.pointer (some ⟨q, 0, none⟩) : Value) :: (.int .i64 0 : Value) :: undef :: (.pointer (some ⟨b, o, none⟩) : Value) :: (.bool false : Value) :: (.bool false : Value) :: (.pointer (some ⟨bm, 0, none⟩) : Value) :: (.bool false : Value) :: (.bool false : Value) :: (.tuple #[.agg #[.int .u64 h, .int .i64 (L.length : Nat)], .int .i64 0] : Value) :: (.pointer (some ⟨bm, 0, none⟩) : Value) :: (.pointer (some ⟨b, o, none⟩) : Value) :: (.pointer (some ⟨b, o, none⟩) : Value) :: (.pointer (some ⟨b, o, none⟩) : Value) :: (.int .u64 h : Value) :: (.pointer (some ⟨b, o, none⟩) : Value) :: (.pointer (some ⟨b, o, none⟩) : Value) :: (.pointer (some ⟨b, o + 1, none⟩) : Value) :: (.int .i64 (L.length : Nat) : Value) :: (.tuple #[.agg #[.int .u64 h, .int .i64 (L.length : Nat)], .int .i64 0] : Value) :: (.agg #[.int .u64 h, .int .i64 (L.length : Nat)] : Value) :: (.int .i64 0 : Value) :: (.int .i64 0 : Value) :: (.bool false : Value) :: (.bool false : Value) :: (.agg #[.int .u64 h, .int .i64 (L.length : Nat)] : Value) :: (.pointer (some ⟨b, o, none⟩) : Value) :: (.pointer (some ⟨b, o, none⟩) : Value) :: (.agg #[.int .u64 h, .int .i64 (L.length : Nat)] : Value) :: (.bool false : Value) :: (.bool false : Value) :: undef :: undef :: undef :: undef :: undef :: undef :: undef :: undef :: undef :: undef :: undef :: undef :: undef :: []), defers := [] } ∧ w' = W1.drew) ?way2 ?_
  case way2 =>
    gi_region_with_o (fail)
    all_goals (show _ ∧ _; exact ⟨rfl, rfl⟩)
  rintro _ _ ⟨rfl, rfl⟩
  clear c0 c1 hmix
  gi_wp2
  refine ⟨trivial, (callsIn_wide.2 (from_any _ bm h)).mono ?_⟩
  rintro e w1 ⟨rfl, T, rfl⟩
  gi_wp2
  have hBW : Below w.heap.size W1 ((W1.alloc (.cells #[.pointer (some ⟨bm, 0, none⟩)] T)).alloc (.cells #[.int .u64 h] 29)).drew := by
    have h := ((Below.refl w.heap.size W1).alloc HA.out.bl.size (.cells #[.pointer (some ⟨bm, 0, none⟩)] T)).alloc (by have := HA.out.bl.size; simp; omega) (.cells #[.int .u64 h] 29)
    exact ⟨h.os, h.tape, h.output, h.size, h.block⟩
  have hlt0 : w.heap.size < W1.heap.size := HA.out.box.lt
  have G0 : Hid (AllI w (W1.heap.size + 2) [] ((W1.alloc (.cells #[.pointer (some ⟨bm, 0, none⟩)] T)).alloc (.cells #[.int .u64 h] 29)).drew) := ⟨⟨⟨.slice none 0 0, (HA.out.box.alloc _).alloc _, World.ownsRow_nil _ _ _ _, fun r e => by simp [Value.ownBlock] at e⟩, HA.out.bl.trans hBW⟩, by simp⟩
  have G1 : Hid (((W1.alloc (.cells #[.pointer (some ⟨bm, 0, none⟩)] T)).alloc (.cells #[.int .u64 h] 29)).drew.cell? ⟨W1.heap.size + 1, 0, none⟩ = some (.int .u64 h) ∧ ((W1.alloc (.cells #[.pointer (some ⟨bm, 0, none⟩)] T)).alloc (.cells #[.int .u64 h] 29)).drew.frozen? ⟨W1.heap.size + 1, 0, none⟩ = false ∧ ((W1.alloc (.cells #[.pointer (some ⟨bm, 0, none⟩)] T)).alloc (.cells #[.int .u64 h] 29)).drew.cell? ⟨W1.heap.size, 0, none⟩ = some (.pointer (some ⟨bm, 0, none⟩))) := ⟨by go_simp, by go_simp, by go_simp⟩
  have G2 : Hid (MemAt ((W1.alloc (.cells #[.pointer (some ⟨bm, 0, none⟩)] T)).alloc (.cells #[.int .u64 h] 29)).drew bm bb sz f) := ((HM1.out.alloc _).alloc _).drew
  have G3 : Hid (((W1.alloc (.cells #[.pointer (some ⟨bm, 0, none⟩)] T)).alloc (.cells #[.int .u64 h] 29)).drew.heap.size = W1.heap.size + 2) := by show _ = _; simp
  have hbm := HH.out.lt_bm
  have hbb := HH.out.lt_bb
  clear HH HM1 m0 m1 hBW
  generalize ((W1.alloc (.cells #[.pointer (some ⟨bm, 0, none⟩)] T)).alloc (.cells #[.int .u64 h] 29)).drew = wl at *
  refine range_all rfl (by omega) (gf := 141) (lb := #[.pointer (some ⟨W1.heap.size + 1, 0, none⟩), .pointer (some ⟨W1.heap.size, 0, none⟩)]) rfl trivial (enters_of Tryz.func141 (by kernel_rfl) rfl)
    (encs := fun x : Nat => #[.int .u64 (x : Nat), .bool true]) (fun _ => rfl) (KeepF w.heap.size (W1.heap.size + 1) W1.heap.size) L.length L (AllI w (W1.heap.size + 2))
    (by rw [G3.out]; exact AllI.own (by omega))
    (fun h h' => h.trans h') (KeepF.put (by have := G3.out; omega)) ?hseq G0.out (fun x => { tmps := List.toArray ((.pointer (some ⟨b, o, none⟩) : Value) :: (.pointer (some ⟨bm, 0, none⟩) : Value) :: undef :: undef :: (.pointer (some ⟨w.heap.size, 0, none⟩) : Value) :: (.int .i64 0 : Value) :: (.pointer (some ⟨q, 0, none⟩) : Value) :: (.int .i64 0 : Value) :: (.int .u64 (x : Nat) : Value) :: (.pointer (some ⟨b, o, none⟩) : Value) :: (.bool false : Value) :: (.bool false : Value) :: (.pointer (some ⟨bm, 0, none⟩) : Value) :: (.bool false : Value) :: (.bool false : Value) :: (.tuple #[.agg #[.int .u64 h, .int .i64 (L.length : Nat)], .int .i64 0] : Value) :: (.pointer (some ⟨bm, 0, none⟩) : Value) :: (.pointer (some ⟨b, o, none⟩) : Value) :: (.pointer (some ⟨b, o, none⟩) : Value) :: (.pointer (some ⟨b, o, none⟩) : Value) :: (.int .u64 h : Value) :: (.pointer (some ⟨b, o, none⟩) : Value) :: (.pointer (some ⟨b, o, none⟩) : Value) :: (.pointer (some ⟨b, o + 1, none⟩) : Value) :: (.int .i64 (L.length : Nat) : Value) :: (.tuple #[.agg #[.int .u64 h, .int .i64 (L.length : Nat)], .int .i64 0] : Value) :: (.agg #[.int .u64 h, .int .i64 (L.length : Nat)] : Value) :: (.int .i64 0 : Value) :: (.int .i64 0 : Value) :: (.bool false : Value) :: (.bool false : Value) :: (.agg #[.int .u64 h, .int .i64 (L.length : Nat)] : Value) :: (.pointer (some ⟨b, o, none⟩) : Value) :: (.pointer (some ⟨b, o, none⟩) : Value) :: (.agg #[.int .u64 h, .int .i64 (L.length : Nat)] : Value) :: (.bool false : Value) :: (.bool false : Value) :: (.pointer (some ⟨bm, 0, none⟩) : Value) :: (.pointer (some ⟨b, o, none⟩) : Value) :: (.pointer (some ⟨b, o, none⟩) : Value) :: (.pointer (some ⟨b, o, none⟩) : Value) :: (.int .u64 h : Value) :: (.func (.func 141) #[] #[.pointer (some ⟨W1.heap.size + 1, 0, none⟩), .pointer (some ⟨W1.heap.size, 0, none⟩)] : Value) :: (.int .u64 (x : Nat) : Value) :: (.bool true : Value) :: undef :: undef :: undef :: undef :: undef :: []), defers := [] }) ?assign ?body ?done
  case hseq =>
    intro l J W hW hJI hJk hY h0
    refine (from1_in 2 (by omega) l (W1.heap.size + 1) W1.heap.size w.heap.size bm bb sz f L hbm hbb (by omega) (by omega) (by omega) hL J (fun _ _ => False) ?_ ?_ (fun pre x W1 hj hlen => (hY pre x W1 hj hlen).mono (fun e w' hh => .inl hh)) W (G2.out.below hW (Nat.le_refl _)) ?_ ?_ ?_ ?_ h0).mono ?_
    · intro pre A v hj
      exact hJk _ _ _ (some (W1.heap.size + 1)) hj (grownBy_setCell' A (W1.heap.size + 1) v) (fun q e => by cases e; have := G3.out; omega) ((hJI _ _ hj).kept (grownBy_setCell' A (W1.heap.size + 1) v) (fun r e => by cases e; omega))
    · intro pre A B hj hb
      have hg : A.grownBy B none := ⟨hb.os, hb.tape, hb.output, hb.size, fun k hk _ => hb.block k hk⟩
      exact hJk _ _ _ none hj hg (fun q e => by cases e) ((hJI _ _ hj).kept hg (fun r e => by cases e))
    · rw [← HC.out.head]
      exact (hW.cell (p := ⟨W1.heap.size + 1, 0, none⟩) (by have := G3.out; show (W1.heap.size + 1) < _; omega)).trans G1.out.1
    · exact (World.frozen?_of_block (a := ⟨W1.heap.size + 1, 0, none⟩) (hW.block (W1.heap.size + 1) (by have := G3.out; omega))).trans G1.out.2.1
    · exact (hW.cell (p := ⟨W1.heap.size, 0, none⟩) (by have := G3.out; show W1.heap.size < _; omega)).trans G1.out.2.2
    · rw [← HC.out.head]
      exact HC.out
    · rintro e W' ⟨he, ⟨ys, rfl, hj⟩ | ⟨pre, _, hf⟩⟩
      · exact ⟨he, hj⟩
      · exact hf.elim
  case assign =>
    intro l x W K hK
    gi_wp2
    exact hK
  case body =>
    rintro l pre x W ⟨⟨⟨v, hv, hrow, hG⟩, hB⟩, hn1⟩ hl
    obtain ⟨i0, hi0, hz0, hz1, hz2⟩ := info_parts info_u64q
    have hvc := hv.cell
    have hBs := hB.size
    gi_wp2_with (gi_at_builtin; refine stopAt ?_)
    refine wpListIn_append_own_at _ rfl _ _ 33 rfl w.heap.size 29 i0 (.int .u64 0) 1 8 Tryz.underlying33 hi0 hz0 hz1 hz2 rfl (by decide) v pre.length _ rfl (hrow.alloc _) ⟨W.heap.size, 0, none⟩ 1 1 [.int .u64 x] rfl rfl (cell_one_new _ _ _) (by simp [Value.oneCell']) (by simp [maxLen]; omega) (by omega) (by simp; omega) ?_
    intro v' w1 hown' hgrow hnil hblk
    obtain ⟨g', cap', rfl⟩ := ownsRow_succ hown'
    obtain ⟨hv1, hv2, hr2, hk2, hb2⟩ := hv.appended (by decide) hrow hBs (Nat.le_refl _) hown' hgrow
    have hc1 := hv1.cell
    have hf1 := hv1.frozen
    gi_wp2
    refine ⟨⟨hb2, fun q' hq' u hu => ?_⟩, ⟨⟨⟨_, hv2, ?_, ?_⟩, hB.trans hb2⟩, Nat.le_trans hn1 hb2.size⟩⟩
    · have hlt := World.block_lt_of_cell? _ _ hu
      have hne : some q' ≠ v.ownBlock := fun e => by have := hG _ e.symm; omega
      have hb3 : w1.heap[q']? = W.heap[q']? := (hgrow.block q' (Nat.lt_of_lt_of_le hlt (by simp)) hne).trans (Below.heap_alloc _ _ _ hlt)
      exact ⟨by rw [World.cell?_setCell_other _ _ _ _ (by simp <;> omega)]; exact (World.cell?_of_block (a := ⟨q', 0, none⟩) hb3).trans hu, by rw [World.frozen?_setCell]; exact World.frozen?_of_block (a := ⟨q', 0, none⟩) hb3⟩
    · rw [List.length_append, List.map_append]
      exact hr2
    · intro r e
      rcases hblk with hh | hh
      · exact hG r (hh.symm.trans e)
      · have h9 := hh.symm.trans e
        simp at h9
        omega
  case done =>
    rintro D W hD ⟨⟨⟨v, hv, hrow, hG⟩, hB⟩, hn1⟩ hK
    have hsl : ∃ ad n c, v = .slice ad n c := by
      rcases hrow.2 with ⟨rfl, _⟩ | ⟨g, cap, cur, rfl, _⟩
      · exact ⟨_, _, _, rfl⟩
      · exact ⟨_, _, _, rfl⟩
    obtain ⟨ad, ln, cp, rfl⟩ := hsl
    have hvc := hv.cell
    have hvf := hv.frozen
    gi_wp2
    have hK' := (KeepsOthers.setCell W ⟨w.heap.size, 0, none⟩ (.slice ad ln cp)).same D _ hK rfl
    have hcr := cell_kept (hv.set (.slice ad ln cp)).cell (grownBy_putObj' _ D (.deferred none)) (fun r e => by cases e; exact ⟨_, hK', rfl⟩)
    have hrow' := hrow.kept (grownBy_setCell' W w.heap.size (.slice ad ln cp)) (.inr (hv.not_row (by decide) hrow).symm)
    refine ⟨by simp, .inl ⟨_, _, rfl, run_takeDeferred hK', ?_⟩⟩
    refine ⟨.tuple #[.slice ad ln cp, .int .i64 0], ?_, .slice ad ln cp, rfl, ownsRow_putObj hrow' _ hK' rfl, ?_⟩
    · simp [results, Tryz.results131, go_sem, hcr]
    · exact (hB.setCell (p := ⟨w.heap.size, 0, none⟩) (Nat.le_refl _) _).trans (belowK_b (w := w) (Nat.le_refl _) _ D _ _ (by have := G3.out; omega) hK' rfl rfl)
end Go.Proofs.YtbljphaklciinaaGreat

/- Layer 7 (list): Join. -/
namespace Go.Proofs.YtbljphaklciinaaGreat
open Go.RowKit

/-- Two pointers, where the second one's block is whole, and not empty. -/
theorem run_sameAddr_half {P : Program} {w : World} {a b : Addr} {ca cb : Array Value} {ta tb : TypeId} {fa : Nat × Nat} (hne : a.block ≠ b.block) (ha : w.heap[a.block]? = some (.cells ca ta fa)) (hf : w.frozen? a = false) (hb : w.heap[b.block]? = some (.cells cb tb (0, 0))) (hsa : ca.size ≠ 0) (hs : cb.size ≠ 0) :
    (sameAddr a b).run P w = .ok false w := by
  obtain ⟨lo, hi⟩ := fa
  have hf' : w.frozen? b = false := by simp [World.frozen?, hb]
  have hq : ¬ cb = #[] := fun e => hs (by rw [e]; rfl)
  have hr : ¬ ca = #[] := fun e => hsa (by rw [e]; rfl)
  have hfe : w.frozen? { block := b.block, off := cb.size } = false := by simp [World.frozen?, hb]
  have hm : (match some (ta, ca.size) with
        | some (_, 0) => true
        | _ => false) = false := by
    split
    · rename_i e
      injection e with e
      injection e with _ e
      exact absurd e hsa
    · rfl
  cases hz : w.frozen? { block := a.block, off := ca.size } <;> simp [sameAddr, hne, hf, hf', ha, hb, noView, viewAt, World.shape?, mayBeOne, stringish, hs, hsa, hq, hr, hz, hfe, hm]
theorem eql_half {P : Program} {w : World} {tp te : TypeId} {j : TypeInfo} {a b : Addr} {ca cb : Array Value} {ta tb : TypeId} {fa : Nat × Nat} (hp : P.underlying tp = some (.pointer te)) (hte : P.info? te = some j) (hsz : j.size ≠ 0)
    (hne : a.block ≠ b.block) (ha : w.heap[a.block]? = some (.cells ca ta fa)) (hf : w.frozen? a = false) (hb : w.heap[b.block]? = some (.cells cb tb (0, 0))) (hsa : ca.size ≠ 0) (hs : cb.size ≠ 0) :
    (binOp .eql tp (.pointer (some a)) (.pointer (some b))).run P w = .ok (.bool false) w := by
  have h : ∀ d : Nat, (Op.equalIn (d + 1) tp (.pointer (some a)) (.pointer (some b))).run P w = .ok false w := fun d => by
    simp [Op.equalIn, run_underlying hp, sizeOf, typeInfo, hte, hsz, run_sameAddr_half hne ha hf hb hsa hs]
  simp only [binOp]
  simp [Op.equal, Op.maxDepth, h 9999]
theorem block_of_cell {w : World} {a : Addr} {v : Value} (h : w.cell? a = some v) : ∃ c t f, w.heap[a.block]? = some (.cells c t f) ∧ c.size ≠ 0 := by
  unfold World.cell? at h
  split at h
  · rename_i c t f e
    refine ⟨c, t, f, e, fun h0 => ?_⟩
    split at h
    · cases h
    · rw [Array.getElem?_eq_none (by omega)] at h
      cases h
  · cases h
theorem info_list : (Tryz.prog.info? 145).map (fun i => i.size) = some 2 := by kernel_rfl
theorem eql_list {w : World} {b o g : Nat} {v : Value} {cg : Array Value} {tg : TypeId} (h : w.cell? ⟨b, o, none⟩ = some v) (hf : w.frozen? ⟨b, o, none⟩ = false) (hg : w.heap[g]? = some (.cells cg tg (0, 0))) (hs : cg.size = 2) (hne : b ≠ g) :
    (binOp .eql 187 (.pointer (some ⟨b, o, none⟩)) (.pointer (some ⟨g, 0, none⟩))).run Tryz.prog w = .ok (.bool false) w := by
  cases hi : Tryz.prog.info? 145 with
  | none => have := info_list; rw [hi] at this; cases this
  | some j =>
    have hj : j.size = 2 := by have := info_list; rw [hi] at this; injection this
    obtain ⟨ca, ta, fa, ha, hsa⟩ := block_of_cell h
    exact eql_half Tryz.underlying187 hi (by omega) hne ha hf hg hsa (by omega)

/-- What Join leaves. -/
def JoinTo (w : World) (b o g bm bb sz : Nat) (f : Nat → Nat) (hd : Nat) (n : Int) (w' : World) : Prop :=
  ∃ w1, w.grownBy w1 (some bb) ∧ MemAt w1 bm bb sz f ∧ w' = (((w1.setCell ⟨b, o, none⟩ (.int .u64 hd)).setCell ⟨b, o + 1, none⟩ (.int .i64 n)).drew.setCell ⟨g, 0, none⟩ (.int .u64 0)).setCell ⟨g, 1, none⟩ (.int .i64 0)

set_option maxRecDepth 100000 in
set_option maxHeartbeats 4000000 in
theorem listJoin_ok {w : World} {b o bm bb sz hd g : Nat} {n : Int} {f : Nat → Nat} {L : List Nat} (M : MemAt w bm bb sz f) (h0 : w.cell? ⟨b, o, none⟩ = some (.int .u64 hd)) (h1 : w.cell? ⟨b, o + 1, none⟩ = some (.int .i64 n)) (z0 : w.frozen? ⟨b, o, none⟩ = false) (z1 : w.frozen? ⟨b, o + 1, none⟩ = false)
    (hgo : w.heap[g]? = some (.cells #[.int .u64 (L.headD 0 : Nat), .int .i64 (L.length : Nat)] 145 (0, 0)))
    (hc : Chain f (L.headD 0) L) (hL : ∀ a ∈ L, a + 8 ≤ sz) (hl : L.length ≤ 1024) (hl0 : 0 < L.length) (hls : L.length ≤ sz) (hbg : b ≠ g) (hb : b ≠ bb) (hg : g ≠ bb) (hh : hd < 18446744073709551616) (n0 : 0 ≤ n) (n1 : n ≤ 1000000) :
    Calls Tryz.prog 108 #[.pointer (some ⟨b, o, none⟩), .pointer (some ⟨bm, 0, none⟩), .pointer (some ⟨g, 0, none⟩)] w fun e w' => e = .returned (.int .i64 0) ∧ JoinTo w b o g bm bb sz (putW f (L.getLastD 0) hd) (L.headD 0) (n + L.length) w' := by
  obtain ⟨lh, hlh⟩ : ∃ lh, lh = L.headD 0 := ⟨_, rfl⟩
  rw [← hlh] at hgo hc
  rw [← hlh]
  clear hlh
  have g0 : w.cell? ⟨g, 0, none⟩ = some (.int .u64 (lh : Nat)) := by simp [World.cell?, hgo]
  have g1 : w.cell? ⟨g, 1, none⟩ = some (.int .i64 (L.length : Nat)) := by simp [World.cell?, hgo]
  have y0 : w.frozen? ⟨g, 0, none⟩ = false := by simp [World.frozen?, hgo]
  have y1 : w.frozen? ⟨g, 1, none⟩ = false := by simp [World.frozen?, hgo]
  have hq := eql_list h0 z0 hgo rfl hbg
  have hs1 := M.s1
  have hbl := World.block_lt_of_cell? w _ h0
  have hgl := World.block_lt_of_cell? w _ g0
  obtain ⟨ll, hll⟩ : ∃ ll, L.getLastD 0 = ll ∧ L[L.length - 1]? = some ll := by
    refine ⟨_, rfl, ?_⟩
    rw [List.getLastD_eq_getLast?, List.getLast?_eq_getElem?]
    rw [List.getElem?_eq_getElem (by omega)]
    rfl
  have hlL : ll + 8 ≤ sz := hL ll (List.mem_of_getElem? hll.2)
  have HLL := Lib.hid hll
  have HG1 := Lib.hid g1
  have HALL := Lib.hid (listAll_ok M g0 g1 hc hL hls)
  have HH := Lib.hid M
  have HH0 := Lib.hid h0
  have HZ := Lib.hid (And.intro z0 z1)
  have HY := Lib.hid (And.intro y0 y1)
  clear M hc hgo hL hll y0 y1
  go_enter Tryz.func108, Tryz.ntmps108
  go_wp2_with fail
  (with_reducible refine HALL.out.mono ?_)
  rintro e w1 ⟨v, rfl, ho, hb1⟩
  obtain ⟨A1, c1, rfl, hc1, hc1', hcs⟩ := own_at ho
  obtain ⟨g1', rfl, d0⟩ := hcs (L.length - 1) (.int .u64 (ll : Nat)) (by rw [List.getElem?_map, HLL.out.2]; rfl)
  have HB1 := Lib.hid hb1
  have k0 : w1.cell? ⟨b, o, none⟩ = some (.int .u64 hd) := (hb1.cell (p := ⟨b, o, none⟩) hbl).trans HH0.out
  have k1 : w1.cell? ⟨b, o + 1, none⟩ = some (.int .i64 n) := (hb1.cell (p := ⟨b, o + 1, none⟩) hbl).trans h1
  have l0 : w1.cell? ⟨g, 0, none⟩ = some (.int .u64 (lh : Nat)) := (hb1.cell (p := ⟨g, 0, none⟩) hgl).trans g0
  have HM1 := Lib.hid (HH.out.below hb1 (Nat.le_refl _))
  have hbl1 : b < w1.heap.size := Nat.lt_of_lt_of_le hbl hb1.size
  have hgl1 : g < w1.heap.size := Nat.lt_of_lt_of_le hgl hb1.size
  have HW : Hid (∀ k, k < w.heap.size → w1.heap[k]? = w.heap[k]?) := hb1.block
  clear hb1 hcs g0 g1 h1 hq HALL z0 z1 h0
  obtain ⟨m, hm⟩ : ∃ m, L.length = m + 1 := ⟨L.length - 1, by omega⟩
  have HMM := Lib.hid hm
  rw [hm, Nat.add_sub_cancel] at d0
  rw [hm]
  have hne1 : g1' ≠ bb := fun e => by
    have := ho.lt g1' rfl
    have := HH.out.lt_bb
    omega
  have hg1l := World.block_lt_of_cell? w1 _ d0
  have hix0 : (0 : Int) ≤ (m : Int) := by omega
  have hix1 : (m : Int) < (m : Int) + 1 := by omega
  have hix2 : ¬ ((m : Int) + 1 ≤ 0) := by omega
  have hix3 : (0 : Int) < (m : Int) + 1 := by omega
  have hwr := Go.IntWalk.i64_in (m : Int) ⟨by omega, by omega⟩
  have HST := Lib.hid (memStore_ok (HM1.out.drew) ll hd hlL hh)
  have HS1 : Hid (w1.cell? ⟨g1', m, none⟩ = some (.int .u64 (ll : Nat)) ∧ w1.cell? ⟨b, o, none⟩ = some (.int .u64 hd)) := ⟨d0, k0⟩
  have hbg1 : b ≠ g1' := fun e => by
    have := ho.lt g1' rfl
    omega
  clear ho hm
  go_wp2_with fail
  go_region_held3 (fun w' => w'.cell? ⟨g1', m, none⟩ = some (.int .u64 (ll : Nat)) ∧ w'.cell? ⟨b, o, none⟩ = some (.int .u64 hd))
    (first | exact HS1.out | exact HS2.out | fail)
    (first
      | (go_at_call 66
         (with_reducible refine HST.out.mono ?_)
         rintro e w2 ⟨rfl, M2, O2⟩
         have HS2 : Hid (w2.cell? ⟨g1', m, none⟩ = some (.int .u64 (ll : Nat)) ∧ w2.cell? ⟨b, o, none⟩ = some (.int .u64 hd)) := ⟨(World.cell?_of_block (a := ⟨g1', m, none⟩) (O2.gr.block g1' hg1l (by simpa using hne1))).trans HS1.out.1, (World.cell?_of_block (a := ⟨b, o, none⟩) (O2.gr.block b hbl1 (by simpa using hb))).trans HS1.out.2⟩
         have HM2 := Lib.hid M2
         have HO2 := Lib.hid O2
         clear M2 O2)
      | fail)
  have e2b : w2.heap[b]? = w1.heap[b]? := HO2.out.gr.block b hbl1 (by simpa using hb)
  have e2g : w2.heap[g]? = w1.heap[g]? := HO2.out.gr.block g hgl1 (by simpa using hg)
  have eb : w2.heap[b]? = w.heap[b]? := e2b.trans (HW.out b hbl)
  have eg : w2.heap[g]? = w.heap[g]? := e2g.trans (HW.out g hgl)
  have m0 : w2.cell? ⟨b, o, none⟩ = some (.int .u64 hd) := HS2.out.2
  have m1 : w2.cell? ⟨b, o + 1, none⟩ = some (.int .i64 n) := (World.cell?_of_block (a := ⟨b, o + 1, none⟩) e2b).trans k1
  have n0' : w2.cell? ⟨g, 0, none⟩ = some (.int .u64 (lh : Nat)) := (World.cell?_of_block (a := ⟨g, 0, none⟩) e2g).trans l0
  have n1' : w2.cell? ⟨g, 1, none⟩ = some (.int .i64 (L.length : Nat)) := (World.cell?_of_block (a := ⟨g, 1, none⟩) eg).trans HG1.out
  have q0 : w2.frozen? ⟨b, o, none⟩ = false := (World.frozen?_of_block (a := ⟨b, o, none⟩) eb).trans HZ.out.1
  have q1 : w2.frozen? ⟨b, o + 1, none⟩ = false := (World.frozen?_of_block (a := ⟨b, o + 1, none⟩) eb).trans HZ.out.2
  have r0 : w2.frozen? ⟨g, 0, none⟩ = false := (World.frozen?_of_block (a := ⟨g, 0, none⟩) eg).trans HY.out.1
  have r1 : w2.frozen? ⟨g, 1, none⟩ = false := (World.frozen?_of_block (a := ⟨g, 1, none⟩) eg).trans HY.out.2
  have hm23 : m ≤ 1023 := by have := HMM.out; omega
  have hwn : IntKind.i64.wrap (n + ((m : Int) + 1)) = n + ((m : Int) + 1) := Go.IntWalk.i64_in _ ⟨by omega, by omega⟩
  clear e2b e2g eb eg k0 k1 l0 HST HS1 HS2 hix0 hix1 hix2 hix3 hwr
  have hgb : g ≠ b := fun e => hbg e.symm
  go_wp2_with fail
  go_region
  obtain ⟨w3, hw3⟩ : ∃ w3, w3 = ((w2.setCell ⟨b, o, none⟩ (.int .u64 lh)).setCell ⟨b, o + 1, none⟩ (.int .i64 (n + ((m : Int) + 1)))).drew := ⟨_, rfl⟩
  rw [← hw3]
  have p0 : w3.cell? ⟨g, 0, none⟩ = some (.int .u64 (lh : Nat)) := by
    rw [hw3]
    show ((w2.setCell _ _).setCell _ _).cell? _ = _
    rw [World.cell?_setCell_other _ _ _ _ (by simp [hgb]), World.cell?_setCell_other _ _ _ _ (by simp [hgb])]
    exact n0'
  have p1 : w3.cell? ⟨g, 1, none⟩ = some (.int .i64 (L.length : Nat)) := by
    rw [hw3]
    show ((w2.setCell _ _).setCell _ _).cell? _ = _
    rw [World.cell?_setCell_other _ _ _ _ (by simp [hgb]), World.cell?_setCell_other _ _ _ _ (by simp [hgb])]
    exact n1'
  have s0 : w3.frozen? ⟨g, 0, none⟩ = false := by
    rw [hw3]
    show ((w2.setCell _ _).setCell _ _).frozen? _ = _
    simpa using r0
  have s1 : w3.frozen? ⟨g, 1, none⟩ = false := by
    rw [hw3]
    show ((w2.setCell _ _).setCell _ _).frozen? _ = _
    simpa using r1
  have HW3 := Lib.hid hw3
  clear hw3 m0 m1 n0' n1' q0 q1 r0 r1 hwn
  go_wp2_with fail
  go_ret
  refine ⟨rfl, w2, ⟨HO2.out.gr.os.trans HB1.out.os, HO2.out.gr.tape.trans HB1.out.tape, HO2.out.gr.output.trans HB1.out.output, Nat.le_trans HB1.out.size HO2.out.gr.size, fun k hk hx => (HO2.out.gr.block k (Nat.lt_of_lt_of_le hk HB1.out.size) hx).trans (HW.out k hk)⟩, ?_, ?_⟩
  · rw [HLL.out.1]
    exact HM2.out
  · rw [HW3.out, HMM.out]
    rfl
end Go.Proofs.YtbljphaklciinaaGreat
