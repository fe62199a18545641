/- StackMoves, walked. -/
import Derived.Test.YtpddlnedaleblaaBytes
import Derived.Test.YtpddlnedaleblaaPairs
namespace Go.Proofs.Ytpddlnedaleblaa
open Go.ChangeShapes Go.WideShapes Go.RowKit

theorem stopAt {p : Prop} (h : Hid p) : p := h

/-- Acts that came in. -/
def Acts13 (W : World) (A : Option Addr) (n : Nat) (K P Q : Nat → Int) : Prop := ∀ i, i < n → ∃ g off, A = some ⟨g, off, none⟩ ∧ g < W.heap.size ∧ W.cell? ⟨g, off + i * 3, none⟩ = some (.int .i64 (K i)) ∧
  W.cell? ⟨g, off + i * 3 + 1, none⟩ = some (.int .i64 (P i)) ∧ W.cell? ⟨g, off + i * 3 + 2, none⟩ = some (.int .i64 (Q i))

set_option maxHeartbeats 400000 in
theorem pushM_arg (w : World) (b o : Nat) (p : Int) (hp : ¬ (0 ≤ p ∧ p < 64)) : Calls Try.prog 39 #[.pointer (some ⟨b, o, none⟩), .int .i64 p] w fun e w' => e = .returned (.tuple #[.pointer none, .int .i64 2]) ∧ w = w' := by
  have HP := Lib.hid hp
  clear hp
  go_enter Try.func39, Try.ntmps39
  go_wp2_with fail
  (with_reducible refine (is_any _ _).mono ?_)
  rintro e w1 ⟨rfl, rfl⟩
  rw [show decide (0 ≤ p ∧ p < 64) = false from decide_eq_false HP.out]
  go_wp2_with fail
  go_ret2
  exact ⟨rfl, rfl⟩

set_option maxHeartbeats 400000 in
theorem new13 (w : World) : Calls Try.prog 49 #[] w fun e w' => e = .returned (.pointer (some ⟨w.heap.size, 0, none⟩)) ∧ w' = w.alloc (.cells Try.zeroCells101 101) := by
  go_enter Try.func49, Try.ntmps49
  go_wp2_with fail
  go_ret
  exact ⟨rfl, rfl⟩

theorem rzero : Try.zeroCells101[0]? = some (.slice none 0 0) ∧ Try.zeroCells101[1]? = some (.int .u64 0) ∧ Try.zeroCells101[2]? = some (.int .i64 0) := ⟨by kernel_rfl, by kernel_rfl, by kernel_rfl⟩
theorem RStk.new (w : World) : RStk (w.alloc (.cells Try.zeroCells101 101)) w.heap.size ⟨[], 0, 0⟩ none := by
  obtain ⟨z0, z1, z2⟩ := rzero
  refine ⟨⟨none, 0, ?_, by simp, by simp [maxLen], ⟨Reads.none_, fun _ e => by cases e⟩, rfl⟩, ?_, ?_, fun j hj => by simp, fun p hp => by simp at hp⟩
  all_goals rw [World.cell?_alloc_new]
  · exact z0
  · exact z1
  · exact z2

theorem PSt.drewN {W w : World} {b so : Nat} {s : Stk} {a : Option Nat} {v : Value} {ms rs : List Nat} {vs : List Mv} (H : PSt W w b so s a v ms rs vs) (k : Nat) : PSt W (w.drewN k) b so s a v ms rs vs :=
  H.of_below ⟨rfl, rfl, rfl, Nat.le_refl _, fun _ _ => rfl⟩

theorem same_two2 (w : World) {b1 b2 : Nat} {A1 A2 : Option Addr} {n1 c1 n2 c2 : Nat} {l1 l2 : List Int} (h1 : SArg w b1 A1 n1 l1) (h2 : SArg w b2 A2 n2 l2) (hn1 : n1 ≤ 1000000) (hn2 : n2 ≤ 1000000) :
    Calls Try.prog 35 #[.slice A1 n1 c1, .slice A2 n2 c2] w fun e w' => e = .returned (.bool (decide (l1 = l2))) ∧ Below w.heap.size w w' :=
  (same_any w _ _ A1 A2 n1 c1 n2 c2 l1 l2 h1.row h2.row (fun ad _ e => (h1.ap ad e).1) (fun ad _ e => (h2.ap ad e).1) (by omega) (by omega)).mono fun _ _ ⟨h, k, e⟩ => ⟨h, by subst e; exact ⟨rfl, rfl, rfl, Nat.le_refl _, fun _ _ => rfl⟩⟩

theorem PSt.new {W w1 : World} (B : Below W.heap.size W w1) : PSt W ((w1.alloc (.cells Try.zeroCells71 71)).alloc (.cells Try.zeroCells101 101)) w1.heap.size (w1.heap.size + 1) ⟨[], 0, 0⟩ none (.slice none 0 0) [] [] [] := by
  have s0 := SSt.new B
  have r0 := RStk.new (w1.alloc (.cells Try.zeroCells71 71))
  have hsz : (w1.alloc (.cells Try.zeroCells71 71)).heap.size = w1.heap.size + 1 := by simp
  rw [hsz] at r0
  have hW := B.size
  refine ⟨s0.of_below ((Below.refl _ _).alloc (Nat.le_refl _) _), r0, ⟨rfl, .inl ⟨rfl, rfl⟩⟩, rfl, rfl, fun j m u h => by simp at h, fun j m u h => by simp at h, by simp, fun k hk => ?_, fun k e => by cases e⟩
  simp at hk
  rcases hk with rfl | rfl
  · exact ⟨hW, by simp; omega, by simp [Value.ownBlock], by simp⟩
  · exact ⟨by omega, by simp, by simp [Value.ownBlock], by simp⟩

theorem Reads.new2 (w : World) (u v : Value) (T : TypeId) : Reads (w.alloc (.cells #[u, v] T)) (w.alloc (.cells #[u, v] T)).heap.size 2 (some ⟨w.heap.size, 0, none⟩) 1 [u, v] := by
  refine ⟨rfl, fun _ => ⟨_, rfl, by simp, fun j x hx => ?_⟩⟩
  have e : (⟨w.heap.size, 0, none⟩ : Addr).add j = ⟨w.heap.size, j, none⟩ := by
    unfold Addr.add
    split
    · rename_i h; simp [h]
    · simp
  rw [e, World.cell?_alloc_new]
  simpa using hx
theorem pair_reads (w : World) (R : Obj) (u v : Value) (T : TypeId) : Reads ((w.alloc R).alloc (.cells #[u, v] T)) ((w.alloc R).alloc (.cells #[u, v] T)).heap.size 2 (some ⟨w.heap.size + 1, 0, none⟩) 1 [u, v] := by
  have h := Reads.new2 (w.alloc R) u v T
  have e : (w.alloc R).heap.size = w.heap.size + 1 := by simp
  rwa [e] at h
theorem below_chain {w w1 w2 : World} (h : Below w1.heap.size w1 w2) (h1 : Below w.heap.size w w1) : Below w.heap.size w w2 := h1.trans (h.mono h1.size)
theorem own_new {w : World} {v v' : Value} (h : v'.ownBlock = v.ownBlock ∨ v'.ownBlock = some w.heap.size) : v'.ownBlock = v.ownBlock ∨ ∃ k, v'.ownBlock = some k ∧ w.heap.size ≤ k := by
  rcases h with h | h
  · exact .inl h
  · exact .inr ⟨_, h, Nat.le_refl _⟩
theorem AllOk.add {vs : List Mv} {s : Stk} {u : Mv} (h : AllOk vs s) (hu : MvOk u s ∧ TagOk u s) : AllOk (vs ++ [u]) s := fun x hx => by
  rcases List.mem_append.1 hx with hx | hx
  · exact h x hx
  · simp at hx; subst hx; exact hu

def MRel (W wr : World) (b so k : Nat) (v : Value) : Prop := ∃ (s : Stk) (a : Option Nat) (v0 : Value) (ms rs : List Nat) (vs : List Mv), v = v0 ∧ ms.length ≤ k ∧ 0 ≤ s.n ∧ s.n ≤ k ∧ 0 ≤ s.t ∧ s.t ≤ k ∧ Hid (AllOk vs s) ∧ Hid (PSt W wr b so s a v0 ms rs vs)

set_option maxRecDepth 100000 in
set_option maxHeartbeats 16000000 in
theorem moves_walk (W : World) (A : Option Addr) (n c : Nat) (K P Q : Nat → Int) (hf : Acts13 W A n K P Q) (hn : n ≤ c) (hc : c ≤ maxLen) :
    Calls Try.prog 13 #[.slice A n c] W (TrueBelow W) := by
  have HF := Lib.hid hf
  have hm : c < 9223372036854775808 := by unfold maxLen at hc; omega
  clear hf hc
  obtain ⟨i0, hi0, hz0, hz1, hz2⟩ := info_parts info_pair
  go_enter Try.func13, Try.ntmps13
  go_wp2_with fail
  (with_reducible refine (alive13 W).mono ?_)
  rintro e w1 ⟨rfl, B1⟩
  by_cases hbig : 200 < n
  · go_wp2_with fail
    go_ret
    exact ⟨rfl, B1⟩
  · have p0 := PSt.new B1
    clear B1
    go_wp2_with fail
    (with_reducible refine (new13 _).mono ?_)
    rintro e w2 ⟨rfl, hw2⟩
    rw [← hw2] at p0
    have P0 := Lib.hid p0
    clear hw2 p0
    go_wp2_with fail
    obtain ⟨b, hb⟩ : ∃ b, b = w1.heap.size := ⟨_, rfl⟩
    obtain ⟨so, hso⟩ : ∃ so, so = w1.heap.size + 1 := ⟨_, rfl⟩
    rw [← hso, ← hb] at P0
    rw [← hso, ← hb]
    clear hb hso
    go_loopw [5, 23] (fun v i wr => ∃ k : Nat, k ≤ n ∧ i = .int .i64 k ∧ MRel W wr b so k v) (fun _ i _ => n - (intOf i).toNat)
    case atStart => exact ⟨0, by omega, rfl, ⟨[], 0, 0⟩, none, _, [], [], [], rfl, by decide, by decide, by decide, by decide, by decide, (fun u hu => by simp at hu), P0.out⟩
    case round =>
      clear P0
      obtain ⟨k, hk, rfl, s, a, v0, ms, rs, vs, rfl, hml, n0, n1, t0, t1, HA, HS⟩ := hrel
      by_cases hlt : k < n
      · obtain ⟨g, off, rfl, hg, h0', h1', h2'⟩ := HF.out k hlt
        have h0 := (HS.out.st.below.cell (p := ⟨g, off + k * 3, none⟩) hg).trans h0'
        have h1 := (HS.out.st.below.cell (p := ⟨g, off + k * 3 + 1, none⟩) hg).trans h1'
        have h2 := (HS.out.st.below.cell (p := ⟨g, off + k * 3 + 2, none⟩) hg).trans h2'
        clear h0' h1' h2'
        generalize K k = kk at *
        generalize P k = p at *
        generalize Q k = q at *
        obtain ⟨wa, hwa⟩ : ∃ wa, wa = wr.alloc (.cells #[.int .i64 kk, .int .i64 p, .int .i64 q] 94) := ⟨_, rfl⟩
        obtain ⟨d, hd⟩ : ∃ d, d = wr.heap.size := ⟨_, rfl⟩
        have BA : Below wr.heap.size wr wa := by rw [hwa]; exact (Below.refl _ _).alloc (Nat.le_refl _) _
        have HSA := Lib.hid (HS.out.of_below BA)
        have X1 : Hid (wa.cell? ⟨d, 1, none⟩ = some (.int .i64 p)) := by show _ = _; rw [hwa, hd, World.cell?_alloc_new]; rfl
        have X2 : Hid (wa.cell? ⟨d, 2, none⟩ = some (.int .i64 q)) := by show _ = _; rw [hwa, hd, World.cell?_alloc_new]; rfl
        have HDA : d < wa.heap.size := by rw [hwa, hd]; simp
        have HWA : Hid (wr.alloc (.cells #[.int .i64 kk, .int .i64 p, .int .i64 q] 94) = wa) := hwa.symm
        have HD : Hid (wr.heap.size = d) := hd.symm
        clear hwa hd BA HS
        have HPV := Lib.hid HSA.out.slice
        by_cases hk0 : kk = 0
        · have e0 : (kk == 0) = true := by simpa using hk0
          clear hk0
          by_cases hpr : 0 ≤ p ∧ p < 64
          · obtain ⟨hp0, hp1⟩ := hpr
            have hpr : 0 ≤ p ∧ p < 64 := ⟨hp0, hp1⟩
            go_wp2_with fail
            rw [HWA.out, HD.out]
            clear h0 h1 h2 HWA
            (with_reducible refine (pushL HSA.out.st p hpr).mono ?_)
            rintro e w3 ⟨m, rfl, hm0, hmm, hwm, s1, m1, b1⟩
            have HM0 := Lib.hid hm0
            have M1 := Lib.hid m1
            have B1 := Lib.hid b1
            have hsz3 : wa.heap.size ≤ w3.heap.size := b1.size
            have x1 := (b1.cell (p := ⟨d, 1, none⟩) HDA).trans X1.out
            clear s1 m1 b1 hm0
            have HP3 := Lib.hid (HSA.out.of_below B1.out)
            go_wp2_with (first | (at_builtin; refine stopAt ?_))
            show wpList _ _ _ _ _ _
            have BR : Below w3.heap.size w3 ((w3.alloc (.cells #[.pointer (some ⟨so, 0, none⟩), .int .i64 p, .int .i64 0, .int .u64 0, .bool false, .bool false, .bool false] 97)).alloc (.cells #[mptr m, mptr w3.heap.size] 99)) := ((Below.refl _ _).alloc (Nat.le_refl _) _).alloc (by simp) _
            have RM := (MoveAt.new w3 so 0 (pushV p) 97).of_below ((Below.refl _ _).alloc (Nat.le_refl _) (.cells #[mptr m, mptr w3.heap.size] 99))
            have HB3 := Lib.hid BR
            have HRM := Lib.hid RM
            have HOW := Lib.hid (own2_of_block HP3.out.own (fun k e => BR.block k (HP3.out.own.lt k e).2))
            clear BR RM
            refine wpList_append_any _ rfl (.tmp 53) (.tmp 61) _ rfl W.heap.size 99 i0 _ 2 16 Try.underlying92 hi0 hz0 hz1 hz2 rfl (by omega) _ ms.length (flat ms rs) rfl
              HOW.out _ _ 1 1 [mptr m, mptr w3.heap.size] rfl (pair_reads _ _ _ _ _) (fun u hu => by simp at hu; rcases hu with rfl | rfl <;> rfl) (by simp only [maxLen]; omega) (by omega) (by have := HP3.out.st.below.size; simp; omega) ?_
            intro v6 w6 hown6 hg6 hat6
            have HT : Hid (MRel W w6 b so (k + 1) v6) := ⟨s, a, v6, ms ++ [m], rs ++ [w3.heap.size], vs ++ [pushV p], rfl, by simp; omega, n0, by omega, t0, by omega, HA.out.add ⟨ok_push hpr s, fun h => by simp [pushV] at h⟩,
              HSA.out.add (below_chain HB3.out B1.out) (Nat.le_of_eq HM0.out.symm) hsz3 (by have := Obj_.lt M1.out (by omega); omega) (M1.out.of_below HB3.out) HRM.out hown6 hg6 (own_new hat6)⟩
            clear hown6 hg6 hat6 HOW HRM HB3 HP3 M1 B1 HSA
            obtain ⟨s', a', v0', ms', rs', vs', hv6, hml', n0', n1', t0', t1', HA', HP'⟩ := HT.out
            subst hv6
            obtain ⟨Av, cv, hv⟩ := HP'.out.slice
            subst hv
            clear HT
            go_wp2_with fail
            go_loopw [14, 103] (fun _ i wl => ∃ j : Nat, j ≤ ms'.length ∧ i = .int .i64 j ∧ Hid (PSt W wl b so s' a' (.slice Av ms'.length cv) ms' rs' vs')) (fun _ i _ => ms'.length - (intOf i).toNat)
            case atStart => exact ⟨0, by omega, rfl, HP'⟩
            case round =>
              clear HP'
              obtain ⟨j, hj, rfl, HP'⟩ := hrel
              by_cases hjt : j < ms'.length
              · obtain ⟨gv, cv', m', r', u', hve, hm', hr', hu', hc1, hc2, hM, hR, hmb', hrs', hWm'⟩ := HP'.out.get hjt
                injection hve with hve1 hve2 hve3
                subst hve1 hve3
                have BX : Below wr.heap.size wr (wr.alloc (.cells #[mptr m', mptr r'] 99)) := (Below.refl _ _).alloc (Nat.le_refl _) _
                have HPX := Lib.hid (HP'.out.of_below BX)
                have HMX := Lib.hid (hM.of_below BX)
                have hRX := hR.of_below BX
                obtain ⟨r0, r1, r2, r3, r4, r5, r6⟩ := hRX.cells
                have X0 : Hid ((wr.alloc (.cells #[mptr m', mptr r'] 99)).cell? ⟨wr.heap.size, 0, none⟩ = some (mptr m')) := by show _ = _; rw [World.cell?_alloc_new]; rfl
                have X1' : Hid ((wr.alloc (.cells #[mptr m', mptr r'] 99)).cell? ⟨wr.heap.size, 1, none⟩ = some (mptr r')) := by show _ = _; rw [World.cell?_alloc_new]; rfl
                clear hM hR hRX r0 r2 r3 r4 r5 BX hm' hr' hu' hve2
                go_wp2_with fail
                obtain ⟨wx, hwx⟩ : ∃ wx, wx = wr.alloc (.cells #[mptr m', mptr r'] 99) := ⟨_, rfl⟩
                rw [← hwx] at HPX HMX r1 r6 X0 X1'
                unfold mptr at hwx
                rw [← hwx]
                obtain ⟨dx, hdx⟩ : ∃ dx, dx = wr.heap.size := ⟨_, rfl⟩
                rw [← hdx] at X0 X1'
                rw [← hdx]
                have x0 : wx.cell? ⟨dx, 0, none⟩ = some (.pointer (some ⟨m', 0, none⟩)) := X0.out
                have x1' : wx.cell? ⟨dx, 1, none⟩ = some (.pointer (some ⟨r', 0, none⟩)) := X1'.out
                have HMP : Hid (∀ z, Calls Try.prog 43 #[.pointer (some ⟨m', 0, none⟩)] (wx.drewN z) fun e w' => e = .returned (.bool u'.over) ∧ w' = wx.drewN z) := fun z => (done_any (Obj_.drewN HMX.out z)).mono fun _ _ h => ⟨h.1, h.2.symm⟩
                have HMQ : Hid (∀ z, Calls Try.prog 44 #[.pointer (some ⟨m', 0, none⟩)] (wx.drewN z) fun e w' => e = .returned (.int .i64 u'.place) ∧ w' = wx.drewN z) := fun z => (place_any (Obj_.drewN HMX.out z)).mono fun _ _ h => ⟨h.1, h.2.symm⟩
                clear hwx hdx hc1 hc2 X0 X1' HP'
                generalize u'.over = ov at *
                generalize u'.place = pl at *
                have q0 : (ov != ov) = false := by simp
                have q1 : (pl != pl) = false := by simp
                go_quiet ((first | (go_at_call 43; exact Calls.quiet_of_same (HMP.out _)) | (go_at_call 44; exact Calls.quiet_of_same (HMQ.out _))))
                go_wp2_with fail
                go_roundw
                case rel => exact ⟨j + 1, by omega, by go_num, HPX.out.drewN _⟩
                case measure => simp [intOf]; omega
              · obtain rfl : j = ms'.length := by omega
                go_wp2_with fail
                obtain ⟨Ao, co, o0, hlo, _, ro, _⟩ := HP'.out.rf.row
                have o2 := HP'.out.rf.ask
                have RO := Lib.hid ro
                have hL64 : s'.L.length ≤ 64 := StackAt.len (L := s'.L) (t := s'.t) (n := s'.n) HP'.out.st.at_
                have SD : Hid (SSt W wr.drew b s') := HP'.out.st.of_below ⟨rfl, rfl, rfl, Nat.le_refl _, fun _ _ => rfl⟩
                have hsol : so < wr.heap.size := HP'.out.rf.lt
                have KB : Hid (∀ w', Below wr.heap.size wr w' → w'.cell? ⟨so, 0, none⟩ = some (.slice Ao s'.L.length co) ∧ w'.cell? ⟨so, 2, none⟩ = some (.int .i64 s'.n)) := fun w' h => ⟨(h.cell (p := ⟨so, 0, none⟩) hsol).trans o0, (h.cell (p := ⟨so, 2, none⟩) hsol).trans o2⟩
                have q3 : (s'.n != s'.n) = false := by simp
                have BE : Hid (∀ w', Below wr.drew.heap.size wr.drew w' → Below wr.heap.size wr w') := fun w' h => ⟨h.os, h.tape, h.output, h.size, h.block⟩
                clear ro
                go_region_held3 (fun w' => w'.cell? ⟨so, 0, none⟩ = some (.slice Ao s'.L.length co) ∧ w'.cell? ⟨so, 2, none⟩ = some (.int .i64 s'.n))
                  (first | exact ⟨o0, o2⟩ | exact KA.out | exact KS.out | exact KQ.out | go_keep | fail)
                  (first
                    | (go_at_call 41; (with_reducible refine (all_of SD.out).mono ?_); rintro e wA ⟨Aa, ca, rfl, sA, bA, rA, _⟩; have SA := Lib.hid sA; have RA := Lib.hid rA; have BA1 := Lib.hid (BE.out _ bA); have KA := Lib.hid (KB.out _ BA1.out); have RB := Lib.hid (RO.out.below BA1.out); clear sA bA rA)
                    | (go_at_call 35; (with_reducible refine (same_two2 _ RA.out RB.out (by omega) (by omega)).mono ?_); rintro e wS ⟨rfl, bS⟩; rw [show decide (s'.L = s'.L) = true by simp]; have SS := Lib.hid (SA.out.of_below bS); have BS1 := Lib.hid (below_chain bS BA1.out); have KS := Lib.hid (KB.out _ BS1.out); clear bS)
                    | (go_at_call 51; (with_reducible refine (cell_ptr _ b 0).mono ?_); rintro e wC ⟨rfl, rfl⟩)
                    | (go_at_call 28; (with_reducible refine (asked_law SS.out n0' (by omega) _).mono ?_); rintro e wQ ⟨rfl, sQ, bQ⟩; have BQ1 := Lib.hid (below_chain bQ BS1.out); have KQ := Lib.hid (KB.out _ BQ1.out); clear sQ bQ)
                    | fail)
                have HPQ := Lib.hid (HP'.out.of_below BQ1.out)
                clear KA KS KQ SA SS RA RB BA1 BS1 HP' SD KB BE o0 o2
                go_wp2_with fail
                go_roundw
                case rel => exact ⟨k + 1, by omega, by go_num, s', a', _, ms', rs', vs', rfl, hml', n0', n1', t0', t1', HA', HPQ⟩
                case measure => simp [intOf]; omega
          · go_wp2_with fail
            rw [HWA.out, HD.out]
            clear h0 h1 h2 HWA
            (with_reducible refine (pushM_arg _ b 0 p hpr).mono ?_)
            rintro e w3 ⟨rfl, rfl⟩
            have x1 := X1.out
            have HT : Hid (MRel W wa b so (k + 1) u5) := ⟨s, a, _, ms, rs, vs, rfl, by omega, n0, by omega, t0, by omega, HA, HSA.out⟩
            have hpr' : p < 0 ∨ 63 < p := by omega
            clear HSA
            obtain ⟨Av0, cv0, hv0⟩ := HPV.out
            subst hv0
            rcases hpr' with hp0 | hp0
            · have hp1 : ¬ 63 < p := by omega
              obtain ⟨s', a', v0', ms', rs', vs', hv6, hml', n0', n1', t0', t1', HA', HP'⟩ := HT.out
              subst hv6
              obtain ⟨Av, cv, hv⟩ := HP'.out.slice
              have e2' : ms.length = ms'.length := by injection hv
              rw [hv] at HP' ⊢
              try rw [e2']
              clear hv e2' HT
              go_wp2_with fail
              go_loopw [14, 103] (fun _ i wl => ∃ j : Nat, j ≤ ms'.length ∧ i = .int .i64 j ∧ Hid (PSt W wl b so s' a' (.slice Av ms'.length cv) ms' rs' vs')) (fun _ i _ => ms'.length - (intOf i).toNat)
              case atStart => exact ⟨0, by omega, rfl, HP'⟩
              case round =>
                clear HP'
                obtain ⟨j, hj, rfl, HP'⟩ := hrel
                by_cases hjt : j < ms'.length
                · obtain ⟨gv, cv', m', r', u', hve, hm', hr', hu', hc1, hc2, hM, hR, hmb', hrs', hWm'⟩ := HP'.out.get hjt
                  injection hve with hve1 hve2 hve3
                  subst hve1 hve3
                  have BX : Below wr.heap.size wr (wr.alloc (.cells #[mptr m', mptr r'] 99)) := (Below.refl _ _).alloc (Nat.le_refl _) _
                  have HPX := Lib.hid (HP'.out.of_below BX)
                  have HMX := Lib.hid (hM.of_below BX)
                  have hRX := hR.of_below BX
                  obtain ⟨r0, r1, r2, r3, r4, r5, r6⟩ := hRX.cells
                  have X0 : Hid ((wr.alloc (.cells #[mptr m', mptr r'] 99)).cell? ⟨wr.heap.size, 0, none⟩ = some (mptr m')) := by show _ = _; rw [World.cell?_alloc_new]; rfl
                  have X1' : Hid ((wr.alloc (.cells #[mptr m', mptr r'] 99)).cell? ⟨wr.heap.size, 1, none⟩ = some (mptr r')) := by show _ = _; rw [World.cell?_alloc_new]; rfl
                  clear hM hR hRX r0 r2 r3 r4 r5 BX hm' hr' hu' hve2
                  go_wp2_with fail
                  obtain ⟨wx, hwx⟩ : ∃ wx, wx = wr.alloc (.cells #[mptr m', mptr r'] 99) := ⟨_, rfl⟩
                  rw [← hwx] at HPX HMX r1 r6 X0 X1'
                  unfold mptr at hwx
                  rw [← hwx]
                  obtain ⟨dx, hdx⟩ : ∃ dx, dx = wr.heap.size := ⟨_, rfl⟩
                  rw [← hdx] at X0 X1'
                  rw [← hdx]
                  have x0 : wx.cell? ⟨dx, 0, none⟩ = some (.pointer (some ⟨m', 0, none⟩)) := X0.out
                  have x1' : wx.cell? ⟨dx, 1, none⟩ = some (.pointer (some ⟨r', 0, none⟩)) := X1'.out
                  have HMP : Hid (∀ z, Calls Try.prog 43 #[.pointer (some ⟨m', 0, none⟩)] (wx.drewN z) fun e w' => e = .returned (.bool u'.over) ∧ w' = wx.drewN z) := fun z => (done_any (Obj_.drewN HMX.out z)).mono fun _ _ h => ⟨h.1, h.2.symm⟩
                  have HMQ : Hid (∀ z, Calls Try.prog 44 #[.pointer (some ⟨m', 0, none⟩)] (wx.drewN z) fun e w' => e = .returned (.int .i64 u'.place) ∧ w' = wx.drewN z) := fun z => (place_any (Obj_.drewN HMX.out z)).mono fun _ _ h => ⟨h.1, h.2.symm⟩
                  clear hwx hdx hc1 hc2 X0 X1' HP'
                  generalize u'.over = ov at *
                  generalize u'.place = pl at *
                  have q0 : (ov != ov) = false := by simp
                  have q1 : (pl != pl) = false := by simp
                  go_quiet ((first | (go_at_call 43; exact Calls.quiet_of_same (HMP.out _)) | (go_at_call 44; exact Calls.quiet_of_same (HMQ.out _))))
                  go_wp2_with fail
                  go_roundw
                  case rel => exact ⟨j + 1, by omega, by go_num, HPX.out.drewN _⟩
                  case measure => simp [intOf]; omega
                · obtain rfl : j = ms'.length := by omega
                  go_wp2_with fail
                  obtain ⟨Ao, co, o0, hlo, _, ro, _⟩ := HP'.out.rf.row
                  have o2 := HP'.out.rf.ask
                  have RO := Lib.hid ro
                  have hL64 : s'.L.length ≤ 64 := StackAt.len (L := s'.L) (t := s'.t) (n := s'.n) HP'.out.st.at_
                  have SD : Hid (SSt W wr.drew b s') := HP'.out.st.of_below ⟨rfl, rfl, rfl, Nat.le_refl _, fun _ _ => rfl⟩
                  have hsol : so < wr.heap.size := HP'.out.rf.lt
                  have KB : Hid (∀ w', Below wr.heap.size wr w' → w'.cell? ⟨so, 0, none⟩ = some (.slice Ao s'.L.length co) ∧ w'.cell? ⟨so, 2, none⟩ = some (.int .i64 s'.n)) := fun w' h => ⟨(h.cell (p := ⟨so, 0, none⟩) hsol).trans o0, (h.cell (p := ⟨so, 2, none⟩) hsol).trans o2⟩
                  have q3 : (s'.n != s'.n) = false := by simp
                  have BE : Hid (∀ w', Below wr.drew.heap.size wr.drew w' → Below wr.heap.size wr w') := fun w' h => ⟨h.os, h.tape, h.output, h.size, h.block⟩
                  clear ro
                  go_region_held3 (fun w' => w'.cell? ⟨so, 0, none⟩ = some (.slice Ao s'.L.length co) ∧ w'.cell? ⟨so, 2, none⟩ = some (.int .i64 s'.n))
                    (first | exact ⟨o0, o2⟩ | exact KA.out | exact KS.out | exact KQ.out | go_keep | fail)
                    (first
                      | (go_at_call 41; (with_reducible refine (all_of SD.out).mono ?_); rintro e wA ⟨Aa, ca, rfl, sA, bA, rA, _⟩; have SA := Lib.hid sA; have RA := Lib.hid rA; have BA1 := Lib.hid (BE.out _ bA); have KA := Lib.hid (KB.out _ BA1.out); have RB := Lib.hid (RO.out.below BA1.out); clear sA bA rA)
                      | (go_at_call 35; (with_reducible refine (same_two2 _ RA.out RB.out (by omega) (by omega)).mono ?_); rintro e wS ⟨rfl, bS⟩; rw [show decide (s'.L = s'.L) = true by simp]; have SS := Lib.hid (SA.out.of_below bS); have BS1 := Lib.hid (below_chain bS BA1.out); have KS := Lib.hid (KB.out _ BS1.out); clear bS)
                      | (go_at_call 51; (with_reducible refine (cell_ptr _ b 0).mono ?_); rintro e wC ⟨rfl, rfl⟩)
                      | (go_at_call 28; (with_reducible refine (asked_law SS.out n0' (by omega) _).mono ?_); rintro e wQ ⟨rfl, sQ, bQ⟩; have BQ1 := Lib.hid (below_chain bQ BS1.out); have KQ := Lib.hid (KB.out _ BQ1.out); clear sQ bQ)
                      | fail)
                  have HPQ := Lib.hid (HP'.out.of_below BQ1.out)
                  clear KA KS KQ SA SS RA RB BA1 BS1 HP' SD KB BE o0 o2
                  go_wp2_with fail
                  go_roundw
                  case rel => exact ⟨k + 1, by omega, by go_num, s', a', _, ms', rs', vs', rfl, hml', n0', n1', t0', t1', HA', HPQ⟩
                  case measure => simp [intOf]; omega
            · have hp1 : ¬ p < 0 := by omega
              obtain ⟨s', a', v0', ms', rs', vs', hv6, hml', n0', n1', t0', t1', HA', HP'⟩ := HT.out
              subst hv6
              obtain ⟨Av, cv, hv⟩ := HP'.out.slice
              have e2' : ms.length = ms'.length := by injection hv
              rw [hv] at HP' ⊢
              try rw [e2']
              clear hv e2' HT
              go_wp2_with fail
              go_loopw [14, 103] (fun _ i wl => ∃ j : Nat, j ≤ ms'.length ∧ i = .int .i64 j ∧ Hid (PSt W wl b so s' a' (.slice Av ms'.length cv) ms' rs' vs')) (fun _ i _ => ms'.length - (intOf i).toNat)
              case atStart => exact ⟨0, by omega, rfl, HP'⟩
              case round =>
                clear HP'
                obtain ⟨j, hj, rfl, HP'⟩ := hrel
                by_cases hjt : j < ms'.length
                · obtain ⟨gv, cv', m', r', u', hve, hm', hr', hu', hc1, hc2, hM, hR, hmb', hrs', hWm'⟩ := HP'.out.get hjt
                  injection hve with hve1 hve2 hve3
                  subst hve1 hve3
                  have BX : Below wr.heap.size wr (wr.alloc (.cells #[mptr m', mptr r'] 99)) := (Below.refl _ _).alloc (Nat.le_refl _) _
                  have HPX := Lib.hid (HP'.out.of_below BX)
                  have HMX := Lib.hid (hM.of_below BX)
                  have hRX := hR.of_below BX
                  obtain ⟨r0, r1, r2, r3, r4, r5, r6⟩ := hRX.cells
                  have X0 : Hid ((wr.alloc (.cells #[mptr m', mptr r'] 99)).cell? ⟨wr.heap.size, 0, none⟩ = some (mptr m')) := by show _ = _; rw [World.cell?_alloc_new]; rfl
                  have X1' : Hid ((wr.alloc (.cells #[mptr m', mptr r'] 99)).cell? ⟨wr.heap.size, 1, none⟩ = some (mptr r')) := by show _ = _; rw [World.cell?_alloc_new]; rfl
                  clear hM hR hRX r0 r2 r3 r4 r5 BX hm' hr' hu' hve2
                  go_wp2_with fail
                  obtain ⟨wx, hwx⟩ : ∃ wx, wx = wr.alloc (.cells #[mptr m', mptr r'] 99) := ⟨_, rfl⟩
                  rw [← hwx] at HPX HMX r1 r6 X0 X1'
                  unfold mptr at hwx
                  rw [← hwx]
                  obtain ⟨dx, hdx⟩ : ∃ dx, dx = wr.heap.size := ⟨_, rfl⟩
                  rw [← hdx] at X0 X1'
                  rw [← hdx]
                  have x0 : wx.cell? ⟨dx, 0, none⟩ = some (.pointer (some ⟨m', 0, none⟩)) := X0.out
                  have x1' : wx.cell? ⟨dx, 1, none⟩ = some (.pointer (some ⟨r', 0, none⟩)) := X1'.out
                  have HMP : Hid (∀ z, Calls Try.prog 43 #[.pointer (some ⟨m', 0, none⟩)] (wx.drewN z) fun e w' => e = .returned (.bool u'.over) ∧ w' = wx.drewN z) := fun z => (done_any (Obj_.drewN HMX.out z)).mono fun _ _ h => ⟨h.1, h.2.symm⟩
                  have HMQ : Hid (∀ z, Calls Try.prog 44 #[.pointer (some ⟨m', 0, none⟩)] (wx.drewN z) fun e w' => e = .returned (.int .i64 u'.place) ∧ w' = wx.drewN z) := fun z => (place_any (Obj_.drewN HMX.out z)).mono fun _ _ h => ⟨h.1, h.2.symm⟩
                  clear hwx hdx hc1 hc2 X0 X1' HP'
                  generalize u'.over = ov at *
                  generalize u'.place = pl at *
                  have q0 : (ov != ov) = false := by simp
                  have q1 : (pl != pl) = false := by simp
                  go_quiet ((first | (go_at_call 43; exact Calls.quiet_of_same (HMP.out _)) | (go_at_call 44; exact Calls.quiet_of_same (HMQ.out _))))
                  go_wp2_with fail
                  go_roundw
                  case rel => exact ⟨j + 1, by omega, by go_num, HPX.out.drewN _⟩
                  case measure => simp [intOf]; omega
                · obtain rfl : j = ms'.length := by omega
                  go_wp2_with fail
                  obtain ⟨Ao, co, o0, hlo, _, ro, _⟩ := HP'.out.rf.row
                  have o2 := HP'.out.rf.ask
                  have RO := Lib.hid ro
                  have hL64 : s'.L.length ≤ 64 := StackAt.len (L := s'.L) (t := s'.t) (n := s'.n) HP'.out.st.at_
                  have SD : Hid (SSt W wr.drew b s') := HP'.out.st.of_below ⟨rfl, rfl, rfl, Nat.le_refl _, fun _ _ => rfl⟩
                  have hsol : so < wr.heap.size := HP'.out.rf.lt
                  have KB : Hid (∀ w', Below wr.heap.size wr w' → w'.cell? ⟨so, 0, none⟩ = some (.slice Ao s'.L.length co) ∧ w'.cell? ⟨so, 2, none⟩ = some (.int .i64 s'.n)) := fun w' h => ⟨(h.cell (p := ⟨so, 0, none⟩) hsol).trans o0, (h.cell (p := ⟨so, 2, none⟩) hsol).trans o2⟩
                  have q3 : (s'.n != s'.n) = false := by simp
                  have BE : Hid (∀ w', Below wr.drew.heap.size wr.drew w' → Below wr.heap.size wr w') := fun w' h => ⟨h.os, h.tape, h.output, h.size, h.block⟩
                  clear ro
                  go_region_held3 (fun w' => w'.cell? ⟨so, 0, none⟩ = some (.slice Ao s'.L.length co) ∧ w'.cell? ⟨so, 2, none⟩ = some (.int .i64 s'.n))
                    (first | exact ⟨o0, o2⟩ | exact KA.out | exact KS.out | exact KQ.out | go_keep | fail)
                    (first
                      | (go_at_call 41; (with_reducible refine (all_of SD.out).mono ?_); rintro e wA ⟨Aa, ca, rfl, sA, bA, rA, _⟩; have SA := Lib.hid sA; have RA := Lib.hid rA; have BA1 := Lib.hid (BE.out _ bA); have KA := Lib.hid (KB.out _ BA1.out); have RB := Lib.hid (RO.out.below BA1.out); clear sA bA rA)
                      | (go_at_call 35; (with_reducible refine (same_two2 _ RA.out RB.out (by omega) (by omega)).mono ?_); rintro e wS ⟨rfl, bS⟩; rw [show decide (s'.L = s'.L) = true by simp]; have SS := Lib.hid (SA.out.of_below bS); have BS1 := Lib.hid (below_chain bS BA1.out); have KS := Lib.hid (KB.out _ BS1.out); clear bS)
                      | (go_at_call 51; (with_reducible refine (cell_ptr _ b 0).mono ?_); rintro e wC ⟨rfl, rfl⟩)
                      | (go_at_call 28; (with_reducible refine (asked_law SS.out n0' (by omega) _).mono ?_); rintro e wQ ⟨rfl, sQ, bQ⟩; have BQ1 := Lib.hid (below_chain bQ BS1.out); have KQ := Lib.hid (KB.out _ BQ1.out); clear sQ bQ)
                      | fail)
                  have HPQ := Lib.hid (HP'.out.of_below BQ1.out)
                  clear KA KS KQ SA SS RA RB BA1 BS1 HP' SD KB BE o0 o2
                  go_wp2_with fail
                  go_roundw
                  case rel => exact ⟨k + 1, by omega, by go_num, s', a', _, ms', rs', vs', rfl, hml', n0', n1', t0', t1', HA', HPQ⟩
                  case measure => simp [intOf]; omega
        · have e0 : (kk == 0) = false := by simpa using hk0
          by_cases hk1 : kk = 1
          · have e1 : (kk == 1) = true := by simpa using hk1
            clear hk0 hk1
            go_wp2_with fail
            rw [HWA.out, HD.out]
            clear h0 h1 h2 HWA
            (with_reducible refine (popL HSA.out.st).mono ?_)
            rintro e w3 ⟨m, rfl, hm0, hmm, hwm, s1, m1, b1⟩
            have HM0 := Lib.hid hm0
            have M1 := Lib.hid m1
            have B1 := Lib.hid b1
            have hsz3 : wa.heap.size ≤ w3.heap.size := b1.size
            clear s1 m1 b1 hm0
            have HP3 := Lib.hid (HSA.out.of_below B1.out)
            go_wp2_with (first | (at_builtin; refine stopAt ?_))
            show wpList _ _ _ _ _ _
            have BR : Below w3.heap.size w3 ((w3.alloc (.cells #[.pointer (some ⟨so, 0, none⟩), .int .i64 (-1), .int .i64 0, .int .u64 0, .bool true, .bool false, .bool false] 97)).alloc (.cells #[mptr m, mptr w3.heap.size] 99)) := ((Below.refl _ _).alloc (Nat.le_refl _) _).alloc (by simp) _
            have RM := (MoveAt.new w3 so 0 (popV) 97).of_below ((Below.refl _ _).alloc (Nat.le_refl _) (.cells #[mptr m, mptr w3.heap.size] 99))
            have HB3 := Lib.hid BR
            have HRM := Lib.hid RM
            have HOW := Lib.hid (own2_of_block HP3.out.own (fun k e => BR.block k (HP3.out.own.lt k e).2))
            clear BR RM
            refine wpList_append_any _ rfl (.tmp 73) (.tmp 79) _ rfl W.heap.size 99 i0 _ 2 16 Try.underlying92 hi0 hz0 hz1 hz2 rfl (by omega) _ ms.length (flat ms rs) rfl
              HOW.out _ _ 1 1 [mptr m, mptr w3.heap.size] rfl (pair_reads _ _ _ _ _) (fun u hu => by simp at hu; rcases hu with rfl | rfl <;> rfl) (by simp only [maxLen]; omega) (by omega) (by have := HP3.out.st.below.size; simp; omega) ?_
            intro v6 w6 hown6 hg6 hat6
            have HT : Hid (MRel W w6 b so (k + 1) v6) := ⟨s, a, v6, ms ++ [m], rs ++ [w3.heap.size], vs ++ [popV], rfl, by simp; omega, n0, by omega, t0, by omega, HA.out.add ⟨ok_pop s, fun h => by simp [popV] at h⟩,
              HSA.out.add (below_chain HB3.out B1.out) (Nat.le_of_eq HM0.out.symm) hsz3 (by have := Obj_.lt M1.out (by omega); omega) (M1.out.of_below HB3.out) HRM.out hown6 hg6 (own_new hat6)⟩
            clear hown6 hg6 hat6 HOW HRM HB3 HP3 M1 B1 HSA
            obtain ⟨s', a', v0', ms', rs', vs', hv6, hml', n0', n1', t0', t1', HA', HP'⟩ := HT.out
            subst hv6
            obtain ⟨Av, cv, hv⟩ := HP'.out.slice
            subst hv
            clear HT
            go_wp2_with fail
            go_loopw [14, 103] (fun _ i wl => ∃ j : Nat, j ≤ ms'.length ∧ i = .int .i64 j ∧ Hid (PSt W wl b so s' a' (.slice Av ms'.length cv) ms' rs' vs')) (fun _ i _ => ms'.length - (intOf i).toNat)
            case atStart => exact ⟨0, by omega, rfl, HP'⟩
            case round =>
              clear HP'
              obtain ⟨j, hj, rfl, HP'⟩ := hrel
              by_cases hjt : j < ms'.length
              · obtain ⟨gv, cv', m', r', u', hve, hm', hr', hu', hc1, hc2, hM, hR, hmb', hrs', hWm'⟩ := HP'.out.get hjt
                injection hve with hve1 hve2 hve3
                subst hve1 hve3
                have BX : Below wr.heap.size wr (wr.alloc (.cells #[mptr m', mptr r'] 99)) := (Below.refl _ _).alloc (Nat.le_refl _) _
                have HPX := Lib.hid (HP'.out.of_below BX)
                have HMX := Lib.hid (hM.of_below BX)
                have hRX := hR.of_below BX
                obtain ⟨r0, r1, r2, r3, r4, r5, r6⟩ := hRX.cells
                have X0 : Hid ((wr.alloc (.cells #[mptr m', mptr r'] 99)).cell? ⟨wr.heap.size, 0, none⟩ = some (mptr m')) := by show _ = _; rw [World.cell?_alloc_new]; rfl
                have X1' : Hid ((wr.alloc (.cells #[mptr m', mptr r'] 99)).cell? ⟨wr.heap.size, 1, none⟩ = some (mptr r')) := by show _ = _; rw [World.cell?_alloc_new]; rfl
                clear hM hR hRX r0 r2 r3 r4 r5 BX hm' hr' hu' hve2
                go_wp2_with fail
                obtain ⟨wx, hwx⟩ : ∃ wx, wx = wr.alloc (.cells #[mptr m', mptr r'] 99) := ⟨_, rfl⟩
                rw [← hwx] at HPX HMX r1 r6 X0 X1'
                unfold mptr at hwx
                rw [← hwx]
                obtain ⟨dx, hdx⟩ : ∃ dx, dx = wr.heap.size := ⟨_, rfl⟩
                rw [← hdx] at X0 X1'
                rw [← hdx]
                have x0 : wx.cell? ⟨dx, 0, none⟩ = some (.pointer (some ⟨m', 0, none⟩)) := X0.out
                have x1' : wx.cell? ⟨dx, 1, none⟩ = some (.pointer (some ⟨r', 0, none⟩)) := X1'.out
                have HMP : Hid (∀ z, Calls Try.prog 43 #[.pointer (some ⟨m', 0, none⟩)] (wx.drewN z) fun e w' => e = .returned (.bool u'.over) ∧ w' = wx.drewN z) := fun z => (done_any (Obj_.drewN HMX.out z)).mono fun _ _ h => ⟨h.1, h.2.symm⟩
                have HMQ : Hid (∀ z, Calls Try.prog 44 #[.pointer (some ⟨m', 0, none⟩)] (wx.drewN z) fun e w' => e = .returned (.int .i64 u'.place) ∧ w' = wx.drewN z) := fun z => (place_any (Obj_.drewN HMX.out z)).mono fun _ _ h => ⟨h.1, h.2.symm⟩
                clear hwx hdx hc1 hc2 X0 X1' HP'
                generalize u'.over = ov at *
                generalize u'.place = pl at *
                have q0 : (ov != ov) = false := by simp
                have q1 : (pl != pl) = false := by simp
                go_quiet ((first | (go_at_call 43; exact Calls.quiet_of_same (HMP.out _)) | (go_at_call 44; exact Calls.quiet_of_same (HMQ.out _))))
                go_wp2_with fail
                go_roundw
                case rel => exact ⟨j + 1, by omega, by go_num, HPX.out.drewN _⟩
                case measure => simp [intOf]; omega
              · obtain rfl : j = ms'.length := by omega
                go_wp2_with fail
                obtain ⟨Ao, co, o0, hlo, _, ro, _⟩ := HP'.out.rf.row
                have o2 := HP'.out.rf.ask
                have RO := Lib.hid ro
                have hL64 : s'.L.length ≤ 64 := StackAt.len (L := s'.L) (t := s'.t) (n := s'.n) HP'.out.st.at_
                have SD : Hid (SSt W wr.drew b s') := HP'.out.st.of_below ⟨rfl, rfl, rfl, Nat.le_refl _, fun _ _ => rfl⟩
                have hsol : so < wr.heap.size := HP'.out.rf.lt
                have KB : Hid (∀ w', Below wr.heap.size wr w' → w'.cell? ⟨so, 0, none⟩ = some (.slice Ao s'.L.length co) ∧ w'.cell? ⟨so, 2, none⟩ = some (.int .i64 s'.n)) := fun w' h => ⟨(h.cell (p := ⟨so, 0, none⟩) hsol).trans o0, (h.cell (p := ⟨so, 2, none⟩) hsol).trans o2⟩
                have q3 : (s'.n != s'.n) = false := by simp
                have BE : Hid (∀ w', Below wr.drew.heap.size wr.drew w' → Below wr.heap.size wr w') := fun w' h => ⟨h.os, h.tape, h.output, h.size, h.block⟩
                clear ro
                go_region_held3 (fun w' => w'.cell? ⟨so, 0, none⟩ = some (.slice Ao s'.L.length co) ∧ w'.cell? ⟨so, 2, none⟩ = some (.int .i64 s'.n))
                  (first | exact ⟨o0, o2⟩ | exact KA.out | exact KS.out | exact KQ.out | go_keep | fail)
                  (first
                    | (go_at_call 41; (with_reducible refine (all_of SD.out).mono ?_); rintro e wA ⟨Aa, ca, rfl, sA, bA, rA, _⟩; have SA := Lib.hid sA; have RA := Lib.hid rA; have BA1 := Lib.hid (BE.out _ bA); have KA := Lib.hid (KB.out _ BA1.out); have RB := Lib.hid (RO.out.below BA1.out); clear sA bA rA)
                    | (go_at_call 35; (with_reducible refine (same_two2 _ RA.out RB.out (by omega) (by omega)).mono ?_); rintro e wS ⟨rfl, bS⟩; rw [show decide (s'.L = s'.L) = true by simp]; have SS := Lib.hid (SA.out.of_below bS); have BS1 := Lib.hid (below_chain bS BA1.out); have KS := Lib.hid (KB.out _ BS1.out); clear bS)
                    | (go_at_call 51; (with_reducible refine (cell_ptr _ b 0).mono ?_); rintro e wC ⟨rfl, rfl⟩)
                    | (go_at_call 28; (with_reducible refine (asked_law SS.out n0' (by omega) _).mono ?_); rintro e wQ ⟨rfl, sQ, bQ⟩; have BQ1 := Lib.hid (below_chain bQ BS1.out); have KQ := Lib.hid (KB.out _ BQ1.out); clear sQ bQ)
                    | fail)
                have HPQ := Lib.hid (HP'.out.of_below BQ1.out)
                clear KA KS KQ SA SS RA RB BA1 BS1 HP' SD KB BE o0 o2
                go_wp2_with fail
                go_roundw
                case rel => exact ⟨k + 1, by omega, by go_num, s', a', _, ms', rs', vs', rfl, hml', n0', n1', t0', t1', HA', HPQ⟩
                case measure => simp [intOf]; omega
          · have e1 : (kk == 1) = false := by simpa using hk1
            clear hk0 hk1
            obtain ⟨Av0, cv0, hv0⟩ := HPV.out
            subst hv0
            by_cases h0 : ms.length = 0
            · have l0 : ¬ (0 : Int) < (ms.length : Int) := by omega
              have HZ := Lib.hid h0
              clear h0
              go_wp2_with fail
              rw [HWA.out, HD.out]
              clear h0 h1 h2 HWA
              have HT : Hid (MRel W wa b so (k + 1) (.slice Av0 ms.length cv0)) := ⟨s, a, _, ms, rs, vs, rfl, by omega, n0, by omega, t0, by omega, HA, HSA.out⟩
              clear HSA
              obtain ⟨s', a', v0', ms', rs', vs', hv6, hml', n0', n1', t0', t1', HA', HP'⟩ := HT.out
              subst hv6
              obtain ⟨Av, cv, hv⟩ := HP'.out.slice
              have e2' : ms.length = ms'.length := by injection hv
              rw [hv] at HP' ⊢
              try rw [e2']
              clear hv e2' HT
              go_loopw [14, 103] (fun _ i wl => ∃ j : Nat, j ≤ ms'.length ∧ i = .int .i64 j ∧ Hid (PSt W wl b so s' a' (.slice Av ms'.length cv) ms' rs' vs')) (fun _ i _ => ms'.length - (intOf i).toNat)
              case atStart => exact ⟨0, by omega, rfl, HP'⟩
              case round =>
                clear HP'
                obtain ⟨j, hj, rfl, HP'⟩ := hrel
                by_cases hjt : j < ms'.length
                · obtain ⟨gv, cv', m', r', u', hve, hm', hr', hu', hc1, hc2, hM, hR, hmb', hrs', hWm'⟩ := HP'.out.get hjt
                  injection hve with hve1 hve2 hve3
                  subst hve1 hve3
                  have BX : Below wr.heap.size wr (wr.alloc (.cells #[mptr m', mptr r'] 99)) := (Below.refl _ _).alloc (Nat.le_refl _) _
                  have HPX := Lib.hid (HP'.out.of_below BX)
                  have HMX := Lib.hid (hM.of_below BX)
                  have hRX := hR.of_below BX
                  obtain ⟨r0, r1, r2, r3, r4, r5, r6⟩ := hRX.cells
                  have X0 : Hid ((wr.alloc (.cells #[mptr m', mptr r'] 99)).cell? ⟨wr.heap.size, 0, none⟩ = some (mptr m')) := by show _ = _; rw [World.cell?_alloc_new]; rfl
                  have X1' : Hid ((wr.alloc (.cells #[mptr m', mptr r'] 99)).cell? ⟨wr.heap.size, 1, none⟩ = some (mptr r')) := by show _ = _; rw [World.cell?_alloc_new]; rfl
                  clear hM hR hRX r0 r2 r3 r4 r5 BX hm' hr' hu' hve2
                  go_wp2_with fail
                  obtain ⟨wx, hwx⟩ : ∃ wx, wx = wr.alloc (.cells #[mptr m', mptr r'] 99) := ⟨_, rfl⟩
                  rw [← hwx] at HPX HMX r1 r6 X0 X1'
                  unfold mptr at hwx
                  rw [← hwx]
                  obtain ⟨dx, hdx⟩ : ∃ dx, dx = wr.heap.size := ⟨_, rfl⟩
                  rw [← hdx] at X0 X1'
                  rw [← hdx]
                  have x0 : wx.cell? ⟨dx, 0, none⟩ = some (.pointer (some ⟨m', 0, none⟩)) := X0.out
                  have x1' : wx.cell? ⟨dx, 1, none⟩ = some (.pointer (some ⟨r', 0, none⟩)) := X1'.out
                  have HMP : Hid (∀ z, Calls Try.prog 43 #[.pointer (some ⟨m', 0, none⟩)] (wx.drewN z) fun e w' => e = .returned (.bool u'.over) ∧ w' = wx.drewN z) := fun z => (done_any (Obj_.drewN HMX.out z)).mono fun _ _ h => ⟨h.1, h.2.symm⟩
                  have HMQ : Hid (∀ z, Calls Try.prog 44 #[.pointer (some ⟨m', 0, none⟩)] (wx.drewN z) fun e w' => e = .returned (.int .i64 u'.place) ∧ w' = wx.drewN z) := fun z => (place_any (Obj_.drewN HMX.out z)).mono fun _ _ h => ⟨h.1, h.2.symm⟩
                  clear hwx hdx hc1 hc2 X0 X1' HP'
                  generalize u'.over = ov at *
                  generalize u'.place = pl at *
                  have q0 : (ov != ov) = false := by simp
                  have q1 : (pl != pl) = false := by simp
                  go_quiet ((first | (go_at_call 43; exact Calls.quiet_of_same (HMP.out _)) | (go_at_call 44; exact Calls.quiet_of_same (HMQ.out _))))
                  go_wp2_with fail
                  go_roundw
                  case rel => exact ⟨j + 1, by omega, by go_num, HPX.out.drewN _⟩
                  case measure => simp [intOf]; omega
                · obtain rfl : j = ms'.length := by omega
                  go_wp2_with fail
                  obtain ⟨Ao, co, o0, hlo, _, ro, _⟩ := HP'.out.rf.row
                  have o2 := HP'.out.rf.ask
                  have RO := Lib.hid ro
                  have hL64 : s'.L.length ≤ 64 := StackAt.len (L := s'.L) (t := s'.t) (n := s'.n) HP'.out.st.at_
                  have SD : Hid (SSt W wr.drew b s') := HP'.out.st.of_below ⟨rfl, rfl, rfl, Nat.le_refl _, fun _ _ => rfl⟩
                  have hsol : so < wr.heap.size := HP'.out.rf.lt
                  have KB : Hid (∀ w', Below wr.heap.size wr w' → w'.cell? ⟨so, 0, none⟩ = some (.slice Ao s'.L.length co) ∧ w'.cell? ⟨so, 2, none⟩ = some (.int .i64 s'.n)) := fun w' h => ⟨(h.cell (p := ⟨so, 0, none⟩) hsol).trans o0, (h.cell (p := ⟨so, 2, none⟩) hsol).trans o2⟩
                  have q3 : (s'.n != s'.n) = false := by simp
                  have BE : Hid (∀ w', Below wr.drew.heap.size wr.drew w' → Below wr.heap.size wr w') := fun w' h => ⟨h.os, h.tape, h.output, h.size, h.block⟩
                  clear ro
                  go_region_held3 (fun w' => w'.cell? ⟨so, 0, none⟩ = some (.slice Ao s'.L.length co) ∧ w'.cell? ⟨so, 2, none⟩ = some (.int .i64 s'.n))
                    (first | exact ⟨o0, o2⟩ | exact KA.out | exact KS.out | exact KQ.out | go_keep | fail)
                    (first
                      | (go_at_call 41; (with_reducible refine (all_of SD.out).mono ?_); rintro e wA ⟨Aa, ca, rfl, sA, bA, rA, _⟩; have SA := Lib.hid sA; have RA := Lib.hid rA; have BA1 := Lib.hid (BE.out _ bA); have KA := Lib.hid (KB.out _ BA1.out); have RB := Lib.hid (RO.out.below BA1.out); clear sA bA rA)
                      | (go_at_call 35; (with_reducible refine (same_two2 _ RA.out RB.out (by omega) (by omega)).mono ?_); rintro e wS ⟨rfl, bS⟩; rw [show decide (s'.L = s'.L) = true by simp]; have SS := Lib.hid (SA.out.of_below bS); have BS1 := Lib.hid (below_chain bS BA1.out); have KS := Lib.hid (KB.out _ BS1.out); clear bS)
                      | (go_at_call 51; (with_reducible refine (cell_ptr _ b 0).mono ?_); rintro e wC ⟨rfl, rfl⟩)
                      | (go_at_call 28; (with_reducible refine (asked_law SS.out n0' (by omega) _).mono ?_); rintro e wQ ⟨rfl, sQ, bQ⟩; have BQ1 := Lib.hid (below_chain bQ BS1.out); have KQ := Lib.hid (KB.out _ BQ1.out); clear sQ bQ)
                      | fail)
                  have HPQ := Lib.hid (HP'.out.of_below BQ1.out)
                  clear KA KS KQ SA SS RA RB BA1 BS1 HP' SD KB BE o0 o2
                  go_wp2_with fail
                  go_roundw
                  case rel => exact ⟨k + 1, by omega, by go_num, s', a', _, ms', rs', vs', rfl, hml', n0', n1', t0', t1', HA', HPQ⟩
                  case measure => simp [intOf]; omega
            · have l0 : (0 : Int) < (ms.length : Int) := by omega
              have h2m := Int.tmod_lt_of_pos q l0
              by_cases hq : 0 < q.tmod (ms.length : Int)
              · obtain ⟨r, hr⟩ : ∃ r : Nat, q.tmod (ms.length : Int) = (r : Int) := ⟨(q.tmod (ms.length : Int)).toNat, by omega⟩
                have hrl : r < ms.length := by omega
                have hr0 : (0 : Int) < (r : Int) := by omega
                have hr1 : (r : Int) < (ms.length : Int) := by omega
                clear hq h2m
                obtain ⟨gv, cv', m, rr, u, hve, hm, hrr, hu, hc1, hc2, hM, hR, hmb, hrs, hWm⟩ := HSA.out.get hrl
                injection hve with hve1 hve2 hve3
                subst hve1 hve3
                have HMM := Lib.hid hm
                have HRR := Lib.hid hrr
                have HU := Lib.hid hu
                have HM := Lib.hid hM
                have x2 := X2.out
                rw [← HWA.out] at x2 hc1 hc2
                rw [← HD.out] at x2
                have hzz := trivial
                clear hm hrr hu hM hR hve2
                go_wp2_with fail
                rw [HWA.out, HD.out]
                obtain ⟨wx, hwx⟩ : ∃ wx, wx = wa.alloc (.cells #[mptr m, mptr rr] 99) := ⟨_, rfl⟩
                have BX : Below wa.heap.size wa wx := by rw [hwx]; exact (Below.refl _ _).alloc (Nat.le_refl _) _
                have hsx : wx.heap.size = wa.heap.size + 1 := by rw [hwx]; simp
                have HPX := Lib.hid (HSA.out.of_below BX)
                have HMX := Lib.hid (HM.out.of_below BX)
                obtain ⟨dx, hdx⟩ : ∃ dx, dx = wa.heap.size := ⟨_, rfl⟩
                have x0 : wx.cell? ⟨dx, 0, none⟩ = some (.pointer (some ⟨m, 0, none⟩)) := by rw [hwx, hdx, World.cell?_alloc_new]; rfl
                have x1 : wx.cell? ⟨dx, 1, none⟩ = some (.pointer (some ⟨rr, 0, none⟩)) := by rw [hwx, hdx, World.cell?_alloc_new]; rfl
                have HDX : Hid (d + 1 = dx) := by
                  have h1 : wa.heap.size = wr.heap.size + 1 := by rw [← HWA.out]; simp
                  have h2 := HD.out
                  show _ = _
                  omega
                have hdb : dx ≠ b := by have := HSA.out.st.lt; omega
                have hdm : dx ≠ m := by have := Obj_.lt HM.out (by omega); omega
                have hds : dx ≠ so := by have := HSA.out.rf.lt; omega
                have hdr : dx ≠ rr := by have := (HSA.out.lo rr (by have := List.mem_of_getElem? HRR.out; simp [this])).2.1; omega
                have hdl : dx < wx.heap.size := by omega
                rw [HDX.out]
                unfold mptr at hwx
                rw [← hwx]
                clear hwx hdx hsx BX hc1 hc2 x2 HM HSA h0 h1 h2
                have hup := stepV_bd u s
                have HOK := Lib.hid (HA.out u (List.mem_of_getElem? HU.out)).1
                have HA1 := Lib.hid (HA.out.step HPX.out.st.n_of HU.out)
                have hl64 : s.L.length ≤ 64 := StackAt.len (L := s.L) (t := s.t) (n := s.n) HPX.out.st.at_
                have SD : Hid (SSt W wx.drew b s) := HPX.out.st.of_below ⟨rfl, rfl, rfl, Nat.le_refl _, fun _ _ => rfl⟩
                have MD : Hid (MoveAt wx.drew m b 0 u) := Obj_.drew HMX.out
                go_region_held3 (fun w' => w'.cell? ⟨dx, 0, none⟩ = some (.pointer (some ⟨m, 0, none⟩)) ∧ w'.cell? ⟨dx, 1, none⟩ = some (.pointer (some ⟨rr, 0, none⟩)))
                  (first | exact ⟨x0, x1⟩ | exact KA.out | exact KS.out | fail)
                  (first
                    | (go_at_call 42; (with_reducible refine (step_law SD.out MD.out hmb hWm HOK.out n0 (by omega) t0 (by omega)).mono ?_); rintro e w5 ⟨rfl, s5, m5, o5⟩; have O5 : Hid (Only2 wx w5 b m) := ⟨o5.os, o5.tape, o5.output, o5.size, o5.block⟩; have KA : Hid (w5.cell? ⟨dx, 0, none⟩ = some (.pointer (some ⟨m, 0, none⟩)) ∧ w5.cell? ⟨dx, 1, none⟩ = some (.pointer (some ⟨rr, 0, none⟩))) := ⟨(World.cell?_of_block (a := ⟨dx, 0, none⟩) (O5.out.block dx hdl hdb hdm)).trans x0, (World.cell?_of_block (a := ⟨dx, 1, none⟩) (O5.out.block dx hdl hdb hdm)).trans x1⟩; have S5 := Lib.hid s5; have M5 := Lib.hid m5; have MID := Lib.hid (HPX.out.mid HMM.out HRR.out HU.out O5.out); clear s5 m5 o5)
                    | (go_at_call 50; (with_reducible refine (refStep_any MID.out.1 MID.out.2.1 MID.out.2.2.1 MID.out.2.2.2 HOK.out (by omega) n0 (by omega) t0 (by omega)).mono ?_); rintro e w6 ⟨rfl, a6, s6, n6, m6, k6⟩; have KS : Hid (w6.cell? ⟨dx, 0, none⟩ = some (.pointer (some ⟨m, 0, none⟩)) ∧ w6.cell? ⟨dx, 1, none⟩ = some (.pointer (some ⟨rr, 0, none⟩))) := ⟨(World.cell?_of_block (a := ⟨dx, 0, none⟩) (k6.block dx (by rw [O5.out.size]; exact hdl) hds hdr)).trans KA.out.1, (World.cell?_of_block (a := ⟨dx, 1, none⟩) (k6.block dx (by rw [O5.out.size]; exact hdl) hds hdr)).trans KA.out.2⟩; have HP6 := Lib.hid (HPX.out.step HMM.out HRR.out HU.out O5.out S5.out M5.out k6 s6 n6 m6); clear s6 n6 m6 k6)
                    | fail)
                have HT : Hid (MRel W w6 b so (k + 1) (.slice (some ⟨gv, 0, none⟩) ms.length cv0)) := ⟨(stepV u s).2.2, a6, _, ms, rs, _, rfl, by omega, by omega, by omega, by omega, by omega, HA1, HP6⟩
                clear KA KS O5 S5 M5 MID HP6 HPX HMX SD MD HA1 HOK x0 x1
                generalize (stepV u s).1 = bb at *
                have qbb : (bb != bb) = false := by simp
                obtain ⟨s', a', v0', ms', rs', vs', hv6, hml', n0', n1', t0', t1', HA', HP'⟩ := HT.out
                subst hv6
                obtain ⟨Av, cv, hv⟩ := HP'.out.slice
                have e2' : ms.length = ms'.length := by injection hv
                rw [hv] at HP' ⊢
                try rw [e2']
                clear hv e2' HT
                go_wp2_with fail
                go_loopw [14, 103] (fun _ i wl => ∃ j : Nat, j ≤ ms'.length ∧ i = .int .i64 j ∧ Hid (PSt W wl b so s' a' (.slice Av ms'.length cv) ms' rs' vs')) (fun _ i _ => ms'.length - (intOf i).toNat)
                case atStart => exact ⟨0, by omega, rfl, HP'⟩
                case round =>
                  clear HP'
                  obtain ⟨j, hj, rfl, HP'⟩ := hrel
                  by_cases hjt : j < ms'.length
                  · obtain ⟨gv, cv', m', r', u', hve, hm', hr', hu', hc1, hc2, hM, hR, hmb', hrs', hWm'⟩ := HP'.out.get hjt
                    injection hve with hve1 hve2 hve3
                    subst hve1 hve3
                    have BX : Below wr.heap.size wr (wr.alloc (.cells #[mptr m', mptr r'] 99)) := (Below.refl _ _).alloc (Nat.le_refl _) _
                    have HPX := Lib.hid (HP'.out.of_below BX)
                    have HMX := Lib.hid (hM.of_below BX)
                    have hRX := hR.of_below BX
                    obtain ⟨r0, r1, r2, r3, r4, r5, r6⟩ := hRX.cells
                    have X0 : Hid ((wr.alloc (.cells #[mptr m', mptr r'] 99)).cell? ⟨wr.heap.size, 0, none⟩ = some (mptr m')) := by show _ = _; rw [World.cell?_alloc_new]; rfl
                    have X1' : Hid ((wr.alloc (.cells #[mptr m', mptr r'] 99)).cell? ⟨wr.heap.size, 1, none⟩ = some (mptr r')) := by show _ = _; rw [World.cell?_alloc_new]; rfl
                    clear hM hR hRX r0 r2 r3 r4 r5 BX hm' hr' hu' hve2
                    go_wp2_with fail
                    obtain ⟨wx, hwx⟩ : ∃ wx, wx = wr.alloc (.cells #[mptr m', mptr r'] 99) := ⟨_, rfl⟩
                    rw [← hwx] at HPX HMX r1 r6 X0 X1'
                    unfold mptr at hwx
                    rw [← hwx]
                    obtain ⟨dx, hdx⟩ : ∃ dx, dx = wr.heap.size := ⟨_, rfl⟩
                    rw [← hdx] at X0 X1'
                    rw [← hdx]
                    have x0 : wx.cell? ⟨dx, 0, none⟩ = some (.pointer (some ⟨m', 0, none⟩)) := X0.out
                    have x1' : wx.cell? ⟨dx, 1, none⟩ = some (.pointer (some ⟨r', 0, none⟩)) := X1'.out
                    have HMP : Hid (∀ z, Calls Try.prog 43 #[.pointer (some ⟨m', 0, none⟩)] (wx.drewN z) fun e w' => e = .returned (.bool u'.over) ∧ w' = wx.drewN z) := fun z => (done_any (Obj_.drewN HMX.out z)).mono fun _ _ h => ⟨h.1, h.2.symm⟩
                    have HMQ : Hid (∀ z, Calls Try.prog 44 #[.pointer (some ⟨m', 0, none⟩)] (wx.drewN z) fun e w' => e = .returned (.int .i64 u'.place) ∧ w' = wx.drewN z) := fun z => (place_any (Obj_.drewN HMX.out z)).mono fun _ _ h => ⟨h.1, h.2.symm⟩
                    clear hwx hdx hc1 hc2 X0 X1' HP'
                    generalize u'.over = ov at *
                    generalize u'.place = pl at *
                    have q0 : (ov != ov) = false := by simp
                    have q1 : (pl != pl) = false := by simp
                    go_quiet ((first | (go_at_call 43; exact Calls.quiet_of_same (HMP.out _)) | (go_at_call 44; exact Calls.quiet_of_same (HMQ.out _))))
                    go_wp2_with fail
                    go_roundw
                    case rel => exact ⟨j + 1, by omega, by go_num, HPX.out.drewN _⟩
                    case measure => simp [intOf]; omega
                  · obtain rfl : j = ms'.length := by omega
                    go_wp2_with fail
                    obtain ⟨Ao, co, o0, hlo, _, ro, _⟩ := HP'.out.rf.row
                    have o2 := HP'.out.rf.ask
                    have RO := Lib.hid ro
                    have hL64 : s'.L.length ≤ 64 := StackAt.len (L := s'.L) (t := s'.t) (n := s'.n) HP'.out.st.at_
                    have SD : Hid (SSt W wr.drew b s') := HP'.out.st.of_below ⟨rfl, rfl, rfl, Nat.le_refl _, fun _ _ => rfl⟩
                    have hsol : so < wr.heap.size := HP'.out.rf.lt
                    have KB : Hid (∀ w', Below wr.heap.size wr w' → w'.cell? ⟨so, 0, none⟩ = some (.slice Ao s'.L.length co) ∧ w'.cell? ⟨so, 2, none⟩ = some (.int .i64 s'.n)) := fun w' h => ⟨(h.cell (p := ⟨so, 0, none⟩) hsol).trans o0, (h.cell (p := ⟨so, 2, none⟩) hsol).trans o2⟩
                    have q3 : (s'.n != s'.n) = false := by simp
                    have BE : Hid (∀ w', Below wr.drew.heap.size wr.drew w' → Below wr.heap.size wr w') := fun w' h => ⟨h.os, h.tape, h.output, h.size, h.block⟩
                    clear ro
                    go_region_held3 (fun w' => w'.cell? ⟨so, 0, none⟩ = some (.slice Ao s'.L.length co) ∧ w'.cell? ⟨so, 2, none⟩ = some (.int .i64 s'.n))
                      (first | exact ⟨o0, o2⟩ | exact KA.out | exact KS.out | exact KQ.out | go_keep | fail)
                      (first
                        | (go_at_call 41; (with_reducible refine (all_of SD.out).mono ?_); rintro e wA ⟨Aa, ca, rfl, sA, bA, rA, _⟩; have SA := Lib.hid sA; have RA := Lib.hid rA; have BA1 := Lib.hid (BE.out _ bA); have KA := Lib.hid (KB.out _ BA1.out); have RB := Lib.hid (RO.out.below BA1.out); clear sA bA rA)
                        | (go_at_call 35; (with_reducible refine (same_two2 _ RA.out RB.out (by omega) (by omega)).mono ?_); rintro e wS ⟨rfl, bS⟩; rw [show decide (s'.L = s'.L) = true by simp]; have SS := Lib.hid (SA.out.of_below bS); have BS1 := Lib.hid (below_chain bS BA1.out); have KS := Lib.hid (KB.out _ BS1.out); clear bS)
                        | (go_at_call 51; (with_reducible refine (cell_ptr _ b 0).mono ?_); rintro e wC ⟨rfl, rfl⟩)
                        | (go_at_call 28; (with_reducible refine (asked_law SS.out n0' (by omega) _).mono ?_); rintro e wQ ⟨rfl, sQ, bQ⟩; have BQ1 := Lib.hid (below_chain bQ BS1.out); have KQ := Lib.hid (KB.out _ BQ1.out); clear sQ bQ)
                        | fail)
                    have HPQ := Lib.hid (HP'.out.of_below BQ1.out)
                    clear KA KS KQ SA SS RA RB BA1 BS1 HP' SD KB BE o0 o2
                    go_wp2_with fail
                    go_roundw
                    case rel => exact ⟨k + 1, by omega, by go_num, s', a', _, ms', rs', vs', rfl, hml', n0', n1', t0', t1', HA', HPQ⟩
                    case measure => simp [intOf]; omega
              · have hq0 : q.tmod (ms.length : Int) ≤ 0 := by omega
                obtain ⟨r, hr9⟩ : ∃ r : Nat, r = 0 := ⟨0, rfl⟩
                have hrl : r < ms.length := by omega
                clear h2m hq
                obtain ⟨gv, cv', m, rr, u, hve, hm, hrr, hu, hc1, hc2, hM, hR, hmb, hrs, hWm⟩ := HSA.out.get hrl
                injection hve with hve1 hve2 hve3
                subst hve1 hve3
                have HMM := Lib.hid hm
                have HRR := Lib.hid hrr
                have HU := Lib.hid hu
                have HM := Lib.hid hM
                have x2 := X2.out
                rw [← HWA.out] at x2 hc1 hc2
                rw [← HD.out] at x2
                subst hr9
                clear hm hrr hu hM hR hve2
                go_wp2_with fail
                rw [HWA.out, HD.out]
                obtain ⟨wx, hwx⟩ : ∃ wx, wx = wa.alloc (.cells #[mptr m, mptr rr] 99) := ⟨_, rfl⟩
                have BX : Below wa.heap.size wa wx := by rw [hwx]; exact (Below.refl _ _).alloc (Nat.le_refl _) _
                have hsx : wx.heap.size = wa.heap.size + 1 := by rw [hwx]; simp
                have HPX := Lib.hid (HSA.out.of_below BX)
                have HMX := Lib.hid (HM.out.of_below BX)
                obtain ⟨dx, hdx⟩ : ∃ dx, dx = wa.heap.size := ⟨_, rfl⟩
                have x0 : wx.cell? ⟨dx, 0, none⟩ = some (.pointer (some ⟨m, 0, none⟩)) := by rw [hwx, hdx, World.cell?_alloc_new]; rfl
                have x1 : wx.cell? ⟨dx, 1, none⟩ = some (.pointer (some ⟨rr, 0, none⟩)) := by rw [hwx, hdx, World.cell?_alloc_new]; rfl
                have HDX : Hid (d + 1 = dx) := by
                  have h1 : wa.heap.size = wr.heap.size + 1 := by rw [← HWA.out]; simp
                  have h2 := HD.out
                  show _ = _
                  omega
                have hdb : dx ≠ b := by have := HSA.out.st.lt; omega
                have hdm : dx ≠ m := by have := Obj_.lt HM.out (by omega); omega
                have hds : dx ≠ so := by have := HSA.out.rf.lt; omega
                have hdr : dx ≠ rr := by have := (HSA.out.lo rr (by have := List.mem_of_getElem? HRR.out; simp [this])).2.1; omega
                have hdl : dx < wx.heap.size := by omega
                rw [HDX.out]
                unfold mptr at hwx
                rw [← hwx]
                clear hwx hdx hsx BX hc1 hc2 x2 HM HSA h0 h1 h2
                have hup := stepV_bd u s
                have HOK := Lib.hid (HA.out u (List.mem_of_getElem? HU.out)).1
                have HA1 := Lib.hid (HA.out.step HPX.out.st.n_of HU.out)
                have hl64 : s.L.length ≤ 64 := StackAt.len (L := s.L) (t := s.t) (n := s.n) HPX.out.st.at_
                have SD : Hid (SSt W wx.drew b s) := HPX.out.st.of_below ⟨rfl, rfl, rfl, Nat.le_refl _, fun _ _ => rfl⟩
                have MD : Hid (MoveAt wx.drew m b 0 u) := Obj_.drew HMX.out
                go_region_held3 (fun w' => w'.cell? ⟨dx, 0, none⟩ = some (.pointer (some ⟨m, 0, none⟩)) ∧ w'.cell? ⟨dx, 1, none⟩ = some (.pointer (some ⟨rr, 0, none⟩)))
                  (first | exact ⟨x0, x1⟩ | exact KA.out | exact KS.out | fail)
                  (first
                    | (go_at_call 42; (with_reducible refine (step_law SD.out MD.out hmb hWm HOK.out n0 (by omega) t0 (by omega)).mono ?_); rintro e w5 ⟨rfl, s5, m5, o5⟩; have O5 : Hid (Only2 wx w5 b m) := ⟨o5.os, o5.tape, o5.output, o5.size, o5.block⟩; have KA : Hid (w5.cell? ⟨dx, 0, none⟩ = some (.pointer (some ⟨m, 0, none⟩)) ∧ w5.cell? ⟨dx, 1, none⟩ = some (.pointer (some ⟨rr, 0, none⟩))) := ⟨(World.cell?_of_block (a := ⟨dx, 0, none⟩) (O5.out.block dx hdl hdb hdm)).trans x0, (World.cell?_of_block (a := ⟨dx, 1, none⟩) (O5.out.block dx hdl hdb hdm)).trans x1⟩; have S5 := Lib.hid s5; have M5 := Lib.hid m5; have MID := Lib.hid (HPX.out.mid HMM.out HRR.out HU.out O5.out); clear s5 m5 o5)
                    | (go_at_call 50; (with_reducible refine (refStep_any MID.out.1 MID.out.2.1 MID.out.2.2.1 MID.out.2.2.2 HOK.out (by omega) n0 (by omega) t0 (by omega)).mono ?_); rintro e w6 ⟨rfl, a6, s6, n6, m6, k6⟩; have KS : Hid (w6.cell? ⟨dx, 0, none⟩ = some (.pointer (some ⟨m, 0, none⟩)) ∧ w6.cell? ⟨dx, 1, none⟩ = some (.pointer (some ⟨rr, 0, none⟩))) := ⟨(World.cell?_of_block (a := ⟨dx, 0, none⟩) (k6.block dx (by rw [O5.out.size]; exact hdl) hds hdr)).trans KA.out.1, (World.cell?_of_block (a := ⟨dx, 1, none⟩) (k6.block dx (by rw [O5.out.size]; exact hdl) hds hdr)).trans KA.out.2⟩; have HP6 := Lib.hid (HPX.out.step HMM.out HRR.out HU.out O5.out S5.out M5.out k6 s6 n6 m6); clear s6 n6 m6 k6)
                    | fail)
                have HT : Hid (MRel W w6 b so (k + 1) (.slice (some ⟨gv, 0, none⟩) ms.length cv0)) := ⟨(stepV u s).2.2, a6, _, ms, rs, _, rfl, by omega, by omega, by omega, by omega, by omega, HA1, HP6⟩
                clear KA KS O5 S5 M5 MID HP6 HPX HMX SD MD HA1 HOK x0 x1
                generalize (stepV u s).1 = bb at *
                have qbb : (bb != bb) = false := by simp
                obtain ⟨s', a', v0', ms', rs', vs', hv6, hml', n0', n1', t0', t1', HA', HP'⟩ := HT.out
                subst hv6
                obtain ⟨Av, cv, hv⟩ := HP'.out.slice
                have e2' : ms.length = ms'.length := by injection hv
                rw [hv] at HP' ⊢
                try rw [e2']
                clear hv e2' HT
                go_wp2_with fail
                go_loopw [14, 103] (fun _ i wl => ∃ j : Nat, j ≤ ms'.length ∧ i = .int .i64 j ∧ Hid (PSt W wl b so s' a' (.slice Av ms'.length cv) ms' rs' vs')) (fun _ i _ => ms'.length - (intOf i).toNat)
                case atStart => exact ⟨0, by omega, rfl, HP'⟩
                case round =>
                  clear HP'
                  obtain ⟨j, hj, rfl, HP'⟩ := hrel
                  by_cases hjt : j < ms'.length
                  · obtain ⟨gv, cv', m', r', u', hve, hm', hr', hu', hc1, hc2, hM, hR, hmb', hrs', hWm'⟩ := HP'.out.get hjt
                    injection hve with hve1 hve2 hve3
                    subst hve1 hve3
                    have BX : Below wr.heap.size wr (wr.alloc (.cells #[mptr m', mptr r'] 99)) := (Below.refl _ _).alloc (Nat.le_refl _) _
                    have HPX := Lib.hid (HP'.out.of_below BX)
                    have HMX := Lib.hid (hM.of_below BX)
                    have hRX := hR.of_below BX
                    obtain ⟨r0, r1, r2, r3, r4, r5, r6⟩ := hRX.cells
                    have X0 : Hid ((wr.alloc (.cells #[mptr m', mptr r'] 99)).cell? ⟨wr.heap.size, 0, none⟩ = some (mptr m')) := by show _ = _; rw [World.cell?_alloc_new]; rfl
                    have X1' : Hid ((wr.alloc (.cells #[mptr m', mptr r'] 99)).cell? ⟨wr.heap.size, 1, none⟩ = some (mptr r')) := by show _ = _; rw [World.cell?_alloc_new]; rfl
                    clear hM hR hRX r0 r2 r3 r4 r5 BX hm' hr' hu' hve2
                    go_wp2_with fail
                    obtain ⟨wx, hwx⟩ : ∃ wx, wx = wr.alloc (.cells #[mptr m', mptr r'] 99) := ⟨_, rfl⟩
                    rw [← hwx] at HPX HMX r1 r6 X0 X1'
                    unfold mptr at hwx
                    rw [← hwx]
                    obtain ⟨dx, hdx⟩ : ∃ dx, dx = wr.heap.size := ⟨_, rfl⟩
                    rw [← hdx] at X0 X1'
                    rw [← hdx]
                    have x0 : wx.cell? ⟨dx, 0, none⟩ = some (.pointer (some ⟨m', 0, none⟩)) := X0.out
                    have x1' : wx.cell? ⟨dx, 1, none⟩ = some (.pointer (some ⟨r', 0, none⟩)) := X1'.out
                    have HMP : Hid (∀ z, Calls Try.prog 43 #[.pointer (some ⟨m', 0, none⟩)] (wx.drewN z) fun e w' => e = .returned (.bool u'.over) ∧ w' = wx.drewN z) := fun z => (done_any (Obj_.drewN HMX.out z)).mono fun _ _ h => ⟨h.1, h.2.symm⟩
                    have HMQ : Hid (∀ z, Calls Try.prog 44 #[.pointer (some ⟨m', 0, none⟩)] (wx.drewN z) fun e w' => e = .returned (.int .i64 u'.place) ∧ w' = wx.drewN z) := fun z => (place_any (Obj_.drewN HMX.out z)).mono fun _ _ h => ⟨h.1, h.2.symm⟩
                    clear hwx hdx hc1 hc2 X0 X1' HP'
                    generalize u'.over = ov at *
                    generalize u'.place = pl at *
                    have q0 : (ov != ov) = false := by simp
                    have q1 : (pl != pl) = false := by simp
                    go_quiet ((first | (go_at_call 43; exact Calls.quiet_of_same (HMP.out _)) | (go_at_call 44; exact Calls.quiet_of_same (HMQ.out _))))
                    go_wp2_with fail
                    go_roundw
                    case rel => exact ⟨j + 1, by omega, by go_num, HPX.out.drewN _⟩
                    case measure => simp [intOf]; omega
                  · obtain rfl : j = ms'.length := by omega
                    go_wp2_with fail
                    obtain ⟨Ao, co, o0, hlo, _, ro, _⟩ := HP'.out.rf.row
                    have o2 := HP'.out.rf.ask
                    have RO := Lib.hid ro
                    have hL64 : s'.L.length ≤ 64 := StackAt.len (L := s'.L) (t := s'.t) (n := s'.n) HP'.out.st.at_
                    have SD : Hid (SSt W wr.drew b s') := HP'.out.st.of_below ⟨rfl, rfl, rfl, Nat.le_refl _, fun _ _ => rfl⟩
                    have hsol : so < wr.heap.size := HP'.out.rf.lt
                    have KB : Hid (∀ w', Below wr.heap.size wr w' → w'.cell? ⟨so, 0, none⟩ = some (.slice Ao s'.L.length co) ∧ w'.cell? ⟨so, 2, none⟩ = some (.int .i64 s'.n)) := fun w' h => ⟨(h.cell (p := ⟨so, 0, none⟩) hsol).trans o0, (h.cell (p := ⟨so, 2, none⟩) hsol).trans o2⟩
                    have q3 : (s'.n != s'.n) = false := by simp
                    have BE : Hid (∀ w', Below wr.drew.heap.size wr.drew w' → Below wr.heap.size wr w') := fun w' h => ⟨h.os, h.tape, h.output, h.size, h.block⟩
                    clear ro
                    go_region_held3 (fun w' => w'.cell? ⟨so, 0, none⟩ = some (.slice Ao s'.L.length co) ∧ w'.cell? ⟨so, 2, none⟩ = some (.int .i64 s'.n))
                      (first | exact ⟨o0, o2⟩ | exact KA.out | exact KS.out | exact KQ.out | go_keep | fail)
                      (first
                        | (go_at_call 41; (with_reducible refine (all_of SD.out).mono ?_); rintro e wA ⟨Aa, ca, rfl, sA, bA, rA, _⟩; have SA := Lib.hid sA; have RA := Lib.hid rA; have BA1 := Lib.hid (BE.out _ bA); have KA := Lib.hid (KB.out _ BA1.out); have RB := Lib.hid (RO.out.below BA1.out); clear sA bA rA)
                        | (go_at_call 35; (with_reducible refine (same_two2 _ RA.out RB.out (by omega) (by omega)).mono ?_); rintro e wS ⟨rfl, bS⟩; rw [show decide (s'.L = s'.L) = true by simp]; have SS := Lib.hid (SA.out.of_below bS); have BS1 := Lib.hid (below_chain bS BA1.out); have KS := Lib.hid (KB.out _ BS1.out); clear bS)
                        | (go_at_call 51; (with_reducible refine (cell_ptr _ b 0).mono ?_); rintro e wC ⟨rfl, rfl⟩)
                        | (go_at_call 28; (with_reducible refine (asked_law SS.out n0' (by omega) _).mono ?_); rintro e wQ ⟨rfl, sQ, bQ⟩; have BQ1 := Lib.hid (below_chain bQ BS1.out); have KQ := Lib.hid (KB.out _ BQ1.out); clear sQ bQ)
                        | fail)
                    have HPQ := Lib.hid (HP'.out.of_below BQ1.out)
                    clear KA KS KQ SA SS RA RB BA1 BS1 HP' SD KB BE o0 o2
                    go_wp2_with fail
                    go_roundw
                    case rel => exact ⟨k + 1, by omega, by go_num, s', a', _, ms', rs', vs', rfl, hml', n0', n1', t0', t1', HA', HPQ⟩
                    case measure => simp [intOf]; omega
      · obtain rfl : k = n := by omega
        go_wp2_with fail
        go_ret
        exact ⟨rfl, HS.out.st.below⟩

section
variable {H : Type} {enc : TypeId × Value → H} {W : World} {base : Nat} {args : Array Value} {ds : List (DataW H)} {p : List MemPlace}

theorem cells_act13 : Try.prog.cellsOf 94 = 3 := by kernel_rfl
theorem choose3' {n : Nat} {p : Nat → Int → Int → Int → Prop} (h : ∀ i, i < n → ∃ x y z, p i x y z) : ∃ f g h : Nat → Int, ∀ i, i < n → p i (f i) (g i) (h i) := by
  obtain ⟨f, hf⟩ := Go.Deep.choose_lt (p := fun i (x : Int × Int × Int) => p i x.1 x.2.1 x.2.2) fun i hi => by
    obtain ⟨x, y, z, hp⟩ := h i hi
    exact ⟨(x, y, z), hp⟩
  exact ⟨fun i => (f i).1, fun i => (f i).2.1, fun i => (f i).2.2, hf⟩
set_option maxRecDepth 100000 in
theorem open_acts13 {v : Value} {d : DataW H} {ps : List MemPlace} (hv : Value.okWide Try.prog W .any base 89 v) (h : DataW.Trod enc Try.prog W 0 (fun _ => true) true 89 v d ps) (hlt : ∀ x ∈ ps, x.block < W.heap.size) :
    ∃ A n c K P Q, v = .slice A n c ∧ n ≤ c ∧ c ≤ maxLen ∧ Acts13 W A n K P Q := by
  obtain ⟨A, n, c, rfl, hn, hc, hi⟩ := arg_structs Try.underlying89 Try.underlying94 (by kernel_rfl) cells_act13 (by decide) hv h hlt
  have hx : ∀ i, i < n → ∃ x y z : Int, ∃ g off, A = some ⟨g, off, none⟩ ∧ g < W.heap.size ∧ W.cell? ⟨g, off + i * 3, none⟩ = some (.int .i64 x) ∧
      W.cell? ⟨g, off + i * 3 + 1, none⟩ = some (.int .i64 y) ∧ W.cell? ⟨g, off + i * 3 + 2, none⟩ = some (.int .i64 z) := fun i hin => by
    obtain ⟨b, off, hA, hb, hf⟩ := hi i hin
    obtain ⟨u0, y0, f0, c0, t0, _⟩ := hf 0 _ rfl
    obtain ⟨u1, y1, f1, c1, t1, _⟩ := hf 1 _ rfl
    obtain ⟨u2, y2, f2, c2, t2, _⟩ := hf 2 _ rfl
    obtain ⟨x, hx, _, _⟩ := DataW.trod_int Try.underlying3 t0
    obtain ⟨y, hy, _, _⟩ := DataW.trod_int Try.underlying3 t1
    obtain ⟨z, hz, _, _⟩ := DataW.trod_int Try.underlying3 t2
    simp at hx hy hz
    subst hx hy hz
    exact ⟨x, y, z, b, off, hA, hb, c0, c1, c2⟩
  obtain ⟨K, P, Q, hk⟩ := choose3' hx
  exact ⟨A, n, c, K, P, Q, rfl, hn, hc, hk⟩

set_option maxRecDepth 100000 in
theorem StackMoves_run (hval : ∀ (j : Nat) t v, #[89][j]? = some t → args[j]? = some v → Value.okWide Try.prog W .any base t v)
    (hA : DataW.TrodAll enc Try.prog W 0 (fun _ => true) true [89] args.toList ds p) (hlt : ∀ x ∈ p, x.block < W.heap.size) :
    Calls Try.prog 13 args W (TrueBelow W) := by
  obtain ⟨v0, d0, rfl, rfl, h0⟩ := trodAll_one hA
  obtain ⟨A, n, c, K, P, Q, rfl, hn, hc, hf⟩ := open_acts13 (hval 0 89 v0 rfl rfl) h0 hlt
  exact moves_walk W A n c K P Q hf hn hc
end
end Go.Proofs.Ytpddlnedaleblaa
