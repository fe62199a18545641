/- The plain law of the queue: each number is in one row at most, once. -/
import Derived.Test.YtpddlnedaleblaaQueueL
namespace Go.Proofs.Ytpddlnedaleblaa

structure QOnce (R F : List Int) : Prop where
  r : R.Nodup
  f : F.Nodup
  apart : ∀ x, x ∈ R → x ∈ F → False

theorem QOnce.nil : QOnce [] [] := ⟨List.nodup_nil, List.nodup_nil, fun _ h => by simp at h⟩

theorem nodup_add {l : List Int} {x : Int} (h : l.Nodup) (hx : x ∉ l) : (l ++ [x]).Nodup := by
  rw [List.nodup_append]
  exact ⟨h, by simp, fun a ha b hb e => by simp at hb; subst hb; subst e; exact hx ha⟩

theorem QOnce.push {R F : List Int} (h : QOnce R F) (x : Int) : QOnce (pushS R F x).2.1 (pushS R F x).2.2 := by
  unfold pushS
  cases hq : inQ R F x with
  | true => simpa using h
  | false =>
    simp [inQ] at hq
    simp only [Bool.false_eq_true, if_false]
    exact ⟨nodup_add h.r hq.1, h.f, fun y hy hf => by
      rcases List.mem_append.1 hy with h1 | h1
      · exact h.apart y h1 hf
      · simp at h1; subst h1; exact hq.2 hf⟩
theorem QOnce.remove {R F : List Int} (h : QOnce R F) (x : Int) : QOnce (removeS R F x).2.1 (removeS R F x).2.2 := by
  unfold removeS
  split
  · exact ⟨h.r.erase x, h.f, fun y hy hf => h.apart y (List.mem_of_mem_erase hy) hf⟩
  · split
    · exact ⟨h.r, h.f.erase x, fun y hy hf => h.apart y hy (List.mem_of_mem_erase hf)⟩
    · exact h
theorem QOnce.fill {R F : List Int} (h : QOnce R F) (x : Int) : QOnce (fillS R F x).2.1 (fillS R F x).2.2 := by
  unfold fillS
  split
  · rename_i hx
    exact ⟨h.r.erase x, nodup_add h.f (fun hf => h.apart x hx hf), fun y hy hf => by
      rcases List.mem_append.1 hf with h1 | h1
      · exact h.apart y (List.mem_of_mem_erase hy) h1
      · simp at h1; subst h1; exact (h.r.mem_erase_iff.1 hy).1 rfl⟩
  · exact h
theorem QOnce.wake {R F : List Int} (h : QOnce R F) (x : Int) : QOnce (wakeS R F x).2.1 (wakeS R F x).2.2 := by
  unfold wakeS
  split
  · rename_i hx
    exact ⟨nodup_add h.r (fun hf => h.apart x hf hx), h.f.erase x, fun y hy hf => by
      rcases List.mem_append.1 hy with h1 | h1
      · exact h.apart y h1 (List.mem_of_mem_erase hf)
      · simp at h1; subst h1; exact (h.f.mem_erase_iff.1 hf).1 rfl⟩
  · exact h

theorem eachS_once {S : List Int → List Int → Int → Int × List Int × List Int} (hS : ∀ R F x, QOnce R F → QOnce (S R F x).2.1 (S R F x).2.2) : ∀ (l R F : List Int), QOnce R F → QOnce (eachS S l R F).2.1 (eachS S l R F).2.2
  | [], R, F, h => h
  | x :: l, R, F, h => by
    by_cases h0 : (S R F x).1 = 0
    · rw [eachS_go h0]; exact eachS_once hS l _ _ (hS R F x h)
    · rw [eachS_stop h0]; exact hS R F x h

theorem QOnce.pushes {R F : List Int} (h : QOnce R F) (l : List Int) : QOnce (eachS pushS l R F).2.1 (eachS pushS l R F).2.2 := eachS_once (fun _ _ x h => h.push x) l R F h
theorem QOnce.removes {R F : List Int} (h : QOnce R F) (l : List Int) : QOnce (eachS removeS l R F).2.1 (eachS removeS l R F).2.2 := eachS_once (fun _ _ x h => h.remove x) l R F h

/-- All that are there are removed. -/
theorem remove_all : ∀ (R F : List Int), QOnce R F → eachS removeS (R ++ F) R F = (0, [], [])
  | [], [], _ => rfl
  | [], x :: F, h => by
    have e : removeS [] (x :: F) x = (0, [], F) := by simp [removeS]
    rw [List.nil_append, eachS_go (by rw [e]), e]
    exact remove_all [] F ⟨List.nodup_nil, (List.nodup_cons.1 h.f).2, fun _ h => by simp at h⟩
  | x :: R, F, h => by
    have e : removeS (x :: R) F x = (0, R, F) := by simp [removeS]
    rw [List.cons_append, eachS_go (by rw [e]), e]
    exact remove_all R F ⟨(List.nodup_cons.1 h.r).2, h.f, fun y hy hf => h.apart y (List.mem_cons_of_mem _ hy) hf⟩

theorem push_all : ∀ (l R : List Int), (R ++ l).Nodup → eachS pushS l R [] = (0, R ++ l, [])
  | [], R, _ => by simp [eachS]
  | x :: l, R, h => by
    have hx : x ∉ R := fun hx => by
      have := (List.nodup_append.1 h).2.2 x hx x (by simp)
      exact this rfl
    have e : pushS R [] x = (0, R ++ [x], []) := by simp [pushS, inQ, hx]
    rw [eachS_go (by rw [e]), e]
    have := push_all l (R ++ [x]) (by simpa using h)
    simpa using this

theorem QOnce.all {R F : List Int} (h : QOnce R F) : (R ++ F).Nodup := by
  rw [List.nodup_append]
  exact ⟨h.r, h.f, fun a ha b hb e => by subst e; exact h.apart a ha hb⟩
end Go.Proofs.Ytpddlnedaleblaa
