/- A slice of bytes that came in. -/
import Derived.Test.YtpddlnedaleblaaStackRow
import Derived.Test.YtpddlnedaleblaaArgs
namespace Go.Proofs.Ytpddlnedaleblaa
open Go.ChangeShapes Go.WideShapes Go.RowKit
section
variable {H : Type} {enc : TypeId × Value → H} {W : World} {base : Nat} {args : Array Value} {ds : List (DataW H)} {p : List MemPlace}
set_option maxRecDepth 100000 in
theorem open_bytes {v : Value} {d : DataW H} {ps : List MemPlace} (hv : Value.okWide Try.prog W .any base 67 v) (h : DataW.Trod enc Try.prog W 0 (fun _ => true) true 67 v d ps) (hlt : ∀ x ∈ ps, x.block < W.heap.size) :
    ∃ A n c f, v = .slice A n c ∧ n ≤ c ∧ c ≤ maxLen ∧ Bytes W A n f := by
  obtain ⟨A, n, c, f, rfl, hn, hc, hf⟩ := arg_ints Try.underlying67 Try.underlying5 cells_u8 hv h hlt
  refine ⟨A, n, c, fun i => (f i).toNat, rfl, hn, hc, fun i hi => ?_⟩
  obtain ⟨g, off, hA, hg, hcell, hw⟩ := hf i hi
  have hb := bounds_u8 hw
  refine ⟨g, off, hA, hg, by simp only; omega, ?_⟩
  rw [hcell]
  have : ((f i).toNat : Int) = f i := by omega
  simp only [this]
end
end Go.Proofs.Ytpddlnedaleblaa
