/- The row's step for an array of three numbers. No conditions. -/
import Derived.Test.YtdnnlfdblfcajaaGrOpen
namespace Go.Proofs.Ytdnnlfdblfcajaa.Gr
open Go.RowKit
theorem open_arr3 {H : Type} {enc : TypeId × Value → H} {W : World} {base b0 : Nat} {sp : Nat → Bool} {held : Bool} {r : Reach} {v : Value} {d : DataW H} {ps : List MemPlace} (hval : Value.okWide Try.prog W r b0 38 v) (h : DataW.Trod enc Try.prog W base sp held 38 v d ps) :
    ∃ x y z : Int, v = .agg #[.int .i64 x, .int .i64 y, .int .i64 z] ∧ InR x ∧ InR y ∧ InR z ∧ ∀ q ∈ ps, q.block < W.heap.size := by
  have hc3 : Try.prog.cellsOf 3 = 1 := by kernel_rfl
  have hc38 : Try.prog.cellsOf 38 = 3 := by kernel_rfl
  have hu := Try.underlying38
  simp only [Value.okWide, hu] at hval
  obtain ⟨cs, rfl, h2, _⟩ := hval
  obtain ⟨fuel, hf⟩ := h
  have hs : cs.size = 3 := by
    rw [h2]
    exact hc38
  obtain ⟨l⟩ := cs
  match l, hs with
  | [c0, c1, c2], _ =>
    have hf' : DataW.trod enc Try.prog W base sp held fuel 38 [c0, c1, c2] = some (d, ps) := hf
    obtain ⟨y0, y1, y2, n2, _, t0, t1, t2⟩ := Go.ChangeShapes.trod_array3 Try.underlying38 hc3 hf'
    obtain ⟨k0, e0, _, w0⟩ := DataW.trod_int Try.underlying3 t0
    obtain ⟨k1, e1, _, w1⟩ := DataW.trod_int Try.underlying3 t1
    obtain ⟨k2, e2, _, w2⟩ := DataW.trod_int Try.underlying3 t2
    injection e0 with e0
    injection e1 with e1
    injection e2 with e2
    subst e0 e1 e2
    exact ⟨k0, k1, k2, rfl, inR_of_wf w0, inR_of_wf w1, inR_of_wf w2, DataW.trod_lt fuel _ _ _ hf⟩
end Go.Proofs.Ytdnnlfdblfcajaa.Gr
