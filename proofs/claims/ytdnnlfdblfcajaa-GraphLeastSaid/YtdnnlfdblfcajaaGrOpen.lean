/- The rows' step for the graph's laws: what a slice of raw numbers reads as. No conditions. -/
import Derived.Test.YtdnnlfdblfcajaaGrTri
import Derived.Deep.Slices
import Derived.Laws.IdiomArrays
import Derived.WalkKit
import Derived.ProofKit
import Derived.OpenShut
import Derived.ChangeOld
import Derived.Below
namespace Go.Proofs.Ytdnnlfdblfcajaa.Gr
open Go.RowKit Go.Proofs.YtdnnlfdblfcajaaW.PrintWords
theorem inR_of_wf {x : Int} (h : (Lit.int .i64 x).wf = true) : InR x := by
  have h1 : decide (IntKind.i64.min ≤ x) = true ∧ decide (x ≤ IntKind.i64.max) = true := by
    simpa only [Lit.wf, Bool.and_eq_true] using h
  rw [decide_eq_true_eq, decide_eq_true_eq] at h1
  exact h1
theorem open_raws {H : Type} {enc : TypeId × Value → H} {w : World} {base : Nat} {spare : Nat → Bool} {held : Bool} {fuel : Nat} {a : Option Addr} {len cap : Nat} {x : DataW H × List MemPlace} (h : DataW.trod enc Try.prog w base spare held fuel 22 [.slice a len cap] = some x) :
    ∃ ls : List (Int × Int × Int), len = ls.length ∧ ReadsRow RK 3 w a ls.length ls ∧ ∀ x ∈ ls, InR x.1 ∧ InR x.2.1 ∧ InR x.2.2 := by
  have hc3 : Try.prog.cellsOf 3 = 1 := by kernel_rfl
  have hc38 : Try.prog.cellsOf 38 = 3 := by kernel_rfl
  rcases Deep.open_slice Try.underlying22 h with ⟨h1, _⟩ | ⟨ad, len', cap', m, n, D, Pl, h1, _, hl, hm, hmm, _, hx⟩
  · simp only [List.cons.injEq, Value.slice.injEq, and_true] at h1
    obtain ⟨rfl, rfl, rfl⟩ := h1
    exact ⟨[], rfl, ⟨rfl, by simp, fun h => absurd h (Nat.lt_irrefl 0)⟩, fun x hx => by cases hx⟩
  · simp only [List.cons.injEq, Value.slice.injEq, and_true] at h1
    obtain ⟨rfl, rfl, rfl⟩ := h1
    have hlm : len ≤ m := by rw [hmm]; split <;> omega
    rw [hc38] at hx
    have key : ∀ i, ∃ r : Int × Int × Int, i < len → (InR r.1 ∧ InR r.2.1 ∧ InR r.2.2) ∧ w.cell? (ad.add (i * 3 + 0)) = some (.int .i64 r.1) ∧ w.cell? (ad.add (i * 3 + 1)) = some (.int .i64 r.2.1) ∧ w.cell? (ad.add (i * 3 + 2)) = some (.int .i64 r.2.2) := by
      intro i
      by_cases hi : i < len
      · obtain ⟨cs', q1, q2⟩ := hx i (by omega)
        obtain ⟨_, hlen, q3⟩ := World.cells?_some q1
        match cs', hlen with
        | [c0, c1, c2], _ =>
          obtain ⟨y0, y1, y2, n2, _, t0, t1, t2⟩ := Go.ChangeShapes.trod_array3 Try.underlying38 hc3 q2
          obtain ⟨k0, e0, _, w0⟩ := DataW.trod_int Try.underlying3 t0
          obtain ⟨k1, e1, _, w1⟩ := DataW.trod_int Try.underlying3 t1
          obtain ⟨k2, e2, _, w2⟩ := DataW.trod_int Try.underlying3 t2
          injection e0 with e0
          injection e1 with e1
          injection e2 with e2
          subst e0 e1 e2
          refine ⟨(k0, k1, k2), fun _ => ⟨⟨inR_of_wf w0, inR_of_wf w1, inR_of_wf w2⟩, ?_, ?_, ?_⟩⟩
          · rw [← Deep.add_add]; exact q3 0 (by omega)
          · rw [← Deep.add_add]; exact q3 1 (by omega)
          · rw [← Deep.add_add]; exact q3 2 (by omega)
      · exact ⟨(0, 0, 0), fun h => absurd h hi⟩
    refine ⟨(List.range len).map fun i => Classical.choose (key i), by simp, ⟨rfl, ?_, fun _ => ⟨ad, rfl, fun j p hj => ?_⟩⟩, fun x hx => ?_⟩
    · simp only [List.length_map, List.length_range]
      simp only [maxLen] at hm
      omega
    · have hjl : j < len := by have := (List.getElem?_eq_some_iff.1 hj).1; simpa using this
      have hp : p = Classical.choose (key j) := by
        rw [List.getElem?_map, List.getElem?_range hjl] at hj
        simpa using hj.symm
      have hk := Classical.choose_spec (key j) hjl
      rw [← hp] at hk
      refine ⟨[.int .i64 p.1, .int .i64 p.2.1, .int .i64 p.2.2], rfl, rfl, fun i u hi => ?_⟩
      have hi3 : i < 3 := by have := (List.getElem?_eq_some_iff.1 hi).1; simpa using this
      match i, hi3 with
      | 0, _ => simp at hi; subst hi; exact hk.2.1
      | 1, _ => simp at hi; subst hi; exact hk.2.2.1
      | 2, _ => simp at hi; subst hi; exact hk.2.2.2
    · obtain ⟨i, hi, rfl⟩ := List.mem_map.1 hx
      exact (Classical.choose_spec (key i) (List.mem_range.1 hi)).1
end Go.Proofs.Ytdnnlfdblfcajaa.Gr
