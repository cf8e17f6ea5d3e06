/- slices.SortFunc, called on graph.far's queue: what it leaves is a permutation by rising cost, in the same row. No conditions. -/
import Derived.Test.YtdnnlfdblfcajaaGrSort
import Derived.Test.YtdnnlfdblfcajaaGrLay
namespace Go.Proofs.Ytdnnlfdblfcajaa.Gr
open Go.RowKit Go.Sort Go.Shelf Go.Lib Go.Proofs.YtdnnlfdblfcajaaW.PrintWords
instance : Inhabited Rch := ⟨(ByteArray.empty, 0)⟩
theorem ltR (x y : Rch) : ltOf cfR x y = decide (x.2 < y.2) := by
  unfold ltOf cfR Lib.compareInt
  by_cases h1 : x.2 < y.2
  · simp [h1]
  · by_cases h2 : y.2 < x.2 <;> simp [h1, h2]
theorem swoR : SWO (ltOf cfR) where
  irrefl x := by rw [ltR]; simp
  trans x y z h1 h2 := by rw [ltR] at *; simp at *; omega
  ntrans x y z h1 h2 := by rw [ltR] at *; simp at *; omega
theorem cmpLays31 (blk off size : Nat) (w : World) : CmpLays Try.prog 31 #[] encR 2 cfR blk off size w := fun _ _ _ _ x y => closure31 x y _
theorem sort_calls (w : World) (base : Nat) (v : Value) (q : List Rch) (hq : QU w base v q) (hn : 0 < q.length) (hl : q.length < 4611686018427387904) :
    Calls Try.prog 30 #[v, .func (.func 31) #[] #[]] w fun e w' => e = .returned (.tuple #[]) ∧ ∃ q', q'.Perm q ∧ (∀ x r, q' = x :: r → ∀ p ∈ r, x.2 ≤ p.2) ∧ QU w' base v q' ∧ w.grownBy w' v.ownBlock := by
  rcases hq.2 with ⟨h0, _⟩ | ⟨g, off, cap, cur, rfl, hb, hh, hc, hm, hs, ht⟩
  · omega
  · have eg : ∀ args w, (callFunc 31 args).run Try.prog w = .ok (.enter 31 args) w := enters_of Try.func31 (by kernel_rfl) rfl
    have hcon := AnyQ.slices_SortFunc Try.sortR 2 Try.isAgg59 Try.sizeOf59 encR (fun _ => rfl) (fun x u hu => by simp [encR] at hu; rcases hu with rfl | rfl <;> rfl) cfR swoR 31 #[] g (off * 2) cap q.toArray w eg (cmpLays31 g (off * 2) _ w) (QU.holds hh ht) (Array.getElem?_eq_some_iff.1 hh).1 (by simpa using hl)
    change Calls Try.prog 30 _ _ _ at hcon
    refine hcon.mono ?_
    rintro e w' ⟨rfl, d', n, os, hp, hsd, rfl⟩
    have hsz : d'.size = q.length := by have := hp.1; simpa using this
    have hperm : d'.toList.Perm q := by
      have := hp.2.2
      rw [show q.toArray.size = d'.size by rw [hsz]; simp] at this
      rw [Array.extract_size] at this
      have h2 : (q.toArray.extract 0 d'.size).toList = q := by rw [hsz]; simp
      rwa [h2] at this
    obtain ⟨h1, h2⟩ := QU.sorted (q' := d'.toList) hb hh hc hm hs hperm.length_eq n os
    rw [Array.toArray_toList] at h1 h2
    refine ⟨rfl, d'.toList, hperm, fun x r hxr p hpr => ?_, h1, h2⟩
    obtain ⟨j, hj, rfl⟩ := List.getElem_of_mem hpr
    have hjl : j + 1 < d'.size := by
      have := congrArg List.length hxr
      simp at this
      omega
    have h3 := hsd 0 (j + 1) (Nat.le_refl _) (by omega) (by simpa [hsz] using hjl)
    have hd : ∀ i (hi : i < d'.size), d'[i]! = (x :: r)[i]'(by rw [← hxr]; simpa using hi) := by
      intro i hi
      rw [getElem!_pos d' i hi, ← Array.getElem_toList]
      simp only [hxr]
    rw [hd 0 (by omega), hd (j + 1) hjl, ltR] at h3
    simp at h3
    exact h3
end Go.Proofs.Ytdnnlfdblfcajaa.Gr
