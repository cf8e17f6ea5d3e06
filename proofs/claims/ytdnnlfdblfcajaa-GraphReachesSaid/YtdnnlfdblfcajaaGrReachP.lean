/- GraphReaches, without Go: a rising list of some of the five names, name by name. No conditions. -/
import Derived.Test.YtdnnlfdblfcajaaGrLawP
namespace Go.Proofs.Ytdnnlfdblfcajaa.Gr
open Go.RowKit Go.Proofs.YtdnnlfdblfcajaaW.PrintWords
theorem five_eq : five = (List.range 5).map nm := by decide
theorem nm_inj : ∀ i j, i < 5 → j < 5 → nm i = nm j → i = j := by
  intro i j hi hj
  match i, hi, j, hj with
  | 0, _, 0, _ | 1, _, 1, _ | 2, _, 2, _ | 3, _, 3, _ | 4, _, 4, _ => intro _; rfl
  | 0, _, 1, _ | 0, _, 2, _ | 0, _, 3, _ | 0, _, 4, _ | 1, _, 0, _ | 1, _, 2, _ | 1, _, 3, _ | 1, _, 4, _ | 2, _, 0, _ | 2, _, 1, _ | 2, _, 3, _ | 2, _, 4, _ | 3, _, 0, _ | 3, _, 1, _ | 3, _, 2, _ | 3, _, 4, _ | 4, _, 0, _ | 4, _, 1, _ | 4, _, 2, _ | 4, _, 3, _ => intro h; exact absurd h (by decide)
theorem five_sorted : five.Pairwise (fun x y => bleB x y = true) := by
  simp only [five]
  decide +kernel
theorem five_nodup : five.Nodup := by
  simp only [five]
  decide +kernel
open Classical in
theorem ss_eq {ss : List ByteArray} (hs : ss.Pairwise (fun x y => bleB x y = true)) (hn : ss.Nodup) (h5 : ∀ x ∈ ss, x ∈ five) : ∃ P : Nat → Bool, (∀ i, i < 5 → (P i = true ↔ nm i ∈ ss)) ∧ ss = ((List.range 5).filter P).map nm := by
  refine ⟨fun i => decide (nm i ∈ ss), fun i _ => by simp, ?_⟩
  have h1 : ((List.range 5).filter fun i => decide (nm i ∈ ss)).map nm = five.filter fun x => decide (x ∈ ss) := by
    rw [five_eq, List.filter_map]
    rfl
  rw [h1]
  have hp : ss.Perm (five.filter fun x => decide (x ∈ ss)) := (List.perm_ext_iff_of_nodup hn (five_nodup.filter _)).2 (by
    intro x
    rw [List.mem_filter]
    constructor
    · intro h; exact ⟨h5 x h, by simpa using h⟩
    · intro h; simpa using h.2)
  refine hp.eq_of_pairwise (le := fun x y => bleB x y = true) ?_ hs (five_sorted.filter _)
  intro a b _ _ h1 h2
  exact ble_antisymm h1 h2
/-- how many of the first i names are there -/
def cnt (P : Nat → Bool) (i : Nat) : Nat := ((List.range i).filter P).length
theorem cnt_succ (P : Nat → Bool) (i : Nat) : cnt P (i + 1) = cnt P i + (if P i = true then 1 else 0) := by
  unfold cnt
  rw [List.range_succ, List.filter_append, List.length_append]
  congr 1
  by_cases h : P i = true <;> simp [h]
theorem at_cnt {ss : List ByteArray} {P : Nat → Bool} (hss : ss = ((List.range 5).filter P).map nm) {i : Nat} (hi : i < 5) (hP : P i = true) : ∃ h : cnt P i < ss.length, ss[cnt P i] = nm i := by
  have h1 : List.range 5 = List.range i ++ i :: (List.range (5 - (i + 1))).map (i + 1 + ·) := by
    have h2 := @List.range_add (i + 1) (5 - (i + 1))
    rw [show i + 1 + (5 - (i + 1)) = 5 by omega] at h2
    rw [h2, List.range_succ, List.append_assoc]
    rfl
  have h3 : (List.range 5).filter P = (List.range i).filter P ++ i :: ((List.range (5 - (i + 1))).map (i + 1 + ·)).filter P := by
    rw [h1, List.filter_append, List.filter_cons_of_pos hP]
  have h4 : ss = ((List.range i).filter P).map nm ++ nm i :: (((List.range (5 - (i + 1))).map (i + 1 + ·)).filter P).map nm := by
    rw [hss, h3, List.map_append, List.map_cons]
  have h5 : cnt P i = (((List.range i).filter P).map nm).length := by simp [cnt]
  have h6 : ss[cnt P i]? = some (nm i) := by
    rw [h4, h5, List.getElem?_append_right (Nat.le_refl _)]
    simp
  obtain ⟨h7, h8⟩ := List.getElem?_eq_some_iff.1 h6
  exact ⟨h7, h8⟩
theorem cnt_all {ss : List ByteArray} {P : Nat → Bool} (hss : ss = ((List.range 5).filter P).map nm) : cnt P 5 = ss.length := by
  rw [hss]
  simp [cnt]
theorem cnt_le {ss : List ByteArray} {P : Nat → Bool} (hss : ss = ((List.range 5).filter P).map nm) {i : Nat} (hi : i ≤ 5) : cnt P i ≤ ss.length := by
  rw [← cnt_all hss]
  have : ∀ d, cnt P i ≤ cnt P (i + d) := by
    intro d
    induction d with
    | zero => exact Nat.le_refl _
    | succ d ih => rw [← Nat.add_assoc, cnt_succ]; omega
  have h := this (5 - i)
  rwa [show i + (5 - i) = 5 by omega] at h
end Go.Proofs.Ytdnnlfdblfcajaa.Gr
