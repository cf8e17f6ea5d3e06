/- The chapter's example, without Go. No conditions. -/
import Derived.Test.YtdnnlfdblfcajaaGrNames
namespace Go.Proofs.Ytdnnlfdblfcajaa.Gr
def xX : ByteArray := ⟨#[120]⟩
def xY : ByteArray := ⟨#[121]⟩
def xZ : ByteArray := ⟨#[122]⟩
theorem xy : xX ≠ xY := by decide
theorem yz : xY ≠ xZ := by decide
theorem xz : xX ≠ xZ := by decide
def exL : List Ed := [⟨xX, xY, 1⟩, ⟨xY, xZ, 2⟩, ⟨xX, xZ, 5⟩]
theorem exTab : tab exL = [(xX, [(xY, 1), (xZ, 5)]), (xY, [(xZ, 2)])] := by decide +kernel
theorem exBest {a b : ByteArray} {c : Int} (h : best exL a b = some c) : (a = xX ∧ b = xY ∧ c = 1) ∨ (a = xY ∧ b = xZ ∧ c = 2) ∨ (a = xX ∧ b = xZ ∧ c = 5) := by
  obtain ⟨e, he, _, rfl, rfl, rfl⟩ := best_some h
  simp only [exL, List.mem_cons, List.not_mem_nil, or_false] at he
  rcases he with rfl | rfl | rfl
  · exact .inl ⟨rfl, rfl, rfl⟩
  · exact .inr (.inl ⟨rfl, rfl, rfl⟩)
  · exact .inr (.inr ⟨rfl, rfl, rfl⟩)
theorem exB1 : best exL xX xY = some 1 := by decide +kernel
theorem exB2 : best exL xY xZ = some 2 := by decide +kernel
theorem exB3 : best exL xX xZ = some 5 := by decide +kernel
theorem exWalkZ {b : ByteArray} {d : Int} (h : Walk (best exL) xZ b d) : False := by
  cases h with
  | one h => rcases exBest h with ⟨h, _⟩ | ⟨h, _⟩ | ⟨h, _⟩ <;> first | exact xz h.symm | exact yz h.symm
  | cons h _ => rcases exBest h with ⟨h, _⟩ | ⟨h, _⟩ | ⟨h, _⟩ <;> first | exact xz h.symm | exact yz h.symm
theorem exWalkY {b : ByteArray} {d : Int} (h : Walk (best exL) xY b d) : b = xZ ∧ d = 2 := by
  cases h with
  | one h =>
    rcases exBest h with ⟨h, _⟩ | ⟨_, h, h2⟩ | ⟨h, _⟩
    · exact absurd h xy.symm
    · exact ⟨h, h2⟩
    · exact absurd h xy.symm
  | cons h k =>
    rcases exBest h with ⟨h, _⟩ | ⟨_, h, h2⟩ | ⟨h, _⟩
    · exact absurd h xy.symm
    · subst h; exact (exWalkZ k).elim
    · exact absurd h xy.symm
theorem exWalkX {b : ByteArray} {d : Int} (h : Walk (best exL) xX b d) : (b = xY ∧ d = 1) ∨ (b = xZ ∧ 3 ≤ d) := by
  cases h with
  | one h =>
    rcases exBest h with ⟨_, h, h2⟩ | ⟨h, _⟩ | ⟨_, h, h2⟩
    · exact .inl ⟨h, h2⟩
    · exact absurd h xy
    · exact .inr ⟨h, by omega⟩
  | cons h k =>
    rcases exBest h with ⟨_, h, h2⟩ | ⟨h, _⟩ | ⟨_, h, h2⟩
    · subst h; obtain ⟨h3, h4⟩ := exWalkY k; exact .inr ⟨h3, by omega⟩
    · exact absurd h xy
    · subst h; exact (exWalkZ k).elim
theorem exDist {r : Int × Bool} (h : DistIs (best exL) xX xZ r) : r = (3, true) := by
  refine h.unique (.inl ⟨rfl, .cons exB1 (.one exB2), fun d hd => ?_⟩)
  rcases exWalkX hd with ⟨h, _⟩ | ⟨_, h⟩
  · exact absurd h yz.symm
  · exact h
theorem exNo {r : Int × Bool} (h : DistIs (best exL) xZ xX r) : r = (0, false) := h.unique (.inr ⟨rfl, fun _ hd => exWalkZ hd⟩)
theorem exCost : cost (best exL) [xX, xZ] = (5, true) := by
  simp only [cost, costFrom, exB3]
  have : RowKit.wrap64 (0 + 5) = 5 := by unfold RowKit.wrap64; rfl
  rw [this]
theorem exReach {ss : List ByteArray} (hs : ss.Pairwise (fun x y => bleB x y = true)) (hn : ss.Nodup) (h : ∀ b, b ∈ ss ↔ ∃ d, Walk (best exL) xX b d) : ss = [xY, xZ] := by
  have h1 : ∀ b, b ∈ ss ↔ b ∈ [xY, xZ] := by
    intro b
    rw [h]
    constructor
    · rintro ⟨d, hd⟩
      rcases exWalkX hd with ⟨h, _⟩ | ⟨h, _⟩ <;> simp [h]
    · intro hb
      simp at hb
      rcases hb with rfl | rfl
      · exact ⟨1, .one exB1⟩
      · exact ⟨5, .one exB3⟩
  have hp : ss.Perm [xY, xZ] := (List.perm_ext_iff_of_nodup hn (by simp [yz])).2 h1
  refine hp.eq_of_pairwise (le := fun x y => bleB x y = true) ?_ hs (by simp; decide +kernel)
  intro a b _ _ h1 h2
  exact ble_antisymm h1 h2
theorem exNbX : nbs (tab exL) xX = [xY, xZ] := by
  have : (get (tab exL) xX).getD [] = [(xY, 1), (xZ, 5)] := by decide +kernel
  unfold nbs skeys
  rw [this]
  exact List.mergeSort_of_pairwise (by simp; decide +kernel)
theorem exNbY : nbs (tab exL) xY = [xZ] := by
  have : (get (tab exL) xY).getD [] = [(xZ, 2)] := by decide +kernel
  unfold nbs skeys
  rw [this]
  exact List.mergeSort_of_pairwise (by simp)
theorem exWays : wayList (tab exL) xX xZ = [[xX, xY, xZ], [xX, xZ]] := by
  have key : ∀ f, ways (nbs (tab exL)) xZ (f + 3) [xX] xX [] = [[xX, xY, xZ], [xX, xZ]] := by
    intro f
    have hz : ∀ g so out, ways (nbs (tab exL)) xZ (g + 1) so xZ out = out ++ [so] := fun g so out => by rw [ways, if_pos rfl]
    have tY : turn (nbs (tab exL)) xZ (f + 2) [xX] [] xY = [[xX, xY, xZ]] := by
      rw [turn_pos _ _ _ _ _ _ (by simp) (by simp [xy.symm]), ways_turn _ _ _ _ _ _ yz, exNbY]
      simp only [List.foldl_cons, List.foldl_nil]
      rw [turn_pos _ _ _ _ _ _ (by simp) (by simp [xz.symm, yz.symm]), hz]
      rfl
    have tZ : turn (nbs (tab exL)) xZ (f + 2) [xX] [[xX, xY, xZ]] xZ = [[xX, xY, xZ], [xX, xZ]] := by
      rw [turn_pos _ _ _ _ _ _ (by simp) (by simp [xz.symm]), hz]
      rfl
    rw [ways_turn _ _ _ _ _ _ xz, exNbX]
    simp only [List.foldl_cons, List.foldl_nil]
    rw [tY, tZ]
  unfold wayList
  rw [if_neg xz]
  exact key 99998
end Go.Proofs.Ytdnnlfdblfcajaa.Gr
