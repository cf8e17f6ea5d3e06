/- GraphLeast, without Go: what Ways answers among five nodes. No conditions. -/
import Derived.Test.YtdnnlfdblfcajaaGrLawP
namespace Go.Proofs.Ytdnnlfdblfcajaa.Gr
open Go.RowKit Go.Proofs.YtdnnlfdblfcajaaW.PrintWords
theorem nbs_nodup (es : List Ed) (u : ByteArray) : (nbs (tab es) u).Nodup := by
  unfold nbs
  refine (skeys_perm _).nodup_iff.2 ?_
  cases hg : get (tab es) u with
  | none => simp
  | some m => exact (tab_ok es).inner _ (mem_of_get hg)
theorem mem_nbs' {es : List Ed} {u x : ByteArray} : x ∈ nbs (tab es) u ↔ ∃ c, best es u x = some c := by
  rw [mem_nbs]
  simp only [cst_tab]
theorem rest_five {a : ByteArray} : (rest five [a]).length ≤ 5 := Nat.le_trans (List.length_filter_le _ _) (by simp [five])
theorem waylist_len {es : List Ed} (h5 : Five es) {a b : ByteArray} : (wayList (tab es) a b).length < 1000 := by
  unfold wayList
  split
  · simp
  · have h : (ways (nbs (tab es)) b 100001 [a] a []).length ≤ ([] : List (List ByteArray)).length + fact (rest five [a]).length := ways_count (nb := nbs (tab es)) (U := five) (fun u x hx => by obtain ⟨c, hc⟩ := mem_nbs'.1 hx; exact (best_five h5 hc).2.1) (nbs_nodup es) b 100001 [a] a []
    have h2 : ∀ m n : Nat, m ≤ n → fact m ≤ fact n := by
      intro m n h
      induction n with
      | zero => obtain rfl : m = 0 := by omega
                exact Nat.le_refl _
      | succ n ih =>
        by_cases e : m = n + 1
        · subst e; exact Nat.le_refl _
        · have h6 := ih (by omega)
          have h7 : 1 * fact n ≤ (n + 1) * fact n := Nat.mul_le_mul_right _ (by omega)
          show fact m ≤ (n + 1) * fact n
          omega
    have h3 := h2 _ _ (rest_five (a := a))
    have h4 : fact 5 = 120 := by decide
    simp only [List.length_nil] at h
    omega
/-- what each way is: from a, over simple steps, to b -/
theorem way_is {es : List Ed} {a b : ByteArray} {w : List ByteArray} (h : w ∈ wayList (tab es) a b) : a ≠ b ∧ ∃ vs k, w = a :: vs ∧ vs ≠ [] ∧ Path (best es) a vs b k ∧ w.Nodup := by
  unfold wayList at h
  split at h
  · simp at h
  · rename_i hab
    have h2 := ways_sound (t := best es) (nb := nbs (tab es)) (fun u x hx => mem_nbs'.1 hx) b 100001 [a] a [] (by simp) rfl w h
    rcases h2 with h2 | ⟨vs, k, rfl, hp, hn⟩
    · simp at h2
    · refine ⟨hab, vs, k, rfl, ?_, hp, hn⟩
      rintro rfl
      cases hp
      exact hab rfl
theorem way_all {es : List Ed} (h5 : Five es) {a b : ByteArray} (hab : a ≠ b) {vs : List ByteArray} {k : Int} (hp : Path (best es) a vs b k) (hn : (a :: vs).Nodup) (hl : vs.length < 100001) : a :: vs ∈ wayList (tab es) a b := by
  have hlen := waylist_len h5 (a := a) (b := b)
  unfold wayList at hlen ⊢
  rw [if_neg hab] at hlen ⊢
  exact ways_complete (t := best es) (nb := nbs (tab es)) (fun u x c hc => mem_nbs'.2 ⟨c, hc⟩) b vs 100001 [a] a [] k hl hp hn rfl hlen
/-- a path's cost, as Cost reckons it -/
theorem cost_path {es : List Ed} (h5 : Five es) {a b : ByteArray} {vs : List ByteArray} {k : Int} (hp : Path (best es) a vs b k) : ∀ s : Int, 0 ≤ s → s + 6 * vs.length ≤ 1000000 → costFrom (best es) a vs s = (s + k, true) := by
  induction hp with
  | nil => intro s _ _; simp [costFrom]
  | @cons u x v vs c k hc _ ih =>
    intro s h0 h1
    have h2 := best_five h5 hc
    rw [List.length_cons] at h1
    simp only [costFrom, hc]
    have : wrap64 (s + c) = s + c := by unfold wrap64; omega
    rw [this, ih (s + c) (by omega) (by omega), Int.add_assoc]
theorem way_cost {es : List Ed} (h5 : Five es) {a b : ByteArray} {vs : List ByteArray} {k : Int} (hne : vs ≠ []) (hp : Path (best es) a vs b k) (hl : vs.length ≤ 1000) : cost (best es) (a :: vs) = (k, true) := by
  cases vs with
  | nil => exact absurd rfl hne
  | cons x r =>
    show costFrom (best es) a (x :: r) 0 = _
    rw [cost_path h5 hp 0 (Int.le_refl _) (by rw [List.length_cons] at hl ⊢; omega)]
    simp
/-- GraphLeast's facts at one way -/
structure WayOk (es : List Ed) (a b : ByteArray) (d : Int) (w : List ByteArray) : Prop where
  cost : ∃ k, cost (best es) w = (k, true) ∧ d ≤ k
  first : w[0]? = some a
  last : w.getLast? = some b
  pos : 0 < w.length
  nodup : w.Nodup
theorem way_ok {es : List Ed} (h5 : Five es) {a b : ByteArray} (ha : a ∈ five) {r : Int × Bool} (hd : DistIs (best es) a b r) {w : List ByteArray} (h : w ∈ wayList (tab es) a b) : r.2 = true ∧ WayOk es a b r.1 w := by
  obtain ⟨hab, vs, k, rfl, hne, hp, hn⟩ := way_is h
  have hl := nodup_le (a :: vs) five hn (fun x hx => by
    rcases List.mem_cons.1 hx with rfl | hx
    · exact ha
    · exact (path_five h5 hp).1 x hx)
  simp only [five, List.length_cons, List.length_nil] at hl
  have := hd.of_walk (hp.walk hne)
  exact ⟨this.1, ⟨k, way_cost h5 hne hp (by omega), this.2⟩, rfl, hp.ends, by simp, hn⟩
theorem least_there {es : List Ed} (h5 : Five es) {a b : ByteArray} (ha : a ∈ five) (hab : a ≠ b) {d : Int} (hd : IsDist (best es) a b d) : ∃ w ∈ wayList (tab es) a b, (cost (best es) w).1 = d := by
  obtain ⟨vs, hp, hn⟩ := hd.simple best_ge hab
  have hne : vs ≠ [] := by
    rintro rfl
    cases hp
    exact hab rfl
  have hl := nodup_le (a :: vs) five hn (fun x hx => by
    rcases List.mem_cons.1 hx with rfl | hx
    · exact ha
    · exact (path_five h5 hp).1 x hx)
  simp only [five, List.length_cons, List.length_nil] at hl
  exact ⟨a :: vs, way_all h5 hab hp hn (by omega), by rw [way_cost h5 hne hp (by omega)]⟩
end Go.Proofs.Ytdnnlfdblfcajaa.Gr
