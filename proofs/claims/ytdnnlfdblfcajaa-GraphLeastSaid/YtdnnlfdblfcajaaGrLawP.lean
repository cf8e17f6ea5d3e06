/- The graph's laws, without Go. No conditions. -/
import Derived.Test.YtdnnlfdblfcajaaGrEdges
namespace Go.Proofs.Ytdnnlfdblfcajaa.Gr
open Go.RowKit Go.Proofs.YtdnnlfdblfcajaaW.PrintWords
def five : List ByteArray := [nm 0, nm 1, nm 2, nm 3, nm 4]
theorem nm_five {i : Nat} (h : i < 5) : nm i ∈ five := by
  match i, h with
  | 0, _ | 1, _ | 2, _ | 3, _ | 4, _ => simp [five]
theorem nodup_le {κ : Type} [DecidableEq κ] : ∀ (A B : List κ), A.Nodup → (∀ x ∈ A, x ∈ B) → A.length ≤ B.length := by
  intro A
  induction A with
  | nil => intro B _ _; simp
  | cons x r ih =>
    intro B hA hB
    rw [List.nodup_cons] at hA
    obtain ⟨l1, l2, e⟩ := List.append_of_mem (hB x (by simp))
    have := ih (l1 ++ l2) hA.2 (fun y hy => by
      have h1 := hB y (List.mem_cons_of_mem _ hy)
      rw [e] at h1
      have h2 : y ≠ x := by rintro rfl; exact hA.1 hy
      simpa [h2] using h1)
    rw [e]
    simp at this ⊢
    omega
def Five (es : List Ed) : Prop := ∀ e ∈ es, E5 e
theorem best_five {es : List Ed} (h : Five es) {a b : ByteArray} {c : Int} (hb : best es a b = some c) : a ∈ five ∧ b ∈ five ∧ 1 ≤ c ∧ c ≤ 6 := by
  have hp := best_pos hb
  obtain ⟨e, he, _, rfl, rfl, rfl⟩ := best_some hb
  obtain ⟨i, j, k, hi, hj, hk, rfl⟩ := h e he
  exact ⟨nm_five hi, nm_five hj, hp.2.1, by simp; omega⟩
theorem path_five {es : List Ed} (h : Five es) {a b : ByteArray} {vs : List ByteArray} {k : Int} (hp : Path (best es) a vs b k) : (∀ x ∈ vs, x ∈ five) ∧ k ≤ 6 * vs.length := by
  induction hp with
  | nil => simp
  | cons hc _ ih =>
    have := best_five h hc
    refine ⟨fun x hx => ?_, ?_⟩
    · rcases List.mem_cons.1 hx with rfl | hx
      · exact this.2.1
      · exact ih.1 x hx
    · rw [List.length_cons]
      have := ih.2
      omega
theorem best_ge {es : List Ed} : ∀ a b c, best es a b = some c → 1 ≤ c := fun _ _ _ h => (best_pos h).2.1
theorem dist_le {es : List Ed} (h : Five es) {a b : ByteArray} (ha : a ∈ five) {d : Int} (hd : IsDist (best es) a b d) : 1 ≤ d ∧ d ≤ 30 := by
  refine ⟨hd.1.pos best_ge, ?_⟩
  have key : ∀ {u : ByteArray} {d : Int}, u ∈ five → u ≠ b → IsDist (best es) u b d → d ≤ 24 := by
    intro u d hu hub hd
    obtain ⟨vs, hp, hn⟩ := hd.simple best_ge hub
    obtain ⟨h1, h2⟩ := path_five h hp
    have := nodup_le (u :: vs) five hn (fun x hx => by
      rcases List.mem_cons.1 hx with rfl | hx
      · exact hu
      · exact h1 x hx)
    simp [five] at this
    omega
  by_cases hab : a = b
  · subst hab
    cases hd.1 with
    | one hc => exact absurd rfl (best_pos hc).1
    | @cons _ x _ c k hc hw =>
      have h1 := best_five h hc
      obtain ⟨d', hd'⟩ := exists_dist best_ge hw
      have h2 := key h1.2.1 (fun e => (best_pos hc).1 e.symm) hd'
      have h3 := hd.2 _ (.cons hc hd'.1)
      have h4 := hd'.2 _ hw
      omega
  · have := key ha hab hd
    omega
theorem best_sym {es : List Ed} (hs : ∀ e ∈ es, (⟨e.B, e.A, e.c⟩ : Ed) ∈ es) : ∀ a b c, best es a b = some c → best es b a = some c := by
  have key : ∀ a b c, best es a b = some c → ∃ c', best es b a = some c' ∧ c' ≤ c := by
    intro a b c h
    obtain ⟨e, he, hc, rfl, rfl, rfl⟩ := best_some h
    have := best_le (hs e he) (by rw [counts_iff] at hc ⊢; exact ⟨fun h => hc.1 h.symm, hc.2⟩)
    exact this
  intro a b c h
  obtain ⟨c', h1, h2⟩ := key a b c h
  obtain ⟨c'', h3, h4⟩ := key b a c' h1
  rw [h] at h3
  injection h3 with h3
  have : c' = c := by omega
  rw [h1, this]
theorem DistIs.mapped {t t' : ByteArray → ByteArray → Option Int} {a b a' b' : ByteArray} {r : Int × Bool} (h1 : ∀ d, Walk t a b d → Walk t' a' b' d) (h2 : ∀ d, Walk t' a' b' d → Walk t a b d) (h : DistIs t a b r) : DistIs t' a' b' r := by
  rcases h with ⟨h3, h4⟩ | ⟨h3, h4⟩
  · exact .inl ⟨h3, h1 _ h4.1, fun d hd => h4.2 _ (h2 _ hd)⟩
  · exact .inr ⟨h3, fun d hd => h4 _ (h2 _ hd)⟩
/-- what DistIs tells: the walk, the bound -/
theorem DistIs.true_ {t : ByteArray → ByteArray → Option Int} {a b : ByteArray} {x : Int} (h : DistIs t a b (x, true)) : IsDist t a b x := by
  rcases h with ⟨_, h⟩ | ⟨h, _⟩
  · exact h
  · cases h
theorem DistIs.false_ {t : ByteArray → ByteArray → Option Int} {a b : ByteArray} {x : Int} (h : DistIs t a b (x, false)) : x = 0 ∧ ∀ d, ¬ Walk t a b d := by
  rcases h with ⟨h, _⟩ | ⟨h, h2⟩
  · cases h
  · exact ⟨by injection h, h2⟩
theorem DistIs.of_walk {t : ByteArray → ByteArray → Option Int} {a b : ByteArray} {r : Int × Bool} {d : Int} (h : DistIs t a b r) (hw : Walk t a b d) : r.2 = true ∧ r.1 ≤ d := by
  rcases h with ⟨h1, h2⟩ | ⟨_, h2⟩
  · exact ⟨h1, h2.2 _ hw⟩
  · exact absurd hw (h2 d)
theorem E5_size {es : List Ed} (h : Five es) : ∀ e ∈ es, e.B.size ≤ maxLen := by
  intro e he
  obtain ⟨i, j, k, hi, hj, hk, rfl⟩ := h e he
  show (nm j).size ≤ maxLen
  match j, hj with
  | 0, _ | 1, _ | 2, _ | 3, _ | 4, _ => decide
/-- what the law's edges are -/
structure EdgesIs (w : World) (both : Bool) (A : Option Addr) (c : Nat) (es : List Ed) (w' : World) : Prop where
  row : KE.R 40 w' w.heap.size (fun _ => True) (.slice A es.length c) es
  reads : ReadsRow EK 3 w' A es.length es
  len : es.length ≤ 24
  five : Five es
  sym : both = true → ∀ e ∈ es, (⟨e.B, e.A, e.c⟩ : Ed) ∈ es
  below : Below w.heap.size w w'
theorem edges_is (A : Option Addr) (cap : Nat) (ls : List (Int × Int × Int)) (both : Bool) (w : World) (hr : ReadsRow RK 3 w A ls.length ls) (hi : ∀ x ∈ ls, InR x.1 ∧ InR x.2.1 ∧ InR x.2.2) :
    Calls Try.prog 9 #[.slice A ls.length cap, .bool both] w fun e w' => ∃ A c es, e = .returned (.slice A es.length c) ∧ EdgesIs w both A c es w' := by
  refine (edges_calls A cap ls both w hr hi).mono ?_
  rintro e w' ⟨v, es, rfl, h1, h2, h3, h4, h5⟩
  obtain ⟨A2, c2, rfl, _, hC⟩ := Kd.R_reads h1
  exact ⟨A2, c2, es, rfl, h1, KE_C hC, h2, h3, h4, h5⟩
end Go.Proofs.Ytdnnlfdblfcajaa.Gr
