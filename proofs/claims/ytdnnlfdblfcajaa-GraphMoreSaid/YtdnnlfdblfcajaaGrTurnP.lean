/- GraphTurned, without Go: all edges turned about, all costs times a number. No conditions. -/
import Derived.Test.YtdnnlfdblfcajaaGrLawP
namespace Go.Proofs.Ytdnnlfdblfcajaa.Gr
open Go.RowKit Go.Proofs.YtdnnlfdblfcajaaW.PrintWords
def swp (e : Ed) : Ed := ⟨e.B, e.A, e.c⟩
def scl (n : Int) (e : Ed) : Ed := ⟨e.A, e.B, e.c * n⟩
theorem best_swp (es : List Ed) (a b : ByteArray) : best (es.map swp) b a = best es a b := by
  unfold best
  rw [List.foldl_map]
  congr 1
  funext o e
  unfold bestStep
  have h1 : counts (swp e) = counts e := by
    by_cases h : e.A = e.B
    · simp [counts, swp, h]
    · have : ¬ e.B = e.A := fun h' => h h'.symm
      simp [counts, swp, h, this]
      rfl
  rw [h1]
  by_cases hc : counts e = true ∧ e.A = a ∧ e.B = b
  · rw [if_pos hc, if_pos ⟨hc.1, hc.2.2, hc.2.1⟩]
    rfl
  · rw [if_neg hc, if_neg (fun h => hc ⟨h.1, h.2.2, h.2.1⟩)]
theorem counts_scl {n : Int} (hn : 1 ≤ n) (hn2 : n ≤ 1000) {e : Ed} (h0 : 0 ≤ e.c) (h6 : e.c ≤ 6) : counts (scl n e) = counts e := by
  have h1 : counts (scl n e) = true ↔ counts e = true := by
    rw [counts_iff, counts_iff]
    show (e.A ≠ e.B ∧ 1 ≤ e.c * n ∧ e.c * n ≤ 2147483647) ↔ _
    have h2 : e.c * n ≤ 6 * 1000 := Int.mul_le_mul h6 hn2 (by omega) (by omega)
    constructor
    · rintro ⟨q1, q2, _⟩
      refine ⟨q1, ?_, by omega⟩
      by_cases hz : e.c = 0
      · rw [hz] at q2; simp at q2
      · omega
    · rintro ⟨q1, q2, _⟩
      have h3 : 1 * 1 ≤ e.c * n := Int.mul_le_mul q2 hn (by omega) (by omega)
      exact ⟨q1, by omega, by omega⟩
  cases hc : counts e with
  | true => exact h1.2 hc
  | false =>
    cases hc2 : counts (scl n e) with
    | false => rfl
    | true => rw [h1.1 hc2] at hc; cases hc
theorem best_scl {n : Int} (hn : 1 ≤ n) (hn2 : n ≤ 1000) (es : List Ed) (h5 : Five es) (a b : ByteArray) : best (es.map (scl n)) a b = (best es a b).map (· * n) := by
  have key : ∀ (l : List Ed), Five l → ∀ o : Option Int, (l.map (scl n)).foldl (bestStep a b) (o.map (· * n)) = (l.foldl (bestStep a b) o).map (· * n) := by
    intro l
    induction l with
    | nil => intro _ o; rfl
    | cons e r ih =>
      intro h5 o
      rw [List.map_cons, List.foldl_cons, List.foldl_cons]
      have hc : 0 ≤ e.c ∧ e.c ≤ 6 := by
        obtain ⟨i, j, k, _, _, hk, rfl⟩ := h5 e (by simp)
        exact ⟨by simp, by simp; omega⟩
      have h1 : bestStep a b (o.map (· * n)) (scl n e) = (bestStep a b o e).map (· * n) := by
        unfold bestStep
        rw [counts_scl hn hn2 hc.1 hc.2]
        by_cases hq : counts e = true ∧ e.A = a ∧ e.B = b
        · rw [if_pos hq, if_pos (show counts e = true ∧ (scl n e).A = a ∧ (scl n e).B = b from hq)]
          cases o with
          | none => rfl
          | some d =>
            simp only [Option.map_some]
            show some (if e.c * n < d * n then e.c * n else d * n) = some ((if e.c < d then e.c else d) * n)
            by_cases hl : e.c < d
            · rw [if_pos hl, if_pos (Int.mul_lt_mul_of_pos_right hl (by omega))]
            · rw [if_neg hl, if_neg (by have := Int.mul_le_mul_of_nonneg_right (show d ≤ e.c by omega) (show (0 : Int) ≤ n by omega); omega)]
        · rw [if_neg hq, if_neg (show ¬ (counts e = true ∧ (scl n e).A = a ∧ (scl n e).B = b) from hq)]
      rw [h1]
      exact ih (fun x hx => h5 x (List.mem_cons_of_mem _ hx)) _
  exact key es h5 none
theorem walk_swp {es : List Ed} {a b : ByteArray} {d : Int} : Walk (best es) a b d → Walk (best (es.map swp)) b a d := fun h => h.turned (fun a b c h => by rw [best_swp]; exact h)
theorem walk_swp' {es : List Ed} {a b : ByteArray} {d : Int} : Walk (best (es.map swp)) b a d → Walk (best es) a b d := fun h => h.turned (fun a b c h => by rw [best_swp] at h; exact h)
theorem walk_scl {n : Int} (hn : 1 ≤ n) (hn2 : n ≤ 1000) {es : List Ed} (h5 : Five es) {a b : ByteArray} {d : Int} (h : Walk (best es) a b d) : Walk (best (es.map (scl n))) a b (d * n) :=
  h.map id (· * n) (fun x y => Int.add_mul x y n) (fun a b c h => by show best (es.map (scl n)) a b = _; rw [best_scl hn hn2 es h5, h]; rfl)
theorem walk_scl' {n : Int} (hn : 1 ≤ n) (hn2 : n ≤ 1000) {es : List Ed} (h5 : Five es) {a b : ByteArray} {d : Int} (h : Walk (best (es.map (scl n))) a b d) : ∃ d', d = d' * n ∧ Walk (best es) a b d' := by
  have key : ∀ {a b : ByteArray} {c : Int}, best (es.map (scl n)) a b = some c → ∃ c', best es a b = some c' ∧ c = c' * n := by
    intro a b c h
    rw [best_scl hn hn2 es h5] at h
    obtain ⟨c', h1, h2⟩ := Option.map_eq_some_iff.1 h
    exact ⟨c', h1, h2.symm⟩
  induction h with
  | one h => obtain ⟨c', h1, h2⟩ := key h; exact ⟨c', h2, .one h1⟩
  | cons h _ ih =>
    obtain ⟨c', h1, h2⟩ := key h
    obtain ⟨d', h3, h4⟩ := ih
    exact ⟨c' + d', by rw [Int.add_mul, h2, h3], .cons h1 h4⟩
theorem dist_scl {n : Int} (hn : 1 ≤ n) (hn2 : n ≤ 1000) {es : List Ed} (h5 : Five es) {a b : ByteArray} {r r' : Int × Bool} (h : DistIs (best es) a b r) (h' : DistIs (best (es.map (scl n))) a b r') : r' = (r.1 * n, r.2) := by
  refine h'.unique ?_
  rcases h with ⟨h1, h2⟩ | ⟨h1, h2⟩
  · refine .inl ⟨h1, walk_scl hn hn2 h5 h2.1, fun d hd => ?_⟩
    obtain ⟨d', rfl, hd'⟩ := walk_scl' hn hn2 h5 hd
    exact Int.mul_le_mul_of_nonneg_right (h2.2 _ hd') (by omega)
  · refine .inr ⟨by rw [h1]; simp, fun d hd => ?_⟩
    obtain ⟨d', _, hd'⟩ := walk_scl' hn hn2 h5 hd
    exact h2 _ hd'
theorem dist_swp {es : List Ed} {a b : ByteArray} {r r' : Int × Bool} (h : DistIs (best es) a b r) (h' : DistIs (best (es.map swp)) b a r') : r' = r :=
  h'.unique (h.mapped (fun _ => walk_swp) (fun _ => walk_swp'))
/-- two rows of edges at once -/
theorem KE_ok {e : Nat} {w : World} {base : Nat} {ok ok' : Nat → Prop} {v : Value} {xs : List Ed} (h : KE.R e w base ok v xs) (hok : ∀ k, v.ownBlock = some k → ok' k) : KE.R e w base ok' v xs := by
  obtain ⟨_, inner, ho, hr⟩ := h
  exact ⟨hok, inner, ho, hr.imp_ (fun _ _ h => h)⟩
section
variable {ops : Array Oper} {o : Oper} {a : Act} {W : World} {K : Act → World → Prop} {Q : Exit → Act → World → Prop}
theorem step_append_ED (hgd : o.guard = none) (s x : Operand) (ho : o.op = .call { callee := .builtin .append, args := #[s, x], argTypes := #[24, 24] }) (base : Nat) (v : Value) (xs : List Ed) (p : Ed)
    (hs : a.eval s = v) (hx : a.eval x = .slice (some ⟨W.heap.size, 0, none⟩) 1 1) (HO : KE.R 40 W base (fun _ => True) v xs) (hbase : base ≤ W.heap.size) (hl : xs.length ≤ 100000)
    (h : ∀ v1 w1, KE.R 40 w1 base (fun _ => True) v1 (xs ++ [p]) → W.grownBy w1 v.ownBlock → (v1.ownBlock = v.ownBlock ∨ ∃ b, v1.ownBlock = some b ∧ W.heap.size ≤ b) → K (a.put o.dst v1) w1) :
    if Region.wanted o (yielded ops a.tmps) = true then Oper.wp Try.prog o a (W.alloc (.cells #[.string p.A, .string p.B, .int .i64 p.c] 40)) K Q else K (a.put o.dst undef) (W.alloc (.cells #[.string p.A, .string p.B, .int .i64 p.c] 40)) := by
  refine Kd.R_append_step (w0 := W) KE base (by simp [Region.wanted, hgd]) s x 24 40 (.agg #[.string ⟨#[]⟩, .string ⟨#[]⟩, .int .i64 0]) 40 ho Try.underlying24 rfl rfl (by decide) (by omega) v xs p [.string p.A, .string p.B, .int .i64 p.c] (fun _ => True) (fun k => some k ≠ v.ownBlock) hs hx (KE_M _ _ _ _) (fun k hk => ⟨trivial, hk⟩) (fun _ _ => trivial) HO (Below.refl _ _) hbase (by omega) ?_
  intro v1 w1 h1 _ h2 h3
  exact h v1 w1 h1 h2 h3
end
/-- rows f and g, apart; behind an append to f -/
structure Two (w : World) (base : Nat) (vf vg : Value) (fs gs : List Ed) : Prop where
  f : KE.R 40 w base (fun _ => True) vf fs
  g : KE.R 40 w base (fun _ => True) vg gs
  apart : ∀ k, vg.ownBlock = some k → vf.ownBlock ≠ some k
theorem Two.drew {w : World} {base : Nat} {vf vg : Value} {fs gs : List Ed} (h : Two w base vf vg fs gs) : Two w.drew base vf vg fs gs := ⟨Kd.R_drew h.f, Kd.R_drew h.g, h.apart⟩
theorem Two.grow {w w1 : World} {base : Nat} {vf vg v1 : Value} {fs gs fs' : List Ed} (h : Two w base vf vg fs gs) (h1 : KE.R 40 w1 base (fun _ => True) v1 fs') (hg : w.grownBy w1 vf.ownBlock) (hat : v1.ownBlock = vf.ownBlock ∨ ∃ b, v1.ownBlock = some b ∧ w.heap.size ≤ b) : Two w1 base v1 vg fs' gs := by
  refine ⟨h1, KE_ok (Kd.R_grown (KE_ok (ok' := fun k => some k ≠ vf.ownBlock) h.g (fun k hk e => h.apart k hk e.symm)) hg (fun k hk => hk)) (fun _ _ => trivial), fun k hk e => ?_⟩
  rcases hat with hat | ⟨b, hat, hb⟩
  · exact h.apart k hk (hat ▸ e)
  · rw [hat] at e
    injection e with e
    have := Kd.R_lt h.g k hk
    omega
theorem Two.flip {w : World} {base : Nat} {vf vg : Value} {fs gs : List Ed} (h : Two w base vf vg fs gs) : Two w base vg vf gs fs := ⟨h.g, h.f, fun k hk e => h.apart k e hk⟩
end Go.Proofs.Ytdnnlfdblfcajaa.Gr
