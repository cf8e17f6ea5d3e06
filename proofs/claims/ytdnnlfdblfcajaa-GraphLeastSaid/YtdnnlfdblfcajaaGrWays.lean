/- The graph's ways, without Go: what the closure that calls itself collects, that it is each simple way once there is room for all, and that a least cost is some simple way's. No conditions. -/
import Derived.Test.YtdnnlfdblfcajaaGrPlain
namespace Go.Proofs.Ytdnnlfdblfcajaa.Gr
section ways
variable {κ : Type}
/-- nodes behind u, one behind the other, up to v; what they cost -/
inductive Path (t : κ → κ → Option Int) : κ → List κ → κ → Int → Prop
  | nil {u} : Path t u [] u 0
  | cons {u x v vs c k} : t u x = some c → Path t x vs v k → Path t u (x :: vs) v (c + k)
theorem Path.walk {t : κ → κ → Option Int} {u v : κ} {vs : List κ} {k : Int} (h : Path t u vs v k) (hne : vs ≠ []) : Walk t u v k := by
  induction h with
  | nil => exact absurd rfl hne
  | @cons u x v vs c k hc hp ih =>
    cases hp with
    | nil => rw [Int.add_zero]; exact .one hc
    | cons hc' hp' => exact .cons hc (ih (by simp))
theorem Walk.path {t : κ → κ → Option Int} {u v : κ} {k : Int} (h : Walk t u v k) : ∃ vs, vs ≠ [] ∧ Path t u vs v k := by
  induction h with
  | @one a b c h => exact ⟨[b], by simp, by have := Path.cons h (Path.nil (t := t) (u := b)); rwa [Int.add_zero] at this⟩
  | @cons a b d c k h _ ih => obtain ⟨vs, _, hp⟩ := ih; exact ⟨b :: vs, by simp, .cons h hp⟩
theorem Path.ends {t : κ → κ → Option Int} {u v : κ} {vs : List κ} {k : Int} (h : Path t u vs v k) : (u :: vs).getLast? = some v := by
  induction h with
  | nil => rfl
  | cons hc hp ih => rw [List.getLast?_cons_cons]; exact ih
theorem Path.nonneg {t : κ → κ → Option Int} (ht : ∀ a b c, t a b = some c → 1 ≤ c) {u v : κ} {vs : List κ} {k : Int} (h : Path t u vs v k) : 0 ≤ k := by
  induction h with
  | nil => exact Int.le_refl _
  | cons hc hp ih => have := ht _ _ _ hc; omega
variable [DecidableEq κ]
/-- from a node on the way on -/
theorem Path.from_ {t : κ → κ → Option Int} (ht : ∀ a b c, t a b = some c → 1 ≤ c) {x v : κ} {vs : List κ} {k : Int} (h : Path t x vs v k) : ∀ u, u ∈ x :: vs → ∃ vs2 k2, Path t u vs2 v k2 ∧ (u :: vs2) <:+ (x :: vs) ∧ k2 ≤ k := by
  induction h with
  | nil => intro u hu; simp at hu; subst hu; exact ⟨[], 0, .nil, List.suffix_refl _, Int.le_refl _⟩
  | @cons x y v vs c k hc hp ih =>
    intro u hu
    by_cases e : u = x
    · subst e; exact ⟨y :: vs, c + k, .cons hc hp, List.suffix_refl _, Int.le_refl _⟩
    · obtain ⟨vs2, k2, h1, h2, h3⟩ := ih u (by simpa [e] using hu)
      have := ht _ _ _ hc
      exact ⟨vs2, k2, h1, h2.trans (List.suffix_cons _ _), by omega⟩
/-- a way that comes to no node twice, and costs no more -/
theorem Path.simple {t : κ → κ → Option Int} (ht : ∀ a b c, t a b = some c → 1 ≤ c) {u v : κ} {vs : List κ} {k : Int} (h : Path t u vs v k) : ∃ vs2 k2, Path t u vs2 v k2 ∧ (u :: vs2).Nodup ∧ k2 ≤ k := by
  induction h with
  | nil => exact ⟨[], 0, .nil, by simp, Int.le_refl _⟩
  | @cons u x v vs c k hc hp ih =>
    obtain ⟨vs2, k2, h1, h2, h3⟩ := ih
    have h4 := ht _ _ _ hc
    by_cases hu : u ∈ x :: vs2
    · obtain ⟨vs3, k3, h5, h6, h7⟩ := h1.from_ ht u hu
      exact ⟨vs3, k3, h5, h6.sublist.nodup h2, by omega⟩
    · exact ⟨x :: vs2, c + k2, .cons hc h1, List.nodup_cons.2 ⟨hu, h2⟩, by omega⟩
theorem IsDist.simple {t : κ → κ → Option Int} (ht : ∀ a b c, t a b = some c → 1 ≤ c) {a b : κ} (hab : a ≠ b) {d : Int} (h : IsDist t a b d) : ∃ vs, Path t a vs b d ∧ (a :: vs).Nodup := by
  obtain ⟨vs, _, hp⟩ := h.1.path
  obtain ⟨vs2, k2, h1, h2, h3⟩ := hp.simple ht
  have hne : vs2 ≠ [] := by
    rintro rfl
    cases h1
    exact hab rfl
  have := h.2 _ (h1.walk hne)
  obtain rfl : k2 = d := by omega
  exact ⟨vs2, h1, h2⟩

/-- WHAT THE CLOSURE COLLECTS. nb: the nodes that follow one, in order -/
def ways (nb : κ → List κ) (b : κ) : Nat → List κ → κ → List (List κ) → List (List κ)
  | 0, _, _, out => out
  | f + 1, so, last, out =>
    if last = b then out ++ [so]
    else (nb last).foldl (fun out next => if out.length < 1000 ∧ next ∉ so then ways nb b f (so ++ [next]) next out else out) out
theorem foldl_grows {α β : Type} (g : List α → β → List α) (hg : ∀ o x, ∃ E, g o x = o ++ E) (l : List β) (o : List α) : ∃ E, l.foldl g o = o ++ E := by
  induction l generalizing o with
  | nil => exact ⟨[], by simp⟩
  | cons x r ih =>
    obtain ⟨E, hE⟩ := hg o x
    obtain ⟨E', hE'⟩ := ih (g o x)
    exact ⟨E ++ E', by rw [List.foldl_cons, hE', hE, List.append_assoc]⟩
theorem ways_grows (nb : κ → List κ) (b : κ) (f : Nat) : ∀ so last out, ∃ E, ways nb b f so last out = out ++ E := by
  induction f with
  | zero => exact fun _ _ out => ⟨[], by simp [ways]⟩
  | succ f ih =>
    intro so last out
    unfold ways
    split
    · exact ⟨_, rfl⟩
    · refine foldl_grows _ (fun o x => ?_) _ _
      split
      · exact ih _ _ _
      · exact ⟨[], by simp⟩
/-- each that comes is a simple way -/
theorem ways_sound {t : κ → κ → Option Int} {nb : κ → List κ} (hnb : ∀ u x, x ∈ nb u → ∃ c, t u x = some c) (b : κ) (f : Nat) : ∀ so last out, so.Nodup → so.getLast? = some last →
    ∀ w ∈ ways nb b f so last out, w ∈ out ∨ ∃ vs k, w = so ++ vs ∧ Path t last vs b k ∧ w.Nodup := by
  induction f with
  | zero => intro so last out _ _ w hw; exact .inl (by simpa [ways] using hw)
  | succ f ih =>
    intro so last out hn hl w hw
    unfold ways at hw
    split at hw
    · rename_i e
      subst e
      rcases List.mem_append.1 hw with hw | hw
      · exact .inl hw
      · simp at hw; subst hw; exact .inr ⟨[], 0, by simp, .nil, hn⟩
    · have key : ∀ (l : List κ), (∀ x ∈ l, x ∈ nb last) → ∀ o, (∀ w ∈ o, w ∈ out ∨ ∃ vs k, w = so ++ vs ∧ Path t last vs b k ∧ w.Nodup) →
          ∀ w ∈ l.foldl (fun out next => if out.length < 1000 ∧ next ∉ so then ways nb b f (so ++ [next]) next out else out) o, w ∈ out ∨ ∃ vs k, w = so ++ vs ∧ Path t last vs b k ∧ w.Nodup := by
        intro l
        induction l with
        | nil => intro _ o ho w hw; exact ho w hw
        | cons x r ihl =>
          intro hl' o ho w hw
          rw [List.foldl_cons] at hw
          refine ihl (fun y hy => hl' y (List.mem_cons_of_mem _ hy)) _ ?_ w hw
          intro w' hw'
          split at hw'
          · rename_i hx
            have hnd : (so ++ [x]).Nodup := by
              rw [List.nodup_append]
              exact ⟨hn, by simp, fun a ha b hb => by simp at hb; subst hb; rintro rfl; exact hx.2 ha⟩
            rcases ih (so ++ [x]) x o hnd (by simp) w' hw' with h | ⟨vs, k, h1, h2, h3⟩
            · exact ho w' h
            · obtain ⟨c, hc⟩ := hnb last x (hl' x (by simp))
              exact .inr ⟨x :: vs, c + k, by simp [h1], .cons hc h2, h3⟩
          · exact ho w' hw'
      exact key (nb last) (fun _ h => h) out (fun w hw => .inl hw) w hw
/-- where there is room, each simple way comes -/
theorem ways_complete {t : κ → κ → Option Int} {nb : κ → List κ} (hnb : ∀ u x c, t u x = some c → x ∈ nb u) (b : κ) : ∀ (vs : List κ) (f : Nat) (so : List κ) (last : κ) (out : List (List κ)) (k : Int), vs.length < f → Path t last vs b k → (so ++ vs).Nodup → so.getLast? = some last →
    (ways nb b f so last out).length < 1000 → so ++ vs ∈ ways nb b f so last out := by
  intro vs
  induction vs with
  | nil =>
    intro f so last out k hf hp hn hl hlen
    cases hp
    obtain ⟨f, rfl⟩ : ∃ g, f = g + 1 := ⟨f - 1, by simp at hf; omega⟩
    unfold ways
    rw [if_pos rfl]
    simp
  | cons x vs ih =>
    intro f so last out k hf hp hn hl hlen
    obtain ⟨f, rfl⟩ : ∃ g, f = g + 1 := ⟨f - 1, by omega⟩
    have hlb : last ≠ b := by
      rintro rfl
      have h1 := hp.ends
      rw [List.getLast?_cons_cons] at h1
      have h2 : last ∈ x :: vs := List.mem_of_getLast? h1
      have h3 : last ∈ so := List.mem_of_getLast? hl
      exact (List.nodup_append.1 hn).2.2 last h3 last h2 rfl
    cases hp with
    | @cons _ _ _ _ c k hc hp' =>
      unfold ways at hlen ⊢
      rw [if_neg hlb] at hlen ⊢
      have hx := hnb _ _ _ hc
      obtain ⟨l1, l2, e⟩ := List.append_of_mem hx
      rw [e] at hlen ⊢
      rw [List.foldl_append, List.foldl_cons] at hlen ⊢
      generalize ho : List.foldl (fun out next => if out.length < 1000 ∧ next ∉ so then ways nb b f (so ++ [next]) next out else out) out l1 = o at hlen ⊢
      have hgrow : ∀ o x, ∃ E, (fun (out : List (List κ)) next => if out.length < 1000 ∧ next ∉ so then ways nb b f (so ++ [next]) next out else out) o x = o ++ E := by
        intro o x
        simp only
        split
        · exact ways_grows _ _ _ _ _ _
        · exact ⟨[], by simp⟩
      have hxs : x ∉ so := fun h => (List.nodup_append.1 hn).2.2 x h x (by simp) rfl
      have hol : o.length < 1000 := by
        obtain ⟨E1, h1⟩ := hgrow o x
        obtain ⟨E2, h2⟩ := foldl_grows _ hgrow l2 ((fun (out : List (List κ)) next => if out.length < 1000 ∧ next ∉ so then ways nb b f (so ++ [next]) next out else out) o x)
        rw [h2, List.length_append, h1, List.length_append] at hlen
        omega
      rw [if_pos ⟨hol, hxs⟩] at hlen ⊢
      obtain ⟨E, hE⟩ := foldl_grows _ hgrow l2 (ways nb b f (so ++ [x]) x o)
      rw [hE] at hlen ⊢
      refine List.mem_append_left _ ?_
      have hn' : (so ++ [x] ++ vs).Nodup := by simpa using hn
      have := ih f (so ++ [x]) x o k (by simp at hf; omega) hp' hn' (by simp) (by rw [List.length_append] at hlen; omega)
      simpa using this
/-- how many there are: U: all nodes -/
def fact : Nat → Nat
  | 0 => 1
  | n + 1 => (n + 1) * fact n
theorem fact_pos (n : Nat) : 1 ≤ fact n := by
  induction n with
  | zero => exact Nat.le_refl _
  | succ n ih => exact Nat.mul_le_mul (by omega : 1 ≤ n + 1) ih
theorem ways_count {nb : κ → List κ} {U : List κ} (hU : ∀ u x, x ∈ nb u → x ∈ U) (hd : ∀ u, (nb u).Nodup) (b : κ) (f : Nat) : ∀ so last out, (ways nb b f so last out).length ≤ out.length + fact (U.filter (· ∉ so)).length := by
  induction f with
  | zero => intro so last out; simp [ways]
  | succ f ih =>
    intro so last out
    unfold ways
    split
    · have := fact_pos (U.filter (· ∉ so)).length
      rw [List.length_append, List.length_singleton]
      omega
    · have key : ∀ (l : List κ), l.Nodup → (∀ x ∈ l, x ∈ U) → ∀ o, (l.foldl (fun out next => if out.length < 1000 ∧ next ∉ so then ways nb b f (so ++ [next]) next out else out) o).length ≤ o.length + (l.filter (· ∉ so)).length * fact ((U.filter (· ∉ so)).length - 1) := by
        intro l
        induction l with
        | nil => intro _ _ o; simp
        | cons x r ihl =>
          intro hl hlU o
          rw [List.nodup_cons] at hl
          rw [List.foldl_cons]
          have hr := ihl hl.2 (fun y hy => hlU y (List.mem_cons_of_mem _ hy))
          by_cases hx : x ∈ so
          · rw [if_neg (fun h => h.2 hx), List.filter_cons_of_neg (by simpa using hx)]
            exact hr o
          · rw [List.filter_cons_of_pos (by simpa using hx), List.length_cons, Nat.succ_mul]
            split
            · have h1 := ih (so ++ [x]) x o
              have h2 : (U.filter (· ∉ so ++ [x])).length ≤ (U.filter (· ∉ so)).length - 1 := by
                have hxU : x ∈ U.filter (· ∉ so) := List.mem_filter.2 ⟨hlU x (by simp), by simpa using hx⟩
                have h3 : U.filter (· ∉ so ++ [x]) = (U.filter (· ∉ so)).filter (· ≠ x) := by
                  rw [List.filter_filter]
                  congr 1
                  funext y
                  by_cases h : y = x <;> by_cases h' : y ∈ so <;> simp [h, h']
                rw [h3]
                have h4 : ((U.filter (· ∉ so)).filter (· ≠ x)).length < (U.filter (· ∉ so)).length := by
                  refine List.length_filter_lt_length_iff_exists.2 ⟨x, hxU, by simp⟩
                omega
              have h5 : ∀ m n, m ≤ n → fact m ≤ fact n := by
                intro m n h
                induction n with
                | zero => obtain rfl : m = 0 := by omega
                          exact Nat.le_refl _
                | succ n ih =>
                  by_cases e : m = n + 1
                  · subst e; exact Nat.le_refl _
                  · have h6 := ih (by omega)
                    have h7 : 1 * fact n ≤ (n + 1) * fact n := Nat.mul_le_mul_right _ (by omega)
                    show fact m ≤ (n + 1) * fact n
                    omega
              have h6 := h5 _ _ h2
              have h7 := hr (ways nb b f (so ++ [x]) x o)
              omega
            · have h7 := hr o
              omega
      have h1 := key (nb last) (hd last) (hU last) out
      have h2 : ((nb last).filter (· ∉ so)).length ≤ (U.filter (· ∉ so)).length := by
        have hsub : ∀ (A B : List κ), A.Nodup → (∀ x ∈ A, x ∈ B) → A.length ≤ B.length := by
          intro A
          induction A with
          | nil => intro B _ _; simp
          | cons x r ih =>
            intro B hA hB
            rw [List.nodup_cons] at hA
            obtain ⟨l1, l2, e⟩ := List.append_of_mem (hB x (by simp))
            have := ih (l1 ++ l2) hA.2 (fun y hy => by
              have h1 := hB y (List.mem_cons_of_mem _ hy)
              rw [e] at h1
              have h2 : y ≠ x := by rintro rfl; exact hA.1 hy
              simpa [h2] using h1)
            rw [e]
            simp at this ⊢
            omega
        refine hsub _ _ ((hd last).filter _) (fun x hx => ?_)
        rw [List.mem_filter] at hx ⊢
        exact ⟨hU _ _ hx.1, hx.2⟩
      have h3 : ∀ m n : Nat, m ≤ n → m * fact (n - 1) ≤ fact n := by
        intro m n h
        cases n with
        | zero => obtain rfl : m = 0 := by omega
                  simp [fact]
        | succ n => simp only [Nat.add_sub_cancel, fact]; exact Nat.mul_le_mul_right _ h
      have h4 := h3 _ _ h2
      omega
end ways
end Go.Proofs.Ytdnnlfdblfcajaa.Gr
