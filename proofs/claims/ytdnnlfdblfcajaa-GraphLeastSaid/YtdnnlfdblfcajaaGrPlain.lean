/- What the graph's statements lean on, without Go: association lists, tables of edges, walks and least costs, Dijkstra's round. No conditions. -/
namespace Go.Proofs.Ytdnnlfdblfcajaa.Gr
/-! ### association lists -/
section assoc
variable {κ α : Type} [DecidableEq κ]
def get : List (κ × α) → κ → Option α
  | [], _ => none
  | (k', v) :: r, k => if k = k' then some v else get r k
def put : List (κ × α) → κ → α → List (κ × α)
  | [], k, v => [(k, v)]
  | (k', v') :: r, k, v => if k = k' then (k, v) :: r else (k', v') :: put r k v
theorem get_put (m : List (κ × α)) (k : κ) (v : α) (j : κ) : get (put m k v) j = if j = k then some v else get m j := by
  induction m with
  | nil => simp [put, get]
  | cons p r ih =>
    obtain ⟨k', v'⟩ := p
    by_cases h : k = k'
    · subst h
      simp only [put, if_true, get]
      by_cases hj : j = k <;> simp [hj]
    · simp only [put, if_neg h, get, ih]
      by_cases hj : j = k'
      · subst hj
        simp [Ne.symm h]
      · simp [hj]
theorem put_self {m : List (κ × α)} {k : κ} {v : α} (h : get m k = some v) : put m k v = m := by
  induction m with
  | nil => simp [get] at h
  | cons p r ih =>
    obtain ⟨k', v'⟩ := p
    by_cases e : k = k'
    · subst e
      simp [get] at h
      simp [put, h]
    · simp only [get, if_neg e] at h
      simp [put, e, ih h]
theorem put_new {m : List (κ × α)} {k : κ} {v : α} (h : get m k = none) : put m k v = m ++ [(k, v)] := by
  induction m with
  | nil => rfl
  | cons p r ih =>
    obtain ⟨k', v'⟩ := p
    by_cases e : k = k'
    · subst e
      simp [get] at h
    · simp only [get, if_neg e] at h
      simp [put, e, ih h]
theorem keys_put_old {m : List (κ × α)} {k : κ} {v w : α} (h : get m k = some w) : (put m k v).map (·.1) = m.map (·.1) := by
  induction m with
  | nil => simp [get] at h
  | cons p r ih =>
    obtain ⟨k', v'⟩ := p
    by_cases e : k = k'
    · subst e
      simp [put]
    · simp only [get, if_neg e] at h
      simp [put, e, ih h]
theorem get_none_iff {m : List (κ × α)} {k : κ} : get m k = none ↔ k ∉ m.map (·.1) := by
  induction m with
  | nil => simp [get]
  | cons p r ih =>
    obtain ⟨k', v'⟩ := p
    by_cases e : k = k'
    · simp [get, e]
    · simp [get, e, ih]
theorem mem_of_get {m : List (κ × α)} {k : κ} {v : α} (h : get m k = some v) : (k, v) ∈ m := by
  induction m with
  | nil => simp [get] at h
  | cons p r ih =>
    obtain ⟨k', v'⟩ := p
    by_cases e : k = k'
    · subst e
      simp [get] at h
      simp [h]
    · simp only [get, if_neg e] at h
      exact List.mem_cons_of_mem _ (ih h)
def Keys (m : List (κ × α)) : Prop := (m.map (·.1)).Nodup
theorem Keys.put {m : List (κ × α)} (h : Keys m) (k : κ) (v : α) : Keys (put m k v) := by
  cases hk : get m k with
  | some w => unfold Keys; rw [keys_put_old hk]; exact h
  | none =>
    unfold Keys
    rw [put_new hk, List.map_append, List.nodup_append]
    refine ⟨h, by simp, ?_⟩
    intro a ha b hb
    simp at hb
    subst hb
    rintro rfl
    exact get_none_iff.1 hk ha
theorem get_of_mem {m : List (κ × α)} (h : Keys m) {k : κ} {v : α} (hm : (k, v) ∈ m) : get m k = some v := by
  induction m with
  | nil => simp at hm
  | cons p r ih =>
    obtain ⟨k', v'⟩ := p
    simp only [Keys, List.map_cons, List.nodup_cons] at h
    rcases List.mem_cons.1 hm with e | hr
    · cases e; simp [get]
    · have hne : k ≠ k' := by
        rintro rfl
        exact h.1 (List.mem_map.2 ⟨_, hr, rfl⟩)
      simp only [get, if_neg hne]
      exact ih h.2 hr
theorem length_put {m : List (κ × α)} {k : κ} {v : α} : (put m k v).length = if (get m k).isSome then m.length else m.length + 1 := by
  cases hk : get m k with
  | some w => have := congrArg List.length (keys_put_old (v := v) hk); simpa using this
  | none => rw [put_new hk]; simp
end assoc

/-! ### edges, tables -/
structure GE (κ : Type) where
  A : κ
  B : κ
  c : Int
section tables
variable {κ : Type} [DecidableEq κ]
def counts (e : GE κ) : Bool := decide (e.A ≠ e.B) && (decide (1 ≤ e.c) && decide (e.c ≤ 2147483647))
theorem counts_iff {e : GE κ} : counts e = true ↔ e.A ≠ e.B ∧ 1 ≤ e.c ∧ e.c ≤ 2147483647 := by simp [counts]
abbrev Tab (κ : Type) := List (κ × List (κ × Int))
def less (m : List (κ × Int)) (b : κ) (c : Int) : List (κ × Int) :=
  match get m b with
  | some d => if c < d then put m b c else m
  | none => put m b c
def tabStep (T : Tab κ) (e : GE κ) : Tab κ := if counts e then put T e.A (less ((get T e.A).getD []) e.B e.c) else T
def tab (l : List (GE κ)) : Tab κ := l.foldl tabStep []
def cst (T : Tab κ) (a b : κ) : Option Int := (get T a).bind fun m => get m b
def bestStep (a b : κ) (o : Option Int) (e : GE κ) : Option Int :=
  if counts e ∧ e.A = a ∧ e.B = b then some (match o with | some d => if e.c < d then e.c else d | none => e.c) else o
def best (l : List (GE κ)) (a b : κ) : Option Int := l.foldl (bestStep a b) none
theorem get_less (m : List (κ × Int)) (b : κ) (c : Int) (j : κ) : get (less m b c) j = if j = b then some (match get m b with | some d => if c < d then c else d | none => c) else get m j := by
  unfold less
  cases hb : get m b with
  | some d =>
    simp only
    by_cases h : c < d
    · rw [if_pos h, if_pos h, get_put]
    · rw [if_neg h, if_neg h]
      by_cases hj : j = b
      · subst hj; simp [hb]
      · simp [hj]
  | none => simp only; rw [get_put]
theorem Keys.less {m : List (κ × Int)} (h : Keys m) (b : κ) (c : Int) : Keys (less m b c) := by
  unfold Gr.less
  split
  · split
    · exact h.put _ _
    · exact h
  · exact h.put _ _
theorem cst_tabStep (T : Tab κ) (e : GE κ) (a b : κ) : cst (tabStep T e) a b = bestStep a b (cst T a b) e := by
  unfold tabStep bestStep
  by_cases hc : counts e = true
  · rw [if_pos hc]
    unfold cst
    rw [get_put]
    by_cases ha : a = e.A
    · subst ha
      rw [if_pos rfl, Option.bind_some, get_less]
      by_cases hb : b = e.B
      · subst hb
        rw [if_pos rfl, if_pos ⟨hc, rfl, rfl⟩]
        cases get T e.A <;> simp [get]
      · rw [if_neg hb, if_neg (fun h => hb h.2.2.symm)]
        cases get T e.A <;> simp [get]
    · rw [if_neg ha, if_neg (fun h => ha h.2.1.symm)]
  · rw [if_neg hc, if_neg (fun h => hc h.1)]
theorem foldl_cst (l : List (GE κ)) (T : Tab κ) (a b : κ) : cst (l.foldl tabStep T) a b = l.foldl (bestStep a b) (cst T a b) := by
  induction l generalizing T with
  | nil => rfl
  | cons e r ih => simp only [List.foldl_cons]; rw [ih, cst_tabStep]
theorem cst_tab (l : List (GE κ)) (a b : κ) : cst (tab l) a b = best l a b := foldl_cst l [] a b
/-- what 'best' is -/
theorem best_foldl (l : List (GE κ)) (a b : κ) (o : Option Int) :
    (∀ c, l.foldl (bestStep a b) o = some c → (o = some c ∨ ∃ e ∈ l, counts e = true ∧ e.A = a ∧ e.B = b ∧ e.c = c)) ∧
    (∀ d, o = some d → ∃ c, l.foldl (bestStep a b) o = some c ∧ c ≤ d) ∧
    (∀ e ∈ l, counts e = true → e.A = a → e.B = b → ∃ c, l.foldl (bestStep a b) o = some c ∧ c ≤ e.c) := by
  induction l generalizing o with
  | nil => exact ⟨fun c h => .inl h, fun d h => ⟨d, h, Int.le_refl _⟩, fun e h => by simp at h⟩
  | cons e r ih =>
    simp only [List.foldl_cons]
    obtain ⟨i1, i2, i3⟩ := ih (bestStep a b o e)
    refine ⟨fun c h => ?_, fun d hd => ?_, fun e' he' h1 h2 h3 => ?_⟩
    · rcases i1 c h with h | ⟨e', he', h'⟩
      · unfold bestStep at h
        split at h
        · rename_i hc
          cases o with
          | none => simp at h; exact .inr ⟨e, by simp, hc.1, hc.2.1, hc.2.2, h⟩
          | some d =>
            simp only [Option.some.injEq] at h
            split at h
            · exact .inr ⟨e, by simp, hc.1, hc.2.1, hc.2.2, h⟩
            · exact .inl (by rw [h])
        · exact .inl h
      · exact .inr ⟨e', List.mem_cons_of_mem _ he', h'⟩
    · subst hd
      have : ∃ d', bestStep a b (some d) e = some d' ∧ d' ≤ d := by
        unfold bestStep
        split
        · by_cases h : e.c < d
          · exact ⟨e.c, by simp [h], by omega⟩
          · exact ⟨d, by simp [h], by omega⟩
        · exact ⟨d, rfl, Int.le_refl _⟩
      obtain ⟨d', h1, h2⟩ := this
      obtain ⟨c, h3, h4⟩ := i2 d' h1
      exact ⟨c, h3, by omega⟩
    · rcases List.mem_cons.1 he' with rfl | hr
      · have : ∃ d', bestStep a b o e' = some d' ∧ d' ≤ e'.c := by
          unfold bestStep
          rw [if_pos ⟨h1, h2, h3⟩]
          cases o with
          | none => exact ⟨_, rfl, Int.le_refl _⟩
          | some d =>
            simp only
            split
            · exact ⟨_, rfl, Int.le_refl _⟩
            · exact ⟨_, rfl, by omega⟩
        obtain ⟨d', h4, h5⟩ := this
        obtain ⟨c, h6, h7⟩ := i2 d' h4
        exact ⟨c, h6, by omega⟩
      · exact i3 e' hr h1 h2 h3
theorem best_some {l : List (GE κ)} {a b : κ} {c : Int} (h : best l a b = some c) : ∃ e ∈ l, counts e = true ∧ e.A = a ∧ e.B = b ∧ e.c = c := by
  rcases (best_foldl l a b none).1 c h with h | h
  · cases h
  · exact h
theorem best_le {l : List (GE κ)} {e : GE κ} (he : e ∈ l) (hc : counts e = true) : ∃ c, best l e.A e.B = some c ∧ c ≤ e.c := (best_foldl l e.A e.B none).2.2 e he hc rfl rfl
theorem best_pos {l : List (GE κ)} {a b : κ} {c : Int} (h : best l a b = some c) : a ≠ b ∧ 1 ≤ c ∧ c ≤ 2147483647 := by
  obtain ⟨e, _, hc, rfl, rfl, rfl⟩ := best_some h
  exact counts_iff.1 hc
/-- two lists with the same counting edges have the same 'best' -/
theorem best_mono {l l' : List (GE κ)} (h : ∀ e ∈ l, counts e = true → ∃ e' ∈ l', counts e' = true ∧ e'.A = e.A ∧ e'.B = e.B ∧ e'.c ≤ e.c) {a b : κ} {c : Int} (hb : best l a b = some c) : ∃ c', best l' a b = some c' ∧ c' ≤ c := by
  obtain ⟨e, he, hc, rfl, rfl, rfl⟩ := best_some hb
  obtain ⟨e', he', hc', h1, h2, h3⟩ := h e he hc
  obtain ⟨c', h4, h5⟩ := best_le he' hc'
  rw [h1, h2] at h4
  exact ⟨c', h4, by omega⟩
/-- the table's keys; how many entries it has -/
def deg (T : Tab κ) : Nat := (T.map fun p => p.2.length).foldr (· + ·) 0
structure TabOk (T : Tab κ) : Prop where
  keys : Keys T
  inner : ∀ p ∈ T, Keys p.2
  pos : ∀ p ∈ T, ∀ q ∈ p.2, 1 ≤ q.2 ∧ q.2 ≤ 2147483647
theorem deg_put (T : Tab κ) (a : κ) (m : List (κ × Int)) (h : m.length ≤ ((get T a).getD []).length + 1) : deg (put T a m) ≤ deg T + 1 := by
  induction T with
  | nil => simp [put, deg, get] at *; omega
  | cons p r ih =>
    obtain ⟨k, v⟩ := p
    by_cases e : a = k
    · subst e
      simp only [put, if_true, deg, List.map_cons, List.foldr_cons]
      simp [get] at h
      omega
    · simp only [get, if_neg e] at h
      have := ih h
      simp only [put, if_neg e, deg, List.map_cons, List.foldr_cons] at this ⊢
      omega
theorem length_less (m : List (κ × Int)) (b : κ) (c : Int) : (less m b c).length ≤ m.length + 1 := by
  unfold less
  split
  · split
    · rw [length_put]; split <;> omega
    · omega
  · rw [length_put]; split <;> omega
theorem deg_tabStep (T : Tab κ) (e : GE κ) : deg (tabStep T e) ≤ deg T + 1 := by
  unfold tabStep
  split
  · exact deg_put _ _ _ (length_less _ _ _)
  · omega
theorem deg_foldl (l : List (GE κ)) (T : Tab κ) : deg (l.foldl tabStep T) ≤ deg T + l.length := by
  induction l generalizing T with
  | nil => simp
  | cons e r ih => simp only [List.foldl_cons, List.length_cons]; have := ih (tabStep T e); have := deg_tabStep T e; omega
theorem deg_tab (l : List (GE κ)) : deg (tab l) ≤ l.length := by
  have h := deg_foldl l []
  have h0 : deg ([] : Tab κ) = 0 := rfl
  rw [h0, Nat.zero_add] at h
  exact h
theorem mem_put {α : Type} {m : List (κ × α)} {k : κ} {v : α} {p : κ × α} (h : p ∈ put m k v) : p = (k, v) ∨ p ∈ m := by
  induction m with
  | nil => simp [put] at h; exact .inl h
  | cons q r ih =>
    obtain ⟨k', v'⟩ := q
    by_cases e : k = k'
    · subst e
      simp only [put, if_true] at h
      rcases List.mem_cons.1 h with rfl | h
      · exact .inl rfl
      · exact .inr (List.mem_cons_of_mem _ h)
    · simp only [put, if_neg e] at h
      rcases List.mem_cons.1 h with rfl | h
      · exact .inr (by simp)
      · rcases ih h with h | h
        · exact .inl h
        · exact .inr (List.mem_cons_of_mem _ h)
theorem mem_less {m : List (κ × Int)} {b : κ} {c : Int} {p : κ × Int} (h : p ∈ less m b c) : p = (b, c) ∨ p ∈ m := by
  unfold less at h
  split at h
  · split at h
    · exact mem_put h
    · exact .inr h
  · exact mem_put h
theorem TabOk.step {T : Tab κ} (h : TabOk T) (e : GE κ) : TabOk (tabStep T e) := by
  unfold tabStep
  split
  · rename_i hc
    have hin : ∀ p ∈ ((get T e.A).getD []), 1 ≤ p.2 ∧ p.2 ≤ 2147483647 := by
      cases hg : get T e.A with
      | none => intro p hp; simp at hp
      | some m => exact h.pos _ (mem_of_get hg)
    have hk : Keys ((get T e.A).getD []) := by
      cases hg : get T e.A with
      | none => simp [Keys]
      | some m => exact h.inner _ (mem_of_get hg)
    refine ⟨h.keys.put _ _, fun p hp => ?_, fun p hp q hq => ?_⟩
    · rcases mem_put hp with rfl | hp
      · exact hk.less _ _
      · exact h.inner p hp
    · rcases mem_put hp with rfl | hp
      · rcases mem_less hq with rfl | hq
        · exact (counts_iff.1 hc).2
        · exact hin q hq
      · exact h.pos p hp q hq
  · exact h
theorem TabOk.foldl {l : List (GE κ)} : ∀ {T : Tab κ}, TabOk T → TabOk (l.foldl tabStep T) := by
  induction l with
  | nil => exact fun h => h
  | cons e r ih => exact fun h => ih (h.step e)
theorem tab_ok (l : List (GE κ)) : TabOk (tab l) := TabOk.foldl ⟨by simp [Keys], by simp, by simp⟩
end tables

/-! ### walks and least costs -/
section walks
variable {κ : Type}
inductive Walk (t : κ → κ → Option Int) : κ → κ → Int → Prop
  | one {a b c} : t a b = some c → Walk t a b c
  | cons {a b d c k} : t a b = some c → Walk t b d k → Walk t a d (c + k)
theorem Walk.trans {t : κ → κ → Option Int} {a b c : κ} {x y : Int} (h : Walk t a b x) (k : Walk t b c y) : Walk t a c (x + y) := by
  induction h with
  | one h => exact .cons h k
  | cons h _ ih => rw [Int.add_assoc]; exact .cons h (ih k)
theorem Walk.snoc {t : κ → κ → Option Int} {a b c : κ} {x y : Int} (h : Walk t a b x) (k : t b c = some y) : Walk t a c (x + y) := h.trans (.one k)
theorem Walk.pos {t : κ → κ → Option Int} (ht : ∀ a b c, t a b = some c → 1 ≤ c) {a b : κ} {x : Int} (h : Walk t a b x) : 1 ≤ x := by
  induction h with
  | one h => exact ht _ _ _ h
  | cons h _ ih => have := ht _ _ _ h; omega
def IsDist (t : κ → κ → Option Int) (a b : κ) (d : Int) : Prop := Walk t a b d ∧ ∀ d', Walk t a b d' → d ≤ d'
theorem IsDist.unique {t : κ → κ → Option Int} {a b : κ} {d d' : Int} (h : IsDist t a b d) (h' : IsDist t a b d') : d = d' := by
  have := h.2 _ h'.1
  have := h'.2 _ h.1
  omega
/-- costs are 1 or above: where there is a walk there is a least one -/
theorem exists_dist {t : κ → κ → Option Int} (ht : ∀ a b c, t a b = some c → 1 ≤ c) {a b : κ} {x : Int} (h : Walk t a b x) : ∃ d, IsDist t a b d := by
  have key : ∀ n : Nat, ∀ x, x.toNat ≤ n → Walk t a b x → ∃ d, IsDist t a b d := by
    intro n
    induction n with
    | zero => intro x hx hw; have := hw.pos ht; omega
    | succ n ih =>
      intro x hx hw
      by_cases h : ∃ y, Walk t a b y ∧ y < x
      · obtain ⟨y, hy, hl⟩ := h
        have := hy.pos ht
        exact ih y (by omega) hy
      · refine ⟨x, hw, fun d' hd' => ?_⟩
        by_cases hl : d' < x
        · exact absurd ⟨d', hd', hl⟩ h
        · omega
  exact key _ x (Nat.le_refl _) h
/-- what Dist answers -/
def DistIs (t : κ → κ → Option Int) (a b : κ) (r : Int × Bool) : Prop := (r.2 = true ∧ IsDist t a b r.1) ∨ (r = (0, false) ∧ ∀ d, ¬ Walk t a b d)
theorem DistIs.unique {t : κ → κ → Option Int} {a b : κ} {r r' : Int × Bool} (h : DistIs t a b r) (h' : DistIs t a b r') : r = r' := by
  obtain ⟨x, p⟩ := r
  obtain ⟨y, q⟩ := r'
  rcases h with ⟨h1, h2⟩ | ⟨h1, h2⟩ <;> rcases h' with ⟨h3, h4⟩ | ⟨h3, h4⟩
  · simp only at h1 h2 h3 h4
    rw [h2.unique h4, h1, h3]
  · exact absurd h2.1 (h4 _)
  · exact absurd h4.1 (h2 _)
  · rw [h1, h3]
theorem Walk.map {κ' : Type} {t : κ → κ → Option Int} {t' : κ' → κ' → Option Int} (f : κ → κ') (g : Int → Int) (hg : ∀ x y, g (x + y) = g x + g y) (h : ∀ a b c, t a b = some c → t' (f a) (f b) = some (g c)) {a b : κ} {x : Int} (hw : Walk t a b x) : Walk t' (f a) (f b) (g x) := by
  induction hw with
  | one hc => exact .one (h _ _ _ hc)
  | cons hc _ ih => rw [hg]; exact .cons (h _ _ _ hc) ih
theorem Walk.turned {t t' : κ → κ → Option Int} (h : ∀ a b c, t a b = some c → t' b a = some c) {a b : κ} {x : Int} (hw : Walk t a b x) : Walk t' b a x := by
  induction hw with
  | one hc => exact .one (h _ _ _ hc)
  | cons hc _ ih => rw [Int.add_comm]; exact ih.snoc (h _ _ _ hc)
theorem Walk.mono {t t' : κ → κ → Option Int} (h : ∀ a b c, t a b = some c → ∃ c', t' a b = some c' ∧ c' ≤ c) {a b : κ} {x : Int} (hw : Walk t a b x) : ∃ y, Walk t' a b y ∧ y ≤ x := by
  induction hw with
  | one hc => obtain ⟨c', h1, h2⟩ := h _ _ _ hc; exact ⟨c', .one h1, h2⟩
  | cons hc _ ih =>
    obtain ⟨c', h1, h2⟩ := h _ _ _ hc
    obtain ⟨y, h3, h4⟩ := ih
    exact ⟨c' + y, .cons h1 h3, by omega⟩
end walks

/-! ### Dijkstra -/
section dijkstra
variable {κ : Type} [DecidableEq κ]
def pot (T : Tab κ) (done : List (κ × Int)) : Nat := (T.map fun p => if (get done p.1).isSome then 0 else p.2.length).foldr (· + ·) 0
theorem pot_nil (T : Tab κ) : pot T [] = deg T := by
  unfold pot deg
  simp [get]
theorem pot_put (T : Tab κ) (hT : Keys T) (done : List (κ × Int)) (n : κ) (c : Int) (hn : get done n = none) : pot T (put done n c) + ((get T n).getD []).length = pot T done := by
  induction T with
  | nil => simp [pot, get]
  | cons p r ih =>
    obtain ⟨k, m⟩ := p
    simp only [Keys, List.map_cons, List.nodup_cons] at hT
    have ih' := ih hT.2
    simp only [pot, List.map_cons, List.foldr_cons] at ih' ⊢
    by_cases e : n = k
    · subst e
      have hz : get r n = none := get_none_iff.2 hT.1
      rw [hz] at ih'
      simp only [Option.getD_none, List.length_nil, Nat.add_zero] at ih'
      rw [get_put, if_pos rfl, hn, ih']
      simp [get]
      omega
    · have : get (put done n c) k = get done k := by rw [get_put, if_neg (Ne.symm e)]
      rw [this]
      simp only [get, if_neg e]
      omega
structure Inv (T : Tab κ) (a : κ) (done q : List (κ × Int)) (B : Nat) : Prop where
  dist : ∀ n d, get done n = some d → IsDist (cst T) a n d
  walk : ∀ p ∈ q, Walk (cst T) a p.1 p.2
  near : ∀ v c, cst T a v = some c → (get done v).isSome = true ∨ (v, c) ∈ q
  next : ∀ u d, get done u = some d → ∀ v c, cst T u v = some c → (get done v).isSome = true ∨ (v, d + c) ∈ q
  bound : ∀ p ∈ q, p.2 ≤ ((done.length : Int) + 1) * 2147483647
  size : done.length + q.length + pot T done ≤ B
  keys : Keys done
theorem cst_pos {T : Tab κ} (hT : TabOk T) {a b : κ} {c : Int} (h : cst T a b = some c) : 1 ≤ c ∧ c ≤ 2147483647 := by
  unfold cst at h
  obtain ⟨m, h1, h2⟩ := Option.bind_eq_some_iff.1 h
  exact hT.pos _ (mem_of_get h1) _ (mem_of_get h2)
/-- what leads out of what is known goes through the queue -/
theorem Inv.through {T : Tab κ} {a : κ} {done q : List (κ × Int)} {B : Nat} (hT : TabOk T) (I : Inv T a done q B) {u v : κ} {k : Int} (hw : Walk (cst T) u v k) :
    ∀ du, ((u = a ∧ du = 0) ∨ get done u = some du) → get done v = none → ∃ p ∈ q, p.2 ≤ du + k := by
  induction hw with
  | @one u v c h =>
    intro du hu hv
    have : (get done v).isSome = true ∨ (v, du + c) ∈ q := by
      rcases hu with ⟨rfl, rfl⟩ | hu
      · rw [Int.zero_add]; exact I.near _ _ h
      · exact I.next _ _ hu _ _ h
    rcases this with h' | h'
    · rw [hv] at h'; simp at h'
    · exact ⟨_, h', Int.le_refl _⟩
  | @cons u x v c k h hw ih =>
    intro du hu hv
    have hk := hw.pos (fun _ _ _ h => (cst_pos hT h).1)
    have : (get done x).isSome = true ∨ (x, du + c) ∈ q := by
      rcases hu with ⟨rfl, rfl⟩ | hu
      · rw [Int.zero_add]; exact I.near _ _ h
      · exact I.next _ _ hu _ _ h
    rcases this with h' | h'
    · obtain ⟨dx, hx⟩ := Option.isSome_iff_exists.1 h'
      obtain ⟨p, hp, hle⟩ := ih dx (.inr hx) hv
      have hwx : Walk (cst T) a x (du + c) := by
        rcases hu with ⟨rfl, rfl⟩ | hu
        · rw [Int.zero_add]; exact .one h
        · exact (I.dist _ _ hu).1.snoc h
      have := (I.dist _ _ hx).2 _ hwx
      exact ⟨p, hp, by omega⟩
    · exact ⟨_, h', by show du + c ≤ _; omega⟩
/-- the least one of the queue -/
theorem Inv.least {T : Tab κ} {a : κ} {done q : List (κ × Int)} {B : Nat} (hT : TabOk T) (I : Inv T a done q B) {x : κ × Int} (hx : x ∈ q) (hmin : ∀ p ∈ q, x.2 ≤ p.2) (hn : get done x.1 = none) : IsDist (cst T) a x.1 x.2 := by
  refine ⟨I.walk _ hx, fun d' hd' => ?_⟩
  obtain ⟨p, hp, hle⟩ := I.through hT hd' 0 (.inl ⟨rfl, rfl⟩) hn
  have := hmin p hp
  omega
theorem Inv.perm {T : Tab κ} {a : κ} {done q q' : List (κ × Int)} {B : Nat} (I : Inv T a done q B) (h : q'.Perm q) : Inv T a done q' B :=
  ⟨I.dist, fun p hp => I.walk p (h.mem_iff.1 hp), fun v c hc => (I.near v c hc).imp_right h.mem_iff.2, fun u d hu v c hc => (I.next u d hu v c hc).imp_right h.mem_iff.2, fun p hp => I.bound p (h.mem_iff.1 hp), by rw [h.length_eq]; exact I.size, I.keys⟩
/-- what is known already is passed over -/
theorem Inv.pass {T : Tab κ} {a : κ} {done q : List (κ × Int)} {x : κ × Int} {B : Nat} (I : Inv T a done (x :: q) B) (hx : (get done x.1).isSome = true) : Inv T a done q B := by
  refine ⟨I.dist, fun p hp => I.walk p (List.mem_cons_of_mem _ hp), fun v c hc => ?_, fun u d hu v c hc => ?_, fun p hp => I.bound p (List.mem_cons_of_mem _ hp), by have := I.size; simp at this; omega, I.keys⟩
  · rcases I.near v c hc with h | h
    · exact .inl h
    · rcases List.mem_cons.1 h with rfl | h
      · exact .inl hx
      · exact .inr h
  · rcases I.next u d hu v c hc with h | h
    · exact .inl h
    · rcases List.mem_cons.1 h with rfl | h
      · exact .inl hx
      · exact .inr h
/-- the least one is known from now on, and what it leads to comes into the queue -/
theorem Inv.take {T : Tab κ} {a : κ} {done q : List (κ × Int)} {x : κ × Int} {B : Nat} (hT : TabOk T) (I : Inv T a done (x :: q) B) (hmin : ∀ p ∈ q, x.2 ≤ p.2) (hn : get done x.1 = none) {m' : List (κ × Int)} (hm : m'.Perm ((get T x.1).getD [])) :
    Inv T a (put done x.1 x.2) (q ++ m'.map fun p => (p.1, x.2 + p.2)) B := by
  have hd : IsDist (cst T) a x.1 x.2 := I.least hT (by simp) (fun p hp => by rcases List.mem_cons.1 hp with rfl | hp; exact Int.le_refl _; exact hmin p hp) hn
  have hc : ∀ v c, cst T x.1 v = some c → (v, x.2 + c) ∈ m'.map fun p => (p.1, x.2 + p.2) := by
    intro v c hc
    unfold cst at hc
    obtain ⟨m, h1, h2⟩ := Option.bind_eq_some_iff.1 hc
    refine List.mem_map.2 ⟨(v, c), hm.mem_iff.2 ?_, rfl⟩
    rw [h1]
    exact mem_of_get h2
  have hm' : ∀ p ∈ m', cst T x.1 p.1 = some p.2 := by
    intro p hp
    have := hm.mem_iff.1 hp
    cases hg : get T x.1 with
    | none => rw [hg] at this; simp at this
    | some m =>
      rw [hg] at this
      unfold cst
      rw [hg]
      exact get_of_mem (hT.inner _ (mem_of_get hg)) this
  have hlen : (put done x.1 x.2).length = done.length + 1 := by rw [length_put, hn]; rfl
  refine ⟨fun n d h => ?_, fun p hp => ?_, fun v c h => ?_, fun u d h v c hv => ?_, fun p hp => ?_, ?_, I.keys.put _ _⟩
  · rw [get_put] at h
    split at h
    · rename_i e; subst e; cases h; exact hd
    · exact I.dist n d h
  · rcases List.mem_append.1 hp with hp | hp
    · exact I.walk p (List.mem_cons_of_mem _ hp)
    · obtain ⟨r, hr, rfl⟩ := List.mem_map.1 hp
      exact hd.1.snoc (hm' r hr)
  · rw [get_put]
    by_cases e : v = x.1
    · simp [e]
    · rw [if_neg e]
      rcases I.near v c h with h | h
      · exact .inl h
      · rcases List.mem_cons.1 h with h | h
        · exact absurd (congrArg Prod.fst h) e
        · exact .inr (List.mem_append_left _ h)
  · rw [get_put (j := v)]
    by_cases e : v = x.1
    · simp [e]
    · rw [if_neg e]
      rw [get_put] at h
      split at h
      · rename_i e'
        subst e'
        cases h
        exact .inr (List.mem_append_right _ (hc v c hv))
      · rcases I.next u d h v c hv with h | h
        · exact .inl h
        · rcases List.mem_cons.1 h with h | h
          · exact absurd (congrArg Prod.fst h) e
          · exact .inr (List.mem_append_left _ h)
  · rw [hlen]
    rcases List.mem_append.1 hp with hp | hp
    · have := I.bound p (List.mem_cons_of_mem _ hp)
      simp only [Int.natCast_add]
      omega
    · obtain ⟨r, hr, rfl⟩ := List.mem_map.1 hp
      have h1 := I.bound x (by simp)
      have h2 := (cst_pos hT (hm' r hr)).2
      simp only [Int.natCast_add]
      show x.2 + r.2 ≤ _
      omega
  · have h1 := I.size
    have h2 := pot_put T hT.keys done x.1 x.2 hn
    have h3 := hm.length_eq
    rw [hlen]
    simp only [List.length_append, List.length_map, List.length_cons] at h1 ⊢
    omega
/-- the beginning: what the first one leads to -/
theorem Inv.start {T : Tab κ} (hT : TabOk T) (a : κ) {m' : List (κ × Int)} (hm : m'.Perm ((get T a).getD [])) : Inv T a [] (m'.map fun p => (p.1, 0 + p.2)) (2 * deg T) := by
  have hmem : ∀ v c, cst T a v = some c ↔ (v, c) ∈ m' := by
    intro v c
    rw [hm.mem_iff]
    unfold cst
    cases hg : get T a with
    | none => simp
    | some m =>
      simp only [Option.bind_some, Option.getD_some]
      exact ⟨mem_of_get, get_of_mem (hT.inner _ (mem_of_get hg))⟩
  have hdl : ((get T a).getD []).length ≤ deg T := by
    clear hmem hm hT
    induction T with
    | nil => simp [get]
    | cons p r ih =>
      obtain ⟨k, v⟩ := p
      simp only [deg, List.map_cons, List.foldr_cons] at ih ⊢
      by_cases e : a = k
      · simp [get, e]
      · simp only [get, if_neg e]
        omega
  have hin : ∀ p : κ × Int, p ∈ (m'.map fun p => (p.1, 0 + p.2)) ↔ p ∈ m' := by simp
  refine ⟨fun n d h => by simp [get] at h, fun p hp => .one ((hmem _ _).2 ((hin p).1 hp)), fun v c h => .inr ((hin _).2 ((hmem _ _).1 h)), fun u d h => by simp [get] at h, fun p hp => ?_, ?_, by simp [Keys]⟩
  · have := (cst_pos hT ((hmem p.1 p.2).2 ((hin p).1 hp))).2
    simp
    omega
  · rw [pot_nil, List.length_map, hm.length_eq]
    simp
    omega
def FarIs (t : κ → κ → Option Int) (a : κ) (done : List (κ × Int)) : Prop := Keys done ∧ ∀ n, match get done n with | some d => IsDist t a n d | none => ∀ d, ¬ Walk t a n d
theorem Inv.over {T : Tab κ} {a : κ} {done : List (κ × Int)} {B : Nat} (hT : TabOk T) (I : Inv T a done [] B) : FarIs (cst T) a done := by
  refine ⟨I.keys, fun n => ?_⟩
  cases h : get done n with
  | some d => exact I.dist n d h
  | none =>
    intro d hd
    obtain ⟨p, hp, _⟩ := I.through hT hd 0 (.inl ⟨rfl, rfl⟩) h
    simp at hp
theorem FarIs.dist {t : κ → κ → Option Int} {a : κ} {done : List (κ × Int)} (h : FarIs t a done) (b : κ) : DistIs t a b ((get done b).getD 0, (get done b).isSome) := by
  have := h.2 b
  cases hg : get done b with
  | some d => rw [hg] at this; exact .inl ⟨rfl, this⟩
  | none => rw [hg] at this; exact .inr ⟨rfl, this⟩
end dijkstra
end Go.Proofs.Ytdnnlfdblfcajaa.Gr
