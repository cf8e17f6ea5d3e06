/- graph.Ways. No conditions. -/
import Derived.Test.YtdnnlfdblfcajaaGrWaysC
import Derived.Test.YtdnnlfdblfcajaaGrDist
import Derived.Deep.RegionHeld3
import Derived.OwnWalk
namespace Go.Proofs.Ytdnnlfdblfcajaa.Gr
open Go.RowKit Go.Proofs.YtdnnlfdblfcajaaW.PrintWords
def nodes (T : Tab ByteArray) : List ByteArray := T.flatMap fun p => p.2.map (·.1)
theorem nodes_len (T : Tab ByteArray) : (nodes T).length = deg T := by
  unfold nodes deg
  induction T with
  | nil => rfl
  | cons p r ih => simp [List.flatMap_cons, ih]
theorem mem_nbs {T : Tab ByteArray} {u x : ByteArray} : x ∈ nbs T u ↔ ∃ c, cst T u x = some c := by
  unfold nbs cst
  rw [mem_skeys]
  cases hg : get T u with
  | none => simp
  | some m =>
    simp only [Option.getD_some, Option.bind_some]
    constructor
    · intro h
      cases h2 : get m x with
      | none => exact absurd h (get_none_iff.1 h2)
      | some c => exact ⟨c, rfl⟩
    · rintro ⟨c, h⟩
      exact List.mem_map.2 ⟨_, mem_of_get h, rfl⟩
theorem nbs_nodes {T : Tab ByteArray} {u x : ByteArray} (h : x ∈ nbs T u) : x ∈ nodes T := by
  unfold nbs at h
  rw [mem_skeys] at h
  cases hg : get T u with
  | none => rw [hg] at h; simp at h
  | some m =>
    rw [hg] at h
    exact List.mem_flatMap.2 ⟨_, mem_of_get hg, h⟩
theorem deg_get {T : Tab ByteArray} {u : ByteArray} : ((get T u).getD []).length ≤ deg T := by
  cases hg : get T u with
  | none => simp
  | some m =>
    have h1 := mem_of_get hg
    unfold deg
    clear hg
    induction T with
    | nil => cases h1
    | cons p r ih =>
      rw [List.map_cons, List.foldr_cons]
      rcases List.mem_cons.1 h1 with h | h
      · subst h; simp
      · have := ih h; omega
/-- what Ways answers -/
def wayList (T : Tab ByteArray) (a b : ByteArray) : List (List ByteArray) := if a = b then [] else ways (nbs T) b 100001 [a] a []
theorem results_cell_one {fn : Func} {p : Tmp} (h : fn.results = #[.cell p 29]) (tmps : Array Value) (w : World) (g : Nat) (v : Value) (hp : tmps.getD p undef = .pointer (some ⟨g, 0, none⟩)) (hg : w.cell? ⟨g, 0, none⟩ = some v) :
    (results fn tmps).run Try.prog w = .ok v w := by
  have hp' : tmps[p]?.getD undef = .pointer (some ⟨g, 0, none⟩) := by simpa using hp
  simp [results, h, hp', go_sem, hg]
set_option maxHeartbeats 4000000 in
set_option maxRecDepth 100000 in
theorem ways_calls (A : Option Addr) (cap : Nat) (l : List Ed) (a b : ByteArray) (w : World) (hr : ReadsRow EK 3 w A l.length l) (hl : l.length ≤ 100000) (hsz : ∀ e ∈ l, e.B.size ≤ maxLen) :
    Calls Try.prog 12 #[.slice A l.length cap, .string a, .string b] w fun e w' => ∃ v, e = .returned v ∧ KW.R 26 w' w.heap.size (fun _ => True) v (wayList (tab l) a b) ∧ Below w.heap.size w w' := by
  have hr2 : ReadsRow EK 3 ((w.alloc (.cells #[.string b] 9 (0, 0))).alloc (.cells #[.slice none 0 0] 29 (0, 0))) A l.length l := by
    have hb := ((Below.refl w.heap.size w).alloc (Nat.le_refl _) (.cells #[.string b] 9 (0, 0))).alloc (by simp) (.cells #[.slice none 0 0] 29 (0, 0))
    exact ReadsRow.imp_ hr hb (fun _ _ h => h)
  have htab := tabled_calls A cap l _ hr2
  have hd : deg (tab l) ≤ 100000 := Nat.le_trans (deg_tab l) hl
  have hsz2 : ∀ u, ∀ p ∈ (get (tab l) u).getD [], p.1.size ≤ maxLen := by
    intro u p hp
    have h1 : p.1 ∈ nbs (tab l) u := by unfold nbs; rw [mem_skeys]; exact List.mem_map.2 ⟨p, hp, rfl⟩
    obtain ⟨c, hc⟩ := mem_nbs.1 h1
    rw [cst_tab] at hc
    obtain ⟨e, he, _, _, h2, _⟩ := best_some hc
    exact h2 ▸ hsz e he
  generalize tab l = T at htab hd hsz2 ⊢
  have hwl : (a = b → wayList T a b = []) ∧ (a ≠ b → wayList T a b = ways (nbs T) b 100001 [a] a []) := by
    unfold wayList
    exact ⟨fun h => if_pos h, fun h => if_neg h⟩
  generalize wayList T a b = wl at hwl ⊢
  have HWL := Lib.hid hwl
  have HTAB := Lib.hid htab
  have HSZ := Lib.hid hsz2
  clear htab hsz2 hr hr2 hsz hwl
  go_enter Try.func12, Try.ntmps12
  go_wp2_with (go_at_call 18; refine HTAB.out.mono ?_)
  rintro e w1 ⟨tb, blk, rfl, hT, hB⟩
  have hsz1 : w.heap.size + 2 ≤ w1.heap.size := by have := hB.size; simpa using this
  have c1 : w1.heap[w.heap.size]? = some (.cells #[.string b] 9 (0, 0)) := blk_below (blk_alloc (blk_new w _) _) hB
  have c2 : w1.heap[w.heap.size + 1]? = some (.cells #[.slice none 0 0] 29 (0, 0)) := by
    have := blk_below (blk_new (w.alloc (.cells #[.string b] 9 (0, 0))) (.cells #[.slice none 0 0] 29 (0, 0))) hB
    simpa using this
  have c3 : ((w1.alloc (.cells #[.map (some tb)] 45 (0, 0))).alloc (.cells #[.nilFunc] 47 (0, 0))).heap[w1.heap.size + 1]? = some (.cells #[.nilFunc] 47 (0, 0)) := by
    have := blk_new (w1.alloc (.cells #[.map (some tb)] 45 (0, 0))) (.cells #[.nilFunc] 47 (0, 0))
    simpa using this
  have d1 := blk_cell c1 0
  have d3 := blk_cell c3 0
  have d4 := blk_frozen c3 0
  have n1 : ¬ (w.heap.size = w1.heap.size + 1) := by omega
  have n2 : w.heap.size < w1.heap.size := by omega
  have n3 : w.heap.size < w1.heap.size + 1 := by omega
  have n4 : ¬ (w1.heap.size + 1 = w.heap.size) := by omega
  simp only [List.getElem?_toArray, List.getElem?_cons_zero] at d1 d3
  have hst : Sem.run Try.prog (store ⟨w1.heap.size + 1, 0, none⟩ (.func (.func 19) #[] #[.pointer (some ⟨w.heap.size, 0, none⟩), .pointer (some ⟨w.heap.size + 1, 0, none⟩), .pointer (some ⟨w1.heap.size, 0, none⟩), .pointer (some ⟨w1.heap.size + 1, 0, none⟩)])) ((w1.alloc (.cells #[.map (some tb)] 45 (0, 0))).alloc (.cells #[.nilFunc] 47 (0, 0))) =
      .ok () (((w1.alloc (.cells #[.map (some tb)] 45 (0, 0))).alloc (.cells #[.nilFunc] 47 (0, 0))).setCell ⟨w1.heap.size + 1, 0, none⟩ (.func (.func 19) #[] #[.pointer (some ⟨w.heap.size, 0, none⟩), .pointer (some ⟨w.heap.size + 1, 0, none⟩), .pointer (some ⟨w1.heap.size, 0, none⟩), .pointer (some ⟨w1.heap.size + 1, 0, none⟩)])) := by
    rw [run_store _ _ _ _ _ rfl, d3, d4]
    rfl
  have hbw : Below w.heap.size w w1 := ((((Below.refl w.heap.size w).alloc (Nat.le_refl _) _).alloc (by simp) _).trans (hB.mono (by simp; omega)))
  have hb5 : Below w1.heap.size w1 ((w1.alloc (.cells #[.map (some tb)] 45 (0, 0))).alloc (.cells #[.func (.func 19) #[] #[.pointer (some ⟨w.heap.size, 0, none⟩), .pointer (some ⟨w.heap.size + 1, 0, none⟩), .pointer (some ⟨w1.heap.size, 0, none⟩), .pointer (some ⟨w1.heap.size + 1, 0, none⟩)]] 47 (0, 0))) := ((Below.refl w1.heap.size w1).alloc (Nat.le_refl _) _).alloc (by simp) _
  have hcl : Cl ((w1.alloc (.cells #[.map (some tb)] 45 (0, 0))).alloc (.cells #[.func (.func 19) #[] #[.pointer (some ⟨w.heap.size, 0, none⟩), .pointer (some ⟨w.heap.size + 1, 0, none⟩), .pointer (some ⟨w1.heap.size, 0, none⟩), .pointer (some ⟨w1.heap.size + 1, 0, none⟩)]] 47 (0, 0))) w.heap.size w.heap.size (w.heap.size + 1) w1.heap.size (w1.heap.size + 1) tb blk T b (.slice none 0 0) [] := by
    have hT5 := hT.below hb5
    have hge := hT.ge
    simp only [World.size_alloc] at hge
    refine ⟨blk_below c1 hb5, blk_below c2 hb5, ?_, ?_, ⟨hT5.out, hT5.inn, ⟨by omega, fun p hp => ⟨by have := (hge.2 p hp).1; omega, (hge.2 p hp).2⟩⟩, hT5.inj⟩, Kd.R_nil _ _ _ _ _, by omega, Nat.le_trans hbw.size hb5.size⟩
    · exact blk_alloc (blk_new w1 _) _
    · have := blk_new (w1.alloc (.cells #[.map (some tb)] 45 (0, 0))) (.cells #[.func (.func 19) #[] #[.pointer (some ⟨w.heap.size, 0, none⟩), .pointer (some ⟨w.heap.size + 1, 0, none⟩), .pointer (some ⟨w1.heap.size, 0, none⟩), .pointer (some ⟨w1.heap.size + 1, 0, none⟩)]] 47 (0, 0))
      simpa using this
  have hsz5 : ((w1.alloc (.cells #[.map (some tb)] 45 (0, 0))).alloc (.cells #[.func (.func 19) #[] #[.pointer (some ⟨w.heap.size, 0, none⟩), .pointer (some ⟨w.heap.size + 1, 0, none⟩), .pointer (some ⟨w1.heap.size, 0, none⟩), .pointer (some ⟨w1.heap.size + 1, 0, none⟩)]] 47 (0, 0))).heap.size = w1.heap.size + 2 := by simp
  have hon : a ≠ b → Calls Try.prog 19 #[.slice (some ⟨w1.heap.size + 1 + 1, 0, none⟩) 1 1, .pointer (some ⟨w.heap.size, 0, none⟩), .pointer (some ⟨w.heap.size + 1, 0, none⟩), .pointer (some ⟨w1.heap.size, 0, none⟩), .pointer (some ⟨w1.heap.size + 1, 0, none⟩)] (((w1.alloc (.cells #[.map (some tb)] 45 (0, 0))).alloc (.cells #[.func (.func 19) #[] #[.pointer (some ⟨w.heap.size, 0, none⟩), .pointer (some ⟨w.heap.size + 1, 0, none⟩), .pointer (some ⟨w1.heap.size, 0, none⟩), .pointer (some ⟨w1.heap.size + 1, 0, none⟩)]] 47 (0, 0))).alloc (.cells #[.string a] 9 (0, 0))) fun e w' => e = .returned (.tuple #[]) ∧ ∃ v', w'.cell? ⟨w.heap.size + 1, 0, none⟩ = some v' ∧ KW.R 26 w' w.heap.size (fun _ => True) v' wl ∧ Below w.heap.size w w' := by
    intro hab
    have hwl := HWL.out.2 hab
    have hcl6 := hcl.below (below_alloc (Below.refl _ _) (.cells #[.string a] 9 (0, 0)))
    have hR : Kd.string.R 9 (((w1.alloc (.cells #[.map (some tb)] 45 (0, 0))).alloc (.cells #[.func (.func 19) #[] #[.pointer (some ⟨w.heap.size, 0, none⟩), .pointer (some ⟨w.heap.size + 1, 0, none⟩), .pointer (some ⟨w1.heap.size, 0, none⟩), .pointer (some ⟨w1.heap.size + 1, 0, none⟩)]] 47 (0, 0))).alloc (.cells #[.string a] 9 (0, 0))) (w1.heap.size + 2) (fun _ => True) (.slice (some ⟨w1.heap.size + 2, 0, none⟩) 1 1) [a] := by
      have h0 : (((w1.alloc (.cells #[.map (some tb)] 45 (0, 0))).alloc (.cells #[.func (.func 19) #[] #[.pointer (some ⟨w.heap.size, 0, none⟩), .pointer (some ⟨w.heap.size + 1, 0, none⟩), .pointer (some ⟨w1.heap.size, 0, none⟩), .pointer (some ⟨w1.heap.size + 1, 0, none⟩)]] 47 (0, 0))).alloc (.cells #[.string a] 9 (0, 0))).ownsRow (w1.heap.size + 2) 9 1 (.slice (some ⟨((w1.alloc (.cells #[.map (some tb)] 45 (0, 0))).alloc (.cells #[.func (.func 19) #[] #[.pointer (some ⟨w.heap.size, 0, none⟩), .pointer (some ⟨w.heap.size + 1, 0, none⟩), .pointer (some ⟨w1.heap.size, 0, none⟩), .pointer (some ⟨w1.heap.size + 1, 0, none⟩)]] 47 (0, 0))).heap.size, 0, none⟩) 1 1) [a].length (encs Value.string [a]) :=
        ⟨rfl, .inr ⟨((w1.alloc (.cells #[.map (some tb)] 45 (0, 0))).alloc (.cells #[.func (.func 19) #[] #[.pointer (some ⟨w.heap.size, 0, none⟩), .pointer (some ⟨w.heap.size + 1, 0, none⟩), .pointer (some ⟨w1.heap.size, 0, none⟩), .pointer (some ⟨w1.heap.size + 1, 0, none⟩)]] 47 (0, 0))).heap.size, 1, #[.string a], rfl, by omega, heap_alloc_new _ _, by simp, by decide, rfl, rfl⟩⟩
      have := Kd.R_of_own (enc := Value.string) (h1 := fun _ => rfl) (ok := fun _ => True) h0 (fun _ _ => trivial)
      rw [hsz5] at this
      exact this
    have hC : ∀ w2, KeepBut (((w1.alloc (.cells #[.map (some tb)] 45 (0, 0))).alloc (.cells #[.func (.func 19) #[] #[.pointer (some ⟨w.heap.size, 0, none⟩), .pointer (some ⟨w.heap.size + 1, 0, none⟩), .pointer (some ⟨w1.heap.size, 0, none⟩), .pointer (some ⟨w1.heap.size + 1, 0, none⟩)]] 47 (0, 0))).alloc (.cells #[.string a] 9 (0, 0))) w2 (w.heap.size + 1) (Value.slice none 0 0).ownBlock → Kd.string.C w2 (some ⟨w1.heap.size + 2, 0, none⟩) [a].length [a] := by
      intro w2 hk
      have h3 := Kd.R_step (w1 := w2) (Kd.R_bound hR) (fun k hk' hlt => by
        have h4 := hk'.2.1
        exact hk.2 k hlt (by omega) (by simp [Value.ownBlock]))
      exact (Kd.R_reads' h3).2.2
    have := on_calls w.heap.size w.heap.size (w.heap.size + 1) w1.heap.size (w1.heap.size + 1) tb blk T b HSZ.out (fun u => Nat.le_trans deg_get (by omega)) (nodes T) (fun u x h => nbs_nodes h) 100001 [a] ⟨w1.heap.size + 2, 0, none⟩ 1 a _ [] _ hcl6 hC rfl (by simp) (by simp) (by have h1 : (rest (nodes T) [a]).length ≤ (nodes T).length := List.length_filter_le _ _; rw [nodes_len] at h1; omega) (by simp)
    rw [← hwl] at this
    refine this.mono ?_
    rintro e w' ⟨rfl, v', q1, q2, q3, q4⟩
    refine ⟨rfl, v', blk_cell q1.co 0, q1.row, ?_⟩
    exact ((hbw.trans (hb5.mono (by omega))).alloc (by omega) _).trans q4
  have HON := Lib.hid hon
  have HC5 := Lib.hid hcl
  have HB5 := Lib.hid hb5
  have HBW := Lib.hid hbw
  have HSZ5 := Lib.hid hsz5
  have d5 : ((w1.alloc (.cells #[.map (some tb)] 45 (0, 0))).alloc (.cells #[.func (.func 19) #[] #[.pointer (some ⟨w.heap.size, 0, none⟩), .pointer (some ⟨w.heap.size + 1, 0, none⟩), .pointer (some ⟨w1.heap.size, 0, none⟩), .pointer (some ⟨w1.heap.size + 1, 0, none⟩)]] 47 (0, 0))).cell? ⟨w.heap.size, 0, none⟩ = some (.string b) := blk_cell hcl.cb 0
  have d6 : ((w1.alloc (.cells #[.map (some tb)] 45 (0, 0))).alloc (.cells #[.func (.func 19) #[] #[.pointer (some ⟨w.heap.size, 0, none⟩), .pointer (some ⟨w.heap.size + 1, 0, none⟩), .pointer (some ⟨w1.heap.size, 0, none⟩), .pointer (some ⟨w1.heap.size + 1, 0, none⟩)]] 47 (0, 0))).cell? ⟨w1.heap.size + 1, 0, none⟩ = some (.func (.func 19) #[] #[.pointer (some ⟨w.heap.size, 0, none⟩), .pointer (some ⟨w.heap.size + 1, 0, none⟩), .pointer (some ⟨w1.heap.size, 0, none⟩), .pointer (some ⟨w1.heap.size + 1, 0, none⟩)]) := blk_cell hcl.cn 0
  clear hB hT d3 d4 hon hcl hb5 hbw c1 c2 c3 hsz5
  by_cases hab : a = b
  · have e1 : (a.toList == b.toList) = true := by rw [beq_iff_eq, str_eq]; exact hab
    have HAB := Lib.hid hab
    clear hab
    go_wp2
    (try simp only [Exit.inBlock, Exit.then])
    refine bodyPost_ret (results_cell_one rfl _ _ (w.heap.size + 1) (.slice none 0 0) rfl (blk_cell HC5.out.co 0)) rfl ?_
    refine ⟨_, rfl, ?_, HBW.out.trans (HB5.out.mono (by omega))⟩
    rw [HWL.out.1 HAB.out]
    exact Kd.R_nil _ _ _ _ _
  have e1 : (a.toList == b.toList) = false := by rw [beq_eq_false_iff_ne, ne_eq, str_eq]; exact hab
  have HAB := Lib.hid hab
  clear hab
  go_wp2_with (go_at_call 19; refine (HON.out HAB.out).mono ?_)
  rintro e w7 ⟨rfl, v7, q1, q2, q3⟩
  have HQ2 := Lib.hid q2
  have HQ3 := Lib.hid q3
  clear q2 q3
  go_wp2
  (try simp only [Exit.inBlock, Exit.then])
  refine bodyPost_ret (results_cell_one rfl _ _ (w.heap.size + 1) v7 rfl q1) rfl ?_
  exact ⟨_, rfl, HQ2.out, HQ3.out⟩
end Go.Proofs.Ytdnnlfdblfcajaa.Gr
