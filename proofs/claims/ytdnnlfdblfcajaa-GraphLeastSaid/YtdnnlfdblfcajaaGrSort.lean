/- slices.SortFunc at graph.far's queue: a permutation, by rising cost. No conditions. -/
import Derived.Test.YtdnnlfdblfcajaaGrTab
import Derived.Shelf.GgSortFunc.InsertionK
namespace Go.Proofs.Ytdnnlfdblfcajaa.Gr
open Go.RowKit Go.Sort Go.Proofs.YtdnnlfdblfcajaaW.PrintWords
abbrev Rch := ByteArray × Int
def encR (x : Rch) : List Value := [.string x.1, .int .i64 x.2]
def qcells (q : List Rch) : List Value := q.flatMap encR
theorem qcells_length (q : List Rch) : (qcells q).length = q.length * 2 := by
  induction q with
  | nil => rfl
  | cons x r ih => simp only [qcells, List.flatMap_cons, List.length_append, List.length_cons] at ih ⊢; rw [ih]; simp [encR]; omega
def QU (w : World) (base : Nat) (v : Value) (q : List Rch) : Prop := QRow w base 59 2 v q.length (qcells q)
def cfR (x y : Rch) : Int := Lib.compareInt x.2 y.2
theorem qcells_get (q : List Rch) (t : Nat) (h : t < q.length * 2) : (qcells q)[t]? = (encR (q.toArray[t / 2]!))[t % 2]? := by
  induction q generalizing t with
  | nil => simp at h
  | cons x r ih =>
    have hx : (encR x).length = 2 := rfl
    simp only [qcells, List.flatMap_cons]
    rcases Nat.lt_or_ge t 2 with h2 | h2
    · rw [List.getElem?_append_left (by omega)]
      have h0 : t / 2 = 0 := by omega
      have h1 : t % 2 = t := by omega
      rw [h0, h1]
      rfl
    · rw [List.getElem?_append_right (by omega)]
      have := ih (t - 2) (by simp at h; omega)
      rw [qcells] at this
      rw [hx, this]
      have h0 : t / 2 = (t - 2) / 2 + 1 := by omega
      have h1 : t % 2 = (t - 2) % 2 := by omega
      rw [h0, h1]
      congr 2
      have hl : (t - 2) / 2 < r.length := by simp at h; omega
      simp [hl]
theorem flatK_q (q : List Rch) : flatK encR 2 q.toArray = (qcells q).toArray := by
  apply Array.ext_getElem?
  intro t
  rcases Nat.lt_or_ge t (q.length * 2) with h | h
  · have h1 : (qcells q)[t]? = _ := qcells_get q t h
    have h2 : t < (flatK encR 2 q.toArray).size := by rw [size_flatK]; simpa using h
    have h3 := get_flatK encR 2 q.toArray t (by simpa using h)
    rw [getElem!_pos (flatK encR 2 q.toArray) t h2] at h3
    rw [Array.getElem?_eq_getElem h2, h3, List.getElem?_toArray, h1]
    have h4 : t % 2 < (encR q.toArray[t / 2]!).length := by have : (encR q.toArray[t / 2]!).length = 2 := rfl; omega
    rw [List.getElem?_eq_getElem h4, getElem!_pos (encR q.toArray[t / 2]!) _ h4]
  · rw [Array.getElem?_eq_none (by rw [size_flatK]; simpa using h), List.getElem?_toArray, List.getElem?_eq_none (by rw [qcells_length]; exact h)]
/-- the queue as the sort's row -/
theorem QU.holds {w : World} {g off : Nat} {cur : Array Value} {q : List Rch} (hh : w.heap[g]? = some (.cells cur 59 (0, 0))) (hc : (cur.toList.drop (off * 2)).take (q.length * 2) = qcells q) : HoldsK encR 2 w g (off * 2) q.toArray := by
  intro j hj
  rw [size_flatK] at hj
  rw [flatK_q]
  have hj' : j < q.length * 2 := by simpa using hj
  refine ⟨?_, blk_frozen hh _⟩
  rw [cell_of_row w g _ cur 59 (0, 0) hh]
  have h1 : (qcells q)[j]? = cur[off * 2 + j]? := by
    rw [← hc, List.getElem?_take, if_pos hj', List.getElem?_drop, Array.getElem?_toList]
  have h2 : j < (qcells q).length := by rw [qcells_length]; exact hj'
  rw [← h1, List.getElem?_eq_getElem h2]
  simp [h2]
/-- what the sort leaves: the queue's row, in its block -/
theorem QU.sorted {w : World} {base g off cap : Nat} {cur : Array Value} {q q' : List Rch} (hb : base ≤ g) (hh : w.heap[g]? = some (.cells cur 59 (0, 0))) (hn : q.length ≤ cap) (hm : off + cap ≤ maxLen) (hs : cur.size = (off + cap) * 2) (hl : q'.length = q.length) (n : Nat) (os : Array Obj) :
    QU (sortWorldK encR 2 w g (off * 2) n q'.toArray os) base (.slice (some ⟨g, off * 2, none⟩) q.length cap) q' ∧ w.grownBy (sortWorldK encR 2 w g (off * 2) n q'.toArray os) (some g) := by
  have hgl : g < w.heap.size := (Array.getElem?_eq_some_iff.1 hh).1
  have hput : ∀ i, (putRowK encR 2 (Sort.ahead w n) g (off * 2) q'.toArray).heap[i]? = if g = i then some (.cells (putCells id (off * 2) (qcells q').toArray cur) 59 (0, 0)) else w.heap[i]? := by
    intro i
    unfold putRowK putRow mapBlock
    rw [flatK_q]
    simp only [Array.getElem?_modify]
    by_cases e : g = i
    · subst e
      rw [if_pos rfl, if_pos rfl]
      show Option.map _ w.heap[g]? = _
      rw [hh]
      simp [onCells]
    · rw [if_neg e, if_neg e]
      rfl
  have hsz : (putRowK encR 2 (Sort.ahead w n) g (off * 2) q'.toArray).heap.size = w.heap.size := by
    unfold putRowK putRow mapBlock
    simp [Sort.ahead]
  have hgr : ∀ i, i < w.heap.size → (sortWorldK encR 2 w g (off * 2) n q'.toArray os).heap[i]? = (putRowK encR 2 (Sort.ahead w n) g (off * 2) q'.toArray).heap[i]? := by
    intro i hi
    unfold sortWorldK grow
    simp only
    rw [Array.getElem?_append_left (by rw [hsz]; exact hi)]
  refine ⟨⟨by rw [qcells_length], .inr ⟨g, off, cap, putCells id (off * 2) (qcells q').toArray cur, by rw [hl], hb, ?_, by omega, hm, by simp [putCells, hs], ?_⟩⟩, ?_⟩
  · rw [hgr g hgl, hput, if_pos rfl]
  · apply List.ext_getElem?
    intro j
    rw [List.getElem?_take]
    by_cases hj : j < q'.length * 2
    · have hjl : j < (qcells q').length := by rw [qcells_length]; exact hj
      have hjc : off * 2 + j < cur.size := by rw [hs]; omega
      rw [if_pos hj, List.getElem?_drop, Array.getElem?_toList]
      simp only [putCells, Array.getElem?_mapIdx, Array.getElem?_eq_getElem hjc, Option.map_some]
      rw [if_pos ⟨by omega, by simp [qcells_length]; omega⟩, List.getElem?_eq_getElem hjl]
      have : off * 2 + j - off * 2 = j := by omega
      rw [this]
      simp [hjl]
    · rw [if_neg hj, List.getElem?_eq_none (by rw [qcells_length]; omega)]
  · refine ⟨rfl, rfl, rfl, ?_, fun i hi hne => ?_⟩
    · unfold sortWorldK
      rw [size_grow, hsz]
      omega
    · rw [hgr i hi, hput, if_neg (fun e => hne (by rw [e]))]
set_option maxHeartbeats 1000000 in
theorem cmp_int_calls (x y : Int) (W : World) : Calls Try.prog 32 #[.int .i64 x, .int .i64 y] W fun e w' => e = .returned (.int .i64 (Lib.compareInt x y)) ∧ w' = W := by
  unfold Lib.compareInt
  by_cases h1 : x < y
  · rw [if_pos h1]
    go_enter Try.func32, Try.ntmps32
    go_wp2
    go_ret
    exact ⟨rfl, rfl⟩
  · by_cases h2 : y < x
    · rw [if_neg h1, if_pos h2]
      go_enter Try.func32, Try.ntmps32
      go_wp2
      go_ret
      exact ⟨rfl, rfl⟩
    · rw [if_neg h1, if_neg h2]
      go_enter Try.func32, Try.ntmps32
      go_wp2
      go_ret
      exact ⟨rfl, rfl⟩
set_option maxHeartbeats 1000000 in
theorem closure31 (x y : Rch) (W : World) : Calls Try.prog 31 #[.agg #[.string x.1, .int .i64 x.2], .agg #[.string y.1, .int .i64 y.2]] W fun e w' => e = .returned (.int .i64 (cfR x y)) ∧ ∃ q os', w' = grow (W.drewN q) os' := by
  have hcon := fun W' => cmp_int_calls x.2 y.2 W'
  unfold cfR
  generalize Lib.compareInt x.2 y.2 = r at hcon ⊢
  have HC := Lib.hid hcon
  clear hcon
  go_enter Try.func31, Try.ntmps31
  go_wp2_with (go_at_call 32; refine (HC.out _).mono ?_; rintro e w' ⟨rfl, rfl⟩)
  go_ret
  exact ⟨rfl, 0, _, by rw [alloc_eq_grow, alloc_eq_grow, grow_grow]; rfl⟩
end Go.Proofs.Ytdnnlfdblfcajaa.Gr
