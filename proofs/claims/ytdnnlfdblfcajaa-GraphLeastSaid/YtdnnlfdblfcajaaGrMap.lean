/- Maps keyed by strings, as lists of keys and values in the order in which they came: what a look-up, a store, a range and its steps do. No conditions. -/
import Derived.Maps.RangeRun
import Derived.Maps.OwnSet
import Derived.WalkKit
import Derived.Test.YtdnnlfdblfcajaaGrPlain
namespace Go.Proofs.Ytdnnlfdblfcajaa.Gr
open Go.RowKit
open Go.ChangeMaps (setBlock heap_setBlock_same heap_setBlock_other)
open Go.MapKept (Stamped stamped_push stamped_modify stamped_empty stamped_iff)
open Go.Maps (Keyed)
/-- Block b is a map whose entries are m's, in m's order. -/
def SM (w : World) (b : Nat) (m : List (ByteArray × Value)) : Prop :=
  ∃ es clock, w.heap[b]? = some (.map es clock) ∧ Stamped es clock ∧ es.toList.map (fun e => (e.key, e.val)) = m.map (fun p => (Value.string p.1, p.2))
theorem SM.lt {w : World} {b : Nat} {m : List (ByteArray × Value)} (h : SM w b m) : b < w.heap.size := by
  obtain ⟨es, clock, hb, _⟩ := h
  exact (Array.getElem?_eq_some_iff.1 hb).1
theorem SM.move {w w' : World} {b : Nat} {m : List (ByteArray × Value)} (h : SM w b m) (hm : w'.heap[b]? = w.heap[b]?) : SM w' b m := by
  obtain ⟨es, clock, hb, r⟩ := h
  exact ⟨es, clock, hm.trans hb, r⟩
theorem SM.below {w w' : World} {b B : Nat} {m : List (ByteArray × Value)} (h : SM w b m) (hb : Below B w w') (hB : b < B) : SM w' b m := h.move (hb.block b hB)
theorem SM.made (w : World) : SM (w.alloc (.map #[] 0)) w.heap.size [] := ⟨#[], 0, (MapKept.heap_alloc w _).1, stamped_empty 0, rfl⟩
theorem entries_get {m : List (ByteArray × Value)} {l : List MapEntry} (h : l.map (fun e => (e.key, e.val)) = m.map (fun p => (Value.string p.1, p.2))) (s : ByteArray) :
    ((∀ e ∈ l, e.key ≠ .string s) → get m s = none) ∧ (∀ j e, l[j]? = some e → (∀ i e', i < j → l[i]? = some e' → e'.key ≠ .string s) → e.key = .string s → get m s = some e.val ∧ ∀ v, put m s v = (m.take j) ++ (s, v) :: m.drop (j + 1)) := by
  induction m generalizing l with
  | nil =>
    obtain rfl : l = [] := by simpa using h
    exact ⟨fun _ => rfl, fun j e h => by simp at h⟩
  | cons p r ih =>
    obtain ⟨k, u⟩ := p
    cases l with
    | nil => simp at h
    | cons e0 l =>
      simp only [List.map_cons, List.cons.injEq, Prod.mk.injEq] at h
      obtain ⟨⟨h1, h2⟩, h3⟩ := h
      obtain ⟨i1, i2⟩ := ih h3
      refine ⟨fun hn => ?_, fun j e hj hmin he => ?_⟩
      · have hne : s ≠ k := by rintro rfl; exact hn e0 (by simp) h1
        simp only [get, if_neg hne]
        exact i1 (fun e he => hn e (List.mem_cons_of_mem _ he))
      · cases j with
        | zero =>
          simp only [List.getElem?_cons_zero, Option.some.injEq] at hj
          subst hj
          rw [h1] at he
          injection he with he
          subst he
          exact ⟨by simp [get, h2], fun v => by simp [put]⟩
        | succ j =>
          have hne : s ≠ k := by
            rintro rfl
            exact hmin 0 e0 (by omega) (by simp) h1
          have := i2 j e (by simpa using hj) (fun i e' hi he' => hmin (i + 1) e' (by omega) (by simpa using he')) he
          exact ⟨by simp only [get, if_neg hne]; exact this.1, fun v => by simp only [put, if_neg hne, this.2 v]; simp⟩
theorem entries_keyed {m : List (ByteArray × Value)} {l : List MapEntry} (h : l.map (fun e => (e.key, e.val)) = m.map (fun p => (Value.string p.1, p.2))) : ∀ e ∈ l, MapKept.IsKey .string e.key := by
  intro e he
  have : (e.key, e.val) ∈ m.map (fun p => (Value.string p.1, p.2)) := h ▸ List.mem_map.2 ⟨e, he, rfl⟩
  obtain ⟨p, hp, e1⟩ := List.mem_map.1 this
  simp only [Prod.mk.injEq] at e1
  rw [← e1.1]
  trivial
theorem get_none_keys {m : List (ByteArray × Value)} {l : List MapEntry} {s : ByteArray} (h : l.map (fun e => (e.key, e.val)) = m.map (fun p => (Value.string p.1, p.2))) (hg : get m s = none) : ∀ e ∈ l, e.key ≠ .string s := by
  induction m generalizing l with
  | nil =>
    obtain rfl : l = [] := by simpa using h
    intro e he
    simp at he
  | cons p r ih =>
    obtain ⟨k, u⟩ := p
    cases l with
    | nil => simp at h
    | cons e0 l =>
      simp only [List.map_cons, List.cons.injEq, Prod.mk.injEq] at h
      obtain ⟨⟨h1, h2⟩, h3⟩ := h
      by_cases hne : s = k
      · simp [get, hne] at hg
      · simp only [get, if_neg hne] at hg
        intro e he
        rcases List.mem_cons.1 he with rfl | he
        · rw [h1]
          intro e1
          injection e1 with e1
          exact hne e1.symm
        · exact ih h3 hg e he
/-- no key twice: where a key stands, it stands first -/
theorem first_of_stamped {es : Array MapEntry} {clock : Nat} (hs : Stamped es clock) {j : Nat} {e : MapEntry} {x : Value} (hj : es.toList[j]? = some e) (he : e.key = x) : ∀ i e', i < j → es.toList[i]? = some e' → e'.key ≠ x := by
  intro i e' hi hi' hx
  have hp := List.pairwise_iff_getElem.1 ((stamped_iff es clock).1 hs).2.2
  obtain ⟨hjl, rfl⟩ := List.getElem?_eq_some_iff.1 hj
  obtain ⟨hil, rfl⟩ := List.getElem?_eq_some_iff.1 hi'
  exact hp i j hil hjl hi (hx.trans he.symm)
section laws
variable {P : Program} {k e t : TypeId} {w : World} {b : Nat} {m : List (ByteArray × Value)}
theorem SM.lookup_ok (h : SM w b m) (hk : P.underlying k = some .string) (ht : P.underlying t = some (.map k e)) {z : Value} (hz : ∀ w, (zeroValue e).run P w = .ok z w) (s : ByteArray) (ok : Bool) :
    (Instr.lookup t (.map (some b)) (.string s) ok).run P w = .ok (if ok then .tuple #[(get m s).getD z, .bool (get m s).isSome] else (get m s).getD z) w := by
  obtain ⟨es, clock, hb, hst, he⟩ := h
  have hs : MapKept.IsKey .string (.string s) := trivial
  rcases MapKept.findNow_spec hs es.toList 0 (entries_keyed he) with ⟨h1, h2⟩ | ⟨j, e0, h1, h2, h3⟩
  · have hg := (entries_get he s).1 h2
    cases ok <;> simp [Instr.lookup, run_underlying ht, MapKept.run_getObj_map hb, MapKept.run_checkKey hk hs, MapKept.run_findKey hk h1, hz, hg, Result.andThen]
  · have hg := ((entries_get he s).2 j e0 h2 (first_of_stamped hst h2 h3) h3).1
    cases ok <;> simp [Instr.lookup, run_underlying ht, MapKept.run_getObj_map hb, MapKept.run_checkKey hk hs, MapKept.run_findKey hk h1, hg, Result.andThen]
theorem lookup_nil (hk : P.underlying k = some .string) (ht : P.underlying t = some (.map k e)) {z : Value} (hz : ∀ w, (zeroValue e).run P w = .ok z w) (s : ByteArray) (ok : Bool) (w : World) :
    (Instr.lookup t (.map none) (.string s) ok).run P w = .ok (if ok then .tuple #[z, .bool false] else z) w := by
  have hs : MapKept.IsKey .string (.string s) := trivial
  have h1 : Instr.findNow .string (.string s) [] 0 = some none := rfl
  cases ok <;> simp [Instr.lookup, run_underlying ht, MapKept.run_checkKey hk hs, MapKept.run_findKey hk h1, hz, Result.andThen]
theorem SM.update (h : SM w b m) (hk : P.underlying k = some .string) (ht : P.underlying t = some (.map k e)) (s : ByteArray) (v : Value) :
    ∃ o, (Instr.mapUpdate t (.map (some b)) (.string s) v).run P w = .ok () (setBlock w b o) ∧ SM (setBlock w b o) b (put m s v) ∧ w.grownBy (setBlock w b o) (some b) := by
  obtain ⟨es, clock, hb, hst, he⟩ := h
  have hs : MapKept.IsKey .string (.string s) := trivial
  have hgr : ∀ o, w.grownBy (setBlock w b o) (some b) := fun o => ⟨rfl, rfl, rfl, by simp [setBlock], fun i _ hi => heap_setBlock_other hb _ (fun e => hi (by rw [e]))⟩
  rcases MapKept.findNow_spec hs es.toList 0 (entries_keyed he) with ⟨h1, h2⟩ | ⟨j, e0, h1, h2, h3⟩
  · have hg := (entries_get he s).1 h2
    refine ⟨.map (es.push ⟨.string s, v, clock⟩) (clock + 1), ?_, ⟨_, _, heap_setBlock_same hb _, stamped_push hst h2, ?_⟩, hgr _⟩
    · simp [Instr.mapUpdate, run_underlying ht, MapKept.run_getObj_map hb, MapKept.run_checkKey hk hs, MapKept.run_findKey hk h1, MapKept.run_setObj_map _ hb, Result.andThen, setBlock]
    · rw [put_new hg]
      simp [he]
  · have hj : es[j]? = some e0 := by simpa using h2
    have hp := ((entries_get he s).2 j e0 h2 (first_of_stamped hst h2 h3) h3).2 v
    refine ⟨.map (es.modify j fun e' => { e' with key := .string s, val := v }) clock, ?_, ⟨_, _, heap_setBlock_same hb _, stamped_modify hst _ _ (fun _ _ => rfl) (fun e' _ he' => by rw [hj] at he'; cases he'; exact h3.symm), ?_⟩, hgr _⟩
    · simp [Instr.mapUpdate, run_underlying ht, MapKept.run_getObj_map hb, MapKept.run_checkKey hk hs, MapKept.run_findKey hk h1, hj, h3, MapKept.run_keyThatStays hs, MapKept.run_setObj_map _ hb, Result.andThen, setBlock]
    · rw [Array.toList_modify, ChangeMaps.modify_eq_set _ _ _ _ h2, List.map_set, he, hp]
      have hjl : j < m.length := by
        have := congrArg List.length he
        simp at this
        have h4 := (Array.getElem?_eq_some_iff.1 hj).1
        omega
      rw [List.set_eq_take_append_cons_drop, if_pos (by simpa using hjl)]
      simp
theorem SM.keys (h : SM w b m) : (m.map (·.1)).Nodup := by
  obtain ⟨es, clock, hb, hst, he⟩ := h
  have h1 : (es.toList.map (·.key)).Nodup := by
    have := ((stamped_iff es clock).1 hst).2.2
    rw [List.Nodup, List.pairwise_map]
    exact this
  have h2 : es.toList.map (·.key) = m.map (fun p => Value.string p.1) := by
    have := congrArg (List.map Prod.fst) he
    rw [List.map_map, List.map_map] at this
    exact this
  rw [h2] at h1
  have h3 : (m.map (·.1)).map Value.string = m.map (fun p => Value.string p.1) := by simp
  rw [← h3] at h1
  exact (List.pairwise_map.1 h1).imp (fun hne e => hne (by rw [e]))
end laws
/-! ### ranging over such a map -/
/-- Block r is an iterator over the map in block b, whose entries are m's; left are still to come. -/
def Ranging (w : World) (b r : Nat) (m left : List (ByteArray × Value)) : Prop :=
  ∃ es clock since seen c0, w.heap[b]? = some (.map es clock) ∧ Stamped es clock ∧ es.toList.map (fun e => (e.key, e.val)) = m.map (fun p => (Value.string p.1, p.2)) ∧
    w.heap[r]? = some (.mapIter (some b) since seen c0) ∧ (∀ x ∈ es.toList, x.born < since) ∧ since ≤ c0 ∧ since ≤ clock ∧
    (leftOf es seen).toList.map (fun e => (e.key, e.val)) = left.map (fun p => (Value.string p.1, p.2))
theorem Ranging.move {w w' : World} {b r : Nat} {m left : List (ByteArray × Value)} (h : Ranging w b r m left) (hb : w'.heap[b]? = w.heap[b]?) (hr : w'.heap[r]? = w.heap[r]?) : Ranging w' b r m left := by
  obtain ⟨es, clock, since, seen, c0, h1, h2, h3, h4, h5⟩ := h
  exact ⟨es, clock, since, seen, c0, hb.trans h1, h2, h3, hr.trans h4, h5⟩
theorem Ranging.map {w : World} {b r : Nat} {m left : List (ByteArray × Value)} (h : Ranging w b r m left) : SM w b m := by
  obtain ⟨es, clock, since, seen, c0, h1, h2, h3, _⟩ := h
  exact ⟨es, clock, h1, h2, h3⟩
theorem Ranging.lt {w : World} {b r : Nat} {m left : List (ByteArray × Value)} (h : Ranging w b r m left) : r < w.heap.size := by
  obtain ⟨es, clock, since, seen, c0, h1, h2, h3, h4, _⟩ := h
  exact (Array.getElem?_eq_some_iff.1 h4).1
/-- how many are to come, read off the world -/
def toCome (w : World) (b r : Nat) : Nat :=
  match w.heap[b]?, w.heap[r]? with
  | some (.map es _), some (.mapIter _ _ seen _) => (leftOf es seen).size
  | _, _ => 0
theorem Ranging.toCome {w : World} {b r : Nat} {m left : List (ByteArray × Value)} (h : Ranging w b r m left) : toCome w b r = left.length := by
  obtain ⟨es, clock, since, seen, c0, h1, h2, h3, h4, _, _, _, h5⟩ := h
  have := congrArg List.length h5
  simp at this
  simp [Gr.toCome, h1, h4, this]
section laws
variable {P : Program} {k e t : TypeId} {w : World} {b : Nat} {m : List (ByteArray × Value)}
theorem SM.range (h : SM w b m) (ht : P.underlying t = some (.map k e)) :
    ∃ c, (Instr.range t (.map (some b))).run P w = .ok (.pointer (some ⟨w.heap.size, 0, none⟩)) (w.alloc (.mapIter (some b) c #[] c)) ∧ Ranging (w.alloc (.mapIter (some b) c #[] c)) b w.heap.size m m := by
  have hlt := h.lt
  obtain ⟨es, clock, hb, hst, he⟩ := h
  refine ⟨clock, run_range_map w t k e b es clock ht hb, es, clock, clock, #[], clock, ((MapKept.heap_alloc w _).2 b hlt).trans hb, hst, he, (MapKept.heap_alloc w _).1, ((stamped_iff es clock).1 hst).1, Nat.le_refl _, Nat.le_refl _, ?_⟩
  rw [← he]
  have : leftOf es #[] = es := by
    unfold leftOf
    exact Array.filter_eq_self.2 (fun x _ => by simp)
  rw [this]
theorem Ranging.next {r : Nat} {left : List (ByteArray × Value)} (h : Ranging w b r m left) (ty : TypeId) :
    (left = [] ∧ (Instr.next (.pointer (some ⟨r, 0, none⟩)) false ty).run P w = .ok (.tuple #[.bool false]) w) ∨
    ∃ l1 p l2 w', left = l1 ++ p :: l2 ∧ (Instr.next (.pointer (some ⟨r, 0, none⟩)) false ty).run P w = .ok (.tuple #[.bool true, .string p.1, p.2]) w' ∧
      Ranging w' b r m (l1 ++ l2) ∧ w.grownBy w' (some r) ∧ w'.heap.size = w.heap.size ∧ (Instr.entry (.pointer (some ⟨r, 0, none⟩))).run P w' = .ok (.tuple #[.string p.1, p.2]) w' := by
  obtain ⟨es, clock, since, seen, c0, hb, hst, he, hr, hold, hsc, hsk, hl⟩ := h
  have hne : r ≠ b := by
    rintro rfl
    rw [hb] at hr
    cases hr
  rcases run_next_at (P := P) w ty r b since c0 seen es clock hr hb hold hsc with ⟨h0, hrun⟩ | ⟨x, hx, w1, hal, hrun⟩
  · refine .inl ⟨?_, hrun⟩
    have := congrArg List.length hl
    simp [h0] at this
    exact List.eq_nil_of_length_eq_zero this.symm
  · obtain ⟨hem, hes⟩ := mem_left hx
    obtain ⟨i, hi, rfl⟩ := List.getElem_of_mem hx
    have hlen : (leftOf es seen).toList.length = left.length := by have := congrArg List.length hl; simpa using this
    have hil : i < left.length := by omega
    have hkv : ((leftOf es seen).toList[i].key, (leftOf es seen).toList[i].val) = (Value.string left[i].1, left[i].2) := by
      have := congrArg (fun l => l[i]?) hl
      simp only [List.getElem?_map, List.getElem?_eq_getElem hi, List.getElem?_eq_getElem hil, Option.map_some, Option.some.injEq] at this
      exact this
    simp only [Prod.mk.injEq] at hkv
    have hr1 : w1.heap[r]? = some (.mapIter (some b) since seen c0) := by rcases hal with rfl | rfl <;> exact hr
    have hb1 : w1.heap[b]? = some (.map es clock) := by rcases hal with rfl | rfl <;> exact hb
    have hset := MapKept.heap_set (o' := .mapIter (some b) since (seen.push (leftOf es seen).toList[i].born) clock) hr1
    have hb' : (setBlock w1 r (.mapIter (some b) since (seen.push (leftOf es seen).toList[i].born) clock)).heap[b]? = some (.map es clock) := (hset.2 b (fun e1 => hne e1.symm)).trans hb1
    have hent := run_entry_at (P := P) (setBlock w1 r (.mapIter (some b) since (seen.push (leftOf es seen).toList[i].born) clock)) r b since seen es clock _ hset.1 hb' hem ((stamped_iff es clock).1 hst).2.1
    rw [hkv.1, hkv.2] at hrun hent
    refine .inr ⟨left.take i, left[i], left.drop (i + 1), _, ?_, hrun, ⟨es, clock, since, _, clock, hb', hst, he, hset.1, hold, hsk, hsk, ?_⟩, ?_, ?_, hent⟩
    · rw [List.getElem_cons_drop, List.take_append_drop]
    · -- who is left
      have h1 : (leftOf es (seen.push (leftOf es seen).toList[i].born)).toList = (leftOf es seen).toList.take i ++ (leftOf es seen).toList.drop (i + 1) := by
        have hnd : ((leftOf es seen).toList.map (·.born)).Nodup := by
          have := ((stamped_iff es clock).1 hst).2.1
          unfold leftOf
          rw [Array.toList_filter]
          exact (List.filter_sublist.map _).nodup this
        have h2 : leftOf es (seen.push (leftOf es seen).toList[i].born) = (leftOf es seen).filter (fun x => x.born != (leftOf es seen).toList[i].born) := by
          unfold leftOf
          rw [Array.filter_filter]
          congr 1
          funext x
          rw [contains_push]
          simp only [Bool.not_or]
          rw [Bool.and_comm]
          rfl
        rw [h2, Array.toList_filter]
        generalize (leftOf es seen).toList = L at hi hnd
        have hsplit : L = L.take i ++ L[i] :: L.drop (i + 1) := by rw [List.getElem_cons_drop, List.take_append_drop]
        have key : ∀ (A B : List MapEntry) (x : MapEntry), ((A ++ x :: B).map (·.born)).Nodup → (A ++ x :: B).filter (fun y => y.born != x.born) = A ++ B := by
          intro A B x hn
          rw [List.map_append, List.map_cons, List.nodup_append, List.nodup_cons] at hn
          obtain ⟨hA, ⟨hxB, hB⟩, hAB⟩ := hn
          rw [List.filter_append, List.filter_cons_of_neg (by simp)]
          congr 1
          · refine List.filter_eq_self.2 (fun y hy => ?_)
            have := hAB y.born (List.mem_map.2 ⟨y, hy, rfl⟩) x.born (by simp)
            simpa using this
          · refine List.filter_eq_self.2 (fun y hy => ?_)
            have : y.born ≠ x.born := fun e => hxB (e ▸ List.mem_map.2 ⟨y, hy, rfl⟩)
            simpa using this
        have := key (L.take i) (L.drop (i + 1)) L[i] (by rw [← hsplit]; exact hnd)
        rw [← hsplit] at this
        exact this
      rw [h1, List.map_append, List.map_append, List.map_take, List.map_drop, hl, ← List.map_take, ← List.map_drop]
    · rcases hal with rfl | rfl <;> exact ⟨rfl, rfl, rfl, by simp [setBlock], fun j _ hj => hset.2 j (fun e1 => hj (by rw [e1]))⟩
    · rcases hal with rfl | rfl <;> simp [setBlock]
end laws
end Go.Proofs.Ytdnnlfdblfcajaa.Gr
