/- graph.far's inner loop: the step of a range over a row of costs (or over none), an append onto the queue. No conditions. -/
import Derived.Test.YtdnnlfdblfcajaaGrSort
namespace Go.Proofs.Ytdnnlfdblfcajaa.Gr
open Go.RowKit Go.Proofs.YtdnnlfdblfcajaaW.PrintWords
open Go.ChangeMaps (setBlock)
theorem imap_split {l : List (ByteArray × Int)} {l1 l2 : List (ByteArray × Value)} {p : ByteArray × Value} (h : imap l = l1 ++ p :: l2) : ∃ a1 q a2, l = a1 ++ q :: a2 ∧ l1 = imap a1 ∧ p = (q.1, .int .i64 q.2) ∧ l2 = imap a2 := by
  obtain ⟨a1, r, h1, h2, h3⟩ := List.map_eq_append_iff.1 h
  obtain ⟨q, a2, h4, h5, h6⟩ := List.map_eq_cons_iff.1 h3
  exact ⟨a1, q, a2, by rw [h1, h4], h2.symm, h5.symm, h6.symm⟩
/-- Block r is an iterator over a map of costs (or over none); l are still to come; the map lies below B. -/
def RangeAt (w : World) (B r : Nat) (l : List (ByteArray × Int)) : Prop :=
  (∃ b m, b < B ∧ Ranging w b r (imap m) (imap l)) ∨ (w.heap[r]? = some (.mapIter none 0 #[] 0) ∧ l = [])
theorem RangeAt.grown {w w' : World} {B r : Nat} {l : List (ByteArray × Int)} (h : RangeAt w B r l) {row : Option Nat} (hg : w.grownBy w' row) (hr : ∀ k, row = some k → B ≤ k ∧ k ≠ r) : RangeAt w' B r l := by
  rcases h with ⟨b, m, hb, h⟩ | ⟨h, rfl⟩
  · refine .inl ⟨b, m, hb, h.move (hg.block b h.map.lt ?_) (hg.block r h.lt ?_)⟩
    · intro e
      have := (hr b e.symm).1
      omega
    · intro e
      exact (hr r e.symm).2 rfl
  · refine .inr ⟨(hg.block r (Array.getElem?_eq_some_iff.1 h).1 ?_).trans h, rfl⟩
    intro e
    exact (hr r e.symm).2 rfl
theorem RangeAt.alloc {w : World} {B r : Nat} {l : List (ByteArray × Int)} (h : RangeAt w B r l) (o : Obj) : RangeAt (w.alloc o) B r l := h.grown (World.grownBy_alloc w o none) (by simp)
theorem RangeAt.lt {w : World} {B r : Nat} {l : List (ByteArray × Int)} (h : RangeAt w B r l) : r < w.heap.size := by
  rcases h with ⟨b, m, hb, h⟩ | ⟨h, rfl⟩
  · exact h.lt
  · exact (Array.getElem?_eq_some_iff.1 h).1
theorem RangeAt.iter {w : World} {B r : Nat} {l : List (ByteArray × Int)} (h : RangeAt w B r l) : ∃ m s n c, w.heap[r]? = some (.mapIter m s n c) := by
  rcases h with ⟨b, m, hb, es, clock, since, seen, c0, h1, h2, h3, h4, _⟩ | ⟨h, rfl⟩
  · exact ⟨_, _, _, _, h4⟩
  · exact ⟨_, _, _, _, h⟩
theorem run_range_none (w : World) : (Instr.range 53 (.map none)).run Try.prog w = .ok (.pointer (some ⟨w.heap.size, 0, none⟩)) (w.alloc (.mapIter none 0 #[] 0)) := by
  simp [Instr.range, run_underlying Try.underlying53, Result.andThen, newObj, Sem.run]
theorem run_next_none (w : World) (r : Nat) (ty : TypeId) (h : w.heap[r]? = some (.mapIter none 0 #[] 0)) : (Instr.next (.pointer (some ⟨r, 0, none⟩)) false ty).run Try.prog w = .ok (.tuple #[.bool false]) w := by
  simp [Instr.next, getObj, Sem.run, h, Result.andThen]
section
variable (w : World) {ops : Array Oper} {rest : List Oper} {o : Oper} {a : Act} {Q : Exit → Act → World → Prop}
/-- 'range t[x]', t a table. -/
theorem wpList_range_far (hg : o.guard = none) (x : Operand) (hop : o.op = Op.range 53 x) (B B0 b : Nat) (blk : ByteArray → Nat) (T : Tab ByteArray) (hT : TM w B0 b blk T) (hB : b < B ∧ ∀ p ∈ T, blk p.1 < B) (s : ByteArray) (v : Value)
    (hx : a.eval x = v) (hv : v = match get T s with | some _ => .map (some (blk s)) | none => .map none)
    (hK : ∀ w', RangeAt w' B w.heap.size ((get T s).getD []) → Below w.heap.size w w' → w'.heap.size = w.heap.size + 1 → wpList Try.prog ops Q rest (a.put o.dst (.pointer (some ⟨w.heap.size, 0, none⟩))) w') : wpList Try.prog ops Q (o :: rest) a w := by
  cases hgt : get T s with
  | some m =>
    rw [hgt] at hv hK
    simp only at hv
    subst hv
    have hm := mem_of_get hgt
    exact wpList_range_SM w hg x 53 9 3 hop Try.underlying53 (blk s) (imap m) (hT.inn _ hm) hx (fun w' h1 h2 h3 => hK w' (.inl ⟨_, m, hB.2 _ hm, h1⟩) h2 h3)
  | none =>
    rw [hgt] at hv hK
    simp only at hv
    subst hv
    refine wpList_plain hg fun K' hK' => ?_
    unfold Oper.wp
    simp [execOp, hop, hx, run_range_none, Result.andThen]
    exact hK' _ _ (hK _ (.inr ⟨(MapKept.heap_alloc w _).1, rfl⟩) ((Below.refl _ _).alloc (Nat.le_refl _) _) (by simp))
theorem wpList_next_far (hg : o.guard = none) (it : Operand) (hop : o.op = Op.next it false) (B r : Nat) (l : List (ByteArray × Int)) (h : RangeAt w B r l) (hit : a.eval it = .pointer (some ⟨r, 0, none⟩))
    (hDone : l = [] → wpList Try.prog ops Q rest (a.put o.dst (.tuple #[.bool false])) w)
    (hMore : ∀ a1 (pn : ByteArray) (pc : Int) a2 w', l = a1 ++ (pn, pc) :: a2 → RangeAt w' B r (a1 ++ a2) → w.grownBy w' (some r) → w'.heap.size = w.heap.size → (Instr.entry (.pointer (some ⟨r, 0, none⟩))).run Try.prog w' = .ok (.tuple #[.string pn, .int .i64 pc]) w' → wpList Try.prog ops Q rest (a.put o.dst (.tuple #[.bool true, .string pn, .int .i64 pc])) w') :
    wpList Try.prog ops Q (o :: rest) a w := by
  rcases h with ⟨b, m, hb, h⟩ | ⟨h, rfl⟩
  · refine wpList_next_SM w hg it hop b r (imap m) (imap l) h hit (fun e => hDone (by simpa [imap] using e)) ?_
    intro l1 p l2 w' h1 h2 h3 h4 h5
    obtain ⟨a1, q, a2, rfl, rfl, rfl, rfl⟩ := imap_split h1
    refine hMore a1 q.1 q.2 a2 w' rfl (.inl ⟨b, m, hb, ?_⟩) h3 h4 h5
    have : imap (a1 ++ a2) = imap a1 ++ imap a2 := by simp [imap]
    rw [this]
    exact h2
  · refine wpList_plain hg fun K' hK' => ?_
    have hrun := run_next_none w r o.type h
    unfold Oper.wp
    simp [execOp, hop, hit, hrun, Result.andThen]
    exact hK' _ _ (hDone rfl)
theorem info59 : (Try.prog.info? 59).map (fun i => (i.zero, i.size, i.bytes)) = some (some (.agg #[.string ⟨#[]⟩, .int .i64 0]), 2, 24) := by kernel_rfl
/-- append(queue, y), y's cells in a block of their own. -/
theorem wpList_append_QU (hgd : o.guard = none) (s x : Operand) (ho : o.op = .call { callee := .builtin .append, args := #[s, x], argTypes := #[60, 60] }) (base : Nat) (v : Value) (q : List Rch) (y : Rch)
    (hs : a.eval s = v) (hx : a.eval x = .slice (some ⟨w.heap.size, 0, none⟩) 1 1) (HQ : QU w base v q) (hbase : base ≤ w.heap.size) (hl : (q.length + 1) * 24 ≤ 140737488355328)
    (h : ∀ v1 w1, QU w1 base v1 (q ++ [y]) → (w.alloc (.cells #[.string y.1, .int .i64 y.2] 59)).grownBy w1 v.ownBlock → (v1.ownBlock = v.ownBlock ∨ ∃ b, v1.ownBlock = some b ∧ w.heap.size + 1 ≤ b) → wpList Try.prog ops Q rest (a.put o.dst v1) w1) :
    wpList Try.prog ops Q (o :: rest) a (w.alloc (.cells #[.string y.1, .int .i64 y.2] 59)) := by
  obtain ⟨i0, hi, hzz⟩ := Option.map_eq_some_iff.1 info59
  simp only [Prod.mk.injEq] at hzz
  obtain ⟨hz0, hz1, hz2⟩ := hzz
  have HQ' : QRow (w.alloc (.cells #[.string y.1, .int .i64 y.2] 59)) base 59 2 v q.length (qcells q) := q_move HQ (fun k hk => Below.heap_alloc _ _ k (q_lt HQ k hk))
  obtain ⟨v1, w1, hr, h2, h3, h5⟩ := q_append (P := Try.prog) (w.alloc (.cells #[.string y.1, .int .i64 y.2] 59)) base 60 o.type 59 i0 _ 2 24 Try.underlying60 hi hz0 hz1 hz2 rfl (by omega) v q.length (qcells q) HQ'
    ⟨w.heap.size, 0, none⟩ 1 1 (encR y) rfl (World.news_of_block (cs := #[.string y.1, .int .i64 y.2]) (t := 59) (fr := (0, 0)) (heap_alloc_new w _)) (by intro u hu; simp [encR] at hu; rcases hu with rfl | rfl <;> rfl) (by omega) (by simp only [maxLen]; omega) (by omega) (by simp; omega)
  refine wpList_plain hgd fun K hK => ?_
  unfold Oper.wp execOp
  simp only [ho, resolve, invoke, builtin, Sem.run_bind, Sem.run_pure, Result.andThen_ok, List.map_toArray, List.map_cons, List.map_nil, hs, hx, hr]
  refine hK _ _ (h v1 w1 ?_ h3 ?_)
  · have e1 : qcells (q ++ [y]) = qcells q ++ encR y := by simp [qcells]
    show QRow w1 base 59 2 v1 (q ++ [y]).length (qcells (q ++ [y]))
    rw [e1, List.length_append, List.length_singleton]
    exact h2
  · rcases h5 with h5 | ⟨b, h5, h6⟩
    · exact .inl h5
    · exact .inr ⟨b, h5, by simpa using h6⟩
end
end Go.Proofs.Ytdnnlfdblfcajaa.Gr
