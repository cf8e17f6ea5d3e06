/- Edges: the facts on the one region that draws the order of five calls. No conditions. -/
import Derived.Test.YtdnnlfdblfcajaaGrAwake
import Derived.Test.YtdnnlfdblfcajaaGrInv
namespace Go.Proofs.Ytdnnlfdblfcajaa.Gr
open Go.RowKit Go.Proofs.YtdnnlfdblfcajaaW.PrintWords
section
variable {o : Oper} {a : Act} {W : World}
theorem run_move_ (x : Operand) (ho : o.op = .move x) : (execOp a.eval o).run Try.prog W = .ok (.value (a.eval x)) W := by
  simp [execOp, ho]
theorem run_ix22_ (x i : Operand) (ad : Addr) (n c : Nat) (k : Nat) (ho : o.op = .indexAddr 22 x i) (hx : a.eval x = .slice (some ad) n c) (hi : a.eval i = .int .i64 k) (hk : (k : Int) < (n : Int)) : (execOp a.eval o).run Try.prog W = .ok (.value (.pointer (some (ad.add (k * 3))))) W := by
  have h0 : (0 : Int) ≤ (k : Int) := by omega
  simp only [execOp, ho, hx, hi]
  go_simp
theorem run_ix26_ (x i : Operand) (ad : Addr) (n c : Nat) (k : Nat) (ho : o.op = .indexAddr 26 x i) (hx : a.eval x = .slice (some ad) n c) (hi : a.eval i = .int .i64 k) (hk : (k : Int) < (n : Int)) : (execOp a.eval o).run Try.prog W = .ok (.value (.pointer (some (ad.add k)))) W := by
  have h0 : (0 : Int) ≤ (k : Int) := by omega
  simp only [execOp, ho, hx, hi]
  go_simp
theorem run_ix38_0 (x : Operand) (p : Addr) (ho : o.op = .indexAddr 38 x (.const (.int .i64 0))) (hx : a.eval x = .pointer (some p)) : (execOp a.eval o).run Try.prog W = .ok (.value (.pointer (some p))) W := by
  have hc : a.eval (.const (.int .i64 0)) = .int .i64 0 := rfl
  simp only [execOp, ho, hx, hc]
  go_simp
theorem run_ix38_1 (x : Operand) (p : Addr) (ho : o.op = .indexAddr 38 x (.const (.int .i64 1))) (hx : a.eval x = .pointer (some p)) : (execOp a.eval o).run Try.prog W = .ok (.value (.pointer (some ⟨p.block, p.off + 1, none⟩))) W := by
  have hc : a.eval (.const (.int .i64 1)) = .int .i64 1 := rfl
  simp only [execOp, ho, hx, hc]
  go_simp
theorem run_load_ (t : TypeId) (x : Operand) (p : Addr) (v : Value) (ht : t = 3 ∨ t = 9) (ho : o.op = .load t x) (hx : a.eval x = .pointer (some p)) (hv : W.cell? p = some v) : (execOp a.eval o).run Try.prog W = .ok (.value v) W := by
  rcases ht with rfl | rfl
  · simp only [execOp, ho, hx]
    go_simp
  · simp only [execOp, ho, hx]
    go_simp
theorem run_build_ (x y z : Operand) (s1 s2 : ByteArray) (k : Int) (ho : o.op = .build 40 #[(0, x), (1, y), (2, z)]) (hx : a.eval x = .string s1) (hy : a.eval y = .string s2) (hz : a.eval z = .int .i64 k) : (execOp a.eval o).run Try.prog W = .ok (.value (.agg #[.string s1, .string s2, .int .i64 k])) W := by
  simp only [execOp, ho, List.map_toArray, List.map_cons, List.map_nil, hx, hy, hz]
  go_simp
theorem run_alloc_ (ho : o.op = .alloc 40) : (execOp a.eval o).run Try.prog W = .ok (.value (.pointer (some ⟨W.heap.size, 0, none⟩))) (W.alloc (.cells #[.string ⟨#[]⟩, .string ⟨#[]⟩, .int .i64 0] 40 (0, 0))) := by
  simp only [execOp, ho]
  go_simp
theorem run_store_ (x y : Operand) (g : Nat) (s1 s2 : ByteArray) (k : Int) (cs : Array Value) (hcs : cs.size = 3) (hg : W.heap[g]? = some (.cells cs 40 (0, 0))) (ho : o.op = .store 40 x y) (hx : a.eval x = .pointer (some ⟨g, 0, none⟩)) (hy : a.eval y = .agg #[.string s1, .string s2, .int .i64 k]) :
    ∃ W', (execOp a.eval o).run Try.prog W = .ok .skip W' ∧ W'.heap[g]? = some (.cells #[.string s1, .string s2, .int .i64 k] 40 (0, 0)) ∧ (∀ b, b ≠ g → W'.heap[b]? = W.heap[b]?) ∧ Below g W W' := by
  have c0 : W.cell? ⟨g, 0, none⟩ = some cs[0] := by rw [blk_cell hg]; simp
  have c1 : W.cell? ⟨g, 1, none⟩ = some cs[1] := by rw [blk_cell hg]; simp
  have c2 : W.cell? ⟨g, 2, none⟩ = some cs[2] := by rw [blk_cell hg]; simp
  have f0 := blk_frozen hg 0
  have f1 := blk_frozen hg 1
  have f2 := blk_frozen hg 2
  simp only [execOp, ho, hx, hy]
  go_simp
  obtain ⟨l⟩ := cs
  match l, hcs with
  | [e0, e1, e2], _ =>
    have h1 := blk_set (blk_set (blk_set hg 0 (.string s1)) 1 (.string s2)) 2 (.int .i64 k)
    refine ⟨h1, fun b hb => ?_, (((Below.refl g W).setCell (Nat.le_refl _) _).setCell (Nat.le_refl _) _).setCell (Nat.le_refl _) _⟩
    rw [Below.heap_setCell _ _ _ _ hb, Below.heap_setCell _ _ _ _ hb, Below.heap_setCell _ _ _ _ hb]
end
section
variable {ops : Array Oper} {o : Oper} {a : Act} {W W' : World} {K : Act → World → Prop} {Q : Exit → Act → World → Prop} {E : Prop}
theorem step_value {v : Value} (hgd : o.guard = none) (hrun : (execOp a.eval o).run Try.prog W = .ok (.value v) W') (h : K (a.put o.dst v) W') : if Region.wanted o (yielded ops a.tmps) = true then Oper.wp Try.prog o a W K Q else E := by
  rw [if_pos (by simp [Region.wanted, hgd])]
  unfold Oper.wp
  rw [hrun]
  exact h
theorem step_skip (hgd : o.guard = none) (hrun : (execOp a.eval o).run Try.prog W = .ok .skip W') (h : K (a.put o.dst undef) W') : if Region.wanted o (yielded ops a.tmps) = true then Oper.wp Try.prog o a W K Q else E := by
  rw [if_pos (by simp [Region.wanted, hgd])]
  unfold Oper.wp
  rw [hrun]
  exact h
end
section
variable {ops : Array Oper} {o : Oper} {a : Act} {W : World} {K : Act → World → Prop} {Q : Exit → Act → World → Prop} {E : Prop}
theorem step_store (x y : Operand) (g : Nat) (s1 s2 : ByteArray) (k : Int) (cs : Array Value) (hcs : cs.size = 3) (hg : W.heap[g]? = some (.cells cs 40 (0, 0))) (hgd : o.guard = none) (ho : o.op = .store 40 x y) (hx : a.eval x = .pointer (some ⟨g, 0, none⟩)) (hy : a.eval y = .agg #[.string s1, .string s2, .int .i64 k])
    (h : ∀ W', W'.heap[g]? = some (.cells #[.string s1, .string s2, .int .i64 k] 40 (0, 0)) → (∀ b, b ≠ g → W'.heap[b]? = W.heap[b]?) → Below g W W' → K (a.put o.dst undef) W') : if Region.wanted o (yielded ops a.tmps) = true then Oper.wp Try.prog o a W K Q else E := by
  obtain ⟨W', hrun, q1, q2, q3⟩ := run_store_ x y g s1 s2 k cs hcs hg ho hx hy
  exact step_skip hgd hrun (h W' q1 q2 q3)
end
/-! the facts on what the region's operations have left -/
def fiveNames : Array Value := #[.string ⟨#[97]⟩, .string ⟨#[98]⟩, .string ⟨#[99]⟩, .string ⟨#[100]⟩, .string ⟨#[101]⟩]
def NB (w : World) (g : Nat) : Prop := w.heap[g]? = some (.cells fiveNames 9 (0, 0))
def NamesV (w : World) (v : Value) : Prop := ∃ g, v = .slice (some ⟨g, 0, none⟩) 5 5 ∧ NB w g
def PickV (n : Nat) (v : Value) : Prop := ∃ r : Nat, r < n ∧ v = .int .i64 r
def AtV (w : World) (v : Value) : Prop := ∃ g r, r < 5 ∧ v = .pointer (some ⟨g, r, none⟩) ∧ NB w g
def StrV (v : Value) : Prop := ∃ r, r < 5 ∧ v = .string (nm r)
def AggV (v : Value) : Prop := ∃ i j k : Nat, i < 5 ∧ j < 5 ∧ k < 7 ∧ v = .agg #[.string (nm i), .string (nm j), .int .i64 k]
def BoxV (h : Nat) (w : World) (v : Value) : Prop := ∃ g cs, v = .pointer (some ⟨g, 0, none⟩) ∧ h ≤ g ∧ cs.size = 3 ∧ w.heap[g]? = some (.cells cs 40 (0, 0))
def EndV (h : Nat) (w : World) (v : Value) : Prop := ∃ g, ∃ i j k : Nat, i < 5 ∧ j < 5 ∧ k < 7 ∧ v = .pointer (some ⟨g, 0, none⟩) ∧ h ≤ g ∧ w.heap[g]? = some (.cells #[.string (nm i), .string (nm j), .int .i64 k] 40 (0, 0))
/-- blocks of names stay, blocks of edges stay such -/
def Wle (w w' : World) : Prop := (∀ (g : Nat) (cs : Array Value) (t : Nat), w.heap[g]? = some (Obj.cells cs t (0, 0)) → t ≠ 40 → w'.heap[g]? = some (Obj.cells cs t (0, 0))) ∧ (∀ (g : Nat) (cs : Array Value), cs.size = 3 → w.heap[g]? = some (Obj.cells cs 40 (0, 0)) → ∃ cs' : Array Value, cs'.size = 3 ∧ w'.heap[g]? = some (Obj.cells cs' 40 (0, 0)))
theorem Wle.refl (w : World) : Wle w w := ⟨fun _ _ _ h _ => h, fun _ cs h1 h2 => ⟨cs, h1, h2⟩⟩
theorem Wle.below {w w' : World} (h : Below w.heap.size w w') : Wle w w' := ⟨fun _ _ _ h1 _ => blk_below h1 h, fun _ cs h1 h2 => ⟨cs, h1, blk_below h2 h⟩⟩
structure Pre where
  sl : Value
  kk : Value
  p : Addr
  x1 : Int
  x2 : Int
  x3 : Int
  h : Nat
def Fact (c : Pre) (U : Nat → Value) (w : World) : Nat → Prop
  | 0 => NamesV w (U 18)
  | 1 => U 19 = c.sl
  | 2 => U 20 = c.kk
  | 3 => U 21 = .pointer (some c.p)
  | 4 => U 22 = .pointer (some c.p)
  | 5 => U 23 = .int .i64 c.x1
  | 6 => PickV 5 (U 24)
  | 7 => AtV w (U 25)
  | 8 => StrV (U 26)
  | 9 => NamesV w (U 27)
  | 10 => U 28 = c.sl
  | 11 => U 29 = c.kk
  | 12 => U 30 = .pointer (some c.p)
  | 13 => U 31 = .pointer (some ⟨c.p.block, c.p.off + 1, none⟩)
  | 14 => U 32 = .int .i64 c.x2
  | 15 => PickV 5 (U 33)
  | 16 => AtV w (U 34)
  | 17 => StrV (U 35)
  | 18 => U 36 = c.sl
  | 19 => U 37 = c.kk
  | 20 => U 38 = .pointer (some c.p)
  | 21 => U 39 = .pointer (some ⟨c.p.block, c.p.off + 2, none⟩)
  | 22 => U 40 = .int .i64 c.x3
  | 23 => PickV 7 (U 41)
  | 24 => AggV (U 42)
  | 25 => BoxV c.h w (U 7)
  | _ => True
/-- the slot that an operation writes -/
def slot (i : Nat) : Nat := if i = 25 then 7 else i + 18
def upd (U : Nat → Value) (d : Nat) (v : Value) : Nat → Value := fun n => if n = d then v else U n
theorem NB.le {w w' : World} {g : Nat} (h : NB w g) (hw : Wle w w') : NB w' g := hw.1 _ _ _ h (by decide)
theorem Fact.keep {c : Pre} {U : Nat → Value} {w w' : World} (hw : Wle w w') (d : Nat) (v : Value) : ∀ j, slot j ≠ d → Fact c U w j → Fact c (upd U d v) w' j := by
  intro j hj h
  have hu : ∀ n, n ≠ d → upd U d v n = U n := fun n hn => if_neg hn
  unfold slot at hj
  unfold Fact at h ⊢
  split at h <;> (try dsimp only) <;> first
    | trivial
    | (rw [hu _ (by simpa using hj)]; exact h)
    | (rw [hu _ (by simpa using hj)]; obtain ⟨g, e, hg⟩ := h; exact ⟨g, e, hg.le hw⟩)
    | (rw [hu _ (by simpa using hj)]; obtain ⟨g, r, hr, e, hg⟩ := h; exact ⟨g, r, hr, e, hg.le hw⟩)
    | (rw [hu _ (by simpa using hj)]; obtain ⟨g, cs, e, h1, h2, h3⟩ := h; obtain ⟨cs', h4, h5⟩ := hw.2 g cs h2 h3; exact ⟨g, cs', e, h1, h4, h5⟩)
theorem Fact.move {c : Pre} {U : Nat → Value} {w w' : World} (hw : Wle w w') : ∀ j, Fact c U w j → Fact c U w' j := by
  intro j h
  unfold Fact at h ⊢
  split at h <;> (try dsimp only) <;> first
    | trivial
    | exact h
    | (obtain ⟨g, e, hg⟩ := h; exact ⟨g, e, hg.le hw⟩)
    | (obtain ⟨g, r, hr, e, hg⟩ := h; exact ⟨g, r, hr, e, hg.le hw⟩)
    | (obtain ⟨g, cs, e, h1, h2, h3⟩ := h; obtain ⟨cs', h4, h5⟩ := hw.2 g cs h2 h3; exact ⟨g, cs', e, h1, h4, h5⟩)
theorem Fact.step {c : Pre} {U : Nat → Value} {w w' : World} {L : Nat → Bool} (hw : Wle w w') (i : Nat) (d : Nat) (v : Value) (hs : slot i = d) (h : ∀ j, L j = true → j < 26 → Fact c U w j) (hi : Fact c (upd U d v) w' i) (hi26 : i < 26) :
    ∀ j, (if j = i then true else L j) = true → j < 26 → Fact c (upd U d v) w' j := by
  intro j hj hj26
  by_cases e : j = i
  · subst e; exact hi
  · rw [if_neg e] at hj
    refine Fact.keep hw d v j ?_ (h j hj hj26)
    subst hs
    unfold slot
    split <;> split <;> omega
section
variable {o : Oper} {a : Act} {W : World}
theorem run_names_ (ho : o.op = .call { callee := .value (.func 10), args := #[], argTypes := #[] }) : (execOp a.eval o).run Try.prog W = .ok (.enter 10 #[]) W := by
  simp only [execOp, ho]
  go_simp
theorem run_pick_ (x : Operand) (c n : Int) (ho : o.op = .call { callee := .value (.func 11), args := #[x, .const (.int .i64 n)], argTypes := #[3, 3] }) (hx : a.eval x = .int .i64 c) : (execOp a.eval o).run Try.prog W = .ok (.enter 11 #[.int .i64 c, .int .i64 n]) W := by
  simp only [execOp, ho]
  go_simp
  rw [← hx]
  cases x <;> simp [Act.eval]
theorem run_ix38_2 (x : Operand) (p : Addr) (ho : o.op = .indexAddr 38 x (.const (.int .i64 2))) (hx : a.eval x = .pointer (some p)) : (execOp a.eval o).run Try.prog W = .ok (.value (.pointer (some ⟨p.block, p.off + 2, none⟩))) W := by
  have hc : a.eval (.const (.int .i64 2)) = .int .i64 2 := rfl
  simp only [execOp, ho, hx, hc]
  go_simp
end
def RegInv (mk : (Nat → Value) → Act) (c : Pre) (w0 : World) (L : Nat → Bool) (a : Act) (w : World) : Prop :=
  ∃ U, a = mk U ∧ Below c.h w0 w ∧ c.h ≤ w.heap.size ∧ (∀ j, L j = true → j < 26 → Fact c U w j) ∧ (L 26 = true → EndV c.h w (U 7)) ∧ (L 26 = true → ∀ j, j < 26 → L j = true)
theorem RegInv.step {mk : (Nat → Value) → Act} {c : Pre} {w0 w w' : World} {L : Nat → Bool} {U : Nat → Value} (i d : Nat) (v : Value) (hF : ∀ j, L j = true → j < 26 → Fact c U w j) (hA : L 26 = true → ∀ j, j < 26 → L j = true) (hi : L i = false) (hi26 : i < 26) (hs : slot i = d)
    (hw : Wle w w') (hB : Below c.h w0 w') (hh : c.h ≤ w'.heap.size) (hput : (mk U).put (some d) v = mk (upd U d v)) (hnew : Fact c (upd U d v) w' i) : RegInv mk c w0 (fun j => if j = i then true else L j) ((mk U).put (some d) v) w' := by
  have h26 : L 26 = false := by
    cases h : L 26 with
    | false => rfl
    | true => rw [hA h i hi26] at hi; cases hi
  have hne : (26 : Nat) ≠ i := by omega
  refine ⟨upd U d v, hput, hB, hh, Fact.step hw i d v hs hF hnew hi26, fun h => ?_, fun h => ?_⟩
  · dsimp only at h; rw [if_neg hne, h26] at h; cases h
  · dsimp only at h; rw [if_neg hne, h26] at h; cases h
end Go.Proofs.Ytdnnlfdblfcajaa.Gr
