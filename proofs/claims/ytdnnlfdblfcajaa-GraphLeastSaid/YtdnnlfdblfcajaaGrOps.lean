/- Maps keyed by strings at the walk's operations: a look-up, a store, a range, a step. No conditions. -/
import Derived.Test.YtdnnlfdblfcajaaGrMap
import Derived.OwnWalk
import Derived.Maps.RangeWalk
namespace Go.Proofs.Ytdnnlfdblfcajaa.Gr
open Go.RowKit
open Go.ChangeMaps (setBlock)
section
variable {P : Program} (w : World) {ops : Array Oper} {rest : List Oper} {o : Oper} {a : Act} {Q : Exit → Act → World → Prop}
theorem wpList_lookup_SM (hg : o.guard = none) (x y : Operand) (t k e : TypeId) (hop : o.op = Op.lookup t x y false) (hk : P.underlying k = some .string) (ht : P.underlying t = some (.map k e)) (z : Value) (hz : ∀ w, (zeroValue e).run P w = .ok z w)
    (b : Nat) (m : List (ByteArray × Value)) (h : SM w b m) (s : ByteArray) (hx : a.eval x = .map (some b)) (hy : a.eval y = .string s) (v : Value) (hv : (get m s).getD z = v) (hK : wpList P ops Q rest (a.put o.dst v) w) : wpList P ops Q (o :: rest) a w := by
  subst hv
  refine wpList_plain hg fun K' hK' => ?_
  have hrun := h.lookup_ok hk ht hz s false
  unfold Oper.wp
  simp [execOp, hop, hx, hy, hrun, Result.andThen]
  exact hK' _ _ hK
theorem wpList_lookup_SM_ok (hg : o.guard = none) (x y : Operand) (t k e : TypeId) (hop : o.op = Op.lookup t x y true) (hk : P.underlying k = some .string) (ht : P.underlying t = some (.map k e)) (z : Value) (hz : ∀ w, (zeroValue e).run P w = .ok z w)
    (b : Nat) (m : List (ByteArray × Value)) (h : SM w b m) (s : ByteArray) (hx : a.eval x = .map (some b)) (hy : a.eval y = .string s) (v : Value) (ok : Bool) (hv : (get m s).getD z = v) (hok : (get m s).isSome = ok) (hK : wpList P ops Q rest (a.put o.dst (.tuple #[v, .bool ok])) w) : wpList P ops Q (o :: rest) a w := by
  subst hv hok
  refine wpList_plain hg fun K' hK' => ?_
  have hrun := h.lookup_ok hk ht hz s true
  unfold Oper.wp
  simp [execOp, hop, hx, hy, hrun, Result.andThen]
  exact hK' _ _ hK
theorem wpList_update_SM (hg : o.guard = none) (x y u : Operand) (t k e : TypeId) (hop : o.op = Op.mapUpdate t x y u) (hk : P.underlying k = some .string) (ht : P.underlying t = some (.map k e))
    (b : Nat) (m : List (ByteArray × Value)) (h : SM w b m) (s : ByteArray) (v : Value) (hx : a.eval x = .map (some b)) (hy : a.eval y = .string s) (hu : a.eval u = v) (hK : ∀ w', SM w' b (put m s v) → w.grownBy w' (some b) → w'.heap.size = w.heap.size → wpList P ops Q rest (a.put o.dst undef) w') : wpList P ops Q (o :: rest) a w := by
  refine wpList_plain hg fun K' hK' => ?_
  obtain ⟨ob, hrun, h1, h2⟩ := h.update hk ht s v
  unfold Oper.wp
  simp [execOp, hop, hx, hy, hu, hrun, Result.andThen]
  exact hK' _ _ (hK _ h1 h2 (by simp [setBlock]))
theorem wpList_range_SM (hg : o.guard = none) (x : Operand) (t k e : TypeId) (hop : o.op = Op.range t x) (ht : P.underlying t = some (.map k e)) (b : Nat) (m : List (ByteArray × Value)) (h : SM w b m) (hx : a.eval x = .map (some b))
    (hK : ∀ w', Ranging w' b w.heap.size m m → Below w.heap.size w w' → w'.heap.size = w.heap.size + 1 → wpList P ops Q rest (a.put o.dst (.pointer (some ⟨w.heap.size, 0, none⟩))) w') : wpList P ops Q (o :: rest) a w := by
  refine wpList_plain hg fun K' hK' => ?_
  obtain ⟨c, hrun, h1⟩ := h.range ht
  unfold Oper.wp
  simp [execOp, hop, hx, hrun, Result.andThen]
  exact hK' _ _ (hK _ h1 ((Below.refl _ _).alloc (Nat.le_refl _) _) (by simp))
theorem wpList_next_SM (hg : o.guard = none) (it : Operand) (hop : o.op = Op.next it false) (b r : Nat) (m left : List (ByteArray × Value)) (h : Ranging w b r m left) (hit : a.eval it = .pointer (some ⟨r, 0, none⟩))
    (hDone : left = [] → wpList P ops Q rest (a.put o.dst (.tuple #[.bool false])) w)
    (hMore : ∀ l1 p l2 w', left = l1 ++ p :: l2 → Ranging w' b r m (l1 ++ l2) → w.grownBy w' (some r) → w'.heap.size = w.heap.size → (Instr.entry (.pointer (some ⟨r, 0, none⟩))).run P w' = .ok (.tuple #[.string p.1, p.2]) w' → wpList P ops Q rest (a.put o.dst (.tuple #[.bool true, .string p.1, p.2])) w') :
    wpList P ops Q (o :: rest) a w := by
  refine wpList_plain hg fun K' hK' => ?_
  unfold Oper.wp
  rcases h.next (P := P) o.type with ⟨h0, hrun⟩ | ⟨l1, p, l2, w', h0, hrun, h1, h2, h3, h4⟩
  · simp [execOp, hop, hit, hrun, Result.andThen]
    exact hK' _ _ (hDone h0)
  · simp [execOp, hop, hit, hrun, Result.andThen]
    exact hK' _ _ (hMore l1 p l2 w' h0 h1 h2 h3 h4)
end
end Go.Proofs.Ytdnnlfdblfcajaa.Gr
