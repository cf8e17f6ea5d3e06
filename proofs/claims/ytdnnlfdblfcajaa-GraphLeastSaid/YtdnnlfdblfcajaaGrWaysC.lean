/- graph.Ways: the closure that calls itself. No conditions. -/
import Derived.Test.YtdnnlfdblfcajaaGrRows
import Derived.Test.YtdnnlfdblfcajaaGrKeys
import Derived.Test.YtdnnlfdblfcajaaGrWays
import Derived.Deep.RegionHeld3
import Derived.Deep.RegionLawGrows
namespace Go.Proofs.Ytdnnlfdblfcajaa.Gr
open Go.RowKit Go.Proofs.YtdnnlfdblfcajaaW.PrintWords
abbrev KW : Kd (List ByteArray) := Kd.slice 9 Kd.string
section
variable {ops : Array Oper} {o : Oper} {a : Act} {W : World} {K : Act → World → Prop} {Q : Exit → Act → World → Prop}
theorem step_append_out (hgd : o.guard = none) (s x : Operand) (ho : o.op = .call { callee := .builtin .append, args := #[s, x], argTypes := #[29, 29] }) (base : Nat) (v u : Value) (xs : List (List ByteArray)) (p : List ByteArray)
    (hs : a.eval s = v) (hx : a.eval x = .slice (some ⟨W.heap.size, 0, none⟩) 1 1) (HP : Kd.string.R 9 W base (fun k => some k ≠ v.ownBlock) u p) (HO : KW.R 26 W base (fun _ => True) v xs) (hbase : base ≤ W.heap.size) (hl : xs.length ≤ 1000)
    (h : ∀ A c w1, KW.R 26 w1 base (fun _ => True) (.slice A (xs.length + 1) c) (xs ++ [p]) → W.grownBy w1 v.ownBlock → ((Value.slice A (xs.length + 1) c).ownBlock = v.ownBlock ∨ ∃ b, (Value.slice A (xs.length + 1) c).ownBlock = some b ∧ W.heap.size ≤ b) → K (a.put o.dst (.slice A (xs.length + 1) c)) w1) :
    if Region.wanted o (yielded ops a.tmps) = true then Oper.wp Try.prog o a (W.alloc (.cells #[u] 26)) K Q else K (a.put o.dst undef) (W.alloc (.cells #[u] 26)) := by
  refine Kd.R_append_step (w0 := W) KW base (by simp [Region.wanted, hgd]) s x 29 26 (.slice none 0 0) 24 ho Try.underlying29 rfl rfl (by simp [Kd.slice]) (by omega) v xs p [u] (fun _ => True) (fun k => some k ≠ v.ownBlock) hs hx (Kd.M_row HP) (fun k hk => ⟨trivial, hk⟩) (fun _ _ => trivial) HO (Below.refl _ _) hbase (by omega) ?_
  intro v1 w1 h1 _ h2 h3
  obtain ⟨A, c, rfl⟩ := Kd.R_slice h1
  rw [List.length_append, List.length_singleton] at *
  exact h A c w1 h1 h2 h3
/-- a call of a Go function, as one step of a region that draws its order: its contract -/
theorem step_call {E : Prop} {n : Nat} {args : Array Value} {R : Ending → World → Prop} (hgd : o.guard = none) (hrun : (execOp a.eval o).run Try.prog W = .ok (.enter n args) W) (hc : Calls Try.prog n args W R)
    (h : ∀ e w1, R e w1 → ∃ v, e = .returned v ∧ K (a.put o.dst v) w1) : if Region.wanted o (yielded ops a.tmps) = true then Oper.wp Try.prog o a W K Q else E := by
  rw [if_pos (by simp [Region.wanted, hgd])]
  unfold Oper.wp
  rw [hrun, Oper.upon_enter]
  refine hc.mono ?_
  intro e w1 hR
  obtain ⟨v, rfl, hK⟩ := h e w1 hR
  exact hK
theorem step_append_clip {E : Prop} (hgd : o.guard = none) (s x : Operand) (ho : o.op = .call { callee := .builtin .append, args := #[s, x], argTypes := #[26, 26] }) (ad ad2 : Addr) (ss : List ByteArray) (y : ByteArray)
    (hs : a.eval s = .slice (some ad) ss.length ss.length) (hx : a.eval x = .slice (some ad2) 1 1) (HR : Kd.string.C W (some ad) ss.length ss) (hy : W.cell? ad2 = some (.string y)) (hl : ss.length ≤ 8000000)
    (h : ∀ ad3 c w1, Kd.string.R 9 w1 W.heap.size (fun _ => True) (.slice (some ad3) (ss.length + 1) c) (ss ++ [y]) → W.grownBy w1 none → K (a.put o.dst (.slice (some ad3) (ss.length + 1) c)) w1) :
    if Region.wanted o (yielded ops a.tmps) = true then Oper.wp Try.prog o a W K Q else E := by
  obtain ⟨i0, hi, hzz⟩ := Option.map_eq_some_iff.1 (show (Try.prog.info? 9).map (fun i => (i.zero, i.size, i.bytes)) = some (some (.string ByteArray.empty), 1, 16) from rfl)
  simp only [Prod.mk.injEq] at hzz
  obtain ⟨hz0, hz1, hz2⟩ := hzz
  refine step_append_grows hgd s x 26 ho 9 i0 (.string ByteArray.empty) 1 16 Try.underlying26 hi hz0 hz1 hz2 rfl (by omega) (some ad) ss.length ss.length (ss.map Value.string) hs (by simp) (by simp) ?_ ad2 1 1 [.string y] hx (by simp) ?_ (by intro u hu; rw [List.mem_singleton.1 hu]; rfl) (by omega) (by simp only [maxLen]; omega) (by omega) ?_
  · intro b hb j u hj
    injection hb with hb
    subst hb
    rw [List.getElem?_map] at hj
    obtain ⟨q, hq, rfl⟩ := Option.map_eq_some_iff.1 hj
    obtain ⟨hl, rfl⟩ := List.getElem?_eq_some_iff.1 hq
    obtain ⟨ad', e, hc⟩ := strC_cell HR hl
    injection e with e
    subst e
    exact hc
  · intro j u hj
    obtain rfl : j = 0 := by have := (List.getElem?_eq_some_iff.1 hj).1; simp at this; omega
    simp at hj
    subst hj
    simpa [Addr.add] using hy
  · intro v1 w1 h1 h2
    have hR : Kd.string.R 9 w1 W.heap.size (fun _ => True) v1 (ss ++ [y]) := by
      refine Kd.R_of_own ?_ (fun _ _ => trivial)
      have e : encs Value.string (ss ++ [y]) = ss.map Value.string ++ [.string y] := by simp [encs]
      rw [e, List.length_append, List.length_singleton]
      exact h1
    obtain ⟨A3, c3, rfl, _, hC⟩ := Kd.R_reads hR
    obtain ⟨ad3, rfl, _⟩ := strC_cell hC (k := 0) (by simp)
    rw [List.length_append, List.length_singleton] at hR ⊢
    exact h ad3 c3 w1 hR h2
end
theorem ways_le {κ : Type} [DecidableEq κ] (nb : κ → List κ) (b : κ) (f : Nat) : ∀ so last out, out.length < 1000 → (ways nb b f so last out).length ≤ 1000 := by
  induction f with
  | zero => intro so last out h; simp only [ways]; omega
  | succ f ih =>
    intro so last out h
    unfold ways
    split
    · simp; omega
    · have key : ∀ (l : List κ) o, o.length ≤ 1000 → (l.foldl (fun out next => if out.length < 1000 ∧ next ∉ so then ways nb b f (so ++ [next]) next out else out) o).length ≤ 1000 := by
        intro l
        induction l with
        | nil => intro o h; exact h
        | cons x r ihl =>
          intro o h
          rw [List.foldl_cons]
          refine ihl _ ?_
          split
          · rename_i hx; exact ih _ _ _ hx.1
          · exact h
      exact key _ _ (by omega)
/-- the nodes that a way has not come to -/
def rest {κ : Type} [DecidableEq κ] (U so : List κ) : List κ := U.filter (· ∉ so)
theorem rest_lt {κ : Type} [DecidableEq κ] {U so : List κ} {x : κ} (hx : x ∈ U) (hn : x ∉ so) : (rest U (so ++ [x])).length < (rest U so).length := by
  have hxU : x ∈ rest U so := List.mem_filter.2 ⟨hx, by simpa using hn⟩
  have h3 : rest U (so ++ [x]) = (rest U so).filter (· ≠ x) := by
    unfold rest
    rw [List.filter_filter]
    congr 1
    funext y
    by_cases h : y = x <;> by_cases h' : y ∈ so <;> simp [h, h']
  rw [h3]
  exact List.length_filter_lt_length_iff_exists.2 ⟨x, hxU, by simp⟩
/-- one node's turn -/
def turn {κ : Type} [DecidableEq κ] (nb : κ → List κ) (b : κ) (f : Nat) (so : List κ) (out : List (List κ)) (next : κ) : List (List κ) := if out.length < 1000 ∧ next ∉ so then ways nb b f (so ++ [next]) next out else out
theorem ways_turn {κ : Type} [DecidableEq κ] (nb : κ → List κ) (b : κ) (f : Nat) (so : List κ) (last : κ) (out : List (List κ)) (h : last ≠ b) : ways nb b (f + 1) so last out = (nb last).foldl (turn nb b f so) out := by
  rw [ways, if_neg h]
  rfl
theorem turn_pos {κ : Type} [DecidableEq κ] (nb : κ → List κ) (b : κ) (f : Nat) (so : List κ) (out : List (List κ)) (next : κ) (h1 : out.length < 1000) (h2 : next ∉ so) : turn nb b f so out next = ways nb b f (so ++ [next]) next out := if_pos ⟨h1, h2⟩
theorem turn_neg {κ : Type} [DecidableEq κ] (nb : κ → List κ) (b : κ) (f : Nat) (so : List κ) (out : List (List κ)) (next : κ) (h : out.length < 1000 → next ∈ so) : turn nb b f so out next = out := if_neg (fun h' => h'.2 (h h'.1))
theorem turn_le (nb : ByteArray → List ByteArray) (b : ByteArray) (f : Nat) (so : List ByteArray) (out : List (List ByteArray)) (next : ByteArray) (h : out.length ≤ 1000) : (turn nb b f so out next).length ≤ 1000 := by
  unfold turn
  split
  · rename_i hx; exact ways_le _ _ _ _ _ _ hx.1
  · exact h
theorem fold_take {α β : Type} (g : β → α → β) (l : List α) (k : Nat) (hk : k < l.length) (o : β) : (l.take (k + 1)).foldl g o = g ((l.take k).foldl g o) l[k] := by
  rw [List.take_succ_eq_append_getElem hk, List.foldl_append]
  rfl
/-- what the closure's cells hold -/
structure Cl (W : World) (B pb ob qb nbk tb : Nat) (blk : ByteArray → Nat) (T : Tab ByteArray) (b : ByteArray) (v : Value) (out : List (List ByteArray)) : Prop where
  cb : W.heap[pb]? = some (.cells #[.string b] 9 (0, 0))
  co : W.heap[ob]? = some (.cells #[v] 29 (0, 0))
  ct : W.heap[qb]? = some (.cells #[.map (some tb)] 45 (0, 0))
  cn : W.heap[nbk]? = some (.cells #[.func (.func 19) #[] #[.pointer (some ⟨pb, 0, none⟩), .pointer (some ⟨ob, 0, none⟩), .pointer (some ⟨qb, 0, none⟩), .pointer (some ⟨nbk, 0, none⟩)]] 47 (0, 0))
  tm : TM W B tb blk T
  row : KW.R 26 W B (fun _ => True) v out
  ge : B ≤ ob
  lt : B ≤ W.heap.size
section
variable {W w1 : World} {B pb ob qb nbk tb : Nat} {blk : ByteArray → Nat} {T : Tab ByteArray} {b : ByteArray} {v v1 : Value} {out out1 : List (List ByteArray)}
theorem Cl.own_typed (h : Cl W B pb ob qb nbk tb blk T b v out) {k : Nat} (hk : v.ownBlock = some k) : ∃ cs, W.heap[k]? = some (.cells cs 26 (0, 0)) := by
  obtain ⟨inner, ho⟩ := Kd.R_own h.row
  exact Go.Proofs.YtdnnlfdblfcajaaW.PrintWords.own_typed ho k hk
theorem Cl.below (h : Cl W B pb ob qb nbk tb blk T b v out) (hb : Below W.heap.size W w1) : Cl w1 B pb ob qb nbk tb blk T b v out :=
  ⟨blk_below h.cb hb, blk_below h.co hb, blk_below h.ct hb, blk_below h.cn hb, h.tm.below hb, Kd.R_below h.row hb, h.ge, Nat.le_trans h.lt hb.size⟩
theorem Cl.keep (h : Cl W B pb ob qb nbk tb blk T b v out) (hk : KeepBut W w1 ob v.ownBlock) (hco : w1.heap[ob]? = some (.cells #[v1] 29 (0, 0))) (hrow : KW.R 26 w1 B (fun _ => True) v1 out1) : Cl w1 B pb ob qb nbk tb blk T b v1 out1 := by
  have hne : ∀ {k : Nat} {cs : Array Value} {t : TypeId}, W.heap[k]? = some (.cells cs t (0, 0)) → t ≠ 29 → t ≠ 26 → w1.heap[k]? = some (.cells cs t (0, 0)) := by
    intro k cs t hb h1 h2
    refine hk.blk hb (blk_ne hb h.co h1) ?_
    intro e
    obtain ⟨cs', h'⟩ := h.own_typed e.symm
    exact blk_ne hb h' h2 rfl
  have hmp : ∀ {k : Nat} {m : List (ByteArray × Value)}, SM W k m → SM w1 k m := by
    intro k m hm
    obtain ⟨es, clock, hb, _⟩ := id hm
    refine hm.move ?_
    refine hk.2 k hm.lt ?_ ?_
    · rintro rfl
      rw [h.co] at hb
      cases hb
    · intro e
      obtain ⟨cs', h'⟩ := h.own_typed e.symm
      rw [h'] at hb
      cases hb
  exact ⟨hne h.cb (by decide) (by decide), hco, hne h.ct (by decide) (by decide), hne h.cn (by decide) (by decide), ⟨hmp h.tm.out, fun p hp => hmp (h.tm.inn p hp), h.tm.ge, h.tm.inj⟩, hrow, h.ge, Nat.le_trans h.lt hk.1⟩
end
/-- the nodes behind one, in the order in which the closure takes them -/
def nbs (T : Tab ByteArray) (u : ByteArray) : List ByteArray := skeys ((get T u).getD [])
def onArgs (A : Addr) (n cap pb ob qb nbk : Nat) : Array Value := #[.slice (some A) n cap, .pointer (some ⟨pb, 0, none⟩), .pointer (some ⟨ob, 0, none⟩), .pointer (some ⟨qb, 0, none⟩), .pointer (some ⟨nbk, 0, none⟩)]
set_option maxHeartbeats 4000000 in
set_option maxRecDepth 100000 in
theorem on_calls (B pb ob qb nbk tb : Nat) (blk : ByteArray → Nat) (T : Tab ByteArray) (b : ByteArray) (hsz : ∀ u, ∀ p ∈ (get T u).getD [], p.1.size ≤ maxLen) (hln : ∀ u, ((get T u).getD []).length ≤ 1000000) (U : List ByteArray) (hU : ∀ u x, x ∈ nbs T u → x ∈ U) (f : Nat) :
    ∀ (so : List ByteArray) (ad : Addr) (cap : Nat) (last : ByteArray) (v : Value) (out : List (List ByteArray)) (W : World), Cl W B pb ob qb nbk tb blk T b v out → (∀ w1, KeepBut W w1 ob v.ownBlock → Kd.string.C w1 (some ad) so.length so) →
      so.getLast? = some last → so.length ≤ cap → so.length + f ≤ 1000000 → (rest U so).length < f → out.length < 1000 →
      Calls Try.prog 19 (onArgs ad so.length cap pb ob qb nbk) W fun e w' => e = .returned (.tuple #[]) ∧ ∃ v', Cl w' B pb ob qb nbk tb blk T b v' (ways (nbs T) b f so last out) ∧ KeepBut W w' ob v.ownBlock ∧ (v'.ownBlock = v.ownBlock ∨ ∃ k, v'.ownBlock = some k ∧ W.heap.size ≤ k) ∧ Below B W w' := by
  induction f with
  | zero => intro so ad cap last v out W _ _ _ _ _ h; omega
  | succ f ih =>
    intro so ad cap last v out W hcl hso hlast hcap hlen hU1 hout
    have IH := Lib.hid ih
    have HSO := Lib.hid hso
    have HCL := Lib.hid hcl
    have hC0 : Kd.string.C W (some ad) so.length so := hso W (KeepBut.refl _ _ _)
    have hpos : 0 < so.length := by
      cases so with
      | nil => simp at hlast
      | cons _ _ => simp
    obtain ⟨ad', e, d1⟩ := strC_cell hC0 (k := so.length - 1) (by omega)
    injection e with e
    subst e
    have hlast2 : so[so.length - 1] = last := by
      rw [List.getLast?_eq_getElem?, List.getElem?_eq_getElem (by omega)] at hlast
      injection hlast
    rw [hlast2] at d1
    have d2 : W.cell? ⟨pb, 0, none⟩ = some (.string b) := blk_cell hcl.cb 0
    have d3 : W.cell? ⟨ob, 0, none⟩ = some v := blk_cell hcl.co 0
    have d4 : W.cell? ⟨qb, 0, none⟩ = some (.map (some tb)) := blk_cell hcl.ct 0
    have HU1 := Lib.hid hU1
    have HL := Lib.hid hlast
    clear ih hcl hC0 hlast2 hU1 hlast hso
    have n1 : (so.length : Int) - 1 = ((so.length - 1 : Nat) : Int) := by omega
    have n2 : (0 : Int) ≤ ((so.length - 1 : Nat) : Int) := by omega
    have n3 : ((so.length - 1 : Nat) : Int) < (so.length : Int) := by omega
    have n4 : IntKind.i64.wrap ((so.length : Int) - 1) = ((so.length - 1 : Nat) : Int) := by rw [n1]; exact IntWalk.i64_in _ (by omega)
    unfold onArgs
    by_cases he : last = b
    · have e1 : (last.toList == b.toList) = true := by rw [beq_iff_eq, str_eq]; exact he
      have hwy : ways (nbs T) b (f + 1) so last out = out ++ [so] := by unfold ways; rw [if_pos he]
      rw [hwy]
      have H := Lib.hid he
      have d3' : W.drew.cell? ⟨ob, 0, none⟩ = some v := d3
      have fz : W.frozen? ⟨ob, 0, none⟩ = false := blk_frozen HCL.out.co 0
      have hC : Kd.string.C W.drew (some ad) so.length so := HSO.out W.drew ⟨Nat.le_refl _, fun _ _ _ _ => rfl⟩
      have hp : ∀ u w1, Kd.string.R 9 w1 W.drew.heap.size (fun _ => True) u so → Below W.drew.heap.size W.drew w1 → Kd.string.R 9 w1 B (fun k => some k ≠ v.ownBlock) u so ∧ KW.R 26 w1 B (fun _ => True) v out ∧ B ≤ w1.heap.size := by
        intro u w1 h1 h2
        obtain ⟨inner, ho⟩ := Kd.R_own HCL.out.row
        refine ⟨Kd.R_lower (Kd.R_mono (Kd.R_bound h1) (fun k hk e => ?_)) HCL.out.lt, Kd.R_below (w := W.drew) (Kd.R_drew HCL.out.row) h2, Nat.le_trans HCL.out.lt h2.size⟩
        have h3 : k < W.heap.size := own_lt ho k e.symm
        have h4 : W.heap.size ≤ k := hk.2.1
        omega
      have hk1 : ∀ w1, Below W.drew.heap.size W.drew w1 → w1.cell? ⟨ob, 0, none⟩ = some v ∧ w1.frozen? ⟨ob, 0, none⟩ = false := by
        intro w1 h1
        have := blk_below (w := W.drew) HCL.out.co h1
        exact ⟨blk_cell this 0, blk_frozen this 0⟩
      have hk2 : ∀ w1 w2, Below W.drew.heap.size W.drew w1 → w1.grownBy w2 v.ownBlock → w2.heap[ob]? = some (.cells #[v] 29 (0, 0)) := by
        intro w1 w2 h1 h2
        have := blk_below (w := W.drew) HCL.out.co h1
        refine blk_grown this h2 ?_
        intro e
        obtain ⟨cs', h'⟩ := HCL.out.own_typed e.symm
        exact blk_ne HCL.out.co h' (by decide) rfl
      have hka : ∀ w1 o, Below W.drew.heap.size W.drew w1 → (World.alloc w1 o).cell? ⟨ob, 0, none⟩ = some v ∧ (World.alloc w1 o).frozen? ⟨ob, 0, none⟩ = false := by
        intro w1 o h1
        have := blk_alloc (blk_below (w := W.drew) HCL.out.co h1) o
        exact ⟨blk_cell this 0, blk_frozen this 0⟩
      have hks : ∀ w1 w2, Below W.drew.heap.size W.drew w1 → w1.grownBy w2 v.ownBlock → w2.cell? ⟨ob, 0, none⟩ = some v ∧ w2.frozen? ⟨ob, 0, none⟩ = false := fun w1 w2 h1 h2 => ⟨blk_cell (hk2 w1 w2 h1 h2) 0, blk_frozen (hk2 w1 w2 h1 h2) 0⟩
      have hfin : ∀ w1 A3 c3 w2, Below W.drew.heap.size W.drew w1 → KW.R 26 w2 B (fun _ => True) (.slice A3 (out.length + 1) c3) (out ++ [so]) → w1.grownBy w2 v.ownBlock → ((Value.slice A3 (out.length + 1) c3).ownBlock = v.ownBlock ∨ ∃ b, (Value.slice A3 (out.length + 1) c3).ownBlock = some b ∧ w1.heap.size ≤ b) →
          ∃ v', Cl (w2.setCell ⟨ob, 0, none⟩ (.slice A3 (out.length + 1) c3)) B pb ob qb nbk tb blk T b v' (out ++ [so]) ∧ KeepBut W (w2.setCell ⟨ob, 0, none⟩ (.slice A3 (out.length + 1) c3)) ob v.ownBlock ∧ (v'.ownBlock = v.ownBlock ∨ ∃ k, v'.ownBlock = some k ∧ W.heap.size ≤ k) ∧ Below B W (w2.setCell ⟨ob, 0, none⟩ (.slice A3 (out.length + 1) c3)) := by
        intro w1 A3 c3 w2 hb h1 h2 h3
        have hbW : Below W.heap.size W w1 := (Below.refl _ W).drew.trans hb
        have hco := hk2 w1 w2 hb h2
        have hkp : KeepBut W (w2.setCell ⟨ob, 0, none⟩ (.slice A3 (out.length + 1) c3)) ob v.ownBlock := ((KeepBut.of_below hbW ob v.ownBlock).trans (KeepBut.of_grown h2 ob) (.inl rfl)).set_ 0 _
        refine ⟨.slice A3 (out.length + 1) c3, HCL.out.keep hkp (blk_set hco 0 _) (Kd.R_set h1 hco (by decide) 0 _), hkp, ?_, ((hbW.mono HCL.out.lt).grown h2 (Nat.le_trans HCL.out.lt hbW.size) (Kd.R_base HCL.out.row)).setCell HCL.out.ge _⟩
        rcases h3 with h3 | ⟨k, h3, h4⟩
        · exact .inl h3
        · exact .inr ⟨k, h3, Nat.le_trans hbW.size h4⟩
      have HF := Lib.hid hfin
      have HKA := Lib.hid hka
      have HKS := Lib.hid hks
      have HC := Lib.hid hC
      have HP := Lib.hid hp
      have HK1 := Lib.hid hk1
      have HK2 := Lib.hid hk2
      have hso8 : so.length ≤ 8000000 := by omega
      clear he hwy hC hp hk1 hk2 hka hks hfin
      go_enter Try.func19, Try.ntmps19
      go_wp2
      go_region_law (first | (refine step_call (by rfl) (by go_simp) (clone_calls ad cap so _ HC.out hso8) ?_; rintro e w1 ⟨A2, c2, rfl, hu, hb⟩; refine ⟨_, rfl, ?_⟩; have hx1 := (HK1.out _ hb).1; have hx3 := (HKA.out _ (.cells #[.slice A2 so.length c2] 26 (0, 0)) hb).1) | (refine step_append_out (by rfl) _ _ (by rfl) B v _ out so (by rfl) (by rfl) (HP.out _ _ hu hb).1 (HP.out _ _ hu hb).2.1 (HP.out _ _ hu hb).2.2 (by omega) ?_; intro A3 c3 w2 h1 h2 h3; have hx2 := (HKS.out _ _ hb h2).1; have hx4 := (HKS.out _ _ hb h2).2))
      all_goals
        have HH := Lib.hid (HF.out _ _ _ _ hb h1 h2 h3)
        clear hu hb h1 h2 h3
        go_wp2
        (try simp only [Exit.inBlock, Exit.then])
        refine bodyPost_ret (results_none rfl _ _ _) rfl ?_
        exact ⟨rfl, HH.out⟩
    · have e1 : (last.toList == b.toList) = false := by rw [beq_eq_false_iff_ne, ne_eq, str_eq]; exact he
      rw [ways_turn _ _ _ _ _ _ he]
      clear he
      have hmap : ∃ mb, Sem.run Try.prog (Instr.lookup 45 (.map (some tb)) (.string last) false) W = .ok (.map mb) W ∧ MapAt W mb ((get T last).getD []) := by
        cases hg : get T last with
        | none => exact ⟨none, HCL.out.tm.look_none hg, rfl⟩
        | some m => exact ⟨some (blk last), HCL.out.tm.look hg, HCL.out.tm.inn _ (mem_of_get hg)⟩
      obtain ⟨mb, hlook, hmat⟩ := hmap
      have hsorted := sorted_calls W mb ((get T last).getD []) hmat (hsz last) (hln last)
      have hnb : ∀ x ∈ nbs T last, x ∈ U := fun x hx => hU last x hx
      have hnl : (nbs T last).length ≤ 1000000 := by unfold nbs; rw [(skeys_perm _).length_eq, List.length_map]; exact hln last
      have e5 : skeys ((get T last).getD []) = nbs T last := rfl
      rw [e5] at hsorted
      generalize nbs T last = ks at *
      have HS := Lib.hid hsorted
      have HNB := Lib.hid hnb
      clear hsorted hmat hnb e5 hsz hln hU
      go_enter Try.func19, Try.ntmps19
      go_wp2_with (go_at_call 22; refine (keys_calls mb W).mono ?_)
      rintro e w3 ⟨rfl, rfl⟩
      go_wp2_with (go_at_call 21; refine HS.out.mono ?_)
      rintro e w4 ⟨v4, rfl, hR4, hB4⟩
      have hB5 : Below W.heap.size W w4 := ((Below.refl _ W).alloc (Nat.le_refl _) _).trans (hB4.mono (by omega))
      obtain ⟨A4, c4, rfl⟩ := Kd.R_slice hR4
      have hks : ∀ wr, KeepBut w4 wr ob v.ownBlock → Kd.string.C wr A4 ks.length ks := by
        intro wr hk
        have h1 := Kd.R_step (w1 := wr) (Kd.R_bound hR4) (fun k hk' hlt => by
          refine hk.2 k hlt ?_ ?_
          · have := blk_lt HCL.out.co
            have := hk'.2.1
            omega
          · intro e
            obtain ⟨inner, ho⟩ := Kd.R_own HCL.out.row
            have := own_lt ho k e.symm
            have := hk'.2.1
            omega)
        exact (Kd.R_reads' h1).2.2
      have HKS := Lib.hid hks
      have HB5 := Lib.hid hB5
      have hcl4 : Cl w4 B pb ob qb nbk tb blk T b v out := HCL.out.below hB5
      have hb4 : Below B W w4 := hB5.mono HCL.out.lt
      clear hR4 hB4 hB5 hks hlook d1 d2 d3 d4
      go_wp2
      go_loopw [29] (fun i wr => ∃ (k : Nat) (v1 : Value) (o1 : List (List ByteArray)), i = .int .i64 k ∧ k ≤ ks.length ∧ o1 = (ks.take k).foldl (turn (nbs T) b f so) out ∧ o1.length ≤ 1000 ∧ Cl wr B pb ob qb nbk tb blk T b v1 o1 ∧ KeepBut w4 wr ob v.ownBlock ∧ (v1.ownBlock = v.ownBlock ∨ ∃ q, v1.ownBlock = some q ∧ w4.heap.size ≤ q) ∧ Below B W wr) (fun i _ => ks.length - (intOf i).toNat)
      case atStart => exact ⟨0, v, out, rfl, Nat.zero_le _, rfl, by omega, hcl4, KeepBut.refl _ _ _, .inl rfl, hb4⟩
      case round =>
        obtain ⟨k, v1, o1, rfl, hk, ho1, ho2, hcl, hkp, hown, hbw⟩ := hrel
        clear hcl4 hb4
        by_cases hlt : k < ks.length
        · obtain ⟨ad4, e, dk⟩ := strC_cell (HKS.out wr hkp) hlt
          subst e
          have hft := fold_take (turn (nbs T) b f so) ks k hlt out
          rw [← ho1] at hft
          have hxU := HNB.out _ (List.getElem_mem hlt)
          have hcso : Kd.string.C wr (some ad) so.length so := HSO.out wr ((KeepBut.of_below HB5.out ob v.ownBlock).trans hkp (.inl rfl))
          have HFT := Lib.hid hft
          have HXU := Lib.hid hxU
          have HSOC := Lib.hid hcso
          obtain ⟨A1, c1, rfl⟩ := Kd.R_slice hcl.row
          have dn : wr.cell? ⟨nbk, 0, none⟩ = _ := blk_cell hcl.cn 0
          have dout : wr.cell? ⟨ob, 0, none⟩ = some (.slice A1 o1.length c1) := blk_cell hcl.co 0
          have HCl := Lib.hid hcl
          have HKp := Lib.hid hkp
          have HOwn := Lib.hid hown
          have HBw := Lib.hid hbw
          clear hft hxU hcso hcl hkp hown hbw ho1
          generalize ks[k] = x at *
          have b1 : (k : Int) < (ks.length : Int) := by omega
          have b2 : (0 : Int) ≤ (k : Int) := by omega
          have hcon := contains_calls (some ad) cap so x
          have HCON := Lib.hid hcon
          clear hcon
          by_cases h1000 : o1.length < 1000
          · have b3 : (o1.length : Int) < 1000 := by omega
            go_wp2_with (go_at_call 23; refine (HCON.out _ HSOC.out).mono ?_)
            rintro e w5 ⟨r, rfl, hr, rfl⟩
            cases r with
            | true =>
              have ht := turn_neg (nbs T) b f so o1 x (fun _ => hr.1 rfl)
              have HT := Lib.hid ht
              clear ht hr
              go_wp2
              go_roundw
              case rel => exact ⟨k + 1, _, o1, by go_num, by omega, by rw [HFT.out, HT.out], ho2, HCl.out, HKp.out, HOwn.out, HBw.out⟩
              case measure => simp [intOf]; omega
            | false =>
              have hxn : x ∉ so := fun h => by have := hr.2 h; cases this
              have ht := turn_pos (nbs T) b f so o1 x h1000 hxn
              have HT := Lib.hid ht
              have hI : ∀ (ad' : Addr) (c' : Nat) (w2 : World), Kd.string.R 9 w2 (w5.drew.alloc (.cells #[.string x] 9 (0, 0))).heap.size (fun _ => True) (.slice (some ad') (so.length + 1) c') (so ++ [x]) → (w5.drew.alloc (.cells #[.string x] 9 (0, 0))).grownBy w2 none →
                  Calls Try.prog 19 #[.slice (some ad') (so.length + 1) c', .pointer (some ⟨pb, 0, none⟩), .pointer (some ⟨ob, 0, none⟩), .pointer (some ⟨qb, 0, none⟩), .pointer (some ⟨nbk, 0, none⟩)] w2 fun e w' => e = .returned (.tuple #[]) ∧ ∃ v5, Cl w' B pb ob qb nbk tb blk T b v5 (turn (nbs T) b f so o1 x) ∧ KeepBut w4 w' ob v.ownBlock ∧ (v5.ownBlock = v.ownBlock ∨ ∃ q, v5.ownBlock = some q ∧ w4.heap.size ≤ q) ∧ Below B W w' := by
                intro ad' c' w2 h1 h2
                have hbel : Below w5.heap.size w5 w2 := (((Below.refl _ w5).drew).alloc (Nat.le_refl _) _).grown h2 (by simp) (by intro k hk; cases hk)
                have e : (so ++ [x]).length = so.length + 1 := by simp
                have hV : ∀ k, (Value.slice A1 o1.length c1).ownBlock = some k → k < w5.heap.size := by
                  obtain ⟨inner, ho⟩ := Kd.R_own HCl.out.row
                  exact own_lt ho
                have hob := blk_lt HCl.out.co
                have hC : ∀ w1, KeepBut w2 w1 ob (Value.slice A1 o1.length c1).ownBlock → Kd.string.C w1 (some ad') (so ++ [x]).length (so ++ [x]) := by
                  intro w1 hk
                  have h3 := Kd.R_step (w1 := w1) (Kd.R_bound h1) (fun k hk' hlt => by
                    have h4 := hk'.2.1
                    simp only [World.size_alloc] at h4
                    have h5 : w5.drew.heap.size = w5.heap.size := rfl
                    refine hk.2 k hlt (by omega) ?_
                    intro e
                    have := hV k e.symm
                    omega)
                  exact (Kd.R_reads' h3).2.2
                have hcap' : (so ++ [x]).length ≤ c' := by rw [e]; exact (Kd.R_reads' h1).2.1
                have hrl := rest_lt HXU.out hxn
                have hU2 := HU1.out
                have := IH.out (so ++ [x]) ad' c' x _ o1 w2 (HCl.out.below hbel) hC (by simp) hcap' (by omega) (by omega) h1000
                rw [e, ← HT.out] at this
                refine this.mono ?_
                rintro e w' ⟨rfl, v5, q1, q2, q3, q4⟩
                have h45 := HKp.out.1
                refine ⟨rfl, v5, q1, (HKp.out.trans (KeepBut.of_below hbel ob v.ownBlock) (.inl rfl)).trans q2 HOwn.out, ?_, (HBw.out.trans (hbel.mono HCl.out.lt)).trans q4⟩
                rcases q3 with q3 | ⟨k, q3, q5⟩
                · rw [q3]; exact HOwn.out
                · exact .inr ⟨k, q3, by have := hbel.size; omega⟩
              have hcx : Kd.string.C (w5.drew.alloc (.cells #[.string x] 9 (0, 0))) (some ad) so.length so := Kd.C_alloc (Kd.C_drew HSOC.out) _
              have hy : (w5.drew.alloc (.cells #[.string x] 9 (0, 0))).cell? ⟨w5.heap.size, 0, none⟩ = some (.string x) := blk_cell (blk_new w5.drew _) 0
              have hkb : ∀ w2, (w5.drew.alloc (.cells #[.string x] 9 (0, 0))).grownBy w2 none → w2.cell? ⟨nbk, 0, none⟩ = some (.func (.func 19) #[] #[.pointer (some ⟨pb, 0, none⟩), .pointer (some ⟨ob, 0, none⟩), .pointer (some ⟨qb, 0, none⟩), .pointer (some ⟨nbk, 0, none⟩)]) := by
                intro w2 h2
                have hbel : Below w5.heap.size w5 w2 := (((Below.refl _ w5).drew).alloc (Nat.le_refl _) _).grown h2 (by simp) (by intro k hk; cases hk)
                exact blk_cell (blk_below HCl.out.cn hbel) 0
              have hka : ∀ o, (w5.drew.alloc o).cell? ⟨nbk, 0, none⟩ = some (.func (.func 19) #[] #[.pointer (some ⟨pb, 0, none⟩), .pointer (some ⟨ob, 0, none⟩), .pointer (some ⟨qb, 0, none⟩), .pointer (some ⟨nbk, 0, none⟩)]) := fun o => blk_cell (blk_alloc (w := w5.drew) HCl.out.cn o) 0
              have hc63 : so.length ≤ 9223372036854775807 := by omega
              have HI := Lib.hid hI
              have HCX := Lib.hid hcx
              have HY := Lib.hid hy
              have HKB := Lib.hid hkb
              have HKA := Lib.hid hka
              clear ht hr hI hcx hy hkb hka
              go_wp2
              go_region_held3 (fun w' => w'.cell? ⟨nbk, 0, none⟩ = some (.func (.func 19) #[] #[.pointer (some ⟨pb, 0, none⟩), .pointer (some ⟨ob, 0, none⟩), .pointer (some ⟨qb, 0, none⟩), .pointer (some ⟨nbk, 0, none⟩)])) (first | (exact blk_cell q1.cn 0) | (exact HKB.out _ h2) | (exact HKA.out _) | (simp [*]; done)) (first | (go_at_call 24; refine (clip_calls ad cap so.length _ hcap hc63).mono ?_; rintro e w6 ⟨rfl, rfl⟩) | (go_at_call 19; refine (HI.out _ _ _ h1 h2).mono ?_; rintro e w7 ⟨rfl, v5, q1, q2, q3, q4⟩) | (refine step_append_clip (by rfl) _ _ (by rfl) ad _ so x (by rfl) (by rfl) HCX.out HY.out (by omega) ?_; intro ad3 c3 w2 h1 h2))
              all_goals
                have HQ1 := Lib.hid q1
                have HQ2 := Lib.hid q2
                have HQ3 := Lib.hid q3
                have HQ4 := Lib.hid q4
                clear q1 q2 q3 q4 h1 h2
                go_wp2
                go_roundw
                case rel => exact ⟨k + 1, v5, _, by go_num, by omega, HFT.out.symm, turn_le _ _ _ _ _ _ ho2, HQ1.out, HQ2.out, HQ3.out, HQ4.out⟩
                case measure => simp [intOf]; omega
          · have b3 : ¬ ((o1.length : Int) < 1000) := by omega
            have ht := turn_neg (nbs T) b f so o1 x (fun h => absurd h h1000)
            have HT := Lib.hid ht
            clear ht
            go_wp2
            go_roundw
            case rel => exact ⟨k + 1, _, o1, by go_num, by omega, by rw [HFT.out, HT.out], ho2, HCl.out, HKp.out, HOwn.out, HBw.out⟩
            case measure => simp [intOf]; omega
        · have b1 : ¬ ((k : Int) < (ks.length : Int)) := by omega
          have hk2 : k = ks.length := by omega
          rw [hk2, List.take_length] at ho1
          have hfin : ∃ v', Cl wr B pb ob qb nbk tb blk T b v' (ks.foldl (turn (nbs T) b f so) out) ∧ KeepBut W wr ob v.ownBlock ∧ (v'.ownBlock = v.ownBlock ∨ ∃ k, v'.ownBlock = some k ∧ W.heap.size ≤ k) ∧ Below B W wr := by
            refine ⟨v1, ho1 ▸ hcl, (KeepBut.of_below HB5.out ob v.ownBlock).trans hkp (.inl rfl), ?_, hbw⟩
            rcases hown with h | ⟨q, h, h2⟩
            · exact .inl h
            · exact .inr ⟨q, h, Nat.le_trans HB5.out.size h2⟩
          have HF := Lib.hid hfin
          clear hfin hcl hkp hown hbw ho1 hk2
          go_wp2
          (try simp only [Exit.inBlock, Exit.then])
          refine bodyPost_end (results_none rfl _ _ _) rfl ?_
          exact ⟨rfl, HF.out⟩
end Go.Proofs.Ytdnnlfdblfcajaa.Gr
