/- slices.Index, Contains, Clip, Clone at []string. No conditions. -/
import Derived.Test.YtdnnlfdblfcajaaGrTab
import Derived.Test.YtdnnlfdblfcajaaGrCost
import Derived.ArgAppend
import Derived.Lib.SliceRun
namespace Go.Proofs.Ytdnnlfdblfcajaa.Gr
open Go.RowKit Go.Proofs.YtdnnlfdblfcajaaW.PrintWords
theorem strC_cell {w : World} {A : Option Addr} {n : Nat} {ss : List ByteArray} (h : Kd.string.C w A n ss) {k : Nat} (hk : k < ss.length) : ∃ ad, A = some ad ∧ w.cell? (ad.add k) = some (.string ss[k]) := by
  obtain ⟨ad, hA, hcell⟩ := h.2.2 (by have := h.1; omega)
  obtain ⟨c1, hc1, e1, hc2⟩ := hcell k _ (List.getElem?_eq_getElem hk)
  subst e1
  have := hc2 0 _ rfl
  exact ⟨ad, hA, by simpa [Kd.string, Kd.scalar] using this⟩
set_option maxHeartbeats 2000000 in
set_option maxRecDepth 100000 in
theorem index_calls (A : Option Addr) (cap : Nat) (ss : List ByteArray) (s : ByteArray) (w : World) (hr : Kd.string.C w A ss.length ss) :
    Calls Try.prog 29 #[.slice A ss.length cap, .string s] w fun e w' => ∃ r : Int, e = .returned (.int .i64 r) ∧ (0 ≤ r ↔ s ∈ ss) ∧ w' = w := by
  have hlen : ss.length ≤ 9223372036854775807 := hr.2.1
  go_enter Try.func29, Try.ntmps29
  go_wp2
  go_loopw [8] (fun i wr => ∃ k : Nat, i = .int .i64 k ∧ k ≤ ss.length ∧ (s ∉ ss.take k) ∧ wr = w) (fun i _ => ss.length - (intOf i).toNat)
  case atStart => exact ⟨0, rfl, Nat.zero_le _, by simp, rfl⟩
  case round =>
    obtain ⟨k, rfl, hk, hno, rfl⟩ := hrel
    by_cases hlt : k < ss.length
    · obtain ⟨ad, rfl, d1⟩ := strC_cell hr hlt
      have hnext : s ∉ ss.take (k + 1) ↔ s ≠ ss[k] := by
        rw [List.take_succ_eq_append_getElem hlt, List.mem_append]
        simp [hno]
      have hat : s = ss[k] → s ∈ ss := fun e => e ▸ List.getElem_mem hlt
      have HN := Lib.hid hnext
      have HA := Lib.hid hat
      clear hr hno hnext hat
      generalize ss[k] = x at *
      have b1 : (k : Int) < (ss.length : Int) := by omega
      have b2 : (0 : Int) ≤ (k : Int) := by omega
      by_cases he : s = x
      · have e1 : (s.toList == x.toList) = true := by rw [beq_iff_eq, str_eq]; exact he
        have H := Lib.hid he
        clear he
        go_wp2
        go_ret
        exact ⟨_, rfl, ⟨fun _ => HA.out H.out, fun _ => b2⟩, rfl⟩
      · have e1 : (s.toList == x.toList) = false := by rw [beq_eq_false_iff_ne, ne_eq, str_eq]; exact he
        have H := Lib.hid he
        clear he
        go_wp2
        go_roundw
        case rel => exact ⟨k + 1, by go_num, by omega, HN.out.2 H.out, trivial⟩
        case measure => simp [intOf]; omega
    · have hno2 : s ∉ ss := by
        rw [List.take_of_length_le (by omega)] at hno
        exact hno
      have H := Lib.hid hno2
      have b1 : ¬ ((k : Int) < (ss.length : Int)) := by omega
      clear hr hno hno2
      go_wp2
      go_ret
      exact ⟨_, rfl, ⟨fun h => by omega, fun h => absurd h H.out⟩, rfl⟩
set_option maxHeartbeats 2000000 in
set_option maxRecDepth 100000 in
theorem contains_calls (A : Option Addr) (cap : Nat) (ss : List ByteArray) (s : ByteArray) (w : World) (hr : Kd.string.C w A ss.length ss) :
    Calls Try.prog 23 #[.slice A ss.length cap, .string s] w fun e w' => ∃ r : Bool, e = .returned (.bool r) ∧ (r = true ↔ s ∈ ss) ∧ w' = w := by
  have hix := index_calls A cap ss s w hr
  have HI := Lib.hid hix
  clear hix hr
  go_enter Try.func23, Try.ntmps23
  go_wp2_with (go_at_call 29; refine HI.out.mono ?_)
  rintro e w1 ⟨r, rfl, hr, rfl⟩
  have H := Lib.hid hr
  clear hr
  go_wp2
  go_ret
  exact ⟨_, rfl, by rw [decide_eq_true_eq]; exact H.out, rfl⟩
set_option maxHeartbeats 2000000 in
set_option maxRecDepth 100000 in
theorem clip_calls (ad : Addr) (cap : Nat) (n : Nat) (w : World) (hn : n ≤ cap) (_hc : n ≤ 9223372036854775807) :
    Calls Try.prog 24 #[.slice (some ad) n cap] w fun e w' => e = .returned (.slice (some ad) n n) ∧ w' = w := by
  go_enter Try.func24, Try.ntmps24
  go_wp2
  go_ret
  exact ⟨rfl, rfl⟩
theorem wpList_append_SS {W : World} {ops : Array Oper} {rest : List Oper} {o : Oper} {a : Act} {Q : Exit → Act → World → Prop} (hgd : o.guard = none) (s x : Operand)
    (ho : o.op = .call { callee := .builtin .append, args := #[s, x], argTypes := #[26, 26] }) (base : Nat) (v : Value) (xs ys : List ByteArray) (A : Option Addr) (m c : Nat) (hs : a.eval s = v) (hx : a.eval x = .slice A m c)
    (HO : Kd.string.R 9 W base (fun _ => True) v xs) (HR : Kd.string.C W A m ys) (hbase : base ≤ W.heap.size) (hl : xs.length + m ≤ 8000000)
    (h : ∀ v1 w1, Kd.string.R 9 w1 base (fun _ => True) v1 (xs ++ ys) → W.grownBy w1 v.ownBlock → (v1.ownBlock = v.ownBlock ∨ ∃ b, v1.ownBlock = some b ∧ W.heap.size ≤ b) → wpList Try.prog ops Q rest (a.put o.dst v1) w1) : wpList Try.prog ops Q (o :: rest) a W := by
  refine Kd.R_append_row (w0 := W) Value.string ByteArray.empty base hgd s x 26 9 (.string ByteArray.empty) 16 ho Try.underlying26 rfl rfl (by omega) v xs ys A m c (fun _ => True) hs hx (fun _ _ => trivial) HO HR (Below.refl _ _) hbase (by omega) ?_
  intro v1 w1 h1 _ h2 h3
  exact h v1 w1 h1 h2 h3
theorem SS_empty (w : World) (base : Nat) (h : base ≤ w.heap.size) (n : Nat) : Kd.string.R 9 ((w.alloc (.cells #[] 9 (0, 0))).drewN n) base (fun _ => True) (.slice (some ⟨w.heap.size, 0, none⟩) 0 0) [] := by
  have := Kd.R_of_own (enc := Value.string) (h1 := fun _ => rfl) (ok := fun _ => True) (xs := []) (World.ownsRow_made (e := 9) (size := 1) w #[] 0 h (Nat.zero_le _) rfl) (fun _ _ => trivial)
  exact Kd.R_drewN this n
set_option maxHeartbeats 2000000 in
set_option maxRecDepth 100000 in
theorem clone_calls (ad : Addr) (cap : Nat) (ss : List ByteArray) (w : World) (hr : Kd.string.C w (some ad) ss.length ss) (hl : ss.length ≤ 8000000) :
    Calls Try.prog 20 #[.slice (some ad) ss.length cap] w fun e w' => ∃ A c, e = .returned (.slice A ss.length c) ∧ Kd.string.R 9 w' w.heap.size (fun _ => True) (.slice A ss.length c) ss ∧ Below w.heap.size w w' := by
  have q : ∀ (w : World) (a : Option Addr) (n c n' c' : Nat), (binOp .eql 26 (.slice a n c) (.slice none n' c')).run Try.prog w = .ok (.bool a.isNone) w := fun w a n c n' c' => Lib.run_eql_slice_nil w _ _ a n c n' c' Try.underlying26
  have hE := SS_empty w w.heap.size (Nat.le_refl _) 0
  have hl2 : ([] : List ByteArray).length + ss.length ≤ 8000000 := by simpa using hl
  have hC : Kd.string.C (w.alloc (.cells #[] 9 (0, 0))) (some ad) ss.length ss := Kd.C_alloc hr _
  have hb : w.heap.size ≤ (w.alloc (.cells #[] 9 (0, 0))).heap.size := by simp
  have HC := Lib.hid hC
  have HL := Lib.hid hl2
  have HB := Lib.hid hb
  have HE := Lib.hid hE
  clear hr hC hl2 hl hb hE
  go_enter Try.func20, Try.ntmps20
  go_wp2_with (at_builtin; refine wpList_append_SS rfl _ _ rfl w.heap.size _ [] ss (some ad) ss.length cap rfl rfl HE.out HC.out HB.out HL.out ?_)
  intro v1 w1 h1 h2 h3
  have hbel : Below w.heap.size w w1 := ((Below.refl _ w).alloc (Nat.le_refl _) _).grown h2 (by simp) (by intro k hk; simp [Value.ownBlock] at hk; omega)
  have h4 : Kd.string.R 9 w1 w.heap.size (fun _ => True) v1 ss := h1
  clear h1 h2 h3
  obtain ⟨A, c, rfl⟩ := Kd.R_slice h4
  go_wp2
  go_ret
  exact ⟨A, c, rfl, h4, hbel⟩
end Go.Proofs.Ytdnnlfdblfcajaa.Gr
