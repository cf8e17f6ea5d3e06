/- The law's small helpers: pick, names, Texts, Ways. No conditions. -/
import Derived.Test.YtdnnlfdblfcajaaGrWaysF
namespace Go.Proofs.Ytdnnlfdblfcajaa.Gr
open Go.RowKit Go.Proofs.YtdnnlfdblfcajaaW.PrintWords
def nm (r : Nat) : ByteArray := [ByteArray.mk #[97], ByteArray.mk #[98], ByteArray.mk #[99], ByteArray.mk #[100], ByteArray.mk #[101]].getD r (ByteArray.mk #[97])
set_option maxHeartbeats 2000000 in
set_option maxRecDepth 100000 in
theorem names_calls (w : World) : Calls Try.prog 10 #[] w fun e w' => ∃ g, e = .returned (.slice (some ⟨g, 0, none⟩) 5 5) ∧ w.heap.size ≤ g ∧ (∀ r, r < 5 → w'.cell? ⟨g, r, none⟩ = some (.string (nm r))) ∧ Below w.heap.size w w' := by
  go_enter Try.func10, Try.ntmps10
  go_wp2
  go_ret
  refine ⟨_, rfl, Nat.le_refl _, fun r hr => ?_, below_alloc (Below.refl _ _) _⟩
  rw [blk_cell (blk_new w _) r]
  match r, hr with
  | 0, _ => rfl
  | 1, _ => rfl
  | 2, _ => rfl
  | 3, _ => rfl
  | 4, _ => rfl
set_option maxHeartbeats 2000000 in
set_option maxRecDepth 100000 in
theorem pick_calls (c : Int) (n : Nat) (w : World) (hc : -9223372036854775808 ≤ c) (hc2 : c ≤ 9223372036854775807) (hn : 0 < n) (hn2 : n ≤ 1000000) :
    Calls Try.prog 11 #[.int .i64 c, .int .i64 n] w fun e w' => ∃ r : Nat, e = .returned (.int .i64 r) ∧ r < n ∧ w' = w := by
  have key : ∀ x : Int, 0 ≤ x → ∃ r : Nat, x.tmod n = r ∧ r < n := by
    intro x hx
    have h1 : x.tmod n = x % n := Int.tmod_eq_emod_of_nonneg hx
    have h2 : 0 ≤ x % n := Int.emod_nonneg _ (by omega)
    have h3 : x % n < n := Int.emod_lt_of_pos _ (by omega)
    exact ⟨(x % n).toNat, by rw [h1]; omega, by omega⟩
  have hz : ¬ ((n : Int) = 0) := by omega
  by_cases h0 : c < 0
  · obtain ⟨r, h1, h2⟩ := key (-(c + 1)) (by omega)
    have n1 : IntKind.i64.wrap (c + 1) = c + 1 := IntWalk.i64_in _ (by omega)
    have n2 : IntKind.i64.wrap (-(c + 1)) = -(c + 1) := IntWalk.i64_in _ (by omega)
    have h3 : -((c + 1).tmod n) = r := by rw [← h1, Int.neg_tmod]
    have H := Lib.hid h3
    clear h1 h3 key
    go_enter Try.func11, Try.ntmps11
    go_wp2
    go_ret
    rw [H.out]
    exact ⟨r, rfl, h2, rfl⟩
  · obtain ⟨r, h1, h2⟩ := key c (by omega)
    have h3 : c % n = r := by rw [← h1, Int.tmod_eq_emod_of_nonneg (by omega)]
    have H := Lib.hid h3
    clear h1 h3 key
    go_enter Try.func11, Try.ntmps11
    go_wp2
    go_ret
    rw [H.out]
    exact ⟨r, rfl, h2, rfl⟩
theorem take_eq_succ {α : Type} {xs ys : List α} {k : Nat} (h1 : k < xs.length) (h2 : k < ys.length) (h : xs.take k = ys.take k) : xs.take (k + 1) = ys.take (k + 1) ↔ xs[k] = ys[k] := by
  rw [List.take_succ_eq_append_getElem h1, List.take_succ_eq_append_getElem h2, h]
  constructor
  · intro e
    have := List.append_cancel_left e
    injection this
  · intro e
    rw [e]
def teq (xs ys : List ByteArray) : Bool := decide (xs = ys)
theorem teq_true {xs ys : List ByteArray} (h : xs = ys) : teq xs ys = true := decide_eq_true h
theorem teq_false {xs ys : List ByteArray} (h : xs ≠ ys) : teq xs ys = false := decide_eq_false h
set_option maxHeartbeats 2000000 in
set_option maxRecDepth 100000 in
theorem texts_calls (A1 A2 : Option Addr) (c1 c2 : Nat) (xs ys : List ByteArray) (w : World) (h1 : Kd.string.C w A1 xs.length xs) (h2 : Kd.string.C w A2 ys.length ys) :
    Calls Try.prog 17 #[.slice A1 xs.length c1, .slice A2 ys.length c2] w fun e w' => e = .returned (.bool (teq xs ys)) ∧ Below w.heap.size w w' := by
  have l1 : xs.length ≤ 9223372036854775807 := h1.2.1
  have l2 : ys.length ≤ 9223372036854775807 := h2.2.1
  by_cases hl : xs.length = ys.length
  · have hl3 : (xs.length : Int) = (ys.length : Int) := by omega
    have H1 := Lib.hid h1
    have H2 := Lib.hid h2
    have HL := Lib.hid hl
    clear h1 h2 hl
    go_enter Try.func17, Try.ntmps17
    go_wp2
    go_loopw [5] (fun i wr => ∃ k : Nat, i = .int .i64 k ∧ k ≤ xs.length ∧ xs.take k = ys.take k ∧ Below w.heap.size w wr) (fun i _ => xs.length - (intOf i).toNat)
    case atStart => exact ⟨0, rfl, Nat.zero_le _, rfl, Below.refl _ _⟩
    case round =>
      obtain ⟨k, rfl, hk, heq, hb⟩ := hrel
      by_cases hlt : k < ys.length
      · have hlt2 : k < xs.length := by have := HL.out; omega
        obtain ⟨a1, rfl, d1⟩ := strC_cell (Kd.C_below H1.out hb) hlt2
        obtain ⟨a2, rfl, d2⟩ := strC_cell (Kd.C_below H2.out hb) hlt
        have hn := take_eq_succ hlt2 hlt heq
        have hne : xs[k] ≠ ys[k] → xs ≠ ys := by
          intro h e
          subst e
          exact h rfl
        have HN := Lib.hid hn
        have HNE := Lib.hid hne
        have HB := Lib.hid hb
        clear hn hne hb heq
        generalize xs[k] = x at *
        generalize ys[k] = y at *
        have b1 : (k : Int) < (ys.length : Int) := by omega
        have b0 : (k : Int) < (xs.length : Int) := by omega
        have b2 : (0 : Int) ≤ (k : Int) := by omega
        by_cases he : x = y
        · have e1 : (x.toList == y.toList) = true := by rw [beq_iff_eq, str_eq]; exact he
          have H := Lib.hid he
          clear he
          go_wp2
          go_quiet (fail)
          go_wp2
          go_roundw
          case rel => exact ⟨k + 1, by go_num, by omega, HN.out.2 H.out, pw_below_drewN HB.out _⟩
          case measure => simp [intOf]; omega
        · have e1 : (x.toList == y.toList) = false := by rw [beq_eq_false_iff_ne, ne_eq, str_eq]; exact he
          have H := Lib.hid he
          clear he
          go_wp2
          go_quiet (fail)
          go_wp2
          go_ret
          exact ⟨by rw [teq_false (HNE.out H.out)]; rfl, pw_below_drewN HB.out _⟩
      · have hkx : k = xs.length := by have := HL.out; omega
        have heq2 : xs = ys := by
          have := HL.out
          rw [List.take_of_length_le (by omega), List.take_of_length_le (by omega)] at heq
          exact heq
        have HB := Lib.hid hb
        have HE := Lib.hid heq2
        have b1 : ¬ ((k : Int) < (ys.length : Int)) := by omega
        have b0 : ¬ ((k : Int) < (xs.length : Int)) := by omega
        clear heq2 heq hkx hb
        go_wp2
        go_ret
        exact ⟨by rw [teq_true HE.out]; rfl, HB.out⟩
  · have hl3 : ¬ ((xs.length : Int) = (ys.length : Int)) := by omega
    have hne : xs ≠ ys := fun h => hl (by rw [h])
    have H := Lib.hid hne
    clear h1 h2 hl hne
    go_enter Try.func17, Try.ntmps17
    go_wp2
    go_ret
    exact ⟨by rw [teq_false H.out]; rfl, Below.refl _ _⟩
theorem rowC_cell {w : World} {A : Option Addr} {n : Nat} {ss : List (List ByteArray)} (h : KW.C w A n ss) {k : Nat} (hk : k < ss.length) : ∃ ad A2 c2, A = some ad ∧ w.cell? (ad.add k) = some (.slice A2 ss[k].length c2) ∧ ss[k].length ≤ c2 ∧ Kd.string.C w A2 ss[k].length ss[k] := by
  obtain ⟨ad, hA, hcell⟩ := h.2.2 (by have := h.1; omega)
  obtain ⟨c1, hc1, ⟨A2, c2, e1, e2, e3⟩, hc2⟩ := hcell k _ (List.getElem?_eq_getElem hk)
  subst e1
  have := hc2 0 _ rfl
  exact ⟨ad, A2, c2, hA, by simpa [Kd.slice] using this, e2, e3⟩
def weq (xs ys : List (List ByteArray)) : Bool := decide (xs = ys)
theorem weq_true {xs ys : List (List ByteArray)} (h : xs = ys) : weq xs ys = true := decide_eq_true h
theorem weq_false {xs ys : List (List ByteArray)} (h : xs ≠ ys) : weq xs ys = false := decide_eq_false h
set_option maxHeartbeats 2000000 in
set_option maxRecDepth 100000 in
theorem weq_calls (A1 A2 : Option Addr) (c1 c2 : Nat) (xs ys : List (List ByteArray)) (w : World) (h1 : KW.C w A1 xs.length xs) (h2 : KW.C w A2 ys.length ys) :
    Calls Try.prog 16 #[.slice A1 xs.length c1, .slice A2 ys.length c2] w fun e w' => e = .returned (.bool (weq xs ys)) ∧ Below w.heap.size w w' := by
  have l1 : xs.length ≤ 9223372036854775807 := h1.2.1
  have l2 : ys.length ≤ 9223372036854775807 := h2.2.1
  by_cases hl : xs.length = ys.length
  · have hl3 : (xs.length : Int) = (ys.length : Int) := by omega
    have H1 := Lib.hid h1
    have H2 := Lib.hid h2
    have HL := Lib.hid hl
    clear h1 h2 hl
    go_enter Try.func16, Try.ntmps16
    go_wp2
    go_loopw [5] (fun i wr => ∃ k : Nat, i = .int .i64 k ∧ k ≤ xs.length ∧ xs.take k = ys.take k ∧ Below w.heap.size w wr) (fun i _ => xs.length - (intOf i).toNat)
    case atStart => exact ⟨0, rfl, Nat.zero_le _, rfl, Below.refl _ _⟩
    case round =>
      obtain ⟨k, rfl, hk, heq, hb⟩ := hrel
      by_cases hlt : k < ys.length
      · have hlt2 : k < xs.length := by have := HL.out; omega
        obtain ⟨a1, B1, e1, rfl, d1, _, r1⟩ := rowC_cell (Kd.C_below H1.out hb) hlt2
        obtain ⟨a2, B2, e2, rfl, d2, _, r2⟩ := rowC_cell (Kd.C_below H2.out hb) hlt
        have hn := take_eq_succ hlt2 hlt heq
        have hne : xs[k] ≠ ys[k] → xs ≠ ys := by
          intro h e
          subst e
          exact h rfl
        have HN := Lib.hid hn
        have HNE := Lib.hid hne
        have HB := Lib.hid hb
        have R1 := Lib.hid (show Kd.string.C wr.drew B1 _ _ from Kd.C_drew r1)
        have R2 := Lib.hid (show Kd.string.C wr.drew B2 _ _ from Kd.C_drew r2)
        clear hn hne hb heq r1 r2
        generalize xs[k] = x at *
        generalize ys[k] = y at *
        have b1 : (k : Int) < (ys.length : Int) := by omega
        have b0 : (k : Int) < (xs.length : Int) := by omega
        have b2 : (0 : Int) ≤ (k : Int) := by omega
        have hkeep : ∀ w2, Below wr.drew.heap.size wr.drew w2 → w2.cell? (a1.add k) = some (.slice B1 x.length e1) ∧ w2.cell? (a2.add k) = some (.slice B2 y.length e2) := by
          intro w2 h
          exact ⟨(h.cell (World.block_lt_of_cell? wr _ d1)).trans d1, (h.cell (World.block_lt_of_cell? wr _ d2)).trans d2⟩
        have HK := Lib.hid hkeep
        clear hkeep
        by_cases he : x = y
        · have et := teq_true he
          have H := Lib.hid he
          have ET := Lib.hid et
          clear he et
          go_wp2
          go_region_held3 (fun w' => w'.cell? (a1.add k) = some (.slice B1 x.length e1) ∧ w'.cell? (a2.add k) = some (.slice B2 y.length e2)) (first | (exact HK.out _ hw3) | (simp [*]; done)) (first | (go_at_call 17; refine (texts_calls B1 B2 e1 e2 x y _ R1.out R2.out).mono ?_; rintro e w3 ⟨rfl, hw3⟩; rw [ET.out]))
          have HW3 := Lib.hid hw3
          clear hw3
          go_wp2
          go_roundw
          case rel => exact ⟨k + 1, by go_num, by omega, HN.out.2 H.out, HB.out.drew.trans (HW3.out.mono HB.out.size)⟩
          case measure => simp [intOf]; omega
        · have et := teq_false he
          have H := Lib.hid he
          have ET := Lib.hid et
          clear he et
          go_wp2
          go_region_held3 (fun w' => w'.cell? (a1.add k) = some (.slice B1 x.length e1) ∧ w'.cell? (a2.add k) = some (.slice B2 y.length e2)) (first | (exact HK.out _ hw3) | (simp [*]; done)) (first | (go_at_call 17; refine (texts_calls B1 B2 e1 e2 x y _ R1.out R2.out).mono ?_; rintro e w3 ⟨rfl, hw3⟩; rw [ET.out]))
          have HW3 := Lib.hid hw3
          clear hw3
          go_wp2
          go_ret
          exact ⟨by rw [weq_false (HNE.out H.out)]; rfl, HB.out.drew.trans (HW3.out.mono HB.out.size)⟩
      · have hkx : k = xs.length := by have := HL.out; omega
        have heq2 : xs = ys := by
          have := HL.out
          rw [List.take_of_length_le (by omega), List.take_of_length_le (by omega)] at heq
          exact heq
        have HB := Lib.hid hb
        have HE := Lib.hid heq2
        have b1 : ¬ ((k : Int) < (ys.length : Int)) := by omega
        have b0 : ¬ ((k : Int) < (xs.length : Int)) := by omega
        clear heq2 heq hkx hb
        go_wp2
        go_ret
        exact ⟨by rw [weq_true HE.out]; rfl, HB.out⟩
  · have hl3 : ¬ ((xs.length : Int) = (ys.length : Int)) := by omega
    have hne : xs ≠ ys := fun h => hl (by rw [h])
    have H := Lib.hid hne
    clear h1 h2 hl hne
    go_enter Try.func16, Try.ntmps16
    go_wp2
    go_ret
    exact ⟨by rw [weq_false H.out]; rfl, Below.refl _ _⟩
end Go.Proofs.Ytdnnlfdblfcajaa.Gr
