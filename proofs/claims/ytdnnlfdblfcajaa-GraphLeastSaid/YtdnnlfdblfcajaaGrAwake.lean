/- The chapter's example, walked. No conditions. -/
import Derived.Test.YtdnnlfdblfcajaaGrEx
namespace Go.Proofs.Ytdnnlfdblfcajaa.Gr
open Go.RowKit Go.Proofs.YtdnnlfdblfcajaaW.PrintWords
theorem strC_new (w : World) (ss : List ByteArray) (cs : Array Value) (h : cs.toList = ss.map Value.string) (hl : ss.length ≤ 1000) : Kd.string.C (w.alloc (.cells cs 9 (0, 0))) (some ⟨w.heap.size, 0, none⟩) ss.length ss := by
  refine ⟨rfl, by omega, fun _ => ⟨_, rfl, fun j p hj => ?_⟩⟩
  refine ⟨[.string p], rfl, rfl, fun i u hi => ?_⟩
  obtain rfl : i = 0 := by have := (List.getElem?_eq_some_iff.1 hi).1; simp at this; omega
  simp at hi
  subst hi
  have h1 : cs[j]? = some (.string p) := by
    rw [← Array.getElem?_toList, h, List.getElem?_map, hj]
    rfl
  have h2 := blk_cell (blk_new w (.cells cs 9 (0, 0))) j
  rw [h1] at h2
  rw [Addr.add_lit]
  simpa [Kd.string, Kd.scalar] using h2
theorem exReads (w : World) : ReadsRow EK 3 (w.alloc (.cells #[.string ⟨#[120]⟩, .string ⟨#[121]⟩, .int .i64 1, .string ⟨#[121]⟩, .string ⟨#[122]⟩, .int .i64 2, .string ⟨#[120]⟩, .string ⟨#[122]⟩, .int .i64 5] 40 (0, 0))) (some ⟨w.heap.size, 0, none⟩) exL.length exL := by
  refine ⟨rfl, by decide, fun _ => ⟨_, rfl, fun j p hj => ?_⟩⟩
  refine ⟨[.string p.A, .string p.B, .int .i64 p.c], rfl, rfl, fun i u hi => ?_⟩
  have hi3 : i < 3 := by have := (List.getElem?_eq_some_iff.1 hi).1; simpa using this
  have hj3 : j < 3 := by have := (List.getElem?_eq_some_iff.1 hj).1; simpa [exL] using this
  rw [Addr.add_lit, Nat.zero_add, blk_cell (blk_new w _) (j * 3 + i)]
  match j, hj3, i, hi3 with
  | 0, _, 0, _ | 0, _, 1, _ | 0, _, 2, _ | 1, _, 0, _ | 1, _, 1, _ | 1, _, 2, _ | 2, _, 0, _ | 2, _, 1, _ | 2, _, 2, _ =>
    simp [exL] at hj
    subst hj
    simpa [xX, xY, xZ] using hi
theorem exSizes : ∀ e ∈ exL, e.B.size ≤ maxLen := by decide +kernel
theorem rowC_new (w : World) (a1 a2 : Addr) (s1 s2 : List ByteArray) (h1 : Kd.string.C w (some a1) s1.length s1) (h2 : Kd.string.C w (some a2) s2.length s2) :
    KW.C (w.alloc (.cells #[.slice (some a1) s1.length s1.length, .slice (some a2) s2.length s2.length] 26 (0, 0))) (some ⟨w.heap.size, 0, none⟩) [s1, s2].length [s1, s2] := by
  refine ⟨rfl, by simp, fun _ => ⟨_, rfl, fun j p hj => ?_⟩⟩
  have hj2 : j < 2 := by have := (List.getElem?_eq_some_iff.1 hj).1; simpa using this
  have hb := blk_new w (.cells #[.slice (some a1) s1.length s1.length, .slice (some a2) s2.length s2.length] 26 (0, 0))
  match j, hj2 with
  | 0, _ =>
    simp at hj
    subst hj
    refine ⟨[.slice (some a1) s1.length s1.length], rfl, ⟨some a1, _, rfl, Nat.le_refl _, Kd.C_alloc h1 _⟩, fun i u hi => ?_⟩
    obtain rfl : i = 0 := by have := (List.getElem?_eq_some_iff.1 hi).1; simp at this; omega
    simp at hi
    subst hi
    exact blk_cell hb 0
  | 1, _ =>
    simp at hj
    subst hj
    refine ⟨[.slice (some a2) s2.length s2.length], rfl, ⟨some a2, _, rfl, Nat.le_refl _, Kd.C_alloc h2 _⟩, fun i u hi => ?_⟩
    obtain rfl : i = 0 := by have := (List.getElem?_eq_some_iff.1 hi).1; simp at this; omega
    simp at hi
    subst hi
    exact blk_cell hb 1
set_option maxHeartbeats 8000000 in
set_option maxRecDepth 100000 in
theorem awake_calls (w : World) : Calls Try.prog 8 #[] w fun e w' => e = .returned (.bool true) ∧ Below w.heap.size w w' := by
  have hr := exReads w
  have hb0 : Below w.heap.size w (w.alloc (.cells #[.string ⟨#[120]⟩, .string ⟨#[121]⟩, .int .i64 1, .string ⟨#[121]⟩, .string ⟨#[122]⟩, .int .i64 2, .string ⟨#[120]⟩, .string ⟨#[122]⟩, .int .i64 5] 40 (0, 0))) := below_alloc (Below.refl _ _) _
  have hs0 : w.heap.size ≤ (w.alloc (.cells #[.string ⟨#[120]⟩, .string ⟨#[121]⟩, .int .i64 1, .string ⟨#[121]⟩, .string ⟨#[122]⟩, .int .i64 2, .string ⟨#[120]⟩, .string ⟨#[122]⟩, .int .i64 5] 40 (0, 0))).heap.size := by simp
  have HR := Lib.hid hr
  have HB0 := Lib.hid hb0
  have HS0 := Lib.hid hs0
  clear hr hb0 hs0
  go_enter Try.func8, Try.ntmps8
  go_wp2_with (go_at_call 13; refine (dist_calls _ 3 exL xX xZ _ HR.out (by decide)).mono ?_)
  rintro e w1 ⟨r, rfl, hd, hb⟩
  obtain rfl := exDist hd
  have hr1 : ReadsRow EK 3 w1 _ exL.length exL := ReadsRow.imp_ HR.out hb (fun _ _ h => h)
  have HB1 := Lib.hid (HB0.out.trans (hb.mono HS0.out))
  have HR1 := Lib.hid hr1
  clear hd hb hr1 HR HB0 HS0
  go_wp2_with (go_at_call 13; refine (dist_calls _ 3 exL xZ xX w1 HR1.out (by decide)).mono ?_)
  rintro e w2 ⟨r, rfl, hd, hb⟩
  obtain rfl := exNo hd
  have hr1 : ReadsRow EK 3 w2 _ exL.length exL := ReadsRow.imp_ HR1.out hb (fun _ _ h => h)
  have HB2 := Lib.hid (HB1.out.trans (hb.mono HB1.out.size))
  have HR2 := Lib.hid hr1
  clear hd hb hr1 HR1 HB1
  have hr2 : ReadsRow EK 3 (w2.alloc (.cells #[.string ⟨#[120]⟩, .string ⟨#[122]⟩] 9 (0, 0))) _ exL.length exL := ReadsRow.imp_ HR2.out (below_alloc (Below.refl _ _) _) (fun _ _ h => h)
  have HRa := Lib.hid hr2
  have HBa := Lib.hid (HB2.out.alloc HB2.out.size (.cells #[.string ⟨#[120]⟩, .string ⟨#[122]⟩] 9 (0, 0)))
  have HCa := Lib.hid (strC_new w2 [xX, xZ] #[.string ⟨#[120]⟩, .string ⟨#[122]⟩] rfl (by decide))
  clear hr2
  go_wp2_with (go_at_call 14; refine (cost_calls _ 3 exL _ 2 [xX, xZ] _ HRa.out HCa.out).mono ?_)
  rintro e w3 ⟨rfl, hb⟩
  rw [exCost]
  have hr1 : ReadsRow EK 3 w3 _ exL.length exL := ReadsRow.imp_ HRa.out hb (fun _ _ h => h)
  have HB3 := Lib.hid (HBa.out.trans (hb.mono HBa.out.size))
  have HR3 := Lib.hid hr1
  clear hb hr1 HRa HBa HCa HR2 HB2
  go_wp2_with (go_at_call 12; refine (ways_calls _ 3 exL xX xZ w3 HR3.out (by decide) exSizes).mono ?_)
  rintro e w4 ⟨v, rfl, hv, hb⟩
  rw [exWays] at hv
  obtain ⟨A4, c4, rfl, _, hc4⟩ := Kd.R_reads hv
  have hr1 : ReadsRow EK 3 w4 _ exL.length exL := ReadsRow.imp_ HR3.out hb (fun _ _ h => h)
  have HB4 := Lib.hid (HB3.out.trans (hb.mono HB3.out.size))
  have HR4 := Lib.hid hr1
  have HC4 := Lib.hid hc4
  clear hb hr1 hv hc4 HR3 HB3
  have hA : Kd.string.C (w4.alloc (.cells #[.string ⟨#[120]⟩, .string ⟨#[121]⟩, .string ⟨#[122]⟩] 9 (0, 0))) (some ⟨w4.heap.size, 0, none⟩) [xX, xY, xZ].length [xX, xY, xZ] := strC_new w4 [xX, xY, xZ] _ rfl (by decide)
  have hB := strC_new (w4.alloc (.cells #[.string ⟨#[120]⟩, .string ⟨#[121]⟩, .string ⟨#[122]⟩] 9 (0, 0))) [xX, xZ] #[.string ⟨#[120]⟩, .string ⟨#[122]⟩] rfl (by decide)
  have hC := rowC_new _ _ _ _ _ (Kd.C_alloc hA (.cells #[.string ⟨#[120]⟩, .string ⟨#[122]⟩] 9 (0, 0))) hB
  have hsz1 : (w4.alloc (.cells #[.string ⟨#[120]⟩, .string ⟨#[121]⟩, .string ⟨#[122]⟩] 9 (0, 0))).heap.size = w4.heap.size + 1 := by simp
  have hsz2 : ((w4.alloc (.cells #[.string ⟨#[120]⟩, .string ⟨#[121]⟩, .string ⟨#[122]⟩] 9 (0, 0))).alloc (.cells #[.string ⟨#[120]⟩, .string ⟨#[122]⟩] 9 (0, 0))).heap.size = w4.heap.size + 1 + 1 := by simp
  rw [hsz2, hsz1] at hC
  have HCb := Lib.hid hC
  have HCa := Lib.hid (Kd.C_alloc (Kd.C_alloc (Kd.C_alloc HC4.out (.cells #[.string ⟨#[120]⟩, .string ⟨#[121]⟩, .string ⟨#[122]⟩] 9 (0, 0))) (.cells #[.string ⟨#[120]⟩, .string ⟨#[122]⟩] 9 (0, 0))) (.cells #[.slice (some ⟨w4.heap.size, 0, none⟩) 3 3, .slice (some ⟨w4.heap.size + 1, 0, none⟩) 2 2] 26 (0, 0)))
  have hbb : Below w.heap.size w (((w4.alloc (.cells #[.string ⟨#[120]⟩, .string ⟨#[121]⟩, .string ⟨#[122]⟩] 9 (0, 0))).alloc (.cells #[.string ⟨#[120]⟩, .string ⟨#[122]⟩] 9 (0, 0))).alloc (.cells #[.slice (some ⟨w4.heap.size, 0, none⟩) 3 3, .slice (some ⟨w4.heap.size + 1, 0, none⟩) 2 2] 26 (0, 0))) := ((HB4.out.alloc HB4.out.size _).alloc (by have := HB4.out.size; simp; omega) _).alloc (by have := HB4.out.size; simp; omega) _
  have hrr : ReadsRow EK 3 (((w4.alloc (.cells #[.string ⟨#[120]⟩, .string ⟨#[121]⟩, .string ⟨#[122]⟩] 9 (0, 0))).alloc (.cells #[.string ⟨#[120]⟩, .string ⟨#[122]⟩] 9 (0, 0))).alloc (.cells #[.slice (some ⟨w4.heap.size, 0, none⟩) 3 3, .slice (some ⟨w4.heap.size + 1, 0, none⟩) 2 2] 26 (0, 0))) _ exL.length exL :=
    ReadsRow.imp_ HR4.out ((((Below.refl _ w4).alloc (Nat.le_refl _) _).alloc (by simp) _).alloc (by simp; omega) _) (fun _ _ h => h)
  have HBB := Lib.hid hbb
  have HRR := Lib.hid hrr
  clear hA hB hC hsz1 hsz2 hbb hrr
  go_wp2_with (go_at_call 16; refine (weq_calls A4 _ c4 2 [[xX, xY, xZ], [xX, xZ]] [[xX, xY, xZ], [xX, xZ]] _ HCa.out HCb.out).mono ?_)
  rintro e w5 ⟨rfl, hb⟩
  rw [weq_true rfl]
  have hr1 : ReadsRow EK 3 w5 _ exL.length exL := ReadsRow.imp_ HRR.out hb (fun _ _ h => h)
  have HB5 := Lib.hid (HBB.out.trans (hb.mono HBB.out.size))
  have HR5 := Lib.hid hr1
  clear hb hr1 HRR HBB HCa HCb HB4 HR4 HC4
  go_wp2_with (go_at_call 15; refine (reach_calls _ 3 exL xX w5 HR5.out (by decide) exSizes).mono ?_)
  rintro e w6 ⟨v, ss, rfl, hv, h1, h2, h3, hb⟩
  obtain rfl := exReach h1 h2 h3
  obtain ⟨A6, c6, rfl, _, hc6⟩ := Kd.R_reads hv
  have HB6 := Lib.hid (HB5.out.trans (hb.mono HB5.out.size))
  have HC6 := Lib.hid (Kd.C_alloc hc6 (.cells #[.string ⟨#[121]⟩, .string ⟨#[122]⟩] 9 (0, 0)))
  have HC7 := Lib.hid (strC_new w6 [xY, xZ] #[.string ⟨#[121]⟩, .string ⟨#[122]⟩] rfl (by decide))
  have HB7 := Lib.hid (HB6.out.alloc HB6.out.size (.cells #[.string ⟨#[121]⟩, .string ⟨#[122]⟩] 9 (0, 0)))
  clear h1 h2 h3 hv hb hc6 HB5 HR5
  go_wp2_with (go_at_call 17; refine (texts_calls A6 _ c6 2 [xY, xZ] [xY, xZ] _ HC6.out HC7.out).mono ?_)
  rintro e w7 ⟨rfl, hb⟩
  rw [teq_true rfl]
  have HB8 := Lib.hid (HB7.out.trans (hb.mono HB7.out.size))
  clear hb HC6 HC7 HB7 HB6
  go_wp2
  go_ret
  exact ⟨rfl, HB8.out⟩
end Go.Proofs.Ytdnnlfdblfcajaa.Gr
