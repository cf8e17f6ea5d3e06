/- GraphTriangle, walked. No conditions. -/
import Derived.Test.YtdnnlfdblfcajaaGrLawP
namespace Go.Proofs.Ytdnnlfdblfcajaa.Gr
open Go.RowKit Go.Proofs.YtdnnlfdblfcajaaW.PrintWords
set_option maxHeartbeats 8000000 in
set_option maxRecDepth 100000 in
theorem triangle_calls (A : Option Addr) (cap : Nat) (ls : List (Int × Int × Int)) (one two three : Int) (w : World) (hr : ReadsRow RK 3 w A ls.length ls) (hi : ∀ x ∈ ls, InR x.1 ∧ InR x.2.1 ∧ InR x.2.2) (h1 : InR one) (h2 : InR two) (h3 : InR three) :
    Calls Try.prog 4 #[.slice A ls.length cap, .int .i64 one, .int .i64 two, .int .i64 three] w fun e w' => e = .returned (.bool true) ∧ Below w.heap.size w w' := by
  have HR := Lib.hid hr
  have HI := Lib.hid hi
  have H1 := Lib.hid h1
  have H2 := Lib.hid h2
  have H3 := Lib.hid h3
  clear hr hi h1 h2 h3
  go_enter Try.func4, Try.ntmps4
  go_wp2_with (go_at_call 8; refine (awake_calls w).mono ?_)
  rintro e w1 ⟨rfl, hb⟩
  have HRa := Lib.hid (ReadsRow.imp_ HR.out hb (fun _ _ h => h))
  have HB1 := Lib.hid hb
  clear hb HR
  go_wp2_with (go_at_call 9; refine (edges_is A cap ls true w1 HRa.out HI.out).mono ?_)
  rintro e w2 ⟨Ae, ce, es, rfl, hes⟩
  have HR2 := Lib.hid hes.reads
  have HB2 := Lib.hid (HB1.out.trans (hes.below.mono HB1.out.size))
  have H5 := Lib.hid hes.five
  have HSYM := Lib.hid (hes.sym rfl)
  have hl2 : es.length ≤ 100000 := by have := hes.len; omega
  clear hes HRa HI HB1
  go_wp2_with (go_at_call 10; refine (names_calls w2).mono ?_)
  rintro e w3 ⟨g, rfl, _, hcell, hb⟩
  have HC := Lib.hid hcell
  have HR3 := Lib.hid (ReadsRow.imp_ HR2.out hb (fun _ _ h => h))
  have HB3 := Lib.hid (HB2.out.trans (hb.mono HB2.out.size))
  clear hcell hb HR2 HB2
  go_wp2_with (go_at_call 11; refine (pick5 one w3 H1.out).mono ?_)
  rintro e w4 ⟨i, rfl, hi, rfl⟩
  have hc := HC.out i hi
  have HA := Lib.hid (nm_five hi)
  have bi : (i : Int) < 5 := by omega
  have bi0 : (0 : Int) ≤ (i : Int) := by omega
  clear HC hi
  generalize nm i = a at *
  go_wp2_with (go_at_call 10; refine (names_calls w4).mono ?_)
  rintro e w5 ⟨g5, rfl, _, hcell, hb⟩
  have HC := Lib.hid hcell
  have HR5 := Lib.hid (ReadsRow.imp_ HR3.out hb (fun _ _ h => h))
  have HB5 := Lib.hid (HB3.out.trans (hb.mono HB3.out.size))
  clear hcell hb HR3 HB3 hc
  go_wp2_with (go_at_call 11; refine (pick5 two w5 H2.out).mono ?_)
  rintro e w6 ⟨j, rfl, hj, rfl⟩
  have hc := HC.out j hj
  have HBB := Lib.hid (nm_five hj)
  have bj : (j : Int) < 5 := by omega
  have bj0 : (0 : Int) ≤ (j : Int) := by omega
  clear HC hj
  generalize nm j = b at *
  go_wp2_with (go_at_call 10; refine (names_calls w6).mono ?_)
  rintro e w7 ⟨g7, rfl, _, hcell, hb⟩
  have HC := Lib.hid hcell
  have HR7 := Lib.hid (ReadsRow.imp_ HR5.out hb (fun _ _ h => h))
  have HB7 := Lib.hid (HB5.out.trans (hb.mono HB5.out.size))
  clear hcell hb HR5 HB5 hc
  go_wp2_with (go_at_call 11; refine (pick5 three w7 H3.out).mono ?_)
  rintro e w8 ⟨l, rfl, hl, rfl⟩
  have hc := HC.out l hl
  have HCC := Lib.hid (nm_five hl)
  have bl : (l : Int) < 5 := by omega
  have bl0 : (0 : Int) ≤ (l : Int) := by omega
  clear HC hl
  generalize nm l = c at *
  go_wp2_with (go_at_call 13; refine (dist_calls Ae ce es a b w8 HR7.out hl2).mono ?_)
  rintro e w9 ⟨r1, rfl, hd1, hb⟩
  have HR9 := Lib.hid (ReadsRow.imp_ HR7.out hb (fun _ _ h => h))
  have HB9 := Lib.hid (HB7.out.trans (hb.mono HB7.out.size))
  have D1 := Lib.hid hd1
  clear hb hd1 HR7 HB7 hc
  go_wp2_with (go_at_call 13; refine (dist_calls Ae ce es b c w9 HR9.out hl2).mono ?_)
  rintro e w10 ⟨r2, rfl, hd1, hb⟩
  have HR10 := Lib.hid (ReadsRow.imp_ HR9.out hb (fun _ _ h => h))
  have HB10 := Lib.hid (HB9.out.trans (hb.mono HB9.out.size))
  have D2 := Lib.hid hd1
  clear hb hd1 HR9 HB9
  go_wp2_with (go_at_call 13; refine (dist_calls Ae ce es a c w10 HR10.out hl2).mono ?_)
  rintro e w11 ⟨r3, rfl, hd1, hb⟩
  have HR11 := Lib.hid (ReadsRow.imp_ HR10.out hb (fun _ _ h => h))
  have HB11 := Lib.hid (HB10.out.trans (hb.mono HB10.out.size))
  have D3 := Lib.hid hd1
  clear hb hd1 HR10 HB10
  go_wp2_with (go_at_call 13; refine (dist_calls Ae ce es b a w11 HR11.out hl2).mono ?_)
  rintro e w12 ⟨r4, rfl, hd1, hb⟩
  have HB12 := Lib.hid (HB11.out.trans (hb.mono HB11.out.size))
  have hs := best_sym HSYM.out
  obtain rfl : r4 = r1 := hd1.unique (D1.out.mapped (fun d h => h.turned hs) (fun d h => h.turned hs))
  clear hb hd1 HR11 HB11
  obtain ⟨x, p⟩ := r4
  obtain ⟨y, q⟩ := r2
  obtain ⟨z, r⟩ := r3
  cases p with
  | false =>
    clear D1 D2 D3
    go_wp2
    go_ret
    exact ⟨rfl, HB12.out⟩
  | true =>
    cases q with
    | false =>
      clear D1 D2 D3
      go_wp2
      go_ret
      exact ⟨rfl, HB12.out⟩
    | true =>
      have e1 := D1.out.true_
      have e2 := D2.out.true_
      have e3 := D3.out.of_walk (e1.1.trans e2.1)
      obtain ⟨e4, e5⟩ := e3
      dsimp only at e4 e5
      subst e4
      have l1 := dist_le H5.out HA.out e1
      have l2 := dist_le H5.out HBB.out e2
      have l3 := dist_le H5.out HA.out D3.out.true_
      clear D1 D2 D3 e1 e2
      have n1 : IntKind.i64.wrap (x + y) = x + y := IntWalk.i64_in _ (by omega)
      go_wp2
      go_ret
      exact ⟨rfl, HB12.out⟩
end Go.Proofs.Ytdnnlfdblfcajaa.Gr
