/- GraphReaches, walked. No conditions. -/
import Derived.Test.YtdnnlfdblfcajaaGrReachP
namespace Go.Proofs.Ytdnnlfdblfcajaa.Gr
open Go.RowKit Go.Proofs.YtdnnlfdblfcajaaW.PrintWords
set_option maxHeartbeats 8000000 in
set_option maxRecDepth 100000 in
theorem reaches_calls (A : Option Addr) (cap : Nat) (ls : List (Int × Int × Int)) (both : Bool) (one : Int) (w : World) (hr : ReadsRow RK 3 w A ls.length ls) (hi : ∀ x ∈ ls, InR x.1 ∧ InR x.2.1 ∧ InR x.2.2) (h1 : InR one) :
    Calls Try.prog 5 #[.slice A ls.length cap, .bool both, .int .i64 one] w fun e w' => e = .returned (.bool true) ∧ Below w.heap.size w w' := by
  have HR := Lib.hid hr
  have HI := Lib.hid hi
  have H1 := Lib.hid h1
  clear hr hi h1
  go_enter Try.func5, Try.ntmps5
  go_wp2_with (go_at_call 8; refine (awake_calls w).mono ?_)
  rintro e w1 ⟨rfl, hb⟩
  have HRa := Lib.hid (ReadsRow.imp_ HR.out hb (fun _ _ h => h))
  have HB1 := Lib.hid hb
  clear hb HR
  go_wp2_with (go_at_call 9; refine (edges_is A cap ls both w1 HRa.out HI.out).mono ?_)
  rintro e w2 ⟨Ae, ce, es, rfl, hes⟩
  have HR2 := Lib.hid hes.reads
  have HB2 := Lib.hid (HB1.out.trans (hes.below.mono HB1.out.size))
  have H5 := Lib.hid hes.five
  have hl2 : es.length ≤ 100000 := by have := hes.len; omega
  clear hes HRa HI HB1
  go_wp2_with (go_at_call 10; refine (names_calls w2).mono ?_)
  rintro e w3 ⟨g, rfl, _, hcell, hb⟩
  have HC := Lib.hid hcell
  have HR3 := Lib.hid (ReadsRow.imp_ HR2.out hb (fun _ _ h => h))
  have HB3 := Lib.hid (HB2.out.trans (hb.mono HB2.out.size))
  clear hcell hb HR2 HB2
  go_wp2_with (go_at_call 11; refine (pick5 one w3 H1.out).mono ?_)
  rintro e w4 ⟨i, rfl, hi, rfl⟩
  have hc := HC.out i hi
  have bi : (i : Int) < 5 := by omega
  have bi0 : (0 : Int) ≤ (i : Int) := by omega
  clear HC hi
  generalize nm i = a at *
  go_wp2_with (go_at_call 15; refine (reach_calls Ae ce es a w4 HR3.out hl2 (E5_size H5.out)).mono ?_)
  rintro e w5 ⟨v, ss, rfl, hv, hs1, hs2, hs3, hb⟩
  obtain ⟨As, cs, rfl, _, hCs⟩ := Kd.R_reads hv
  have hlss : ss.length ≤ 9223372036854775807 := hCs.2.1
  have h5ss : ∀ x ∈ ss, x ∈ five := by
    intro x hx
    obtain ⟨d, hd⟩ := (hs3 x).1 hx
    obtain ⟨e, he, rfl⟩ := walk_end hd
    obtain ⟨_, j, _, _, hj, _, rfl⟩ := H5.out e he
    exact nm_five hj
  obtain ⟨P, hP, hss⟩ := ss_eq hs1 hs2 h5ss
  have HR5 := Lib.hid (ReadsRow.imp_ HR3.out hb (fun _ _ h => h))
  have HB5 := Lib.hid (HB3.out.trans (hb.mono HB3.out.size))
  have HCs := Lib.hid hCs
  have HM := Lib.hid hs3
  have HP := Lib.hid hP
  have HSS := Lib.hid hss
  clear hv hs1 hs2 hs3 hb hCs h5ss hP hss HR3 HB3 hc
  go_wp2_with (go_at_call 10; refine (names_calls w5).mono ?_)
  rintro e w6 ⟨g6, rfl, _, hcell, hb⟩
  have HN6 := Lib.hid (fun W (h : Below w6.heap.size w6 W) r (hr : r < 5) => (h.cell (World.block_lt_of_cell? w6 _ (hcell r hr))).trans (hcell r hr))
  have HR6 := Lib.hid (fun W (h : Below w6.heap.size w6 W) => ReadsRow.imp_ (ReadsRow.imp_ HR5.out hb (fun _ _ h => h)) h (fun _ _ h => h))
  have HS6 := Lib.hid (fun W (h : Below w6.heap.size w6 W) => Kd.C_below (Kd.C_below HCs.out hb) h)
  have HB6 := Lib.hid (HB5.out.trans (hb.mono HB5.out.size))
  clear hcell hb HR5 HB5 HCs
  go_wp2
  go_loopw [11, 36] (fun kk ii wr => ∃ i : Nat, ii = .int .i64 i ∧ i ≤ 5 ∧ kk = .int .i64 (cnt P i) ∧ Below w6.heap.size w6 wr) (fun _ ii _ => 5 - (intOf ii).toNat)
  case atStart => exact ⟨0, rfl, by omega, rfl, Below.refl _ _⟩
  case round =>
    obtain ⟨n, rfl, hn, rfl, hbw⟩ := hrel
    by_cases hlt : n < 5
    · have hcn := HN6.out wr hbw n hlt
      have hcl := cnt_le HSS.out (i := n) (by omega)
      have hcs := cnt_succ P n
      have hpn := HP.out n hlt
      have hmm := HM.out (nm n)
      have hat := at_cnt HSS.out hlt
      have hadd : (0 : Nat) + n = n := Nat.zero_add n
      have b1 : (n : Int) < 5 := by omega
      have b2 : (0 : Int) ≤ (n : Int) := by omega
      have HAT := Lib.hid hat
      have HPN := Lib.hid hpn
      have HMM := Lib.hid hmm
      have HCS := Lib.hid hcs
      have HRr := Lib.hid (HR6.out wr hbw)
      have HBw := Lib.hid hbw
      clear hat hpn hmm hcs hbw hadd
      generalize nm n = y at *
      generalize cnt P n = c at *
      go_wp2_with (go_at_call 13; refine (dist_calls Ae ce es a y wr HRr.out hl2).mono ?_)
      rintro e w7 ⟨⟨x, ok⟩, rfl, hd, hb⟩
      have HB7 := Lib.hid (HBw.out.trans (hb.mono HBw.out.size))
      have hok : ok = P n := by
        cases ok with
        | true => exact (HPN.out.2 (HMM.out.2 ⟨_, hd.true_.1⟩)).symm
        | false =>
          cases hp : P n with
          | false => rfl
          | true =>
            obtain ⟨d, hw⟩ := HMM.out.1 (HPN.out.1 hp)
            exact absurd hw (hd.false_.2 d)
      subst hok
      clear hd hb
      cases hp : P n with
      | true =>
        obtain ⟨hlt2, hxe⟩ := HAT.out hp
        obtain ⟨ad, e, dx⟩ := strC_cell (HS6.out w7 HB7.out) hlt2
        rw [hxe] at dx
        have hcs : cnt P (n + 1) = c + 1 := by rw [HCS.out, hp]; rfl
        have HCS2 := Lib.hid hcs
        have b3 : (c : Int) < (ss.length : Int) := by omega
        have b4 : (0 : Int) ≤ (c : Int) := by omega
        have e1 : (y.toList == y.toList) = true := by simp
        have HP2 := Lib.hid hp
        have n1 : IntKind.i64.wrap ((c : Int) + 1) = (c : Int) + 1 := IntWalk.i64_in _ (by omega)
        clear hxe hcs hp hlt2
        subst e
        go_wp2
        go_roundw
        case rel => exact ⟨n + 1, by go_num, by omega, by rw [HCS2.out]; go_num, HB7.out⟩
        case measure => simp [intOf]; omega
      | false =>
        have hcs : cnt P (n + 1) = c := by rw [HCS.out, hp]; rfl
        have HCS2 := Lib.hid hcs
        have hny : y ∉ ss := fun h => by have := HPN.out.2 h; rw [hp] at this; cases this
        by_cases hlt2 : c < ss.length
        · obtain ⟨ad, e, dx⟩ := strC_cell (HS6.out w7 HB7.out) hlt2
          have hne : ss[c] ≠ y := fun h => hny (h ▸ List.getElem_mem hlt2)
          generalize ss[c] = x at *
          have e1 : (x.toList == y.toList) = false := by rw [beq_eq_false_iff_ne, ne_eq, str_eq]; exact hne
          have b3 : (c : Int) < (ss.length : Int) := by omega
          have b4 : (0 : Int) ≤ (c : Int) := by omega
          clear hne hny hcs hp hlt2
          subst e
          go_wp2
          go_roundw
          case rel => exact ⟨n + 1, by go_num, by omega, by rw [HCS2.out], HB7.out⟩
          case measure => simp [intOf]; omega
        · have b3 : ¬ ((c : Int) < (ss.length : Int)) := by omega
          clear hny hcs hp hlt2
          go_wp2
          go_roundw
          case rel => exact ⟨n + 1, by go_num, by omega, by rw [HCS2.out], HB7.out⟩
          case measure => simp [intOf]; omega
    · have hn5 : n = 5 := by omega
      subst hn5
      rw [cnt_all HSS.out]
      have HBw := Lib.hid hbw
      clear hlt hbw hn
      go_wp2
      go_loopw [17] (fun ii wr => ∃ i : Nat, ii = .int .i64 i ∧ i ≤ ss.length ∧ Below w6.heap.size w6 wr) (fun ii _ => ss.length - (intOf ii).toNat)
      case atStart => exact ⟨0, rfl, by omega, HBw.out⟩
      case round =>
        obtain ⟨n, rfl, hn, hbw⟩ := hrel
        by_cases hlt : n < ss.length
        · obtain ⟨ad, e, dx⟩ := strC_cell (HS6.out wr hbw) hlt
          have hx := (HM.out _).1 (List.getElem_mem hlt)
          have HX := Lib.hid hx
          have HRr := Lib.hid (HR6.out wr hbw)
          have HBw2 := Lib.hid hbw
          have b1 : (n : Int) < (ss.length : Int) := by omega
          have b2 : (0 : Int) ≤ (n : Int) := by omega
          clear hx hbw
          generalize ss[n] = x at *
          subst e
          go_wp2_with (go_at_call 15; refine (reach_calls Ae ce es x wr HRr.out hl2 (E5_size H5.out)).mono ?_)
          rintro e w7 ⟨v, nn, rfl, hv, _, _, hs3, hb⟩
          obtain ⟨An, cn, rfl, _, hCn⟩ := Kd.R_reads hv
          have hlnn : nn.length ≤ 9223372036854775807 := hCn.2.1
          have hall : ∀ y ∈ nn, y ∈ ss := by
            intro y hy
            obtain ⟨d1, hd1⟩ := (hs3 y).1 hy
            obtain ⟨d2, hd2⟩ := HX.out
            exact (HM.out y).2 ⟨_, hd2.trans hd1⟩
          have HALL := Lib.hid hall
          have HB7 := Lib.hid (HBw2.out.trans (hb.mono HBw2.out.size))
          have HN7 := Lib.hid (fun W (h : Below w7.heap.size w7 W) => Kd.C_below hCn h)
          have HS7 := Lib.hid (fun W (h : Below w7.heap.size w7 W) => HS6.out W (HB7.out.trans (h.mono HB7.out.size)))
          clear hv hs3 hb hCn hall
          go_wp2
          go_loopw [19] (fun jj wr => ∃ j : Nat, jj = .int .i64 j ∧ j ≤ nn.length ∧ Below w7.heap.size w7 wr) (fun jj _ => nn.length - (intOf jj).toNat)
          case atStart => exact ⟨0, rfl, by omega, Below.refl _ _⟩
          case round =>
            obtain ⟨j, rfl, hj, hbj⟩ := hrel
            by_cases hltj : j < nn.length
            · have hy := HALL.out _ (List.getElem_mem hltj)
              have HY := Lib.hid hy
              have HDY := Lib.hid (fun W (h : Below w7.heap.size w7 W) => strC_cell (HN7.out W h) hltj)
              have HBj := Lib.hid hbj
              have b3 : (j : Int) < (nn.length : Int) := by omega
              have b4 : (0 : Int) ≤ (j : Int) := by omega
              clear hy hbj
              generalize nn[j] = y at *
              go_wp2
              go_loopw [20, 21] (fun bb hh wr => ∃ (h : Nat) (b : Bool), hh = .int .i64 h ∧ bb = .bool b ∧ h ≤ ss.length ∧ (y ∈ ss.take h → b = true) ∧ Below w7.heap.size w7 wr) (fun _ hh _ => ss.length - (intOf hh).toNat)
              case atStart => exact ⟨0, false, rfl, rfl, by omega, by simp, HBj.out⟩
              case round =>
                obtain ⟨h, b, rfl, rfl, hh, htk, hbh⟩ := hrel
                by_cases hlth : h < ss.length
                · obtain ⟨ad1, e1, dm⟩ := strC_cell (HS7.out wr hbh) hlth
                  obtain ⟨ad2, e2, dy⟩ := HDY.out wr hbh
                  have htk2 : y ∈ ss.take (h + 1) → y ∈ ss.take h ∨ y = ss[h] := by
                    rw [List.take_succ_eq_append_getElem hlth, List.mem_append]
                    simp
                  have HTK := Lib.hid htk
                  have HTK2 := Lib.hid htk2
                  have HBh := Lib.hid hbh
                  clear htk htk2 hbh
                  generalize ss[h] = m at *
                  have b5 : (h : Int) < (ss.length : Int) := by omega
                  have b6 : (0 : Int) ≤ (h : Int) := by omega
                  subst e2
                  injection e1 with e1
                  subst e1
                  cases b with
                  | true =>
                    go_wp2
                    go_quiet (fail)
                    go_wp2
                    go_roundw
                    case rel => exact ⟨h + 1, true, by go_num, rfl, by omega, fun _ => rfl, pw_below_drewN HBh.out _⟩
                    case measure => simp [intOf]; omega
                  | false =>
                    by_cases he : m = y
                    · have e1 : (m.toList == y.toList) = true := by rw [beq_iff_eq, str_eq]; exact he
                      clear he
                      go_wp2
                      go_quiet (fail)
                      go_wp2
                      go_roundw
                      case rel => exact ⟨h + 1, true, by go_num, rfl, by omega, fun _ => rfl, pw_below_drewN HBh.out _⟩
                      case measure => simp [intOf]; omega
                    · have e1 : (m.toList == y.toList) = false := by rw [beq_eq_false_iff_ne, ne_eq, str_eq]; exact he
                      have HE := Lib.hid he
                      clear he
                      go_wp2
                      go_quiet (fail)
                      go_wp2
                      go_roundw
                      case rel =>
                        refine ⟨h + 1, false, by go_num, rfl, by omega, fun hy => ?_, pw_below_drewN HBh.out _⟩
                        rcases HTK2.out hy with h1 | h1
                        · exact HTK.out h1
                        · exact absurd h1.symm HE.out
                      case measure => simp [intOf]; omega
                · have hb1 : b = true := htk (by rw [List.take_of_length_le (by omega)]; exact HY.out)
                  subst hb1
                  have b5 : ¬ ((h : Int) < (ss.length : Int)) := by omega
                  have HBh := Lib.hid hbh
                  clear htk hbh hlth
                  go_wp2
                  go_roundw
                  case rel => exact ⟨j + 1, by go_num, by omega, HBh.out⟩
                  case measure => simp [intOf]; omega
            · have b3 : ¬ ((j : Int) < (nn.length : Int)) := by omega
              have HBj := Lib.hid (HB7.out.trans (hbj.mono HB7.out.size))
              clear hbj hltj
              go_wp2
              go_roundw
              case rel => exact ⟨n + 1, by go_num, by omega, HBj.out⟩
              case measure => simp [intOf]; omega
        · have b1 : ¬ ((n : Int) < (ss.length : Int)) := by omega
          have HBE := Lib.hid (HB6.out.trans (hbw.mono HB6.out.size))
          clear hbw hlt
          go_wp2
          go_ret
          exact ⟨rfl, HBE.out⟩
end Go.Proofs.Ytdnnlfdblfcajaa.Gr
