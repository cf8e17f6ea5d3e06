/- GraphLeast, walked. No conditions. -/
import Derived.Test.YtdnnlfdblfcajaaGrLeastP
namespace Go.Proofs.Ytdnnlfdblfcajaa.Gr
open Go.RowKit Go.Proofs.YtdnnlfdblfcajaaW.PrintWords
set_option maxHeartbeats 8000000 in
set_option maxRecDepth 100000 in
theorem least_calls (A : Option Addr) (cap : Nat) (ls : List (Int × Int × Int)) (both : Bool) (one two : Int) (w : World) (hr : ReadsRow RK 3 w A ls.length ls) (hi : ∀ x ∈ ls, InR x.1 ∧ InR x.2.1 ∧ InR x.2.2) (h1 : InR one) (h2 : InR two) :
    Calls Try.prog 3 #[.slice A ls.length cap, .bool both, .int .i64 one, .int .i64 two] w fun e w' => e = .returned (.bool true) ∧ Below w.heap.size w w' := by
  have HR := Lib.hid hr
  have HI := Lib.hid hi
  have H1 := Lib.hid h1
  have H2 := Lib.hid h2
  clear hr hi h1 h2
  go_enter Try.func3, Try.ntmps3
  go_wp2_with (go_at_call 8; refine (awake_calls w).mono ?_)
  rintro e w1 ⟨rfl, hb⟩
  have HRa := Lib.hid (ReadsRow.imp_ HR.out hb (fun _ _ h => h))
  have HB1 := Lib.hid hb
  clear hb HR
  go_wp2_with (go_at_call 9; refine (edges_is A cap ls both w1 HRa.out HI.out).mono ?_)
  rintro e w2 ⟨Ae, ce, es, rfl, hes⟩
  have HR2 := Lib.hid hes.reads
  have HB2 := Lib.hid (HB1.out.trans (hes.below.mono HB1.out.size))
  have H5 := Lib.hid hes.five
  have hl2 : es.length ≤ 100000 := by have := hes.len; omega
  clear hes HRa HI HB1
  go_wp2_with (go_at_call 10; refine (names_calls w2).mono ?_)
  rintro e w3 ⟨g, rfl, _, hcell, hb⟩
  have HC := Lib.hid hcell
  have HR3 := Lib.hid (ReadsRow.imp_ HR2.out hb (fun _ _ h => h))
  have HB3 := Lib.hid (HB2.out.trans (hb.mono HB2.out.size))
  clear hcell hb HR2 HB2
  go_wp2_with (go_at_call 11; refine (pick5 one w3 H1.out).mono ?_)
  rintro e w4 ⟨i, rfl, hi, rfl⟩
  have hc := HC.out i hi
  have HA := Lib.hid (nm_five hi)
  have bi : (i : Int) < 5 := by omega
  have bi0 : (0 : Int) ≤ (i : Int) := by omega
  clear HC hi
  generalize nm i = a at *
  go_wp2_with (go_at_call 10; refine (names_calls w4).mono ?_)
  rintro e w5 ⟨g5, rfl, _, hcell, hb⟩
  have HC := Lib.hid hcell
  have HR5 := Lib.hid (ReadsRow.imp_ HR3.out hb (fun _ _ h => h))
  have HB5 := Lib.hid (HB3.out.trans (hb.mono HB3.out.size))
  clear hcell hb HR3 HB3 hc
  go_wp2_with (go_at_call 11; refine (pick5 two w5 H2.out).mono ?_)
  rintro e w6 ⟨j, rfl, hj, rfl⟩
  have hc := HC.out j hj
  have bj : (j : Int) < 5 := by omega
  have bj0 : (0 : Int) ≤ (j : Int) := by omega
  clear HC hj
  generalize nm j = b at *
  by_cases hab : a = b
  · have e1 : (a.toList == b.toList) = true := by rw [beq_iff_eq, str_eq]; exact hab
    have hwl : wayList (tab es) a b = [] := by unfold wayList; rw [if_pos hab]
    have HWL := Lib.hid hwl
    clear hab hwl
    go_wp2_with (go_at_call 12; refine (ways_calls Ae ce es a b w6 HR5.out hl2 (E5_size H5.out)).mono ?_)
    rintro e w7 ⟨v, rfl, hv, hb⟩
    rw [HWL.out] at hv
    obtain ⟨Av, cv, rfl⟩ := Kd.R_slice hv
    have HB7 := Lib.hid (HB5.out.trans (hb.mono HB5.out.size))
    clear hv hb
    go_wp2
    go_ret
    exact ⟨rfl, HB7.out⟩
  have e1 : (a.toList == b.toList) = false := by rw [beq_eq_false_iff_ne, ne_eq, str_eq]; exact hab
  have HAB := Lib.hid hab
  clear hab
  go_wp2_with (go_at_call 13; refine (dist_calls Ae ce es a b w6 HR5.out hl2).mono ?_)
  rintro e w7 ⟨⟨d, ok⟩, rfl, hd, hb⟩
  have HR7 := Lib.hid (ReadsRow.imp_ HR5.out hb (fun _ _ h => h))
  have HB7 := Lib.hid (HB5.out.trans (hb.mono HB5.out.size))
  have HD := Lib.hid hd
  clear hd hb HR5 HB5 hc
  go_wp2_with (go_at_call 12; refine (ways_calls Ae ce es a b w7 HR7.out hl2 (E5_size H5.out)).mono ?_)
  rintro e w8 ⟨v, rfl, hv, hb⟩
  have hwok : ∀ p ∈ wayList (tab es) a b, ok = true ∧ WayOk es a b d p := fun p hp => way_ok H5.out HA.out HD.out hp
  have hleast : ok = true → ∃ p ∈ wayList (tab es) a b, (cost (best es) p).1 = d := by
    intro h
    subst h
    exact least_there H5.out HA.out HAB.out HD.out.true_
  have hzero : ok = false → d = 0 := by
    intro h
    subst h
    exact HD.out.false_.1
  generalize wayList (tab es) a b = ws at hv hwok hleast
  obtain ⟨Av, cv, rfl, _, hCv⟩ := Kd.R_reads hv
  have hlw : ws.length ≤ 9223372036854775807 := hCv.2.1
  have HWOK := Lib.hid hwok
  have HLEAST := Lib.hid hleast
  have HZERO := Lib.hid hzero
  have HCv := Lib.hid (fun W (h : Below w8.heap.size w8 W) => Kd.C_below hCv h)
  have HR8 := Lib.hid (fun W (h : Below w8.heap.size w8 W) => ReadsRow.imp_ (ReadsRow.imp_ HR7.out hb (fun _ _ h => h)) h (fun _ _ h => h))
  have HB8 := Lib.hid (HB7.out.trans (hb.mono HB7.out.size))
  clear hv hwok hleast hzero hb hCv HR7 HB7
  go_wp2
  go_loopw [16, 17] (fun tt ii wr => ∃ (n : Nat) (bt : Bool), ii = .int .i64 n ∧ tt = .bool bt ∧ n ≤ ws.length ∧ (bt = true ↔ ∃ p ∈ ws.take n, (cost (best es) p).1 = d) ∧ Below w8.heap.size w8 wr) (fun _ ii _ => ws.length - (intOf ii).toNat)
  case atStart => exact ⟨0, false, rfl, rfl, Nat.zero_le _, by simp, Below.refl _ _⟩
  case round =>
    obtain ⟨n, bt, rfl, rfl, hn, hbt, hbw⟩ := hrel
    by_cases hlt : n < ws.length
    · obtain ⟨hok, hway⟩ := HWOK.out _ (List.getElem_mem hlt)
      have HDW := Lib.hid (fun W (h : Below w8.heap.size w8 W) => rowC_cell (HCv.out W h) hlt)
      have hnext : (∃ p ∈ ws.take (n + 1), (cost (best es) p).1 = d) ↔ ((∃ p ∈ ws.take n, (cost (best es) p).1 = d) ∨ (cost (best es) ws[n]).1 = d) := by
        rw [List.take_succ_eq_append_getElem hlt]
        simp only [List.mem_append, List.mem_singleton]
        constructor
        · rintro ⟨p, hp | hp, h⟩
          · exact .inl ⟨p, hp, h⟩
          · subst hp; exact .inr h
        · rintro (⟨p, hp, h⟩ | h)
          · exact ⟨p, .inl hp, h⟩
          · exact ⟨_, .inr rfl, h⟩
      have HBT := Lib.hid hbt
      have HNX := Lib.hid hnext
      have HBW := Lib.hid hbw
      have HWAY := Lib.hid hway
      have HRr := Lib.hid (HR8.out wr hbw)
      have b1 : (n : Int) < (ws.length : Int) := by omega
      have b2 : (0 : Int) ≤ (n : Int) := by omega
      clear hnext hbt hway hok hbw
      generalize ws[n] = wy at *
      obtain ⟨ad, A2, c2, e, d1, hc2, hC2⟩ := HDW.out wr HBW.out
      subst e
      have hlwy : wy.length ≤ 9223372036854775807 := hC2.2.1
      have HC2 := Lib.hid hC2
      clear hC2
      go_wp2_with (go_at_call 14; refine (cost_calls Ae ce es A2 c2 wy wr HRr.out HC2.out).mono ?_)
      rintro e w9 ⟨rfl, hb⟩
      obtain ⟨kk, hk1, hk2⟩ := HWAY.out.cost
      have hk3 : (cost (best es) wy).1 = kk := by rw [hk1]
      rw [hk1]
      have HK3 := Lib.hid hk3
      have HB9 := Lib.hid (HBW.out.trans (hb.mono HBW.out.size))
      have HC9 := Lib.hid (fun W (h : Below w9.heap.size w9 W) => Kd.C_below (Kd.C_below HC2.out hb) h)
      have HD9 := Lib.hid (fun W (h : Below w9.heap.size w9 W) => (h.cell (p := ad.add n) (Nat.lt_of_lt_of_le (World.block_lt_of_cell? wr _ d1) hb.size)).trans ((hb.cell (World.block_lt_of_cell? wr _ d1)).trans d1))
      have hpos := HWAY.out.pos
      obtain ⟨ad2, e, dz⟩ := strC_cell (HC9.out w9 (Below.refl _ _)) hpos
      subst e
      have dz0 : w9.cell? ad2 = some (.string a) := by
        have h1 := HWAY.out.first
        rw [List.getElem?_eq_getElem hpos] at h1
        injection h1 with h1
        rw [h1] at dz
        simpa [Addr.add] using dz
      have dzl : w9.cell? (ad2.add (wy.length - 1)) = some (.string b) := by
        obtain ⟨ad3, e, dl⟩ := strC_cell (HC9.out w9 (Below.refl _ _)) (show wy.length - 1 < wy.length by omega)
        injection e with e
        subst e
        have h1 := HWAY.out.last
        rw [List.getLast?_eq_getElem?, List.getElem?_eq_getElem (by omega)] at h1
        injection h1 with h1
        rw [h1] at dl
        exact dl
      have d9 := HD9.out w9 (Below.refl _ _)
      have n1 : (wy.length : Int) - 1 = ((wy.length - 1 : Nat) : Int) := by omega
      have n2 : (0 : Int) ≤ ((wy.length - 1 : Nat) : Int) := by omega
      have n3 : ((wy.length - 1 : Nat) : Int) < (wy.length : Int) := by omega
      have n4 : IntKind.i64.wrap ((wy.length : Int) - 1) = ((wy.length - 1 : Nat) : Int) := by rw [n1]; exact IntWalk.i64_in _ (by omega)
      have n5 : (0 : Int) < (wy.length : Int) := by omega
      have n6 : ¬ (kk < d) := by omega
      have n9 : IntKind.i64.wrap ((wy.length - 1 : Nat) : Int) = ((wy.length - 1 : Nat) : Int) := IntWalk.i64_in _ (by omega)
      have n10 : wy.length - 1 < wy.length := by omega
      have n7 : wy ≠ [] := fun h => by rw [h] at hpos; cases hpos
      have n8 : decide ((0 : Int) < (wy.length : Int)) = true := decide_eq_true n5
      clear hk1 hk2 hk3 hb d1 dz
      cases bt with
      | true =>
        have HB2 := Lib.hid (show true = true ↔ ∃ p ∈ ws.take (n + 1), (cost (best es) p).1 = d from ⟨fun _ => HNX.out.2 (.inl (HBT.out.1 rfl)), fun _ => rfl⟩)
        clear HBT HNX
        go_wp2
        go_quiet (fail)
        go_wp2
        go_loopw [20] (fun qq wr => ∃ q : Nat, qq = .int .i64 q ∧ q ≤ wy.length ∧ Below w9.heap.size w9 wr) (fun qq _ => wy.length - (intOf qq).toNat)
        case atStart => exact ⟨0, rfl, Nat.zero_le _, pw_below_drewN (Below.refl _ _) _⟩
        case round =>
          obtain ⟨q, rfl, hq, hbq⟩ := hrel
          have dq := HD9.out wr hbq
          by_cases hltq : q < wy.length
          · have bq : (q : Int) < (wy.length : Int) := by omega
            have bq0 : (0 : Int) ≤ (q : Int) := by omega
            have HBq := Lib.hid hbq
            have HQ := Lib.hid hltq
            clear hbq hltq
            go_wp2
            go_loopw [21] (fun jj wr => ∃ j : Nat, jj = .int .i64 j ∧ j ≤ q ∧ Below w9.heap.size w9 wr) (fun jj _ => q - (intOf jj).toNat)
            case atStart => exact ⟨0, rfl, Nat.zero_le _, HBq.out⟩
            case round =>
              obtain ⟨j2, rfl, hj2, hbj⟩ := hrel
              by_cases hltj : j2 < q
              · have dq2 := HD9.out wr hbj
                obtain ⟨ad3, e, da⟩ := strC_cell (HC9.out wr hbj) (show j2 < wy.length by have := HQ.out; omega)
                injection e with e
                subst e
                obtain ⟨ad4, e, db⟩ := strC_cell (HC9.out wr hbj) HQ.out
                injection e with e
                subst e
                have hne2 := List.pairwise_iff_getElem.1 HWAY.out.nodup j2 q (by have := HQ.out; omega) HQ.out hltj
                generalize wy[j2]'(by have := HQ.out; omega) = sa at *
                generalize wy[q]'HQ.out = sb at *
                have ee : (sa.toList == sb.toList) = false := by rw [beq_eq_false_iff_ne, ne_eq, str_eq]; exact hne2
                have bj2 : (j2 : Int) < (q : Int) := by omega
                have bj3 : (j2 : Int) < (wy.length : Int) := by omega
                have bj4 : (0 : Int) ≤ (j2 : Int) := by omega
                have HBj := Lib.hid hbj
                clear hne2 hbj
                go_wp2
                go_quiet (fail)
                go_wp2
                go_roundw
                case rel => exact ⟨j2 + 1, by go_num, by omega, pw_below_drewN HBj.out _⟩
                case measure => simp [intOf]; omega
              · have bj2 : ¬ ((j2 : Int) < (q : Int)) := by omega
                have HBj := Lib.hid hbj
                clear hbj hltj
                go_wp2
                go_roundw
                case rel => exact ⟨q + 1, by go_num, by have := HQ.out; omega, HBj.out⟩
                case measure => simp [intOf]; omega
          · have bq : ¬ ((q : Int) < (wy.length : Int)) := by omega
            have HBe := Lib.hid (HB9.out.trans (hbq.mono HB9.out.size))
            clear hbq hltq
            go_wp2
            go_roundw
            case rel => exact ⟨n + 1, true, by go_num, rfl, by omega, by simpa using HB2.out, HBe.out⟩
            case measure => simp [intOf]; omega
      | false =>
        by_cases hkd : kk = d
        · have HB2 := Lib.hid (show true = true ↔ ∃ p ∈ ws.take (n + 1), (cost (best es) p).1 = d from ⟨fun _ => HNX.out.2 (.inr (HK3.out.trans hkd)), fun _ => rfl⟩)
          have ekd : (kk == d) = true := by rw [beq_iff_eq]; exact hkd
          clear HBT HNX hkd
          go_wp2
          go_quiet (fail)
          go_wp2
          go_loopw [20] (fun qq wr => ∃ q : Nat, qq = .int .i64 q ∧ q ≤ wy.length ∧ Below w9.heap.size w9 wr) (fun qq _ => wy.length - (intOf qq).toNat)
          case atStart => exact ⟨0, rfl, Nat.zero_le _, pw_below_drewN (Below.refl _ _) _⟩
          case round =>
            obtain ⟨q, rfl, hq, hbq⟩ := hrel
            have dq := HD9.out wr hbq
            by_cases hltq : q < wy.length
            · have bq : (q : Int) < (wy.length : Int) := by omega
              have bq0 : (0 : Int) ≤ (q : Int) := by omega
              have HBq := Lib.hid hbq
              have HQ := Lib.hid hltq
              clear hbq hltq
              go_wp2
              go_loopw [21] (fun jj wr => ∃ j : Nat, jj = .int .i64 j ∧ j ≤ q ∧ Below w9.heap.size w9 wr) (fun jj _ => q - (intOf jj).toNat)
              case atStart => exact ⟨0, rfl, Nat.zero_le _, HBq.out⟩
              case round =>
                obtain ⟨j2, rfl, hj2, hbj⟩ := hrel
                by_cases hltj : j2 < q
                · have dq2 := HD9.out wr hbj
                  obtain ⟨ad3, e, da⟩ := strC_cell (HC9.out wr hbj) (show j2 < wy.length by have := HQ.out; omega)
                  injection e with e
                  subst e
                  obtain ⟨ad4, e, db⟩ := strC_cell (HC9.out wr hbj) HQ.out
                  injection e with e
                  subst e
                  have hne2 := List.pairwise_iff_getElem.1 HWAY.out.nodup j2 q (by have := HQ.out; omega) HQ.out hltj
                  generalize wy[j2]'(by have := HQ.out; omega) = sa at *
                  generalize wy[q]'HQ.out = sb at *
                  have ee : (sa.toList == sb.toList) = false := by rw [beq_eq_false_iff_ne, ne_eq, str_eq]; exact hne2
                  have bj2 : (j2 : Int) < (q : Int) := by omega
                  have bj3 : (j2 : Int) < (wy.length : Int) := by omega
                  have bj4 : (0 : Int) ≤ (j2 : Int) := by omega
                  have HBj := Lib.hid hbj
                  clear hne2 hbj
                  go_wp2
                  go_quiet (fail)
                  go_wp2
                  go_roundw
                  case rel => exact ⟨j2 + 1, by go_num, by omega, pw_below_drewN HBj.out _⟩
                  case measure => simp [intOf]; omega
                · have bj2 : ¬ ((j2 : Int) < (q : Int)) := by omega
                  have HBj := Lib.hid hbj
                  clear hbj hltj
                  go_wp2
                  go_roundw
                  case rel => exact ⟨q + 1, by go_num, by have := HQ.out; omega, HBj.out⟩
                  case measure => simp [intOf]; omega
            · have bq : ¬ ((q : Int) < (wy.length : Int)) := by omega
              have HBe := Lib.hid (HB9.out.trans (hbq.mono HB9.out.size))
              clear hbq hltq
              go_wp2
              go_roundw
              case rel => exact ⟨n + 1, true, by go_num, rfl, by omega, by simpa using HB2.out, HBe.out⟩
              case measure => simp [intOf]; omega
        · have HB2 := Lib.hid (show false = true ↔ ∃ p ∈ ws.take (n + 1), (cost (best es) p).1 = d from ⟨fun h => (by cases h), fun h => (by
            rcases HNX.out.1 h with h | h
            · exact HBT.out.2 h
            · exact absurd (HK3.out.symm.trans h) hkd)⟩)
          have ekd : (kk == d) = false := by rw [beq_eq_false_iff_ne]; exact hkd
          clear HBT HNX hkd
          go_wp2
          go_quiet (fail)
          go_wp2
          go_loopw [20] (fun qq wr => ∃ q : Nat, qq = .int .i64 q ∧ q ≤ wy.length ∧ Below w9.heap.size w9 wr) (fun qq _ => wy.length - (intOf qq).toNat)
          case atStart => exact ⟨0, rfl, Nat.zero_le _, pw_below_drewN (Below.refl _ _) _⟩
          case round =>
            obtain ⟨q, rfl, hq, hbq⟩ := hrel
            have dq := HD9.out wr hbq
            by_cases hltq : q < wy.length
            · have bq : (q : Int) < (wy.length : Int) := by omega
              have bq0 : (0 : Int) ≤ (q : Int) := by omega
              have HBq := Lib.hid hbq
              have HQ := Lib.hid hltq
              clear hbq hltq
              go_wp2
              go_loopw [21] (fun jj wr => ∃ j : Nat, jj = .int .i64 j ∧ j ≤ q ∧ Below w9.heap.size w9 wr) (fun jj _ => q - (intOf jj).toNat)
              case atStart => exact ⟨0, rfl, Nat.zero_le _, HBq.out⟩
              case round =>
                obtain ⟨j2, rfl, hj2, hbj⟩ := hrel
                by_cases hltj : j2 < q
                · have dq2 := HD9.out wr hbj
                  obtain ⟨ad3, e, da⟩ := strC_cell (HC9.out wr hbj) (show j2 < wy.length by have := HQ.out; omega)
                  injection e with e
                  subst e
                  obtain ⟨ad4, e, db⟩ := strC_cell (HC9.out wr hbj) HQ.out
                  injection e with e
                  subst e
                  have hne2 := List.pairwise_iff_getElem.1 HWAY.out.nodup j2 q (by have := HQ.out; omega) HQ.out hltj
                  generalize wy[j2]'(by have := HQ.out; omega) = sa at *
                  generalize wy[q]'HQ.out = sb at *
                  have ee : (sa.toList == sb.toList) = false := by rw [beq_eq_false_iff_ne, ne_eq, str_eq]; exact hne2
                  have bj2 : (j2 : Int) < (q : Int) := by omega
                  have bj3 : (j2 : Int) < (wy.length : Int) := by omega
                  have bj4 : (0 : Int) ≤ (j2 : Int) := by omega
                  have HBj := Lib.hid hbj
                  clear hne2 hbj
                  go_wp2
                  go_quiet (fail)
                  go_wp2
                  go_roundw
                  case rel => exact ⟨j2 + 1, by go_num, by omega, pw_below_drewN HBj.out _⟩
                  case measure => simp [intOf]; omega
                · have bj2 : ¬ ((j2 : Int) < (q : Int)) := by omega
                  have HBj := Lib.hid hbj
                  clear hbj hltj
                  go_wp2
                  go_roundw
                  case rel => exact ⟨q + 1, by go_num, by have := HQ.out; omega, HBj.out⟩
                  case measure => simp [intOf]; omega
            · have bq : ¬ ((q : Int) < (wy.length : Int)) := by omega
              have HBe := Lib.hid (HB9.out.trans (hbq.mono HB9.out.size))
              clear hbq hltq
              go_wp2
              go_roundw
              case rel => exact ⟨n + 1, false, by go_num, rfl, by omega, by simpa using HB2.out, HBe.out⟩
              case measure => simp [intOf]; omega
    · have hnl : n = ws.length := by omega
      rw [hnl, List.take_length] at hbt
      have b1 : ¬ ((n : Int) < (ws.length : Int)) := by omega
      have HBe := Lib.hid (HB8.out.trans (hbw.mono HB8.out.size))
      cases ok with
      | true =>
        obtain ⟨p, hp, hpc⟩ := HLEAST.out rfl
        have hbt1 : bt = true := hbt.2 ⟨p, hp, hpc⟩
        subst hbt1
        have hpos : 0 < ws.length := by
          cases ws with
          | nil => cases hp
          | cons _ _ => simp
        have hz1 : (0 : Int) < (ws.length : Int) := by omega
        have hz2 : ws ≠ [] := fun h => by rw [h] at hpos; cases hpos
        have hz3 : decide ((0 : Int) < (ws.length : Int)) = true := decide_eq_true hz1
        clear hbt hbw hlt hp hpc
        go_wp2
        go_ret
        exact ⟨rfl, HBe.out⟩
      | false =>
        have hws : ws = [] := by
          cases ws with
          | nil => rfl
          | cons p r => have := (HWOK.out p (by simp)).1; cases this
        have hd0 := HZERO.out rfl
        have hbt0 : bt = false := by
          cases bt with
          | false => rfl
          | true =>
            obtain ⟨p, hp, _⟩ := hbt.1 rfl
            rw [hws] at hp
            cases hp
        subst hbt0
        subst hd0
        subst hws
        clear hbt hbw hlt
        go_wp2
        go_ret
        exact ⟨rfl, HBe.out⟩
end Go.Proofs.Ytdnnlfdblfcajaa.Gr
