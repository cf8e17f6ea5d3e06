/- GraphTurned, walked. No conditions. -/
import Derived.Test.YtdnnlfdblfcajaaGrTurnP
namespace Go.Proofs.Ytdnnlfdblfcajaa.Gr
open Go.RowKit Go.Proofs.YtdnnlfdblfcajaaW.PrintWords
theorem ed_cells {w : World} {A : Option Addr} {n : Nat} {ls : List Ed} (h : ReadsRow EK 3 w A n ls) {k : Nat} (hk : k < ls.length) :
    ∃ ad, A = some ad ∧ w.cell? (ad.add (k * 3)) = some (.string ls[k].A) ∧ w.cell? ⟨(ad.add (k * 3)).block, (ad.add (k * 3)).off + 1, none⟩ = some (.string ls[k].B) ∧ w.cell? ⟨(ad.add (k * 3)).block, (ad.add (k * 3)).off + 2, none⟩ = some (.int .i64 ls[k].c) := by
  obtain ⟨ad, hA, hcell⟩ := h.2.2 (by have := h.1; omega)
  obtain ⟨c1, hc1, e1, hc2⟩ := hcell k _ (List.getElem?_eq_getElem hk)
  subst e1
  exact ⟨ad, hA, hc2 0 _ rfl, by rw [← add_add _ _ 1 (by omega)]; exact hc2 1 _ rfl, by rw [← add_add _ _ 2 (by omega)]; exact hc2 2 _ rfl⟩
theorem pick1000 (c : Int) (w : World) (h : InR c) : Calls Try.prog 11 #[.int .i64 c, .int .i64 1000] w fun e w' => ∃ r : Nat, e = .returned (.int .i64 r) ∧ r < 1000 ∧ w' = w := pick_calls c 1000 w h.1 h.2 (by omega) (by omega)
theorem dist_at (A : Option Addr) (cap n : Nat) (l : List Ed) (hn : l.length = n) (a b : ByteArray) (w : World) (hr : ReadsRow EK 3 w A l.length l) (hl : l.length ≤ 100000) :
    Calls Try.prog 13 #[.slice A n cap, .string a, .string b] w fun e w' => ∃ r : Int × Bool, e = .returned (.tuple #[.int .i64 r.1, .bool r.2]) ∧ DistIs (best l) a b r ∧ Below w.heap.size w w' := hn ▸ dist_calls A cap l a b w hr hl
set_option maxHeartbeats 8000000 in
set_option maxRecDepth 100000 in
theorem turned_calls (A : Option Addr) (cap : Nat) (ls : List (Int × Int × Int)) (one two times : Int) (w : World) (hr : ReadsRow RK 3 w A ls.length ls) (hi : ∀ x ∈ ls, InR x.1 ∧ InR x.2.1 ∧ InR x.2.2) (h1 : InR one) (h2 : InR two) (h3 : InR times) :
    Calls Try.prog 7 #[.slice A ls.length cap, .int .i64 one, .int .i64 two, .int .i64 times] w fun e w' => e = .returned (.bool true) ∧ Below w.heap.size w w' := by
  have HR := Lib.hid hr
  have HI := Lib.hid hi
  have H1 := Lib.hid h1
  have H2 := Lib.hid h2
  have H3 := Lib.hid h3
  clear hr hi h1 h2 h3
  go_enter Try.func7, Try.ntmps7
  go_wp2_with (go_at_call 8; refine (awake_calls w).mono ?_)
  rintro e w1 ⟨rfl, hb⟩
  have HRa := Lib.hid (ReadsRow.imp_ HR.out hb (fun _ _ h => h))
  have HB1 := Lib.hid hb
  clear hb HR
  go_wp2_with (go_at_call 9; refine (edges_is A cap ls false w1 HRa.out HI.out).mono ?_)
  rintro e w2 ⟨Ae, ce, es, rfl, hes⟩
  have HR2 := Lib.hid hes.reads
  have HB2 := Lib.hid (HB1.out.trans (hes.below.mono HB1.out.size))
  have H5 := Lib.hid hes.five
  have hl2 : es.length ≤ 24 := hes.len
  clear hes HRa HI HB1
  go_wp2_with (go_at_call 11; refine (pick1000 times w2 H3.out).mono ?_)
  rintro e w3 ⟨r, rfl, hr, rfl⟩
  have n1 : IntKind.i64.wrap (1 + (r : Int)) = 1 + (r : Int) := IntWalk.i64_in _ (by omega)
  have hn : (1 : Int) ≤ 1 + (r : Int) ∧ 1 + (r : Int) ≤ 1000 := by omega
  have HNN := Lib.hid hn
  clear hn hr
  generalize hq : 1 + (r : Int) = n at n1 HNN
  go_wp2
  go_loopw [12, 13, 14] (fun vf vg ii wr => ∃ (k : Nat), ii = .int .i64 k ∧ k ≤ es.length ∧ Two wr w3.heap.size vf vg ((es.take k).map swp) ((es.take k).map (scl n)) ∧ Below w3.heap.size w3 wr) (fun _ _ ii _ => es.length - (intOf ii).toNat)
  case atStart => exact ⟨0, rfl, Nat.zero_le _, ⟨Kd.R_nil _ _ _ _ _, Kd.R_nil _ _ _ _ _, fun k hk => by simp [Value.ownBlock] at hk⟩, Below.refl _ _⟩
  case round =>
    obtain ⟨k, rfl, hk, hTwo, hbw⟩ := hrel
    by_cases hlt : k < es.length
    · obtain ⟨ad, rfl, d1, d2, d3⟩ := ed_cells HR2.out hlt
      have hek := H5.out _ (List.getElem_mem hlt)
      have hc6 : 0 ≤ es[k].c ∧ es[k].c ≤ 6 := by
        obtain ⟨i, j, l, _, _, hl, he⟩ := hek
        rw [he]
        exact ⟨by simp, by simp; omega⟩
      have hmul : 0 ≤ es[k].c * n ∧ es[k].c * n ≤ 6000 := by
        have h1 : es[k].c * n ≤ 6 * 1000 := Int.mul_le_mul hc6.2 HNN.out.2 (by have := HNN.out.1; omega) (by omega)
        have h2 : 0 ≤ es[k].c * n := Int.mul_nonneg hc6.1 (by have := HNN.out.1; omega)
        omega
      have n2 : IntKind.i64.wrap (es[k].c * n) = es[k].c * n := IntWalk.i64_in _ (by omega)
      have ht1 : (es.take (k + 1)).map swp = (es.take k).map swp ++ [⟨es[k].B, es[k].A, es[k].c⟩] := by
        rw [List.take_succ_eq_append_getElem hlt, List.map_append]
        rfl
      have ht2 : (es.take (k + 1)).map (scl n) = (es.take k).map (scl n) ++ [⟨es[k].A, es[k].B, es[k].c * n⟩] := by
        rw [List.take_succ_eq_append_getElem hlt, List.map_append]
        rfl
      have HT1 := Lib.hid ht1
      have HT2 := Lib.hid ht2
      have HTwo := Lib.hid hTwo
      have HBw := Lib.hid hbw
      have hlf : ((es.take k).map swp).length ≤ 100000 := by simp; omega
      have hlg : ((es.take k).map (scl n)).length ≤ 100000 := by simp; omega
      have HLF := Lib.hid hlf
      have HLG := Lib.hid hlg
      have hD : ∀ W, Below w3.heap.size w3 W → W.cell? (ad.add (k * 3)) = some (.string es[k].A) ∧ W.cell? ⟨(ad.add (k * 3)).block, (ad.add (k * 3)).off + 1, none⟩ = some (.string es[k].B) ∧ W.cell? ⟨(ad.add (k * 3)).block, (ad.add (k * 3)).off + 2, none⟩ = some (.int .i64 es[k].c) := fun W h =>
        ⟨(h.cell (World.block_lt_of_cell? w3 _ d1)).trans d1, (h.cell (World.block_lt_of_cell? w3 _ d2)).trans d2, (h.cell (World.block_lt_of_cell? w3 _ d3)).trans d3⟩
      have HD := Lib.hid hD
      have b1 : (k : Int) < (es.length : Int) := by omega
      have b2 : (0 : Int) ≤ (k : Int) := by omega
      clear hek hc6 hmul ht1 ht2 hTwo hbw hlf hlg hD d1 d2 d3
      generalize es[k].A = sa at *
      generalize es[k].B = sb at *
      generalize es[k].c = sc at *
      generalize (es.take k).map swp = fs at *
      generalize (es.take k).map (scl n) = gs at *
      have HBd := Lib.hid (HBw.out.drew)
      have HSd := Lib.hid (show w3.heap.size ≤ wr.drew.heap.size from HBw.out.size)
      have HTd := Lib.hid (HTwo.out.drew)
      have HRf := Lib.hid (Kd.R_base HTwo.out.f)
      go_wp2
      go_region_held3 (fun W => W.cell? (ad.add (k * 3)) = some (.string sa) ∧ W.cell? ⟨(ad.add (k * 3)).block, (ad.add (k * 3)).off + 1, none⟩ = some (.string sb) ∧ W.cell? ⟨(ad.add (k * 3)).block, (ad.add (k * 3)).off + 2, none⟩ = some (.int .i64 sc)) (first | (exact HD.out _ (HBd.out.grown q2 HSd.out HRf.out)) | (exact HD.out _ HBd.out) | (exact HD.out _ (HBd.out.alloc HSd.out _))) (first | (refine step_append_ED (by rfl) _ _ (by rfl) w3.heap.size _ fs ⟨sb, sa, sc⟩ (by rfl) (by rfl) HTd.out.f HSd.out HLF.out ?_; intro v8 w8 q1 q2 q3))
      have HB8 := Lib.hid (HBd.out.grown q2 HSd.out HRf.out)
      have HT8 := Lib.hid (HTd.out.grow q1 q2 q3)
      have HB8d := Lib.hid (HB8.out.drew)
      have HS8d := Lib.hid (show w3.heap.size ≤ w8.drew.heap.size from HB8.out.size)
      have HT8d := Lib.hid (HT8.out.drew)
      have HRg := Lib.hid (Kd.R_base HT8.out.g)
      clear q1 q2 q3
      go_wp2
      go_region_held3 (fun W => W.cell? (ad.add (k * 3)) = some (.string sa) ∧ W.cell? ⟨(ad.add (k * 3)).block, (ad.add (k * 3)).off + 1, none⟩ = some (.string sb) ∧ W.cell? ⟨(ad.add (k * 3)).block, (ad.add (k * 3)).off + 2, none⟩ = some (.int .i64 sc)) (first | (exact HD.out _ (HB8d.out.grown q2 HS8d.out HRg.out)) | (exact HD.out _ HB8d.out) | (exact HD.out _ (HB8d.out.alloc HS8d.out _))) (first | (refine step_append_ED (by rfl) _ _ (by rfl) w3.heap.size _ gs ⟨sa, sb, sc * n⟩ (by rfl) (by rfl) HT8d.out.g HS8d.out HLG.out ?_; intro v9 w9 q1 q2 q3))
      have HB9 := Lib.hid (HB8d.out.grown q2 HS8d.out HRg.out)
      have HT9 := Lib.hid ((HT8d.out.flip.grow q1 q2 q3).flip)
      clear q1 q2 q3
      go_wp2
      go_roundw
      case rel => exact ⟨k + 1, by go_num, by omega, by rw [HT1.out, HT2.out]; exact HT9.out, HB9.out⟩
      case measure => simp [intOf]; omega
    · have hk2 : k = es.length := by omega
      subst hk2
      rw [List.take_length] at hTwo
      obtain ⟨Af, cf, rfl, _, hCf⟩ := Kd.R_reads hTwo.f
      obtain ⟨Ag, cg, rfl, _, hCg⟩ := Kd.R_reads hTwo.g
      have HFr := Lib.hid (KE_C hCf)
      have HGr := Lib.hid (KE_C hCg)
      have HEr := Lib.hid (ReadsRow.imp_ HR2.out hbw (fun _ _ h => h))
      have HBw := Lib.hid (HB2.out.trans (hbw.mono HB2.out.size))
      have hlf : (es.map swp).length ≤ 100000 := by simp; omega
      have hlg : (es.map (scl n)).length ≤ 100000 := by simp; omega
      have hl : es.length ≤ 100000 := by omega
      have hlt' : ¬ ((es.length : Int) < (es.length : Int)) := by omega
      have HLF := Lib.hid hlf
      have HLG := Lib.hid hlg
      have HEf := Lib.hid (show (es.map swp).length = es.length by simp)
      have HEg := Lib.hid (show (es.map (scl n)).length = es.length by simp)
      clear hTwo hCf hCg hbw hlt hk HR2 HB2 hlf hlg
      go_wp2_with (go_at_call 10; refine (names_calls wr).mono ?_)
      rintro e w4 g4 rfl _ hcell hb
      have HC := Lib.hid hcell
      have HE4 := Lib.hid (ReadsRow.imp_ HEr.out hb (fun _ _ h => h))
      have HF4 := Lib.hid (ReadsRow.imp_ HFr.out hb (fun _ _ h => h))
      have HG4 := Lib.hid (ReadsRow.imp_ HGr.out hb (fun _ _ h => h))
      have HB4 := Lib.hid (HBw.out.trans (hb.mono HBw.out.size))
      clear hcell hb HEr HFr HGr HBw
      go_wp2_with (go_at_call 11; refine (pick5 one w4 H1.out).mono ?_)
      rintro e w5 ⟨i, rfl, hi, rfl⟩
      have hc := HC.out i hi
      have HA := Lib.hid (nm_five hi)
      have bi : (i : Int) < 5 := by omega
      have bi0 : (0 : Int) ≤ (i : Int) := by omega
      clear HC hi
      generalize nm i = a at *
      go_wp2_with (go_at_call 10; refine (names_calls w5).mono ?_)
      rintro e w6 ⟨g6, rfl, _, hcell, hb⟩
      have HC := Lib.hid hcell
      have HE6 := Lib.hid (ReadsRow.imp_ HE4.out hb (fun _ _ h => h))
      have HF6 := Lib.hid (ReadsRow.imp_ HF4.out hb (fun _ _ h => h))
      have HG6 := Lib.hid (ReadsRow.imp_ HG4.out hb (fun _ _ h => h))
      have HB6 := Lib.hid (HB4.out.trans (hb.mono HB4.out.size))
      clear hcell hb HE4 HF4 HG4 HB4 hc
      go_wp2_with (go_at_call 11; refine (pick5 two w6 H2.out).mono ?_)
      rintro e w7 ⟨j, rfl, hj, rfl⟩
      have hc := HC.out j hj
      have bj : (j : Int) < 5 := by omega
      have bj0 : (0 : Int) ≤ (j : Int) := by omega
      clear HC hj
      generalize nm j = b at *
      go_wp2_with (go_at_call 13; refine (dist_calls Ae ce es a b w7 HE6.out hl).mono ?_)
      rintro e w8 ⟨r1, rfl, hd1, hb⟩
      have HF8 := Lib.hid (ReadsRow.imp_ HF6.out hb (fun _ _ h => h))
      have HG8 := Lib.hid (ReadsRow.imp_ HG6.out hb (fun _ _ h => h))
      have HB8 := Lib.hid (HB6.out.trans (hb.mono HB6.out.size))
      have D1 := Lib.hid hd1
      clear hb hd1 HE6 HF6 HG6 HB6 hc
      go_wp2_with (go_at_call 13; refine (dist_at Af cf es.length (es.map swp) HEf.out b a w8 HF8.out HLF.out).mono ?_)
      rintro e w9 ⟨r2, rfl, hd2, hb⟩
      have HG9 := Lib.hid (ReadsRow.imp_ HG8.out hb (fun _ _ h => h))
      have HB9 := Lib.hid (HB8.out.trans (hb.mono HB8.out.size))
      obtain rfl := dist_swp D1.out hd2
      clear hb hd2 HF8 HG8 HB8
      go_wp2_with (go_at_call 13; refine (dist_at Ag cg es.length (es.map (scl n)) HEg.out a b w9 HG9.out HLG.out).mono ?_)
      rintro e w10 ⟨r3, rfl, hd3, hb⟩
      have HB10 := Lib.hid (HB9.out.trans (hb.mono HB9.out.size))
      obtain rfl := dist_scl HNN.out.1 HNN.out.2 H5.out D1.out hd3
      have hx : 0 ≤ r2.1 ∧ r2.1 ≤ 30 := by
        obtain ⟨x, p⟩ := r2
        cases p with
        | true => have := dist_le H5.out HA.out D1.out.true_; exact ⟨by show 0 ≤ x; omega, this.2⟩
        | false => have := D1.out.false_.1; subst this; exact ⟨Int.le_refl _, by decide⟩
      have hmul : 0 ≤ r2.1 * n ∧ r2.1 * n ≤ 30000 := by
        have h1 : r2.1 * n ≤ 30 * 1000 := Int.mul_le_mul hx.2 HNN.out.2 (by have := HNN.out.1; omega) (by omega)
        have h2 : 0 ≤ r2.1 * n := Int.mul_nonneg hx.1 (by have := HNN.out.1; omega)
        omega
      have n3 : IntKind.i64.wrap (r2.1 * n) = r2.1 * n := IntWalk.i64_in _ (by omega)
      clear hb hd3 HG9 HB9 hx hmul D1
      obtain ⟨x, p⟩ := r2
      dsimp only at n3 ⊢
      go_wp2
      go_ret
      exact ⟨by simp, HB10.out⟩
end Go.Proofs.Ytdnnlfdblfcajaa.Gr
