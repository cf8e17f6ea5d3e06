/- GraphMore, walked. No conditions. -/
import Derived.Test.YtdnnlfdblfcajaaGrTurn
namespace Go.Proofs.Ytdnnlfdblfcajaa.Gr
open Go.RowKit Go.Proofs.YtdnnlfdblfcajaaW.PrintWords
def noE : List Ed := [⟨nm 0, nm 0, 1⟩, ⟨nm 0, nm 1, 0⟩, ⟨nm 1, nm 2, -1⟩]
theorem best_no (es : List Ed) : best (es ++ noE) = best es := by
  funext a b
  unfold best
  rw [List.foldl_append]
  have h : ∀ o, noE.foldl (bestStep a b) o = o := by
    intro o
    have hs : ∀ (e : Ed), e ∈ noE → ∀ o, bestStep a b o e = o := by
      intro e he o
      unfold bestStep
      rw [if_neg]
      rintro ⟨h1, _⟩
      rw [counts_iff] at h1
      simp only [noE, List.mem_cons, List.not_mem_nil, or_false] at he
      rcases he with rfl | rfl | rfl
      · exact h1.1 rfl
      · exact absurd h1.2.1 (by decide)
      · exact absurd h1.2.1 (by decide)
    simp only [noE, List.foldl_cons, List.foldl_nil]
    rw [hs _ (by simp [noE]), hs _ (by simp [noE]), hs _ (by simp [noE])]
  exact h _
theorem walk_more {es es2 : List Ed} {a b : ByteArray} {d : Int} (h : Walk (best es) a b d) : ∃ y, Walk (best (es ++ es2)) a b y ∧ y ≤ d :=
  h.mono (fun _ _ _ hc => best_mono (fun e he hc => ⟨e, List.mem_append_left _ he, hc, rfl, rfl, Int.le_refl _⟩) hc)
theorem EK_M {w : World} {base : Nat} {ok : Nat → Prop} (e : Ed) (cs : List Value) (h : EK e cs) : KE.M w base ok e cs := by
  unfold EK at h
  subst h
  exact KE_M _ _ _ _
section
variable {ops : Array Oper} {o : Oper} {a : Act} {W : World} {rest : List Oper} {K : Act → World → Prop} {Q : Exit → Act → World → Prop}
theorem wpList_append_EDs (hgd : o.guard = none) (s x : Operand) (ho : o.op = .call { callee := .builtin .append, args := #[s, x], argTypes := #[24, 24] }) (base : Nat) (v : Value) (xs ys : List Ed) (A : Option Addr) (m c : Nat)
    (hs : a.eval s = v) (hx : a.eval x = .slice A m c) (HO : KE.R 40 W base (fun _ => True) v xs) (HR : ReadsRow EK 3 W A m ys) (hbase : base ≤ W.heap.size) (hl : xs.length + m ≤ 100000)
    (h : ∀ v1 w1, KE.R 40 w1 base (fun _ => True) v1 (xs ++ ys) → W.grownBy w1 v.ownBlock → (v1.ownBlock = v.ownBlock ∨ ∃ b, v1.ownBlock = some b ∧ W.heap.size ≤ b) → wpList Try.prog ops Q rest (a.put o.dst v1) w1) :
    wpList Try.prog ops Q (o :: rest) a W := by
  refine Kd.R_append_rows (Rr := EK) KE (w0 := W) base hgd s x 24 40 (.agg #[.string ⟨#[]⟩, .string ⟨#[]⟩, .int .i64 0]) 40 ho Try.underlying24 rfl rfl (by decide) (by omega) v xs ys A m c (fun _ => True) (fun k => some k ≠ v.ownBlock) hs hx HO HR (fun e cs h => EK_M e cs h) (fun k hk => ⟨trivial, hk⟩) (fun _ _ => trivial) (Below.refl _ _) hbase (by omega) ?_
  intro v1 w1 h1 _ h2 h3
  exact h v1 w1 h1 h2 h3
theorem step_append_EDs (hgd : o.guard = none) (s x : Operand) (ho : o.op = .call { callee := .builtin .append, args := #[s, x], argTypes := #[24, 24] }) (base : Nat) (v : Value) (xs ys : List Ed) (A : Option Addr) (m c : Nat)
    (hs : a.eval s = v) (hx : a.eval x = .slice A m c) (HO : KE.R 40 W base (fun _ => True) v xs) (HR : ReadsRow EK 3 W A m ys) (hbase : base ≤ W.heap.size) (hl : xs.length + m ≤ 100000)
    (h : ∀ v1 w1, KE.R 40 w1 base (fun _ => True) v1 (xs ++ ys) → W.grownBy w1 v.ownBlock → (v1.ownBlock = v.ownBlock ∨ ∃ b, v1.ownBlock = some b ∧ W.heap.size ≤ b) → K (a.put o.dst v1) w1) :
    if Region.wanted o (yielded ops a.tmps) = true then Oper.wp Try.prog o a W K Q else K (a.put o.dst undef) W := by
  refine Kd.R_append_rows_step (Rr := EK) KE (w0 := W) base (by simp [Region.wanted, hgd]) s x 24 40 (.agg #[.string ⟨#[]⟩, .string ⟨#[]⟩, .int .i64 0]) 40 ho Try.underlying24 rfl rfl (by decide) (by omega) v xs ys A m c (fun _ => True) (fun k => some k ≠ v.ownBlock) hs hx HO HR (fun e cs h => EK_M e cs h) (fun k hk => ⟨trivial, hk⟩) (fun _ _ => trivial) (Below.refl _ _) hbase (by omega) ?_
  intro v1 w1 h1 _ h2 h3
  exact h v1 w1 h1 h2 h3
end
theorem raw_new (w : World) (x y z : Int) : ReadsRow RK 3 (w.alloc (.cells #[.int .i64 x, .int .i64 y, .int .i64 z] 38 (0, 0))) (some ⟨w.heap.size, 0, none⟩) [(x, y, z)].length [(x, y, z)] := by
  refine ⟨rfl, by simp, fun _ => ⟨_, rfl, fun j p hj => ?_⟩⟩
  obtain rfl : j = 0 := by have := (List.getElem?_eq_some_iff.1 hj).1; simp at this; omega
  simp at hj
  subst hj
  refine ⟨[.int .i64 x, .int .i64 y, .int .i64 z], rfl, rfl, fun i u hi => ?_⟩
  rw [Addr.add_lit, Nat.zero_add, Nat.zero_mul, Nat.zero_add, blk_cell (blk_new w _) i]
  simpa using hi
theorem edges_at (A : Option Addr) (cap n : Nat) (ls : List (Int × Int × Int)) (hn : ls.length = n) (both : Bool) (w : World) (hr : ReadsRow RK 3 w A ls.length ls) (hi : ∀ x ∈ ls, InR x.1 ∧ InR x.2.1 ∧ InR x.2.2) :
    Calls Try.prog 9 #[.slice A n cap, .bool both] w fun e w' => ∃ A c es, e = .returned (.slice A es.length c) ∧ EdgesIs w both A c es w' := hn ▸ edges_is A cap ls both w hr hi
theorem noE_new (w : World) : ReadsRow EK 3 (w.alloc (.cells #[.string ⟨#[97]⟩, .string ⟨#[97]⟩, .int .i64 1, .string ⟨#[97]⟩, .string ⟨#[98]⟩, .int .i64 0, .string ⟨#[98]⟩, .string ⟨#[99]⟩, .int .i64 (-1)] 40 (0, 0))) (some ⟨w.heap.size, 0, none⟩) 3 noE := by
  refine ⟨rfl, by decide, fun _ => ⟨_, rfl, fun j p hj => ?_⟩⟩
  refine ⟨[.string p.A, .string p.B, .int .i64 p.c], rfl, rfl, fun i u hi => ?_⟩
  have hi3 : i < 3 := by have := (List.getElem?_eq_some_iff.1 hi).1; simpa using this
  have hj3 : j < 3 := by have := (List.getElem?_eq_some_iff.1 hj).1; simpa [noE] using this
  rw [Addr.add_lit, Nat.zero_add, blk_cell (blk_new w _) (j * 3 + i)]
  match j, hj3, i, hi3 with
  | 0, _, 0, _ | 0, _, 1, _ | 0, _, 2, _ | 1, _, 0, _ | 1, _, 1, _ | 1, _, 2, _ | 2, _, 0, _ | 2, _, 1, _ | 2, _, 2, _ =>
    simp [noE] at hj
    subst hj
    simpa [nm] using hi
set_option maxHeartbeats 8000000 in
set_option maxRecDepth 100000 in
theorem more_calls (A : Option Addr) (cap : Nat) (ls : List (Int × Int × Int)) (x y z : Int) (one two : Int) (w : World) (hr : ReadsRow RK 3 w A ls.length ls) (hi : ∀ x ∈ ls, InR x.1 ∧ InR x.2.1 ∧ InR x.2.2) (hx : InR x) (hy : InR y) (hz : InR z) (h1 : InR one) (h2 : InR two) :
    Calls Try.prog 6 #[.slice A ls.length cap, .agg #[.int .i64 x, .int .i64 y, .int .i64 z], .int .i64 one, .int .i64 two] w fun e w' => e = .returned (.bool true) ∧ Below w.heap.size w w' := by
  have hbox := blk_new w (.cells #[.int .i64 x, .int .i64 y, .int .i64 z] 38 (0, 0))
  have hb0 : Below w.heap.size w (w.alloc (.cells #[.int .i64 x, .int .i64 y, .int .i64 z] 38 (0, 0))) := below_alloc (Below.refl _ _) _
  have HR := Lib.hid (ReadsRow.imp_ hr hb0 (fun _ _ h => h))
  have HBX := Lib.hid hbox
  have HB0 := Lib.hid hb0
  have HI := Lib.hid hi
  have H1 := Lib.hid h1
  have H2 := Lib.hid h2
  have HXYZ := Lib.hid (show ∀ p ∈ [(x, y, z)], InR p.1 ∧ InR p.2.1 ∧ InR p.2.2 by intro p hp; rw [List.mem_singleton.1 hp]; exact ⟨hx, hy, hz⟩)
  clear hr hi hx hy hz h1 h2 hbox hb0
  go_enter Try.func6, Try.ntmps6
  go_wp2_with (go_at_call 8; refine (awake_calls _).mono ?_)
  rintro e w1 ⟨rfl, hb⟩
  have HRa := Lib.hid (ReadsRow.imp_ HR.out hb (fun _ _ h => h))
  have HB1 := Lib.hid (HB0.out.trans (hb.mono HB0.out.size))
  have HX1 := Lib.hid (blk_below HBX.out hb)
  clear hb HR HB0 HBX
  go_wp2_with (go_at_call 9; refine (edges_is A cap ls false w1 HRa.out HI.out).mono ?_)
  rintro e w2 ⟨Ae, ce, es, rfl, hes⟩
  have HR2 := Lib.hid hes.reads
  have HB2 := Lib.hid (HB1.out.trans (hes.below.mono HB1.out.size))
  have HX2 := Lib.hid (blk_below HX1.out hes.below)
  have H5 := Lib.hid hes.five
  have hl2 : es.length ≤ 24 := hes.len
  clear hes HRa HI HB1 HX1
  have hD : ∀ W, Below w2.heap.size w2 W → W.cell? ⟨w.heap.size, 0, none⟩ = some (.int .i64 x) ∧ W.cell? ⟨w.heap.size, 1, none⟩ = some (.int .i64 y) ∧ W.cell? ⟨w.heap.size, 2, none⟩ = some (.int .i64 z) := by
    intro W h
    have := blk_below HX2.out h
    exact ⟨blk_cell this 0, blk_cell this 1, blk_cell this 2⟩
  have HD := Lib.hid hD
  have HBd := Lib.hid ((Below.refl w2.heap.size w2).drew)
  have HES := Lib.hid (fun W (h : Below w2.heap.size w2 W) => ReadsRow.imp_ HR2.out h (fun _ _ h => h))
  have HRB := Lib.hid (fun w8 (h : Below (w2.drew.alloc (.cells #[.int .i64 x, .int .i64 y, .int .i64 z] 38 (0, 0))).heap.size (w2.drew.alloc (.cells #[.int .i64 x, .int .i64 y, .int .i64 z] 38 (0, 0))) w8) => ReadsRow.imp_ (raw_new w2.drew x y z) h (fun _ _ h => h))
  clear hD
  go_wp2
  go_region_held3 (fun W => W.cell? ⟨w.heap.size, 0, none⟩ = some (.int .i64 x) ∧ W.cell? ⟨w.heap.size, 1, none⟩ = some (.int .i64 y) ∧ W.cell? ⟨w.heap.size, 2, none⟩ = some (.int .i64 z)) (first | (exact HD.out _ HB10) | (exact HD.out _ HB9) | (exact HD.out _ HB8) | (exact HD.out _ (HB8.alloc HB8.size _)) | (exact HD.out _ (HBd.out.alloc (Nat.le_refl _) _)) | (exact HD.out _ HBd.out)) (first | (go_at_call 9; refine (edges_at (some ⟨_, 0, none⟩) 1 1 [(x, y, z)] rfl false _ (by first | exact raw_new _ x y z | exact HRB.out _ ((Below.refl _ _).grown q2 (Nat.le_refl _) (by intro k hk; simp [Value.ownBlock] at hk))) HXYZ.out).mono ?_; rintro e w9 ⟨A9, c9, es2, rfl, hes2⟩; have HB89 : Below w8.heap.size w8 w9 := (by first | exact hes2.below | exact (below_alloc (Below.refl _ _) _).trans (hes2.below.mono (by simp))); have HB9 : Below w2.heap.size w2 w9 := HB8.trans (HB89.mono HB8.size)) | (have hg9 := HB9; refine step_append_EDs (by rfl) _ _ (by rfl) w2.heap.size v8 ([] ++ es) es2 A9 es2.length c9 (by rfl) (by rfl) (Kd.R_below q1 HB89) hes2.reads hg9.size (by have := hes2.len; simp; omega) ?_; intro v10 w10 p1 p2 p3; have HB10 : Below w2.heap.size w2 w10 := hg9.grown p2 hg9.size (Kd.R_base q1)) | (refine step_append_EDs (by rfl) _ _ (by rfl) w2.heap.size (.slice none 0 0) [] es Ae es.length ce (by rfl) (by rfl) (Kd.R_nil _ _ _ _ _) (by first | exact HES.out _ HBd.out | exact HES.out _ (HBd.out.alloc (Nat.le_refl _) _)) (by first | exact Nat.le_refl _ | (simp; done)) (by simp; omega) ?_; intro v8 w8 q1 q2 q3; have HB8 : Below w2.heap.size w2 w8 := (by first | exact HBd.out.grown q2 (Nat.le_refl _) (by intro k hk; simp [Value.ownBlock] at hk) | exact (HBd.out.alloc (Nat.le_refl _) _).grown q2 (by simp) (by intro k hk; simp [Value.ownBlock] at hk))))
  all_goals
    have hRf : ∃ (Af : Option Addr) (nf cf : Nat), v10 = .slice Af nf cf ∧ (es ++ es2).length = nf ∧ ReadsRow EK 3 w10 Af (es ++ es2).length (es ++ es2) := by
      obtain ⟨Af, cf, h1, _, h2⟩ := Kd.R_reads p1
      rw [List.nil_append] at h1 h2
      exact ⟨Af, _, cf, h1, rfl, KE_C h2⟩
    obtain ⟨Af, nf, cf, rfl, hnf, hrf⟩ := hRf
    have HNF := Lib.hid hnf
    have HRF := Lib.hid hrf
    have HBt := Lib.hid HB10
    have HWt := Lib.hid (HB2.out.trans (HB10.mono HB2.out.size))
    have HL2 := Lib.hid hes2.len
    have HL0 := Lib.hid (show ([] : List Ed).length + es.length ≤ 100000 by simp; omega)
    have HL3 := Lib.hid (show ([] ++ es : List Ed).length + 3 ≤ 100000 by simp; omega)
    have HEa := Lib.hid (HES.out _ HB10)
    clear hnf hrf p1 p2 p3 q1 q2 q3 hes2 HB8 HB89 HB9 HB10 HBd HRB HD HX2 HR2
    go_wp2_with (at_builtin; refine wpList_append_EDs rfl _ _ rfl w10.heap.size (.slice none 0 0) [] es Ae es.length ce rfl rfl (Kd.R_nil _ _ _ _ _) HEa.out (Nat.le_refl _) HL0.out ?_)
    intro v11 w11 q1 q2 q3
    have hb11 : Below w10.heap.size w10 w11 := (Below.refl _ _).grown q2 (Nat.le_refl _) (by intro k hk; simp [Value.ownBlock] at hk)
    have HQ1 := Lib.hid (Kd.R_alloc q1 (.cells #[.string ⟨#[97]⟩, .string ⟨#[97]⟩, .int .i64 1, .string ⟨#[97]⟩, .string ⟨#[98]⟩, .int .i64 0, .string ⟨#[98]⟩, .string ⟨#[99]⟩, .int .i64 (-1)] 40 (0, 0)))
    have HN11 := Lib.hid (noE_new w11)
    have HB11 := Lib.hid (hb11.alloc hb11.size (.cells #[.string ⟨#[97]⟩, .string ⟨#[97]⟩, .int .i64 1, .string ⟨#[97]⟩, .string ⟨#[98]⟩, .int .i64 0, .string ⟨#[98]⟩, .string ⟨#[99]⟩, .int .i64 (-1)] 40 (0, 0)))
    clear q1 q2 q3 hb11
    go_wp2_with (at_builtin; refine wpList_append_EDs rfl _ _ rfl w10.heap.size v11 ([] ++ es) noE (some ⟨w11.heap.size, 0, none⟩) 3 3 rfl rfl HQ1.out HN11.out HB11.out.size HL3.out ?_)
    intro v12 w12 p1 p2 p3
    have hb12 : Below w10.heap.size w10 w12 := HB11.out.grown p2 HB11.out.size (Kd.R_base HQ1.out)
    have hRg : ∃ (Ag : Option Addr) (ng cg : Nat), v12 = .slice Ag ng cg ∧ (es ++ noE).length = ng ∧ ReadsRow EK 3 w12 Ag (es ++ noE).length (es ++ noE) := by
      obtain ⟨Ag, cg, h1, _, h2⟩ := Kd.R_reads p1
      exact ⟨Ag, _, cg, h1, rfl, KE_C h2⟩
    obtain ⟨Ag, ng, cg, rfl, hng, hrg⟩ := hRg
    have HNG := Lib.hid hng
    have HE := Lib.hid (ReadsRow.imp_ HEa.out hb12 (fun _ _ h => h))
    have HF := Lib.hid (ReadsRow.imp_ HRF.out hb12 (fun _ _ h => h))
    have HG := Lib.hid hrg
    have HW := Lib.hid (HWt.out.trans (hb12.mono HWt.out.size))
    have hl : es.length ≤ 100000 := by omega
    have HLF := Lib.hid (show (es ++ es2).length ≤ 100000 by have := HL2.out; simp; omega)
    have HLG := Lib.hid (show (es ++ noE).length ≤ 100000 by simp [noE]; omega)
    clear hng hrg p1 p2 p3 hb12 HQ1 HN11 HB11 HEa HRF HWt HBt HES
    go_wp2_with (go_at_call 10; refine (names_calls w12).mono ?_)
    rintro e w4 ⟨g4, rfl, _, hcell, hb⟩
    have HC := Lib.hid hcell
    have HE4 := Lib.hid (ReadsRow.imp_ HE.out hb (fun _ _ h => h))
    have HF4 := Lib.hid (ReadsRow.imp_ HF.out hb (fun _ _ h => h))
    have HG4 := Lib.hid (ReadsRow.imp_ HG.out hb (fun _ _ h => h))
    have HB4 := Lib.hid (HW.out.trans (hb.mono HW.out.size))
    clear hcell hb HE HF HG HW
    go_wp2_with (go_at_call 11; refine (pick5 one w4 H1.out).mono ?_)
    rintro e w5 ⟨i, rfl, hi, rfl⟩
    have hc := HC.out i hi
    have bi : (i : Int) < 5 := by omega
    have bi0 : (0 : Int) ≤ (i : Int) := by omega
    clear HC hi
    generalize nm i = a at *
    go_wp2_with (go_at_call 10; refine (names_calls w5).mono ?_)
    rintro e w6 ⟨g6, rfl, _, hcell, hb⟩
    have HC := Lib.hid hcell
    have HE6 := Lib.hid (ReadsRow.imp_ HE4.out hb (fun _ _ h => h))
    have HF6 := Lib.hid (ReadsRow.imp_ HF4.out hb (fun _ _ h => h))
    have HG6 := Lib.hid (ReadsRow.imp_ HG4.out hb (fun _ _ h => h))
    have HB6 := Lib.hid (HB4.out.trans (hb.mono HB4.out.size))
    clear hcell hb HE4 HF4 HG4 HB4 hc
    go_wp2_with (go_at_call 11; refine (pick5 two w6 H2.out).mono ?_)
    rintro e w7 ⟨j, rfl, hj, rfl⟩
    have hc := HC.out j hj
    have bj : (j : Int) < 5 := by omega
    have bj0 : (0 : Int) ≤ (j : Int) := by omega
    clear HC hj
    generalize nm j = b at *
    go_wp2_with (go_at_call 13; refine (dist_calls Ae ce es a b w7 HE6.out hl).mono ?_)
    rintro e w13 ⟨r1, rfl, hd1, hb⟩
    have HF8 := Lib.hid (ReadsRow.imp_ HF6.out hb (fun _ _ h => h))
    have HG8 := Lib.hid (ReadsRow.imp_ HG6.out hb (fun _ _ h => h))
    have HB8 := Lib.hid (HB6.out.trans (hb.mono HB6.out.size))
    have D1 := Lib.hid hd1
    clear hb hd1 HE6 HF6 HG6 HB6 hc
    go_wp2_with (go_at_call 13; refine (dist_at Af cf nf (es ++ es2) HNF.out a b w13 HF8.out HLF.out).mono ?_)
    rintro e w14 ⟨r2, rfl, hd2, hb⟩
    have HG9 := Lib.hid (ReadsRow.imp_ HG8.out hb (fun _ _ h => h))
    have HB9 := Lib.hid (HB8.out.trans (hb.mono HB8.out.size))
    have D2 := Lib.hid hd2
    clear hb hd2 HF8 HG8 HB8
    go_wp2_with (go_at_call 13; refine (dist_at Ag cg ng (es ++ noE) HNG.out a b w14 HG9.out HLG.out).mono ?_)
    rintro e w15 ⟨r3, rfl, hd3, hb⟩
    have HB10 := Lib.hid (HB9.out.trans (hb.mono HB9.out.size))
    rw [best_no] at hd3
    obtain rfl := hd3.unique D1.out
    clear hb hd3 HG9 HB9
    obtain ⟨x1, p⟩ := r3
    obtain ⟨x2, q⟩ := r2
    cases p with
    | false =>
      clear D1 D2
      go_wp2
      go_ret
      exact ⟨rfl, HB10.out⟩
    | true =>
      obtain ⟨y1, hw, hle⟩ := walk_more (es2 := es2) D1.out.true_.1
      obtain ⟨h3, h4⟩ := D2.out.of_walk hw
      dsimp only at h3 h4
      subst h3
      have hle2 : x2 ≤ x1 := by omega
      clear D1 D2 hw hle h4
      go_wp2
      go_ret
      exact ⟨rfl, HB10.out⟩
end Go.Proofs.Ytdnnlfdblfcajaa.Gr
