/- The law's edges out of raw numbers. No conditions. -/
import Derived.Test.YtdnnlfdblfcajaaGrFive
namespace Go.Proofs.Ytdnnlfdblfcajaa.Gr
open Go.RowKit Go.Proofs.YtdnnlfdblfcajaaW.PrintWords
/-- an edge, by its three cells -/
def KE : Kd Ed := Kd.iso (Kd.pair Kd.string (Kd.pair Kd.string (Kd.int .i64))) (fun e => (e.A, e.B, e.c))
theorem KE_K {w : World} {e : Ed} {cs : List Value} (h : KE.K w e cs) : EK e cs := by
  obtain ⟨c0, c1, rfl, h0, d0, d1, rfl, h1, h2⟩ := h
  simp only [Kd.string, Kd.int, Kd.scalar] at h0 h1 h2
  subst h0 h1 h2
  rfl
theorem KE_C {w : World} {A : Option Addr} {n : Nat} {es : List Ed} (h : KE.C w A n es) : ReadsRow EK 3 w A n es := ReadsRow.imp_ h (Below.refl _ _) (fun _ _ h => KE_K h)
theorem KE_M (w : World) (base : Nat) (ok : Nat → Prop) (e : Ed) : KE.M w base ok e [.string e.A, .string e.B, .int .i64 e.c] := ⟨[.string e.A], [.string e.B, .int .i64 e.c], rfl, rfl, [.string e.B], [.int .i64 e.c], rfl, rfl, rfl⟩
section
variable {ops : Array Oper} {o : Oper} {a : Act} {W : World} {rest : List Oper} {Q : Exit → Act → World → Prop}
theorem wpList_append_ED (hgd : o.guard = none) (s x : Operand) (ho : o.op = .call { callee := .builtin .append, args := #[s, x], argTypes := #[24, 24] }) (base : Nat) (v : Value) (xs : List Ed) (p : Ed)
    (hs : a.eval s = v) (hx : a.eval x = .slice (some ⟨W.heap.size, 0, none⟩) 1 1) (HO : KE.R 40 W base (fun _ => True) v xs) (hbase : base ≤ W.heap.size) (hl : xs.length ≤ 100000)
    (h : ∀ v1 w1, KE.R 40 w1 base (fun _ => True) v1 (xs ++ [p]) → W.grownBy w1 v.ownBlock → (v1.ownBlock = v.ownBlock ∨ ∃ b, v1.ownBlock = some b ∧ W.heap.size ≤ b) → wpList Try.prog ops Q rest (a.put o.dst v1) w1) :
    wpList Try.prog ops Q (o :: rest) a (W.alloc (.cells #[.string p.A, .string p.B, .int .i64 p.c] 40)) := by
  refine Kd.R_append (w0 := W) KE base hgd s x 24 40 (.agg #[.string ⟨#[]⟩, .string ⟨#[]⟩, .int .i64 0]) 40 ho Try.underlying24 rfl rfl (by decide) (by omega) v xs p [.string p.A, .string p.B, .int .i64 p.c] (fun _ => True) (fun k => some k ≠ v.ownBlock) hs hx (KE_M _ _ _ _) (fun k hk => ⟨trivial, hk⟩) (fun _ _ => trivial) HO (Below.refl _ _) hbase (by omega) ?_
  intro v1 w1 h1 _ h2 h3
  exact h v1 w1 h1 h2 h3
end
/-- a raw edge, by its three cells -/
def RK (x : Int × Int × Int) (cs : List Value) : Prop := cs = [.int .i64 x.1, .int .i64 x.2.1, .int .i64 x.2.2]
def InR (x : Int) : Prop := -9223372036854775808 ≤ x ∧ x ≤ 9223372036854775807
theorem add_add (ad : Addr) (m j : Nat) (hj : 0 < j) : ad.add (m + j) = ⟨(ad.add m).block, (ad.add m).off + j, none⟩ := by
  unfold Addr.add
  rw [if_neg (by omega)]
  split
  · rename_i h; subst h; simp
  · simp; omega
theorem raw_cells {w : World} {A : Option Addr} {n : Nat} {ls : List (Int × Int × Int)} (h : ReadsRow RK 3 w A n ls) {k : Nat} (hk : k < ls.length) :
    ∃ ad, A = some ad ∧ w.cell? (ad.add (k * 3)) = some (.int .i64 ls[k].1) ∧ w.cell? ⟨(ad.add (k * 3)).block, (ad.add (k * 3)).off + 1, none⟩ = some (.int .i64 ls[k].2.1) ∧ w.cell? ⟨(ad.add (k * 3)).block, (ad.add (k * 3)).off + 2, none⟩ = some (.int .i64 ls[k].2.2) := by
  obtain ⟨ad, hA, hcell⟩ := h.2.2 (by have := h.1; omega)
  obtain ⟨c1, hc1, e1, hc2⟩ := hcell k _ (List.getElem?_eq_getElem hk)
  subst e1
  exact ⟨ad, hA, hc2 0 _ rfl, by rw [← add_add _ _ 1 (by omega)]; exact hc2 1 _ rfl, by rw [← add_add _ _ 2 (by omega)]; exact hc2 2 _ rfl⟩
set_option maxHeartbeats 2000000 in
set_option maxRecDepth 100000 in
theorem names_exact (w : World) : Calls Try.prog 10 #[] w fun e w' => e = .returned (.slice (some ⟨w.heap.size, 0, none⟩) 5 5) ∧ w' = w.alloc (.cells #[.string ⟨#[97]⟩, .string ⟨#[98]⟩, .string ⟨#[99]⟩, .string ⟨#[100]⟩, .string ⟨#[101]⟩] 9 (0, 0)) := by
  go_enter Try.func10, Try.ntmps10
  go_wp2
  go_ret
  exact ⟨rfl, rfl⟩
theorem nm_at (r : Nat) (h : r < 5) : (#[.string ⟨#[97]⟩, .string ⟨#[98]⟩, .string ⟨#[99]⟩, .string ⟨#[100]⟩, .string ⟨#[101]⟩] : Array Value)[r]? = some (.string (nm r)) := by
  match r, h with
  | 0, _ | 1, _ | 2, _ | 3, _ | 4, _ => rfl
theorem pick5 (c : Int) (w : World) (h : InR c) : Calls Try.prog 11 #[.int .i64 c, .int .i64 5] w fun e w' => ∃ r : Nat, e = .returned (.int .i64 r) ∧ r < 5 ∧ w' = w := pick_calls c 5 w h.1 h.2 (by omega) (by omega)
theorem pick7 (c : Int) (w : World) (h : InR c) : Calls Try.prog 11 #[.int .i64 c, .int .i64 7] w fun e w' => ∃ r : Nat, e = .returned (.int .i64 r) ∧ r < 7 ∧ w' = w := pick_calls c 7 w h.1 h.2 (by omega) (by omega)
theorem phases (j : Nat) (hj : j < 26) (A : Array Edge) (hA : A.toList.drop 3 = (List.range 26).map fun j => ⟨j, .phase⟩) : (⟨j, .phase⟩ : Edge) ∈ A := by
  have h1 : (⟨j, .phase⟩ : Edge) ∈ A.toList.drop 3 := by
    rw [hA]
    exact List.mem_map.2 ⟨j, List.mem_range.2 hj, rfl⟩
  exact Array.mem_toList_iff.1 (List.mem_of_mem_drop h1)
/-- an edge among five nodes -/
def E5 (e : Ed) : Prop := ∃ i j k, i < 5 ∧ j < 5 ∧ k < 7 ∧ e = ⟨nm i, nm j, ((k : Nat) : Int)⟩
set_option maxHeartbeats 8000000 in
set_option maxRecDepth 100000 in
theorem edges_calls (A : Option Addr) (cap : Nat) (ls : List (Int × Int × Int)) (both : Bool) (w : World) (hr : ReadsRow RK 3 w A ls.length ls) (hi : ∀ x ∈ ls, InR x.1 ∧ InR x.2.1 ∧ InR x.2.2) :
    Calls Try.prog 9 #[.slice A ls.length cap, .bool both] w fun e w' => ∃ v es, e = .returned v ∧ KE.R 40 w' w.heap.size (fun _ => True) v es ∧ es.length ≤ 24 ∧ (∀ e ∈ es, E5 e) ∧ (both = true → ∀ e ∈ es, (⟨e.B, e.A, e.c⟩ : Ed) ∈ es) ∧ Below w.heap.size w w' := by
  have hlen : ls.length ≤ 9223372036854775807 := hr.2.1
  have HR := Lib.hid hr
  have HI := Lib.hid hi
  clear hr hi
  go_enter Try.func9, Try.ntmps9
  go_wp2
  go_loopw [5, 6, 7] (fun out i _e wr => ∃ (k : Nat) (es : List Ed), i = .int .i64 k ∧ k ≤ ls.length ∧ k ≤ 12 ∧ KE.R 40 wr w.heap.size (fun _ => True) out es ∧ es.length ≤ 2 * k ∧ (∀ e ∈ es, E5 e) ∧ (both = true → ∀ e ∈ es, (⟨e.B, e.A, e.c⟩ : Ed) ∈ es) ∧ Below w.heap.size w wr) (fun _ i _ _ => ls.length - (intOf i).toNat)
  case atStart => exact ⟨0, [], rfl, Nat.zero_le _, Nat.zero_le _, Kd.R_nil _ _ _ _ _, by simp, by simp, by simp, Below.refl _ _⟩
  case round =>
    obtain ⟨k, es, rfl, hk, hk12, hrow, hes, h5, hsym, hb⟩ := hrel
    by_cases hlt : k < ls.length ∧ k < 12
    · obtain ⟨hlt, h12⟩ := hlt
      obtain ⟨ad, rfl, d1, d2, d3⟩ := raw_cells (ReadsRow.imp_ HR.out hb (fun _ _ h => h)) hlt
      have hi1 := HI.out _ (List.getElem_mem hlt)
      have HI1 := Lib.hid hi1
      have HROW := Lib.hid hrow
      have H5 := Lib.hid h5
      have HSYM := Lib.hid hsym
      have HB := Lib.hid hb
      clear hi1 hrow h5 hsym hb HR HI
      generalize ls[k].1 = x1 at *
      generalize ls[k].2.1 = x2 at *
      generalize ls[k].2.2 = x3 at *
      have b1 : (k : Int) < (ls.length : Int) := by omega
      have b2 : (k : Int) < 12 := by omega
      have b3 : (0 : Int) ≤ (k : Int) := by omega
      have hD1 : ∀ w', Below wr.heap.size wr w' → w'.cell? (ad.add (k * 3)) = some (.int .i64 x1) := fun w' h => (h.cell (World.block_lt_of_cell? wr _ d1)).trans d1
      have hD2 : ∀ w', Below wr.heap.size wr w' → w'.cell? ⟨(ad.add (k * 3)).block, (ad.add (k * 3)).off + 1, none⟩ = some (.int .i64 x2) := fun w' h => (h.cell (World.block_lt_of_cell? wr _ d2)).trans d2
      have hD3 : ∀ w', Below wr.heap.size wr w' → w'.cell? ⟨(ad.add (k * 3)).block, (ad.add (k * 3)).off + 2, none⟩ = some (.int .i64 x3) := fun w' h => (h.cell (World.block_lt_of_cell? wr _ d3)).trans d3
      have D1 := Lib.hid hD1
      have D2 := Lib.hid hD2
      have D3 := Lib.hid hD3
      have P1 := Lib.hid (fun W => pick5 x1 W HI1.out.1)
      have P2 := Lib.hid (fun W => pick5 x2 W HI1.out.2.1)
      have P3 := Lib.hid (fun W => pick7 x3 W HI1.out.2.2)
      clear hD1 hD2 hD3 d1 d2 d3 HI1
      go_wp2
      refine wp_region_inv (by kernel_rfl) (RegInv (fun U : Nat → Value => ({ tmps := #[.slice (some ad) ls.length cap, .bool both, undef, undef, .slice none 0 0, u5, .int .i64 k, U 7, .int .i64 k, .slice (some ad) ls.length cap, .int .i64 ls.length, .bool true, .bool true, .int .i64 k, .bool true, .bool true, u16, u17, U 18, U 19, U 20, U 21, U 22, U 23, U 24, U 25, U 26, U 27, U 28, U 29, U 30, U 31, U 32, U 33, U 34, U 35, U 36, U 37, U 38, U 39, U 40, U 41, U 42, u43, u44, u45, u46, u47, u48, u49, u50, u51, u52, u53, u54, u55, u56, u57, undef], defers := [] } : Act)) (⟨.slice (some ad) ls.length cap, .int .i64 k, ad.add (k * 3), x1, x2, x3, wr.heap.size⟩ : Pre) wr) ?hback ?h0 ?hstep ?hend
      case hback => exact back_of _ (by kernel_rfl)
      case h0 => exact ⟨(fun n => match n with | 7 => u7 | 18 => u18 | 19 => u19 | 20 => u20 | 21 => u21 | 22 => u22 | 23 => u23 | 24 => u24 | 25 => u25 | 26 => u26 | 27 => u27 | 28 => u28 | 29 => u29 | 30 => u30 | 31 => u31 | 32 => u32 | 33 => u33 | 34 => u34 | 35 => u35 | 36 => u36 | 37 => u37 | 38 => u38 | 39 => u39 | 40 => u40 | 41 => u41 | 42 => u42 | _ => undef), rfl, (Below.refl _ wr).drew, Nat.le_refl _, fun _ h _ => (by cases h), fun h => (by cases h), fun h => (by cases h)⟩
      case hstep =>
        intro L a w i o ho hLi haf hI K hK
        obtain ⟨U, rfl, hB, hh, hF, hE, hA⟩ := hI
        have hi : i < 27 := (Array.getElem?_eq_some_iff.1 ho).1
        clear hE
        match i, hi with
        | 0, _ =>
          obtain rfl := Option.some.inj ho
          refine step_call rfl (run_names_ rfl) (names_exact w) ?_
          rintro e w1 ⟨rfl, rfl⟩
          exact ⟨_, rfl, hK _ _ (RegInv.step 0 18 _ hF hA hLi (by decide) rfl (Wle.below (below_alloc (Below.refl _ _) _)) (hB.alloc hh _) (Nat.le_trans hh (by simp)) rfl ⟨_, rfl, blk_new w _⟩)⟩
        | 1, _ =>
          obtain rfl := Option.some.inj ho
          exact step_value rfl (run_move_ (.tmp 0) rfl) (hK _ _ (RegInv.step 1 19 _ hF hA hLi (by decide) rfl (Wle.refl _) hB hh rfl rfl))
        | 2, _ =>
          obtain rfl := Option.some.inj ho
          exact step_value rfl (run_move_ (.tmp 6) rfl) (hK _ _ (RegInv.step 2 20 _ hF hA hLi (by decide) rfl (Wle.refl _) hB hh rfl rfl))
        | 3, _ =>
          obtain rfl := Option.some.inj ho
          have f1 := hF 1 (haf ⟨1, .data⟩ (by simp) rfl) (by decide)
          have f2 := hF 2 (haf ⟨2, .data⟩ (by simp) rfl) (by decide)
          exact step_value rfl (run_ix22_ _ _ ad ls.length cap k rfl f1 f2 b1) (hK _ _ (RegInv.step 3 21 _ hF hA hLi (by decide) rfl (Wle.refl _) hB hh rfl rfl))
        | 4, _ =>
          obtain rfl := Option.some.inj ho
          have f1 := hF 3 (haf ⟨3, .data⟩ (by simp) rfl) (by decide)
          exact step_value rfl (run_ix38_0 _ _ rfl f1) (hK _ _ (RegInv.step 4 22 _ hF hA hLi (by decide) rfl (Wle.refl _) hB hh rfl rfl))
        | 5, _ =>
          obtain rfl := Option.some.inj ho
          have f1 := hF 4 (haf ⟨4, .data⟩ (by simp) rfl) (by decide)
          exact step_value rfl (run_load_ 3 _ _ _ (.inl rfl) rfl f1 (D1.out w hB)) (hK _ _ (RegInv.step 5 23 _ hF hA hLi (by decide) rfl (Wle.refl _) hB hh rfl rfl))
        | 6, _ =>
          obtain rfl := Option.some.inj ho
          have f1 := hF 5 (haf ⟨5, .data⟩ (by simp) rfl) (by decide)
          refine step_call rfl (run_pick_ _ _ _ rfl f1) (P1.out w) ?_
          rintro e w1 ⟨r, rfl, hr, rfl⟩
          exact ⟨_, rfl, hK _ _ (RegInv.step 6 24 _ hF hA hLi (by decide) rfl (Wle.refl _) hB hh rfl ⟨r, hr, rfl⟩)⟩
        | 7, _ =>
          obtain rfl := Option.some.inj ho
          have f1 := hF 0 (haf ⟨0, .data⟩ (by simp) rfl) (by decide)
          have f2 := hF 6 (haf ⟨6, .data⟩ (by simp) rfl) (by decide)
          obtain ⟨g, f1, hg⟩ := f1
          obtain ⟨r, hr, f2⟩ := f2
          exact step_value rfl (run_ix26_ _ _ ⟨g, 0, none⟩ 5 5 r rfl f1 f2 (by omega)) (hK _ _ (RegInv.step 7 25 _ hF hA hLi (by decide) rfl (Wle.refl _) hB hh rfl ⟨g, r, hr, by rw [Addr.add_lit, Nat.zero_add]; rfl, hg⟩))
        | 8, _ =>
          obtain rfl := Option.some.inj ho
          have f1 := hF 7 (haf ⟨7, .data⟩ (by simp) rfl) (by decide)
          obtain ⟨g, r, hr, f1, hg⟩ := f1
          exact step_value rfl (run_load_ 9 _ _ (.string (nm r)) (.inr rfl) rfl f1 ((blk_cell hg r).trans (nm_at r hr))) (hK _ _ (RegInv.step 8 26 _ hF hA hLi (by decide) rfl (Wle.refl _) hB hh rfl ⟨r, hr, rfl⟩))
        | 9, _ =>
          obtain rfl := Option.some.inj ho
          refine step_call rfl (run_names_ rfl) (names_exact w) ?_
          rintro e w1 ⟨rfl, rfl⟩
          exact ⟨_, rfl, hK _ _ (RegInv.step 9 27 _ hF hA hLi (by decide) rfl (Wle.below (below_alloc (Below.refl _ _) _)) (hB.alloc hh _) (Nat.le_trans hh (by simp)) rfl ⟨_, rfl, blk_new w _⟩)⟩
        | 10, _ =>
          obtain rfl := Option.some.inj ho
          exact step_value rfl (run_move_ (.tmp 0) rfl) (hK _ _ (RegInv.step 10 28 _ hF hA hLi (by decide) rfl (Wle.refl _) hB hh rfl rfl))
        | 11, _ =>
          obtain rfl := Option.some.inj ho
          exact step_value rfl (run_move_ (.tmp 6) rfl) (hK _ _ (RegInv.step 11 29 _ hF hA hLi (by decide) rfl (Wle.refl _) hB hh rfl rfl))
        | 12, _ =>
          obtain rfl := Option.some.inj ho
          have f1 := hF 10 (haf ⟨10, .data⟩ (by simp) rfl) (by decide)
          have f2 := hF 11 (haf ⟨11, .data⟩ (by simp) rfl) (by decide)
          exact step_value rfl (run_ix22_ _ _ ad ls.length cap k rfl f1 f2 b1) (hK _ _ (RegInv.step 12 30 _ hF hA hLi (by decide) rfl (Wle.refl _) hB hh rfl rfl))
        | 13, _ =>
          obtain rfl := Option.some.inj ho
          have f1 := hF 12 (haf ⟨12, .data⟩ (by simp) rfl) (by decide)
          exact step_value rfl (run_ix38_1 _ _ rfl f1) (hK _ _ (RegInv.step 13 31 _ hF hA hLi (by decide) rfl (Wle.refl _) hB hh rfl rfl))
        | 14, _ =>
          obtain rfl := Option.some.inj ho
          have f1 := hF 13 (haf ⟨13, .data⟩ (by simp) rfl) (by decide)
          exact step_value rfl (run_load_ 3 _ _ _ (.inl rfl) rfl f1 (D2.out w hB)) (hK _ _ (RegInv.step 14 32 _ hF hA hLi (by decide) rfl (Wle.refl _) hB hh rfl rfl))
        | 15, _ =>
          obtain rfl := Option.some.inj ho
          have f1 := hF 14 (haf ⟨14, .data⟩ (by simp) rfl) (by decide)
          refine step_call rfl (run_pick_ _ _ _ rfl f1) (P2.out w) ?_
          rintro e w1 ⟨r, rfl, hr, rfl⟩
          exact ⟨_, rfl, hK _ _ (RegInv.step 15 33 _ hF hA hLi (by decide) rfl (Wle.refl _) hB hh rfl ⟨r, hr, rfl⟩)⟩
        | 16, _ =>
          obtain rfl := Option.some.inj ho
          have f1 := hF 9 (haf ⟨9, .data⟩ (by simp) rfl) (by decide)
          have f2 := hF 15 (haf ⟨15, .data⟩ (by simp) rfl) (by decide)
          obtain ⟨g, f1, hg⟩ := f1
          obtain ⟨r, hr, f2⟩ := f2
          exact step_value rfl (run_ix26_ _ _ ⟨g, 0, none⟩ 5 5 r rfl f1 f2 (by omega)) (hK _ _ (RegInv.step 16 34 _ hF hA hLi (by decide) rfl (Wle.refl _) hB hh rfl ⟨g, r, hr, by rw [Addr.add_lit, Nat.zero_add]; rfl, hg⟩))
        | 17, _ =>
          obtain rfl := Option.some.inj ho
          have f1 := hF 16 (haf ⟨16, .data⟩ (by simp) rfl) (by decide)
          obtain ⟨g, r, hr, f1, hg⟩ := f1
          exact step_value rfl (run_load_ 9 _ _ (.string (nm r)) (.inr rfl) rfl f1 ((blk_cell hg r).trans (nm_at r hr))) (hK _ _ (RegInv.step 17 35 _ hF hA hLi (by decide) rfl (Wle.refl _) hB hh rfl ⟨r, hr, rfl⟩))
        | 18, _ =>
          obtain rfl := Option.some.inj ho
          exact step_value rfl (run_move_ (.tmp 0) rfl) (hK _ _ (RegInv.step 18 36 _ hF hA hLi (by decide) rfl (Wle.refl _) hB hh rfl rfl))
        | 19, _ =>
          obtain rfl := Option.some.inj ho
          exact step_value rfl (run_move_ (.tmp 6) rfl) (hK _ _ (RegInv.step 19 37 _ hF hA hLi (by decide) rfl (Wle.refl _) hB hh rfl rfl))
        | 20, _ =>
          obtain rfl := Option.some.inj ho
          have f1 := hF 18 (haf ⟨18, .data⟩ (by simp) rfl) (by decide)
          have f2 := hF 19 (haf ⟨19, .data⟩ (by simp) rfl) (by decide)
          exact step_value rfl (run_ix22_ _ _ ad ls.length cap k rfl f1 f2 b1) (hK _ _ (RegInv.step 20 38 _ hF hA hLi (by decide) rfl (Wle.refl _) hB hh rfl rfl))
        | 21, _ =>
          obtain rfl := Option.some.inj ho
          have f1 := hF 20 (haf ⟨20, .data⟩ (by simp) rfl) (by decide)
          exact step_value rfl (run_ix38_2 _ _ rfl f1) (hK _ _ (RegInv.step 21 39 _ hF hA hLi (by decide) rfl (Wle.refl _) hB hh rfl rfl))
        | 22, _ =>
          obtain rfl := Option.some.inj ho
          have f1 := hF 21 (haf ⟨21, .data⟩ (by simp) rfl) (by decide)
          exact step_value rfl (run_load_ 3 _ _ _ (.inl rfl) rfl f1 (D3.out w hB)) (hK _ _ (RegInv.step 22 40 _ hF hA hLi (by decide) rfl (Wle.refl _) hB hh rfl rfl))
        | 23, _ =>
          obtain rfl := Option.some.inj ho
          have f1 := hF 22 (haf ⟨22, .data⟩ (by simp) rfl) (by decide)
          refine step_call rfl (run_pick_ _ _ _ rfl f1) (P3.out w) ?_
          rintro e w1 ⟨r, rfl, hr, rfl⟩
          exact ⟨_, rfl, hK _ _ (RegInv.step 23 41 _ hF hA hLi (by decide) rfl (Wle.refl _) hB hh rfl ⟨r, hr, rfl⟩)⟩
        | 24, _ =>
          obtain rfl := Option.some.inj ho
          have f1 := hF 8 (haf ⟨8, .data⟩ (by simp) rfl) (by decide)
          have f2 := hF 17 (haf ⟨17, .data⟩ (by simp) rfl) (by decide)
          have f3 := hF 23 (haf ⟨23, .data⟩ (by simp) rfl) (by decide)
          obtain ⟨i1, h1, f1⟩ := f1
          obtain ⟨i2, h2, f2⟩ := f2
          obtain ⟨i3, h3, f3⟩ := f3
          exact step_value rfl (run_build_ _ _ _ _ _ _ rfl f1 f2 f3) (hK _ _ (RegInv.step 24 42 _ hF hA hLi (by decide) rfl (Wle.refl _) hB hh rfl ⟨i1, i2, i3, h1, h2, h3, rfl⟩))
        | 25, _ =>
          obtain rfl := Option.some.inj ho
          exact step_value rfl (run_alloc_ rfl) (hK _ _ (RegInv.step 25 7 _ hF hA hLi (by decide) rfl (Wle.below (below_alloc (Below.refl _ _) _)) (hB.alloc hh _) (Nat.le_trans hh (by simp)) rfl ⟨_, _, rfl, hh, rfl, blk_new w _⟩))
        | 26, _ =>
          obtain rfl := Option.some.inj ho
          have hall : ∀ j, j < 26 → L j = true := fun j hj => haf ⟨j, .phase⟩ (phases j hj _ rfl) rfl
          obtain ⟨g, cs, f1, hg1, hg2, hg3⟩ := hF 25 (hall 25 (by decide)) (by decide)
          obtain ⟨i1, i2, i3, h1, h2, h3, f2⟩ := hF 24 (hall 24 (by decide)) (by decide)
          refine step_store _ _ g (nm i1) (nm i2) i3 cs hg2 hg3 rfl rfl f1 f2 ?_
          intro w' q1 q2 q3
          have hwle : Wle w w' := by
            refine ⟨fun b cs' t hb ht => ?_, fun b cs' hc hb => ?_⟩
            · rw [q2 b (fun e => by subst e; exact blk_ne hb hg3 ht rfl)]; exact hb
            · by_cases e : b = g
              · subst e; exact ⟨_, rfl, q1⟩
              · rw [q2 b e]; exact ⟨cs', hc, hb⟩
          refine (hK _ _ ⟨U, rfl, hB.trans (q3.mono hg1), Nat.le_trans hh q3.size, fun j hj hj26 => ?_, fun _ => ⟨g, i1, i2, i3, h1, h2, h3, f1, hg1, q1⟩, fun _ j hj => ?_⟩)
          · exact Fact.move hwle j (hF j (hall j hj26) hj26)
          · dsimp only; rw [if_neg (by omega)]; exact hall j hj
      case hend =>
        intro L a wx hL hI
        obtain ⟨U, rfl, hB, hh, hF, hE, hA⟩ := hI
        obtain ⟨g, i1, i2, i3, h1, h2, h3, f1, hg1, hg2⟩ := hE (hL 26 (by decide))
        have c0 : wx.cell? ⟨g, 0, none⟩ = some (.string (nm i1)) := blk_cell hg2 0
        have c1 : wx.cell? ⟨g, 1, none⟩ = some (.string (nm i2)) := blk_cell hg2 1
        have c2 : wx.cell? ⟨g, 2, none⟩ = some (.int .i64 (i3 : Int)) := blk_cell hg2 2
        have hbx : Below w.heap.size w wx := HB.out.trans (hB.mono HB.out.size)
        have hrx : KE.R 40 wx w.heap.size (fun _ => True) u5 es := Kd.R_below HROW.out hB
        have hsx : w.heap.size ≤ wx.heap.size := hbx.size
        have hel : es.length ≤ 100000 := by omega
        have hne : some g ≠ u5.ownBlock := by
          intro e
          have := Kd.R_lt HROW.out g e.symm
          have : wr.heap.size ≤ g := hg1
          omega
        have hp5 : E5 ⟨nm i1, nm i2, (i3 : Int)⟩ := ⟨i1, i2, i3, h1, h2, h3, rfl⟩
        have hp6 : E5 ⟨nm i2, nm i1, (i3 : Int)⟩ := ⟨i2, i1, i3, h2, h1, h3, rfl⟩
        have HP5 := Lib.hid hp5
        have HP6 := Lib.hid hp6
        have HRX := Lib.hid hrx
        have HBX := Lib.hid hbx
        have HSX := Lib.hid hsx
        have HG := Lib.hid hg2
        have HNE := Lib.hid hne
        clear hB hF hE hA hh hbx hrx hsx hg1 hL P1 P2 P3 D1 D2 D3 HROW hne hp5 hp6 h1 h2 h3 hg2
        generalize nm i1 = s1 at *
        generalize nm i2 = s2 at *
        generalize (i3 : Int) = s3 at *
        go_wp2_with (at_builtin; refine wpList_append_ED rfl _ _ rfl w.heap.size u5 es ⟨s1, s2, s3⟩ rfl rfl HRX.out HSX.out hel ?_)
        intro v1 w1 q1 q2 q3
        have hg2 := blk_grown HG.out q2 HNE.out
        have c0' : w1.cell? ⟨g, 0, none⟩ = some (.string s1) := blk_cell hg2 0
        have c1' : w1.cell? ⟨g, 1, none⟩ = some (.string s2) := blk_cell hg2 1
        have c2' : w1.cell? ⟨g, 2, none⟩ = some (.int .i64 s3) := blk_cell hg2 2
        have hbx : Below w.heap.size w w1 := HBX.out.grown q2 HSX.out (Kd.R_base HRX.out)
        have hsx : w.heap.size ≤ w1.heap.size := hbx.size
        have hel2 : (es ++ [(⟨s1, s2, s3⟩ : Ed)]).length ≤ 100000 := by simp; omega
        have HR1 := Lib.hid q1
        have HB1 := Lib.hid hbx
        have HS1 := Lib.hid hsx
        have HE2 := Lib.hid hel2
        clear q1 q2 q3 hg2 hbx hsx hel2
        cases both with
        | false =>
          go_wp2
          go_roundw
          case rel =>
            refine ⟨k + 1, _, by go_num, by omega, by omega, HR1.out, by simp; omega, ?_, fun h => (by cases h), HB1.out⟩
            intro e he
            rcases List.mem_append.1 he with he | he
            · exact H5.out e he
            · rw [List.mem_singleton.1 he]; exact HP5.out
          case measure => simp [intOf]; omega
        | true =>
          generalize hesq : es ++ [(⟨s1, s2, s3⟩ : Ed)] = es2 at HR1 HE2
          have HQ := Lib.hid hesq
          clear hesq
          go_wp2_with (at_builtin; refine wpList_append_ED rfl _ _ rfl w.heap.size v1 es2 ⟨s2, s1, s3⟩ rfl rfl HR1.out HS1.out HE2.out ?_)
          intro v2 w2 q1 q2 q3
          have hbx : Below w.heap.size w w2 := HB1.out.grown q2 HS1.out (Kd.R_base HR1.out)
          have HR2 := Lib.hid q1
          have HB2 := Lib.hid hbx
          clear q1 q2 q3 hbx
          go_wp2
          go_roundw
          case rel =>
            refine ⟨k + 1, _, by go_num, by omega, by omega, HR2.out, by rw [← HQ.out]; simp; omega, ?_, ?_, HB2.out⟩
            · intro e he
              rw [← HQ.out] at he
              simp only [List.mem_append, List.mem_singleton] at he
              rcases he with (he | he) | he
              · exact H5.out e he
              · rw [he]; exact HP5.out
              · rw [he]; exact HP6.out
            · intro _ e he
              rw [← HQ.out] at he ⊢
              simp only [List.mem_append, List.mem_singleton] at he ⊢
              rcases he with (he | he) | he
              · exact .inl (.inl (HSYM.out trivial e he))
              · rw [he]; exact .inr rfl
              · rw [he]; exact .inl (.inr rfl)
          case measure => simp [intOf]; omega
    · have HROW := Lib.hid hrow
      have H5 := Lib.hid h5
      have HSYM := Lib.hid hsym
      have HB := Lib.hid hb
      have hl24 : es.length ≤ 24 := by omega
      clear hrow h5 hsym hb
      by_cases h1 : k < ls.length
      · have b1 : (k : Int) < (ls.length : Int) := by omega
        have b2 : ¬ ((k : Int) < 12) := by omega
        clear hlt
        go_wp2
        go_ret
        exact ⟨_, rfl, es, HROW.out, hl24, H5.out, HSYM.out, HB.out⟩
      · have b1 : ¬ ((k : Int) < (ls.length : Int)) := by omega
        clear hlt
        go_wp2
        go_ret
        exact ⟨_, rfl, es, HROW.out, hl24, H5.out, HSYM.out, HB.out⟩
end Go.Proofs.Ytdnnlfdblfcajaa.Gr
