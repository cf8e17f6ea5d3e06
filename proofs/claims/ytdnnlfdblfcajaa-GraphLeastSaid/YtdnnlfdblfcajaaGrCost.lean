/- graph.Cost: what a way costs. No conditions. -/
import Derived.Test.YtdnnlfdblfcajaaGrTab
import Derived.Deep.QuietTactic
import Derived.BigQuiet
import Derived.IntWalk
namespace Go.Proofs.Ytdnnlfdblfcajaa.Gr
open Go.RowKit Go.Proofs.YtdnnlfdblfcajaaW.PrintWords
def costFrom (t : ByteArray → ByteArray → Option Int) : ByteArray → List ByteArray → Int → Int × Bool
  | _, [], s => (s, true)
  | u, x :: r, s => match t u x with
    | some c => costFrom t x r (wrap64 (s + c))
    | none => (0, false)
def cost (t : ByteArray → ByteArray → Option Int) : List ByteArray → Int × Bool
  | u :: x :: r => costFrom t u (x :: r) 0
  | _ => (0, false)
theorem TM.look_any {W : World} {B b : Nat} {blk : ByteArray → Nat} {T : Tab ByteArray} (h : TM W B b blk T) (a s : ByteArray) :
    ∃ v, (∀ n, Sem.run Try.prog (Instr.lookup 45 (.map (some b)) (.string a) false) (W.drewN n) = .ok v (W.drewN n)) ∧
      (∀ n, Sem.run Try.prog (Instr.lookup 53 v (.string s) true) (W.drewN n) = .ok (.tuple #[.int .i64 ((cst T a s).getD 0), .bool (cst T a s).isSome]) (W.drewN n)) := by
  have hn : ∀ n, TM (W.drewN n) B b blk T := fun n => h.below (pw_below_drewN (Below.refl _ _) n)
  cases hg : get T a with
  | none =>
    refine ⟨.map none, fun n => (hn n).look_none hg, fun n => ?_⟩
    have := lookup_nil (P := Try.prog) Try.underlying9 Try.underlying53 Try.zeroValue3 s true (W.drewN n)
    simp only [cst, hg]
    exact this
  | some m =>
    refine ⟨.map (some (blk a)), fun n => (hn n).look hg, fun n => ?_⟩
    simp only [cst, hg, Option.bind_some]
    exact (hn n).look2 hg s
theorem add_pos (ad : Addr) (j : Nat) (hj : 0 < j) : ad.add j = ⟨ad.block, ad.off + j, none⟩ := by
  unfold Addr.add
  rw [if_neg (by omega)]
set_option maxHeartbeats 2000000 in
set_option maxRecDepth 100000 in
theorem cost_calls (A : Option Addr) (cap : Nat) (l : List Ed) (A2 : Option Addr) (cap2 : Nat) (way : List ByteArray) (w : World) (hr : ReadsRow EK 3 w A l.length l) (hw : Kd.string.C w A2 way.length way) :
    Calls Try.prog 14 #[.slice A l.length cap, .slice A2 way.length cap2] w fun e w' => e = .returned (.tuple #[.int .i64 (cost (best l) way).1, .bool (cost (best l) way).2]) ∧ Below w.heap.size w w' := by
  have hlen : way.length ≤ 9223372036854775807 := hw.2.1
  have hcs : cst (tab l) = best l := by funext a b; exact cst_tab l a b
  rw [← hcs]
  have htab := tabled_calls A cap l w hr
  generalize tab l = T at htab ⊢
  have HTAB := Lib.hid htab
  clear hcs htab
  go_enter Try.func14, Try.ntmps14
  go_wp2_with (go_at_call 18; refine HTAB.out.mono ?_; rintro e w1 ⟨b, blk, rfl, hT, hB⟩)
  go_loopw [4, 7] (fun sum i wr => ∃ (k : Nat) (s : Int), i = .int .i64 ((k : Int) + 1) ∧ sum = .int .i64 s ∧ ((k + 1 ≤ way.length ∨ k = 0) ∧ (k = 0 → s = 0)) ∧ (∀ u, way[k]? = some u → 1 < way.length → cost (cst T) way = costFrom (cst T) u (way.drop (k + 1)) s) ∧ TM wr w.heap.size b blk T ∧ Below w.heap.size w wr) (fun _ i _ => way.length - (intOf i).toNat)
  case atStart =>
    refine ⟨0, 0, rfl, rfl, ⟨.inr rfl, fun _ => rfl⟩, fun u hu h1 => ?_, hT, hB⟩
    match way, hu, h1 with
    | _ :: _ :: _, hu, _ => simp at hu; subst hu; rfl
  case round =>
    obtain ⟨k, s, rfl, rfl, hk2, hcost, hT2, hB2⟩ := hrel
    by_cases hlt : k + 1 < way.length
    · obtain ⟨ad, hA, hcell⟩ := hw.2.2 (by omega)
      obtain ⟨c1, hc1, e1, hc2⟩ := hcell k _ (List.getElem?_eq_getElem (by omega))
      obtain ⟨c3, hc3, e3, hc4⟩ := hcell (k + 1) _ (List.getElem?_eq_getElem hlt)
      subst hA e1 e3
      have d1 : wr.cell? (ad.add k) = some (.string way[k]) := by
        have := (hB2.cell (World.block_lt_of_cell? w _ (hc2 0 _ rfl))).trans (hc2 0 _ rfl)
        simpa [Kd.string, Kd.scalar] using this
      have d3 : wr.cell? (ad.add (k + 1)) = some (.string way[k + 1]) := by
        have := (hB2.cell (World.block_lt_of_cell? w _ (hc4 0 _ rfl))).trans (hc4 0 _ rfl)
        simpa [Kd.string, Kd.scalar] using this
      rw [add_pos ad (k + 1) (by omega)] at d3
      have hcst := hcost _ (List.getElem?_eq_getElem (by omega)) (by omega)
      rw [List.drop_eq_getElem_cons hlt] at hcst
      clear hc2 hc4 hcell hcost hw hk2
      obtain ⟨v, l1, l2⟩ := hT2.look_any way[k] way[k + 1]
      generalize hd : way.drop (k + 1 + 1) = rest at hcst
      have HD := Lib.hid hd
      clear hd
      have hnxt : way[k + 1]? = some way[k + 1] := List.getElem?_eq_getElem hlt
      have HN := Lib.hid hnxt
      clear hnxt
      generalize way[k] = x at *
      generalize way[k + 1] = y at *
      simp only [costFrom] at hcst
      have HC := Lib.hid hcst
      clear hcst
      have k0 : ((k : Int) + 1).toNat = k + 1 := by omega
      have k1 : (0 : Int) ≤ (k : Int) + 1 := by omega
      have k2 : IntKind.i64.wrap (k : Int) = k := IntWalk.i64_in _ (by omega)
      have b1 : (k : Int) < (way.length : Int) := by omega
      have b2 : (k : Int) + 1 < (way.length : Int) := by omega
      have b3 : (0 : Int) ≤ (k : Int) := by omega
      cases hcs : cst T x y with
      | none =>
        simp only [hcs, Option.getD_none, Option.isSome_none] at l2
        have HCS := Lib.hid hcs
        clear hcs
        go_wp2
        go_quiet (fail)
        go_wp2
        go_ret2
        refine ⟨?_, pw_below_drewN hB2 _⟩
        rw [HC.out, HCS.out]
        rfl
      | some c =>
        simp only [hcs, Option.getD_some, Option.isSome_some] at l2
        have HCS := Lib.hid hcs
        clear hcs
        go_wp2
        go_quiet (fail)
        go_wp2
        go_roundw
        case rel =>
          refine ⟨k + 1, wrap64 (s + c), by go_num, rfl, ⟨.inl (by omega), fun h => by omega⟩, fun u hu h1 => ?_, hT2.below (pw_below_drewN (Below.refl _ _) _), pw_below_drewN hB2 _⟩
          rw [HN.out] at hu
          injection hu with hu
          subst hu
          rw [HC.out, HCS.out, HD.out]
        case measure => simp [intOf]; omega
    · have hlt' : ¬ ((k : Int) + 1 < (way.length : Int)) := by omega
      by_cases h1 : 1 < way.length
      · have hk : k + 1 = way.length := by omega
        have hc := hcost _ (List.getElem?_eq_getElem (by omega)) h1
        rw [hk, List.drop_length] at hc
        simp only [costFrom] at hc
        have HC := Lib.hid hc
        have hd1 : decide ((1 : Int) < (way.length : Int)) = true := by rw [decide_eq_true_eq]; omega
        clear hc hcost hk hk2
        go_wp2
        go_ret2
        refine ⟨?_, hB2⟩
        rw [HC.out]
        rfl
      · have hc : cost (cst T) way = (0, false) := by
          match way, h1 with
          | [], _ => rfl
          | [_], _ => rfl
          | _ :: _ :: _, h1 => simp at h1
        have HC := Lib.hid hc
        have hs : k = 0 ∧ s = 0 := ⟨by omega, hk2.2 (by omega)⟩
        obtain ⟨rfl, rfl⟩ := hs
        have hd1 : decide ((1 : Int) < (way.length : Int)) = false := by rw [decide_eq_false_iff_not]; omega
        clear hc hcost hk2
        go_wp2
        go_ret2
        refine ⟨?_, hB2⟩
        rw [HC.out]
        rfl
end Go.Proofs.Ytdnnlfdblfcajaa.Gr
