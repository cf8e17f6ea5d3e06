/- graph.Dist and graph.Reach. No conditions. -/
import Derived.Test.YtdnnlfdblfcajaaGrFar
import Derived.Test.YtdnnlfdblfcajaaGrKeys
namespace Go.Proofs.Ytdnnlfdblfcajaa.Gr
open Go.RowKit Go.Proofs.YtdnnlfdblfcajaaW.PrintWords
set_option maxHeartbeats 2000000 in
set_option maxRecDepth 100000 in
theorem dist_calls (A : Option Addr) (cap : Nat) (l : List Ed) (a b : ByteArray) (w : World) (hr : ReadsRow EK 3 w A l.length l) (hl : l.length ≤ 100000) :
    Calls Try.prog 13 #[.slice A l.length cap, .string a, .string b] w fun e w' => ∃ r : Int × Bool, e = .returned (.tuple #[.int .i64 r.1, .bool r.2]) ∧ DistIs (best l) a b r ∧ Below w.heap.size w w' := by
  have hcs : cst (tab l) = best l := by funext a b; exact cst_tab l a b
  rw [← hcs]
  have htab := tabled_calls A cap l w hr
  have hok := tab_ok l
  have hd : deg (tab l) ≤ 100000 := Nat.le_trans (deg_tab l) hl
  generalize tab l = T at htab hok hd ⊢
  have HTAB := Lib.hid htab
  clear hcs htab
  go_enter Try.func13, Try.ntmps13
  go_wp2_with (go_at_call 18; refine HTAB.out.mono ?_)
  rintro e w1 ⟨tb, blk, rfl, hT, hB⟩
  go_wp2_with (go_at_call 25; refine (far_calls w1 w.heap.size tb blk T hT hok hd a).mono ?_)
  rintro e w2 ⟨db, done, rfl, hdb, hS, hF, hdl, hB2⟩
  have l1 : Sem.run Try.prog (Instr.lookup 53 (.map (some db)) (.string b) true) w2 = .ok (.tuple #[.int .i64 ((get done b).getD 0), .bool (get done b).isSome]) w2 := by
    have := hS.lookup_ok Try.underlying9 Try.underlying53 Try.zeroValue3 b true
    rw [get_imap] at this
    simp only [if_true] at this
    rw [this]
    cases get done b <;> rfl
  have hdist := hF.dist b
  have hBB : Below w.heap.size w w2 := hB.trans (hB2.mono hB.size)
  clear hS hF hdl hB2
  generalize (get done b).getD 0 = d at *
  generalize (get done b).isSome = ok at *
  go_wp2
  go_ret2
  exact ⟨(d, ok), rfl, hdist, hBB⟩
theorem walk_end {l : List Ed} {a b : ByteArray} {d : Int} (h : Walk (best l) a b d) : ∃ e ∈ l, e.B = b := by
  induction h with
  | one h => obtain ⟨e, he, _, _, h2, _⟩ := best_some h; exact ⟨e, he, h2⟩
  | cons _ _ ih => exact ih
set_option maxHeartbeats 2000000 in
set_option maxRecDepth 100000 in
theorem reach_calls (A : Option Addr) (cap : Nat) (l : List Ed) (a : ByteArray) (w : World) (hr : ReadsRow EK 3 w A l.length l) (hl : l.length ≤ 100000) (hsz : ∀ e ∈ l, e.B.size ≤ maxLen) :
    Calls Try.prog 15 #[.slice A l.length cap, .string a] w fun e w' => ∃ v ss, e = .returned v ∧ Kd.string.R 9 w' w.heap.size (fun _ => True) v ss ∧ ss.Pairwise (fun x y => bleB x y = true) ∧ ss.Nodup ∧ (∀ b, b ∈ ss ↔ ∃ d, Walk (best l) a b d) ∧ Below w.heap.size w w' := by
  have hcs : cst (tab l) = best l := by funext a b; exact cst_tab l a b
  have hend : ∀ b d, Walk (cst (tab l)) a b d → b.size ≤ maxLen := by
    rw [hcs]
    intro b d h
    obtain ⟨e, he, rfl⟩ := walk_end h
    exact hsz e he
  rw [← hcs]
  have htab := tabled_calls A cap l w hr
  have hok := tab_ok l
  have hd : deg (tab l) ≤ 100000 := Nat.le_trans (deg_tab l) hl
  generalize tab l = T at htab hok hd hend ⊢
  have HTAB := Lib.hid htab
  have HEND := Lib.hid hend
  clear hcs htab hend
  go_enter Try.func15, Try.ntmps15
  go_wp2_with (go_at_call 18; refine HTAB.out.mono ?_)
  rintro e w1 ⟨tb, blk, rfl, hT, hB⟩
  go_wp2_with (go_at_call 25; refine (far_calls w1 w.heap.size tb blk T hT hok hd a).mono ?_)
  rintro e w2 ⟨db, done, rfl, hdb, hS, hF, hdl, hB2⟩
  have hBB : Below w.heap.size w w2 := hB.trans (hB2.mono hB.size)
  go_wp2_with (go_at_call 22; refine (keys_calls (some db) w2).mono ?_)
  rintro e w3 ⟨rfl, rfl⟩
  have hsz2 : ∀ p ∈ done, p.1.size ≤ maxLen := by
    intro p hp
    have h1 := hF.2 p.1
    rw [get_of_mem hF.1 (k := p.1) (v := p.2) hp] at h1
    exact HEND.out _ _ h1.1
  have hso := sorted_calls w2 (some db) done hS hsz2 (by omega)
  have hmem : ∀ b, b ∈ skeys done ↔ ∃ d, Walk (cst T) a b d := by
    intro b
    rw [mem_skeys]
    have h1 := hF.2 b
    constructor
    · intro h
      cases hg : get done b with
      | none => exact absurd h (get_none_iff.1 hg)
      | some d => rw [hg] at h1; exact ⟨d, h1.1⟩
    · rintro ⟨d, hd⟩
      cases hg : get done b with
      | none => rw [hg] at h1; exact absurd hd (h1 d)
      | some d => exact List.mem_map.2 ⟨_, mem_of_get hg, rfl⟩
  have hnd : (skeys done).Nodup := (skeys_perm done).nodup_iff.2 hF.1
  have hsrt := skeys_sorted done
  generalize skeys done = ss at *
  have HSO := Lib.hid hso
  have HM := Lib.hid hmem
  clear hso hmem hsz2 hS hF hdl hB2 hT
  go_wp2_with (go_at_call 21; refine HSO.out.mono ?_)
  rintro e w4 ⟨v, rfl, hR, hB4⟩
  have hB5 : Below w.heap.size w w4 := (hBB.alloc hBB.size _).trans (hB4.mono (by have := hBB.size; omega))
  have hR5 : Kd.string.R 9 w4 w.heap.size (fun _ => True) v ss := Kd.R_lower hR (by have := hBB.size; omega)
  go_wp2
  go_ret
  exact ⟨v, ss, rfl, hR5, hsrt, hnd, HM.out, hB5⟩
end Go.Proofs.Ytdnnlfdblfcajaa.Gr
