/- graph.far: the least cost of a walk to each node. No conditions. -/
import Derived.Test.YtdnnlfdblfcajaaGrRange
import Derived.Test.YtdnnlfdblfcajaaGrSortC
import Derived.Deep.LoopGhost
namespace Go.Proofs.Ytdnnlfdblfcajaa.Gr
open Go.RowKit Go.Proofs.YtdnnlfdblfcajaaW.PrintWords
/-- what holds at the outer loop's head -/
structure Far (w wr : World) (B0 b : Nat) (blk : ByteArray → Nat) (T : Tab ByteArray) (a : ByteArray) (g : Nat) (v : Value) (first : Bool) (q done : List Rch) : Prop where
  below : Below w.heap.size w wr
  queue : QU wr w.heap.size v q
  map : SM wr w.heap.size (imap done)
  off : ∀ k, v.ownBlock = some k → k ≠ w.heap.size
  start : first = true → done = [] ∧ q = [(a, 0)] ∧ g = 2 * deg T + 2
  inv : first = false → Inv T a done q (2 * deg T) ∧ q.length + pot T done ≤ g
theorem QU.form {w : World} {base : Nat} {v : Value} {q : List Rch} (h : QU w base v q) (hn : 0 < q.length) : ∃ g off cap, v = .slice (some ⟨g, off, none⟩) q.length cap ∧ q.length ≤ cap := by
  rcases h.2 with ⟨h0, _⟩ | ⟨g, off, cap, cur, rfl, _, _, hc, _⟩
  · omega
  · exact ⟨g, off * 2, cap, rfl, hc⟩
theorem QU.head {w : World} {base g off n cap : Nat} {x : Rch} {r : List Rch} (h : QU w base (.slice (some ⟨g, off, none⟩) n cap) (x :: r)) :
    n = r.length + 1 ∧ w.cell? ⟨g, off, none⟩ = some (.string x.1) ∧ w.cell? ⟨g, off + 1, none⟩ = some (.int .i64 x.2) := by
  obtain ⟨A, c, he, hl⟩ := q_slice h
  injection he with h1 h2 h3
  subst h1 h2 h3
  obtain ⟨ad, ha, hc⟩ := q_cells h (by simp)
  injection ha with ha
  subst ha
  have e0 := hc 0 (.string x.1) rfl
  have e1 := hc 1 (.int .i64 x.2) rfl
  rw [add_at] at e0 e1
  exact ⟨by simp, e0, e1⟩
theorem QU.tail {w : World} {base n cap : Nat} {A : Option Addr} {x : Rch} {r : List Rch} (h : QU w base (.slice A n cap) (x :: r)) :
    ∃ v2, (∀ W, (Instr.slice 60 (.slice A n cap) (some (.int .i64 1)) none none).run Try.prog W = .ok v2 W) ∧ QU w base v2 r ∧ ∀ k, v2.ownBlock = some k → (Value.slice A n cap).ownBlock = some k := by
  obtain ⟨A', c, he, hl⟩ := q_slice h
  injection he with h1 h2 h3
  subst h1 h2 h3
  obtain ⟨i0, hi, hzz⟩ := Option.map_eq_some_iff.1 info59
  simp only [Prod.mk.injEq] at hzz
  have hd := q_drop (k := 1) h (by simp)
  have hrun := cut_from (P := Try.prog) 60 59 .i64 Try.underlying60 hi 2 hzz.2.1 A (x :: r).length cap 1 (by omega) (by simp; omega)
  refine ⟨_, hrun, ?_, fun k hk => ?_⟩
  · have e1 : (qcells (x :: r)).drop (1 * 2) = qcells r := rfl
    rw [e1] at hd
    exact hd
  · cases A with
    | none => split at hk <;> simp [Value.ownBlock] at hk
    | some ad =>
      split at hk
      · simpa [Value.ownBlock] using hk
      · simp only [Option.map_some] at hk
        have : (ad.add 2).block = ad.block := by unfold Addr.add; split <;> rfl
        simp [Value.ownBlock] at hk
        rw [this] at hk
        simp [Value.ownBlock, hk]
set_option maxHeartbeats 4000000 in
set_option maxRecDepth 100000 in
theorem far_calls (w : World) (B0 b : Nat) (blk : ByteArray → Nat) (T : Tab ByteArray) (hT : TM w B0 b blk T) (hok : TabOk T) (hd : deg T ≤ 100000) (a : ByteArray) :
    Calls Try.prog 25 #[.map (some b), .string a] w fun e w' => ∃ (d : Nat) (done : List Rch), e = .returned (.map (some d)) ∧ w.heap.size ≤ d ∧ SM w' d (imap done) ∧ FarIs (cst T) a done ∧ done.length ≤ 2 * deg T ∧ Below w.heap.size w w' := by
  have hmm := @run_makeMap Try.prog
  have hblk : b < w.heap.size ∧ ∀ p ∈ T, blk p.1 < w.heap.size := ⟨hT.out.lt, fun p hp => (hT.inn p hp).lt⟩
  go_enter Try.func25, Try.ntmps25
  go_wp2
  go_loopg [6, 7] (2 * deg T + 2) (fun g v f wr => ∃ (first : Bool) (q done : List Rch), f = .bool first ∧ Far w wr B0 b blk T a g v first q done)
  case atStart =>
    refine ⟨true, [(a, 0)], [], rfl, ⟨?_, ?_, ?_, ?_, fun _ => ⟨rfl, rfl, rfl⟩, fun h => by cases h⟩⟩
    · exact ((Below.refl _ w).alloc (Nat.le_refl _) _).alloc (by simp) _
    · have h := World.ownsRow_lit (base := w.heap.size) (e := 59) (size := 2) (w.alloc (.map #[] 0)) #[.string a, .int .i64 0] 1 (by simp) (by simp [maxLen]) (by simp)
      have h2 := q_of_own h
      simp at h2
      exact h2
    · exact (SM.made w).alloc _
    · intro k hk
      simp [Value.ownBlock] at hk
      omega
  case round =>
    obtain ⟨first, q, done, rfl, hF⟩ := hrel
    have hTr : TM wr B0 b blk T := hT.below hF.below
    by_cases hq0 : q.length = 0
    · obtain rfl : q = [] := List.eq_nil_of_length_eq_zero hq0
      obtain ⟨A, c, rfl, _⟩ := q_slice hF.queue
      cases first with
      | true => have := (hF.start rfl).2.1; cases this
      | false =>
        have hfar := (hF.inv rfl).1.over hok
        have hdl : done.length ≤ 2 * deg T := by have := (hF.inv rfl).1.size; omega
        have hm := hF.map
        have hb := hF.below
        clear hF
        go_wp2
        go_ret
        exact ⟨_, done, rfl, Nat.le_refl _, hm, hfar, hdl, hb⟩
    · obtain ⟨g, off, cap, rfl, hcap⟩ := hF.queue.form (by omega)
      have hql : q.length ≤ 300000 := by
        cases first with
        | true => rw [(hF.start rfl).2.1]; simp
        | false => have := (hF.inv rfl).1.size; omega
      obtain ⟨nq, hnq⟩ : ∃ nq, q.length = nq := ⟨_, rfl⟩
      rw [hnq] at hF ⊢
      have hnq0 : 0 < nq := by omega
      have hlen : decide ((0 : Int) < (nq : Int)) = true := by rw [decide_eq_true_eq]; omega
      clear hcap hnq
      go_wp2_with (go_at_call 30; refine (sort_calls wr w.heap.size _ q hF.queue (Nat.pos_of_ne_zero hq0) (Nat.lt_of_le_of_lt hql (by decide))).mono ?_)
      rintro e w1 ⟨rfl, q', hp, hmin, hq', hg⟩
      obtain ⟨x, r, rfl⟩ : ∃ x r, q' = x :: r := by
        cases q' with
        | nil => have := hp.length_eq; simp at this; omega
        | cons x r => exact ⟨x, r, rfl⟩
      obtain ⟨hn, c0, c1⟩ := hq'.head
      obtain ⟨v2, hcut, hq2, hob⟩ := hq'.tail
      have HN := Lib.hid hn
      clear hn
      have hB1 : Below w.heap.size w w1 := hF.below.grown hg hF.below.size (fun k hk => (q_typed hF.queue k hk).1)
      have hT1 : TM w1 B0 b blk T := hT.below hB1
      have hoff1 : ∀ k, v2.ownBlock = some k → k ≠ w.heap.size ∧ k < w1.heap.size := fun k hk => ⟨hF.off k (hob k hk), q_lt hq2 k hk⟩
      have hs1 : SM w1 w.heap.size (imap done) := hF.map.move (hg.block _ hF.map.lt (fun e => hF.off _ e.symm rfl))
      have hTa : ∀ o, TM (w1.alloc o) B0 b blk T := fun o => hT1.alloc o
      have hw1 : w.heap.size < w1.heap.size := hs1.lt
      obtain ⟨vr, hvr⟩ : ∃ vr, vr = (match get T x.1 with | some _ => Value.map (some (blk x.1)) | none => Value.map none) := ⟨_, rfl⟩
      have hlk : ∀ W, TM W B0 b blk T → Sem.run Try.prog (Instr.lookup 45 (.map (some b)) (.string x.1) false) W = .ok vr W := by
        intro W hW
        rw [hvr]
        cases hgt : get T x.1 with
        | some m => exact hW.look hgt
        | none => exact hW.look_none hgt
      have l1 : ∀ o, Sem.run Try.prog (Instr.lookup 45 (.map (some b)) (.string x.1) false) (w1.alloc o) = .ok vr (w1.alloc o) := fun o => hlk _ (hTa o)
      have HVR := Lib.hid hvr
      have HLK := Lib.hid hlk
      clear hvr hlk
      cases first with
      | true =>
        obtain ⟨hd0, hqa, hgk⟩ := hF.start rfl
        have hxr : x = (a, 0) ∧ r = [] := by
          rw [hqa] at hp
          have := List.perm_singleton.1 hp
          injection this with h1 h2
          exact ⟨h1, h2⟩
        have HI : ∀ m' : List Rch, m'.Perm ((get T x.1).getD []) → Inv T a done (r ++ m'.map fun (p : Rch) => (p.1, x.2 + p.2)) (2 * deg T) ∧ (r ++ m'.map fun (p : Rch) => (p.1, x.2 + p.2)).length + pot T done < gk := by
          intro m' hm'
          rw [hd0, hgk, hxr.2]
          rw [hxr.1] at hm' ⊢
          have h1 := Inv.start hok a hm'
          refine ⟨h1, ?_⟩
          have := h1.size
          simp at this ⊢
          omega
        have hx0 : 0 ≤ x.2 := by rw [hxr.1]; exact Int.le_refl _
        have hx1 : x.2 ≤ 1000000000000000 := by rw [hxr.1]; show (0 : Int) ≤ _; omega
        have HI := Lib.hid HI
        clear hF hmin hp hq' hg hT1 hd0 hqa hgk hxr
        go_wp2_with (at_range; refine wpList_range_far _ rfl _ rfl w.heap.size B0 b blk T (hTa _) hblk x.1 _ rfl HVR.out ?_)
        intro w3 hr3 hb3 hz3
        have hq3 : QU w3 w.heap.size v2 r := q_move hq2 (fun k hk => by rw [hb3.block k (by have := (hoff1 k hk).2; omega)]; exact Below.heap_alloc _ _ k (hoff1 k hk).2)
        have hs3 : SM w3 w.heap.size (imap done) := (hs1.alloc _).below hb3 (by omega)
        have e1 : w3.cell? ⟨w1.heap.size, 1, none⟩ = some (.int .i64 x.2) := (hb3.cell (p := ⟨w1.heap.size, 1, none⟩) (by simp)).trans (by simp)
        have hB3 : Below w.heap.size w w3 := (hB1.alloc (by omega) _).trans (hb3.mono (by omega))
        have hob3 : ∀ k, v2.ownBlock = some k → k ≠ w.heap.size ∧ k ≠ w1.heap.size ∧ k ≠ w1.heap.size + 1 := fun k hk => by have := hoff1 k hk; omega
        clear hb3 hz3 l1 hcut c0 c1 hs1 hoff1
        -- THE INNER LOOP
        obtain ⟨rr, hrr⟩ : ∃ rr, rr = w1.heap.size + 1 := ⟨_, rfl⟩
        rw [← hrr] at hr3 hob3 ⊢
        have hrl : w1.heap.size < rr := by omega
        have HRR := Lib.hid hrr
        clear hrr
        obtain ⟨m, hm⟩ : ∃ m, m = (get T x.1).getD [] := ⟨_, rfl⟩
        rw [← hm] at hr3
        have hmp : ∀ p ∈ m, 1 ≤ p.2 ∧ p.2 ≤ 2147483647 := by
          rw [hm]
          cases hgt : get T x.1 with
          | none => intro p hp; simp at hp
          | some m0 => exact fun p hp => hok.pos _ (mem_of_get hgt) p hp
        have HI2 : Hid (∀ m' : List Rch, m'.Perm m → Inv T a done (r ++ m'.map fun (p : Rch) => (p.1, x.2 + p.2)) (2 * deg T) ∧ (r ++ m'.map fun (p : Rch) => (p.1, x.2 + p.2)).length + pot T done < gk) := by
          rw [hm]
          exact HI
        have HMP := Lib.hid hmp
        clear hm hmp HI
        go_wp2_with fail
        go_loopg [6] m.length (fun gi v wi => ∃ pre left : List Rch, gi = left.length ∧ (pre ++ left).Perm m ∧ RangeAt wi w.heap.size rr left ∧ QU wi w.heap.size v (r ++ pre.map fun (p : Rch) => (p.1, x.2 + p.2)) ∧ SM wi w.heap.size (imap done) ∧ wi.cell? ⟨w1.heap.size, 1, none⟩ = some (.int .i64 x.2) ∧ Below w.heap.size w wi ∧ (∀ k, v.ownBlock = some k → k ≠ w.heap.size ∧ k ≠ w1.heap.size ∧ k ≠ rr) ∧ rr < wi.heap.size)
        case atStart => exact ⟨[], m, rfl, List.Perm.refl _, hr3, by simpa using hq3, hs3, e1, hB3, hob3, hr3.lt⟩
        case round =>
          obtain ⟨pre, left, rfl, hpm, hR, hQ, hS, he1, hBi, hobi, hri⟩ := hrel
          have hlen2 : (r ++ pre.map fun (p : Rch) => (p.1, x.2 + p.2)).length ≤ 200000 := by
            have h1 := (HI2.out m (List.Perm.refl _)).1.size
            have h2 := hpm.length_eq
            simp only [List.length_append, List.length_map] at h1 h2 ⊢
            omega
          clear hr3 hq3 hs3 e1 hB3 hob3
          go_wp2_with (at_next; refine wpList_next_far _ rfl _ rfl w.heap.size rr left hR rfl ?_ ?_)
          · intro hl0
            subst hl0
            rw [List.append_nil] at hpm
            have hfin := HI2.out pre hpm
            go_wp2
            go_roundg (gk - 1)
            case measure => omega
            case rel => exact ⟨false, _, done, rfl, ⟨hBi, hQ, hS, fun k hk => (hobi k hk).1, (fun h => by cases h), fun _ => ⟨hfin.1, by omega⟩⟩⟩
          · intro a1 pn pc a2 w4 hsp hR4 hg4 hz4 hent
            have hpp : (pn, pc) ∈ m := hpm.mem_iff.1 (by rw [hsp]; simp)
            obtain ⟨hp1, hp2⟩ := HMP.out _ hpp
            simp only at hp1 hp2
            have hsum : -9223372036854775808 ≤ x.2 + pc ∧ x.2 + pc ≤ 9223372036854775807 := by omega
            obtain ⟨hsum1, hsum2⟩ := hsum
            have hQ4 : QU w4 w.heap.size u6 (r ++ pre.map fun (p : Rch) => (p.1, x.2 + p.2)) := q_move hQ (fun k hk => hg4.block k (q_lt hQ k hk) (fun e => by injection e with e; exact (hobi k hk).2.2 e))
            have hS4 : SM w4 w.heap.size (imap done) := hS.move (hg4.block _ hS.lt (fun e => by injection e with e; have := HRR.out; omega))
            have he4 : w4.cell? ⟨w1.heap.size, 1, none⟩ = some (.int .i64 x.2) := grown_cell hg4 (by show some w1.heap.size ≠ some rr; intro e; injection e with e; omega) he1
            have hB4 : Below w.heap.size w w4 := hBi.grown hg4 hBi.size (fun k e => by cases e; omega)
            have HSP := Lib.hid hsp
            have hw4 : w.heap.size ≤ w4.heap.size := hB4.size
            clear hsp hz4 hR hQ hS he1 hBi
            go_wp2_with (at_builtin; refine wpList_append_QU _ rfl _ _ rfl w.heap.size u6 _ (pn, x.2 + pc) rfl rfl hQ4 hw4 (by omega) ?_)
            intro v5 w5 hq5 hg5 hob5
            have hrow : ∀ k, u6.ownBlock = some k → w.heap.size ≤ k ∧ k ≠ rr := fun k hk => ⟨(q_typed hQ4 k hk).1, (hobi k hk).2.2⟩
            have hR5 := (hR4.alloc (.cells #[.string pn, .int .i64 (x.2 + pc)] 59)).grown hg5 hrow
            have hS5 : SM w5 w.heap.size (imap done) := (hS4.alloc _).move (hg5.block _ (hS4.alloc _).lt (fun e => (hobi _ e.symm).1 rfl))
            have he5 : w5.cell? ⟨w1.heap.size, 1, none⟩ = some (.int .i64 x.2) := grown_cell hg5 (fun e => (hobi _ e.symm).2.1 rfl) (by rw [World.cell?_alloc_old _ _ _ (by have := World.block_lt_of_cell? _ _ he4; simp only at this; show w1.heap.size ≠ w4.heap.size; omega)]; exact he4)
            have hB5 : Below w.heap.size w w5 := (hB4.alloc hw4 _).grown hg5 (by simp; omega) (fun k hk => (hrow k hk).1)
            have hz5 : w4.heap.size + 1 ≤ w5.heap.size := by have := hg5.size; simpa using this
            have hr4 := hR4.lt
            have hc4 : w1.heap.size < w4.heap.size := World.block_lt_of_cell? _ _ he4
            have hob6 : ∀ k, v5.ownBlock = some k → k ≠ w.heap.size ∧ k ≠ w1.heap.size ∧ k ≠ rr := by
              intro k hk
              rcases hob5 with h | ⟨bb, h, hle⟩
              · exact hobi k (by rw [← h]; exact hk)
              · rw [hk] at h
                injection h with h
                subst h
                omega
            go_wp2
            go_roundg (a1 ++ a2).length
            case measure => rw [HSP.out]; simp only [List.length_append, List.length_cons]; omega
            case rel => exact ⟨pre ++ [(pn, pc)], a1 ++ a2, rfl, (by
              refine List.Perm.trans ?_ hpm
              rw [HSP.out]
              simp only [List.append_assoc, List.singleton_append]
              refine List.Perm.append_left pre ?_
              exact List.perm_middle.symm), hR5, (by simpa using hq5), hS5, he5, hB5, hob6, by omega⟩
      | false =>
        obtain ⟨I, hIg⟩ := hF.inv rfl
        have I2 : Inv T a done (x :: r) (2 * deg T) := I.perm hp
        have hple := hp.length_eq
        have hmin' := hmin x r rfl
        have l0 : ∀ o, Sem.run Try.prog (Instr.lookup 53 (.map (some w.heap.size)) (.string x.1) true) (w1.alloc o) = .ok (.tuple #[.int .i64 ((get done x.1).getD 0), .bool (get done x.1).isSome]) (w1.alloc o) := by
          intro o
          have := (hs1.alloc o).lookup_ok Try.underlying9 Try.underlying53 Try.zeroValue3 x.1 true
          rw [get_imap] at this
          simp only [if_true] at this
          rw [this]
          cases get done x.1 <;> rfl
        cases hgd : get done x.1 with
        | some dd =>
          rw [hgd] at l0
          simp only [Option.getD_some, Option.isSome_some] at l0
          have I3 := I2.pass (by rw [hgd]; rfl)
          have hpos : 0 < gk := by simp at hple; omega
          have hg3 : r.length + pot T done ≤ gk - 1 := by simp at hple; omega
          have hq3 : QU (w1.alloc (.cells #[.string x.1, .int .i64 x.2] 59)) w.heap.size v2 r := q_move hq2 (fun k hk => Below.heap_alloc _ _ k (hoff1 k hk).2)
          have hB3 : Below w.heap.size w (w1.alloc (.cells #[.string x.1, .int .i64 x.2] 59)) := hB1.alloc (by omega) _
          have hs3 := hs1.alloc (.cells #[.string x.1, .int .i64 x.2] 59)
          clear hF hmin hp hq' hg hT1 hIg I I2 hple hmin' hgd
          go_wp2
          go_roundg (gk - 1)
          case measure => omega
          case rel => exact ⟨false, r, done, rfl, ⟨hB3, hq3, hs3, fun k hk => (hoff1 k hk).1, (fun h => by cases h), fun _ => ⟨I3, hg3⟩⟩⟩
        | none =>
          rw [hgd] at l0
          simp only [Option.getD_none, Option.isSome_none] at l0
          have hx0 : 0 ≤ x.2 := by
            have := (I2.walk x (by simp)).pos (fun _ _ _ h => (cst_pos hok h).1)
            omega
          have hx1 : x.2 ≤ 1000000000000000 := by
            have h1 := I2.bound x (by simp)
            have h2 := I2.size
            simp only [List.length_cons] at h2
            have h3 : done.length ≤ 200000 := by omega
            omega
          have HI : ∀ m' : List Rch, m'.Perm ((get T x.1).getD []) → Inv T a (put done x.1 x.2) (r ++ m'.map fun (p : Rch) => (p.1, x.2 + p.2)) (2 * deg T) ∧ (r ++ m'.map fun (p : Rch) => (p.1, x.2 + p.2)).length + pot T (put done x.1 x.2) < gk := by
            intro m' hm'
            refine ⟨I2.take hok hmin' hgd hm', ?_⟩
            have h1 := pot_put T hok.keys done x.1 x.2 hgd
            have h2 := hm'.length_eq
            simp only [List.length_append, List.length_map, List.length_cons] at hple ⊢
            omega
          have HI := Lib.hid HI
          clear hF hmin hp hq' hg hT1 hIg I I2 hple hmin' hgd
          go_wp2_with (at_mapUpdate; refine wpList_update_SM _ rfl _ _ _ 53 9 3 rfl Try.underlying9 Try.underlying53 _ _ (hs1.alloc _) x.1 _ rfl rfl rfl ?_)
          intro w2 hs2 hg2 hz2
          rw [put_imap] at hs2
          have hT2 : TM w2 B0 b blk T := hT.below ((hB1.alloc (by omega) _).grown hg2 (by simp; omega) (fun k hk => by cases hk; exact Nat.le_refl _))
          have c2 : w2.cell? ⟨w1.heap.size, 0, none⟩ = some (.string x.1) := grown_cell hg2 (by intro e; injection e with e; simp only at e; omega) (by simp)
          have c3 : w2.cell? ⟨w1.heap.size, 1, none⟩ = some (.int .i64 x.2) := grown_cell hg2 (by intro e; injection e with e; simp only at e; omega) (by simp)
          have hB2 : Below w.heap.size w w2 := (hB1.alloc (by omega) _).grown hg2 (by simp; omega) (fun k hk => by cases hk; exact Nat.le_refl _)
          have hq2' : QU w2 w.heap.size v2 r := q_move hq2 (fun k hk => by rw [hg2.block k (by have := (hoff1 k hk).2; simp; omega) (fun e => by injection e with e; exact (hoff1 k hk).1 e)]; exact Below.heap_alloc _ _ k (hoff1 k hk).2)
          have hz2' : w2.heap.size = w1.heap.size + 1 := hz2
          have l2 := HLK.out w2 hT2
          clear hz2 hg2 hq2 l1 hcut c0 c1 hs1
          have HZ := Lib.hid hz2'
          have hz3 : w1.heap.size < w2.heap.size := by omega
          clear hz2'
          go_wp2_with (at_range; refine wpList_range_far _ rfl _ rfl w.heap.size B0 b blk T hT2 hblk x.1 _ rfl HVR.out ?_)
          intro w3 hr3 hb3 hz4
          have hq3 : QU w3 w.heap.size v2 r := q_move hq2' (fun k hk => hb3.block k (by have := q_lt hq2' k hk; omega))
          have hs3 : SM w3 w.heap.size (imap (put done x.1 x.2)) := hs2.below hb3 (by omega)
          have e1 : w3.cell? ⟨w1.heap.size, 1, none⟩ = some (.int .i64 x.2) := (hb3.cell (p := ⟨w1.heap.size, 1, none⟩) hz3).trans c3
          have hB3 : Below w.heap.size w w3 := hB2.trans (hb3.mono hB2.size)
          have hob3 : ∀ k, v2.ownBlock = some k → k ≠ w.heap.size ∧ k ≠ w1.heap.size ∧ k ≠ w2.heap.size := fun k hk => by have := hoff1 k hk; omega
          clear hb3 hz4 l2 c2 c3 hs2 hoff1 hq2' hB2 hT2
          -- THE INNER LOOP
          obtain ⟨rr, hrr⟩ : ∃ rr, rr = w2.heap.size := ⟨_, rfl⟩
          rw [← hrr] at hr3 hob3 ⊢
          have hrl : w1.heap.size < rr := by omega
          have HRR := Lib.hid hrr
          clear hrr
          obtain ⟨m, hm⟩ : ∃ m, m = (get T x.1).getD [] := ⟨_, rfl⟩
          rw [← hm] at hr3
          have hmp : ∀ p ∈ m, 1 ≤ p.2 ∧ p.2 ≤ 2147483647 := by
            rw [hm]
            cases hgt : get T x.1 with
            | none => intro p hp; simp at hp
            | some m0 => exact fun p hp => hok.pos _ (mem_of_get hgt) p hp
          have HI2 : Hid (∀ m' : List Rch, m'.Perm m → Inv T a (put done x.1 x.2) (r ++ m'.map fun (p : Rch) => (p.1, x.2 + p.2)) (2 * deg T) ∧ (r ++ m'.map fun (p : Rch) => (p.1, x.2 + p.2)).length + pot T (put done x.1 x.2) < gk) := by
            rw [hm]
            exact HI
          have HMP := Lib.hid hmp
          clear hm hmp HI
          go_wp2_with fail
          go_loopg [6] m.length (fun gi v wi => ∃ pre left : List Rch, gi = left.length ∧ (pre ++ left).Perm m ∧ RangeAt wi w.heap.size rr left ∧ QU wi w.heap.size v (r ++ pre.map fun (p : Rch) => (p.1, x.2 + p.2)) ∧ SM wi w.heap.size (imap (put done x.1 x.2)) ∧ wi.cell? ⟨w1.heap.size, 1, none⟩ = some (.int .i64 x.2) ∧ Below w.heap.size w wi ∧ (∀ k, v.ownBlock = some k → k ≠ w.heap.size ∧ k ≠ w1.heap.size ∧ k ≠ rr) ∧ rr < wi.heap.size)
          case atStart => exact ⟨[], m, rfl, List.Perm.refl _, hr3, by simpa using hq3, hs3, e1, hB3, hob3, hr3.lt⟩
          case round =>
            obtain ⟨pre, left, rfl, hpm, hR, hQ, hS, he1, hBi, hobi, hri⟩ := hrel
            have hlen2 : (r ++ pre.map fun (p : Rch) => (p.1, x.2 + p.2)).length ≤ 200000 := by
              have h1 := (HI2.out m (List.Perm.refl _)).1.size
              have h2 := hpm.length_eq
              simp only [List.length_append, List.length_map] at h1 h2 ⊢
              omega
            clear hr3 hq3 hs3 e1 hB3 hob3
            go_wp2_with (at_next; refine wpList_next_far _ rfl _ rfl w.heap.size rr left hR rfl ?_ ?_)
            · intro hl0
              subst hl0
              rw [List.append_nil] at hpm
              have hfin := HI2.out pre hpm
              go_wp2
              go_roundg (gk - 1)
              case measure => omega
              case rel => exact ⟨false, _, (put done x.1 x.2), rfl, ⟨hBi, hQ, hS, fun k hk => (hobi k hk).1, (fun h => by cases h), fun _ => ⟨hfin.1, by omega⟩⟩⟩
            · intro a1 pn pc a2 w4 hsp hR4 hg4 hz4 hent
              have hpp : (pn, pc) ∈ m := hpm.mem_iff.1 (by rw [hsp]; simp)
              obtain ⟨hp1, hp2⟩ := HMP.out _ hpp
              simp only at hp1 hp2
              have hsum : -9223372036854775808 ≤ x.2 + pc ∧ x.2 + pc ≤ 9223372036854775807 := by omega
              obtain ⟨hsum1, hsum2⟩ := hsum
              have hQ4 : QU w4 w.heap.size u6 (r ++ pre.map fun (p : Rch) => (p.1, x.2 + p.2)) := q_move hQ (fun k hk => hg4.block k (q_lt hQ k hk) (fun e => by injection e with e; exact (hobi k hk).2.2 e))
              have hS4 : SM w4 w.heap.size (imap (put done x.1 x.2)) := hS.move (hg4.block _ hS.lt (fun e => by injection e with e; have := HRR.out; omega))
              have he4 : w4.cell? ⟨w1.heap.size, 1, none⟩ = some (.int .i64 x.2) := grown_cell hg4 (by show some w1.heap.size ≠ some rr; intro e; injection e with e; omega) he1
              have hB4 : Below w.heap.size w w4 := hBi.grown hg4 hBi.size (fun k e => by cases e; omega)
              have HSP := Lib.hid hsp
              have hw4 : w.heap.size ≤ w4.heap.size := hB4.size
              clear hsp hz4 hR hQ hS he1 hBi
              go_wp2_with (at_builtin; refine wpList_append_QU _ rfl _ _ rfl w.heap.size u6 _ (pn, x.2 + pc) rfl rfl hQ4 hw4 (by omega) ?_)
              intro v5 w5 hq5 hg5 hob5
              have hrow : ∀ k, u6.ownBlock = some k → w.heap.size ≤ k ∧ k ≠ rr := fun k hk => ⟨(q_typed hQ4 k hk).1, (hobi k hk).2.2⟩
              have hR5 := (hR4.alloc (.cells #[.string pn, .int .i64 (x.2 + pc)] 59)).grown hg5 hrow
              have hS5 : SM w5 w.heap.size (imap (put done x.1 x.2)) := (hS4.alloc _).move (hg5.block _ (hS4.alloc _).lt (fun e => (hobi _ e.symm).1 rfl))
              have he5 : w5.cell? ⟨w1.heap.size, 1, none⟩ = some (.int .i64 x.2) := grown_cell hg5 (fun e => (hobi _ e.symm).2.1 rfl) (by rw [World.cell?_alloc_old _ _ _ (by have := World.block_lt_of_cell? _ _ he4; simp only at this; show w1.heap.size ≠ w4.heap.size; omega)]; exact he4)
              have hB5 : Below w.heap.size w w5 := (hB4.alloc hw4 _).grown hg5 (by simp; omega) (fun k hk => (hrow k hk).1)
              have hz5 : w4.heap.size + 1 ≤ w5.heap.size := by have := hg5.size; simpa using this
              have hr4 := hR4.lt
              have hc4 : w1.heap.size < w4.heap.size := World.block_lt_of_cell? _ _ he4
              have hob6 : ∀ k, v5.ownBlock = some k → k ≠ w.heap.size ∧ k ≠ w1.heap.size ∧ k ≠ rr := by
                intro k hk
                rcases hob5 with h | ⟨bb, h, hle⟩
                · exact hobi k (by rw [← h]; exact hk)
                · rw [hk] at h
                  injection h with h
                  subst h
                  omega
              go_wp2
              go_roundg (a1 ++ a2).length
              case measure => rw [HSP.out]; simp only [List.length_append, List.length_cons]; omega
              case rel => exact ⟨pre ++ [(pn, pc)], a1 ++ a2, rfl, (by
                refine List.Perm.trans ?_ hpm
                rw [HSP.out]
                simp only [List.append_assoc, List.singleton_append]
                refine List.Perm.append_left pre ?_
                exact List.perm_middle.symm), hR5, (by simpa using hq5), hS5, he5, hB5, hob6, by omega⟩
end Go.Proofs.Ytdnnlfdblfcajaa.Gr
