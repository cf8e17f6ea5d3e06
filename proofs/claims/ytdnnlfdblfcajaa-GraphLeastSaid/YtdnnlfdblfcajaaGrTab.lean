/- graph.tabled: the table of a list of edges, in memory that the call makes. No conditions. -/
import Derived.Test.YtdnnlfdblfcajaaGrOps
import Derived.Test.YtdnnlfdblfcajaaGrWays
import Derived.Test.YtdnnlfdblfcajaaWWords
import Derived.Test.YtdnnlfdblfcajaaProg
import Derived.WalkSpells
import Derived.LoopTactic
import Derived.Outline
import Derived.Lib.Hide
namespace Go.Proofs.Ytdnnlfdblfcajaa.Gr
open Go.RowKit Go.Proofs.YtdnnlfdblfcajaaW.PrintWords
abbrev Ed := GE ByteArray
def EK (e : Ed) (cs : List Value) : Prop := cs = [.string e.A, .string e.B, .int .i64 e.c]
def imap (m : List (ByteArray × Int)) : List (ByteArray × Value) := m.map fun p => (p.1, Value.int .i64 p.2)
def omap (blk : ByteArray → Nat) (T : Tab ByteArray) : List (ByteArray × Value) := T.map fun p => (p.1, Value.map (some (blk p.1)))
structure TM (w : World) (B b : Nat) (blk : ByteArray → Nat) (T : Tab ByteArray) : Prop where
  out : SM w b (omap blk T)
  inn : ∀ p ∈ T, SM w (blk p.1) (imap p.2)
  ge : B ≤ b ∧ ∀ p ∈ T, B ≤ blk p.1 ∧ blk p.1 ≠ b
  inj : ∀ p ∈ T, ∀ q ∈ T, blk p.1 = blk q.1 → p.1 = q.1
theorem str_eq {a b : ByteArray} : a.toList = b.toList ↔ a = b := by
  rw [Go.ByteArray.toList_eq, Go.ByteArray.toList_eq]
  constructor
  · intro h
    cases a
    cases b
    simpa using h
  · rintro rfl; rfl
theorem get_omap (blk : ByteArray → Nat) (T : Tab ByteArray) (a : ByteArray) : get (omap blk T) a = (get T a).map fun _ => Value.map (some (blk a)) := by
  induction T with
  | nil => rfl
  | cons p r ih =>
    obtain ⟨k, m⟩ := p
    by_cases e : a = k
    · subst e; simp [omap, get]
    · simp only [omap, List.map_cons, get, if_neg e]
      exact ih
theorem get_imap (m : List (ByteArray × Int)) (a : ByteArray) : get (imap m) a = (get m a).map (Value.int .i64) := by
  induction m with
  | nil => rfl
  | cons p r ih =>
    obtain ⟨k, c⟩ := p
    by_cases e : a = k
    · subst e; simp [imap, get]
    · simp only [imap, List.map_cons, get, if_neg e]
      exact ih
theorem put_imap (m : List (ByteArray × Int)) (a : ByteArray) (c : Int) : put (imap m) a (.int .i64 c) = imap (put m a c) := by
  induction m with
  | nil => rfl
  | cons p r ih =>
    obtain ⟨k, d⟩ := p
    by_cases e : a = k
    · subst e; simp [imap, put]
    · simp only [imap, List.map_cons, put, if_neg e] at ih ⊢
      rw [ih]
theorem omap_put_old {blk : ByteArray → Nat} {T : Tab ByteArray} {a : ByteArray} {m0 m : List (ByteArray × Int)} (h : get T a = some m0) : omap blk (put T a m) = omap blk T := by
  induction T with
  | nil => simp [get] at h
  | cons p r ih =>
    obtain ⟨k, d⟩ := p
    by_cases e : a = k
    · subst e; simp [omap, put]
    · simp only [get, if_neg e] at h
      have := ih h
      simp only [omap, List.map_cons, put, if_neg e] at this ⊢
      rw [this]
def setBlk (blk : ByteArray → Nat) (a : ByteArray) (n : Nat) : ByteArray → Nat := fun x => if x = a then n else blk x
theorem omap_put_new {blk : ByteArray → Nat} {T : Tab ByteArray} {a : ByteArray} {n : Nat} (h : get T a = none) : omap (setBlk blk a n) (put T a []) = put (omap blk T) a (.map (some n)) := by
  induction T with
  | nil => simp [omap, put, setBlk]
  | cons p r ih =>
    obtain ⟨k, d⟩ := p
    by_cases e : a = k
    · subst e; simp [get] at h
    · simp only [get, if_neg e] at h
      have := ih h
      simp only [omap, List.map_cons, put, if_neg e] at this ⊢
      rw [this]
      simp [setBlk, Ne.symm e]
theorem SM.alloc {w : World} {b : Nat} {m : List (ByteArray × Value)} (h : SM w b m) (o : Obj) : SM (w.alloc o) b m := h.below ((Below.refl _ w).alloc (Nat.le_refl _) o) h.lt
theorem TM.below {w w' : World} {B b : Nat} {blk : ByteArray → Nat} {T : Tab ByteArray} (h : TM w B b blk T) (hb : Below w.heap.size w w') : TM w' B b blk T :=
  ⟨h.out.below hb h.out.lt, fun p hp => (h.inn p hp).below hb (h.inn p hp).lt, h.ge, h.inj⟩
theorem TM.alloc {w : World} {B b : Nat} {blk : ByteArray → Nat} {T : Tab ByteArray} (h : TM w B b blk T) (o : Obj) : TM (w.alloc o) B b blk T := h.below ((Below.refl _ w).alloc (Nat.le_refl _) o)
theorem TM.new {w w2 : World} {B b : Nat} {blk : ByteArray → Nat} {T : Tab ByteArray} {a : ByteArray} (h : TM w B b blk T) (hB : B ≤ w.heap.size) (ha : get T a = none) (hg : (w.alloc (.map #[] 0)).grownBy w2 (some b)) (hs : SM w2 b (put (omap blk T) a (.map (some w.heap.size)))) :
    TM w2 B b (setBlk blk a w.heap.size) (put T a []) := by
  have hne : ∀ p ∈ T, p.1 ≠ a := fun p hp e => by
    have := get_none_iff.1 ha
    exact this (e ▸ List.mem_map.2 ⟨p, hp, rfl⟩)
  have hblk : ∀ p ∈ T, setBlk blk a w.heap.size p.1 = blk p.1 := fun p hp => by simp [setBlk, hne p hp]
  have hblt : b < w.heap.size := h.out.lt
  have hin : ∀ p ∈ put T a [], (p = (a, []) ∨ p ∈ T) := fun p hp => mem_put hp
  refine ⟨by rw [omap_put_new ha]; exact hs, fun p hp => ?_, ⟨h.ge.1, fun p hp => ?_⟩, fun p hp q hq hpq => ?_⟩
  · rcases hin p hp with rfl | hp
    · have : SM (w.alloc (.map #[] 0)) w.heap.size [] := SM.made w
      have h2 : setBlk blk a w.heap.size a = w.heap.size := by simp [setBlk]
      show SM w2 (setBlk blk a w.heap.size a) (imap [])
      rw [h2]
      exact this.move (hg.block _ (by simp) (by intro e; injection e with e; omega))
    · rw [hblk p hp]
      have hl := (h.inn p hp).lt
      exact ((h.inn p hp).alloc _).move (hg.block _ (by simp; omega) (by intro e; injection e with e; exact (h.ge.2 p hp).2 e))
  · rcases hin p hp with rfl | hp
    · show B ≤ setBlk blk a w.heap.size a ∧ setBlk blk a w.heap.size a ≠ b
      simp only [setBlk, if_true]
      omega
    · rw [hblk p hp]
      exact h.ge.2 p hp
  · rcases hin p hp with rfl | hp <;> rcases hin q hq with rfl | hq
    · rfl
    · have hl := (h.inn q hq).lt
      rw [hblk q hq] at hpq
      simp only [setBlk, if_true] at hpq
      omega
    · have hl := (h.inn p hp).lt
      rw [hblk p hp] at hpq
      simp only [setBlk, if_true] at hpq
      omega
    · rw [hblk p hp, hblk q hq] at hpq
      exact h.inj p hp q hq hpq
theorem TM.set {w w2 : World} {B b : Nat} {blk : ByteArray → Nat} {T : Tab ByteArray} (hT : Keys T) {a s : ByteArray} {c : Int} {m : List (ByteArray × Int)} (h : TM w B b blk T) (ha : get T a = some m) (hg : w.grownBy w2 (some (blk a))) (hs : SM w2 (blk a) (put (imap m) s (.int .i64 c))) :
    TM w2 B b blk (put T a (put m s c)) := by
  have hma := mem_of_get ha
  have hmem : ∀ p ∈ put T a (put m s c), p = (a, put m s c) ∨ (p ∈ T ∧ p.1 ≠ a) := by
    intro p hp
    have hk := hT.put a (put m s c)
    by_cases e : p.1 = a
    · left
      have h1 := get_of_mem hk (k := p.1) (v := p.2) hp
      rw [get_put, if_pos e] at h1
      injection h1 with h1
      exact Prod.ext e h1.symm
    · right
      rcases mem_put hp with rfl | hp
      · exact absurd rfl e
      · exact ⟨hp, e⟩
  refine ⟨?_, fun p hp => ?_, ⟨h.ge.1, fun p hp => ?_⟩, fun p hp q hq hpq => ?_⟩
  · rw [omap_put_old ha]
    exact h.out.move (hg.block _ h.out.lt (by intro e; injection e with e; exact (h.ge.2 _ hma).2 e.symm))
  · rcases hmem p hp with rfl | ⟨hp, hne⟩
    · show SM w2 (blk a) (imap (put m s c))
      rw [← put_imap]
      exact hs
    · exact (h.inn p hp).move (hg.block _ (h.inn p hp).lt (by intro e; injection e with e; exact hne (h.inj p hp _ hma e)))
  · rcases hmem p hp with rfl | ⟨hp, hne⟩
    · have := h.ge.2 _ hma
      exact this
    · exact h.ge.2 p hp
  · have key : ∀ p ∈ put T a (put m s c), ∃ q ∈ T, q.1 = p.1 := by
      intro p hp
      rcases hmem p hp with rfl | ⟨hp, hne⟩
      · exact ⟨_, hma, rfl⟩
      · exact ⟨p, hp, rfl⟩
    obtain ⟨p', hp', e1⟩ := key p hp
    obtain ⟨q', hq', e2⟩ := key q hq
    have := h.inj p' hp' q' hq' (by rw [e1, e2]; exact hpq)
    rw [← e1, ← e2, this]
theorem put_put {κ α : Type} [DecidableEq κ] (T : List (κ × α)) (a : κ) (x y : α) : put (put T a x) a y = put T a y := by
  induction T with
  | nil => simp [put]
  | cons p r ih =>
    obtain ⟨k, v⟩ := p
    by_cases e : a = k
    · subst e; simp [put]
    · simp [put, e, ih]
theorem grown_cell {w w' : World} {row : Option Nat} (hg : w.grownBy w' row) {a : Addr} {v : Value} (hne : some a.block ≠ row) (h : w.cell? a = some v) : w'.cell? a = some v := by
  have := hg.block _ (World.block_lt_of_cell? w _ h) hne
  unfold World.cell? at h ⊢
  rw [this]
  exact h
theorem TM.look {W : World} {B b : Nat} {blk : ByteArray → Nat} {T : Tab ByteArray} (h : TM W B b blk T) {a : ByteArray} {m : List (ByteArray × Int)} (ha : get T a = some m) :
    Sem.run Try.prog (Instr.lookup 45 (.map (some b)) (.string a) false) W = .ok (.map (some (blk a))) W := by
  have := h.out.lookup_ok Try.underlying9 Try.underlying45 Try.zeroValue53 a false
  rw [get_omap, ha] at this
  exact this
theorem TM.look_none {W : World} {B b : Nat} {blk : ByteArray → Nat} {T : Tab ByteArray} (h : TM W B b blk T) {a : ByteArray} (ha : get T a = none) :
    Sem.run Try.prog (Instr.lookup 45 (.map (some b)) (.string a) false) W = .ok (.map none) W := by
  have := h.out.lookup_ok Try.underlying9 Try.underlying45 Try.zeroValue53 a false
  rw [get_omap, ha] at this
  exact this
theorem TM.look2 {W : World} {B b : Nat} {blk : ByteArray → Nat} {T : Tab ByteArray} (h : TM W B b blk T) {a : ByteArray} {m : List (ByteArray × Int)} (ha : get T a = some m) (s : ByteArray) :
    Sem.run Try.prog (Instr.lookup 53 (.map (some (blk a))) (.string s) true) W = .ok (.tuple #[.int .i64 ((get m s).getD 0), .bool (get m s).isSome]) W := by
  have := (h.inn _ (mem_of_get ha)).lookup_ok Try.underlying9 Try.underlying53 Try.zeroValue3 s true
  rw [get_imap] at this
  simp only [if_true] at this
  rw [this]
  cases get m s <;> rfl
theorem cells_of (ad : Addr) (k : Nat) {w : World} {c : List Value} (h : ∀ i u, c[i]? = some u → w.cell? (ad.add (k * 3 + i)) = some u) (A B : ByteArray) (x : Int) (hc : c = [.string A, .string B, .int .i64 x]) :
    w.cell? (ad.add (k * 3)) = some (.string A) ∧ w.cell? ⟨(ad.add (k * 3)).block, (ad.add (k * 3)).off + 1, none⟩ = some (.string B) ∧ w.cell? ⟨(ad.add (k * 3)).block, (ad.add (k * 3)).off + 2, none⟩ = some (.int .i64 x) := by
  subst hc
  refine ⟨h 0 _ rfl, ?_, ?_⟩
  · rw [← add_field _ _ _ (by omega)]; exact h 1 _ rfl
  · rw [← add_field _ _ _ (by omega)]; exact h 2 _ rfl
set_option maxHeartbeats 2000000 in
set_option maxRecDepth 100000 in
theorem tabled_calls (A : Option Addr) (cap : Nat) (l : List Ed) (w : World) (hr : ReadsRow EK 3 w A l.length l) :
    Calls Try.prog 18 #[.slice A l.length cap] w fun e w' => ∃ b blk, e = .returned (.map (some b)) ∧ TM w' w.heap.size b blk (tab l) ∧ Below w.heap.size w w' := by
  have hmm := @run_makeMap Try.prog
  have q53 : ∀ (w : World) (r : Option Nat), (binOp .eql 53 (.map r) (.map none)).run Try.prog w = .ok (.bool r.isNone) w := fun w r => run_eql_map_nil w _ _ _ r Try.underlying53
  go_enter Try.func18, Try.ntmps18
  go_wp2
  go_loopw [11] (fun i wr => ∃ (k : Nat) (blk : ByteArray → Nat), k ≤ l.length ∧ i = .int .i64 k ∧ TM wr w.heap.size w.heap.size blk (tab (l.take k)) ∧ Below w.heap.size w wr) (fun i _ => l.length - (intOf i).toNat)
  case atStart =>
    exact ⟨0, fun _ => 0, Nat.zero_le _, rfl, ⟨SM.made w, by simp [tab], ⟨Nat.le_refl _, by simp [tab]⟩, by simp [tab]⟩, (Below.refl _ w).alloc (Nat.le_refl _) _⟩
  case round =>
    obtain ⟨k, blk, hk, rfl, hT, hB⟩ := hrel
    have hlen : l.length ≤ 9223372036854775807 := hr.2.1
    by_cases hlt : k < l.length
    · obtain ⟨ad, hA, hcell⟩ := hr.2.2 (by omega)
      obtain ⟨c, hc1, hc2, hc3⟩ := hcell k _ (List.getElem?_eq_getElem hlt)
      obtain ⟨c0, c1, c2⟩ := cells_of ad k hc3 _ _ _ hc2
      subst hA
      have d0 := (hB.cell (World.block_lt_of_cell? w _ c0)).trans c0
      have d1 := (hB.cell (World.block_lt_of_cell? w _ c1)).trans c1
      have d2 := (hB.cell (World.block_lt_of_cell? w _ c2)).trans c2
      clear c0 c1 c2 hc3 hcell hc2
      have hst : tab (l.take (k + 1)) = tabStep (tab (l.take k)) l[k] := by
        unfold tab
        rw [List.take_succ_eq_append_getElem hlt, List.foldl_append]
        rfl
      generalize l[k] = e at d0 d1 d2 hst
      obtain ⟨ea, eb, ec⟩ := e
      simp only at d0 d1 d2
      have HST := Lib.hid hst
      clear hst
      by_cases h1 : ea = eb
      · subst h1
        have hTn : TM (wr.alloc (.cells #[.string ea, .string ea, .int .i64 ec] 40)) w.heap.size w.heap.size blk (tab (l.take (k + 1))) := by
          rw [HST.out]
          unfold tabStep
          rw [if_neg (fun h => (counts_iff.1 h).1 rfl)]
          exact hT.alloc _
        have hBa : Below w.heap.size w (wr.alloc (.cells #[.string ea, .string ea, .int .i64 ec] 40)) := hB.alloc (by have := hT.out.lt; omega) _
        go_wp2
        go_roundw
        case rel => exact ⟨k + 1, blk, by omega, by go_num, hTn, hBa⟩
        case measure => simp [intOf]; omega
      · have h1' : (ea.toList == eb.toList) = false := by rw [beq_eq_false_iff_ne]; exact fun h => h1 (str_eq.1 h)
        by_cases h23 : ec < 1 ∨ 2147483647 < ec
        · have hTn : TM (wr.alloc (.cells #[.string ea, .string eb, .int .i64 ec] 40)) w.heap.size w.heap.size blk (tab (l.take (k + 1))) := by
            rw [HST.out]
            unfold tabStep
            rw [if_neg (fun h => by have := (counts_iff.1 h).2; simp only at this; omega)]
            exact hT.alloc _
          have hBa : Below w.heap.size w (wr.alloc (.cells #[.string ea, .string eb, .int .i64 ec] 40)) := hB.alloc (by have := hT.out.lt; omega) _
          by_cases h2 : ec < 1
          · go_wp2
            go_roundw
            case rel => exact ⟨k + 1, blk, by omega, by go_num, hTn, hBa⟩
            case measure => simp [intOf]; omega
          · have h3 : 2147483647 < ec := by omega
            go_wp2
            go_roundw
            case rel => exact ⟨k + 1, blk, by omega, by go_num, hTn, hBa⟩
            case measure => simp [intOf]; omega
        · have h2 : ¬ ec < 1 := fun h => h23 (.inl h)
          have h3 : ¬ 2147483647 < ec := fun h => h23 (.inr h)
          clear h23
          cases hg : get (tab (l.take k)) ea with
            | none =>
              have l1 : ∀ o, Sem.run Try.prog (Instr.lookup 45 (.map (some w.heap.size)) (.string ea) false) (wr.alloc o) = .ok (.map none) (wr.alloc o) := fun o => by
                have := (hT.out.alloc o).lookup_ok Try.underlying9 Try.underlying45 Try.zeroValue53 ea false
                rw [get_omap, hg] at this
                exact this
              have HG := Lib.hid hg
              clear hg
              go_wp2_with (at_mapUpdate; refine wpList_update_SM _ rfl _ _ _ 45 9 53 rfl Try.underlying9 Try.underlying45 _ _ ((hT.out.alloc _).alloc _) ea _ rfl rfl rfl ?_)
              intro w2 hs2 hg2 hz2
              have hlb := hT.out.lt
              have hT2 := (hT.alloc (.cells #[.string ea, .string eb, .int .i64 ec] 40)).new (w2 := w2) (by simp; omega) HG.out hg2 (by simpa using hs2)
              have e0 : w2.cell? ⟨wr.heap.size, 0, none⟩ = some (.string ea) := grown_cell hg2 (by simp; omega) (by simp)
              have e1 : w2.cell? ⟨wr.heap.size, 1, none⟩ = some (.string eb) := grown_cell hg2 (by simp; omega) (by simp)
              have e2 : w2.cell? ⟨wr.heap.size, 2, none⟩ = some (.int .i64 ec) := grown_cell hg2 (by simp; omega) (by simp)
              have hB2 : Below w.heap.size w w2 := ((hB.alloc (by omega) _).alloc (by simp; omega) _).grown hg2 (by simp; omega) (by simp)
              generalize hblk2 : setBlk blk ea (wr.alloc (.cells #[.string ea, .string eb, .int .i64 ec] 40)).heap.size = blk2 at hT2
              have HT2 : get (put (tab (l.take k)) ea []) ea = some [] := by rw [get_put, if_pos rfl]
              have l2 := hT2.look HT2
              have l3 := hT2.look2 HT2 eb
              have HHT2 := Lib.hid HT2
              clear HT2 hs2 l1 hblk2 hz2
              simp only [get, Option.getD_none, Option.isSome_none] at l3
              go_wp2_with (at_mapUpdate; refine wpList_update_SM _ rfl _ _ _ 53 9 3 rfl Try.underlying9 Try.underlying53 _ _ (hT2.inn _ (mem_of_get HHT2.out)) eb _ rfl rfl rfl ?_)
              intro w3 hs3 hg3 hz3
              have hT3 := hT2.set ((tab_ok _).keys.put ea []) HHT2.out hg3 hs3
              have hB3 : Below w.heap.size w w3 := hB2.grown hg3 hB2.size (fun j hj => by cases hj; exact (hT2.ge.2 _ (mem_of_get HHT2.out)).1)
              have hTn : TM w3 w.heap.size w.heap.size blk2 (tab (l.take (k + 1))) := by
                rw [HST.out]
                unfold tabStep
                rw [if_pos (counts_iff.2 ⟨h1, by simp only; omega⟩), HG.out]
                simp only [Option.getD_none, less, get]
                rw [put_put] at hT3
                exact hT3
              clear hT3 hs3 hz3 l2 l3 e0 e1 e2
              go_wp2
              go_roundw
              case rel => exact ⟨k + 1, blk2, by omega, by go_num, hTn, hB3⟩
              case measure => simp [intOf]; omega
            | some m =>
              have hTa := hT.alloc (.cells #[.string ea, .string eb, .int .i64 ec] 40)
              have hlb := hT.out.lt
              have hBa : Below w.heap.size w (wr.alloc (.cells #[.string ea, .string eb, .int .i64 ec] 40)) := hB.alloc (by omega) _
              have l2 := hTa.look hg
              have l3 := hTa.look2 hg eb
              have hmem := mem_of_get hg
              have HG := Lib.hid hg
              clear hg
              cases hd : get m eb with
              | none =>
                rw [hd] at l3
                simp only [Option.getD_none, Option.isSome_none] at l3
                go_wp2_with (at_mapUpdate; refine wpList_update_SM _ rfl _ _ _ 53 9 3 rfl Try.underlying9 Try.underlying53 _ _ (hTa.inn _ hmem) eb _ rfl rfl rfl ?_)
                intro w3 hs3 hg3 hz3
                have hT3 := hTa.set (tab_ok _).keys HG.out hg3 hs3
                have hB3 : Below w.heap.size w w3 := hBa.grown hg3 hBa.size (fun j hj => by cases hj; exact (hTa.ge.2 _ hmem).1)
                have hTn : TM w3 w.heap.size w.heap.size blk (tab (l.take (k + 1))) := by
                  rw [HST.out]
                  unfold tabStep
                  rw [if_pos (counts_iff.2 ⟨h1, by simp only; omega⟩), HG.out]
                  simp only [Option.getD_some, less, hd]
                  exact hT3
                clear hT3 hs3 hz3 l2 l3
                go_wp2
                go_roundw
                case rel => exact ⟨k + 1, blk, by omega, by go_num, hTn, hB3⟩
                case measure => simp [intOf]; omega
              | some d =>
                rw [hd] at l3
                simp only [Option.getD_some, Option.isSome_some] at l3
                have HD := Lib.hid hd
                clear hd
                by_cases hlt2 : ec < d
                · go_wp2_with (at_mapUpdate; refine wpList_update_SM _ rfl _ _ _ 53 9 3 rfl Try.underlying9 Try.underlying53 _ _ (hTa.inn _ hmem) eb _ rfl rfl rfl ?_)
                  intro w3 hs3 hg3 hz3
                  have hT3 := hTa.set (tab_ok _).keys HG.out hg3 hs3
                  have hB3 : Below w.heap.size w w3 := hBa.grown hg3 hBa.size (fun j hj => by cases hj; exact (hTa.ge.2 _ hmem).1)
                  have hTn : TM w3 w.heap.size w.heap.size blk (tab (l.take (k + 1))) := by
                    rw [HST.out]
                    unfold tabStep
                    rw [if_pos (counts_iff.2 ⟨h1, by simp only; omega⟩), HG.out]
                    simp only [Option.getD_some, less, HD.out, if_pos hlt2]
                    exact hT3
                  clear hT3 hs3 hz3 l2 l3
                  go_wp2
                  go_roundw
                  case rel => exact ⟨k + 1, blk, by omega, by go_num, hTn, hB3⟩
                  case measure => simp [intOf]; omega
                · have hTn : TM (wr.alloc (.cells #[.string ea, .string eb, .int .i64 ec] 40)) w.heap.size w.heap.size blk (tab (l.take (k + 1))) := by
                    rw [HST.out]
                    unfold tabStep
                    rw [if_pos (counts_iff.2 ⟨h1, by simp only; omega⟩), HG.out]
                    simp only [Option.getD_some, less, HD.out, if_neg hlt2]
                    rw [put_self HG.out]
                    exact hTa
                  go_wp2
                  go_roundw
                  case rel => exact ⟨k + 1, blk, by omega, by go_num, hTn, hBa⟩
                  case measure => simp [intOf]; omega
    · go_wp2
      go_ret
      obtain rfl : k = l.length := by omega
      rw [List.take_length] at hT
      exact ⟨_, blk, rfl, hT, hB⟩
end Go.Proofs.Ytdnnlfdblfcajaa.Gr
