/- slices.Sorted(maps.Keys(m)): the map's keys by rising bytes, in a new row. No conditions. -/
import Derived.Test.YtdnnlfdblfcajaaGrTab
import Derived.Test.YtdnnlfdblfcajaaGrIter
namespace Go.Proofs.Ytdnnlfdblfcajaa.Gr
open Go.RowKit Go.Sort Go.Shelf Go.Proofs.YtdnnlfdblfcajaaW.PrintWords
def bleB (x y : ByteArray) : Bool := decide (x.data.toList ≤ y.data.toList)
def skeys {α : Type} (m : List (ByteArray × α)) : List ByteArray := (m.map (·.1)).mergeSort bleB
theorem mem_skeys {α : Type} {m : List (ByteArray × α)} {s : ByteArray} : s ∈ skeys m ↔ s ∈ m.map (·.1) := (List.mergeSort_perm _ _).mem_iff
theorem skeys_perm {α : Type} (m : List (ByteArray × α)) : (skeys m).Perm (m.map (·.1)) := List.mergeSort_perm _ _
theorem ble_trans (a b c : ByteArray) (h1 : bleB a b = true) (h2 : bleB b c = true) : bleB a c = true := by
  simp only [bleB, decide_eq_true_eq] at *
  exact List.le_trans h1 h2
theorem ble_total (a b : ByteArray) : (bleB a b || bleB b a) = true := by
  simp only [bleB, Bool.or_eq_true, decide_eq_true_eq]
  exact List.le_total _ _
theorem ble_antisymm {a b : ByteArray} (h1 : bleB a b = true) (h2 : bleB b a = true) : a = b := by
  simp only [bleB, decide_eq_true_eq] at h1 h2
  have := List.le_antisymm h1 h2
  cases a
  cases b
  simpa using this
theorem skeys_sorted {α : Type} (m : List (ByteArray × α)) : (skeys m).Pairwise (fun a b => bleB a b = true) := List.pairwise_mergeSort ble_trans ble_total _
theorem enc_eta (s : ByteArray) : encStr s.data.toList = .string s := by
  unfold encStr
  cases s
  simp
theorem skeys_enc {α : Type} (m : List (ByteArray × α)) {ss : List (List UInt8)} (h : ss.Perm (m.map fun p => p.1.data.toList)) : (ss.mergeSort (fun x y => decide (x ≤ y))).map encStr = (skeys m).map Value.string := by
  have h1 : ss.mergeSort leB = (m.map fun p => p.1.data.toList).mergeSort leB := mergeSort_of_perm h
  have h2 : (skeys m).map (fun s => s.data.toList) = (m.map fun p => p.1.data.toList).mergeSort leB := by
    unfold skeys
    have := List.map_mergeSort (r := bleB) (s := leB) (f := fun s : ByteArray => s.data.toList) (l := m.map (·.1)) (fun a _ b _ => rfl)
    rw [this, List.map_map]
    rfl
  show (ss.mergeSort leB).map encStr = _
  rw [h1, ← h2, List.map_map]
  exact List.map_congr_left fun s _ => enc_eta s
theorem SM.owns {w : World} {b : Nat} {m : List (ByteArray × Value)} (h : SM w b m) (hs : ∀ p ∈ m, p.1.size ≤ maxLen) (hl : m.length ≤ maxLen) :
    ∃ D : DataW Unit, w.ownsMap Try.prog 9 (fun _ => some (.nil, [])) b m.length D ∧ Maps.size D = m.length ∧ (strKeys D).Perm (m.map fun p => p.1.data.toList) := by
  obtain ⟨es, clock, hb, hst, he⟩ := h
  have hlen : es.size = m.length := by have := congrArg List.length he; simpa using this
  have hmem : ∀ x ∈ es.toList, ∃ p ∈ m, x.key = .string p.1 := by
    intro x hx
    have : (x.key, x.val) ∈ m.map (fun p => (Value.string p.1, p.2)) := he ▸ List.mem_map.2 ⟨x, hx, rfl⟩
    obtain ⟨p, hp, e1⟩ := List.mem_map.1 this
    simp only [Prod.mk.injEq] at e1
    exact ⟨p, hp, e1.1.symm⟩
  have hkey : ∀ s : ByteArray, s.size ≤ maxLen → keyOf Try.prog 9 (.string s) = some (.string s.data.toList) := fun s hs => by simp [keyOf, Try.underlying9, mapKey, hs]
  have hrd : ∀ x ∈ es.toList, ∀ p ∈ m, x.key = .string p.1 → WideElems.rd Try.prog 9 (fun _ => some ((.nil : DataW Unit), [])) x = some (.string p.1.data.toList, .nil) := by
    intro x _ p hp e1
    simp [WideElems.rd, e1, hkey _ (hs p hp)]
  refine ⟨_, ⟨es, clock, hb, ⟨by omega, hst, fun x hx => ?_⟩, by omega, rfl⟩, ?_, ?_⟩
  · obtain ⟨p, hp, e1⟩ := hmem x hx
    exact ⟨_, hrd x hx p hp e1⟩
  · simp [Maps.size, length_sorted, hlen]
  · show (List.map (fun p => strOf p.1) (List.foldr DataW.insert [] _)).Perm _
    refine ((WideShapes.sorted_perm _).map _).trans ?_
    rw [List.map_map]
    refine List.Perm.of_eq ?_
    have h1 : es.toList.map ((fun p : Lit × DataW Unit => strOf p.1) ∘ WideElems.rg Try.prog 9 fun _ => some (.nil, [])) = m.map fun p => p.1.data.toList := by
      have h2 : m.map (fun p => p.1.data.toList) = (m.map fun p => (Value.string p.1, p.2)).map fun q => match q.1 with | .string s => s.data.toList | _ => [] := by
        rw [List.map_map]
        rfl
      rw [h2, ← he, List.map_map]
      refine List.map_congr_left fun x hx => ?_
      obtain ⟨p, hp, e1⟩ := hmem x hx
      simp only [Function.comp]
      rw [WideElems.rg_of (hrd x hx p hp e1), e1]
      rfl
    exact h1
theorem keys_calls (mb : Option Nat) (W : World) : Calls Try.prog 22 #[.map mb] W fun e w' => e = .returned (.func (.func 28) #[] #[.pointer (some ⟨W.heap.size, 0, none⟩)]) ∧ w' = W.alloc (.cells #[.map mb] 53) := callsIn_wide.1 (Try.maps_Keys_22 mb W)
/-- the map, or none -/
def MapAt (w : World) (mb : Option Nat) (m : List (ByteArray × Int)) : Prop := match mb with | some b => SM w b (imap m) | none => m = []
theorem sorted_calls (w : World) (mb : Option Nat) (m : List (ByteArray × Int)) (h : MapAt w mb m) (hs : ∀ p ∈ m, p.1.size ≤ maxLen) (hl : m.length ≤ 1000000) :
    Calls Try.prog 21 #[.func (.func 28) #[] #[.pointer (some ⟨w.heap.size, 0, none⟩)]] (w.alloc (.cells #[.map mb] 53)) fun e w' => ∃ v, e = .returned v ∧ Kd.string.R 9 w' (w.heap.size + 1) (fun _ => True) v (skeys m) ∧ Below (w.heap.size + 1) (w.alloc (.cells #[.map mb] 53)) w' := by
  have key : ∀ (v : Value) (w' : World) (ss : List (List UInt8)), ss.Perm (m.map fun p => p.1.data.toList) → w'.ownsRow (w.alloc (.cells #[.map mb] 53)).heap.size 9 1 v ss.length ((ss.mergeSort (fun x y => decide (x ≤ y))).map encStr) → Kd.string.R 9 w' (w.heap.size + 1) (fun _ => True) v (skeys m) := by
    intro v w' ss hss hrow
    rw [skeys_enc m hss] at hrow
    have hn : ss.length = (skeys m).length := by rw [hss.length_eq, (skeys_perm m).length_eq]; simp
    rw [hn, World.size_alloc] at hrow
    refine ⟨fun _ _ => trivial, _, hrow, by simp [Kd.string, Kd.scalar], fun j p hj => ?_⟩
    have hjl := (List.getElem?_eq_some_iff.1 hj).1
    show List.take 1 (List.drop (j * 1) _) = [Value.string p]
    rw [Nat.mul_one]
    have h1 : ((skeys m).map Value.string)[j]? = some (.string p) := by rw [List.getElem?_map, hj]; rfl
    have h2 : j < ((skeys m).map Value.string).length := by simpa using hjl
    rw [List.drop_eq_getElem_cons h2]
    rw [List.getElem?_eq_getElem h2] at h1
    injection h1 with h1
    rw [h1]
    rfl
  cases mb with
  | some b =>
    obtain ⟨D, hD, hsz, hk⟩ := SM.owns h (by intro p hp; obtain ⟨q, hq, rfl⟩ := List.mem_map.1 hp; exact hs q hq) (by simp [imap, maxLen]; omega)
    have hlen : (imap m).length = m.length := by simp [imap]
    have hcon := callsIn_wide.1 (Try.slices_Sorted_keys_21_22 b (imap m).length D _ w hD (by rw [hsz, hlen]; simp only [maxLen]; omega) (by rw [hsz, hlen]; omega))
    refine hcon.mono ?_
    rintro e w' ⟨v, ss, rfl, hS, hrow, _, hb⟩
    rw [World.size_alloc] at hb
    refine ⟨v, rfl, key v w' ss (hS.trans ?_) hrow, hb⟩
    have : (imap m).map (fun p => p.1.data.toList) = m.map fun p => p.1.data.toList := by simp [imap]
    rw [← this]
    exact hk
  | none =>
    have hm : m = [] := h
    have hcon := callsIn_wide.1 (Try.slices_Sorted_keys_nil_21_22 w)
    refine hcon.mono ?_
    rintro e w' ⟨v, ss, rfl, hS, hrow, _, hb⟩
    rw [World.size_alloc] at hb
    exact ⟨v, rfl, key v w' ss (by rw [hS, hm]; exact List.Perm.refl _) hrow, hb⟩
end Go.Proofs.Ytdnnlfdblfcajaa.Gr
