/- A region that draws its order, by an invariant that each operation keeps. No conditions. -/
import Derived.Orders
import Derived.RegionTactic
import Derived.Still
namespace Go.Proofs.Ytdnnlfdblfcajaa.Gr
open Go
section
variable {P : Program} {ops : Array Oper} {Q : Exit → Act → World → Prop}
def onB (listed : Array Bool) (i : Nat) : Bool := listed.getD i false
theorem count_set (listed : Array Bool) (i : Nat) (hi : i < listed.size) (h : listed.getD i true = false) : (listed.setIfInBounds i true).toList.count false + 1 = listed.toList.count false := by
  have h2 : listed.toList[i]'(by simpa using hi) = false := by
    simp [hi] at h
    simpa using h
  rw [Array.toList_setIfInBounds, List.count_set (by simpa using hi)]
  have h3 : 0 < listed.toList.count false := List.count_pos_iff.2 (h2 ▸ List.getElem_mem _)
  rw [h2]
  simp only [beq_self_eq_true, if_true]
  have : (true == false) = false := rfl
  rw [this]
  simp only [Bool.false_eq_true, if_false]
  omega
theorem wpAny_inv (I : (Nat → Bool) → Act → World → Prop) (hback : ∀ (i : Nat) (o : Oper), ops[i]? = some o → ∀ e ∈ o.after, e.on < i)
    (hstep : ∀ (L : Nat → Bool) (a : Act) (w : World) (i : Nat) (o : Oper), ops[i]? = some o → L i = false → (∀ e ∈ o.after, Region.binds .any e = true → L e.on = true) → I L a w → ∀ K : Act → World → Prop, (∀ a' w', I (fun j => if j = i then true else L j) a' w' → K a' w') →
      if Region.wanted o (yielded ops a.tmps) = true then Oper.wp P o a w K Q else K (a.put o.dst undef) w)
    (hend : ∀ L a w, (∀ i, i < ops.size → L i = true) → I L a w → Q .normal a w) :
    ∀ fuel (listed : Array Bool) a w, listed.size = ops.size → listed.toList.count false ≤ fuel → I (onB listed) a w → wpAny P .any ops Q fuel listed a w := by
  have hall : ∀ listed : Array Bool, listed.size = ops.size → Region.ready .any ops listed = [] → ∀ i, i < ops.size → onB listed i = true := by
    intro listed hs hr i
    induction i using Nat.strongRecOn with
    | ind i ih =>
      intro hi
      cases hb : onB listed i with
      | true => rfl
      | false =>
        exfalso
        have h1 : i ∈ Region.ready .any ops listed := by
          refine mem_ready.2 ⟨?_, ops[i], by simp [hi], fun e he _ => ?_⟩
          · have : i < listed.size := by omega
            simp [onB, this] at hb ⊢
            exact hb
          · have := hback i ops[i] (by simp [hi]) e he
            exact ih e.on this (by omega)
        rw [hr] at h1
        cases h1
  intro fuel
  induction fuel with
  | zero =>
    intro listed a w hs hc hI
    have hno : ∀ i, listed.getD i true = true := by
      intro i
      rcases Nat.lt_or_ge i listed.size with h | h
      · simp [h]
        cases hb : listed[i] with
        | true => rfl
        | false =>
          have : 0 < listed.toList.count false := List.count_pos_iff.2 (hb ▸ by simp)
          omega
      · simp [Array.getElem?_eq_none h]
    have hr : Region.ready .any ops listed = [] := by
      cases hr : Region.ready .any ops listed with
      | nil => rfl
      | cons i r =>
        have h1 : i ∈ Region.ready .any ops listed := by rw [hr]; simp
        have := (mem_ready.1 h1).1
        rw [hno i] at this
        cases this
    exact ⟨hr, hend _ a w (hall listed hs hr) hI⟩
  | succ fuel ih =>
    intro listed a w hs hc hI
    refine ⟨fun hr => hend _ a w (hall listed hs hr) hI, fun i hi => ?_⟩
    obtain ⟨h1, o, ho, h2⟩ := mem_ready.1 hi
    have hil : i < listed.size := by
      have := (Array.getElem?_eq_some_iff.1 ho).1
      omega
    refine wpOp_step ho (fun K hK => hstep (onB listed) a w i o ho (by simp [hil] at h1; simp [onB, hil, h1]) h2 hI K (fun a' w' h => hK a' w' ?_))
    refine ih _ a' w' (by simp [hs]) (by have := count_set listed i hil h1; omega) ?_
    have : onB (listed.setIfInBounds i true) = fun j => if j = i then true else onB listed j := by
      funext j
      by_cases e : j = i
      · subst e
        simp [onB, hil]
      · rw [if_neg e]
        simp [onB, Array.getElem?_setIfInBounds_ne (fun h => e h.symm)]
    rw [this]
    exact h
theorem back_of (ops : Array Oper) (h : (ops.toList.zipIdx.all fun p => p.1.after.toList.all fun e => decide (e.on < p.2)) = true) : ∀ (i : Nat) (o : Oper), ops[i]? = some o → ∀ e ∈ o.after, e.on < i := by
  intro i o ho e he
  rw [List.all_eq_true] at h
  have h1 := h (o, i) (by
    rw [List.mk_mem_zipIdx_iff_getElem?]
    simpa using ho)
  rw [List.all_eq_true] at h1
  simpa using h1 e (by simpa using he)
theorem wp_region_inv {id : Nat} {a : Act} {w : World} (hm : P.follows .mixedOrders = true) (I : (Nat → Bool) → Act → World → Prop) (hback : ∀ (i : Nat) (o : Oper), ops[i]? = some o → ∀ e ∈ o.after, e.on < i) (h0 : I (fun _ => false) a w.drew)
    (hstep : ∀ (L : Nat → Bool) (a : Act) (w : World) (i : Nat) (o : Oper), ops[i]? = some o → L i = false → (∀ e ∈ o.after, Region.binds .any e = true → L e.on = true) → I L a w → ∀ K : Act → World → Prop, (∀ a' w', I (fun j => if j = i then true else L j) a' w' → K a' w') →
      if Region.wanted o (yielded ops a.tmps) = true then Oper.wp P o a w K Q else K (a.put o.dst undef) w)
    (hend : ∀ L a w, (∀ i, i < ops.size → L i = true) → I L a w → Q .normal a w) : (Code.region id ops true).wp P Q a w := by
  refine wp_region_any hm (wpAny_inv I hback hstep hend ops.size _ a w.drew (by simp) (by simp) ?_)
  have : onB (Array.replicate ops.size false) = fun _ => false := by
    funext j
    rcases Nat.lt_or_ge j ops.size with h | h <;> simp [onB, h]
  rw [this]
  exact h0
end
end Go.Proofs.Ytdnnlfdblfcajaa.Gr
