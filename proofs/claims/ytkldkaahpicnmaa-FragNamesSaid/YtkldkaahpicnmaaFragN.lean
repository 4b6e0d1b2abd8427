/- A region that draws its order: an invariant on what is listed serves all orders at once. -/
import Derived.Test.YtkldkaahpicnmaaFragI
import Derived.Orders
namespace Go.Proofs.Ytkldkaahpicnmaa
open Go.RowKit

theorem wpOp_mono' {P : Program} {ops : Array Oper} {Q : Exit → Act → World → Prop} {i : Nat} {K K' : Act → World → Prop} {a : Act} {w : World} (h : ∀ a w, K a w → K' a w) (hh : wpOp P ops Q i K a w) : wpOp P ops Q i K' a w := by
  unfold wpOp at *
  split
  · rename_i he; rw [he] at hh; exact h _ _ hh
  · rename_i o he
    rw [he] at hh
    simp only at hh
    split
    · rename_i hw
      rw [if_pos hw] at hh
      exact hh.imp (fun q => Oper.wp_mono h q) id
    · rename_i hw
      rw [if_neg hw] at hh
      exact h _ _ hh

theorem wpOp_some {P : Program} {ops : Array Oper} {Q : Exit → Act → World → Prop} {i : Nat} {K : Act → World → Prop} {a : Act} {w : World} {o : Oper} (ho : ops[i]? = some o)
    (h : if Region.wanted o (yielded ops a.tmps) = true then o.wp P a w K Q else K (a.put o.dst undef) w) : wpOp P ops Q i K a w := by
  unfold wpOp
  rw [ho]
  simp only
  split
  · rename_i hw; rw [if_pos hw] at h; exact .inl h
  · rename_i hw; rw [if_neg hw] at h; exact h

def unl (l : List Bool) : Nat := l.count false

theorem unl_set : ∀ (l : List Bool) (i : Nat), l[i]? = some false → unl (l.set i true) + 1 = unl l
  | [], i, h => by simp at h
  | b :: l, 0, h => by
    simp at h
    subst h
    simp [unl]
  | b :: l, i + 1, h => by
    have := unl_set l i (by simpa using h)
    unfold unl at *
    rw [List.set_cons_succ, List.count_cons, List.count_cons]
    omega

theorem wpAny_inv {P : Program} {ops : Array Oper} {Q : Exit → Act → World → Prop} (I : Array Bool → Act → World → Prop)
    (hdep : ∀ (i : Nat) (o : Oper), ops[i]? = some o → ∀ e ∈ o.after, e.on < i)
    (hstep : ∀ (i : Nat) (o : Oper) (listed : Array Bool) (a : Act) (w : World), ops[i]? = some o → I listed a w → (∀ e ∈ o.after, Region.binds .any e = true → listed.getD e.on false = true) →
      listed.size = ops.size → wpOp P ops Q i (fun a' w' => I (listed.setIfInBounds i true) a' w') a w)
    (hdone : ∀ (listed : Array Bool) (a : Act) (w : World), I listed a w → (∀ i : Nat, i < ops.size → listed.getD i false = true) → Q .normal a w) :
    ∀ (fuel : Nat) (listed : Array Bool) (a : Act) (w : World), listed.size = ops.size → I listed a w → unl listed.toList ≤ fuel → wpAny P .any ops Q fuel listed a w := by
  have hall : ∀ listed : Array Bool, listed.size = ops.size → Region.ready .any ops listed = [] → ∀ i, i < ops.size → listed.getD i false = true := by
    intro listed hsz hr i
    induction i using Nat.strongRecOn with
    | _ i ih =>
      intro hi
      cases hl : listed.getD i false with
      | true => rfl
      | false =>
        exfalso
        have hmem : i ∈ Region.ready .any ops listed := by
          unfold Region.ready
          refine List.mem_filter.2 ⟨List.mem_range.2 hi, ?_⟩
          have h1 : listed.getD i true = false := by
            have hlt : i < listed.size := by omega
            simp [hlt] at hl ⊢
            exact hl
          rw [h1]
          simp only [Bool.not_false, Bool.true_and]
          rw [Array.getElem?_eq_getElem hi]
          simp only [Option.map_some, Option.getD_some]
          rw [Array.all_eq_true']
          intro e he
          have := hdep i ops[i] (Array.getElem?_eq_getElem hi) e he
          rw [ih e.on this (by omega)]
          simp
        rw [hr] at hmem
        cases hmem
  intro fuel
  induction fuel with
  | zero =>
    intro listed a w hsz hI hu
    have hl : ∀ i, i < ops.size → listed.getD i false = true := by
      intro i hi
      cases h : listed.getD i false with
      | true => rfl
      | false =>
        exfalso
        have hlt : i < listed.size := by omega
        have h2 : listed.toList[i]? = some false := by simp [hlt] at h ⊢; exact h
        have := unl_set _ _ h2
        omega
    refine ⟨?_, hdone _ _ _ hI hl⟩
    unfold Region.ready
    rw [List.filter_eq_nil_iff]
    intro i hi
    have hlt : i < listed.size := by rw [hsz]; exact List.mem_range.1 hi
    have := hl i (by omega)
    simp [hlt] at this ⊢
    simp [this]
  | succ fuel ih =>
    intro listed a w hsz hI hu
    refine ⟨fun hr => hdone _ _ _ hI (hall listed hsz hr), fun i hi => ?_⟩
    unfold Region.ready at hi
    obtain ⟨h1, h2⟩ := List.mem_filter.1 hi
    have hio : i < ops.size := List.mem_range.1 h1
    simp only [Bool.and_eq_true, Array.getElem?_eq_getElem hio, Option.map_some, Option.getD_some] at h2
    have hlt : i < listed.size := by omega
    have hf : listed.toList[i]? = some false := by
      have := h2.1
      simp [hlt] at this ⊢
      exact this
    refine wpOp_mono' (fun a' w' hI' => ih _ a' w' (by simpa using hsz) hI' ?_) (hstep i ops[i] listed a w (Array.getElem?_eq_getElem hio) hI (fun e he hb => ?_) hsz)
    · have := unl_set _ _ hf
      rw [Array.toList_setIfInBounds]
      omega
    · have := Array.all_eq_true'.1 h2.2 e he
      rw [hb] at this
      simpa using this

end Go.Proofs.Ytkldkaahpicnmaa
