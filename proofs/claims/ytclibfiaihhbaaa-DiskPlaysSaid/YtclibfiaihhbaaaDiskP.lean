/- The document's disk: a list of names with their bytes; plain laws. -/
import Derived.Test.YtclibfiaihhbaaaDiskN
import Derived.Test.YtclibfiaihhbaaaDiskF
namespace Go.Proofs.Ytclibfiaihhbaaa
open Go.RowKit Go.ChangeMaps

/-- The place of a name, as a number; -1. -/
def findI : List KV → ByteArray → Int
  | [], _ => -1
  | p :: r, k => if p.1 = k then 0 else if findI r k < 0 then -1 else findI r k + 1

theorem findI_ge : ∀ (l : List KV) (k : ByteArray), -1 ≤ findI l k
  | [], _ => by simp [findI]
  | p :: r, k => by
    have := findI_ge r k
    unfold findI
    split
    · omega
    · split <;> omega
theorem findI_none : ∀ (l : List KV) (k : ByteArray), (∀ p ∈ l, p.1 ≠ k) → findI l k = -1
  | [], _, _ => rfl
  | p :: r, k, h => by
    unfold findI
    rw [if_neg (h p (by simp)), findI_none r k (fun q hq => h q (by simp [hq]))]
    rfl
theorem findI_at : ∀ (l : List KV) (k : ByteArray) (i : Nat) (p : KV), l[i]? = some p → p.1 = k → (∀ j q, j < i → l[j]? = some q → q.1 ≠ k) → findI l k = (i : Int)
  | [], _, _, _, h, _, _ => by simp at h
  | p :: r, k, 0, q, h, hk, _ => by
    simp at h
    subst h
    unfold findI
    rw [if_pos hk]
    rfl
  | p :: r, k, i + 1, q, h, hk, hn => by
    have h1 := findI_at r k i q (by simpa using h) hk (fun j q' hj hq => hn (j + 1) q' (by omega) (by simpa using hq))
    unfold findI
    rw [if_neg (hn 0 p (by omega) (by simp)), h1, if_neg (by omega)]
    omega
theorem find_look (l : List KV) (k : ByteArray) : (findI l k = -1 ∧ look l k = none) ∨ (∃ (i : Nat) (u : ByteArray), findI l k = (i : Int) ∧ l[i]? = some (k, u) ∧ look l k = some u ∧ (l.map fun p => p.2)[i]? = some u) := by
  induction l with
  | nil => exact .inl ⟨rfl, rfl⟩
  | cons p r ih =>
    unfold findI
    rw [look_cons]
    by_cases h : p.1 = k
    · rw [if_pos h, if_pos h]
      exact .inr ⟨0, p.2, rfl, by simp [← h], rfl, by simp⟩
    · rw [if_neg h, if_neg h]
      rcases ih with ⟨h1, h2⟩ | ⟨i, u, h1, h2, h3, h4⟩
      · rw [if_pos (by omega)]
        exact .inl ⟨rfl, h2⟩
      · rw [if_neg (by omega)]
        exact .inr ⟨i + 1, u, by omega, by simpa using h2, h3, by simpa using h4⟩

theorem ins_lt {x y : KV} (h : x.1.data.toList < y.1.data.toList) (r : List KV) : insKV x (y :: r) = x :: y :: r := by
  unfold insKV
  exact if_pos ((before_lt _ _).2 h)
theorem ins_ge {x y : KV} (h : ¬ (x.1.data.toList < y.1.data.toList)) (r : List KV) : insKV x (y :: r) = y :: insKV x r := by
  show (if (Lit.string x.1.data.toList).before (.string y.1.data.toList) = true then _ else _) = _
  exact if_neg (fun hb => h ((before_lt _ _).1 hb))
/-- The list with a name put in, as the document walks it: so far. -/
theorem ins_none (x : KV) : ∀ l : List KV, (∀ p ∈ l, ¬ (x.1.data.toList < p.1.data.toList)) → insKV x l = l ++ [x]
  | [], _ => rfl
  | y :: r, h => by
    unfold insKV
    have h1 : (Lit.string x.1.data.toList).before (.string y.1.data.toList) = false := by
      have := h y (by simp)
      rw [← before_lt] at this
      exact Bool.eq_false_iff.2 this
    rw [h1, ins_none x r (fun p hp => h p (by simp [hp]))]
    rfl
theorem ins_snoc_put (x y : KV) : ∀ l : List KV, (∃ p ∈ l, x.1.data.toList < p.1.data.toList) → insKV x (l ++ [y]) = insKV x l ++ [y]
  | [], h => by obtain ⟨p, hp, _⟩ := h; cases hp
  | z :: r, h => by
    simp only [List.cons_append, insKV]
    split
    · rfl
    · rename_i hb
      rw [ins_snoc_put x y r]
      · rfl
      · obtain ⟨p, hp, hlt⟩ := h
        rcases List.mem_cons.1 hp with rfl | hp
        · exact absurd ((before_lt _ _).2 hlt) hb
        · exact ⟨p, hp, hlt⟩
theorem ins_snoc_here (x y : KV) (hy : x.1.data.toList < y.1.data.toList) (l : List KV) (h : ∀ p ∈ l, ¬ (x.1.data.toList < p.1.data.toList)) : insKV x (l ++ [y]) = l ++ [x, y] := by
  induction l with
  | nil =>
    exact ins_lt hy []
  | cons z r ih =>
    rw [List.cons_append, ins_ge (h z (by simp)), ih (fun p hp => h p (by simp [hp]))]
    rfl

/-- Where a name stands already, putting it changes its bytes alone. -/
theorem put_set : ∀ (l : List KV) (k u v : ByteArray) (i : Nat), Rising l → l[i]? = some (k, u) → putKV k v l = l.set i (k, v)
  | [], _, _, _, _, _, h => by simp at h
  | y :: r, k, u, v, 0, hr, h => by
    simp at h
    subst h
    obtain ⟨h1, h2⟩ := List.pairwise_cons.1 hr
    unfold putKV
    rw [delKV_cons, if_pos rfl, delKV_none (fun p hp e => by have := h1 p hp; simp only [e] at this; exact List.lt_irrefl _ this)]
    cases r with
    | nil => rfl
    | cons z t =>
      exact ins_lt (x := (k, v)) (h1 z (by simp)) t
  | y :: r, k, u, v, i + 1, hr, h => by
    obtain ⟨h1, h2⟩ := List.pairwise_cons.1 hr
    have hm : (k, u) ∈ r := List.mem_of_getElem? (by simpa using h)
    have hlt := h1 (k, u) hm
    have ih := put_set r k u v i h2 (by simpa using h)
    have hne : y.1 ≠ k := fun e => by simp only [e] at hlt; exact List.lt_irrefl _ hlt
    unfold putKV at *
    rw [delKV_cons, if_neg hne, ins_ge (x := (k, v)) (List.lt_asymm hlt), ih]
    rfl

/-- No name is empty. -/
def NoEmpty (l : List KV) : Prop := ∀ p ∈ l, p.1.size ≠ 0
theorem no_put {l : List KV} (h : NoEmpty l) {k : ByteArray} (hk : k.size ≠ 0) (v : ByteArray) : NoEmpty (putKV k v l) := fun p hp => by
  rcases (mem_ins _ _ _).1 hp with rfl | hp
  · exact hk
  · exact h p (mem_del.1 hp).1
theorem no_done {l : List KV} (h : NoEmpty l) (size : Nat) (a : ActV) : NoEmpty (doneS size l a) := by
  unfold doneS
  split
  · exact h
  · split
    · exact fun p hp => h p (mem_del.1 hp).1
    · split
      · unfold spoilS
        split
        · rename_i u hu
          split
          · exact h
          · exact no_put h (h _ (look_mem hu)) _
        · exact h
      · split
        · intro p hp; cases hp
        · unfold writeS
          split
          · exact h
          · split
            · exact h
            · exact no_put h (by omega) _
theorem del_empty {l : List KV} (h : NoEmpty l) : delKV ByteArray.empty l = l := delKV_none fun p hp e => h p hp (by rw [e]; rfl)
theorem rising_del {l : List KV} (h : Rising l) (k : ByteArray) : Rising (delKV k l) := List.Pairwise.filter _ h

end Go.Proofs.Ytclibfiaihhbaaa
