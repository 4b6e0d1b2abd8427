/- A disk's map as a list of names and bytes, in order: its readings, its room. -/
import Derived.Test.YtclibfiaihhbaaaRows
import Derived.Test.YtclibfiaihhbaaaGen
import Derived.Maps.StringElems
import Derived.StringKeys
import Derived.Maps.Ext
namespace Go.Proofs.Ytclibfiaihhbaaa
open Go.RowKit Go.ChangeMaps

/-- A name and its bytes. -/
abbrev KV := ByteArray × ByteArray
def kvLit (p : KV) : Lit × DataW Unit := (.string p.1.data.toList, .lit (.string p.2.data.toList))
def MD (l : List KV) : DataW Unit := .map (l.map kvLit)

theorem dl_inj {a b : ByteArray} (h : a.data.toList = b.data.toList) : a = b := ByteArray.ext (Array.toList_inj.1 h)
theorem key_inj {a b : ByteArray} (h : Lit.string a.data.toList = Lit.string b.data.toList) : a = b := by
  injection h with h; exact dl_inj h
theorem same_key (a b : ByteArray) : (Lit.string a.data.toList).sameKey (Lit.string b.data.toList) = decide (a = b) := by
  by_cases h : a = b
  · subst h; simp [Lit.sameKey]
  · have : a.data.toList ≠ b.data.toList := fun e => h (dl_inj e)
    simp [Lit.sameKey, h]
    intro e; exact this (by rw [e])

/-- What is held at a name. -/
def look (l : List KV) (k : ByteArray) : Option ByteArray := (l.find? fun p => decide (p.1 = k)).map (·.2)
def insKV (x : KV) : List KV → List KV
  | [] => [x]
  | y :: r => if (Lit.string x.1.data.toList).before (.string y.1.data.toList) then x :: y :: r else y :: insKV x r
def delKV (k : ByteArray) (l : List KV) : List KV := l.filter fun p => !decide (p.1 = k)
def putKV (k v : ByteArray) (l : List KV) : List KV := insKV (k, v) (delKV k l)

theorem md_find (l : List KV) (k : ByteArray) : (l.map kvLit).find? (fun p => p.1.sameKey (.string k.data.toList)) = (l.find? fun p => decide (p.1 = k)).map kvLit := by
  induction l with
  | nil => rfl
  | cons y r ih =>
    simp only [List.map_cons, List.find?_cons]
    rw [show (kvLit y).1.sameKey (.string k.data.toList) = decide (y.1 = k) from same_key y.1 k]
    cases decide (y.1 = k)
    · exact ih
    · rfl
theorem md_atKey (l : List KV) (k : ByteArray) (z : DataW Unit) : (MD l).atKey (.string k.data.toList) z = match look l k with | some v => .lit (.string v.data.toList) | none => z := by
  simp only [MD, DataW.atKey, md_find, look]
  cases l.find? fun p => decide (p.1 = k) <;> rfl
theorem md_has (l : List KV) (k : ByteArray) : Maps.has (MD l) (.string k.data.toList) = (look l k).isSome := by
  have e : Maps.has (MD l) (.string k.data.toList) = ((l.map kvLit).find? (fun p => p.1.sameKey (.string k.data.toList))).isSome := by
    rw [MD, Maps.has_eq, List.isSome_find?]
  rw [e, md_find, look]
  cases l.find? fun p => decide (p.1 = k) <;> rfl
theorem md_size (l : List KV) : Maps.size (MD l) = l.length := by rw [MD, Maps.size_eq, List.length_map]
theorem md_filter (l : List KV) (k : ByteArray) : (l.map kvLit).filter (fun p => !p.1.sameKey (.string k.data.toList)) = (delKV k l).map kvLit := by
  unfold delKV
  rw [List.filter_map]
  congr 1
  apply List.filter_congr
  intro p _
  rw [Function.comp_apply, show (kvLit p).1.sameKey (.string k.data.toList) = decide (p.1 = k) from same_key p.1 k]
theorem md_ins (x : KV) : ∀ l : List KV, DataW.insert (kvLit x) (l.map kvLit) = (insKV x l).map kvLit
  | [] => rfl
  | y :: r => by
    simp only [List.map_cons, DataW.insert, insKV, md_ins x r]
    show (if (Lit.string x.1.data.toList).before (.string y.1.data.toList) = true then _ else _) = _
    split <;> rfl
theorem md_put (l : List KV) (k v : ByteArray) : (MD l).put (.string k.data.toList) (.lit (.string v.data.toList)) = MD (putKV k v l) := by
  show DataW.map (DataW.insert (kvLit (k, v)) ((l.map kvLit).filter (fun p => !p.1.sameKey (.string k.data.toList)))) = _
  rw [md_filter, md_ins]
  rfl
theorem md_del (l : List KV) (k : ByteArray) : (MD l).del (.string k.data.toList) = MD (delKV k l) := by
  show DataW.map ((l.map kvLit).filter (fun p => !p.1.sameKey (.string k.data.toList))) = _
  rw [md_filter]
  rfl

/-- What all the names take. -/
def takesKV (p : KV) : Nat := p.1.size + p.2.size + 16
def tot : List KV → Nat
  | [] => 0
  | p :: r => takesKV p + tot r
def heldTakes (l : List KV) (k : ByteArray) : Nat := match look l k with | some v => k.size + v.size + 16 | none => 0

theorem tot_ins (x : KV) : ∀ l : List KV, tot (insKV x l) = takesKV x + tot l
  | [] => rfl
  | y :: r => by
    unfold insKV
    split
    · rfl
    · simp only [tot, tot_ins x r]; omega
theorem len_ins (x : KV) : ∀ l : List KV, (insKV x l).length = l.length + 1
  | [] => rfl
  | y :: r => by
    unfold insKV
    split
    · rfl
    · simp only [List.length_cons, len_ins x r]
theorem mem_ins (x z : KV) : ∀ l : List KV, z ∈ insKV x l ↔ z = x ∨ z ∈ l
  | [] => by simp [insKV]
  | y :: r => by
    unfold insKV
    split
    · simp
    · simp only [List.mem_cons, mem_ins x z r]
      constructor
      · rintro (h | h | h) <;> simp [h]
      · rintro (h | h | h) <;> simp [h]
/-- No name twice. -/
def Apartn (l : List KV) : Prop := l.Pairwise (fun p q => p.1 ≠ q.1)
theorem look_nil (k : ByteArray) : look [] k = none := rfl
theorem look_cons (p : KV) (l : List KV) (k : ByteArray) : look (p :: l) k = if p.1 = k then some p.2 else look l k := by
  unfold look
  rw [List.find?_cons]
  by_cases h : p.1 = k <;> simp [h]
theorem look_none {l : List KV} {k : ByteArray} (h : ∀ p ∈ l, p.1 ≠ k) : look l k = none := by
  induction l with
  | nil => rfl
  | cons y r ih => rw [look_cons, if_neg (h y (by simp)), ih (fun p hp => h p (by simp [hp]))]
theorem look_mem {l : List KV} {k v : ByteArray} (h : look l k = some v) : (k, v) ∈ l := by
  induction l with
  | nil => cases h
  | cons y r ih =>
    rw [look_cons] at h
    split at h
    · rename_i e; cases h; simp [← e]
    · simp [ih h]
theorem mem_look {l : List KV} (ha : Apartn l) {p : KV} (h : p ∈ l) : look l p.1 = some p.2 := by
  induction l with
  | nil => cases h
  | cons y r ih =>
    rw [look_cons]
    obtain ⟨h1, h2⟩ := List.pairwise_cons.1 ha
    rcases List.mem_cons.1 h with rfl | hr
    · simp
    · rw [if_neg (h1 p hr), ih h2 hr]
theorem delKV_cons (k : ByteArray) (p : KV) (l : List KV) : delKV k (p :: l) = if p.1 = k then delKV k l else p :: delKV k l := by
  unfold delKV
  rw [List.filter_cons]
  by_cases h : p.1 = k <;> simp [h]
theorem delKV_none {l : List KV} {k : ByteArray} (h : ∀ p ∈ l, p.1 ≠ k) : delKV k l = l := by
  unfold delKV
  rw [List.filter_eq_self]
  intro p hp
  simp [h p hp]
theorem mem_del {l : List KV} {k : ByteArray} {p : KV} : p ∈ delKV k l ↔ p ∈ l ∧ p.1 ≠ k := by
  unfold delKV
  simp
theorem tot_del {l : List KV} (ha : Apartn l) (k : ByteArray) : tot (delKV k l) + heldTakes l k = tot l := by
  induction l with
  | nil => rfl
  | cons y r ih =>
    obtain ⟨h1, h2⟩ := List.pairwise_cons.1 ha
    have ih := ih h2
    rw [delKV_cons]
    unfold heldTakes at ih ⊢
    rw [look_cons]
    by_cases h : y.1 = k
    · rw [if_pos h, if_pos h, delKV_none (fun p hp => by rw [← h]; exact Ne.symm (h1 p hp))]
      simp only [tot, takesKV, ← h]; omega
    · rw [if_neg h, if_neg h]
      simp only [tot]; omega
theorem len_del_le (k : ByteArray) (l : List KV) : (delKV k l).length ≤ l.length := List.length_filter_le _ _
theorem look_del_same (k : ByteArray) (l : List KV) : look (delKV k l) k = none := look_none fun p hp => (mem_del.1 hp).2
theorem look_del_other {k k' : ByteArray} (h : k' ≠ k) (l : List KV) : look (delKV k l) k' = look l k' := by
  induction l with
  | nil => rfl
  | cons y r ih =>
    rw [delKV_cons, look_cons]
    split
    · rename_i e; rw [if_neg (by rw [e]; exact fun e => h e.symm), ih]
    · rw [look_cons, ih]
theorem look_ins_same (x : KV) : ∀ l : List KV, (∀ p ∈ l, p.1 ≠ x.1) → look (insKV x l) x.1 = some x.2
  | [], _ => by simp [insKV, look_cons]
  | y :: r, h => by
    unfold insKV
    split
    · simp [look_cons]
    · rw [look_cons, if_neg (h y (by simp)), look_ins_same x r (fun p hp => h p (by simp [hp]))]
theorem look_ins_other (x : KV) (k : ByteArray) (hk : x.1 ≠ k) : ∀ l : List KV, look (insKV x l) k = look l k
  | [] => by simp [insKV, look_cons, hk, look_nil]
  | y :: r => by
    unfold insKV
    split
    · rw [look_cons, if_neg hk]
    · rw [look_cons, look_cons, look_ins_other x k hk r]
theorem look_put_same (k v : ByteArray) (l : List KV) : look (putKV k v l) k = some v := look_ins_same (k, v) _ fun p hp => (mem_del.1 hp).2
theorem look_put_other {k k' : ByteArray} (h : k' ≠ k) (v : ByteArray) (l : List KV) : look (putKV k v l) k' = look l k' := by
  unfold putKV
  rw [look_ins_other _ _ (fun e => h e.symm), look_del_other h]
theorem apart_del {l : List KV} (h : Apartn l) (k : ByteArray) : Apartn (delKV k l) := List.Pairwise.filter _ h
theorem apart_ins (x : KV) : ∀ l : List KV, Apartn l → (∀ p ∈ l, p.1 ≠ x.1) → Apartn (insKV x l)
  | [], _, _ => by simp [insKV, Apartn]
  | y :: r, h, hx => by
    unfold insKV
    split
    · exact List.pairwise_cons.2 ⟨fun p hp => Ne.symm (hx p hp), h⟩
    · obtain ⟨h1, h2⟩ := List.pairwise_cons.1 h
      refine List.pairwise_cons.2 ⟨fun p hp => ?_, apart_ins x r h2 fun p hp => hx p (by simp [hp])⟩
      rcases (mem_ins _ _ _).1 hp with rfl | hp
      · exact hx y (by simp)
      · exact h1 p hp
theorem apart_put {l : List KV} (h : Apartn l) (k v : ByteArray) : Apartn (putKV k v l) := apart_ins _ _ (apart_del h k) fun _ hp => (mem_del.1 hp).2
theorem tot_put {l : List KV} (h : Apartn l) (k v : ByteArray) : tot (putKV k v l) + heldTakes l k = tot l + (k.size + v.size + 16) := by
  unfold putKV
  rw [tot_ins]
  have := tot_del h k
  simp only [takesKV]; omega
theorem len_tot : ∀ l : List KV, 16 * l.length ≤ tot l
  | [] => by simp
  | p :: r => by have := len_tot r; simp only [List.length_cons, tot, takesKV]; omega
theorem mem_tot {p : KV} : ∀ {l : List KV}, p ∈ l → takesKV p ≤ tot l
  | y :: r, h => by
    rcases List.mem_cons.1 h with rfl | h
    · simp only [tot]; omega
    · have := mem_tot h; simp only [tot]; omega
theorem look_size {l : List KV} {k v : ByteArray} (h : look l k = some v) : k.size + v.size + 16 ≤ tot l := mem_tot (look_mem h)

/-- What is still to come takes. -/
def totLeft (left : Lit → Bool) (l : List KV) : Nat := tot (l.filter fun p => left (.string p.1.data.toList))
theorem totLeft_all {l : List KV} (left : Lit → Bool) (h : ∀ p ∈ l, left (.string p.1.data.toList) = true) : totLeft left l = tot l := by
  unfold totLeft
  rw [List.filter_eq_self.2 h]
theorem totLeft_has (l : List KV) : totLeft (Maps.has (MD l)) l = tot l := totLeft_all _ fun p hp => by
  rw [md_has]
  cases h : look l p.1
  · unfold look at h
    simp only [Option.map_eq_none_iff, List.find?_eq_none] at h
    exact absurd (h p hp) (by simp)
  · rfl
theorem totLeft_none {l : List KV} {left : Lit → Bool} (h : ∀ k, left k = false) : totLeft left l = 0 := by
  unfold totLeft
  rw [List.filter_eq_nil_iff.2 (fun p _ => by simp [h])]
  rfl
theorem totLeft_step {l : List KV} (ha : Apartn l) {left : Lit → Bool} {k v : ByteArray} (hk : left (.string k.data.toList) = true) (hv : look l k = some v) :
    totLeft left l = totLeft (fun z => left z && !z.sameKey (.string k.data.toList)) l + (k.size + v.size + 16) := by
  have e : (l.filter fun p => (left (.string p.1.data.toList) && !(Lit.string p.1.data.toList).sameKey (.string k.data.toList))) = delKV k (l.filter fun p => left (.string p.1.data.toList)) := by
    unfold delKV
    rw [List.filter_filter]
    apply List.filter_congr
    intro p _
    rw [same_key, Bool.and_comm]
  unfold totLeft
  rw [e]
  have h1 := tot_del (l := l.filter fun p => left (.string p.1.data.toList)) (List.Pairwise.filter _ ha) k
  have h2 : look (l.filter fun p => left (.string p.1.data.toList)) k = some v := by
    have := mem_look (l := l.filter fun p => left (.string p.1.data.toList)) (List.Pairwise.filter _ ha) (p := (k, v)) (List.mem_filter.2 ⟨look_mem hv, hk⟩)
    exact this
  rw [← h1]
  unfold heldTakes
  rw [h2]

/-- The map's block reads as the list. -/
abbrev MapAt (w : World) (b : Nat) (l : List KV) : Prop := w.ownsMap Try.prog 9 (plainElem Try.prog 9) b l.length (MD l)
theorem Try.keyed9 : Maps.Keyed Try.prog 9 := Maps.string_keyed Try.underlying9
theorem own_exact {w : World} {b n : Nat} {l : List KV} (h : w.ownsMap Try.prog 9 (plainElem Try.prog 9) b n (MD l)) : MapAt w b l := by
  have hd := h
  obtain ⟨es, clock, hb, F, hs, hD⟩ := h
  refine ⟨es, clock, hb, F, ?_, hD⟩
  have := congrArg Maps.size hD
  rw [md_size, Maps.size_eq, length_read] at this
  omega
theorem MapAt.apart {w : World} {b : Nat} {l : List KV} (h : MapAt w b l) : Apartn l := by
  obtain ⟨es, he, hp, _⟩ := World.ownsMap.entries h Try.keyed9
  have : l.map kvLit = es := by
    unfold MD at he; injection he
  subst this
  rw [List.pairwise_map] at hp
  exact hp.imp fun {p q} hne e => hne (by unfold kvLit; rw [e])
theorem MapAt.chg {S : Nat → Prop} {w w' : World} {b : Nat} {l : List KV} (h : MapAt w b l) (hc : Chg S w w') (hn : ¬ S b) : MapAt w' b l := by
  obtain ⟨es, clock, hb, r⟩ := h
  exact ⟨es, clock, (hc.block b (Array.getElem?_eq_some_iff.1 hb).1 hn).trans hb, r⟩
theorem turned_chg {w w' : World} {b : Nat} (h : w.mapTurned w' b) : Chg (fun k => k = b) w w' :=
  (Chg.grown h.grown).mono fun i hi => by injection hi
theorem MapAt.key_le {w : World} {b : Nat} {l : List KV} (h : MapAt w b l) : ∀ p ∈ l, p.1.size ≤ tot l ∧ p.2.size ≤ tot l := fun p hp => by
  have := mem_tot hp
  unfold takesKV at this; omega
end Go.Proofs.Ytclibfiaihhbaaa
