/- slices.SortFunc on the workers' row, with choose's comparing function. -/
import Derived.Test.YtboccnbncipnpaaPlaceA
namespace Go.Proofs.Ytboccnbncipnpaa
open Go.RowKit Go.Sort Go.Shelf

section
variable {α : Type} [Inhabited α] (enc : α → Value)

theorem holds_row {w : World} {g : Nat} {cur : Array Value} {e : TypeId} (xs : List α) (hb : w.heap[g]? = some (.cells cur e (0, 0))) (ht : cur.toList.take xs.length = xs.map enc) : Holds enc w g 0 xs.toArray := by
  intro j hj
  have hj' : j < xs.length := by simpa using hj
  refine ⟨?_, by simp [World.frozen?, hb]⟩
  have h1 : (cur.toList.take xs.length)[j]? = (xs.map enc)[j]? := by rw [ht]
  rw [List.getElem?_take_of_lt hj'] at h1
  simp only [World.cell?, hb, Nat.zero_add]
  simp only [Option.isSome_none, Bool.false_eq_true, if_false]
  rw [← Array.getElem?_toList, h1]
  simp [hj']

theorem heap_sort {w : World} {g n : Nat} {os : Array Obj} {cur : Array Value} {e : TypeId} {fr : Nat × Nat} (d : Array α) (hb : w.heap[g]? = some (.cells cur e fr)) :
    (sortWorld enc w g 0 n d os).heap[g]? = some (.cells (putCells enc 0 d cur) e fr) := by
  have hg : g < w.heap.size := (Array.getElem?_eq_some_iff.1 hb).1
  unfold sortWorld
  rw [heap_grow_old _ _ (by simpa using hg)]
  simp [putRow, mapBlock, Sort.ahead, Array.getElem?_modify, hb, onCells]

theorem chg_sort {w : World} {g n : Nat} {os : Array Obj} (d : Array α) : Chg (fun k => k = g) w (sortWorld enc w g 0 n d os) := by
  refine ⟨rfl, rfl, rfl, by simp [sortWorld], fun k hk hne => ?_⟩
  unfold sortWorld
  rw [heap_grow_old _ _ (by simpa using hk)]
  have : g ≠ k := fun e => hne e.symm
  simp [putRow, mapBlock, Sort.ahead, Array.getElem?_modify, this]

theorem take_put (cur : Array Value) (d : Array α) (h : d.size ≤ cur.size) : (putCells enc 0 d cur).toList.take d.size = d.toList.map enc := by
  apply List.ext_getElem?
  intro j
  by_cases hj : j < d.size
  · rw [List.getElem?_take_of_lt hj, Array.getElem?_toList]
    simp [putCells, hj, show j < cur.size by omega]
  · rw [List.getElem?_take_eq_none (by omega), List.getElem?_eq_none (by simp; omega)]
end

theorem cmpI_neg (a b : Int) : cmpI a b < 0 ↔ a < b := by
  unfold cmpI
  by_cases h : a < b
  · simp [h]
  · by_cases h2 : b < a <;> simp [h, h2]
theorem cmpI_zero (a b : Int) : cmpI a b = 0 ↔ a = b := by
  unfold cmpI
  by_cases h : a < b
  · rw [if_pos h]; constructor <;> intro e <;> omega
  · rw [if_neg h]
    by_cases h2 : b < a
    · rw [if_pos h2]; constructor <;> intro e <;> omega
    · rw [if_neg h2]; constructor <;> intro e <;> omega
theorem orI_neg (a b c d : Int) : orI (cmpI a b) (cmpI c d) < 0 ↔ a < b ∨ (a = b ∧ c < d) := by
  unfold orI
  by_cases h : cmpI a b = 0
  · rw [if_pos h, cmpI_neg]
    have := (cmpI_zero a b).1 h
    omega
  · rw [if_neg h, cmpI_neg]
    have : ¬ a = b := fun e => h ((cmpI_zero a b).2 e)
    omega

theorem addr_add_block (a : Addr) (n : Nat) : (a.add n).block = a.block := by unfold Addr.add; split <;> rfl

/-- Worker j goes ahead of worker i. -/
def Ahead (loads : List Int) (f n : Int) (j i : Nat) : Prop :=
  loads.getD j 0 < loads.getD i 0 ∨ (loads.getD j 0 = loads.getD i 0 ∧ ((j : Int) - f) % n < ((i : Int) - f) % n)

theorem cfI_neg (loads : List Int) (f n : Int) (i j : Nat) : cfI loads f n i j < 0 ↔ Ahead loads f n i j := by
  unfold cfI Ahead
  rw [orI_neg, Int.toNat_natCast, Int.toNat_natCast]

theorem cfI_swo (loads : List Int) (f n : Int) (N : Nat) : SWO (ltOf fun (i j : Fin (N + 1)) => cfI loads f n (i.val : Nat) (j.val : Nat)) := by
  refine ⟨fun x => ?_, fun x y z h1 h2 => ?_, fun x y z h1 h2 => ?_⟩ <;> simp only [ltOf, decide_eq_true_eq, decide_eq_false_iff_not, cfI_neg, Ahead] at * <;> omega

theorem sort_any (xs : List Nat) (loads : List Int) (f n : Int) (v : Value) (pl pb pf pw A : Addr) (c : Nat) (w : World) (base : Nat) (hx : ∀ x ∈ xs, x < loads.length) (hne : xs ≠ []) (hl : (loads.length : Int) = n) (hn : n ≤ 1000) (hf0 : 0 ≤ f) (hf1 : f < n)
    (hown : w.ownsRow base 3 1 v xs.length (xs.map fun (i : Nat) => Value.int .i64 i)) (hcmp : CmpAt w pl pb pf pw A c loads f n) (hbase : base ≤ w.heap.size) (h1 : pl.block < base) (h2 : pb.block < base) (h3 : pf.block < base) (h4 : pw.block < base) (h5 : A.block < base) (hxl : xs.length ≤ 1000) :
    Calls Try.prog 16 #[v, .func (.func 17) #[] #[.pointer (some pl), .pointer (some pb)]] w fun e w' => e = .returned (.tuple #[]) ∧ ∃ ys : List Nat, ys.Perm xs ∧ ys.Pairwise (fun i j => ¬ Ahead loads f n j i) ∧ w'.ownsRow base 3 1 v ys.length (ys.map fun (i : Nat) => Value.int .i64 i) ∧ Chg (fun k => some k = v.ownBlock) w w' := by
  obtain ⟨N, hN⟩ : ∃ N, loads.length = N + 1 := by
    obtain ⟨x, r, rfl⟩ := List.exists_cons_of_ne_nil hne
    have := hx x (by simp)
    exact ⟨loads.length - 1, by omega⟩
  obtain ⟨ds, hds⟩ : ∃ ds : List (Fin (N + 1)), ds.map Fin.val = xs := by
    refine ⟨xs.map (Fin.ofNat (N + 1)), ?_⟩
    rw [List.map_map]
    conv => rhs; rw [← List.map_id xs]
    refine List.map_congr_left fun x hx' => ?_
    have := hx x hx'
    simp [Fin.ofNat, Nat.mod_eq_of_lt (show x < N + 1 by omega)]
  have hmap : ∀ l : List (Fin (N + 1)), l.map (fun i => Value.int .i64 (i.val : Nat)) = (l.map Fin.val).map fun (i : Nat) => Value.int .i64 i := fun l => by rw [List.map_map]; rfl
  have hlen : ds.length = xs.length := by rw [← hds, List.length_map]
  rcases hown.2 with ⟨_, h0⟩ | ⟨g, cap, cur, rfl, hg, hb, c1, c2, c3, c4⟩
  · exact absurd (List.length_eq_zero_iff.1 h0) hne
  rw [Nat.mul_one] at c4
  have hgs : g < w.heap.size := (Array.getElem?_eq_some_iff.1 hb).1
  have hH : Holds (fun i : Fin (N + 1) => Value.int .i64 (i.val : Nat)) w g 0 ds.toArray := holds_row _ ds hb (by rw [hlen, c4, hmap, hds])
  have hC : CmpLays1 Try.prog 17 #[.pointer (some pl), .pointer (some pb)] (fun i : Fin (N + 1) => Value.int .i64 (i.val : Nat)) (fun i j => cfI loads f n (i.val : Nat) (j.val : Nat)) g 0 ds.toArray.size w := by
    intro m os dk hdk x y
    have ho := fun (a : Addr) (ha : a.block < base) => (chg_sort (fun i : Fin (N + 1) => Value.int .i64 (i.val : Nat)) (w := w) (g := g) (n := m) (os := os) dk).cell (p := a) (by omega) (by omega)
    obtain ⟨k1, k2, k3, k4, k5⟩ := hcmp
    exact cmp_any x.val y.val f n pl pb pf pw A c loads _ ⟨(ho _ h1).trans k1, (ho _ h2).trans k2, (ho _ h3).trans k3, (ho _ h4).trans k4, fun j v hv => (ho (A.add j) (by rw [addr_add_block]; exact h5)).trans (k5 j v hv)⟩ hl (by have := x.isLt; omega) (by have := y.isLt; omega) hf0 hf1 hn
  have key := Try.slices_SortFunc (fun i : Fin (N + 1) => Value.int .i64 (i.val : Nat)) (fun _ => rfl) _ (cfI_swo loads f n N) 17 #[.pointer (some pl), .pointer (some pb)] g 0 cap ds.toArray w (enters_of Try.func17 (by kernel_rfl) rfl) hC hH hgs (by simp; omega)
  rw [show ds.toArray.size = xs.length by simp [hlen]] at key
  refine key.mono ?_
  rintro e w' ⟨rfl, d', n', os, ⟨p1, p2, p3⟩, hs, rfl⟩
  have hd : d'.size = ds.length := by simpa using p1
  refine ⟨rfl, d'.toList.map Fin.val, ?_, ?_, ?_, ?_⟩
  · rw [← hds]
    refine List.Perm.map _ ?_
    have e1 : d'.extract 0 xs.length = d' := by rw [← hlen, ← hd, Array.extract_size]
    have e2 : ds.toArray.extract 0 xs.length = ds.toArray := by rw [← hlen]; simp
    rw [e1, e2] at p3
    simpa using p3
  · rw [List.pairwise_map, List.pairwise_iff_getElem]
    intro i j hi hj hij
    have := hs i j (Nat.zero_le _) hij (by simp at hj; omega)
    simp only [ltOf, decide_eq_false_iff_not, cfI_neg] at this
    simp only [Array.length_toList] at hi hj
    rwa [getElem!_pos _ i hi, getElem!_pos _ j hj] at this
  · have ht := take_put (fun i : Fin (N + 1) => Value.int .i64 (i.val : Nat)) cur d' (by omega)
    refine ⟨by simp, .inr ⟨g, cap, _, by simp [hd, hlen], hg, heap_sort _ d' hb, by simp; omega, c2, by simp [putCells, c3], ?_⟩⟩
    rw [Nat.mul_one]
    simp only [List.length_map, Array.length_toList]
    rw [ht, hmap]
  · exact (chg_sort _ d').mono fun k hk => by rw [hk]; rfl
end Go.Proofs.Ytboccnbncipnpaa
