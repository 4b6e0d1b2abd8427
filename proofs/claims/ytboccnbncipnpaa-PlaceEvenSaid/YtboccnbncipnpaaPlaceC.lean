/- What choose answers, as a plain function; the sorted row is but one. -/
import Derived.Test.YtboccnbncipnpaaPlaceB
namespace Go.Proofs.Ytboccnbncipnpaa
open Go.RowKit Go.Sort

instance (loads : List Int) (f n : Int) (j i : Nat) : Decidable (Ahead loads f n j i) := by unfold Ahead; infer_instance

/-- Worker j does not go ahead of worker i. -/
def leW (loads : List Int) (f n : Int) (i j : Nat) : Bool := decide (¬ Ahead loads f n j i)

/-- All live workers, as choose orders them. -/
def sortedW (loads : List Int) (live : List Bool) (turn : Int) : List Nat := (upto live live.length).mergeSort (leW loads (turn % live.length) live.length)

def chooseF (loads : List Int) (live : List Bool) (k turn : Int) : Option (List Int) :=
  if 0 < live.length ∧ live.length ≤ 16 ∧ loads.length = live.length ∧ 1 ≤ k ∧ k ≤ ((upto live live.length).length : Int) then
    some (((sortedW loads live turn).take k.toNat).map fun (i : Nat) => (i : Int) + 1)
  else none

theorem leW_iff (loads : List Int) (f n : Int) (i j : Nat) : leW loads f n i j = true ↔ ¬ Ahead loads f n j i := by simp [leW]

theorem upto_lt {live : List Bool} {m i : Nat} (h : i ∈ upto live m) : i < m := List.mem_range.1 (List.mem_filter.1 h).1

theorem back_mod (i f n : Int) (h0 : 0 ≤ i) (h1 : i < n) : ((i - f) % n + f) % n = i := by
  rw [Int.emod_add_emod, Int.sub_add_cancel, Int.emod_eq_of_lt h0 h1]

theorem leW_anti (loads : List Int) (f : Int) (n i j : Nat) (hi : i < n) (hj : j < n) (h1 : leW loads f n i j = true) (h2 : leW loads f n j i = true) : i = j := by
  rw [leW_iff] at h1 h2
  unfold Ahead at h1 h2
  have e : ((i : Int) - f) % n = ((j : Int) - f) % n := by omega
  have a := back_mod i f n (by omega) (by omega)
  have b := back_mod j f n (by omega) (by omega)
  rw [e, b] at a
  omega

theorem sortedW_perm (loads : List Int) (live : List Bool) (turn : Int) : (sortedW loads live turn).Perm (upto live live.length) := List.mergeSort_perm _ _
theorem sortedW_sorted (loads : List Int) (live : List Bool) (turn : Int) : (sortedW loads live turn).Pairwise (fun i j => ¬ Ahead loads (turn % live.length) live.length j i) := by
  have := List.pairwise_mergeSort (le := leW loads (turn % live.length) live.length) (fun a b c h1 h2 => by
    rw [leW_iff] at *
    unfold Ahead at *
    omega) (fun a b => by
    rw [Bool.or_eq_true, leW_iff, leW_iff]
    unfold Ahead
    omega) (upto live live.length)
  exact this.imp fun h => by rwa [leW_iff] at h

theorem sortedW_only (loads : List Int) (live : List Bool) (turn : Int) (ys : List Nat) (hp : ys.Perm (upto live live.length)) (hs : ys.Pairwise (fun i j => ¬ Ahead loads (turn % live.length) live.length j i)) : ys = sortedW loads live turn := by
  refine List.Perm.eq_of_pairwise (le := fun i j => leW loads (turn % live.length) live.length i j = true) ?_ ?_ ?_ (hp.trans (sortedW_perm loads live turn).symm)
  · intro a b ha hb h1 h2
    exact leW_anti loads _ live.length a b (upto_lt (hp.mem_iff.1 ha)) (upto_lt ((sortedW_perm loads live turn).mem_iff.1 hb)) h1 h2
  · exact hs.imp fun h => (leW_iff _ _ _ _ _).2 h
  · exact (sortedW_sorted loads live turn).imp fun h => (leW_iff _ _ _ _ _).2 h

theorem choose_calls (A B : Addr) (c0 c1 : Nat) (loads : List Int) (live : List Bool) (k turn : Int) (r : List Int) (w : World) (hA : ∀ (j : Nat) v, loads[j]? = some v → w.cell? (A.add j) = some (.int .i64 v)) (hB : ∀ (j : Nat) v, live[j]? = some v → w.cell? (B.add j) = some (.bool v)) (h : chooseF loads live k turn = some r) :
    Calls Try.prog 12 #[.slice (some A) loads.length c0, .slice (some B) live.length c1, .int .i64 k, .int .i64 turn] w fun e w' => ∃ v, e = .returned v ∧ w'.ownsRow w.heap.size 3 1 v r.length (r.map (Value.int .i64)) ∧ Below w.heap.size w w' := by
  unfold chooseF at h
  split at h
  · rename_i hc
    obtain ⟨h0, h1, h2, h3, h4⟩ := hc
    obtain ⟨q, rfl⟩ := Int.eq_ofNat_of_zero_le (show 0 ≤ k by omega)
    have hAB : A.block < w.heap.size := by
      have := World.block_lt_of_cell? w _ (hA 0 _ (List.getElem?_eq_getElem (by omega)))
      rwa [addr_add_block] at this
    refine (choose_any A B c0 c1 loads live q turn w hA hB hAB h2 h0 h1 (by omega) (by omega)).mono ?_
    rintro e w' ⟨v, rfl, ⟨ys, hp, hs, ho⟩, hb⟩
    refine ⟨v, rfl, ?_, hb⟩
    have hy := sortedW_only loads live turn ys hp hs
    have hl := hp.length_eq
    injection h with h
    rw [← h, ← hy, List.map_map, List.length_map, List.length_take, Int.toNat_natCast, Nat.min_eq_left (by omega)]
    exact ho
  · cases h
end Go.Proofs.Ytboccnbncipnpaa
