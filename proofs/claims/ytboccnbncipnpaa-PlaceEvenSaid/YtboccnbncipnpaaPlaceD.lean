/- Plain facts on the order of the workers. -/
import Derived.Test.YtboccnbncipnpaaPlaceC
namespace Go.Proofs.Ytboccnbncipnpaa

theorem upto_all (w m : Nat) (h : m ≤ w) : upto (List.replicate w true) m = List.range m := by
  unfold upto
  rw [List.filter_eq_self]
  intro i hi
  have := List.mem_range.1 hi
  simp [List.getD_eq_getElem?_getD, List.getElem?_replicate, show i < w by omega]

/-- The workers 0 .. w-1, from the turn on. -/
def turnList (t : Int) (w : Nat) : List Nat := (List.range w).map fun (j : Nat) => ((t + j) % w).toNat

theorem turn_at (t : Int) (w j : Nat) (hj : j < w) : (((turnList t w)[j]?.getD 0 : Nat) : Int) = (t + j) % w := by
  simp only [turnList, List.getElem?_map, List.getElem?_range hj, Option.map_some, Option.getD_some]
  have := Int.emod_nonneg (t + j) (show (w : Int) ≠ 0 by omega)
  omega

theorem turn_val (t : Int) (w j : Nat) (hw : 0 < w) : ((((t + j) % w).toNat : Nat) : Int) = (t + j) % w := by
  have := Int.emod_nonneg (t + j) (show (w : Int) ≠ 0 by omega)
  omega

theorem turn_back (t : Int) (w j : Nat) (hj : j < w) : (((((t + j) % w).toNat : Nat) : Int) - t % w) % w = j := by
  rw [turn_val t w j (by omega), ← Int.sub_emod, Int.add_comm, Int.add_sub_cancel, Int.emod_eq_of_lt (by omega) (by omega)]

theorem turn_nodup (t : Int) (w : Nat) : (turnList t w).Nodup := by
  unfold turnList List.Nodup
  rw [List.pairwise_map]
  refine (List.pairwise_lt_range.imp_of_mem ?_)
  intro i j hi hj hij e
  have hi := List.mem_range.1 hi
  have hj := List.mem_range.1 hj
  have a := turn_back t w i hi
  have b := turn_back t w j hj
  rw [e, b] at a
  omega

theorem turn_mem (t : Int) (w a : Nat) : a ∈ turnList t w ↔ a < w := by
  unfold turnList
  rw [List.mem_map]
  constructor
  · rintro ⟨j, hj, rfl⟩
    have hj := List.mem_range.1 hj
    have := Int.emod_lt_of_pos (t + j) (show (0 : Int) < w by omega)
    have := turn_val t w j (by omega)
    omega
  · intro h
    have h0 := Int.emod_nonneg ((a : Int) - t) (show (w : Int) ≠ 0 by omega)
    have h1 := Int.emod_lt_of_pos ((a : Int) - t) (show (0 : Int) < w by omega)
    refine ⟨(((a : Int) - t) % w).toNat, List.mem_range.2 (by omega), ?_⟩
    rw [show (((((a : Int) - t) % w).toNat : Nat) : Int) = ((a : Int) - t) % w by omega, Int.add_emod_emod, show t + ((a : Int) - t) = a by omega, Int.emod_eq_of_lt (by omega) (by omega)]
    omega

theorem turn_perm (t : Int) (w : Nat) : (turnList t w).Perm (List.range w) :=
  (List.perm_ext_iff_of_nodup (turn_nodup t w) List.nodup_range).2 fun a => by rw [turn_mem, List.mem_range]

/-- Of equal loads, all live: round from the turn on. -/
theorem sortedW_turn (t : Int) (w : Nat) : sortedW (List.replicate w 0) (List.replicate w true) t = turnList t w := by
  refine (sortedW_only _ _ t _ ?_ ?_).symm
  · rw [List.length_replicate, upto_all w w (Nat.le_refl _)]
    exact turn_perm t w
  · rw [List.length_replicate]
    unfold turnList
    rw [List.pairwise_map]
    refine (List.pairwise_lt_range.imp_of_mem ?_)
    intro i j hi hj hij
    have hi := List.mem_range.1 hi
    have hj := List.mem_range.1 hj
    unfold Ahead
    rw [turn_back t w i hi, turn_back t w j hj]
    have z : ∀ x, (List.replicate w (0 : Int)).getD x 0 = 0 := fun x => by
      rw [List.getD_eq_getElem?_getD, List.getElem?_replicate]; split <;> rfl
    rw [z, z]
    omega

theorem sortedW_mod (loads : List Int) (live : List Bool) (t : Int) : sortedW loads live (t + live.length) = sortedW loads live t := by
  unfold sortedW
  rw [Int.add_emod_right]

theorem sortedW_len (loads : List Int) (live : List Bool) (t : Int) : (sortedW loads live t).length = (upto live live.length).length := (sortedW_perm loads live t).length_eq

/-- The document's example. -/
theorem sortedW_doc : sortedW [2, 0, 1] [true, true, true] 0 = [1, 2, 0] := by
  refine (sortedW_only _ _ 0 _ ?_ ?_).symm
  · decide
  · decide

theorem chooseF_ok (loads : List Int) (live : List Bool) (k turn : Int) (h0 : 0 < live.length) (h1 : live.length ≤ 16) (h2 : loads.length = live.length) (h3 : 1 ≤ k) (h4 : k ≤ ((upto live live.length).length : Int)) :
    chooseF loads live k turn = some (((sortedW loads live turn).take k.toNat).map fun (i : Nat) => (i : Int) + 1) := if_pos ⟨h0, h1, h2, h3, h4⟩
end Go.Proofs.Ytboccnbncipnpaa
