/- The pure side of PlaceTurns. -/
import Derived.Test.YtboccnbncipnpaaPPlaceTurnsx2
import Derived.Test.YtboccnbncipnpaaPlaceD
import Derived.OpenShut
namespace Go.Proofs.Ytboccnbncipnpaa.Pure
open Go.RowKit Go.Proofs.Ytboccnbncipnpaa.PPlaceTurns Go.Proofs.YtboccnbncipnpaaW.PrintWords Go.Proofs.YtboccnbncipnpaaW.PrintLast

theorem w64 (x : Int) (h : -9223372036854775808 ≤ x) (h2 : x < 9223372036854775808) : wrap64 x = x := by unfold wrap64; omega

theorem live_l0 (l : List Bool) (hl : l.length ≤ 1000) : ∀ m k i : Nat, l.length = i + m → m < k → place_Live.l0 k ((upto l i).length : Int) l (l.length : Int) (i : Int) = some ((upto l l.length).length : Int) := by
  intro m
  induction m with
  | zero =>
    intro k i hi hk
    obtain ⟨k, rfl⟩ : ∃ j, k = j + 1 := ⟨k - 1, by omega⟩
    obtain rfl : i = l.length := by omega
    rw [place_Live.l0, if_neg (by omega)]
  | succ m ih =>
    intro k i hi hk
    obtain ⟨k, rfl⟩ : ∃ j, k = j + 1 := ⟨k - 1, by omega⟩
    have hb : l[i]? = some (l[i]'(by omega)) := List.getElem?_eq_getElem (by omega)
    have hu := upto_succ l i _ hb
    have hul := upto_length l i
    have hr : rdOf false l (i : Int) = l[i]'(by omega) := by simp [rdOf, List.getD_eq_getElem?_getD, hb]
    have hn := ih k (i + 1) (by omega) (by omega)
    rw [place_Live.l0, if_pos (by omega), if_pos (by omega), if_pos (by omega), hr]
    rw [w64 ((i : Int) + 1) (by omega) (by omega), w64 (((upto l i).length : Int) + 1) (by omega) (by omega)]
    cases hv : l[i]'(by omega) with
    | true =>
      rw [hv, if_pos rfl] at hu
      rw [if_pos rfl]
      rw [hu] at hn
      simpa using hn
    | false =>
      rw [hv, if_neg (by decide), List.append_nil] at hu
      rw [if_neg (by decide)]
      rw [hu] at hn
      simpa using hn

theorem live_f (l : List Bool) (hl : l.length ≤ 1000) (k : Nat) (hk : l.length < k) : place_Live.f k l = some ((upto l l.length).length : Int) := live_l0 l hl l.length k 0 (by omega) hk

theorem Choose_ok (k : Nat) (loads : List Int) (live : List Bool) (n turn : Int) (hk : live.length + 1 < k) (h0 : 0 < live.length) (h1 : live.length ≤ 16) (h2 : loads.length = live.length) (h3 : 1 ≤ n) (h4 : n ≤ ((upto live live.length).length : Int)) :
    place_Choose.f k loads live n turn = some (((sortedW loads live turn).take n.toNat).map fun (i : Nat) => (i : Int) + 1, 0) := by
  have hm : place_may.f k loads live n = some 0 := by
    obtain ⟨k, rfl⟩ : ∃ j, k = j + 1 := ⟨k - 1, by omega⟩
    rw [place_may.f, if_neg (by omega), if_neg (by omega), if_pos (by omega), decide_eq_false (by omega), place_may.j0, if_neg (by decide), live_f live (by omega) k (by omega), Option.bind_some, if_neg (by omega)]
  rw [place_Choose.f, hm, Option.bind_some, if_pos rfl, place_choose.f, chooseF_ok loads live n turn h0 h1 h2 h3 h4, Option.bind_some]

theorem equal_l0 (l : List Int) (hl : l.length ≤ 1000) : ∀ m k i : Nat, l.length = i + m → m < k → stooklaw17_equal.l0 k l l (i : Int) = some true := by
  intro m
  induction m with
  | zero =>
    intro k i hi hk
    obtain ⟨k, rfl⟩ : ∃ j, k = j + 1 := ⟨k - 1, by omega⟩
    rw [stooklaw17_equal.l0, if_neg (by omega)]
  | succ m ih =>
    intro k i hi hk
    obtain ⟨k, rfl⟩ : ∃ j, k = j + 1 := ⟨k - 1, by omega⟩
    rw [stooklaw17_equal.l0, if_pos (by omega), if_pos (by omega), if_pos (by omega), if_pos rfl, w64 ((i : Int) + 1) (by omega) (by omega)]
    exact ih k (i + 1) (by omega) (by omega)

theorem equal_self (l : List Int) (hl : l.length ≤ 1000) (k : Nat) (hk : l.length < k) : stooklaw17_equal.f k l l = some true := by
  rw [stooklaw17_equal.f, if_pos rfl]
  exact equal_l0 l hl l.length k 0 (by omega) hk

theorem awake_ok (k : Nat) (hk : 8 ≤ k) : stooklaw17_awake.f k = some true := by
  rw [stooklaw17_awake.f, Choose_ok k [2, 0, 1] [true, true, true] 2 0 (by simp; omega) (by decide) (by decide) rfl (by decide) (by decide), sortedW_doc]
  exact (congrArg (fun o => Option.bind o fun t => some t) (equal_self [2, 3] (by decide) k (by simp; omega)) : _)

theorem turns_l1 (a2 : Int) (w : Nat) (hw : 0 < w) (hw2 : w ≤ 16) (h0 : 0 ≤ a2) (h1 : a2 ≤ 255) (L : List Int) (hL : L.length ≤ 16) (he : ∀ i, i < L.length → L.getD i 0 = 1 + (a2 + i) % w) : ∀ m k i : Nat, L.length = i + m → m < k → stooklaw17_PlaceTurns.l1 k a2 w L (i : Int) = some true := by
  intro m
  induction m with
  | zero =>
    intro k i hi hk
    obtain ⟨k, rfl⟩ : ∃ j, k = j + 1 := ⟨k - 1, by omega⟩
    rw [stooklaw17_PlaceTurns.l1, if_neg (by omega)]
  | succ m ih =>
    intro k i hi hk
    obtain ⟨k, rfl⟩ : ∃ j, k = j + 1 := ⟨k - 1, by omega⟩
    have e := he i (by omega)
    have b0 := Int.emod_nonneg (a2 + i) (show (w : Int) ≠ 0 by omega)
    have b1 := Int.emod_lt_of_pos (a2 + i) (show (0 : Int) < w by omega)
    have hr : rd L (i : Int) = 1 + (a2 + i) % w := by rw [rd, Int.toNat_natCast]; exact e
    rw [stooklaw17_PlaceTurns.l1, if_pos (by omega), if_pos (by omega), if_neg (by omega), hr, w64 a2 (by omega) (by omega), w64 (a2 + i) (by omega) (by omega), Int.tmod_eq_emod_of_nonneg (by omega), w64 (1 + (a2 + i) % w) (by omega) (by omega), if_pos rfl, w64 ((i : Int) + 1) (by omega) (by omega)]
    exact ih k (i + 1) (by omega) (by omega)

theorem turns_rest (a1 a2 : Int) (w k : Nat) (hw : 0 < w) (hw2 : w ≤ 16) (h0 : 0 ≤ a2) (h1 : a2 ≤ 255) (hb0 : 0 ≤ a1) (hb1 : a1 ≤ 255) (hk : 40 < k) :
    stooklaw17_PlaceTurns.l0 k a1 a2 w (List.replicate w true) (w : Int) = some true := by
  obtain ⟨k, rfl⟩ : ∃ j, k = j + 2 := ⟨k - 2, by omega⟩
  have b0 := Int.emod_nonneg a1 (show (w : Int) ≠ 0 by omega)
  have b1 := Int.emod_lt_of_pos a1 (show (0 : Int) < w by omega)
  have hu : (upto (List.replicate w true) (List.replicate w true).length).length = w := by rw [List.length_replicate, upto_all w w (Nat.le_refl _), List.length_range]
  obtain ⟨n, hn⟩ : ∃ n : Int, n = 1 + a1 % w := ⟨_, rfl⟩
  have hC : ∀ t, place_Choose.f (k + 1) (List.replicate w 0) (List.replicate w true) n t = some (((turnList t w).take n.toNat).map fun (i : Nat) => (i : Int) + 1, 0) := fun t => by
    rw [Choose_ok (k + 1) _ _ n t (by simp; omega) (by simp; omega) (by simp; omega) (by simp) (by omega) (by rw [hu]; omega), sortedW_turn]
  have hT : turnList (a2 + w) w = turnList a2 w := by
    have := sortedW_mod (List.replicate w 0) (List.replicate w true) a2
    rw [List.length_replicate, sortedW_turn, sortedW_turn] at this
    exact this
  have hlen : (((turnList a2 w).take n.toNat).map fun (i : Nat) => (i : Int) + 1).length = n.toNat := by
    simp [turnList]; omega
  rw [stooklaw17_PlaceTurns.l0, if_neg (by omega), if_neg (by omega), if_pos (by omega), if_pos (by simp; omega), w64 a1 (by omega) (by omega), w64 a2 (by omega) (by omega), Int.tmod_eq_emod_of_nonneg hb0, Int.toNat_natCast, w64 (1 + a1 % w) (by omega) (by omega), w64 (a2 + w) (by omega) (by omega), ← hn, hC, Option.bind_some, hC, Option.bind_some, hT, if_pos rfl, if_pos rfl, equal_self _ (by rw [hlen]; omega) (k + 1) (by rw [hlen]; omega), Option.bind_some, stooklaw17_PlaceTurns.j1, if_neg (by decide)]
  refine turns_l1 a2 w hw hw2 h0 h1 _ (by rw [hlen]; omega) (fun i hi => ?_) n.toNat k 0 (by rw [hlen]; omega) (by omega)
  rw [hlen] at hi
  have hiw : i < w := by omega
  have hv := turn_val a2 w i hw
  rw [List.getD_eq_getElem?_getD, List.getElem?_map, List.getElem?_take, if_pos hi, turnList, List.getElem?_map, List.getElem?_range hiw]
  simp only [Option.map_some, Option.getD_some]
  rw [hv]
  omega

theorem turns_l0 (a1 a2 : Int) (w : Nat) (hw : 0 < w) (hw2 : w ≤ 16) (h0 : 0 ≤ a2) (h1 : a2 ≤ 255) (hb0 : 0 ≤ a1) (hb1 : a1 ≤ 255) : ∀ m k i : Nat, w = i + m → m + 50 < k → stooklaw17_PlaceTurns.l0 k a1 a2 w (List.replicate i true) (i : Int) = some true := by
  intro m
  induction m with
  | zero =>
    intro k i hi hk
    obtain rfl : w = i := by omega
    exact turns_rest a1 a2 w k hw hw2 h0 h1 hb0 hb1 (by omega)
  | succ m ih =>
    intro k i hi hk
    obtain ⟨k, rfl⟩ : ∃ j, k = j + 1 := ⟨k - 1, by omega⟩
    rw [stooklaw17_PlaceTurns.l0, if_pos (by omega), if_pos (by simp; omega), w64 ((i : Int) + 1) (by omega) (by omega), ← List.replicate_succ']
    exact ih k (i + 1) (by omega) (by omega)

theorem PlaceTurns : stooklaw17_PlaceTurns.Pure := by
  intro a0 a1 a2 h0 h1 h2
  have g0 := Go.bounds_u8 h0
  have g1 := Go.bounds_u8 h1
  have g2 := Go.bounds_u8 h2
  refine ⟨100, ?_⟩
  rw [stooklaw17_PlaceTurns.f, awake_ok 100 (by decide), Option.bind_some, if_pos rfl, w64 a0 (by omega) (by omega), Int.tmod_eq_emod_of_nonneg (by omega), w64 (1 + a0 % 16) (by omega) (by omega)]
  obtain ⟨w, hw⟩ := Int.eq_ofNat_of_zero_le (show 0 ≤ 1 + a0 % 16 by omega)
  rw [hw]
  exact turns_l0 a1 a2 w (by omega) (by omega) g2.1 g2.2 g1.1 g1.2 w 100 0 (by omega) (by omega)

end Go.Proofs.Ytboccnbncipnpaa.Pure
