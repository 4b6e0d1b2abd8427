/- may and awake, as PlaceEven meets them. -/
import Derived.Test.YtboccnbncipnpaaPPlaceEvenx1
import Derived.Test.YtboccnbncipnpaaPlaceD
namespace Go.Proofs.Ytboccnbncipnpaa.PureE
open Go.RowKit Go.Proofs.Ytboccnbncipnpaa.PPlaceEven Go.Proofs.YtboccnbncipnpaaW.PrintWords Go.Proofs.YtboccnbncipnpaaW.PrintLast

theorem w64 (x : Int) (h : -9223372036854775808 ≤ x) (h2 : x < 9223372036854775808) : wrap64 x = x := by unfold wrap64; omega

theorem live_l0 (l : List Bool) (hl : l.length ≤ 1000) : ∀ m k i : Nat, l.length = i + m → m < k → place_Live.l0 k ((upto l i).length : Int) l (l.length : Int) (i : Int) = some ((upto l l.length).length : Int) := by
  intro m
  induction m with
  | zero =>
    intro k i hi hk
    obtain ⟨k, rfl⟩ : ∃ j, k = j + 1 := ⟨k - 1, by omega⟩
    obtain rfl : i = l.length := by omega
    rw [place_Live.l0, if_neg (by omega)]
  | succ m ih =>
    intro k i hi hk
    obtain ⟨k, rfl⟩ : ∃ j, k = j + 1 := ⟨k - 1, by omega⟩
    have hb : l[i]? = some (l[i]'(by omega)) := List.getElem?_eq_getElem (by omega)
    have hu := upto_succ l i _ hb
    have hul := upto_length l i
    have hr : rdOf false l (i : Int) = l[i]'(by omega) := by simp [rdOf, List.getD_eq_getElem?_getD, hb]
    have hn := ih k (i + 1) (by omega) (by omega)
    rw [place_Live.l0, if_pos (by omega), if_pos (by omega), if_pos (by omega), hr]
    rw [w64 ((i : Int) + 1) (by omega) (by omega), w64 (((upto l i).length : Int) + 1) (by omega) (by omega)]
    cases hv : l[i]'(by omega) with
    | true =>
      rw [hv, if_pos rfl] at hu
      rw [if_pos rfl]
      rw [hu] at hn
      simpa using hn
    | false =>
      rw [hv, if_neg (by decide), List.append_nil] at hu
      rw [if_neg (by decide)]
      rw [hu] at hn
      simpa using hn

theorem live_f (l : List Bool) (hl : l.length ≤ 1000) (k : Nat) (hk : l.length < k) : place_Live.f k l = some ((upto l l.length).length : Int) := live_l0 l hl l.length k 0 (by omega) hk

theorem Choose_ok (k : Nat) (loads : List Int) (live : List Bool) (n turn : Int) (hk : live.length + 1 < k) (h0 : 0 < live.length) (h1 : live.length ≤ 16) (h2 : loads.length = live.length) (h3 : 1 ≤ n) (h4 : n ≤ ((upto live live.length).length : Int)) :
    place_Choose.f k loads live n turn = some (((sortedW loads live turn).take n.toNat).map fun (i : Nat) => (i : Int) + 1, 0) := by
  have hm : place_may.f k loads live n = some 0 := by
    obtain ⟨k, rfl⟩ : ∃ j, k = j + 1 := ⟨k - 1, by omega⟩
    rw [place_may.f, if_neg (by omega), if_neg (by omega), if_pos (by omega), decide_eq_false (by omega), place_may.j0, if_neg (by decide), live_f live (by omega) k (by omega), Option.bind_some, if_neg (by omega)]
  rw [place_Choose.f, hm, Option.bind_some, if_pos rfl, place_choose.f, chooseF_ok loads live n turn h0 h1 h2 h3 h4, Option.bind_some]

theorem equal_l0 (l : List Int) (hl : l.length ≤ 1000) : ∀ m k i : Nat, l.length = i + m → m < k → stooklaw17_equal.l0 k l l (i : Int) = some true := by
  intro m
  induction m with
  | zero =>
    intro k i hi hk
    obtain ⟨k, rfl⟩ : ∃ j, k = j + 1 := ⟨k - 1, by omega⟩
    rw [stooklaw17_equal.l0, if_neg (by omega)]
  | succ m ih =>
    intro k i hi hk
    obtain ⟨k, rfl⟩ : ∃ j, k = j + 1 := ⟨k - 1, by omega⟩
    rw [stooklaw17_equal.l0, if_pos (by omega), if_pos (by omega), if_pos (by omega), if_pos rfl, w64 ((i : Int) + 1) (by omega) (by omega)]
    exact ih k (i + 1) (by omega) (by omega)

theorem equal_self (l : List Int) (hl : l.length ≤ 1000) (k : Nat) (hk : l.length < k) : stooklaw17_equal.f k l l = some true := by
  rw [stooklaw17_equal.f, if_pos rfl]
  exact equal_l0 l hl l.length k 0 (by omega) hk

theorem awake_ok (k : Nat) (hk : 8 ≤ k) : stooklaw17_awake.f k = some true := by
  rw [stooklaw17_awake.f, Choose_ok k [2, 0, 1] [true, true, true] 2 0 (by simp; omega) (by decide) (by decide) rfl (by decide) (by decide), sortedW_doc]
  exact (congrArg (fun o => Option.bind o fun t => some t) (equal_self [2, 3] (by decide) k (by simp; omega)) : _)

theorem may_all (k w : Nat) (n : Int) (hk : 20 < k) (h0 : 1 ≤ w) (h1 : w ≤ 16) : place_may.f k (List.replicate w 0) (List.replicate w true) n = some (if n < 1 then 1 else if (w : Int) < n then 21 else 0) := by
  obtain ⟨k, rfl⟩ : ∃ j, k = j + 1 := ⟨k - 1, by omega⟩
  have hl : (List.replicate w true).length = w := List.length_replicate
  have hu : (upto (List.replicate w true) (List.replicate w true).length).length = w := by rw [hl, upto_all w w (Nat.le_refl _), List.length_range]
  rw [place_may.f, if_neg (by rw [hl]; omega), if_neg (by rw [hl]; omega), if_pos (by simp)]
  by_cases h : n < 1
  · rw [decide_eq_true h, place_may.j0, if_pos rfl, if_pos h]
  · rw [decide_eq_false h, place_may.j0, if_neg (by decide), live_f _ (by rw [hl]; omega) k (by rw [hl]; omega), Option.bind_some, hu, if_neg h]
    by_cases h2 : (w : Int) < n
    · rw [if_pos h2, if_pos h2]
    · rw [if_neg h2, if_neg h2]

theorem row_kd {α : Type} (en : α → Value) (h1 : ∀ x, (en x).oneCell' = true) {w : World} {ad : Addr} {l : List α} (hm : l.length ≤ 1000) (h : ∀ (j : Nat) p, l[j]? = some p → w.cell? (ad.add j) = some (en p)) : Kd.C (Kd.scalar en h1) w (some ad) l.length l := by
  refine ⟨rfl, by omega, fun h0 => ⟨ad, rfl, fun j p hj => ⟨[en p], rfl, rfl, fun i u hi => ?_⟩⟩⟩
  have hi0 := (List.getElem?_eq_some_iff.1 hi).1
  obtain rfl : i = 0 := by simpa using hi0
  simp at hi
  subst hi
  have hs : (Kd.scalar en h1).sz = 1 := rfl
  rw [hs, Nat.mul_one, Nat.add_zero]
  exact h j p hj

theorem chg_drawn {w w' : World} (h : Drawn0 w w') : Chg (fun _ => False) w w' := by
  obtain ⟨n, rfl⟩ := h
  exact (Chg.refl _ w).drewN n

theorem may_calls (A B : Addr) (c0 c1 w : Nat) (n : Int) (W : World) (h0 : 1 ≤ w) (h1 : w ≤ 16) (hc0 : w ≤ c0) (hc1 : w ≤ c1) (hA : ∀ (j : Nat) v, (List.replicate w (0 : Int))[j]? = some v → W.cell? (A.add j) = some (.int .i64 v)) (hB : ∀ (j : Nat) v, (List.replicate w true)[j]? = some v → W.cell? (B.add j) = some (.bool v)) :
    Calls Try.prog 11 #[.slice (some A) (List.replicate w (0 : Int)).length c0, .slice (some B) (List.replicate w true).length c1, .int .i64 n] W fun e w' => e = .returned (.int .i64 (if n < 1 then 1 else if (w : Int) < n then 21 else 0)) ∧ Chg (fun _ => False) W w' :=
  (place_may.calls 100 (some A) c0 (List.replicate w 0) (some B) c1 (List.replicate w true) n _ W (row_kd _ (fun _ => rfl) (by simp; omega) hA) (by simpa using hc0) (row_kd _ (fun _ => rfl) (by simp; omega) hB) (by simpa using hc1) (may_all 100 w n (by decide) h0 h1)).mono fun _ _ ⟨a, b⟩ => ⟨a, chg_drawn b⟩

theorem awake_calls (w : World) : Calls Try.prog 7 #[] w fun e w' => e = .returned (.bool true) ∧ Chg (fun _ => False) w w' :=
  (stooklaw17_awake.calls 100 true w (awake_ok 100 (by decide))).mono fun _ _ ⟨a, b⟩ => ⟨a, b.os, b.tape, b.output, b.size, fun k hk _ => b.block k hk⟩
end Go.Proofs.Ytboccnbncipnpaa.PureE
