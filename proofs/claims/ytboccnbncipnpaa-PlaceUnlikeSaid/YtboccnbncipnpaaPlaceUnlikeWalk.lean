/- PlaceUnlike: from the arguments' rows to the printed walk. -/
import Derived.Test.YtboccnbncipnpaaPurePlaceUnlike
import Derived.Test.YtboccnbncipnpaaOpen2
namespace Go.Proofs.Ytboccnbncipnpaa
open Go.RowKit Go.Proofs.YtboccnbncipnpaaW.PrintWords Go.Proofs.YtboccnbncipnpaaW.PrintLast

theorem row_kd {α : Type} (en : α → Value) (h1 : ∀ x, (en x).oneCell' = true) {w : World} {a : Option Addr} {l : List α} {c : Nat} (hm : c ≤ maxLen) (hc : l.length ≤ c) (h : 0 < l.length → ∃ ad, a = some ad ∧ ∀ j p, l[j]? = some p → w.cell? (ad.add j) = some (en p)) : Kd.C (Kd.scalar en h1) w a l.length l := by
  refine ⟨rfl, by unfold maxLen at hm; omega, fun h0 => ?_⟩
  obtain ⟨ad, e, hx⟩ := h h0
  refine ⟨ad, e, fun j p hj => ⟨[en p], rfl, rfl, fun i u hi => ?_⟩⟩
  have hi0 := (List.getElem?_eq_some_iff.1 hi).1
  obtain rfl : i = 0 := by simpa using hi0
  simp at hi
  subst hi
  have hs : (Kd.scalar en h1).sz = 1 := rfl
  rw [hs, Nat.mul_one, Nat.add_zero]
  exact hx j p hj

theorem placeUnlike_walk {v0 v1 : Value} {l0 : List Int} {l1 : List Bool} {a2 a3 : Int} {w : World} (h0 : RowAt (Value.int .i64) w v0 l0) (h1 : RowAt Value.bool w v1 l1) (_ : (Lit.int .i64 a2).wf = true) (_ : (Lit.int .i64 a3).wf = true) :
    Calls Try.prog 3 #[v0, v1, .int .i64 a2, .int .i64 a3] w fun e w' => e = .returned (.bool true) ∧ Below w.heap.size w w' := by
  obtain ⟨b0, c0, rfl, x0, y0, z0⟩ := h0
  obtain ⟨b1, c1, rfl, x1, y1, z1⟩ := h1
  obtain ⟨k, hk⟩ := PureU.PlaceUnlike l0 l1 a2 a3
  exact PPlaceUnlike.stooklaw17_PlaceUnlike.calls k b0 c0 l0 b1 c1 l1 a2 a3 true w (row_kd _ (fun _ => rfl) y0 x0 z0) x0 (row_kd _ (fun _ => rfl) y1 x1 z1) x1 hk
end Go.Proofs.Ytboccnbncipnpaa
