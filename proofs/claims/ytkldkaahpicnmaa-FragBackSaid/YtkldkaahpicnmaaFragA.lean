/- Which ids are right. -/
import Derived.Test.YtkldkaahpicnmaaGen
import Derived.Test.YtkldkaahpicnmaaPFragNamesx2
import Derived.Outline
import Derived.StillTailTactics
namespace Go.Proofs.Ytkldkaahpicnmaa
open Go.RowKit

/-- Beyond an id's range. -/
def beyond (n : Int) : Bool := decide (n < 0) || decide (2147483647 < n)

theorem out_any (n : Int) (w : World) : Calls Try.prog 14 #[.int .i64 n] w fun e w' => e = .returned (.bool (beyond n)) ∧ w = w' := by
  by_cases h : n < 0
  · have hb : beyond n = true := by simp [beyond, h]
    rw [hb]
    go_enter Try.func14, Try.ntmps14
    go_wp2
    go_ret
    exact ⟨rfl, rfl⟩
  · have hb : beyond n = decide (2147483647 < n) := by simp [beyond, h]
    rw [hb]
    go_enter Try.func14, Try.ntmps14
    go_wp2
    go_ret
    exact ⟨rfl, rfl⟩

/-- A row of whole numbers that can be read. -/
def IntsAt (w : World) (x : Value) (l : List Int) : Prop :=
  ∃ g c, x = .slice (some ⟨g, 0, none⟩) l.length c ∧ l.length ≤ c ∧ c ≤ maxLen ∧ ∀ (j : Nat) n, l[j]? = some n → w.cell? ⟨g, j, none⟩ = some (.int .i64 n)

theorem index_any (x : Value) (l : List Int) (w : World) (h : IntsAt w x l) (hl : l.length ≤ 1000) :
    Calls Try.prog 25 #[x, .func (.func 14) #[] #[]] w fun e w' => (∃ r : Int, e = .returned (.int .i64 r) ∧ (decide (r ≥ 0) = l.any beyond)) ∧ w = w' := by
  obtain ⟨g, c, rfl, hc1, hc2, hcell⟩ := h
  unfold maxLen at hc2
  have HC := Lib.hid hcell
  clear hcell
  go_enter Try.func25, Try.ntmps25
  go_wp2
  go_loop [8] (fun i => ∃ k : Nat, k ≤ l.length ∧ i = .int .i64 k ∧ Hid ((l.take k).any beyond = false)) (fun i => l.length - (intOf i).toNat)
  case atStart => exact ⟨0, by omega, rfl, Lib.hid (by simp)⟩
  case round =>
    obtain ⟨k, hk, rfl, HT⟩ := hrel
    by_cases hlt : k < l.length
    · have hcl := HC.out k l[k] (List.getElem?_eq_getElem hlt)
      cases hb : beyond l[k] with
      | true =>
        go_wp2_with fail
        refine (out_any l[k] _).mono ?_
        rintro e w' ⟨rfl, rfl⟩
        rw [hb]
        go_wp2_with fail
        go_ret
        refine ⟨⟨(k : Int), rfl, ?_⟩, rfl⟩
        have h1 : l.any beyond = true := List.any_eq_true.2 ⟨l[k], List.getElem_mem hlt, hb⟩
        rw [h1]
        exact decide_eq_true (by omega)
      | false =>
        go_wp2_with fail
        refine (out_any l[k] _).mono ?_
        rintro e w' ⟨rfl, rfl⟩
        rw [hb]
        go_wp2_with fail
        go_round
        case rel => exact ⟨k + 1, by omega, by go_num, Lib.hid (by rw [List.take_succ_eq_append_getElem hlt, List.any_append, HT.out]; simp [hb])⟩
        case measure => simp [intOf]; omega
    · obtain rfl : k = l.length := by omega
      go_wp2_with fail
      go_ret
      refine ⟨⟨-1, rfl, ?_⟩, rfl⟩
      have := HT.out
      rw [List.take_length] at this
      rw [this]
      rfl

theorem contains_any (x : Value) (l : List Int) (w : World) (h : IntsAt w x l) (hl : l.length ≤ 1000) :
    Calls Try.prog 12 #[x, .func (.func 14) #[] #[]] w fun e w' => e = .returned (.bool (l.any beyond)) ∧ w = w' := by
  have HI := Lib.hid (index_any x l w h hl)
  go_enter Try.func12, Try.ntmps12
  go_wp2_with fail
  refine HI.out.mono ?_
  rintro e w' ⟨⟨r, rfl, hr⟩, rfl⟩
  go_wp2_with fail
  go_ret
  exact ⟨by simp [hr], rfl⟩

/-- Is an id right? -/
def okId (a b c d : Int) : Bool := !(beyond a || beyond b || beyond c || beyond d)

def idV (a b c d : Int) : Value := .agg #[.int .i64 a, .int .i64 b, .int .i64 c, .int .i64 d]

theorem numbers_any (a b c d : Int) (w : World) : Calls Try.prog 13 #[idV a b c d] w fun e w' => ∃ v, e = .returned v ∧ IntsAt w' v [a, b, c, d] ∧ Below w.heap.size w w' := by
  unfold idV
  go_enter Try.func13, Try.ntmps13
  go_wp2
  go_ret
  refine ⟨_, rfl, ⟨w.heap.size + 1, 4, rfl, by simp, by decide, fun j n hj => ?_⟩, ((Below.refl _ w).alloc (Nat.le_refl _) _).alloc (by simp) _⟩
  have hnew := heap_alloc_new (w.alloc (.cells #[.int .i64 a, .int .i64 b, .int .i64 c, .int .i64 d] 26)) (.cells #[.int .i64 a, .int .i64 b, .int .i64 c, .int .i64 d] 3)
  rw [World.size_alloc] at hnew
  simp only [World.cell?, hnew]
  match j, hj with
  | 0, hj => cases hj; rfl
  | 1, hj => cases hj; rfl
  | 2, hj => cases hj; rfl
  | 3, hj => cases hj; rfl

theorem right_any (a b c d : Int) (w : World) : Calls Try.prog 6 #[idV a b c d] w fun e w' => e = .returned (.bool (okId a b c d)) ∧ Below w.heap.size w w' := by
  have HN := Lib.hid (numbers_any a b c d (w.alloc (.cells #[.int .i64 a, .int .i64 b, .int .i64 c, .int .i64 d] 26)))
  unfold idV at *
  go_enter Try.func6, Try.ntmps6
  go_wp2_with fail
  refine HN.out.mono ?_
  rintro e w1 ⟨v, rfl, hv, hb⟩
  have HC := Lib.hid (contains_any v _ w1 hv (by simp))
  have hb' : Below w.heap.size w w1 := ((Below.refl _ w).alloc (Nat.le_refl _) _).trans (hb.mono (by simp))
  obtain ⟨g, cc, rfl, _⟩ := hv
  go_wp2_with fail
  refine HC.out.mono ?_
  rintro e w2 ⟨rfl, rfl⟩
  go_wp2_with fail
  go_ret
  exact ⟨by simp [okId, Bool.or_assoc], hb'⟩

end Go.Proofs.Ytkldkaahpicnmaa
