/- Points, walked: inside, Right, number, norm, nearest. -/
import Derived.Test.YtejbpnhondpnfaaRows
import Derived.Test.YtejbpnhondpnfaaGen
import Derived.Test.YtejbpnhondpnfaaFloatI
import Derived.Test.YtejbpnhondpnfaaGaussN
import Derived.WalkLawsBesides
import Derived.Outline
namespace Go.Proofs.Ytejbpnhondpnfaa
open Go.RowKit

theorem inside_any (n : Int) (w : World) : Calls Try.prog 20 #[.int .i64 n] w fun e w' => e = .returned (.bool (decide (-16777216 ≤ n) && decide (n ≤ 16777216))) ∧ w = w' := by
  go_enter Try.func20, Try.ntmps20
  by_cases h : -16777216 ≤ n
  · go_wp2
    go_ret
    exact ⟨by simp [h], rfl⟩
  · go_wp2
    go_ret
    exact ⟨by rw [decide_eq_false (show ¬ -16777216 ≤ n by omega)]; rfl, rfl⟩

/-- Is a point within its range? -/
def ptR (x y : Int) : Bool := (decide (-16777216 ≤ x) && decide (x ≤ 16777216)) && (decide (-16777216 ≤ y) && decide (y ≤ 16777216))
def ptV (x y : Int) : Value := .agg #[.int .i64 x, .int .i64 y]

theorem two_cells {w : World} {g : Nat} {v0 v1 : Value} {t : TypeId} {fz : Nat × Nat} (h : w.heap[g]? = some (.cells #[v0, v1] t fz)) : w.cell? ⟨g, 0, none⟩ = some v0 ∧ w.cell? ⟨g, 1, none⟩ = some v1 := by
  simp [World.cell?, h]

theorem gright_any (x y : Int) (w : World) : Calls Try.prog 13 #[ptV x y] w fun e w' => e = .returned (.bool (ptR x y)) ∧ Below w.heap.size w w' := by
  unfold ptV ptR
  have hB : Below w.heap.size w (w.alloc (.cells #[.int .i64 x, .int .i64 y] 23)) := (Below.refl _ w).alloc (Nat.le_refl _) _
  cases h : (decide (-16777216 ≤ x) && decide (x ≤ 16777216)) with
  | true =>
    have h1 := Lib.hid (inside_any x)
    rw [h] at h1
    have h2 := Lib.hid (inside_any y)
    clear h
    go_enter Try.func13, Try.ntmps13
    go_wp2_with fail
    refine (h1.out _).mono ?_
    rintro e w' ⟨rfl, rfl⟩
    go_wp2_with fail
    refine (h2.out _).mono ?_
    rintro e w' ⟨rfl, rfl⟩
    go_wp2_with fail
    go_ret
    exact ⟨by simp, hB⟩
  | false =>
    have h1 := Lib.hid (inside_any x)
    rw [h] at h1
    clear h
    go_enter Try.func13, Try.ntmps13
    go_wp2_with fail
    refine (h1.out _).mono ?_
    rintro e w' ⟨rfl, rfl⟩
    go_wp2_with fail
    go_ret
    exact ⟨by simp, hB⟩

theorem number_any (x y : Int) (w : World) : Calls Try.prog 25 #[ptV x y] w fun e w' => e = .returned (.complex .f64 (FloatKind.nearest .f64 x) (FloatKind.nearest .f64 y)) ∧ Below w.heap.size w w' := by
  unfold ptV
  have hB : Below w.heap.size w (w.alloc (.cells #[.int .i64 x, .int .i64 y] 23)) := (Below.refl _ w).alloc (Nat.le_refl _) _
  go_enter Try.func25, Try.ntmps25
  go_wp2_with fail
  go_ret
  exact ⟨rfl, hB⟩

theorem norm_any (x y : Int) (h : ((x * x + y * y : Int)) ≤ 9007199254740991) (w : World) : Calls Try.prog 26 #[ptV x y] w fun e w' => e = .returned (.int .i64 (Pt.norm ⟨x, y⟩)) ∧ Below w.heap.size w w' := by
  unfold ptV
  have hB : Below w.heap.size w (w.alloc (.cells #[.int .i64 x, .int .i64 y] 23)) := (Below.refl _ w).alloc (Nat.le_refl _) _
  have h1 := sq_nonneg x
  have h2 := sq_nonneg y
  have e1 : IntKind.i64.wrap (x * x) = x * x := by rw [IntKind.wrap_i64]; omega
  have e2 : IntKind.i64.wrap (y * y) = y * y := by rw [IntKind.wrap_i64]; omega
  have e3 : IntKind.i64.wrap (x * x + y * y) = x * x + y * y := by rw [IntKind.wrap_i64]; omega
  go_enter Try.func26, Try.ntmps26
  go_wp2_with fail
  go_ret
  exact ⟨rfl, hB⟩

theorem near_parts (q d : Int) (h : 0 < d) : (0 ≤ q.tmod d ∧ q.tdiv d = q / d) ∨ (q.tmod d < 0 ∧ q.tdiv d - 1 = q / d) := by
  have h1 := Int.tmod_add_mul_tdiv q d
  have h2 := Int.tmod_lt_of_pos q h
  have h3 := Int.lt_tmod_of_pos q h
  have h4 := Int.emod_nonneg q (show d ≠ 0 by omega)
  have h5 := Int.emod_lt_of_pos q h
  have h6 := Int.mul_ediv_add_emod q d
  by_cases h7 : 0 ≤ q.tmod d
  · refine .inl ⟨h7, ?_⟩
    have e : d * (q.tdiv d - q / d) = q % d - q.tmod d := by grind
    have : q.tdiv d - q / d = 0 := by
      by_cases c1 : 1 ≤ q.tdiv d - q / d
      · have := Int.mul_le_mul_of_nonneg_left c1 (Int.le_of_lt h); omega
      · by_cases c2 : q.tdiv d - q / d ≤ -1
        · have := Int.mul_le_mul_of_nonneg_left c2 (Int.le_of_lt h); omega
        · omega
    omega
  · refine .inr ⟨by omega, ?_⟩
    have e : d * (q.tdiv d - q / d) = q % d - q.tmod d := by grind
    have : q.tdiv d - q / d = 1 := by
      by_cases c1 : 2 ≤ q.tdiv d - q / d
      · have := Int.mul_le_mul_of_nonneg_left c1 (Int.le_of_lt h); omega
      · by_cases c2 : q.tdiv d - q / d ≤ 0
        · have := Int.mul_le_mul_of_nonneg_left c2 (Int.le_of_lt h); omega
        · omega
    omega

theorem nearest_any (n b : Int) (h0 : 0 < b) (h1 : b ≤ 9007199254740991) (h2 : -9007199254740991 ≤ n) (h3 : n ≤ 9007199254740991) (w : World) :
    Calls Try.prog 27 #[.int .i64 n, .int .i64 b] w fun e w' => e = .returned (.int .i64 (near n b)) ∧ w = w' := by
  unfold near
  have hp := near_parts (2 * n + b) (2 * b) (by omega)
  obtain ⟨q, hq⟩ : ∃ q, q = 2 * n + b := ⟨_, rfl⟩
  obtain ⟨d, hd⟩ : ∃ d, d = 2 * b := ⟨_, rfl⟩
  rw [← hq, ← hd] at hp ⊢
  have e1 : IntKind.i64.wrap (2 * n) = 2 * n := by rw [IntKind.wrap_i64]; omega
  have e2 : 2 * n + b = q := hq.symm
  have e3 : IntKind.i64.wrap q = q := by rw [IntKind.wrap_i64]; omega
  have e4 : 2 * b = d := hd.symm
  have e5 : IntKind.i64.wrap d = d := by rw [IntKind.wrap_i64]; omega
  have hd0 : (d == 0) = false := by rw [beq_eq_false_iff_ne]; omega
  have hdm : (d == -1) = false := by rw [beq_eq_false_iff_ne]; omega
  have b1 := Int.natAbs_tdiv_le_natAbs q d
  clear hq hd
  rcases hp with ⟨p1, p2⟩ | ⟨p1, p2⟩
  · rw [← p2]
    have HP := Lib.hid p2
    clear p2
    go_enter Try.func27, Try.ntmps27
    go_wp2_with fail
    go_ret
    exact ⟨rfl, rfl⟩
  · have e6 : IntKind.i64.wrap (q.tdiv d - 1) = q / d := by rw [IntKind.wrap_i64]; omega
    have e7 : IntKind.i64.wrap (q.tdiv d) = q.tdiv d := by rw [IntKind.wrap_i64]; omega
    have HP := Lib.hid p2
    clear p2 b1
    go_enter Try.func27, Try.ntmps27
    go_wp2_with fail
    go_ret
    exact ⟨rfl, rfl⟩
end Go.Proofs.Ytejbpnhondpnfaa
