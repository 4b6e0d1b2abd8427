/- Decimals; whole numbers as values, written. -/
import Derived.Test.YtkldkaahpicnmaaFragA
namespace Go.Proofs.Ytkldkaahpicnmaa
open Go.RowKit PFragNames
open Go.Proofs.YtkldkaahpicnmaaW.PrintWords

def digits : ByteArray := ⟨#[48, 49, 50, 51, 52, 53, 54, 55, 56, 57, 97, 98, 99, 100, 101, 102]⟩
def digitB (d : Nat) : ByteArray := digits.extract d (d + 1)
/-- A number in decimal. -/
def decB (n : Nat) : ByteArray := if n < 10 then digitB n else decB (n / 10) ++ digitB (n % 10)
termination_by n
decreasing_by omega

theorem digitB_size (d : Nat) (h : d < 16) : (digitB d).size = 1 := by
  unfold digitB
  rw [ByteArray.size_extract]
  show min (d + 1) 16 - d = 1
  omega

theorem decB_size : ∀ (k n : Nat), n < 10 ^ (k + 1) → (decB n).size ≤ k + 1
  | k, n, h => by
    unfold decB
    by_cases h10 : n < 10
    · rw [if_pos h10, digitB_size n (by omega)]; omega
    · rw [if_neg h10, ByteArray.size_append, digitB_size (n % 10) (by omega)]
      cases k with
      | zero => omega
      | succ k =>
        have := decB_size k (n / 10) (by rw [Nat.pow_succ] at h; omega)
        omega

theorem dec_l0 : ∀ (k n : Nat) (x : ByteArray), n < 10 ^ (k + 1) → n ≤ 9007199254740992 → x.size + k ≤ 100000 → value_decimal.l0 (k + 1) (n : Int) x = some (decB n ++ x)
  | k, n, x, h, hn, hx => by
    have h1 : Int.tmod (n : Int) 10 = ((n % 10 : Nat) : Int) := by rw [Int.tmod_eq_emod_of_nonneg (by omega)]; omega
    have h2 : wrap64 (Int.tdiv (n : Int) 10) = ((n / 10 : Nat) : Int) := by rw [Int.tdiv_eq_ediv_of_nonneg (by omega)]; unfold wrap64; omega
    have h3 : wrap64 (((n % 10 : Nat) : Int) + 1) = ((n % 10 + 1 : Nat) : Int) := by unfold wrap64; omega
    have hd : ((⟨#[48, 49, 50, 51, 52, 53, 54, 55, 56, 57, 97, 98, 99, 100, 101, 102]⟩ : ByteArray).extract (n % 10) (n % 10 + 1)) = digitB (n % 10) := rfl
    have hs := digitB_size (n % 10) (by omega)
    have hm : n % 10 < 10 := Nat.mod_lt _ (by decide)
    unfold value_decimal.l0
    simp only [h1, h2, h3, Int.toNat_natCast, hd, hs]
    rw [if_pos (by omega), if_pos (by omega), if_pos (by omega), if_pos (by omega)]
    by_cases h10 : n < 10
    · rw [if_pos (by omega)]
      have e : n % 10 = n := Nat.mod_eq_of_lt h10
      unfold decB
      rw [if_pos h10, e]
    · rw [if_neg (by omega)]
      cases k with
      | zero => omega
      | succ k =>
        rw [dec_l0 k (n / 10) _ (by rw [Nat.pow_succ] at h; omega) (by omega) (by rw [ByteArray.size_append, hs]; omega)]
        conv => rhs; unfold decB
        rw [if_neg h10, ByteArray.append_assoc]

theorem dec_any (n : Nat) (hn : n ≤ 9007199254740992) (w : World) : Calls Try.prog 27 #[.int .i64 (n : Int)] w fun e w' => e = .returned (.string (decB n)) ∧ Below w.heap.size w w' := by
  have h : value_decimal.f (19 + 1) (n : Int) = some (decB n) := by
    simp only [value_decimal.f]
    rw [if_neg (by omega), dec_l0 18 n _ (by omega) hn (by decide)]
    exact congrArg some ByteArray.append_empty
  refine (value_decimal.calls _ _ _ w h).mono ?_
  rintro e w' ⟨he, hd⟩
  obtain ⟨m, rfl⟩ := hd.out
  exact ⟨he, ⟨rfl, rfl, rfl, Nat.le_refl _, fun _ _ => rfl⟩⟩

/-- A whole number as a value. -/
def intV (n : Int) : Value := .agg #[.int .i64 0, .int .i64 n, .string ⟨#[]⟩, .int .i64 0, .int .i64 0]

theorem vcells {W : World} {b : Nat} {a0 a1 a2 a3 a4 : Value} (h : W.heap[b]? = some (.cells #[a0, a1, a2, a3, a4] 46 (0, 0))) :
    W.cell? ⟨b, 0, none⟩ = some a0 ∧ W.cell? ⟨b, 1, none⟩ = some a1 ∧ W.cell? ⟨b, 2, none⟩ = some a2 ∧ W.cell? ⟨b, 3, none⟩ = some a3 ∧ W.cell? ⟨b, 4, none⟩ = some a4 := by
  simp [World.cell?, h]

attribute [local go_sem high] eqA44
/-- A bool comes back: true if n is in range. -/
def VRI (n : Int) (w : World) (e : Ending) (w' : World) : Prop := (∃ q : Bool, e = .returned (.bool q) ∧ (-9007199254740992 ≤ n ∧ n ≤ 9007199254740992 → q = true)) ∧ Below w.heap.size w w'
/-- A bool comes back. -/
def BoolEnd (w : World) (e : Ending) (w' : World) : Prop := (∃ q : Bool, e = .returned (.bool q)) ∧ Below w.heap.size w w'

set_option maxHeartbeats 2000000 in
theorem vright_int (n : Int) (w : World) : Calls Try.prog 26 #[intV n] w (VRI n w) := by
  unfold intV
  go_enter Try.func26, Try.ntmps26
  go_wp2_with fail
  obtain ⟨W1, hW1⟩ : ∃ W1, W1 = w.alloc (.cells #[.int .i64 0, .int .i64 n, .string ⟨#[]⟩, .int .i64 0, .int .i64 0] 46) := ⟨_, rfl⟩
  have hB : Below w.heap.size w W1 := by rw [hW1]; exact (Below.refl _ w).alloc (Nat.le_refl _) _
  obtain ⟨k0, k1, k2, k3, k4⟩ := vcells (W := W1) (by rw [hW1]; exact heap_alloc_new w _)
  rw [← hW1]
  clear hW1
  go_still (by kernel_rfl)
  go_wp2_with fail
  all_goals
    go_ret
    refine ⟨⟨_, rfl, fun hq => ?_⟩, hB.drew⟩
    first | rfl | (exfalso; omega) | (simp; omega)

/-- A point as a value. -/
def pointV (x y : Int) : Value := .agg #[.int .i64 2, .int .i64 0, .string ⟨#[]⟩, .int .i64 x, .int .i64 y]

theorem gright_any (x y : Int) (w : World) : Calls Try.prog 35 #[.agg #[.int .i64 x, .int .i64 y]] w (BoolEnd w) := by
  obtain ⟨r, hr⟩ : ∃ r, gauss_Right.f x y = some r := by
    unfold gauss_Right.f gauss_inside.f
    by_cases h1 : x ≥ -16777216
    · by_cases h2 : y ≥ -16777216
      · by_cases h3 : x ≤ 16777216 <;> simp [h1, h2, h3]
      · by_cases h3 : x ≤ 16777216 <;> simp [h1, h2, h3]
    · simp [h1]
  refine (gauss_Right.calls x y r w hr).mono ?_
  rintro e w' ⟨he, hb⟩
  exact ⟨⟨r, he⟩, hb⟩

set_option maxHeartbeats 2000000 in
theorem vright_point (x y : Int) (w : World) : Calls Try.prog 26 #[pointV x y] w (BoolEnd w) := by
  unfold pointV
  go_enter Try.func26, Try.ntmps26
  go_wp2_with fail
  obtain ⟨W1, hW1⟩ : ∃ W1, W1 = w.alloc (.cells #[.int .i64 2, .int .i64 0, .string ⟨#[]⟩, .int .i64 x, .int .i64 y] 46) := ⟨_, rfl⟩
  have hB : Below w.heap.size w W1 := by rw [hW1]; exact (Below.refl _ w).alloc (Nat.le_refl _) _
  have hs1 := hB.size
  obtain ⟨k0, k1, k2, k3, k4⟩ := vcells (W := W1) (by rw [hW1]; exact heap_alloc_new w _)
  rw [← hW1]
  clear hW1
  go_still (by kernel_rfl)
  go_wp2_with fail
  refine (gright_any x y _).mono ?_
  rintro e w2 ⟨⟨q, rfl⟩, hb2⟩
  have hb3 : Below w.heap.size w w2 := hB.drew.trans (hb2.mono hs1)
  cases q
  all_goals
    go_wp2_with fail
    go_ret
    exact ⟨⟨_, rfl⟩, hb3⟩

set_option maxHeartbeats 2000000 in
theorem write_int (n : Nat) (hn : n ≤ 9007199254740992) (w : World) : Calls Try.prog 15 #[intV n] w fun e w' => e = .returned (.string (decB n)) ∧ Below w.heap.size w w' := by
  have HR := Lib.hid (vright_int n)
  unfold intV at *
  go_enter Try.func15, Try.ntmps15
  go_wp2_with fail
  refine (HR.out _).mono ?_
  rintro e w1 ⟨⟨q, rfl, hq⟩, hb1⟩
  obtain rfl := hq (by omega)
  have hbx := (hb1.block w.heap.size (by simp)).trans (heap_alloc_new w _)
  obtain ⟨k0, k1, k2, k3, k4⟩ := vcells hbx
  have hb2 : Below w.heap.size w w1 := ((Below.refl _ w).alloc (Nat.le_refl _) _).trans (hb1.mono (by simp))
  go_wp2_with fail
  refine (dec_any n hn _).mono ?_
  rintro e w2 ⟨rfl, hb3⟩
  go_wp2_with fail
  go_ret
  exact ⟨rfl, hb2.trans (hb3.mono hb2.size)⟩

end Go.Proofs.Ytkldkaahpicnmaa
