/- Floats that are whole numbers: read, made, added, multiplied, made whole numbers again, without loss below 2 to the 53. -/
import Ieee.Arith
import Derived.Laws.ComplexArith
namespace Go.Proofs.Ytejbpnhondpnfaa
open Ieee

/-- The whole number that a sign and a magnitude are, at a place of 2. -/
def Is (s : Bool) (m : Nat) (e : Int) (n : Int) : Prop := e ≤ 0 ∧ m = n.natAbs * 2 ^ (-e).toNat ∧ (m ≠ 0 → (s = true ↔ n < 0))

/-- A double's word that stands for a whole number. -/
def IsF (b : Nat) (n : Int) : Prop := ∃ s m e, double.read b = .number s m e ∧ Is s m e n

theorem read_word (s : Bool) (rung : Nat) (h : rung < double.infRung) :
    double.read (double.word s rung) = if rung < 2 ^ 52 then .number s rung (-1074) else .number s (2 ^ 52 + rung % 2 ^ 52) (-1074 + (rung / 2 ^ 52 - 1 : Nat)) := by
  have hi : double.infRung = 2047 * 2 ^ 52 := by decide
  have hw : double.signWeight = 2 ^ 63 := by decide
  have hb : double.binade = 2 ^ 52 := by decide
  have hl : double.leastPlace = -1074 := by decide
  rw [hi] at h
  have hr : rung < 2 ^ 63 := by omega
  have e1 : double.word s rung % 2 ^ 63 = rung := by
    unfold Format.word
    rw [hw]
    cases s <;> simp <;> omega
  have e2 : (double.word s rung / 2 ^ 63 % 2 == 1) = s := by
    unfold Format.word
    rw [hw]
    cases s
    · simp; omega
    · simp; omega
  unfold Format.read
  simp only [hw, hb, hl, hi, e1, e2]
  rw [if_pos h]

theorem log2_shift {n k : Nat} (h : n ≠ 0) : (n * 2 ^ k).log2 = n.log2 + k := by
  rw [Nat.log2_eq_iff (by have := Nat.two_pow_pos k; exact Nat.mul_ne_zero h (by omega))]
  have h1 := Nat.log2_self_le h
  have h2 := Nat.lt_log2_self (n := n)
  have hk := Nat.two_pow_pos k
  constructor
  · rw [Nat.pow_add]; exact Nat.mul_le_mul_right _ h1
  · rw [show n.log2 + k + 1 = (n.log2 + 1) + k by omega, Nat.pow_add]
    exact Nat.mul_lt_mul_of_pos_right h2 hk

theorem cut_exact (way : Toward) (s : Bool) (q drop : Nat) (h : q = 0 ∨ drop ≤ (q * 2 ^ drop).log2 + 2) : way.cut s (q * 2 ^ drop) drop = q := by
  unfold Toward.cut
  rcases h with rfl | h
  · simp
    cases way <;> simp [Nat.one_shiftLeft]
  · rw [Nat.min_eq_left h]
    have hg : 1 <<< drop = 2 ^ drop := by rw [Nat.one_shiftLeft]
    have hp := Nat.two_pow_pos drop
    simp only [hg, Nat.mul_div_cancel _ hp, Nat.mul_mod_left]
    cases way <;> simp
    all_goals omega

theorem word_is (s : Bool) {n : Int} {L K : Nat} (hn : n.natAbs ≠ 0) (hs : s = true ↔ n < 0) (hL : L < 53) (hK : K = n.natAbs * 2 ^ (52 - L)) (h1 : 2 ^ 52 ≤ K) (h2 : K < 2 ^ 53) : IsF (double.word s ((L + 1022) * 2 ^ 52 + K)) n := by
  have hi : double.infRung = 2047 * 2 ^ 52 := by decide
  have hlt : (L + 1022) * 2 ^ 52 + K < double.infRung := by rw [hi]; omega
  refine ⟨s, K, (L : Int) - 52, ?_, by omega, ?_, fun _ => hs⟩
  · rw [read_word s _ hlt, if_neg (by omega)]
    have e1 : ((L + 1022) * 2 ^ 52 + K) % 2 ^ 52 = K - 2 ^ 52 := by omega
    have e2 : ((L + 1022) * 2 ^ 52 + K) / 2 ^ 52 = L + 1023 := by omega
    have e3 : 2 ^ 52 + (K - 2 ^ 52) = K := by omega
    have e4 : (-1074 + ((L + 1023 - 1 : Nat) : Int)) = (L : Int) - 52 := by omega
    rw [e1, e2, e3, e4]
  · rw [hK]
    congr 2
    omega

theorem is_zero (s : Bool) {e : Int} (h : e ≤ 0) : Is s 0 e 0 := ⟨h, by rw [Int.natAbs_zero, Nat.zero_mul], fun h => absurd rfl h⟩
/-- A whole number below 2 to the 53 is written as it is. -/
theorem write_is {s : Bool} {m : Nat} {e n : Int} (h : Is s m e n) (hn : n.natAbs < 2 ^ 53) : IsF (double.write (.number s m e)) n := by
  obtain ⟨he, hm, hs⟩ := h
  show IsF (double.nearest s m e) n
  have hp := Nat.two_pow_pos (-e).toNat
  by_cases hm0 : m = 0
  · have hn0 : n = 0 := by
      rw [hm0] at hm
      rcases Nat.mul_eq_zero.1 hm.symm with h | h
      · omega
      · omega
    unfold Format.nearest
    rw [if_pos hm0]
    subst hn0
    refine ⟨s, 0, -1074, ?_, is_zero s (by decide)⟩
    rw [read_word s 0 (by decide), if_pos (by decide)]
  · have hna : n.natAbs ≠ 0 := fun h => hm0 (by rw [hm, h, Nat.zero_mul])
    have hL := log2_shift (k := (-e).toNat) hna
    rw [← hm] at hL
    have hL53 : n.natAbs.log2 < 53 := (Nat.log2_lt hna).2 hn
    obtain ⟨L, hLL⟩ : ∃ L, L = n.natAbs.log2 := ⟨_, rfl⟩
    rw [← hLL] at hL hL53
    have hlp : double.leastPlace = -1074 := by decide
    have hfb : double.fractionBits = 52 := by decide
    have hbin : double.binade = 2 ^ 52 := by decide
    have hlast : max (e + (m.log2 : Int) - (52 : Nat)) (-1074) = (L : Int) - 52 := by omega
    have hK1 : 2 ^ 52 ≤ n.natAbs * 2 ^ (52 - L) := by
      have h1 := Nat.log2_self_le hna
      rw [← hLL] at h1
      have := Nat.mul_le_mul_right (2 ^ (52 - L)) h1
      rwa [← Nat.pow_add, show L + (52 - L) = 52 by omega] at this
    have hK2 : n.natAbs * 2 ^ (52 - L) < 2 ^ 53 := by
      have h1 := Nat.lt_log2_self (n := n.natAbs)
      rw [← hLL] at h1
      have := Nat.mul_lt_mul_of_pos_right h1 (Nat.two_pow_pos (52 - L))
      rwa [← Nat.pow_add, show L + 1 + (52 - L) = 53 by omega] at this
    have hw := word_is s hna (hs hm0) hL53 rfl hK1 hK2
    have hkept : Toward.even.cut s (m <<< (e - ((L : Int) - 52)).toNat) (((L : Int) - 52) - e).toNat = n.natAbs * 2 ^ (52 - L) := by
      by_cases hc : (L : Int) - 52 ≤ e
      · have e1 : (((L : Int) - 52) - e).toNat = 0 := by omega
        have e2 : m <<< (e - ((L : Int) - 52)).toNat = n.natAbs * 2 ^ (52 - L) := by
          rw [Nat.shiftLeft_eq, hm, Nat.mul_assoc, ← Nat.pow_add]
          congr 2
          omega
        rw [e1, e2]
        have := cut_exact .even s (n.natAbs * 2 ^ (52 - L)) 0 (.inr (by omega))
        rwa [Nat.pow_zero, Nat.mul_one] at this
      · have e1 : (e - ((L : Int) - 52)).toNat = 0 := by omega
        obtain ⟨d, hd⟩ : ∃ d, d = (((L : Int) - 52) - e).toNat := ⟨_, rfl⟩
        have e2 : m = n.natAbs * 2 ^ (52 - L) * 2 ^ d := by
          rw [hm, Nat.mul_assoc, ← Nat.pow_add]
          congr 2
          omega
        rw [e1, Nat.shiftLeft_zero, ← hd]
        have := cut_exact .even s (n.natAbs * 2 ^ (52 - L)) d (.inr (by rw [← e2]; omega))
        rwa [← e2] at this
    unfold Format.nearest
    rw [if_neg hm0]
    simp only [hfb, hlp, hbin, hlast, hkept]
    have e3 : ((L : Int) - 52 - -1074).toNat = L + 1022 := by omega
    have hi : double.infRung = 2047 * 2 ^ 52 := by decide
    rw [e3, Nat.min_eq_left (by rw [hi]; omega)]
    exact hw

theorem is_int (n : Int) : Is (decide (n < 0)) n.natAbs 0 n := ⟨by omega, by simp, fun _ => by simp⟩
theorem signed_is {s : Bool} {m : Nat} {e n : Int} (h : Is s m e n) (k : Nat) : signed s m k = n * ((2 ^ ((-e).toNat + k) : Nat) : Int) := by
  obtain ⟨he, hm, hs⟩ := h
  unfold signed
  rw [Nat.shiftLeft_eq]
  have e1 : m * 2 ^ k = n.natAbs * 2 ^ ((-e).toNat + k) := by rw [hm, Nat.mul_assoc, ← Nat.pow_add]
  rw [e1]
  obtain ⟨q, hq⟩ : ∃ q, q = 2 ^ ((-e).toNat + k) := ⟨_, rfl⟩
  rw [← hq]
  by_cases hm0 : m = 0
  · have hn0 : n = 0 := by
      rw [hm0] at hm
      have hp := Nat.two_pow_pos (-e).toNat
      rcases Nat.mul_eq_zero.1 hm.symm with h | h
      · omega
      · omega
    subst hn0
    simp
  · have hs := hs hm0
    by_cases hn : n < 0
    · rw [if_pos (hs.2 hn)]
      have : ((n.natAbs : Nat) : Int) = -n := by omega
      push_cast
      rw [this, Int.neg_mul, Int.neg_neg]
    · rw [if_neg (fun h => hn (hs.1 h))]
      have : ((n.natAbs : Nat) : Int) = n := by omega
      push_cast
      rw [this]

theorem sum_is {s t : Bool} {m n : Nat} {i j a b : Int} (h : Is s m i a) (k : Is t n j b) : ∃ u p e, Datum.sum (.number s m i) (.number t n j) = some (.number u p e) ∧ Is u p e (a + b) := by
  have h1 := signed_is h (i - min i j).toNat
  have h2 := signed_is k (j - min i j).toNat
  have hi := h.1
  have hj := k.1
  have e1 : (-i).toNat + (i - min i j).toNat = (-(min i j)).toNat := by omega
  have e2 : (-j).toNat + (j - min i j).toNat = (-(min i j)).toNat := by omega
  rw [e1] at h1
  rw [e2] at h2
  have htot : signed s m (i - min i j).toNat + signed t n (j - min i j).toNat = (a + b) * ((2 ^ (-(min i j)).toNat : Nat) : Int) := by rw [h1, h2, Int.add_mul]
  have hp : 0 < ((2 ^ (-(min i j)).toNat : Nat) : Int) := by have := Nat.two_pow_pos (-(min i j)).toNat; omega
  refine ⟨_, _, _, rfl, by omega, ?_, ?_⟩
  · simp only [htot]
    rw [Int.natAbs_mul, Int.natAbs_natCast]
  · intro hne
    simp only [htot] at hne ⊢
    have hz : ¬ (a + b) * ((2 ^ (-(min i j)).toNat : Nat) : Int) = 0 := by
      intro h
      rw [h] at hne
      simp at hne
    rw [if_neg hz, decide_eq_true_eq]
    constructor
    · intro h
      exact Int.not_le.1 fun hc => by have := Int.mul_nonneg hc (Int.le_of_lt hp); omega
    · intro h
      exact Int.mul_neg_of_neg_of_pos h hp

theorem product_is {s t : Bool} {m n : Nat} {i j a b : Int} (h : Is s m i a) (k : Is t n j b) : ∃ u p e, Datum.product (.number s m i) (.number t n j) = some (.number u p e) ∧ Is u p e (a * b) := by
  obtain ⟨h1, h2, h3⟩ := h
  obtain ⟨k1, k2, k3⟩ := k
  refine ⟨_, _, _, rfl, by omega, ?_, ?_⟩
  · rw [h2, k2, Int.natAbs_mul, show (-(i + j)).toNat = (-i).toNat + (-j).toNat by omega, Nat.pow_add]
    rw [Nat.mul_mul_mul_comm]
  · intro hne
    have hm : m ≠ 0 := fun h => hne (by rw [h, Nat.zero_mul])
    have hn : n ≠ 0 := fun h => hne (by rw [h, Nat.mul_zero])
    have hs := h3 hm
    have ht := k3 hn
    have ha : a ≠ 0 := fun h => hm (by rw [h2, h]; simp)
    have hb : b ≠ 0 := fun h => hn (by rw [k2, h]; simp)
    rcases Int.lt_or_gt_of_ne ha with ha | ha <;> rcases Int.lt_or_gt_of_ne hb with hb | hb
    · have e1 := hs.2 ha
      have e2 := ht.2 hb
      have := Int.mul_pos_of_neg_of_neg ha hb
      simp [e1, e2]; omega
    · have e1 := hs.2 ha
      have e2 : t = false := by cases t with | false => rfl | true => exact absurd (ht.1 rfl) (by omega)
      have := Int.mul_neg_of_neg_of_pos ha hb
      simp [e1, e2]; omega
    · have e1 : s = false := by cases s with | false => rfl | true => exact absurd (hs.1 rfl) (by omega)
      have e2 := ht.2 hb
      have := Int.mul_neg_of_pos_of_neg ha hb
      simp [e1, e2]; omega
    · have e1 : s = false := by cases s with | false => rfl | true => exact absurd (hs.1 rfl) (by omega)
      have e2 : t = false := by cases t with | false => rfl | true => exact absurd (ht.1 rfl) (by omega)
      have := Int.mul_pos ha hb
      simp [e1, e2]; omega

theorem opposite_is {s : Bool} {m : Nat} {e n : Int} (h : Is s m e n) : Is (!s) m e (-n) := by
  obtain ⟨h1, h2, h3⟩ := h
  refine ⟨h1, by rw [Int.natAbs_neg]; exact h2, fun hne => ?_⟩
  have hs := h3 hne
  have hn : n ≠ 0 := fun h => hne (by rw [h2, h]; simp)
  cases s with
  | true => have := hs.1 rfl; simp; omega
  | false =>
    have : ¬ n < 0 := fun h => by have := hs.2 h; cases this
    simp; omega

theorem toInt_is {s : Bool} {m : Nat} {e n : Int} (h : Is s m e n) : (Datum.number s m e).toInt .zero = some n := by
  obtain ⟨he, hm, hs⟩ := h
  have hcut : Toward.zero.cut s (m <<< e.toNat) (-e).toNat = n.natAbs := by
    have e1 : e.toNat = 0 := by omega
    rw [e1, Nat.shiftLeft_zero, hm]
    refine cut_exact .zero s n.natAbs (-e).toNat ?_
    by_cases hn : n.natAbs = 0
    · exact .inl hn
    · refine .inr ?_
      rw [log2_shift hn]; omega
  unfold Datum.toInt Datum.integral
  simp only [hcut]
  unfold signed
  rw [Nat.shiftLeft_zero]
  by_cases hm0 : m = 0
  · have hn0 : n = 0 := by
      rw [hm0] at hm
      have hp := Nat.two_pow_pos (-e).toNat
      rcases Nat.mul_eq_zero.1 hm.symm with h | h
      · omega
      · omega
    subst hn0
    cases s <;> rfl
  · have hs := hs hm0
    by_cases hn : n < 0
    · rw [if_pos (hs.2 hn)]; congr 1; omega
    · rw [if_neg (fun h => hn (hs.1 h))]; congr 1; omega

theorem ofInt_is (n : Int) (hn : n.natAbs < 2 ^ 53) : IsF (FloatKind.nearest .f64 n) n := write_is (is_int n) hn

theorem mul_isF {x y : Nat} {a b : Int} (h : IsF x a) (k : IsF y b) (hn : (a * b).natAbs < 2 ^ 53) : ∃ r, floatBits .mul .f64 x y = some r ∧ IsF r (a * b) := by
  obtain ⟨s, m, e, hr, hi⟩ := h
  obtain ⟨t, n, j, kr, ki⟩ := k
  obtain ⟨u, p, q, hp, hq⟩ := product_is hi ki
  exact ⟨_, by show double.mul x y = _; unfold Format.mul; rw [hr, kr, hp]; rfl, write_is hq hn⟩
theorem add_isF {x y : Nat} {a b : Int} (h : IsF x a) (k : IsF y b) (hn : (a + b).natAbs < 2 ^ 53) : ∃ r, floatBits .add .f64 x y = some r ∧ IsF r (a + b) := by
  obtain ⟨s, m, e, hr, hi⟩ := h
  obtain ⟨t, n, j, kr, ki⟩ := k
  obtain ⟨u, p, q, hp, hq⟩ := sum_is hi ki
  exact ⟨_, by show double.add x y = _; unfold Format.add; rw [hr, kr, hp]; rfl, write_is hq hn⟩
theorem sub_isF {x y : Nat} {a b : Int} (h : IsF x a) (k : IsF y b) (hn : (a - b).natAbs < 2 ^ 53) : ∃ r, floatBits .sub .f64 x y = some r ∧ IsF r (a - b) := by
  obtain ⟨s, m, e, hr, hi⟩ := h
  obtain ⟨t, n, j, kr, ki⟩ := k
  obtain ⟨u, p, q, hp, hq⟩ := sum_is hi (opposite_is ki)
  rw [← Int.sub_eq_add_neg] at hq
  exact ⟨_, by show double.sub x y = _; unfold Format.sub; rw [hr, kr]; show (Datum.sum _ (.number (!t) n j)).map _ = _; rw [hp]; rfl, write_is hq hn⟩

/-- A complex word that stands for a point. -/
def IsC (x y : Nat) (a b : Int) : Prop := IsF x a ∧ IsF y b
theorem cmul_isC {x y z t : Nat} {a b c d : Int} (h : IsC x y a b) (k : IsC z t c d) (h1 : (a * c).natAbs < 2 ^ 51) (h2 : (b * d).natAbs < 2 ^ 51) (h3 : (a * d).natAbs < 2 ^ 51) (h4 : (b * c).natAbs < 2 ^ 51) :
    ∃ re im, cMulBits x y z t = some (re, im) ∧ IsC re im (a * c - b * d) (a * d + b * c) := by
  obtain ⟨r1, e1, f1⟩ := mul_isF h.1 k.1 (by omega)
  obtain ⟨r2, e2, f2⟩ := mul_isF h.2 k.2 (by omega)
  obtain ⟨r3, e3, f3⟩ := sub_isF f1 f2 (by omega)
  obtain ⟨r4, e4, f4⟩ := mul_isF h.1 k.2 (by omega)
  obtain ⟨r5, e5, f5⟩ := mul_isF h.2 k.1 (by omega)
  obtain ⟨r6, e6, f6⟩ := add_isF f4 f5 (by omega)
  exact ⟨r3, r6, by unfold cMulBits; rw [e1, e2, Option.bind_some, Option.bind_some, e3, Option.bind_some, e4, Option.bind_some, e5, Option.bind_some, e6]; rfl, f3, f6⟩
theorem csub_isC {x y z t : Nat} {a b c d : Int} (h : IsC x y a b) (k : IsC z t c d) (h1 : (a - c).natAbs < 2 ^ 53) (h2 : (b - d).natAbs < 2 ^ 53) :
    ∃ re im, cSumBits .sub .f64 x y z t = some (re, im) ∧ IsC re im (a - c) (b - d) := by
  obtain ⟨r1, e1, f1⟩ := sub_isF h.1 k.1 h1
  obtain ⟨r2, e2, f2⟩ := sub_isF h.2 k.2 h2
  exact ⟨r1, r2, by unfold cSumBits; rw [e1, Option.bind_some, e2]; rfl, f1, f2⟩
theorem toInt_isF {x : Nat} {a : Int} (h : IsF x a) (h1 : -9223372036854775808 ≤ a) (h2 : a ≤ 9223372036854775807) : floatToIntVal .f64 x .i64 = some a := by
  obtain ⟨s, m, e, hr, hi⟩ := h
  have e1 : (FloatKind.decode .f64 x).toInt .zero = some a := by
    show (double.read x).toInt .zero = some a
    rw [hr]
    exact toInt_is hi
  unfold floatToIntVal
  rw [e1]
  exact if_pos ⟨h1, h2⟩

end Go.Proofs.Ytejbpnhondpnfaa
