/- Whole points: divided with a rest, and what divides both of two points. -/
namespace Go.Proofs.Ytejbpnhondpnfaa

structure Pt where
  x : Int
  y : Int
  deriving DecidableEq

namespace Pt
def mul (a b : Pt) : Pt := ⟨a.x * b.x - a.y * b.y, a.x * b.y + a.y * b.x⟩
def sub (a b : Pt) : Pt := ⟨a.x - b.x, a.y - b.y⟩
def norm (a : Pt) : Int := a.x * a.x + a.y * a.y
def zero : Pt := ⟨0, 0⟩
theorem ext' {a b : Pt} (h : a.x = b.x) (k : a.y = b.y) : a = b := by cases a; cases b; simp at h k; rw [h, k]
theorem norm_mul (a b : Pt) : (a.mul b).norm = a.norm * b.norm := by unfold mul norm; grind
theorem mul_assoc (a b c : Pt) : (a.mul b).mul c = a.mul (b.mul c) := by apply ext' <;> (unfold mul; grind)
theorem norm_nonneg (a : Pt) : 0 ≤ a.norm := by
  unfold norm
  have h1 : 0 ≤ a.x * a.x := by rcases Int.le_total 0 a.x with h | h; exact Int.mul_nonneg h h; exact Int.mul_nonneg_of_nonpos_of_nonpos h h
  have h2 : 0 ≤ a.y * a.y := by rcases Int.le_total 0 a.y with h | h; exact Int.mul_nonneg h h; exact Int.mul_nonneg_of_nonpos_of_nonpos h h
  omega
end Pt

theorem sq_nonneg (x : Int) : 0 ≤ x * x := by rcases Int.le_total 0 x with h | h; exact Int.mul_nonneg h h; exact Int.mul_nonneg_of_nonpos_of_nonpos h h
theorem sq_zero {x : Int} (h : x * x = 0) : x = 0 := by rcases Int.mul_eq_zero.1 h with h | h <;> exact h
theorem Pt.norm_zero {a : Pt} (h : a.norm = 0) : a = Pt.zero := by
  unfold Pt.norm at h
  have h1 := sq_nonneg a.x
  have h2 := sq_nonneg a.y
  exact Pt.ext' (sq_zero (by omega)) (sq_zero (by omega))
theorem Pt.norm_pos {a : Pt} (h : a ≠ Pt.zero) : 0 < a.norm := by
  have := a.norm_nonneg
  rcases Int.lt_or_eq_of_le this with h1 | h1
  · exact h1
  · exact absurd (Pt.norm_zero h1.symm) h

/-- A quotient of whole numbers, rounded to the nearest one, a half to the greater one. -/
def near (n b : Int) : Int := (2 * n + b) / (2 * b)
theorem near_err (n : Int) {b : Int} (h : 0 < b) : -b ≤ 2 * (n - near n b * b) ∧ 2 * (n - near n b * b) ≤ b := by
  unfold near
  have h1 := Int.emod_nonneg (2 * n + b) (show 2 * b ≠ 0 by omega)
  have h2 := Int.emod_lt_of_pos (2 * n + b) (show 0 < 2 * b by omega)
  have h3 := Int.mul_ediv_add_emod (2 * n + b) (2 * b)
  obtain ⟨q, hq⟩ : ∃ q, q = (2 * n + b) / (2 * b) := ⟨_, rfl⟩
  rw [← hq] at h3 ⊢
  have h4 : 2 * b * q = 2 * (q * b) := by grind
  omega

/-- The first, times the second turned about; the quotient; the rest. -/
def conjMul (a b : Pt) : Pt := ⟨a.x * b.x - a.y * (-b.y), a.x * (-b.y) + a.y * b.x⟩
def quoG (a b : Pt) : Pt := ⟨near (conjMul a b).x b.norm, near (conjMul a b).y b.norm⟩
def remG (a b : Pt) : Pt := a.sub ((quoG a b).mul b)

theorem sq_half {e n : Int} (h1 : -n ≤ 2 * e) (h2 : 2 * e ≤ n) (hn : 0 ≤ n) : 4 * (e * e) ≤ n * n := by
  have h3 : 0 ≤ (n - 2 * e) * (n + 2 * e) := Int.mul_nonneg (by omega) (by omega)
  have h4 : (n - 2 * e) * (n + 2 * e) = n * n - 4 * (e * e) := by grind
  omega
theorem rem_norm (a : Pt) {b : Pt} (hb : b ≠ Pt.zero) : 2 * (remG a b).norm ≤ b.norm := by
  have hn := Pt.norm_pos hb
  have e1 := near_err (conjMul a b).x hn
  have e2 := near_err (conjMul a b).y hn
  obtain ⟨n, hnn⟩ : ∃ n, n = b.norm := ⟨_, rfl⟩
  obtain ⟨p, hp⟩ : ∃ p, p = near (conjMul a b).x b.norm := ⟨_, rfl⟩
  obtain ⟨q, hq⟩ : ∃ q, q = near (conjMul a b).y b.norm := ⟨_, rfl⟩
  rw [← hp] at e1
  rw [← hq] at e2
  have f1 := sq_half e1.1 e1.2 (by omega)
  have f2 := sq_half e2.1 e2.2 (by omega)
  have key : (remG a b).norm * b.norm = ((conjMul a b).x - p * b.norm) * ((conjMul a b).x - p * b.norm) + ((conjMul a b).y - q * b.norm) * ((conjMul a b).y - q * b.norm) := by
    unfold remG quoG
    rw [← hp, ← hq]
    unfold Pt.norm Pt.sub Pt.mul conjMul
    grind
  have hn' : 0 < n := by rw [hnn]; exact hn
  rw [← hnn] at key f1 f2 ⊢
  have h5 : 2 * (2 * ((remG a b).norm * n)) ≤ 2 * (n * n) := by omega
  have h6 : (2 * (remG a b).norm) * n ≤ n * n := by
    have : (2 * (remG a b).norm) * n = 2 * ((remG a b).norm * n) := by grind
    omega
  exact Int.le_of_mul_le_mul_right h6 hn'

/-- d divides a. -/
def Dv (d a : Pt) : Prop := ∃ t, a = d.mul t
theorem Dv.sub {d a b : Pt} (h : Dv d a) (k : Dv d b) : Dv d (a.sub b) := by
  obtain ⟨t, rfl⟩ := h
  obtain ⟨u, rfl⟩ := k
  exact ⟨t.sub u, by apply Pt.ext' <;> (unfold Pt.sub Pt.mul; grind)⟩
theorem Dv.mul {d a : Pt} (h : Dv d a) (q : Pt) : Dv d (q.mul a) := by
  obtain ⟨t, rfl⟩ := h
  exact ⟨q.mul t, by apply Pt.ext' <;> (unfold Pt.mul; grind)⟩
theorem dv_step (d a b q : Pt) : (Dv d a ∧ Dv d b) ↔ (Dv d b ∧ Dv d (a.sub (q.mul b))) := by
  constructor
  · rintro ⟨h, k⟩
    exact ⟨k, h.sub (k.mul q)⟩
  · rintro ⟨h, k⟩
    refine ⟨?_, h⟩
    have h1 : Dv d (((Pt.mk (-1) 0).mul q).mul b) := h.mul _
    have := k.sub h1
    have e : (a.sub (q.mul b)).sub (((Pt.mk (-1) 0).mul q).mul b) = a := by apply Pt.ext' <;> (unfold Pt.sub Pt.mul; grind)
    rwa [e] at this
theorem dv_zero (d : Pt) : Dv d Pt.zero := ⟨Pt.zero, by apply Pt.ext' <;> (unfold Pt.zero Pt.mul; grind)⟩

/-- A point, as it is divided down. -/
def gcdG (a b : Pt) : Pt := if h : b = Pt.zero then a else gcdG b (remG a b)
termination_by b.norm.toNat
decreasing_by
  have h1 := rem_norm a h
  have h2 := Pt.norm_pos h
  have h3 := (remG a b).norm_nonneg
  omega
theorem gcdG_step (a : Pt) {b : Pt} (h : b ≠ Pt.zero) : gcdG a b = gcdG b (remG a b) := by rw [gcdG, dif_neg h]
theorem gcdG_end (a : Pt) : gcdG a Pt.zero = a := by rw [gcdG, dif_pos rfl]
theorem gcdG_dv_aux (d : Pt) : ∀ (n : Nat) (a b : Pt), b.norm.toNat ≤ n → (Dv d (gcdG a b) ↔ (Dv d a ∧ Dv d b))
  | n, a, b, hn => by
    by_cases h : b = Pt.zero
    · rw [h, gcdG_end]
      exact ⟨fun k => ⟨k, dv_zero d⟩, fun k => k.1⟩
    · have h1 := rem_norm a h
      have h2 := Pt.norm_pos h
      have h3 := (remG a b).norm_nonneg
      cases n with
      | zero => omega
      | succ n =>
        rw [gcdG_step a h, gcdG_dv_aux d n b (remG a b) (by omega)]
        exact (dv_step d a b (quoG a b)).symm
theorem gcdG_dv (d a b : Pt) : Dv d (gcdG a b) ↔ (Dv d a ∧ Dv d b) := gcdG_dv_aux d _ a b (Nat.le_refl _)

/-- Turned by a right angle. -/
def rot (a : Pt) : Pt := ⟨-a.y, a.x⟩
def quad (a : Pt) : Bool := decide (0 < a.x) && decide (0 ≤ a.y)
/-- Turned till it lies in its quadrant. -/
def nrmF : Nat → Pt → Pt
  | 0, a => a
  | k + 1, a => if a = Pt.zero ∨ quad a = true then a else nrmF k (rot a)
theorem rot_dv (d a : Pt) : Dv d (rot a) ↔ Dv d a := by
  constructor
  · rintro ⟨t, h⟩
    refine ⟨⟨t.y, -t.x⟩, ?_⟩
    have h1 := congrArg Pt.x h
    have h2 := congrArg Pt.y h
    unfold rot Pt.mul at *
    simp only at h1 h2
    apply Pt.ext'
    · simp only; grind
    · simp only; grind
  · rintro ⟨t, rfl⟩
    exact ⟨⟨-t.y, t.x⟩, by apply Pt.ext' <;> (unfold rot Pt.mul; grind)⟩
theorem nrmF_dv (d : Pt) : ∀ (k : Nat) (a : Pt), Dv d (nrmF k a) ↔ Dv d a
  | 0, _ => Iff.rfl
  | k + 1, a => by
    unfold nrmF
    split
    · exact Iff.rfl
    · rw [nrmF_dv d k, rot_dv]
theorem quad_iff (a : Pt) : quad a = true ↔ 0 < a.x ∧ 0 ≤ a.y := by unfold quad; simp
theorem nrm_ok (a : Pt) : nrmF 3 a = Pt.zero ∨ quad (nrmF 3 a) = true := by
  by_cases h0 : a = Pt.zero ∨ quad a = true
  · unfold nrmF; rw [if_pos h0]; exact h0
  by_cases h1 : rot a = Pt.zero ∨ quad (rot a) = true
  · unfold nrmF; rw [if_neg h0]; unfold nrmF; rw [if_pos h1]; exact h1
  by_cases h2 : rot (rot a) = Pt.zero ∨ quad (rot (rot a)) = true
  · unfold nrmF; rw [if_neg h0]; unfold nrmF; rw [if_neg h1]; unfold nrmF; rw [if_pos h2]; exact h2
  unfold nrmF; rw [if_neg h0]; unfold nrmF; rw [if_neg h1]; unfold nrmF; rw [if_neg h2]
  show rot (rot (rot a)) = _ ∨ quad (rot (rot (rot a))) = true
  refine .inr ?_
  have k0 : ¬ (a.x = 0 ∧ a.y = 0) := fun h => h0 (.inl (Pt.ext' h.1 h.2))
  have q0 : ¬ (0 < a.x ∧ 0 ≤ a.y) := fun h => h0 (.inr ((quad_iff a).2 h))
  have q1 : ¬ (0 < (rot a).x ∧ 0 ≤ (rot a).y) := fun h => h1 (.inr ((quad_iff _).2 h))
  have q2 : ¬ (0 < (rot (rot a)).x ∧ 0 ≤ (rot (rot a)).y) := fun h => h2 (.inr ((quad_iff _).2 h))
  rw [quad_iff]
  simp only [rot] at *
  omega
theorem unit_of {t : Pt} (h : t.norm = 1) : (t.x = 1 ∧ t.y = 0) ∨ (t.x = -1 ∧ t.y = 0) ∨ (t.x = 0 ∧ t.y = 1) ∨ (t.x = 0 ∧ t.y = -1) := by
  unfold Pt.norm at h
  have h1 := sq_nonneg t.x
  have h2 := sq_nonneg t.y
  have lim : ∀ z : Int, z * z ≤ 1 → z = -1 ∨ z = 0 ∨ z = 1 := by
    intro z hz
    by_cases a : 2 ≤ z
    · have := Int.mul_le_mul a a (by omega) (by omega); omega
    · by_cases b : z ≤ -2
      · have := Int.mul_le_mul (show 2 ≤ -z by omega) (show 2 ≤ -z by omega) (by omega) (by omega)
        rw [Int.neg_mul_neg] at this; omega
      · omega
  rcases lim t.x (by omega) with hx | hx | hx <;> rcases lim t.y (by omega) with hy | hy | hy <;> rw [hx, hy] at h <;> simp at h <;> simp [hx, hy]
/-- Two normal points that divide each other are one. -/
theorem dv_anti {a b : Pt} (h : Dv a b) (k : Dv b a) (ha : a = Pt.zero ∨ quad a = true) (hb : b = Pt.zero ∨ quad b = true) : a = b := by
  obtain ⟨t, ht⟩ := h
  obtain ⟨u, hu⟩ := k
  rcases ha with ha | ha
  · rw [ht, ha]
    apply Pt.ext' <;> (unfold Pt.zero Pt.mul; grind)
  rcases hb with hb | hb
  · rw [hu, hb]
    apply Pt.ext' <;> (unfold Pt.zero Pt.mul; grind)
  rw [quad_iff] at ha hb
  have ha0 : a ≠ Pt.zero := fun e => by rw [e] at ha; exact absurd ha.1 (by decide)
  have n1 := Pt.norm_pos ha0
  have n2 : b.norm = a.norm * t.norm := by rw [← Pt.norm_mul, ← ht]
  have n3 : a.norm = b.norm * u.norm := by rw [← Pt.norm_mul, ← hu]
  have n4 : a.norm * (t.norm * u.norm) = a.norm * 1 := by rw [← Int.mul_assoc, ← n2, ← n3, Int.mul_one]
  have n5 := Int.eq_of_mul_eq_mul_left (by omega) n4
  have t1 := t.norm_nonneg
  have u1 := u.norm_nonneg
  have n6 : t.norm = 1 := by
    have : t.norm ∣ 1 := ⟨u.norm, n5.symm⟩
    exact Int.eq_one_of_dvd_one t1 this
  have e1 : b.x = a.x * t.x - a.y * t.y := by rw [ht]; rfl
  have e2 : b.y = a.x * t.y + a.y * t.x := by rw [ht]; rfl
  rcases unit_of n6 with ⟨h1, h2⟩ | ⟨h1, h2⟩ | ⟨h1, h2⟩ | ⟨h1, h2⟩ <;> rw [h1, h2] at e1 e2 <;> simp at e1 e2
  · exact Pt.ext' (by omega) (by omega)
  all_goals omega

/-- The greatest common divisor, in its quadrant. -/
def comG (a b : Pt) : Pt := nrmF 3 (gcdG a b)
theorem comG_dv (d a b : Pt) : Dv d (comG a b) ↔ (Dv d a ∧ Dv d b) := by unfold comG; rw [nrmF_dv, gcdG_dv]
theorem dv_refl (a : Pt) : Dv a a := ⟨⟨1, 0⟩, by apply Pt.ext' <;> (unfold Pt.mul; grind)⟩
theorem comG_eq {a b c e : Pt} (h : ∀ d, (Dv d a ∧ Dv d b) ↔ (Dv d c ∧ Dv d e)) : comG a b = comG c e := by
  refine dv_anti ?_ ?_ (nrm_ok _) (nrm_ok _)
  · exact (comG_dv _ _ _).2 ((h _).1 ((comG_dv _ _ _).1 (dv_refl _)))
  · exact (comG_dv _ _ _).2 ((h _).2 ((comG_dv _ _ _).1 (dv_refl _)))
theorem comG_comm (a b : Pt) : comG a b = comG b a := comG_eq fun _ => And.comm
theorem comG_assoc (a b c : Pt) : comG (comG a b) c = comG a (comG b c) := comG_eq fun d => by rw [comG_dv, comG_dv, and_assoc]

/-- Within a point's range. -/
def inP (a : Pt) : Prop := (-16777216 ≤ a.x ∧ a.x ≤ 16777216) ∧ (-16777216 ≤ a.y ∧ a.y ≤ 16777216)
theorem small_of_norm {a : Pt} (h : a.norm ≤ 16777216 * 16777216) : inP a := by
  unfold Pt.norm at h
  have h1 := sq_nonneg a.x
  have h2 := sq_nonneg a.y
  have lim : ∀ z : Int, z * z ≤ 16777216 * 16777216 → -16777216 ≤ z ∧ z ≤ 16777216 := by
    intro z hz
    refine ⟨?_, ?_⟩
    · exact Int.not_lt.1 fun hc => by
        have := Int.mul_le_mul (show 16777217 ≤ -z by omega) (show 16777217 ≤ -z by omega) (by omega) (by omega)
        rw [Int.neg_mul_neg] at this; omega
    · exact Int.not_lt.1 fun hc => by
        have := Int.mul_le_mul (show 16777217 ≤ z by omega) (show 16777217 ≤ z by omega) (by omega) (by omega)
        omega
  exact ⟨lim _ (by omega), lim _ (by omega)⟩
theorem norm_of_small {a : Pt} (h : inP a) : a.norm ≤ 2 * (16777216 * 16777216) := by
  have lim : ∀ z : Int, -16777216 ≤ z → z ≤ 16777216 → z * z ≤ 16777216 * 16777216 := by
    intro z h1 h2
    have h3 : 0 ≤ (16777216 - z) * (16777216 + z) := Int.mul_nonneg (by omega) (by omega)
    have h4 : (16777216 - z) * (16777216 + z) = 16777216 * 16777216 - z * z := by grind
    omega
  have h1 := lim a.x h.1.1 h.1.2
  have h2 := lim a.y h.2.1 h.2.2
  unfold Pt.norm
  omega
theorem dv_in {g a : Pt} (h : Dv g a) (ha : a ≠ Pt.zero) (hi : inP a) : inP g := by
  obtain ⟨t, ht⟩ := h
  have n1 : a.norm = g.norm * t.norm := by rw [← Pt.norm_mul, ← ht]
  have ht0 : t ≠ Pt.zero := fun e => ha (by rw [ht, e]; apply Pt.ext' <;> (unfold Pt.zero Pt.mul; grind))
  have t1 := Pt.norm_pos ht0
  by_cases h1 : t.norm = 1
  · have e1 : a.x = g.x * t.x - g.y * t.y := by rw [ht]; rfl
    have e2 : a.y = g.x * t.y + g.y * t.x := by rw [ht]; rfl
    unfold inP at *
    rcases unit_of h1 with ⟨h1, h2⟩ | ⟨h1, h2⟩ | ⟨h1, h2⟩ | ⟨h1, h2⟩ <;> rw [h1, h2] at e1 e2 <;> simp at e1 e2 <;> omega
  · apply small_of_norm
    have h2 := norm_of_small hi
    have h3 := g.norm_nonneg
    have h4 : g.norm * 2 ≤ g.norm * t.norm := Int.mul_le_mul_of_nonneg_left (by omega) h3
    omega
theorem comG_in {a b : Pt} (ha : inP a) (hb : inP b) : inP (comG a b) := by
  have h := (comG_dv (comG a b) a b).1 (dv_refl _)
  by_cases h0 : a = Pt.zero
  · by_cases h1 : b = Pt.zero
    · rw [h0, h1]
      have : comG Pt.zero Pt.zero = Pt.zero := by
        unfold comG
        rw [gcdG_end]
        unfold nrmF
        rw [if_pos (.inl rfl)]
      rw [this]
      exact ⟨⟨by decide, by decide⟩, ⟨by decide, by decide⟩⟩
    · exact dv_in h.2 h1 hb
  · exact dv_in h.1 h0 ha
end Go.Proofs.Ytejbpnhondpnfaa
