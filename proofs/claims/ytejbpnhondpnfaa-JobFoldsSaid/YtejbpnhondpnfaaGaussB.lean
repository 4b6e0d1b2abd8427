/- A division of points with a rest, walked. -/
import Derived.Test.YtejbpnhondpnfaaGaussA
import Derived.Deep.RegionHeld3
import Derived.Lib.Hide
import Derived.Laws.Rows
namespace Go.Proofs.Ytejbpnhondpnfaa
open Go.RowKit

theorem near_small {n b C : Int} (h : 0 < b) (h1 : -(C * b) ≤ n) (h2 : n ≤ C * b) : -C ≤ near n b ∧ near n b ≤ C := by
  have he := near_err n h
  generalize near n b = q at he ⊢
  constructor
  · by_cases c : q ≤ -C - 1
    · have := Int.mul_le_mul_of_nonneg_right c (Int.le_of_lt h)
      have e : (-C - 1) * b = -(C * b) - b := by grind
      omega
    · omega
  · by_cases c : C + 1 ≤ q
    · have := Int.mul_le_mul_of_nonneg_right c (Int.le_of_lt h)
      have e : (C + 1) * b = C * b + b := by grind
      omega
    · omega

theorem abs_le_sq (x : Int) : x ≤ x * x ∧ -x ≤ x * x := by
  by_cases h : x = 0
  · subst h; omega
  · by_cases c : 1 ≤ x
    · have := Int.mul_le_mul_of_nonneg_left c (show 0 ≤ x by omega); have := sq_nonneg x; omega
    · have := Int.mul_le_mul_of_nonneg_left (show 1 ≤ -x by omega) (show 0 ≤ -x by omega)
      have e : (-x) * (-x) = x * x := by grind
      omega

theorem mul_bound {x y A B : Int} (h1 : -A ≤ x) (h2 : x ≤ A) (k1 : -B ≤ y) (k2 : y ≤ B) : -(A * B) ≤ x * y ∧ x * y ≤ A * B := by
  have a := Int.mul_nonneg (show 0 ≤ A - x by omega) (show 0 ≤ B - y by omega)
  have b := Int.mul_nonneg (show 0 ≤ A + x by omega) (show 0 ≤ B + y by omega)
  have c := Int.mul_nonneg (show 0 ≤ A - x by omega) (show 0 ≤ B + y by omega)
  have d := Int.mul_nonneg (show 0 ≤ A + x by omega) (show 0 ≤ B - y by omega)
  have e1 : (A - x) * (B - y) = A * B - A * y - x * B + x * y := by grind
  have e2 : (A + x) * (B + y) = A * B + A * y + x * B + x * y := by grind
  have e3 : (A - x) * (B + y) = A * B + A * y - x * B - x * y := by grind
  have e4 : (A + x) * (B - y) = A * B - A * y + x * B - x * y := by grind
  omega

/-- The parts of the quotient stay small. -/
theorem quoG_small {a b : Pt} (ha : inP a) (hb : b ≠ Pt.zero) : (-33554432 ≤ (quoG a b).x ∧ (quoG a b).x ≤ 33554432) ∧ (-33554432 ≤ (quoG a b).y ∧ (quoG a b).y ≤ 33554432) := by
  have hp := Pt.norm_pos hb
  obtain ⟨⟨a1, a2⟩, a3, a4⟩ := ha
  have sx := abs_le_sq b.x
  have sy := abs_le_sq b.y
  have hN : b.norm = b.x * b.x + b.y * b.y := rfl
  have m1 := mul_bound a1 a2 (show -(b.x * b.x) ≤ b.x by omega) (show b.x ≤ b.x * b.x by omega)
  have m2 := mul_bound a3 a4 (show -(b.y * b.y) ≤ b.y by omega) (show b.y ≤ b.y * b.y by omega)
  have m3 := mul_bound a1 a2 (show -(b.y * b.y) ≤ b.y by omega) (show b.y ≤ b.y * b.y by omega)
  have m4 := mul_bound a3 a4 (show -(b.x * b.x) ≤ b.x by omega) (show b.x ≤ b.x * b.x by omega)
  have q1 := sq_nonneg b.x
  have q2 := sq_nonneg b.y
  have e1 : a.y * (-b.y) = -(a.y * b.y) := by grind
  have e2 : a.x * (-b.y) = -(a.x * b.y) := by grind
  unfold quoG conjMul
  exact ⟨near_small hp (by simp only [e1]; omega) (by simp only [e1]; omega), near_small hp (by simp only [e2]; omega) (by simp only [e2]; omega)⟩

theorem abs_of {x A : Int} {N : Nat} (h : -A ≤ x ∧ x ≤ A) (hN : A < N) : x.natAbs < N := by omega

/-- What div's function holds: its two points, and its results' places. -/
structure PD (a b : Pt) (w W : World) : Prop where
  below : Below w.heap.size w W
  a : W.heap[w.heap.size]? = some (.cells #[.int .i64 a.x, .int .i64 a.y] 23 (0, 0))
  b : W.heap[w.heap.size + 1]? = some (.cells #[.int .i64 b.x, .int .i64 b.y] 23 (0, 0))
  c : W.heap[w.heap.size + 2]? = some (.cells #[.int .i64 0, .int .i64 0] 23 (0, 0))
  d : W.heap[w.heap.size + 3]? = some (.cells #[.int .i64 0, .int .i64 0] 23 (0, 0))

theorem PD.step {a b : Pt} {w W W' : World} (h : PD a b w W) (k : Below W.heap.size W W') : PD a b w W' :=
  ⟨h.below.trans (k.mono h.below.size), (k.block _ (Array.getElem?_eq_some_iff.1 h.a).1).trans h.a, (k.block _ (Array.getElem?_eq_some_iff.1 h.b).1).trans h.b, (k.block _ (Array.getElem?_eq_some_iff.1 h.c).1).trans h.c, (k.block _ (Array.getElem?_eq_some_iff.1 h.d).1).trans h.d⟩

def ptB (x y : Int) : Obj := .cells #[.int .i64 x, .int .i64 y] 23 (0, 0)
def dW (a b : Pt) (w : World) : World := (((w.alloc (ptB a.x a.y)).alloc (ptB b.x b.y)).alloc (ptB 0 0)).alloc (ptB 0 0)
theorem dW_pd (a b : Pt) (w : World) : PD a b w (dW a b w) := by
  have h : (dW a b w).heap = (((w.heap.push (ptB a.x a.y)).push (ptB b.x b.y)).push (ptB 0 0)).push (ptB 0 0) := rfl
  refine ⟨((((Below.refl _ w).alloc (Nat.le_refl _) _).alloc (by rw [World.size_alloc]; omega) _).alloc (by rw [World.size_alloc, World.size_alloc]; omega) _).alloc (by rw [World.size_alloc, World.size_alloc, World.size_alloc]; omega) _, ?_, ?_, ?_, ?_⟩ <;> rw [h]
  · rw [Array.getElem?_push_lt (by rw [Array.size_push, Array.size_push, Array.size_push]; omega), ← Array.getElem?_eq_getElem, Array.getElem?_push_lt (by rw [Array.size_push, Array.size_push]; omega), ← Array.getElem?_eq_getElem, Array.getElem?_push_lt (by rw [Array.size_push]; omega), ← Array.getElem?_eq_getElem, Array.getElem?_push_size]; rfl
  · rw [Array.getElem?_push_lt (by rw [Array.size_push, Array.size_push, Array.size_push]; omega), ← Array.getElem?_eq_getElem, Array.getElem?_push_lt (by rw [Array.size_push, Array.size_push]; omega), ← Array.getElem?_eq_getElem]
    have := Array.getElem?_push_size (xs := w.heap.push (ptB a.x a.y)) (x := ptB b.x b.y)
    rw [Array.size_push] at this; exact this
  · rw [Array.getElem?_push_lt (by simp), ← Array.getElem?_eq_getElem]
    have := Array.getElem?_push_size (xs := (w.heap.push (ptB a.x a.y)).push (ptB b.x b.y)) (x := ptB 0 0)
    rw [Array.size_push, Array.size_push] at this; exact this
  · have := Array.getElem?_push_size (xs := ((w.heap.push (ptB a.x a.y)).push (ptB b.x b.y)).push (ptB 0 0)) (x := ptB 0 0)
    rw [Array.size_push, Array.size_push, Array.size_push] at this; exact this

theorem below_drew (w : World) : Below w.heap.size w w.drew := ⟨rfl, rfl, rfl, Nat.le_refl _, fun _ _ => rfl⟩

theorem PD.cells {a b : Pt} {w W : World} (h : PD a b w W) : (W.cell? ⟨w.heap.size, 0, none⟩ = some (.int .i64 a.x) ∧ W.cell? ⟨w.heap.size, 1, none⟩ = some (.int .i64 a.y)) ∧ (W.cell? ⟨w.heap.size + 1, 0, none⟩ = some (.int .i64 b.x) ∧ W.cell? ⟨w.heap.size + 1, 1, none⟩ = some (.int .i64 b.y)) :=
  ⟨two_cells h.a, two_cells h.b⟩

structure PQ (a b q : Pt) (w : World) (g : Nat) (W : World) : Prop where
  pd : PD a b w W
  q : W.heap[g]? = some (.cells #[.int .i64 q.x, .int .i64 q.y] 23 (0, 0))
theorem PQ.step {a b q : Pt} {w : World} {g : Nat} {W W' : World} (h : PQ a b q w g W) (k : Below W.heap.size W W') : PQ a b q w g W' :=
  ⟨h.pd.step k, (k.block _ (Array.getElem?_eq_some_iff.1 h.q).1).trans h.q⟩
theorem PQ.cells {a b q : Pt} {w W : World} {g : Nat} (h : PQ a b q w g W) : (W.cell? ⟨w.heap.size, 0, none⟩ = some (.int .i64 a.x) ∧ W.cell? ⟨w.heap.size, 1, none⟩ = some (.int .i64 a.y)) ∧ (W.cell? ⟨w.heap.size + 1, 0, none⟩ = some (.int .i64 b.x) ∧ W.cell? ⟨w.heap.size + 1, 1, none⟩ = some (.int .i64 b.y)) ∧ (W.cell? ⟨g, 0, none⟩ = some (.int .i64 q.x) ∧ W.cell? ⟨g, 1, none⟩ = some (.int .i64 q.y)) :=
  ⟨two_cells h.pd.a, two_cells h.pd.b, two_cells h.q⟩

/-- Both of a block's two cells set. -/
theorem set_two {w : World} {g : Nat} {t : TypeId} {v0 v1 : Value} (u0 u1 : Value) (h : w.heap[g]? = some (.cells #[v0, v1] t (0, 0))) : ((w.setCell ⟨g, 0, none⟩ u0).setCell ⟨g, 1, none⟩ u1).heap[g]? = some (.cells #[u0, u1] t (0, 0)) :=
  heap_setCell_same _ g 1 #[u0, v1] t u1 (heap_setCell_same w g 0 #[v0, v1] t u0 h)
theorem set_two_far {w : World} {g k : Nat} {o : Option Obj} (u0 u1 : Value) (hk : k ≠ g) (h : w.heap[k]? = o) : ((w.setCell ⟨g, 0, none⟩ u0).setCell ⟨g, 1, none⟩ u1).heap[k]? = o :=
  ((Below.heap_setCell _ ⟨g, 1, none⟩ u1 k hk).trans (Below.heap_setCell _ ⟨g, 0, none⟩ u0 k hk)).trans h
theorem results_cell_cell {P : Program} {fn : Func} {p q : Tmp} {ty : TypeId} (h : fn.results = #[.cell p ty, .cell q ty]) (tmps : Array Value) (w : World) (g k : Nat) (t : TypeId) (cs ds : Array Value) (d : TypeDesc)
    (hp : tmps.getD p undef = .pointer (some ⟨g, 0, none⟩)) (hq : tmps.getD q undef = .pointer (some ⟨k, 0, none⟩)) (hg : w.heap[g]? = some (.cells cs t (0, 0))) (hk : w.heap[k]? = some (.cells ds t (0, 0)))
    (hu : P.underlying ty = some d) (hd : (match d with | .struct _ | .array _ _ => true | _ => false) = true) (hi : (P.info? ty).map (·.size) = some cs.size) (hj : (P.info? ty).map (·.size) = some ds.size) :
    (results fn tmps).run P w = .ok (.tuple #[.agg cs, .agg ds]) w := by
  have hp' : tmps[p]?.getD undef = .pointer (some ⟨g, 0, none⟩) := by simpa using hp
  have hq' : tmps[q]?.getD undef = .pointer (some ⟨k, 0, none⟩) := by simpa using hq
  simp [results, h, hp', hq', asAddr, run_loadVar_row w g t ty cs (0, 0) d hg hu hd hi, run_loadVar_row w k t ty ds (0, 0) d hk hu hd hj]

set_option maxHeartbeats 8000000 in
theorem div_any (a b : Pt) (ha : inP a) (hb : inP b) (h0 : b ≠ Pt.zero) (w : World) : Calls Try.prog 23 #[ptV a.x a.y, ptV b.x b.y] w fun e w' =>
    e = .returned (.tuple #[ptV (quoG a b).x (quoG a b).y, ptV (remG a b).x (remG a b).y]) ∧ Below w.heap.size w w' := by
  have hpos := Pt.norm_pos h0
  have hnrm := norm_of_small hb
  have hq := quoG_small ha h0
  obtain ⟨⟨a1, a2⟩, a3, a4⟩ := id ha
  obtain ⟨⟨b1, b2⟩, b3, b4⟩ := id hb
  have fax := ofInt_is a.x (by omega)
  have fay := ofInt_is a.y (by omega)
  have fbx := ofInt_is b.x (by omega)
  have fby := ofInt_is b.y (by omega)
  have fbn := ofInt_is (-b.y) (by omega)
  have m1 := mul_bound a1 a2 b1 b2
  have m2 := mul_bound a3 a4 (show -16777216 ≤ -b.y by omega) (show -b.y ≤ 16777216 by omega)
  have m3 := mul_bound a1 a2 (show -16777216 ≤ -b.y by omega) (show -b.y ≤ 16777216 by omega)
  have m4 := mul_bound a3 a4 b1 b2
  obtain ⟨z1, z2, hz, fz1, fz2⟩ := cmul_isC ⟨fax, fay⟩ ⟨fbx, fbn⟩ (abs_of m1 (by decide)) (abs_of m2 (by decide)) (abs_of m3 (by decide)) (abs_of m4 (by decide))
  have t1 := toInt_isF fz1 (by omega) (by omega)
  have t2 := toInt_isF fz2 (by omega) (by omega)
  change floatToIntVal .f64 z1 .i64 = some (conjMul a b).x at t1
  change floatToIntVal .f64 z2 .i64 = some (conjMul a b).y at t2
  have cb1 : -9007199254740991 ≤ (conjMul a b).x ∧ (conjMul a b).x ≤ 9007199254740991 := by unfold conjMul; simp only; omega
  have cb2 : -9007199254740991 ≤ (conjMul a b).y ∧ (conjMul a b).y ≤ 9007199254740991 := by unfold conjMul; simp only; omega
  have hn1 := nearest_any (conjMul a b).x b.norm hpos (by omega) cb1.1 cb1.2
  have hn2 := nearest_any (conjMul a b).y b.norm hpos (by omega) cb2.1 cb2.2
  have fqx := ofInt_is (quoG a b).x (by omega)
  have fqy := ofInt_is (quoG a b).y (by omega)
  have p1 := mul_bound hq.1.1 hq.1.2 b1 b2
  have p2 := mul_bound hq.2.1 hq.2.2 b3 b4
  have p3 := mul_bound hq.1.1 hq.1.2 b3 b4
  have p4 := mul_bound hq.2.1 hq.2.2 b1 b2
  obtain ⟨y1, y2, hy, fy1, fy2⟩ := cmul_isC ⟨fqx, fqy⟩ ⟨fbx, fby⟩ (abs_of p1 (by decide)) (abs_of p2 (by decide)) (abs_of p3 (by decide)) (abs_of p4 (by decide))
  obtain ⟨x1, x2, hx, fx1, fx2⟩ := csub_isC ⟨fax, fay⟩ ⟨fy1, fy2⟩ (by omega) (by omega)
  have u1 := toInt_isF fx1 (by omega) (by omega)
  have u2 := toInt_isF fx2 (by omega) (by omega)
  change floatToIntVal .f64 x1 .i64 = some (remG a b).x at u1
  change floatToIntVal .f64 x2 .i64 = some (remG a b).y at u2
  change ∀ w, Calls Try.prog 27 #[.int .i64 (conjMul a b).x, .int .i64 b.norm] w fun e w' => e = .returned (.int .i64 (quoG a b).x) ∧ w = w' at hn1
  change ∀ w, Calls Try.prog 27 #[.int .i64 (conjMul a b).y, .int .i64 b.norm] w fun e w' => e = .returned (.int .i64 (quoG a b).y) ∧ w = w' at hn2
  have HNA := Lib.hid (show ∀ x y W, PD a b w W → Calls Try.prog 25 #[.agg #[.int .i64 x, .int .i64 y]] W fun e w' => e = .returned (.complex .f64 (FloatKind.nearest .f64 x) (FloatKind.nearest .f64 y)) ∧ PD a b w w' from fun x y W hW =>
    (number_any x y W).mono fun e w' ⟨he, hbl⟩ => ⟨he, hW.step hbl⟩)
  have HQA := Lib.hid (show ∀ q g x y W, PQ a b q w g W → Calls Try.prog 25 #[.agg #[.int .i64 x, .int .i64 y]] W fun e w' => e = .returned (.complex .f64 (FloatKind.nearest .f64 x) (FloatKind.nearest .f64 y)) ∧ PQ a b q w g w' from fun q g x y W hW =>
    (number_any x y W).mono fun e w' ⟨he, hbl⟩ => ⟨he, hW.step hbl⟩)
  have hno := norm_any b.x b.y (show b.norm ≤ 9007199254740991 by omega)
  change ∀ w, Calls Try.prog 26 #[ptV b.x b.y] w fun e w' => e = .returned (.int .i64 b.norm) ∧ Below w.heap.size w w' at hno
  have hneg : IntKind.i64.wrap (-b.y) = -b.y := by rw [IntKind.wrap_i64]; omega
  have M1 : ∀ W : World, (binOp .mul 49 (.complex .f64 (FloatKind.nearest .f64 a.x) (FloatKind.nearest .f64 a.y)) (.complex .f64 (FloatKind.nearest .f64 b.x) (FloatKind.nearest .f64 (-b.y)))).run Try.prog W = .ok (.complex .f64 z1 z2) W := fun W => run_complex_mul W _ _ _ _ _ _ _ hz
  have M2 : ∀ W : World, (binOp .mul 49 (.complex .f64 (FloatKind.nearest .f64 (quoG a b).x) (FloatKind.nearest .f64 (quoG a b).y)) (.complex .f64 (FloatKind.nearest .f64 b.x) (FloatKind.nearest .f64 b.y))).run Try.prog W = .ok (.complex .f64 y1 y2) W := fun W => run_complex_mul W _ _ _ _ _ _ _ hy
  have M3 : ∀ W : World, (binOp .sub 49 (.complex .f64 (FloatKind.nearest .f64 a.x) (FloatKind.nearest .f64 a.y)) (.complex .f64 y1 y2)).run Try.prog W = .ok (.complex .f64 x1 x2) W := fun W => run_complex_sum W _ (.inr rfl) _ _ _ _ _ _ _ _ hx
  have V1 : ∀ W : World, (convert 52 3 (.float .f64 z1)).run Try.prog W = .ok (.int .i64 (conjMul a b).x) W := fun W => run_convert_float_int W _ _ _ _ _ _ (by kernel_rfl) Try.underlying3 t1
  have V2 : ∀ W : World, (convert 52 3 (.float .f64 z2)).run Try.prog W = .ok (.int .i64 (conjMul a b).y) W := fun W => run_convert_float_int W _ _ _ _ _ _ (by kernel_rfl) Try.underlying3 t2
  have V3 : ∀ W : World, (convert 52 3 (.float .f64 x1)).run Try.prog W = .ok (.int .i64 (remG a b).x) W := fun W => run_convert_float_int W _ _ _ _ _ _ (by kernel_rfl) Try.underlying3 u1
  have V4 : ∀ W : World, (convert 52 3 (.float .f64 x2)).run Try.prog W = .ok (.int .i64 (remG a b).y) W := fun W => run_convert_float_int W _ _ _ _ _ _ (by kernel_rfl) Try.underlying3 u2
  have HNO := Lib.hid hno
  have HN1 := Lib.hid hn1
  have HN2 := Lib.hid hn2
  obtain ⟨W1, hW1⟩ : ∃ W1, W1 = dW a b w := ⟨_, rfl⟩
  have hpd : PD a b w W1 := hW1 ▸ dW_pd a b w
  have hpdd := hpd.step (below_drew W1)
  unfold dW ptB at hW1
  clear hno hn1 hn2 u1 u2 t1 t2 hx hy hz fx1 fx2 fy1 fy2 fz1 fz2 p1 p2 p3 p4 m1 m2 m3 m4 fqx fqy fax fay fbx fby fbn cb1 cb2 hq ha hb hpos hnrm h0
  generalize quoG a b = q at *
  generalize remG a b = r at *
  generalize conjMul a b = c at *
  generalize b.norm = nm at *
  unfold ptV at *
  go_enter Try.func23, Try.ntmps23
  go_wp2_with (first | (rw [← hW1]; clear hW1))
  go_region_held3 (fun W' => ((W'.cell? ⟨w.heap.size, 0, none⟩ = some (.int .i64 a.x) ∧ W'.cell? ⟨w.heap.size, 1, none⟩ = some (.int .i64 a.y)) ∧ (W'.cell? ⟨w.heap.size + 1, 0, none⟩ = some (.int .i64 b.x) ∧ W'.cell? ⟨w.heap.size + 1, 1, none⟩ = some (.int .i64 b.y))) ∧ PD a b w W')
    (exact ⟨PD.cells ‹_›, ‹_›⟩)
    ((go_at_call 25; refine (HNA.out _ _ _ ?_).mono ?_; (assumption); rintro e w9 ⟨rfl, hp9⟩))
  all_goals
    clear hpd hpdd
    go_wp2_with fail
    refine (HNO.out _).mono ?_
    rintro e w10 ⟨rfl, hb10⟩
    have hp10 := PD.step ‹PD a b w w9› hb10
    obtain ⟨W2, hW2⟩ : ∃ W2, W2 = w10.alloc (.cells #[.int .i64 q.x, .int .i64 q.y] 23) := ⟨_, rfl⟩
    have hpq : PQ a b q w w10.heap.size W2 := by
      rw [hW2]; exact ⟨hp10.step ((Below.refl _ w10).alloc (Nat.le_refl _) _), heap_alloc_new _ _⟩
    have hpqd := hpq.step (below_drew W2)
    clear hp10 hb10
    go_wp2_with fail
    refine (HN1.out _).mono ?_
    rintro e w11 ⟨rfl, rfl⟩
    go_wp2_with fail
    refine (HN2.out _).mono ?_
    rintro e w11 ⟨rfl, rfl⟩
    go_wp2_with (first | (rw [← hW2]; clear hW2))
    clear HNA HNO HN1 HN2 V1 V2 M1
    go_region_held3 (fun W' => ((W'.cell? ⟨w.heap.size, 0, none⟩ = some (.int .i64 a.x) ∧ W'.cell? ⟨w.heap.size, 1, none⟩ = some (.int .i64 a.y)) ∧ (W'.cell? ⟨w.heap.size + 1, 0, none⟩ = some (.int .i64 b.x) ∧ W'.cell? ⟨w.heap.size + 1, 1, none⟩ = some (.int .i64 b.y)) ∧ (W'.cell? ⟨w10.heap.size, 0, none⟩ = some (.int .i64 q.x) ∧ W'.cell? ⟨w10.heap.size, 1, none⟩ = some (.int .i64 q.y))) ∧ PQ a b q w w10.heap.size W')
      (exact ⟨PQ.cells ‹_›, ‹_›⟩)
      ((go_at_call 25; refine (HQA.out q w10.heap.size _ _ _ ?_).mono ?_; (assumption); rintro e w9 ⟨rfl, hp9⟩))
    all_goals
      have hpq9 : PQ a b q w w10.heap.size w9 := ‹_›
      have hc : w9.heap[w.heap.size + 1 + 1]? = some (.cells #[.int .i64 0, .int .i64 0] 23 (0, 0)) := hpq9.pd.c
      have hd : w9.heap[w.heap.size + 1 + 1 + 1]? = some (.cells #[.int .i64 0, .int .i64 0] 23 (0, 0)) := hpq9.pd.d
      have hq := two_cells hpq9.q
      obtain ⟨q1, q2⟩ := hq
      obtain ⟨c1, c2⟩ := two_cells hc
      obtain ⟨d1, d2⟩ := two_cells hd
      have f1 : w9.frozen? ⟨w.heap.size + 1 + 1, 0, none⟩ = false := by simp [World.frozen?, hc]
      have f2 : w9.frozen? ⟨w.heap.size + 1 + 1, 1, none⟩ = false := by simp [World.frozen?, hc]
      have f3 : w9.frozen? ⟨w.heap.size + 1 + 1 + 1, 0, none⟩ = false := by simp [World.frozen?, hd]
      have f4 : w9.frozen? ⟨w.heap.size + 1 + 1 + 1, 1, none⟩ = false := by simp [World.frozen?, hd]
      have hB := hpq9.pd.below
      clear hpq HQA hpqd hneg M2 M3 hpq9
      go_wp2_with fail
      have hc5 := set_two (.int .i64 q.x) (.int .i64 q.y) hc
      have hd5 := set_two_far (.int .i64 q.x) (.int .i64 q.y) (show w.heap.size + 1 + 1 + 1 ≠ w.heap.size + 1 + 1 by omega) hd
      have hc6 := set_two_far (.int .i64 r.x) (.int .i64 r.y) (show w.heap.size + 1 + 1 ≠ w.heap.size + 1 + 1 + 1 by omega) hc5
      have hd6 := set_two (.int .i64 r.x) (.int .i64 r.y) hd5
      refine bodyPost_ret (results_cell_cell rfl _ _ (w.heap.size + 1 + 1) (w.heap.size + 1 + 1 + 1) 23 #[.int .i64 q.x, .int .i64 q.y] #[.int .i64 r.x, .int .i64 r.y] _ rfl rfl hc6 hd6 Try.underlying23 rfl (by kernel_rfl) (by kernel_rfl)) rfl ?_
      exact ⟨rfl, (((hB.setCell (p := ⟨w.heap.size + 1 + 1, 0, none⟩) (Nat.le_trans (Nat.le_succ _) (Nat.le_succ _)) _).setCell (p := ⟨w.heap.size + 1 + 1, 1, none⟩) (Nat.le_trans (Nat.le_succ _) (Nat.le_succ _)) _).setCell (p := ⟨w.heap.size + 1 + 1 + 1, 0, none⟩) (Nat.le_trans (Nat.le_trans (Nat.le_succ _) (Nat.le_succ _)) (Nat.le_succ _)) _).setCell (p := ⟨w.heap.size + 1 + 1 + 1, 1, none⟩) (Nat.le_trans (Nat.le_trans (Nat.le_succ _) (Nat.le_succ _)) (Nat.le_succ _)) _⟩
end Go.Proofs.Ytejbpnhondpnfaa
