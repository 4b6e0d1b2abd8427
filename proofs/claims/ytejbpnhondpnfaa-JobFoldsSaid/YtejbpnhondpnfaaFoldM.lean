/- The law on folds, walked. -/
import Derived.Test.YtejbpnhondpnfaaFoldL
namespace Go.Proofs.Ytejbpnhondpnfaa
open Go.RowKit

/-- A value lies in a block. -/
def Has (W : World) (g : Nat) (v : Val) : Prop := W.heap[g]? = some (.cells #[.int .i64 v.k, .int .i64 v.n, .string v.t, .int .i64 v.x, .int .i64 v.y] 25 (0, 0))
theorem Has.step {W W' : World} {g : Nat} {v : Val} (h : Has W g v) (k : Below W.heap.size W W') : Has W' g v := (k.block _ (Array.getElem?_eq_some_iff.1 h).1).trans h
theorem Has.alloc {W : World} {g : Nat} {v : Val} (h : Has W g v) (o : Obj) : Has (W.alloc o) g v := h.step ((Below.refl _ W).alloc (Nat.le_refl _) _)
theorem Has.new (W : World) (v : Val) : Has (W.alloc (.cells #[.int .i64 v.k, .int .i64 v.n, .string v.t, .int .i64 v.x, .int .i64 v.y] 25)) W.heap.size v := heap_alloc_new W _
theorem Has.lt {W : World} {g : Nat} {v : Val} (h : Has W g v) : g < W.heap.size := (Array.getElem?_eq_some_iff.1 h).1
def setV (W : World) (g : Nat) (v : Val) : World := ((((W.setCell ⟨g, 0, none⟩ (.int .i64 v.k)).setCell ⟨g, 1, none⟩ (.int .i64 v.n)).setCell ⟨g, 2, none⟩ (.string v.t)).setCell ⟨g, 3, none⟩ (.int .i64 v.x)).setCell ⟨g, 4, none⟩ (.int .i64 v.y)
theorem Has.set {W : World} {g : Nat} {v : Val} (h : Has W g v) (u : Val) : Has (setV W g u) g u := set_five _ _ _ _ _ h
theorem Has.far {W : World} {g k : Nat} {v : Val} (h : Has W k v) (u : Val) (hk : k ≠ g) : Has (setV W g u) k v := by
  unfold setV Has
  rw [Below.heap_setCell _ ⟨g, 4, none⟩ _ k hk, Below.heap_setCell _ ⟨g, 3, none⟩ _ k hk, Below.heap_setCell _ ⟨g, 2, none⟩ _ k hk, Below.heap_setCell _ ⟨g, 1, none⟩ _ k hk, Below.heap_setCell _ ⟨g, 0, none⟩ _ k hk]
  exact h
theorem below_setV {w W : World} {g : Nat} (h : Below w.heap.size w W) (u : Val) (hg : w.heap.size ≤ g) : Below w.heap.size w (setV W g u) := below_five _ _ _ _ _ h hg
theorem size_setV (W : World) (g : Nat) (u : Val) : (setV W g u).heap.size = W.heap.size := by simp [setV, World.setCell]

theorem val_neq (v : Val) (W : World) : (binOp .neq 25 (.agg #[.int .i64 v.k, .int .i64 v.n, .string v.t, .int .i64 v.x, .int .i64 v.y]) (.agg #[.int .i64 v.k, .int .i64 v.n, .string v.t, .int .i64 v.x, .int .i64 v.y])).run Try.prog W = .ok (.bool false) W := by go_simp
theorem val_eql (v : Val) (W : World) : (binOp .eql 25 (.agg #[.int .i64 v.k, .int .i64 v.n, .string v.t, .int .i64 v.x, .int .i64 v.y]) (.agg #[.int .i64 v.k, .int .i64 v.n, .string v.t, .int .i64 v.x, .int .i64 v.y])).run Try.prog W = .ok (.bool true) W := by go_simp

theorem word_cell (j : Nat) (hj : j < 4) (g : Nat) (W : World) (h : W.heap[g]? = some foldsO) : W.cell? ⟨g, j, none⟩ = some (.string (wordB j)) := by
  unfold foldsO at h
  match j, hj with
  | 0, _ => simp [World.cell?, h]; rfl
  | 1, _ => simp [World.cell?, h]; rfl
  | 2, _ => simp [World.cell?, h]; rfl
  | 3, _ => simp [World.cell?, h]; rfl

set_option maxHeartbeats 8000000 in
theorem law_walk (k : Nat) (a b c : Val) (w : World) :
    Calls Try.prog 3 #[.int .u8 (k : Nat), valV a, valV b, valV c] w fun e w' => e = .returned (.bool true) ∧ Below w.heap.size w w' := by
  have hj : k % 4 < 4 := Nat.mod_lt _ (by decide)
  have hrem : (k : Int).tmod 4 = ((k % 4 : Nat) : Int) := by rw [Int.tmod_eq_emod_of_nonneg (by omega)]; omega
  obtain ⟨j, hjk⟩ : ∃ j, j = k % 4 := ⟨_, rfl⟩
  rw [← hjk] at hj hrem
  have F1 := fold_any j hj a b
  have F2 := fold_any j hj b a
  rw [fold_comm j b a] at F2
  have F3 := fold_any j hj b c
  have F4 := fold_any j hj (foldV j a b).1 c
  have F5 := fold_any j hj a (foldV j b c).1
  have HL := Lib.hid (fold_law j a b c)
  obtain ⟨v1, hv1⟩ : ∃ v, v = (foldV j a b).1 := ⟨_, rfl⟩
  obtain ⟨E1, hE1⟩ : ∃ E, E = (foldV j a b).2 := ⟨_, rfl⟩
  obtain ⟨v2, hv2⟩ : ∃ v, v = (foldV j b c).1 := ⟨_, rfl⟩
  obtain ⟨E2, hE2⟩ : ∃ E, E = (foldV j b c).2 := ⟨_, rfl⟩
  rw [← hv1, ← hE1] at F1 F2
  rw [← hv2, ← hE2] at F3
  rw [← hv1] at F4
  rw [← hv2] at F5
  have HV1 := Lib.hid hv1
  have HE1 := Lib.hid hE1
  have HV2 := Lib.hid hv2
  have HE2 := Lib.hid hE2
  obtain ⟨v3, hv3⟩ : ∃ v, v = (foldV j v1 c).1 := ⟨_, rfl⟩
  obtain ⟨E3, hE3⟩ : ∃ E, E = (foldV j v1 c).2 := ⟨_, rfl⟩
  obtain ⟨v4, hv4⟩ : ∃ v, v = (foldV j a v2).1 := ⟨_, rfl⟩
  obtain ⟨E4, hE4⟩ : ∃ E, E = (foldV j a v2).2 := ⟨_, rfl⟩
  rw [← hv3, ← hE3] at F4
  rw [← hv4, ← hE4] at F5
  have HV3 := Lib.hid hv3
  have HE3 := Lib.hid hE3
  have HV4 := Lib.hid hv4
  have HE4 := Lib.hid hE4
  have HW := Lib.hid (word_cell j hj)
  obtain ⟨s, hs⟩ : ∃ s, s = wordB j := ⟨_, rfl⟩
  rw [← hs] at F1 F2 F3 F4 F5 HW
  unfold valV at F1 F2 F3 F4 F5 ⊢
  have C1 := Lib.hid F1
  have C2 := Lib.hid F2
  have C3 := Lib.hid F3
  have C4 := Lib.hid F4
  have C5 := Lib.hid F5
  clear F1 F2 F3 F4 F5 hv1 hv2 hv3 hv4 hE1 hE2 hE3 hE4 hs hjk
  obtain ⟨W1, hW1⟩ : ∃ W1, W1 = ((w.alloc (valB a)).alloc (valB b)).alloc (valB c) := ⟨_, rfl⟩
  have hB1 : Below w.heap.size w W1 := by
    rw [hW1]
    exact (((Below.refl _ w).alloc (Nat.le_refl _) _).alloc (by rw [World.size_alloc]; omega) _).alloc (by rw [World.size_alloc, World.size_alloc]; omega) _
  have hA1 : Has W1 w.heap.size a := by rw [hW1]; exact ((Has.new w a).alloc _).alloc _
  have hb1 : Has W1 (w.heap.size + 1) b := by
    have := (Has.new (w.alloc (valB a)) b).alloc (valB c)
    rw [World.size_alloc] at this; rw [hW1]; exact this
  have hc1 : Has W1 (w.heap.size + 1 + 1) c := by
    have := Has.new ((w.alloc (valB a)).alloc (valB b)) c
    rw [World.size_alloc, World.size_alloc] at this; rw [hW1]; exact this
  unfold valB at hW1
  go_enter Try.func3, Try.ntmps3
  go_wp2_with (first | (rw [← hW1]; clear hW1))
  refine (awake_any _).mono ?_
  rintro e w2 ⟨rfl, q2⟩
  have hB2 := hB1.trans (q2.mono hB1.size)
  have hA2 := hA1.step q2
  have hb2 := hb1.step q2
  have hc2 := hc1.step q2
  clear hB1 hA1 hb1 hc1 q2
  obtain ⟨w3, hw3⟩ : ∃ w3, w3 = w2.alloc foldsO := ⟨_, rfl⟩
  have hcell := HW.out w2.heap.size w3 (by rw [hw3]; exact heap_alloc_new _ _)
  have hB3 : Below w.heap.size w w3 := by rw [hw3]; exact hB2.alloc hB2.size _
  have hA3 : Has w3 w.heap.size a := by rw [hw3]; exact hA2.alloc _
  have hb3 : Has w3 (w.heap.size + 1) b := by rw [hw3]; exact hb2.alloc _
  have hc3 : Has w3 (w.heap.size + 1 + 1) c := by rw [hw3]; exact hc2.alloc _
  clear hB2 hA2 hb2 hc2
  unfold foldsO sumB' maxB minB gcdB at hw3
  obtain ⟨k0, k1, k2, k3, k4⟩ := five_cells hA3
  obtain ⟨l0, l1, l2, l3, l4⟩ := five_cells hb3
  go_wp2_with (first | (rw [← hw3]; clear hw3))
  refine (C1.out _).mono ?_
  rintro e w4 ⟨rfl, q4⟩
  have hB4 := hB3.trans (q4.mono hB3.size)
  have hA4 := hA3.step q4
  have hb4 := hb3.step q4
  have hc4 := hc3.step q4
  clear hB3 hA3 hb3 hc3 q4 k0 k1 k2 k3 k4 l0 l1 l2 l3 l4
  obtain ⟨w5, hw5⟩ : ∃ w5, w5 = w4.alloc (.cells #[.int .i64 v1.k, .int .i64 v1.n, .string v1.t, .int .i64 v1.x, .int .i64 v1.y] 25) := ⟨_, rfl⟩
  have hB5 : Below w.heap.size w w5 := by rw [hw5]; exact hB4.alloc hB4.size _
  have hA5 : Has w5 w.heap.size a := by rw [hw5]; exact hA4.alloc _
  have hb5 : Has w5 (w.heap.size + 1) b := by rw [hw5]; exact hb4.alloc _
  have hc5 : Has w5 (w.heap.size + 1 + 1) c := by rw [hw5]; exact hc4.alloc _
  have hab5 : Has w5 w4.heap.size v1 := by rw [hw5]; exact Has.new _ _
  clear hB4 hA4 hb4 hc4 
  obtain ⟨cA0, cA1, cA2, cA3, cA4⟩ := five_cells hA5
  obtain ⟨cb0, cb1, cb2, cb3, cb4⟩ := five_cells hb5
  go_wp2_with (first | (rw [← hw5]; clear hw5))
  refine (C2.out _).mono ?_
  rintro e w6 ⟨rfl, q6⟩
  have hB6 := hB5.trans (q6.mono hB5.size)
  have hA6 := hA5.step q6
  have hb6 := hb5.step q6
  have hc6 := hc5.step q6
  have hab6 := hab5.step q6
  clear hB5 hA5 hb5 hc5 hab5 q6 cA0 cA1 cA2 cA3 cA4 cb0 cb1 cb2 cb3 cb4
  obtain ⟨w7, hw7⟩ : ∃ w7, w7 = w6.alloc (.cells #[.int .i64 v1.k, .int .i64 v1.n, .string v1.t, .int .i64 v1.x, .int .i64 v1.y] 25) := ⟨_, rfl⟩
  have hB7 : Below w.heap.size w w7 := by rw [hw7]; exact hB6.alloc hB6.size _
  have hA7 : Has w7 w.heap.size a := by rw [hw7]; exact hA6.alloc _
  have hb7 : Has w7 (w.heap.size + 1) b := by rw [hw7]; exact hb6.alloc _
  have hc7 : Has w7 (w.heap.size + 1 + 1) c := by rw [hw7]; exact hc6.alloc _
  have hab7 : Has w7 w4.heap.size v1 := by rw [hw7]; exact hab6.alloc _
  have hba7 : Has w7 w6.heap.size v1 := by rw [hw7]; exact Has.new _ _
  clear hB6 hA6 hb6 hc6 hab6 
  obtain ⟨cab0, cab1, cab2, cab3, cab4⟩ := five_cells hab7
  obtain ⟨cba0, cba1, cba2, cba3, cba4⟩ := five_cells hba7
  obtain ⟨cb0, cb1, cb2, cb3, cb4⟩ := five_cells hb7
  obtain ⟨cc0, cc1, cc2, cc3, cc4⟩ := five_cells hc7
  have hNE := val_neq v1
  go_wp2_with (first | (rw [← hw7]; clear hw7))
  refine (C3.out _).mono ?_
  rintro e w8 ⟨rfl, q8⟩
  have hB8 := hB7.trans (q8.mono hB7.size)
  have hA8 := hA7.step q8
  have hb8 := hb7.step q8
  have hc8 := hc7.step q8
  have hab8 := hab7.step q8
  have hba8 := hba7.step q8
  clear hB7 hA7 hb7 hc7 hab7 hba7 q8 cab0 cab1 cab2 cab3 cab4 cba0 cba1 cba2 cba3 cba4 cb0 cb1 cb2 cb3 cb4 cc0 cc1 cc2 cc3 cc4
  clear hba8 hNE
  obtain ⟨w9, hw9⟩ : ∃ w9, w9 = w8.alloc (.cells #[.int .i64 v2.k, .int .i64 v2.n, .string v2.t, .int .i64 v2.x, .int .i64 v2.y] 25) := ⟨_, rfl⟩
  have hB9 : Below w.heap.size w w9 := by rw [hw9]; exact hB8.alloc hB8.size _
  have hA9 : Has w9 w.heap.size a := by rw [hw9]; exact hA8.alloc _
  have hb9 : Has w9 (w.heap.size + 1) b := by rw [hw9]; exact hb8.alloc _
  have hc9 : Has w9 (w.heap.size + 1 + 1) c := by rw [hw9]; exact hc8.alloc _
  have hab9 : Has w9 w4.heap.size v1 := by rw [hw9]; exact hab8.alloc _
  have hbc9 : Has w9 w8.heap.size v2 := by rw [hw9]; exact Has.new _ _
  clear hB8 hA8 hb8 hc8 hab8 
  obtain ⟨cab0, cab1, cab2, cab3, cab4⟩ := five_cells hab9
  have nA := hA9.lt
  have nbc := hbc9.lt
  obtain ⟨w10, hw10⟩ : ∃ w10, w10 = w9.alloc (.cells #[.int .i64 v1.k, .int .i64 v1.n, .string v1.t, .int .i64 v1.x, .int .i64 v1.y] 25) := ⟨_, rfl⟩
  have hB10 : Below w.heap.size w w10 := by rw [hw10]; exact hB9.alloc hB9.size _
  have hA10 : Has w10 w.heap.size a := by rw [hw10]; exact hA9.alloc _
  have hb10 : Has w10 (w.heap.size + 1) b := by rw [hw10]; exact hb9.alloc _
  have hc10 : Has w10 (w.heap.size + 1 + 1) c := by rw [hw10]; exact hc9.alloc _
  have hab10 : Has w10 w4.heap.size v1 := by rw [hw10]; exact hab9.alloc _
  have hbc10 : Has w10 w8.heap.size v2 := by rw [hw10]; exact hbc9.alloc _
  have hx10 : Has w10 w9.heap.size v1 := by rw [hw10]; exact Has.new _ _
  clear hB9 hA9 hb9 hc9 hab9 hbc9 
  by_cases p1 : E1 = 1
  · subst p1
    by_cases p0 : E2 = 0
    · subst p0
      clear hab10
      clear hb10
      clear hc10
      obtain ⟨cbc0, cbc1, cbc2, cbc3, cbc4⟩ := five_cells hbc10
      have nx := hx10.lt
      have nbc2 := hbc10.lt
      have nA2 := hA10.lt
      obtain ⟨w13, hw13⟩ : ∃ w13, w13 = w10.alloc (.cells #[.int .i64 v2.k, .int .i64 v2.n, .string v2.t, .int .i64 v2.x, .int .i64 v2.y] 25) := ⟨_, rfl⟩
      have hB13 : Below w.heap.size w w13 := by rw [hw13]; exact hB10.alloc hB10.size _
      have hA13 : Has w13 w.heap.size a := by rw [hw13]; exact hA10.alloc _
      have hbc13 : Has w13 w8.heap.size v2 := by rw [hw13]; exact hbc10.alloc _
      have hx13 : Has w13 w9.heap.size v1 := by rw [hw13]; exact hx10.alloc _
      have hy13 : Has w13 w10.heap.size v2 := by rw [hw13]; exact Has.new _ _
      clear hB10 hA10 hbc10 hx10 
      obtain ⟨cA0, cA1, cA2, cA3, cA4⟩ := five_cells hA13
      obtain ⟨cbc0, cbc1, cbc2, cbc3, cbc4⟩ := five_cells hbc13
      go_wp2_with (first | (rw [← hw9]; clear hw9) | (rw [← hw10]; clear hw10) | (rw [← hw13]; clear hw13))
      refine (C5.out _).mono ?_
      rintro e w14 ⟨rfl, q14⟩
      have hB14 := hB13.trans (q14.mono hB13.size)
      have hA14 := hA13.step q14
      have hbc14 := hbc13.step q14
      have hx14 := hx13.step q14
      have hy14 := hy13.step q14
      clear hB13 hA13 hbc13 hx13 hy13 q14 cA0 cA1 cA2 cA3 cA4 cbc0 cbc1 cbc2 cbc3 cbc4
      clear hA14
      clear hbc14
      obtain ⟨cy0, cy1, cy2, cy3, cy4⟩ := five_cells hy14
      have zy0 := free_at (o := 0) hy14
      have zy1 := free_at (o := 1) hy14
      have zy2 := free_at (o := 2) hy14
      have zy3 := free_at (o := 3) hy14
      have zy4 := free_at (o := 4) hy14
      obtain ⟨w15, hw15⟩ : ∃ w15, w15 = setV w14 w10.heap.size v4 := ⟨_, rfl⟩
      have hB15 : Below w.heap.size w w15 := by rw [hw15]; exact below_setV hB14 _ (by omega)
      have hy15 : Has w15 w10.heap.size v4 := by rw [hw15]; exact hy14.set _
      have hx15 : Has w15 w9.heap.size v1 := by rw [hw15]; exact hx14.far _ (by omega)
      unfold setV at hw15
      obtain ⟨cx0, cx1, cx2, cx3, cx4⟩ := five_cells hx15
      obtain ⟨cy0, cy1, cy2, cy3, cy4⟩ := five_cells hy15
      go_wp2_with (first | (rw [← hw15]; clear hw15))
      go_ret
      exact ⟨rfl, hB15⟩
    · have p0b : (E2 == 0) = false := by simp [p0]
      clear hab10
      clear hb10
      clear hc10
      obtain ⟨cbc0, cbc1, cbc2, cbc3, cbc4⟩ := five_cells hbc10
      have nx := hx10.lt
      have nbc2 := hbc10.lt
      have nA2 := hA10.lt
      obtain ⟨w13, hw13⟩ : ∃ w13, w13 = w10.alloc (.cells #[.int .i64 v2.k, .int .i64 v2.n, .string v2.t, .int .i64 v2.x, .int .i64 v2.y] 25) := ⟨_, rfl⟩
      have hB13 : Below w.heap.size w w13 := by rw [hw13]; exact hB10.alloc hB10.size _
      have hA13 : Has w13 w.heap.size a := by rw [hw13]; exact hA10.alloc _
      have hbc13 : Has w13 w8.heap.size v2 := by rw [hw13]; exact hbc10.alloc _
      have hx13 : Has w13 w9.heap.size v1 := by rw [hw13]; exact hx10.alloc _
      have hy13 : Has w13 w10.heap.size v2 := by rw [hw13]; exact Has.new _ _
      clear hB10 hA10 hbc10 hx10 
      obtain ⟨cx0, cx1, cx2, cx3, cx4⟩ := five_cells hx13
      obtain ⟨cy0, cy1, cy2, cy3, cy4⟩ := five_cells hy13
      go_wp2_with (first | (rw [← hw9]; clear hw9) | (rw [← hw10]; clear hw10) | (rw [← hw13]; clear hw13))
      go_ret
      exact ⟨rfl, hB13⟩
  · by_cases p2 : E2 = 1
    · subst p2
      by_cases p0 : E1 = 0
      · subst p0
        obtain ⟨cab0, cab1, cab2, cab3, cab4⟩ := five_cells hab10
        obtain ⟨cc0, cc1, cc2, cc3, cc4⟩ := five_cells hc10
        go_wp2_with (first | (rw [← hw9]; clear hw9) | (rw [← hw10]; clear hw10))
        refine (C4.out _).mono ?_
        rintro e w11 ⟨rfl, q11⟩
        have hB11 := hB10.trans (q11.mono hB10.size)
        have hA11 := hA10.step q11
        have hb11 := hb10.step q11
        have hc11 := hc10.step q11
        have hab11 := hab10.step q11
        have hbc11 := hbc10.step q11
        have hx11 := hx10.step q11
        clear hB10 hA10 hb10 hc10 hab10 hbc10 hx10 q11 cab0 cab1 cab2 cab3 cab4 cc0 cc1 cc2 cc3 cc4
        clear hab11
        clear hb11
        clear hc11
        obtain ⟨cx0, cx1, cx2, cx3, cx4⟩ := five_cells hx11
        have zx0 := free_at (o := 0) hx11
        have zx1 := free_at (o := 1) hx11
        have zx2 := free_at (o := 2) hx11
        have zx3 := free_at (o := 3) hx11
        have zx4 := free_at (o := 4) hx11
        obtain ⟨w12, hw12⟩ : ∃ w12, w12 = setV w11 w9.heap.size v3 := ⟨_, rfl⟩
        have hB12 : Below w.heap.size w w12 := by rw [hw12]; exact below_setV hB11 _ (by omega)
        have hx12 : Has w12 w9.heap.size v3 := by rw [hw12]; exact hx11.set _
        have hA12 : Has w12 w.heap.size a := by rw [hw12]; exact hA11.far _ (by omega)
        have hbc12 : Has w12 w8.heap.size v2 := by rw [hw12]; exact hbc11.far _ (by omega)
        unfold setV at hw12
        obtain ⟨cbc0, cbc1, cbc2, cbc3, cbc4⟩ := five_cells hbc12
        have nx := hx12.lt
        have nbc2 := hbc12.lt
        have nA2 := hA12.lt
        obtain ⟨w13, hw13⟩ : ∃ w13, w13 = w12.alloc (.cells #[.int .i64 v2.k, .int .i64 v2.n, .string v2.t, .int .i64 v2.x, .int .i64 v2.y] 25) := ⟨_, rfl⟩
        have hB13 : Below w.heap.size w w13 := by rw [hw13]; exact hB12.alloc hB12.size _
        have hA13 : Has w13 w.heap.size a := by rw [hw13]; exact hA12.alloc _
        have hbc13 : Has w13 w8.heap.size v2 := by rw [hw13]; exact hbc12.alloc _
        have hx13 : Has w13 w9.heap.size v3 := by rw [hw13]; exact hx12.alloc _
        have hy13 : Has w13 w12.heap.size v2 := by rw [hw13]; exact Has.new _ _
        clear hB12 hA12 hbc12 hx12 
        obtain ⟨cx0, cx1, cx2, cx3, cx4⟩ := five_cells hx13
        obtain ⟨cy0, cy1, cy2, cy3, cy4⟩ := five_cells hy13
        go_wp2_with (first | (rw [← hw12]; clear hw12) | (rw [← hw13]; clear hw13))
        go_ret
        exact ⟨rfl, hB13⟩
      · have p0b : (E1 == 0) = false := by simp [p0]
        have p1b : (E1 == 1) = false := by simp [p1]
        clear hab10
        clear hb10
        clear hc10
        obtain ⟨cbc0, cbc1, cbc2, cbc3, cbc4⟩ := five_cells hbc10
        have nx := hx10.lt
        have nbc2 := hbc10.lt
        have nA2 := hA10.lt
        obtain ⟨w13, hw13⟩ : ∃ w13, w13 = w10.alloc (.cells #[.int .i64 v2.k, .int .i64 v2.n, .string v2.t, .int .i64 v2.x, .int .i64 v2.y] 25) := ⟨_, rfl⟩
        have hB13 : Below w.heap.size w w13 := by rw [hw13]; exact hB10.alloc hB10.size _
        have hA13 : Has w13 w.heap.size a := by rw [hw13]; exact hA10.alloc _
        have hbc13 : Has w13 w8.heap.size v2 := by rw [hw13]; exact hbc10.alloc _
        have hx13 : Has w13 w9.heap.size v1 := by rw [hw13]; exact hx10.alloc _
        have hy13 : Has w13 w10.heap.size v2 := by rw [hw13]; exact Has.new _ _
        clear hB10 hA10 hbc10 hx10 
        obtain ⟨cx0, cx1, cx2, cx3, cx4⟩ := five_cells hx13
        obtain ⟨cy0, cy1, cy2, cy3, cy4⟩ := five_cells hy13
        go_wp2_with (first | (rw [← hw9]; clear hw9) | (rw [← hw10]; clear hw10) | (rw [← hw13]; clear hw13))
        go_ret
        exact ⟨rfl, hB13⟩
    · have hl := HL.out (by rw [← HE1.out]; exact p1) (by rw [← HE2.out]; exact p2)
      rw [← HE1.out, ← HE2.out, ← HV1.out, ← HV2.out] at hl
      have p1b : (E1 == 1) = false := by simp [p1]
      have p2b : (E2 == 1) = false := by simp [p2]
      by_cases p3 : E1 = 0
      · rw [if_pos p3] at hl
        rw [← HE3.out, ← HV3.out] at hl
        by_cases p4 : E2 = 0
        · rw [if_pos p4, ← HE4.out, ← HV4.out] at hl
          obtain ⟨e34, v34⟩ := hl
          subst p3
          subst p4
          by_cases p5 : E3 = 0
          · have vv := v34 p5
            subst p5
            subst e34
            subst vv
            clear v34
            obtain ⟨cab0, cab1, cab2, cab3, cab4⟩ := five_cells hab10
            obtain ⟨cc0, cc1, cc2, cc3, cc4⟩ := five_cells hc10
            go_wp2_with (first | (rw [← hw9]; clear hw9) | (rw [← hw10]; clear hw10))
            refine (C4.out _).mono ?_
            rintro e w11 ⟨rfl, q11⟩
            have hB11 := hB10.trans (q11.mono hB10.size)
            have hA11 := hA10.step q11
            have hb11 := hb10.step q11
            have hc11 := hc10.step q11
            have hab11 := hab10.step q11
            have hbc11 := hbc10.step q11
            have hx11 := hx10.step q11
            clear hB10 hA10 hb10 hc10 hab10 hbc10 hx10 q11 cab0 cab1 cab2 cab3 cab4 cc0 cc1 cc2 cc3 cc4
            clear hab11
            clear hb11
            clear hc11
            obtain ⟨cx0, cx1, cx2, cx3, cx4⟩ := five_cells hx11
            have zx0 := free_at (o := 0) hx11
            have zx1 := free_at (o := 1) hx11
            have zx2 := free_at (o := 2) hx11
            have zx3 := free_at (o := 3) hx11
            have zx4 := free_at (o := 4) hx11
            obtain ⟨w12, hw12⟩ : ∃ w12, w12 = setV w11 w9.heap.size v3 := ⟨_, rfl⟩
            have hB12 : Below w.heap.size w w12 := by rw [hw12]; exact below_setV hB11 _ (by omega)
            have hx12 : Has w12 w9.heap.size v3 := by rw [hw12]; exact hx11.set _
            have hA12 : Has w12 w.heap.size a := by rw [hw12]; exact hA11.far _ (by omega)
            have hbc12 : Has w12 w8.heap.size v2 := by rw [hw12]; exact hbc11.far _ (by omega)
            unfold setV at hw12
            obtain ⟨cbc0, cbc1, cbc2, cbc3, cbc4⟩ := five_cells hbc12
            have nx := hx12.lt
            have nbc2 := hbc12.lt
            have nA2 := hA12.lt
            obtain ⟨w13, hw13⟩ : ∃ w13, w13 = w12.alloc (.cells #[.int .i64 v2.k, .int .i64 v2.n, .string v2.t, .int .i64 v2.x, .int .i64 v2.y] 25) := ⟨_, rfl⟩
            have hB13 : Below w.heap.size w w13 := by rw [hw13]; exact hB12.alloc hB12.size _
            have hA13 : Has w13 w.heap.size a := by rw [hw13]; exact hA12.alloc _
            have hbc13 : Has w13 w8.heap.size v2 := by rw [hw13]; exact hbc12.alloc _
            have hx13 : Has w13 w9.heap.size v3 := by rw [hw13]; exact hx12.alloc _
            have hy13 : Has w13 w12.heap.size v2 := by rw [hw13]; exact Has.new _ _
            clear hB12 hA12 hbc12 hx12 
            obtain ⟨cA0, cA1, cA2, cA3, cA4⟩ := five_cells hA13
            obtain ⟨cbc0, cbc1, cbc2, cbc3, cbc4⟩ := five_cells hbc13
            go_wp2_with (first | (rw [← hw12]; clear hw12) | (rw [← hw13]; clear hw13))
            refine (C5.out _).mono ?_
            rintro e w14 ⟨rfl, q14⟩
            have hB14 := hB13.trans (q14.mono hB13.size)
            have hA14 := hA13.step q14
            have hbc14 := hbc13.step q14
            have hx14 := hx13.step q14
            have hy14 := hy13.step q14
            clear hB13 hA13 hbc13 hx13 hy13 q14 cA0 cA1 cA2 cA3 cA4 cbc0 cbc1 cbc2 cbc3 cbc4
            clear hA14
            clear hbc14
            obtain ⟨cy0, cy1, cy2, cy3, cy4⟩ := five_cells hy14
            have zy0 := free_at (o := 0) hy14
            have zy1 := free_at (o := 1) hy14
            have zy2 := free_at (o := 2) hy14
            have zy3 := free_at (o := 3) hy14
            have zy4 := free_at (o := 4) hy14
            obtain ⟨w15, hw15⟩ : ∃ w15, w15 = setV w14 w12.heap.size v3 := ⟨_, rfl⟩
            have hB15 : Below w.heap.size w w15 := by rw [hw15]; exact below_setV hB14 _ (by omega)
            have hy15 : Has w15 w12.heap.size v3 := by rw [hw15]; exact hy14.set _
            have hx15 : Has w15 w9.heap.size v3 := by rw [hw15]; exact hx14.far _ (by omega)
            unfold setV at hw15
            obtain ⟨cx0, cx1, cx2, cx3, cx4⟩ := five_cells hx15
            obtain ⟨cy0, cy1, cy2, cy3, cy4⟩ := five_cells hy15
            have hEQ := val_eql v3
            go_wp2_with (first | (rw [← hw15]; clear hw15))
            go_ret
            exact ⟨rfl, hB15⟩
          · have p5b : (E3 != 0) = true := by simp [p5]
            subst e34
            clear v34
            obtain ⟨cab0, cab1, cab2, cab3, cab4⟩ := five_cells hab10
            obtain ⟨cc0, cc1, cc2, cc3, cc4⟩ := five_cells hc10
            go_wp2_with (first | (rw [← hw9]; clear hw9) | (rw [← hw10]; clear hw10))
            refine (C4.out _).mono ?_
            rintro e w11 ⟨rfl, q11⟩
            have hB11 := hB10.trans (q11.mono hB10.size)
            have hA11 := hA10.step q11
            have hb11 := hb10.step q11
            have hc11 := hc10.step q11
            have hab11 := hab10.step q11
            have hbc11 := hbc10.step q11
            have hx11 := hx10.step q11
            clear hB10 hA10 hb10 hc10 hab10 hbc10 hx10 q11 cab0 cab1 cab2 cab3 cab4 cc0 cc1 cc2 cc3 cc4
            clear hab11
            clear hb11
            clear hc11
            obtain ⟨cx0, cx1, cx2, cx3, cx4⟩ := five_cells hx11
            have zx0 := free_at (o := 0) hx11
            have zx1 := free_at (o := 1) hx11
            have zx2 := free_at (o := 2) hx11
            have zx3 := free_at (o := 3) hx11
            have zx4 := free_at (o := 4) hx11
            obtain ⟨w12, hw12⟩ : ∃ w12, w12 = setV w11 w9.heap.size v3 := ⟨_, rfl⟩
            have hB12 : Below w.heap.size w w12 := by rw [hw12]; exact below_setV hB11 _ (by omega)
            have hx12 : Has w12 w9.heap.size v3 := by rw [hw12]; exact hx11.set _
            have hA12 : Has w12 w.heap.size a := by rw [hw12]; exact hA11.far _ (by omega)
            have hbc12 : Has w12 w8.heap.size v2 := by rw [hw12]; exact hbc11.far _ (by omega)
            unfold setV at hw12
            obtain ⟨cbc0, cbc1, cbc2, cbc3, cbc4⟩ := five_cells hbc12
            have nx := hx12.lt
            have nbc2 := hbc12.lt
            have nA2 := hA12.lt
            obtain ⟨w13, hw13⟩ : ∃ w13, w13 = w12.alloc (.cells #[.int .i64 v2.k, .int .i64 v2.n, .string v2.t, .int .i64 v2.x, .int .i64 v2.y] 25) := ⟨_, rfl⟩
            have hB13 : Below w.heap.size w w13 := by rw [hw13]; exact hB12.alloc hB12.size _
            have hA13 : Has w13 w.heap.size a := by rw [hw13]; exact hA12.alloc _
            have hbc13 : Has w13 w8.heap.size v2 := by rw [hw13]; exact hbc12.alloc _
            have hx13 : Has w13 w9.heap.size v3 := by rw [hw13]; exact hx12.alloc _
            have hy13 : Has w13 w12.heap.size v2 := by rw [hw13]; exact Has.new _ _
            clear hB12 hA12 hbc12 hx12 
            obtain ⟨cA0, cA1, cA2, cA3, cA4⟩ := five_cells hA13
            obtain ⟨cbc0, cbc1, cbc2, cbc3, cbc4⟩ := five_cells hbc13
            go_wp2_with (first | (rw [← hw12]; clear hw12) | (rw [← hw13]; clear hw13))
            refine (C5.out _).mono ?_
            rintro e w14 ⟨rfl, q14⟩
            have hB14 := hB13.trans (q14.mono hB13.size)
            have hA14 := hA13.step q14
            have hbc14 := hbc13.step q14
            have hx14 := hx13.step q14
            have hy14 := hy13.step q14
            clear hB13 hA13 hbc13 hx13 hy13 q14 cA0 cA1 cA2 cA3 cA4 cbc0 cbc1 cbc2 cbc3 cbc4
            clear hA14
            clear hbc14
            obtain ⟨cy0, cy1, cy2, cy3, cy4⟩ := five_cells hy14
            have zy0 := free_at (o := 0) hy14
            have zy1 := free_at (o := 1) hy14
            have zy2 := free_at (o := 2) hy14
            have zy3 := free_at (o := 3) hy14
            have zy4 := free_at (o := 4) hy14
            obtain ⟨w15, hw15⟩ : ∃ w15, w15 = setV w14 w12.heap.size v4 := ⟨_, rfl⟩
            have hB15 : Below w.heap.size w w15 := by rw [hw15]; exact below_setV hB14 _ (by omega)
            have hy15 : Has w15 w12.heap.size v4 := by rw [hw15]; exact hy14.set _
            have hx15 : Has w15 w9.heap.size v3 := by rw [hw15]; exact hx14.far _ (by omega)
            unfold setV at hw15
            obtain ⟨cx0, cx1, cx2, cx3, cx4⟩ := five_cells hx15
            obtain ⟨cy0, cy1, cy2, cy3, cy4⟩ := five_cells hy15
            go_wp2_with (first | (rw [← hw15]; clear hw15))
            go_ret
            exact ⟨rfl, hB15⟩
        · rw [if_neg p4, ← HE2.out] at hl
          obtain ⟨e34, v34⟩ := hl
          subst p3
          have p4b : (E2 == 0) = false := by simp [p4]
          have p5b : (E2 != 0) = true := by simp [p4]
          clear v34
          subst e34
          obtain ⟨cab0, cab1, cab2, cab3, cab4⟩ := five_cells hab10
          obtain ⟨cc0, cc1, cc2, cc3, cc4⟩ := five_cells hc10
          go_wp2_with (first | (rw [← hw9]; clear hw9) | (rw [← hw10]; clear hw10))
          refine (C4.out _).mono ?_
          rintro e w11 ⟨rfl, q11⟩
          have hB11 := hB10.trans (q11.mono hB10.size)
          have hA11 := hA10.step q11
          have hb11 := hb10.step q11
          have hc11 := hc10.step q11
          have hab11 := hab10.step q11
          have hbc11 := hbc10.step q11
          have hx11 := hx10.step q11
          clear hB10 hA10 hb10 hc10 hab10 hbc10 hx10 q11 cab0 cab1 cab2 cab3 cab4 cc0 cc1 cc2 cc3 cc4
          clear hab11
          clear hb11
          clear hc11
          obtain ⟨cx0, cx1, cx2, cx3, cx4⟩ := five_cells hx11
          have zx0 := free_at (o := 0) hx11
          have zx1 := free_at (o := 1) hx11
          have zx2 := free_at (o := 2) hx11
          have zx3 := free_at (o := 3) hx11
          have zx4 := free_at (o := 4) hx11
          obtain ⟨w12, hw12⟩ : ∃ w12, w12 = setV w11 w9.heap.size v3 := ⟨_, rfl⟩
          have hB12 : Below w.heap.size w w12 := by rw [hw12]; exact below_setV hB11 _ (by omega)
          have hx12 : Has w12 w9.heap.size v3 := by rw [hw12]; exact hx11.set _
          have hA12 : Has w12 w.heap.size a := by rw [hw12]; exact hA11.far _ (by omega)
          have hbc12 : Has w12 w8.heap.size v2 := by rw [hw12]; exact hbc11.far _ (by omega)
          unfold setV at hw12
          obtain ⟨cbc0, cbc1, cbc2, cbc3, cbc4⟩ := five_cells hbc12
          have nx := hx12.lt
          have nbc2 := hbc12.lt
          have nA2 := hA12.lt
          obtain ⟨w13, hw13⟩ : ∃ w13, w13 = w12.alloc (.cells #[.int .i64 v2.k, .int .i64 v2.n, .string v2.t, .int .i64 v2.x, .int .i64 v2.y] 25) := ⟨_, rfl⟩
          have hB13 : Below w.heap.size w w13 := by rw [hw13]; exact hB12.alloc hB12.size _
          have hA13 : Has w13 w.heap.size a := by rw [hw13]; exact hA12.alloc _
          have hbc13 : Has w13 w8.heap.size v2 := by rw [hw13]; exact hbc12.alloc _
          have hx13 : Has w13 w9.heap.size v3 := by rw [hw13]; exact hx12.alloc _
          have hy13 : Has w13 w12.heap.size v2 := by rw [hw13]; exact Has.new _ _
          clear hB12 hA12 hbc12 hx12 
          obtain ⟨cx0, cx1, cx2, cx3, cx4⟩ := five_cells hx13
          obtain ⟨cy0, cy1, cy2, cy3, cy4⟩ := five_cells hy13
          go_wp2_with (first | (rw [← hw12]; clear hw12) | (rw [← hw13]; clear hw13))
          go_ret
          exact ⟨rfl, hB13⟩
      · rw [if_neg p3, ← HE1.out] at hl
        have p3b : (E1 == 0) = false := by simp [p3]
        have p5b : (E1 != 0) = true := by simp [p3]
        by_cases p4 : E2 = 0
        · rw [if_pos p4, ← HE4.out, ← HV4.out] at hl
          obtain ⟨e34, v34⟩ := hl
          subst p4
          clear v34
          subst e34
          clear hab10
          clear hb10
          clear hc10
          obtain ⟨cbc0, cbc1, cbc2, cbc3, cbc4⟩ := five_cells hbc10
          have nx := hx10.lt
          have nbc2 := hbc10.lt
          have nA2 := hA10.lt
          obtain ⟨w13, hw13⟩ : ∃ w13, w13 = w10.alloc (.cells #[.int .i64 v2.k, .int .i64 v2.n, .string v2.t, .int .i64 v2.x, .int .i64 v2.y] 25) := ⟨_, rfl⟩
          have hB13 : Below w.heap.size w w13 := by rw [hw13]; exact hB10.alloc hB10.size _
          have hA13 : Has w13 w.heap.size a := by rw [hw13]; exact hA10.alloc _
          have hbc13 : Has w13 w8.heap.size v2 := by rw [hw13]; exact hbc10.alloc _
          have hx13 : Has w13 w9.heap.size v1 := by rw [hw13]; exact hx10.alloc _
          have hy13 : Has w13 w10.heap.size v2 := by rw [hw13]; exact Has.new _ _
          clear hB10 hA10 hbc10 hx10 
          obtain ⟨cA0, cA1, cA2, cA3, cA4⟩ := five_cells hA13
          obtain ⟨cbc0, cbc1, cbc2, cbc3, cbc4⟩ := five_cells hbc13
          go_wp2_with (first | (rw [← hw9]; clear hw9) | (rw [← hw10]; clear hw10) | (rw [← hw13]; clear hw13))
          refine (C5.out _).mono ?_
          rintro e w14 ⟨rfl, q14⟩
          have hB14 := hB13.trans (q14.mono hB13.size)
          have hA14 := hA13.step q14
          have hbc14 := hbc13.step q14
          have hx14 := hx13.step q14
          have hy14 := hy13.step q14
          clear hB13 hA13 hbc13 hx13 hy13 q14 cA0 cA1 cA2 cA3 cA4 cbc0 cbc1 cbc2 cbc3 cbc4
          clear hA14
          clear hbc14
          obtain ⟨cy0, cy1, cy2, cy3, cy4⟩ := five_cells hy14
          have zy0 := free_at (o := 0) hy14
          have zy1 := free_at (o := 1) hy14
          have zy2 := free_at (o := 2) hy14
          have zy3 := free_at (o := 3) hy14
          have zy4 := free_at (o := 4) hy14
          obtain ⟨w15, hw15⟩ : ∃ w15, w15 = setV w14 w10.heap.size v4 := ⟨_, rfl⟩
          have hB15 : Below w.heap.size w w15 := by rw [hw15]; exact below_setV hB14 _ (by omega)
          have hy15 : Has w15 w10.heap.size v4 := by rw [hw15]; exact hy14.set _
          have hx15 : Has w15 w9.heap.size v1 := by rw [hw15]; exact hx14.far _ (by omega)
          unfold setV at hw15
          obtain ⟨cx0, cx1, cx2, cx3, cx4⟩ := five_cells hx15
          obtain ⟨cy0, cy1, cy2, cy3, cy4⟩ := five_cells hy15
          go_wp2_with (first | (rw [← hw15]; clear hw15))
          go_ret
          exact ⟨rfl, hB15⟩
        · rw [if_neg p4, ← HE2.out] at hl
          obtain ⟨e34, v34⟩ := hl
          clear v34
          subst e34
          clear hab10
          clear hb10
          clear hc10
          obtain ⟨cbc0, cbc1, cbc2, cbc3, cbc4⟩ := five_cells hbc10
          have nx := hx10.lt
          have nbc2 := hbc10.lt
          have nA2 := hA10.lt
          obtain ⟨w13, hw13⟩ : ∃ w13, w13 = w10.alloc (.cells #[.int .i64 v2.k, .int .i64 v2.n, .string v2.t, .int .i64 v2.x, .int .i64 v2.y] 25) := ⟨_, rfl⟩
          have hB13 : Below w.heap.size w w13 := by rw [hw13]; exact hB10.alloc hB10.size _
          have hA13 : Has w13 w.heap.size a := by rw [hw13]; exact hA10.alloc _
          have hbc13 : Has w13 w8.heap.size v2 := by rw [hw13]; exact hbc10.alloc _
          have hx13 : Has w13 w9.heap.size v1 := by rw [hw13]; exact hx10.alloc _
          have hy13 : Has w13 w10.heap.size v2 := by rw [hw13]; exact Has.new _ _
          clear hB10 hA10 hbc10 hx10 
          obtain ⟨cx0, cx1, cx2, cx3, cx4⟩ := five_cells hx13
          obtain ⟨cy0, cy1, cy2, cy3, cy4⟩ := five_cells hy13
          go_wp2_with (first | (rw [← hw9]; clear hw9) | (rw [← hw10]; clear hw10) | (rw [← hw13]; clear hw13))
          go_ret
          exact ⟨rfl, hB13⟩
end Go.Proofs.Ytejbpnhondpnfaa
