/- A number or a point, read. -/
import Derived.Test.YtkldkaahpicnmaaFragF
namespace Go.Proofs.Ytkldkaahpicnmaa
open Go.RowKit PFragNames
open Go.Proofs.YtkldkaahpicnmaaW.PrintWords

theorem vfacts {W : World} {g : Nat} {a0 a1 a2 a3 a4 : Value} (h : W.heap[g]? = some (.cells #[a0, a1, a2, a3, a4] 46 (0, 0))) :
    (W.cell? ⟨g, 0, none⟩ = some a0 ∧ W.cell? ⟨g, 1, none⟩ = some a1 ∧ W.cell? ⟨g, 2, none⟩ = some a2 ∧ W.cell? ⟨g, 3, none⟩ = some a3 ∧ W.cell? ⟨g, 4, none⟩ = some a4) ∧
    W.frozen? ⟨g, 0, none⟩ = false ∧ W.frozen? ⟨g, 1, none⟩ = false ∧ W.frozen? ⟨g, 2, none⟩ = false ∧ W.frozen? ⟨g, 3, none⟩ = false ∧ W.frozen? ⟨g, 4, none⟩ = false := by
  simp [World.cell?, World.frozen?, h]

def zeroO : Obj := .cells #[.int .i64 0, .int .i64 0, .string ⟨#[]⟩, .int .i64 0, .int .i64 0] 46 (0, 0)

set_option maxHeartbeats 4000000 in
theorem numeric_any (s : ByteArray) (hs : s.size ≤ 1000000) (w : World) : Calls Try.prog 42 #[.string s] w (ValEnd s w) := by
  have HN := Lib.hid (fun i hi => number_any s i hs hi)
  have hn0 := HN.out 0 (Nat.zero_le _)
  have HN0 := Lib.hid hn0
  clear hn0
  go_enter Try.func42, Try.ntmps42
  go_wp2_with fail
  refine (HN0.out _).mono ?_
  rintro e w1 ⟨⟨n, i, er, rfl, hi⟩, hb1⟩
  have hB1 : Below w.heap.size w w1 := ((Below.refl _ w).alloc (Nat.le_refl _) _).trans (hb1.mono (by simp))
  have hs1 : w.heap.size < w1.heap.size := by have := hb1.size; simp at this; omega
  have x1 : w1.heap[w.heap.size]? = some (.cells #[.int .i64 0, .int .i64 0, .string ⟨#[]⟩, .int .i64 0, .int .i64 0] 46 (0, 0)) := (hb1.block _ (by simp)).trans (heap_alloc_new w _)
  by_cases her : er = 0
  · subst her
    obtain ⟨W2, hW2⟩ : ∃ W2, W2 = w1.alloc (.cells #[.int .i64 0, .int .i64 n, .string ⟨#[]⟩, .int .i64 0, .int .i64 0] 46) := ⟨_, rfl⟩
    have y2 : W2.heap[w1.heap.size]? = some (.cells #[.int .i64 0, .int .i64 n, .string ⟨#[]⟩, .int .i64 0, .int .i64 0] 46 (0, 0)) := by rw [hW2]; exact heap_alloc_new w1 _
    have x2 : W2.heap[w.heap.size]? = some (.cells #[.int .i64 0, .int .i64 0, .string ⟨#[]⟩, .int .i64 0, .int .i64 0] 46 (0, 0)) := by rw [hW2]; exact (Below.heap_alloc w1 _ _ hs1).trans x1
    have hB2 : Below w.heap.size w W2 := by rw [hW2]; exact hB1.alloc (by omega) _
    have hs2 : W2.heap.size = w1.heap.size + 1 := by rw [hW2]; simp
    obtain ⟨⟨c0, c1, c2, c3, c4⟩, f0, f1, f2, f3, f4⟩ := vfacts y2
    by_cases hc : ∃ h : i < s.size, ((s[i].toNat : Nat) : Int) = 58
    · obtain ⟨hlt, hq⟩ := hc
      have HN1 := Lib.hid (HN.out (i + 1) hlt)
      go_wp2_with fail
      try rw [← hW2]
      refine (HN1.out _).mono ?_
      rintro e w3 ⟨⟨m, k, er, rfl, hk⟩, hb3⟩
      have hs3 := hb3.size
      have x3 := (hb3.block _ (by omega)).trans x2
      have y3 := (hb3.block _ (by omega)).trans y2
      have hB3 : Below w.heap.size w w3 := hB2.trans (hb3.mono hB2.size)
      obtain ⟨⟨b0, b1, b2, b3, b4⟩, a0, a1, a2, a3, a4⟩ := vfacts x3
      obtain ⟨⟨h0, h1, h2, h3, h4⟩, l0, l1, l2, l3, l4⟩ := vfacts y3
      by_cases her : er = 0
      · subst her
        have y5 := set5 y3 (.int .i64 2) (.int .i64 0) (.string ⟨#[]⟩) (.int .i64 n) (.int .i64 m)
        have hB5 := below5 (Below.refl w1.heap.size w3) (Nat.le_refl _) (.int .i64 2) (.int .i64 0) (.string ⟨#[]⟩) (.int .i64 n) (.int .i64 m)
        obtain ⟨W5, hW5⟩ : ∃ W5, W5 = (((((w3.setCell ⟨w1.heap.size, 0, none⟩ (.int .i64 2)).setCell ⟨w1.heap.size, 1, none⟩ (.int .i64 0)).setCell ⟨w1.heap.size, 2, none⟩ (.string ⟨#[]⟩)).setCell ⟨w1.heap.size, 3, none⟩ (.int .i64 n)).setCell ⟨w1.heap.size, 4, none⟩ (.int .i64 m)) := ⟨_, rfl⟩
        rw [← hW5] at y5 hB5
        have x5 := (hB5.block _ hs1).trans x3
        have hB5' : Below w.heap.size w W5 := hB3.trans (hB5.mono (by omega))
        obtain ⟨⟨i0, i1, i2, i3, i4⟩, _⟩ := vfacts y5
        go_wp2_with fail
        try rw [← hW5]
        refine (vright_point n m W5).mono ?_
        rintro e w6 ⟨⟨q, rfl⟩, hb6⟩
        have hs6 := (Array.getElem?_eq_some_iff.1 x5).1
        have hs7 := (Array.getElem?_eq_some_iff.1 y5).1
        have x6 := (hb6.block _ hs6).trans x5
        have y6 := (hb6.block _ hs7).trans y5
        have hB6 : Below w.heap.size w w6 := hB5'.trans (hb6.mono hB5'.size)
        obtain ⟨⟨e0, e1, e2, e3, e4⟩, d0, d1, d2, d3, d4⟩ := vfacts x6
        obtain ⟨⟨r0, r1, r2, r3, r4⟩, _⟩ := vfacts y6
        cases q
        · go_wp2_with fail
          refine bodyPost_ret (results_ctt rfl _ _ w.heap.size 46 _ (0, 0) _ rfl (set5 x6 _ _ _ _ _) Try.underlying46 rfl (by kernel_rfl)) rfl ?_
          exact ⟨⟨_, _, _, _, _, 0, _, rfl, by omega⟩, below5 hB6 (Nat.le_refl _) _ _ _ _ _⟩
        · go_wp2_with fail
          refine bodyPost_ret (results_ctt rfl _ _ w.heap.size 46 _ (0, 0) _ rfl (set5 x6 _ _ _ _ _) Try.underlying46 rfl (by kernel_rfl)) rfl ?_
          exact ⟨⟨_, _, _, _, _, k, _, rfl, by omega⟩, below5 hB6 (Nat.le_refl _) _ _ _ _ _⟩
      · go_wp2_with fail
        refine bodyPost_ret (results_ctt rfl _ _ w.heap.size 46 _ (0, 0) _ rfl (set5 x3 _ _ _ _ _) Try.underlying46 rfl (by kernel_rfl)) rfl ?_
        exact ⟨⟨_, _, _, _, _, 0, _, rfl, by omega⟩, below5 hB3 (Nat.le_refl _) _ _ _ _ _⟩
    · by_cases hlt : i < s.size
      · have hq : ¬ (((s[i].toNat : Nat) : Int) = 58) := fun hq => hc ⟨hlt, hq⟩
        clear hc
        go_wp2_with fail
        try rw [← hW2]
        refine (vright_int n W2).mono ?_
        rintro e w6 ⟨⟨q, rfl, _⟩, hb6⟩
        have hs6 := (Array.getElem?_eq_some_iff.1 x2).1
        have hs7 := (Array.getElem?_eq_some_iff.1 y2).1
        have x6 := (hb6.block _ hs6).trans x2
        have y6 := (hb6.block _ hs7).trans y2
        have hB6 : Below w.heap.size w w6 := hB2.trans (hb6.mono hB2.size)
        obtain ⟨⟨e0, e1, e2, e3, e4⟩, d0, d1, d2, d3, d4⟩ := vfacts x6
        obtain ⟨⟨r0, r1, r2, r3, r4⟩, _⟩ := vfacts y6
        cases q
        · go_wp2_with fail
          refine bodyPost_ret (results_ctt rfl _ _ w.heap.size 46 _ (0, 0) _ rfl (set5 x6 _ _ _ _ _) Try.underlying46 rfl (by kernel_rfl)) rfl ?_
          exact ⟨⟨_, _, _, _, _, 0, _, rfl, by omega⟩, below5 hB6 (Nat.le_refl _) _ _ _ _ _⟩
        · go_wp2_with fail
          refine bodyPost_ret (results_ctt rfl _ _ w.heap.size 46 _ (0, 0) _ rfl (set5 x6 _ _ _ _ _) Try.underlying46 rfl (by kernel_rfl)) rfl ?_
          exact ⟨⟨_, _, _, _, _, i, _, rfl, by omega⟩, below5 hB6 (Nat.le_refl _) _ _ _ _ _⟩
      · clear hc
        go_wp2_with fail
        try rw [← hW2]
        refine (vright_int n W2).mono ?_
        rintro e w6 ⟨⟨q, rfl, _⟩, hb6⟩
        have hs6 := (Array.getElem?_eq_some_iff.1 x2).1
        have hs7 := (Array.getElem?_eq_some_iff.1 y2).1
        have x6 := (hb6.block _ hs6).trans x2
        have y6 := (hb6.block _ hs7).trans y2
        have hB6 : Below w.heap.size w w6 := hB2.trans (hb6.mono hB2.size)
        obtain ⟨⟨e0, e1, e2, e3, e4⟩, d0, d1, d2, d3, d4⟩ := vfacts x6
        obtain ⟨⟨r0, r1, r2, r3, r4⟩, _⟩ := vfacts y6
        cases q
        · go_wp2_with fail
          refine bodyPost_ret (results_ctt rfl _ _ w.heap.size 46 _ (0, 0) _ rfl (set5 x6 _ _ _ _ _) Try.underlying46 rfl (by kernel_rfl)) rfl ?_
          exact ⟨⟨_, _, _, _, _, 0, _, rfl, by omega⟩, below5 hB6 (Nat.le_refl _) _ _ _ _ _⟩
        · go_wp2_with fail
          refine bodyPost_ret (results_ctt rfl _ _ w.heap.size 46 _ (0, 0) _ rfl (set5 x6 _ _ _ _ _) Try.underlying46 rfl (by kernel_rfl)) rfl ?_
          exact ⟨⟨_, _, _, _, _, i, _, rfl, by omega⟩, below5 hB6 (Nat.le_refl _) _ _ _ _ _⟩
  · obtain ⟨⟨c0, c1, c2, c3, c4⟩, f0, f1, f2, f3, f4⟩ := vfacts x1
    go_wp2_with fail
    refine bodyPost_ret (results_ctt rfl _ _ w.heap.size 46 _ (0, 0) _ rfl (set5 x1 _ _ _ _ _) Try.underlying46 rfl (by kernel_rfl)) rfl ?_
    exact ⟨⟨_, _, _, _, _, 0, _, rfl, Nat.zero_le _⟩, below5 hB1 (Nat.le_refl _) _ _ _ _ _⟩

end Go.Proofs.Ytkldkaahpicnmaa
