/- A value, read; a letter and a number, read. -/
import Derived.Test.YtkldkaahpicnmaaFragG
namespace Go.Proofs.Ytkldkaahpicnmaa
open Go.RowKit PFragNames
open Go.Proofs.YtkldkaahpicnmaaW.PrintWords

theorem notEmpty {s : ByteArray} (h : 0 < s.size) : s.toList.isEmpty = false := by
  rw [ByteArray.toList_eq, List.isEmpty_eq_false_iff]
  intro e
  have : s.data.toList.length = 0 := by rw [e]; rfl
  have h2 : s.size = s.data.toList.length := rfl
  omega

theorem isEmpty_ {s : ByteArray} (h : s.size = 0) : s = ⟨#[]⟩ := by
  obtain ⟨⟨l⟩⟩ := s
  obtain rfl : l = [] := List.length_eq_zero_iff.1 h
  rfl

set_option maxHeartbeats 400000 in
theorem parse_any (s : ByteArray) (hs : s.size ≤ 1000000) (w : World) : Calls Try.prog 29 #[.string s] w (ValEnd s w) := by
  have HT := Lib.hid (text_any s hs)
  have HN := Lib.hid (numeric_any s hs)
  have x0 := heap_alloc_new w (.cells #[.int .i64 0, .int .i64 0, .string ⟨#[]⟩, .int .i64 0, .int .i64 0] 46)
  by_cases h0 : 0 < s.size
  · have hse := notEmpty h0
    by_cases hq : ((s[0].toNat : Nat) : Int) = 34
    · go_enter Try.func29, Try.ntmps29
      go_wp2_with fail
      refine (HT.out _).mono ?_
      rintro e w1 ⟨⟨kd, n, o, x, y, i, er, rfl, hi⟩, hb1⟩
      have hB : Below w.heap.size w w1 := ((Below.refl _ w).alloc (Nat.le_refl _) _).trans (hb1.mono (by simp))
      have x1 := (hb1.block _ (by simp)).trans x0
      obtain ⟨⟨c0, c1, c2, c3, c4⟩, f0, f1, f2, f3, f4⟩ := vfacts x1
      go_wp2_with fail
      refine bodyPost_ret (results_ctt rfl _ _ w.heap.size 46 _ (0, 0) _ rfl (set5 x1 _ _ _ _ _) Try.underlying46 rfl (by kernel_rfl)) rfl ?_
      exact ⟨⟨_, _, _, _, _, i, _, rfl, hi⟩, below5 hB (Nat.le_refl _) _ _ _ _ _⟩
    · by_cases hm : ((s[0].toNat : Nat) : Int) = 45
      · go_enter Try.func29, Try.ntmps29
        go_wp2_with fail
        refine (HN.out _).mono ?_
        rintro e w1 ⟨⟨kd, n, o, x, y, i, er, rfl, hi⟩, hb1⟩
        have hB : Below w.heap.size w w1 := ((Below.refl _ w).alloc (Nat.le_refl _) _).trans (hb1.mono (by simp))
        have x1 := (hb1.block _ (by simp)).trans x0
        obtain ⟨⟨c0, c1, c2, c3, c4⟩, f0, f1, f2, f3, f4⟩ := vfacts x1
        go_wp2_with fail
        refine bodyPost_ret (results_ctt rfl _ _ w.heap.size 46 _ (0, 0) _ rfl (set5 x1 _ _ _ _ _) Try.underlying46 rfl (by kernel_rfl)) rfl ?_
        exact ⟨⟨_, _, _, _, _, i, _, rfl, hi⟩, below5 hB (Nat.le_refl _) _ _ _ _ _⟩
      · go_enter Try.func29, Try.ntmps29
        go_wp2_with fail
        refine (digit_any _ _).mono ?_
        rintro e w2 ⟨⟨q, rfl⟩, hb2⟩
        have hB2 : Below w.heap.size w w2 := ((Below.refl _ w).alloc (Nat.le_refl _) _).trans (hb2.mono (by simp))
        have x2 := (hb2.block _ (by simp)).trans x0
        obtain ⟨⟨e0, e1, e2, e3, e4⟩, g0, g1, g2, g3, g4⟩ := vfacts x2
        cases q
        · go_wp2_with fail
          refine bodyPost_ret (results_ctt rfl _ _ w.heap.size 46 _ (0, 0) _ rfl (set5 x2 _ _ _ _ _) Try.underlying46 rfl (by kernel_rfl)) rfl ?_
          exact ⟨⟨_, _, _, _, _, 0, _, rfl, by omega⟩, below5 hB2 (Nat.le_refl _) _ _ _ _ _⟩
        · go_wp2_with fail
          refine (HN.out _).mono ?_
          rintro e w1 ⟨⟨kd, n, o, x, y, i, er, rfl, hi⟩, hb1⟩
          have hB : Below w.heap.size w w1 := hB2.trans (hb1.mono hB2.size)
          have x1 := (hb1.block _ (Array.getElem?_eq_some_iff.1 x2).1).trans x2
          obtain ⟨⟨c0, c1, c2, c3, c4⟩, f0, f1, f2, f3, f4⟩ := vfacts x1
          go_wp2_with fail
          refine bodyPost_ret (results_ctt rfl _ _ w.heap.size 46 _ (0, 0) _ rfl (set5 x1 _ _ _ _ _) Try.underlying46 rfl (by kernel_rfl)) rfl ?_
          exact ⟨⟨_, _, _, _, _, i, _, rfl, hi⟩, below5 hB (Nat.le_refl _) _ _ _ _ _⟩
  · obtain rfl := isEmpty_ (s := s) (by omega)
    obtain ⟨⟨e0, e1, e2, e3, e4⟩, g0, g1, g2, g3, g4⟩ := vfacts x0
    go_enter Try.func29, Try.ntmps29
    go_wp2_with fail
    refine bodyPost_ret (results_ctt rfl _ _ w.heap.size 46 #[.int .i64 0, .int .i64 0, .string ⟨#[]⟩, .int .i64 0, .int .i64 0] (0, 0) _ rfl x0 Try.underlying46 rfl (by kernel_rfl)) rfl ?_
    exact ⟨⟨_, _, _, _, _, 0, _, rfl, Nat.zero_le _⟩, (Below.refl _ w).alloc (Nat.le_refl _) _⟩

/-- A number, what is left of a text, a bool come back. -/
def PartEnd (s : ByteArray) (w : World) (e : Ending) (w' : World) : Prop :=
  (∃ (n : Int) (o : ByteArray) (q : Bool), e = .returned (.tuple #[.int .i64 n, .string o, .bool q]) ∧ o.size ≤ s.size) ∧ Below w.heap.size w w'

set_option maxHeartbeats 400000 in
theorem numbered_any (s : ByteArray) (c : Int) (hs : s.size ≤ 1000000) (w : World) : Calls Try.prog 16 #[.string s, .int .u8 c] w (PartEnd s w) := by
  by_cases h0 : 0 < s.size
  · have hse := notEmpty h0
    by_cases hq : ((s[0].toNat : Nat) : Int) = c
    · obtain ⟨t, ht⟩ : ∃ t, s.extract 1 s.size = t := ⟨_, rfl⟩
      have htz : t.size = s.size - 1 := by rw [← ht, ByteArray.size_extract]; omega
      have HP := Lib.hid (parse_any t (by omega))
      have HT := Lib.hid ht
      go_enter Try.func16, Try.ntmps16
      go_wp2_with fail
      refine (HP.out _).mono ?_
      rintro e w1 ⟨⟨kd, n, o, x, y, i, er, rfl, hi⟩, hb1⟩
      obtain ⟨W2, hW2⟩ : ∃ W2, W2 = w1.alloc (.cells #[.int .i64 kd, .int .i64 n, .string o, .int .i64 x, .int .i64 y] 46) := ⟨_, rfl⟩
      have y2 : W2.heap[w1.heap.size]? = some (.cells #[.int .i64 kd, .int .i64 n, .string o, .int .i64 x, .int .i64 y] 46 (0, 0)) := by rw [hW2]; exact heap_alloc_new w1 _
      have hB2 : Below w.heap.size w W2 := by rw [hW2]; exact hb1.alloc hb1.size _
      obtain ⟨⟨c0, c1, c2, c3, c4⟩, _⟩ := vfacts y2
      have hwr : IntKind.i64.wrap (1 + (i : Int)) = 1 + (i : Int) := by rw [IntKind.wrap_i64]; omega
      have hk1 : (0 : Int) ≤ 1 + (i : Int) ∧ 1 + (i : Int) ≤ (s.size : Int) := by omega
      go_wp2_with fail
      try rw [← hW2]
      clear hW2
      refine wp_region_still_lit (by kernel_rfl) (by kernel_rfl) ?_
      repeat still_step
      refine wpStill_nil ?_
      go_wp2_with fail
      go_ret3
      refine ⟨⟨n, _, _, rfl, ?_⟩, hB2.drew⟩
      rw [ByteArray.size_extract]
      omega
    · go_enter Try.func16, Try.ntmps16
      go_wp2_with fail
      go_ret3
      exact ⟨⟨_, _, _, rfl, Nat.zero_le _⟩, Below.refl _ _⟩
  · obtain rfl := isEmpty_ (s := s) (by omega)
    go_enter Try.func16, Try.ntmps16
    go_wp2_with fail
    go_ret3
    exact ⟨⟨_, _, _, rfl, Nat.zero_le _⟩, Below.refl _ _⟩

end Go.Proofs.Ytkldkaahpicnmaa
