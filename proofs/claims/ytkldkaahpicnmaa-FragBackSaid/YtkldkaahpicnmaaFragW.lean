/- A value, a letter and a number, an id's name are read as they were written. -/
import Derived.Test.YtkldkaahpicnmaaFragV
import Derived.Test.YtkldkaahpicnmaaFragI
namespace Go.Proofs.Ytkldkaahpicnmaa
open Go.RowKit PFragNames
open Go.Proofs.YtkldkaahpicnmaaW.PrintWords

/-- What may stand behind a number: nothing, or a byte that goes on with neither digits nor a point. -/
def Stops (rest : List UInt8) : Prop := ∀ c, rest[0]? = some c → ¬ ((48 : Int) ≤ (c.toNat : Int) ∧ (c.toNat : Int) ≤ 57) ∧ ((c.toNat : Int) == 58) = false

set_option maxHeartbeats 2000000 in
theorem numeric_ex (s : ByteArray) (n : Nat) (rest : List UInt8) (hs : s.size ≤ 1000000) (hd : s.data.toList = decL n ++ rest) (hr : Stops rest) (hn : n ≤ 2147483647) (w : World) :
    Calls Try.prog 42 #[.string s] w fun e w' => e = .returned (.tuple #[intV n, .int .i64 ((decL n).length : Nat), .int .i64 0]) ∧ Below w.heap.size w w' := by
  have HN := Lib.hid (number_ex s 0 n rest hs (Nat.zero_le _) hd (fun c hc => (hr c hc).1) hn)
  have hlen : (decL n).length + rest.length = s.size := by
    have := congrArg List.length hd
    rw [List.length_append] at this
    have e : s.data.toList.length = s.size := by simp
    omega
  have h58 : ∀ i, i = (decL n).length → ∀ (h : i < s.size), ((s[i].toNat : Int) == 58) = false := by
    intro i hi h
    have e1 : s.data.toList[i]? = some s[i] := by simp [h]; rfl
    rw [hd, List.getElem?_append_right (by omega), show i - (decL n).length = 0 by omega] at e1
    exact (hr _ e1).2
  rw [Nat.zero_add] at HN
  obtain ⟨i, hii⟩ : ∃ i, i = (decL n).length := ⟨_, rfl⟩
  have h58 := h58 i hii
  simp only [← hii] at HN hlen ⊢
  clear hd hr hii
  go_enter Try.func42, Try.ntmps42
  go_wp2_with fail
  refine (HN.out _).mono ?_
  rintro e w1 ⟨rfl, hb1⟩
  have hB1 : Below w.heap.size w w1 := ((Below.refl _ w).alloc (Nat.le_refl _) _).trans (hb1.mono (by simp))
  have hs1 : w.heap.size < w1.heap.size := by have := hb1.size; simp at this; omega
  have x1 : w1.heap[w.heap.size]? = some (.cells #[.int .i64 0, .int .i64 0, .string ⟨#[]⟩, .int .i64 0, .int .i64 0] 46 (0, 0)) := (hb1.block _ (by simp)).trans (heap_alloc_new w _)
  obtain ⟨W2, hW2⟩ : ∃ W2, W2 = w1.alloc (.cells #[.int .i64 0, .int .i64 (n : Int), .string ⟨#[]⟩, .int .i64 0, .int .i64 0] 46) := ⟨_, rfl⟩
  have y2 : W2.heap[w1.heap.size]? = some (.cells #[.int .i64 0, .int .i64 (n : Int), .string ⟨#[]⟩, .int .i64 0, .int .i64 0] 46 (0, 0)) := by rw [hW2]; exact heap_alloc_new w1 _
  have x2 : W2.heap[w.heap.size]? = some (.cells #[.int .i64 0, .int .i64 0, .string ⟨#[]⟩, .int .i64 0, .int .i64 0] 46 (0, 0)) := by rw [hW2]; exact (Below.heap_alloc w1 _ _ hs1).trans x1
  have hB2 : Below w.heap.size w W2 := by rw [hW2]; exact hB1.alloc (by omega) _
  obtain ⟨⟨c0, c1, c2, c3, c4⟩, f0, f1, f2, f3, f4⟩ := vfacts y2
  by_cases hlt : i < s.size
  all_goals
    first | have hq := h58 hlt | skip
    clear h58
    go_wp2_with fail
    try rw [← hW2]
    refine (vright_int (n : Int) W2).mono ?_
    rintro e w6 ⟨⟨q, rfl, hq2⟩, hb6⟩
    obtain rfl := hq2 (by omega)
    have hs6 := (Array.getElem?_eq_some_iff.1 x2).1
    have hs7 := (Array.getElem?_eq_some_iff.1 y2).1
    have x6 := (hb6.block _ hs6).trans x2
    have y6 := (hb6.block _ hs7).trans y2
    have hB6 : Below w.heap.size w w6 := hB2.trans (hb6.mono hB2.size)
    obtain ⟨⟨e0, e1, e2, e3, e4⟩, d0, d1, d2, d3, d4⟩ := vfacts x6
    obtain ⟨⟨r0, r1, r2, r3, r4⟩, _⟩ := vfacts y6
    clear hq2
    go_wp2_with fail
    refine bodyPost_ret (results_ctt rfl _ _ w.heap.size 46 _ (0, 0) _ rfl (set5 x6 _ _ _ _ _) Try.underlying46 rfl (by kernel_rfl)) rfl ?_
    exact ⟨rfl, below5 hB6 (Nat.le_refl _) _ _ _ _ _⟩

set_option maxHeartbeats 1000000 in
theorem parse_ex (s : ByteArray) (n : Nat) (rest : List UInt8) (hs : s.size ≤ 1000000) (hd : s.data.toList = decL n ++ rest) (hr : Stops rest) (hn : n ≤ 2147483647) (w : World) :
    Calls Try.prog 29 #[.string s] w fun e w' => e = .returned (.tuple #[intV n, .int .i64 ((decL n).length : Nat), .int .i64 0]) ∧ Below w.heap.size w w' := by
  have HN := Lib.hid (numeric_ex s n rest hs hd hr hn)
  have hpos := decL_pos n
  have h0 : 0 < s.size := by
    have := congrArg List.length hd
    rw [List.length_append] at this
    have e : s.data.toList.length = s.size := by simp
    omega
  have hdig : (48 : Int) ≤ (s[0].toNat : Int) ∧ (s[0].toNat : Int) ≤ 57 := by
    have e1 : s.data.toList[0]? = some s[0] := by simp [h0]; rfl
    rw [hd, List.getElem?_append_left hpos] at e1
    have := decL_digits n s[0] (List.mem_of_getElem? e1)
    omega
  have hse := notEmpty h0
  have h34 : ((s[0].toNat : Int) == 34) = false := by rw [beq_eq_false_iff_ne]; omega
  have h45 : ((s[0].toNat : Int) == 45) = false := by rw [beq_eq_false_iff_ne]; omega
  have HD := Lib.hid (digit_yes _ hdig.1 hdig.2)
  have x0 := heap_alloc_new w (.cells #[.int .i64 0, .int .i64 0, .string ⟨#[]⟩, .int .i64 0, .int .i64 0] 46)
  clear hdig hd hr hpos
  unfold intV at *
  go_enter Try.func29, Try.ntmps29
  go_wp2_with fail
  refine (HD.out _).mono ?_
  rintro e w2 ⟨rfl, hb2⟩
  have hB2 : Below w.heap.size w w2 := ((Below.refl _ w).alloc (Nat.le_refl _) _).trans (hb2.mono (by simp))
  have x2 := (hb2.block _ (by simp)).trans x0
  obtain ⟨⟨e0, e1, e2, e3, e4⟩, g0, g1, g2, g3, g4⟩ := vfacts x2
  go_wp2_with fail
  refine (HN.out _).mono ?_
  rintro e w1 ⟨rfl, hb1⟩
  have hB : Below w.heap.size w w1 := hB2.trans (hb1.mono hB2.size)
  have x1 := (hb1.block _ (Array.getElem?_eq_some_iff.1 x2).1).trans x2
  obtain ⟨⟨c0, c1, c2, c3, c4⟩, f0, f1, f2, f3, f4⟩ := vfacts x1
  go_wp2_with fail
  refine bodyPost_ret (results_ctt rfl _ _ w.heap.size 46 _ (0, 0) _ rfl (set5 x1 _ _ _ _ _) Try.underlying46 rfl (by kernel_rfl)) rfl ?_
  exact ⟨rfl, below5 hB (Nat.le_refl _) _ _ _ _ _⟩

set_option maxHeartbeats 1000000 in
theorem numbered_ex (s : ByteArray) (c : UInt8) (n : Nat) (rest : List UInt8) (hs : s.size ≤ 1000000) (hd : s.data.toList = c :: (decL n ++ rest)) (hr : Stops rest) (hn : n ≤ 2147483647) (w : World) :
    Calls Try.prog 16 #[.string s, .int .u8 (c.toNat : Int)] w fun e w' => e = .returned (.tuple #[.int .i64 (n : Int), .string ⟨rest.toArray⟩, .bool true]) ∧ Below w.heap.size w w' := by
  have hsz : s.size = 1 + (decL n).length + rest.length := by
    have := congrArg List.length hd
    rw [List.length_cons, List.length_append] at this
    have e : s.data.toList.length = s.size := by simp
    omega
  have h0 : 0 < s.size := by omega
  have hse := notEmpty h0
  have hq : ((s[0].toNat : Nat) : Int) = (c.toNat : Int) := by
    have e1 : s.data.toList[0]? = some s[0] := by simp [h0]; rfl
    rw [hd] at e1
    simp only [List.getElem?_cons_zero, Option.some.injEq] at e1
    rw [e1]
  obtain ⟨t, ht⟩ : ∃ t, s.extract 1 s.size = t := ⟨_, rfl⟩
  have htl : t.data.toList = decL n ++ rest := by
    rw [← ht, ByteArray.data_extract, Array.toList_extract]
    simp only [List.extract]
    rw [hd, List.drop_one, List.tail_cons, List.take_of_length_le (by rw [List.length_append]; omega)]
  have htz : t.size = s.size - 1 := by rw [← ht, ByteArray.size_extract]; omega
  have HP := Lib.hid (parse_ex t n rest (by omega) htl hr hn)
  have hrest : ∀ k, k = 1 + (decL n).length → s.extract k s.size = ⟨rest.toArray⟩ := by
    intro k hk
    apply ByteArray.ext
    apply Array.toList_inj.1
    rw [ByteArray.data_extract, Array.toList_extract]
    simp only [List.extract]
    rw [hd, hk, Nat.add_comm 1, List.drop_succ_cons, List.drop_left, List.take_of_length_le (by omega)]
  obtain ⟨i, hii⟩ : ∃ i, i = (decL n).length := ⟨_, rfl⟩
  simp only [← hii] at HP hrest hsz
  obtain ⟨k, hk⟩ : ∃ k, k = 1 + i := ⟨_, rfl⟩
  have hex := hrest k hk
  have hwr : IntKind.i64.wrap (1 + (i : Int)) = (k : Int) := by rw [IntKind.wrap_i64]; omega
  have hk1 : (0 : Int) ≤ (k : Int) ∧ (k : Int) ≤ (s.size : Int) := by omega
  have HT := Lib.hid ht
  obtain ⟨R, hR⟩ : ∃ R : ByteArray, R = ⟨rest.toArray⟩ := ⟨_, rfl⟩
  rw [← hR] at hex ⊢
  clear hd hr hrest hii hk hsz htl hR
  unfold intV at *
  go_enter Try.func16, Try.ntmps16
  go_wp2_with fail
  refine (HP.out _).mono ?_
  rintro e w1 ⟨rfl, hb1⟩
  obtain ⟨W2, hW2⟩ : ∃ W2, W2 = w1.alloc (.cells #[.int .i64 0, .int .i64 (n : Int), .string ⟨#[]⟩, .int .i64 0, .int .i64 0] 46) := ⟨_, rfl⟩
  have y2 : W2.heap[w1.heap.size]? = some (.cells #[.int .i64 0, .int .i64 (n : Int), .string ⟨#[]⟩, .int .i64 0, .int .i64 0] 46 (0, 0)) := by rw [hW2]; exact heap_alloc_new w1 _
  have hB2 : Below w.heap.size w W2 := by rw [hW2]; exact hb1.alloc hb1.size _
  obtain ⟨⟨c0, c1, c2, c3, c4⟩, _⟩ := vfacts y2
  go_wp2_with fail
  try rw [← hW2]
  clear hW2
  refine wp_region_still_lit (by kernel_rfl) (by kernel_rfl) ?_
  repeat still_step
  refine wpStill_nil ?_
  go_wp2_with fail
  go_ret3
  exact ⟨rfl, hB2.drew⟩
end Go.Proofs.Ytkldkaahpicnmaa
