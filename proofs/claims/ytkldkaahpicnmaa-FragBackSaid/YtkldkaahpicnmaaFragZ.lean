/- A frame, opened. -/
import Derived.Test.YtkldkaahpicnmaaFragY
namespace Go.Proofs.Ytkldkaahpicnmaa
open Go.RowKit PFragNames
open Go.Proofs.YtkldkaahpicnmaaW.PrintWords

theorem open_seal (b : ByteArray) : openE (sealB b) = 0 ∧ openB (sealB b) = b := by
  have hs := sealB_size b
  have hl : (sealB b).data.toList = b.data.toList ++ fourL (sumN b.data.toList) := by
    unfold sealB
    rw [ByteArray.data_append, Array.toList_append]
  have hb : b.data.toList.length = b.size := by simp
  have h1 : openE (sealB b) = 0 := by
    unfold openE
    rw [if_neg (by omega), hs, Nat.add_sub_cancel, hl, ← hb, List.drop_left, List.take_left, if_pos rfl]
  refine ⟨h1, ?_⟩
  unfold openB
  rw [if_pos h1, hs, Nat.add_sub_cancel]
  apply ByteArray.ext
  apply Array.toList_inj.1
  rw [ByteArray.data_extract, Array.toList_extract]
  simp only [List.extract, Nat.sub_zero, List.drop_zero]
  rw [hl, ← hb, List.take_left]

theorem piece_eq (s : ByteArray) : (⟨s.data.toList.toArray⟩ : ByteArray) = s := by apply ByteArray.ext; apply Array.toList_inj.1; rfl

set_option maxHeartbeats 2000000 in
theorem fopen_right (a b c d : Nat) (piece body : ByteArray) (hok : okId a b c d = true) (hp : piece.size ≤ 2000) (hbody : body.data.toList = bodyL a b c d piece) (w : World) :
    Calls Try.prog 11 #[.string (sealB body)] w fun e w' => e = .returned (.tuple #[idV a b c d, .string piece, .int .i64 0]) ∧ Below w.heap.size w w' := by
  have hall : ∀ n ∈ [a, b, c, d], n ≤ 9007199254740991 := by
    have h0 := okId_all hok 0 _ rfl
    have h1 := okId_all hok 1 _ rfl
    have h2 := okId_all hok 2 _ rfl
    have h3 := okId_all hok 3 _ rfl
    intro n hn
    simp at hn
    omega
  have hbs : body.size ≤ 10000 := by
    have h1 := numsL_len [a, b, c, d] hall
    have h2 := numL_len 7 piece.data.toList.length (by rw [← size_len]; omega)
    rw [size_len, hbody]
    unfold bodyL
    rw [List.length_append, List.length_append]
    rw [← size_len] at *
    simp only [List.length_cons, List.length_nil] at h1
    omega
  have hos := open_seal body
  have hop := open_any (sealB body) (by rw [sealB_size]; omega) w.drew
  have HO := Lib.hid (fun W => open_any (sealB body) (by rw [sealB_size]; omega) W)
  rw [hos.1, hos.2] at HO
  clear hos hop
  obtain ⟨S, hS⟩ : ∃ S, S = sealB body := ⟨_, rfl⟩
  rw [← hS] at HO ⊢
  have HR := Lib.hid (right_any (a : Int) b c d)
  unfold idV at *
  clear hS
  go_enter Try.func11, Try.ntmps11
  go_wp2_with fail
  refine (HO.out _).mono ?_
  rintro e w1 ⟨rfl, hb1⟩
  have x1 := (hb1.block _ (by simp)).trans (heap_alloc_new w (.cells #[.int .i64 0, .int .i64 0, .int .i64 0, .int .i64 0] 26))
  have hB1 : Below w.heap.size w w1 := ((Below.refl _ w).alloc (Nat.le_refl _) _).trans (hb1.mono (by simp))
  have hl1 := (Array.getElem?_eq_some_iff.1 x1).1
  go_wp2_with fail
  refine (tnew_any body w1).mono ?_
  rintro e w2 ⟨rfl, ht2, hb2⟩
  have x2 := (hb2.block _ hl1).trans x1
  have hB2 := hB1.trans (hb2.mono hB1.size)
  have hid := ided_any w1.heap.size body 0 a b c d (numL piece.data.toList.length ++ piece.data.toList) w2 ht2 (Nat.zero_le _) (by omega) hbody (hall a (by simp)) (hall b (by simp)) (hall c (by simp)) (hall d (by simp))
  have HID := Lib.hid hid
  have hl2 := (Array.getElem?_eq_some_iff.1 x2).1
  clear hb1 hb2 hid ht2 x1
  go_wp2_with fail
  refine HID.out.mono ?_
  rintro e w3 ⟨rfl, ⟨q, ht3, hq3, hd3⟩, hc3⟩
  have x3 := (hc3.block _ hl2 (by omega)).trans x2
  have hB3 := hB2.trans (hc3.below hB2.size (fun i hi => by omega))
  obtain ⟨W4, hW4⟩ : ∃ W4, W4 = w3.alloc (.cells #[.int .i64 (a : Int), .int .i64 (b : Int), .int .i64 (c : Int), .int .i64 (d : Int)] 26) := ⟨_, rfl⟩
  have y4 : W4.heap[w3.heap.size]? = some (.cells #[.int .i64 (a : Int), .int .i64 (b : Int), .int .i64 (c : Int), .int .i64 (d : Int)] 26 (0, 0)) := by rw [hW4]; exact heap_alloc_new w3 _
  have hb4 : Below w3.heap.size w3 W4 := by rw [hW4]; exact (Below.refl _ _).alloc (Nat.le_refl _) _
  have ht4 := ht3.below hb4
  have hl3 := (Array.getElem?_eq_some_iff.1 x3).1
  have htl3 := ht3.lt
  have x4 := (hb4.block _ hl3).trans x3
  have hB4 := hB3.trans (hb4.mono hB3.size)
  have htx := ttext_any w1.heap.size body q piece.data.toList [] 1048576 W4 ht4 hq3 (by omega) (by rw [hd3]; simp) (by rw [← size_len]; omega) (by omega)
  have hdl := drop_len hd3 hq3
  rw [piece_eq, hdl] at htx
  have HTX := Lib.hid htx
  clear htx hdl hd3 hc3 ht3 hb4 x2 x3
  go_wp2_with (first | (rw [← hW4]; clear hW4))
  have htx := HTX.out
  have htx2 : Calls Try.prog 23 #[.pointer (some ⟨w1.heap.size, 0, none⟩), .int .i64 1048576] W4 _ := htx
  refine htx2.mono ?_
  rintro e w5 ⟨rfl, ht5, hc5⟩
  have hl4 := (Array.getElem?_eq_some_iff.1 y4).1
  have x5 := (hc5.block _ (Array.getElem?_eq_some_iff.1 x4).1 (by omega)).trans x4
  have y5 := (hc5.block _ hl4 (by omega)).trans y4
  have hB5 := hB4.trans (hc5.below hB4.size (fun i hi => by omega))
  clear htx htx2
  go_wp2_with fail
  refine (end_any _ body w5 ht5 (by omega)).mono ?_
  rintro e w6 ⟨rfl, hb6⟩
  have x6 := (hb6.block _ (Array.getElem?_eq_some_iff.1 x5).1).trans x5
  have y6 := (hb6.block _ (Array.getElem?_eq_some_iff.1 y5).1).trans y5
  have hB6 := hB5.trans (hb6.mono hB5.size)
  obtain ⟨⟨e0, e1, e2, e3⟩, _⟩ := ifacts y6
  go_wp2_with fail
  refine (HR.out _).mono ?_
  rintro e w7 ⟨rfl, hb7⟩
  rw [hok]
  have x7 := (hb7.block _ (Array.getElem?_eq_some_iff.1 x6).1).trans x6
  have y7 := (hb7.block _ (Array.getElem?_eq_some_iff.1 y6).1).trans y6
  have hB7 := hB6.trans (hb7.mono hB6.size)
  obtain ⟨⟨r0, r1, r2, r3⟩, _⟩ := ifacts y7
  obtain ⟨⟨c0, c1, c2, c3⟩, f0, f1, f2, f3⟩ := ifacts x7
  go_wp2_with fail
  obtain ⟨hr9, hc9⟩ := res_four (.int .i64 (a : Int)) (.int .i64 (b : Int)) (.int .i64 (c : Int)) (.int .i64 (d : Int)) x7
  obtain ⟨s0, s1, s2, s3⟩ := four_cells hr9
  exact bodyPost_ret (v := .tuple #[.agg #[.int .i64 (a : Int), .int .i64 (b : Int), .int .i64 (c : Int), .int .i64 (d : Int)], .string piece, .int .i64 0]) (by simp [results, Try.results11, go_sem, s0, s1, s2, s3]) rfl ⟨rfl, hB7.trans (hc9.below hB7.size (fun i hi => by omega))⟩
end Go.Proofs.Ytkldkaahpicnmaa
