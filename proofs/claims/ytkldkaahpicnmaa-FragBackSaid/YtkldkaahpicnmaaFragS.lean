/- A tape: New, Num, Text, End. -/
import Derived.Test.YtkldkaahpicnmaaFragR
import Derived.Deep.RegionHeld3
import Derived.Deep.QuietTactic
import Derived.BigQuiet
namespace Go.Proofs.Ytkldkaahpicnmaa
open Go.RowKit

theorem tnew_any (s : ByteArray) (w : World) : Calls Try.prog 21 #[.string s] w fun e w' => e = .returned (.pointer (some ⟨w.heap.size, 0, none⟩)) ∧ TapeAt w' w.heap.size s 0 ∧ Below w.heap.size w w' := by
  go_enter Try.func21, Try.ntmps21
  go_wp2_with fail
  go_ret
  exact ⟨rfl, heap_alloc_new w _, (Below.refl _ w).alloc (Nat.le_refl _) _⟩

theorem TapeAt.set {w : World} {t : Nat} {s : ByteArray} {p : Nat} (h : TapeAt w t s p) (q : Nat) : TapeAt (w.setCell ⟨t, 1, none⟩ (.int .i64 (q : Int))) t s q ∧ Chg (fun i => i = t) w (w.setCell ⟨t, 1, none⟩ (.int .i64 (q : Int))) := by
  refine ⟨?_, (Chg.refl (fun i => i = t) w).setCell (p := ⟨t, 1, none⟩) (.inl rfl) _⟩
  unfold TapeAt at *
  simp [World.setCell, Array.getElem?_modify, h]
theorem chg_below {w w1 w2 : World} {t : Nat} (h : Below w.heap.size w w1) (hc : Chg (fun i => i = t) w1 w2) : Chg (fun i => i = t) w w2 :=
  ⟨hc.os.trans h.os, hc.tape.trans h.tape, hc.output.trans h.output, Nat.le_trans h.size hc.size, fun k hk hn => (hc.block k (Nat.lt_of_lt_of_le hk h.size) hn).trans (h.block k hk)⟩

theorem end_any (t : Nat) (s : ByteArray) (w : World) (h : TapeAt w t s s.size) (hs : s.size ≤ 2000000) :
    Calls Try.prog 24 #[.pointer (some ⟨t, 0, none⟩)] w fun e w' => e = .returned (.bool true) ∧ Below w.heap.size w w' := by
  have hl := left_any t s s.size w h (Nat.le_refl _) hs
  rw [Nat.sub_self] at hl
  go_enter Try.func24, Try.ntmps24
  go_wp2_with fail
  refine hl.mono ?_
  rintro e w1 ⟨rfl, hb1⟩
  go_wp2_with fail
  go_ret
  exact ⟨rfl, hb1⟩

theorem drop_len {s : ByteArray} {p : Nat} {l rest : List UInt8} (h : s.data.toList.drop p = l ++ rest) (hp : p ≤ s.size) : p + l.length + rest.length = s.size := by
  have := congrArg List.length h
  rw [List.length_drop, List.length_append] at this
  have e : s.data.toList.length = s.size := by simp
  omega

set_option maxHeartbeats 1000000 in
theorem tnum_any (t : Nat) (s : ByteArray) (p n : Nat) (rest : List UInt8) (w : World) (h : TapeAt w t s p) (hp : p ≤ s.size) (hs : s.size ≤ 2000000) (hd : s.data.toList.drop p = numL n ++ rest) (hn : n ≤ 9007199254740991) :
    Calls Try.prog 32 #[.pointer (some ⟨t, 0, none⟩)] w fun e w' => e = .returned (.tuple #[.int .i64 (n : Int), .int .i64 0]) ∧ TapeAt w' t s (p + (numL n).length) ∧ Chg (fun i => i = t) w w' := by
  have hpk := peek_any t s p n rest w h hp hs hd hn
  have hdl := drop_len hd hp
  obtain ⟨L, hL⟩ : ∃ L, L = (numL n).length := ⟨_, rfl⟩
  rw [← hL] at hpk hdl ⊢
  obtain ⟨q, hq⟩ : ∃ q, q = p + L := ⟨_, rfl⟩
  rw [← hq]
  have hadd2 : (p : Int) + (L : Int) = (q : Int) := by omega
  have hq1 : q ≤ 2000000 := by omega
  clear hd hL hq
  go_enter Try.func32, Try.ntmps32
  go_wp2_with fail
  refine hpk.mono ?_
  rintro e w1 ⟨rfl, hb1⟩
  have h1 := h.below hb1
  obtain ⟨c0, c1, f0, f1⟩ := h1.cells
  obtain ⟨k1, k2⟩ := h1.set q
  have K1 := Lib.hid k1
  have K2 := Lib.hid (chg_below hb1 k2)
  clear k1 k2
  go_wp2_with fail
  go_ret2
  exact ⟨rfl, K1.out, K2.out⟩

set_option maxHeartbeats 2000000 in
theorem ttext_any (t : Nat) (s : ByteArray) (p : Nat) (k : List UInt8) (rest : List UInt8) (most : Nat) (w : World) (h : TapeAt w t s p) (hp : p ≤ s.size) (hs : s.size ≤ 2000000) (hd : s.data.toList.drop p = numL k.length ++ k ++ rest) (hk : k.length ≤ most) (hm : most ≤ 2000000) :
    Calls Try.prog 23 #[.pointer (some ⟨t, 0, none⟩), .int .i64 (most : Int)] w fun e w' => e = .returned (.tuple #[.string ⟨k.toArray⟩, .int .i64 0]) ∧ TapeAt w' t s (p + (numL k.length).length + k.length) ∧ Chg (fun i => i = t) w w' := by
  rw [List.append_assoc] at hd
  have hpk := peek_any t s p k.length (k ++ rest) w h hp hs hd (by omega)
  have hdl := drop_len hd hp
  rw [List.length_append] at hdl
  have hsl : ∀ q r, q = p + (numL k.length).length → r = q + k.length → s.extract q r = ⟨k.toArray⟩ := by
    intro q r e1 e2
    apply ByteArray.ext
    apply Array.toList_inj.1
    rw [ByteArray.data_extract, Array.toList_extract]
    simp only [List.extract]
    have e3 : s.data.toList.drop q = k ++ rest := by
      rw [e1, ← List.drop_drop, hd, List.drop_left]
    have e4 : r - q = k.length := by omega
    rw [e3, e4, List.take_left]
  obtain ⟨L, hL⟩ : ∃ L, L = (numL k.length).length := ⟨_, rfl⟩
  rw [← hL] at hpk hdl hsl ⊢
  obtain ⟨n, hnn⟩ : ∃ n, n = k.length := ⟨_, rfl⟩
  rw [← hnn] at hpk hdl hsl hk ⊢
  obtain ⟨q, hq⟩ : ∃ q, q = p + L := ⟨_, rfl⟩
  obtain ⟨r, hr⟩ : ∃ r, r = q + n := ⟨_, rfl⟩
  have hslice := hsl q r hq hr
  rw [← hq, ← hr]
  have hadd2 : (p : Int) + (L : Int) = (q : Int) := by omega
  have hadd3 : (q : Int) + (n : Int) = (r : Int) := by omega
  have hq1 : q ≤ 2000000 := by omega
  have hr1 : r ≤ s.size := by omega
  have hqr : q ≤ r := by omega
  have hleft : ¬ (((s.size - p : Nat) : Int) - (L : Int) < (n : Int)) := by omega
  have hkm : ¬ ((most : Int) < (n : Int)) := by omega
  obtain ⟨K, hK⟩ : ∃ K : ByteArray, K = ⟨k.toArray⟩ := ⟨_, rfl⟩
  rw [← hK] at hslice ⊢
  clear hd hL hq hr hsl hnn hK
  go_enter Try.func23, Try.ntmps23
  go_wp2_with fail
  refine hpk.mono ?_
  rintro e w1 ⟨rfl, hb1⟩
  have h1 := h.below hb1
  have hl := left_any t s p w1 h1 hp hs
  go_wp2_with fail
  refine hl.mono ?_
  rintro e w2 ⟨rfl, hb2⟩
  have h2 := h1.below hb2
  obtain ⟨c0, c1, f0, f1⟩ := h2.cells
  obtain ⟨k1, k2⟩ := h2.set r
  obtain ⟨d0, d1, _⟩ := k1.cells
  have K1 := Lib.hid k1
  have K2 := Lib.hid (chg_below (hb1.trans (hb2.mono hb1.size)) k2)
  clear k1 k2
  go_wp2_with fail
  go_quiet (fail)
  go_wp2_with fail
  go_ret2
  exact ⟨rfl, K1.out, K2.out.drewN nq⟩

end Go.Proofs.Ytkldkaahpicnmaa
