/- The document's example for the net (awake), and the statement on the limit. -/
import Derived.Test.YtkcjhjoodincbaaNetC
namespace Go.Proofs.Ytkcjhjoodincbaa
open Go.RowKit

theorem NetStep.below {w w' : World} {b B : Nat} {v v' : Value} {l l' : List ByteArray} (hs : NetStep b v w w' v' l') (h : NetAt w b v l) (hB : B ≤ b) : Below B w w' :=
  hs.chg.below (by have := (Array.getElem?_eq_some_iff.1 h.at_).1; omega) (fun i hi => by
    rcases hi with hi | hi
    · omega
    · have := own_lt h.own i hi; omega)

def A1 : ByteArray := ⟨#[97]⟩
def B1 : ByteArray := ⟨#[98]⟩
def C1 : ByteArray := ⟨#[99]⟩

theorem strs_three (w : World) : StrsAt (w.alloc (.cells #[.string ⟨#[97]⟩, .string ⟨#[98]⟩, .string ⟨#[99]⟩] 9)) (.slice (some ⟨w.heap.size, 0, none⟩) 3 3) [A1, B1, C1] :=
  .mk 3 rfl (by simp) (by decide) fun j u hu => by
    have hj := (List.getElem?_eq_some_iff.1 hu).1
    simp only [World.cell?, heap_alloc_new]
    match j, hj, hu with
    | 0, _, hu => simp at hu; subst hu; rfl
    | 1, _, hu => simp at hu; subst hu; rfl
    | 2, _, hu => simp at hu; subst hu; rfl

set_option maxHeartbeats 1000000 in
theorem awake_any (w : World) : Calls Try.prog 8 #[] w fun e w' => e = .returned (.bool true) ∧ Below w.heap.size w w' := by
  have qa : (A1.toList == [97]) = true := by kernel_rfl
  have qc : (C1.toList == [99]) = true := by kernel_rfl
  go_enter Try.func8, Try.ntmps8
  go_wp2_with fail
  refine (new_any _).mono ?_
  rintro e w1 ⟨rfl, hn, hc1⟩
  obtain ⟨b, hb⟩ : ∃ b, b = w.heap.size := ⟨_, rfl⟩
  rw [← hb] at hn ⊢
  have hb1 : w.heap.size ≤ b := by omega
  have HB := Lib.hid hb
  clear hb
  go_wp2_with fail
  refine (send_any b _ [] _ [A1, B1, C1] _ (hn.alloc _) (strs_three w1) 3 (by simp)).mono ?_
  rintro e w2 ⟨rfl, v2, hs2⟩
  go_wp2_with fail
  refine (take_any b v2 [A1, B1, C1] (-1) _ hs2.at_ 2 (by simp) C1 rfl).mono ?_
  rintro e w3 ⟨rfl, v3, hs3⟩
  go_wp2_with fail
  refine (take_any b v3 [A1, B1] 0 _ hs3.at_ 0 (by simp) A1 rfl).mono ?_
  rintro e w4 ⟨rfl, v4, hs4⟩
  go_wp2_with fail
  go_ret
  refine ⟨rfl, ?_⟩
  have b1 := hc1.below (B := w.heap.size) (Nat.le_refl _) (fun i hi => hi.elim)
  have b2 := (hs2.below (hn.alloc _) hb1)
  have b3 := hs3.below hs2.at_ hb1
  have b4 := hs4.below hs3.at_ hb1
  exact (((b1.alloc b1.size _).trans b2).trans b3).trans b4

theorem twice_all (b : Nat) (v : Value) (l : List ByteArray) (n : Int) (w : World) (h : NetAt w b v l) (ok : Bool) (hok : ok = (decide (0 < l.length) && decide (l.length < 4096))) :
    Calls Try.prog 12 #[.pointer (some ⟨b, 0, none⟩), .int .i64 n] w fun e w' => e = .returned (.bool ok) ∧ ∃ v' l', NetStep b v w w' v' l' := by
  by_cases hl : 0 < l.length
  · have h1 := Int.emod_nonneg n (show (l.length : Int) ≠ 0 by omega)
    have h2 := Int.emod_lt_of_pos n (show (0 : Int) < (l.length : Int) by omega)
    refine (twice_any b v l n w h (n % (l.length : Int)).toNat (by omega) _ (List.getElem?_eq_getElem (by omega)) _ rfl _ rfl).mono ?_
    rintro e w' ⟨rfl, v', hs⟩
    exact ⟨by rw [hok]; simp [hl], v', _, hs⟩
  · obtain rfl : l = [] := List.length_eq_zero_iff.1 (by omega)
    refine (twice_none b v n w h).mono ?_
    rintro e w' ⟨rfl, rfl⟩
    exact ⟨by rw [hok]; simp, v, [], h, Chg.refl _ _, fun k hk => .inl hk⟩

theorem run_make_strs (n : Nat) (hn : n ≤ 5000) (W : World) : (Instr.makeSlice 27 (.int .i64 (n : Int)) (.int .i64 (n : Int))).run Try.prog W = .ok (.slice (some ⟨W.heap.size, 0, none⟩) n n) (W.alloc (.cells (madeCells #[.string ByteArray.empty] n) 9)) := by
  obtain ⟨i0, hi0, hz0, hz1, hz2⟩ := info_parts Try.info9
  have hr := run_make (P := Try.prog) W 27 9 i0 _ Try.underlying27 hi0 hz0 .i64 .i64 n n (by omega) (by omega) (by rw [hz2]; omega) (by omega)
  rw [hz1] at hr
  simpa [Value.cells] using hr

theorem strs_made (W : World) (n : Nat) (hn : n ≤ 5000) : StrsAt (W.alloc (.cells (madeCells #[.string ByteArray.empty] n) 9)) (.slice (some ⟨W.heap.size, 0, none⟩) n n) (List.replicate n ByteArray.empty) :=
  .mk n (by simp) (by simp) (by unfold maxLen; omega) fun j u hu => by
    have hj := (List.getElem?_eq_some_iff.1 hu).1
    rw [List.length_replicate] at hj
    rw [List.getElem?_replicate, if_pos hj] at hu
    injection hu with hu
    subst hu
    simp only [World.cell?, heap_alloc_new, madeCells]
    simp [hj, Nat.mod_one]

theorem tw_ok (n x y : Nat) (h : n = x + y) : (decide ((0 : Int) < (x : Int) + (y : Int)) && decide ((x : Int) + (y : Int) < 4096)) = (decide (0 < n) && decide (n < 4096)) := by
  subst h
  have e1 : ((0 : Int) < (x : Int) + (y : Int)) ↔ 0 < x + y := by omega
  have e2 : ((x : Int) + (y : Int) < 4096) ↔ x + y < 4096 := by omega
  rw [decide_eq_decide.2 e1, decide_eq_decide.2 e2]

set_option maxHeartbeats 1000000 in
theorem full_walk (a0 a1 : Int) (h0 : 0 ≤ a0) (h0' : a0 ≤ 65535) (h1 : 0 ≤ a1) (h1' : a1 ≤ 65535) (w : World) :
    Calls Try.prog 3 #[.int .u16 a0, .int .u16 a1] w fun e w' => e = .returned (.bool true) ∧ Below w.heap.size w w' := by
  obtain ⟨a, ha⟩ : ∃ a : Nat, (a : Int) = a0 % 5000 := ⟨(a0 % 5000).toNat, by omega⟩
  obtain ⟨b, hb⟩ : ∃ b : Nat, (b : Int) = a1 % 5000 := ⟨(a1 % 5000).toNat, by omega⟩
  have ha5 : a ≤ 5000 := by omega
  have hb5 : b ≤ 5000 := by omega
  obtain ⟨x, hx⟩ : ∃ x, x = min 4096 a := ⟨_, rfl⟩
  obtain ⟨y, hy⟩ : ∃ y, y = min (4096 - x) b := ⟨_, rfl⟩
  have HA := Lib.hid ha.symm
  have HB := Lib.hid hb.symm
  have hma := run_make_strs a ha5
  have hmb := run_make_strs b hb5
  clear ha hb
  go_enter Try.func3, Try.ntmps3
  go_wp2_with fail
  refine (awake_any _).mono ?_
  rintro e w1 ⟨rfl, hb1⟩
  go_wp2_with fail
  refine (new_any _).mono ?_
  rintro e w2 ⟨rfl, hn, hc⟩
  obtain ⟨p, hp⟩ : ∃ p, p = w1.heap.size := ⟨_, rfl⟩
  rw [← hp] at hn ⊢
  have hp1 : w.heap.size ≤ p := by have := hb1.size; omega
  have HP := Lib.hid hp
  clear hp
  simp only [HA.out, HB.out]
  have t1 : ((x : Int) == min (a : Int) 4096) = true := by rw [beq_iff_eq]; omega
  have t2 : ((y : Int) == min (b : Int) (4096 - (x : Int))) = true := by rw [beq_iff_eq]; omega
  have hx1 : x ≤ 4096 := by omega
  have hy1 : x + y ≤ 4096 := by omega
  have HX := Lib.hid hx
  have HY := Lib.hid hy
  clear hx hy
  go_wp2_with fail
  refine (send_any p _ [] _ _ _ (hn.alloc _) (strs_made w2 a ha5) x (by rw [HX.out]; simp)).mono ?_
  rintro e w3 ⟨rfl, v3, hs3⟩
  go_wp2_with fail
  have l3 : ([] ++ (List.replicate a ByteArray.empty).take x).length = x := by rw [HX.out]; simp
  refine (send_any p _ _ _ _ _ (hs3.at_.alloc _) (strs_made w3 b hb5) y (by rw [l3, HY.out]; simp)).mono ?_
  rintro e w4 ⟨rfl, v4, hs4⟩
  obtain ⟨L, hL⟩ : ∃ L, L = [] ++ (List.replicate a ByteArray.empty).take x ++ (List.replicate b ByteArray.empty).take y := ⟨_, rfl⟩
  rw [← hL] at hs4
  have hLl : L.length = x + y := by rw [hL, List.length_append, l3, HY.out]; simp
  have HL := Lib.hid hL
  have HLl := Lib.hid hLl
  have L3 := Lib.hid l3
  clear hL hLl l3
  go_wp2_with fail
  refine (len_any p v4 L _ hs4.at_).mono ?_
  rintro e w5 ⟨rfl, rfl⟩
  rw [HLl.out]
  have t3 : (((x + y : Nat) : Int) == (x : Int) + (y : Int)) = true := by rw [beq_iff_eq]; omega
  go_wp2_with fail
  refine (twice_all p v4 L 0 w4 hs4.at_ (decide ((0 : Int) < (x : Int) + (y : Int)) && decide ((x : Int) + (y : Int) < 4096)) (tw_ok _ _ _ HLl.out)).mono ?_
  rintro e w6 ⟨rfl, v6, l6, hs6⟩
  go_wp2_with fail
  all_goals
    go_ret
    refine ⟨rfl, ?_⟩
    have q2 := (hb1.trans (hc.below (B := w.heap.size) hb1.size (fun i hi => hi.elim)))
    have q3 := hs3.below (hn.alloc _) hp1
    have q4 := hs4.below (hs3.at_.alloc _) hp1
    have q6 := hs6.below hs4.at_ hp1
    have r3 := (q2.alloc q2.size _).trans q3
    exact ((r3.alloc r3.size _).trans q4).trans q6

end Go.Proofs.Ytkcjhjoodincbaa
