/- The sum by which spoilt bytes are told, walked: Table. -/
import Derived.Test.YtkldkaahpicnmaaCrcA
import Derived.Test.YtkldkaahpicnmaaRows
import Derived.Test.YtkldkaahpicnmaaGen
import Derived.Laws.Rows
import Derived.Laws.Tables
import Derived.Laws.CopyOwn
import Derived.Outline
namespace Go.Proofs.Ytkldkaahpicnmaa
open Go.RowKit

theorem wp_scope_goto {P : Program} {c K : Code} {a : Act} {w : World} {Q : Exit → Act → World → Prop} (l : Nat) (J : Act → World → Prop) (μ : Act → World → Nat) (hf : findLabel c l = some (.seq .skip K))
    (pass : ∀ a w, J a w → K.wp P (Exit.jump l (fun a' w' => J a' w' ∧ μ a' w' < μ a w) Q) a w)
    (first : (∀ a w, J a w → K.wp P (Exit.jump l J Q) a w) → c.wp P (Exit.jump l J Q) a w) : (Code.scope c).wp P Q a w := by
  refine wp_scope_jumps l J μ hf (first fun a w h => ?_) (fun a w h => wp_seq (wp_skip (pass a w h)))
  intro b k cs
  obtain ⟨e, a₁, w₁, hq, harr⟩ := pass a w h b k cs
  refine ⟨e, a₁, w₁, ?_, harr⟩
  cases e with
  | goto l' =>
    simp only [Exit.jump] at hq ⊢
    exact ⟨hq.1, hq.2.1⟩
  | normal => exact hq
  | exit _ => exact hq
  | ret => exact hq
  | panic _ => exact hq
  | outgrown => exact hq

def Z256 : Array Value := Array.replicate 256 (Value.int .u32 0)
theorem zeroArr (w : World) : (zeroValue 90).run Try.prog w = .ok (.agg Z256) w := by kernel_rfl

/-- The table so far. -/
def tabRow (i : Nat) : List Value := ((List.range i).map fun j => Value.int .u32 (tabN j : Nat)) ++ List.replicate (256 - i) (Value.int .u32 0)
theorem tabRow_len {i : Nat} (h : i ≤ 256) : (tabRow i).length = 256 := by simp [tabRow]; omega
theorem tabRow_zero : (tabRow 0).toArray = Z256 := by
  unfold tabRow Z256
  rw [List.range_zero]
  exact List.toArray_replicate ..
theorem tabRow_set {i : Nat} (h : i < 256) : (tabRow i).set i (Value.int .u32 (tabN i : Nat)) = tabRow (i + 1) := by
  unfold tabRow
  rw [List.set_append_right _ _ (by simp), List.range_succ, List.map_append, List.append_assoc]
  congr 1
  obtain ⟨m, hm⟩ : ∃ m, 256 - i = m + 1 := ⟨255 - i, by omega⟩
  have hm2 : 256 - (i + 1) = m := by omega
  rw [hm, hm2, List.replicate_succ]
  simp

def TabA (B i : Nat) (a : Act) : Prop := ∃ u3 u4 u5 u6 u7 u8 u9 u10 u11 u12 u13 u14 u15 u16 u17 u18 u19 u20 u21 u22 u23 u24 : Value, a = ⟨#[.pointer (some ⟨B, 0, none⟩), .pointer (some ⟨B + 1, 0, none⟩), .int .i64 (i : Nat), u3, u4, u5, u6, u7, u8, u9, u10, u11, u12, u13, u14, u15, u16, u17, u18, u19, u20, u21, u22, u23, u24], []⟩
structure TabJ (w : World) (i : Nat) (w' : World) : Prop where
  res : w'.heap[w.heap.size]? = some (.cells Z256 90 (0, 0))
  row : w'.heap[w.heap.size + 1]? = some (.cells (tabRow i).toArray 90 (0, 0))
  lt : i < 256
  bel : Below w.heap.size w w'

theorem tab_row {w w' : World} {i x : Nat} (h : TabJ w i w') (hx : x = tabN i) : (w'.setCell ⟨w.heap.size + 1, i, none⟩ (.int .u32 (x : Nat))).heap[w.heap.size + 1]? = some (.cells (tabRow (i + 1)).toArray 90 (0, 0)) := by
  rw [heap_setCell_same _ _ _ _ _ _ h.row, ← tabRow_set h.lt, hx]
  simp
theorem tab_next {w w' : World} {i x : Nat} (h : TabJ w i w') (hx : x = tabN i) (hi : i + 1 < 256) : TabJ w (i + 1) (w'.setCell ⟨w.heap.size + 1, i, none⟩ (.int .u32 (x : Nat))) :=
  ⟨(Below.heap_setCell w' ⟨w.heap.size + 1, i, none⟩ _ _ (by simp)).trans h.res, tab_row h hx, hi, h.bel.setCell (p := ⟨w.heap.size + 1, i, none⟩) (by simp) _⟩
theorem tab_ok (i : Nat) : (tabRow i).toArray.all (·.oneCell') = true := by
  rw [List.all_toArray, List.all_eq_true]
  intro v hv
  unfold tabRow at hv
  rcases List.mem_append.1 hv with hv | hv
  · obtain ⟨j, _, rfl⟩ := List.mem_map.1 hv
    rfl
  · rw [List.eq_of_mem_replicate hv]; rfl

set_option maxRecDepth 100000 in
set_option maxHeartbeats 2000000 in
theorem table_any (w : World) : Calls Try.prog 48 #[] w fun e w' => e = .returned (.agg (tabRow 256).toArray) ∧ Below w.heap.size w w' := by
  have hz := zeroArr
  go_enter Try.func48, Try.ntmps48
  go_wp2_with fail
  refine wp_scope_goto 0 (fun a' w' => ∃ i, TabA w.heap.size i a' ∧ TabJ w i w') (fun a' _ => 256 - (intOf (a'.tmps.getD 2 undef)).toNat) rfl ?_ ?_
  · rintro a' w' ⟨i, hA, hJ⟩
    unfold TabA at hA
    obtain ⟨u3, hA⟩ := hA
    obtain ⟨u4, hA⟩ := hA
    obtain ⟨u5, hA⟩ := hA
    obtain ⟨u6, hA⟩ := hA
    obtain ⟨u7, hA⟩ := hA
    obtain ⟨u8, hA⟩ := hA
    obtain ⟨u9, hA⟩ := hA
    obtain ⟨u10, hA⟩ := hA
    obtain ⟨u11, hA⟩ := hA
    obtain ⟨u12, hA⟩ := hA
    obtain ⟨u13, hA⟩ := hA
    obtain ⟨u14, hA⟩ := hA
    obtain ⟨u15, hA⟩ := hA
    obtain ⟨u16, hA⟩ := hA
    obtain ⟨u17, hA⟩ := hA
    obtain ⟨u18, hA⟩ := hA
    obtain ⟨u19, hA⟩ := hA
    obtain ⟨u20, hA⟩ := hA
    obtain ⟨u21, hA⟩ := hA
    obtain ⟨u22, hA⟩ := hA
    obtain ⟨u23, hA⟩ := hA
    obtain ⟨u24, hA⟩ := hA
    subst hA
    have hi := hJ.lt
    have HJ := Lib.hid hJ
    have hcell : w'.cell? ⟨w.heap.size + 1, i, none⟩ = some (.int .u32 0) := by
      rw [cell_of_row _ _ _ _ _ _ hJ.row]
      rw [List.getElem?_toArray]
      unfold tabRow
      rw [List.getElem?_append_right (by simp), List.getElem?_replicate, if_pos (by simp; omega)]
    have hfree : w'.frozen? ⟨w.heap.size + 1, i, none⟩ = false := frozen_of_row _ _ _ _ _ hJ.row
    clear hJ
    go_wp2_with fail
    go_loop [3, 6] (fun x k => ∃ n : Nat, n ≤ 8 ∧ k = .int .i64 n ∧ x = .int .u32 (stepsN n i : Nat)) (fun _ k => 8 - (intOf k).toNat)
    case atStart => exact ⟨0, by omega, rfl, by go_num⟩
    case round =>
      obtain ⟨n, hn, rfl, rfl⟩ := hrel
      have hx : stepsN n i < 4294967296 := stepsN_lt n (by omega)
      have hs : stepsN (n + 1) i = stepN (stepsN n i) := rfl
      obtain ⟨x, hxx⟩ : ∃ x, x = stepsN n i := ⟨_, rfl⟩
      rw [← hxx] at hx hs
      have HXX := Lib.hid hxx
      by_cases hlt : n < 8
      · have hand : bits .and .u32 (x : Int) 1 = ((x % 2 : Nat) : Int) := by
          have := u32_and_nat x 1 hx (by decide)
          rw [Nat.and_one_is_mod] at this
          exact this
        have hxor : bits .xor .u32 ((x : Int) / 2) 3988292384 = (((x / 2) ^^^ 3988292384 : Nat) : Int) := by
          have := u32_xor_nat (x / 2) 3988292384 (by omega) (by decide)
          rw [Int.natCast_ediv] at this
          exact this
        rw [← hxx]
        by_cases hod : x % 2 = 1
        · have hst : stepN x = (x / 2) ^^^ 3988292384 := by unfold stepN; rw [if_pos hod]
          rw [hst] at hs
          have HS := Lib.hid hs
          rw [hod] at hand
          clear hxx hs hst
          go_wp2_with fail
          go_round
          case rel => exact ⟨n + 1, by omega, by go_num, by first | (rw [HS.out]; done) | (rw [HS.out]; go_num)⟩
          case measure => simp [intOf]; omega
        · have hst : stepN x = x / 2 := by unfold stepN; rw [if_neg hod]
          rw [hst] at hs
          have HS := Lib.hid hs
          have h0 : x % 2 = 0 := by omega
          rw [h0] at hand
          clear hxx hs hst hxor
          go_wp2_with fail
          go_round
          case rel => exact ⟨n + 1, by omega, by go_num, by first | (rw [HS.out]; done) | (rw [HS.out]; go_num)⟩
          case measure => simp [intOf]; omega
      · obtain rfl : n = 8 := by omega
        have hxt : x = tabN i := hxx
        have HXT := Lib.hid hxt
        rw [← hxx]
        clear hxx hs hxt
        by_cases hlast : i + 1 < 256
        · go_wp2_with fail
          go_step3
          refine ⟨rfl, ⟨i + 1, ?fr, ?j⟩, ?_⟩
          case fr => unfold TabA; (repeat apply Exists.intro); rfl
          case j => exact tab_next HJ.out HXT.out hlast
          · simp [intOf]; omega
        · obtain rfl : i = 255 := by omega
          have hrow := tab_row HJ.out HXT.out
          obtain ⟨W2, hW2⟩ : ∃ W2, W2 = w'.setCell ⟨w.heap.size + 1, 255, none⟩ (.int .u32 (x : Nat)) := ⟨_, rfl⟩
          rw [← hW2] at hrow
          have hres : W2.heap[w.heap.size]? = some (.cells Z256 90 (0, 0)) := by
            rw [hW2]
            exact (Below.heap_setCell w' ⟨w.heap.size + 1, 255, none⟩ _ _ (by simp)).trans HJ.out.res
          have hbel : Below w.heap.size w W2 := by
            rw [hW2]
            exact HJ.out.bel.setCell (p := ⟨w.heap.size + 1, 255, none⟩) (by simp) _
          have HB := Lib.hid hbel
          have hall := tab_ok 256
          have hsz1 : (tabRow 256).toArray.size = 256 := by rw [List.size_toArray]; exact tabRow_len (by omega)
          clear hbel
          go_wp2_with (first
            | (rw [← hW2]; clear hW2)
            | (refine wpList_load_row rfl 90 (.tmp 1) rfl (w.heap.size + 1) rfl 90 (tabRow 256).toArray (0, 0) _ hrow Try.underlying90 rfl ?_ ?_; (rw [hsz1]; kernel_rfl))
            | (refine wpList_store_row rfl 90 (.tmp 0) (.tmp 24) rfl w.heap.size (tabRow 256).toArray rfl rfl 90 Z256 hres ?_ ?_ hall ?_; (rw [hsz1]; kernel_rfl); (rw [hsz1]; exact Array.size_replicate ..)))
          simp only [Exit.jump]
          exact bodyPost_ret (results_cell_row rfl _ _ w.heap.size 90 (tabRow 256).toArray (0, 0) _ rfl (setRow_heap W2 w.heap.size Z256 (tabRow 256).toArray _ _ hres) Try.underlying90 rfl (by rw [hsz1]; kernel_rfl)) rfl ⟨rfl, below_setRow HB.out (Nat.le_refl _) _⟩
  · intro HP
    go_wp2_with fail
    go_step3
    rename_i hKK
    refine hKK _ _ (HP _ _ ?_)
    refine ⟨0, ?fr, ?j⟩
    case fr => unfold TabA; (repeat apply Exists.intro); rfl
    case j =>
      have e1 : (w.alloc (.cells Z256 90)).heap.size = w.heap.size + 1 := by simp
      exact ⟨by rw [Below.heap_alloc _ _ _ (by simp)]; exact heap_alloc_new w _, by rw [← e1, tabRow_zero]; exact heap_alloc_new _ _, by omega, ((Below.refl _ w).alloc (Nat.le_refl _) _).alloc (by simp) _⟩

theorem tab_at {w : World} {g j : Nat} {t : TypeId} (h : w.heap[g]? = some (.cells (tabRow 256).toArray t (0, 0))) (hj : j < 256) : w.cell? ⟨g, j, none⟩ = some (.int .u32 (tabN j : Nat)) := by
  rw [cell_of_row _ _ _ _ _ _ h, List.getElem?_toArray]
  unfold tabRow
  rw [List.getElem?_append_left (by simpa using hj), List.getElem?_map, List.getElem?_range hj]
  rfl

set_option maxRecDepth 100000 in
set_option maxHeartbeats 2000000 in
theorem more_any (x0 : Nat) (hx0 : x0 < 4294967296) (s : ByteArray) (hs : s.size ≤ 1000000000) (w : World) : Calls Try.prog 43 #[.int .u32 (x0 : Nat), .string s] w fun e w' => e = .returned (.int .u32 ((4294967295 - moreN (4294967295 - x0) s.data.toList : Nat) : Int)) ∧ Below w.heap.size w w' := by
  have hz := zeroArr
  have hall := tab_ok 256
  have hsz1 : (tabRow 256).toArray.size = 256 := by rw [List.size_toArray]; exact tabRow_len (by omega)
  go_enter Try.func43, Try.ntmps43
  go_wp2_with fail
  refine (table_any w).mono ?_
  rintro e w1 ⟨rfl, hb1⟩
  have hold := heap_alloc_new w1 (.cells Z256 90)
  go_wp2_with (first
    | (refine wpList_store_row rfl 90 (.tmp 5) (.tmp 8) rfl w1.heap.size (tabRow 256).toArray rfl rfl 90 Z256 hold ?_ ?_ hall ?_; (rw [hsz1]; kernel_rfl); (rw [hsz1]; exact Array.size_replicate ..)))
  obtain ⟨W2, hW2⟩ : ∃ W2, W2 = (w1.alloc (.cells Z256 90)).setRow w1.heap.size (tabRow 256).toArray := ⟨_, rfl⟩
  rw [← hW2]
  have hrow : W2.heap[w1.heap.size]? = some (.cells (tabRow 256).toArray 90 (0, 0)) := by rw [hW2]; exact setRow_heap _ _ _ _ _ _ hold
  have hbel : Below w.heap.size w W2 := by rw [hW2]; exact below_setRow (hb1.alloc hb1.size _) hb1.size _
  have HB := Lib.hid hbel
  have HR := Lib.hid hrow
  clear hW2 hold hrow hbel
  go_loop [6, 13] (fun x k => ∃ n : Nat, n ≤ s.size ∧ k = .int .i64 n ∧ x = .int .u32 (moreN (4294967295 - x0) (s.data.toList.take n) : Nat)) (fun _ k => s.size - (intOf k).toNat)
  case atStart => exact ⟨0, by omega, rfl, by
    rw [IntKind.max_u32, bits_ones hx0]
    rfl⟩
  case round =>
    obtain ⟨n, hn, rfl, rfl⟩ := hrel
    have hx : moreN (4294967295 - x0) (s.data.toList.take n) < 4294967296 := moreN_lt _ (by omega)
    obtain ⟨x, hxx⟩ : ∃ x, x = moreN (4294967295 - x0) (s.data.toList.take n) := ⟨_, rfl⟩
    rw [← hxx] at hx ⊢
    have HXX := Lib.hid hxx
    by_cases hlt : n < s.size
    · have hst : moreN (4294967295 - x0) (s.data.toList.take (n + 1)) = tabN ((x % 256) ^^^ s[n].toNat) ^^^ (x / 256) := by
        have hb : s.data.toList[n]? = some s[n] := by simp [hlt]; rfl
        rw [List.take_add_one, hb, hxx]
        exact moreN_snoc _ _ _
      have hj := xor8_lt x s[n]
      have hb256 := s[n].toNat_lt
      have hx8 : bits .xor .u8 ((x : Int) % 256) (s[n].toNat : Int) = (((x % 256) ^^^ s[n].toNat : Nat) : Int) := by
        have := u8_xor ((x : Int) % 256) (s[n].toNat : Int) (by omega) (by omega) (by omega) (by omega)
        rw [this]
        congr 1
      obtain ⟨j, hjj⟩ : ∃ j, j = (x % 256) ^^^ s[n].toNat := ⟨_, rfl⟩
      rw [← hjj] at hj hx8 hst
      have hcell := tab_at HR.out hj
      have ht := tabN_lt (j := j) (by omega)
      obtain ⟨T, hT⟩ : ∃ T, T = tabN j := ⟨_, rfl⟩
      rw [← hT] at hcell ht hst
      have hx32 : bits .xor .u32 (T : Int) ((x : Int) / 256) = ((T ^^^ (x / 256) : Nat) : Int) := by
        have := u32_xor_nat T (x / 256) ht (by omega)
        rw [Int.natCast_ediv] at this
        exact this
      have HS := Lib.hid hst
      clear hxx hst hjj hT
      go_wp2_with fail
      go_round
      case rel => exact ⟨n + 1, by omega, by go_num, by rw [HS.out]⟩
      case measure => simp [intOf]; omega
    · obtain rfl : n = s.size := by omega
      clear hxx
      go_wp2_with fail
      go_ret
      refine ⟨?_, HB.out⟩
      have e1 : s.data.toList.take s.size = s.data.toList := by rw [show s.size = s.data.toList.length by simp]; exact List.take_length
      rw [IntKind.max_u32, bits_ones hx, HXX.out, e1]
      rfl

end Go.Proofs.Ytkldkaahpicnmaa
