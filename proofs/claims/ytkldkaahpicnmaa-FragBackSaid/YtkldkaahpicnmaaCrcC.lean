/- The sum by which spoilt bytes are told, walked: Sum, bytes, Seal, Open. -/
import Derived.Test.YtkldkaahpicnmaaCrcB
import Derived.ShutString
import Derived.Lib.Hide
import Derived.Deep.RegionHeld3
namespace Go.Proofs.Ytkldkaahpicnmaa
open Go.RowKit

theorem sum_any (s : ByteArray) (hs : s.size ≤ 1000000000) (w : World) : Calls Try.prog 31 #[.string s] w fun e w' => e = .returned (.int .u32 ((sumN s.data.toList : Nat) : Int)) ∧ Below w.heap.size w w' := by
  have hm := more_any 0 (by decide) s hs w
  have e0 : (4294967295 - moreN (4294967295 - 0) s.data.toList : Nat) = sumN s.data.toList := rfl
  rw [e0] at hm
  have hm2 : Calls Try.prog 43 #[.int .u32 0, .string s] w fun e w' => e = .returned (.int .u32 ((sumN s.data.toList : Nat) : Int)) ∧ Below w.heap.size w w' := hm
  go_enter Try.func31, Try.ntmps31
  go_wp2_with fail
  refine hm2.mono ?_
  rintro e w1 ⟨rfl, hb1⟩
  go_wp2_with fail
  go_ret
  exact ⟨rfl, hb1⟩

theorem u8_nat (n : Nat) : ((UInt8.ofNat (n % 256)).toNat : Int) = ((n % 256 : Nat) : Int) := by rw [UInt8.toNat_ofNat']; omega

set_option maxHeartbeats 1000000 in
theorem bytes_any (n : Nat) (hn : n < 4294967296) (w : World) : Calls Try.prog 30 #[.int .u32 (n : Nat)] w fun e w' => e = .returned (.string ⟨(fourL n).toArray⟩) ∧ Below w.heap.size w w' := by
  have hcv : ∀ W : World, W.heap[w.heap.size]? = some (.cells #[.int .u8 ((n : Int) % 256), .int .u8 ((n : Int) / 256 % 256), .int .u8 ((n : Int) / 65536 % 256), .int .u8 ((n : Int) / 16777216)] 5 (0, 0)) → (convert 62 9 (.slice (some ⟨w.heap.size, 0, none⟩) 4 4)).run Try.prog W = .ok (.string ⟨(fourL n).toArray⟩) W := fun W hW => by
    have := run_convert_bytes_back (P := Try.prog) W 62 9 5 ⟨w.heap.size, 0, none⟩ 4 (fourL n) Try.underlying62 Try.underlying5 Try.underlying9 (fun j hj => by
      rw [Addr.add_lit, Nat.zero_add]
      simp only [World.cell?, hW, Option.isSome_none, Bool.false_eq_true, if_false]
      have hj4 : j < 4 := hj
      match j, hj4 with
      | 0, _ => simp only [fourL, List.getElem_cons_zero, u8_nat]; rfl
      | 1, _ => simp only [fourL, List.getElem_cons_succ, List.getElem_cons_zero, u8_nat]; rfl
      | 2, _ => simp only [fourL, List.getElem_cons_succ, List.getElem_cons_zero, u8_nat]; rfl
      | 3, _ =>
        simp only [fourL, List.getElem_cons_succ, List.getElem_cons_zero, u8_nat]
        have e : (n : Int) / 16777216 = ((n / 16777216 % 256 : Nat) : Int) := by omega
        rw [e]; rfl)
    exact this
  have hn2 : ((n : Nat) : Int) < 4294967296 := by omega
  obtain ⟨W1, hW1⟩ : ∃ W1, W1 = w.alloc (.cells #[.int .u8 ((n : Int) % 256), .int .u8 ((n : Int) / 256 % 256), .int .u8 ((n : Int) / 65536 % 256), .int .u8 ((n : Int) / 16777216)] 5) := ⟨_, rfl⟩
  have hcv1 := hcv W1 (by rw [hW1]; exact heap_alloc_new w _)
  have hbel : Below w.heap.size w W1 := by rw [hW1]; exact (Below.refl _ w).alloc (Nat.le_refl _) _
  clear hcv
  go_enter Try.func30, Try.ntmps30
  go_wp2_with (first | (rw [← hW1]; clear hW1))
  go_ret
  exact ⟨rfl, hbel⟩

/-- A sealed text's bytes. -/
def sealB (s : ByteArray) : ByteArray := s ++ ⟨(fourL (sumN s.data.toList)).toArray⟩
theorem sealB_size (s : ByteArray) : (sealB s).size = s.size + 4 := by unfold sealB; rw [ByteArray.size_append]; rfl

/-- The four bytes behind a text. -/
def sumB (s : ByteArray) : ByteArray := ⟨(fourL (sumN s.data.toList)).toArray⟩
theorem sumB_size (s : ByteArray) : (sumB s).size = 4 := rfl

theorem seal_any (s : ByteArray) (hs : s.size ≤ 1000000000) (w : World) : Calls Try.prog 18 #[.string s] w fun e w' => e = .returned (.string (sealB s)) ∧ Below w.heap.size w w' := by
  have hsm := Lib.hid (sum_any s hs w)
  have hby := Lib.hid (fun W => bytes_any _ (sumN_lt s.data.toList) W)
  have hq : ¬ (9223372036854775807 < s.size + (sumB s).size) := by rw [sumB_size]; omega
  have e1 : sealB s = s ++ sumB s := rfl
  have e2 : (⟨(fourL (sumN s.data.toList)).toArray⟩ : ByteArray) = sumB s := rfl
  rw [e1]
  rw [e2] at hby
  obtain ⟨nb, hnb⟩ : ∃ nb, sumB s = nb := ⟨_, rfl⟩
  rw [hnb] at hby hq ⊢
  clear hnb e1 e2
  go_enter Try.func18, Try.ntmps18
  go_wp2_with fail
  refine hsm.out.mono ?_
  rintro e w1 ⟨rfl, hb1⟩
  go_wp2_with fail
  refine (hby.out w1).mono ?_
  rintro e w2 ⟨rfl, hb2⟩
  go_wp2_with fail
  go_ret
  exact ⟨rfl, hb1.trans (hb2.mono hb1.size)⟩

def OldW (w W : World) : Prop := Below w.heap.size w W
theorem OldW.trans {w W W' : World} (h : OldW w W) (k : Below w.heap.size W W') : OldW w W' := Below.trans h k
theorem OldW.size {w W : World} (h : OldW w W) : w.heap.size ≤ W.heap.size := Below.size h

/-- What Open answers. -/
def openE (s : ByteArray) : Int := if s.size < 4 then 2 else if s.data.toList.drop (s.size - 4) = fourL (sumN (s.data.toList.take (s.size - 4))) then 0 else 7
def openB (s : ByteArray) : ByteArray := if openE s = 0 then s.extract 0 (s.size - 4) else ByteArray.empty

set_option maxHeartbeats 2000000 in
theorem open_any (s : ByteArray) (hs : s.size ≤ 1000000000) (w : World) : Calls Try.prog 20 #[.string s] w fun e w' => e = .returned (.tuple #[.string (openB s), .int .i64 (openE s)]) ∧ Below w.heap.size w w' := by
  by_cases h4 : s.size < 4
  · have e1 : openE s = 2 := by unfold openE; rw [if_pos h4]
    have e2 : openB s = ⟨#[]⟩ := by unfold openB; rw [e1]; rfl
    rw [e1, e2]
    go_enter Try.func20, Try.ntmps20
    go_wp2_with fail
    go_ret2
    exact ⟨rfl, Below.refl _ _⟩
  have hn : IntKind.i64.wrap ((s.size : Int) - 4) = ((s.size - 4 : Nat) : Int) := by rw [IntKind.wrap_i64]; omega
  have hb : (s.extract 0 (s.size - 4)).data.toList = s.data.toList.take (s.size - 4) := by
    rw [ByteArray.data_extract, Array.toList_extract]
    simp [List.extract]
  have hb2 : (s.extract (s.size - 4) s.size).data.toList = s.data.toList.drop (s.size - 4) := by
    rw [ByteArray.data_extract, Array.toList_extract]
    simp only [List.extract]
    rw [List.take_of_length_le (by simp)]
  have hbs : (s.extract 0 (s.size - 4)).size = s.size - 4 := by rw [ByteArray.size_extract]; omega
  have hsm : ∀ W, OldW w W → Calls Try.prog 31 #[.string (s.extract 0 (s.size - 4))] W fun e w' => e = .returned (.int .u32 ((sumN (s.data.toList.take (s.size - 4)) : Nat) : Int)) ∧ OldW w w' := fun W hW => by
    have := sum_any (s.extract 0 (s.size - 4)) (by omega) W
    rw [hb] at this
    exact this.mono fun e w' ⟨he, hbl⟩ => ⟨he, hW.trans (hbl.mono hW.size)⟩
  have hby : ∀ W, OldW w W → Calls Try.prog 30 #[.int .u32 ((sumN (s.data.toList.take (s.size - 4)) : Nat) : Int)] W fun e w' => e = .returned (.string ⟨(fourL (sumN (s.data.toList.take (s.size - 4)))).toArray⟩) ∧ OldW w w' := fun W hW =>
    (bytes_any _ (sumN_lt _) W).mono fun e w' ⟨he, hbl⟩ => ⟨he, hW.trans (hbl.mono hW.size)⟩
  have hw : OldW w w := Below.refl _ _
  have hwd : OldW w w.drew := ⟨rfl, rfl, rfl, Nat.le_refl _, fun _ _ => rfl⟩
  obtain ⟨B, hB⟩ : ∃ B : ByteArray, B = ⟨(fourL (sumN (s.data.toList.take (s.size - 4)))).toArray⟩ := ⟨_, rfl⟩
  rw [← hB] at hby
  have HSM := Lib.hid hsm
  have HBY := Lib.hid hby
  have hBl : B.data.toList = fourL (sumN (s.data.toList.take (s.size - 4))) := by rw [hB]
  clear hsm hby hbs hb hB
  by_cases heq : s.data.toList.drop (s.size - 4) = fourL (sumN (s.data.toList.take (s.size - 4)))
  · have e1 : openE s = 0 := by unfold openE; rw [if_neg h4, if_pos heq]
    have e2 : openB s = s.extract 0 (s.size - 4) := by unfold openB; rw [if_pos e1]
    rw [e1, e2]
    have hq : ((s.extract (s.size - 4) s.size).toList == B.toList) = true := by rw [ByteArray.toList_eq, ByteArray.toList_eq, hb2, heq, hBl]; simp
    clear heq hb2 hBl e1 e2
    go_enter Try.func20, Try.ntmps20
    go_wp2_with fail
    go_region_held3 (fun W' => OldW w W') (assumption)
      (first
        | (go_at_call 31; refine (HSM.out _ ?_).mono ?_; (assumption); rintro e w9 ⟨rfl, hp9⟩)
        | (go_at_call 30; refine (HBY.out _ ?_).mono ?_; (assumption); rintro e w9 ⟨rfl, hp9⟩))
    all_goals
      go_wp2_with fail
      go_ret2
      exact ⟨rfl, hp9⟩
  · have e1 : openE s = 7 := by unfold openE; rw [if_neg h4, if_neg heq]
    have e2 : openB s = ⟨#[]⟩ := by unfold openB; rw [e1]; rfl
    rw [e1, e2]
    have hq : ((s.extract (s.size - 4) s.size).toList == B.toList) = false := by
      rw [ByteArray.toList_eq, ByteArray.toList_eq, hb2, hBl]
      simpa using heq
    clear heq hb2 hBl e1 e2
    go_enter Try.func20, Try.ntmps20
    go_wp2_with fail
    go_region_held3 (fun W' => OldW w W') (assumption)
      (first
        | (go_at_call 31; refine (HSM.out _ ?_).mono ?_; (assumption); rintro e w9 ⟨rfl, hp9⟩)
        | (go_at_call 30; refine (HBY.out _ ?_).mono ?_; (assumption); rintro e w9 ⟨rfl, hp9⟩))
    all_goals
      go_wp2_with fail
      go_ret2
      exact ⟨rfl, hp9⟩
end Go.Proofs.Ytkldkaahpicnmaa
