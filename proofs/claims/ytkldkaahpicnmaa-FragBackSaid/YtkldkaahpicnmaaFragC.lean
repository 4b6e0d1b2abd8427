/- An id's name. -/
import Derived.Test.YtkldkaahpicnmaaFragB
import Derived.Deep.RegionLaw
namespace Go.Proofs.Ytkldkaahpicnmaa
open Go.RowKit PFragNames

def letterB (k : Nat) : ByteArray := (⟨#[116, 97, 112, 102]⟩ : ByteArray).extract k (k + 1)
/-- The name of the first k numbers. -/
def nameUpto (l : List Int) : Nat → ByteArray
  | 0 => ⟨#[]⟩
  | k + 1 => nameUpto l k ++ (letterB k ++ decB (l.getD k 0).toNat)

theorem letterB_size (k : Nat) (h : k < 4) : (letterB k).size = 1 := by
  unfold letterB
  rw [ByteArray.size_extract]
  show min (k + 1) 4 - k = 1
  omega

theorem nameUpto_size (l : List Int) (h : ∀ n ∈ l, 0 ≤ n ∧ n ≤ 2147483647) : ∀ k, k ≤ 4 → (nameUpto l k).size ≤ k * 20
  | 0, _ => Nat.le_refl _
  | k + 1, hk => by
    have ih := nameUpto_size l h k (by omega)
    have hd : (l.getD k 0).toNat < 10 ^ (10 + 1) := by
      rw [List.getD_eq_getElem?_getD]
      cases hn : l[k]? with
      | none => simp
      | some n => have := h n (List.mem_of_getElem? hn); simp; omega
    have h1 := decB_size 10 _ hd
    have h2 := letterB_size k (by omega)
    unfold nameUpto
    rw [ByteArray.size_append, ByteArray.size_append]
    omega

theorem okId_all {a b c d : Int} (h : okId a b c d = true) (k : Nat) (n : Int) (hn : [a, b, c, d][k]? = some n) : 0 ≤ n ∧ n ≤ 2147483647 := by
  simp [okId, beyond] at h
  match k, hn with
  | 0, hn => cases hn; omega
  | 1, hn => cases hn; omega
  | 2, hn => cases hn; omega
  | 3, hn => cases hn; omega

def idCells (a b c d : Int) : Obj := .cells #[.int .i64 a, .int .i64 b, .int .i64 c, .int .i64 d] 26

theorem icells {W : World} {g : Nat} {a b c d : Int} (h : W.heap[g]? = some (.cells #[.int .i64 a, .int .i64 b, .int .i64 c, .int .i64 d] 26 (0, 0))) :
    W.cell? ⟨g, 0, none⟩ = some (.int .i64 a) ∧ W.cell? ⟨g, 1, none⟩ = some (.int .i64 b) ∧ W.cell? ⟨g, 2, none⟩ = some (.int .i64 c) ∧ W.cell? ⟨g, 3, none⟩ = some (.int .i64 d) := by
  simp [World.cell?, h]

theorem name_wrong (a b c d : Int) (h : okId a b c d = false) (w : World) : Calls Try.prog 8 #[idV a b c d] w fun e w' => e = .returned (.string ByteArray.empty) ∧ Below w.heap.size w w' := by
  have HR := Lib.hid (right_any a b c d)
  unfold idV at *
  go_enter Try.func8, Try.ntmps8
  go_wp2_with fail
  refine (HR.out _).mono ?_
  rintro e w1 ⟨rfl, hb1⟩
  rw [h]
  have hb2 : Below w.heap.size w w1 := ((Below.refl _ w).alloc (Nat.le_refl _) _).trans (hb1.mono (by simp))
  go_wp2_with fail
  go_ret
  exact ⟨rfl, hb2⟩

set_option maxHeartbeats 1000000 in
theorem name_right (a b c d : Int) (h : okId a b c d = true) (w : World) : Calls Try.prog 8 #[idV a b c d] w fun e w' => e = .returned (.string (nameUpto [a, b, c, d] 4)) ∧ Below w.heap.size w w' := by
  have HR := Lib.hid (right_any a b c d)
  have HN := Lib.hid (numbers_any a b c d)
  have HA := Lib.hid (fun k n hn => okId_all h k n hn)
  obtain ⟨l, hl⟩ : ∃ l : List Int, l = [a, b, c, d] := ⟨_, rfl⟩
  rw [← hl] at HN HA ⊢
  have hl4 : l.length = 4 := by rw [hl]; rfl
  unfold idV at *
  go_enter Try.func8, Try.ntmps8
  go_wp2_with fail
  refine (HR.out _).mono ?_
  rintro e w1 ⟨rfl, hb1⟩
  rw [h]
  have hb2 : Below w.heap.size w w1 := ((Below.refl _ w).alloc (Nat.le_refl _) _).trans (hb1.mono (by simp))
  have hbx := (hb1.block w.heap.size (by simp)).trans (heap_alloc_new w _)
  obtain ⟨k0, k1, k2, k3⟩ := icells hbx
  clear hl
  go_wp2_with fail
  refine (HN.out _).mono ?_
  rintro e w2 ⟨v, rfl, hv, hb3⟩
  obtain ⟨g, cc, rfl, hc1, hc2, hcell⟩ := hv
  have HC := Lib.hid hcell
  have hb4 : Below w.heap.size w w2 := hb2.trans (hb3.mono hb2.size)
  clear hcell
  unfold maxLen at hc2
  go_wp2_with fail
  go_loopw [3, 12] (fun out i wr => ∃ k : Nat, k ≤ 4 ∧ i = .int .i64 k ∧ out = .string (nameUpto l k) ∧ Below w2.heap.size w2 wr) (fun _ i _ => 4 - (intOf i).toNat)
  case atStart => exact ⟨0, by omega, rfl, rfl, Below.refl _ _⟩
  case round =>
    obtain ⟨k, hk, rfl, rfl, hbw⟩ := hrel
    by_cases hlt : k < 4
    · obtain ⟨n, hn⟩ : ∃ n, l[k]? = some n := ⟨_, List.getElem?_eq_getElem (by omega)⟩
      have hcl := HC.out k n hn
      have hg : g < w2.heap.size := World.block_lt_of_cell? w2 _ hcl
      have hcl2 : wr.cell? ⟨g, k, none⟩ = some (.int .i64 n) := (hbw.cell (p := ⟨g, k, none⟩) hg).trans hcl
      obtain ⟨n1, n2⟩ := HA.out k n hn
      obtain ⟨m, rfl⟩ := Int.eq_ofNat_of_zero_le n1
      have HW := Lib.hid (write_int m (by omega) wr.drew)
      have HS : Hid (nameUpto l (k + 1) = nameUpto l k ++ (letterB k ++ decB m)) := Lib.hid (by
        show nameUpto l k ++ (letterB k ++ decB (l.getD k 0).toNat) = _
        rw [List.getD_eq_getElem?_getD, hn]; rfl)
      have hz0 := nameUpto_size l (fun n hm => by obtain ⟨j, hj⟩ := List.mem_iff_getElem?.1 hm; exact HA.out j n hj) k hk
      have hz1 := decB_size 18 m (by omega)
      have hz2 := letterB_size k hlt
      have hz3 : (letterB k ++ decB m).size = 1 + (decB m).size := by rw [ByteArray.size_append, hz2]
      have hwr : IntKind.i64.wrap ((k : Int) + 1) = (k : Int) + 1 := by rw [IntKind.wrap_i64]; omega
      have hk1 : (0 : Int) ≤ (k : Int) + 1 ∧ (k : Int) + 1 ≤ 4 := by omega
      have hk2 : (k : Int) ≤ (k : Int) + 1 := by omega
      have hq1 : ¬ (9223372036854775807 < 1 + (decB m).size) := by omega
      have hq2 : ¬ (9223372036854775807 < (nameUpto l k).size + (1 + (decB m).size)) := by omega
      have hlet : (⟨#[116, 97, 112, 102]⟩ : ByteArray).extract k (k + 1) = letterB k := rfl
      clear hn hcl
      unfold intV at HW
      go_wp2_with fail
      go_region_law (first
        | (go_simp; go_at_call 15; refine HW.out.mono ?_; rintro e w3 ⟨rfl, hb5⟩))
      all_goals
        go_wp2_with fail
        go_roundw
        case rel => exact ⟨k + 1, by omega, by go_num, by rw [HS.out], hbw.drew.trans (hb5.mono hbw.size)⟩
        case measure => simp [intOf]; omega
    · obtain rfl : k = 4 := by omega
      go_wp2_with fail
      go_ret
      exact ⟨rfl, hb4.trans (hbw.mono hb4.size)⟩

end Go.Proofs.Ytkldkaahpicnmaa
