/- A piece framed, and the frame opened. -/
import Derived.Test.YtkldkaahpicnmaaFragX
import Derived.Test.YtkldkaahpicnmaaFragT
import Derived.Test.YtkldkaahpicnmaaCrcC
namespace Go.Proofs.Ytkldkaahpicnmaa
open Go.RowKit PFragNames
open Go.Proofs.YtkldkaahpicnmaaW.PrintWords

/-- A frame's bytes, ahead of the sum. -/
def bodyL (a b c d : Nat) (piece : ByteArray) : List UInt8 := numsL [a, b, c, d] ++ (numL piece.data.toList.length ++ piece.data.toList)
def FrameEnd (a b c d : Nat) (piece : ByteArray) (w : World) (e : Ending) (w' : World) : Prop :=
  (∃ body : ByteArray, e = .returned (.tuple #[.string (sealB body), .int .i64 0]) ∧ body.data.toList = bodyL a b c d piece) ∧ Below w.heap.size w w'

theorem numsL_len (l : List Nat) (h : ∀ n ∈ l, n ≤ 9007199254740991) : (numsL l).length ≤ 8 * l.length := by
  induction l with
  | nil => simp [numsL]
  | cons n r ih =>
    have h1 := numL_len 7 n (by have := h n (by simp); omega)
    have h2 := ih (fun m hm => h m (by simp [hm]))
    rw [numsL_cons, List.length_append, List.length_cons]
    omega
theorem numsL_snoc (l : List Nat) (n : Nat) : numsL (l ++ [n]) = numsL l ++ numL n := by unfold numsL; rw [List.flatMap_append]; simp
theorem size_len (s : ByteArray) : s.size = s.data.toList.length := by simp

set_option maxHeartbeats 2000000 in
theorem frame_right (a b c d : Nat) (piece : ByteArray) (hok : okId a b c d = true) (hp : piece.size ≤ 2000) (w : World) :
    Calls Try.prog 10 #[idV a b c d, .string piece] w (FrameEnd a b c d piece w) := by
  have hall : ∀ n ∈ [a, b, c, d], n ≤ 9007199254740991 := by
    have h0 := okId_all hok 0 _ rfl
    have h1 := okId_all hok 1 _ rfl
    have h2 := okId_all hok 2 _ rfl
    have h3 := okId_all hok 3 _ rfl
    intro n hn
    simp at hn
    omega
  have HR := Lib.hid (right_any (a : Int) b c d)
  have HN := Lib.hid (numbers_any (a : Int) b c d)
  have HA := Lib.hid hall
  obtain ⟨ns, hns⟩ : ∃ ns : List Nat, ns = [a, b, c, d] := ⟨_, rfl⟩
  have hn4 : ns.length = 4 := by rw [hns]; rfl
  have hcast : [(a : Int), b, c, d] = ns.map fun (n : Nat) => (n : Int) := by rw [hns]; rfl
  rw [hcast] at HN
  rw [← hns] at HA
  have HNS := Lib.hid hns
  unfold idV at *
  clear hall hns hcast
  go_enter Try.func10, Try.ntmps10
  go_wp2_with fail
  refine (HR.out _).mono ?_
  rintro e w1 ⟨rfl, hb1⟩
  rw [hok]
  have hb2 : Below w.heap.size w w1 := ((Below.refl _ w).alloc (Nat.le_refl _) _).trans (hb1.mono (by simp))
  have hbx := (hb1.block w.heap.size (by simp)).trans (heap_alloc_new w _)
  obtain ⟨k0, k1, k2, k3⟩ := icells hbx
  have hp2 : ¬ ((1048576 : Int) < (piece.size : Int)) := by omega
  go_wp2_with fail
  refine (HN.out _).mono ?_
  rintro e w2 ⟨v, rfl, hv, hb3⟩
  obtain ⟨g, cc, rfl, hc1, hc2, hcell⟩ := hv
  have HC := Lib.hid hcell
  have hb4 : Below w.heap.size w w2 := hb2.trans (hb3.mono hb2.size)
  clear hcell
  unfold maxLen at hc2
  have hlm : (ns.map fun (n : Nat) => (n : Int)).length = 4 := by rw [List.length_map]; exact hn4
  rw [hlm] at hc1 ⊢
  clear hb1 hb3
  go_wp2_with fail
  go_loopw [6, 20] (fun out i wr => ∃ (k : Nat) (o : ByteArray), k ≤ 4 ∧ i = .int .i64 k ∧ out = .string o ∧ o.data.toList = numsL (ns.take k) ∧ Below w2.heap.size w2 wr) (fun _ i _ => 4 - (intOf i).toNat)
  case atStart => exact ⟨0, ⟨#[]⟩, by omega, rfl, rfl, rfl, Below.refl _ _⟩
  case round =>
    obtain ⟨k, o, hk, rfl, rfl, ho, hbw⟩ := hrel
    have hosz : o.size ≤ 32 := by
      have h1 := numsL_len (ns.take k) (fun n hn => HA.out n (List.mem_of_mem_take hn))
      have h2 : (ns.take k).length ≤ k := List.length_take_le _ _
      rw [size_len, ho]; omega
    have HO := Lib.hid ho
    clear ho
    by_cases hlt : k < 4
    · obtain ⟨n, hn⟩ : ∃ n, ns[k]? = some n := ⟨_, List.getElem?_eq_getElem (by omega)⟩
      have hcl := HC.out k (n : Int) (by rw [List.getElem?_map, hn]; rfl)
      have hg : g < w2.heap.size := World.block_lt_of_cell? w2 _ hcl
      have hcl2 : wr.cell? ⟨g, k, none⟩ = some (.int .i64 (n : Int)) := (hbw.cell (p := ⟨g, k, none⟩) hg).trans hcl
      have hn9 := HA.out n (List.mem_of_getElem? hn)
      have HM := Lib.hid (num_any n hn9)
      have hz : (ByteArray.mk (numL n).toArray).size ≤ 8 := by
        have := numL_len 7 n (by omega)
        show (numL n).toArray.size ≤ 8
        simpa using this
      obtain ⟨nb, hnb⟩ : ∃ nb : ByteArray, nb = ⟨(numL n).toArray⟩ := ⟨_, rfl⟩
      rw [← hnb] at HM hz
      have hnbl : nb.data.toList = numL n := by rw [hnb]
      have hq : ¬ (9223372036854775807 < o.size + nb.size) := by omega
      have hnew : (o ++ nb).data.toList = numsL (ns.take (k + 1)) := by
        rw [ByteArray.data_append, Array.toList_append, HO.out, hnbl, List.take_add_one, hn]
        exact (numsL_snoc _ _).symm
      have HNEW := Lib.hid hnew
      clear hn hcl hnb hnbl hnew
      go_wp2_with fail
      refine (HM.out _).mono ?_
      rintro e w3 ⟨rfl, hb5⟩
      go_wp2_with fail
      go_roundw
      case rel => exact ⟨k + 1, _, by omega, by go_num, rfl, HNEW.out, hbw.trans (hb5.mono hbw.size)⟩
      case measure => simp [intOf]; omega
    · obtain rfl : k = 4 := by omega
      have HT := Lib.hid (textB_any piece (by omega))
      have hl := numL_len 7 piece.size (by omega)
      obtain ⟨tb, htb⟩ : ∃ tb : ByteArray, tb = ⟨(numL piece.size).toArray⟩ ++ piece := ⟨_, rfl⟩
      have htbl : tb.data.toList = numL piece.data.toList.length ++ piece.data.toList := by
        rw [htb, ByteArray.data_append, Array.toList_append, ← size_len]
      have htbs : tb.size ≤ 2010 := by
        rw [size_len, htbl, List.length_append, ← size_len]; omega
      rw [← htb] at HT
      have hq : ¬ (9223372036854775807 < o.size + tb.size) := by omega
      have hbody : (o ++ tb).data.toList = bodyL a b c d piece := by
        rw [ByteArray.data_append, Array.toList_append, HO.out, htbl, List.take_of_length_le (by omega), HNS.out]
        rfl
      have hbsz : (o ++ tb).size ≤ 1000000000 := by rw [ByteArray.size_append]; omega
      have HS := Lib.hid (seal_any (o ++ tb) hbsz)
      have HB := Lib.hid hbody
      clear htb htbl hbody
      go_wp2_with fail
      refine (HT.out _).mono ?_
      rintro e w3 ⟨rfl, hb5⟩
      go_wp2_with fail
      refine (HS.out _).mono ?_
      rintro e w4 ⟨rfl, hb6⟩
      go_wp2_with fail
      go_ret2
      exact ⟨⟨_, rfl, HB.out⟩, (hb4.trans (hbw.mono hb4.size)).trans ((hb5.mono (Nat.le_trans hb4.size hbw.size)).trans (hb6.mono (Nat.le_trans (Nat.le_trans hb4.size hbw.size) hb5.size)))⟩

theorem frame_wrong (a b c d : Int) (piece : ByteArray) (hok : okId a b c d = false) (w : World) :
    Calls Try.prog 10 #[idV a b c d, .string piece] w fun e w' => e = .returned (.tuple #[.string ⟨#[]⟩, .int .i64 1]) ∧ Below w.heap.size w w' := by
  have HR := Lib.hid (right_any a b c d)
  unfold idV at *
  go_enter Try.func10, Try.ntmps10
  go_wp2_with fail
  refine (HR.out _).mono ?_
  rintro e w1 ⟨rfl, hb1⟩
  rw [hok]
  have hb2 : Below w.heap.size w w1 := ((Below.refl _ w).alloc (Nat.le_refl _) _).trans (hb1.mono (by simp))
  go_wp2_with fail
  go_ret2
  exact ⟨rfl, hb2⟩
end Go.Proofs.Ytkldkaahpicnmaa
