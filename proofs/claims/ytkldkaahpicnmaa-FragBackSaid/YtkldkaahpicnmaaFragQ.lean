/- A number's bytes on a tape; a text's. -/
import Derived.Test.YtkldkaahpicnmaaFragF
namespace Go.Proofs.Ytkldkaahpicnmaa
open Go.RowKit PFragNames

/-- A number's bytes. -/
def numL (n : Nat) : List UInt8 := if n < 128 then [UInt8.ofNat n] else UInt8.ofNat (n % 128 + 128) :: numL (n / 128)
termination_by n
decreasing_by omega

theorem numL_len : ∀ (k n : Nat), n < 128 ^ (k + 1) → (numL n).length ≤ k + 1
  | k, n, h => by
    unfold numL
    by_cases h1 : n < 128
    · rw [if_pos h1]; simp
    · rw [if_neg h1]
      cases k with
      | zero => omega
      | succ k =>
        have := numL_len k (n / 128) (by rw [Nat.pow_succ] at h; omega)
        rw [List.length_cons]; omega

theorem u8_ofNat (n : Nat) (h : n < 256) : ((UInt8.ofNat n).toNat : Int) = (n : Int) := by rw [UInt8.toNat_ofNat']; omega

set_option maxHeartbeats 1000000 in
set_option maxRecDepth 100000 in
theorem num_any (n0 : Nat) (hn : n0 ≤ 9007199254740991) (w : World) : Calls Try.prog 17 #[.int .i64 (n0 : Int)] w fun e w' => e = .returned (.string ⟨(numL n0).toArray⟩) ∧ Below w.heap.size w w' := by
  obtain ⟨i0, hiz, hz0, hz1, hz2⟩ := info_parts info5
  go_enter Try.func17, Try.ntmps17
  go_wp2_with fail
  go_loopw [0, 3] (fun nv vo wr => ∃ (n : Nat) (l : List UInt8), nv = .int .i64 (n : Int) ∧ n ≤ n0 ∧ Hid (l ++ numL n = numL n0) ∧ wr.ownsRow w.heap.size 5 1 vo l.length (l.map fun b => Value.int .u8 (b.toNat : Int)) ∧ Below w.heap.size w wr) (fun nv _ _ => (intOf nv).toNat)
  case atStart => exact ⟨n0, [], rfl, Nat.le_refl _, Lib.hid (by simp), World.ownsRow_nil _ _ _ _, Below.refl _ _⟩
  case round =>
    obtain ⟨n, l, rfl, hle, HL, hown, hb⟩ := hrel
    have hl8 : l.length ≤ 8 := by
      have e1 := congrArg List.length HL.out
      rw [List.length_append] at e1
      have e2 := numL_len 7 n0 (by omega)
      omega
    obtain ⟨va, vc, rfl, hvc, hvm, _⟩ := own_val hown
    unfold maxLen at hvm
    have hsz := hb.size
    by_cases h1 : n < 128
    · have hc := u8_ofNat n (by omega)
      have HC := Lib.hid hc
      clear hc
      go_wp2_with (at_builtin; refine wpList_append_src rfl _ _ 62 62 rfl w.heap.size 5 i0 _ 1 1 Try.underlying62 hiz hz0 hz1 hz2 rfl (by decide) (.slice va _ vc) _ _ rfl (hown.alloc _) _ 1 [.int .u8 (n : Int)] rfl (src_one_u8 _ wr.heap.size _ (heap_alloc_new wr _)) (by unfold maxLen; omega) (by omega) (by simp; omega) ?_; intro v5 W5 ho5 hch5 hnew5; obtain ⟨a5, c5, rfl, _⟩ := own_val ho5; have ho6 : W5.ownsRow w.heap.size 5 1 (.slice a5 (l.length + 1) c5) (l ++ [UInt8.ofNat n]).length ((l ++ [UInt8.ofNat n]).map fun b => Value.int .u8 (b.toNat : Int)) := (by rw [List.map_append, List.map_singleton, HC.out]; simpa using ho5); have hT := conv_own ho6)
      go_ret
      have hb5 : Below w.heap.size w W5 := (hb.alloc hsz _).trans (hch5.below (by simp; omega) (fun k hk => (own_lt hown k hk).1))
      refine ⟨?_, hb5⟩
      have e1 : numL n = [UInt8.ofNat n] := by unfold numL; rw [if_pos h1]
      rw [← HL.out, e1]
      rfl
    · have hc := u8_ofNat (n % 128 + 128) (by omega)
      have HC := Lib.hid hc
      clear hc
      go_wp2_with (at_builtin; refine wpList_append_src rfl _ _ 62 62 rfl w.heap.size 5 i0 _ 1 1 Try.underlying62 hiz hz0 hz1 hz2 rfl (by decide) (.slice va _ vc) _ _ rfl (hown.alloc _) _ 1 [.int .u8 ((n : Int) % 128 + 128)] rfl (src_one_u8 _ wr.heap.size _ (heap_alloc_new wr _)) (by unfold maxLen; omega) (by omega) (by simp; omega) ?_; intro v5 W5 ho5 hch5 hnew5; obtain ⟨a5, c5, rfl, _⟩ := own_val ho5)
      have hb5 : Below w.heap.size w W5 := (hb.alloc hsz _).trans (hch5.below (by simp; omega) (fun k hk => (own_lt hown k hk).1))
      refine ⟨⟨n / 128, l ++ [UInt8.ofNat (n % 128 + 128)], rfl, by omega, Lib.hid ?_, ?_, hb5⟩, ?_⟩
      · rw [List.append_assoc, ← HL.out]
        conv => rhs; rw [numL, if_neg h1]
        rfl
      · rw [List.map_append, List.map_singleton, HC.out]
        simpa using ho5
      · simp [intOf]; omega

theorem textB_any (s : ByteArray) (hs : s.size ≤ 1000000) (w : World) : Calls Try.prog 19 #[.string s] w fun e w' => e = .returned (.string (⟨(numL s.size).toArray⟩ ++ s)) ∧ Below w.heap.size w w' := by
  have HN := Lib.hid (num_any s.size (by omega) w)
  have hl := numL_len 7 s.size (by omega)
  have hz : (ByteArray.mk (numL s.size).toArray).size = (numL s.size).length := by show (numL s.size).toArray.size = _; simp
  have hq : ¬ (9223372036854775807 < (ByteArray.mk (numL s.size).toArray).size + s.size) := by omega
  obtain ⟨nb, hnb⟩ : ∃ nb, (⟨(numL s.size).toArray⟩ : ByteArray) = nb := ⟨_, rfl⟩
  rw [hnb] at HN hq ⊢
  clear hz hnb hl
  go_enter Try.func19, Try.ntmps19
  go_wp2_with fail
  refine HN.out.mono ?_
  rintro e w1 ⟨rfl, hb1⟩
  go_wp2_with fail
  go_ret
  exact ⟨rfl, hb1⟩

end Go.Proofs.Ytkldkaahpicnmaa
