/- A byte in two digits, read. -/
import Derived.Test.YtkldkaahpicnmaaFragD
import Derived.Lib.Bytealg
namespace Go.Proofs.Ytkldkaahpicnmaa
open Go.RowKit PFragNames

theorem ibs_call (s : ByteArray) (c : Int) (w : World) : (callFunc 52 #[.string s, .int .u8 c]).run Try.prog w = .ok (.value (.int .i64 (Lib.indexByte s.data.toList c.toNat.toUInt8))) w := by
  rw [run_callFunc_extern (e := Extern.BytealgIndexByte.indexByte) Try.func52 (by kernel_rfl) (by kernel_rfl) (by kernel_rfl) (by kernel_rfl), Lib.run_indexByteString]
  rfl

section
attribute [local go_sem] ibs_call
theorem ib51 (s : ByteArray) (c : Int) (w : World) : Calls Try.prog 51 #[.string s, .int .u8 c] w fun e w' => e = .returned (.int .i64 (Lib.indexByte s.data.toList c.toNat.toUInt8)) ∧ w = w' := by
  go_enter Try.func51, Try.ntmps51
  go_wp2
  go_ret
  exact ⟨rfl, rfl⟩
end

theorem ib50 (s : ByteArray) (c : Int) (w : World) : Calls Try.prog 50 #[.string s, .int .u8 c] w fun e w' => e = .returned (.int .i64 (Lib.indexByte s.data.toList c.toNat.toUInt8)) ∧ w = w' := by
  go_enter Try.func50, Try.ntmps50
  go_wp2_with fail
  refine (ib51 s c _).mono ?_
  rintro e w' ⟨rfl, rfl⟩
  go_wp2_with fail
  go_ret
  exact ⟨rfl, rfl⟩

/-- A byte and an error come back. -/
def ByteEnd (w : World) (e : Ending) (w' : World) : Prop :=
  (∃ (b : UInt8) (er : Int), e = .returned (.tuple #[.int .u8 (b.toNat : Int), .int .i64 er])) ∧ Below w.heap.size w w'

theorem u8_of (x : Int) (h : 0 ≤ x ∧ x ≤ 255) : ∃ b : UInt8, x = (b.toNat : Int) := ⟨UInt8.ofNat x.toNat, by rw [UInt8.toNat_ofNat']; omega⟩

set_option maxHeartbeats 2000000 in
theorem escaped_any (s : ByteArray) (i : Nat) (hs : s.size ≤ 1000000) (hi : i ≤ 1000010) (w : World) : Calls Try.prog 46 #[.string s, .int .i64 (i : Int)] w (ByteEnd w) := by
  go_enter Try.func46, Try.ntmps46
  go_wp2_with fail
  go_loopw [6, 7] (fun out k wr => ∃ (x : Int) (j : Nat), j ≤ i + 2 ∧ k = .int .i64 (j : Int) ∧ out = .int .i64 x ∧ Below w.heap.size w wr) (fun _ k _ => i + 2 - (intOf k).toNat)
  case atStart => exact ⟨0, i, by omega, rfl, rfl, Below.refl _ _⟩
  case round =>
    obtain ⟨x, j, hj, rfl, rfl, hb⟩ := hrel
    by_cases hlt : j < i + 2
    · by_cases hls : j < s.size
      · go_wp2_with fail
        refine (ib50 _ _ _).mono ?_
        rintro e w1 ⟨rfl, rfl⟩
        generalize Lib.indexByte _ _ = r
        go_wp2_with fail
        · go_ret2
          exact ⟨⟨0, _, rfl⟩, hb⟩
        · go_roundw
          case rel => exact ⟨_, j + 1, by omega, by go_num, rfl, hb⟩
          case measure => simp [intOf]; omega
      · go_wp2_with fail
        go_ret2
        exact ⟨⟨0, _, rfl⟩, hb⟩
    · go_wp2_with fail
      refine (plain_any _ _).mono ?_
      rintro e w1 ⟨⟨q, rfl⟩, hb1⟩
      have hb2 := hb.trans (hb1.mono hb.size)
      cases q
      · go_wp2_with fail
        go_ret2
        obtain ⟨b, hb'⟩ := u8_of (x % 256) (by omega)
        exact ⟨⟨b, 0, by rw [← hb']; rfl⟩, hb2⟩
      · go_wp2_with fail
        go_ret2
        exact ⟨⟨0, _, rfl⟩, hb2⟩

end Go.Proofs.Ytkldkaahpicnmaa
