/- The sum by which spoilt bytes are told, as plain numbers. -/
import Derived.Laws.BitsAllLaws
import Derived.DataShut
namespace Go.Proofs.Ytkldkaahpicnmaa

/-- One bit's step. -/
def stepN (x : Nat) : Nat := if x % 2 = 1 then (x / 2) ^^^ 3988292384 else x / 2
def stepsN : Nat → Nat → Nat
  | 0, x => x
  | n + 1, x => stepN (stepsN n x)
/-- What a byte comes to. -/
def tabN (j : Nat) : Nat := stepsN 8 j
/-- The sum so far, and more bytes behind it. -/
def moreN : Nat → List UInt8 → Nat
  | x, [] => x
  | x, b :: r => moreN (tabN ((x % 256) ^^^ b.toNat) ^^^ (x / 256)) r
def sumN (l : List UInt8) : Nat := 4294967295 - moreN 4294967295 l

theorem stepN_lt {x : Nat} (h : x < 4294967296) : stepN x < 4294967296 := by
  unfold stepN
  split
  · exact Nat.xor_lt_two_pow (n := 32) (by omega) (by decide)
  · omega
theorem stepsN_lt : ∀ (n : Nat) {x : Nat}, x < 4294967296 → stepsN n x < 4294967296
  | 0, _, h => h
  | n + 1, _, h => stepN_lt (stepsN_lt n h)
theorem tabN_lt {j : Nat} (h : j < 4294967296) : tabN j < 4294967296 := stepsN_lt 8 h
theorem xor8_lt (x : Nat) (b : UInt8) : (x % 256) ^^^ b.toNat < 256 := Nat.xor_lt_two_pow (n := 8) (by omega) b.toNat_lt
theorem next_lt {x : Nat} (b : UInt8) (h : x < 4294967296) : tabN ((x % 256) ^^^ b.toNat) ^^^ (x / 256) < 4294967296 :=
  Nat.xor_lt_two_pow (n := 32) (tabN_lt (by have := xor8_lt x b; omega)) (by omega)
theorem moreN_lt : ∀ (l : List UInt8) {x : Nat}, x < 4294967296 → moreN x l < 4294967296
  | [], _, h => h
  | b :: r, _, h => moreN_lt r (next_lt b h)
theorem moreN_snoc : ∀ (l : List UInt8) (b : UInt8) (x : Nat), moreN x (l ++ [b]) = tabN ((moreN x l % 256) ^^^ b.toNat) ^^^ (moreN x l / 256)
  | [], _, _ => rfl
  | c :: r, b, x => by
    rw [List.cons_append]
    show moreN _ (r ++ [b]) = _
    rw [moreN_snoc r b]
    rfl
theorem sumN_lt (l : List UInt8) : sumN l < 4294967296 := by unfold sumN; omega

theorem xor_ones {x : Nat} (h : x < 4294967296) : 4294967295 ^^^ x = 4294967295 - x := by
  have h1 := congrArg BitVec.toNat (BitVec.allOnes_xor (x := BitVec.ofNat 32 x))
  rw [BitVec.toNat_xor, BitVec.toNat_not, BitVec.toNat_allOnes, BitVec.toNat_ofNat, Nat.mod_eq_of_lt h] at h1
  exact h1
theorem bits_ones {x : Nat} (h : x < 4294967296) : bits .xor .u32 4294967295 (x : Int) = ((4294967295 - x : Nat) : Int) := by
  have := u32_xor_nat 4294967295 x (by decide) h
  rw [xor_ones h] at this
  exact this

/-- Four bytes, the least first. -/
def fourL (n : Nat) : List UInt8 := [UInt8.ofNat (n % 256), UInt8.ofNat (n / 256 % 256), UInt8.ofNat (n / 65536 % 256), UInt8.ofNat (n / 16777216 % 256)]
theorem fourL_len (n : Nat) : (fourL n).length = 4 := rfl
end Go.Proofs.Ytkldkaahpicnmaa
