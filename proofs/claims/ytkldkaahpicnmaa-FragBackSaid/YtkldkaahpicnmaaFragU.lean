/- A number in decimal: its digits, and what they come to. -/
import Derived.Test.YtkldkaahpicnmaaFragB
namespace Go.Proofs.Ytkldkaahpicnmaa

def decL (n : Nat) : List UInt8 := (decB n).data.toList
/-- What digits come to. -/
def valL (l : List UInt8) : Nat := l.foldl (fun a c => 10 * a + (c.toNat - 48)) 0
theorem valL_snoc (l : List UInt8) (c : UInt8) : valL (l ++ [c]) = 10 * valL l + (c.toNat - 48) := by unfold valL; rw [List.foldl_append]; rfl

theorem digitB_list (d : Nat) (h : d < 10) : (digitB d).data.toList = [UInt8.ofNat (48 + d)] := by
  match d, h with
  | 0, _ => rfl
  | 1, _ => rfl
  | 2, _ => rfl
  | 3, _ => rfl
  | 4, _ => rfl
  | 5, _ => rfl
  | 6, _ => rfl
  | 7, _ => rfl
  | 8, _ => rfl
  | 9, _ => rfl
theorem decL_small {n : Nat} (h : n < 10) : decL n = [UInt8.ofNat (48 + n)] := by unfold decL decB; rw [if_pos h, digitB_list n h]
theorem decL_big {n : Nat} (h : ¬ n < 10) : decL n = decL (n / 10) ++ [UInt8.ofNat (48 + n % 10)] := by
  unfold decL
  conv => lhs; unfold decB
  rw [if_neg h, ByteArray.data_append, Array.toList_append, digitB_list (n % 10) (by omega)]
theorem dig_nat {d : Nat} (h : d < 10) : (UInt8.ofNat (48 + d)).toNat = 48 + d := by rw [UInt8.toNat_ofNat']; omega
theorem decL_digits (n : Nat) : ∀ c ∈ decL n, 48 ≤ c.toNat ∧ c.toNat ≤ 57 := by
  induction n using Nat.strongRecOn with
  | _ n ih =>
    by_cases h : n < 10
    · rw [decL_small h]
      intro c hc
      rw [List.mem_singleton.1 hc, dig_nat h]; omega
    · rw [decL_big h]
      intro c hc
      rcases List.mem_append.1 hc with hc | hc
      · exact ih (n / 10) (by omega) c hc
      · rw [List.mem_singleton.1 hc, dig_nat (by omega)]; omega
theorem decL_val (n : Nat) : valL (decL n) = n := by
  induction n using Nat.strongRecOn with
  | _ n ih =>
    by_cases h : n < 10
    · rw [decL_small h]
      show 10 * 0 + ((UInt8.ofNat (48 + n)).toNat - 48) = n
      rw [dig_nat h]; omega
    · rw [decL_big h, valL_snoc, ih (n / 10) (by omega), dig_nat (by omega)]; omega
theorem decL_pos (n : Nat) : 0 < (decL n).length := by
  by_cases h : n < 10
  · rw [decL_small h]; simp
  · rw [decL_big h]; simp
theorem decL_lead (n : Nat) : (decL n).length = 1 ∨ ∃ c, (decL n)[0]? = some c ∧ c.toNat ≠ 48 := by
  induction n using Nat.strongRecOn with
  | _ n ih =>
    by_cases h : n < 10
    · rw [decL_small h]; exact .inl rfl
    · have hp := decL_pos (n / 10)
      rw [decL_big h]
      refine .inr ?_
      rcases ih (n / 10) (by omega) with h1 | ⟨c, h1, h2⟩
      · by_cases h3 : n / 10 < 10
        · rw [decL_small h3]
          exact ⟨_, rfl, by rw [dig_nat h3]; omega⟩
        · rw [decL_big h3] at h1
          have := decL_pos (n / 10 / 10)
          rw [List.length_append, List.length_singleton] at h1
          omega
      · exact ⟨c, by rw [List.getElem?_append_left hp]; exact h1, h2⟩
theorem valL_take (l : List UInt8) (k : Nat) (c : UInt8) (h : l[k]? = some c) : valL (l.take (k + 1)) = 10 * valL (l.take k) + (c.toNat - 48) := by
  rw [List.take_add_one, h]; exact valL_snoc _ _
theorem valL_mono (l r : List UInt8) : valL l ≤ valL (l ++ r) := by
  induction r generalizing l with
  | nil => simp
  | cons c r ih =>
    have h1 := ih (l ++ [c])
    rw [List.append_assoc] at h1
    rw [valL_snoc] at h1
    show valL l ≤ valL (l ++ ([c] ++ r))
    omega
theorem valL_le (l : List UInt8) (k : Nat) : valL (l.take k) ≤ valL l := by
  have := valL_mono (l.take k) (l.drop k)
  rwa [List.take_append_drop] at this
theorem decL_size (n : Nat) : (decL n).length = (decB n).size := rfl
end Go.Proofs.Ytkldkaahpicnmaa
