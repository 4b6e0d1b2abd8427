/- The law on folds: what it calls, as one contract. -/
import Derived.Test.YtejbpnhondpnfaaFoldQ
namespace Go.Proofs.Ytejbpnhondpnfaa
open Go.RowKit

def wordB (j : Nat) : ByteArray := if j = 0 then sumB' else if j = 1 then maxB else if j = 2 then minB else gcdB

theorem fold_any (j : Nat) (hj : j < 4) (a b : Val) (w : World) :
    Calls Try.prog 5 #[.string (wordB j), valV a, valV b] w fun e w' => e = .returned (.tuple #[valV (foldV j a b).1, .int .i64 (foldV j a b).2]) ∧ Below w.heap.size w w' := by
  match j, hj with
  | 0, _ => exact fold_sum a b w
  | 1, _ => exact fold_max a b w
  | 2, _ => exact fold_min a b w
  | 3, _ => exact fold_gcd a b w

theorem fold_awake1 : foldV 0 (numV 9007199254740992) zeroV = (numV (-9007199254740992), 0) := by
  have h1 : rightV (numV 9007199254740992) = true := right_num (by omega)
  have h2 : rightV zeroV = true := right_num (n := 0) (by omega)
  rw [fold_can h1 h2 rfl (.inr (.inr (.inl rfl)))]
  rfl
theorem fold_awake2 : foldV 3 (numV (-4)) (numV 6) = (numV 2, 0) := by
  have h1 : rightV (numV (-4)) = true := right_num (by omega)
  have h2 : rightV (numV 6) = true := right_num (by omega)
  rw [fold_can h1 h2 rfl (.inr (.inr (.inl rfl)))]
  rfl

theorem awake_any (w : World) : Calls Try.prog 4 #[] w fun e w' => e = .returned (.bool true) ∧ Below w.heap.size w w' := by
  have h1 := fold_any 0 (by decide) (numV 9007199254740992) zeroV
  have h2 := fold_any 3 (by decide) (numV (-4)) (numV 6)
  rw [fold_awake1] at h1
  rw [fold_awake2] at h2
  change ∀ w, Calls Try.prog 5 #[.string sumB', .agg #[.int .i64 0, .int .i64 9007199254740992, .string ⟨#[]⟩, .int .i64 0, .int .i64 0], .agg #[.int .i64 0, .int .i64 0, .string ⟨#[]⟩, .int .i64 0, .int .i64 0]] w fun e w' => e = .returned (.tuple #[.agg #[.int .i64 0, .int .i64 (-9007199254740992), .string ⟨#[]⟩, .int .i64 0, .int .i64 0], .int .i64 0]) ∧ Below w.heap.size w w' at h1
  change ∀ w, Calls Try.prog 5 #[.string gcdB, .agg #[.int .i64 0, .int .i64 (-4), .string ⟨#[]⟩, .int .i64 0, .int .i64 0], .agg #[.int .i64 0, .int .i64 6, .string ⟨#[]⟩, .int .i64 0, .int .i64 0]] w fun e w' => e = .returned (.tuple #[.agg #[.int .i64 0, .int .i64 2, .string ⟨#[]⟩, .int .i64 0, .int .i64 0], .int .i64 0]) ∧ Below w.heap.size w w' at h2
  unfold sumB' at h1
  unfold gcdB at h2
  have H1 := Lib.hid h1
  have H2 := Lib.hid h2
  clear h1 h2
  go_enter Try.func4, Try.ntmps4
  go_wp2_with fail
  refine (H1.out _).mono ?_
  rintro e w1 ⟨rfl, hb1⟩
  go_wp2_with fail
  refine (H2.out _).mono ?_
  rintro e w2 ⟨rfl, hb2⟩
  have hn := heap_alloc_new w1 (.cells #[.int .i64 0, .int .i64 (-9007199254740992), .string ⟨#[]⟩, .int .i64 0, .int .i64 0] 25)
  have hn2 : (w2.alloc (.cells #[.int .i64 0, .int .i64 2, .string ⟨#[]⟩, .int .i64 0, .int .i64 0] 25)).heap[w1.heap.size]? = some (.cells #[.int .i64 0, .int .i64 (-9007199254740992), .string ⟨#[]⟩, .int .i64 0, .int .i64 0] 25 (0, 0)) := by
    have hlt : w1.heap.size < (w1.alloc (.cells #[.int .i64 0, .int .i64 (-9007199254740992), .string ⟨#[]⟩, .int .i64 0, .int .i64 0] 25)).heap.size := by rw [World.size_alloc]; omega
    rw [heap_alloc_old _ _ (Nat.lt_of_lt_of_le hlt hb2.size), hb2.block _ hlt]
    exact hn
  have hm2 := heap_alloc_new w2 (.cells #[.int .i64 0, .int .i64 2, .string ⟨#[]⟩, .int .i64 0, .int .i64 0] 25)
  have hB : Below w.heap.size w (w2.alloc (.cells #[.int .i64 0, .int .i64 2, .string ⟨#[]⟩, .int .i64 0, .int .i64 0] 25)) := by
    have h3 := (hb1.alloc hb1.size (.cells #[.int .i64 0, .int .i64 (-9007199254740992), .string ⟨#[]⟩, .int .i64 0, .int .i64 0] 25))
    have h4 := h3.trans (hb2.mono h3.size)
    exact h4.alloc h4.size _
  obtain ⟨W, hW⟩ : ∃ W, W = w2.alloc (.cells #[.int .i64 0, .int .i64 2, .string ⟨#[]⟩, .int .i64 0, .int .i64 0] 25) := ⟨_, rfl⟩
  rw [← hW] at hn2 hm2 hB
  obtain ⟨k0, k1, _⟩ := five_cells hn2
  obtain ⟨l0, l1, _⟩ := five_cells hm2
  clear hn hn2 hm2 hb1 hb2
  go_wp2_with (first | (rw [← hW]; clear hW))
  go_ret
  exact ⟨rfl, hB⟩
end Go.Proofs.Ytejbpnhondpnfaa
