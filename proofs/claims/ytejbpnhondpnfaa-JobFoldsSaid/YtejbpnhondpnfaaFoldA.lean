/- Values: whether one is right, walked. -/
import Derived.Test.YtejbpnhondpnfaaGaussC
namespace Go.Proofs.Ytejbpnhondpnfaa
open Go.RowKit

structure Val where
  k : Int
  n : Int
  t : ByteArray
  x : Int
  y : Int

def valV (v : Val) : Value := .agg #[.int .i64 v.k, .int .i64 v.n, .string v.t, .int .i64 v.x, .int .i64 v.y]
def valB (v : Val) : Obj := .cells #[.int .i64 v.k, .int .i64 v.n, .string v.t, .int .i64 v.x, .int .i64 v.y] 25 (0, 0)

/-- Is a value right? -/
def rightV (v : Val) : Bool :=
  if v.k = 0 then decide (-9007199254740992 ≤ v.n) && (decide (v.n ≤ 9007199254740992) && (v.t.toList.isEmpty && !(decide (Pt.mk v.x v.y ≠ Pt.zero))))
  else if v.k = 1 then decide (v.t.size ≤ 4096) && (!(v.n != 0) && !(decide (Pt.mk v.x v.y ≠ Pt.zero)))
  else if v.k = 2 then ptR v.x v.y && (!(v.n != 0) && v.t.toList.isEmpty)
  else false

theorem five_cells {W : World} {g : Nat} {a0 a1 a2 a3 a4 : Value} {t : TypeId} (h : W.heap[g]? = some (.cells #[a0, a1, a2, a3, a4] t (0, 0))) :
    W.cell? ⟨g, 0, none⟩ = some a0 ∧ W.cell? ⟨g, 1, none⟩ = some a1 ∧ W.cell? ⟨g, 2, none⟩ = some a2 ∧ W.cell? ⟨g, 3, none⟩ = some a3 ∧ W.cell? ⟨g, 4, none⟩ = some a4 := by
  simp [World.cell?, h]

theorem empty_of {t : ByteArray} (h : t.size = 0) : t = ⟨#[]⟩ := ByteArray.size_eq_zero_iff.1 h

set_option maxHeartbeats 4000000 in
theorem vright_any (v : Val) (w : World) : Calls Try.prog 8 #[valV v] w fun e w' => e = .returned (.bool (rightV v)) ∧ Below w.heap.size w w' := by
  obtain ⟨k, n, t, x, y⟩ := v
  obtain ⟨W1, hW1⟩ : ∃ W1, W1 = w.alloc (valB ⟨k, n, t, x, y⟩) := ⟨_, rfl⟩
  have hB : Below w.heap.size w W1 := by rw [hW1]; exact (Below.refl _ w).alloc (Nat.le_refl _) _
  have hg : W1.heap[w.heap.size]? = some (valB ⟨k, n, t, x, y⟩) := by rw [hW1]; exact heap_alloc_new w _
  obtain ⟨k0, k1, k2, k3, k4⟩ := five_cells hg
  have hP := neq_spot x y
  obtain ⟨b, hb⟩ : ∃ b, b = rightV ⟨k, n, t, x, y⟩ := ⟨_, rfl⟩
  rw [← hb]
  have HB := Lib.hid hb
  have HBel := Lib.hid hB
  unfold valB at hW1
  unfold valV
  simp only at hW1 ⊢
  clear hb hg hB
  obtain ⟨pz, hpz⟩ : ∃ pz, pz = decide (Pt.mk x y ≠ Pt.zero) := ⟨_, rfl⟩
  rw [← hpz] at hP
  have HPZ := Lib.hid hpz
  clear hpz
  have hsz : Below w.heap.size w W1 := HBel.out
  have hle : w.heap.size ≤ W1.heap.size := hsz.size
  clear hsz
  by_cases c0 : k = 0
  · subst c0
    go_enter Try.func8, Try.ntmps8
    go_wp2_with (first | (rw [← hW1]; clear hW1))
    go_still (by kernel_rfl)
    go_wp2_with fail
    all_goals
      go_ret
      exact ⟨by rw [HB.out]; unfold rightV; rw [← HPZ.out]; simp [*] <;> omega, HBel.out.drew⟩
  by_cases c1 : k = 1
  · subst c1
    go_enter Try.func8, Try.ntmps8
    go_wp2_with (first | (rw [← hW1]; clear hW1))
    go_still (by kernel_rfl)
    go_wp2_with fail
    all_goals
      go_ret
      exact ⟨by rw [HB.out]; unfold rightV; rw [← HPZ.out]; simp [*] <;> omega, HBel.out.drew⟩
  by_cases c2 : k = 2
  · subst c2
    have hr := Lib.hid (gright_any x y)
    unfold ptV at hr
    obtain ⟨pr, hpr⟩ : ∃ pr, pr = ptR x y := ⟨_, rfl⟩
    rw [← hpr] at hr
    have HPR := Lib.hid hpr
    clear hpr
    go_enter Try.func8, Try.ntmps8
    go_wp2_with (first | (rw [← hW1]; clear hW1))
    go_still (by kernel_rfl)
    go_wp2_with fail
    refine (hr.out _).mono ?_
    rintro e w2 ⟨rfl, hb2⟩
    have HB2 := Lib.hid (HBel.out.drew.trans (hb2.mono hle))
    clear hb2
    cases pr
    all_goals
      go_wp2_with fail
      all_goals
        go_ret
        exact ⟨by rw [HB.out]; unfold rightV; rw [← HPR.out]; simp [*], HB2.out⟩
  · go_enter Try.func8, Try.ntmps8
    go_wp2_with (first | (rw [← hW1]; clear hW1))
    go_still (by kernel_rfl)
    go_wp2_with fail
    all_goals
      go_ret
      exact ⟨by rw [HB.out]; unfold rightV; simp [*], HBel.out.drew⟩
end Go.Proofs.Ytejbpnhondpnfaa
