/- Numbers and points folded, walked. -/
import Derived.Test.YtejbpnhondpnfaaFoldB
namespace Go.Proofs.Ytejbpnhondpnfaa
open Go.RowKit

/-- All five cells of a value's block set. -/
theorem set_five {w : World} {g : Nat} {t : TypeId} {v0 v1 v2 v3 v4 : Value} (u0 u1 u2 u3 u4 : Value) (h : w.heap[g]? = some (.cells #[v0, v1, v2, v3, v4] t (0, 0))) :
    (((((w.setCell ⟨g, 0, none⟩ u0).setCell ⟨g, 1, none⟩ u1).setCell ⟨g, 2, none⟩ u2).setCell ⟨g, 3, none⟩ u3).setCell ⟨g, 4, none⟩ u4).heap[g]? = some (.cells #[u0, u1, u2, u3, u4] t (0, 0)) :=
  heap_setCell_same _ g 4 #[u0, u1, u2, u3, v4] t u4 (heap_setCell_same _ g 3 #[u0, u1, u2, v3, v4] t u3 (heap_setCell_same _ g 2 #[u0, u1, v2, v3, v4] t u2 (heap_setCell_same _ g 1 #[u0, v1, v2, v3, v4] t u1 (heap_setCell_same w g 0 #[v0, v1, v2, v3, v4] t u0 h))))
theorem below_five {w0 w : World} {g B : Nat} (u0 u1 u2 u3 u4 : Value) (h : Below B w0 w) (hg : B ≤ g) :
    Below B w0 (((((w.setCell ⟨g, 0, none⟩ u0).setCell ⟨g, 1, none⟩ u1).setCell ⟨g, 2, none⟩ u2).setCell ⟨g, 3, none⟩ u3).setCell ⟨g, 4, none⟩ u4) :=
  ((((h.setCell (p := ⟨g, 0, none⟩) hg _).setCell (p := ⟨g, 1, none⟩) hg _).setCell (p := ⟨g, 2, none⟩) hg _).setCell (p := ⟨g, 3, none⟩) hg _).setCell (p := ⟨g, 4, none⟩) hg _

def zeroV : Val := ⟨0, 0, ⟨#[]⟩, 0, 0⟩
def numV (n : Int) : Val := ⟨0, n, ⟨#[]⟩, 0, 0⟩
def pntV (p : Pt) : Val := ⟨2, 0, ⟨#[]⟩, p.x, p.y⟩

def sumB' : ByteArray := ⟨#[115, 117, 109]⟩
def gcdB : ByteArray := ⟨#[103, 99, 100]⟩

theorem free_at {W : World} {g o : Nat} {cs : Array Value} {t : TypeId} (h : W.heap[g]? = some (.cells cs t (0, 0))) : W.frozen? ⟨g, o, none⟩ = false := by simp [World.frozen?, h]

theorem num_sum (a b : Int) (ha : -9007199254740992 ≤ a ∧ a ≤ 9007199254740992) (hb : -9007199254740992 ≤ b ∧ b ≤ 9007199254740992) (w : World) :
    Calls Try.prog 10 #[.string sumB', .int .i64 a, .int .i64 b] w fun e w' => e = .returned (valV (numV (wrapZ 9007199254740992 (a + b)))) ∧ Below w.heap.size w w' := by
  have hw : IntKind.i64.wrap (a + b) = a + b := by rw [IntKind.wrap_i64]; omega
  have hc := Lib.hid (wrapped_any (a + b) 9007199254740992 (by decide) (by decide) (by omega) (by omega))
  obtain ⟨r, hr⟩ : ∃ r, r = wrapZ 9007199254740992 (a + b) := ⟨_, rfl⟩
  rw [← hr] at hc ⊢
  obtain ⟨W1, hW1⟩ : ∃ W1, W1 = w.alloc (valB zeroV) := ⟨_, rfl⟩
  have hB : Below w.heap.size w W1 := by rw [hW1]; exact (Below.refl _ w).alloc (Nat.le_refl _) _
  have hg : W1.heap[w.heap.size]? = some (valB zeroV) := by rw [hW1]; exact heap_alloc_new w _
  unfold valB zeroV at hg
  have HG0 := Lib.hid hg
  have HB0 := Lib.hid hB
  unfold valB zeroV at hW1
  unfold valV numV sumB'
  clear hr hg hB
  go_enter Try.func10, Try.ntmps10
  go_wp2_with (first | (rw [← hW1]; clear hW1))
  refine (hc.out _).mono ?_
  rintro e w2 ⟨rfl, rfl⟩
  have hg := HG0.out
  have hB := HB0.out
  obtain ⟨k0, k1, k2, k3, k4⟩ := five_cells hg
  have f0 := free_at (o := 0) hg
  have f1 := free_at (o := 1) hg
  have f2 := free_at (o := 2) hg
  have f3 := free_at (o := 3) hg
  have f4 := free_at (o := 4) hg
  have HG := Lib.hid hg
  have HB := Lib.hid hB
  clear hg hB
  go_wp2_with fail
  have h5 := set_five (.int .i64 0) (.int .i64 r) (.string ⟨#[]⟩) (.int .i64 0) (.int .i64 0) HG.out
  exact bodyPost_ret (results_cell_row rfl _ _ w.heap.size 25 #[.int .i64 0, .int .i64 r, .string ⟨#[]⟩, .int .i64 0, .int .i64 0] (0, 0) _ rfl h5 Try.underlying25 rfl (by kernel_rfl)) rfl ⟨rfl, below_five _ _ _ _ _ HB.out (Nat.le_refl _)⟩

theorem num_gcd (a b : Int) (ha : -9007199254740992 ≤ a ∧ a ≤ 9007199254740992) (hb : -9007199254740992 ≤ b ∧ b ≤ 9007199254740992) (w : World) :
    Calls Try.prog 10 #[.string gcdB, .int .i64 a, .int .i64 b] w fun e w' => e = .returned (valV (numV (((Int.gcd a b : Nat) : Int)))) ∧ Below w.heap.size w w' := by
  have hc := Lib.hid (jcommon_any a b ha hb)
  obtain ⟨r, hr⟩ : ∃ r, r = ((Int.gcd a b : Nat) : Int) := ⟨_, rfl⟩
  rw [← hr] at hc ⊢
  obtain ⟨W1, hW1⟩ : ∃ W1, W1 = w.alloc (valB zeroV) := ⟨_, rfl⟩
  have hB : Below w.heap.size w W1 := by rw [hW1]; exact (Below.refl _ w).alloc (Nat.le_refl _) _
  have hg : W1.heap[w.heap.size]? = some (valB zeroV) := by rw [hW1]; exact heap_alloc_new w _
  unfold valB zeroV at hg
  have HG0 := Lib.hid hg
  have HB0 := Lib.hid hB
  unfold valB zeroV at hW1
  unfold valV numV gcdB
  clear hr hg hB
  go_enter Try.func10, Try.ntmps10
  go_wp2_with (first | (rw [← hW1]; clear hW1))
  refine (hc.out _).mono ?_
  rintro e w2 ⟨rfl, hb2⟩
  have hg := (hb2.block _ (Array.getElem?_eq_some_iff.1 HG0.out).1).trans HG0.out
  have hB := HB0.out.trans (hb2.mono HB0.out.size)
  obtain ⟨k0, k1, k2, k3, k4⟩ := five_cells hg
  have f0 := free_at (o := 0) hg
  have f1 := free_at (o := 1) hg
  have f2 := free_at (o := 2) hg
  have f3 := free_at (o := 3) hg
  have f4 := free_at (o := 4) hg
  have HG := Lib.hid hg
  have HB := Lib.hid hB
  clear hg hB
  go_wp2_with fail
  have h5 := set_five (.int .i64 0) (.int .i64 r) (.string ⟨#[]⟩) (.int .i64 0) (.int .i64 0) HG.out
  exact bodyPost_ret (results_cell_row rfl _ _ w.heap.size 25 #[.int .i64 0, .int .i64 r, .string ⟨#[]⟩, .int .i64 0, .int .i64 0] (0, 0) _ rfl h5 Try.underlying25 rfl (by kernel_rfl)) rfl ⟨rfl, below_five _ _ _ _ _ HB.out (Nat.le_refl _)⟩

end Go.Proofs.Ytejbpnhondpnfaa
