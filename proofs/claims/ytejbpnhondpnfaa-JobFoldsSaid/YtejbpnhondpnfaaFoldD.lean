/- Points folded, walked. -/
import Derived.Test.YtejbpnhondpnfaaFoldC
namespace Go.Proofs.Ytejbpnhondpnfaa
open Go.RowKit

/-- What pointsFolded holds. -/
structure PF (a b : Pt) (w W : World) : Prop where
  below : Below w.heap.size w W
  a : W.heap[w.heap.size]? = some (.cells #[.int .i64 a.x, .int .i64 a.y] 23 (0, 0))
  b : W.heap[w.heap.size + 1]? = some (.cells #[.int .i64 b.x, .int .i64 b.y] 23 (0, 0))
  c : W.heap[w.heap.size + 1 + 1]? = some (.cells #[.int .i64 0, .int .i64 0, .string ⟨#[]⟩, .int .i64 0, .int .i64 0] 25 (0, 0))
theorem PF.step {a b : Pt} {w W W' : World} (h : PF a b w W) (k : Below W.heap.size W W') : PF a b w W' :=
  ⟨h.below.trans (k.mono h.below.size), (k.block _ (Array.getElem?_eq_some_iff.1 h.a).1).trans h.a, (k.block _ (Array.getElem?_eq_some_iff.1 h.b).1).trans h.b, (k.block _ (Array.getElem?_eq_some_iff.1 h.c).1).trans h.c⟩
def fW (a b : Pt) (w : World) : World := ((w.alloc (ptB a.x a.y)).alloc (ptB b.x b.y)).alloc (valB zeroV)
theorem fW_pf (a b : Pt) (w : World) : PF a b w (fW a b w) := by
  have h : (fW a b w).heap = ((w.heap.push (ptB a.x a.y)).push (ptB b.x b.y)).push (valB zeroV) := rfl
  refine ⟨(((Below.refl _ w).alloc (Nat.le_refl _) _).alloc (by rw [World.size_alloc]; omega) _).alloc (by rw [World.size_alloc, World.size_alloc]; omega) _, ?_, ?_, ?_⟩ <;> rw [h]
  · rw [Array.getElem?_push_lt (by rw [Array.size_push, Array.size_push]; omega), ← Array.getElem?_eq_getElem, Array.getElem?_push_lt (by rw [Array.size_push]; omega), ← Array.getElem?_eq_getElem, Array.getElem?_push_size]; rfl
  · rw [Array.getElem?_push_lt (by rw [Array.size_push, Array.size_push]; omega), ← Array.getElem?_eq_getElem]
    have := Array.getElem?_push_size (xs := w.heap.push (ptB a.x a.y)) (x := ptB b.x b.y)
    rw [Array.size_push] at this; exact this
  · have := Array.getElem?_push_size (xs := (w.heap.push (ptB a.x a.y)).push (ptB b.x b.y)) (x := valB zeroV)
    rw [Array.size_push, Array.size_push] at this; exact this

theorem PF.fin {a b : Pt} {w W : World} (h : PF a b w W) (u0 u1 u2 u3 u4 : Value) :
    (((((W.setCell ⟨w.heap.size + 1 + 1, 0, none⟩ u0).setCell ⟨w.heap.size + 1 + 1, 1, none⟩ u1).setCell ⟨w.heap.size + 1 + 1, 2, none⟩ u2).setCell ⟨w.heap.size + 1 + 1, 3, none⟩ u3).setCell ⟨w.heap.size + 1 + 1, 4, none⟩ u4).heap[w.heap.size + 1 + 1]? = some (.cells #[u0, u1, u2, u3, u4] 25 (0, 0)) ∧
    Below w.heap.size w (((((W.setCell ⟨w.heap.size + 1 + 1, 0, none⟩ u0).setCell ⟨w.heap.size + 1 + 1, 1, none⟩ u1).setCell ⟨w.heap.size + 1 + 1, 2, none⟩ u2).setCell ⟨w.heap.size + 1 + 1, 3, none⟩ u3).setCell ⟨w.heap.size + 1 + 1, 4, none⟩ u4) :=
  ⟨set_five _ _ _ _ _ h.c, below_five _ _ _ _ _ h.below (Nat.le_trans (Nat.le_succ _) (Nat.le_succ _))⟩

set_option maxHeartbeats 1000000 in
theorem pnt_sum (a b : Pt) (ha : inP a) (hb : inP b) (w : World) :
    Calls Try.prog 11 #[.string sumB', ptV a.x a.y, ptV b.x b.y] w fun e w' => e = .returned (valV (pntV ⟨wrapZ 16777216 (a.x + b.x), wrapZ 16777216 (a.y + b.y)⟩)) ∧ Below w.heap.size w w' := by
  obtain ⟨⟨a1, a2⟩, a3, a4⟩ := ha
  obtain ⟨⟨b1, b2⟩, b3, b4⟩ := hb
  have hw1 : IntKind.i64.wrap (a.x + b.x) = a.x + b.x := by rw [IntKind.wrap_i64]; omega
  have hw2 : IntKind.i64.wrap (a.y + b.y) = a.y + b.y := by rw [IntKind.wrap_i64]; omega
  have hc1 := fun W => (wrapped_any (a.x + b.x) 16777216 (by decide) (by decide) (by omega) (by omega) W).mono fun _ _ ⟨p, q⟩ => (⟨p, q.symm⟩ : _ ∧ _ = _)
  have hc2 := fun W => (wrapped_any (a.y + b.y) 16777216 (by decide) (by decide) (by omega) (by omega) W).mono fun _ _ ⟨p, q⟩ => (⟨p, q.symm⟩ : _ ∧ _ = _)
  obtain ⟨r1, hr1⟩ : ∃ r, r = wrapZ 16777216 (a.x + b.x) := ⟨_, rfl⟩
  obtain ⟨r2, hr2⟩ : ∃ r, r = wrapZ 16777216 (a.y + b.y) := ⟨_, rfl⟩
  rw [← hr1] at hc1 ⊢
  rw [← hr2] at hc2 ⊢
  have HC1 := Lib.hid hc1
  have HC2 := Lib.hid hc2
  obtain ⟨W1, hW1⟩ : ∃ W1, W1 = fW a b w := ⟨_, rfl⟩
  have hpf : PF a b w W1 := hW1 ▸ fW_pf a b w
  obtain ⟨k0, k1⟩ := two_cells hpf.a
  obtain ⟨l0, l1⟩ := two_cells hpf.b
  unfold fW ptB valB zeroV at hW1
  unfold ptV valV pntV sumB'
  have HPF := Lib.hid hpf
  clear hr1 hr2 hc1 hc2 hpf
  go_enter Try.func11, Try.ntmps11
  go_wp2_with (first | (rw [← hW1]; clear hW1))
  go_still_tail 14, (by kernel_rfl)
  still_call HC1.out _
  repeat still_step
  still_call HC2.out _
  repeat still_step
  refine wpStill_nil ?_
  change wpList _ _ _ _ _ W1.drew
  obtain ⟨w2, hW⟩ : ∃ w2, w2 = W1.drew := ⟨_, rfl⟩
  have hpf2 : PF a b w w2 := by rw [hW]; exact HPF.out.step (below_drew W1)
  rw [← hW]
  obtain ⟨c0, c1, c2, c3, c4⟩ := five_cells hpf2.c
  have f0 := free_at (o := 0) hpf2.c
  have f1 := free_at (o := 1) hpf2.c
  have f2 := free_at (o := 2) hpf2.c
  have f3 := free_at (o := 3) hpf2.c
  have f4 := free_at (o := 4) hpf2.c
  have HF := Lib.hid (hpf2.fin (.int .i64 2) (.int .i64 0) (.string ⟨#[]⟩) (.int .i64 r1) (.int .i64 r2))
  clear hW hpf2
  go_wp2_with fail
  exact bodyPost_ret (results_cell_row rfl _ _ (w.heap.size + 1 + 1) 25 #[.int .i64 2, .int .i64 0, .string ⟨#[]⟩, .int .i64 r1, .int .i64 r2] (0, 0) _ rfl HF.out.1 Try.underlying25 rfl (by kernel_rfl)) rfl ⟨rfl, HF.out.2⟩

set_option maxHeartbeats 1000000 in
theorem pnt_gcd (a b : Pt) (ha : inP a) (hb : inP b) (w : World) :
    Calls Try.prog 11 #[.string gcdB, ptV a.x a.y, ptV b.x b.y] w fun e w' => e = .returned (valV (pntV (comG a b))) ∧ Below w.heap.size w w' := by
  have HC := Lib.hid (common_any a b ha hb)
  obtain ⟨r, hr⟩ : ∃ r, r = comG a b := ⟨_, rfl⟩
  rw [← hr] at HC ⊢
  obtain ⟨W1, hW1⟩ : ∃ W1, W1 = fW a b w := ⟨_, rfl⟩
  have hpf : PF a b w W1 := hW1 ▸ fW_pf a b w
  obtain ⟨k0, k1⟩ := two_cells hpf.a
  obtain ⟨l0, l1⟩ := two_cells hpf.b
  unfold fW ptB valB zeroV at hW1
  unfold ptV at HC ⊢
  unfold valV pntV gcdB
  have HPF := Lib.hid hpf
  clear hr hpf
  go_enter Try.func11, Try.ntmps11
  go_wp2_with (first | (rw [← hW1]; clear hW1))
  refine (HC.out _).mono ?_
  rintro e w2 ⟨rfl, hb2⟩
  have hs2 : w.heap.size + 3 ≤ w2.heap.size := by
    have h1 := hb2.size
    have h2 := (Array.getElem?_eq_some_iff.1 HPF.out.c).1
    omega
  obtain ⟨w3, hW3⟩ : ∃ w3, w3 = w2.alloc (.cells #[.int .i64 r.x, .int .i64 r.y] 23) := ⟨_, rfl⟩
  have hpf2 : PF a b w w3 := by rw [hW3]; exact (HPF.out.step hb2).step ((Below.refl _ w2).alloc (Nat.le_refl _) _)
  have hn3 : w3.heap[w2.heap.size]? = some (.cells #[.int .i64 r.x, .int .i64 r.y] 23 (0, 0)) := by rw [hW3]; exact heap_alloc_new _ _
  obtain ⟨m0, m1⟩ := two_cells hn3
  obtain ⟨c0, c1, c2, c3, c4⟩ := five_cells hpf2.c
  have f0 := free_at (o := 0) hpf2.c
  have f1 := free_at (o := 1) hpf2.c
  have f2 := free_at (o := 2) hpf2.c
  have f3 := free_at (o := 3) hpf2.c
  have f4 := free_at (o := 4) hpf2.c
  have HF := Lib.hid (hpf2.fin (.int .i64 2) (.int .i64 0) (.string ⟨#[]⟩) (.int .i64 r.x) (.int .i64 r.y))
  clear hpf2 hn3 hb2
  go_wp2_with (first | (rw [← hW3]; clear hW3))
  exact bodyPost_ret (results_cell_row rfl _ _ (w.heap.size + 1 + 1) 25 #[.int .i64 2, .int .i64 0, .string ⟨#[]⟩, .int .i64 r.x, .int .i64 r.y] (0, 0) _ rfl HF.out.1 Try.underlying25 rfl (by kernel_rfl)) rfl ⟨rfl, HF.out.2⟩
end Go.Proofs.Ytejbpnhondpnfaa
