/- Values folded, walked: once for each word. -/
import Derived.Test.YtejbpnhondpnfaaFoldD
namespace Go.Proofs.Ytejbpnhondpnfaa
open Go.RowKit

def maxB : ByteArray := ⟨#[109, 97, 120]⟩
def minB : ByteArray := ⟨#[109, 105, 110]⟩
def foldsL : List ByteArray := [sumB', maxB, minB, gcdB]
def foldsO : Obj := .cells #[.string sumB', .string maxB, .string minB, .string gcdB] 9 (0, 0)

theorem folds_any (w : World) : Calls Try.prog 7 #[] w fun e w' => e = .returned (.slice (some ⟨w.heap.size, 0, none⟩) 4 4) ∧ w' = w.alloc foldsO := by
  unfold foldsO sumB' maxB minB gcdB
  go_enter Try.func7, Try.ntmps7
  go_wp2_with fail
  go_ret
  exact ⟨rfl, rfl⟩

theorem has_any (x : ByteArray) (hx : Lib.containsS foldsL x = true) (g : Nat) (W : World) (hg : W.heap[g]? = some foldsO) :
    Calls Try.prog 6 #[.slice (some ⟨g, 0, none⟩) 4 4, .string x] W fun e w' => e = .returned (.bool true) ∧ w' = W := by
  refine (Try.slices_Contains_string g 0 4 4 foldsL x W (by decide) (by decide) (fun j hj => ?_)).mono ?_
  · rw [Nat.zero_add]
    have hj4 : j < 4 := hj
    unfold foldsO at hg
    match j, hj4 with
    | 0, _ => simp [World.cell?, hg]; rfl
    | 1, _ => simp [World.cell?, hg]; rfl
    | 2, _ => simp [World.cell?, hg]; rfl
    | 3, _ => simp [World.cell?, hg]; rfl
  · rintro e w' ⟨rfl, rfl⟩
    have : foldsL.take 4 = foldsL := rfl
    rw [this, hx]
    exact ⟨rfl, rfl⟩

/-- What Fold holds. -/
structure PO (a b : Val) (w W : World) : Prop where
  below : Below w.heap.size w W
  a : W.heap[w.heap.size]? = some (.cells #[.int .i64 a.k, .int .i64 a.n, .string a.t, .int .i64 a.x, .int .i64 a.y] 25 (0, 0))
  b : W.heap[w.heap.size + 1]? = some (.cells #[.int .i64 b.k, .int .i64 b.n, .string b.t, .int .i64 b.x, .int .i64 b.y] 25 (0, 0))
  c : W.heap[w.heap.size + 1 + 1]? = some (.cells #[.int .i64 0, .int .i64 0, .string ⟨#[]⟩, .int .i64 0, .int .i64 0] 25 (0, 0))
theorem PO.step {a b : Val} {w W W' : World} (h : PO a b w W) (k : Below W.heap.size W W') : PO a b w W' :=
  ⟨h.below.trans (k.mono h.below.size), (k.block _ (Array.getElem?_eq_some_iff.1 h.a).1).trans h.a, (k.block _ (Array.getElem?_eq_some_iff.1 h.b).1).trans h.b, (k.block _ (Array.getElem?_eq_some_iff.1 h.c).1).trans h.c⟩
def oW (a b : Val) (w : World) : World := ((w.alloc (valB a)).alloc (valB b)).alloc (valB zeroV)
theorem oW_po (a b : Val) (w : World) : PO a b w (oW a b w) := by
  have h : (oW a b w).heap = ((w.heap.push (valB a)).push (valB b)).push (valB zeroV) := rfl
  refine ⟨(((Below.refl _ w).alloc (Nat.le_refl _) _).alloc (by rw [World.size_alloc]; omega) _).alloc (by rw [World.size_alloc, World.size_alloc]; omega) _, ?_, ?_, ?_⟩ <;> rw [h]
  · rw [Array.getElem?_push_lt (by rw [Array.size_push, Array.size_push]; omega), ← Array.getElem?_eq_getElem, Array.getElem?_push_lt (by rw [Array.size_push]; omega), ← Array.getElem?_eq_getElem, Array.getElem?_push_size]; rfl
  · rw [Array.getElem?_push_lt (by rw [Array.size_push, Array.size_push]; omega), ← Array.getElem?_eq_getElem]
    have := Array.getElem?_push_size (xs := w.heap.push (valB a)) (x := valB b)
    rw [Array.size_push] at this; exact this
  · have := Array.getElem?_push_size (xs := (w.heap.push (valB a)).push (valB b)) (x := valB zeroV)
    rw [Array.size_push, Array.size_push] at this; exact this
theorem PO.fin {a b : Val} {w W : World} (h : PO a b w W) (v : Val) :
    (((((W.setCell ⟨w.heap.size + 1 + 1, 0, none⟩ (.int .i64 v.k)).setCell ⟨w.heap.size + 1 + 1, 1, none⟩ (.int .i64 v.n)).setCell ⟨w.heap.size + 1 + 1, 2, none⟩ (.string v.t)).setCell ⟨w.heap.size + 1 + 1, 3, none⟩ (.int .i64 v.x)).setCell ⟨w.heap.size + 1 + 1, 4, none⟩ (.int .i64 v.y)).heap[w.heap.size + 1 + 1]? = some (.cells #[.int .i64 v.k, .int .i64 v.n, .string v.t, .int .i64 v.x, .int .i64 v.y] 25 (0, 0)) ∧
    Below w.heap.size w (((((W.setCell ⟨w.heap.size + 1 + 1, 0, none⟩ (.int .i64 v.k)).setCell ⟨w.heap.size + 1 + 1, 1, none⟩ (.int .i64 v.n)).setCell ⟨w.heap.size + 1 + 1, 2, none⟩ (.string v.t)).setCell ⟨w.heap.size + 1 + 1, 3, none⟩ (.int .i64 v.x)).setCell ⟨w.heap.size + 1 + 1, 4, none⟩ (.int .i64 v.y)) :=
  ⟨set_five _ _ _ _ _ h.c, below_five _ _ _ _ _ h.below (Nat.le_trans (Nat.le_succ _) (Nat.le_succ _))⟩

theorem right_int {v : Val} (h : rightV v = true) (hk : v.k = 0) : -9007199254740992 ≤ v.n ∧ v.n ≤ 9007199254740992 := by
  unfold rightV at h
  rw [if_pos hk] at h
  simp only [Bool.and_eq_true, decide_eq_true_eq] at h
  exact ⟨h.1, h.2.1⟩
theorem right_pnt {v : Val} (h : rightV v = true) (hk : v.k = 2) : inP ⟨v.x, v.y⟩ := by
  unfold rightV at h
  rw [if_neg (by omega), if_neg (by omega), if_pos hk] at h
  simp only [Bool.and_eq_true] at h
  exact ptR_in.1 h.1

/-- What Fold answers: the value and the error. -/
def foldV (j : Nat) (a b : Val) : Val × Int :=
  if rightV a = true ∧ rightV b = true then
    if a.k = b.k then
      if j = 1 then (if 0 < ordV a b then a else b, 0)
      else if j = 2 then (if ordV a b < 0 then a else b, 0)
      else if a.k = 0 then (numV (if j = 0 then wrapZ 9007199254740992 (a.n + b.n) else ((Int.gcd a.n b.n : Nat) : Int)), 0)
      else if a.k = 2 then (pntV (if j = 0 then ⟨wrapZ 16777216 (a.x + b.x), wrapZ 16777216 (a.y + b.y)⟩ else comG ⟨a.x, a.y⟩ ⟨b.x, b.y⟩), 0)
      else (zeroV, 13)
    else (zeroV, 13)
  else (zeroV, 1)

set_option maxHeartbeats 4000000 in
theorem fold_sum (a b : Val) (w : World) :
    Calls Try.prog 5 #[.string sumB', valV a, valV b] w fun e w' => e = .returned (.tuple #[valV (foldV 0 a b).1, .int .i64 (foldV 0 a b).2]) ∧ Below w.heap.size w w' := by
  obtain ⟨r, hr⟩ : ∃ r, r = foldV 0 a b := ⟨_, rfl⟩
  rw [← hr]
  have HR := Lib.hid hr
  have hra := Lib.hid (vright_any a)
  have hrb := Lib.hid (vright_any b)
  have hor := Lib.hid (order_any a b)
  have hco := Lib.hid (has_any sumB' (by kernel_rfl))
  obtain ⟨W1, hW1⟩ : ∃ W1, W1 = oW a b w := ⟨_, rfl⟩
  have hp1 : PO a b w W1 := hW1 ▸ oW_po a b w
  unfold valV at hra hrb hor ⊢
  unfold oW valB zeroV at hW1
  unfold sumB' at hco ⊢
  clear hr
  obtain ⟨w2, hw2⟩ : ∃ w2, w2 = W1.alloc foldsO := ⟨_, rfl⟩
  have hp2 : PO a b w w2 := by rw [hw2]; exact hp1.step ((Below.refl _ W1).alloc (Nat.le_refl _) _)
  have hg2 : w2.heap[W1.heap.size]? = some foldsO := by rw [hw2]; exact heap_alloc_new _ _
  have HC := Lib.hid (hco.out _ _ hg2)
  clear hg2 hp1 hco
  go_enter Try.func5, Try.ntmps5
  go_wp2_with (first | (rw [← hW1]; clear hW1))
  refine (folds_any W1).mono ?_
  rintro e w3 ⟨rfl, rfl⟩
  rw [← hw2]
  clear hw2
  obtain ⟨k0, k1, k2, k3, k4⟩ := five_cells hp2.a
  go_wp2_with fail
  refine HC.out.mono ?_
  rintro e w3 ⟨rfl, rfl⟩
  go_wp2_with fail
  refine (hra.out _).mono ?_
  rintro e w3 ⟨rfl, hb3⟩
  have hp3 := hp2.step hb3
  clear k0 k1 k2 k3 k4 hp2 hb3 HC
  cases hqa : rightV a with
  | false =>
    have hz : r = (zeroV, 1) := by rw [HR.out]; unfold foldV; rw [if_neg (by rw [hqa]; simp)]
    have HZ := Lib.hid hz
    obtain ⟨k0, k1, k2, k3, k4⟩ := five_cells hp3.a
    obtain ⟨l0, l1, l2, l3, l4⟩ := five_cells hp3.b
    obtain ⟨c0, c1, c2, c3, c4⟩ := five_cells hp3.c
    have f0 := free_at (o := 0) hp3.c
    have f1 := free_at (o := 1) hp3.c
    have f2 := free_at (o := 2) hp3.c
    have f3 := free_at (o := 3) hp3.c
    have f4 := free_at (o := 4) hp3.c
    have HF := Lib.hid (hp3.fin zeroV)
    clear hp3 hz hqa
    go_wp2_with fail
    exact bodyPost_ret (results_cell_slot rfl _ _ (w.heap.size + 1 + 1) 25 #[.int .i64 0, .int .i64 0, .string ⟨#[]⟩, .int .i64 0, .int .i64 0] _ (.int .i64 1) rfl rfl HF.out.1 Try.underlying25 rfl (by kernel_rfl)) rfl ⟨by rw [HZ.out]; rfl, HF.out.2⟩
  | true =>
    obtain ⟨l0, l1, l2, l3, l4⟩ := five_cells hp3.b
    go_wp2_with fail
    refine (hrb.out _).mono ?_
    rintro e w4 ⟨rfl, hb4⟩
    have hp4 := hp3.step hb4
    clear l0 l1 l2 l3 l4 hp3 hb4
    cases hqb : rightV b with
    | false =>
      have hz : r = (zeroV, 1) := by rw [HR.out]; unfold foldV; rw [if_neg (by rw [hqb]; simp)]
      have HZ := Lib.hid hz
      obtain ⟨k0, k1, k2, k3, k4⟩ := five_cells hp4.a
      obtain ⟨l0, l1, l2, l3, l4⟩ := five_cells hp4.b
      obtain ⟨c0, c1, c2, c3, c4⟩ := five_cells hp4.c
      have f0 := free_at (o := 0) hp4.c
      have f1 := free_at (o := 1) hp4.c
      have f2 := free_at (o := 2) hp4.c
      have f3 := free_at (o := 3) hp4.c
      have f4 := free_at (o := 4) hp4.c
      have HF := Lib.hid (hp4.fin zeroV)
      clear hp4 hz hqa hqb
      go_wp2_with fail
      exact bodyPost_ret (results_cell_slot rfl _ _ (w.heap.size + 1 + 1) 25 #[.int .i64 0, .int .i64 0, .string ⟨#[]⟩, .int .i64 0, .int .i64 0] _ (.int .i64 1) rfl rfl HF.out.1 Try.underlying25 rfl (by kernel_rfl)) rfl ⟨by rw [HZ.out]; rfl, HF.out.2⟩
    | true =>
      have hif := HR.out
      unfold foldV at hif
      rw [if_pos ⟨hqa, hqb⟩] at hif
      obtain ⟨k0, k1, k2, k3, k4⟩ := five_cells hp4.a
      obtain ⟨l0, l1, l2, l3, l4⟩ := five_cells hp4.b
      go_wp2_with fail
      refine (hor.out _).mono ?_
      rintro e w5 ⟨rfl, hb5⟩
      have hp5 := hp4.step hb5
      clear k0 k1 k2 k3 k4 l0 l1 l2 l3 l4 hp4 hb5
      obtain ⟨o, ho⟩ : ∃ o, o = ordV a b := ⟨_, rfl⟩
      rw [← ho] at hif ⊢
      clear ho
      obtain ⟨k0, k1, k2, k3, k4⟩ := five_cells hp5.a
      obtain ⟨l0, l1, l2, l3, l4⟩ := five_cells hp5.b
      obtain ⟨c0, c1, c2, c3, c4⟩ := five_cells hp5.c
      have f0 := free_at (o := 0) hp5.c
      have f1 := free_at (o := 1) hp5.c
      have f2 := free_at (o := 2) hp5.c
      have f3 := free_at (o := 3) hp5.c
      have f4 := free_at (o := 4) hp5.c
      by_cases hk : a.k = b.k
      · rw [if_pos hk] at hif
        have hkb : (a.k != b.k) = false := by rw [hk]; simp
        rw [if_neg (by decide), if_neg (by decide)] at hif
        by_cases hk0 : a.k = 0
        · rw [if_pos hk0, if_pos trivial] at hif
          have hnf := Lib.hid (num_sum a.n b.n (right_int hqa hk0) (right_int hqb (hk ▸ hk0)))
          obtain ⟨m, hm⟩ : ∃ m, m = wrapZ 9007199254740992 (a.n + b.n) := ⟨_, rfl⟩
          rw [← hm] at hif hnf
          have HZ := Lib.hid hif
          unfold valV numV sumB' at hnf
          clear hif hm hqa hqb
          go_wp2_with fail
          refine (hnf.out _).mono ?_
          rintro e w6 ⟨rfl, hb6⟩
          have hp6 := hp5.step hb6
          clear k0 k1 k2 k3 k4 l0 l1 l2 l3 l4 c0 c1 c2 c3 c4 f0 f1 f2 f3 f4 hp5 hb6
          obtain ⟨k0, k1, k2, k3, k4⟩ := five_cells hp6.a
          obtain ⟨l0, l1, l2, l3, l4⟩ := five_cells hp6.b
          obtain ⟨c0, c1, c2, c3, c4⟩ := five_cells hp6.c
          have f0 := free_at (o := 0) hp6.c
          have f1 := free_at (o := 1) hp6.c
          have f2 := free_at (o := 2) hp6.c
          have f3 := free_at (o := 3) hp6.c
          have f4 := free_at (o := 4) hp6.c
          have HF := Lib.hid (hp6.fin (numV m))
          clear hp6
          go_wp2_with fail
          exact bodyPost_ret (results_cell_slot rfl _ _ (w.heap.size + 1 + 1) 25 #[.int .i64 0, .int .i64 m, .string ⟨#[]⟩, .int .i64 0, .int .i64 0] _ (.int .i64 0) rfl rfl HF.out.1 Try.underlying25 rfl (by kernel_rfl)) rfl ⟨by rw [HZ.out]; rfl, HF.out.2⟩
        · rw [if_neg hk0] at hif
          by_cases hk2 : a.k = 2
          · rw [if_pos hk2, if_pos trivial] at hif
            have hnf := Lib.hid (pnt_sum ⟨a.x, a.y⟩ ⟨b.x, b.y⟩ (right_pnt hqa hk2) (right_pnt hqb (hk ▸ hk2)))
            obtain ⟨m, hm⟩ : ∃ m, m = (⟨wrapZ 16777216 (a.x + b.x), wrapZ 16777216 (a.y + b.y)⟩ : Pt) := ⟨_, rfl⟩
            simp only at hnf
            rw [← hm] at hif hnf
            have HZ := Lib.hid hif
            unfold valV pntV ptV sumB' at hnf
            clear hif hm hqa hqb
            go_wp2_with fail
            refine (hnf.out _).mono ?_
            rintro e w6 ⟨rfl, hb6⟩
            have hp6 := hp5.step hb6
            clear k0 k1 k2 k3 k4 l0 l1 l2 l3 l4 c0 c1 c2 c3 c4 f0 f1 f2 f3 f4 hp5 hb6
            obtain ⟨k0, k1, k2, k3, k4⟩ := five_cells hp6.a
            obtain ⟨l0, l1, l2, l3, l4⟩ := five_cells hp6.b
            obtain ⟨c0, c1, c2, c3, c4⟩ := five_cells hp6.c
            have f0 := free_at (o := 0) hp6.c
            have f1 := free_at (o := 1) hp6.c
            have f2 := free_at (o := 2) hp6.c
            have f3 := free_at (o := 3) hp6.c
            have f4 := free_at (o := 4) hp6.c
            have HF := Lib.hid (hp6.fin (pntV m))
            clear hp6
            go_wp2_with fail
            exact bodyPost_ret (results_cell_slot rfl _ _ (w.heap.size + 1 + 1) 25 #[.int .i64 2, .int .i64 0, .string ⟨#[]⟩, .int .i64 m.x, .int .i64 m.y] _ (.int .i64 0) rfl rfl HF.out.1 Try.underlying25 rfl (by kernel_rfl)) rfl ⟨by rw [HZ.out]; rfl, HF.out.2⟩
          · rw [if_neg hk2] at hif
            have HZ := Lib.hid hif
            have HF := Lib.hid (hp5.fin zeroV)
            clear hif hp5 hqa hqb
            go_wp2_with fail
            exact bodyPost_ret (results_cell_slot rfl _ _ (w.heap.size + 1 + 1) 25 #[.int .i64 0, .int .i64 0, .string ⟨#[]⟩, .int .i64 0, .int .i64 0] _ (.int .i64 13) rfl rfl HF.out.1 Try.underlying25 rfl (by kernel_rfl)) rfl ⟨by rw [HZ.out]; rfl, HF.out.2⟩
      · rw [if_neg hk] at hif
        have HZ := Lib.hid hif
        have HF := Lib.hid (hp5.fin zeroV)
        have hkb : (a.k != b.k) = true := by simp [hk]
        clear hif hp5 hqa hqb
        go_wp2_with fail
        exact bodyPost_ret (results_cell_slot rfl _ _ (w.heap.size + 1 + 1) 25 #[.int .i64 0, .int .i64 0, .string ⟨#[]⟩, .int .i64 0, .int .i64 0] _ (.int .i64 13) rfl rfl HF.out.1 Try.underlying25 rfl (by kernel_rfl)) rfl ⟨by rw [HZ.out]; rfl, HF.out.2⟩

set_option maxHeartbeats 4000000 in
theorem fold_max (a b : Val) (w : World) :
    Calls Try.prog 5 #[.string maxB, valV a, valV b] w fun e w' => e = .returned (.tuple #[valV (foldV 1 a b).1, .int .i64 (foldV 1 a b).2]) ∧ Below w.heap.size w w' := by
  obtain ⟨r, hr⟩ : ∃ r, r = foldV 1 a b := ⟨_, rfl⟩
  rw [← hr]
  have HR := Lib.hid hr
  have hra := Lib.hid (vright_any a)
  have hrb := Lib.hid (vright_any b)
  have hor := Lib.hid (order_any a b)
  have hco := Lib.hid (has_any maxB (by kernel_rfl))
  obtain ⟨W1, hW1⟩ : ∃ W1, W1 = oW a b w := ⟨_, rfl⟩
  have hp1 : PO a b w W1 := hW1 ▸ oW_po a b w
  unfold valV at hra hrb hor ⊢
  unfold oW valB zeroV at hW1
  unfold maxB at hco ⊢
  clear hr
  obtain ⟨w2, hw2⟩ : ∃ w2, w2 = W1.alloc foldsO := ⟨_, rfl⟩
  have hp2 : PO a b w w2 := by rw [hw2]; exact hp1.step ((Below.refl _ W1).alloc (Nat.le_refl _) _)
  have hg2 : w2.heap[W1.heap.size]? = some foldsO := by rw [hw2]; exact heap_alloc_new _ _
  have HC := Lib.hid (hco.out _ _ hg2)
  clear hg2 hp1 hco
  go_enter Try.func5, Try.ntmps5
  go_wp2_with (first | (rw [← hW1]; clear hW1))
  refine (folds_any W1).mono ?_
  rintro e w3 ⟨rfl, rfl⟩
  rw [← hw2]
  clear hw2
  obtain ⟨k0, k1, k2, k3, k4⟩ := five_cells hp2.a
  go_wp2_with fail
  refine HC.out.mono ?_
  rintro e w3 ⟨rfl, rfl⟩
  go_wp2_with fail
  refine (hra.out _).mono ?_
  rintro e w3 ⟨rfl, hb3⟩
  have hp3 := hp2.step hb3
  clear k0 k1 k2 k3 k4 hp2 hb3 HC
  cases hqa : rightV a with
  | false =>
    have hz : r = (zeroV, 1) := by rw [HR.out]; unfold foldV; rw [if_neg (by rw [hqa]; simp)]
    have HZ := Lib.hid hz
    obtain ⟨k0, k1, k2, k3, k4⟩ := five_cells hp3.a
    obtain ⟨l0, l1, l2, l3, l4⟩ := five_cells hp3.b
    obtain ⟨c0, c1, c2, c3, c4⟩ := five_cells hp3.c
    have f0 := free_at (o := 0) hp3.c
    have f1 := free_at (o := 1) hp3.c
    have f2 := free_at (o := 2) hp3.c
    have f3 := free_at (o := 3) hp3.c
    have f4 := free_at (o := 4) hp3.c
    have HF := Lib.hid (hp3.fin zeroV)
    clear hp3 hz hqa
    go_wp2_with fail
    exact bodyPost_ret (results_cell_slot rfl _ _ (w.heap.size + 1 + 1) 25 #[.int .i64 0, .int .i64 0, .string ⟨#[]⟩, .int .i64 0, .int .i64 0] _ (.int .i64 1) rfl rfl HF.out.1 Try.underlying25 rfl (by kernel_rfl)) rfl ⟨by rw [HZ.out]; rfl, HF.out.2⟩
  | true =>
    obtain ⟨l0, l1, l2, l3, l4⟩ := five_cells hp3.b
    go_wp2_with fail
    refine (hrb.out _).mono ?_
    rintro e w4 ⟨rfl, hb4⟩
    have hp4 := hp3.step hb4
    clear l0 l1 l2 l3 l4 hp3 hb4
    cases hqb : rightV b with
    | false =>
      have hz : r = (zeroV, 1) := by rw [HR.out]; unfold foldV; rw [if_neg (by rw [hqb]; simp)]
      have HZ := Lib.hid hz
      obtain ⟨k0, k1, k2, k3, k4⟩ := five_cells hp4.a
      obtain ⟨l0, l1, l2, l3, l4⟩ := five_cells hp4.b
      obtain ⟨c0, c1, c2, c3, c4⟩ := five_cells hp4.c
      have f0 := free_at (o := 0) hp4.c
      have f1 := free_at (o := 1) hp4.c
      have f2 := free_at (o := 2) hp4.c
      have f3 := free_at (o := 3) hp4.c
      have f4 := free_at (o := 4) hp4.c
      have HF := Lib.hid (hp4.fin zeroV)
      clear hp4 hz hqa hqb
      go_wp2_with fail
      exact bodyPost_ret (results_cell_slot rfl _ _ (w.heap.size + 1 + 1) 25 #[.int .i64 0, .int .i64 0, .string ⟨#[]⟩, .int .i64 0, .int .i64 0] _ (.int .i64 1) rfl rfl HF.out.1 Try.underlying25 rfl (by kernel_rfl)) rfl ⟨by rw [HZ.out]; rfl, HF.out.2⟩
    | true =>
      have hif := HR.out
      unfold foldV at hif
      rw [if_pos ⟨hqa, hqb⟩] at hif
      obtain ⟨k0, k1, k2, k3, k4⟩ := five_cells hp4.a
      obtain ⟨l0, l1, l2, l3, l4⟩ := five_cells hp4.b
      go_wp2_with fail
      refine (hor.out _).mono ?_
      rintro e w5 ⟨rfl, hb5⟩
      have hp5 := hp4.step hb5
      clear k0 k1 k2 k3 k4 l0 l1 l2 l3 l4 hp4 hb5
      obtain ⟨o, ho⟩ : ∃ o, o = ordV a b := ⟨_, rfl⟩
      rw [← ho] at hif ⊢
      clear ho
      obtain ⟨k0, k1, k2, k3, k4⟩ := five_cells hp5.a
      obtain ⟨l0, l1, l2, l3, l4⟩ := five_cells hp5.b
      obtain ⟨c0, c1, c2, c3, c4⟩ := five_cells hp5.c
      have f0 := free_at (o := 0) hp5.c
      have f1 := free_at (o := 1) hp5.c
      have f2 := free_at (o := 2) hp5.c
      have f3 := free_at (o := 3) hp5.c
      have f4 := free_at (o := 4) hp5.c
      by_cases hk : a.k = b.k
      · rw [if_pos hk] at hif
        have hkb : (a.k != b.k) = false := by rw [hk]; simp
        rw [if_pos trivial] at hif
        by_cases hs : 0 < o
        · rw [if_pos hs] at hif
          have HZ := Lib.hid hif
          have HF := Lib.hid (hp5.fin a)
          clear hif hp5 hqa hqb hk
          go_wp2_with fail
          exact bodyPost_ret (results_cell_slot rfl _ _ (w.heap.size + 1 + 1) 25 #[.int .i64 a.k, .int .i64 a.n, .string a.t, .int .i64 a.x, .int .i64 a.y] _ (.int .i64 0) rfl rfl HF.out.1 Try.underlying25 rfl (by kernel_rfl)) rfl ⟨by rw [HZ.out], HF.out.2⟩
        · rw [if_neg hs] at hif
          have HZ := Lib.hid hif
          have HF := Lib.hid (hp5.fin b)
          clear hif hp5 hqa hqb hk
          go_wp2_with fail
          exact bodyPost_ret (results_cell_slot rfl _ _ (w.heap.size + 1 + 1) 25 #[.int .i64 b.k, .int .i64 b.n, .string b.t, .int .i64 b.x, .int .i64 b.y] _ (.int .i64 0) rfl rfl HF.out.1 Try.underlying25 rfl (by kernel_rfl)) rfl ⟨by rw [HZ.out], HF.out.2⟩
      · rw [if_neg hk] at hif
        have HZ := Lib.hid hif
        have HF := Lib.hid (hp5.fin zeroV)
        have hkb : (a.k != b.k) = true := by simp [hk]
        clear hif hp5 hqa hqb
        go_wp2_with fail
        exact bodyPost_ret (results_cell_slot rfl _ _ (w.heap.size + 1 + 1) 25 #[.int .i64 0, .int .i64 0, .string ⟨#[]⟩, .int .i64 0, .int .i64 0] _ (.int .i64 13) rfl rfl HF.out.1 Try.underlying25 rfl (by kernel_rfl)) rfl ⟨by rw [HZ.out]; rfl, HF.out.2⟩

set_option maxHeartbeats 4000000 in
theorem fold_min (a b : Val) (w : World) :
    Calls Try.prog 5 #[.string minB, valV a, valV b] w fun e w' => e = .returned (.tuple #[valV (foldV 2 a b).1, .int .i64 (foldV 2 a b).2]) ∧ Below w.heap.size w w' := by
  obtain ⟨r, hr⟩ : ∃ r, r = foldV 2 a b := ⟨_, rfl⟩
  rw [← hr]
  have HR := Lib.hid hr
  have hra := Lib.hid (vright_any a)
  have hrb := Lib.hid (vright_any b)
  have hor := Lib.hid (order_any a b)
  have hco := Lib.hid (has_any minB (by kernel_rfl))
  obtain ⟨W1, hW1⟩ : ∃ W1, W1 = oW a b w := ⟨_, rfl⟩
  have hp1 : PO a b w W1 := hW1 ▸ oW_po a b w
  unfold valV at hra hrb hor ⊢
  unfold oW valB zeroV at hW1
  unfold minB at hco ⊢
  clear hr
  obtain ⟨w2, hw2⟩ : ∃ w2, w2 = W1.alloc foldsO := ⟨_, rfl⟩
  have hp2 : PO a b w w2 := by rw [hw2]; exact hp1.step ((Below.refl _ W1).alloc (Nat.le_refl _) _)
  have hg2 : w2.heap[W1.heap.size]? = some foldsO := by rw [hw2]; exact heap_alloc_new _ _
  have HC := Lib.hid (hco.out _ _ hg2)
  clear hg2 hp1 hco
  go_enter Try.func5, Try.ntmps5
  go_wp2_with (first | (rw [← hW1]; clear hW1))
  refine (folds_any W1).mono ?_
  rintro e w3 ⟨rfl, rfl⟩
  rw [← hw2]
  clear hw2
  obtain ⟨k0, k1, k2, k3, k4⟩ := five_cells hp2.a
  go_wp2_with fail
  refine HC.out.mono ?_
  rintro e w3 ⟨rfl, rfl⟩
  go_wp2_with fail
  refine (hra.out _).mono ?_
  rintro e w3 ⟨rfl, hb3⟩
  have hp3 := hp2.step hb3
  clear k0 k1 k2 k3 k4 hp2 hb3 HC
  cases hqa : rightV a with
  | false =>
    have hz : r = (zeroV, 1) := by rw [HR.out]; unfold foldV; rw [if_neg (by rw [hqa]; simp)]
    have HZ := Lib.hid hz
    obtain ⟨k0, k1, k2, k3, k4⟩ := five_cells hp3.a
    obtain ⟨l0, l1, l2, l3, l4⟩ := five_cells hp3.b
    obtain ⟨c0, c1, c2, c3, c4⟩ := five_cells hp3.c
    have f0 := free_at (o := 0) hp3.c
    have f1 := free_at (o := 1) hp3.c
    have f2 := free_at (o := 2) hp3.c
    have f3 := free_at (o := 3) hp3.c
    have f4 := free_at (o := 4) hp3.c
    have HF := Lib.hid (hp3.fin zeroV)
    clear hp3 hz hqa
    go_wp2_with fail
    exact bodyPost_ret (results_cell_slot rfl _ _ (w.heap.size + 1 + 1) 25 #[.int .i64 0, .int .i64 0, .string ⟨#[]⟩, .int .i64 0, .int .i64 0] _ (.int .i64 1) rfl rfl HF.out.1 Try.underlying25 rfl (by kernel_rfl)) rfl ⟨by rw [HZ.out]; rfl, HF.out.2⟩
  | true =>
    obtain ⟨l0, l1, l2, l3, l4⟩ := five_cells hp3.b
    go_wp2_with fail
    refine (hrb.out _).mono ?_
    rintro e w4 ⟨rfl, hb4⟩
    have hp4 := hp3.step hb4
    clear l0 l1 l2 l3 l4 hp3 hb4
    cases hqb : rightV b with
    | false =>
      have hz : r = (zeroV, 1) := by rw [HR.out]; unfold foldV; rw [if_neg (by rw [hqb]; simp)]
      have HZ := Lib.hid hz
      obtain ⟨k0, k1, k2, k3, k4⟩ := five_cells hp4.a
      obtain ⟨l0, l1, l2, l3, l4⟩ := five_cells hp4.b
      obtain ⟨c0, c1, c2, c3, c4⟩ := five_cells hp4.c
      have f0 := free_at (o := 0) hp4.c
      have f1 := free_at (o := 1) hp4.c
      have f2 := free_at (o := 2) hp4.c
      have f3 := free_at (o := 3) hp4.c
      have f4 := free_at (o := 4) hp4.c
      have HF := Lib.hid (hp4.fin zeroV)
      clear hp4 hz hqa hqb
      go_wp2_with fail
      exact bodyPost_ret (results_cell_slot rfl _ _ (w.heap.size + 1 + 1) 25 #[.int .i64 0, .int .i64 0, .string ⟨#[]⟩, .int .i64 0, .int .i64 0] _ (.int .i64 1) rfl rfl HF.out.1 Try.underlying25 rfl (by kernel_rfl)) rfl ⟨by rw [HZ.out]; rfl, HF.out.2⟩
    | true =>
      have hif := HR.out
      unfold foldV at hif
      rw [if_pos ⟨hqa, hqb⟩] at hif
      obtain ⟨k0, k1, k2, k3, k4⟩ := five_cells hp4.a
      obtain ⟨l0, l1, l2, l3, l4⟩ := five_cells hp4.b
      go_wp2_with fail
      refine (hor.out _).mono ?_
      rintro e w5 ⟨rfl, hb5⟩
      have hp5 := hp4.step hb5
      clear k0 k1 k2 k3 k4 l0 l1 l2 l3 l4 hp4 hb5
      obtain ⟨o, ho⟩ : ∃ o, o = ordV a b := ⟨_, rfl⟩
      rw [← ho] at hif ⊢
      clear ho
      obtain ⟨k0, k1, k2, k3, k4⟩ := five_cells hp5.a
      obtain ⟨l0, l1, l2, l3, l4⟩ := five_cells hp5.b
      obtain ⟨c0, c1, c2, c3, c4⟩ := five_cells hp5.c
      have f0 := free_at (o := 0) hp5.c
      have f1 := free_at (o := 1) hp5.c
      have f2 := free_at (o := 2) hp5.c
      have f3 := free_at (o := 3) hp5.c
      have f4 := free_at (o := 4) hp5.c
      by_cases hk : a.k = b.k
      · rw [if_pos hk] at hif
        have hkb : (a.k != b.k) = false := by rw [hk]; simp
        rw [if_neg (by decide), if_pos trivial] at hif
        by_cases hs : o < 0
        · rw [if_pos hs] at hif
          have HZ := Lib.hid hif
          have HF := Lib.hid (hp5.fin a)
          clear hif hp5 hqa hqb hk
          go_wp2_with fail
          exact bodyPost_ret (results_cell_slot rfl _ _ (w.heap.size + 1 + 1) 25 #[.int .i64 a.k, .int .i64 a.n, .string a.t, .int .i64 a.x, .int .i64 a.y] _ (.int .i64 0) rfl rfl HF.out.1 Try.underlying25 rfl (by kernel_rfl)) rfl ⟨by rw [HZ.out], HF.out.2⟩
        · rw [if_neg hs] at hif
          have HZ := Lib.hid hif
          have HF := Lib.hid (hp5.fin b)
          clear hif hp5 hqa hqb hk
          go_wp2_with fail
          exact bodyPost_ret (results_cell_slot rfl _ _ (w.heap.size + 1 + 1) 25 #[.int .i64 b.k, .int .i64 b.n, .string b.t, .int .i64 b.x, .int .i64 b.y] _ (.int .i64 0) rfl rfl HF.out.1 Try.underlying25 rfl (by kernel_rfl)) rfl ⟨by rw [HZ.out], HF.out.2⟩
      · rw [if_neg hk] at hif
        have HZ := Lib.hid hif
        have HF := Lib.hid (hp5.fin zeroV)
        have hkb : (a.k != b.k) = true := by simp [hk]
        clear hif hp5 hqa hqb
        go_wp2_with fail
        exact bodyPost_ret (results_cell_slot rfl _ _ (w.heap.size + 1 + 1) 25 #[.int .i64 0, .int .i64 0, .string ⟨#[]⟩, .int .i64 0, .int .i64 0] _ (.int .i64 13) rfl rfl HF.out.1 Try.underlying25 rfl (by kernel_rfl)) rfl ⟨by rw [HZ.out]; rfl, HF.out.2⟩

set_option maxHeartbeats 4000000 in
theorem fold_gcd (a b : Val) (w : World) :
    Calls Try.prog 5 #[.string gcdB, valV a, valV b] w fun e w' => e = .returned (.tuple #[valV (foldV 3 a b).1, .int .i64 (foldV 3 a b).2]) ∧ Below w.heap.size w w' := by
  obtain ⟨r, hr⟩ : ∃ r, r = foldV 3 a b := ⟨_, rfl⟩
  rw [← hr]
  have HR := Lib.hid hr
  have hra := Lib.hid (vright_any a)
  have hrb := Lib.hid (vright_any b)
  have hor := Lib.hid (order_any a b)
  have hco := Lib.hid (has_any gcdB (by kernel_rfl))
  obtain ⟨W1, hW1⟩ : ∃ W1, W1 = oW a b w := ⟨_, rfl⟩
  have hp1 : PO a b w W1 := hW1 ▸ oW_po a b w
  unfold valV at hra hrb hor ⊢
  unfold oW valB zeroV at hW1
  unfold gcdB at hco ⊢
  clear hr
  obtain ⟨w2, hw2⟩ : ∃ w2, w2 = W1.alloc foldsO := ⟨_, rfl⟩
  have hp2 : PO a b w w2 := by rw [hw2]; exact hp1.step ((Below.refl _ W1).alloc (Nat.le_refl _) _)
  have hg2 : w2.heap[W1.heap.size]? = some foldsO := by rw [hw2]; exact heap_alloc_new _ _
  have HC := Lib.hid (hco.out _ _ hg2)
  clear hg2 hp1 hco
  go_enter Try.func5, Try.ntmps5
  go_wp2_with (first | (rw [← hW1]; clear hW1))
  refine (folds_any W1).mono ?_
  rintro e w3 ⟨rfl, rfl⟩
  rw [← hw2]
  clear hw2
  obtain ⟨k0, k1, k2, k3, k4⟩ := five_cells hp2.a
  go_wp2_with fail
  refine HC.out.mono ?_
  rintro e w3 ⟨rfl, rfl⟩
  go_wp2_with fail
  refine (hra.out _).mono ?_
  rintro e w3 ⟨rfl, hb3⟩
  have hp3 := hp2.step hb3
  clear k0 k1 k2 k3 k4 hp2 hb3 HC
  cases hqa : rightV a with
  | false =>
    have hz : r = (zeroV, 1) := by rw [HR.out]; unfold foldV; rw [if_neg (by rw [hqa]; simp)]
    have HZ := Lib.hid hz
    obtain ⟨k0, k1, k2, k3, k4⟩ := five_cells hp3.a
    obtain ⟨l0, l1, l2, l3, l4⟩ := five_cells hp3.b
    obtain ⟨c0, c1, c2, c3, c4⟩ := five_cells hp3.c
    have f0 := free_at (o := 0) hp3.c
    have f1 := free_at (o := 1) hp3.c
    have f2 := free_at (o := 2) hp3.c
    have f3 := free_at (o := 3) hp3.c
    have f4 := free_at (o := 4) hp3.c
    have HF := Lib.hid (hp3.fin zeroV)
    clear hp3 hz hqa
    go_wp2_with fail
    exact bodyPost_ret (results_cell_slot rfl _ _ (w.heap.size + 1 + 1) 25 #[.int .i64 0, .int .i64 0, .string ⟨#[]⟩, .int .i64 0, .int .i64 0] _ (.int .i64 1) rfl rfl HF.out.1 Try.underlying25 rfl (by kernel_rfl)) rfl ⟨by rw [HZ.out]; rfl, HF.out.2⟩
  | true =>
    obtain ⟨l0, l1, l2, l3, l4⟩ := five_cells hp3.b
    go_wp2_with fail
    refine (hrb.out _).mono ?_
    rintro e w4 ⟨rfl, hb4⟩
    have hp4 := hp3.step hb4
    clear l0 l1 l2 l3 l4 hp3 hb4
    cases hqb : rightV b with
    | false =>
      have hz : r = (zeroV, 1) := by rw [HR.out]; unfold foldV; rw [if_neg (by rw [hqb]; simp)]
      have HZ := Lib.hid hz
      obtain ⟨k0, k1, k2, k3, k4⟩ := five_cells hp4.a
      obtain ⟨l0, l1, l2, l3, l4⟩ := five_cells hp4.b
      obtain ⟨c0, c1, c2, c3, c4⟩ := five_cells hp4.c
      have f0 := free_at (o := 0) hp4.c
      have f1 := free_at (o := 1) hp4.c
      have f2 := free_at (o := 2) hp4.c
      have f3 := free_at (o := 3) hp4.c
      have f4 := free_at (o := 4) hp4.c
      have HF := Lib.hid (hp4.fin zeroV)
      clear hp4 hz hqa hqb
      go_wp2_with fail
      exact bodyPost_ret (results_cell_slot rfl _ _ (w.heap.size + 1 + 1) 25 #[.int .i64 0, .int .i64 0, .string ⟨#[]⟩, .int .i64 0, .int .i64 0] _ (.int .i64 1) rfl rfl HF.out.1 Try.underlying25 rfl (by kernel_rfl)) rfl ⟨by rw [HZ.out]; rfl, HF.out.2⟩
    | true =>
      have hif := HR.out
      unfold foldV at hif
      rw [if_pos ⟨hqa, hqb⟩] at hif
      obtain ⟨k0, k1, k2, k3, k4⟩ := five_cells hp4.a
      obtain ⟨l0, l1, l2, l3, l4⟩ := five_cells hp4.b
      go_wp2_with fail
      refine (hor.out _).mono ?_
      rintro e w5 ⟨rfl, hb5⟩
      have hp5 := hp4.step hb5
      clear k0 k1 k2 k3 k4 l0 l1 l2 l3 l4 hp4 hb5
      obtain ⟨o, ho⟩ : ∃ o, o = ordV a b := ⟨_, rfl⟩
      rw [← ho] at hif ⊢
      clear ho
      obtain ⟨k0, k1, k2, k3, k4⟩ := five_cells hp5.a
      obtain ⟨l0, l1, l2, l3, l4⟩ := five_cells hp5.b
      obtain ⟨c0, c1, c2, c3, c4⟩ := five_cells hp5.c
      have f0 := free_at (o := 0) hp5.c
      have f1 := free_at (o := 1) hp5.c
      have f2 := free_at (o := 2) hp5.c
      have f3 := free_at (o := 3) hp5.c
      have f4 := free_at (o := 4) hp5.c
      by_cases hk : a.k = b.k
      · rw [if_pos hk] at hif
        have hkb : (a.k != b.k) = false := by rw [hk]; simp
        rw [if_neg (by decide), if_neg (by decide)] at hif
        by_cases hk0 : a.k = 0
        · rw [if_pos hk0, if_neg (by decide)] at hif
          have hnf := Lib.hid (num_gcd a.n b.n (right_int hqa hk0) (right_int hqb (hk ▸ hk0)))
          obtain ⟨m, hm⟩ : ∃ m, m = ((Int.gcd a.n b.n : Nat) : Int) := ⟨_, rfl⟩
          rw [← hm] at hif hnf
          have HZ := Lib.hid hif
          unfold valV numV gcdB at hnf
          clear hif hm hqa hqb
          go_wp2_with fail
          refine (hnf.out _).mono ?_
          rintro e w6 ⟨rfl, hb6⟩
          have hp6 := hp5.step hb6
          clear k0 k1 k2 k3 k4 l0 l1 l2 l3 l4 c0 c1 c2 c3 c4 f0 f1 f2 f3 f4 hp5 hb6
          obtain ⟨k0, k1, k2, k3, k4⟩ := five_cells hp6.a
          obtain ⟨l0, l1, l2, l3, l4⟩ := five_cells hp6.b
          obtain ⟨c0, c1, c2, c3, c4⟩ := five_cells hp6.c
          have f0 := free_at (o := 0) hp6.c
          have f1 := free_at (o := 1) hp6.c
          have f2 := free_at (o := 2) hp6.c
          have f3 := free_at (o := 3) hp6.c
          have f4 := free_at (o := 4) hp6.c
          have HF := Lib.hid (hp6.fin (numV m))
          clear hp6
          go_wp2_with fail
          exact bodyPost_ret (results_cell_slot rfl _ _ (w.heap.size + 1 + 1) 25 #[.int .i64 0, .int .i64 m, .string ⟨#[]⟩, .int .i64 0, .int .i64 0] _ (.int .i64 0) rfl rfl HF.out.1 Try.underlying25 rfl (by kernel_rfl)) rfl ⟨by rw [HZ.out]; rfl, HF.out.2⟩
        · rw [if_neg hk0] at hif
          by_cases hk2 : a.k = 2
          · rw [if_pos hk2, if_neg (by decide)] at hif
            have hnf := Lib.hid (pnt_gcd ⟨a.x, a.y⟩ ⟨b.x, b.y⟩ (right_pnt hqa hk2) (right_pnt hqb (hk ▸ hk2)))
            obtain ⟨m, hm⟩ : ∃ m, m = comG ⟨a.x, a.y⟩ ⟨b.x, b.y⟩ := ⟨_, rfl⟩
            simp only at hnf
            rw [← hm] at hif hnf
            have HZ := Lib.hid hif
            unfold valV pntV ptV gcdB at hnf
            clear hif hm hqa hqb
            go_wp2_with fail
            refine (hnf.out _).mono ?_
            rintro e w6 ⟨rfl, hb6⟩
            have hp6 := hp5.step hb6
            clear k0 k1 k2 k3 k4 l0 l1 l2 l3 l4 c0 c1 c2 c3 c4 f0 f1 f2 f3 f4 hp5 hb6
            obtain ⟨k0, k1, k2, k3, k4⟩ := five_cells hp6.a
            obtain ⟨l0, l1, l2, l3, l4⟩ := five_cells hp6.b
            obtain ⟨c0, c1, c2, c3, c4⟩ := five_cells hp6.c
            have f0 := free_at (o := 0) hp6.c
            have f1 := free_at (o := 1) hp6.c
            have f2 := free_at (o := 2) hp6.c
            have f3 := free_at (o := 3) hp6.c
            have f4 := free_at (o := 4) hp6.c
            have HF := Lib.hid (hp6.fin (pntV m))
            clear hp6
            go_wp2_with fail
            exact bodyPost_ret (results_cell_slot rfl _ _ (w.heap.size + 1 + 1) 25 #[.int .i64 2, .int .i64 0, .string ⟨#[]⟩, .int .i64 m.x, .int .i64 m.y] _ (.int .i64 0) rfl rfl HF.out.1 Try.underlying25 rfl (by kernel_rfl)) rfl ⟨by rw [HZ.out]; rfl, HF.out.2⟩
          · rw [if_neg hk2] at hif
            have HZ := Lib.hid hif
            have HF := Lib.hid (hp5.fin zeroV)
            clear hif hp5 hqa hqb
            go_wp2_with fail
            exact bodyPost_ret (results_cell_slot rfl _ _ (w.heap.size + 1 + 1) 25 #[.int .i64 0, .int .i64 0, .string ⟨#[]⟩, .int .i64 0, .int .i64 0] _ (.int .i64 13) rfl rfl HF.out.1 Try.underlying25 rfl (by kernel_rfl)) rfl ⟨by rw [HZ.out]; rfl, HF.out.2⟩
      · rw [if_neg hk] at hif
        have HZ := Lib.hid hif
        have HF := Lib.hid (hp5.fin zeroV)
        have hkb : (a.k != b.k) = true := by simp [hk]
        clear hif hp5 hqa hqb
        go_wp2_with fail
        exact bodyPost_ret (results_cell_slot rfl _ _ (w.heap.size + 1 + 1) 25 #[.int .i64 0, .int .i64 0, .string ⟨#[]⟩, .int .i64 0, .int .i64 0] _ (.int .i64 13) rfl rfl HF.out.1 Try.underlying25 rfl (by kernel_rfl)) rfl ⟨by rw [HZ.out]; rfl, HF.out.2⟩

end Go.Proofs.Ytejbpnhondpnfaa
