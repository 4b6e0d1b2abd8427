/- ref.With. -/
import Derived.Test.YtkcjhjoodincbaaNetP
import Derived.Outline
namespace Go.Proofs.Ytkcjhjoodincbaa
open Go.RowKit

theorem with_below {w w1 w2 : World} {v : Value} {n : Nat} {xs : List Value} {o : Obj} (h1 : Chg (fun k => some k = (Value.slice none 0 0).ownBlock) w w1) (ho : w1.ownsRow w.heap.size 9 1 v n xs) (h2 : Chg (fun k => some k = v.ownBlock) (w1.alloc o) w2) : Below w.heap.size w w2 :=
  (((h1.mono (T := fun _ => False) (fun _ h => by cases h)).alloc o).trans h2 (fun k hk hlt => by have := own_lt ho k hk; omega)).below (Nat.le_refl _) (fun _ h => h.elim)

theorem with_src {w : World} {a : Option Addr} {n c : Nat} {l : List ByteArray} (h : StrsAt w (.slice a n c) l) : Src Try.prog 1 27 (.slice a n c) n (l.map Value.string) w := by
  obtain ⟨a', c', e, h1, h2⟩ := h.val
  simp only [Value.slice.injEq] at e
  obtain ⟨rfl, rfl, rfl⟩ := e
  have := strs_src (P := Try.prog) Try.underlying27 h l.length (Nat.le_refl _)
  rwa [List.take_length] at this

theorem with_done {w w2 w3 : World} {l : List ByteArray} {i : Nat} {s : ByteArray} {v2 v3 : Value} (hi : i ≤ l.length) (hb : Below w.heap.size w w2) (ho2 : w2.ownsRow w.heap.size 9 1 v2 (i + 1) ((l.take i).map Value.string ++ [.string s]))
    (ho3 : w3.ownsRow w.heap.size 9 1 v3 (i + 1 + (l.length - i)) (((l.take i).map Value.string ++ [.string s]) ++ (l.drop i).map Value.string)) (hc : Chg (fun k => some k = v2.ownBlock) w2 w3) : NewStrs (l.take i ++ s :: l.drop i) w (.returned v3) w3 := by
  refine ⟨v3, rfl, ?_, hb.trans (hc.below hb.size (fun k hk => (own_lt ho2 k hk).1))⟩
  have e1 : (l.take i ++ s :: l.drop i).length = i + 1 + (l.length - i) := by simp; omega
  rw [e1]
  simpa using ho3

theorem with_some (b off c : Nat) (l : List ByteArray) (i : Nat) (s : ByteArray) (w : World) (h : StrsAt w (.slice (some ⟨b, off, none⟩) l.length c) l) (hl : l.length ≤ 100000) (hi : i ≤ l.length) :
    Calls Try.prog 22 #[.slice (some ⟨b, off, none⟩) l.length c, .int .i64 i, .string s] w (NewStrs (l.take i ++ s :: l.drop i) w) := by
  obtain ⟨i0, hi0, hz0, hz1, hz2⟩ := info_parts Try.info9
  obtain ⟨hc1, hc2⟩ : l.length ≤ c ∧ c ≤ maxLen := by
    obtain ⟨a, c', e, x1, x2⟩ := h.val
    simp only [Value.slice.injEq] at e
    obtain ⟨_, _, rfl⟩ := e
    exact ⟨x1, x2⟩
  have htail : i < c → StrsAt w (.slice (some ⟨b, off + i, none⟩) (l.length - i) (c - i)) (l.drop i) := fun _ =>
    .mk _ (by simp) (by simp; omega) (by omega) (fun j t ht => by
      rw [List.getElem?_drop] at ht
      obtain ⟨b', off', e, hc⟩ := strs_cell h (i + j) t ht
      simp only [Option.some.injEq, Addr.mk.injEq, and_true] at e
      obtain ⟨rfl, rfl⟩ := e
      rw [Nat.add_assoc]; exact hc)
  have htail0 : ¬ i < c → StrsAt w (.slice (some ⟨b, off, none⟩) 0 0) (l.drop i) := fun hn =>
    StrsAt.mk (l := l.drop i) 0 (by simp; omega) (by simp; omega) (by decide) (fun j t ht => by
      rw [List.drop_eq_nil_of_le (by omega)] at ht; simp at ht)
  unfold maxLen at hc2
  have hsrc := strs_src (P := Try.prog) Try.underlying27 h i hi
  by_cases hic : i < c
  · have HT := Lib.hid (htail hic)
    clear htail htail0
    go_enter Try.func22, Try.ntmps22
    go_wp2_with (first
      | (at_builtin; refine wpList_append_src rfl (.tmp 8) (.tmp 11) 27 27 rfl w.heap.size 9 i0 _ 1 16 Try.underlying27 hi0 hz0 hz1 hz2 rfl (by decide) _ _ _ rfl (World.ownsRow_nil w w.heap.size 9 1) _ i _ rfl hsrc (by unfold maxLen; omega) (by omega) (Nat.le_refl _) ?_; intro v1 w1 ho1 hch1 hn1; rw [Nat.zero_add, List.nil_append] at ho1; obtain ⟨a1, c1, rfl, hx1, hy1, _⟩ := own_val ho1; have hz1' := hch1.size)
      | (at_builtin; refine wpList_append_src rfl (.tmp 13) (.tmp 15) 27 27 rfl w.heap.size 9 i0 _ 1 16 Try.underlying27 hi0 hz0 hz1 hz2 rfl (by decide) (.slice a1 i c1) i _ rfl (ho1.alloc _) _ 1 _ rfl (src_one _ w1.heap.size s (heap_alloc_new _ _)) (by unfold maxLen; omega) (by omega) (by simp; omega) ?_; intro v2 w2 ho2 hch2 hn2; obtain ⟨a2, c2, rfl, hx2, hy2, _⟩ := own_val ho2; have hz2' := hch2.size; have hbl2 := with_below hch1 ho1 hch2)
      | (at_builtin; go_loud (refine wpList_append_src rfl (.tmp 17) (.tmp 20) 27 27 rfl w.heap.size 9 i0 _ 1 16 Try.underlying27 hi0 hz0 hz1 hz2 rfl (by decide) _ _ _ rfl ho2 _ (l.length - i) _ rfl (with_src (HT.out.below hbl2 (Nat.le_refl _))) (by unfold maxLen; omega) (by omega) (by simp at hz2'; omega) ?_); intro v3 w3 ho3 hch3 hn3; obtain ⟨a3, c3, rfl, hx3, hy3, _⟩ := own_val ho3))
    go_ret
    exact with_done hi hbl2 ho2 ho3 hch3
  · have HT := Lib.hid (htail0 hic)
    clear htail htail0
    obtain rfl : i = c := by omega
    go_enter Try.func22, Try.ntmps22
    go_wp2_with (first
      | (at_builtin; refine wpList_append_src rfl (.tmp 8) (.tmp 11) 27 27 rfl w.heap.size 9 i0 _ 1 16 Try.underlying27 hi0 hz0 hz1 hz2 rfl (by decide) _ _ _ rfl (World.ownsRow_nil w w.heap.size 9 1) _ i _ rfl hsrc (by unfold maxLen; omega) (by omega) (Nat.le_refl _) ?_; intro v1 w1 ho1 hch1 hn1; rw [Nat.zero_add, List.nil_append] at ho1; obtain ⟨a1, c1, rfl, hx1, hy1, _⟩ := own_val ho1; have hz1' := hch1.size)
      | (at_builtin; refine wpList_append_src rfl (.tmp 13) (.tmp 15) 27 27 rfl w.heap.size 9 i0 _ 1 16 Try.underlying27 hi0 hz0 hz1 hz2 rfl (by decide) (.slice a1 i c1) i _ rfl (ho1.alloc _) _ 1 _ rfl (src_one _ w1.heap.size s (heap_alloc_new _ _)) (by unfold maxLen; omega) (by omega) (by simp; omega) ?_; intro v2 w2 ho2 hch2 hn2; obtain ⟨a2, c2, rfl, hx2, hy2, _⟩ := own_val ho2; have hz2' := hch2.size; have hbl2 := with_below hch1 ho1 hch2)
      | (at_builtin; go_loud (refine wpList_append_src rfl (.tmp 17) (.tmp 20) 27 27 rfl w.heap.size 9 i0 _ 1 16 Try.underlying27 hi0 hz0 hz1 hz2 rfl (by decide) _ _ _ rfl ho2 _ 0 _ rfl (with_src (HT.out.below hbl2 (Nat.le_refl _))) (by unfold maxLen; omega) (by omega) (by simp at hz2'; omega) ?_); intro v3 w3 ho3 hch3 hn3; obtain ⟨a3, c3, rfl, hx3, hy3, _⟩ := own_val ho3))
    go_ret
    have e0 : l.length - i = 0 := by omega
    exact with_done hi hbl2 ho2 (by rw [e0]; exact ho3) hch3

theorem with_nil (s : ByteArray) (w : World) :
    Calls Try.prog 22 #[.slice none 0 0, .int .i64 0, .string s] w (NewStrs [s] w) := by
  obtain ⟨i0, hi0, hz0, hz1, hz2⟩ := info_parts Try.info9
  go_enter Try.func22, Try.ntmps22
  go_wp2_with (first
    | (at_builtin; refine wpList_append_src rfl (.tmp 8) (.tmp 11) 27 27 rfl w.heap.size 9 i0 _ 1 16 Try.underlying27 hi0 hz0 hz1 hz2 rfl (by decide) _ _ _ rfl (World.ownsRow_nil w w.heap.size 9 1) _ 0 _ rfl (Src.ofNil w Try.underlying27 0) (by unfold maxLen; omega) (by omega) (Nat.le_refl _) ?_; intro v1 w1 ho1 hch1 hn1; rw [Nat.zero_add, List.nil_append] at ho1; obtain ⟨a1, c1, rfl, hx1, hy1, _⟩ := own_val ho1; have hz1' := hch1.size)
    | (at_builtin; refine wpList_append_src rfl (.tmp 13) (.tmp 15) 27 27 rfl w.heap.size 9 i0 _ 1 16 Try.underlying27 hi0 hz0 hz1 hz2 rfl (by decide) (.slice a1 0 c1) 0 _ rfl (ho1.alloc _) _ 1 _ rfl (src_one _ w1.heap.size s (heap_alloc_new _ _)) (by unfold maxLen; omega) (by omega) (by simp; omega) ?_; intro v2 w2 ho2 hch2 hn2; obtain ⟨a2, c2, rfl, hx2, hy2, _⟩ := own_val ho2; have hz2' := hch2.size; have hbl2 := with_below hch1 ho1 hch2)
    | (at_builtin; refine wpList_append_src rfl (.tmp 17) (.tmp 20) 27 27 rfl w.heap.size 9 i0 _ 1 16 Try.underlying27 hi0 hz0 hz1 hz2 rfl (by decide) _ _ _ rfl ho2 _ 0 _ rfl (Src.ofNil w2 Try.underlying27 0) (by unfold maxLen; omega) (by omega) (by simp at hz2'; omega) ?_; intro v3 w3 ho3 hch3 hn3; obtain ⟨a3, c3, rfl, hx3, hy3, _⟩ := own_val ho3))
  go_ret
  exact with_done (l := []) (i := 0) (v2 := .slice a2 1 c2) (Nat.le_refl _) hbl2 (by simpa using ho2) (by simpa using ho3) hch3
end Go.Proofs.Ytkcjhjoodincbaa
