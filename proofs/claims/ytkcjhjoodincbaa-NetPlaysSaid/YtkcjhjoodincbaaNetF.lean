/- The queue of texts under way: Move. -/
import Derived.Test.YtkcjhjoodincbaaNetE
namespace Go.Proofs.Ytkcjhjoodincbaa
open Go.RowKit

theorem net_step2 {w w1 w2 : World} {o : Obj} {b g : Nat} {v v1 v2 : Value} {l1 l' : List ByteArray} {xs : List Value} (hst : NetStep b v w w1 v1 l1) (hb : b < w.heap.size) (hg : b < g) (hv : v.ownBlock = some g)
    (hat : (w1.alloc o).drew.heap[b]? = some (.cells #[v1] 50 (0, 0)))
    (hc : Chg (fun k => some k = some g) (w1.alloc o).drew w2) (ho : w2.ownsRow (b + 1) 9 1 v2 (l1.length + 1) xs) (hxs : xs = l'.map Value.string) (hl : l'.length = l1.length + 1) (hl2 : l'.length ≤ 4096)
    (hn : v2.ownBlock = some g ∨ v2.ownBlock = some (w1.alloc o).drew.heap.size) : NetStep b v w (w2.setCell ⟨b, 0, none⟩ v2) v2 l' := by
  subst hxs
  rw [← hl] at ho
  have c1 : Chg (fun k => k = b ∨ some k = v.ownBlock) w (w1.alloc o).drew := (hst.chg.alloc o).drew
  refine ⟨⟨one_set ((hc.block b (by have := c1.size; omega) (by simp; omega)).trans hat) v2, own_set ho _, hl2⟩, (c1.trans hc (fun i hi _ => .inr (by rw [hv]; exact hi))).setCell (.inl (.inl rfl)) _, fun k hk => ?_⟩
  rcases hn with hn | hn
  · exact .inl (by rw [hv, ← hn]; exact hk)
  · rw [hn] at hk
    injection hk with hk
    have := c1.size
    exact .inr (by omega)

set_option maxHeartbeats 4000000 in
theorem move_any (b : Nat) (v : Value) (l : List ByteArray) (n to_ : Int) (w : World) (h : NetAt w b v l) (i : Nat) (hi : (i : Int) = n % (l.length : Int)) (s : ByteArray) (hs : l[i]? = some s)
    (l1 : List ByteArray) (hl1 : l1 = l.take i ++ l.drop (i + 1)) (j : Nat) (hj : (j : Int) = to_ % ((l1.length : Int) + 1)) :
    Calls Try.prog 17 #[.pointer (some ⟨b, 0, none⟩), .int .i64 n, .int .i64 to_] w fun e w' => e = .returned (.bool true) ∧ ∃ v', NetStep b v w w' v' (l1.take j ++ s :: l1.drop j) := by
  have hil : i < l.length := (List.getElem?_eq_some_iff.1 hs).1
  have hfew := h.few
  have ht := take_cap b v l n w h i hi s hs
  rw [← hl1] at ht
  have hl1l : l1.length = l.length - 1 := by rw [hl1]; simp; omega
  have hjl : j ≤ l1.length := by have := Int.emod_lt_of_pos to_ (show (0 : Int) < (l1.length : Int) + 1 by omega); omega
  have HT := Lib.hid ht
  have HL := Lib.hid hl1l
  have HJ := Lib.hid hj
  obtain ⟨a, c, rfl, hnc, hcm, hob⟩ := own_val h.own
  obtain ⟨g, rfl, hcell⟩ := own_cellAt h.own rfl i (.string s) (by rw [List.getElem?_map, hs]; rfl)
  have hg : b + 1 ≤ g ∧ g < w.heap.size := own_lt h.own g rfl
  have hl1f : l1.length + 1 ≤ 4096 := by omega
  have hbw : b < w.heap.size := (Array.getElem?_eq_some_iff.1 h.at_).1
  have hlc : l1.length < c := by omega
  clear ht hi hl1 hl1l hj hob hcell
  go_enter Try.func17, Try.ntmps17
  go_wp2_with (go_at_call 15; refine HT.out.mono ?_; rintro e w1 ⟨rfl, v1, hst, hcap⟩; have hcap1 := hcap _ _ rfl; clear hcap; rw [← HL.out] at hcap1; subst hcap1)
  have hc1 := one_cell hst.at_.at_
  have hf1 := one_free hst.at_.at_
  have hw1 : w.heap.size ≤ w1.heap.size := hst.chg.size
  have hrest : ∀ W : World, Calls Try.prog 28 #[.int .i64 to_, .int .i64 ((l1.length : Int) + 1)] W fun e w' => e = .returned (.int .i64 j) ∧ W = w' := fun W => by
    rw [HJ.out]; exact rest_any to_ ((l1.length : Int) + 1) W (by omega) (by omega)
  have HR := Lib.hid hrest
  have hins := insert_any (w1.alloc (.cells #[.string s] 9)).drew (b + 1) g l1.length c j w1.heap.size (l1.map Value.string) s (by intro u hu; obtain ⟨s, _, rfl⟩ := List.mem_map.1 hu; rfl)
    (World.ownsRow.alloc (w := w1) hst.at_.own _) hjl hlc (by omega) (by simp; omega) (by omega) (heap_alloc_new w1 _)
  have HI := Lib.hid hins
  have hb2 : b < w1.heap.size := (Array.getElem?_eq_some_iff.1 hst.at_.at_).1
  have hb3 : (w1.alloc (.cells #[.string s] 9)).drew.heap[b]? = some (.cells #[.slice (some ⟨g, 0, none⟩) l1.length c] 50 (0, 0)) := (Below.heap_alloc w1 _ b hb2).trans hst.at_.at_
  clear hrest hins
  have hwr : IntKind.i64.wrap ((l1.length : Int) + 1) = (l1.length : Int) + 1 := by rw [IntKind.wrap_i64]; omega
  go_region_law (first
    | (go_simp; go_at_call 28; refine (HR.out _).mono ?_; rintro e w2 ⟨rfl, rfl⟩)
    | (go_simp; go_at_call 27; refine HI.out.mono ?_; rintro e w2 ⟨v2, rfl, hown2, hchg2, hnew2⟩; obtain ⟨a2, c2, rfl, _⟩ := own_val hown2; have k0 := (hchg2.block b (by simp; omega) (by simp; omega)).trans hb3; have k1 := one_cell k0; have k2 := one_free k0))
  all_goals
    clear hwr
    go_wp2
    go_ret
    exact ⟨rfl, _, net_step2 hst hbw hg.1 rfl hb3 hchg2 hown2 (by simp) (by simp; omega) (by simp; omega) hnew2⟩

end Go.Proofs.Ytkcjhjoodincbaa
