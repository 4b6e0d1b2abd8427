/- Rows of ids: slices.IndexFunc and slices.DeleteFunc on them, with a function that reads what lies elsewhere. -/
import Derived.Test.YtkldkaahpicnmaaGreatRows
import Derived.Test.YtkldkaahpicnmaaGreatMDisk
import Derived.Lib.Hide
import Derived.Laws.IdiomCopy
import Derived.StillTailTactics
import Derived.Shelf.Abstract
import Derived.Shelf.SlSortCmp.WholeK
namespace Go.Proofs.YtkldkaahpicnmaaGreat
set_option maxRecDepth 100000
open Go.RowKit

/-- An id: its four numbers. -/
abbrev I4 := Int × Int × Int × Int
def valI (i : I4) : Value := .agg #[.int .i64 i.1, .int .i64 i.2.1, .int .i64 i.2.2.1, .int .i64 i.2.2.2]
def cellsI (i : I4) : List Value := [.int .i64 i.1, .int .i64 i.2.1, .int .i64 i.2.2.1, .int .i64 i.2.2.2]

/-- The cells of an id at a place. -/
def IdCells (w : World) (g o : Nat) (i : I4) : Prop :=
  w.cell? ⟨g, o, none⟩ = some (.int .i64 i.1) ∧ w.cell? ⟨g, o + 1, none⟩ = some (.int .i64 i.2.1) ∧ w.cell? ⟨g, o + 2, none⟩ = some (.int .i64 i.2.2.1) ∧ w.cell? ⟨g, o + 3, none⟩ = some (.int .i64 i.2.2.2)

/-- A block whose cells from o on are ids. -/
structure IdBlk (w : World) (g o : Nat) (L : List I4) : Prop where
  blk : ∃ cs t, w.heap[g]? = some (.cells cs t (0, 0))
  cell : ∀ j i, L[j]? = some i → IdCells w g (o + j * 4) i

theorem IdBlk.lt {w : World} {g o : Nat} {L : List I4} (h : IdBlk w g o L) : g < w.heap.size := by
  obtain ⟨cs, t, hb⟩ := h.blk
  exact (Array.getElem?_eq_some_iff.1 hb).1
theorem IdBlk.frozen {w : World} {g o : Nat} {L : List I4} (h : IdBlk w g o L) (k : Nat) : w.frozen? ⟨g, k, none⟩ = false := by
  obtain ⟨cs, t, hb⟩ := h.blk
  simp [World.frozen?, hb]
theorem IdBlk.below {w w' : World} {g o : Nat} {L : List I4} (h : IdBlk w g o L) {B : Nat} (hb : Below B w w') (hB : g < B) : IdBlk w' g o L := by
  obtain ⟨cs, t, hg⟩ := h.blk
  refine ⟨⟨cs, t, (hb.block g hB).trans hg⟩, fun j i hi => ?_⟩
  obtain ⟨p1, p2, p3, p4⟩ := h.cell j i hi
  exact ⟨(hb.cell (p := ⟨g, _, none⟩) hB).trans p1, (hb.cell (p := ⟨g, _, none⟩) hB).trans p2, (hb.cell (p := ⟨g, _, none⟩) hB).trans p3, (hb.cell (p := ⟨g, _, none⟩) hB).trans p4⟩

/-- What of ids is asked of the function: it tells whether one is struck, and leaves all that lies below B as it was. -/
def Tells (g : Nat) (cb : Array Value) (bad : I4 → Bool) (B : Nat) (w : World) (L : List I4) : Prop :=
  ∀ W, Below B w W → w.heap.size ≤ W.heap.size → ∀ i ∈ L, Calls Tryz.prog g (#[valI i] ++ cb) W fun e w' => e = .returned (.bool (bad i)) ∧ Below W.heap.size W w'

/-- The first that is struck. -/
def FirstBad (bad : I4 → Bool) (L : List I4) (r : Int) : Prop :=
  (r = -1 ∧ ∀ i ∈ L, bad i = false) ∨ ∃ (k : Nat) (i : I4), r = (k : Int) ∧ L[k]? = some i ∧ bad i = true ∧ ∀ j i', j < k → L[j]? = some i' → bad i' = false

set_option maxHeartbeats 1000000 in
theorem idx_any (g c o : Nat) (L : List I4) (f : Nat) (cb : Array Value) (bad : I4 → Bool) (w : World) (B : Nat) (eg : ∀ args w, (callFunc f args).run Tryz.prog w = .ok (.enter f args) w) (hL : IdBlk w g o L) (hB : B ≤ w.heap.size) (ht : Tells f cb bad B w L) (hc : L.length ≤ 1000000) :
    Calls Tryz.prog 48 #[.slice (some ⟨g, o, none⟩) L.length c, .func (.func f) #[] cb] w fun e w' => ∃ r, e = .returned (.int .i64 r) ∧ FirstBad bad L r ∧ Below w.heap.size w w' := by
  have HT := Lib.hid ht
  have hgl := hL.lt
  clear ht
  go_enter Tryz.func48, Tryz.ntmps48
  go_wp2
  go_loopw [8] (fun i wr => ∃ k : Nat, k ≤ L.length ∧ i = .int .i64 k ∧ Below w.heap.size w wr ∧ Hid (∀ j i', j < k → L[j]? = some i' → bad i' = false)) (fun i _ => L.length - (intOf i).toNat)
  case atStart => exact ⟨0, by omega, rfl, Below.refl _ _, Lib.hid fun j i' hj => by omega⟩
  case round =>
    obtain ⟨k, hk, rfl, hb, HG⟩ := hrel
    by_cases hlt : k < L.length
    · obtain ⟨u, hu⟩ : ∃ u, L[k]? = some u := ⟨_, List.getElem?_eq_getElem hlt⟩
      have HU := Lib.hid hu
      obtain ⟨p1, p2, p3, p4⟩ := (hL.below hb hgl).cell k u hu
      have hcall := HT.out wr (hb.mono hB) hb.size u (List.mem_of_getElem? hu)
      have hltz : (k : Int) < (L.length : Int) := by omega
      obtain ⟨x0, x1, x2, x3⟩ := u
      unfold valI at hcall
      simp only at hcall p1 p2 p3 p4
      clear hu
      cases hq : bad (x0, x1, x2, x3) with
      | false =>
        rw [hq] at hcall
        go_wp2_with (go_at_fn f; refine hcall.mono ?_; rintro e w' ⟨rfl, hb2⟩)
        go_roundw
        case rel =>
          refine ⟨k + 1, by omega, by go_num, hb.trans (hb2.mono hb.size), Lib.hid fun j i' hj hi' => ?_⟩
          by_cases h : j < k
          · exact HG.out j i' h hi'
          · obtain rfl : j = k := by omega
            rw [HU.out] at hi'
            injection hi' with hi'
            rw [← hi']; exact hq
        case measure => simp [intOf]; omega
      | true =>
        rw [hq] at hcall
        go_wp2_with (go_at_fn f; refine hcall.mono ?_; rintro e w' ⟨rfl, hb2⟩)
        go_ret
        exact ⟨_, rfl, .inr ⟨k, _, rfl, HU.out, hq, HG.out⟩, hb.trans (hb2.mono hb.size)⟩
    · obtain rfl : k = L.length := by omega
      have hltz : ¬ (L.length : Int) < (L.length : Int) := by omega
      go_wp2
      go_ret
      exact ⟨_, rfl, .inl ⟨rfl, fun i hi => by
        obtain ⟨j, hj⟩ := List.mem_iff_getElem?.1 hi
        exact HG.out j i (List.getElem?_eq_some_iff.1 hj).1 hj⟩, hb⟩
end Go.Proofs.YtkldkaahpicnmaaGreat
/- slices.DeleteFunc on a row of ids. -/
namespace Go.Proofs.YtkldkaahpicnmaaGreat
set_option maxRecDepth 100000
open Go.RowKit

theorem blk_setCell {w : World} {g : Nat} (h : ∃ cs t, w.heap[g]? = some (.cells cs t (0, 0))) (k : Nat) (v : Value) : ∃ cs t, (w.setCell ⟨g, k, none⟩ v).heap[g]? = some (.cells cs t (0, 0)) := by
  obtain ⟨cs, t, h⟩ := h
  exact ⟨cs.setIfInBounds k v, t, by simp [World.setCell, Array.getElem?_modify, h]⟩
theorem cell_setCell_ne {w : World} {g : Nat} (h : ∃ cs t, w.heap[g]? = some (.cells cs t (0, 0))) {j k : Nat} (hne : j ≠ k) (v : Value) : (w.setCell ⟨g, k, none⟩ v).cell? ⟨g, j, none⟩ = w.cell? ⟨g, j, none⟩ := by
  obtain ⟨cs, t, h⟩ := h
  simp [World.setCell, World.cell?, Array.getElem?_modify, h, Ne.symm hne]
theorem cell_setCell_eq {w : World} {g : Nat} (h : ∃ cs t, w.heap[g]? = some (.cells cs t (0, 0))) {k : Nat} {u : Value} (hc : w.cell? ⟨g, k, none⟩ = some u) (v : Value) : (w.setCell ⟨g, k, none⟩ v).cell? ⟨g, k, none⟩ = some v := by
  obtain ⟨cs, t, h⟩ := h
  have hk : k < cs.size := by
    simp only [World.cell?, h, Option.isSome_none, Bool.false_eq_true, if_false] at hc
    exact (Array.getElem?_eq_some_iff.1 hc).1
  simp [World.setCell, World.cell?, Array.getElem?_modify, h, hk]

theorem blk_setCells {g : Nat} : ∀ (vs : List Value) (o : Nat) (w : World), (∃ cs t, w.heap[g]? = some (.cells cs t (0, 0))) → (∃ cs t, (w.setCells g o vs).heap[g]? = some (.cells cs t (0, 0))) ∧ ∀ j, j < o → (w.setCells g o vs).cell? ⟨g, j, none⟩ = w.cell? ⟨g, j, none⟩
  | [], _, _, h => ⟨h, fun _ _ => rfl⟩
  | v :: r, o, w, h => by
    obtain ⟨h1, h2⟩ := blk_setCells r (o + 1) _ (blk_setCell h o v)
    exact ⟨h1, fun j hj => (h2 j (by omega)).trans (cell_setCell_ne h (by omega) v)⟩

/-- A row of ids with another one at a place. -/
def put4 (W : World) (g o : Nat) (i : I4) : World := (((W.setCell ⟨g, o, none⟩ (.int .i64 i.1)).setCell ⟨g, o + 1, none⟩ (.int .i64 i.2.1)).setCell ⟨g, o + 2, none⟩ (.int .i64 i.2.2.1)).setCell ⟨g, o + 3, none⟩ (.int .i64 i.2.2.2)
theorem IdBlk.put {w : World} {g o : Nat} {L : List I4} (h : IdBlk w g o L) (k : Nat) (v : I4) : IdBlk (put4 w g (o + k * 4) v) g o (L.set k v) := by
  have b0 := h.blk
  have b1 := blk_setCell b0 (o + k * 4) (.int .i64 v.1)
  have b2 := blk_setCell b1 (o + k * 4 + 1) (.int .i64 v.2.1)
  have b3 := blk_setCell b2 (o + k * 4 + 2) (.int .i64 v.2.2.1)
  refine ⟨blk_setCell b3 _ _, fun j i hi => ?_⟩
  by_cases hjk : k = j
  · subst hjk
    rw [List.getElem?_set] at hi
    simp only [if_true] at hi
    split at hi
    · rename_i hlt
      injection hi with hi
      subst hi
      obtain ⟨p1, p2, p3, p4⟩ := h.cell k _ (List.getElem?_eq_getElem hlt)
      unfold put4
      refine ⟨?_, ?_, ?_, ?_⟩
      · exact (cell_setCell_ne b3 (by omega) _).trans ((cell_setCell_ne b2 (by omega) _).trans ((cell_setCell_ne b1 (by omega) _).trans (cell_setCell_eq b0 p1 _)))
      · exact (cell_setCell_ne b3 (by omega) _).trans ((cell_setCell_ne b2 (by omega) _).trans (cell_setCell_eq b1 ((cell_setCell_ne b0 (by omega) _).trans p2) _))
      · exact (cell_setCell_ne b3 (by omega) _).trans (cell_setCell_eq b2 ((cell_setCell_ne b1 (by omega) _).trans ((cell_setCell_ne b0 (by omega) _).trans p3)) _)
      · exact cell_setCell_eq b3 ((cell_setCell_ne b2 (by omega) _).trans ((cell_setCell_ne b1 (by omega) _).trans ((cell_setCell_ne b0 (by omega) _).trans p4))) _
    · cases hi
  · rw [List.getElem?_set_ne hjk] at hi
    obtain ⟨p1, p2, p3, p4⟩ := h.cell j i hi
    have hs : ∀ q : Nat, q < 4 → (put4 w g (o + k * 4) v).cell? ⟨g, o + j * 4 + q, none⟩ = w.cell? ⟨g, o + j * 4 + q, none⟩ := fun q hq =>
      (cell_setCell_ne b3 (by omega) _).trans ((cell_setCell_ne b2 (by omega) _).trans ((cell_setCell_ne b1 (by omega) _).trans (cell_setCell_ne b0 (by omega) _)))
    exact ⟨(hs 0 (by omega)).trans p1, (hs 1 (by omega)).trans p2, (hs 2 (by omega)).trans p3, (hs 3 (by omega)).trans p4⟩

theorem IdBlk.below_put {B : Nat} {w W : World} {g : Nat} (h : Below B w W) (hg : B ≤ g) (k : Nat) (v : I4) : Below B w (put4 W g k v) :=
  (((h.setCell (p := ⟨g, k, none⟩) hg _).setCell (p := ⟨g, k + 1, none⟩) hg _).setCell (p := ⟨g, k + 2, none⟩) hg _).setCell (p := ⟨g, k + 3, none⟩) hg _

theorem zero_cells (n : Nat) : ∀ v ∈ (Builtin.zeroCells (Value.agg #[.int .i64 0, .int .i64 0, .int .i64 0, .int .i64 0]).cells n).toList, v.oneCell' = true := by
  intro v hv
  have e : (Value.agg #[.int .i64 0, .int .i64 0, .int .i64 0, .int .i64 0]).cells = #[.int .i64 0, .int .i64 0, .int .i64 0, .int .i64 0] := by kernel_rfl
  rw [e] at hv
  simp only [Builtin.zeroCells, Array.toList_map, List.mem_map] at hv
  obtain ⟨i, _, rfl⟩ := hv
  have : i % 4 < 4 := Nat.mod_lt _ (by omega)
  show ((#[.int .i64 0, .int .i64 0, .int .i64 0, .int .i64 0] : Array Value)[i % 4]!).oneCell' = true
  match i % 4, this with
  | 0, _ => rfl
  | 1, _ => rfl
  | 2, _ => rfl
  | 3, _ => rfl

theorem zero_len (n : Nat) : (Builtin.zeroCells (Value.agg #[.int .i64 0, .int .i64 0, .int .i64 0, .int .i64 0]).cells n).toList.length = n * 4 := by
  have e : (Value.agg #[.int .i64 0, .int .i64 0, .int .i64 0, .int .i64 0]).cells = #[.int .i64 0, .int .i64 0, .int .i64 0, .int .i64 0] := by kernel_rfl
  rw [e]
  simp [Builtin.zeroCells]

/-- clear, on ids. -/
theorem clear_ids {w : World} {g o : Nat} {L : List I4} (h : IdBlk w g o L) (a c : Nat) (ha : a < L.length) : ∃ w', (∀ ty, (Builtin.clear_ #[35] ty #[.slice (some ⟨g, o + a * 4, none⟩) (L.length - a) c]).run Tryz.prog w = .ok (.tuple #[]) w') ∧ IdBlk w' g o (L.take a) ∧ Chg (fun k => k = g) w w' := by
  have hcell : ∀ j, j < (L.length - a) * 4 → (w.cell? ⟨g, o + a * 4 + j, none⟩).isSome = true := fun j hj => by
    obtain ⟨p1, p2, p3, p4⟩ := h.cell (a + j / 4) _ (List.getElem?_eq_getElem (by omega))
    rcases (show j % 4 = 0 ∨ j % 4 = 1 ∨ j % 4 = 2 ∨ j % 4 = 3 by omega) with e | e | e | e
    · rw [show o + a * 4 + j = o + (a + j / 4) * 4 by omega, p1]; rfl
    · rw [show o + a * 4 + j = o + (a + j / 4) * 4 + 1 by omega, p2]; rfl
    · rw [show o + a * 4 + j = o + (a + j / 4) * 4 + 2 by omega, p3]; rfl
    · rw [show o + a * 4 + j = o + (a + j / 4) * 4 + 3 by omega, p4]; rfl
  obtain ⟨m, hm⟩ : ∃ m, L.length - a = m + 1 := ⟨L.length - a - 1, by omega⟩
  have hst := run_storeCells_cells (P := Tryz.prog) g (o + a * 4) (Builtin.zeroCells (Value.agg #[.int .i64 0, .int .i64 0, .int .i64 0, .int .i64 0]).cells (L.length - a)).toList 0 w (fun j hj => by
    rw [zero_len] at hj; exact hcell j hj) (fun j _ => h.frozen _) (zero_cells _)
  obtain ⟨h1, h2⟩ := blk_setCells (Builtin.zeroCells (Value.agg #[.int .i64 0, .int .i64 0, .int .i64 0, .int .i64 0]).cells (L.length - a)).toList (o + a * 4) w h.blk
  refine ⟨_, fun ty => ?_, ⟨h1, fun j i hi => ?_⟩, chg_setCells _ _ _⟩
  · have hz : ∀ W, (zeroValue 26).run Tryz.prog W = .ok (.agg #[.int .i64 0, .int .i64 0, .int .i64 0, .int .i64 0]) W := fun W => by kernel_rfl
    rw [hm] at hst ⊢
    simp only [Nat.add_zero] at hst
    simp [Builtin.clear_, run_underlying Tryz.underlying35, hz, hst]
  · have hlt : j < a := by
      have := (List.getElem?_eq_some_iff.1 hi).1
      rw [List.length_take] at this
      omega
    rw [List.getElem?_take_of_lt hlt] at hi
    obtain ⟨p1, p2, p3, p4⟩ := h.cell j i hi
    exact ⟨(h2 _ (by omega)).trans p1, (h2 _ (by omega)).trans p2, (h2 _ (by omega)).trans p3, (h2 _ (by omega)).trans p4⟩

/-- What isn't struck. -/
def keepI (bad : I4 → Bool) (L : List I4) : List I4 := L.filter fun i => !bad i
theorem keep_all {bad : I4 → Bool} {L : List I4} (h : ∀ i ∈ L, bad i = false) : keepI bad L = L := by
  unfold keepI
  rw [List.filter_eq_self]
  intro i hi
  simp [h i hi]
theorem keep_step {bad : I4 → Bool} {L : List I4} {m : Nat} {i : I4} (hi : L[m]? = some i) : keepI bad (L.take (m + 1)) = keepI bad (L.take m) ++ if bad i then [] else [i] := by
  unfold keepI
  rw [List.take_add_one, hi, List.filter_append]
  congr 1
  cases hb : bad i <;> simp [hb]

/-- Where the loop stands: the first a kept ones ahead, what is still to come behind. -/
structure DelAt (bad : I4 → Bool) (L C : List I4) (a m : Nat) : Prop where
  lt : a < m
  le : m ≤ L.length
  len : C.length = L.length
  head : C.take a = keepI bad (L.take m)
  tail : ∀ j, m ≤ j → C[j]? = L[j]?

theorem DelAt.start {bad : I4 → Bool} {L : List I4} {k : Nat} {i : I4} (hk : L[k]? = some i) (hb : bad i = true) (h : ∀ j i', j < k → L[j]? = some i' → bad i' = false) : DelAt bad L L k (k + 1) := by
  have hlt := (List.getElem?_eq_some_iff.1 hk).1
  refine ⟨by omega, by omega, rfl, ?_, fun _ _ => rfl⟩
  rw [keep_step hk, hb, keep_all]
  · simp
  · intro i' hi'
    obtain ⟨j, hj⟩ := List.mem_iff_getElem?.1 hi'
    have hjk : j < k := by have := (List.getElem?_eq_some_iff.1 hj).1; rw [List.length_take] at this; omega
    rw [List.getElem?_take_of_lt hjk] at hj
    exact h j i' hjk hj
theorem DelAt.drop {bad : I4 → Bool} {L C : List I4} {a m : Nat} {i : I4} (h : DelAt bad L C a m) (hi : L[m]? = some i) (hb : bad i = true) : DelAt bad L C a (m + 1) :=
  ⟨by have := h.lt; omega, (List.getElem?_eq_some_iff.1 hi).1, h.len, by rw [keep_step hi, hb, h.head]; simp, fun j hj => h.tail j (by omega)⟩
theorem DelAt.keep {bad : I4 → Bool} {L C : List I4} {a m : Nat} {i : I4} (h : DelAt bad L C a m) (hi : L[m]? = some i) (hb : bad i = false) : DelAt bad L (C.set a i) (a + 1) (m + 1) := by
  have hm := (List.getElem?_eq_some_iff.1 hi).1
  have hl := h.lt
  have hn := h.len
  refine ⟨by omega, hm, by rw [List.length_set]; exact hn, ?_, fun j hj => ?_⟩
  · rw [keep_step hi, hb, ← h.head, List.take_add_one, List.getElem?_set_self (by omega), List.take_set_of_le (Nat.le_refl _)]
    simp
  · rw [List.getElem?_set_ne (by omega)]
    exact h.tail j (by omega)
theorem DelAt.fin {bad : I4 → Bool} {L C : List I4} {a : Nat} (h : DelAt bad L C a L.length) : C.take a = keepI bad L ∧ (keepI bad L).length = a := by
  have h1 := h.head
  rw [List.take_length] at h1
  refine ⟨h1, ?_⟩
  rw [← h1, List.length_take]
  have := h.lt
  have := h.len
  omega
end Go.Proofs.YtkldkaahpicnmaaGreat
/- slices.DeleteFunc on a row of ids, walked. -/
namespace Go.Proofs.YtkldkaahpicnmaaGreat
set_option maxRecDepth 100000
open Go.RowKit

set_option maxHeartbeats 4000000 in
theorem del_any (g c o : Nat) (L : List I4) (f : Nat) (cb : Array Value) (bad : I4 → Bool) (w : World) (B : Nat) (eg : ∀ args w, (callFunc f args).run Tryz.prog w = .ok (.enter f args) w) (hL : IdBlk w g o L) (hB : B ≤ g) (ht : Tells f cb bad B w L) (hn : L.length ≤ 1000000) (hc : L.length ≤ c) (hcm : c ≤ maxLen) :
    Calls Tryz.prog 26 #[.slice (some ⟨g, o, none⟩) L.length c, .func (.func f) #[] cb] w fun e w' => e = .returned (.slice (some ⟨g, o, none⟩) (keepI bad L).length c) ∧ IdBlk w' g o (keepI bad L) ∧ Below B w w' := by
  have hgl := hL.lt
  unfold maxLen at hcm
  have hBw : B ≤ w.heap.size := by omega
  have HI := Lib.hid (idx_any g c o L f cb bad w B eg hL (by omega) ht hn)
  have HT := Lib.hid ht
  have HL := Lib.hid hL
  clear ht hL
  go_enter Tryz.func26, Tryz.ntmps26
  go_wp2_with fail
  refine HI.out.mono ?_
  rintro e w1 ⟨r, rfl, hr, hb1⟩
  have hB1 := hb1.mono (show B ≤ w.heap.size by omega)
  have hL1 := HL.out.below hb1 hgl
  rcases hr with ⟨rfl, hall⟩ | ⟨k, i0, rfl, hk, hbk, hbe⟩
  · have HK := Lib.hid (keep_all hall)
    clear hall
    go_wp2_with fail
    go_ret
    rw [HK.out]
    exact ⟨rfl, hL1, hB1⟩
  · have HS := Lib.hid (DelAt.start hk hbk hbe)
    have hkn := (List.getElem?_eq_some_iff.1 hk).1
    have hne : ((k : Int) == -1) = false := beq_eq_false_iff_ne.2 (by omega)
    clear hk hbk hbe hb1
    go_wp2_with fail
    go_loopw [5, 6, 7] (fun s5 s6 _ wr => ∃ (a m : Nat) (C : List I4), s5 = .int .i64 a ∧ s6 = .int .i64 m ∧ Hid (DelAt bad L C a m) ∧ IdBlk wr g o C ∧ Below B w wr ∧ w.heap.size ≤ wr.heap.size) (fun _ s6 _ _ => L.length - (intOf s6).toNat)
    case atStart => exact ⟨k, k + 1, L, rfl, by go_num, HS, hL1, hB1, Nat.le_trans (Nat.le_refl _) (by have := hL1.lt; have := hB1.size; omega)⟩
    case round =>
      obtain ⟨a, m, C, rfl, rfl, HD, hI, hb, hsz⟩ := hrel
      have hD := HD.out
      have hal := hD.lt
      have hml := hD.le
      have hCn := hD.len
      by_cases hlt : m < L.length
      · have hltz : (m : Int) < (L.length : Int) := by omega
        obtain ⟨u, hu⟩ : ∃ u, L[m]? = some u := ⟨_, List.getElem?_eq_getElem hlt⟩
        have HU := Lib.hid hu
        obtain ⟨p1, p2, p3, p4⟩ := hI.cell m u ((hD.tail m (Nat.le_refl _)).trans hu)
        have hum := List.mem_of_getElem? hu
        obtain ⟨x0, x1, x2, x3⟩ := u
        simp only at p1 p2 p3 p4
        obtain ⟨W1, hW1⟩ : ∃ W1, W1 = wr.alloc (.cells #[.int .i64 x0, .int .i64 x1, .int .i64 x2, .int .i64 x3] 26) := ⟨_, rfl⟩
        have y1 : W1.heap[wr.heap.size]? = some (.cells #[.int .i64 x0, .int .i64 x1, .int .i64 x2, .int .i64 x3] 26 (0, 0)) := by rw [hW1]; exact heap_alloc_new wr _
        have hbW : Below wr.heap.size wr W1 := by rw [hW1]; exact (Below.refl _ _).alloc (Nat.le_refl _) _
        have hI1 := hI.below hbW hI.lt
        have hb1 : Below B w W1 := hb.trans (hbW.mono (by have := hb.size; omega))
        have hsz1 : w.heap.size ≤ W1.heap.size := Nat.le_trans hsz hbW.size
        have hcall := HT.out W1 hb1 hsz1 (x0, x1, x2, x3) hum
        unfold valI at hcall
        simp only at hcall
        have hyl := (Array.getElem?_eq_some_iff.1 y1).1
        have hgne : wr.heap.size ≠ g := by have := hI.lt; omega
        obtain ⟨old, hold⟩ : ∃ old, C[a]? = some old := ⟨_, List.getElem?_eq_getElem (by omega)⟩
        have HO := Lib.hid hold
        have m0 : W1.cell? ⟨wr.heap.size, 0, none⟩ = some (.int .i64 x0) := by simp [World.cell?, y1]
        have m1 : W1.cell? ⟨wr.heap.size, 1, none⟩ = some (.int .i64 x1) := by simp [World.cell?, y1]
        have m2 : W1.cell? ⟨wr.heap.size, 2, none⟩ = some (.int .i64 x2) := by simp [World.cell?, y1]
        have m3 : W1.cell? ⟨wr.heap.size, 3, none⟩ = some (.int .i64 x3) := by simp [World.cell?, y1]
        clear hu hold hbW hD hum y1
        cases hq : bad (x0, x1, x2, x3) with
        | false =>
          rw [hq] at hcall
          go_wp2_with (first
            | (rw [← hW1]; clear hW1)
            | (go_at_fn f; refine hcall.mono ?_; rintro e w5 ⟨rfl, hb5⟩
               have hI5 := hI1.below hb5 hI1.lt
               obtain ⟨q1, q2, q3, q4⟩ := hI5.cell a _ HO.out
               have f0 := hI5.frozen (o + a * 4)
               have f1 := hI5.frozen (o + a * 4 + 1)
               have f2 := hI5.frozen (o + a * 4 + 2)
               have f3 := hI5.frozen (o + a * 4 + 3)
               replace m0 := (hb5.cell (p := ⟨wr.heap.size, 0, none⟩) hyl).trans m0
               replace m1 := (hb5.cell (p := ⟨wr.heap.size, 1, none⟩) hyl).trans m1
               replace m2 := (hb5.cell (p := ⟨wr.heap.size, 2, none⟩) hyl).trans m2
               replace m3 := (hb5.cell (p := ⟨wr.heap.size, 3, none⟩) hyl).trans m3))
          go_roundw
          case rel =>
            have hP := hI5.put a (x0, x1, x2, x3)
            have hQ := IdBlk.below_put (hb1.trans (hb5.mono (Nat.le_trans hBw hb1.size))) hB (o + a * 4) (x0, x1, x2, x3)
            have hR := (IdBlk.below_put (Below.refl B w5) hB (o + a * 4) (x0, x1, x2, x3)).size
            unfold put4 at hP hQ hR
            simp only at hP hQ
            exact ⟨a + 1, m + 1, C.set a (x0, x1, x2, x3), by go_num, by go_num, Lib.hid (HD.out.keep HU.out hq), hP, hQ, Nat.le_trans hsz1 (Nat.le_trans hb5.size hR)⟩
          case measure => simp [intOf]; omega
        | true =>
          rw [hq] at hcall
          go_wp2_with (first
            | (rw [← hW1]; clear hW1)
            | (go_at_fn f; refine hcall.mono ?_; rintro e w5 ⟨rfl, hb5⟩))
          go_roundw
          case rel =>
            exact ⟨a, m + 1, C, rfl, by go_num, Lib.hid (HD.out.drop HU.out hq), hI1.below hb5 hI1.lt, hb1.trans (hb5.mono (Nat.le_trans hBw hb1.size)), Nat.le_trans hsz1 hb5.size⟩
          case measure => simp [intOf]; omega
      · obtain rfl : m = L.length := by omega
        have hltz : ¬ (L.length : Int) < (L.length : Int) := by omega
        obtain ⟨W9, hcl, hI9, hc9⟩ := clear_ids hI a (c - a) (by omega)
        rw [hCn] at hcl
        obtain ⟨hf1, hf2⟩ := hD.fin
        have HF := Lib.hid hf1
        have HF2 := Lib.hid hf2
        clear hf1 hf2 hD hI
        go_wp2_with fail
        go_ret
        refine ⟨?_, ?_, hb.trans (hc9.below (by have := hb.size; omega) (fun i hi => by omega))⟩
        · rw [HF2.out]
          rfl
        · rw [← HF.out]; exact hI9
end Go.Proofs.YtkldkaahpicnmaaGreat
/- slices.SortFunc on a row of ids, in the order of their numbers. -/
namespace Go.Proofs.YtkldkaahpicnmaaGreat
set_option maxRecDepth 100000
open Go.RowKit Go.Sort Go.Shelf

def cmpI (x y : Int) : Int := if x < y then -1 else if y < x then 1 else 0

theorem nan_any (x : Int) (w : World) : Calls Tryz.prog 53 #[.int .i64 x] w fun e w' => e = .returned (.bool false) ∧ w = w' := by
  have h : (x != x) = false := by simp
  go_enter Tryz.func53, Tryz.ntmps53
  go_wp2
  go_ret
  exact ⟨rfl, rfl⟩

theorem compare_any (x y : Int) (w : World) : Calls Tryz.prog 32 #[.int .i64 x, .int .i64 y] w fun e w' => e = .returned (.int .i64 (cmpI x y)) ∧ w = w' := by
  unfold cmpI
  by_cases h1 : x < y
  · rw [if_pos h1]
    go_enter Tryz.func32, Tryz.ntmps32
    go_wp2_with (first | (go_at_call 53; refine (nan_any _ _).mono ?_; rintro e w' ⟨rfl, rfl⟩))
    go_ret
    exact ⟨rfl, rfl⟩
  · rw [if_neg h1]
    by_cases h2 : y < x
    · rw [if_pos h2]
      go_enter Tryz.func32, Tryz.ntmps32
      go_wp2_with (first | (go_at_call 53; refine (nan_any _ _).mono ?_; rintro e w' ⟨rfl, rfl⟩))
      go_ret
      exact ⟨rfl, rfl⟩
    · rw [if_neg h2]
      go_enter Tryz.func32, Tryz.ntmps32
      go_wp2_with (first | (go_at_call 53; refine (nan_any _ _).mono ?_; rintro e w' ⟨rfl, rfl⟩))
      go_ret
      exact ⟨rfl, rfl⟩

/-- The first that isn't 0. -/
def orL : List Int → Int
  | [] => 0
  | x :: r => if x = 0 then orL r else x
theorem orL_zeros : ∀ (l : List Int) (k : Nat), (∀ j x, j < k → l[j]? = some x → x = 0) → orL l = orL (l.drop k)
  | l, 0, _ => by simp
  | [], k + 1, _ => by simp
  | x :: r, k + 1, h => by
    have hx := h 0 x (by omega) rfl
    rw [List.drop_succ_cons, ← orL_zeros r k (fun j y hj hy => h (j + 1) y (by omega) (by simpa using hy))]
    simp [orL, hx]
theorem orL_at {l : List Int} {k : Nat} {x : Int} (hx : l[k]? = some x) (hne : x ≠ 0) : orL (l.drop k) = x := by
  obtain ⟨hlt, e⟩ := List.getElem?_eq_some_iff.1 hx
  rw [List.drop_eq_getElem_cons hlt, e]
  simp [orL, hne]

theorem or_any (l : List Int) (n b : Nat) (hn : n = l.length) (h100 : l.length ≤ 100) (w : World) (h : ∀ j x, l[j]? = some x → w.cell? ⟨b, j, none⟩ = some (.int .i64 x)) :
    Calls Tryz.prog 31 #[.slice (some ⟨b, 0, none⟩) n n] w fun e w' => e = .returned (.int .i64 (orL l)) ∧ w = w' := by
  subst hn
  have HC := Lib.hid h
  clear h
  go_enter Tryz.func31, Tryz.ntmps31
  go_wp2
  go_loop [8] (fun i => ∃ k : Nat, k ≤ l.length ∧ i = .int .i64 k ∧ Hid (∀ j x, j < k → l[j]? = some x → x = 0)) (fun i => l.length - (intOf i).toNat)
  case atStart => exact ⟨0, by omega, rfl, Lib.hid fun j x hj => by omega⟩
  case round =>
    obtain ⟨k, hk, rfl, hz⟩ := hrel
    by_cases hlt : k < l.length
    · obtain ⟨v, hv⟩ : ∃ v, l[k]? = some v := ⟨_, List.getElem?_eq_getElem hlt⟩
      have hc := HC.out k v hv
      have hltz : (k : Int) < (l.length : Int) := by omega
      have HV := Lib.hid hv
      clear hv
      by_cases hx : v = 0
      · subst hx
        go_wp2
        go_round
        case rel =>
          refine ⟨k + 1, by omega, by go_num, Lib.hid fun j x hj hj2 => ?_⟩
          by_cases h : j < k
          · exact hz.out j x h hj2
          · obtain rfl : j = k := by omega
            rw [HV.out] at hj2
            injection hj2 with hj2
            exact hj2.symm
        case measure => simp [intOf]; omega
      · have hq : (v != 0) = true := by simp [hx]
        go_wp2
        go_ret
        refine ⟨ret_int ?_, rfl⟩
        rw [orL_zeros l k hz.out, orL_at HV.out hx]
    · obtain rfl : k = l.length := by omega
      have hltz : ¬ (l.length : Int) < (l.length : Int) := by omega
      have HE : Hid (orL l = 0) := Lib.hid (by rw [orL_zeros l _ hz.out, List.drop_length]; rfl)
      clear hz
      go_wp2
      go_ret
      exact ⟨ret_int HE.out.symm, rfl⟩

/-- The order of two ids, as the comparing function has it. -/
def cfI (x y : I4) : Int := orL [cmpI x.1 y.1, cmpI x.2.1 y.2.1, cmpI x.2.2.1 y.2.2.1, cmpI x.2.2.2 y.2.2.2]

theorem four_new (w : World) (a b c d : Value) (t : TypeId) (j : Nat) (v : Value) (h : [a, b, c, d][j]? = some v) : (w.alloc (.cells #[a, b, c, d] t)).cell? ⟨w.heap.size, j, none⟩ = some v := by
  simp only [World.cell?, heap_alloc_new]
  simpa using h

set_option maxHeartbeats 1000000 in
theorem cmp_any (x y : I4) (w : World) :
    Calls Tryz.prog 30 #[valI x, valI y] w fun e w' => e = .returned (.int .i64 (cfI x y)) ∧ ∃ q os', w' = Go.Sort.grow (w.drewN q) os' := by
  obtain ⟨x0, x1, x2, x3⟩ := x
  obtain ⟨y0, y1, y2, y3⟩ := y
  have HF : Hid (orL [cmpI x0 y0, cmpI x1 y1, cmpI x2 y2, cmpI x3 y3] = cfI (x0, x1, x2, x3) (y0, y1, y2, y3)) := Lib.hid rfl
  have HCc : ∀ x y W, Calls Tryz.prog 32 #[.int .i64 x, .int .i64 y] W fun e w' => e = .returned (.int .i64 (cmpI x y)) ∧ w' = W := fun x y W => (compare_any x y W).mono fun _ _ ⟨a, b⟩ => ⟨a, b.symm⟩
  unfold valI
  simp only
  obtain ⟨W0, hW0⟩ : ∃ W0, W0 = (w.alloc (.cells #[.int .i64 x0, .int .i64 x1, .int .i64 x2, .int .i64 x3] 26)).alloc (.cells #[.int .i64 y0, .int .i64 y1, .int .i64 y2, .int .i64 y3] 26) := ⟨_, rfl⟩
  have e1 : W0.heap[w.heap.size]? = some (.cells #[.int .i64 x0, .int .i64 x1, .int .i64 x2, .int .i64 x3] 26 (0, 0)) := by
    rw [hW0]; exact (Below.heap_alloc _ _ _ (by simp)).trans (heap_alloc_new w _)
  have e2 : W0.heap[w.heap.size + 1]? = some (.cells #[.int .i64 y0, .int .i64 y1, .int .i64 y2, .int .i64 y3] 26 (0, 0)) := by
    have := heap_alloc_new (w.alloc (.cells #[.int .i64 x0, .int .i64 x1, .int .i64 x2, .int .i64 x3] 26)) (.cells #[.int .i64 y0, .int .i64 y1, .int .i64 y2, .int .i64 y3] 26)
    rw [hW0]; simpa using this
  have k0 : W0.cell? ⟨w.heap.size, 0, none⟩ = some (.int .i64 x0) := by simp [World.cell?, e1]
  have k1 : W0.cell? ⟨w.heap.size, 1, none⟩ = some (.int .i64 x1) := by simp [World.cell?, e1]
  have k2 : W0.cell? ⟨w.heap.size, 2, none⟩ = some (.int .i64 x2) := by simp [World.cell?, e1]
  have k3 : W0.cell? ⟨w.heap.size, 3, none⟩ = some (.int .i64 x3) := by simp [World.cell?, e1]
  have m0 : W0.cell? ⟨w.heap.size + 1, 0, none⟩ = some (.int .i64 y0) := by simp [World.cell?, e2]
  have m1 : W0.cell? ⟨w.heap.size + 1, 1, none⟩ = some (.int .i64 y1) := by simp [World.cell?, e2]
  have m2 : W0.cell? ⟨w.heap.size + 1, 2, none⟩ = some (.int .i64 y2) := by simp [World.cell?, e2]
  have m3 : W0.cell? ⟨w.heap.size + 1, 3, none⟩ = some (.int .i64 y3) := by simp [World.cell?, e2]
  clear e1 e2
  go_enter Tryz.func30, Tryz.ntmps30
  go_wp2_with fail
  rw [← hW0]
  have HW0 := Lib.hid hW0
  clear hW0
  go_still_tail 20, (by kernel_rfl)
  still_call (HCc _ _ _)
  repeat still_step
  still_call (HCc _ _ _)
  repeat still_step
  still_call (HCc _ _ _)
  repeat still_step
  still_call (HCc _ _ _)
  refine wpStill_nil ?_
  change wpList _ _ _ _ _ W0.drew
  obtain ⟨w2, hW⟩ : ∃ w2, w2 = W0.drew := ⟨_, rfl⟩
  rw [← hW]
  have HW := Lib.hid hW
  clear hW
  go_wp2_with fail
  refine (or_any [cmpI x0 y0, cmpI x1 y1, cmpI x2 y2, cmpI x3 y3] 4 w2.heap.size rfl (by simp) _ (fun j x hj => four_new w2 _ _ _ _ _ j _ (by
    match j, hj with
    | 0, hj => injection hj with hj; rw [← hj]; rfl
    | 1, hj => injection hj with hj; rw [← hj]; rfl
    | 2, hj => injection hj with hj; rw [← hj]; rfl
    | 3, hj => injection hj with hj; rw [← hj]; rfl))).mono ?_
  rintro e w3 ⟨rfl, rfl⟩
  go_wp2_with fail
  go_ret
  refine ⟨ret_int HF.out, 1, ((#[.cells #[.int .i64 x0, .int .i64 x1, .int .i64 x2, .int .i64 x3] 26] ++ #[.cells #[.int .i64 y0, .int .i64 y1, .int .i64 y2, .int .i64 y3] 26]) ++ #[.cells #[.int .i64 (cmpI x0 y0), .int .i64 (cmpI x1 y1), .int .i64 (cmpI x2 y2), .int .i64 (cmpI x3 y3)] 3] : Array Obj), ?_⟩
  rw [HW.out, HW0.out]
  show ((w.drew.alloc _).alloc _).alloc _ = _
  rw [alloc_eq_grow, alloc_eq_grow, alloc_eq_grow, grow_grow, grow_grow]
  rfl
end Go.Proofs.YtkldkaahpicnmaaGreat
/- slices.SortFunc on a row of ids, walked by the shelf's contract. -/
namespace Go.Proofs.YtkldkaahpicnmaaGreat
set_option maxRecDepth 100000
open Go.RowKit Go.Sort Go.Shelf

/-- One id goes ahead of another one. -/
def LessI (x y : I4) : Prop := x.1 < y.1 ∨ x.1 = y.1 ∧ (x.2.1 < y.2.1 ∨ x.2.1 = y.2.1 ∧ (x.2.2.1 < y.2.2.1 ∨ x.2.2.1 = y.2.2.1 ∧ x.2.2.2 < y.2.2.2))

theorem cmpI_neg (a b : Int) : cmpI a b < 0 ↔ a < b := by
  unfold cmpI
  by_cases h : a < b
  · simp [h]
  · by_cases h2 : b < a <;> simp [h, h2]
theorem cmpI_zero (a b : Int) : cmpI a b = 0 ↔ a = b := by
  unfold cmpI
  by_cases h : a < b
  · rw [if_pos h]; constructor <;> intro e <;> omega
  · rw [if_neg h]
    by_cases h2 : b < a
    · rw [if_pos h2]; constructor <;> intro e <;> omega
    · rw [if_neg h2]; constructor <;> intro e <;> omega
theorem orL_neg (a b : Int) (r : List Int) : orL (cmpI a b :: r) < 0 ↔ a < b ∨ a = b ∧ orL r < 0 := by
  show (if cmpI a b = 0 then orL r else cmpI a b) < 0 ↔ _
  by_cases h : cmpI a b = 0
  · rw [if_pos h]
    have := (cmpI_zero a b).1 h
    omega
  · rw [if_neg h, cmpI_neg]
    have : ¬ a = b := fun e => h ((cmpI_zero a b).2 e)
    omega
theorem cfI_neg (x y : I4) : cfI x y < 0 ↔ LessI x y := by
  unfold cfI LessI
  rw [orL_neg, orL_neg, orL_neg, orL_neg]
  simp [orL]

theorem cfI_swo : SWO (ltOf cfI) := by
  refine ⟨fun x => ?_, fun x y z h1 h2 => ?_, fun x y z h1 h2 => ?_⟩ <;> simp only [ltOf, decide_eq_true_eq, decide_eq_false_iff_not, cfI_neg, LessI] at * <;> omega

theorem holds_ids {w : World} {g o : Nat} {L : List I4} (h : IdBlk w g o L) : HoldsK cellsI 4 w g o L.toArray := by
  intro t ht
  have ht' : t < L.length * 4 := by simpa [size_flatK] using ht
  refine ⟨?_, h.frozen _⟩
  obtain ⟨p1, p2, p3, p4⟩ := h.cell (t / 4) _ (List.getElem?_eq_getElem (by omega))
  have hd : L.toArray[t / 4]! = L[t / 4]'(by omega) := by rw [getElem!_pos _ _ (by simp; omega)]; simp
  rw [get_flatK _ _ _ _ (by simpa using ht'), hd]
  rcases (show t % 4 = 0 ∨ t % 4 = 1 ∨ t % 4 = 2 ∨ t % 4 = 3 by omega) with e | e | e | e
  · rw [show o + t = o + t / 4 * 4 by omega, p1, e]; rfl
  · rw [show o + t = o + t / 4 * 4 + 1 by omega, p2, e]; rfl
  · rw [show o + t = o + t / 4 * 4 + 2 by omega, p3, e]; rfl
  · rw [show o + t = o + t / 4 * 4 + 3 by omega, p4, e]; rfl

theorem blk_sort {w : World} {g o n : Nat} {os : Array Obj} (d : Array I4) (h : ∃ cs t, w.heap[g]? = some (.cells cs t (0, 0))) : ∃ cs t, (sortWorldK cellsI 4 w g o n d os).heap[g]? = some (.cells cs t (0, 0)) := by
  obtain ⟨cs, t, hb⟩ := h
  have hg : g < w.heap.size := (Array.getElem?_eq_some_iff.1 hb).1
  unfold sortWorldK putRowK
  rw [heap_grow_old _ _ (by simpa using hg)]
  exact ⟨putCells id o (flatK cellsI 4 d) cs, t, by simp [putRow, mapBlock, Sort.ahead, Array.getElem?_modify, hb, onCells]⟩

theorem chg_sort {w : World} {g o n : Nat} {os : Array Obj} (d : Array I4) : Chg (fun k => k = g) w (sortWorldK cellsI 4 w g o n d os) := by
  refine ⟨rfl, rfl, rfl, by simp [sortWorldK, putRowK], fun k hk hne => ?_⟩
  unfold sortWorldK putRowK
  rw [heap_grow_old _ _ (by simpa using hk)]
  have : g ≠ k := fun e => hne e.symm
  simp [putRow, mapBlock, Sort.ahead, Array.getElem?_modify, this]

theorem sort_any (g c o : Nat) (L : List I4) (w : World) (B : Nat) (hI : IdBlk w g o L) (hB : B ≤ g) (hn : L.length ≤ 1000000) :
    Calls Tryz.prog 29 #[.slice (some ⟨g, o, none⟩) L.length c, .func (.func 30) #[] #[]] w fun e w' => e = .returned (.tuple #[]) ∧ ∃ ys : List I4, ys.Perm L ∧ ys.Pairwise (fun x y => ¬ LessI y x) ∧ IdBlk w' g o ys ∧ Below B w w' := by
  have hH := holds_ids hI
  have hgl := hI.lt
  have hC : CmpLays Tryz.prog 30 #[] cellsI 4 cfI g o L.toArray.size w := fun _ _ _ _ x y => cmp_any x y _
  have key := AnyQ.slices_SortFunc Tryz.sortIds 4 Tryz.isAgg26 Tryz.sizeOf26 cellsI (fun _ => rfl) (fun x v hv => by simp [cellsI] at hv; rcases hv with rfl | rfl | rfl | rfl <;> rfl) cfI cfI_swo 30 #[] g o c L.toArray w (enters_of Tryz.func30 (by kernel_rfl) rfl) hC hH hgl (by simp; omega)
  change Calls Tryz.prog 29 _ _ _ at key
  rw [show L.toArray.size = L.length by simp] at key
  refine key.mono ?_
  rintro e w' ⟨rfl, d', n', os, ⟨p1, p2, p3⟩, hs, rfl⟩
  have hd : d'.size = L.length := by simpa using p1
  have hh := holdsK_sortWorldK_c cellsI 4 w g o L.toArray d' n' os hH hgl (by simpa using hd)
  refine ⟨rfl, d'.toList, ?_, ?_, ⟨blk_sort d' hI.blk, fun j i hi => ?_⟩, (chg_sort d').below (by omega) (fun k hk => by omega)⟩
  · have e1 : d'.extract 0 L.length = d' := by rw [← hd, Array.extract_size]
    have e2 : L.toArray.extract 0 L.length = L.toArray := by simp
    rw [e1, e2] at p3
    simpa using p3
  · rw [List.pairwise_iff_getElem]
    intro i j hi hj hij
    have := hs i j (Nat.zero_le _) hij (by simp at hj; omega)
    simp only [ltOf, decide_eq_false_iff_not, cfI_neg] at this
    simp only [Array.length_toList] at hi hj
    rwa [getElem!_pos _ i hi, getElem!_pos _ j hj] at this
  · obtain ⟨hlt, he⟩ := List.getElem?_eq_some_iff.1 hi
    simp only [Array.length_toList] at hlt
    have hv : d'[j]! = i := by rw [getElem!_pos _ j hlt]; simpa using he
    have h0 := (hh.cell hlt (c := 0) (by omega)).1
    have h1 := (hh.cell hlt (c := 1) (by omega)).1
    have h2 := (hh.cell hlt (c := 2) (by omega)).1
    have h3 := (hh.cell hlt (c := 3) (by omega)).1
    rw [hv] at h0 h1 h2 h3
    exact ⟨h0, h1, h2, h3⟩
end Go.Proofs.YtkldkaahpicnmaaGreat
