/- The id of a name. -/
import Derived.Test.YtkldkaahpicnmaaFragH
namespace Go.Proofs.Ytkldkaahpicnmaa
open Go.RowKit PFragNames
open Go.Proofs.YtkldkaahpicnmaaW.PrintWords

theorem set4 {W : World} {g : Nat} {a0 a1 a2 a3 : Value} (h : W.heap[g]? = some (.cells #[a0, a1, a2, a3] 26 (0, 0))) (b0 b1 b2 b3 : Value) :
    ((((W.setCell ⟨g, 0, none⟩ b0).setCell ⟨g, 1, none⟩ b1).setCell ⟨g, 2, none⟩ b2).setCell ⟨g, 3, none⟩ b3).heap[g]? = some (.cells #[b0, b1, b2, b3] 26 (0, 0)) := by
  simp [World.setCell, Array.getElem?_modify, h]

theorem below4 {B : Nat} {w W : World} {g : Nat} (h : Below B w W) (hg : B ≤ g) (b0 b1 b2 b3 : Value) :
    Below B w ((((W.setCell ⟨g, 0, none⟩ b0).setCell ⟨g, 1, none⟩ b1).setCell ⟨g, 2, none⟩ b2).setCell ⟨g, 3, none⟩ b3) :=
  (((h.setCell (p := ⟨g, 0, none⟩) hg _).setCell (p := ⟨g, 1, none⟩) hg _).setCell (p := ⟨g, 2, none⟩) hg _).setCell (p := ⟨g, 3, none⟩) hg _

theorem ifacts {W : World} {g : Nat} {a0 a1 a2 a3 : Value} (h : W.heap[g]? = some (.cells #[a0, a1, a2, a3] 26 (0, 0))) :
    (W.cell? ⟨g, 0, none⟩ = some a0 ∧ W.cell? ⟨g, 1, none⟩ = some a1 ∧ W.cell? ⟨g, 2, none⟩ = some a2 ∧ W.cell? ⟨g, 3, none⟩ = some a3) ∧
    W.frozen? ⟨g, 0, none⟩ = false ∧ W.frozen? ⟨g, 1, none⟩ = false ∧ W.frozen? ⟨g, 2, none⟩ = false ∧ W.frozen? ⟨g, 3, none⟩ = false := by
  simp [World.cell?, World.frozen?, h]

/-- Four numbers in memory. -/
def ArrO (l : List Int) : Obj := .cells (l.map (Value.int .i64)).toArray 47 (0, 0)

theorem arr_cell {W : World} {g : Nat} {l : List Int} (h : W.heap[g]? = some (ArrO l)) (j : Nat) (n : Int) (hj : l[j]? = some n) : W.cell? ⟨g, j, none⟩ = some (.int .i64 n) ∧ W.frozen? ⟨g, j, none⟩ = false := by
  simp [World.cell?, World.frozen?, h, ArrO, hj]

theorem arr_set {W : World} {g : Nat} {l : List Int} (h : W.heap[g]? = some (ArrO l)) (k : Nat) (n : Int) : (W.setCell ⟨g, k, none⟩ (.int .i64 n)).heap[g]? = some (ArrO (l.set k n)) := by
  simp [World.setCell, Array.getElem?_modify, h, ArrO, List.map_set]

/-- An id and a bool come back: the id of that name, or none. -/
def NamedEnd (s : ByteArray) (w : World) (e : Ending) (w' : World) : Prop :=
  (∃ (a b c d : Int) (q : Bool), e = .returned (.tuple #[idV a b c d, .bool q]) ∧ (q = false → a = 0 ∧ b = 0 ∧ c = 0 ∧ d = 0) ∧ (q = true → okId a b c d = true ∧ nameUpto [a, b, c, d] 4 = s)) ∧ Below w.heap.size w w'

theorem name_pos (l : List Int) : 0 < (nameUpto l 4).size := by
  have h2 := letterB_size 3 (by decide)
  show 0 < (nameUpto l 3 ++ (letterB 3 ++ decB (l.getD 3 0).toNat)).size
  rw [ByteArray.size_append, ByteArray.size_append, h2]
  omega

set_option maxHeartbeats 1000000 in
theorem named_any (s : ByteArray) (hs : s.size ≤ 1000000) (w : World) : Calls Try.prog 9 #[.string s] w (NamedEnd s w) := by
  go_enter Try.func9, Try.ntmps9
  go_wp2_with fail
  go_loopw [5, 12] (fun rest i wr => ∃ (k : Nat) (o : ByteArray) (l : List Int), k ≤ 4 ∧ i = .int .i64 (k : Int) ∧ rest = .string o ∧ o.size ≤ s.size ∧ l.length = 4 ∧ wr.heap[w.heap.size]? = some (.cells #[.int .i64 0, .int .i64 0, .int .i64 0, .int .i64 0] 26 (0, 0)) ∧
    wr.heap[w.heap.size + 1]? = some (ArrO l) ∧ Below w.heap.size w wr) (fun _ i _ => 4 - (intOf i).toNat)
  case atStart =>
    refine ⟨0, s, [0, 0, 0, 0], by omega, rfl, rfl, Nat.le_refl _, rfl, (Below.heap_alloc _ _ _ (by simp)).trans (heap_alloc_new w _), ?_, ((Below.refl _ w).alloc (Nat.le_refl _) _).alloc (by simp) _⟩
    have := heap_alloc_new (w.alloc (.cells #[.int .i64 0, .int .i64 0, .int .i64 0, .int .i64 0] 26)) (.cells #[.int .i64 0, .int .i64 0, .int .i64 0, .int .i64 0] 47)
    rw [World.size_alloc] at this
    exact this
  case round =>
    obtain ⟨k, o, l, hk, rfl, rfl, ho, hl, x0, y0, hb⟩ := hrel
    by_cases hlt : k < 4
    · have HN := Lib.hid (fun c => numbered_any o c (by omega) wr)
      go_wp2_with fail
      refine (HN.out _).mono ?_
      rintro e w1 ⟨⟨n, o1, q, rfl, ho1⟩, hb1⟩
      have x1 := (hb1.block _ (Array.getElem?_eq_some_iff.1 x0).1).trans x0
      have y1 := (hb1.block _ (Array.getElem?_eq_some_iff.1 y0).1).trans y0
      have hB1 : Below w.heap.size w w1 := hb.trans (hb1.mono hb.size)
      obtain ⟨⟨c0, c1, c2, c3⟩, f0, f1, f2, f3⟩ := ifacts x1
      obtain ⟨z0, z1⟩ := arr_cell y1 k l[k] (List.getElem?_eq_getElem (by omega))
      cases q
      · go_wp2_with fail
        refine bodyPost_ret (results_ct rfl _ _ w.heap.size 26 _ (0, 0) _ rfl (set4 x1 _ _ _ _) Try.underlying26 rfl (by kernel_rfl)) rfl ?_
        exact ⟨⟨0, 0, 0, 0, false, rfl, fun _ => ⟨rfl, rfl, rfl, rfl⟩, fun h => by cases h⟩, below4 hB1 (Nat.le_refl _) _ _ _ _⟩
      · go_wp2_with fail
        go_roundw
        case rel => exact ⟨k + 1, o1, l.set k n, by omega, by go_num, rfl, by omega, by simp [hl], (Below.heap_setCell _ _ _ _ (by show w.heap.size ≠ w.heap.size + 1; omega)).trans x1, arr_set y1 k n, hB1.setCell (p := ⟨w.heap.size + 1, k, none⟩) (by show w.heap.size ≤ w.heap.size + 1; omega) _⟩
        case measure => simp [intOf]; omega
    · obtain rfl : k = 4 := by omega
      match l, hl with
      | [a, b, c, d], _ =>
        obtain ⟨z0, _⟩ := arr_cell y0 0 a rfl
        obtain ⟨z1, _⟩ := arr_cell y0 1 b rfl
        obtain ⟨z2, _⟩ := arr_cell y0 2 c rfl
        obtain ⟨z3, _⟩ := arr_cell y0 3 d rfl
        cases hok : okId a b c d with
        | false =>
          have HW := Lib.hid (name_wrong a b c d hok)
          go_wp2_with fail
          refine (HW.out _).mono ?_
          rintro e w1 ⟨rfl, hb1⟩
          have hlx : w.heap.size < wr.heap.size := (Array.getElem?_eq_some_iff.1 x0).1
          have x1 := (hb1.block w.heap.size (by simp; omega)).trans ((Below.heap_alloc wr _ _ (by omega)).trans x0)
          have y1 := (hb1.block wr.heap.size (by simp)).trans (heap_alloc_new wr _)
          have hB1 : Below w.heap.size w w1 := (hb.alloc hb.size _).trans (hb1.mono (by simp; omega))
          obtain ⟨⟨c0, c1, c2, c3⟩, f0, f1, f2, f3⟩ := ifacts x1
          obtain ⟨⟨e0, e1, e2, e3⟩, _⟩ := ifacts y1
          by_cases h0 : 0 < s.size
          · have hse := notEmpty h0
            have hne : (ByteArray.empty.toList == s.toList) = false := by
              rw [beq_eq_false_iff_ne]
              intro e
              rw [← e] at hse
              simp at hse
            have hne2 : (([] : List UInt8) == s.toList) = false := by
              rw [beq_eq_false_iff_ne]
              intro e
              rw [← e] at hse
              simp at hse
            go_wp2_with fail
            refine bodyPost_ret (results_ct rfl _ _ w.heap.size 26 _ (0, 0) _ rfl (set4 x1 _ _ _ _) Try.underlying26 rfl (by kernel_rfl)) rfl ?_
            exact ⟨⟨0, 0, 0, 0, false, rfl, fun _ => ⟨rfl, rfl, rfl, rfl⟩, fun h => by cases h⟩, below4 hB1 (Nat.le_refl _) _ _ _ _⟩
          · obtain rfl := isEmpty_ (s := s) (by omega)
            go_wp2_with fail
            refine bodyPost_ret (results_ct rfl _ _ w.heap.size 26 _ (0, 0) _ rfl (set4 x1 _ _ _ _) Try.underlying26 rfl (by kernel_rfl)) rfl ?_
            exact ⟨⟨0, 0, 0, 0, false, rfl, fun _ => ⟨rfl, rfl, rfl, rfl⟩, fun h => by cases h⟩, below4 hB1 (Nat.le_refl _) _ _ _ _⟩
        | true =>
          have HW := Lib.hid (name_right a b c d hok)
          go_wp2_with fail
          refine (HW.out _).mono ?_
          rintro e w1 ⟨rfl, hb1⟩
          have hlx : w.heap.size < wr.heap.size := (Array.getElem?_eq_some_iff.1 x0).1
          have x1 := (hb1.block w.heap.size (by simp; omega)).trans ((Below.heap_alloc wr _ _ (by omega)).trans x0)
          have y1 := (hb1.block wr.heap.size (by simp)).trans (heap_alloc_new wr _)
          have hB1 : Below w.heap.size w w1 := (hb.alloc hb.size _).trans (hb1.mono (by simp; omega))
          obtain ⟨⟨c0, c1, c2, c3⟩, f0, f1, f2, f3⟩ := ifacts x1
          obtain ⟨⟨e0, e1, e2, e3⟩, _⟩ := ifacts y1
          have hpos := name_pos [a, b, c, d]
          obtain ⟨nm, hnm⟩ : ∃ nm, nameUpto [a, b, c, d] 4 = nm := ⟨_, rfl⟩
          have HNM := Lib.hid hnm
          rw [hnm] at hpos ⊢
          clear hnm HW
          by_cases hes : nm = s
          · subst hes
            have hse := notEmpty hpos
            have hq1 : (nm.toList == nm.toList) = true := by simp
            go_wp2_with fail
            refine bodyPost_ret (results_ct rfl _ _ w.heap.size 26 _ (0, 0) _ rfl (set4 x1 _ _ _ _) Try.underlying26 rfl (by kernel_rfl)) rfl ?_
            exact ⟨⟨a, b, c, d, true, rfl, (fun h => by cases h), fun _ => ⟨hok, HNM.out⟩⟩, below4 hB1 (Nat.le_refl _) _ _ _ _⟩
          · have hq1 : (nm.toList == s.toList) = false := by
              rw [beq_eq_false_iff_ne]
              intro e
              exact hes (str_eq nm s (by simp [e]))
            go_wp2_with fail
            refine bodyPost_ret (results_ct rfl _ _ w.heap.size 26 _ (0, 0) _ rfl (set4 x1 _ _ _ _) Try.underlying26 rfl (by kernel_rfl)) rfl ?_
            exact ⟨⟨0, 0, 0, 0, false, rfl, fun _ => ⟨rfl, rfl, rfl, rfl⟩, fun h => by cases h⟩, below4 hB1 (Nat.le_refl _) _ _ _ _⟩

end Go.Proofs.Ytkldkaahpicnmaa
