/- The id of a name that was made of it. -/
import Derived.Test.YtkldkaahpicnmaaFragW
namespace Go.Proofs.Ytkldkaahpicnmaa
open Go.RowKit PFragNames
open Go.Proofs.YtkldkaahpicnmaaW.PrintWords

def letterU (k : Nat) : UInt8 := ([116, 97, 112, 102] : List UInt8).getD k 0
theorem letterB_list (k : Nat) (h : k < 4) : (letterB k).data.toList = [letterU k] := by
  match k, h with
  | 0, _ => rfl
  | 1, _ => rfl
  | 2, _ => rfl
  | 3, _ => rfl
theorem letter_at (k : Nat) (h : k < (⟨#[116, 97, 112, 102]⟩ : ByteArray).size) : (((⟨#[116, 97, 112, 102]⟩ : ByteArray)[k]'h).toNat : Int) = ((letterU k).toNat : Int) := by
  match k, h with
  | 0, _ => rfl
  | 1, _ => rfl
  | 2, _ => rfl
  | 3, _ => rfl
/-- What is left of a name behind its first k numbers. -/
def restL (l : List Int) (k : Nat) : List UInt8 := ((List.range 4).drop k).flatMap fun j => letterU j :: decL (l.getD j 0).toNat
theorem restL_four (l : List Int) : restL l 4 = [] := rfl
theorem restL_step (l : List Int) (k : Nat) (h : k < 4) : restL l k = letterU k :: (decL (l.getD k 0).toNat ++ restL l (k + 1)) := by
  match k, h with
  | 0, _ => rfl
  | 1, _ => rfl
  | 2, _ => rfl
  | 3, _ => rfl
theorem nameUpto_list (l : List Int) : (nameUpto l 4).data.toList = restL l 0 := by
  have step : ∀ k, k < 4 → (nameUpto l (k + 1)).data.toList = (nameUpto l k).data.toList ++ (letterU k :: decL (l.getD k 0).toNat) := by
    intro k hk
    show (nameUpto l k ++ (letterB k ++ decB (l.getD k 0).toNat)).data.toList = _
    rw [ByteArray.data_append, Array.toList_append, ByteArray.data_append, Array.toList_append, letterB_list k hk]
    rfl
  rw [step 3 (by omega), step 2 (by omega), step 1 (by omega), step 0 (by omega), restL_step l 0 (by omega), restL_step l 1 (by omega), restL_step l 2 (by omega), restL_step l 3 (by omega), restL_four]
  show (((([] ++ _) ++ _) ++ _) ++ _) = _
  simp
theorem stops_rest (l : List Int) (k : Nat) (h : k ≤ 4) : Stops (restL l k) := by
  intro c hc
  match k, h with
  | 0, _ => rw [restL_step l 0 (by omega)] at hc; simp at hc; subst hc; decide
  | 1, _ => rw [restL_step l 1 (by omega)] at hc; simp at hc; subst hc; decide
  | 2, _ => rw [restL_step l 2 (by omega)] at hc; simp at hc; subst hc; decide
  | 3, _ => rw [restL_step l 3 (by omega)] at hc; simp at hc; subst hc; decide
  | 4, _ => rw [restL_four] at hc; simp at hc

set_option maxHeartbeats 2000000 in
theorem named_ex (a b c d : Int) (hok : okId a b c d = true) (w : World) :
    Calls Try.prog 9 #[.string (nameUpto [a, b, c, d] 4)] w fun e w' => e = .returned (.tuple #[idV a b c d, .bool true]) ∧ Below w.heap.size w w' := by
  have hall := fun k n hn => okId_all hok k n hn
  have hsz := nameUpto_size [a, b, c, d] (fun n hm => by obtain ⟨j, hj⟩ := List.mem_iff_getElem?.1 hm; exact hall j n hj) 4 (Nat.le_refl _)
  have hlist := nameUpto_list [a, b, c, d]
  have hpos := name_pos [a, b, c, d]
  have HW := Lib.hid (name_right a b c d hok)
  have HALL := Lib.hid hall
  obtain ⟨nm, hnm⟩ : ∃ nm, nm = nameUpto [a, b, c, d] 4 := ⟨_, rfl⟩
  rw [← hnm] at hsz hlist hpos HW ⊢
  have hse := notEmpty hpos
  have hq1 : (nm.toList == nm.toList) = true := by simp
  clear hnm hall
  go_enter Try.func9, Try.ntmps9
  go_wp2_with fail
  go_loopw [5, 12] (fun rest i wr => ∃ (k : Nat) (o : ByteArray) (l : List Int), k ≤ 4 ∧ i = .int .i64 (k : Int) ∧ rest = .string o ∧ o.data.toList = restL [a, b, c, d] k ∧ o.size ≤ nm.size ∧ l = [a, b, c, d].take k ++ List.replicate (4 - k) 0 ∧ wr.heap[w.heap.size]? = some (.cells #[.int .i64 0, .int .i64 0, .int .i64 0, .int .i64 0] 26 (0, 0)) ∧
    wr.heap[w.heap.size + 1]? = some (ArrO l) ∧ Below w.heap.size w wr) (fun _ i _ => 4 - (intOf i).toNat)
  case atStart =>
    refine ⟨0, nm, [0, 0, 0, 0], by omega, rfl, rfl, hlist, Nat.le_refl _, rfl, (Below.heap_alloc _ _ _ (by simp)).trans (heap_alloc_new w _), ?_, ((Below.refl _ w).alloc (Nat.le_refl _) _).alloc (by simp) _⟩
    have := heap_alloc_new (w.alloc (.cells #[.int .i64 0, .int .i64 0, .int .i64 0, .int .i64 0] 26)) (.cells #[.int .i64 0, .int .i64 0, .int .i64 0, .int .i64 0] 47)
    rw [World.size_alloc] at this
    exact this
  case round =>
    obtain ⟨k, o, l, hk, rfl, rfl, ho, hos, hl, x0, y0, hb⟩ := hrel
    by_cases hlt : k < 4
    · obtain ⟨n, hn⟩ : ∃ n, [a, b, c, d][k]? = some n := ⟨_, List.getElem?_eq_getElem (by simpa using hlt)⟩
      obtain ⟨hn1, hn2⟩ := HALL.out k n hn
      obtain ⟨m, rfl⟩ := Int.eq_ofNat_of_zero_le hn1
      have hgd : ([a, b, c, d].getD k 0).toNat = m := by rw [List.getD_eq_getElem?_getD, hn]; rfl
      have hstep := restL_step [a, b, c, d] k hlt
      rw [hgd] at hstep
      rw [hstep] at ho
      have hnb := numbered_ex o (letterU k) m _ (by omega) ho (stops_rest _ (k + 1) (by omega)) (by omega) wr
      have hlen4 : l.length = 4 := by rw [hl]; simp; omega
      have hset : l.set k (m : Int) = [a, b, c, d].take (k + 1) ++ List.replicate (4 - (k + 1)) 0 := by
        rw [hl, List.set_append_right _ _ (by simp; omega), List.take_add_one, hn]
        have e1 : k - ([a, b, c, d].take k).length = 0 := by simp; omega
        obtain ⟨q, hq⟩ : ∃ q, 4 - k = q + 1 := ⟨3 - k, by omega⟩
        rw [e1, hq, List.replicate_succ, show 4 - (k + 1) = q by omega]
        simp
      have hosz : (⟨(restL [a, b, c, d] (k + 1)).toArray⟩ : ByteArray).size ≤ nm.size := by
        have e1 := congrArg List.length ho
        have e2 : o.data.toList.length = o.size := by simp
        have e3 : (⟨(restL [a, b, c, d] (k + 1)).toArray⟩ : ByteArray).size = (restL [a, b, c, d] (k + 1)).length := by show (restL [a, b, c, d] (k + 1)).toArray.size = _; simp
        rw [List.length_cons, List.length_append] at e1
        omega
      obtain ⟨R, hR⟩ : ∃ R : ByteArray, R = ⟨(restL [a, b, c, d] (k + 1)).toArray⟩ := ⟨_, rfl⟩
      have hRl : R.data.toList = restL [a, b, c, d] (k + 1) := by rw [hR]
      rw [← hR] at hnb hosz
      have hletter := letter_at k hlt
      have HS := Lib.hid hset
      have HRL := Lib.hid hRl
      have HNB := Lib.hid hnb
      obtain ⟨z0', z1'⟩ := arr_cell y0 k l[k] (List.getElem?_eq_getElem (by omega))
      clear hset hRl hR hstep hgd hn ho hl
      go_wp2_with fail
      refine HNB.out.mono ?_
      rintro e w1 ⟨rfl, hb1⟩
      have x1 := (hb1.block _ (Array.getElem?_eq_some_iff.1 x0).1).trans x0
      have y1 := (hb1.block _ (Array.getElem?_eq_some_iff.1 y0).1).trans y0
      have hB1 : Below w.heap.size w w1 := hb.trans (hb1.mono hb.size)
      obtain ⟨⟨c0, c1, c2, c3⟩, f0, f1, f2, f3⟩ := ifacts x1
      obtain ⟨z0, z1⟩ := arr_cell y1 k l[k] (List.getElem?_eq_getElem (by omega))
      go_wp2_with fail
      go_roundw
      case rel => exact ⟨k + 1, R, l.set k (m : Int), by omega, by go_num, rfl, HRL.out, hosz, HS.out, (Below.heap_setCell _ _ _ _ (by show w.heap.size ≠ w.heap.size + 1; omega)).trans x1, arr_set y1 k (m : Int), hB1.setCell (p := ⟨w.heap.size + 1, k, none⟩) (by show w.heap.size ≤ w.heap.size + 1; omega) _⟩
      case measure => simp [intOf]; omega
    · obtain rfl : k = 4 := by omega
      have hl2 : l = [a, b, c, d] := by rw [hl]; rfl
      subst hl2
      obtain ⟨z0, _⟩ := arr_cell y0 0 a rfl
      obtain ⟨z1, _⟩ := arr_cell y0 1 b rfl
      obtain ⟨z2, _⟩ := arr_cell y0 2 c rfl
      obtain ⟨z3, _⟩ := arr_cell y0 3 d rfl
      clear hl ho
      go_wp2_with fail
      refine (HW.out _).mono ?_
      rintro e w1 ⟨rfl, hb1⟩
      have hlx : w.heap.size < wr.heap.size := (Array.getElem?_eq_some_iff.1 x0).1
      have x1 := (hb1.block w.heap.size (by simp; omega)).trans ((Below.heap_alloc wr _ _ (by omega)).trans x0)
      have y1 := (hb1.block wr.heap.size (by simp)).trans (heap_alloc_new wr _)
      have hB1 : Below w.heap.size w w1 := (hb.alloc hb.size _).trans (hb1.mono (by simp; omega))
      obtain ⟨⟨c0, c1, c2, c3⟩, f0, f1, f2, f3⟩ := ifacts x1
      obtain ⟨⟨e0, e1, e2, e3⟩, _⟩ := ifacts y1
      go_wp2_with fail
      refine bodyPost_ret (results_ct rfl _ _ w.heap.size 26 _ (0, 0) _ rfl (set4 x1 _ _ _ _) Try.underlying26 rfl (by kernel_rfl)) rfl ?_
      exact ⟨rfl, below4 hB1 (Nat.le_refl _) _ _ _ _⟩

end Go.Proofs.Ytkldkaahpicnmaa
