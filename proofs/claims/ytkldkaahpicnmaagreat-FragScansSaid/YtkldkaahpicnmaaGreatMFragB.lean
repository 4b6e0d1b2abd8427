/- A value, a letter and a number, an id's name are read as they were written. -/
import Derived.Test.YtkldkaahpicnmaaGreatMFragA
import Derived.Deep.RegionHeld3
import Derived.Deep.QuietTactic
import Derived.BigQuiet
import Derived.StillTailTactics
import Derived.Laws.BitsAllLaws
import Derived.DataShut
import Derived.Test.YtkldkaahpicnmaaGreatRows
import Derived.Test.YtkldkaahpicnmaaGreatMDisk
import Derived.Laws.Rows
import Derived.Laws.Tables
import Derived.Laws.CopyOwn
import Derived.Outline
import Derived.ShutString
import Derived.Lib.Hide
namespace Go.Proofs.YtkldkaahpicnmaaGreat
set_option maxRecDepth 100000
open Go.RowKit PFragNames
open Go.Proofs.YtkldkaahpicnmaaGreatW.PrintWords

/-- What may stand behind a number: nothing, or a byte that goes on with neither digits nor a point. -/
def Stops (rest : List UInt8) : Prop := ∀ c, rest[0]? = some c → ¬ ((48 : Int) ≤ (c.toNat : Int) ∧ (c.toNat : Int) ≤ 57) ∧ ((c.toNat : Int) == 58) = false

set_option maxHeartbeats 2000000 in
theorem numeric_ex (s : ByteArray) (n : Nat) (rest : List UInt8) (hs : s.size ≤ 1000000) (hd : s.data.toList = decL n ++ rest) (hr : Stops rest) (hn : n ≤ 2147483647) (w : World) :
    Calls Tryz.prog 98 #[.string s] w fun e w' => e = .returned (.tuple #[intV n, .int .i64 ((decL n).length : Nat), .int .i64 0]) ∧ Below w.heap.size w w' := by
  have HN := Lib.hid (number_ex s 0 n rest hs (Nat.zero_le _) hd (fun c hc => (hr c hc).1) hn)
  have hlen : (decL n).length + rest.length = s.size := by
    have := congrArg List.length hd
    rw [List.length_append] at this
    have e : s.data.toList.length = s.size := by simp
    omega
  have h58 : ∀ i, i = (decL n).length → ∀ (h : i < s.size), ((s[i].toNat : Int) == 58) = false := by
    intro i hi h
    have e1 : s.data.toList[i]? = some s[i] := by simp [h]; rfl
    rw [hd, List.getElem?_append_right (by omega), show i - (decL n).length = 0 by omega] at e1
    exact (hr _ e1).2
  rw [Nat.zero_add] at HN
  obtain ⟨i, hii⟩ : ∃ i, i = (decL n).length := ⟨_, rfl⟩
  have h58 := h58 i hii
  simp only [← hii] at HN hlen ⊢
  clear hd hr hii
  go_enter Tryz.func98, Tryz.ntmps98
  go_wp2_with fail
  refine (HN.out _).mono ?_
  rintro e w1 ⟨rfl, hb1⟩
  have hB1 : Below w.heap.size w w1 := ((Below.refl _ w).alloc (Nat.le_refl _) _).trans (hb1.mono (by simp))
  have hs1 : w.heap.size < w1.heap.size := by have := hb1.size; simp at this; omega
  have x1 : w1.heap[w.heap.size]? = some (.cells #[.int .i64 0, .int .i64 0, .string ⟨#[]⟩, .int .i64 0, .int .i64 0] 71 (0, 0)) := (hb1.block _ (by simp)).trans (heap_alloc_new w _)
  obtain ⟨W2, hW2⟩ : ∃ W2, W2 = w1.alloc (.cells #[.int .i64 0, .int .i64 (n : Int), .string ⟨#[]⟩, .int .i64 0, .int .i64 0] 71) := ⟨_, rfl⟩
  have y2 : W2.heap[w1.heap.size]? = some (.cells #[.int .i64 0, .int .i64 (n : Int), .string ⟨#[]⟩, .int .i64 0, .int .i64 0] 71 (0, 0)) := by rw [hW2]; exact heap_alloc_new w1 _
  have x2 : W2.heap[w.heap.size]? = some (.cells #[.int .i64 0, .int .i64 0, .string ⟨#[]⟩, .int .i64 0, .int .i64 0] 71 (0, 0)) := by rw [hW2]; exact (Below.heap_alloc w1 _ _ hs1).trans x1
  have hB2 : Below w.heap.size w W2 := by rw [hW2]; exact hB1.alloc (by omega) _
  obtain ⟨⟨c0, c1, c2, c3, c4⟩, f0, f1, f2, f3, f4⟩ := vfacts y2
  by_cases hlt : i < s.size
  all_goals
    first | have hq := h58 hlt | skip
    clear h58
    go_wp2_with fail
    try rw [← hW2]
    refine (vright_int (n : Int) W2).mono ?_
    rintro e w6 ⟨⟨q, rfl, hq2⟩, hb6⟩
    obtain rfl := hq2 (by omega)
    have hs6 := (Array.getElem?_eq_some_iff.1 x2).1
    have hs7 := (Array.getElem?_eq_some_iff.1 y2).1
    have x6 := (hb6.block _ hs6).trans x2
    have y6 := (hb6.block _ hs7).trans y2
    have hB6 : Below w.heap.size w w6 := hB2.trans (hb6.mono hB2.size)
    obtain ⟨⟨e0, e1, e2, e3, e4⟩, d0, d1, d2, d3, d4⟩ := vfacts x6
    obtain ⟨⟨r0, r1, r2, r3, r4⟩, _⟩ := vfacts y6
    clear hq2
    go_wp2_with fail
    refine bodyPost_ret (results_ctt rfl _ _ w.heap.size 71 _ (0, 0) _ rfl (set5 x6 _ _ _ _ _) Tryz.underlying71 rfl (by kernel_rfl)) rfl ?_
    exact ⟨rfl, below5 hB6 (Nat.le_refl _) _ _ _ _ _⟩

set_option maxHeartbeats 1000000 in
theorem parse_ex (s : ByteArray) (n : Nat) (rest : List UInt8) (hs : s.size ≤ 1000000) (hd : s.data.toList = decL n ++ rest) (hr : Stops rest) (hn : n ≤ 2147483647) (w : World) :
    Calls Tryz.prog 85 #[.string s] w fun e w' => e = .returned (.tuple #[intV n, .int .i64 ((decL n).length : Nat), .int .i64 0]) ∧ Below w.heap.size w w' := by
  have HN := Lib.hid (numeric_ex s n rest hs hd hr hn)
  have hpos := decL_pos n
  have h0 : 0 < s.size := by
    have := congrArg List.length hd
    rw [List.length_append] at this
    have e : s.data.toList.length = s.size := by simp
    omega
  have hdig : (48 : Int) ≤ (s[0].toNat : Int) ∧ (s[0].toNat : Int) ≤ 57 := by
    have e1 : s.data.toList[0]? = some s[0] := by simp [h0]; rfl
    rw [hd, List.getElem?_append_left hpos] at e1
    have := decL_digits n s[0] (List.mem_of_getElem? e1)
    omega
  have hse := notEmpty h0
  have h34 : ((s[0].toNat : Int) == 34) = false := by rw [beq_eq_false_iff_ne]; omega
  have h45 : ((s[0].toNat : Int) == 45) = false := by rw [beq_eq_false_iff_ne]; omega
  have HD := Lib.hid (digit_yes _ hdig.1 hdig.2)
  have x0 := heap_alloc_new w (.cells #[.int .i64 0, .int .i64 0, .string ⟨#[]⟩, .int .i64 0, .int .i64 0] 71)
  clear hdig hd hr hpos
  unfold intV at *
  go_enter Tryz.func85, Tryz.ntmps85
  go_wp2_with fail
  refine (HD.out _).mono ?_
  rintro e w2 ⟨rfl, hb2⟩
  have hB2 : Below w.heap.size w w2 := ((Below.refl _ w).alloc (Nat.le_refl _) _).trans (hb2.mono (by simp))
  have x2 := (hb2.block _ (by simp)).trans x0
  obtain ⟨⟨e0, e1, e2, e3, e4⟩, g0, g1, g2, g3, g4⟩ := vfacts x2
  go_wp2_with fail
  refine (HN.out _).mono ?_
  rintro e w1 ⟨rfl, hb1⟩
  have hB : Below w.heap.size w w1 := hB2.trans (hb1.mono hB2.size)
  have x1 := (hb1.block _ (Array.getElem?_eq_some_iff.1 x2).1).trans x2
  obtain ⟨⟨c0, c1, c2, c3, c4⟩, f0, f1, f2, f3, f4⟩ := vfacts x1
  go_wp2_with fail
  refine bodyPost_ret (results_ctt rfl _ _ w.heap.size 71 _ (0, 0) _ rfl (set5 x1 _ _ _ _ _) Tryz.underlying71 rfl (by kernel_rfl)) rfl ?_
  exact ⟨rfl, below5 hB (Nat.le_refl _) _ _ _ _ _⟩

set_option maxHeartbeats 1000000 in
theorem numbered_ex (s : ByteArray) (c : UInt8) (n : Nat) (rest : List UInt8) (hs : s.size ≤ 1000000) (hd : s.data.toList = c :: (decL n ++ rest)) (hr : Stops rest) (hn : n ≤ 2147483647) (w : World) :
    Calls Tryz.prog 65 #[.string s, .int .u8 (c.toNat : Int)] w fun e w' => e = .returned (.tuple #[.int .i64 (n : Int), .string ⟨rest.toArray⟩, .bool true]) ∧ Below w.heap.size w w' := by
  have hsz : s.size = 1 + (decL n).length + rest.length := by
    have := congrArg List.length hd
    rw [List.length_cons, List.length_append] at this
    have e : s.data.toList.length = s.size := by simp
    omega
  have h0 : 0 < s.size := by omega
  have hse := notEmpty h0
  have hq : ((s[0].toNat : Nat) : Int) = (c.toNat : Int) := by
    have e1 : s.data.toList[0]? = some s[0] := by simp [h0]; rfl
    rw [hd] at e1
    simp only [List.getElem?_cons_zero, Option.some.injEq] at e1
    rw [e1]
  obtain ⟨t, ht⟩ : ∃ t, s.extract 1 s.size = t := ⟨_, rfl⟩
  have htl : t.data.toList = decL n ++ rest := by
    rw [← ht, ByteArray.data_extract, Array.toList_extract]
    simp only [List.extract]
    rw [hd, List.drop_one, List.tail_cons, List.take_of_length_le (by rw [List.length_append]; omega)]
  have htz : t.size = s.size - 1 := by rw [← ht, ByteArray.size_extract]; omega
  have HP := Lib.hid (parse_ex t n rest (by omega) htl hr hn)
  have hrest : ∀ k, k = 1 + (decL n).length → s.extract k s.size = ⟨rest.toArray⟩ := by
    intro k hk
    apply ByteArray.ext
    apply Array.toList_inj.1
    rw [ByteArray.data_extract, Array.toList_extract]
    simp only [List.extract]
    rw [hd, hk, Nat.add_comm 1, List.drop_succ_cons, List.drop_left, List.take_of_length_le (by omega)]
  obtain ⟨i, hii⟩ : ∃ i, i = (decL n).length := ⟨_, rfl⟩
  simp only [← hii] at HP hrest hsz
  obtain ⟨k, hk⟩ : ∃ k, k = 1 + i := ⟨_, rfl⟩
  have hex := hrest k hk
  have hwr : IntKind.i64.wrap (1 + (i : Int)) = (k : Int) := by rw [IntKind.wrap_i64]; omega
  have hk1 : (0 : Int) ≤ (k : Int) ∧ (k : Int) ≤ (s.size : Int) := by omega
  have HT := Lib.hid ht
  obtain ⟨R, hR⟩ : ∃ R : ByteArray, R = ⟨rest.toArray⟩ := ⟨_, rfl⟩
  rw [← hR] at hex ⊢
  clear hd hr hrest hii hk hsz htl hR
  unfold intV at *
  go_enter Tryz.func65, Tryz.ntmps65
  go_wp2_with fail
  refine (HP.out _).mono ?_
  rintro e w1 ⟨rfl, hb1⟩
  obtain ⟨W2, hW2⟩ : ∃ W2, W2 = w1.alloc (.cells #[.int .i64 0, .int .i64 (n : Int), .string ⟨#[]⟩, .int .i64 0, .int .i64 0] 71) := ⟨_, rfl⟩
  have y2 : W2.heap[w1.heap.size]? = some (.cells #[.int .i64 0, .int .i64 (n : Int), .string ⟨#[]⟩, .int .i64 0, .int .i64 0] 71 (0, 0)) := by rw [hW2]; exact heap_alloc_new w1 _
  have hB2 : Below w.heap.size w W2 := by rw [hW2]; exact hb1.alloc hb1.size _
  obtain ⟨⟨c0, c1, c2, c3, c4⟩, _⟩ := vfacts y2
  go_wp2_with fail
  try rw [← hW2]
  clear hW2
  refine wp_region_still_lit (by kernel_rfl) (by kernel_rfl) ?_
  repeat still_step
  refine wpStill_nil ?_
  go_wp2_with fail
  go_ret3
  exact ⟨rfl, hB2.drew⟩
end Go.Proofs.YtkldkaahpicnmaaGreat
/- The id of a name that was made of it. -/
namespace Go.Proofs.YtkldkaahpicnmaaGreat
set_option maxRecDepth 100000
open Go.RowKit PFragNames
open Go.Proofs.YtkldkaahpicnmaaGreatW.PrintWords

def letterU (k : Nat) : UInt8 := ([116, 97, 112, 102] : List UInt8).getD k 0
theorem letterB_list (k : Nat) (h : k < 4) : (letterB k).data.toList = [letterU k] := by
  match k, h with
  | 0, _ => rfl
  | 1, _ => rfl
  | 2, _ => rfl
  | 3, _ => rfl
theorem letter_at (k : Nat) (h : k < (⟨#[116, 97, 112, 102]⟩ : ByteArray).size) : (((⟨#[116, 97, 112, 102]⟩ : ByteArray)[k]'h).toNat : Int) = ((letterU k).toNat : Int) := by
  match k, h with
  | 0, _ => rfl
  | 1, _ => rfl
  | 2, _ => rfl
  | 3, _ => rfl
/-- What is left of a name behind its first k numbers. -/
def restL (l : List Int) (k : Nat) : List UInt8 := ((List.range 4).drop k).flatMap fun j => letterU j :: decL (l.getD j 0).toNat
theorem restL_four (l : List Int) : restL l 4 = [] := rfl
theorem restL_step (l : List Int) (k : Nat) (h : k < 4) : restL l k = letterU k :: (decL (l.getD k 0).toNat ++ restL l (k + 1)) := by
  match k, h with
  | 0, _ => rfl
  | 1, _ => rfl
  | 2, _ => rfl
  | 3, _ => rfl
theorem nameUpto_list (l : List Int) : (nameUpto l 4).data.toList = restL l 0 := by
  have step : ∀ k, k < 4 → (nameUpto l (k + 1)).data.toList = (nameUpto l k).data.toList ++ (letterU k :: decL (l.getD k 0).toNat) := by
    intro k hk
    show (nameUpto l k ++ (letterB k ++ decB (l.getD k 0).toNat)).data.toList = _
    rw [ByteArray.data_append, Array.toList_append, ByteArray.data_append, Array.toList_append, letterB_list k hk]
    rfl
  rw [step 3 (by omega), step 2 (by omega), step 1 (by omega), step 0 (by omega), restL_step l 0 (by omega), restL_step l 1 (by omega), restL_step l 2 (by omega), restL_step l 3 (by omega), restL_four]
  show (((([] ++ _) ++ _) ++ _) ++ _) = _
  simp
theorem stops_rest (l : List Int) (k : Nat) (h : k ≤ 4) : Stops (restL l k) := by
  intro c hc
  match k, h with
  | 0, _ => rw [restL_step l 0 (by omega)] at hc; simp at hc; subst hc; decide
  | 1, _ => rw [restL_step l 1 (by omega)] at hc; simp at hc; subst hc; decide
  | 2, _ => rw [restL_step l 2 (by omega)] at hc; simp at hc; subst hc; decide
  | 3, _ => rw [restL_step l 3 (by omega)] at hc; simp at hc; subst hc; decide
  | 4, _ => rw [restL_four] at hc; simp at hc

set_option maxHeartbeats 2000000 in
theorem named_ex (a b c d : Int) (hok : okId a b c d = true) (w : World) :
    Calls Tryz.prog 50 #[.string (nameUpto [a, b, c, d] 4)] w fun e w' => e = .returned (.tuple #[idV a b c d, .bool true]) ∧ Below w.heap.size w w' := by
  have hall := fun k n hn => okId_all hok k n hn
  have hsz := nameUpto_size [a, b, c, d] (fun n hm => by obtain ⟨j, hj⟩ := List.mem_iff_getElem?.1 hm; exact hall j n hj) 4 (Nat.le_refl _)
  have hlist := nameUpto_list [a, b, c, d]
  have hpos := name_pos [a, b, c, d]
  have HW := Lib.hid (name_right a b c d hok)
  have HALL := Lib.hid hall
  obtain ⟨nm, hnm⟩ : ∃ nm, nm = nameUpto [a, b, c, d] 4 := ⟨_, rfl⟩
  rw [← hnm] at hsz hlist hpos HW ⊢
  have hse := notEmpty hpos
  have hq1 : (nm.toList == nm.toList) = true := by simp
  clear hnm hall
  go_enter Tryz.func50, Tryz.ntmps50
  go_wp2_with fail
  go_loopw [5, 12] (fun rest i wr => ∃ (k : Nat) (o : ByteArray) (l : List Int), k ≤ 4 ∧ i = .int .i64 (k : Int) ∧ rest = .string o ∧ o.data.toList = restL [a, b, c, d] k ∧ o.size ≤ nm.size ∧ l = [a, b, c, d].take k ++ List.replicate (4 - k) 0 ∧ wr.heap[w.heap.size]? = some (.cells #[.int .i64 0, .int .i64 0, .int .i64 0, .int .i64 0] 26 (0, 0)) ∧
    wr.heap[w.heap.size + 1]? = some (ArrO l) ∧ Below w.heap.size w wr) (fun _ i _ => 4 - (intOf i).toNat)
  case atStart =>
    refine ⟨0, nm, [0, 0, 0, 0], by omega, rfl, rfl, hlist, Nat.le_refl _, rfl, (Below.heap_alloc _ _ _ (by simp)).trans (heap_alloc_new w _), ?_, ((Below.refl _ w).alloc (Nat.le_refl _) _).alloc (by simp) _⟩
    have := heap_alloc_new (w.alloc (.cells #[.int .i64 0, .int .i64 0, .int .i64 0, .int .i64 0] 26)) (.cells #[.int .i64 0, .int .i64 0, .int .i64 0, .int .i64 0] 108)
    rw [World.size_alloc] at this
    exact this
  case round =>
    obtain ⟨k, o, l, hk, rfl, rfl, ho, hos, hl, x0, y0, hb⟩ := hrel
    by_cases hlt : k < 4
    · obtain ⟨n, hn⟩ : ∃ n, [a, b, c, d][k]? = some n := ⟨_, List.getElem?_eq_getElem (by simpa using hlt)⟩
      obtain ⟨hn1, hn2⟩ := HALL.out k n hn
      obtain ⟨m, rfl⟩ := Int.eq_ofNat_of_zero_le hn1
      have hgd : ([a, b, c, d].getD k 0).toNat = m := by rw [List.getD_eq_getElem?_getD, hn]; rfl
      have hstep := restL_step [a, b, c, d] k hlt
      rw [hgd] at hstep
      rw [hstep] at ho
      have hnb := numbered_ex o (letterU k) m _ (by omega) ho (stops_rest _ (k + 1) (by omega)) (by omega) wr
      have hlen4 : l.length = 4 := by rw [hl]; simp; omega
      have hset : l.set k (m : Int) = [a, b, c, d].take (k + 1) ++ List.replicate (4 - (k + 1)) 0 := by
        rw [hl, List.set_append_right _ _ (by simp; omega), List.take_add_one, hn]
        have e1 : k - ([a, b, c, d].take k).length = 0 := by simp; omega
        obtain ⟨q, hq⟩ : ∃ q, 4 - k = q + 1 := ⟨3 - k, by omega⟩
        rw [e1, hq, List.replicate_succ, show 4 - (k + 1) = q by omega]
        simp
      have hosz : (⟨(restL [a, b, c, d] (k + 1)).toArray⟩ : ByteArray).size ≤ nm.size := by
        have e1 := congrArg List.length ho
        have e2 : o.data.toList.length = o.size := by simp
        have e3 : (⟨(restL [a, b, c, d] (k + 1)).toArray⟩ : ByteArray).size = (restL [a, b, c, d] (k + 1)).length := by show (restL [a, b, c, d] (k + 1)).toArray.size = _; simp
        rw [List.length_cons, List.length_append] at e1
        omega
      obtain ⟨R, hR⟩ : ∃ R : ByteArray, R = ⟨(restL [a, b, c, d] (k + 1)).toArray⟩ := ⟨_, rfl⟩
      have hRl : R.data.toList = restL [a, b, c, d] (k + 1) := by rw [hR]
      rw [← hR] at hnb hosz
      have hletter := letter_at k hlt
      have HS := Lib.hid hset
      have HRL := Lib.hid hRl
      have HNB := Lib.hid hnb
      obtain ⟨z0', z1'⟩ := arr_cell y0 k l[k] (List.getElem?_eq_getElem (by omega))
      clear hset hRl hR hstep hgd hn ho hl
      go_wp2_with fail
      refine HNB.out.mono ?_
      rintro e w1 ⟨rfl, hb1⟩
      have x1 := (hb1.block _ (Array.getElem?_eq_some_iff.1 x0).1).trans x0
      have y1 := (hb1.block _ (Array.getElem?_eq_some_iff.1 y0).1).trans y0
      have hB1 : Below w.heap.size w w1 := hb.trans (hb1.mono hb.size)
      obtain ⟨⟨c0, c1, c2, c3⟩, f0, f1, f2, f3⟩ := ifacts x1
      obtain ⟨z0, z1⟩ := arr_cell y1 k l[k] (List.getElem?_eq_getElem (by omega))
      go_wp2_with fail
      go_roundw
      case rel => exact ⟨k + 1, R, l.set k (m : Int), by omega, by go_num, rfl, HRL.out, hosz, HS.out, (Below.heap_setCell _ _ _ _ (by show w.heap.size ≠ w.heap.size + 1; omega)).trans x1, arr_set y1 k (m : Int), hB1.setCell (p := ⟨w.heap.size + 1, k, none⟩) (by show w.heap.size ≤ w.heap.size + 1; omega) _⟩
      case measure => simp [intOf]; omega
    · obtain rfl : k = 4 := by omega
      have hl2 : l = [a, b, c, d] := by rw [hl]; rfl
      subst hl2
      obtain ⟨z0, _⟩ := arr_cell y0 0 a rfl
      obtain ⟨z1, _⟩ := arr_cell y0 1 b rfl
      obtain ⟨z2, _⟩ := arr_cell y0 2 c rfl
      obtain ⟨z3, _⟩ := arr_cell y0 3 d rfl
      clear hl ho
      go_wp2_with fail
      refine (HW.out _).mono ?_
      rintro e w1 ⟨rfl, hb1⟩
      have hlx : w.heap.size < wr.heap.size := (Array.getElem?_eq_some_iff.1 x0).1
      have x1 := (hb1.block w.heap.size (by simp; omega)).trans ((Below.heap_alloc wr _ _ (by omega)).trans x0)
      have y1 := (hb1.block wr.heap.size (by simp)).trans (heap_alloc_new wr _)
      have hB1 : Below w.heap.size w w1 := (hb.alloc hb.size _).trans (hb1.mono (by simp; omega))
      obtain ⟨⟨c0, c1, c2, c3⟩, f0, f1, f2, f3⟩ := ifacts x1
      obtain ⟨⟨e0, e1, e2, e3⟩, _⟩ := ifacts y1
      go_wp2_with fail
      refine bodyPost_ret (results_ct rfl _ _ w.heap.size 26 _ (0, 0) _ rfl (set4 x1 _ _ _ _) Tryz.underlying26 rfl (by kernel_rfl)) rfl ?_
      exact ⟨rfl, below4 hB1 (Nat.le_refl _) _ _ _ _⟩

end Go.Proofs.YtkldkaahpicnmaaGreat
/- A number's bytes on a tape; a text's. -/
namespace Go.Proofs.YtkldkaahpicnmaaGreat
set_option maxRecDepth 100000
open Go.RowKit PFragNames

/-- A number's bytes. -/
def numL (n : Nat) : List UInt8 := if n < 128 then [UInt8.ofNat n] else UInt8.ofNat (n % 128 + 128) :: numL (n / 128)
termination_by n
decreasing_by omega

theorem numL_len : ∀ (k n : Nat), n < 128 ^ (k + 1) → (numL n).length ≤ k + 1
  | k, n, h => by
    unfold numL
    by_cases h1 : n < 128
    · rw [if_pos h1]; simp
    · rw [if_neg h1]
      cases k with
      | zero => omega
      | succ k =>
        have := numL_len k (n / 128) (by rw [Nat.pow_succ] at h; omega)
        rw [List.length_cons]; omega

theorem u8_ofNat (n : Nat) (h : n < 256) : ((UInt8.ofNat n).toNat : Int) = (n : Int) := by rw [UInt8.toNat_ofNat']; omega

set_option maxHeartbeats 1000000 in
set_option maxRecDepth 100000 in
theorem num_any (n0 : Nat) (hn : n0 ≤ 9007199254740991) (w : World) : Calls Tryz.prog 40 #[.int .i64 (n0 : Int)] w fun e w' => e = .returned (.string ⟨(numL n0).toArray⟩) ∧ Below w.heap.size w w' := by
  obtain ⟨i0, hiz, hz0, hz1, hz2⟩ := info_parts info5
  go_enter Tryz.func40, Tryz.ntmps40
  go_wp2_with fail
  go_loopw [0, 3] (fun nv vo wr => ∃ (n : Nat) (l : List UInt8), nv = .int .i64 (n : Int) ∧ n ≤ n0 ∧ Hid (l ++ numL n = numL n0) ∧ wr.ownsRow w.heap.size 5 1 vo l.length (l.map fun b => Value.int .u8 (b.toNat : Int)) ∧ Below w.heap.size w wr) (fun nv _ _ => (intOf nv).toNat)
  case atStart => exact ⟨n0, [], rfl, Nat.le_refl _, Lib.hid (by simp), World.ownsRow_nil _ _ _ _, Below.refl _ _⟩
  case round =>
    obtain ⟨n, l, rfl, hle, HL, hown, hb⟩ := hrel
    have hl8 : l.length ≤ 8 := by
      have e1 := congrArg List.length HL.out
      rw [List.length_append] at e1
      have e2 := numL_len 7 n0 (by omega)
      omega
    obtain ⟨va, vc, rfl, hvc, hvm, _⟩ := own_val hown
    unfold maxLen at hvm
    have hsz := hb.size
    by_cases h1 : n < 128
    · have hc := u8_ofNat n (by omega)
      have HC := Lib.hid hc
      clear hc
      go_wp2_with (at_builtin; refine wpList_append_src rfl _ _ 66 66 rfl w.heap.size 5 i0 _ 1 1 Tryz.underlying66 hiz hz0 hz1 hz2 rfl (by decide) (.slice va _ vc) _ _ rfl (hown.alloc _) _ 1 [.int .u8 (n : Int)] rfl (src_one_u8 _ wr.heap.size _ (heap_alloc_new wr _)) (by unfold maxLen; omega) (by omega) (by simp; omega) ?_; intro v5 W5 ho5 hch5 hnew5; obtain ⟨a5, c5, rfl, _⟩ := own_val ho5; have ho6 : W5.ownsRow w.heap.size 5 1 (.slice a5 (l.length + 1) c5) (l ++ [UInt8.ofNat n]).length ((l ++ [UInt8.ofNat n]).map fun b => Value.int .u8 (b.toNat : Int)) := (by rw [List.map_append, List.map_singleton, HC.out]; simpa using ho5); have hT := conv_own ho6)
      go_ret
      have hb5 : Below w.heap.size w W5 := (hb.alloc hsz _).trans (hch5.below (by simp; omega) (fun k hk => (own_lt hown k hk).1))
      refine ⟨?_, hb5⟩
      have e1 : numL n = [UInt8.ofNat n] := by unfold numL; rw [if_pos h1]
      rw [← HL.out, e1]
      rfl
    · have hc := u8_ofNat (n % 128 + 128) (by omega)
      have HC := Lib.hid hc
      clear hc
      go_wp2_with (at_builtin; refine wpList_append_src rfl _ _ 66 66 rfl w.heap.size 5 i0 _ 1 1 Tryz.underlying66 hiz hz0 hz1 hz2 rfl (by decide) (.slice va _ vc) _ _ rfl (hown.alloc _) _ 1 [.int .u8 ((n : Int) % 128 + 128)] rfl (src_one_u8 _ wr.heap.size _ (heap_alloc_new wr _)) (by unfold maxLen; omega) (by omega) (by simp; omega) ?_; intro v5 W5 ho5 hch5 hnew5; obtain ⟨a5, c5, rfl, _⟩ := own_val ho5)
      have hb5 : Below w.heap.size w W5 := (hb.alloc hsz _).trans (hch5.below (by simp; omega) (fun k hk => (own_lt hown k hk).1))
      refine ⟨⟨n / 128, l ++ [UInt8.ofNat (n % 128 + 128)], rfl, by omega, Lib.hid ?_, ?_, hb5⟩, ?_⟩
      · rw [List.append_assoc, ← HL.out]
        conv => rhs; rw [numL, if_neg h1]
        rfl
      · rw [List.map_append, List.map_singleton, HC.out]
        simpa using ho5
      · simp [intOf]; omega

theorem textB_any (s : ByteArray) (hs : s.size ≤ 1000000) (w : World) : Calls Tryz.prog 42 #[.string s] w fun e w' => e = .returned (.string (⟨(numL s.size).toArray⟩ ++ s)) ∧ Below w.heap.size w w' := by
  have HN := Lib.hid (num_any s.size (by omega) w)
  have hl := numL_len 7 s.size (by omega)
  have hz : (ByteArray.mk (numL s.size).toArray).size = (numL s.size).length := by show (numL s.size).toArray.size = _; simp
  have hq : ¬ (9223372036854775807 < (ByteArray.mk (numL s.size).toArray).size + s.size) := by omega
  obtain ⟨nb, hnb⟩ : ∃ nb, (⟨(numL s.size).toArray⟩ : ByteArray) = nb := ⟨_, rfl⟩
  rw [hnb] at HN hq ⊢
  clear hz hnb hl
  go_enter Tryz.func42, Tryz.ntmps42
  go_wp2_with fail
  refine HN.out.mono ?_
  rintro e w1 ⟨rfl, hb1⟩
  go_wp2_with fail
  go_ret
  exact ⟨rfl, hb1⟩

end Go.Proofs.YtkldkaahpicnmaaGreat
/- A number, read from a tape. -/
namespace Go.Proofs.YtkldkaahpicnmaaGreat
set_option maxRecDepth 100000
open Go.RowKit PFragNames

/-- A tape in memory: its text, and how far it was read. -/
def TapeAt (w : World) (t : Nat) (s : ByteArray) (p : Nat) : Prop := w.heap[t]? = some (.cells #[.string s, .int .i64 (p : Int)] 99 (0, 0))

theorem TapeAt.cells {w : World} {t : Nat} {s : ByteArray} {p : Nat} (h : TapeAt w t s p) : w.cell? ⟨t, 0, none⟩ = some (.string s) ∧ w.cell? ⟨t, 1, none⟩ = some (.int .i64 (p : Int)) ∧ w.frozen? ⟨t, 0, none⟩ = false ∧ w.frozen? ⟨t, 1, none⟩ = false := by
  unfold TapeAt at h
  simp [World.cell?, World.frozen?, h]

theorem TapeAt.lt {w : World} {t : Nat} {s : ByteArray} {p : Nat} (h : TapeAt w t s p) : t < w.heap.size := (Array.getElem?_eq_some_iff.1 h).1
theorem TapeAt.below {w w' : World} {t : Nat} {s : ByteArray} {p : Nat} (h : TapeAt w t s p) (hb : Below w.heap.size w w') : TapeAt w' t s p := (hb.block t h.lt).trans h

theorem left_any (t : Nat) (s : ByteArray) (p : Nat) (w : World) (h : TapeAt w t s p) (hp : p ≤ s.size) (hs : s.size ≤ 2000000) :
    Calls Tryz.prog 62 #[.pointer (some ⟨t, 0, none⟩)] w fun e w' => e = .returned (.int .i64 ((s.size - p : Nat) : Int)) ∧ Below w.heap.size w w' := by
  obtain ⟨c0, c1, _⟩ := h.cells
  have hwr : IntKind.i64.wrap ((s.size : Int) - (p : Int)) = ((s.size - p : Nat) : Int) := by rw [IntKind.wrap_i64]; omega
  go_enter Tryz.func62, Tryz.ntmps62
  go_wp2_with fail
  go_still (by kernel_rfl)
  go_wp2_with fail
  go_ret
  exact ⟨rfl, (Below.refl _ w).drew⟩

def PeekA (t acc i : Nat) (a : Act) : Prop :=
  ∃ u1 u2 u3 u4 u8 u9 u10 u11 u12 u13 u14 u15 u16 u17 u18 u19 u20 u21 u22 u23 u24 u25 u26 u27 u28 u29 u30 u31 u32 u33 u34 u35 u36 u37 u38 u39 u40 u41 u42 u43 u44 u45 u46 u47 u48 u49 u50 u51 u52 u53 u54 u55 u56 : Value, a = ⟨#[.pointer (some ⟨t, 0, none⟩), u1, u2, u3, u4, .int .i64 (acc : Nat), .int .i64 (i : Nat), .int .i64 ((7 * i : Nat) : Int), u8, u9, u10, u11, u12, u13, u14, u15, u16, u17, u18, u19, u20, u21, u22, u23, u24, u25, u26, u27, u28, u29, u30, u31, u32, u33, u34, u35, u36, u37, u38, u39, u40, u41, u42, u43, u44, u45, u46, u47, u48, u49, u50, u51, u52, u53, u54, u55, u56], []⟩

theorem numL_head (m : Nat) (h : m < 128) : numL m = [UInt8.ofNat m] := by unfold numL; rw [if_pos h]
theorem numL_more (m : Nat) (h : ¬ m < 128) : numL m = UInt8.ofNat (m % 128 + 128) :: numL (m / 128) := by rw [numL, if_neg h]

theorem wrap_sum {acc M n : Nat} (h : acc + M = n) (hn : n ≤ 9007199254740991) : wrap64 ((acc : Int) + wrap64 (M : Int)) = (n : Int) := by unfold wrap64; omega

structure PeekJ (s : ByteArray) (p n acc i m : Nat) (w w' : World) : Prop where
  suf : (numL n).drop i = numL m
  sum : acc + m * 128 ^ i = n
  pos : i = 0 ∨ 0 < m
  few : i ≤ 7
  bel : Below w.heap.size w w'

set_option maxHeartbeats 4000000 in
set_option maxRecDepth 100000 in
theorem peek_any (t : Nat) (s : ByteArray) (p n : Nat) (rest : List UInt8) (w : World) (h : TapeAt w t s p) (hp : p ≤ s.size) (hs : s.size ≤ 2000000) (hd : s.data.toList.drop p = numL n ++ rest) (hn : n ≤ 9007199254740991) :
    Calls Tryz.prog 61 #[.pointer (some ⟨t, 0, none⟩)] w fun e w' => e = .returned (.tuple #[.int .i64 (n : Int), .int .i64 ((numL n).length : Int), .int .i64 0]) ∧ Below w.heap.size w w' := by
  have HD := Lib.hid hd
  clear hd
  go_enter Tryz.func61, Tryz.ntmps61
  go_wp2_with fail
  refine wp_scope_label 0 (fun a' w' => ∃ acc i m, PeekA t acc i a' ∧ PeekJ s p n acc i m w w') (fun a' _ => 20 - (intOf (a'.tmps.getD 6 undef)).toNat) rfl ?_ ?_
  · rintro a' w' ⟨acc, i, m, hA, hJ⟩
    unfold PeekA at hA
    obtain ⟨u1, hA⟩ := hA
    obtain ⟨u2, hA⟩ := hA
    obtain ⟨u3, hA⟩ := hA
    obtain ⟨u4, hA⟩ := hA
    obtain ⟨u8, hA⟩ := hA
    obtain ⟨u9, hA⟩ := hA
    obtain ⟨u10, hA⟩ := hA
    obtain ⟨u11, hA⟩ := hA
    obtain ⟨u12, hA⟩ := hA
    obtain ⟨u13, hA⟩ := hA
    obtain ⟨u14, hA⟩ := hA
    obtain ⟨u15, hA⟩ := hA
    obtain ⟨u16, hA⟩ := hA
    obtain ⟨u17, hA⟩ := hA
    obtain ⟨u18, hA⟩ := hA
    obtain ⟨u19, hA⟩ := hA
    obtain ⟨u20, hA⟩ := hA
    obtain ⟨u21, hA⟩ := hA
    obtain ⟨u22, hA⟩ := hA
    obtain ⟨u23, hA⟩ := hA
    obtain ⟨u24, hA⟩ := hA
    obtain ⟨u25, hA⟩ := hA
    obtain ⟨u26, hA⟩ := hA
    obtain ⟨u27, hA⟩ := hA
    obtain ⟨u28, hA⟩ := hA
    obtain ⟨u29, hA⟩ := hA
    obtain ⟨u30, hA⟩ := hA
    obtain ⟨u31, hA⟩ := hA
    obtain ⟨u32, hA⟩ := hA
    obtain ⟨u33, hA⟩ := hA
    obtain ⟨u34, hA⟩ := hA
    obtain ⟨u35, hA⟩ := hA
    obtain ⟨u36, hA⟩ := hA
    obtain ⟨u37, hA⟩ := hA
    obtain ⟨u38, hA⟩ := hA
    obtain ⟨u39, hA⟩ := hA
    obtain ⟨u40, hA⟩ := hA
    obtain ⟨u41, hA⟩ := hA
    obtain ⟨u42, hA⟩ := hA
    obtain ⟨u43, hA⟩ := hA
    obtain ⟨u44, hA⟩ := hA
    obtain ⟨u45, hA⟩ := hA
    obtain ⟨u46, hA⟩ := hA
    obtain ⟨u47, hA⟩ := hA
    obtain ⟨u48, hA⟩ := hA
    obtain ⟨u49, hA⟩ := hA
    obtain ⟨u50, hA⟩ := hA
    obtain ⟨u51, hA⟩ := hA
    obtain ⟨u52, hA⟩ := hA
    obtain ⟨u53, hA⟩ := hA
    obtain ⟨u54, hA⟩ := hA
    obtain ⟨u55, hA⟩ := hA
    obtain ⟨u56, hA⟩ := hA
    subst hA
    obtain ⟨j1, j2, j3, j4, j5⟩ := hJ
    have hT := h.below j5
    have HL := Lib.hid (left_any t s p w' hT hp hs)
    have hs1 := j5.size
    have hpow : 0 < 128 ^ i := Nat.pow_pos (by decide)
    have hlen : p + i < s.size := by
      have e1 : (numL n ++ rest).length = s.size - p := by rw [← HD.out, List.length_drop]; rfl
      have e2 : ((numL n).drop i).length = (numL m).length := by rw [j1]
      have e3 : 0 < (numL m).length := by
        by_cases hm : m < 128
        · rw [numL_head m hm]; simp
        · rw [numL_more m hm]; simp
      rw [List.length_drop] at e2
      rw [List.length_append] at e1
      omega
    obtain ⟨q, hq⟩ : ∃ q, q = p + i := ⟨_, rfl⟩
    have hlq : q < s.size := by omega
    have hwr : IntKind.i64.wrap ((p : Int) + (i : Int)) = (q : Int) := by rw [IntKind.wrap_i64]; omega
    have hk1 : (0 : Int) ≤ (q : Int) ∧ (q : Int) < (s.size : Int) := by omega
    have hbyte : (numL m)[0]? = some s[q] := by
      have e1 : (s.data.toList.drop p)[i]? = some s[q] := by
        rw [List.getElem?_drop, ← hq]
        simp [hlq]
        rfl
      rw [HD.out, List.getElem?_append_left (by
        have e2 : ((numL n).drop i).length = (numL m).length := by rw [j1]
        rw [List.length_drop] at e2
        have e3 : 0 < (numL m).length := by
          by_cases hm : m < 128
          · rw [numL_head m hm]; simp
          · rw [numL_more m hm]; simp
        omega)] at e1
      rw [← e1, ← j1, List.getElem?_drop, Nat.add_zero]
    have J1 := Lib.hid j1
    have J2 := Lib.hid j2
    have HQ := Lib.hid hq
    clear j1 j2 hq
    have h2p : (2 : Int) ^ (7 * i) = ((128 ^ i : Nat) : Int) := by
      rw [Int.pow_mul]
      simp
    have hge : ¬ (((s.size - p : Nat) : Int) ≤ (i : Int)) := by omega
    have hnn : ¬ ((9007199254740991 : Int) < (n : Int)) := by omega
    have hnn2 : decide ((9007199254740991 : Int) < (n : Int)) = false := decide_eq_false (by omega)
    by_cases hm : m < 128
    · have hb : s[q].toNat = m := by
        rw [numL_head m hm] at hbyte
        simp only [List.getElem?_cons_zero, Option.some.injEq] at hbyte
        rw [← hbyte, UInt8.toNat_ofNat']; omega
      have hbz : ((s[q].toNat : Nat) : Int) = (m : Int) := by rw [hb]
      have hlen2 : (numL n).length = i + 1 := by
        have e2 : ((numL n).drop i).length = (numL m).length := by rw [J1.out]
        rw [numL_head m hm, List.length_drop] at e2
        simp at e2
        omega
      have hv : wrap64 ((acc : Int) + wrap64 ((m : Int) % 128 * 2 ^ (7 * i))) = (n : Int) := by
        have e3 : (m : Int) % 128 = m := by omega
        have e4 : ((m * 128 ^ i : Nat) : Int) = (m : Int) * ((128 ^ i : Nat) : Int) := by push_cast; rfl
        have e5 := J2.out
        rw [e3, h2p, ← e4]
        exact wrap_sum e5 hn
      have HLEN := Lib.hid hlen2
      have hb0 : ((m : Int) == 0) = true ∧ ((i : Int) + 1 ≤ 1) ∨ ((m : Int) == 0) = false := by
        by_cases hm0 : m = 0
        · exact .inl ⟨by rw [hm0]; rfl, by omega⟩
        · exact .inr (by rw [beq_eq_false_iff_ne]; omega)
      clear hbyte hb hlen2 h2p
      rcases hb0 with ⟨hmz, hi1⟩ | hmz
      all_goals
        go_wp2_with fail
        refine HL.out.mono ?_
        rintro e w1 ⟨rfl, hb1⟩
        obtain ⟨c0, c1, _⟩ := (hT.below hb1).cells
        have hb2 : Below w.heap.size w w1 := j5.trans (hb1.mono hs1)
        go_wp2_with fail
        refine wp_region_still_lit (by kernel_rfl) (by kernel_rfl) ?_
        repeat still_step
        refine wpStill_nil ?_
        go_wp2_with fail
        all_goals first
          | (exfalso; omega)
          | (simp only [Exit.jump]
             go_ret3
             exact ⟨by rw [HLEN.out]; rfl, hb2.drew⟩)
    · have hb : s[q].toNat = m % 128 + 128 := by
        rw [numL_more m hm] at hbyte
        simp only [List.getElem?_cons_zero, Option.some.injEq] at hbyte
        rw [← hbyte, UInt8.toNat_ofNat']; omega
      have hbz : ((s[q].toNat : Nat) : Int) = (m : Int) % 128 + 128 := by rw [hb]; omega
      have hi6 : (i : Int) + 1 < 8 := by
        have e2 : ((numL n).drop i).length = (numL m).length := by rw [J1.out]
        have e3 := numL_len 7 n (by omega)
        have e4 : 0 < (numL (m / 128)).length := by
          by_cases hm2 : m / 128 < 128
          · rw [numL_head _ hm2]; simp
          · rw [numL_more _ hm2]; simp
        rw [List.length_drop, numL_more m hm, List.length_cons] at e2
        omega
      have hv : wrap64 ((acc : Int) + wrap64 ((m : Int) % 128 * 2 ^ (7 * i))) = ((acc + m % 128 * 128 ^ i : Nat) : Int) := by
        have e3 : (m : Int) % 128 = ((m % 128 : Nat) : Int) := by omega
        have e4 : ((m % 128 * 128 ^ i : Nat) : Int) = ((m % 128 : Nat) : Int) * ((128 ^ i : Nat) : Int) := by push_cast; rfl
        have e6 : m % 128 * 128 ^ i ≤ m * 128 ^ i := Nat.mul_le_mul_right _ (Nat.mod_le _ _)
        rw [e3, h2p, ← e4]
        exact wrap_sum rfl (Nat.le_trans (Nat.le_trans (Nat.add_le_add_left e6 acc) (Nat.le_of_eq J2.out)) hn)
      obtain ⟨acc2, hacc⟩ : ∃ acc2, acc2 = acc + m % 128 * 128 ^ i := ⟨_, rfl⟩
      rw [← hacc] at hv
      have HACC := Lib.hid hacc
      clear hbyte hb h2p hacc
      go_wp2_with fail
      refine HL.out.mono ?_
      rintro e w1 ⟨rfl, hb1⟩
      obtain ⟨c0, c1, _⟩ := (hT.below hb1).cells
      have hb2 : Below w.heap.size w w1 := j5.trans (hb1.mono hs1)
      go_wp2_with fail
      refine wp_region_still_lit (by kernel_rfl) (by kernel_rfl) ?_
      repeat still_step
      refine wpStill_nil ?_
      go_wp2_with fail
      go_step3
      refine ⟨rfl, ⟨acc2, i + 1, m / 128, ?fr, ⟨?_, ?_, .inr (by omega), by omega, hb2.drew⟩⟩, ?_⟩
      case fr => unfold PeekA; (repeat apply Exists.intro); rfl
      · rw [← List.drop_drop, J1.out, numL_more m hm]; rfl
      · rw [HACC.out, ← J2.out, Nat.pow_succ]
        have e7 := Nat.div_add_mod m 128
        have e8 : m * 128 ^ i = (128 * (m / 128) + m % 128) * 128 ^ i := by rw [e7]
        rw [e8, Nat.add_mul, Nat.mul_comm (128 ^ i) 128, ← Nat.mul_assoc, Nat.mul_comm (m / 128) 128]
        omega
      · simp [intOf]; omega
  · intro HP
    go_wp2_with fail
    go_step3
    rename_i hKK
    refine hKK _ _ (HP _ _ ?_)
    refine ⟨0, 0, n, ?fr, ⟨rfl, by simp, .inl rfl, by omega, Below.refl _ _⟩⟩
    case fr => unfold PeekA; (repeat apply Exists.intro); rfl

end Go.Proofs.YtkldkaahpicnmaaGreat
/- A tape: New, Num, Text, End. -/
namespace Go.Proofs.YtkldkaahpicnmaaGreat
set_option maxRecDepth 100000
open Go.RowKit

theorem tnew_any (s : ByteArray) (w : World) : Calls Tryz.prog 44 #[.string s] w fun e w' => e = .returned (.pointer (some ⟨w.heap.size, 0, none⟩)) ∧ TapeAt w' w.heap.size s 0 ∧ Below w.heap.size w w' := by
  go_enter Tryz.func44, Tryz.ntmps44
  go_wp2_with fail
  go_ret
  exact ⟨rfl, heap_alloc_new w _, (Below.refl _ w).alloc (Nat.le_refl _) _⟩

theorem TapeAt.set {w : World} {t : Nat} {s : ByteArray} {p : Nat} (h : TapeAt w t s p) (q : Nat) : TapeAt (w.setCell ⟨t, 1, none⟩ (.int .i64 (q : Int))) t s q ∧ Chg (fun i => i = t) w (w.setCell ⟨t, 1, none⟩ (.int .i64 (q : Int))) := by
  refine ⟨?_, (Chg.refl (fun i => i = t) w).setCell (p := ⟨t, 1, none⟩) (.inl rfl) _⟩
  unfold TapeAt at *
  simp [World.setCell, Array.getElem?_modify, h]
theorem chg_below {w w1 w2 : World} {t : Nat} (h : Below w.heap.size w w1) (hc : Chg (fun i => i = t) w1 w2) : Chg (fun i => i = t) w w2 :=
  ⟨hc.os.trans h.os, hc.tape.trans h.tape, hc.output.trans h.output, Nat.le_trans h.size hc.size, fun k hk hn => (hc.block k (Nat.lt_of_lt_of_le hk h.size) hn).trans (h.block k hk)⟩

theorem end_any (t : Nat) (s : ByteArray) (w : World) (h : TapeAt w t s s.size) (hs : s.size ≤ 2000000) :
    Calls Tryz.prog 47 #[.pointer (some ⟨t, 0, none⟩)] w fun e w' => e = .returned (.bool true) ∧ Below w.heap.size w w' := by
  have hl := left_any t s s.size w h (Nat.le_refl _) hs
  rw [Nat.sub_self] at hl
  go_enter Tryz.func47, Tryz.ntmps47
  go_wp2_with fail
  refine hl.mono ?_
  rintro e w1 ⟨rfl, hb1⟩
  go_wp2_with fail
  go_ret
  exact ⟨rfl, hb1⟩

theorem drop_len {s : ByteArray} {p : Nat} {l rest : List UInt8} (h : s.data.toList.drop p = l ++ rest) (hp : p ≤ s.size) : p + l.length + rest.length = s.size := by
  have := congrArg List.length h
  rw [List.length_drop, List.length_append] at this
  have e : s.data.toList.length = s.size := by simp
  omega

set_option maxHeartbeats 1000000 in
theorem tnum_any (t : Nat) (s : ByteArray) (p n : Nat) (rest : List UInt8) (w : World) (h : TapeAt w t s p) (hp : p ≤ s.size) (hs : s.size ≤ 2000000) (hd : s.data.toList.drop p = numL n ++ rest) (hn : n ≤ 9007199254740991) :
    Calls Tryz.prog 60 #[.pointer (some ⟨t, 0, none⟩)] w fun e w' => e = .returned (.tuple #[.int .i64 (n : Int), .int .i64 0]) ∧ TapeAt w' t s (p + (numL n).length) ∧ Chg (fun i => i = t) w w' := by
  have hpk := peek_any t s p n rest w h hp hs hd hn
  have hdl := drop_len hd hp
  obtain ⟨L, hL⟩ : ∃ L, L = (numL n).length := ⟨_, rfl⟩
  rw [← hL] at hpk hdl ⊢
  obtain ⟨q, hq⟩ : ∃ q, q = p + L := ⟨_, rfl⟩
  rw [← hq]
  have hadd2 : (p : Int) + (L : Int) = (q : Int) := by omega
  have hq1 : q ≤ 2000000 := by omega
  clear hd hL hq
  go_enter Tryz.func60, Tryz.ntmps60
  go_wp2_with fail
  refine hpk.mono ?_
  rintro e w1 ⟨rfl, hb1⟩
  have h1 := h.below hb1
  obtain ⟨c0, c1, f0, f1⟩ := h1.cells
  obtain ⟨k1, k2⟩ := h1.set q
  have K1 := Lib.hid k1
  have K2 := Lib.hid (chg_below hb1 k2)
  clear k1 k2
  go_wp2_with fail
  go_ret2
  exact ⟨rfl, K1.out, K2.out⟩

set_option maxHeartbeats 2000000 in
theorem ttext_any (t : Nat) (s : ByteArray) (p : Nat) (k : List UInt8) (rest : List UInt8) (most : Nat) (w : World) (h : TapeAt w t s p) (hp : p ≤ s.size) (hs : s.size ≤ 2000000) (hd : s.data.toList.drop p = numL k.length ++ k ++ rest) (hk : k.length ≤ most) (hm : most ≤ 2000000) :
    Calls Tryz.prog 46 #[.pointer (some ⟨t, 0, none⟩), .int .i64 (most : Int)] w fun e w' => e = .returned (.tuple #[.string ⟨k.toArray⟩, .int .i64 0]) ∧ TapeAt w' t s (p + (numL k.length).length + k.length) ∧ Chg (fun i => i = t) w w' := by
  rw [List.append_assoc] at hd
  have hpk := peek_any t s p k.length (k ++ rest) w h hp hs hd (by omega)
  have hdl := drop_len hd hp
  rw [List.length_append] at hdl
  have hsl : ∀ q r, q = p + (numL k.length).length → r = q + k.length → s.extract q r = ⟨k.toArray⟩ := by
    intro q r e1 e2
    apply ByteArray.ext
    apply Array.toList_inj.1
    rw [ByteArray.data_extract, Array.toList_extract]
    simp only [List.extract]
    have e3 : s.data.toList.drop q = k ++ rest := by
      rw [e1, ← List.drop_drop, hd, List.drop_left]
    have e4 : r - q = k.length := by omega
    rw [e3, e4, List.take_left]
  obtain ⟨L, hL⟩ : ∃ L, L = (numL k.length).length := ⟨_, rfl⟩
  rw [← hL] at hpk hdl hsl ⊢
  obtain ⟨n, hnn⟩ : ∃ n, n = k.length := ⟨_, rfl⟩
  rw [← hnn] at hpk hdl hsl hk ⊢
  obtain ⟨q, hq⟩ : ∃ q, q = p + L := ⟨_, rfl⟩
  obtain ⟨r, hr⟩ : ∃ r, r = q + n := ⟨_, rfl⟩
  have hslice := hsl q r hq hr
  rw [← hq, ← hr]
  have hadd2 : (p : Int) + (L : Int) = (q : Int) := by omega
  have hadd3 : (q : Int) + (n : Int) = (r : Int) := by omega
  have hq1 : q ≤ 2000000 := by omega
  have hr1 : r ≤ s.size := by omega
  have hqr : q ≤ r := by omega
  have hleft : ¬ (((s.size - p : Nat) : Int) - (L : Int) < (n : Int)) := by omega
  have hkm : ¬ ((most : Int) < (n : Int)) := by omega
  obtain ⟨K, hK⟩ : ∃ K : ByteArray, K = ⟨k.toArray⟩ := ⟨_, rfl⟩
  rw [← hK] at hslice ⊢
  clear hd hL hq hr hsl hnn hK
  go_enter Tryz.func46, Tryz.ntmps46
  go_wp2_with fail
  refine hpk.mono ?_
  rintro e w1 ⟨rfl, hb1⟩
  have h1 := h.below hb1
  have hl := left_any t s p w1 h1 hp hs
  go_wp2_with fail
  refine hl.mono ?_
  rintro e w2 ⟨rfl, hb2⟩
  have h2 := h1.below hb2
  obtain ⟨c0, c1, f0, f1⟩ := h2.cells
  obtain ⟨k1, k2⟩ := h2.set r
  obtain ⟨d0, d1, _⟩ := k1.cells
  have K1 := Lib.hid k1
  have K2 := Lib.hid (chg_below (hb1.trans (hb2.mono hb1.size)) k2)
  clear k1 k2
  go_wp2_with fail
  go_quiet (fail)
  go_wp2_with fail
  go_ret2
  exact ⟨rfl, K1.out, K2.out.drewN nq⟩

end Go.Proofs.YtkldkaahpicnmaaGreat
/- An id, read from a tape. -/
namespace Go.Proofs.YtkldkaahpicnmaaGreat
set_option maxRecDepth 100000
open Go.RowKit

theorem infoI : (Tryz.prog.info? 3).map (fun i => (i.zero, i.size, i.bytes)) = some (some (.int .i64 0), 1, 8) := by kernel_rfl
theorem srcInt (w : World) (vb : Nat) (s : Int) (hs : w.heap[vb]? = some (.cells #[.int .i64 s] 3 (0, 0))) : Src Tryz.prog 1 51 (.slice (some ⟨vb, 0, none⟩) 1 1) 1 [.int .i64 s] w :=
  Src.ofSlice w Tryz.underlying51 _ 1 1 _ (by simp) (fun j u hu => by
    have hj := (List.getElem?_eq_some_iff.1 hu).1
    obtain rfl : j = 0 := by simpa using hj
    simp at hu
    subst hu
    rw [Addr.add_lit]
    simp [World.cell?, hs]) (by simp [Value.oneCell'])

/-- The bytes of numbers, one behind the other. -/
def numsL (l : List Nat) : List UInt8 := l.flatMap numL
theorem numsL_cons (n : Nat) (r : List Nat) : numsL (n :: r) = numL n ++ numsL r := rfl

theorem four_cells {w : World} {g : Nat} {v0 v1 v2 v3 : Value} {t : TypeId} {fz : Nat × Nat} (h : w.heap[g]? = some (.cells #[v0, v1, v2, v3] t fz)) :
    w.cell? ⟨g, 0, none⟩ = some v0 ∧ w.cell? ⟨g, 1, none⟩ = some v1 ∧ w.cell? ⟨g, 2, none⟩ = some v2 ∧ w.cell? ⟨g, 3, none⟩ = some v3 := by
  simp [World.cell?, h]
theorem four_free {w : World} {g : Nat} {v0 v1 v2 v3 : Value} {t : TypeId} (h : w.heap[g]? = some (.cells #[v0, v1, v2, v3] t (0, 0))) :
    w.frozen? ⟨g, 0, none⟩ = false ∧ w.frozen? ⟨g, 1, none⟩ = false ∧ w.frozen? ⟨g, 2, none⟩ = false ∧ w.frozen? ⟨g, 3, none⟩ = false := by
  simp [World.frozen?, h]
theorem res_four {W : World} {r : Nat} {a0 b0 c0 d0 : Value} {t : TypeId} (a b c d : Value) (h : W.heap[r]? = some (.cells #[a0, b0, c0, d0] t (0, 0))) :
    ((((W.setCell ⟨r, 0, none⟩ a).setCell ⟨r, 1, none⟩ b).setCell ⟨r, 2, none⟩ c).setCell ⟨r, 3, none⟩ d).heap[r]? = some (.cells #[a, b, c, d] t (0, 0)) ∧ Chg (fun i => i = r) W ((((W.setCell ⟨r, 0, none⟩ a).setCell ⟨r, 1, none⟩ b).setCell ⟨r, 2, none⟩ c).setCell ⟨r, 3, none⟩ d) := by
  refine ⟨?_, ((((Chg.refl (fun i => i = r) W).setCell (p := ⟨r, 0, none⟩) (.inl rfl) a).setCell (p := ⟨r, 1, none⟩) (.inl rfl) b).setCell (p := ⟨r, 2, none⟩) (.inl rfl) c).setCell (p := ⟨r, 3, none⟩) (.inl rfl) d⟩
  simp [World.setCell, Array.getElem?_modify, h]

structure IdedJ (w : World) (t : Nat) (s : ByteArray) (rest : List UInt8) (ns : List Nat) (k : Nat) (v : Value) (wr : World) : Prop where
  tape : ∃ p, TapeAt wr t s p ∧ p ≤ s.size ∧ s.data.toList.drop p = numsL (ns.drop k) ++ rest
  row : wr.ownsRow (w.heap.size + 1) 3 1 v k ((ns.take k).map fun (n : Nat) => Value.int .i64 (n : Int))
  res : wr.heap[w.heap.size]? = some (.cells #[.int .i64 0, .int .i64 0, .int .i64 0, .int .i64 0] 26 (0, 0))
  chg : Chg (fun i => i = t) w wr

set_option maxHeartbeats 4000000 in
set_option maxRecDepth 100000 in
theorem ided_any (t : Nat) (s : ByteArray) (p : Nat) (a b c d : Nat) (rest : List UInt8) (w : World) (h : TapeAt w t s p) (hp : p ≤ s.size) (hs : s.size ≤ 2000000) (hd : s.data.toList.drop p = numsL [a, b, c, d] ++ rest)
    (ha : a ≤ 9007199254740991) (hb : b ≤ 9007199254740991) (hc : c ≤ 9007199254740991) (hdd : d ≤ 9007199254740991) :
    Calls Tryz.prog 45 #[.pointer (some ⟨t, 0, none⟩)] w fun e w' => e = .returned (.tuple #[.agg #[.int .i64 a, .int .i64 b, .int .i64 c, .int .i64 d], .int .i64 0]) ∧ (∃ q, TapeAt w' t s q ∧ q ≤ s.size ∧ s.data.toList.drop q = rest) ∧ Chg (fun i => i = t) w w' := by
  obtain ⟨i0, hiz, hz0, hz1, hz2⟩ := info_parts infoI
  obtain ⟨ns, hns⟩ : ∃ ns, ns = [a, b, c, d] := ⟨_, rfl⟩
  have hall : ∀ n ∈ ns, n ≤ 9007199254740991 := by
    rw [hns]
    intro n hn
    simp at hn
    omega
  have hlen : ns.length = 4 := by rw [hns]; rfl
  rw [← hns] at hd
  have ht := h.lt
  have h0 : IdedJ w t s rest ns 0 (.slice none 0 0) (w.alloc (.cells #[.int .i64 0, .int .i64 0, .int .i64 0, .int .i64 0] 26)) :=
    ⟨⟨p, h.below ((Below.refl _ w).alloc (Nat.le_refl _) _), hp, hd⟩, World.ownsRow_nil _ _ _ _, heap_alloc_new w _, (Chg.refl _ w).alloc _⟩
  have HNS := Lib.hid hns
  have HALL := Lib.hid hall
  clear hns hall h hd
  go_enter Tryz.func45, Tryz.ntmps45
  go_wp2_with fail
  go_loopw [4, 7] (fun v i wr => ∃ k : Nat, k ≤ 4 ∧ i = .int .i64 k ∧ IdedJ w t s rest ns k v wr) (fun _ i _ => 4 - (intOf i).toNat)
  case atStart => exact ⟨0, by omega, rfl, h0⟩
  case round =>
    clear h0
    obtain ⟨k, hk, rfl, hJ⟩ := hrel
    by_cases hlt : k < 4
    · obtain ⟨n, hn⟩ : ∃ n, ns[k]? = some n := ⟨_, List.getElem?_eq_getElem (by omega)⟩
      obtain ⟨q, hq1, hq2, hq3⟩ := hJ.tape
      have hdr : ns.drop k = n :: ns.drop (k + 1) := by
        obtain ⟨h1, h2⟩ := List.getElem?_eq_some_iff.1 hn
        rw [List.drop_eq_getElem_cons h1, h2]
      rw [hdr, numsL_cons, List.append_assoc] at hq3
      have hnm := tnum_any t s q n _ wr hq1 hq2 hs hq3 (HALL.out n (List.mem_of_getElem? hn))
      have hql := drop_len hq3 hq2
      have HJ := Lib.hid hJ
      have HN := Lib.hid hn
      have HQ := Lib.hid hq3
      clear hJ hn hq3 hdr hq1
      go_wp2_with fail
      refine hnm.mono ?_
      rintro e w1 ⟨rfl, htp, hc1⟩
      have hrow := own_kept HJ.out.row hc1 (fun g hg => by have := (own_lt HJ.out.row g hg.symm).1; omega)
      obtain ⟨va, vc, rfl, hvc, hvm, _⟩ := own_val HJ.out.row
      unfold maxLen at hvm
      have hw1 := Nat.le_trans HJ.out.chg.size hc1.size
      have hrl := (Array.getElem?_eq_some_iff.1 HJ.out.res).1
      have HR := Lib.hid hrow
      have HT := Lib.hid htp
      have HC1 := Lib.hid hc1
      clear hrow htp hc1
      go_wp2_with (at_builtin; refine wpList_append_src rfl _ _ 51 51 rfl (w.heap.size + 1) 3 i0 _ 1 8 Tryz.underlying51 hiz hz0 hz1 hz2 rfl (by decide) (.slice va _ vc) _ _ rfl (HR.out.alloc _) _ 1 [.int .i64 (n : Int)] rfl (srcInt _ w1.heap.size _ (heap_alloc_new w1 _)) (by unfold maxLen; omega) (by omega) (by have := HC1.out.size; simp; omega) ?_; intro v5 W5 ho5 hch5 hnew5)
      have hbase := fun g hg => (own_lt HR.out g hg).1
      have hc2 : Chg (fun i => w.heap.size + 1 ≤ i) w1 W5 := ((Chg.refl _ w1).alloc _).trans hch5 (fun i hi _ => hbase i hi)
      have hnew : IdedJ w t s rest ns (k + 1) v5 W5 := by
        refine ⟨⟨q + (numL n).length, ?_, by omega, ?_⟩, ?_, ?_, ?_⟩
        · exact (hc2.block t (by have := HT.out.lt; exact this) (by omega)).trans HT.out
        · rw [← List.drop_drop, HQ.out, List.drop_left]
        · rw [List.take_add_one, HN.out, List.map_append]
          exact ho5
        · exact (hc2.block _ (Nat.lt_of_lt_of_le hrl HC1.out.size) (by omega)).trans ((HC1.out.block _ hrl (by omega)).trans HJ.out.res)
        · exact ((HJ.out.chg.trans HC1.out (fun _ x _ => x)).trans (hc2.mono (T := fun i => i = t ∨ w.heap.size + 1 ≤ i) (fun i hi => .inr hi)) (fun i hi hlt => by omega))
      go_roundw
      case rel => exact ⟨k + 1, by omega, by go_num, hnew⟩
      case measure => simp [intOf]; omega
    · obtain rfl : k = 4 := by omega
      have HT := Lib.hid hJ.tape
      have hrow := hJ.row
      rw [List.take_of_length_le (by omega), HNS.out] at hrow
      obtain ⟨g, cc, rfl, hc0, hc1, hc2, hc3, hgl, hgb, h4c⟩ : ∃ g cc, u4 = .slice (some ⟨g, 0, none⟩) 4 cc ∧ wr.cell? ⟨g, 0, none⟩ = some (.int .i64 (a : Int)) ∧ wr.cell? ⟨g, 1, none⟩ = some (.int .i64 (b : Int)) ∧ wr.cell? ⟨g, 2, none⟩ = some (.int .i64 (c : Int)) ∧ wr.cell? ⟨g, 3, none⟩ = some (.int .i64 (d : Int)) ∧ g < wr.heap.size ∧ w.heap.size + 1 ≤ g ∧ 4 ≤ cc := by
        rcases hrow.2 with ⟨_, h0⟩ | ⟨g, cc, cur, rfl, hB, hg, hnc, hcm, hcs, htake⟩
        · omega
        · have hcl : ∀ (j : Nat) u, ([a, b, c, d].map fun (n : Nat) => Value.int .i64 (n : Int))[j]? = some u → wr.cell? ⟨g, j, none⟩ = some u := fun j u hu => by
            have := hrow.cells (g := g) rfl j u hu
            rwa [Addr.add_lit, Nat.zero_add] at this
          exact ⟨g, cc, rfl, hcl 0 _ rfl, hcl 1 _ rfl, hcl 2 _ rfl, hcl 3 _ rfl, (Array.getElem?_eq_some_iff.1 hg).1, hB, hnc⟩
      have hres := hJ.res
      have HC := Lib.hid hJ.chg
      obtain ⟨r0, r1, r2, r3⟩ := four_cells hres
      obtain ⟨f0, f1, f2, f3⟩ := four_free hres
      clear hJ hrow
      obtain ⟨h9, hc9⟩ := res_four (.int .i64 (a : Int)) (.int .i64 (b : Int)) (.int .i64 (c : Int)) (.int .i64 (d : Int)) hres
      obtain ⟨s0, s1, s2, s3⟩ := four_cells h9
      have HC9 := Lib.hid hc9
      clear hres h9 hc9
      go_wp2_with fail
      go_still_tail 13, (by kernel_rfl)
      go_wp2_with fail
      obtain ⟨q, hq1, hq2, hq3⟩ := HT.out
      have e0 : ns.drop 4 = [] := List.drop_of_length_le (by omega)
      rw [e0] at hq3
      have hq4 : s.data.toList.drop q = rest := hq3
      have hq1l := hq1.lt
      exact bodyPost_ret (v := .tuple #[.agg #[.int .i64 (a : Int), .int .i64 (b : Int), .int .i64 (c : Int), .int .i64 (d : Int)], .int .i64 0]) (by simp [results, Tryz.results45, go_sem, s0, s1, s2, s3]) rfl
        ⟨rfl, ⟨q, (HC9.out.block t hq1l (by omega)).trans hq1, hq2, hq4⟩, HC.out.trans HC9.out.drew (fun i hi hlt => by omega)⟩
end Go.Proofs.YtkldkaahpicnmaaGreat
/- The sum by which spoilt bytes are told, as plain numbers. -/
namespace Go.Proofs.YtkldkaahpicnmaaGreat

/-- One bit's step. -/
def stepN (x : Nat) : Nat := if x % 2 = 1 then (x / 2) ^^^ 3988292384 else x / 2
def stepsN : Nat → Nat → Nat
  | 0, x => x
  | n + 1, x => stepN (stepsN n x)
/-- What a byte comes to. -/
def tabN (j : Nat) : Nat := stepsN 8 j
/-- The sum so far, and more bytes behind it. -/
def moreN : Nat → List UInt8 → Nat
  | x, [] => x
  | x, b :: r => moreN (tabN ((x % 256) ^^^ b.toNat) ^^^ (x / 256)) r
def sumN (l : List UInt8) : Nat := 4294967295 - moreN 4294967295 l

theorem stepN_lt {x : Nat} (h : x < 4294967296) : stepN x < 4294967296 := by
  unfold stepN
  split
  · exact Nat.xor_lt_two_pow (n := 32) (by omega) (by decide)
  · omega
theorem stepsN_lt : ∀ (n : Nat) {x : Nat}, x < 4294967296 → stepsN n x < 4294967296
  | 0, _, h => h
  | n + 1, _, h => stepN_lt (stepsN_lt n h)
theorem tabN_lt {j : Nat} (h : j < 4294967296) : tabN j < 4294967296 := stepsN_lt 8 h
theorem xor8_lt (x : Nat) (b : UInt8) : (x % 256) ^^^ b.toNat < 256 := Nat.xor_lt_two_pow (n := 8) (by omega) b.toNat_lt
theorem next_lt {x : Nat} (b : UInt8) (h : x < 4294967296) : tabN ((x % 256) ^^^ b.toNat) ^^^ (x / 256) < 4294967296 :=
  Nat.xor_lt_two_pow (n := 32) (tabN_lt (by have := xor8_lt x b; omega)) (by omega)
theorem moreN_lt : ∀ (l : List UInt8) {x : Nat}, x < 4294967296 → moreN x l < 4294967296
  | [], _, h => h
  | b :: r, _, h => moreN_lt r (next_lt b h)
theorem moreN_snoc : ∀ (l : List UInt8) (b : UInt8) (x : Nat), moreN x (l ++ [b]) = tabN ((moreN x l % 256) ^^^ b.toNat) ^^^ (moreN x l / 256)
  | [], _, _ => rfl
  | c :: r, b, x => by
    rw [List.cons_append]
    show moreN _ (r ++ [b]) = _
    rw [moreN_snoc r b]
    rfl
theorem sumN_lt (l : List UInt8) : sumN l < 4294967296 := by unfold sumN; omega

theorem xor_ones {x : Nat} (h : x < 4294967296) : 4294967295 ^^^ x = 4294967295 - x := by
  have h1 := congrArg BitVec.toNat (BitVec.allOnes_xor (x := BitVec.ofNat 32 x))
  rw [BitVec.toNat_xor, BitVec.toNat_not, BitVec.toNat_allOnes, BitVec.toNat_ofNat, Nat.mod_eq_of_lt h] at h1
  exact h1
theorem bits_ones {x : Nat} (h : x < 4294967296) : bits .xor .u32 4294967295 (x : Int) = ((4294967295 - x : Nat) : Int) := by
  have := u32_xor_nat 4294967295 x (by decide) h
  rw [xor_ones h] at this
  exact this

/-- Four bytes, the least first. -/
def fourL (n : Nat) : List UInt8 := [UInt8.ofNat (n % 256), UInt8.ofNat (n / 256 % 256), UInt8.ofNat (n / 65536 % 256), UInt8.ofNat (n / 16777216 % 256)]
theorem fourL_len (n : Nat) : (fourL n).length = 4 := rfl
end Go.Proofs.YtkldkaahpicnmaaGreat
/- The sum by which spoilt bytes are told, walked: Table. -/
namespace Go.Proofs.YtkldkaahpicnmaaGreat
set_option maxRecDepth 100000
open Go.RowKit

theorem wp_scope_goto {P : Program} {c K : Code} {a : Act} {w : World} {Q : Exit → Act → World → Prop} (l : Nat) (J : Act → World → Prop) (μ : Act → World → Nat) (hf : findLabel c l = some (.seq .skip K))
    (pass : ∀ a w, J a w → K.wp P (Exit.jump l (fun a' w' => J a' w' ∧ μ a' w' < μ a w) Q) a w)
    (first : (∀ a w, J a w → K.wp P (Exit.jump l J Q) a w) → c.wp P (Exit.jump l J Q) a w) : (Code.scope c).wp P Q a w := by
  refine wp_scope_jumps l J μ hf (first fun a w h => ?_) (fun a w h => wp_seq (wp_skip (pass a w h)))
  intro b k cs
  obtain ⟨e, a₁, w₁, hq, harr⟩ := pass a w h b k cs
  refine ⟨e, a₁, w₁, ?_, harr⟩
  cases e with
  | goto l' =>
    simp only [Exit.jump] at hq ⊢
    exact ⟨hq.1, hq.2.1⟩
  | normal => exact hq
  | exit _ => exact hq
  | ret => exact hq
  | panic _ => exact hq
  | outgrown => exact hq

def Z256 : Array Value := Array.replicate 256 (Value.int .u32 0)
theorem zeroArr (w : World) : (zeroValue 145).run Tryz.prog w = .ok (.agg Z256) w := by kernel_rfl

/-- The table so far. -/
def tabRow (i : Nat) : List Value := ((List.range i).map fun j => Value.int .u32 (tabN j : Nat)) ++ List.replicate (256 - i) (Value.int .u32 0)
theorem tabRow_len {i : Nat} (h : i ≤ 256) : (tabRow i).length = 256 := by simp [tabRow]; omega
theorem tabRow_zero : (tabRow 0).toArray = Z256 := by
  unfold tabRow Z256
  rw [List.range_zero]
  exact List.toArray_replicate ..
theorem tabRow_set {i : Nat} (h : i < 256) : (tabRow i).set i (Value.int .u32 (tabN i : Nat)) = tabRow (i + 1) := by
  unfold tabRow
  rw [List.set_append_right _ _ (by simp), List.range_succ, List.map_append, List.append_assoc]
  congr 1
  obtain ⟨m, hm⟩ : ∃ m, 256 - i = m + 1 := ⟨255 - i, by omega⟩
  have hm2 : 256 - (i + 1) = m := by omega
  rw [hm, hm2, List.replicate_succ]
  simp

def TabA (B i : Nat) (a : Act) : Prop := ∃ u3 u4 u5 u6 u7 u8 u9 u10 u11 u12 u13 u14 u15 u16 u17 u18 u19 u20 u21 u22 u23 u24 : Value, a = ⟨#[.pointer (some ⟨B, 0, none⟩), .pointer (some ⟨B + 1, 0, none⟩), .int .i64 (i : Nat), u3, u4, u5, u6, u7, u8, u9, u10, u11, u12, u13, u14, u15, u16, u17, u18, u19, u20, u21, u22, u23, u24], []⟩
structure TabJ (w : World) (i : Nat) (w' : World) : Prop where
  res : w'.heap[w.heap.size]? = some (.cells Z256 145 (0, 0))
  row : w'.heap[w.heap.size + 1]? = some (.cells (tabRow i).toArray 145 (0, 0))
  lt : i < 256
  bel : Below w.heap.size w w'

theorem tab_row {w w' : World} {i x : Nat} (h : TabJ w i w') (hx : x = tabN i) : (w'.setCell ⟨w.heap.size + 1, i, none⟩ (.int .u32 (x : Nat))).heap[w.heap.size + 1]? = some (.cells (tabRow (i + 1)).toArray 145 (0, 0)) := by
  rw [heap_setCell_same _ _ _ _ _ _ h.row, ← tabRow_set h.lt, hx]
  simp
theorem tab_next {w w' : World} {i x : Nat} (h : TabJ w i w') (hx : x = tabN i) (hi : i + 1 < 256) : TabJ w (i + 1) (w'.setCell ⟨w.heap.size + 1, i, none⟩ (.int .u32 (x : Nat))) :=
  ⟨(Below.heap_setCell w' ⟨w.heap.size + 1, i, none⟩ _ _ (by simp)).trans h.res, tab_row h hx, hi, h.bel.setCell (p := ⟨w.heap.size + 1, i, none⟩) (by simp) _⟩
theorem tab_ok (i : Nat) : (tabRow i).toArray.all (·.oneCell') = true := by
  rw [List.all_toArray, List.all_eq_true]
  intro v hv
  unfold tabRow at hv
  rcases List.mem_append.1 hv with hv | hv
  · obtain ⟨j, _, rfl⟩ := List.mem_map.1 hv
    rfl
  · rw [List.eq_of_mem_replicate hv]; rfl

set_option maxRecDepth 100000 in
set_option maxHeartbeats 2000000 in
theorem table_any (w : World) : Calls Tryz.prog 93 #[] w fun e w' => e = .returned (.agg (tabRow 256).toArray) ∧ Below w.heap.size w w' := by
  have hz := zeroArr
  go_enter Tryz.func93, Tryz.ntmps93
  go_wp2_with fail
  refine wp_scope_goto 0 (fun a' w' => ∃ i, TabA w.heap.size i a' ∧ TabJ w i w') (fun a' _ => 256 - (intOf (a'.tmps.getD 2 undef)).toNat) rfl ?_ ?_
  · rintro a' w' ⟨i, hA, hJ⟩
    unfold TabA at hA
    obtain ⟨u3, hA⟩ := hA
    obtain ⟨u4, hA⟩ := hA
    obtain ⟨u5, hA⟩ := hA
    obtain ⟨u6, hA⟩ := hA
    obtain ⟨u7, hA⟩ := hA
    obtain ⟨u8, hA⟩ := hA
    obtain ⟨u9, hA⟩ := hA
    obtain ⟨u10, hA⟩ := hA
    obtain ⟨u11, hA⟩ := hA
    obtain ⟨u12, hA⟩ := hA
    obtain ⟨u13, hA⟩ := hA
    obtain ⟨u14, hA⟩ := hA
    obtain ⟨u15, hA⟩ := hA
    obtain ⟨u16, hA⟩ := hA
    obtain ⟨u17, hA⟩ := hA
    obtain ⟨u18, hA⟩ := hA
    obtain ⟨u19, hA⟩ := hA
    obtain ⟨u20, hA⟩ := hA
    obtain ⟨u21, hA⟩ := hA
    obtain ⟨u22, hA⟩ := hA
    obtain ⟨u23, hA⟩ := hA
    obtain ⟨u24, hA⟩ := hA
    subst hA
    have hi := hJ.lt
    have HJ := Lib.hid hJ
    have hcell : w'.cell? ⟨w.heap.size + 1, i, none⟩ = some (.int .u32 0) := by
      rw [cell_of_row _ _ _ _ _ _ hJ.row]
      rw [List.getElem?_toArray]
      unfold tabRow
      rw [List.getElem?_append_right (by simp), List.getElem?_replicate, if_pos (by simp; omega)]
    have hfree : w'.frozen? ⟨w.heap.size + 1, i, none⟩ = false := frozen_of_row _ _ _ _ _ hJ.row
    clear hJ
    go_wp2_with fail
    go_loop [3, 6] (fun x k => ∃ n : Nat, n ≤ 8 ∧ k = .int .i64 n ∧ x = .int .u32 (stepsN n i : Nat)) (fun _ k => 8 - (intOf k).toNat)
    case atStart => exact ⟨0, by omega, rfl, by go_num⟩
    case round =>
      obtain ⟨n, hn, rfl, rfl⟩ := hrel
      have hx : stepsN n i < 4294967296 := stepsN_lt n (by omega)
      have hs : stepsN (n + 1) i = stepN (stepsN n i) := rfl
      obtain ⟨x, hxx⟩ : ∃ x, x = stepsN n i := ⟨_, rfl⟩
      rw [← hxx] at hx hs
      have HXX := Lib.hid hxx
      by_cases hlt : n < 8
      · have hand : bits .and .u32 (x : Int) 1 = ((x % 2 : Nat) : Int) := by
          have := u32_and_nat x 1 hx (by decide)
          rw [Nat.and_one_is_mod] at this
          exact this
        have hxor : bits .xor .u32 ((x : Int) / 2) 3988292384 = (((x / 2) ^^^ 3988292384 : Nat) : Int) := by
          have := u32_xor_nat (x / 2) 3988292384 (by omega) (by decide)
          rw [Int.natCast_ediv] at this
          exact this
        rw [← hxx]
        by_cases hod : x % 2 = 1
        · have hst : stepN x = (x / 2) ^^^ 3988292384 := by unfold stepN; rw [if_pos hod]
          rw [hst] at hs
          have HS := Lib.hid hs
          rw [hod] at hand
          clear hxx hs hst
          go_wp2_with fail
          go_round
          case rel => exact ⟨n + 1, by omega, by go_num, by first | (rw [HS.out]; done) | (rw [HS.out]; go_num)⟩
          case measure => simp [intOf]; omega
        · have hst : stepN x = x / 2 := by unfold stepN; rw [if_neg hod]
          rw [hst] at hs
          have HS := Lib.hid hs
          have h0 : x % 2 = 0 := by omega
          rw [h0] at hand
          clear hxx hs hst hxor
          go_wp2_with fail
          go_round
          case rel => exact ⟨n + 1, by omega, by go_num, by first | (rw [HS.out]; done) | (rw [HS.out]; go_num)⟩
          case measure => simp [intOf]; omega
      · obtain rfl : n = 8 := by omega
        have hxt : x = tabN i := hxx
        have HXT := Lib.hid hxt
        rw [← hxx]
        clear hxx hs hxt
        by_cases hlast : i + 1 < 256
        · go_wp2_with fail
          go_step3
          refine ⟨rfl, ⟨i + 1, ?fr, ?j⟩, ?_⟩
          case fr => unfold TabA; (repeat apply Exists.intro); rfl
          case j => exact tab_next HJ.out HXT.out hlast
          · simp [intOf]; omega
        · obtain rfl : i = 255 := by omega
          have hrow := tab_row HJ.out HXT.out
          obtain ⟨W2, hW2⟩ : ∃ W2, W2 = w'.setCell ⟨w.heap.size + 1, 255, none⟩ (.int .u32 (x : Nat)) := ⟨_, rfl⟩
          rw [← hW2] at hrow
          have hres : W2.heap[w.heap.size]? = some (.cells Z256 145 (0, 0)) := by
            rw [hW2]
            exact (Below.heap_setCell w' ⟨w.heap.size + 1, 255, none⟩ _ _ (by simp)).trans HJ.out.res
          have hbel : Below w.heap.size w W2 := by
            rw [hW2]
            exact HJ.out.bel.setCell (p := ⟨w.heap.size + 1, 255, none⟩) (by simp) _
          have HB := Lib.hid hbel
          have hall := tab_ok 256
          have hsz1 : (tabRow 256).toArray.size = 256 := by rw [List.size_toArray]; exact tabRow_len (by omega)
          clear hbel
          go_wp2_with (first
            | (rw [← hW2]; clear hW2)
            | (refine wpList_load_row rfl 145 (.tmp 1) rfl (w.heap.size + 1) rfl 145 (tabRow 256).toArray (0, 0) _ hrow Tryz.underlying145 rfl ?_ ?_; (rw [hsz1]; kernel_rfl))
            | (refine wpList_store_row rfl 145 (.tmp 0) (.tmp 24) rfl w.heap.size (tabRow 256).toArray rfl rfl 145 Z256 hres ?_ ?_ hall ?_; (rw [hsz1]; kernel_rfl); (rw [hsz1]; exact Array.size_replicate ..)))
          simp only [Exit.jump]
          exact bodyPost_ret (results_cell_row rfl _ _ w.heap.size 145 (tabRow 256).toArray (0, 0) _ rfl (setRow_heap W2 w.heap.size Z256 (tabRow 256).toArray _ _ hres) Tryz.underlying145 rfl (by rw [hsz1]; kernel_rfl)) rfl ⟨rfl, below_setRow HB.out (Nat.le_refl _) _⟩
  · intro HP
    go_wp2_with fail
    go_step3
    rename_i hKK
    refine hKK _ _ (HP _ _ ?_)
    refine ⟨0, ?fr, ?j⟩
    case fr => unfold TabA; (repeat apply Exists.intro); rfl
    case j =>
      have e1 : (w.alloc (.cells Z256 145)).heap.size = w.heap.size + 1 := by simp
      exact ⟨by rw [Below.heap_alloc _ _ _ (by simp)]; exact heap_alloc_new w _, by rw [← e1, tabRow_zero]; exact heap_alloc_new _ _, by omega, ((Below.refl _ w).alloc (Nat.le_refl _) _).alloc (by simp) _⟩

theorem tab_at {w : World} {g j : Nat} {t : TypeId} (h : w.heap[g]? = some (.cells (tabRow 256).toArray t (0, 0))) (hj : j < 256) : w.cell? ⟨g, j, none⟩ = some (.int .u32 (tabN j : Nat)) := by
  rw [cell_of_row _ _ _ _ _ _ h, List.getElem?_toArray]
  unfold tabRow
  rw [List.getElem?_append_left (by simpa using hj), List.getElem?_map, List.getElem?_range hj]
  rfl

set_option maxRecDepth 100000 in
set_option maxHeartbeats 2000000 in
theorem more_any (x0 : Nat) (hx0 : x0 < 4294967296) (s : ByteArray) (hs : s.size ≤ 1000000000) (w : World) : Calls Tryz.prog 81 #[.int .u32 (x0 : Nat), .string s] w fun e w' => e = .returned (.int .u32 ((4294967295 - moreN (4294967295 - x0) s.data.toList : Nat) : Int)) ∧ Below w.heap.size w w' := by
  have hz := zeroArr
  have hall := tab_ok 256
  have hsz1 : (tabRow 256).toArray.size = 256 := by rw [List.size_toArray]; exact tabRow_len (by omega)
  go_enter Tryz.func81, Tryz.ntmps81
  go_wp2_with fail
  refine (table_any w).mono ?_
  rintro e w1 ⟨rfl, hb1⟩
  have hold := heap_alloc_new w1 (.cells Z256 145)
  go_wp2_with (first
    | (refine wpList_store_row rfl 145 (.tmp 5) (.tmp 8) rfl w1.heap.size (tabRow 256).toArray rfl rfl 145 Z256 hold ?_ ?_ hall ?_; (rw [hsz1]; kernel_rfl); (rw [hsz1]; exact Array.size_replicate ..)))
  obtain ⟨W2, hW2⟩ : ∃ W2, W2 = (w1.alloc (.cells Z256 145)).setRow w1.heap.size (tabRow 256).toArray := ⟨_, rfl⟩
  rw [← hW2]
  have hrow : W2.heap[w1.heap.size]? = some (.cells (tabRow 256).toArray 145 (0, 0)) := by rw [hW2]; exact setRow_heap _ _ _ _ _ _ hold
  have hbel : Below w.heap.size w W2 := by rw [hW2]; exact below_setRow (hb1.alloc hb1.size _) hb1.size _
  have HB := Lib.hid hbel
  have HR := Lib.hid hrow
  clear hW2 hold hrow hbel
  go_loop [6, 13] (fun x k => ∃ n : Nat, n ≤ s.size ∧ k = .int .i64 n ∧ x = .int .u32 (moreN (4294967295 - x0) (s.data.toList.take n) : Nat)) (fun _ k => s.size - (intOf k).toNat)
  case atStart => exact ⟨0, by omega, rfl, by
    rw [IntKind.max_u32, bits_ones hx0]
    rfl⟩
  case round =>
    obtain ⟨n, hn, rfl, rfl⟩ := hrel
    have hx : moreN (4294967295 - x0) (s.data.toList.take n) < 4294967296 := moreN_lt _ (by omega)
    obtain ⟨x, hxx⟩ : ∃ x, x = moreN (4294967295 - x0) (s.data.toList.take n) := ⟨_, rfl⟩
    rw [← hxx] at hx ⊢
    have HXX := Lib.hid hxx
    by_cases hlt : n < s.size
    · have hst : moreN (4294967295 - x0) (s.data.toList.take (n + 1)) = tabN ((x % 256) ^^^ s[n].toNat) ^^^ (x / 256) := by
        have hb : s.data.toList[n]? = some s[n] := by simp [hlt]; rfl
        rw [List.take_add_one, hb, hxx]
        exact moreN_snoc _ _ _
      have hj := xor8_lt x s[n]
      have hb256 := s[n].toNat_lt
      have hx8 : bits .xor .u8 ((x : Int) % 256) (s[n].toNat : Int) = (((x % 256) ^^^ s[n].toNat : Nat) : Int) := by
        have := u8_xor ((x : Int) % 256) (s[n].toNat : Int) (by omega) (by omega) (by omega) (by omega)
        rw [this]
        congr 1
      obtain ⟨j, hjj⟩ : ∃ j, j = (x % 256) ^^^ s[n].toNat := ⟨_, rfl⟩
      rw [← hjj] at hj hx8 hst
      have hcell := tab_at HR.out hj
      have ht := tabN_lt (j := j) (by omega)
      obtain ⟨T, hT⟩ : ∃ T, T = tabN j := ⟨_, rfl⟩
      rw [← hT] at hcell ht hst
      have hx32 : bits .xor .u32 (T : Int) ((x : Int) / 256) = ((T ^^^ (x / 256) : Nat) : Int) := by
        have := u32_xor_nat T (x / 256) ht (by omega)
        rw [Int.natCast_ediv] at this
        exact this
      have HS := Lib.hid hst
      clear hxx hst hjj hT
      go_wp2_with fail
      go_round
      case rel => exact ⟨n + 1, by omega, by go_num, by rw [HS.out]⟩
      case measure => simp [intOf]; omega
    · obtain rfl : n = s.size := by omega
      clear hxx
      go_wp2_with fail
      go_ret
      refine ⟨?_, HB.out⟩
      have e1 : s.data.toList.take s.size = s.data.toList := by rw [show s.size = s.data.toList.length by simp]; exact List.take_length
      rw [IntKind.max_u32, bits_ones hx, HXX.out, e1]
      rfl

end Go.Proofs.YtkldkaahpicnmaaGreat
/- The sum by which spoilt bytes are told, walked: Sum, bytes, Seal, Open. -/
namespace Go.Proofs.YtkldkaahpicnmaaGreat
set_option maxRecDepth 100000
open Go.RowKit

theorem sum_any (s : ByteArray) (hs : s.size ≤ 1000000000) (w : World) : Calls Tryz.prog 59 #[.string s] w fun e w' => e = .returned (.int .u32 ((sumN s.data.toList : Nat) : Int)) ∧ Below w.heap.size w w' := by
  have hm := more_any 0 (by decide) s hs w
  have e0 : (4294967295 - moreN (4294967295 - 0) s.data.toList : Nat) = sumN s.data.toList := rfl
  rw [e0] at hm
  have hm2 : Calls Tryz.prog 81 #[.int .u32 0, .string s] w fun e w' => e = .returned (.int .u32 ((sumN s.data.toList : Nat) : Int)) ∧ Below w.heap.size w w' := hm
  go_enter Tryz.func59, Tryz.ntmps59
  go_wp2_with fail
  refine hm2.mono ?_
  rintro e w1 ⟨rfl, hb1⟩
  go_wp2_with fail
  go_ret
  exact ⟨rfl, hb1⟩

theorem u8_nat (n : Nat) : ((UInt8.ofNat (n % 256)).toNat : Int) = ((n % 256 : Nat) : Int) := by rw [UInt8.toNat_ofNat']; omega

set_option maxHeartbeats 1000000 in
theorem bytes_any (n : Nat) (hn : n < 4294967296) (w : World) : Calls Tryz.prog 58 #[.int .u32 (n : Nat)] w fun e w' => e = .returned (.string ⟨(fourL n).toArray⟩) ∧ Below w.heap.size w w' := by
  have hcv : ∀ W : World, W.heap[w.heap.size]? = some (.cells #[.int .u8 ((n : Int) % 256), .int .u8 ((n : Int) / 256 % 256), .int .u8 ((n : Int) / 65536 % 256), .int .u8 ((n : Int) / 16777216)] 5 (0, 0)) → (convert 66 9 (.slice (some ⟨w.heap.size, 0, none⟩) 4 4)).run Tryz.prog W = .ok (.string ⟨(fourL n).toArray⟩) W := fun W hW => by
    have := run_convert_bytes_back (P := Tryz.prog) W 66 9 5 ⟨w.heap.size, 0, none⟩ 4 (fourL n) Tryz.underlying66 Tryz.underlying5 Tryz.underlying9 (fun j hj => by
      rw [Addr.add_lit, Nat.zero_add]
      simp only [World.cell?, hW, Option.isSome_none, Bool.false_eq_true, if_false]
      have hj4 : j < 4 := hj
      match j, hj4 with
      | 0, _ => simp only [fourL, List.getElem_cons_zero, u8_nat]; rfl
      | 1, _ => simp only [fourL, List.getElem_cons_succ, List.getElem_cons_zero, u8_nat]; rfl
      | 2, _ => simp only [fourL, List.getElem_cons_succ, List.getElem_cons_zero, u8_nat]; rfl
      | 3, _ =>
        simp only [fourL, List.getElem_cons_succ, List.getElem_cons_zero, u8_nat]
        have e : (n : Int) / 16777216 = ((n / 16777216 % 256 : Nat) : Int) := by omega
        rw [e]; rfl)
    exact this
  have hn2 : ((n : Nat) : Int) < 4294967296 := by omega
  obtain ⟨W1, hW1⟩ : ∃ W1, W1 = w.alloc (.cells #[.int .u8 ((n : Int) % 256), .int .u8 ((n : Int) / 256 % 256), .int .u8 ((n : Int) / 65536 % 256), .int .u8 ((n : Int) / 16777216)] 5) := ⟨_, rfl⟩
  have hcv1 := hcv W1 (by rw [hW1]; exact heap_alloc_new w _)
  have hbel : Below w.heap.size w W1 := by rw [hW1]; exact (Below.refl _ w).alloc (Nat.le_refl _) _
  clear hcv
  go_enter Tryz.func58, Tryz.ntmps58
  go_wp2_with (first | (rw [← hW1]; clear hW1))
  go_ret
  exact ⟨rfl, hbel⟩

/-- A sealed text's bytes. -/
def sealB (s : ByteArray) : ByteArray := s ++ ⟨(fourL (sumN s.data.toList)).toArray⟩
theorem sealB_size (s : ByteArray) : (sealB s).size = s.size + 4 := by unfold sealB; rw [ByteArray.size_append]; rfl

/-- The four bytes behind a text. -/
def sumB (s : ByteArray) : ByteArray := ⟨(fourL (sumN s.data.toList)).toArray⟩
theorem sumB_size (s : ByteArray) : (sumB s).size = 4 := rfl

theorem seal_any (s : ByteArray) (hs : s.size ≤ 1000000000) (w : World) : Calls Tryz.prog 41 #[.string s] w fun e w' => e = .returned (.string (sealB s)) ∧ Below w.heap.size w w' := by
  have hsm := Lib.hid (sum_any s hs w)
  have hby := Lib.hid (fun W => bytes_any _ (sumN_lt s.data.toList) W)
  have hq : ¬ (9223372036854775807 < s.size + (sumB s).size) := by rw [sumB_size]; omega
  have e1 : sealB s = s ++ sumB s := rfl
  have e2 : (⟨(fourL (sumN s.data.toList)).toArray⟩ : ByteArray) = sumB s := rfl
  rw [e1]
  rw [e2] at hby
  obtain ⟨nb, hnb⟩ : ∃ nb, sumB s = nb := ⟨_, rfl⟩
  rw [hnb] at hby hq ⊢
  clear hnb e1 e2
  go_enter Tryz.func41, Tryz.ntmps41
  go_wp2_with fail
  refine hsm.out.mono ?_
  rintro e w1 ⟨rfl, hb1⟩
  go_wp2_with fail
  refine (hby.out w1).mono ?_
  rintro e w2 ⟨rfl, hb2⟩
  go_wp2_with fail
  go_ret
  exact ⟨rfl, hb1.trans (hb2.mono hb1.size)⟩

def OldW (w W : World) : Prop := Below w.heap.size w W
theorem OldW.trans {w W W' : World} (h : OldW w W) (k : Below w.heap.size W W') : OldW w W' := Below.trans h k
theorem OldW.size {w W : World} (h : OldW w W) : w.heap.size ≤ W.heap.size := Below.size h

/-- What Open answers. -/
def openE (s : ByteArray) : Int := if s.size < 4 then 2 else if s.data.toList.drop (s.size - 4) = fourL (sumN (s.data.toList.take (s.size - 4))) then 0 else 7
def openB (s : ByteArray) : ByteArray := if openE s = 0 then s.extract 0 (s.size - 4) else ByteArray.empty

set_option maxHeartbeats 2000000 in
theorem open_any (s : ByteArray) (hs : s.size ≤ 1000000000) (w : World) : Calls Tryz.prog 43 #[.string s] w fun e w' => e = .returned (.tuple #[.string (openB s), .int .i64 (openE s)]) ∧ Below w.heap.size w w' := by
  by_cases h4 : s.size < 4
  · have e1 : openE s = 2 := by unfold openE; rw [if_pos h4]
    have e2 : openB s = ⟨#[]⟩ := by unfold openB; rw [e1]; rfl
    rw [e1, e2]
    go_enter Tryz.func43, Tryz.ntmps43
    go_wp2_with fail
    go_ret2
    exact ⟨rfl, Below.refl _ _⟩
  have hn : IntKind.i64.wrap ((s.size : Int) - 4) = ((s.size - 4 : Nat) : Int) := by rw [IntKind.wrap_i64]; omega
  have hb : (s.extract 0 (s.size - 4)).data.toList = s.data.toList.take (s.size - 4) := by
    rw [ByteArray.data_extract, Array.toList_extract]
    simp [List.extract]
  have hb2 : (s.extract (s.size - 4) s.size).data.toList = s.data.toList.drop (s.size - 4) := by
    rw [ByteArray.data_extract, Array.toList_extract]
    simp only [List.extract]
    rw [List.take_of_length_le (by simp)]
  have hbs : (s.extract 0 (s.size - 4)).size = s.size - 4 := by rw [ByteArray.size_extract]; omega
  have hsm : ∀ W, OldW w W → Calls Tryz.prog 59 #[.string (s.extract 0 (s.size - 4))] W fun e w' => e = .returned (.int .u32 ((sumN (s.data.toList.take (s.size - 4)) : Nat) : Int)) ∧ OldW w w' := fun W hW => by
    have := sum_any (s.extract 0 (s.size - 4)) (by omega) W
    rw [hb] at this
    exact this.mono fun e w' ⟨he, hbl⟩ => ⟨he, hW.trans (hbl.mono hW.size)⟩
  have hby : ∀ W, OldW w W → Calls Tryz.prog 58 #[.int .u32 ((sumN (s.data.toList.take (s.size - 4)) : Nat) : Int)] W fun e w' => e = .returned (.string ⟨(fourL (sumN (s.data.toList.take (s.size - 4)))).toArray⟩) ∧ OldW w w' := fun W hW =>
    (bytes_any _ (sumN_lt _) W).mono fun e w' ⟨he, hbl⟩ => ⟨he, hW.trans (hbl.mono hW.size)⟩
  have hw : OldW w w := Below.refl _ _
  have hwd : OldW w w.drew := ⟨rfl, rfl, rfl, Nat.le_refl _, fun _ _ => rfl⟩
  obtain ⟨B, hB⟩ : ∃ B : ByteArray, B = ⟨(fourL (sumN (s.data.toList.take (s.size - 4)))).toArray⟩ := ⟨_, rfl⟩
  rw [← hB] at hby
  have HSM := Lib.hid hsm
  have HBY := Lib.hid hby
  have hBl : B.data.toList = fourL (sumN (s.data.toList.take (s.size - 4))) := by rw [hB]
  clear hsm hby hbs hb hB
  by_cases heq : s.data.toList.drop (s.size - 4) = fourL (sumN (s.data.toList.take (s.size - 4)))
  · have e1 : openE s = 0 := by unfold openE; rw [if_neg h4, if_pos heq]
    have e2 : openB s = s.extract 0 (s.size - 4) := by unfold openB; rw [if_pos e1]
    rw [e1, e2]
    have hq : ((s.extract (s.size - 4) s.size).toList == B.toList) = true := by rw [ByteArray.toList_eq, ByteArray.toList_eq, hb2, heq, hBl]; simp
    clear heq hb2 hBl e1 e2
    go_enter Tryz.func43, Tryz.ntmps43
    go_wp2_with fail
    go_region_held3 (fun W' => OldW w W') (assumption)
      (first
        | (go_at_call 59; refine (HSM.out _ ?_).mono ?_; (assumption); rintro e w9 ⟨rfl, hp9⟩)
        | (go_at_call 58; refine (HBY.out _ ?_).mono ?_; (assumption); rintro e w9 ⟨rfl, hp9⟩))
    all_goals
      go_wp2_with fail
      go_ret2
      exact ⟨rfl, hp9⟩
  · have e1 : openE s = 7 := by unfold openE; rw [if_neg h4, if_neg heq]
    have e2 : openB s = ⟨#[]⟩ := by unfold openB; rw [e1]; rfl
    rw [e1, e2]
    have hq : ((s.extract (s.size - 4) s.size).toList == B.toList) = false := by
      rw [ByteArray.toList_eq, ByteArray.toList_eq, hb2, hBl]
      simpa using heq
    clear heq hb2 hBl e1 e2
    go_enter Tryz.func43, Tryz.ntmps43
    go_wp2_with fail
    go_region_held3 (fun W' => OldW w W') (assumption)
      (first
        | (go_at_call 59; refine (HSM.out _ ?_).mono ?_; (assumption); rintro e w9 ⟨rfl, hp9⟩)
        | (go_at_call 58; refine (HBY.out _ ?_).mono ?_; (assumption); rintro e w9 ⟨rfl, hp9⟩))
    all_goals
      go_wp2_with fail
      go_ret2
      exact ⟨rfl, hp9⟩
end Go.Proofs.YtkldkaahpicnmaaGreat
/- A piece framed, and the frame opened. -/
namespace Go.Proofs.YtkldkaahpicnmaaGreat
set_option maxRecDepth 100000
open Go.RowKit PFragNames
open Go.Proofs.YtkldkaahpicnmaaGreatW.PrintWords

/-- A frame's bytes, ahead of the sum. -/
def bodyL (a b c d : Nat) (piece : ByteArray) : List UInt8 := numsL [a, b, c, d] ++ (numL piece.data.toList.length ++ piece.data.toList)
def FrameEnd (a b c d : Nat) (piece : ByteArray) (w : World) (e : Ending) (w' : World) : Prop :=
  (∃ body : ByteArray, e = .returned (.tuple #[.string (sealB body), .int .i64 0]) ∧ body.data.toList = bodyL a b c d piece) ∧ Below w.heap.size w w'

theorem numsL_len (l : List Nat) (h : ∀ n ∈ l, n ≤ 9007199254740991) : (numsL l).length ≤ 8 * l.length := by
  induction l with
  | nil => simp [numsL]
  | cons n r ih =>
    have h1 := numL_len 7 n (by have := h n (by simp); omega)
    have h2 := ih (fun m hm => h m (by simp [hm]))
    rw [numsL_cons, List.length_append, List.length_cons]
    omega
theorem numsL_snoc (l : List Nat) (n : Nat) : numsL (l ++ [n]) = numsL l ++ numL n := by unfold numsL; rw [List.flatMap_append]; simp
theorem size_len (s : ByteArray) : s.size = s.data.toList.length := by simp

set_option maxHeartbeats 2000000 in
theorem frame_right (a b c d : Nat) (piece : ByteArray) (hok : okId a b c d = true) (hp : piece.size ≤ 2000) (w : World) :
    Calls Tryz.prog 23 #[idV a b c d, .string piece] w (FrameEnd a b c d piece w) := by
  have hall : ∀ n ∈ [a, b, c, d], n ≤ 9007199254740991 := by
    have h0 := okId_all hok 0 _ rfl
    have h1 := okId_all hok 1 _ rfl
    have h2 := okId_all hok 2 _ rfl
    have h3 := okId_all hok 3 _ rfl
    intro n hn
    simp at hn
    omega
  have HR := Lib.hid (right_any (a : Int) b c d)
  have HN := Lib.hid (numbers_any (a : Int) b c d)
  have HA := Lib.hid hall
  obtain ⟨ns, hns⟩ : ∃ ns : List Nat, ns = [a, b, c, d] := ⟨_, rfl⟩
  have hn4 : ns.length = 4 := by rw [hns]; rfl
  have hcast : [(a : Int), b, c, d] = ns.map fun (n : Nat) => (n : Int) := by rw [hns]; rfl
  rw [hcast] at HN
  rw [← hns] at HA
  have HNS := Lib.hid hns
  unfold idV at *
  clear hall hns hcast
  go_enter Tryz.func23, Tryz.ntmps23
  go_wp2_with fail
  refine (HR.out _).mono ?_
  rintro e w1 ⟨rfl, hb1⟩
  rw [hok]
  have hb2 : Below w.heap.size w w1 := ((Below.refl _ w).alloc (Nat.le_refl _) _).trans (hb1.mono (by simp))
  have hbx := (hb1.block w.heap.size (by simp)).trans (heap_alloc_new w _)
  obtain ⟨k0, k1, k2, k3⟩ := icells hbx
  have hp2 : ¬ ((1048576 : Int) < (piece.size : Int)) := by omega
  go_wp2_with fail
  refine (HN.out _).mono ?_
  rintro e w2 ⟨v, rfl, hv, hb3⟩
  obtain ⟨g, cc, rfl, hc1, hc2, hcell⟩ := hv
  have HC := Lib.hid hcell
  have hb4 : Below w.heap.size w w2 := hb2.trans (hb3.mono hb2.size)
  clear hcell
  unfold maxLen at hc2
  have hlm : (ns.map fun (n : Nat) => (n : Int)).length = 4 := by rw [List.length_map]; exact hn4
  rw [hlm] at hc1 ⊢
  clear hb1 hb3
  go_wp2_with fail
  go_loopw [6, 20] (fun out i wr => ∃ (k : Nat) (o : ByteArray), k ≤ 4 ∧ i = .int .i64 k ∧ out = .string o ∧ o.data.toList = numsL (ns.take k) ∧ Below w2.heap.size w2 wr) (fun _ i _ => 4 - (intOf i).toNat)
  case atStart => exact ⟨0, ⟨#[]⟩, by omega, rfl, rfl, rfl, Below.refl _ _⟩
  case round =>
    obtain ⟨k, o, hk, rfl, rfl, ho, hbw⟩ := hrel
    have hosz : o.size ≤ 32 := by
      have h1 := numsL_len (ns.take k) (fun n hn => HA.out n (List.mem_of_mem_take hn))
      have h2 : (ns.take k).length ≤ k := List.length_take_le _ _
      rw [size_len, ho]; omega
    have HO := Lib.hid ho
    clear ho
    by_cases hlt : k < 4
    · obtain ⟨n, hn⟩ : ∃ n, ns[k]? = some n := ⟨_, List.getElem?_eq_getElem (by omega)⟩
      have hcl := HC.out k (n : Int) (by rw [List.getElem?_map, hn]; rfl)
      have hg : g < w2.heap.size := World.block_lt_of_cell? w2 _ hcl
      have hcl2 : wr.cell? ⟨g, k, none⟩ = some (.int .i64 (n : Int)) := (hbw.cell (p := ⟨g, k, none⟩) hg).trans hcl
      have hn9 := HA.out n (List.mem_of_getElem? hn)
      have HM := Lib.hid (num_any n hn9)
      have hz : (ByteArray.mk (numL n).toArray).size ≤ 8 := by
        have := numL_len 7 n (by omega)
        show (numL n).toArray.size ≤ 8
        simpa using this
      obtain ⟨nb, hnb⟩ : ∃ nb : ByteArray, nb = ⟨(numL n).toArray⟩ := ⟨_, rfl⟩
      rw [← hnb] at HM hz
      have hnbl : nb.data.toList = numL n := by rw [hnb]
      have hq : ¬ (9223372036854775807 < o.size + nb.size) := by omega
      have hnew : (o ++ nb).data.toList = numsL (ns.take (k + 1)) := by
        rw [ByteArray.data_append, Array.toList_append, HO.out, hnbl, List.take_add_one, hn]
        exact (numsL_snoc _ _).symm
      have HNEW := Lib.hid hnew
      clear hn hcl hnb hnbl hnew
      go_wp2_with fail
      refine (HM.out _).mono ?_
      rintro e w3 ⟨rfl, hb5⟩
      go_wp2_with fail
      go_roundw
      case rel => exact ⟨k + 1, _, by omega, by go_num, rfl, HNEW.out, hbw.trans (hb5.mono hbw.size)⟩
      case measure => simp [intOf]; omega
    · obtain rfl : k = 4 := by omega
      have HT := Lib.hid (textB_any piece (by omega))
      have hl := numL_len 7 piece.size (by omega)
      obtain ⟨tb, htb⟩ : ∃ tb : ByteArray, tb = ⟨(numL piece.size).toArray⟩ ++ piece := ⟨_, rfl⟩
      have htbl : tb.data.toList = numL piece.data.toList.length ++ piece.data.toList := by
        rw [htb, ByteArray.data_append, Array.toList_append, ← size_len]
      have htbs : tb.size ≤ 2010 := by
        rw [size_len, htbl, List.length_append, ← size_len]; omega
      rw [← htb] at HT
      have hq : ¬ (9223372036854775807 < o.size + tb.size) := by omega
      have hbody : (o ++ tb).data.toList = bodyL a b c d piece := by
        rw [ByteArray.data_append, Array.toList_append, HO.out, htbl, List.take_of_length_le (by omega), HNS.out]
        rfl
      have hbsz : (o ++ tb).size ≤ 1000000000 := by rw [ByteArray.size_append]; omega
      have HS := Lib.hid (seal_any (o ++ tb) hbsz)
      have HB := Lib.hid hbody
      clear htb htbl hbody
      go_wp2_with fail
      refine (HT.out _).mono ?_
      rintro e w3 ⟨rfl, hb5⟩
      go_wp2_with fail
      refine (HS.out _).mono ?_
      rintro e w4 ⟨rfl, hb6⟩
      go_wp2_with fail
      go_ret2
      exact ⟨⟨_, rfl, HB.out⟩, (hb4.trans (hbw.mono hb4.size)).trans ((hb5.mono (Nat.le_trans hb4.size hbw.size)).trans (hb6.mono (Nat.le_trans (Nat.le_trans hb4.size hbw.size) hb5.size)))⟩

theorem frame_wrong (a b c d : Int) (piece : ByteArray) (hok : okId a b c d = false) (w : World) :
    Calls Tryz.prog 23 #[idV a b c d, .string piece] w fun e w' => e = .returned (.tuple #[.string ⟨#[]⟩, .int .i64 1]) ∧ Below w.heap.size w w' := by
  have HR := Lib.hid (right_any a b c d)
  unfold idV at *
  go_enter Tryz.func23, Tryz.ntmps23
  go_wp2_with fail
  refine (HR.out _).mono ?_
  rintro e w1 ⟨rfl, hb1⟩
  rw [hok]
  have hb2 : Below w.heap.size w w1 := ((Below.refl _ w).alloc (Nat.le_refl _) _).trans (hb1.mono (by simp))
  go_wp2_with fail
  go_ret2
  exact ⟨rfl, hb2⟩
end Go.Proofs.YtkldkaahpicnmaaGreat
/- A frame, opened. -/
namespace Go.Proofs.YtkldkaahpicnmaaGreat
set_option maxRecDepth 100000
open Go.RowKit PFragNames
open Go.Proofs.YtkldkaahpicnmaaGreatW.PrintWords

theorem open_seal (b : ByteArray) : openE (sealB b) = 0 ∧ openB (sealB b) = b := by
  have hs := sealB_size b
  have hl : (sealB b).data.toList = b.data.toList ++ fourL (sumN b.data.toList) := by
    unfold sealB
    rw [ByteArray.data_append, Array.toList_append]
  have hb : b.data.toList.length = b.size := by simp
  have h1 : openE (sealB b) = 0 := by
    unfold openE
    rw [if_neg (by omega), hs, Nat.add_sub_cancel, hl, ← hb, List.drop_left, List.take_left, if_pos rfl]
  refine ⟨h1, ?_⟩
  unfold openB
  rw [if_pos h1, hs, Nat.add_sub_cancel]
  apply ByteArray.ext
  apply Array.toList_inj.1
  rw [ByteArray.data_extract, Array.toList_extract]
  simp only [List.extract, Nat.sub_zero, List.drop_zero]
  rw [hl, ← hb, List.take_left]

theorem piece_eq (s : ByteArray) : (⟨s.data.toList.toArray⟩ : ByteArray) = s := by apply ByteArray.ext; apply Array.toList_inj.1; rfl

set_option maxHeartbeats 2000000 in
theorem fopen_right (a b c d : Nat) (piece body : ByteArray) (hok : okId a b c d = true) (hp : piece.size ≤ 2000) (hbody : body.data.toList = bodyL a b c d piece) (w : World) :
    Calls Tryz.prog 25 #[.string (sealB body)] w fun e w' => e = .returned (.tuple #[idV a b c d, .string piece, .int .i64 0]) ∧ Below w.heap.size w w' := by
  have hall : ∀ n ∈ [a, b, c, d], n ≤ 9007199254740991 := by
    have h0 := okId_all hok 0 _ rfl
    have h1 := okId_all hok 1 _ rfl
    have h2 := okId_all hok 2 _ rfl
    have h3 := okId_all hok 3 _ rfl
    intro n hn
    simp at hn
    omega
  have hbs : body.size ≤ 10000 := by
    have h1 := numsL_len [a, b, c, d] hall
    have h2 := numL_len 7 piece.data.toList.length (by rw [← size_len]; omega)
    rw [size_len, hbody]
    unfold bodyL
    rw [List.length_append, List.length_append]
    rw [← size_len] at *
    simp only [List.length_cons, List.length_nil] at h1
    omega
  have hos := open_seal body
  have hop := open_any (sealB body) (by rw [sealB_size]; omega) w.drew
  have HO := Lib.hid (fun W => open_any (sealB body) (by rw [sealB_size]; omega) W)
  rw [hos.1, hos.2] at HO
  clear hos hop
  obtain ⟨S, hS⟩ : ∃ S, S = sealB body := ⟨_, rfl⟩
  rw [← hS] at HO ⊢
  have HR := Lib.hid (right_any (a : Int) b c d)
  unfold idV at *
  clear hS
  go_enter Tryz.func25, Tryz.ntmps25
  go_wp2_with fail
  refine (HO.out _).mono ?_
  rintro e w1 ⟨rfl, hb1⟩
  have x1 := (hb1.block _ (by simp)).trans (heap_alloc_new w (.cells #[.int .i64 0, .int .i64 0, .int .i64 0, .int .i64 0] 26))
  have hB1 : Below w.heap.size w w1 := ((Below.refl _ w).alloc (Nat.le_refl _) _).trans (hb1.mono (by simp))
  have hl1 := (Array.getElem?_eq_some_iff.1 x1).1
  go_wp2_with fail
  refine (tnew_any body w1).mono ?_
  rintro e w2 ⟨rfl, ht2, hb2⟩
  have x2 := (hb2.block _ hl1).trans x1
  have hB2 := hB1.trans (hb2.mono hB1.size)
  have hid := ided_any w1.heap.size body 0 a b c d (numL piece.data.toList.length ++ piece.data.toList) w2 ht2 (Nat.zero_le _) (by omega) hbody (hall a (by simp)) (hall b (by simp)) (hall c (by simp)) (hall d (by simp))
  have HID := Lib.hid hid
  have hl2 := (Array.getElem?_eq_some_iff.1 x2).1
  clear hb1 hb2 hid ht2 x1
  go_wp2_with fail
  refine HID.out.mono ?_
  rintro e w3 ⟨rfl, ⟨q, ht3, hq3, hd3⟩, hc3⟩
  have x3 := (hc3.block _ hl2 (by omega)).trans x2
  have hB3 := hB2.trans (hc3.below hB2.size (fun i hi => by omega))
  obtain ⟨W4, hW4⟩ : ∃ W4, W4 = w3.alloc (.cells #[.int .i64 (a : Int), .int .i64 (b : Int), .int .i64 (c : Int), .int .i64 (d : Int)] 26) := ⟨_, rfl⟩
  have y4 : W4.heap[w3.heap.size]? = some (.cells #[.int .i64 (a : Int), .int .i64 (b : Int), .int .i64 (c : Int), .int .i64 (d : Int)] 26 (0, 0)) := by rw [hW4]; exact heap_alloc_new w3 _
  have hb4 : Below w3.heap.size w3 W4 := by rw [hW4]; exact (Below.refl _ _).alloc (Nat.le_refl _) _
  have ht4 := ht3.below hb4
  have hl3 := (Array.getElem?_eq_some_iff.1 x3).1
  have htl3 := ht3.lt
  have x4 := (hb4.block _ hl3).trans x3
  have hB4 := hB3.trans (hb4.mono hB3.size)
  have htx := ttext_any w1.heap.size body q piece.data.toList [] 1048576 W4 ht4 hq3 (by omega) (by rw [hd3]; simp) (by rw [← size_len]; omega) (by omega)
  have hdl := drop_len hd3 hq3
  rw [piece_eq, hdl] at htx
  have HTX := Lib.hid htx
  clear htx hdl hd3 hc3 ht3 hb4 x2 x3
  go_wp2_with (first | (rw [← hW4]; clear hW4))
  have htx := HTX.out
  have htx2 : Calls Tryz.prog 46 #[.pointer (some ⟨w1.heap.size, 0, none⟩), .int .i64 1048576] W4 _ := htx
  refine htx2.mono ?_
  rintro e w5 ⟨rfl, ht5, hc5⟩
  have hl4 := (Array.getElem?_eq_some_iff.1 y4).1
  have x5 := (hc5.block _ (Array.getElem?_eq_some_iff.1 x4).1 (by omega)).trans x4
  have y5 := (hc5.block _ hl4 (by omega)).trans y4
  have hB5 := hB4.trans (hc5.below hB4.size (fun i hi => by omega))
  clear htx htx2
  go_wp2_with fail
  refine (end_any _ body w5 ht5 (by omega)).mono ?_
  rintro e w6 ⟨rfl, hb6⟩
  have x6 := (hb6.block _ (Array.getElem?_eq_some_iff.1 x5).1).trans x5
  have y6 := (hb6.block _ (Array.getElem?_eq_some_iff.1 y5).1).trans y5
  have hB6 := hB5.trans (hb6.mono hB5.size)
  obtain ⟨⟨e0, e1, e2, e3⟩, _⟩ := ifacts y6
  go_wp2_with fail
  refine (HR.out _).mono ?_
  rintro e w7 ⟨rfl, hb7⟩
  rw [hok]
  have x7 := (hb7.block _ (Array.getElem?_eq_some_iff.1 x6).1).trans x6
  have y7 := (hb7.block _ (Array.getElem?_eq_some_iff.1 y6).1).trans y6
  have hB7 := hB6.trans (hb7.mono hB6.size)
  obtain ⟨⟨r0, r1, r2, r3⟩, _⟩ := ifacts y7
  obtain ⟨⟨c0, c1, c2, c3⟩, f0, f1, f2, f3⟩ := ifacts x7
  go_wp2_with fail
  obtain ⟨hr9, hc9⟩ := res_four (.int .i64 (a : Int)) (.int .i64 (b : Int)) (.int .i64 (c : Int)) (.int .i64 (d : Int)) x7
  obtain ⟨s0, s1, s2, s3⟩ := four_cells hr9
  exact bodyPost_ret (v := .tuple #[.agg #[.int .i64 (a : Int), .int .i64 (b : Int), .int .i64 (c : Int), .int .i64 (d : Int)], .string piece, .int .i64 0]) (by simp [results, Tryz.results25, go_sem, s0, s1, s2, s3]) rfl ⟨rfl, hB7.trans (hc9.below hB7.size (fun i hi => by omega))⟩
end Go.Proofs.YtkldkaahpicnmaaGreat
/- A sealed text with one byte changed is not opened: the sum tells. -/
namespace Go.Proofs.YtkldkaahpicnmaaGreat

def topsL : List Nat := [0, 119, 238, 153, 7, 112, 233, 158, 14, 121, 224, 151, 9, 126, 231, 144, 29, 106, 243, 132, 26, 109, 244, 131, 19, 100, 253, 138, 20, 99, 250, 141, 59, 76, 213, 162, 60, 75, 210, 165, 53, 66, 219, 172, 50, 69, 220, 171, 38, 81, 200, 191, 33, 86, 207, 184, 40, 95, 198, 177, 47, 88, 193, 182, 118, 1, 152, 239, 113, 6, 159, 232, 120, 15, 150, 225, 127, 8, 145, 230, 107, 28, 133, 242, 108, 27, 130, 245, 101, 18, 139, 252, 98, 21, 140, 251, 77, 58, 163, 212, 74, 61, 164, 211, 67, 52, 173, 218, 68, 51, 170, 221, 80, 39, 190, 201, 87, 32, 185, 206, 94, 41, 176, 199, 89, 46, 183, 192, 237, 154, 3, 116, 234, 157, 4, 115, 227, 148, 13, 122, 228, 147, 10, 125, 240, 135, 30, 105, 247, 128, 25, 110, 254, 137, 16, 103, 249, 142, 23, 96, 214, 161, 56, 79, 209, 166, 63, 72, 216, 175, 54, 65, 223, 168, 49, 70, 203, 188, 37, 82, 204, 187, 34, 85, 197, 178, 43, 92, 194, 181, 44, 91, 155, 236, 117, 2, 156, 235, 114, 5, 149, 226, 123, 12, 146, 229, 124, 11, 134, 241, 104, 31, 129, 246, 111, 24, 136, 255, 102, 17, 143, 248, 97, 22, 160, 215, 78, 57, 167, 208, 73, 62, 174, 217, 64, 55, 169, 222, 71, 48, 189, 202, 83, 36, 186, 205, 84, 35, 179, 196, 93, 42, 180, 195, 90, 45]
theorem tops_eq : (List.range 256).map (fun j => tabN j / 16777216) = topsL := by decide +kernel
theorem tops_apart : topsL.Nodup := by decide +kernel
theorem top_at {j : Nat} (h : j < 256) : topsL[j]? = some (tabN j / 16777216) := by
  rw [← tops_eq, List.getElem?_map, List.getElem?_range h]; rfl
/-- The highest byte of what a byte comes to tells the byte. -/
theorem top_inj {j k : Nat} (hj : j < 256) (hk : k < 256) (h : tabN j / 16777216 = tabN k / 16777216) : j = k := by
  have h1 := top_at hj
  have h2 := top_at hk
  rw [h] at h1
  obtain ⟨l1, e1⟩ := List.getElem?_eq_some_iff.1 h1
  obtain ⟨l2, e2⟩ := List.getElem?_eq_some_iff.1 h2
  have hp := List.pairwise_iff_getElem.1 tops_apart
  rcases Nat.lt_trichotomy j k with hlt | rfl | hlt
  · exact absurd (e1.trans e2.symm) (hp j k l1 l2 hlt)
  · rfl
  · exact absurd (e2.trans e1.symm) (hp k j l2 l1 hlt)

theorem xor_cancel {a b c : Nat} (h : a ^^^ b = a ^^^ c) : b = c := by
  have := congrArg (fun z => a ^^^ z) h
  simpa [← Nat.xor_assoc] using this
theorem xor_cancel_r {a b c : Nat} (h : b ^^^ a = c ^^^ a) : b = c := by
  rw [Nat.xor_comm b, Nat.xor_comm c] at h; exact xor_cancel h

theorem xor_top (a : Nat) {q : Nat} (h : q < 16777216) : (a ^^^ q) / 16777216 = a / 16777216 := by
  have e : ∀ n : Nat, n / 16777216 = n >>> 24 := fun n => (Nat.shiftRight_eq_div_pow n 24).symm
  rw [e, e, Nat.shiftRight_xor_distrib, ← e q, Nat.div_eq_of_lt h, Nat.xor_zero]

theorem next_inj {x z j k : Nat} (hx : x < 4294967296) (hz : z < 4294967296) (hj : j < 256) (hk : k < 256) (h : tabN j ^^^ (x / 256) = tabN k ^^^ (z / 256)) : j = k ∧ x / 256 = z / 256 := by
  have ht : (tabN j ^^^ (x / 256)) / 16777216 = (tabN k ^^^ (z / 256)) / 16777216 := by rw [h]
  rw [xor_top _ (by omega), xor_top _ (by omega)] at ht
  have e := top_inj hj hk ht
  subst e
  exact ⟨rfl, xor_cancel h⟩

theorem moreN_inj : ∀ (l : List UInt8) {x z : Nat}, x < 4294967296 → z < 4294967296 → moreN x l = moreN z l → x = z
  | [], _, _, _, _, h => h
  | b :: r, x, z, hx, hz, h => by
    have h1 := moreN_inj r (next_lt b hx) (next_lt b hz) h
    obtain ⟨e1, e2⟩ := next_inj hx hz (xor8_lt x b) (xor8_lt z b) h1
    have e3 := xor_cancel_r e1
    omega

theorem moreN_diff : ∀ (l : List UInt8) (i : Nat) (c : UInt8) {x : Nat}, x < 4294967296 → (h : i < l.length) → c ≠ l[i] → moreN x (l.set i c) ≠ moreN x l
  | [], _, _, _, _, h, _ => absurd h (by simp)
  | b :: r, 0, c, x, hx, _, hc => fun he => by
    have h1 := moreN_inj r (next_lt c hx) (next_lt b hx) he
    obtain ⟨e1, _⟩ := next_inj hx hx (xor8_lt x c) (xor8_lt x b) h1
    exact hc (UInt8.toNat_inj.1 (xor_cancel e1))
  | b :: r, i + 1, c, x, hx, h, hc => moreN_diff r i c (next_lt b hx) (by simpa using h) (by simpa using hc)

theorem sumN_diff (l : List UInt8) (i : Nat) (c : UInt8) (h : i < l.length) (hc : c ≠ l[i]) : sumN (l.set i c) ≠ sumN l := fun he => by
  have h1 := moreN_lt (l.set i c) (x := 4294967295) (by decide)
  have h2 := moreN_lt l (x := 4294967295) (by decide)
  unfold sumN at he
  exact moreN_diff l i c (x := 4294967295) (by decide) h hc (by omega)

theorem byte_inj {a b : Nat} (ha : a < 256) (hb : b < 256) (h : UInt8.ofNat a = UInt8.ofNat b) : a = b := by
  have := congrArg UInt8.toNat h
  rw [UInt8.toNat_ofNat', UInt8.toNat_ofNat'] at this
  omega
theorem fourL_inj {n m : Nat} (hn : n < 4294967296) (hm : m < 4294967296) (h : fourL n = fourL m) : n = m := by
  unfold fourL at h
  simp only [List.cons.injEq, and_true] at h
  obtain ⟨h1, h2, h3, h4⟩ := h
  have e1 := byte_inj (by omega) (by omega) h1
  have e2 := byte_inj (by omega) (by omega) h2
  have e3 := byte_inj (by omega) (by omega) h3
  have e4 := byte_inj (by omega) (by omega) h4
  omega

theorem turned_ne (a : UInt8) (y : Int) (h0 : 0 < y) (h1 : y ≤ 255) : UInt8.ofNat (a.toNat ^^^ y.toNat) ≠ a := fun he => by
  have := congrArg UInt8.toNat he
  rw [UInt8.toNat_ofNat'] at this
  have hlt : a.toNat ^^^ y.toNat < 256 := Nat.xor_lt_two_pow (n := 8) a.toNat_lt (by omega)
  have h2 : a.toNat ^^^ y.toNat = a.toNat ^^^ 0 := by rw [Nat.xor_zero]; omega
  have := xor_cancel h2
  omega

/-- A text that is opened is not, with one byte changed. -/
theorem open_spo (s : ByteArray) (at_ y : Int) (h4 : 4 ≤ s.size) (ho : openE s = 0) (h0 : 0 < y) (h1 : y ≤ 255) : openE (spo s at_ y) = 7 := by
  have hi0 := Int.emod_nonneg at_ (show (s.size : Int) ≠ 0 by omega)
  have hi1 := Int.emod_lt_of_pos at_ (show (0 : Int) < s.size by omega)
  obtain ⟨i, hi⟩ : ∃ i, i = (at_ % (s.size : Int)).toNat := ⟨_, rfl⟩
  have hlen : s.data.toList.length = s.size := by simp
  have hil : i < s.data.toList.length := by omega
  have hl : (spo s at_ y).data.toList = s.data.toList.set i (UInt8.ofNat ((s.data.toList[i]).toNat ^^^ y.toNat)) := by
    unfold spo spoL
    rw [← hi, List.getD_eq_getElem?_getD, List.getElem?_eq_getElem hil, Option.getD_some]
  have hc := turned_ne s.data.toList[i] y h0 h1
  have ho' : s.data.toList.drop (s.size - 4) = fourL (sumN (s.data.toList.take (s.size - 4))) := by
    unfold openE at ho
    rw [if_neg (by omega)] at ho
    split at ho
    · assumption
    · cases ho
  unfold openE
  rw [spo_size, if_neg (by omega), hl, if_neg]
  intro he
  rw [List.take_set, List.drop_set] at he
  split at he
  · rename_i hlt
    rw [ho'] at he
    have := fourL_inj (sumN_lt _) (sumN_lt _) he
    refine sumN_diff (s.data.toList.take (s.size - 4)) i _ (by rw [List.length_take]; omega) ?_ this.symm
    rw [List.getElem_take]
    exact hc
  · rename_i hge
    rw [List.set_eq_of_length_le (l := List.take (s.size - 4) s.data.toList) (by rw [List.length_take]; omega)] at he
    rw [← ho'] at he
    have h2 := congrArg (fun l => l[i - (s.size - 4)]?) he
    rw [List.getElem?_set_self (by rw [List.length_drop]; omega), List.getElem?_drop, show s.size - 4 + (i - (s.size - 4)) = i by omega, List.getElem?_eq_getElem hil] at h2
    injection h2 with h2
    exact hc h2
end Go.Proofs.YtkldkaahpicnmaaGreat
