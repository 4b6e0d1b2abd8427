/- Scan where no name is an id's: nil is taken, and nil is given. -/
import Derived.Test.YtkldkaahpicnmaaGreatMSpB
import Derived.Shelf.SlSortCmp.NoneTotal
import Derived.Deep.RegionHeld3
namespace Go.Proofs.YtkldkaahpicnmaaGreat
set_option maxRecDepth 100000
open Go.RowKit Go.Shelf

theorem idx_nil (fv : Value) (w : World) : Calls Tryz.prog 48 #[.slice none 0 0, fv] w fun e w' => e = .returned (.int .i64 (-1)) ∧ Below w.heap.size w w' := by
  go_enter Tryz.func48, Tryz.ntmps48
  go_wp2
  go_loopw [8] (fun i wr => i = .int .i64 0 ∧ Below w.heap.size w wr) (fun _ _ => 0)
  case atStart => exact ⟨rfl, Below.refl _ _⟩
  case round =>
    obtain ⟨rfl, hb⟩ := hrel
    go_wp2
    go_ret
    exact ⟨rfl, hb⟩

theorem del_nil (fv : Value) (w : World) : Calls Tryz.prog 26 #[.slice none 0 0, fv] w fun e w' => e = .returned (.slice none 0 0) ∧ Below w.heap.size w w' := by
  go_enter Tryz.func26, Tryz.ntmps26
  go_wp2_with fail
  refine (idx_nil _ _).mono ?_
  rintro e w1 ⟨rfl, hb1⟩
  go_wp2_with fail
  go_ret
  exact ⟨rfl, hb1⟩

theorem sort_nil (fv : Value) (w : World) : Calls Tryz.prog 29 #[.slice none 0 0, fv] w fun e w' => e = .returned (.tuple #[]) ∧ w' = w :=
  AnyF.slices_SortFunc_none Tryz.sortIds none 0 fv w

/-- A row of ids, nil if there are none. -/
def RowI (w : World) (v : Value) (L : List I4) : Prop := (v = .slice none 0 0 ∧ L = []) ∨ ∃ g c, v = .slice (some ⟨g, 0, none⟩) L.length c ∧ IdBlk w g 0 L

set_option maxHeartbeats 2000000 in
theorem scan_all (f : ByteArray → Option I4) (good : I4 → Bool) (p b size : Nat) (l : List KV) (w : World) (h : DiskAt w p b size l) (hf : ∀ x ∈ l, NamesOk f x.1) (hsz : size ≤ 900000) (hg : HeldOk f good l) :
    Calls Tryz.prog 11 #[.pointer (some ⟨p, 0, none⟩)] w fun e w' => ∃ (ys : List I4) (v : Value), e = .returned v ∧ ys.Perm ((idsOf f l).filter good) ∧ ys.Pairwise (fun x y => ¬ LessI y x) ∧ RowI w' v ys ∧ Below w.heap.size w w' := by
  obtain ⟨W1, hW1⟩ : ∃ W1, W1 = w.alloc (.cells #[.pointer (some ⟨p, 0, none⟩)] 28) := ⟨_, rfl⟩
  have y1 : W1.heap[w.heap.size]? = some (.cells #[.pointer (some ⟨p, 0, none⟩)] 28 (0, 0)) := by rw [hW1]; exact heap_alloc_new w _
  have hs1 : W1.heap.size = w.heap.size + 1 := by rw [hW1]; simp
  have hb1 : Below w.heap.size w W1 := by rw [hW1]; exact (Below.refl _ _).alloc (Nat.le_refl _) _
  have hpl := (Array.getElem?_eq_some_iff.1 h.at_).1
  have hbl := h.own.lt
  have hd1 : DiskAt W1 p b size l := h.under hb1 hpl hbl
  have c1 : W1.cell? ⟨w.heap.size, 0, none⟩ = some (.pointer (some ⟨p, 0, none⟩)) := by simp [World.cell?, y1]
  have HI := Lib.hid (ids_any f p b size l W1 hd1 hf hsz)
  have HD1 := Lib.hid hd1
  have HF := Lib.hid hf
  have HG := Lib.hid hg
  have HC1 := Lib.hid c1
  have hln : (idsOf f l).length ≤ 1000000 := by
    have h1 : (idsOf f l).length ≤ l.length := List.length_filterMap_le _ _
    have h2 := len_tot l
    have h3 := h.fits
    omega
  clear hd1 hf hg y1 h
  have eg : ∀ args w, (callFunc 28 args).run Tryz.prog w = .ok (.enter 28 args) w := enters_of Tryz.func28 (by kernel_rfl) rfl
  go_enter Tryz.func11, Tryz.ntmps11
  go_wp2_with (first | (rw [← hW1]; clear hW1) | fail)
  refine HI.out.mono ?_
  rintro e w2 ⟨v, rfl, hown, hb2⟩
  rcases own_ids hown with ⟨rfl, h0⟩ | ⟨g, c, rfl, hgB, hlc, hcm, hI⟩
  · clear hown c1
    have HH0 := Lib.hid h0
    clear h0
    go_wp2_with fail
    refine (del_nil _ _).mono ?_
    rintro e w3 ⟨rfl, hb3⟩
    go_wp2_with fail
    refine (sort_nil _ _).mono ?_
    rintro e w4 ⟨rfl, rfl⟩
    go_wp2_with fail
    go_ret
    exact ⟨[], _, rfl, by rw [HH0.out]; exact List.Perm.refl _, List.Pairwise.nil, .inl ⟨rfl, rfl⟩, hb1.trans ((hb2.trans (hb3.mono hb2.size)).mono hb1.size)⟩
  have hT : Tells 28 #[.pointer (some ⟨w.heap.size, 0, none⟩)] (fun i => !good i) W1.heap.size w2 (idsOf f l) := by
    intro W hb hszW i hi
    have hbW : Below W1.heap.size W1 W := hb2.trans hb
    exact bad_any f good p b size l w.heap.size W (HD1.out.under hbW (by omega) (by omega)) HF.out HG.out ((hbW.cell (p := ⟨w.heap.size, 0, none⟩) (by show w.heap.size < W1.heap.size; omega)).trans HC1.out) i hi
  have HDL := Lib.hid (del_any g c 0 (idsOf f l) 28 #[.pointer (some ⟨w.heap.size, 0, none⟩)] (fun i => !good i) w2 W1.heap.size eg hI hgB hT hln hlc hcm)
  clear hT hown hI c1
  go_wp2_with fail
  refine HDL.out.mono ?_
  rintro e w3 ⟨rfl, hI3, hb3⟩
  have hk3 : (keepI (fun i => !good i) (idsOf f l)).length ≤ 1000000 := Nat.le_trans (List.length_filter_le _ _) hln
  have HSO := Lib.hid (sort_any g c 0 (keepI (fun i => !good i) (idsOf f l)) w3 W1.heap.size hI3 hgB hk3)
  have HKP : Hid (keepI (fun i => !good i) (idsOf f l) = (idsOf f l).filter good) := Lib.hid (by unfold keepI; simp)
  clear hI3
  go_wp2_with fail
  refine HSO.out.mono ?_
  rintro e w4 ⟨rfl, ys, hperm, hpw, hI4, hb4⟩
  have hyl := hperm.length_eq
  go_wp2_with fail
  go_ret
  rw [← hyl]
  rw [HKP.out] at hperm
  exact ⟨ys, _, rfl, hperm, hpw, .inr ⟨g, c, rfl, hI4⟩, hb1.trans (((hb2.trans hb3).trans hb4).mono (by omega))⟩
end Go.Proofs.YtkldkaahpicnmaaGreat
/- What the document's ids are: Right, Less; an id as the document has it. -/
namespace Go.Proofs.YtkldkaahpicnmaaGreat.PFragNames
open Go.RowKit Go.Proofs.YtkldkaahpicnmaaGreatW.PrintWords Go.Proofs.YtkldkaahpicnmaaGreatW.PrintLast Go.Proofs.YtkldkaahpicnmaaGreatW.PrintMore
def stooklaw15_Plain.f (a0_0 : Int) (a0_1 : Int) (a0_2 : Int) (a0_3 : Int) : Option (Int × Int × Int × Int) := some (a0_0, a0_1, a0_2, a0_3)
set_option maxHeartbeats 8000000 in
set_option maxRecDepth 100000 in
theorem stooklaw15_Plain.calls (a0_0 : Int) (a0_1 : Int) (a0_2 : Int) (a0_3 : Int) (r1 : Int) (r2 : Int) (r3 : Int) (r4 : Int) (w : World) (h : stooklaw15_Plain.f a0_0 a0_1 a0_2 a0_3 = some (r1, r2, r3, r4)) :
    Calls Tryz.prog 18 #[.agg #[.int .i64 a0_0, .int .i64 a0_1, .int .i64 a0_2, .int .i64 a0_3]] w fun e w' => e = .returned (.agg #[.int .i64 r1, .int .i64 r2, .int .i64 r3, .int .i64 r4]) ∧ Below w.heap.size w w' := by
  have huA := Tryz.underlying26
  have huB := Tryz.underlying23
  have HB := Aside0.mk (Below.refl w.heap.size w)
  have H : (some (a0_0, a0_1, a0_2, a0_3)) = some (r1, r2, r3, r4) := h
  clear h
  simp only [Option.some.injEq, Prod.mk.injEq] at H
  obtain ⟨rfl, rfl, rfl, rfl⟩ := H
  go_enter Tryz.func18, Tryz.ntmps18
  go_wp2_with (first | ((with_reducible refine gate_dst (N := 1) rfl ?_); refine box_event ?hg (N := 1) ?hd (cs := #[.int .i64 a0_0, .int .i64 a0_1, .int .i64 a0_2, .int .i64 a0_3]) (t := 26) ?hr ?_; (case hd => rfl); (case hg => rfl); (case hr => first | (go_simp; done) | (go_simp; rfl)); intro gb119 hg w2 hbox hb; have n0_ := Aside0.mk (below_step (by repeat (first | (with_reducible first | exact HB.out | apply below_alloc | apply pw_below_drewN | apply below_drew1) | exact HB.out)) hb); have n1_ := Aside0.mk (hbox); have n2_ := Aside0.mk ((by rw [hg]; exact (below_size (by repeat (first | (with_reducible first | exact HB.out | apply below_alloc | apply pw_below_drewN | apply below_drew1) | exact HB.out))) : w.heap.size ≤ gb119)); have n3_ := Aside0.mk ((by rw [hg]; exact (below_size (by repeat (first | (with_reducible first | exact HB.out | apply below_alloc | apply pw_below_drewN | apply below_drew1) | exact HB.out))) : w.heap.size ≤ gb119)); clear HB; have HB := n0_; have BK119 := n1_; have GW119 := n2_; have GE119 := n3_; clear n0_ n1_ n2_ n3_; clear hb hbox hg) | ((with_reducible refine gate_dst (N := 2) rfl ?_); refine box_event ?hg (N := 2) ?hd (cs := #[.int .i64 0, .int .i64 0, .int .i64 0, .int .i64 0]) (t := 23) ?hr ?_; (case hd => rfl); (case hg => rfl); (case hr => first | (go_simp; done) | (go_simp; rfl)); intro gb120 hg w3 hbox hb; have n0_ := Aside0.mk (blk_below (g := gb119) (o := .cells #[.int .i64 a0_0, .int .i64 a0_1, .int .i64 a0_2, .int .i64 a0_3] 26 (0, 0)) (by (with_reducible repeat (first | refine blk_drewN ?_ _ | refine blk_drew ?_ | refine blk_alloc ?_ _)); exact BK119.out) hb); have n1_ := Aside0.mk (below_step (by repeat (first | (with_reducible first | exact HB.out | apply below_alloc | apply pw_below_drewN | apply below_drew1 | refine below_set ?_ GE119.out) | exact HB.out)) hb); have n2_ := Aside0.mk (hbox); have n3_ := Aside0.mk ((by rw [hg]; exact (below_size (by repeat (first | (with_reducible first | exact HB.out | apply below_alloc | apply pw_below_drewN | apply below_drew1 | refine below_set ?_ GE119.out) | exact HB.out))) : w.heap.size ≤ gb120)); have n4_ := Aside0.mk ((by rw [hg]; exact (below_size (by repeat (first | (with_reducible first | exact HB.out | apply below_alloc | apply pw_below_drewN | apply below_drew1 | refine below_set ?_ GE119.out) | exact HB.out))) : w.heap.size ≤ gb120)); have n5_ := Aside0.mk ((by rw [hg]; exact Nat.ne_of_lt (blk_lt (g := gb119) (o := .cells #[.int .i64 a0_0, .int .i64 a0_1, .int .i64 a0_2, .int .i64 a0_3] 26 (0, 0)) (by (with_reducible repeat (first | refine blk_drewN ?_ _ | refine blk_drew ?_ | refine blk_alloc ?_ _)); exact BK119.out)) : gb119 ≠ gb120)); have n6_ := Aside0.mk ((by rw [hg]; exact Nat.ne_of_gt (blk_lt (g := gb119) (o := .cells #[.int .i64 a0_0, .int .i64 a0_1, .int .i64 a0_2, .int .i64 a0_3] 26 (0, 0)) (by (with_reducible repeat (first | refine blk_drewN ?_ _ | refine blk_drew ?_ | refine blk_alloc ?_ _)); exact BK119.out)) : gb120 ≠ gb119)); clear BK119; clear HB; have BK119 := n0_; have HB := n1_; have BK120 := n2_; have GW120 := n3_; have GE120 := n4_; have NB119_120 := n5_; have NB120_119 := n6_; clear n0_ n1_ n2_ n3_ n4_ n5_ n6_; clear hb hbox hg; have hnb4 := NB119_120.out; have hnc4 := NB120_119.out; have hcz5_0 : w3.cell? ⟨gb119, 0, none⟩ = some (.int .i64 a0_0) := (blk_cell BK119.out 0).trans rfl; have hcz5_1 : w3.cell? ⟨gb119, 1, none⟩ = some (.int .i64 a0_1) := (blk_cell BK119.out 1).trans rfl; have hcz5_2 : w3.cell? ⟨gb119, 2, none⟩ = some (.int .i64 a0_2) := (blk_cell BK119.out 2).trans rfl; have hcz5_3 : w3.cell? ⟨gb119, 3, none⟩ = some (.int .i64 a0_3) := (blk_cell BK119.out 3).trans rfl; have hfz5_0 := blk_frozen BK119.out 0; have hfz5_1 := blk_frozen BK119.out 1; have hfz5_2 := blk_frozen BK119.out 2; have hfz5_3 := blk_frozen BK119.out 3; have hcz6_0 : w3.cell? ⟨gb120, 0, none⟩ = some (.int .i64 0) := (blk_cell BK120.out 0).trans rfl; have hcz6_1 : w3.cell? ⟨gb120, 1, none⟩ = some (.int .i64 0) := (blk_cell BK120.out 1).trans rfl; have hcz6_2 : w3.cell? ⟨gb120, 2, none⟩ = some (.int .i64 0) := (blk_cell BK120.out 2).trans rfl; have hcz6_3 : w3.cell? ⟨gb120, 3, none⟩ = some (.int .i64 0) := (blk_cell BK120.out 3).trans rfl; have hfz6_0 := blk_frozen BK120.out 0; have hfz6_1 := blk_frozen BK120.out 1; have hfz6_2 := blk_frozen BK120.out 2; have hfz6_3 := blk_frozen BK120.out 3))
  refine bodyPost_ret (results_cell_row rfl _ _ gb120 23 #[.int .i64 a0_0, .int .i64 a0_1, .int .i64 a0_2, .int .i64 a0_3] (0, 0) _ rfl (by (with_reducible repeat (first | refine blk_drewN ?_ _ | refine blk_drew ?_ | refine blk_alloc ?_ _)); refine blk_put (cs := #[.int .i64 a0_0, .int .i64 a0_1, .int .i64 a0_2, .int .i64 0]) ?_ 3 _ rfl; (with_reducible repeat (first | refine blk_drewN ?_ _ | refine blk_drew ?_ | refine blk_alloc ?_ _)); refine blk_put (cs := #[.int .i64 a0_0, .int .i64 a0_1, .int .i64 0, .int .i64 0]) ?_ 2 _ rfl; (with_reducible repeat (first | refine blk_drewN ?_ _ | refine blk_drew ?_ | refine blk_alloc ?_ _)); refine blk_put (cs := #[.int .i64 a0_0, .int .i64 0, .int .i64 0, .int .i64 0]) ?_ 1 _ rfl; (with_reducible repeat (first | refine blk_drewN ?_ _ | refine blk_drew ?_ | refine blk_alloc ?_ _)); refine blk_put (cs := #[.int .i64 0, .int .i64 0, .int .i64 0, .int .i64 0]) ?_ 0 _ rfl; (with_reducible repeat (first | refine blk_drewN ?_ _ | refine blk_drew ?_ | refine blk_alloc ?_ _)); exact BK120.out) Tryz.underlying23 rfl (by kernel_rfl)) rfl ?_
  exact ⟨by first | rfl | (simp [errW_none, errW_some] <;> rfl) | (simp [*, errW_none, errW_some] <;> rfl), by repeat (first | (with_reducible first | exact HB.out | apply below_alloc | apply pw_below_drewN | apply below_drew1 | refine below_set ?_ GE119.out | refine below_set ?_ GE120.out) | exact HB.out)⟩
end Go.Proofs.YtkldkaahpicnmaaGreat.PFragNames
namespace Go.Proofs.YtkldkaahpicnmaaGreat
set_option maxRecDepth 100000
open Go.RowKit PFragNames

theorem plainId_any (a b c d : Int) (w : World) : Calls Tryz.prog 18 #[.agg #[.int .i64 a, .int .i64 b, .int .i64 c, .int .i64 d]] w fun e w' => e = .returned (.agg #[.int .i64 a, .int .i64 b, .int .i64 c, .int .i64 d]) ∧ Below w.heap.size w w' :=
  stooklaw15_Plain.calls a b c d a b c d w rfl

/-- One comes ahead of another one, as the document has it. -/
def lessB (x y : I4) : Bool := if x.1 ≠ y.1 then decide (x.1 < y.1) else if x.2.1 ≠ y.2.1 then decide (x.2.1 < y.2.1) else if x.2.2.1 ≠ y.2.2.1 then decide (x.2.2.1 < y.2.2.1) else decide (x.2.2.2 < y.2.2.2)
theorem lessB_iff (x y : I4) : lessB x y = true ↔ LessI x y := by
  unfold lessB LessI
  split
  · rw [decide_eq_true_eq]; omega
  · split
    · rw [decide_eq_true_eq]; omega
    · split
      · rw [decide_eq_true_eq]; omega
      · rw [decide_eq_true_eq]; omega

theorem less_any (x0 x1 x2 x3 y0 y1 y2 y3 : Int) (w : World) :
    Calls Tryz.prog 15 #[.agg #[.int .i64 x0, .int .i64 x1, .int .i64 x2, .int .i64 x3], .agg #[.int .i64 y0, .int .i64 y1, .int .i64 y2, .int .i64 y3]] w fun e w' => e = .returned (.bool (lessB (x0, x1, x2, x3) (y0, y1, y2, y3))) ∧ Below w.heap.size w w' := by
  have hT := TwoAt.start w x0 x1 x2 x3 y0 y1 y2 y3
  have hB := hT.below
  unfold lessB
  simp only
  by_cases h0 : x0 = y0
  · subst h0
    rw [if_neg (by simp)]
    by_cases h1 : x1 = y1
    · subst h1
      rw [if_neg (by simp)]
      by_cases h2 : x2 = y2
      · subst h2
        rw [if_neg (by simp)]
        go_enter Tryz.func15, Tryz.ntmps15
        go_wp2
        go_ret
        exact ⟨rfl, hB⟩
      · have q2 : (x2 != y2) = true := by simp [h2]
        rw [if_pos h2]
        go_enter Tryz.func15, Tryz.ntmps15
        go_wp2
        go_ret
        exact ⟨rfl, hB⟩
    · have q1 : (x1 != y1) = true := by simp [h1]
      rw [if_pos h1]
      go_enter Tryz.func15, Tryz.ntmps15
      go_wp2
      go_ret
      exact ⟨rfl, hB⟩
  · have q0 : (x0 != y0) = true := by simp [h0]
    rw [if_pos h0]
    go_enter Tryz.func15, Tryz.ntmps15
    go_wp2
    go_ret
    exact ⟨rfl, hB⟩

theorem beyond_false {n : Int} (h0 : 0 ≤ n) (h1 : n ≤ 2147483647) : beyond n = false := by unfold beyond; simp; omega
theorem beyond_lt {n : Int} (h : n < 0) : beyond n = true := by unfold beyond; simp [h]
theorem beyond_gt {n : Int} (h : 2147483647 < n) : beyond n = true := by unfold beyond; simp; omega

theorem refRight_any (a b c d : Int) (w : World) :
    Calls Tryz.prog 14 #[.agg #[.int .i64 a, .int .i64 b, .int .i64 c, .int .i64 d]] w fun e w' => e = .returned (.bool (okId a b c d)) ∧ Below w.heap.size w w' := by
  have hB : Below w.heap.size w (w.alloc (.cells #[.int .i64 a, .int .i64 b, .int .i64 c, .int .i64 d] 23)) := (Below.refl _ w).alloc (Nat.le_refl _) _
  have hcases : (a < 0 ∧ okId a b c d = false) ∨ (0 ≤ a ∧ ¬ a ≤ 2147483647 ∧ okId a b c d = false) ∨ (0 ≤ a ∧ a ≤ 2147483647 ∧ ((b < 0 ∧ okId a b c d = false) ∨ (0 ≤ b ∧ ¬ b ≤ 2147483647 ∧ okId a b c d = false) ∨ (0 ≤ b ∧ b ≤ 2147483647 ∧
      ((c < 0 ∧ okId a b c d = false) ∨ (0 ≤ c ∧ ¬ c ≤ 2147483647 ∧ okId a b c d = false) ∨ (0 ≤ c ∧ c ≤ 2147483647 ∧ ((d < 0 ∧ okId a b c d = false) ∨ (0 ≤ d ∧ ¬ d ≤ 2147483647 ∧ okId a b c d = false) ∨ (0 ≤ d ∧ d ≤ 2147483647 ∧ okId a b c d = true))))))) := by
    unfold okId
    by_cases a0 : a < 0
    · exact .inl ⟨a0, by rw [beyond_lt a0]; rfl⟩
    refine .inr ?_
    by_cases a1 : 2147483647 < a
    · exact .inl ⟨by omega, by omega, by rw [beyond_gt a1]; rfl⟩
    refine .inr ⟨by omega, by omega, ?_⟩
    rw [beyond_false (by omega : 0 ≤ a) (by omega)]
    by_cases b0 : b < 0
    · exact .inl ⟨b0, by rw [beyond_lt b0]; rfl⟩
    refine .inr ?_
    by_cases b1 : 2147483647 < b
    · exact .inl ⟨by omega, by omega, by rw [beyond_gt b1]; rfl⟩
    refine .inr ⟨by omega, by omega, ?_⟩
    rw [beyond_false (by omega : 0 ≤ b) (by omega)]
    by_cases c0 : c < 0
    · exact .inl ⟨c0, by rw [beyond_lt c0]; rfl⟩
    refine .inr ?_
    by_cases c1 : 2147483647 < c
    · exact .inl ⟨by omega, by omega, by rw [beyond_gt c1]; rfl⟩
    refine .inr ⟨by omega, by omega, ?_⟩
    rw [beyond_false (by omega : 0 ≤ c) (by omega)]
    by_cases d0 : d < 0
    · exact .inl ⟨d0, by rw [beyond_lt d0]; rfl⟩
    refine .inr ?_
    by_cases d1 : 2147483647 < d
    · exact .inl ⟨by omega, by omega, by rw [beyond_gt d1]; rfl⟩
    refine .inr ⟨by omega, by omega, ?_⟩
    rw [beyond_false (by omega : 0 ≤ d) (by omega)]
    rfl
  obtain ⟨W1, hW1⟩ : ∃ W1, W1 = w.alloc (.cells #[.int .i64 a, .int .i64 b, .int .i64 c, .int .i64 d] 23) := ⟨_, rfl⟩
  have y1 : W1.heap[w.heap.size]? = some (.cells #[.int .i64 a, .int .i64 b, .int .i64 c, .int .i64 d] 23 (0, 0)) := by rw [hW1]; exact heap_alloc_new w _
  obtain ⟨k0, k1, k2, k3⟩ := four_cells y1
  rw [← hW1] at hB
  clear y1
  rcases hcases with ⟨q0, hok⟩ | ⟨p0, q0, hok⟩ | ⟨p0, r0, ⟨q1, hok⟩ | ⟨p1, q1, hok⟩ | ⟨p1, r1, ⟨q2, hok⟩ | ⟨p2, q2, hok⟩ | ⟨p2, r2, ⟨q3, hok⟩ | ⟨p3, q3, hok⟩ | ⟨p3, r3, hok⟩⟩⟩⟩
  all_goals
    rw [hok]
    clear hok
    go_enter Tryz.func14, Tryz.ntmps14
    go_wp2_with (first | (rw [← hW1]; clear hW1))
    go_ret
    exact ⟨rfl, hB⟩
end Go.Proofs.YtkldkaahpicnmaaGreat
/- The document's names: a number in decimal; a name. -/
namespace Go.Proofs.YtkldkaahpicnmaaGreat
set_option maxRecDepth 100000
open Go.RowKit PFragNames
open Go.Proofs.YtkldkaahpicnmaaGreatW.PrintWords

theorem refDec_small (n : Nat) (hn : n < 10) (w : World) : Calls Tryz.prog 57 #[.int .i64 (n : Int)] w fun e w' => e = .returned (.string (decB n)) ∧ Below w.heap.size w w' := by
  have hcv : ∀ W : World, W.heap[w.heap.size]? = some (.cells #[.int .u8 (48 + (n : Int))] 5 (0, 0)) → (convert 66 9 (.slice (some ⟨w.heap.size, 0, none⟩) 1 1)).run Tryz.prog W = .ok (.string (decB n)) W := fun W hW => by
    have := run_convert_bytes_back (P := Tryz.prog) W 66 9 5 ⟨w.heap.size, 0, none⟩ 1 (decL n) Tryz.underlying66 Tryz.underlying5 Tryz.underlying9 (fun j hj => by
      have hl := decL_small hn
      have hj1 : j = 0 := by rw [hl] at hj; simpa using hj
      subst hj1
      rw [Addr.add_lit, Nat.zero_add]
      simp only [World.cell?, hW, Option.isSome_none, Bool.false_eq_true, if_false]
      have e : (decL n)[0]'hj = UInt8.ofNat (48 + n) := by
        have : (decL n)[0]? = some (UInt8.ofNat (48 + n)) := by rw [hl]; rfl
        exact (List.getElem?_eq_some_iff.1 this).2
      rw [e, dig_nat hn]
      rfl)
    have hl1 : (decL n).length = 1 := by rw [decL_small hn]; rfl
    rw [hl1] at this
    rw [this]
    have : (⟨(decL n).toArray⟩ : ByteArray) = decB n := by apply ByteArray.ext; apply Array.toList_inj.1; rfl
    rw [this]
  obtain ⟨W1, hW1⟩ : ∃ W1, W1 = w.alloc (.cells #[.int .u8 (48 + (n : Int))] 5) := ⟨_, rfl⟩
  have hcv1 := hcv W1 (by rw [hW1]; exact heap_alloc_new w _)
  have hbel : Below w.heap.size w W1 := by rw [hW1]; exact (Below.refl _ w).alloc (Nat.le_refl _) _
  have h10 : (n : Int) < 10 := by omega
  have h0 : ¬ ((n : Int) < 0) := by omega
  have hw : IntKind.u8.wrap (48 + (n : Int)) = 48 + (n : Int) := by simp [IntKind.wrap, IntKind.bits, IntKind.signed]; omega
  clear hcv
  go_enter Tryz.func57, Tryz.ntmps57
  go_wp2_with (first | (rw [← hW1]; clear hW1))
  go_ret
  exact ⟨rfl, hbel⟩

theorem refDec_any (n : Nat) : n ≤ 2147483647 → ∀ w : World, Calls Tryz.prog 57 #[.int .i64 (n : Int)] w fun e w' => e = .returned (.string (decB n)) ∧ Below w.heap.size w w' := by
  induction n using Nat.strongRecOn with
  | _ n ih =>
    intro hn w
    by_cases h : n < 10
    · exact refDec_small n h w
    have h1 := Lib.hid (ih (n / 10) (by omega) (by omega))
    have h2 := Lib.hid (refDec_small (n % 10) (by omega))
    have e1 : wrap64 (Int.tdiv (n : Int) 10) = ((n / 10 : Nat) : Int) := by rw [Int.tdiv_eq_ediv_of_nonneg (by omega)]; unfold wrap64; omega
    have e2 : Int.tmod (n : Int) 10 = ((n % 10 : Nat) : Int) := by rw [Int.tmod_eq_emod_of_nonneg (by omega)]; omega
    have hd : decB n = decB (n / 10) ++ decB (n % 10) := by
      conv => lhs; unfold decB
      conv => rhs; rhs; unfold decB
      rw [if_neg h, if_pos (by omega)]
    have q1 : ¬ ((n : Int) < 10) := by omega
    have q0 : ¬ ((n : Int) < 0) := by omega
    rw [hd]
    obtain ⟨u, hu⟩ : ∃ u, u = decB (n / 10) := ⟨_, rfl⟩
    obtain ⟨v, hv⟩ : ∃ v, v = decB (n % 10) := ⟨_, rfl⟩
    have hus : u.size ≤ 10 := by rw [hu]; exact decB_size 9 _ (by omega)
    have hvs : v.size ≤ 10 := by rw [hv]; exact decB_size 9 _ (by omega)
    rw [← hu] at h1 ⊢
    rw [← hv] at h2 ⊢
    clear hu hv hd ih
    go_enter Tryz.func57, Tryz.ntmps57
    go_wp2_with fail
    refine (h1.out _).mono ?_
    rintro e w1 ⟨rfl, hb1⟩
    go_wp2_with fail
    refine (h2.out _).mono ?_
    rintro e w2 ⟨rfl, hb2⟩
    go_wp2_with fail
    go_ret
    exact ⟨rfl, hb1.trans (hb2.mono hb1.size)⟩
end Go.Proofs.YtkldkaahpicnmaaGreat
/- The document's names: a name, walked. -/
namespace Go.Proofs.YtkldkaahpicnmaaGreat
set_option maxRecDepth 100000
open Go.RowKit PFragNames
open Go.Proofs.YtkldkaahpicnmaaGreatW.PrintWords

/-- An id lies in memory as it came. -/
structure OneAt (w : World) (x0 x1 x2 x3 : Int) (W : World) : Prop where
  one : W.heap[w.heap.size]? = some (.cells #[.int .i64 x0, .int .i64 x1, .int .i64 x2, .int .i64 x3] 23 (0, 0))
  below : Below w.heap.size w W
theorem OneAt.start (w : World) (x0 x1 x2 x3 : Int) : OneAt w x0 x1 x2 x3 (w.alloc (.cells #[.int .i64 x0, .int .i64 x1, .int .i64 x2, .int .i64 x3] 23)) := ⟨heap_alloc_new w _, (Below.refl _ _).alloc (Nat.le_refl _) _⟩
theorem OneAt.keep {w W W' : World} {x0 x1 x2 x3 : Int} (h : OneAt w x0 x1 x2 x3 W) (hb : Below W.heap.size W W') : OneAt w x0 x1 x2 x3 W' :=
  ⟨(hb.block _ (Array.getElem?_eq_some_iff.1 h.one).1).trans h.one, h.below.trans (hb.mono h.below.size)⟩

theorem name_cat (a b c d : Nat) : ((((((⟨#[116]⟩ ++ decB a) ++ ⟨#[97]⟩) ++ decB b) ++ ⟨#[112]⟩) ++ decB c) ++ ⟨#[102]⟩) ++ decB d = nameUpto [(a : Int), b, c, d] 4 := by
  apply ByteArray.ext
  apply Array.toList_inj.1
  rw [name_list]
  simp only [ByteArray.data_append, Array.toList_append, Int.toNat_natCast]
  simp [decL]

set_option maxHeartbeats 8000000 in
theorem refName_any (a b c d : Nat) (ha : a ≤ 2147483647) (hb : b ≤ 2147483647) (hc : c ≤ 2147483647) (hd : d ≤ 2147483647) (w : World) :
    Calls Tryz.prog 35 #[.agg #[.int .i64 (a : Int), .int .i64 (b : Int), .int .i64 (c : Int), .int .i64 (d : Int)]] w fun e w' => e = .returned (.string (nameUpto [(a : Int), b, c, d] 4)) ∧ Below w.heap.size w w' := by
  rw [← name_cat]
  have hT := OneAt.start w a b c d
  have HD : Hid (∀ (n : Nat), n ≤ 2147483647 → ∀ W, OneAt w a b c d W → Calls Tryz.prog 57 #[.int .i64 (n : Int)] W fun e w' => e = .returned (.string (decB n)) ∧ OneAt w a b c d w') := Lib.hid fun n hn W h => (refDec_any n hn W).mono fun e w' ⟨he, hb⟩ => ⟨he, h.keep hb⟩
  have hsa : (decB a).size ≤ 10 := decB_size 9 _ (by omega)
  have hsb : (decB b).size ≤ 10 := decB_size 9 _ (by omega)
  have hsc : (decB c).size ≤ 10 := decB_size 9 _ (by omega)
  have hsd : (decB d).size ≤ 10 := decB_size 9 _ (by omega)
  obtain ⟨D, hD⟩ : ∃ D : Nat → ByteArray, D = decB := ⟨_, rfl⟩
  rw [← hD] at HD hsa hsb hsc hsd ⊢
  clear hD
  have g1 : ¬ (9223372036854775807 < 1 + (D a).size) := by omega
  have g2 : ¬ (9223372036854775807 < 1 + (D a).size + 1) := by omega
  have g3 : ¬ (9223372036854775807 < 1 + (D a).size + 1 + (D b).size) := by omega
  have g4 : ¬ (9223372036854775807 < 1 + (D a).size + 1 + (D b).size + 1) := by omega
  have g5 : ¬ (9223372036854775807 < 1 + (D a).size + 1 + (D b).size + 1 + (D c).size) := by omega
  have g6 : ¬ (9223372036854775807 < 1 + (D a).size + 1 + (D b).size + 1 + (D c).size + 1) := by omega
  have g7 : ¬ (9223372036854775807 < 1 + (D a).size + 1 + (D b).size + 1 + (D c).size + 1 + (D d).size) := by omega
  obtain ⟨W1, hW1⟩ : ∃ W1, W1 = w.alloc (.cells #[.int .i64 (a : Int), .int .i64 (b : Int), .int .i64 (c : Int), .int .i64 (d : Int)] 23) := ⟨_, rfl⟩
  rw [← hW1] at hT
  have hTd : OneAt w a b c d W1.drew := hT.keep ⟨rfl, rfl, rfl, Nat.le_refl _, fun _ _ => rfl⟩
  go_enter Tryz.func35, Tryz.ntmps35
  go_wp2_with (first | (rw [← hW1]; clear hW1))
  go_region_held3 (fun W' => (W'.cell? ⟨w.heap.size, 0, none⟩ = some (.int .i64 a) ∧ W'.cell? ⟨w.heap.size, 1, none⟩ = some (.int .i64 b) ∧ W'.cell? ⟨w.heap.size, 2, none⟩ = some (.int .i64 c) ∧ W'.cell? ⟨w.heap.size, 3, none⟩ = some (.int .i64 d)) ∧ OneAt w a b c d W')
    (exact ⟨four_cells (OneAt.one ‹_›), ‹_›⟩)
    (first
      | (go_at_call 57; refine (HD.out _ ?_ _ ?_).mono ?_; (assumption); (assumption); rintro e w9 ⟨rfl, hp9⟩))
  all_goals
    go_wp2_with fail
    go_ret
    exact ⟨rfl, hp9.below⟩
end Go.Proofs.YtkldkaahpicnmaaGreat
/- The document's numbers in a name. -/
namespace Go.Proofs.YtkldkaahpicnmaaGreat
set_option maxRecDepth 100000
open Go.RowKit PFragNames
open Go.Proofs.YtkldkaahpicnmaaGreatW.PrintWords

def isDig (c : UInt8) : Bool := decide (48 ≤ c.toNat) && decide (c.toNat ≤ 57)
/-- The digits at a text's beginning. -/
def digs (l : List UInt8) : List UInt8 := l.takeWhile isDig
/-- What digits come to, as the document reads them. -/
def valC (acc : Nat) : List UInt8 → Nat
  | [] => acc
  | c :: r => valC (if acc < 1000000000000 then acc * 10 + (c.toNat - 48) else acc) r
theorem valC_snoc : ∀ (l : List UInt8) (c : UInt8) (acc : Nat), valC acc (l ++ [c]) = if valC acc l < 1000000000000 then valC acc l * 10 + (c.toNat - 48) else valC acc l
  | [], _, _ => rfl
  | d :: r, c, acc => by
    rw [List.cons_append]
    show valC _ (r ++ [c]) = _
    rw [valC_snoc r c]
    rfl
theorem valC_take (l : List UInt8) (k : Nat) (c : UInt8) (h : l[k]? = some c) : valC 0 (l.take (k + 1)) = if valC 0 (l.take k) < 1000000000000 then valC 0 (l.take k) * 10 + (c.toNat - 48) else valC 0 (l.take k) := by
  rw [List.take_add_one, h]; exact valC_snoc _ _ _

theorem digs_mem : ∀ {l : List UInt8} {c : UInt8}, c ∈ digs l → isDig c = true
  | [], c, h => by simp [digs] at h
  | d :: r, c, h => by
    unfold digs at h
    rw [List.takeWhile_cons] at h
    split at h
    · rename_i hd
      rcases List.mem_cons.1 h with rfl | h
      · exact hd
      · exact digs_mem (l := r) h
    · simp at h
theorem digs_at {l : List UInt8} {k : Nat} (h : k < (digs l).length) : ∃ c, l[k]? = some c ∧ (digs l)[k]? = some c ∧ 48 ≤ c.toNat ∧ c.toNat ≤ 57 := by
  have h1 : (digs l)[k]? = some (digs l)[k] := List.getElem?_eq_getElem h
  have h2 : (digs l)[k] ∈ digs l := List.getElem_mem h
  have h3 := digs_mem h2
  simp only [isDig, Bool.and_eq_true, decide_eq_true_eq] at h3
  have hp : digs l <+: l := List.takeWhile_prefix _
  obtain ⟨t, ht⟩ := hp
  refine ⟨_, ?_, h1, h3⟩
  have e : l[k]? = (digs l ++ t)[k]? := by rw [ht]
  exact e.trans ((List.getElem?_append_left h).trans h1)
theorem digs_end : ∀ (l : List UInt8) (c : UInt8), l[(digs l).length]? = some c → ¬ (48 ≤ c.toNat ∧ c.toNat ≤ 57)
  | [], c, h => by simp at h
  | d :: r, c, h => by
    unfold digs at h
    rw [List.takeWhile_cons] at h
    by_cases hd : isDig d = true
    · rw [if_pos hd, List.length_cons, List.getElem?_cons_succ] at h
      exact digs_end r c h
    · rw [if_neg hd] at h
      injection h with h
      subst h
      simpa [isDig] using hd

theorem digs_ex (n : Nat) (rest : List UInt8) (hr : ∀ c, rest[0]? = some c → ¬ (48 ≤ c.toNat ∧ c.toNat ≤ 57)) : digs (decL n ++ rest) = decL n := by
  unfold digs
  rw [List.takeWhile_append_of_pos (fun c hc => by have := decL_digits n c hc; simp [isDig, this])]
  have : rest.takeWhile isDig = [] := by
    cases rest with
    | nil => rfl
    | cons c r =>
      rw [List.takeWhile_cons, if_neg]
      have := hr c rfl
      simpa [isDig] using this
  rw [this, List.append_nil]

theorem valC_small : ∀ (l : List UInt8), valL l < 1000000000000 → (∀ k, k ≤ l.length → valL (l.take k) < 1000000000000) → ∀ k, k ≤ l.length → valC 0 (l.take k) = valL (l.take k)
  | l, h, hk, 0, _ => rfl
  | l, h, hk, k + 1, hle => by
    have ih := valC_small l h hk k (by omega)
    have hc := List.getElem?_eq_getElem (show k < l.length by omega)
    rw [valC_take l k _ hc, valL_take l k _ hc, ih, if_pos (hk k (by omega))]
    omega
theorem valC_dec (n : Nat) (hn : n ≤ 2147483647) : valC 0 (decL n) = n := by
  have h1 := decL_val n
  have h2 := valC_small (decL n) (by omega) (fun k _ => by
    have := valL_mono ((decL n).take k) ((decL n).drop k)
    rw [List.take_append_drop, h1] at this
    omega) (decL n).length (Nat.le_refl _)
  rw [List.take_length, h1] at h2
  exact h2
theorem valC_lt : ∀ (l : List UInt8) (acc : Nat), acc < 10000000001000 → (∀ c ∈ l, c.toNat ≤ 57) → valC acc l < 10000000001000
  | [], _, h, _ => h
  | c :: r, acc, h, hc => by
    refine valC_lt r _ ?_ (fun d hd => hc d (by simp [hd]))
    have := hc c (by simp)
    split <;> omega

set_option maxHeartbeats 2000000 in
theorem refNum_any (s : ByteArray) (i0 : Nat) (hs : s.size ≤ 140737488355328) (hi : i0 ≤ 1000000000000000) (w : World) :
    Calls Tryz.prog 34 #[.string s, .int .i64 (i0 : Int)] w fun e w' => e = .returned (.tuple #[.int .i64 ((valC 0 (digs (s.data.toList.drop i0)) : Nat) : Int), .int .i64 ((i0 + (digs (s.data.toList.drop i0)).length : Nat) : Int)]) ∧ Below w.heap.size w w' := by
  obtain ⟨D, hD⟩ : ∃ D, D = digs (s.data.toList.drop i0) := ⟨_, rfl⟩
  have hls : s.data.toList.length = s.size := by simp
  have hat : ∀ i k, i = i0 + k → k < D.length → ∃ h2 : i < s.size, D[k]? = some s[i] ∧ (48 : Int) ≤ (s[i].toNat : Int) ∧ (s[i].toNat : Int) ≤ 57 := by
    intro i k hik h
    rw [hD] at h
    obtain ⟨c, e1, e2, e3, e4⟩ := digs_at h
    rw [List.getElem?_drop, ← hik] at e1
    obtain ⟨h3, e5⟩ := List.getElem?_eq_some_iff.1 e1
    have h2 : i < s.size := by omega
    have e6 : s[i] = c := by rw [← e5]; rfl
    exact ⟨h2, by rw [hD, e6]; exact e2, by rw [e6]; omega, by rw [e6]; omega⟩
  have hend : ∀ i, i = i0 + D.length → (h : i < s.size) → ¬ ((48 : Int) ≤ (s[i].toNat : Int)) ∨ ((48 : Int) ≤ (s[i].toNat : Int) ∧ ¬ (s[i].toNat : Int) ≤ 57) := by
    intro i hik h
    have e1 : (s.data.toList.drop i0)[(digs (s.data.toList.drop i0)).length]? = some s[i] := by
      rw [List.getElem?_drop, ← hD, ← hik, List.getElem?_eq_getElem (by omega)]
      rfl
    have := digs_end _ _ e1
    omega
  have hDl : D.length ≤ s.size := by
    have h1 : (digs (s.data.toList.drop i0)).length ≤ (s.data.toList.drop i0).length := (List.takeWhile_prefix isDig).length_le
    have h2 := List.length_drop (l := s.data.toList) (i := i0)
    rw [hD]
    omega
  have hlt : ∀ k, valC 0 (D.take k) < 10000000001000 := fun k => valC_lt _ 0 (by omega) (fun c hc => by
    have hc2 := List.mem_of_mem_take hc
    rw [hD] at hc2
    have := digs_mem hc2
    simp only [isDig, Bool.and_eq_true, decide_eq_true_eq] at this
    exact this.2)
  rw [← hD]
  have HAT := Lib.hid hat
  have HEND := Lib.hid hend
  have HLT := Lib.hid hlt
  clear hat hend hlt hD hls
  go_enter Tryz.func34, Tryz.ntmps34
  go_wp2
  go_loopw [1, 6] (fun s1 s6 wr => ∃ (k v : Nat), s1 = .int .i64 ((i0 + k : Nat) : Int) ∧ s6 = .int .i64 (v : Int) ∧ k ≤ D.length ∧ Hid (v = valC 0 (D.take k)) ∧ Below w.heap.size w wr) (fun s1 _ _ => i0 + D.length - (intOf s1).toNat)
  case atStart => exact ⟨0, 0, rfl, rfl, by omega, Lib.hid rfl, Below.refl _ _⟩
  case round =>
    obtain ⟨k, v, rfl, rfl, hk, HV, hb⟩ := hrel
    obtain ⟨i, hik⟩ : ∃ i, i = i0 + k := ⟨_, rfl⟩
    rw [← hik]
    have hv := HLT.out k
    rw [← HV.out] at hv
    by_cases hlt : k < D.length
    · obtain ⟨h2, e1, e2, e3⟩ := HAT.out i k hik hlt
      have HE := Lib.hid e1
      have hiz : (i : Int) < (s.size : Int) := by omega
      have HIK := Lib.hid hik
      clear e1 hik
      by_cases hcap : v < 1000000000000
      · have hcz : (v : Int) < 1000000000000 := by omega
        go_wp2
        go_roundw
        case rel =>
          refine ⟨k + 1, v * 10 + (s[i].toNat - 48), ?_, ?_, hlt, Lib.hid ?_, hb⟩
          · rw [HIK.out]; go_num
          · congr 1; omega
          · rw [valC_take D k _ HE.out, ← HV.out, if_pos hcap]
        case measure => have := HIK.out; simp [intOf]; omega
      · have hcz : ¬ (v : Int) < 1000000000000 := by omega
        go_wp2
        go_roundw
        case rel =>
          refine ⟨k + 1, v, ?_, rfl, hlt, Lib.hid ?_, hb⟩
          · rw [HIK.out]; go_num
          · rw [valC_take D k _ HE.out, ← HV.out, if_neg hcap]
        case measure => have := HIK.out; simp [intOf]; omega
    · obtain rfl : k = D.length := by omega
      have HVF : Hid (v = valC 0 D) := Lib.hid (by have := HV.out; rwa [List.take_length] at this)
      have HIK := Lib.hid hik
      by_cases hiz : i < s.size
      · have hiz2 : (i : Int) < (s.size : Int) := by omega
        have hq := HEND.out i hik hiz
        clear hik
        rcases hq with q | ⟨q1, q2⟩
        · go_wp2
          go_ret2
          first | rw [← HVF.out, ← HIK.out] | rw [← HVF.out, ← (show ((i : Nat) : Int) = (i0 : Int) + (D.length : Int) by have := HIK.out; omega)]
          exact ⟨rfl, hb⟩
        · go_wp2
          go_ret2
          first | rw [← HVF.out, ← HIK.out] | rw [← HVF.out, ← (show ((i : Nat) : Int) = (i0 : Int) + (D.length : Int) by have := HIK.out; omega)]
          exact ⟨rfl, hb⟩
      · have hiz2 : ¬ (i : Int) < (s.size : Int) := by omega
        clear hik
        go_wp2
        go_ret2
        first | rw [← HVF.out, ← HIK.out] | rw [← HVF.out, ← (show ((i : Nat) : Int) = (i0 : Int) + (D.length : Int) by have := HIK.out; omega)]
        exact ⟨rfl, hb⟩
end Go.Proofs.YtkldkaahpicnmaaGreat
/- The document's names, read. -/
namespace Go.Proofs.YtkldkaahpicnmaaGreat
set_option maxRecDepth 100000
open Go.RowKit PFragNames
open Go.Proofs.YtkldkaahpicnmaaGreatW.PrintWords

/-- The number at a place, and the place behind it. -/
def numAt (s : ByteArray) (i : Nat) : Nat := valC 0 (digs (s.data.toList.drop i))
def behindAt (s : ByteArray) (i : Nat) : Nat := i + (digs (s.data.toList.drop i)).length
theorem behindAt_le (s : ByteArray) (i : Nat) : behindAt s i ≤ i + s.size := by
  have h1 : (digs (s.data.toList.drop i)).length ≤ (s.data.toList.drop i).length := (List.takeWhile_prefix isDig).length_le
  have h2 := List.length_drop (l := s.data.toList) (i := i)
  have h3 : s.data.toList.length = s.size := by simp
  unfold behindAt
  omega
theorem num_at (s : ByteArray) (i A : Nat) (rest : List UInt8) (hA : A ≤ 2147483647) (h : s.data.toList.drop i = decL A ++ rest) (hr : ∀ c, rest[0]? = some c → ¬ (48 ≤ c.toNat ∧ c.toNat ≤ 57)) :
    numAt s i = A ∧ ∀ c r, rest = c :: r → s.data.toList.drop (behindAt s i + 1) = r := by
  have hd : digs (s.data.toList.drop i) = decL A := by rw [h]; exact digs_ex A rest hr
  unfold numAt behindAt
  rw [hd]
  refine ⟨valC_dec A hA, fun c r hc => ?_⟩
  rw [show i + (decL A).length + 1 = i + ((decL A).length + 1) by omega, ← List.drop_drop, h, hc, List.drop_append]
  simp

theorem refNamed_id (s : ByteArray) (i : I4) (hok : okI i = true) (hn : nameI i = s) :
    ((numAt s 1 : Nat) : Int) = i.1 ∧ ((numAt s (behindAt s 1 + 1) : Nat) : Int) = i.2.1 ∧ ((numAt s (behindAt s (behindAt s 1 + 1) + 1) : Nat) : Int) = i.2.2.1 ∧ ((numAt s (behindAt s (behindAt s (behindAt s 1 + 1) + 1) + 1) : Nat) : Int) = i.2.2.2 := by
  obtain ⟨a, b, c, d, rfl⟩ := okI_nats hok
  have hle := okI_le hok
  simp only [natsI, List.mem_cons, List.not_mem_nil, or_false] at hle
  have ha := hle (a : Int) (by simp)
  have hb := hle (b : Int) (by simp)
  have hc := hle (c : Int) (by simp)
  have hd := hle (d : Int) (by simp)
  have hl : s.data.toList = 116 :: (decL a ++ 97 :: (decL b ++ 112 :: (decL c ++ 102 :: decL d))) := by
    rw [← hn]
    exact name_list (a : Int) b c d
  obtain ⟨e1, r1⟩ := num_at s 1 a (97 :: (decL b ++ 112 :: (decL c ++ 102 :: decL d))) (by omega) (by rw [hl]; rfl) (fun c hc => by injection hc with hc; subst hc; decide)
  have r1 := r1 _ _ rfl
  obtain ⟨e2, r2⟩ := num_at s (behindAt s 1 + 1) b (112 :: (decL c ++ 102 :: decL d)) (by omega) r1 (fun c hc => by injection hc with hc; subst hc; decide)
  have r2 := r2 _ _ rfl
  obtain ⟨e3, r3⟩ := num_at s (behindAt s (behindAt s 1 + 1) + 1) c (102 :: decL d) (by omega) r2 (fun c hc => by injection hc with hc; subst hc; decide)
  have r3 := r3 _ _ rfl
  obtain ⟨e4, _⟩ := num_at s (behindAt s (behindAt s (behindAt s 1 + 1) + 1) + 1) d [] (by omega) (by rw [r3, List.append_nil]) (fun c hc => by simp at hc)
  unfold natsI
  exact ⟨by rw [e1], by rw [e2], by rw [e3], by rw [e4]⟩

/-- An id and a bool come back; true for a name that is an id's. -/
def RefNamed (s : ByteArray) (w : World) (e : Ending) (w' : World) : Prop :=
  (∃ (x0 x1 x2 x3 : Int) (q : Bool), e = .returned (.tuple #[.agg #[.int .i64 x0, .int .i64 x1, .int .i64 x2, .int .i64 x3], .bool q]) ∧ ((∃ i, okI i = true ∧ nameI i = s) → q = true)) ∧ Below w.heap.size w w'

set_option maxHeartbeats 4000000 in
theorem refNamed_any (s : ByteArray) (hs : s.size ≤ 140737488355328) (w : World) : Calls Tryz.prog 16 #[.string s] w (RefNamed s w) := by
  have x0 := heap_alloc_new w (.cells #[.int .i64 0, .int .i64 0, .int .i64 0, .int .i64 0] 23)
  have hB0 : Below w.heap.size w (w.alloc (.cells #[.int .i64 0, .int .i64 0, .int .i64 0, .int .i64 0] 23)) := (Below.refl _ w).alloc (Nat.le_refl _) _
  by_cases hemp : s.size = 0
  · obtain rfl := isEmpty_ hemp
    obtain ⟨⟨c0, c1, c2, c3⟩, f0, f1, f2, f3⟩ := And.intro (four_cells x0) (four_free x0)
    go_enter Tryz.func16, Tryz.ntmps16
    go_wp2_with fail
    exact bodyPost_ret (v := .tuple #[.agg #[.int .i64 0, .int .i64 0, .int .i64 0, .int .i64 0], .bool false]) (by simp [results, Tryz.results16, go_sem, c0, c1, c2, c3]) rfl
      ⟨⟨_, _, _, _, _, rfl, fun ⟨i, hi, hn⟩ => by have := (nameI_size hi).1; rw [hn] at this; exact absurd this (by decide)⟩, hB0⟩
  have hne : s.toList.isEmpty = false := notEmpty (by omega)
  have HID := Lib.hid (fun i (hok : okI i = true) (hn : nameI i = s) => refNamed_id s i hok hn)
  have b1 := behindAt_le s 1
  obtain ⟨k1, hk1⟩ : ∃ k1, k1 = behindAt s 1 := ⟨_, rfl⟩
  have b2 := behindAt_le s (k1 + 1)
  obtain ⟨k2, hk2⟩ : ∃ k2, k2 = behindAt s (k1 + 1) := ⟨_, rfl⟩
  have b3 := behindAt_le s (k2 + 1)
  obtain ⟨k3, hk3⟩ : ∃ k3, k3 = behindAt s (k2 + 1) := ⟨_, rfl⟩
  rw [← hk1] at b1
  rw [← hk2] at b2
  rw [← hk3] at b3
  obtain ⟨A, hA⟩ : ∃ A, A = numAt s 1 := ⟨_, rfl⟩
  obtain ⟨B, hB⟩ : ∃ B, B = numAt s (k1 + 1) := ⟨_, rfl⟩
  obtain ⟨C, hC⟩ : ∃ C, C = numAt s (k2 + 1) := ⟨_, rfl⟩
  obtain ⟨D, hD⟩ : ∃ D, D = numAt s (k3 + 1) := ⟨_, rfl⟩
  rw [← hk1, ← hk2, ← hk3, ← hA, ← hB, ← hC, ← hD] at HID
  have n1 := Lib.hid (fun W => refNum_any s 1 (by omega) (by omega) W)
  have n2 := Lib.hid (fun W => refNum_any s (k1 + 1) (by omega) (by omega) W)
  have n3 := Lib.hid (fun W => refNum_any s (k2 + 1) (by omega) (by omega) W)
  have n4 := Lib.hid (fun W => refNum_any s (k3 + 1) (by omega) (by omega) W)
  change Hid (∀ W, Calls Tryz.prog 34 #[.string s, .int .i64 ((1 : Nat) : Int)] W fun e w' => e = .returned (.tuple #[.int .i64 ((numAt s 1 : Nat) : Int), .int .i64 ((behindAt s 1 : Nat) : Int)]) ∧ Below W.heap.size W w') at n1
  change Hid (∀ W, Calls Tryz.prog 34 #[.string s, .int .i64 ((k1 + 1 : Nat) : Int)] W fun e w' => e = .returned (.tuple #[.int .i64 ((numAt s (k1 + 1) : Nat) : Int), .int .i64 ((behindAt s (k1 + 1) : Nat) : Int)]) ∧ Below W.heap.size W w') at n2
  change Hid (∀ W, Calls Tryz.prog 34 #[.string s, .int .i64 ((k2 + 1 : Nat) : Int)] W fun e w' => e = .returned (.tuple #[.int .i64 ((numAt s (k2 + 1) : Nat) : Int), .int .i64 ((behindAt s (k2 + 1) : Nat) : Int)]) ∧ Below W.heap.size W w') at n3
  change Hid (∀ W, Calls Tryz.prog 34 #[.string s, .int .i64 ((k3 + 1 : Nat) : Int)] W fun e w' => e = .returned (.tuple #[.int .i64 ((numAt s (k3 + 1) : Nat) : Int), .int .i64 ((behindAt s (k3 + 1) : Nat) : Int)]) ∧ Below W.heap.size W w') at n4
  rw [← hA, ← hk1] at n1
  rw [← hB, ← hk2, show ((k1 + 1 : Nat) : Int) = (k1 : Int) + 1 by omega] at n2
  rw [← hC, ← hk3, show ((k2 + 1 : Nat) : Int) = (k2 : Int) + 1 by omega] at n3
  rw [← hD, show ((k3 + 1 : Nat) : Int) = (k3 : Int) + 1 by omega] at n4
  obtain ⟨k4, hk4⟩ : ∃ k4, k4 = behindAt s (k3 + 1) := ⟨_, rfl⟩
  rw [← hk4] at n4
  have HR := Lib.hid (fun W => refRight_any (A : Int) B C D W)
  have HNM := Lib.hid (fun (h : okId (A : Int) B C D = true) W => refName_any A B C D (by have := okId_all h 0 _ rfl; omega) (by have := okId_all h 1 _ rfl; omega) (by have := okId_all h 2 _ rfl; omega) (by have := okId_all h 3 _ rfl; omega) W)
  clear hk1 hk2 hk3 hk4 hA hB hC hD hemp
  go_enter Tryz.func16, Tryz.ntmps16
  go_wp2_with fail
  refine (n1.out _).mono ?_
  rintro e w1 ⟨rfl, hb1⟩
  have x1 := (hb1.block _ (Array.getElem?_eq_some_iff.1 x0).1).trans x0
  have hB1 := hB0.trans (hb1.mono hB0.size)
  clear x0 hB0 hb1
  go_wp2_with fail
  refine (n2.out _).mono ?_
  rintro e w2 ⟨rfl, hb2⟩
  have x2 := (hb2.block _ (Array.getElem?_eq_some_iff.1 x1).1).trans x1
  have hB2 := hB1.trans (hb2.mono hB1.size)
  clear x1 hB1 hb2
  go_wp2_with fail
  refine (n3.out _).mono ?_
  rintro e w3 ⟨rfl, hb3⟩
  have x3 := (hb3.block _ (Array.getElem?_eq_some_iff.1 x2).1).trans x2
  have hB3 := hB2.trans (hb3.mono hB2.size)
  clear x2 hB2 hb3
  go_wp2_with fail
  refine (n4.out _).mono ?_
  rintro e w4 ⟨rfl, hb4⟩
  have x4 := (hb4.block _ (Array.getElem?_eq_some_iff.1 x3).1).trans x3
  have hB4 := hB3.trans (hb4.mono hB3.size)
  clear x3 hB3 hb4 n1 n2 n3 n4
  obtain ⟨W5, hW5⟩ : ∃ W5, W5 = w4.alloc (.cells #[.int .i64 (A : Int), .int .i64 (B : Int), .int .i64 (C : Int), .int .i64 (D : Int)] 23) := ⟨_, rfl⟩
  have y5 : W5.heap[w4.heap.size]? = some (.cells #[.int .i64 (A : Int), .int .i64 (B : Int), .int .i64 (C : Int), .int .i64 (D : Int)] 23 (0, 0)) := by rw [hW5]; exact heap_alloc_new w4 _
  have hb5 : Below w4.heap.size w4 W5 := by rw [hW5]; exact (Below.refl _ _).alloc (Nat.le_refl _) _
  have x5 := (hb5.block _ (Array.getElem?_eq_some_iff.1 x4).1).trans x4
  have hB5 := hB4.trans (hb5.mono hB4.size)
  obtain ⟨j0, j1, j2, j3⟩ := four_cells y5
  clear x4 hB4 hb5
  go_wp2_with (first | (rw [← hW5]; clear hW5))
  refine (HR.out _).mono ?_
  rintro e w6 ⟨rfl, hb6⟩
  have x6 := (hb6.block _ (Array.getElem?_eq_some_iff.1 x5).1).trans x5
  have y6 := (hb6.block _ (Array.getElem?_eq_some_iff.1 y5).1).trans y5
  have hB6 := hB5.trans (hb6.mono hB5.size)
  clear j0 j1 j2 j3 x5 y5 hB5 hb6
  obtain ⟨j0, j1, j2, j3⟩ := four_cells y6
  obtain ⟨c0, c1, c2, c3⟩ := four_cells x6
  obtain ⟨f0, f1, f2, f3⟩ := four_free x6
  cases hok : okId (A : Int) B C D with
  | false =>
    have HNO : Hid (¬ ∃ i, okI i = true ∧ nameI i = s) := Lib.hid fun ⟨i, hi, hn⟩ => by
      obtain ⟨e1, e2, e3, e4⟩ := HID.out i hi hn
      unfold okI at hi
      rw [← e1, ← e2, ← e3, ← e4, hok] at hi
      cases hi
    clear hok
    go_wp2_with fail
    obtain ⟨hr9, hc9⟩ := res_four (.int .i64 0) (.int .i64 0) (.int .i64 0) (.int .i64 0) x6
    obtain ⟨s0, s1, s2, s3⟩ := four_cells hr9
    exact bodyPost_ret (v := .tuple #[.agg #[.int .i64 0, .int .i64 0, .int .i64 0, .int .i64 0], .bool false]) (by simp [results, Tryz.results16, go_sem, s0, s1, s2, s3]) rfl
      ⟨⟨_, _, _, _, _, rfl, fun h => absurd h HNO.out⟩, hB6.trans (hc9.below hB6.size (fun i hi => by omega))⟩
  | true =>
    have HN2 := Lib.hid (HNM.out hok)
    obtain ⟨nm, hnm⟩ : ∃ nm, nm = nameUpto [(A : Int), B, C, D] 4 := ⟨_, rfl⟩
    rw [← hnm] at HN2
    have HNM2 := Lib.hid hnm
    clear hnm
    go_wp2_with fail
    refine (HN2.out _).mono ?_
    rintro e w7 ⟨rfl, hb7⟩
    have x7 := (hb7.block _ (Array.getElem?_eq_some_iff.1 x6).1).trans x6
    have y7 := (hb7.block _ (Array.getElem?_eq_some_iff.1 y6).1).trans y6
    have hB7 := hB6.trans (hb7.mono hB6.size)
    clear j0 j1 j2 j3 c0 c1 c2 c3 f0 f1 f2 f3 x6 y6 hB6 hb7
    obtain ⟨j0, j1, j2, j3⟩ := four_cells y7
    obtain ⟨c0, c1, c2, c3⟩ := four_cells x7
    obtain ⟨f0, f1, f2, f3⟩ := four_free x7
    by_cases heq : nm = s
    · have hq : (nm.toList == s.toList) = true := by rw [heq]; simp
      clear heq
      go_wp2_with fail
      obtain ⟨hr9, hc9⟩ := res_four (.int .i64 (A : Int)) (.int .i64 (B : Int)) (.int .i64 (C : Int)) (.int .i64 (D : Int)) x7
      obtain ⟨s0, s1, s2, s3⟩ := four_cells hr9
      exact bodyPost_ret (v := .tuple #[.agg #[.int .i64 (A : Int), .int .i64 (B : Int), .int .i64 (C : Int), .int .i64 (D : Int)], .bool true]) (by simp [results, Tryz.results16, go_sem, s0, s1, s2, s3]) rfl
        ⟨⟨_, _, _, _, _, rfl, fun _ => rfl⟩, hB7.trans (hc9.below hB7.size (fun i hi => by omega))⟩
    · have hq : (nm.toList == s.toList) = false := by
        cases h : nm.toList == s.toList
        · rfl
        · exact absurd (str_eq nm s h) heq
      have HNO : Hid (¬ ∃ i, okI i = true ∧ nameI i = s) := Lib.hid fun ⟨i, hi, hn⟩ => by
        obtain ⟨e1, e2, e3, e4⟩ := HID.out i hi hn
        refine heq ?_
        rw [HNM2.out, e1, e2, e3, e4]
        exact hn
      clear heq
      go_wp2_with fail
      obtain ⟨hr9, hc9⟩ := res_four (.int .i64 0) (.int .i64 0) (.int .i64 0) (.int .i64 0) x7
      obtain ⟨s0, s1, s2, s3⟩ := four_cells hr9
      exact bodyPost_ret (v := .tuple #[.agg #[.int .i64 0, .int .i64 0, .int .i64 0, .int .i64 0], .bool false]) (by simp [results, Tryz.results16, go_sem, s0, s1, s2, s3]) rfl
        ⟨⟨_, _, _, _, _, rfl, fun h => absurd h HNO.out⟩, hB7.trans (hc9.below hB7.size (fun i hi => by omega))⟩
end Go.Proofs.YtkldkaahpicnmaaGreat
/- Drop: an attempt's fragments are deleted. -/
namespace Go.Proofs.YtkldkaahpicnmaaGreat
set_option maxRecDepth 100000
open Go.RowKit PFragNames

theorem IdBlk.chg {w w' : World} {g o : Nat} {L : List I4} (h : IdBlk w g o L) {S : Nat → Prop} (hc : Chg S w w') (hn : ¬ S g) : IdBlk w' g o L := by
  have hlt := h.lt
  obtain ⟨cs, t, hg⟩ := h.blk
  refine ⟨⟨cs, t, (hc.block g hlt hn).trans hg⟩, fun j i hi => ?_⟩
  obtain ⟨p1, p2, p3, p4⟩ := h.cell j i hi
  exact ⟨(hc.cell (p := ⟨g, _, none⟩) hlt hn).trans p1, (hc.cell (p := ⟨g, _, none⟩) hlt hn).trans p2, (hc.cell (p := ⟨g, _, none⟩) hlt hn).trans p3, (hc.cell (p := ⟨g, _, none⟩) hlt hn).trans p4⟩

/-- Is it of the attempt? -/
def ofAt (t a : Int) (i : I4) : Bool := i.1 == t && i.2.1 == a
def inB (ns : List ByteArray) (k : ByteArray) : Bool := ns.any fun n => decide (n = k)
theorem inB_iff {ns : List ByteArray} {k : ByteArray} : inB ns k = true ↔ k ∈ ns := by
  unfold inB
  rw [List.any_eq_true]
  constructor
  · rintro ⟨x, hx, h⟩
    rw [decide_eq_true_eq] at h
    subst h; exact hx
  · intro h
    exact ⟨k, h, by simp⟩
theorem inB_no {ns : List ByteArray} {k : ByteArray} (h : k ∉ ns) : inB ns k = false := by
  cases hb : inB ns k
  · rfl
  · exact absurd (inB_iff.1 hb) h
/-- All but some names. -/
def delAll (ns : List ByteArray) (l : List KV) : List KV := l.filter fun x => !inB ns x.1
theorem delAll_nil (l : List KV) : delAll [] l = l := by unfold delAll; rw [List.filter_eq_self]; intro x _; rfl
theorem delAll_snoc (ns : List ByteArray) (k : ByteArray) (l : List KV) : delAll (ns ++ [k]) l = delKV k (delAll ns l) := by
  unfold delAll delKV
  rw [List.filter_filter]
  apply List.filter_congr
  intro x _
  unfold inB
  rw [List.any_append]
  simp only [List.any_cons, List.any_nil, Bool.or_false, Bool.not_or]
  rw [Bool.and_comm, show decide (k = x.1) = decide (x.1 = k) from decide_eq_decide.2 ⟨Eq.symm, Eq.symm⟩]

/-- The names of the first k ids that are of the attempt. -/
def goneUpto (t a : Int) (ids : List I4) (k : Nat) : List ByteArray := ((ids.take k).filter (ofAt t a)).map nameI
theorem gone_step {t a : Int} {ids : List I4} {k : Nat} {i : I4} (hi : ids[k]? = some i) : goneUpto t a ids (k + 1) = goneUpto t a ids k ++ if ofAt t a i then [nameI i] else [] := by
  unfold goneUpto
  rw [List.take_add_one, hi, List.filter_append, List.map_append]
  congr 1
  cases h : ofAt t a i <;> simp [h]

theorem ids_names {f : ByteArray → Option I4} {l : List KV} (hf : ∀ x ∈ l, NamesOk f x.1) {i : I4} (hi : i ∈ idsOf f l) : okI i = true ∧ f (nameI i) = some i ∧ ∃ x ∈ l, x.1 = nameI i := by
  unfold idsOf at hi
  obtain ⟨x, hx, hfx⟩ := List.mem_filterMap.1 hi
  obtain ⟨h1, h2⟩ := (hf x hx).1 i hfx
  exact ⟨h1, by rw [h2]; exact hfx, x, hx, h2.symm⟩
theorem ids_nodup {f : ByteArray → Option I4} {l : List KV} (hf : ∀ x ∈ l, NamesOk f x.1) (ha : Apartn l) : (idsOf f l).Nodup := by
  unfold idsOf
  induction l with
  | nil => exact List.Pairwise.nil
  | cons y r ih =>
    obtain ⟨h1, h2⟩ := List.pairwise_cons.1 ha
    have ih := ih (fun x hx => hf x (by simp [hx])) h2
    rw [List.filterMap_cons]
    cases hy : f y.1 with
    | none => exact ih
    | some i =>
      refine List.pairwise_cons.2 ⟨fun j hj e => ?_, ih⟩
      subst e
      obtain ⟨x, hx, hfx⟩ := List.mem_filterMap.1 hj
      have e1 := ((hf y (by simp)).1 i hy).2
      have e2 := ((hf x (by simp [hx])).1 i hfx).2
      exact h1 x hx (e1.symm.trans e2)

theorem look_delAll {ns : List ByteArray} {l : List KV} {k : ByteArray} (ha : Apartn l) {x : KV} (hx : x ∈ l) (hk : x.1 = k) (hn : k ∉ ns) : look (delAll ns l) k = some x.2 := by
  rw [← hk]
  refine mem_look (List.Pairwise.filter _ ha) (List.mem_filter.2 ⟨hx, ?_⟩)
  rw [hk, inB_no hn]
  rfl

theorem gone_not {t a : Int} {f : ByteArray → Option I4} {l : List KV} (hf : ∀ x ∈ l, NamesOk f x.1) (ha : Apartn l) {k : Nat} {i : I4} (hi : (idsOf f l)[k]? = some i) : nameI i ∉ goneUpto t a (idsOf f l) k := by
  intro hm
  unfold goneUpto at hm
  obtain ⟨j, hj, hn⟩ := List.mem_map.1 hm
  have hj2 := (List.mem_filter.1 hj).1
  have hjm := List.mem_of_mem_take hj2
  have him := List.mem_of_getElem? hi
  have e : j = i := nameI_inj (ids_names hf hjm).1 (ids_names hf him).1 hn
  subst e
  obtain ⟨q, hq⟩ := List.mem_iff_getElem?.1 hj2
  have hql : q < k := by have := (List.getElem?_eq_some_iff.1 hq).1; rw [List.length_take] at this; omega
  rw [List.getElem?_take_of_lt hql] at hq
  have hnd := List.pairwise_iff_getElem.1 (ids_nodup hf ha)
  obtain ⟨h1, e1⟩ := List.getElem?_eq_some_iff.1 hq
  obtain ⟨h2, e2⟩ := List.getElem?_eq_some_iff.1 hi
  exact hnd q k h1 h2 hql (e1.trans e2.symm)

theorem ids_delAll {t a : Int} {f : ByteArray → Option I4} {l : List KV} (hf : ∀ x ∈ l, NamesOk f x.1) : idsOf f (delAll (goneUpto t a (idsOf f l) (idsOf f l).length) l) = (idsOf f l).filter fun i => !ofAt t a i := by
  have hg : ∀ x ∈ l, ∀ i, f x.1 = some i → (x.1 ∈ goneUpto t a (idsOf f l) (idsOf f l).length ↔ ofAt t a i = true) := by
    intro x hx i hfx
    obtain ⟨h1, h2⟩ := (hf x hx).1 i hfx
    have him : i ∈ idsOf f l := List.mem_filterMap.2 ⟨x, hx, hfx⟩
    unfold goneUpto
    rw [List.take_length, List.mem_map]
    constructor
    · rintro ⟨j, hj, hn⟩
      obtain ⟨hj1, hj2⟩ := List.mem_filter.1 hj
      have : j = i := nameI_inj (ids_names hf hj1).1 h1 (hn.trans h2.symm)
      rw [← this]; exact hj2
    · intro hm
      exact ⟨i, List.mem_filter.2 ⟨him, hm⟩, h2⟩
  obtain ⟨G, hG⟩ : ∃ G, G = goneUpto t a (idsOf f l) (idsOf f l).length := ⟨_, rfl⟩
  rw [← hG] at hg ⊢
  clear hG
  unfold idsOf delAll
  induction l with
  | nil => rfl
  | cons y r ih =>
    have ih := ih (fun x hx => hf x (by simp [hx])) (fun x hx => hg x (by simp [hx]))
    rw [List.filterMap_cons]
    cases hy : f y.1 with
    | none =>
      simp only
      rw [← ih, List.filter_cons]
      split
      · rw [List.filterMap_cons, hy]
      · rfl
    | some i =>
      have := hg y (by simp) i hy
      simp only
      rw [List.filter_cons, List.filter_cons, ← ih]
      by_cases hm : ofAt t a i = true
      · rw [if_neg (by rw [inB_iff.2 (this.2 hm)]; simp), if_neg (by simp [hm])]
      · rw [if_pos (by rw [inB_no (fun h => hm (this.1 h))]; rfl), if_pos (by simp at hm; simp [hm]), List.filterMap_cons, hy]

theorem ofAt_yes {t a : Int} {i : I4} (h0 : i.1 = t) (h1 : i.2.1 = a) : ofAt t a i = true := by unfold ofAt; simp [h0, h1]
theorem ofAt_no {t a : Int} {i : I4} (h : ¬ (i.1 = t ∧ i.2.1 = a)) : ofAt t a i = false := by
  unfold ofAt
  rw [Bool.and_eq_false_iff, beq_eq_false_iff_ne, beq_eq_false_iff_ne]
  by_cases h0 : i.1 = t
  · exact .inr fun h1 => h ⟨h0, h1⟩
  · exact .inl h0
end Go.Proofs.YtkldkaahpicnmaaGreat
/- Drop, walked. -/
namespace Go.Proofs.YtkldkaahpicnmaaGreat
set_option maxRecDepth 100000
open Go.RowKit PFragNames

def countUpto (t a : Int) (ids : List I4) (k : Nat) : Nat := ((ids.take k).filter (ofAt t a)).length
theorem count_step {t a : Int} {ids : List I4} {k : Nat} {i : I4} (hi : ids[k]? = some i) : countUpto t a ids (k + 1) = countUpto t a ids k + if ofAt t a i then 1 else 0 := by
  unfold countUpto
  rw [List.take_add_one, hi, List.filter_append, List.length_append]
  congr 1
  cases h : ofAt t a i <;> simp [h]
theorem count_le (t a : Int) (ids : List I4) (k : Nat) : countUpto t a ids k ≤ ids.length := by
  unfold countUpto
  refine Nat.le_trans (List.length_filter_le _ _) ?_
  rw [List.length_take]
  omega

set_option maxHeartbeats 4000000 in
theorem drop_any (f : ByteArray → Option I4) (p b size : Nat) (l : List KV) (t a : Int) (w : World) (h : DiskAt w p b size l) (hf : ∀ x ∈ l, NamesOk f x.1) (hsz : size ≤ 900000) :
    Calls Tryz.prog 19 #[.pointer (some ⟨p, 0, none⟩), .int .i64 t, .int .i64 a] w fun e w' => e = .returned (.int .i64 ((countUpto t a (idsOf f l) (idsOf f l).length : Nat) : Int)) ∧ DiskAt w' p b size (delAll (goneUpto t a (idsOf f l) (idsOf f l).length) l) ∧ Chg (fun k => k = b) w w' := by
  have HI := Lib.hid (ids_any f p b size l w h hf hsz)
  have HDA := Lib.hid h
  have HF := Lib.hid hf
  have hbl := h.own.lt
  have hpl := (Array.getElem?_eq_some_iff.1 h.at_).1
  have hln : (idsOf f l).length ≤ 1000000 := by
    have h1 : (idsOf f l).length ≤ l.length := List.length_filterMap_le _ _
    have h2 := len_tot l
    have h3 := h.fits
    omega
  obtain ⟨ids, hids⟩ : ∃ ids, ids = idsOf f l := ⟨_, rfl⟩
  have HIDS := Lib.hid hids
  rw [← hids] at HI hln ⊢
  clear h hf hids
  go_enter Tryz.func19, Tryz.ntmps19
  go_wp2_with fail
  refine HI.out.mono ?_
  rintro e w1 ⟨v, rfl, hown, hb1⟩
  have hd1 := HDA.out.under hb1 hpl hbl
  have hv : ∃ (g : Option Nat) (c : Nat), v = .slice (g.map fun g => ⟨g, 0, none⟩) ids.length c ∧ ∀ (k : Nat) (i : I4), ids[k]? = some i → ∃ g0, g = some g0 ∧ g0 ≠ b ∧ IdBlk w1 g0 0 ids := by
    rcases own_ids hown with ⟨rfl, h0⟩ | ⟨g, c, rfl, hgB, hlc, hcm, hI⟩
    · exact ⟨none, 0, by rw [h0]; rfl, fun k i hi => by rw [h0] at hi; simp at hi⟩
    · exact ⟨some g, c, rfl, fun k i hi => ⟨g, rfl, by omega, hI⟩⟩
  obtain ⟨g, c, rfl, hG⟩ := hv
  have HG := Lib.hid hG
  have hC1 : Chg (fun k => k = b) w w1 := ⟨hb1.os, hb1.tape, hb1.output, hb1.size, fun k hk _ => hb1.block k hk⟩
  clear hG hown
  go_wp2_with fail
  go_loopw [7, 13] (fun s7 s13 wr => ∃ (k : Nat), s7 = .int .i64 ((countUpto t a ids k : Nat) : Int) ∧ s13 = .int .i64 (k : Int) ∧ k ≤ ids.length ∧ DiskAt wr p b size (delAll (goneUpto t a ids k) l) ∧ Chg (fun k => k = b) w1 wr) (fun _ s13 _ => ids.length - (intOf s13).toNat)
  case atStart => exact ⟨0, rfl, rfl, by omega, by rw [show goneUpto t a ids 0 = [] from rfl, delAll_nil]; exact hd1, Chg.refl _ _⟩
  case round =>
    obtain ⟨k, rfl, rfl, hk, hd, hc⟩ := hrel
    by_cases hlt : k < ids.length
    · have hltz : (k : Int) < (ids.length : Int) := by omega
      obtain ⟨u, hu⟩ : ∃ u, ids[k]? = some u := ⟨_, List.getElem?_eq_getElem hlt⟩
      obtain ⟨g0, rfl, hgb, hI⟩ := HG.out k u hu
      obtain ⟨p1, p2, p3, p4⟩ := (hI.chg hc hgb).cell k u hu
      rw [Nat.zero_add] at p1 p2 p3 p4
      have HCS := Lib.hid (count_step (t := t) (a := a) hu)
      have HGS := Lib.hid (gone_step (t := t) (a := a) hu)
      have hcle := count_le t a ids k
      have HU := Lib.hid hu
      clear hu hI
      have huok : okI u = true := by
        have := HU.out
        rw [HIDS.out] at this
        exact (ids_names HF.out (List.mem_of_getElem? this)).1
      have hno : nameI u ∉ goneUpto t a ids k := by
        have := HU.out
        rw [HIDS.out] at this ⊢
        exact gone_not HF.out HDA.out.own.apart this
      obtain ⟨x0, x1, x2, x3⟩ := u
      simp only [Option.map_some] at *
      obtain ⟨W1, hW1⟩ : ∃ W1, W1 = wr.alloc (.cells #[.int .i64 x0, .int .i64 x1, .int .i64 x2, .int .i64 x3] 26) := ⟨_, rfl⟩
      have y1 : W1.heap[wr.heap.size]? = some (.cells #[.int .i64 x0, .int .i64 x1, .int .i64 x2, .int .i64 x3] 26 (0, 0)) := by rw [hW1]; exact heap_alloc_new wr _
      have hbW : Below wr.heap.size wr W1 := by rw [hW1]; exact (Below.refl _ _).alloc (Nat.le_refl _) _
      have hdW := hd.under hbW (Array.getElem?_eq_some_iff.1 hd.at_).1 hd.own.lt
      have hcW : Chg (fun k => k = b) w1 W1 := hc.trans ⟨hbW.os, hbW.tape, hbW.output, hbW.size, fun k hk _ => hbW.block k hk⟩ (fun _ h _ => h)
      obtain ⟨m0, m1, m2, m3⟩ := icells y1
      clear y1 hbW hd
      by_cases hm : x0 = t ∧ x1 = a
      · obtain ⟨rfl, rfl⟩ := hm
        have hof : ofAt x0 x1 (x0, x1, x2, x3) = true := ofAt_yes rfl rfl
        rw [hof] at HCS HGS
        have HN := Lib.hid (fun W => nm_any (x0, x1, x2, x3) huok W)
        unfold valI at HN
        simp only at HN
        have hns := (nameI_size huok).2
        have hlk : ∃ s, look (delAll (goneUpto x0 x1 ids k) l) (nameI (x0, x1, x2, x3)) = some s := by
          have := HU.out
          rw [HIDS.out] at this
          obtain ⟨_, _, x, hx, hxn⟩ := ids_names HF.out (List.mem_of_getElem? this)
          exact ⟨x.2, look_delAll HDA.out.own.apart hx hxn hno⟩
        obtain ⟨sv, hlk⟩ := hlk
        have HDL : Hid (∀ W, DiskAt W p b size (delAll (goneUpto x0 x1 ids k) l) → Calls Tryz.prog 38 #[.pointer (some ⟨p, 0, none⟩), .string (nameI (x0, x1, x2, x3))] W fun e w' => e = .returned (.int .i64 0) ∧ DiskAt w' p b size (delAll (goneUpto x0 x1 ids (k + 1)) l) ∧ Chg (fun k => k = b) W w') := Lib.hid fun W hW => by
          have := delete_any p b size _ (nameI (x0, x1, x2, x3)) W hW (by unfold maxLen; omega)
          unfold readE at this
          rw [hlk, Option.isSome_some, if_pos rfl] at this
          rw [HGS.out]
          simp only [↓reduceIte]
          rw [delAll_snoc]
          exact this
        obtain ⟨nm, hnm⟩ : ∃ nm, nm = nameI (x0, x1, x2, x3) := ⟨_, rfl⟩
        rw [← hnm] at HN HDL
        clear hnm hno hlk hof huok hns
        go_wp2_with (first
          | (rw [← hW1]; clear hW1)
          | (go_at_call 13; refine (HN.out _).mono ?_; rintro e w5 ⟨rfl, hb5⟩
             have hd5 := hdW.under hb5 (Array.getElem?_eq_some_iff.1 hdW.at_).1 hdW.own.lt
             have hc5 : Chg (fun k => k = b) w1 w5 := hcW.trans ⟨hb5.os, hb5.tape, hb5.output, hb5.size, fun k hk _ => hb5.block k hk⟩ (fun _ h _ => h))
          | (go_at_call 38; refine (HDL.out _ hd5).mono ?_; rintro e w6 ⟨rfl, hd6, hc6⟩))
        go_roundw
        case rel =>
          refine ⟨k + 1, ?_, by go_num, hlt, hd6, hc5.trans hc6 (fun _ h _ => h)⟩
          rw [HCS.out]
          simp only [↓reduceIte]
          go_num
        case measure => simp [intOf]; omega
      · have hof : ofAt t a (x0, x1, x2, x3) = false := ofAt_no hm
        rw [hof] at HCS HGS
        have HD1 : Hid (DiskAt W1 p b size (delAll (goneUpto t a ids (k + 1)) l)) := Lib.hid (by rw [HGS.out]; simp only [Bool.false_eq_true, ↓reduceIte, List.append_nil]; exact hdW)
        clear hno huok hof hdW
        by_cases h0 : x0 = t
        · subst h0
          have h1 : (x1 == a) = false := by rw [beq_eq_false_iff_ne]; exact fun h => hm ⟨rfl, h⟩
          clear hm
          go_wp2_with (first | (rw [← hW1]; clear hW1))
          go_roundw
          case rel =>
            refine ⟨k + 1, ?_, by go_num, hlt, HD1.out, hcW⟩
            rw [HCS.out]
            simp only [Bool.false_eq_true, ↓reduceIte]
            rfl
          case measure => simp [intOf]; omega
        · have h1 : (x0 == t) = false := by rw [beq_eq_false_iff_ne]; exact h0
          clear hm h0
          go_wp2_with (first | (rw [← hW1]; clear hW1))
          go_roundw
          case rel =>
            refine ⟨k + 1, ?_, by go_num, hlt, HD1.out, hcW⟩
            rw [HCS.out]
            simp only [Bool.false_eq_true, ↓reduceIte]
            rfl
          case measure => simp [intOf]; omega
    · obtain rfl : k = ids.length := by omega
      have hltz : ¬ (ids.length : Int) < (ids.length : Int) := by omega
      go_wp2
      go_ret
      exact ⟨rfl, hd, hC1.trans hc (fun _ h _ => h)⟩
end Go.Proofs.YtkldkaahpicnmaaGreat
