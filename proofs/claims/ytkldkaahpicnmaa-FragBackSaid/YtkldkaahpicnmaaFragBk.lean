/- The statement FragBack: what was framed is opened, and its name tells the id. -/
import Derived.Test.YtkldkaahpicnmaaRows
import Derived.Test.YtkldkaahpicnmaaFragZ
import Derived.Deep.RegionHeld3
import Derived.ProofKit
import Derived.OpenShut
import Derived.ShutString
import Derived.WideShapes
namespace Go.Proofs.Ytkldkaahpicnmaa
open Go.RowKit PFragNames
open Go.Proofs.YtkldkaahpicnmaaW.PrintWords Go.Proofs.YtkldkaahpicnmaaW.PrintLast Go.Proofs.YtkldkaahpicnmaaW.PrintMore

theorem eqA26 (d : Nat) (w : World) (x0 y0 x1 y1 x2 y2 x3 y3 : Int) :
    (Op.equalIn (d + 2) 26 (.agg #[.int .i64 x0, .int .i64 x1, .int .i64 x2, .int .i64 x3]) (.agg #[.int .i64 y0, .int .i64 y1, .int .i64 y2, .int .i64 y3])).run Try.prog w = .ok (x0 == y0 && (x1 == y1 && (x2 == y2 && (x3 == y3)))) w := by
  refine eqA_of Try.underlying26 (by kernel_rfl) ?_
  refine eqf_cons (by rfl) (by go_simp; rfl) (by go_simp; rfl) (by go_simp) ?_
  refine eqf_cons (by rfl) (by go_simp; rfl) (by go_simp; rfl) (by go_simp) ?_
  refine eqf_cons (by rfl) (by go_simp; rfl) (by go_simp; rfl) (by go_simp) ?_
  exact eqf_last (by rfl) (by go_simp; rfl) (by go_simp; rfl) (by go_simp)

theorem eqA23 (d : Nat) (w : World) (x0 y0 x1 y1 x2 y2 x3 y3 : Int) :
    (Op.equalIn (d + 2) 23 (.agg #[.int .i64 x0, .int .i64 x1, .int .i64 x2, .int .i64 x3]) (.agg #[.int .i64 y0, .int .i64 y1, .int .i64 y2, .int .i64 y3])).run Try.prog w = .ok (x0 == y0 && (x1 == y1 && (x2 == y2 && (x3 == y3)))) w := by
  refine eqA_of Try.underlying23 (by kernel_rfl) ?_
  refine eqf_cons (by rfl) (by go_simp; rfl) (by go_simp; rfl) (by go_simp) ?_
  refine eqf_cons (by rfl) (by go_simp; rfl) (by go_simp; rfl) (by go_simp) ?_
  refine eqf_cons (by rfl) (by go_simp; rfl) (by go_simp; rfl) (by go_simp) ?_
  exact eqf_last (by rfl) (by go_simp; rfl) (by go_simp; rfl) (by go_simp)

theorem of_any (a b c d : Int) (w : World) : Calls Try.prog 7 #[.agg #[.int .i64 a, .int .i64 b, .int .i64 c, .int .i64 d]] w fun e w' => e = .returned (.agg #[.int .i64 a, .int .i64 b, .int .i64 c, .int .i64 d]) ∧ Below w.heap.size w w' :=
  stooklaw15_Of.calls a b c d a b c d w rfl

theorem name_awake : nameUpto [1, 20, 3, 0] 4 = ⟨#[116, 49, 97, 50, 48, 112, 51, 102, 48]⟩ := by
  apply ByteArray.ext
  apply Array.toList_inj.1
  rw [nameUpto_list, restL_step _ 0 (by omega), restL_step _ 1 (by omega), restL_step _ 2 (by omega), restL_step _ 3 (by omega), restL_four]
  show _ :: (decL 1 ++ (_ :: (decL 20 ++ (_ :: (decL 3 ++ (_ :: (decL 0 ++ []))))))) = _
  rw [decL_small (n := 1) (by omega), decL_big (n := 20) (by omega), decL_small (n := 20 / 10) (by omega), decL_small (n := 3) (by omega), decL_small (n := 0) (by omega)]
  rfl

theorem awake_any (w : World) : Calls Try.prog 5 #[] w fun e w' => e = .returned (.bool true) ∧ Below w.heap.size w w' := by
  have HN := Lib.hid (name_right 1 20 3 0 (by decide))
  go_enter Try.func5, Try.ntmps5
  go_wp2_with fail
  refine (HN.out _).mono ?_
  rintro e w1 ⟨rfl, hb1⟩
  rw [name_awake]
  go_wp2_with fail
  go_ret
  exact ⟨by simp, hb1⟩

section
attribute [local go_sem high] eqA26 eqA23

/-- Three ids in memory. -/
structure ThreeAt (w : World) (p q r : Nat) (a b c d : Int) (W : World) : Prop where
  one : W.heap[p]? = some (.cells #[.int .i64 a, .int .i64 b, .int .i64 c, .int .i64 d] 23 (0, 0))
  two : W.heap[q]? = some (.cells #[.int .i64 a, .int .i64 b, .int .i64 c, .int .i64 d] 26 (0, 0))
  tri : W.heap[r]? = some (.cells #[.int .i64 a, .int .i64 b, .int .i64 c, .int .i64 d] 26 (0, 0))
  below : Below w.heap.size w W
theorem ThreeAt.keep {w W W' : World} {p q r : Nat} {a b c d : Int} (h : ThreeAt w p q r a b c d W) (hb : Below W.heap.size W W') : ThreeAt w p q r a b c d W' :=
  ⟨(hb.block _ (Array.getElem?_eq_some_iff.1 h.one).1).trans h.one, (hb.block _ (Array.getElem?_eq_some_iff.1 h.two).1).trans h.two, (hb.block _ (Array.getElem?_eq_some_iff.1 h.tri).1).trans h.tri, h.below.trans (hb.mono h.below.size)⟩

set_option maxHeartbeats 4000000 in
set_option maxRecDepth 100000 in
theorem back_walk {a b c d : Int} {piece : ByteArray} {w : World} (_ : piece.size ≤ 140737488351232) :
    Calls Try.prog 4 #[.agg #[.int .i64 a, .int .i64 b, .int .i64 c, .int .i64 d], .string piece] w fun e w' => e = .returned (.bool true) ∧ Below w.heap.size w w' := by
  have x0 := heap_alloc_new w (.cells #[.int .i64 a, .int .i64 b, .int .i64 c, .int .i64 d] 23)
  have hB0 : Below w.heap.size w (w.alloc (.cells #[.int .i64 a, .int .i64 b, .int .i64 c, .int .i64 d] 23)) := (Below.refl _ w).alloc (Nat.le_refl _) _
  by_cases hlong : 2000 < piece.size
  · have hq : (2000 : Int) < (piece.size : Int) := by omega
    go_enter Try.func4, Try.ntmps4
    go_wp2_with fail
    refine (awake_any _).mono ?_
    rintro e w1 ⟨rfl, hb1⟩
    have hB1 := hB0.trans (hb1.mono (by simp))
    go_wp2_with fail
    refine (awake_any _).mono ?_
    rintro e w2 ⟨rfl, hb2⟩
    go_wp2_with fail
    go_ret
    exact ⟨rfl, hB1.trans (hb2.mono hB1.size)⟩
  have hq : ¬ ((2000 : Int) < (piece.size : Int)) := by omega
  go_enter Try.func4, Try.ntmps4
  go_wp2_with fail
  refine (awake_any _).mono ?_
  rintro e w1 ⟨rfl, hb1⟩
  have hB1 := hB0.trans (hb1.mono (by simp))
  have x1 := (hb1.block _ (by simp)).trans x0
  obtain ⟨k0, k1, k2, k3⟩ := four_cells x1
  go_wp2_with fail
  refine (of_any a b c d w1).mono ?_
  rintro e w2 ⟨rfl, hb2⟩
  have hB2 := hB1.trans (hb2.mono hB1.size)
  have x2 := (hb2.block _ (Array.getElem?_eq_some_iff.1 x1).1).trans x1
  clear k0 k1 k2 k3 hb1 hb2 hB0 x0 x1
  cases hok : okId a b c d with
  | false =>
    have hfw := frame_wrong a b c d piece hok w2
    unfold idV at hfw
    go_wp2_with fail
    refine hfw.mono ?_
    rintro e w3 ⟨rfl, hb3⟩
    have hB3 := hB2.trans (hb3.mono hB2.size)
    have x3 := (hb3.block _ (Array.getElem?_eq_some_iff.1 x2).1).trans x2
    obtain ⟨k0, k1, k2, k3⟩ := four_cells x3
    go_wp2_with fail
    refine (of_any a b c d w3).mono ?_
    rintro e w4 ⟨rfl, hb4⟩
    have hB4 := hB3.trans (hb4.mono hB3.size)
    have x4 := (hb4.block _ (Array.getElem?_eq_some_iff.1 x3).1).trans x3
    have hr := right_any a b c d w4
    unfold idV at hr
    rw [hok] at hr
    go_wp2_with fail
    refine hr.mono ?_
    rintro e w5 ⟨rfl, hb5⟩
    have hB5 := hB4.trans (hb5.mono hB4.size)
    have x5 := (hb5.block _ (Array.getElem?_eq_some_iff.1 x4).1).trans x4
    obtain ⟨j0, j1, j2, j3⟩ := four_cells x5
    go_wp2_with fail
    refine (of_any a b c d w5).mono ?_
    rintro e w6 ⟨rfl, hb6⟩
    have hB6 := hB5.trans (hb6.mono hB5.size)
    have hn := name_wrong a b c d hok w6
    unfold idV at hn
    go_wp2_with fail
    refine hn.mono ?_
    rintro e w7 ⟨rfl, hb7⟩
    go_wp2_with fail
    go_ret
    exact ⟨by simp, hB6.trans (hb7.mono hB6.size)⟩
  | true =>
    obtain ⟨na, ha⟩ : ∃ n : Nat, a = (n : Int) := ⟨a.toNat, by have := okId_all hok 0 _ rfl; omega⟩
    obtain ⟨nb, hb⟩ : ∃ n : Nat, b = (n : Int) := ⟨b.toNat, by have := okId_all hok 1 _ rfl; omega⟩
    obtain ⟨nc, hc⟩ : ∃ n : Nat, c = (n : Int) := ⟨c.toNat, by have := okId_all hok 2 _ rfl; omega⟩
    obtain ⟨nd, hd⟩ : ∃ n : Nat, d = (n : Int) := ⟨d.toNat, by have := okId_all hok 3 _ rfl; omega⟩
    have hfr : Calls Try.prog 10 #[.agg #[.int .i64 a, .int .i64 b, .int .i64 c, .int .i64 d], .string piece] w2 (FrameEnd na nb nc nd piece w2) := by
      have := frame_right na nb nc nd piece (by rw [← ha, ← hb, ← hc, ← hd]; exact hok) (by omega) w2
      rw [← ha, ← hb, ← hc, ← hd] at this
      exact this
    have hop : ∀ body : ByteArray, body.data.toList = bodyL na nb nc nd piece → ∀ W, Calls Try.prog 11 #[.string (sealB body)] W fun e w' => e = .returned (.tuple #[.agg #[.int .i64 a, .int .i64 b, .int .i64 c, .int .i64 d], .string piece, .int .i64 0]) ∧ Below W.heap.size W w' := fun body hbd W => by
      have := fopen_right na nb nc nd piece body (by rw [← ha, ← hb, ← hc, ← hd]; exact hok) (by omega) hbd W
      rw [← ha, ← hb, ← hc, ← hd] at this
      exact this
    have HOP := Lib.hid hop
    have HFR := Lib.hid hfr
    have HNM := Lib.hid (name_right a b c d hok)
    have HND := Lib.hid (named_ex a b c d hok)
    unfold idV at HNM HND
    obtain ⟨nm, hnm⟩ : ∃ nm, nm = nameUpto [a, b, c, d] 4 := ⟨_, rfl⟩
    rw [← hnm] at HNM HND
    have hss : (piece.toList == piece.toList) = true := by simp
    clear hop hfr ha hb hc hd hnm
    go_wp2_with fail
    refine HFR.out.mono ?_
    rintro e w3 ⟨⟨body, rfl, hbd⟩, hb3⟩
    have hB3 := hB2.trans (hb3.mono hB2.size)
    have x3 := (hb3.block _ (Array.getElem?_eq_some_iff.1 x2).1).trans x2
    have HOB := Lib.hid (HOP.out body hbd)
    obtain ⟨S, hS⟩ : ∃ S, S = sealB body := ⟨_, rfl⟩
    rw [← hS] at HOB ⊢
    clear hbd hS hb3 x2
    go_wp2_with fail
    refine (HOB.out _).mono ?_
    rintro e w4 ⟨rfl, hb4⟩
    have hB4 := hB3.trans (hb4.mono hB3.size)
    have x4 := (hb4.block _ (Array.getElem?_eq_some_iff.1 x3).1).trans x3
    obtain ⟨W5, hW5⟩ : ∃ W5, W5 = w4.alloc (.cells #[.int .i64 a, .int .i64 b, .int .i64 c, .int .i64 d] 26) := ⟨_, rfl⟩
    have hb5 : Below w4.heap.size w4 W5 := by rw [hW5]; exact (Below.refl _ _).alloc (Nat.le_refl _) _
    have y5 : W5.heap[w4.heap.size]? = some (.cells #[.int .i64 a, .int .i64 b, .int .i64 c, .int .i64 d] 26 (0, 0)) := by rw [hW5]; exact heap_alloc_new _ _
    have x5 := (hb5.block _ (Array.getElem?_eq_some_iff.1 x4).1).trans x4
    have hB5 := hB4.trans (hb5.mono hB4.size)
    obtain ⟨k0, k1, k2, k3⟩ := four_cells x5
    clear hb4 hb5 x3
    go_wp2_with (first | (rw [← hW5]; clear hW5))
    refine (of_any a b c d W5).mono ?_
    rintro e w6 ⟨rfl, hb6⟩
    have hB6 := hB5.trans (hb6.mono hB5.size)
    have x6 := (hb6.block _ (Array.getElem?_eq_some_iff.1 x5).1).trans x5
    have y6 := (hb6.block _ (Array.getElem?_eq_some_iff.1 y5).1).trans y5
    go_wp2_with fail
    refine (HNM.out _).mono ?_
    rintro e w7 ⟨rfl, hb7⟩
    have hB7 := hB6.trans (hb7.mono hB6.size)
    have x7 := (hb7.block _ (Array.getElem?_eq_some_iff.1 x6).1).trans x6
    have y7 := (hb7.block _ (Array.getElem?_eq_some_iff.1 y6).1).trans y6
    go_wp2_with fail
    refine (HND.out _).mono ?_
    rintro e w8 ⟨rfl, hb8⟩
    have hB8 := hB7.trans (hb8.mono hB7.size)
    have x8 := (hb8.block _ (Array.getElem?_eq_some_iff.1 x7).1).trans x7
    have y8 := (hb8.block _ (Array.getElem?_eq_some_iff.1 y7).1).trans y7
    have hb9 : Below w8.heap.size w8 (w8.alloc (.cells #[.int .i64 a, .int .i64 b, .int .i64 c, .int .i64 d] 26)) := (Below.refl _ _).alloc (Nat.le_refl _) _
    obtain ⟨W9, hW9⟩ : ∃ W9, W9 = w8.alloc (.cells #[.int .i64 a, .int .i64 b, .int .i64 c, .int .i64 d] 26) := ⟨_, rfl⟩
    have hT : ThreeAt w w.heap.size w4.heap.size w8.heap.size a b c d W9 := by
      rw [hW9]
      exact ⟨(hb9.block _ (Array.getElem?_eq_some_iff.1 x8).1).trans x8, (hb9.block _ (Array.getElem?_eq_some_iff.1 y8).1).trans y8, heap_alloc_new _ _, hB8.trans (hb9.mono hB8.size)⟩
    have hTd : ThreeAt w w.heap.size w4.heap.size w8.heap.size a b c d W9.drew := hT.keep ⟨rfl, rfl, rfl, Nat.le_refl _, fun _ _ => rfl⟩
    have hof : ∀ W, ThreeAt w w.heap.size w4.heap.size w8.heap.size a b c d W → Calls Try.prog 7 #[.agg #[.int .i64 a, .int .i64 b, .int .i64 c, .int .i64 d]] W fun e w' => e = .returned (.agg #[.int .i64 a, .int .i64 b, .int .i64 c, .int .i64 d]) ∧ ThreeAt w w.heap.size w4.heap.size w8.heap.size a b c d w' := fun W h => (of_any a b c d W).mono fun e w' ⟨he, hb⟩ => ⟨he, h.keep hb⟩
    have HOF := Lib.hid hof
    clear hof hb9 x5 y5 x6 y6 x7 y7 x8 y8 hb6 hb7 hb8 k0 k1 k2 k3
    go_wp2_with (first | (rw [← hW9]; clear hW9))
    go_region_held3 (fun W' => (W'.cell? ⟨w.heap.size, 0, none⟩ = some (.int .i64 a) ∧ W'.cell? ⟨w.heap.size, 1, none⟩ = some (.int .i64 b) ∧ W'.cell? ⟨w.heap.size, 2, none⟩ = some (.int .i64 c) ∧ W'.cell? ⟨w.heap.size, 3, none⟩ = some (.int .i64 d)) ∧
        (W'.cell? ⟨w4.heap.size, 0, none⟩ = some (.int .i64 a) ∧ W'.cell? ⟨w4.heap.size, 1, none⟩ = some (.int .i64 b) ∧ W'.cell? ⟨w4.heap.size, 2, none⟩ = some (.int .i64 c) ∧ W'.cell? ⟨w4.heap.size, 3, none⟩ = some (.int .i64 d)) ∧
        (W'.cell? ⟨w8.heap.size, 0, none⟩ = some (.int .i64 a) ∧ W'.cell? ⟨w8.heap.size, 1, none⟩ = some (.int .i64 b) ∧ W'.cell? ⟨w8.heap.size, 2, none⟩ = some (.int .i64 c) ∧ W'.cell? ⟨w8.heap.size, 3, none⟩ = some (.int .i64 d)) ∧ ThreeAt w w.heap.size w4.heap.size w8.heap.size a b c d W')
      (exact ⟨four_cells (ThreeAt.one ‹_›), four_cells (ThreeAt.two ‹_›), four_cells (ThreeAt.tri ‹_›), ‹_›⟩)
      (first
        | (go_at_call 7; refine (HOF.out _ ?_).mono ?_; (assumption); rintro e w9 ⟨rfl, hp9⟩))
    all_goals
      go_wp2_with fail
      go_ret
      exact ⟨by simp, hp9.below⟩

end

section
open Go.ChangeShapes Go.WideShapes Go.Deep
theorem one_of {cs : List Value} {i : Nat} {v : Value} (h : (cs.drop i).take 1 = [v]) : cs[i]? = some v := by
  have := congrArg (fun l => l[0]?) h
  simpa [List.getElem?_take] using this

theorem four_of {cs : Array Value} {a b c d : Value} (hs : cs.size = 4) (h0 : cs.toList[0]? = some a) (h1 : cs.toList[1]? = some b) (h2 : cs.toList[2]? = some c) (h3 : cs.toList[3]? = some d) : cs = #[a, b, c, d] := by
  obtain ⟨l⟩ := cs
  match l, hs with
  | [x, y, z, t], _ =>
    simp at h0 h1 h2 h3
    subst h0 h1 h2 h3
    rfl

section
variable {H : Type} {enc : TypeId × Value → H} {w : World} {base : Nat} {spare : Nat → Bool} {held : Bool}

theorem open_id {v : Value} {d : DataW H} {p : List MemPlace} (hv : ∃ cs, v = .agg cs ∧ cs.size = Try.prog.cellsOf 23) (h : DataW.Trod enc Try.prog w base spare held 23 v d p) :
    ∃ a b c e : Int, v = .agg #[.int .i64 a, .int .i64 b, .int .i64 c, .int .i64 e] := by
  obtain ⟨fuel, hf⟩ := h
  obtain ⟨cs, rfl, hcs⟩ := hv
  have c23 : Try.prog.cellsOf 23 = 4 := by kernel_rfl
  have c3 : Try.prog.cellsOf 3 = 1 := by kernel_rfl
  rw [c23] at hcs
  obtain ⟨xs, m, _, _, _, hlen, hg⟩ := DataW.trod_struct Try.underlying23 hf
  match xs, hlen with
  | [y0, y1, y2, y3], _ =>
    have g0 : DataW.trod enc Try.prog w base spare held m 3 ((cs.toList.drop 0).take (Try.prog.cellsOf 3)) = some y0 := hg 0 _ rfl
    have g1 : DataW.trod enc Try.prog w base spare held m 3 ((cs.toList.drop 1).take (Try.prog.cellsOf 3)) = some y1 := hg 1 _ rfl
    have g2 : DataW.trod enc Try.prog w base spare held m 3 ((cs.toList.drop 2).take (Try.prog.cellsOf 3)) = some y2 := hg 2 _ rfl
    have g3 : DataW.trod enc Try.prog w base spare held m 3 ((cs.toList.drop 3).take (Try.prog.cellsOf 3)) = some y3 := hg 3 _ rfl
    rw [c3] at g0 g1 g2 g3
    obtain ⟨n0, e0, _⟩ := DataW.trod_int Try.underlying3 g0
    obtain ⟨n1, e1, _⟩ := DataW.trod_int Try.underlying3 g1
    obtain ⟨n2, e2, _⟩ := DataW.trod_int Try.underlying3 g2
    obtain ⟨n3, e3, _⟩ := DataW.trod_int Try.underlying3 g3
    exact ⟨n0, n1, n2, n3, congrArg Value.agg (four_of hcs (one_of e0) (one_of e1) (one_of e2) (one_of e3))⟩
end

end
end Go.Proofs.Ytkldkaahpicnmaa
