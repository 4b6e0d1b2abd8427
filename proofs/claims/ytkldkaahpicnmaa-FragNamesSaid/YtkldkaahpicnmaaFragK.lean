/- The statement FragNames: unlike ids have unlike names; a name that has an id is that id's. -/
import Derived.Test.YtkldkaahpicnmaaFragO
import Derived.Deep.Cut
namespace Go.Proofs.Ytkldkaahpicnmaa
open Go.RowKit PFragNames
open Go.Proofs.YtkldkaahpicnmaaW.PrintWords Go.Proofs.YtkldkaahpicnmaaW.PrintLast Go.Proofs.YtkldkaahpicnmaaW.PrintMore

theorem awake_any (w : World) : Calls Try.prog 5 #[] w fun e w' => e = .returned (.bool true) ∧ Below w.heap.size w w' := by
  have HN := Lib.hid (name_right 1 20 3 0 (by decide))
  go_enter Try.func5, Try.ntmps5
  go_wp2_with fail
  refine (HN.out _).mono ?_
  rintro e w1 ⟨rfl, hb1⟩
  rw [name_awake]
  go_wp2_with fail
  go_ret
  exact ⟨by simp, hb1⟩

attribute [local go_sem high] eqA26 eqA23

set_option maxHeartbeats 4000000 in
theorem names_any (a b c d a' b' c' d' : Int) (s : ByteArray) (w : World) :
    Calls Try.prog 3 #[.agg #[.int .i64 a, .int .i64 b, .int .i64 c, .int .i64 d], .agg #[.int .i64 a', .int .i64 b', .int .i64 c', .int .i64 d'], .string s] w fun e w' => e = .returned (.bool true) ∧ Below w.heap.size w w' := by
  by_cases hs : 200 < s.size
  · have hq1 : decide ((200 : Int) < (s.size : Int)) = true := decide_eq_true (by omega)
    go_enter Try.func3, Try.ntmps3
    go_wp2_with fail
    refine (awake_any _).mono ?_
    rintro e w1 ⟨rfl, hb1⟩
    have hB1 : Below w.heap.size w w1 := (((Below.refl _ w).alloc (Nat.le_refl _) _).alloc (by simp) _).trans (hb1.mono (by simp; omega))
    go_wp2_with fail
    refine (awake_any _).mono ?_
    rintro e w2 ⟨rfl, hb2⟩
    go_wp2_with fail
    go_ret
    exact ⟨rfl, hB1.trans (hb2.mono hB1.size)⟩
  · have hq1 : decide ((200 : Int) < (s.size : Int)) = false := decide_eq_false (by omega)
    go_enter Try.func3, Try.ntmps3
    go_wp2_with fail
    refine (awake_any _).mono ?_
    rintro e w1 ⟨rfl, hb1⟩
    have hB1 : Below w.heap.size w w1 := (((Below.refl _ w).alloc (Nat.le_refl _) _).alloc (by simp) _).trans (hb1.mono (by simp; omega))
    have hst : Below w.heap.size w w1 := hB1
    go_wp2_with fail
    have y0 := (hb1.block w.heap.size (by simp; omega)).trans ((Below.heap_alloc _ _ _ (by simp)).trans (heap_alloc_new w _))
    have y1 := (hb1.block (w.heap.size + 1) (by simp)).trans (heap_alloc2_new w _ _)
    have z0 : w1.cell? ⟨w.heap.size, 0, none⟩ = some (.int .i64 a) ∧ w1.cell? ⟨w.heap.size, 1, none⟩ = some (.int .i64 b) ∧ w1.cell? ⟨w.heap.size, 2, none⟩ = some (.int .i64 c) ∧ w1.cell? ⟨w.heap.size, 3, none⟩ = some (.int .i64 d) := by simp [World.cell?, y0]
    have z1 : w1.cell? ⟨w.heap.size + 1, 0, none⟩ = some (.int .i64 a') ∧ w1.cell? ⟨w.heap.size + 1, 1, none⟩ = some (.int .i64 b') ∧ w1.cell? ⟨w.heap.size + 1, 2, none⟩ = some (.int .i64 c') ∧ w1.cell? ⟨w.heap.size + 1, 3, none⟩ = some (.int .i64 d') := by simp [World.cell?, y1]
    have HT2 : Hid (Two w w.heap.size (w.heap.size + 1) a b c d a' b' c' d' { w1 with drawn := w1.drawn + 1 }) := Lib.hid ⟨⟨z0, z1⟩, hB1.drew⟩
    clear y0 y1 z0 z1 hb1 hst
    have HR := Lib.hid right_any
    have HNR := Lib.hid name_right
    go_cut [37] from 9 (fun t wc => t = .bool false ∧ Below w.heap.size w wc)
    case first =>
      cases hoa : okId a b c d with
      | false =>
        refine names_reg_f w w1 w.heap.size (w.heap.size + 1) a b c d a' b' c' d' hoa HT2.out _ _ _ _ _ _ _ _ _ _ _ _ _ _ _ _ _ _ _ _ _ _ _ _ _ _ _ _ _ _ _ _ _ _ _ _ _ _ _ _ _ _ (fun _ => undef) ?_
        intro x w2 h37 hT
        rename_i J K2 hJ hK2
        refine hK2 _ _ ?_
        go_meet
        case rel => exact ⟨h37, hT.2⟩
      | true =>
        cases hob : okId a' b' c' d' with
        | false =>
          refine names_reg_g w w1 w.heap.size (w.heap.size + 1) a b c d a' b' c' d' hoa hob HT2.out _ _ _ _ _ _ _ _ _ _ _ _ _ _ _ _ _ _ _ _ _ _ _ _ _ _ _ _ _ _ _ _ _ _ _ _ _ _ _ _ _ _ (fun _ => undef) ?_
          intro x w2 h37 hT
          rename_i J K2 hJ hK2
          refine hK2 _ _ ?_
          go_meet
          case rel => exact ⟨h37, hT.2⟩
        | true =>
          by_cases heq : a = a' ∧ b = b' ∧ c = c' ∧ d = d'
          · have g1 : ((nameUpto [a, b, c, d] 4).toList == (nameUpto [a', b', c', d'] 4).toList) = true := by
              obtain ⟨rfl, rfl, rfl, rfl⟩ := heq
              simp
            have g2 : (a == a' && (b == b' && (c == c' && (d == d')))) = true := by
              obtain ⟨rfl, rfl, rfl, rfl⟩ := heq
              simp
            refine names_reg_eq w w1 w.heap.size (w.heap.size + 1) a b c d a' b' c' d' hoa hob _ _ rfl rfl g1 g2 HT2.out _ _ _ _ _ _ _ _ _ _ _ _ _ _ _ _ _ _ _ _ _ _ _ _ _ _ _ _ _ _ _ _ _ _ _ _ _ _ _ _ _ _ (fun _ => undef) ?_
            intro x w2 h37 hT
            rename_i J K2 hJ hK2
            refine hK2 _ _ ?_
            go_meet
            case rel => exact ⟨h37, hT.2⟩
          · have g1 : ((nameUpto [a, b, c, d] 4).toList == (nameUpto [a', b', c', d'] 4).toList) = false := by
              rw [beq_eq_false_iff_ne]
              intro e
              exact heq (name_inj hoa hob (str_eq _ _ (by simp [e])))
            have g2 : (a == a' && (b == b' && (c == c' && (d == d')))) = false := by
              rw [Bool.eq_false_iff]
              intro h
              simp at h
              exact heq ⟨h.1, h.2.1, h.2.2.1, h.2.2.2⟩
            refine names_reg_ne w w1 w.heap.size (w.heap.size + 1) a b c d a' b' c' d' hoa hob _ _ rfl rfl g1 g2 HT2.out _ _ _ _ _ _ _ _ _ _ _ _ _ _ _ _ _ _ _ _ _ _ _ _ _ _ _ _ _ _ _ _ _ _ _ _ _ _ _ _ _ _ (fun _ => undef) ?_
            intro x w2 h37 hT
            rename_i J K2 hJ hK2
            refine hK2 _ _ ?_
            go_meet
            case rel => exact ⟨h37, hT.2⟩
    case rest =>
      clear HT2 hB1
      obtain ⟨rfl, hB⟩ := hcut
      go_wp2_with fail
      refine (named_any s (by omega) _).mono ?_
      rintro e w3 ⟨⟨x0, x1, x2, x3, q, rfl, hq0, hq1'⟩, hb3⟩
      have hB3 : Below w.heap.size w w3 := hB.trans (hb3.mono hB.size)
      unfold idV
      cases q with
      | false =>
        obtain ⟨rfl, rfl, rfl, rfl⟩ := hq0 rfl
        clear hq0 hq1'
        go_wp2_with fail
        go_ret
        exact ⟨rfl, hB3.alloc hB3.size _⟩
      | true =>
        obtain ⟨hok, hnm⟩ := hq1' rfl
        clear hq0 hq1'
        obtain ⟨W4, hW4⟩ : ∃ W4, W4 = w3.alloc (.cells #[.int .i64 x0, .int .i64 x1, .int .i64 x2, .int .i64 x3] 26) := ⟨_, rfl⟩
        have hB4 : Below w.heap.size w W4 := by rw [hW4]; exact hB3.alloc hB3.size _
        have y4 : W4.heap[w3.heap.size]? = some (.cells #[.int .i64 x0, .int .i64 x1, .int .i64 x2, .int .i64 x3] 26 (0, 0)) := by rw [hW4]; exact heap_alloc_new w3 _
        obtain ⟨⟨c0, c1, c2, c3⟩, _⟩ := ifacts y4
        have HNM := Lib.hid (HNR.out x0 x1 x2 x3 hok)
        have HRR := Lib.hid (HR.out x0 x1 x2 x3)
        have hqq : (s.toList == s.toList) = true := by simp
        go_wp2_with fail
        try rw [← hW4]
        refine (HNM.out _).mono ?_
        rintro e w5 ⟨rfl, hb5⟩
        rw [hnm]
        have y5 := (hb5.block _ (Array.getElem?_eq_some_iff.1 y4).1).trans y4
        obtain ⟨⟨e0, e1, e2, e3⟩, _⟩ := ifacts y5
        have hB5 : Below w.heap.size w w5 := hB4.trans (hb5.mono hB4.size)
        clear hW4
        go_wp2_with fail
        refine (HRR.out _).mono ?_
        rintro e w6 ⟨rfl, hb6⟩
        rw [hok]
        go_wp2_with fail
        go_ret
        exact ⟨rfl, hB5.trans (hb6.mono hB5.size)⟩

end Go.Proofs.Ytkldkaahpicnmaa
