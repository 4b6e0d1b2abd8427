/- A number in decimal is read as it was written. -/
import Derived.Test.YtkldkaahpicnmaaFragU
import Derived.Test.YtkldkaahpicnmaaFragD
namespace Go.Proofs.Ytkldkaahpicnmaa
open Go.RowKit PFragNames

theorem digit_yes (c : Int) (h1 : 48 ≤ c) (h2 : c ≤ 57) (w : World) : Calls Try.prog 41 #[.int .u8 c] w fun e w' => e = .returned (.bool true) ∧ Below w.heap.size w w' := by
  have hr : value_digit.f c = some true := by
    unfold value_digit.f
    rw [if_pos (by omega), decide_eq_true h2]
  refine (value_digit.calls c true w hr).mono ?_
  rintro e w' ⟨he, hd⟩
  obtain ⟨m, rfl⟩ := hd.out
  exact ⟨he, ⟨rfl, rfl, rfl, Nat.le_refl _, fun _ _ => rfl⟩⟩
theorem digit_no (c : Int) (h : ¬ (48 ≤ c ∧ c ≤ 57)) (w : World) : Calls Try.prog 41 #[.int .u8 c] w fun e w' => e = .returned (.bool false) ∧ Below w.heap.size w w' := by
  have hr : value_digit.f c = some false := by
    unfold value_digit.f
    by_cases h1 : c ≥ 48
    · rw [if_pos h1, decide_eq_false (by omega)]
    · rw [if_neg h1]
  refine (value_digit.calls c false w hr).mono ?_
  rintro e w' ⟨he, hd⟩
  obtain ⟨m, rfl⟩ := hd.out
  exact ⟨he, ⟨rfl, rfl, rfl, Nat.le_refl _, fun _ _ => rfl⟩⟩

structure NumK (n i k : Nat) (m : Int) (w w' : World) : Prop where
  le : k ≤ (decL n).length
  val : m = (valL ((decL n).take k) : Nat)
  bel : Below w.heap.size w w'

set_option maxHeartbeats 4000000 in
set_option maxRecDepth 100000 in
theorem number_ex (s : ByteArray) (i0 n : Nat) (rest : List UInt8) (hs : s.size ≤ 1000000) (hi : i0 ≤ s.size) (hd : s.data.toList.drop i0 = decL n ++ rest) (hr : ∀ c, rest[0]? = some c → ¬ ((48 : Int) ≤ (c.toNat : Int) ∧ (c.toNat : Int) ≤ 57)) (hn : n ≤ 2147483647) (w : World) :
    Calls Try.prog 47 #[.string s, .int .i64 (i0 : Int)] w fun e w' => e = .returned (.tuple #[.int .i64 (n : Int), .int .i64 ((i0 + (decL n).length : Nat) : Int), .int .i64 0]) ∧ Below w.heap.size w w' := by
  have hpos := decL_pos n
  have hlead := decL_lead n
  have hlen : i0 + (decL n).length + rest.length = s.size := by
    have := congrArg List.length hd
    rw [List.length_drop, List.length_append] at this
    have e : s.data.toList.length = s.size := by simp
    omega
  have hat : ∀ i k, i = i0 + k → (h : k < (decL n).length) → ∃ h2 : i < s.size, (decL n)[k]? = some s[i] ∧ (48 : Int) ≤ (s[i].toNat : Int) ∧ (s[i].toNat : Int) ≤ 57 := by
    intro i k hik h
    have h2 : i < s.size := by omega
    have e1 : (s.data.toList.drop i0)[k]? = some s[i] := by
      rw [List.getElem?_drop, ← hik]
      simp [h2]
      rfl
    rw [hd, List.getElem?_append_left h] at e1
    have := decL_digits n s[i] (List.mem_of_getElem? e1)
    exact ⟨h2, e1, by omega, by omega⟩
  have hend : ∀ i, i = i0 + (decL n).length → (h : i < s.size) → ¬ ((48 : Int) ≤ (s[i].toNat : Int) ∧ (s[i].toNat : Int) ≤ 57) := by
    intro i hi h
    have e1 : (s.data.toList.drop i0)[(decL n).length]? = some s[i] := by
      rw [List.getElem?_drop, ← hi]
      simp [h]
      rfl
    rw [hd, List.getElem?_append_right (Nat.le_refl _), Nat.sub_self] at e1
    exact hr _ e1
  have hval := decL_val n
  have HAT := Lib.hid hat
  have HEND := Lib.hid hend
  have HVAL := Lib.hid hval
  obtain ⟨h00, h01, h02, h03⟩ := hat i0 0 rfl hpos
  have H01 := Lib.hid h01
  obtain ⟨L, hL⟩ : ∃ L, L = (decL n).length := ⟨_, rfl⟩
  have HL := Lib.hid hL
  have hlL : i0 + L + rest.length = s.size := by omega
  have hposL : 0 < L := by omega
  have hlead2 : L = 1 ∨ ((s[i0].toNat : Int) == 48) = false := by
    rcases hlead with h | ⟨c, h1, h2⟩
    · exact .inl (by omega)
    · refine .inr ?_
      have e := H01.out.symm.trans h1
      injection e with e
      rw [beq_eq_false_iff_ne, e]
      omega
  have h45 : ((s[i0].toNat : Int) == 45) = false := by rw [beq_eq_false_iff_ne]; omega
  rw [← hL]
  have HLEAD := Lib.hid hlead2
  clear hat hend hval hd hr hlen hL hpos hlead h01 hlead2
  go_enter Try.func47, Try.ntmps47
  go_wp2_with fail
  refine wp_scope_label 0 (fun a' w' => ∃ k m, NumA s i0 (i0 + k) m 1 a' ∧ NumK n i0 k m w w') (fun a' _ => s.size - (intOf (a'.tmps.getD 1 undef)).toNat) rfl ?_ ?_
  · rintro a' w' ⟨k, m, hA, hJ⟩
    unfold NumA at hA
    obtain ⟨u2, hA⟩ := hA
    obtain ⟨u3, hA⟩ := hA
    obtain ⟨u4, hA⟩ := hA
    obtain ⟨u5, hA⟩ := hA
    obtain ⟨u6, hA⟩ := hA
    obtain ⟨u10, hA⟩ := hA
    obtain ⟨u11, hA⟩ := hA
    obtain ⟨u12, hA⟩ := hA
    obtain ⟨u13, hA⟩ := hA
    obtain ⟨u14, hA⟩ := hA
    obtain ⟨u15, hA⟩ := hA
    obtain ⟨u16, hA⟩ := hA
    obtain ⟨u17, hA⟩ := hA
    obtain ⟨u18, hA⟩ := hA
    obtain ⟨u19, hA⟩ := hA
    obtain ⟨u20, hA⟩ := hA
    obtain ⟨u21, hA⟩ := hA
    obtain ⟨u22, hA⟩ := hA
    obtain ⟨u23, hA⟩ := hA
    obtain ⟨u24, hA⟩ := hA
    obtain ⟨u25, hA⟩ := hA
    obtain ⟨u26, hA⟩ := hA
    obtain ⟨u27, hA⟩ := hA
    obtain ⟨u28, hA⟩ := hA
    obtain ⟨u29, hA⟩ := hA
    obtain ⟨u30, hA⟩ := hA
    obtain ⟨u31, hA⟩ := hA
    obtain ⟨u32, hA⟩ := hA
    obtain ⟨u33, hA⟩ := hA
    obtain ⟨u34, hA⟩ := hA
    obtain ⟨u35, hA⟩ := hA
    obtain ⟨u36, hA⟩ := hA
    obtain ⟨u37, hA⟩ := hA
    obtain ⟨u38, hA⟩ := hA
    obtain ⟨u39, hA⟩ := hA
    obtain ⟨u40, hA⟩ := hA
    obtain ⟨u41, hA⟩ := hA
    obtain ⟨u42, hA⟩ := hA
    obtain ⟨u43, hA⟩ := hA
    obtain ⟨u44, hA⟩ := hA
    obtain ⟨u45, hA⟩ := hA
    obtain ⟨u46, hA⟩ := hA
    obtain ⟨u47, hA⟩ := hA
    obtain ⟨u48, hA⟩ := hA
    obtain ⟨u49, hA⟩ := hA
    obtain ⟨u50, hA⟩ := hA
    obtain ⟨u51, hA⟩ := hA
    obtain ⟨u52, hA⟩ := hA
    obtain ⟨u53, hA⟩ := hA
    obtain ⟨u54, hA⟩ := hA
    obtain ⟨u55, hA⟩ := hA
    obtain ⟨u56, hA⟩ := hA
    obtain ⟨u57, hA⟩ := hA
    obtain ⟨u58, hA⟩ := hA
    obtain ⟨u59, hA⟩ := hA
    obtain ⟨u60, hA⟩ := hA
    obtain ⟨u61, hA⟩ := hA
    obtain ⟨u62, hA⟩ := hA
    obtain ⟨u63, hA⟩ := hA
    obtain ⟨u64, hA⟩ := hA
    obtain ⟨u65, hA⟩ := hA
    obtain ⟨u66, hA⟩ := hA
    obtain ⟨u67, hA⟩ := hA
    obtain ⟨u68, hA⟩ := hA
    obtain ⟨u69, hA⟩ := hA
    obtain ⟨u70, hA⟩ := hA
    obtain ⟨u71, hA⟩ := hA
    obtain ⟨u72, hA⟩ := hA
    subst hA
    have hkL : k ≤ L := by have := hJ.le; rw [← HL.out] at this; exact this
    have HJ := Lib.hid hJ
    have hs1 := hJ.bel.size
    have hm0 : 0 ≤ m := by rw [hJ.val]; omega
    have hm1 : m ≤ 2147483647 := by
      have h1 := valL_le (decL n) k
      rw [HVAL.out] at h1
      rw [hJ.val]; omega
    obtain ⟨i, hii⟩ : ∃ i, i = i0 + k := ⟨_, rfl⟩
    rw [← hii]
    clear hJ
    by_cases hlt : k < L
    · obtain ⟨g0, g1, g2, g3⟩ := HAT.out i k hii (by rw [← HL.out]; exact hlt)
      have HII := Lib.hid hii
      have HG := Lib.hid g1
      clear hii g1
      go_wp2_with fail
      refine (digit_yes _ g2 g3 _).mono ?_
      rintro e w1 ⟨rfl, hb1⟩
      have hb2 : Below w.heap.size w w1 := HJ.out.bel.trans (hb1.mono hs1)
      go_wp2_with fail
      go_step3
      have hv : min (10 * m + ((s[i].toNat : Int) - 48)) 18014398509481984 = ((valL ((decL n).take (k + 1)) : Nat) : Int) := by
        have e1 := valL_take (decL n) k s[i] HG.out
        have e2 := valL_le (decL n) (k + 1)
        rw [HVAL.out] at e2
        have e3 := HJ.out.val
        omega
      refine ⟨rfl, ⟨k + 1, min (10 * m + ((s[i].toNat : Int) - 48)) 18014398509481984, ?fr, ⟨by rw [← HL.out]; omega, hv, hb2⟩⟩, ?_⟩
      case fr => rw [show i0 + (k + 1) = i + 1 by rw [HII.out]; omega]; unfold NumA; (repeat apply Exists.intro); rfl
      · simp [intOf]; omega
    · obtain rfl : k = L := by omega
      have hmn : m = (n : Int) := by
        rw [HJ.out.val, HL.out, List.take_length, HVAL.out]
      subst hmn
      have hz : ((s[i0].toNat : Int) == 48) = true ∧ (i : Int) ≤ (i0 : Int) + 1 ∨ ((s[i0].toNat : Int) == 48) = false := by
        rcases HLEAD.out with h1 | h1
        · by_cases h48 : ((s[i0].toNat : Int) == 48) = true
          · exact .inl ⟨h48, by omega⟩
          · exact .inr (by simpa using h48)
        · exact .inr h1
      have hend := fun h => HEND.out i (by rw [← HL.out]; exact hii) h
      have hii2 : (i0 : Int) + 1 ≤ (i : Int) := by omega
      have hii3 : i ≤ s.size := by omega
      have hr : ((i0 + k : Nat) : Int) = (i : Int) := by rw [hii]
      have HR := Lib.hid hr
      clear hii hr
      by_cases hls : i < s.size
      · have hno := hend hls
        have HNO := Lib.hid hno
        clear hend hno
        rcases hz with ⟨hz1, hz2⟩ | hz1
        all_goals
          go_wp2_with fail
          refine (digit_no _ HNO.out _).mono ?_
          rintro e w1 ⟨rfl, hb1⟩
          have hb2 : Below w.heap.size w w1 := HJ.out.bel.trans (hb1.mono hs1)
          go_wp2_with fail
          simp only [Exit.jump]
          go_ret3
          exact ⟨by rw [HR.out]; rfl, hb2⟩
      · obtain rfl : i = s.size := by omega
        clear hend
        rcases hz with ⟨hz1, hz2⟩ | hz1
        all_goals
          go_wp2_with fail
          simp only [Exit.jump]
          go_ret3
          exact ⟨by rw [HR.out]; rfl, HJ.out.bel⟩
  · intro HP
    go_wp2_with fail
    refine (digit_yes _ h02 h03 _).mono ?_
    rintro e w1 ⟨rfl, hb1⟩
    go_wp2_with fail
    go_step3
    rename_i hKK
    refine hKK _ _ (HP _ _ ?_)
    refine ⟨0, 0, ?fr, ⟨by omega, rfl, hb1⟩⟩
    case fr => unfold NumA; (repeat apply Exists.intro); rfl
end Go.Proofs.Ytkldkaahpicnmaa
