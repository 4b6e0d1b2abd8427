/- A number, read from a tape. -/
import Derived.Test.YtkldkaahpicnmaaFragQ
import Derived.Test.YtkldkaahpicnmaaFragD
namespace Go.Proofs.Ytkldkaahpicnmaa
open Go.RowKit PFragNames

/-- A tape in memory: its text, and how far it was read. -/
def TapeAt (w : World) (t : Nat) (s : ByteArray) (p : Nat) : Prop := w.heap[t]? = some (.cells #[.string s, .int .i64 (p : Int)] 67 (0, 0))

theorem TapeAt.cells {w : World} {t : Nat} {s : ByteArray} {p : Nat} (h : TapeAt w t s p) : w.cell? ⟨t, 0, none⟩ = some (.string s) ∧ w.cell? ⟨t, 1, none⟩ = some (.int .i64 (p : Int)) ∧ w.frozen? ⟨t, 0, none⟩ = false ∧ w.frozen? ⟨t, 1, none⟩ = false := by
  unfold TapeAt at h
  simp [World.cell?, World.frozen?, h]

theorem TapeAt.lt {w : World} {t : Nat} {s : ByteArray} {p : Nat} (h : TapeAt w t s p) : t < w.heap.size := (Array.getElem?_eq_some_iff.1 h).1
theorem TapeAt.below {w w' : World} {t : Nat} {s : ByteArray} {p : Nat} (h : TapeAt w t s p) (hb : Below w.heap.size w w') : TapeAt w' t s p := (hb.block t h.lt).trans h

theorem left_any (t : Nat) (s : ByteArray) (p : Nat) (w : World) (h : TapeAt w t s p) (hp : p ≤ s.size) (hs : s.size ≤ 2000000) :
    Calls Try.prog 34 #[.pointer (some ⟨t, 0, none⟩)] w fun e w' => e = .returned (.int .i64 ((s.size - p : Nat) : Int)) ∧ Below w.heap.size w w' := by
  obtain ⟨c0, c1, _⟩ := h.cells
  have hwr : IntKind.i64.wrap ((s.size : Int) - (p : Int)) = ((s.size - p : Nat) : Int) := by rw [IntKind.wrap_i64]; omega
  go_enter Try.func34, Try.ntmps34
  go_wp2_with fail
  go_still (by kernel_rfl)
  go_wp2_with fail
  go_ret
  exact ⟨rfl, (Below.refl _ w).drew⟩

def PeekA (t acc i : Nat) (a : Act) : Prop :=
  ∃ u1 u2 u3 u4 u8 u9 u10 u11 u12 u13 u14 u15 u16 u17 u18 u19 u20 u21 u22 u23 u24 u25 u26 u27 u28 u29 u30 u31 u32 u33 u34 u35 u36 u37 u38 u39 u40 u41 u42 u43 u44 u45 u46 u47 u48 u49 u50 u51 u52 u53 u54 u55 u56 : Value, a = ⟨#[.pointer (some ⟨t, 0, none⟩), u1, u2, u3, u4, .int .i64 (acc : Nat), .int .i64 (i : Nat), .int .i64 ((7 * i : Nat) : Int), u8, u9, u10, u11, u12, u13, u14, u15, u16, u17, u18, u19, u20, u21, u22, u23, u24, u25, u26, u27, u28, u29, u30, u31, u32, u33, u34, u35, u36, u37, u38, u39, u40, u41, u42, u43, u44, u45, u46, u47, u48, u49, u50, u51, u52, u53, u54, u55, u56], []⟩

theorem numL_head (m : Nat) (h : m < 128) : numL m = [UInt8.ofNat m] := by unfold numL; rw [if_pos h]
theorem numL_more (m : Nat) (h : ¬ m < 128) : numL m = UInt8.ofNat (m % 128 + 128) :: numL (m / 128) := by rw [numL, if_neg h]

theorem wrap_sum {acc M n : Nat} (h : acc + M = n) (hn : n ≤ 9007199254740991) : wrap64 ((acc : Int) + wrap64 (M : Int)) = (n : Int) := by unfold wrap64; omega

structure PeekJ (s : ByteArray) (p n acc i m : Nat) (w w' : World) : Prop where
  suf : (numL n).drop i = numL m
  sum : acc + m * 128 ^ i = n
  pos : i = 0 ∨ 0 < m
  few : i ≤ 7
  bel : Below w.heap.size w w'

set_option maxHeartbeats 4000000 in
set_option maxRecDepth 100000 in
theorem peek_any (t : Nat) (s : ByteArray) (p n : Nat) (rest : List UInt8) (w : World) (h : TapeAt w t s p) (hp : p ≤ s.size) (hs : s.size ≤ 2000000) (hd : s.data.toList.drop p = numL n ++ rest) (hn : n ≤ 9007199254740991) :
    Calls Try.prog 33 #[.pointer (some ⟨t, 0, none⟩)] w fun e w' => e = .returned (.tuple #[.int .i64 (n : Int), .int .i64 ((numL n).length : Int), .int .i64 0]) ∧ Below w.heap.size w w' := by
  have HD := Lib.hid hd
  clear hd
  go_enter Try.func33, Try.ntmps33
  go_wp2_with fail
  refine wp_scope_label 0 (fun a' w' => ∃ acc i m, PeekA t acc i a' ∧ PeekJ s p n acc i m w w') (fun a' _ => 20 - (intOf (a'.tmps.getD 6 undef)).toNat) rfl ?_ ?_
  · rintro a' w' ⟨acc, i, m, hA, hJ⟩
    unfold PeekA at hA
    obtain ⟨u1, hA⟩ := hA
    obtain ⟨u2, hA⟩ := hA
    obtain ⟨u3, hA⟩ := hA
    obtain ⟨u4, hA⟩ := hA
    obtain ⟨u8, hA⟩ := hA
    obtain ⟨u9, hA⟩ := hA
    obtain ⟨u10, hA⟩ := hA
    obtain ⟨u11, hA⟩ := hA
    obtain ⟨u12, hA⟩ := hA
    obtain ⟨u13, hA⟩ := hA
    obtain ⟨u14, hA⟩ := hA
    obtain ⟨u15, hA⟩ := hA
    obtain ⟨u16, hA⟩ := hA
    obtain ⟨u17, hA⟩ := hA
    obtain ⟨u18, hA⟩ := hA
    obtain ⟨u19, hA⟩ := hA
    obtain ⟨u20, hA⟩ := hA
    obtain ⟨u21, hA⟩ := hA
    obtain ⟨u22, hA⟩ := hA
    obtain ⟨u23, hA⟩ := hA
    obtain ⟨u24, hA⟩ := hA
    obtain ⟨u25, hA⟩ := hA
    obtain ⟨u26, hA⟩ := hA
    obtain ⟨u27, hA⟩ := hA
    obtain ⟨u28, hA⟩ := hA
    obtain ⟨u29, hA⟩ := hA
    obtain ⟨u30, hA⟩ := hA
    obtain ⟨u31, hA⟩ := hA
    obtain ⟨u32, hA⟩ := hA
    obtain ⟨u33, hA⟩ := hA
    obtain ⟨u34, hA⟩ := hA
    obtain ⟨u35, hA⟩ := hA
    obtain ⟨u36, hA⟩ := hA
    obtain ⟨u37, hA⟩ := hA
    obtain ⟨u38, hA⟩ := hA
    obtain ⟨u39, hA⟩ := hA
    obtain ⟨u40, hA⟩ := hA
    obtain ⟨u41, hA⟩ := hA
    obtain ⟨u42, hA⟩ := hA
    obtain ⟨u43, hA⟩ := hA
    obtain ⟨u44, hA⟩ := hA
    obtain ⟨u45, hA⟩ := hA
    obtain ⟨u46, hA⟩ := hA
    obtain ⟨u47, hA⟩ := hA
    obtain ⟨u48, hA⟩ := hA
    obtain ⟨u49, hA⟩ := hA
    obtain ⟨u50, hA⟩ := hA
    obtain ⟨u51, hA⟩ := hA
    obtain ⟨u52, hA⟩ := hA
    obtain ⟨u53, hA⟩ := hA
    obtain ⟨u54, hA⟩ := hA
    obtain ⟨u55, hA⟩ := hA
    obtain ⟨u56, hA⟩ := hA
    subst hA
    obtain ⟨j1, j2, j3, j4, j5⟩ := hJ
    have hT := h.below j5
    have HL := Lib.hid (left_any t s p w' hT hp hs)
    have hs1 := j5.size
    have hpow : 0 < 128 ^ i := Nat.pow_pos (by decide)
    have hlen : p + i < s.size := by
      have e1 : (numL n ++ rest).length = s.size - p := by rw [← HD.out, List.length_drop]; rfl
      have e2 : ((numL n).drop i).length = (numL m).length := by rw [j1]
      have e3 : 0 < (numL m).length := by
        by_cases hm : m < 128
        · rw [numL_head m hm]; simp
        · rw [numL_more m hm]; simp
      rw [List.length_drop] at e2
      rw [List.length_append] at e1
      omega
    obtain ⟨q, hq⟩ : ∃ q, q = p + i := ⟨_, rfl⟩
    have hlq : q < s.size := by omega
    have hwr : IntKind.i64.wrap ((p : Int) + (i : Int)) = (q : Int) := by rw [IntKind.wrap_i64]; omega
    have hk1 : (0 : Int) ≤ (q : Int) ∧ (q : Int) < (s.size : Int) := by omega
    have hbyte : (numL m)[0]? = some s[q] := by
      have e1 : (s.data.toList.drop p)[i]? = some s[q] := by
        rw [List.getElem?_drop, ← hq]
        simp [hlq]
        rfl
      rw [HD.out, List.getElem?_append_left (by
        have e2 : ((numL n).drop i).length = (numL m).length := by rw [j1]
        rw [List.length_drop] at e2
        have e3 : 0 < (numL m).length := by
          by_cases hm : m < 128
          · rw [numL_head m hm]; simp
          · rw [numL_more m hm]; simp
        omega)] at e1
      rw [← e1, ← j1, List.getElem?_drop, Nat.add_zero]
    have J1 := Lib.hid j1
    have J2 := Lib.hid j2
    have HQ := Lib.hid hq
    clear j1 j2 hq
    have h2p : (2 : Int) ^ (7 * i) = ((128 ^ i : Nat) : Int) := by
      rw [Int.pow_mul]
      simp
    have hge : ¬ (((s.size - p : Nat) : Int) ≤ (i : Int)) := by omega
    have hnn : ¬ ((9007199254740991 : Int) < (n : Int)) := by omega
    have hnn2 : decide ((9007199254740991 : Int) < (n : Int)) = false := decide_eq_false (by omega)
    by_cases hm : m < 128
    · have hb : s[q].toNat = m := by
        rw [numL_head m hm] at hbyte
        simp only [List.getElem?_cons_zero, Option.some.injEq] at hbyte
        rw [← hbyte, UInt8.toNat_ofNat']; omega
      have hbz : ((s[q].toNat : Nat) : Int) = (m : Int) := by rw [hb]
      have hlen2 : (numL n).length = i + 1 := by
        have e2 : ((numL n).drop i).length = (numL m).length := by rw [J1.out]
        rw [numL_head m hm, List.length_drop] at e2
        simp at e2
        omega
      have hv : wrap64 ((acc : Int) + wrap64 ((m : Int) % 128 * 2 ^ (7 * i))) = (n : Int) := by
        have e3 : (m : Int) % 128 = m := by omega
        have e4 : ((m * 128 ^ i : Nat) : Int) = (m : Int) * ((128 ^ i : Nat) : Int) := by push_cast; rfl
        have e5 := J2.out
        rw [e3, h2p, ← e4]
        exact wrap_sum e5 hn
      have HLEN := Lib.hid hlen2
      have hb0 : ((m : Int) == 0) = true ∧ ((i : Int) + 1 ≤ 1) ∨ ((m : Int) == 0) = false := by
        by_cases hm0 : m = 0
        · exact .inl ⟨by rw [hm0]; rfl, by omega⟩
        · exact .inr (by rw [beq_eq_false_iff_ne]; omega)
      clear hbyte hb hlen2 h2p
      rcases hb0 with ⟨hmz, hi1⟩ | hmz
      all_goals
        go_wp2_with fail
        refine HL.out.mono ?_
        rintro e w1 ⟨rfl, hb1⟩
        obtain ⟨c0, c1, _⟩ := (hT.below hb1).cells
        have hb2 : Below w.heap.size w w1 := j5.trans (hb1.mono hs1)
        go_wp2_with fail
        refine wp_region_still_lit (by kernel_rfl) (by kernel_rfl) ?_
        repeat still_step
        refine wpStill_nil ?_
        go_wp2_with fail
        all_goals first
          | (exfalso; omega)
          | (simp only [Exit.jump]
             go_ret3
             exact ⟨by rw [HLEN.out]; rfl, hb2.drew⟩)
    · have hb : s[q].toNat = m % 128 + 128 := by
        rw [numL_more m hm] at hbyte
        simp only [List.getElem?_cons_zero, Option.some.injEq] at hbyte
        rw [← hbyte, UInt8.toNat_ofNat']; omega
      have hbz : ((s[q].toNat : Nat) : Int) = (m : Int) % 128 + 128 := by rw [hb]; omega
      have hi6 : (i : Int) + 1 < 8 := by
        have e2 : ((numL n).drop i).length = (numL m).length := by rw [J1.out]
        have e3 := numL_len 7 n (by omega)
        have e4 : 0 < (numL (m / 128)).length := by
          by_cases hm2 : m / 128 < 128
          · rw [numL_head _ hm2]; simp
          · rw [numL_more _ hm2]; simp
        rw [List.length_drop, numL_more m hm, List.length_cons] at e2
        omega
      have hv : wrap64 ((acc : Int) + wrap64 ((m : Int) % 128 * 2 ^ (7 * i))) = ((acc + m % 128 * 128 ^ i : Nat) : Int) := by
        have e3 : (m : Int) % 128 = ((m % 128 : Nat) : Int) := by omega
        have e4 : ((m % 128 * 128 ^ i : Nat) : Int) = ((m % 128 : Nat) : Int) * ((128 ^ i : Nat) : Int) := by push_cast; rfl
        have e6 : m % 128 * 128 ^ i ≤ m * 128 ^ i := Nat.mul_le_mul_right _ (Nat.mod_le _ _)
        rw [e3, h2p, ← e4]
        exact wrap_sum rfl (Nat.le_trans (Nat.le_trans (Nat.add_le_add_left e6 acc) (Nat.le_of_eq J2.out)) hn)
      obtain ⟨acc2, hacc⟩ : ∃ acc2, acc2 = acc + m % 128 * 128 ^ i := ⟨_, rfl⟩
      rw [← hacc] at hv
      have HACC := Lib.hid hacc
      clear hbyte hb h2p hacc
      go_wp2_with fail
      refine HL.out.mono ?_
      rintro e w1 ⟨rfl, hb1⟩
      obtain ⟨c0, c1, _⟩ := (hT.below hb1).cells
      have hb2 : Below w.heap.size w w1 := j5.trans (hb1.mono hs1)
      go_wp2_with fail
      refine wp_region_still_lit (by kernel_rfl) (by kernel_rfl) ?_
      repeat still_step
      refine wpStill_nil ?_
      go_wp2_with fail
      go_step3
      refine ⟨rfl, ⟨acc2, i + 1, m / 128, ?fr, ⟨?_, ?_, .inr (by omega), by omega, hb2.drew⟩⟩, ?_⟩
      case fr => unfold PeekA; (repeat apply Exists.intro); rfl
      · rw [← List.drop_drop, J1.out, numL_more m hm]; rfl
      · rw [HACC.out, ← J2.out, Nat.pow_succ]
        have e7 := Nat.div_add_mod m 128
        have e8 : m * 128 ^ i = (128 * (m / 128) + m % 128) * 128 ^ i := by rw [e7]
        rw [e8, Nat.add_mul, Nat.mul_comm (128 ^ i) 128, ← Nat.mul_assoc, Nat.mul_comm (m / 128) 128]
        omega
      · simp [intOf]; omega
  · intro HP
    go_wp2_with fail
    go_step3
    rename_i hKK
    refine hKK _ _ (HP _ _ ?_)
    refine ⟨0, 0, n, ?fr, ⟨rfl, by simp, .inl rfl, by omega, Below.refl _ _⟩⟩
    case fr => unfold PeekA; (repeat apply Exists.intro); rfl

end Go.Proofs.Ytkldkaahpicnmaa
