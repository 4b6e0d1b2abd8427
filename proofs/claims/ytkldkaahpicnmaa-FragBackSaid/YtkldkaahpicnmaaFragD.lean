/- A number, read. -/
import Derived.Test.YtkldkaahpicnmaaFragC
namespace Go.Proofs.Ytkldkaahpicnmaa
open Go.RowKit PFragNames

theorem wp_scope_label {P : Program} {c K : Code} {a : Act} {w : World} {Q : Exit → Act → World → Prop} (l : Nat) (J : Act → World → Prop) (μ : Act → World → Nat) (hf : findLabel c l = some (.seq .skip K))
    (pass : ∀ a w, J a w → K.wp P (Exit.jump l (fun a' w' => J a' w' ∧ μ a' w' < μ a w) Q) a w)
    (first : (∀ a w, J a w → K.wp P (Exit.jump l J Q) a w) → c.wp P (Exit.jump l J Q) a w) : (Code.scope c).wp P Q a w := by
  refine wp_scope_jumps l J μ hf (first fun a w h => ?_) (fun a w h => wp_seq (wp_skip (pass a w h)))
  intro b k cs
  obtain ⟨e, a₁, w₁, hq, harr⟩ := pass a w h b k cs
  refine ⟨e, a₁, w₁, ?_, harr⟩
  cases e with
  | goto l' =>
    simp only [Exit.jump] at hq ⊢
    exact ⟨hq.1, hq.2.1⟩
  | normal => exact hq
  | exit _ => exact hq
  | ret => exact hq
  | panic _ => exact hq
  | outgrown => exact hq

theorem digit_any (c : Int) (w : World) : Calls Try.prog 41 #[.int .u8 c] w (BoolEnd w) := by
  obtain ⟨r, hr⟩ : ∃ r, value_digit.f c = some r := by
    unfold value_digit.f
    by_cases h : c ≥ 48 <;> simp [h]
  refine (value_digit.calls c r w hr).mono ?_
  rintro e w' ⟨he, hd⟩
  obtain ⟨m, rfl⟩ := hd.out
  exact ⟨⟨r, he⟩, ⟨rfl, rfl, rfl, Nat.le_refl _, fun _ _ => rfl⟩⟩

theorem plain_any (c : Int) (w : World) : Calls Try.prog 37 #[.int .u8 c] w (BoolEnd w) := by
  obtain ⟨r, hr⟩ : ∃ r, value_plain.f c = some r := by
    unfold value_plain.f
    by_cases h1 : c ≥ 32 <;> by_cases h2 : c ≤ 126 <;> by_cases h3 : c = 34 <;> simp [h1, h2, h3]
  refine (value_plain.calls c r w hr).mono ?_
  rintro e w' ⟨he, hd⟩
  obtain ⟨m, rfl⟩ := hd.out
  exact ⟨⟨r, he⟩, ⟨rfl, rfl, rfl, Nat.le_refl _, fun _ _ => rfl⟩⟩

/-- A number, the place behind it, an error come back. -/
def NumEnd (s : ByteArray) (w : World) (e : Ending) (w' : World) : Prop :=
  (∃ (n : Int) (i : Nat) (er : Int), e = .returned (.tuple #[.int .i64 n, .int .i64 (i : Int), .int .i64 er]) ∧ i ≤ s.size) ∧ Below w.heap.size w w'

def NumA (s : ByteArray) (f i : Nat) (m sg : Int) (a : Act) : Prop :=
  ∃ u2 u3 u4 u5 u6 u10 u11 u12 u13 u14 u15 u16 u17 u18 u19 u20 u21 u22 u23 u24 u25 u26 u27 u28 u29 u30 u31 u32 u33 u34 u35 u36 u37 u38 u39 u40 u41 u42 u43 u44 u45 u46 u47 u48 u49 u50 u51 u52 u53 u54 u55 u56 u57 u58 u59 u60 u61 u62 u63 u64 u65 u66 u67 u68 u69 u70 u71 u72 : Value, a = ⟨#[.string s, .int .i64 (i : Nat), u2, u3, u4, u5, u6, .int .i64 m, .int .i64 sg, .int .i64 (f : Nat), u10, u11, u12, u13, u14, u15, u16, u17, u18, u19, u20, u21, u22, u23, u24, u25, u26, u27, u28, u29, u30, u31, u32, u33, u34, u35, u36, u37, u38, u39, u40, u41, u42, u43, u44, u45, u46, u47, u48, u49, u50, u51, u52, u53, u54, u55, u56, u57, u58, u59, u60, u61, u62, u63, u64, u65, u66, u67, u68, u69, u70, u71, u72], []⟩

structure NumJ (s : ByteArray) (f i : Nat) (m sg : Int) (w w' : World) : Prop where
  ff : f < s.size
  fi : f ≤ i
  ii : i ≤ s.size
  m0 : 0 ≤ m
  m1 : m ≤ 18014398509481984
  sg : sg = 1 ∨ sg = -1
  bel : Below w.heap.size w w'

set_option maxHeartbeats 4000000 in
theorem number_any (s : ByteArray) (i0 : Nat) (hs : s.size ≤ 1000000) (hi : i0 ≤ s.size) (w : World) : Calls Try.prog 47 #[.string s, .int .i64 (i0 : Int)] w (NumEnd s w) := by
  go_enter Try.func47, Try.ntmps47
  go_wp2_with fail
  refine wp_scope_label 0 (fun a' w' => ∃ f i m sg, NumA s f i m sg a' ∧ NumJ s f i m sg w w') (fun a' _ => s.size - (intOf (a'.tmps.getD 1 undef)).toNat) rfl ?_ ?_
  · rintro a' w' ⟨f, i, m, sg, hA, hJ⟩
    unfold NumA at hA
    obtain ⟨u2, hA⟩ := hA
    obtain ⟨u3, hA⟩ := hA
    obtain ⟨u4, hA⟩ := hA
    obtain ⟨u5, hA⟩ := hA
    obtain ⟨u6, hA⟩ := hA
    obtain ⟨u10, hA⟩ := hA
    obtain ⟨u11, hA⟩ := hA
    obtain ⟨u12, hA⟩ := hA
    obtain ⟨u13, hA⟩ := hA
    obtain ⟨u14, hA⟩ := hA
    obtain ⟨u15, hA⟩ := hA
    obtain ⟨u16, hA⟩ := hA
    obtain ⟨u17, hA⟩ := hA
    obtain ⟨u18, hA⟩ := hA
    obtain ⟨u19, hA⟩ := hA
    obtain ⟨u20, hA⟩ := hA
    obtain ⟨u21, hA⟩ := hA
    obtain ⟨u22, hA⟩ := hA
    obtain ⟨u23, hA⟩ := hA
    obtain ⟨u24, hA⟩ := hA
    obtain ⟨u25, hA⟩ := hA
    obtain ⟨u26, hA⟩ := hA
    obtain ⟨u27, hA⟩ := hA
    obtain ⟨u28, hA⟩ := hA
    obtain ⟨u29, hA⟩ := hA
    obtain ⟨u30, hA⟩ := hA
    obtain ⟨u31, hA⟩ := hA
    obtain ⟨u32, hA⟩ := hA
    obtain ⟨u33, hA⟩ := hA
    obtain ⟨u34, hA⟩ := hA
    obtain ⟨u35, hA⟩ := hA
    obtain ⟨u36, hA⟩ := hA
    obtain ⟨u37, hA⟩ := hA
    obtain ⟨u38, hA⟩ := hA
    obtain ⟨u39, hA⟩ := hA
    obtain ⟨u40, hA⟩ := hA
    obtain ⟨u41, hA⟩ := hA
    obtain ⟨u42, hA⟩ := hA
    obtain ⟨u43, hA⟩ := hA
    obtain ⟨u44, hA⟩ := hA
    obtain ⟨u45, hA⟩ := hA
    obtain ⟨u46, hA⟩ := hA
    obtain ⟨u47, hA⟩ := hA
    obtain ⟨u48, hA⟩ := hA
    obtain ⟨u49, hA⟩ := hA
    obtain ⟨u50, hA⟩ := hA
    obtain ⟨u51, hA⟩ := hA
    obtain ⟨u52, hA⟩ := hA
    obtain ⟨u53, hA⟩ := hA
    obtain ⟨u54, hA⟩ := hA
    obtain ⟨u55, hA⟩ := hA
    obtain ⟨u56, hA⟩ := hA
    obtain ⟨u57, hA⟩ := hA
    obtain ⟨u58, hA⟩ := hA
    obtain ⟨u59, hA⟩ := hA
    obtain ⟨u60, hA⟩ := hA
    obtain ⟨u61, hA⟩ := hA
    obtain ⟨u62, hA⟩ := hA
    obtain ⟨u63, hA⟩ := hA
    obtain ⟨u64, hA⟩ := hA
    obtain ⟨u65, hA⟩ := hA
    obtain ⟨u66, hA⟩ := hA
    obtain ⟨u67, hA⟩ := hA
    obtain ⟨u68, hA⟩ := hA
    obtain ⟨u69, hA⟩ := hA
    obtain ⟨u70, hA⟩ := hA
    obtain ⟨u71, hA⟩ := hA
    obtain ⟨u72, hA⟩ := hA
    subst hA
    obtain ⟨j1, j2, j3, j4, j5, j6, j7⟩ := hJ
    have hs1 := j7.size
    by_cases hlt : i < s.size
    · go_wp2_with fail
      refine (digit_any _ _).mono ?_
      rintro e w1 ⟨⟨q, rfl⟩, hb1⟩
      have hb2 : Below w.heap.size w w1 := j7.trans (hb1.mono hs1)
      cases q
      · go_wp2_with fail
        all_goals
          simp only [Exit.jump]
          go_ret3
          first | exact ⟨⟨_, i, _, rfl, by omega⟩, hb2⟩ | exact ⟨⟨_, 0, _, rfl, by omega⟩, hb2⟩
      · go_wp2_with fail
        go_step3
        refine ⟨rfl, ⟨f, i + 1, min (10 * m + ((s[i].toNat : Int) - 48) % 256) 18014398509481984, sg, ?fr, ⟨j1, by omega, by omega, ?_, ?_, j6, hb2⟩⟩, ?_⟩
        case fr => unfold NumA; (repeat apply Exists.intro); rfl
        · omega
        · omega
        · simp [intOf]; omega
    · obtain rfl : i = s.size := by omega
      go_wp2_with fail
      all_goals
        simp only [Exit.jump]
        go_ret3
        first | exact ⟨⟨_, s.size, _, rfl, by omega⟩, j7⟩ | exact ⟨⟨_, 0, _, rfl, by omega⟩, j7⟩
  · intro HP
    by_cases hlt : i0 < s.size
    · go_wp2_with fail
      all_goals first
        | (simp only [Exit.jump]; go_ret3; exact ⟨⟨_, 0, _, rfl, Nat.zero_le _⟩, Below.refl _ _⟩)
        | skip
      all_goals
        refine (digit_any _ _).mono ?_
        rintro e w1 ⟨⟨q, rfl⟩, hb1⟩
        cases q
        · go_wp2_with fail
          simp only [Exit.jump]
          go_ret3
          exact ⟨⟨_, 0, _, rfl, Nat.zero_le _⟩, hb1⟩
        · go_wp2_with fail
          go_step3
          rename_i hKK
          refine hKK _ _ (HP _ _ ?_)
          first
            | (refine ⟨i0, i0, 0, 1, ?fr, ⟨hlt, Nat.le_refl _, hi, by decide, by decide, .inl rfl, hb1⟩⟩
               case fr => unfold NumA; (repeat apply Exists.intro); rfl)
            | (refine ⟨i0 + 1, i0 + 1, 0, -1, ?fr, ⟨by omega, Nat.le_refl _, by omega, by decide, by decide, .inr rfl, hb1⟩⟩
               case fr => unfold NumA; (repeat apply Exists.intro); rfl)
    · obtain rfl : i0 = s.size := by omega
      go_wp2_with fail
      simp only [Exit.jump]
      go_ret3
      exact ⟨⟨_, 0, _, rfl, Nat.zero_le _⟩, Below.refl _ _⟩

end Go.Proofs.Ytkldkaahpicnmaa
