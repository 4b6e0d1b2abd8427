/- Folding: the small functions, walked: the comparing of values, the wrapping of sums, a whole number's common divisor. -/
import Derived.Test.YtejbpnhondpnfaaJobShelf
import Derived.Test.YtejbpnhondpnfaaGaussA
import Derived.Deep.RegionHeld3
import Derived.Lib.Hide
import Derived.ScopeJumps
import Derived.BigQuiet
namespace Go.Proofs.Ytejbpnhondpnfaa
open Go.RowKit

/-- A sum brought back into its range. -/
def wrapZ (L n : Int) : Int := if n < -L then n + 2 * L else if L ≤ n then n - 2 * L else n

theorem wrapped_any (n L : Int) (h0 : 0 < L) (h1 : L ≤ 9007199254740992) (h2 : -72057594037927936 ≤ n) (h3 : n ≤ 72057594037927936) (w : World) :
    Calls Try.prog 17 #[.int .i64 n, .int .i64 L] w fun e w' => e = .returned (.int .i64 (wrapZ L n)) ∧ w = w' := by
  by_cases c1 : n < -L
  · have e : wrapZ L n = n + 2 * L := by unfold wrapZ; rw [if_pos c1]
    rw [e]
    clear e
    go_enter Try.func17, Try.ntmps17
    go_wp2_with fail
    go_ret
    exact ⟨rfl, rfl⟩
  · by_cases c2 : L ≤ n
    · have e : wrapZ L n = n - 2 * L := by unfold wrapZ; rw [if_neg c1, if_pos c2]
      rw [e]
      clear e
      go_enter Try.func17, Try.ntmps17
      go_wp2_with fail
      go_ret
      exact ⟨rfl, rfl⟩
    · have e : wrapZ L n = n := by unfold wrapZ; rw [if_neg c1, if_neg c2]
      rw [e]
      clear e
      go_enter Try.func17, Try.ntmps17
      go_wp2_with fail
      go_ret
      exact ⟨rfl, rfl⟩

theorem goto_scope {P : Program} {c K : Code} {a : Act} {w : World} {Q : Exit → Act → World → Prop} (l : Nat) (J : Act → World → Prop) (μ : Act → World → Nat) (hf : findLabel c l = some (.seq .skip K))
    (pass : ∀ a w, J a w → K.wp P (Exit.jump l (fun a' w' => J a' w' ∧ μ a' w' < μ a w) Q) a w)
    (first : (∀ a w, J a w → K.wp P (Exit.jump l J Q) a w) → c.wp P (Exit.jump l J Q) a w) : (Code.scope c).wp P Q a w := by
  refine wp_scope_jumps l J μ hf (first fun a w h => ?_) (fun a w h => wp_seq (wp_skip (pass a w h)))
  intro b k cs
  obtain ⟨e, a₁, w₁, hq, harr⟩ := pass a w h b k cs
  refine ⟨e, a₁, w₁, ?_, harr⟩
  cases e with
  | goto l' =>
    simp only [Exit.jump] at hq ⊢
    exact ⟨hq.1, hq.2.1⟩
  | normal => exact hq
  | exit _ => exact hq
  | ret => exact hq
  | panic _ => exact hq
  | outgrown => exact hq

def GcA (x y : Int) (a : Act) : Prop := ∃ u2 u3 u4 u5 u6 u7 u8 u9 u10 u11 u12 u13 u14 : Value, a = ⟨#[.int .i64 x, .int .i64 y, u2, u3, u4, u5, u6, u7, u8, u9, u10, u11, u12, u13, u14], []⟩

theorem gcd_step (x y : Int) : Int.gcd y (x.tmod y) = Int.gcd x y := by
  unfold Int.gcd
  rw [Int.natAbs_tmod, Nat.gcd_comm x.natAbs, Nat.gcd_rec y.natAbs x.natAbs, Nat.gcd_comm]
theorem gcd_end (x : Int) : Int.gcd x 0 = x.natAbs := by unfold Int.gcd; simp

theorem jcommon_any (a b : Int) (ha : -9007199254740992 ≤ a ∧ a ≤ 9007199254740992) (hb : -9007199254740992 ≤ b ∧ b ≤ 9007199254740992) (w : World) :
    Calls Try.prog 18 #[.int .i64 a, .int .i64 b] w fun e w' => e = .returned (.int .i64 (Int.gcd a b : Nat)) ∧ Below w.heap.size w w' := by
  go_enter Try.func18, Try.ntmps18
  go_wp2_with fail
  refine goto_scope 0 (fun a' w' => ∃ x y, GcA x y a' ∧ Below w.heap.size w w' ∧ Int.gcd x y = Int.gcd a b ∧ (-9007199254740992 ≤ x ∧ x ≤ 9007199254740992) ∧ (-9007199254740992 ≤ y ∧ y ≤ 9007199254740992)) (fun a' _ => (intOf (a'.tmps.getD 1 undef)).natAbs) rfl ?_ ?_
  · rintro a' w' ⟨x, y, hA, hw, hg, hx, hy⟩
    unfold GcA at hA
    obtain ⟨u2, u3, u4, u5, u6, u7, u8, u9, u10, u11, u12, u13, u14, rfl⟩ := hA
    by_cases h0 : y = 0
    · subst h0
      rw [gcd_end] at hg
      have hm : ∀ W : World, (Builtin.max_ #[3, 3] 3 #[.int .i64 x, .int .i64 (-x)]).run Try.prog W = .ok (.int .i64 (Int.gcd a b : Nat)) W := fun W => by
        rw [run_max_int2]
        have e : (if -x > x then -x else x) = (Int.gcd a b : Nat) := by
          rw [← hg]
          split <;> omega
        rw [e]
      have HG := Lib.hid hg
      clear hg
      go_wp2_with fail
      simp only [Exit.jump]
      go_ret
      exact ⟨rfl, hw⟩
    · have hg2 := (gcd_step x y).trans hg
      have hlt : (x.tmod y).natAbs < y.natAbs := by rw [Int.natAbs_tmod]; exact Nat.mod_lt _ (by omega)
      have hbd : -9007199254740992 ≤ x.tmod y ∧ x.tmod y ≤ 9007199254740992 := by omega
      have hd0 : (y == 0) = false := by rw [beq_eq_false_iff_ne]; omega
      have hwr : IntKind.i64.wrap (x.tmod y) = x.tmod y := by rw [IntKind.wrap_i64]; omega
      have HG := Lib.hid hg2
      have HL := Lib.hid hlt
      have HB := Lib.hid hbd
      clear hg hg2 hlt hbd
      go_wp2_with fail
      go_quiet (fail)
      all_goals
        go_wp2_with fail
        go_step3
        have hl := HL.out
        have hbd := HB.out
        refine ⟨rfl, ⟨y, x.tmod y, ?fr, ?j⟩, ?_⟩
        case fr => unfold GcA; (repeat apply Exists.intro); rfl
        case j => exact ⟨⟨hw.1, hw.2, hw.3, hw.4, hw.5⟩, HG.out, hy, hbd⟩
        · simpa [intOf] using hl
  · intro HP
    go_wp2_with fail
    go_step3
    rename_i hKK
    refine hKK _ _ (HP _ _ ?_)
    refine ⟨a, b, ?fr, Below.refl _ _, rfl, ha, hb⟩
    case fr => unfold GcA; (repeat apply Exists.intro); rfl
end Go.Proofs.Ytejbpnhondpnfaa
