/- Two slices of the same texts are told the same. -/
import Derived.Test.YtclibfiaihhbaaaDiskN
import Derived.Test.YtclibfiaihhbaaaDiskF
import Derived.Outline
import Derived.Deep.QuietTactic
import Derived.BigQuiet
import Derived.StillTailTactics
namespace Go.Proofs.Ytclibfiaihhbaaa
open Go.RowKit Go.ChangeMaps Go.MapKept

set_option maxHeartbeats 1000000 in
theorem same_texts {x y : Value} {l : List ByteArray} {w : World} (hx : StrsAt w x l) (hy : StrsAt w y l) :
    Calls Try.prog 18 #[x, y] w fun e w' => e = .returned (.bool true) ∧ ∃ n, w' = w.drewN n := by
  obtain ⟨xa, xc, rfl, hxc, hxm⟩ := hx.val
  obtain ⟨ya, yc, rfl, hyc, hym⟩ := hy.val
  unfold maxLen at hxm hym
  go_enter Try.func18, Try.ntmps18
  go_wp2
  go_loopw [5] (fun i wr => ∃ k n : Nat, k ≤ l.length ∧ i = .int .i64 k ∧ wr = w.drewN n) (fun i _ => l.length - (intOf i).toNat)
  case atStart => exact ⟨0, 0, by omega, rfl, rfl⟩
  case round =>
    obtain ⟨k, n, hk, rfl, hwr⟩ := hrel
    by_cases hlt : k < l.length
    · obtain ⟨s, hs⟩ : ∃ s, l[k]? = some s := ⟨_, List.getElem?_eq_getElem hlt⟩
      obtain ⟨bx, ox, ex, hcx⟩ := strs_cell hx k s hs
      obtain ⟨bb, ob, eb, hcy⟩ := strs_cell hy k s hs
      subst ex eb
      have c1 : wr.cell? ⟨bx, ox + k, none⟩ = some (.string s) := by rw [hwr]; exact hcx
      have c2 : wr.cell? ⟨bb, ob + k, none⟩ = some (.string s) := by rw [hwr]; exact hcy
      have HW := Lib.hid hwr
      clear hwr hcx hcy hx hy
      have hss : (s.toList == s.toList) = true := by simp
      go_wp2
      go_quiet (fail)
      go_wp2
      go_roundw
      case rel => exact ⟨k + 1, _, by omega, by go_num, by rw [HW.out, World.drewN_drewN]⟩
      case measure => simp [intOf]; omega
    · have HW := Lib.hid hwr
      clear hwr
      go_wp2
      go_ret
      exact ⟨rfl, n, HW.out⟩
end Go.Proofs.Ytclibfiaihhbaaa
