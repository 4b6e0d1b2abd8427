/- The closures of package place, and what they lean on. -/
import Derived.Test.YtboccnbncipnpaaRows
import Derived.Test.YtboccnbncipnpaaGen
import Derived.Test.YtboccnbncipnpaaPlaceShelf
import Derived.Laws.EntriesVeiled
import Derived.StillTailTactics
namespace Go.Proofs.Ytboccnbncipnpaa
open Go.RowKit Go.Sort

def cmpI (x y : Int) : Int := if x < y then -1 else if y < x then 1 else 0

theorem nan_any (x : Int) (w : World) : Calls Try.prog 22 #[.int .i64 x] w fun e w' => e = .returned (.bool false) ∧ w = w' := by
  have h : (x != x) = false := by simp
  go_enter Try.func22, Try.ntmps22
  go_wp2
  go_ret
  exact ⟨rfl, rfl⟩

theorem compare_any (x y : Int) (w : World) : Calls Try.prog 19 #[.int .i64 x, .int .i64 y] w fun e w' => e = .returned (.int .i64 (cmpI x y)) ∧ w = w' := by
  unfold cmpI
  by_cases h1 : x < y
  · rw [if_pos h1]
    go_enter Try.func19, Try.ntmps19
    go_wp2_with (first | (go_at_call 22; refine (nan_any _ _).mono ?_; rintro e w' ⟨rfl, rfl⟩))
    go_ret
    exact ⟨rfl, rfl⟩
  · rw [if_neg h1]
    by_cases h2 : y < x
    · rw [if_pos h2]
      go_enter Try.func19, Try.ntmps19
      go_wp2_with (first | (go_at_call 22; refine (nan_any _ _).mono ?_; rintro e w' ⟨rfl, rfl⟩))
      go_ret
      exact ⟨rfl, rfl⟩
    · rw [if_neg h2]
      go_enter Try.func19, Try.ntmps19
      go_wp2_with (first | (go_at_call 22; refine (nan_any _ _).mono ?_; rintro e w' ⟨rfl, rfl⟩))
      go_ret
      exact ⟨rfl, rfl⟩

def orI (x y : Int) : Int := if x = 0 then y else x

/-- The first k of two numbers are 0. -/
def Zeros (x y : Int) (k : Nat) : Prop := (0 < k → x = 0) ∧ (1 < k → y = 0)

theorem or_any (x y : Int) (b : Nat) (w : World) (h0 : w.cell? ⟨b, 0, none⟩ = some (.int .i64 x)) (h1 : w.cell? ⟨b, 1, none⟩ = some (.int .i64 y)) :
    Calls Try.prog 18 #[.slice (some ⟨b, 0, none⟩) 2 2] w fun e w' => e = .returned (.int .i64 (orI x y)) ∧ w = w' := by
  go_enter Try.func18, Try.ntmps18
  go_wp2
  go_loop [8] (fun i => ∃ k : Nat, k ≤ 2 ∧ i = .int .i64 k ∧ Zeros x y k) (fun i => 2 - (intOf i).toNat)
  case atStart => exact ⟨0, by omega, rfl, fun h => by omega, fun h => by omega⟩
  case round =>
    obtain ⟨k, hk, rfl, hz⟩ := hrel
    by_cases hlt : k < 2
    · obtain ⟨v, hv, hc⟩ : ∃ v, v = (if k = 0 then x else y) ∧ w.cell? ⟨b, k, none⟩ = some (.int .i64 v) := by
        by_cases h : k = 0
        · subst h; exact ⟨x, rfl, h0⟩
        · obtain rfl : k = 1 := by omega
          exact ⟨y, rfl, h1⟩
      have HV := Lib.hid hv
      clear hv h0 h1
      by_cases hx : v = 0
      · subst hx
        go_wp2
        go_round
        case rel =>
          refine ⟨k + 1, by omega, by go_num, fun _ => ?_, fun _ => ?_⟩
          · by_cases h : k = 0
            · have := HV.out; rw [if_pos h] at this; exact this.symm
            · exact hz.1 (by omega)
          · have := HV.out; rw [if_neg (by omega)] at this; exact this.symm
        case measure => simp [intOf]; omega
      · have hq : (v != 0) = true := by simp [hx]
        go_wp2
        go_ret
        refine ⟨ret_int ?_, rfl⟩
        have := HV.out
        unfold orI
        by_cases h : k = 0
        · rw [if_pos h] at this
          rw [if_neg (by rw [← this]; exact hx)]; exact this
        · rw [if_neg h] at this
          rw [if_pos (hz.1 (by omega))]; exact this
    · obtain rfl : k = 2 := by omega
      have e1 := hz.1 (by omega)
      have e2 := hz.2 (by omega)
      have HE : Hid (orI x y = 0) := by unfold orI; rw [if_pos e1, e2]; exact rfl
      clear e1 e2 hz
      go_wp2
      go_ret
      exact ⟨ret_int HE.out.symm, rfl⟩

theorem cell_two_new_0 (w : World) (u v : Value) (t : TypeId) : (w.alloc (.cells #[u, v] t)).cell? ⟨w.heap.size, 0, none⟩ = some u := by
  simp only [World.cell?, heap_alloc_new]
  rfl
theorem cell_two_new_1 (w : World) (u v : Value) (t : TypeId) : (w.alloc (.cells #[u, v] t)).cell? ⟨w.heap.size, 1, none⟩ = some v := by
  simp only [World.cell?, heap_alloc_new]
  rfl

theorem behind_any (i f n : Int) (pf pw : Addr) (w : World) (h0 : 0 ≤ i) (h1 : i < n) (h2 : 0 ≤ f) (h3 : f < n) (hn : n ≤ 1000) (hf : w.cell? pf = some (.int .i64 f)) (hw : w.cell? pw = some (.int .i64 n)) :
    Calls Try.prog 15 #[.int .i64 i, .pointer (some pf), .pointer (some pw)] w fun e w' => e = .returned (.int .i64 ((i - f) % n)) ∧ w = w' := by
  have hp : 0 ≤ i - f + n := by omega
  go_enter Try.func15, Try.ntmps15
  go_wp2
  go_ret
  exact ⟨ret_int (Int.add_emod_right _ _), rfl⟩

/-- What the comparing function reads: the loads, the turn's first worker, how many workers there are. -/
structure CmpAt (w : World) (pl pb pf pw : Addr) (A : Addr) (c : Nat) (loads : List Int) (f n : Int) : Prop where
  hl : w.cell? pl = some (.slice (some A) loads.length c)
  hb : w.cell? pb = some (.func (.func 15) #[] #[.pointer (some pf), .pointer (some pw)])
  hf : w.cell? pf = some (.int .i64 f)
  hw : w.cell? pw = some (.int .i64 n)
  each : ∀ (j : Nat) v, loads[j]? = some v → w.cell? (A.add j) = some (.int .i64 v)

/-- The order of two workers, as the comparing function has it. -/
def cfI (loads : List Int) (f n : Int) (i j : Int) : Int := orI (cmpI (loads.getD i.toNat 0) (loads.getD j.toNat 0)) (cmpI ((i - f) % n) ((j - f) % n))

set_option maxHeartbeats 1000000 in
theorem cmp_any (i j : Nat) (f n : Int) (pl pb pf pw A : Addr) (c : Nat) (loads : List Int) (w : World) (h : CmpAt w pl pb pf pw A c loads f n) (hl : (loads.length : Int) = n) (hi : i < loads.length) (hj : j < loads.length) (h2 : 0 ≤ f) (h3 : f < n) (hn : n ≤ 1000) :
    Calls Try.prog 17 #[.int .i64 i, .int .i64 j, .pointer (some pl), .pointer (some pb)] w fun e w' => e = .returned (.int .i64 (cfI loads f n i j)) ∧ ∃ q os', w' = Go.Sort.grow (w.drewN q) os' := by
  obtain ⟨k1, k2, k3, k4, k5⟩ := h
  have ei := k5 i _ (List.getElem?_eq_getElem hi)
  have ej := k5 j _ (List.getElem?_eq_getElem hj)
  have HF : Hid (orI (cmpI loads[i] loads[j]) (cmpI (((i : Int) - f) % n) (((j : Int) - f) % n)) = cfI loads f n i j) := by
    unfold cfI
    rw [Int.toNat_natCast, Int.toNat_natCast, List.getD_eq_getElem?_getD, List.getD_eq_getElem?_getD, List.getElem?_eq_getElem hi, List.getElem?_eq_getElem hj]
    exact rfl
  have HCc : ∀ x y W, Calls Try.prog 19 #[.int .i64 x, .int .i64 y] W fun e w' => e = .returned (.int .i64 (cmpI x y)) ∧ w' = W := fun x y W => (compare_any x y W).mono fun _ _ ⟨a, b⟩ => ⟨a, b.symm⟩
  have hbi := fun W (hW : ∀ a, W.cell? a = w.cell? a) => behind_any i f n pf pw W (by omega) (by omega) h2 h3 hn ((hW _).trans k3) ((hW _).trans k4)
  have hbj := fun W (hW : ∀ a, W.cell? a = w.cell? a) => behind_any j f n pf pw W (by omega) (by omega) h2 h3 hn ((hW _).trans k3) ((hW _).trans k4)
  have hiI : (i : Int) < (loads.length : Int) := by omega
  have hjI : (j : Int) < (loads.length : Int) := by omega
  have HBi := Lib.hid (fun (W : World) (hW : ∀ a, W.cell? a = w.cell? a) => (hbi W hW).mono fun _ _ ⟨a, b⟩ => (⟨a, b.symm⟩ : _ ∧ _ = _))
  have HBj := Lib.hid (fun (W : World) (hW : ∀ a, W.cell? a = w.cell? a) => (hbj W hW).mono fun _ _ ⟨a, b⟩ => (⟨a, b.symm⟩ : _ ∧ _ = _))
  have hiN : (i : Int) < n := by omega
  have hjN : (j : Int) < n := by omega
  have HL := Lib.hid hl
  clear k5 hbi hbj hl
  go_enter Try.func17, Try.ntmps17
  go_wp2_with fail
  go_still_tail 16, (by kernel_rfl)
  still_call (HCc _ _ _)
  repeat still_step
  still_call (HBi.out _ (fun _ => rfl))
  repeat still_step
  still_call (HBj.out _ (fun _ => rfl))
  repeat still_step
  still_call (HCc _ _ _)
  refine wpStill_nil ?_
  change wpList _ _ _ _ _ w.drew
  obtain ⟨w2, hW⟩ : ∃ w2, w2 = w.drew := ⟨_, rfl⟩
  rw [← hW]
  have HW := Lib.hid hW
  clear hW
  go_wp2_with fail
  refine (or_any _ _ w2.heap.size _ (cell_two_new_0 w2 _ _ 3) (cell_two_new_1 w2 _ _ 3)).mono ?_
  rintro e w3 ⟨rfl, rfl⟩
  go_wp2_with fail
  go_ret
  refine ⟨ret_int HF.out, 1, #[.cells #[.int .i64 (cmpI loads[i] loads[j]), .int .i64 (cmpI (((i : Int) - f) % n) (((j : Int) - f) % n))] 3], ?_⟩
  rw [HW.out, alloc_eq_grow]
  rfl

end Go.Proofs.Ytboccnbncipnpaa
