/- Values: their order, walked. -/
import Derived.Test.YtejbpnhondpnfaaFoldA
import Derived.StillTailTactics
namespace Go.Proofs.Ytejbpnhondpnfaa
open Go.RowKit

/-- The first that isn't 0. -/
def orZ : List Int → Int
  | [] => 0
  | a :: l => if a = 0 then orZ l else a

theorem orZ_drop {vs : List Int} {i : Nat} {a : Int} (h : vs[i]? = some a) : orZ (vs.drop i) = if a = 0 then orZ (vs.drop (i + 1)) else a := by
  obtain ⟨hlt, rfl⟩ := List.getElem?_eq_some_iff.1 h
  rw [List.drop_eq_getElem_cons hlt]
  rfl

theorem or_any (g : Nat) (vs : List Int) (t : TypeId) (W : World) (h : W.heap[g]? = some (.cells (vs.map (Value.int .i64)).toArray t (0, 0))) (hn : vs.length ≤ 1000) :
    Calls Try.prog 14 #[.slice (some ⟨g, 0, none⟩) vs.length vs.length] W fun e w' => e = .returned (.int .i64 (orZ vs)) ∧ w' = W := by
  have hcell : ∀ i a, vs[i]? = some a → W.cell? ⟨g, i, none⟩ = some (.int .i64 a) := fun i a hi => by
    obtain ⟨hlt, rfl⟩ := List.getElem?_eq_some_iff.1 hi
    simp [World.cell?, h, hlt]
  obtain ⟨o, ho⟩ : ∃ o, orZ vs = o := ⟨_, rfl⟩
  rw [ho]
  have hstart : orZ (vs.drop 0) = o := ho
  have HC := Lib.hid hcell
  clear hcell h ho
  go_enter Try.func14, Try.ntmps14
  go_wp2_with fail
  go_loop [8] (fun i => ∃ n : Nat, n ≤ vs.length ∧ i = .int .i64 n ∧ orZ (vs.drop n) = o) (fun i => vs.length - (intOf i).toNat)
  case atStart => exact ⟨0, by omega, rfl, hstart⟩
  case round =>
    obtain ⟨n, hle, rfl, hr⟩ := hrel
    clear hstart
    by_cases hlt : n < vs.length
    · obtain ⟨a, ha⟩ : ∃ a, vs[n]? = some a := ⟨_, List.getElem?_eq_getElem hlt⟩
      have hd := orZ_drop ha
      rw [hr] at hd
      have hc := HC.out n a ha
      clear hr
      by_cases ha0 : a = 0
      · rw [if_pos ha0] at hd
        rw [ha0] at hc
        have HD := Lib.hid hd
        clear hd ha0 ha
        go_wp2_with fail
        go_round
        case rel => exact ⟨n + 1, by omega, by go_num, HD.out.symm⟩
        case measure => simp [intOf]; omega
      · rw [if_neg ha0] at hd
        have hq : (a != 0) = true := by simp [ha0]
        have HD := Lib.hid hd
        clear hd ha
        go_wp2_with fail
        go_ret
        exact ⟨ret_int HD.out.symm, rfl⟩
    · obtain rfl : n = vs.length := by omega
      rw [List.drop_length] at hr
      have HD := Lib.hid (show 0 = o from hr)
      clear hr
      go_wp2_with fail
      go_ret
      exact ⟨ret_int HD.out, rfl⟩

/-- The order of values. -/
def ordV (a b : Val) : Int := orZ [Lib.compareInt a.k b.k, Lib.compareInt a.n b.n, Lib.compareBytes a.t.data.toList b.t.data.toList, Lib.compareInt a.x b.x, Lib.compareInt a.y b.y]

set_option maxHeartbeats 4000000 in
theorem order_any (a b : Val) (w : World) : Calls Try.prog 9 #[valV a, valV b] w fun e w' => e = .returned (.int .i64 (ordV a b)) ∧ Below w.heap.size w w' := by
  obtain ⟨W1, hW1⟩ : ∃ W1, W1 = (w.alloc (valB a)).alloc (valB b) := ⟨_, rfl⟩
  have hB : Below w.heap.size w W1 := by rw [hW1]; exact ((Below.refl _ w).alloc (Nat.le_refl _) _).alloc (by simp) _
  have hga : W1.heap[w.heap.size]? = some (valB a) := by rw [hW1, heap_alloc_old _ _ (by simp)]; exact heap_alloc_new w _
  have hgb : W1.heap[w.heap.size + 1]? = some (valB b) := by
    have := heap_alloc_new (w.alloc (valB a)) (valB b)
    rw [World.size_alloc] at this
    rw [hW1]; exact this
  obtain ⟨k0, k1, k2, k3, k4⟩ := five_cells hga
  obtain ⟨l0, l1, l2, l3, l4⟩ := five_cells hgb
  have HC : ∀ x y W, Calls Try.prog 15 #[.int .i64 x, .int .i64 y] W fun e w' => e = .returned (.int .i64 (Lib.compareInt x y)) ∧ w' = W := Try.cmp_Compare_int
  have HS : ∀ x y W, Calls Try.prog 16 #[.string x, .string y] W fun e w' => e = .returned (.int .i64 (Lib.compareBytes x.data.toList y.data.toList)) ∧ w' = W := Try.strings_Compare
  have HB := Lib.hid hB
  have hsz := hB.size
  clear hga hgb hB
  unfold valB at hW1
  unfold valV
  go_enter Try.func9, Try.ntmps9
  go_wp2_with (first | (rw [← hW1]; clear hW1))
  go_still_tail 29, (by kernel_rfl)
  still_call (HC _ _ _)
  repeat still_step
  still_call (HC _ _ _)
  repeat still_step
  still_call (HS _ _ _)
  repeat still_step
  still_call (HC _ _ _)
  repeat still_step
  still_call (HC _ _ _)
  refine wpStill_nil ?_
  change wpList _ _ _ _ _ W1.drew
  obtain ⟨w2, hW⟩ : ∃ w2, w2 = W1.drew := ⟨_, rfl⟩
  have hB2 : Below w.heap.size w w2 := by rw [hW]; exact HB.out.drew
  rw [← hW]
  have HB2 := Lib.hid hB2
  have hs2 := hB2.size
  clear hW hB2
  obtain ⟨o, ho⟩ : ∃ o, o = ordV a b := ⟨_, rfl⟩
  have HO := Lib.hid (or_any w2.heap.size [Lib.compareInt a.k b.k, Lib.compareInt a.n b.n, Lib.compareBytes a.t.data.toList b.t.data.toList, Lib.compareInt a.x b.x, Lib.compareInt a.y b.y] 3 (w2.alloc (.cells #[.int .i64 (Lib.compareInt a.k b.k), .int .i64 (Lib.compareInt a.n b.n), .int .i64 (Lib.compareBytes a.t.data.toList b.t.data.toList), .int .i64 (Lib.compareInt a.x b.x), .int .i64 (Lib.compareInt a.y b.y)] 3)) (heap_alloc_new _ _) (by simp))
  go_wp2_with fail
  refine HO.out.mono ?_
  rintro e w3 ⟨rfl, rfl⟩
  go_wp2_with fail
  go_ret
  exact ⟨rfl, HB2.out.alloc HB2.out.size _⟩
end Go.Proofs.Ytejbpnhondpnfaa
