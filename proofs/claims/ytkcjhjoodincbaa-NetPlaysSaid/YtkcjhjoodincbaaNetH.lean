/- The statement NetKeeps: moving texts loses none, and makes none. -/
import Derived.Test.YtkcjhjoodincbaaNetG
namespace Go.Proofs.Ytkcjhjoodincbaa
open Go.RowKit

theorem move_none (b : Nat) (v : Value) (n t : Int) (w : World) (h : NetAt w b v []) :
    Calls Try.prog 17 #[.pointer (some ⟨b, 0, none⟩), .int .i64 n, .int .i64 t] w fun e w' => e = .returned (.bool false) ∧ w = w' := by
  go_enter Try.func17, Try.ntmps17
  go_wp2_with (first
    | (go_at_call 15; refine (take_none b v n w h).mono ?_; rintro e w' ⟨rfl, rfl⟩))
  go_ret
  exact ⟨rfl, rfl⟩

theorem move_nil (n t : Int) (w : World) :
    Calls Try.prog 17 #[.pointer none, .int .i64 n, .int .i64 t] w fun e w' => e = .returned (.bool false) ∧ w = w' := by
  go_enter Try.func17, Try.ntmps17
  go_wp2_with (first
    | (go_at_call 15; refine (take_nil n w).mono ?_; rintro e w' ⟨rfl, rfl⟩))
  go_ret
  exact ⟨rfl, rfl⟩

theorem perm_move (l : List ByteArray) (i j : Nat) (s : ByteArray) (hs : l[i]? = some s) : (((l.take i ++ l.drop (i + 1)).take j ++ s :: (l.take i ++ l.drop (i + 1)).drop j)).Perm l := by
  have h1 : ((l.take i ++ l.drop (i + 1)).take j ++ s :: (l.take i ++ l.drop (i + 1)).drop j).Perm (s :: ((l.take i ++ l.drop (i + 1)).take j ++ (l.take i ++ l.drop (i + 1)).drop j)) := List.perm_middle
  rw [List.take_append_drop] at h1
  refine h1.trans ?_
  have h2 : (l.take i ++ s :: l.drop (i + 1)).Perm (s :: (l.take i ++ l.drop (i + 1))) := List.perm_middle
  refine h2.symm.trans ?_
  obtain ⟨hi, rfl⟩ := List.getElem?_eq_some_iff.1 hs
  rw [← List.drop_eq_getElem_cons hi, List.take_append_drop]

theorem move_all (b : Nat) (v : Value) (l : List ByteArray) (n t : Int) (w : World) (h : NetAt w b v l) (ok : Bool) (hok : ok = decide (0 < l.length)) :
    Calls Try.prog 17 #[.pointer (some ⟨b, 0, none⟩), .int .i64 n, .int .i64 t] w fun e w' => e = .returned (.bool ok) ∧ ∃ v' l', NetStep b v w w' v' l' ∧ l'.Perm l := by
  by_cases hl : 0 < l.length
  · have h1 := Int.emod_nonneg n (show (l.length : Int) ≠ 0 by omega)
    have h2 := Int.emod_lt_of_pos n (show (0 : Int) < (l.length : Int) by omega)
    obtain ⟨i, hi⟩ : ∃ i : Nat, (i : Int) = n % (l.length : Int) := ⟨(n % (l.length : Int)).toNat, by omega⟩
    have hil : i < l.length := by omega
    have h3 := Int.emod_nonneg t (show (((l.take i ++ l.drop (i + 1)).length : Int) + 1) ≠ 0 by omega)
    obtain ⟨j, hj⟩ : ∃ j : Nat, (j : Int) = t % (((l.take i ++ l.drop (i + 1)).length : Int) + 1) := ⟨(t % (((l.take i ++ l.drop (i + 1)).length : Int) + 1)).toNat, by omega⟩
    refine (move_any b v l n t w h i hi _ (List.getElem?_eq_getElem hil) _ rfl j hj).mono ?_
    rintro e w' ⟨rfl, v', hs⟩
    exact ⟨by rw [hok]; simp [hl], v', _, hs, perm_move l i j _ (List.getElem?_eq_getElem hil)⟩
  · obtain rfl : l = [] := List.length_eq_zero_iff.1 (by omega)
    refine (move_none b v n t w h).mono ?_
    rintro e w' ⟨rfl, rfl⟩
    exact ⟨by rw [hok]; simp, v, [], ⟨h, Chg.refl _ _, fun k hk => .inl hk⟩, List.Perm.refl _⟩

theorem NetAt.below {w w' : World} {b : Nat} {v : Value} {l : List ByteArray} (h : NetAt w b v l) {B : Nat} (hb : Below B w w') (hB : b < B) (hv : ∀ k, v.ownBlock = some k → k < B) : NetAt w' b v l := by
  refine ⟨(hb.block b hB).trans h.at_, ?_, h.few⟩
  obtain ⟨h1, h2⟩ := h.own
  refine ⟨h1, ?_⟩
  rcases h2 with h2 | ⟨g, c, cur, rfl, hg, hh, r⟩
  · exact .inl h2
  · exact .inr ⟨g, c, cur, rfl, hg, (hb.block g (hv g rfl)).trans hh, r⟩

set_option maxHeartbeats 4000000 in
theorem keeps_first (x0 : Value) (l : List ByteArray) (x1 : Value) (acts : List ActV) (w : World) (h0 : StrsAt w x0 l) (h1 : ActsAt w x1 acts) (hl : 100 < l.length) :
    Calls Try.prog 5 #[x0, x1] w fun e w' => e = .returned (.bool true) ∧ Below w.heap.size w w' := by
  obtain ⟨a0, c0, rfl, hlc0, hcm0⟩ := h0.val
  obtain ⟨a1, c1, rfl, hlc1, hcm1⟩ := h1.val
  unfold maxLen at hcm0 hcm1
  go_enter Try.func5, Try.ntmps5
  go_wp2_with fail
  refine (awake_any _).mono ?_
  rintro e w1 ⟨rfl, hb1⟩
  go_wp2_with fail
  refine (awake_any _).mono ?_
  rintro e w2 ⟨rfl, hb2⟩
  go_wp2_with fail
  go_ret
  exact ⟨rfl, hb1.trans (hb2.mono hb1.size)⟩

theorem NetAt.drew {w : World} {b : Nat} {v : Value} {l : List ByteArray} (h : NetAt w b v l) : NetAt w.drew b v l := ⟨h.at_, h.own, h.few⟩
theorem NetStep.of_drew {w w' : World} {b : Nat} {v v' : Value} {l : List ByteArray} (h : NetStep b v w.drew w' v' l) : NetStep b v w w' v' l := ⟨h.at_, h.chg.of_drew, h.new⟩

theorem len_is (b : Nat) (v : Value) (l : List ByteArray) (w : World) (h : NetAt w b v l) (n : Nat) (hn : l.length = n) :
    Calls Try.prog 11 #[.pointer (some ⟨b, 0, none⟩)] w fun e w' => e = .returned (.int .i64 n) ∧ w = w' := by
  subst hn
  exact len_any b v l w h

theorem butAt_take (l : List ByteArray) (i : Nat) : ∀ k, k ≤ l.length → butAt (l.take k) (i : Int) = (l.take k).eraseIdx i
  | 0, _ => by simp [butAt]
  | k + 1, hk => by
    have ih := butAt_take l i k (by omega)
    have hs : butAt (l.take k) (i : Int) ++ (if (k : Int) = (i : Int) then [] else [l[k]]) = butAt (l.take (k + 1)) (i : Int) := without_step l i k hk
    rw [← hs, ih, List.take_succ_eq_append_getElem hk]
    have hlen : (l.take k).length = k := by simp; omega
    by_cases h1 : i < k
    · rw [if_neg (by omega), List.eraseIdx_append_of_lt_length (by omega)]
    · by_cases h2 : i = k
      · subst h2
        rw [if_pos rfl, List.append_nil, List.eraseIdx_append_of_length_le (by omega), List.eraseIdx_of_length_le (by omega), hlen, Nat.sub_self]
        simp
      · rw [if_neg (by omega), List.eraseIdx_append_of_length_le (by omega), hlen, List.eraseIdx_of_length_le (by omega), List.eraseIdx_of_length_le (by simp; omega)]

theorem butAt_nat (l : List ByteArray) (i : Nat) : butAt l (i : Int) = l.eraseIdx i := by
  have := butAt_take l i l.length (Nat.le_refl _)
  rwa [List.take_length] at this

theorem own_empty (w : World) (B : Nat) (hB : B ≤ w.heap.size) : (w.alloc (.cells #[] 9)).ownsRow B 9 1 (.slice (some ⟨w.heap.size, 0, none⟩) 0 0) 0 [] :=
  World.ownsRow_made w #[] 0 hB (by decide) (by simp)

theorem perm_take {m L : List ByteArray} (h : m.Perm L) {i a : Nat} {s : ByteArray} (hi : m[i]? = some s) (ha : L[a]? = some s) : (m.take i ++ m.drop (i + 1)).Perm (L.eraseIdx a) := by
  obtain ⟨hil, rfl⟩ := List.getElem?_eq_some_iff.1 hi
  obtain ⟨hal, he⟩ := List.getElem?_eq_some_iff.1 ha
  have h1 : (m[i] :: (m.take i ++ m.drop (i + 1))).Perm m := by
    refine List.perm_middle.symm.trans ?_
    rw [← List.drop_eq_getElem_cons hil, List.take_append_drop]
  have h2 : (m[i] :: L.eraseIdx a).Perm L := by
    rw [List.eraseIdx_eq_take_drop_succ, ← he]
    refine List.perm_middle.symm.trans ?_
    rw [← List.drop_eq_getElem_cons hal, List.take_append_drop]
  exact (h1.trans (h.trans h2.symm)).cons_inv

/-- The row of a slice is not the net's. -/
def Apart (p : Nat) (v vL : Value) : Prop := ∀ g, vL.ownBlock = some g → g ≠ p ∧ v.ownBlock ≠ some g

theorem neg_one_mod (M : Nat) (h : 0 < M) : ((M - 1 : Nat) : Int) = (-1) % (M : Int) := by
  have e : (-1 : Int) = ((M - 1 : Nat) : Int) + (M : Int) * (-1) := by omega
  rw [e, Int.add_mul_emod_self_left, Int.emod_eq_of_lt (by omega) (by omega)]

/-- What the search has found. -/
def Found (L : List ByteArray) (s : ByteArray) (j : Nat) (q : Int) : Prop := (q = -1 ∧ ∀ t, t < j → L[t]? ≠ some s) ∨ (0 ≤ q ∧ q < L.length ∧ L[q.toNat]? = some s)

theorem found_miss (L : List ByteArray) (s : ByteArray) (j : Nat) (q : Int) (hj : j < L.length) (hf : Found L s j q) (h : (L[j].toList == s.toList) = false) : Found L s (j + 1) q := by
  rcases hf with ⟨h1, h2⟩ | hf
  · refine .inl ⟨h1, fun t ht => ?_⟩
    by_cases e : t = j
    · subst e
      rw [List.getElem?_eq_getElem hj]
      rintro ⟨rfl⟩
      simp at h
    · exact h2 t (by omega)
  · exact .inr hf

set_option maxHeartbeats 4000000 in
theorem keeps_few (x0 : Value) (l : List ByteArray) (x1 : Value) (acts : List ActV) (w : World) (h0 : StrsAt w x0 l) (h1 : ActsAt w x1 acts) (hl : l.length ≤ 100) :
    Calls Try.prog 5 #[x0, x1] w fun e w' => e = .returned (.bool true) ∧ Below w.heap.size w w' := by
  obtain ⟨a0, c0, rfl, hlc0, hcm0⟩ := h0.val
  obtain ⟨a1, c1, rfl, hlc1, hcm1⟩ := h1.val
  unfold maxLen at hcm0 hcm1
  have hlt : decide ((100 : Int) < (l.length : Int)) = false := decide_eq_false (by omega)
  go_enter Try.func5, Try.ntmps5
  go_wp2_with fail
  refine (awake_any _).mono ?_
  rintro e w1 ⟨rfl, hb1⟩
  go_wp2_with fail
  refine (few_any _ acts w1 (h1.below hb1 (Nat.le_refl _))).mono ?_
  rintro e w2 ⟨q, rfl, hq, rfl⟩
  have h01 := h0.below hb1 (Nat.le_refl _)
  have h11 := h1.below hb1 (Nat.le_refl _)
  cases q with
  | false =>
    go_wp2_with fail
    refine (awake_any _).mono ?_
    rintro e w2 ⟨rfl, hb2⟩
    go_wp2_with fail
    go_ret
    exact ⟨rfl, hb1.trans (hb2.mono hb1.size)⟩
  | true =>
    have hacts := hq rfl
    clear hq
    go_wp2_with fail
    refine (new_any _).mono ?_
    rintro e w2 ⟨rfl, hn, hc⟩
    obtain ⟨p, hp⟩ : ∃ p, p = w1.heap.size := ⟨_, rfl⟩
    rw [← hp] at hn ⊢
    have hp1 : w.heap.size ≤ p := by have := hb1.size; omega
    have hb2 : Below w1.heap.size w1 w2 := hc.below (Nat.le_refl _) (fun i hi => hi.elim)
    clear hp
    go_wp2_with fail
    refine (send_any p _ [] _ l _ hn (h01.below hb2 (Nat.le_refl _)) l.length (by simp; omega)).mono ?_
    rintro e w3 ⟨rfl, v3, hs3⟩
    have hb3 := hb1.trans ((hb2.mono hb1.size).trans (hs3.below hn hp1))
    have hn3 := hs3.at_
    rw [List.take_length, List.nil_append] at hn3
    go_wp2_with fail
    go_loopw [6] (fun i wr => ∃ (k : Nat) (v : Value) (m : List ByteArray), k ≤ acts.length ∧ i = .int .i64 k ∧ NetAt wr p v m ∧ m.Perm l ∧ Below w.heap.size w wr) (fun i _ => acts.length - (intOf i).toNat)
    case atStart => exact ⟨0, v3, l, by omega, rfl, hn3, List.Perm.refl _, hb3⟩
    case round =>
      obtain ⟨k, v, m, hk, rfl, hnm, hpm, hbw⟩ := hrel
      have hml := hpm.length_eq
      by_cases hlk : k < acts.length
      · have h1w := h1.below hbw (Nat.le_refl _)
        obtain ⟨a, ha⟩ : ∃ a, acts[k]? = some a := ⟨_, List.getElem?_eq_getElem hlk⟩
        obtain ⟨bb, off, rfl, _, _, k2, k3, _⟩ := acts_cell h1w k a ha
        have hmv := move_all p v m a.at_ a.to_ wr.drew hnm.drew (decide ((0 : Int) < (l.length : Int))) (by rw [hml]; exact decide_eq_decide.2 (by omega))
        have HM := Lib.hid hmv
        have hg1 : (decide ((0 : Int) < (l.length : Int)) != decide ((0 : Int) < (l.length : Int))) = false := by simp
        have hg2 : ((l.length : Int) != (l.length : Int)) = false := by simp
        have HL := Lib.hid hml
        clear hmv hml ha
        go_wp2_with fail
        go_region_law (first
          | (go_simp; go_at_call 17; refine HM.out.mono ?_; rintro e w4 ⟨rfl, v4, m4, hs4, hpm4⟩)
          | (go_simp; go_at_call 11; refine (len_is p v4 m4 _ hs4.at_ l.length (by rw [hpm4.length_eq]; exact HL.out)).mono ?_; rintro e w5 ⟨rfl, rfl⟩))
        all_goals
          go_wp2
          go_roundw
          case rel => exact ⟨k + 1, v4, m4, by omega, by go_num, hs4.at_, hpm4.trans hpm, hbw.trans (hs4.of_drew.below hnm hp1)⟩
          case measure => simp [intOf]; omega
      · clear hcm1
        have hsz := hbw.size
        obtain ⟨i0, hi0, hz0, hz1, hz2⟩ := info_parts Try.info9
        have hsrc := ((h0.below hbw (Nat.le_refl _)).below ((Below.refl wr.heap.size wr).alloc (Nat.le_refl _) (.cells #[] 9)) (Nat.le_refl _)).src l.length (Nat.le_refl _)
        rw [List.take_length] at hsrc
        go_wp2_with (at_builtin; refine wpList_append_src rfl _ _ 27 27 rfl wr.heap.size 9 i0 _ 1 16 Try.underlying27 hi0 hz0 hz1 hz2 rfl (by decide) _ _ _ rfl (own_empty wr wr.heap.size (Nat.le_refl _)) _ l.length _ rfl hsrc (by unfold maxLen; omega) (by omega) (by simp) ?_; intro vl w4 hown4 hchg4 hnew4)
        have hn4 : NetAt w4 p v m := by
          refine (hnm.alloc (.cells #[] 9)).below (hchg4.below (B := wr.heap.size) (by simp) (fun i hi => (own_lt (own_empty wr wr.heap.size (Nat.le_refl _)) i hi).1)) (Array.getElem?_eq_some_iff.1 hnm.at_).1 (fun g hg => (own_lt hnm.own g hg.symm).2)
        have hb4 : Below w.heap.size w w4 := (hbw.alloc hsz _).trans (hchg4.below (by simp; omega) (fun i hi => by have := own_lt (own_empty wr wr.heap.size (Nat.le_refl _)) i hi; omega))
        have hap4 : Apart p v vl := by
          intro g hg
          have h1 := own_lt hown4 g hg.symm
          have h2 : p < wr.heap.size := (Array.getElem?_eq_some_iff.1 hnm.at_).1
          exact ⟨by omega, fun h => by have := own_lt hnm.own g h.symm; omega⟩
        have how4 : w4.ownsRow w.heap.size 9 1 vl l.length (l.map Value.string) := by
          have := own_base hown4 hsz
          simpa using this
        clear hown4 hchg4 hnew4
        go_wp2
        go_loopw [7, 63] (fun vL j wr' => ∃ (k : Nat) (v : Value) (m L : List ByteArray), k ≤ l.length ∧ j = .int .i64 k ∧ NetAt wr' p v m ∧ wr'.ownsRow w.heap.size 9 1 vL L.length (L.map Value.string) ∧ L.length + k = l.length ∧ m.Perm L ∧ Below w.heap.size w wr' ∧ Apart p v vL) (fun _ j _ => l.length - (intOf j).toNat)
        case atStart => exact ⟨0, v, m, l, by omega, rfl, hn4, how4, by omega, hpm, hb4, hap4⟩
        case round =>
          obtain ⟨k, v, m, L, hk, rfl, hnm, hoL, hLk, hpm, hbw, hap⟩ := hrel
          obtain ⟨aL, cL, rfl, hLc, hLm, _⟩ := own_val hoL
          unfold maxLen at hLm
          have hml := hpm.length_eq
          by_cases hlk : k < l.length
          · obtain ⟨i, hi⟩ : ∃ i, i = m.length - 1 := ⟨_, rfl⟩
            obtain ⟨s, hs⟩ : ∃ s, m[i]? = some s := ⟨_, List.getElem?_eq_getElem (by omega)⟩
            have htk := take_any p v m (-1) _ hnm i (by rw [hi]; exact neg_one_mod _ (by omega)) s hs
            have HT := Lib.hid htk
            have HS := Lib.hid hs
            clear htk hs hi
            go_wp2_with fail
            refine HT.out.mono ?_
            rintro e w5 ⟨rfl, v5, hs5⟩
            have hn5 := hs5.at_
            have ho5 := own_kept hoL hs5.chg (fun g hg hS => by
              obtain ⟨q1, q2⟩ := hap g hg
              rcases hS with hS | hS
              · exact q1 hS
              · exact q2 hS.symm)
            have hb5 : Below w.heap.size w w5 := hbw.trans (hs5.below hnm hp1)
            have hap5 : Apart p v5 (.slice aL L.length cL) := by
              intro g hg
              obtain ⟨q1, q2⟩ := hap g hg
              refine ⟨q1, fun h => ?_⟩
              rcases hs5.new g h with h' | h'
              · exact q2 h'
              · have := own_lt hoL g hg.symm; omega
            have hL5 := own_strs ho5
            go_wp2_with fail
            go_loop [10, 11] (fun at_ i => ∃ (q : Int) (j : Nat), j ≤ L.length ∧ i = .int .i64 j ∧ at_ = .int .i64 q ∧ -1 ≤ q ∧ q < 1000 ∧ Found L s j q) (fun _ i => L.length - (intOf i).toNat)
            case atStart => exact ⟨-1, 0, by omega, rfl, rfl, by omega, by omega, .inl ⟨rfl, fun t ht => by omega⟩⟩
            case round =>
              obtain ⟨q, j, hj, rfl, rfl, hq1, hq2, hf⟩ := hrel
              by_cases hjl : j < L.length
              · obtain ⟨bL, oL, rfl, hcL⟩ := strs_cell hL5 j L[j] (List.getElem?_eq_getElem hjl)
                go_wp2
                · go_round
                  case rel => exact ⟨(j : Int), j + 1, by omega, by go_num, rfl, by omega, by omega, .inr ⟨by omega, by omega, by rw [Int.toNat_natCast, List.getElem?_eq_getElem hjl]; exact congrArg some (str_eq _ _ (by assumption))⟩⟩
                  case measure => simp [intOf]; omega
                · go_round
                  case rel => exact ⟨q, j + 1, by omega, by go_num, rfl, by omega, by omega, found_miss L s j q hjl hf (by assumption)⟩
                  case measure => simp [intOf]; omega
              · obtain rfl : j = L.length := by omega
                have hsL : s ∈ L := hpm.mem_iff.1 (List.mem_of_getElem? HS.out)
                rcases hf with ⟨rfl, hf⟩ | ⟨hq0, hqL, hqs⟩
                · obtain ⟨t, ht, he⟩ := List.mem_iff_getElem.1 hsL
                  exact absurd (by rw [List.getElem?_eq_getElem ht, he]) (hf t ht)
                obtain ⟨a, rfl⟩ := Int.eq_ofNat_of_zero_le hq0
                simp only [Int.ofNat_eq_natCast, Int.toNat_natCast] at hqs
                have hwo := without_any _ L (a : Int) w5 hL5 (by omega)
                have HW := Lib.hid hwo
                have HQ := Lib.hid hqs
                have hqn : ¬ ((a : Int) < 0) := by omega
                clear hwo hqs
                simp only [Int.ofNat_eq_natCast] at *
                go_wp2_with fail
                refine HW.out.mono ?_
                rintro e w6 ⟨v6, rfl, ho6, hb6⟩
                rw [butAt_nat] at ho6
                have hal := (List.getElem?_eq_some_iff.1 HQ.out).1
                have hel : (L.eraseIdx a).length = L.length - 1 := List.length_eraseIdx_of_lt hal
                have hn6 : NetAt w6 p v5 (m.take i ++ m.drop (i + 1)) := hn5.below hb6 (Array.getElem?_eq_some_iff.1 hn5.at_).1 (fun g hg => (own_lt hn5.own g hg.symm).2)
                have hap6 : Apart p v5 v6 := by
                  intro g hg
                  have h1 := own_lt ho6 g hg.symm
                  have h2 : p < w5.heap.size := (Array.getElem?_eq_some_iff.1 hn5.at_).1
                  exact ⟨by omega, fun h => by have := own_lt hn5.own g h.symm; omega⟩
                have hp6 := perm_take hpm HS.out HQ.out
                have hb56 := hb5.trans (hb6.mono hb5.size)
                have ho6' := own_base ho6 hb5.size
                clear ho6
                go_wp2
                go_roundw
                case rel => exact ⟨k + 1, v5, _, L.eraseIdx a, by omega, by go_num, hn6, ho6', by omega, hp6, hb56, hap6⟩
                case measure => simp [intOf]; omega
          · obtain rfl : k = l.length := by omega
            obtain rfl : L = [] := List.length_eq_zero_iff.1 (by omega)
            obtain rfl : m = [] := List.length_eq_zero_iff.1 (by omega)
            go_wp2_with fail
            refine (len_any p v [] _ hnm).mono ?_
            rintro e w5 ⟨rfl, rfl⟩
            go_wp2_with fail
            go_ret
            exact ⟨rfl, hbw⟩

theorem keeps_walk {x0 x1 : Value} {l : List ByteArray} {acts : List ActV} {w : World} (h0 : StrsAt w x0 l) (h1 : ActsAt w x1 acts) :
    Calls Try.prog 5 #[x0, x1] w fun e w' => e = .returned (.bool true) ∧ Below w.heap.size w w' := by
  by_cases hl : 100 < l.length
  · exact keeps_first x0 l x1 acts w h0 h1 hl
  · exact keeps_few x0 l x1 acts w h0 h1 (by omega)

end Go.Proofs.Ytkcjhjoodincbaa
