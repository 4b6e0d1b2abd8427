/- The statement DiskKeeps, walked. -/
import Derived.Test.YtclibfiaihhbaaaDiskF
namespace Go.Proofs.Ytclibfiaihhbaaa
open Go.RowKit Go.ChangeMaps Go.MapKept

theorem look_spoil_other {k k' : ByteArray} (h : k' ≠ k) (l : List KV) (at_ y : Int) : look (spoilS l k at_ y) k' = look l k' := by
  unfold spoilS
  cases look l k with
  | none => rfl
  | some u =>
    simp only
    split
    · rfl
    · exact look_put_other h _ _
theorem look_write_other {k k' : ByteArray} (h : k' ≠ k) (size : Nat) (l : List KV) (v : ByteArray) : look (writeS size l k v) k' = look l k' := by
  unfold writeS
  split
  · rfl
  · split
    · rfl
    · exact look_put_other h _ _
theorem look_done_other {a : ActV} {k : ByteArray} (h : k ≠ a.k) (h7 : a.d % 8 ≠ 7) (size : Nat) (l : List KV) : look (doneS size l a) k = look l k := by
  unfold doneS
  rw [if_neg h7]
  split
  · rfl
  · split
    · exact look_del_other h _
    · split
      · exact look_spoil_other h _ _ _
      · exact look_write_other h _ _ _
theorem look_written {size : Nat} {k v : ByteArray} (h : writeE size [] k v = 0) : look (writeS size [] k v) k = some v := by
  unfold writeE at h
  unfold writeS
  split at h
  · cases h
  · split at h
    · cases h
    · rename_i h1 h2
      rw [if_neg h1, if_neg h2]
      exact look_put_same k v []
theorem unwritten {size : Nat} {k v : ByteArray} (h : writeE size [] k v ≠ 0) : writeS size [] k v = [] := by
  unfold writeE at h
  unfold writeS
  split at h
  · rename_i h1; rw [if_pos h1]
  · split at h
    · rename_i h1 h2; rw [if_neg h1, if_pos h2]
    · exact absurd rfl h
theorem list_beq_ne {a b : ByteArray} (h : a ≠ b) : (a.toList == b.toList) = false := by
  cases e : a.toList == b.toList
  · rfl
  · exact absurd (str_eq a b e) h
theorem list_beq_self (a : ByteArray) : (a.toList == a.toList) = true := by simp

set_option maxHeartbeats 4000000 in
set_option maxRecDepth 100000 in
theorem keeps_walk {n : Int} {x : Value} {l : List ActV} {name s : ByteArray} {w : World} (hx : ActsAt w x l) (hname : name.size ≤ 140737488351232) (hs : s.size ≤ 140737488351232) :
    Calls Try.prog 3 #[.int .i64 n, x, .string name, .string s] w fun e w' => e = .returned (.bool true) ∧ Below w.heap.size w w' := by
  obtain ⟨a, c, rfl, hlc, hcm⟩ := hx.val
  unfold maxLen at hcm
  have hnm : name.size ≤ maxLen := by unfold maxLen; omega
  go_enter Try.func3, Try.ntmps3
  go_wp2_with fail
  refine (awake_any _).mono ?_
  rintro e w1 ⟨rfl, hb1⟩
  have hx1 := hx.below hb1 (Nat.le_refl _)
  go_wp2_with fail
  refine (few_any _ l w1 hx1).mono ?_
  rintro e w2 ⟨q, rfl, hq, m, hw2⟩
  have hb2 : Below w.heap.size w w2 := by rw [hw2]; exact ⟨hb1.os, hb1.tape, hb1.output, hb1.size, hb1.block⟩
  have hx2 := hx.below hb2 (Nat.le_refl _)
  clear hw2 hb1 hx1
  cases q with
  | false =>
    clear hq
    go_wp2_with fail
    refine (awake_any _).mono ?_
    rintro e w3 ⟨rfl, hb3⟩
    go_wp2_with fail
    go_ret
    exact ⟨rfl, hb2.trans (hb3.mono hb2.size)⟩
  | true =>
    obtain ⟨hl100, hfew⟩ := hq rfl
    clear hq
    by_cases hbad : n < 0 ∨ 4194304 < n
    · go_wp2_with fail
      refine (new_bad n w2 hbad).mono ?_
      rintro e w3 ⟨rfl, rfl⟩
      go_wp2_with fail
      go_ret
      exact ⟨rfl, hb2⟩
    obtain ⟨sz, rfl⟩ : ∃ sz : Nat, n = (sz : Int) := ⟨n.toNat, by omega⟩
    have hsz : sz ≤ 4194304 := by omega
    clear hbad
    go_wp2_with fail
    refine (new_any sz w2 hsz).mono ?_
    rintro e w3 ⟨p, b, rfl, hd3, hb3, hp3, hq3⟩
    have hpw : w.heap.size ≤ p := Nat.le_trans hb2.size hp3
    have hbw : w.heap.size ≤ b := Nat.le_trans hb2.size hq3
    have hb3' := hb2.trans (hb3.mono hb2.size)
    clear hp3 hq3 hb3
    go_wp2_with fail
    refine (write_any p b sz [] name s w3 hd3 hs).mono ?_
    rintro e w4 ⟨rfl, hd4, hc4⟩
    have hb4 := hb3'.trans (hc4.below hb3'.size (fun i hi => by omega))
    by_cases hE : writeE sz [] name s = 0
    · have hlk := look_written hE
      obtain ⟨L, hL⟩ : ∃ L, L = writeS sz [] name s := ⟨_, rfl⟩
      rw [← hL] at hlk hd4
      clear hL hc4 hb3' hd3 hx2
      rw [hE]
      go_wp2_with fail
      go_loopw [13] (fun i wr => ∃ (k : Nat) (L : List KV), k ≤ l.length ∧ i = .int .i64 k ∧ DiskAt wr p b sz L ∧ look L name = some s ∧ Below w.heap.size w wr) (fun i _ => l.length - (intOf i).toNat)
      case atStart => exact ⟨0, L, by omega, rfl, hd4, hlk, hb4⟩
      case round =>
        obtain ⟨k, L, hk, rfl, hd, hlk, hb⟩ := hrel
        by_cases hlt : k < l.length
        · have hxr := hx.below hb (Nat.le_refl _)
          obtain ⟨u, hu⟩ : ∃ u, l[k]? = some u := ⟨_, List.getElem?_eq_getElem hlt⟩
          obtain ⟨bb, off, rfl, hc0, hc1, hc2, hc3, hc4, r0, r1, r2, r3, _⟩ := acts_cell hxr k u hu
          have hok : ActOk u := ⟨r0, r1, r2, r3, (hfew u (List.mem_of_getElem? hu)).1, (hfew u (List.mem_of_getElem? hu)).2⟩
          clear hfew hd4 hb4
          by_cases hk2 : u.k = name
          · have hq : (u.k.toList == name.toList) = true := by rw [hk2]; exact list_beq_self _
            have hrd := read_any p b sz L name wr hd hnm
            have hro := room_any p b sz L wr hd
            unfold readE at hrd
            simp only [hlk, Option.getD_some, Option.isSome_some, if_true] at hrd
            have hfit : ¬ ((sz : Int) - (tot L : Int) < 0) := by have := hd.fits; omega
            have hss := list_beq_self s
            go_wp2_with (first
              | (go_at_call 11; refine hrd.mono ?_; rintro e w' ⟨rfl, rfl⟩)
              | (go_at_call 13; refine hro.mono ?_; rintro e w6 ⟨rfl, hb6⟩))
            all_goals
              go_roundw
              case rel => exact ⟨k + 1, L, by omega, by go_num, hd.below hb6 hd.lt.1 hd.lt.2, hlk, hb.trans (hb6.mono hb.size)⟩
              case measure => simp [intOf]; omega
          · have hq : (u.k.toList == name.toList) = false := list_beq_ne hk2
            have hdn := done_any p b sz L u wr hd hok
            unfold ActV.val at hdn
            by_cases h7 : u.d % 8 = 7
            · have e7 : doneS sz L u = [] := by unfold doneS; rw [if_pos h7, if_neg (by omega), if_neg (by omega), if_neg (by omega)]
              rw [e7] at hdn
              go_wp2_with (first
                | (go_at_call 12; refine hdn.mono ?_; rintro e w5 ⟨rfl, hd5, hc5⟩; have hb5 := hb.trans (hc5.below hb.size (fun i hi => by omega)); have hx5 := hx.below hb5 (Nat.le_refl _); obtain ⟨bb', off', hbo, hc0', hc1', _⟩ := acts_cell hx5 k u hu; injection hbo with hbo; injection hbo with hbo1 hbo2; subst hbo1; subst hbo2)
                | (go_at_call 11; refine (read_any p b sz [] name _ hd5 hnm).mono ?_; rintro e w' ⟨rfl, rfl⟩; have er : readE [] name = 8 := rfl; rw [er]))
              go_ret
              exact ⟨rfl, hb5⟩
            · have hlk5 : look (doneS sz L u) name = some s := (look_done_other (Ne.symm hk2) h7 sz L).trans hlk
              obtain ⟨L5, hL5⟩ : ∃ L5, L5 = doneS sz L u := ⟨_, rfl⟩
              rw [← hL5] at hlk5 hdn
              clear hL5
              have hss := list_beq_self s
              have h7b : (u.d % 8 == 7) = false := by simp [h7]
              go_wp2_with (first
                | (go_at_call 12; refine hdn.mono ?_; rintro e w5 ⟨rfl, hd5, hc5⟩; have hb5 := hb.trans (hc5.below hb.size (fun i hi => by omega)); have hx5 := hx.below hb5 (Nat.le_refl _); obtain ⟨bb', off', hbo, hc0', hc1', _⟩ := acts_cell hx5 k u hu; injection hbo with hbo; injection hbo with hbo1 hbo2; subst hbo1; subst hbo2; have hrd := read_any p b sz L5 name w5 hd5 hnm; have hro := room_any p b sz L5 w5 hd5; unfold readE at hrd; simp only [hlk5, Option.getD_some, Option.isSome_some, if_true] at hrd; have hfit : ¬ ((sz : Int) - (tot L5 : Int) < 0) := (by have := hd5.fits; omega))
                | (go_at_call 11; refine hrd.mono ?_; rintro e w' ⟨rfl, rfl⟩)
                | (go_at_call 13; refine hro.mono ?_; rintro e w6 ⟨rfl, hb6⟩))
              all_goals
                go_roundw
                case rel => exact ⟨k + 1, L5, by omega, by go_num, hd5.below hb6 hd5.lt.1 hd5.lt.2, hlk5, hb5.trans (hb6.mono hb5.size)⟩
                case measure => simp [intOf]; omega
        · go_wp2_with fail
          go_ret
          exact ⟨rfl, hb⟩
    · have hun := unwritten hE
      rw [hun] at hd4
      obtain ⟨E, hE2⟩ : ∃ E, E = writeE sz [] name s := ⟨_, rfl⟩
      rw [← hE2] at hE ⊢
      clear hE2
      go_wp2_with fail
      refine (read_any p b sz [] name w4 hd4 hnm).mono ?_
      rintro e w5 ⟨rfl, rfl⟩
      have er : readE [] name = 8 := rfl
      rw [er]
      go_wp2_with fail
      go_ret
      exact ⟨rfl, hb4⟩

end Go.Proofs.Ytclibfiaihhbaaa
