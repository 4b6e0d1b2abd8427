/- The statement DiskRooms, walked. -/
import Derived.Test.YtclibfiaihhbaaaDiskN
import Derived.Test.YtclibfiaihhbaaaDiskF
import Derived.Outline
import Derived.StillTailTactics
namespace Go.Proofs.Ytclibfiaihhbaaa
open Go.RowKit Go.ChangeMaps Go.MapKept

def KeysIn (L : List KV) (t : List ByteArray) : Prop := ∀ p ∈ L, p.1 ∈ t
theorem KeysIn.nil (t : List ByteArray) : KeysIn [] t := fun _ h => by cases h
theorem KeysIn.grow {L : List KV} {l : List ByteArray} {k : Nat} (h : KeysIn L (l.take k)) : KeysIn L (l.take (k + 1)) := fun p hp => by
  have := h p hp
  rw [List.take_add_one]
  exact List.mem_append_left _ this
theorem KeysIn.put {L : List KV} {l : List ByteArray} {k : Nat} {a : ByteArray} (h : KeysIn L (l.take k)) (ha : l[k]? = some a) (v : ByteArray) : KeysIn (putKV a v L) (l.take (k + 1)) := fun p hp => by
  rcases (mem_ins _ _ _).1 hp with rfl | hp
  · rw [List.take_add_one, ha]; simp
  · exact h.grow p (mem_del.1 hp).1
theorem KeysIn.drop {L : List KV} {l : List ByteArray} {k : Nat} {a : ByteArray} (h : KeysIn L (l.drop k)) (ha : l[k]? = some a) : KeysIn (delKV a L) (l.drop (k + 1)) := fun p hp => by
  obtain ⟨h1, h2⟩ := mem_del.1 hp
  have := h p h1
  obtain ⟨hk, he⟩ := List.getElem?_eq_some_iff.1 ha
  rw [List.drop_eq_getElem_cons hk, he] at this
  rcases List.mem_cons.1 this with e | e
  · exact absurd e h2
  · exact e
theorem KeysIn.none {L : List KV} {l : List ByteArray} (h : KeysIn L (l.drop l.length)) : L = [] := by
  rw [List.drop_length] at h
  cases L with
  | nil => rfl
  | cons p r => exact absurd (h p (by simp)) (by simp)

/-- The three ways of a write. -/
theorem write_ways (size : Nat) (L : List KV) (k v : ByteArray) :
    (writeE size L k v = 1 ∧ writeS size L k v = L) ∨ (writeE size L k v = 9 ∧ writeS size L k v = L ∧ size + heldTakes L k < tot L + (k.size + v.size + 16)) ∨
      (writeE size L k v = 0 ∧ writeS size L k v = putKV k v L) := by
  unfold writeE writeS
  by_cases h1 : k.size = 0 ∨ 64 < k.size
  · exact .inl ⟨by rw [if_pos h1], by rw [if_pos h1]⟩
  · by_cases h2 : size + heldTakes L k < tot L + (k.size + v.size + 16)
    · exact .inr (.inl ⟨by rw [if_neg h1, if_pos h2], by rw [if_neg h1, if_pos h2], h2⟩)
    · exact .inr (.inr ⟨by rw [if_neg h1, if_neg h2], by rw [if_neg h1, if_neg h2]⟩)

/-- A string's cell, in every world that is as the first one was. -/
theorem strs_keep {x : Value} {l : List ByteArray} {w : World} (h : StrsAt w x l) {k : Nat} {s : ByteArray} (hs : l[k]? = some s) : ∃ b off, (∃ n c, x = .slice (some ⟨b, off, none⟩) n c) ∧ ∀ W, Below w.heap.size w W → W.cell? ⟨b, off + k, none⟩ = some (.string s) := by
  obtain ⟨a, c, rfl, _⟩ := h.val
  obtain ⟨b, off, rfl, hc⟩ := strs_cell h k s hs
  exact ⟨b, off, ⟨_, _, rfl⟩, fun W hb => (hb.cell (p := ⟨b, _, none⟩) (World.block_lt_of_cell? w _ hc)).trans hc⟩

set_option maxHeartbeats 4000000 in
set_option maxRecDepth 100000 in
theorem rooms_walk {n : Nat} {x y : Value} {l m : List ByteArray} {w : World} (hn : n ≤ 65535) (hx : StrsAt w x l) (hy : StrsAt w y m) (hmax : ∀ s ∈ l, s.size ≤ maxLen) :
    Calls Try.prog 4 #[.int .u16 n, x, y] w fun e w' => e = .returned (.bool true) ∧ Below w.heap.size w w' := by
  obtain ⟨xa, xc, rfl, hxc, hxm⟩ := hx.val
  obtain ⟨ya, yc, rfl, hyc, hym⟩ := hy.val
  unfold maxLen at hxm hym
  by_cases hlen : 30 < l.length
  · go_enter Try.func4, Try.ntmps4
    go_wp2_with fail
    refine (awake_any _).mono ?_
    rintro e w1 ⟨rfl, hb1⟩
    go_wp2_with fail
    refine (awake_any _).mono ?_
    rintro e w2 ⟨rfl, hb2⟩
    go_wp2_with fail
    go_ret
    exact ⟨rfl, hb1.trans (hb2.mono hb1.size)⟩
  by_cases hlen2 : m.length < l.length
  · go_enter Try.func4, Try.ntmps4
    go_wp2_with fail
    refine (awake_any _).mono ?_
    rintro e w1 ⟨rfl, hb1⟩
    go_wp2_with fail
    refine (awake_any _).mono ?_
    rintro e w2 ⟨rfl, hb2⟩
    go_wp2_with fail
    go_ret
    exact ⟨rfl, hb1.trans (hb2.mono hb1.size)⟩
  have n64 : ((n : Int)) ≤ 65535 := by omega
  go_enter Try.func4, Try.ntmps4
  go_wp2_with fail
  refine (awake_any _).mono ?_
  rintro e w1 ⟨rfl, hb1⟩
  go_wp2_with fail
  refine (new_any n _ (by omega)).mono ?_
  rintro e w3 ⟨p, b, rfl, hd3, hb3, hp3, hq3⟩
  have hpw : w.heap.size ≤ p := Nat.le_trans hb1.size hp3
  have hbw : w.heap.size ≤ b := Nat.le_trans hb1.size hq3
  have hb3' := hb1.trans (hb3.mono hb1.size)
  clear hp3 hq3 hb3 hb1
  go_wp2_with fail
  go_loopw [9] (fun i wr => ∃ (k : Nat) (L : List KV), k ≤ l.length ∧ i = .int .i64 k ∧ DiskAt wr p b n L ∧ KeysIn L (l.take k) ∧ Below w.heap.size w wr) (fun i _ => l.length - (intOf i).toNat)
  case atStart => exact ⟨0, [], by omega, rfl, hd3, KeysIn.nil _, hb3'⟩
  case round =>
    obtain ⟨k, L, hk, rfl, hd, hki, hb⟩ := hrel
    clear hd3 hb3'
    by_cases hlt : k < l.length
    · obtain ⟨s, hs⟩ : ∃ s, l[k]? = some s := ⟨_, List.getElem?_eq_getElem hlt⟩
      obtain ⟨t, ht⟩ : ∃ t, m[k]? = some t := ⟨_, List.getElem?_eq_getElem (by omega)⟩
      have hltm : k < m.length := by omega
      obtain ⟨bx, ox, ⟨nx, cx, ex⟩, hcx⟩ := strs_keep hx hs
      obtain ⟨bb, ob, ⟨nb, cb, eb⟩, hcy⟩ := strs_keep hy ht
      injection ex with ex1 ex2 ex3
      injection eb with eb1 eb2 eb3
      subst ex1 eb1
      have HX := Lib.hid hcx
      have HY := Lib.hid hcy
      clear hcx hcy ex2 ex3 eb2 eb3
      have c1 := HX.out wr hb
      have c2 := HY.out wr hb
      by_cases ht5 : 5000 < t.size
      · go_wp2_with fail
        go_ret
        exact ⟨rfl, hb⟩
      by_cases hs1 : 100 < s.size
      · go_wp2_with fail
        go_ret
        exact ⟨rfl, hb⟩
      obtain ⟨R, hR⟩ : ∃ R : Int, R = (n : Int) - (tot L : Int) := ⟨_, rfl⟩
      have hro := room_any p b n L wr hd
      rw [← hR] at hro
      have hfit := hd.fits
      have hR0 : 0 ≤ R := by omega
      have hR1 : R ≤ 65535 := by omega
      have HR := Lib.hid hR
      clear hR
      go_wp2_with fail
      refine hro.mono ?_
      rintro e w5 ⟨rfl, hb5⟩
      have hd5 := hd.below hb5 hd.lt.1 hd.lt.2
      have hbw5 := hb.trans (hb5.mono hb.size)
      have d1 := HX.out w5 hbw5
      have d2 := HY.out w5 hbw5
      clear c1 c2 hro hb5 hd
      have hrd := read_any p b n L s w5 hd5 (by unfold maxLen; omega)
      go_wp2_with fail
      refine hrd.mono ?_
      rintro e w' ⟨rfl, rfl⟩
      go_wp2_with fail
      go_still_tail 9, (by kernel_rfl)
      change wpList _ _ _ _ _ w5.drew
      have hd6 : DiskAt w5.drew p b n L := hd5.chg ((Chg.refl (fun _ => False) w5).drew) (by simp) (by simp)
      have hbw6 : Below w.heap.size w w5.drew := ⟨hbw5.os, hbw5.tape, hbw5.output, hbw5.size, hbw5.block⟩
      obtain ⟨w6, hw6⟩ : ∃ w6, w6 = w5.drew := ⟨_, rfl⟩
      rw [← hw6] at hd6 hbw6 ⊢
      clear hw6 hd5 hbw5 d1 d2 hrd
      have hwr := write_any p b n L s t w6 hd6 (by omega)
      have hap := hd6.own.apart
      have htp := tot_put hap s t
      go_wp2_with fail
      refine hwr.mono ?_
      rintro e w7 ⟨rfl, hd7, hc7⟩
      have hbw7 := hbw6.trans (hc7.below hbw6.size (fun i hi => by omega))
      have d1 := HX.out w7 hbw7
      have d2 := HY.out w7 hbw7
      clear hc7 hbw6 hd6 hwr
      have hrel : ∀ W, DiskAt W p b n (writeS n L s t) → Below w.heap.size w W → ∃ (k' : Nat) (L' : List KV), k' ≤ l.length ∧ Value.int .i64 ((k : Int) + 1) = .int .i64 k' ∧ DiskAt W p b n L' ∧ KeysIn L' (l.take k') ∧ Below w.heap.size w W := by
        intro W h1 h2
        refine ⟨k + 1, _, by omega, by go_num, h1, ?_, h2⟩
        rcases write_ways n L s t with ⟨_, e⟩ | ⟨_, e, _⟩ | ⟨_, e⟩ <;> rw [e]
        · exact hki.grow
        · exact hki.grow
        · exact hki.put hs t
      have HREL := Lib.hid hrel
      clear hrel
      cases hlk : look L s with
      | none =>
        have hht : heldTakes L s = 0 := by unfold heldTakes; rw [hlk]
        have hrE : readE L s = 8 := by unfold readE; rw [hlk]; rfl
        rw [hrE]
        simp only [Option.getD_none]
        rcases write_ways n L s t with ⟨e1, e2⟩ | ⟨e1, e2, e3⟩ | ⟨e1, e2⟩
        · have hro7 := room_any p b n (writeS n L s t) w7 hd7
          rw [e2, ← HR.out] at hro7
          rw [e1]
          clear e1 e2
          go_wp2_with (go_at_call 13; refine hro7.mono ?_; rintro e w8 ⟨rfl, hb8⟩)
          all_goals
            go_roundw
            case rel => exact HREL.out _ (hd7.below hb8 hd7.lt.1 hd7.lt.2) (hbw7.trans (hb8.mono hbw7.size))
            case measure => simp [intOf]; omega
        · have hro7 := room_any p b n (writeS n L s t) w7 hd7
          rw [e2, ← HR.out] at hro7
          have hlow : R - (t.size : Int) - (s.size : Int) - 16 < 0 := by have := HR.out; omega
          clear e3
          rw [e1]
          clear e1 e2
          go_wp2_with (go_at_call 13; refine hro7.mono ?_; rintro e w8 ⟨rfl, hb8⟩)
          all_goals
            go_roundw
            case rel => exact HREL.out _ (hd7.below hb8 hd7.lt.1 hd7.lt.2) (hbw7.trans (hb8.mono hbw7.size))
            case measure => simp [intOf]; omega
        · have hro7 := room_any p b n (writeS n L s t) w7 hd7
          have hv : (n : Int) - (tot (putKV s t L) : Int) = R - (t.size : Int) - (s.size : Int) - 16 := by have := HR.out; omega
          rw [e2, hv] at hro7
          clear hv
          rw [e1]
          clear e1 e2
          go_wp2_with (go_at_call 13; refine hro7.mono ?_; rintro e w8 ⟨rfl, hb8⟩)
          all_goals
            go_roundw
            case rel => exact HREL.out _ (hd7.below hb8 hd7.lt.1 hd7.lt.2) (hbw7.trans (hb8.mono hbw7.size))
            case measure => simp [intOf]; omega
      | some u =>
        have hht : heldTakes L s = s.size + u.size + 16 := by unfold heldTakes; rw [hlk]
        have hrE : readE L s = 0 := by unfold readE; rw [hlk]; rfl
        have hus := look_size hlk
        rw [hrE]
        simp only [Option.getD_some]
        rcases write_ways n L s t with ⟨e1, e2⟩ | ⟨e1, e2, e3⟩ | ⟨e1, e2⟩
        · have hro7 := room_any p b n (writeS n L s t) w7 hd7
          rw [e2, ← HR.out] at hro7
          rw [e1]
          clear e1 e2
          go_wp2_with (go_at_call 13; refine hro7.mono ?_; rintro e w8 ⟨rfl, hb8⟩)
          all_goals
            go_roundw
            case rel => exact HREL.out _ (hd7.below hb8 hd7.lt.1 hd7.lt.2) (hbw7.trans (hb8.mono hbw7.size))
            case measure => simp [intOf]; omega
        · have hro7 := room_any p b n (writeS n L s t) w7 hd7
          rw [e2, ← HR.out] at hro7
          have hlow : R - (t.size : Int) + (u.size : Int) < 0 := by have := HR.out; omega
          clear e3
          rw [e1]
          clear e1 e2
          go_wp2_with (go_at_call 13; refine hro7.mono ?_; rintro e w8 ⟨rfl, hb8⟩)
          all_goals
            go_roundw
            case rel => exact HREL.out _ (hd7.below hb8 hd7.lt.1 hd7.lt.2) (hbw7.trans (hb8.mono hbw7.size))
            case measure => simp [intOf]; omega
        · have hro7 := room_any p b n (writeS n L s t) w7 hd7
          have hv : (n : Int) - (tot (putKV s t L) : Int) = R - (t.size : Int) + (u.size : Int) := by have := HR.out; omega
          rw [e2, hv] at hro7
          clear hv
          rw [e1]
          clear e1 e2
          go_wp2_with (go_at_call 13; refine hro7.mono ?_; rintro e w8 ⟨rfl, hb8⟩)
          all_goals
            go_roundw
            case rel => exact HREL.out _ (hd7.below hb8 hd7.lt.1 hd7.lt.2) (hbw7.trans (hb8.mono hbw7.size))
            case measure => simp [intOf]; omega
    · obtain rfl : k = l.length := by omega
      have hki' : KeysIn L (l.drop 0) := by rw [List.take_length] at hki; exact hki
      clear hki
      go_wp2_with fail
      obtain ⟨wo, hwo⟩ : ∃ wo, wo = wr := ⟨_, rfl⟩
      rw [← hwo] at hd hb ⊢
      clear hwo
      go_loopw [15] (fun i wr => ∃ (k : Nat) (L : List KV), k ≤ l.length ∧ i = .int .i64 k ∧ DiskAt wr p b n L ∧ KeysIn L (l.drop k) ∧ Below w.heap.size w wr) (fun i _ => l.length - (intOf i).toNat)
      case atStart => exact ⟨0, L, by omega, rfl, hd, hki', hb⟩
      case round =>
        clear hd hb hki'
        obtain ⟨k, L, hk, rfl, hd, hki, hb⟩ := hrel
        by_cases hlt2 : k < l.length
        · obtain ⟨s, hs⟩ : ∃ s, l[k]? = some s := ⟨_, List.getElem?_eq_getElem hlt2⟩
          obtain ⟨bx, ox, ⟨nx, cx, ex⟩, hcx⟩ := strs_keep hx hs
          injection ex with ex1 ex2 ex3
          subst ex1
          have c1 := hcx _ hb
          have hsz := hmax s (List.mem_of_getElem? hs)
          have hdl := delete_any p b n L s wr hd hsz
          clear hcx ex2 ex3
          go_wp2_with (go_at_call 14; refine hdl.mono ?_; rintro e w8 ⟨rfl, hd8, hc8⟩)
          go_roundw
          case rel => exact ⟨k + 1, _, by omega, by go_num, hd8, hki.drop hs, hb.trans (hc8.below hb.size (fun i hi => by omega))⟩
          case measure => simp [intOf]; omega
        · obtain rfl : k = l.length := by omega
          obtain rfl := hki.none
          have hro := room_any p b n [] wr hd
          have ht0 : (n : Int) - (tot [] : Int) = (n : Int) := by simp [tot]
          rw [ht0] at hro
          clear ht0
          go_wp2_with fail
          refine hro.mono ?_
          rintro e w8 ⟨rfl, hb8⟩
          have hd8 := hd.below hb8 hd.lt.1 hd.lt.2
          have hbw8 := hb.trans (hb8.mono hb.size)
          clear hd hb hb8 hro hki
          go_wp2_with fail
          refine (names_any p b n [] w8 hd8).mono ?_
          rintro e w9 ⟨v, rfl, hown, hb9⟩
          obtain ⟨a, c, rfl, _⟩ := own_val hown
          clear hown
          go_wp2_with fail
          go_ret
          exact ⟨rfl, hbw8.trans (hb9.mono hbw8.size)⟩

end Go.Proofs.Ytclibfiaihhbaaa
