/- The queue of texts under way: Send, Take, Drop, Twice. -/
import Derived.Test.YtkcjhjoodincbaaNetB
namespace Go.Proofs.Ytkcjhjoodincbaa
open Go.RowKit

/-- What an append takes of the first texts. -/
theorem StrsAt.src {w : World} {a : Option Addr} {n c : Nat} {l : List ByteArray} (h : StrsAt w (.slice a n c) l) (k : Nat) (hk : k ≤ l.length) :
    Src Try.prog 1 27 (.slice a k c) k ((l.take k).map Value.string) w := strs_src Try.underlying27 h k hk

/-- What a call on the net changes. -/
structure NetStep (b : Nat) (v : Value) (w w' : World) (v' : Value) (l' : List ByteArray) : Prop where
  at_ : NetAt w' b v' l'
  chg : Chg (fun k => k = b ∨ some k = v.ownBlock) w w'
  new : ∀ k, v'.ownBlock = some k → v.ownBlock = some k ∨ w.heap.size ≤ k

theorem own_set {w : World} {B : Nat} {e : TypeId} {z : Nat} {v : Value} {n : Nat} {xs : List Value} (h : w.ownsRow (B + 1) e z v n xs) (u : Value) : (w.setCell ⟨B, 0, none⟩ u).ownsRow (B + 1) e z v n xs :=
  ownsRow_setCell_below h (by simp) u

theorem NetAt.kept {w w' : World} {b : Nat} {v : Value} {l : List ByteArray} (h : NetAt w b v l) (hc : Chg (fun k => some k = v.ownBlock) w w') : w'.heap[b]? = some (.cells #[v] 50 (0, 0)) := by
  rw [hc.block b (Array.getElem?_eq_some_iff.1 h.at_).1 (fun hk => by have := own_lt h.own b hk; omega)]
  exact h.at_

theorem net_step {w w1 : World} {b : Nat} {v v' : Value} {l l' : List ByteArray} (h : NetAt w b v l) (hc : Chg (fun k => some k = v.ownBlock) w w1) (ho : w1.ownsRow (b + 1) 9 1 v' l'.length (l'.map Value.string)) (hl : l'.length ≤ 4096)
    (hn : v'.ownBlock = v.ownBlock ∨ v'.ownBlock = some w.heap.size) : NetStep b v w (w1.setCell ⟨b, 0, none⟩ v') v' l' := by
  refine ⟨⟨one_set (h.kept hc) v', own_set ho _, hl⟩, ((hc.mono (fun i hi => .inr hi)).setCell (.inl (.inl rfl)) _), fun k hk => ?_⟩
  rcases hn with hn | hn
  · exact .inl (by rw [← hn]; exact hk)
  · rw [hn] at hk; injection hk; exact .inr (by omega)

set_option maxHeartbeats 1000000 in
theorem send_any (b : Nat) (v : Value) (l : List ByteArray) (x : Value) (m : List ByteArray) (w : World) (h : NetAt w b v l) (hx : StrsAt w x m) (room : Nat) (hr : room = min (4096 - l.length) m.length) :
    Calls Try.prog 10 #[.pointer (some ⟨b, 0, none⟩), x] w fun e w' => e = .returned (.int .i64 room) ∧ ∃ v', NetStep b v w w' v' (l ++ m.take room) := by
  have hc := one_cell h.at_
  have hfz := one_free h.at_
  have hfew := h.few
  have hown := h.own
  have hb : b < w.heap.size := (Array.getElem?_eq_some_iff.1 h.at_).1
  obtain ⟨a, c, hv, hnc, hcm, _⟩ := own_val h.own
  obtain ⟨a2, c2, rfl, hm1, hm2⟩ := hx.val
  unfold maxLen at hcm hm2
  obtain ⟨i0, hi0, hz0, hz1, hz2⟩ := info_parts Try.info9
  have hsrc := (show StrsAt w.drew _ _ from hx).src room (by omega)
  subst hv
  have hownD : w.drew.ownsRow (b + 1) 9 1 (.slice a l.length c) l.length (l.map Value.string) := hown
  have hmin : min (4096 - (l.length : Int)) (m.length : Int) = room := by omega
  have hr1 : room ≤ m.length := by omega
  have hr3 : room ≤ c2 := by omega
  have hr2 : l.length + room ≤ 4096 := by omega
  have HM := Lib.hid hmin
  clear hr hmin
  go_enter Try.func10, Try.ntmps10
  go_wp2_with fail
  rw [HM.out]
  go_region_law (refine step_append_src rfl (.tmp 21) (.tmp 24) 27 27 rfl (b + 1) 9 i0 _ 1 16 Try.underlying27 hi0 hz0 hz1 hz2 rfl (by decide) _ _ _ (by simp [Act.eval, Act.put]) hownD _ _ _ (by simp [Act.eval, Act.put]) hsrc (by unfold maxLen; omega) (by omega) hb ?_; intro v' w' hown' hchg0 hnew; have hchg := hchg0.of_drew; clear hchg0; obtain ⟨a', c', rfl, _⟩ := own_val hown'; have k1 := one_cell (h.kept hchg); have k2 := one_free (h.kept hchg))
  go_wp2
  go_ret
  refine ⟨rfl, _, net_step h hchg (by simpa [hr1] using hown') (by simp; omega) hnew⟩

theorem own_cellAt {w : World} {B : Nat} {v : Value} {n : Nat} {xs : List Value} (h : w.ownsRow B 9 1 v n xs) {a : Option Addr} {m c : Nat} (hv : v = .slice a m c) (j : Nat) (u : Value) (hu : xs[j]? = some u) : ∃ g, a = some ⟨g, 0, none⟩ ∧ w.cell? ⟨g, j, none⟩ = some u := by
  rcases h.2 with ⟨rfl, rfl⟩ | ⟨g, c', _, rfl, _⟩
  · have := h.1
    have hx : xs = [] := List.eq_nil_of_length_eq_zero (by simpa using this)
    simp [hx] at hu
  · simp only [Value.slice.injEq] at hv
    obtain ⟨rfl, rfl, rfl⟩ := hv
    refine ⟨g, rfl, ?_⟩
    have := h.cells (g := g) rfl j u hu
    rwa [Addr.add_lit, Nat.zero_add] at this

set_option maxHeartbeats 1000000 in
theorem take_cap (b : Nat) (v : Value) (l : List ByteArray) (n : Int) (w : World) (h : NetAt w b v l) (i : Nat) (hi : (i : Int) = n % (l.length : Int)) (s : ByteArray) (hs : l[i]? = some s) :
    Calls Try.prog 15 #[.pointer (some ⟨b, 0, none⟩), .int .i64 n] w fun e w' => e = .returned (.tuple #[.string s, .bool true]) ∧ ∃ v', NetStep b v w w' v' (l.take i ++ l.drop (i + 1)) ∧ CapKept v v' l.length (l.length - 1) := by
  have hil : i < l.length := (List.getElem?_eq_some_iff.1 hs).1
  have hp := place_any b v l n w h (by omega)
  rw [← hi] at hp
  have hc := one_cell h.at_
  have hfz := one_free h.at_
  have hfew := h.few
  have hb : b < w.heap.size := (Array.getElem?_eq_some_iff.1 h.at_).1
  have hd := delete_any w (b + 1) v l.length (l.map Value.string) (by intro u hu; obtain ⟨s, _, rfl⟩ := List.mem_map.1 hu; rfl) h.own i (i + 1) (by omega) (by omega)
  have e1 : ((i + 1 : Nat) : Int) = (i : Int) + 1 := by omega
  rw [e1, show l.length - (i + 1 - i) = l.length - 1 by omega] at hd
  have HP := Lib.hid hp
  have HD := Lib.hid hd
  obtain ⟨a, c, rfl, hnc, hcm, _⟩ := own_val h.own
  obtain ⟨g, rfl, hcell⟩ := own_cellAt h.own rfl i (.string s) (by rw [List.getElem?_map, hs]; rfl)
  unfold maxLen at hcm
  clear hp hd hi e1
  go_enter Try.func15, Try.ntmps15
  go_wp2_with (first
    | (go_at_call 23; refine HP.out.mono ?_; rintro e w' ⟨rfl, rfl⟩)
    | (go_at_call 26; refine HD.out.mono ?_; rintro e w1 ⟨v1, rfl, hown1, hob, hchg, hcap⟩; have HCap := Lib.hid hcap; clear hcap; obtain ⟨a1, c1, rfl, _⟩ := own_val hown1; have k1 := one_cell (h.kept hchg); have k2 := one_free (h.kept hchg)))
  go_ret2
  refine ⟨rfl, _, net_step h hchg (l' := l.take i ++ l.drop (i + 1)) ?_ (by simp; omega) (.inl hob), HCap.out⟩
  rw [show (l.take i ++ l.drop (i + 1)).length = l.length - 1 by simp; omega, List.map_append, List.map_take, List.map_drop]
  exact hown1

theorem take_any (b : Nat) (v : Value) (l : List ByteArray) (n : Int) (w : World) (h : NetAt w b v l) (i : Nat) (hi : (i : Int) = n % (l.length : Int)) (s : ByteArray) (hs : l[i]? = some s) :
    Calls Try.prog 15 #[.pointer (some ⟨b, 0, none⟩), .int .i64 n] w fun e w' => e = .returned (.tuple #[.string s, .bool true]) ∧ ∃ v', NetStep b v w w' v' (l.take i ++ l.drop (i + 1)) :=
  (take_cap b v l n w h i hi s hs).mono fun _ _ ⟨he, v', hst, _⟩ => ⟨he, v', hst⟩

theorem take_none (b : Nat) (v : Value) (n : Int) (w : World) (h : NetAt w b v []) :
    Calls Try.prog 15 #[.pointer (some ⟨b, 0, none⟩), .int .i64 n] w fun e w' => e = .returned (.tuple #[.string ByteArray.empty, .bool false]) ∧ w = w' := by
  go_enter Try.func15, Try.ntmps15
  go_wp2_with (first
    | (go_at_call 23; refine (place_none b v n w h).mono ?_; rintro e w' ⟨rfl, rfl⟩))
  go_ret2
  exact ⟨rfl, rfl⟩

theorem take_nil (n : Int) (w : World) :
    Calls Try.prog 15 #[.pointer none, .int .i64 n] w fun e w' => e = .returned (.tuple #[.string ByteArray.empty, .bool false]) ∧ w = w' := by
  go_enter Try.func15, Try.ntmps15
  go_wp2_with (first
    | (go_at_call 23; refine (place_nil n w).mono ?_; rintro e w' ⟨rfl, rfl⟩))
  go_ret2
  exact ⟨rfl, rfl⟩

theorem drop_any (b : Nat) (v : Value) (l : List ByteArray) (n : Int) (w : World) (h : NetAt w b v l) (i : Nat) (hi : (i : Int) = n % (l.length : Int)) (hl : i < l.length) :
    Calls Try.prog 20 #[.pointer (some ⟨b, 0, none⟩), .int .i64 n] w fun e w' => e = .returned (.bool true) ∧ ∃ v', NetStep b v w w' v' (l.take i ++ l.drop (i + 1)) := by
  have HT := Lib.hid (take_any b v l n w h i hi l[i] (List.getElem?_eq_getElem hl))
  clear hi
  go_enter Try.func20, Try.ntmps20
  go_wp2_with (first
    | (go_at_call 15; refine HT.out.mono ?_; rintro e w' ⟨rfl, v', hst⟩))
  go_ret
  exact ⟨rfl, v', hst⟩

theorem drop_none (b : Nat) (v : Value) (n : Int) (w : World) (h : NetAt w b v []) :
    Calls Try.prog 20 #[.pointer (some ⟨b, 0, none⟩), .int .i64 n] w fun e w' => e = .returned (.bool false) ∧ w = w' := by
  go_enter Try.func20, Try.ntmps20
  go_wp2_with (first
    | (go_at_call 15; refine (take_none b v n w h).mono ?_; rintro e w' ⟨rfl, rfl⟩))
  go_ret
  exact ⟨rfl, rfl⟩

theorem drop_nil (n : Int) (w : World) :
    Calls Try.prog 20 #[.pointer none, .int .i64 n] w fun e w' => e = .returned (.bool false) ∧ w = w' := by
  go_enter Try.func20, Try.ntmps20
  go_wp2_with (first
    | (go_at_call 15; refine (take_nil n w).mono ?_; rintro e w' ⟨rfl, rfl⟩))
  go_ret
  exact ⟨rfl, rfl⟩

theorem NetAt.alloc {w : World} {b : Nat} {v : Value} {l : List ByteArray} (h : NetAt w b v l) (o : Obj) : NetAt (w.alloc o) b v l :=
  ⟨(Below.heap_alloc w o b (Array.getElem?_eq_some_iff.1 h.at_).1).trans h.at_, h.own.alloc o, h.few⟩

theorem NetStep.of_alloc {w w' : World} {o : Obj} {b : Nat} {v v' : Value} {l : List ByteArray} (h : NetStep b v (w.alloc o) w' v' l) : NetStep b v w w' v' l :=
  ⟨h.at_, ((Chg.refl _ w).alloc o).trans h.chg (fun _ k _ => k), fun k hk => (h.new k hk).imp id (fun x => by simp at x; omega)⟩

theorem strs_one (w : World) (s : ByteArray) : StrsAt (w.alloc (.cells #[.string s] 9)) (.slice (some ⟨w.heap.size, 0, none⟩) 1 1) [s] :=
  .mk 1 rfl (by simp) (by decide) fun j u hu => by
    obtain rfl : j = 0 := by have := (List.getElem?_eq_some_iff.1 hu).1; simpa using this
    simp at hu
    subst hu
    exact one_cell (heap_alloc_new w _)

set_option maxHeartbeats 1000000 in
theorem twice_any (b : Nat) (v : Value) (l : List ByteArray) (n : Int) (w : World) (h : NetAt w b v l) (i : Nat) (hi : (i : Int) = n % (l.length : Int)) (s : ByteArray) (hs : l[i]? = some s)
    (ok : Bool) (hok : ok = decide (l.length < 4096)) (l' : List ByteArray) (hl' : l' = if l.length < 4096 then l ++ [s] else l) :
    Calls Try.prog 12 #[.pointer (some ⟨b, 0, none⟩), .int .i64 n] w fun e w' => e = .returned (.bool ok) ∧ ∃ v', NetStep b v w w' v' l' := by
  have hil : i < l.length := (List.getElem?_eq_some_iff.1 hs).1
  have hp := place_any b v l n w h (by omega)
  rw [← hi] at hp
  have HP := Lib.hid hp
  have hc := one_cell h.at_
  have hfew := h.few
  obtain ⟨a, c, hv, hnc, hcm, _⟩ := own_val h.own
  obtain ⟨g, rfl, hcell⟩ := own_cellAt h.own hv i (.string s) (by rw [List.getElem?_map, hs]; rfl)
  obtain ⟨k, hk⟩ : ∃ k, k = if l.length < 4096 then 1 else 0 := ⟨_, rfl⟩
  have hsend := send_any b v l _ [s] _ (h.alloc (.cells #[.string s] 9)) (strs_one w s) k (by rw [hk]; split <;> simp <;> omega)
  unfold maxLen at hcm
  have hfin : (l ++ [s].take k) = l' := by rw [hk, hl']; split <;> simp
  rw [hfin] at hsend
  have hb : ((k : Int) == 1) = ok := by rw [hk, hok]; split <;> simp [*]
  have HB := Lib.hid hb
  have HS := Lib.hid hsend
  clear hp hi hsend hfin hb hk hl' hok
  subst hv
  go_enter Try.func12, Try.ntmps12
  go_wp2_with (first
    | (go_at_call 23; refine HP.out.mono ?_; rintro e w' ⟨rfl, rfl⟩)
    | (go_at_call 10; refine HS.out.mono ?_; rintro e w' ⟨rfl, v', hst⟩))
  go_ret
  exact ⟨by rw [← HB.out]; rfl, v', hst.of_alloc⟩

theorem twice_none (b : Nat) (v : Value) (n : Int) (w : World) (h : NetAt w b v []) :
    Calls Try.prog 12 #[.pointer (some ⟨b, 0, none⟩), .int .i64 n] w fun e w' => e = .returned (.bool false) ∧ w = w' := by
  go_enter Try.func12, Try.ntmps12
  go_wp2_with (first
    | (go_at_call 23; refine (place_none b v n w h).mono ?_; rintro e w' ⟨rfl, rfl⟩))
  go_ret
  exact ⟨rfl, rfl⟩

theorem twice_nil (n : Int) (w : World) :
    Calls Try.prog 12 #[.pointer none, .int .i64 n] w fun e w' => e = .returned (.bool false) ∧ w = w' := by
  go_enter Try.func12, Try.ntmps12
  go_wp2_with (first
    | (go_at_call 23; refine (place_nil n w).mono ?_; rintro e w' ⟨rfl, rfl⟩))
  go_ret
  exact ⟨rfl, rfl⟩

theorem send_nil (x : Value) (w : World) :
    Calls Try.prog 10 #[.pointer none, x] w fun e w' => e = .returned (.int .i64 0) ∧ w = w' := by
  go_enter Try.func10, Try.ntmps10
  go_wp2
  go_ret
  exact ⟨rfl, rfl⟩

end Go.Proofs.Ytkcjhjoodincbaa
