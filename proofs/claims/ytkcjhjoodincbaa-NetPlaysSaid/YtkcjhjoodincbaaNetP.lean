/- Spoil: nothing there, an empty text, a text. -/
import Derived.Test.YtkcjhjoodincbaaNetOrderAll
import Derived.Outline
import Derived.Laws.IdiomStrings
import Derived.OpenShut
namespace Go.Proofs.Ytkcjhjoodincbaa
open Go.RowKit

theorem rest_num2 (n b : Int) (h : 0 < b) (hb : b ≤ 4611686018427387904) : (wrap64 (n.tmod b + b)).tmod b = n % b := by
  have h1 := Int.tmod_lt_of_pos n h
  have h2 : -b < n.tmod b := by have := Int.lt_tmod_of_pos n h; omega
  have e : wrap64 (n.tmod b + b) = n.tmod b + b := by unfold wrap64; omega
  rw [e, Int.tmod_eq_emod_of_nonneg (by omega), Int.add_emod_right, Int.tmod_eq_emod]
  split
  · simp
  · rw [show ((b.natAbs : Int)) = b by omega]; simp

theorem rest_any2 (n b : Int) (w : World) (h : 0 < b) (hb : b ≤ 4611686018427387904) :
    Calls Try.prog 28 #[.int .i64 n, .int .i64 b] w fun e w' => e = .returned (.int .i64 (n % b)) ∧ w = w' := by
  have H := Lib.hid (rest_num2 n b h hb)
  go_enter Try.func28, Try.ntmps28
  go_wp2
  go_ret
  exact ⟨ret_int H.out, rfl⟩

theorem spoil_none (b : Nat) (v : Value) (a p q : Int) (w : World) (h : NetAt w b v []) :
    Calls Try.prog 21 #[.pointer (some ⟨b, 0, none⟩), .int .i64 a, .int .i64 p, .int .u8 q] w fun e w' => e = .returned (.bool false) ∧ w = w' := by
  go_enter Try.func21, Try.ntmps21
  go_wp2_with (first
    | (go_at_call 23; refine (place_none b v a w h).mono ?_; rintro e w' ⟨rfl, rfl⟩))
  go_ret
  exact ⟨rfl, rfl⟩

theorem spoil_empty (b : Nat) (v : Value) (l : List ByteArray) (a p q : Int) (w : World) (h : NetAt w b v l) (i : Nat) (hi : (i : Int) = a % (l.length : Int)) (hs : l[i]? = some ByteArray.empty) :
    Calls Try.prog 21 #[.pointer (some ⟨b, 0, none⟩), .int .i64 a, .int .i64 p, .int .u8 q] w fun e w' => e = .returned (.bool false) ∧ w = w' := by
  have hlt := (List.getElem?_eq_some_iff.1 hs).1
  have hP := place_any b v l a w h (by omega)
  rw [← hi] at hP
  have HP := Lib.hid hP
  have hc := one_cell h.at_
  obtain ⟨g, c, rfl, hgc, hcm⟩ : ∃ g c, v = .slice (some ⟨g, 0, none⟩) l.length c ∧ l.length ≤ c ∧ c ≤ maxLen := by
    rcases h.own.2 with ⟨_, h0⟩ | ⟨g, c, cur, rfl, _, _, x1, x2, _⟩
    · omega
    · exact ⟨g, c, rfl, x1, x2⟩
  have hcs : w.cell? ⟨g, i, none⟩ = some (.string ByteArray.empty) := by
    have := h.own.cells (g := g) rfl i (.string ByteArray.empty) (by rw [List.getElem?_map, hs]; rfl)
    rwa [Addr.add_lit, Nat.zero_add] at this
  clear hP hi hs
  go_enter Try.func21, Try.ntmps21
  go_wp2_with (first
    | (go_at_call 23; refine HP.out.mono ?_; rintro e w' ⟨rfl, rfl⟩))
  go_ret
  exact ⟨rfl, rfl⟩

/-- A byte, spoilt. -/
def spoilByte (x : UInt8) (q : Int) : UInt8 := UInt8.ofNat (bits BinOp.xor .u8 (x.toNat : Int) q).toNat
/-- A text, its byte r spoilt. -/
def spoilt (s : ByteArray) (r : Nat) (q : Int) : ByteArray := ⟨(s.data.toList.set r (spoilByte (s.data.toList.getD r 0) q)).toArray⟩
theorem spoilByte_nat (x : UInt8) (q : Int) : ((spoilByte x q).toNat : Int) = bits BinOp.xor .u8 (x.toNat : Int) q := by
  have h := wf_bits BinOp.xor .u8 (x.toNat : Int) q
  have h2 := Go.bounds_u8 h
  unfold spoilByte
  rw [UInt8.toNat_ofNat']
  omega

theorem spoil_some (b : Nat) (v : Value) (l : List ByteArray) (a p q : Int) (w : World) (h : NetAt w b v l) (i : Nat) (hi : (i : Int) = a % (l.length : Int)) (s : ByteArray) (hs : l[i]? = some s) (hne : 0 < s.size) (hbig : s.size ≤ 140737488351232) :
    Calls Try.prog 21 #[.pointer (some ⟨b, 0, none⟩), .int .i64 a, .int .i64 p, .int .u8 q] w fun e w' => e = .returned (.bool true) ∧ ∃ v', NetStep b v w w' v' (l.set i (spoilt s (p % (s.size : Int)).toNat q)) := by
  have hlt := (List.getElem?_eq_some_iff.1 hs).1
  have hP := place_any b v l a w h (by omega)
  rw [← hi] at hP
  have HP := Lib.hid hP
  have hc := one_cell h.at_
  obtain ⟨g, c, rfl, hgc, hcm⟩ : ∃ g c, v = .slice (some ⟨g, 0, none⟩) l.length c ∧ l.length ≤ c ∧ c ≤ maxLen := by
    rcases h.own.2 with ⟨_, h0⟩ | ⟨g, c, cur, rfl, _, _, x1, x2, _⟩
    · omega
    · exact ⟨g, c, rfl, x1, x2⟩
  have hcs : w.cell? ⟨g, i, none⟩ = some (.string s) := by
    have := h.own.cells (g := g) rfl i (.string s) (by rw [List.getElem?_map, hs]; rfl)
    rwa [Addr.add_lit, Nat.zero_add] at this
  have hse : s.toList.isEmpty = false := by
    rw [ByteArray.toList_eq, List.isEmpty_eq_false_iff]
    intro e
    have : s.data.toList.length = 0 := by rw [e]; rfl
    have h2 : s.size = s.data.toList.length := rfl
    omega
  clear hP hi hs
  obtain ⟨r, hr⟩ := Int.eq_ofNat_of_zero_le (Int.emod_nonneg p (show (s.size : Int) ≠ 0 by omega))
  have hrl : r < s.data.size := by
    have := Int.emod_lt_of_pos p (show (0 : Int) < s.size by omega)
    have h2 : s.size = s.data.size := rfl
    omega
  have hR := fun W => rest_any2 p s.size W (by omega) (by omega)
  rw [hr] at hR
  have HR := Lib.hid hR
  have hrs : r < s.size := hrl
  have hrn : Hid ((p % (s.size : Int)).toNat = r) := Lib.hid (by rw [hr]; rfl)
  clear hR hr
  have hcv := fun w => run_bytes_of_string (P := Try.prog) w 9 47 5 s Try.underlying9 Try.underlying47 Try.underlying5
  go_enter Try.func21, Try.ntmps21
  go_wp2_with (first
    | (go_at_call 23; refine HP.out.mono ?_; rintro e w' ⟨rfl, rfl⟩)
    | (go_at_call 28; refine (HR.out _).mono ?_; rintro e w3 ⟨rfl, hw3⟩; have hb3 : w3.heap[w.heap.size]? = some (.cells (bytesRow s (grownCap w s.size 0 5)) 5 ((bytesRow s (grownCap w s.size 0 5)).size, (bytesRow s (grownCap w s.size 0 5)).size + 1)) := (by rw [← hw3]; exact heap_alloc_new w _); have hc3 : w3.cell? ⟨w.heap.size, r, none⟩ = some (.int .u8 (s.data[r].toNat : Int)) := (by simp only [World.cell?, hb3]; exact bytesRow_at s _ r hrl); have hf3 : w3.frozen? ⟨w.heap.size, r, none⟩ = false := (by have hz := (Array.getElem?_eq_some_iff.1 (bytesRow_at s (grownCap w s.size 0 5) r hrl)).1; simp only [World.frozen?, hb3]; simp; omega)))
  obtain ⟨w4, hw4⟩ : ∃ w4, w4 = w3.setCell ⟨w.heap.size, r, none⟩ (.int .u8 (bits BinOp.xor .u8 (s.data[r].toNat : Int) q)) := ⟨_, rfl⟩
  rw [← hw4]
  have hb4 : w4.heap[w.heap.size]? = some (.cells ((bytesRow s (grownCap w s.size 0 5)).setIfInBounds r (.int .u8 (bits BinOp.xor .u8 (s.data[r].toNat : Int) q))) 5 ((bytesRow s (grownCap w s.size 0 5)).size, (bytesRow s (grownCap w s.size 0 5)).size + 1)) := by
    rw [hw4]
    simp [World.setCell, Array.getElem?_modify, hb3]
  have hT : ∀ W : World, W.heap = w4.heap → (convert 47 9 (.slice (some ⟨w.heap.size, 0, none⟩) s.size (grownCap w s.size 0 5))).run Try.prog W = .ok (.string (spoilt s r q)) W := by
    intro W hW
    rw [← hW] at hb4
    have hlen : (s.data.toList.set r (spoilByte (s.data.toList.getD r 0) q)).length = s.size := by simp
    have := run_convert_bytes_back (P := Try.prog) W 47 9 5 ⟨w.heap.size, 0, none⟩ (grownCap w s.size 0 5) (s.data.toList.set r (spoilByte (s.data.toList.getD r 0) q)) Try.underlying47 Try.underlying5 Try.underlying9 (fun j hj => by
      rw [Addr.add_lit, Nat.zero_add]
      have hj' : j < s.data.size := by simpa using hj
      have hbr := bytesRow_at s (grownCap w s.size 0 5) j hj'
      simp only [World.cell?, hb4, Option.isSome_none, Bool.false_eq_true, if_false]
      rw [Array.getElem?_setIfInBounds]
      by_cases e : r = j
      · subst e
        rw [if_pos rfl, if_pos (Array.getElem?_eq_some_iff.1 hbr).1, ← spoilByte_nat]
        simp [List.getD_eq_getElem?_getD, hj']
        rw [Array.getElem?_eq_getElem hj']; rfl
      · rw [if_neg e, hbr]
        simp [e])
    rw [hlen] at this
    exact this
  have hT1 := hT w4 rfl
  have hT2 := hT w4.drew rfl
  clear hT hcv hb3 hc3 hf3 HR HP hse
  have hbw : b < w.heap.size := (Array.getElem?_eq_some_iff.1 h.at_).1
  have hgw : g < w.heap.size := (own_lt h.own g rfl).2
  have hold : ∀ k, k < w.heap.size → w4.heap[k]? = w.heap[k]? := fun k hk => by
    rw [hw4]
    refine (Below.heap_setCell w3 _ _ k (by show k ≠ w.heap.size; omega)).trans ?_
    rw [← hw3]
    exact Below.heap_alloc w _ k hk
  have hc4 : w4.cell? ⟨b, 0, none⟩ = some (.slice (some ⟨g, 0, none⟩) l.length c) := (World.cell?_of_block (a := ⟨b, 0, none⟩) (hold b hbw)).trans hc
  have hf4 : w4.frozen? ⟨g, i, none⟩ = false := (World.frozen?_of_block (a := ⟨g, i, none⟩) (hold g hgw)).trans (h.own.frozenAt i)
  have hs4 : w4.cell? ⟨g, i, none⟩ = some (.string s) := (World.cell?_of_block (a := ⟨g, i, none⟩) (hold g hgw)).trans hcs
  have hch : Chg (fun _ => False) w w4 := by
    rw [hw4, ← hw3]
    exact (((Chg.refl (fun _ => False) w).alloc _).drew).setCell (.inr (Nat.le_refl _)) _
  have HCH := Lib.hid hch
  have HO := Lib.hid hold
  clear hch hold hw4 hw3 hb4 hcs hc
  go_region
  go_wp2
  go_ret
  have ho := (own_kept h.own HCH.out (fun _ _ h => h)).stored i (.string (spoilt s r q))
  rw [← List.map_set] at ho
  refine ⟨rfl, .slice (some ⟨g, 0, none⟩) l.length c, ⟨?_, ?_, by simpa using h.few⟩, ?_, fun k hk => .inl hk⟩
  · exact (Below.heap_setCell w4 ⟨g, i, none⟩ _ b (by show b ≠ g; have := own_lt h.own g rfl; omega)).trans ((HO.out b hbw).trans h.at_)
  · rw [List.length_set, hrn.out]; exact ho.1
  · exact ((HCH.out.mono (fun _ h => h.elim)).setCell (p := ⟨g, i, none⟩) (.inl (.inr rfl)) _).drew
end Go.Proofs.Ytkcjhjoodincbaa
