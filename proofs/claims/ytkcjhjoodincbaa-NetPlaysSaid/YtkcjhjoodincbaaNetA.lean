/- The queue of texts under way (package net): the contracts of New, Len, rest, place. -/
import Derived.Test.YtkcjhjoodincbaaRows
import Derived.Test.YtkcjhjoodincbaaGen
namespace Go.Proofs.Ytkcjhjoodincbaa
open Go.RowKit

/-- A net in memory: its block b, the slice value v in it, and the texts. -/
structure NetAt (w : World) (b : Nat) (v : Value) (l : List ByteArray) : Prop where
  at_ : w.heap[b]? = some (.cells #[v] 50 (0, 0))
  own : w.ownsRow (b + 1) 9 1 v l.length (l.map Value.string)
  few : l.length ≤ 4096

theorem rest_any (n b : Int) (w : World) (h : 0 < b) (hb : b ≤ 1000000000) :
    Calls Try.prog 28 #[.int .i64 n, .int .i64 b] w fun e w' => e = .returned (.int .i64 (n % b)) ∧ w = w' := by
  have H := Lib.hid (rest_num n b h hb)
  go_enter Try.func28, Try.ntmps28
  go_wp2
  go_ret
  exact ⟨ret_int H.out, rfl⟩

theorem len_any (b : Nat) (v : Value) (l : List ByteArray) (w : World) (h : NetAt w b v l) :
    Calls Try.prog 11 #[.pointer (some ⟨b, 0, none⟩)] w fun e w' => e = .returned (.int .i64 l.length) ∧ w = w' := by
  have hc := one_cell h.at_
  obtain ⟨a, c, rfl, _⟩ := own_val h.own
  go_enter Try.func11, Try.ntmps11
  go_wp2
  go_ret
  exact ⟨rfl, rfl⟩

theorem len_nil (w : World) :
    Calls Try.prog 11 #[.pointer none] w fun e w' => e = .returned (.int .i64 0) ∧ w = w' := by
  go_enter Try.func11, Try.ntmps11
  go_wp2
  go_ret
  exact ⟨rfl, rfl⟩

theorem new_any (w : World) :
    Calls Try.prog 9 #[] w fun e w' => e = .returned (.pointer (some ⟨w.heap.size, 0, none⟩)) ∧ NetAt w' w.heap.size (.slice none 0 0) [] ∧ Chg (fun _ => False) w w' := by
  go_enter Try.func9, Try.ntmps9
  go_wp2
  go_ret
  refine ⟨rfl, ⟨heap_alloc_new w _, World.ownsRow_nil _ _ _ _, by simp⟩, (Chg.refl _ _).alloc _⟩

theorem place_any (b : Nat) (v : Value) (l : List ByteArray) (n : Int) (w : World) (h : NetAt w b v l) (hl : 0 < l.length) :
    Calls Try.prog 23 #[.pointer (some ⟨b, 0, none⟩), .int .i64 n] w fun e w' => e = .returned (.tuple #[.int .i64 (n % (l.length : Int)), .bool true]) ∧ w = w' := by
  have hc := one_cell h.at_
  have hf := h.few
  obtain ⟨a, c, rfl, _⟩ := own_val h.own
  have hne : ((l.length : Int) == 0) = false := beq_eq_false_iff_ne.2 (by omega)
  go_enter Try.func23, Try.ntmps23
  go_wp2_with (first
    | (go_at_call 11; refine (len_any _ _ _ _ h).mono ?_; rintro e w' ⟨rfl, rfl⟩)
    | (go_at_call 28; refine (rest_any n l.length w (by omega) (by omega)).mono ?_; rintro e w' ⟨rfl, rfl⟩))
  go_ret2
  exact ⟨rfl, rfl⟩

theorem place_none (b : Nat) (v : Value) (n : Int) (w : World) (h : NetAt w b v []) :
    Calls Try.prog 23 #[.pointer (some ⟨b, 0, none⟩), .int .i64 n] w fun e w' => e = .returned (.tuple #[.int .i64 0, .bool false]) ∧ w = w' := by
  go_enter Try.func23, Try.ntmps23
  go_wp2_with (first
    | (go_at_call 11; refine (len_any _ _ _ _ h).mono ?_; rintro e w' ⟨rfl, rfl⟩))
  go_ret2
  exact ⟨rfl, rfl⟩

theorem place_nil (n : Int) (w : World) :
    Calls Try.prog 23 #[.pointer none, .int .i64 n] w fun e w' => e = .returned (.tuple #[.int .i64 0, .bool false]) ∧ w = w' := by
  go_enter Try.func23, Try.ntmps23
  go_wp2_with (first
    | (go_at_call 11; refine (len_nil _).mono ?_; rintro e w' ⟨rfl, rfl⟩))
  go_ret2
  exact ⟨rfl, rfl⟩

end Go.Proofs.Ytkcjhjoodincbaa
