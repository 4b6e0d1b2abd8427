/- The laws' own helpers: few, Without, Rest, SameTexts, With. -/
import Derived.Test.YtkcjhjoodincbaaNetF
namespace Go.Proofs.Ytkcjhjoodincbaa
open Go.RowKit

/-- A call of a law's list: its five fields. -/
structure ActV where
  d : Int
  s : ByteArray
  at_ : Int
  to_ : Int
  by_ : Int

/-- The cells of a call at a place. -/
def ActCells (w : World) (b o : Nat) (a : ActV) : Prop :=
  w.cell? ⟨b, o, none⟩ = some (.int .u8 a.d) ∧ w.cell? ⟨b, o + 1, none⟩ = some (.string a.s) ∧ w.cell? ⟨b, o + 2, none⟩ = some (.int .i64 a.at_) ∧
    w.cell? ⟨b, o + 3, none⟩ = some (.int .i64 a.to_) ∧ w.cell? ⟨b, o + 4, none⟩ = some (.int .u8 a.by_) ∧ 0 ≤ a.d ∧ a.d ≤ 255 ∧ 0 ≤ a.by_ ∧ a.by_ ≤ 255 ∧ a.s.size ≤ maxLen

/-- A slice of calls that can be read. -/
def ActsAt (w : World) (x : Value) (l : List ActV) : Prop :=
  ∃ a c, x = .slice a l.length c ∧ l.length ≤ c ∧ c ≤ maxLen ∧ ∀ (j : Nat) u, l[j]? = some u → ∃ b off, a = some ⟨b, off, none⟩ ∧ ActCells w b (off + j * 5) u

theorem ActsAt.val {w : World} {x : Value} {l : List ActV} (h : ActsAt w x l) : ∃ a c, x = .slice a l.length c ∧ l.length ≤ c ∧ c ≤ maxLen := by
  obtain ⟨a, c, rfl, h1, h2, _⟩ := h
  exact ⟨a, c, rfl, h1, h2⟩

theorem ActsAt.below {w w' : World} {x : Value} {l : List ActV} (h : ActsAt w x l) {B : Nat} (hb : Below B w w') (hB : w.heap.size ≤ B) : ActsAt w' x l := by
  obtain ⟨a, c, rfl, h1, h2, h3⟩ := h
  refine ⟨a, c, rfl, h1, h2, fun j u hu => ?_⟩
  obtain ⟨b, off, e, p1, p2, p3, p4, p5, r⟩ := h3 j u hu
  have hlt : b < B := by have := World.block_lt_of_cell? w _ p1; simp at this; omega
  exact ⟨b, off, e, (hb.cell (p := ⟨b, _, none⟩) hlt).trans p1, (hb.cell (p := ⟨b, _, none⟩) hlt).trans p2, (hb.cell (p := ⟨b, _, none⟩) hlt).trans p3,
    (hb.cell (p := ⟨b, _, none⟩) hlt).trans p4, (hb.cell (p := ⟨b, _, none⟩) hlt).trans p5, r⟩

theorem acts_cell {w : World} {a : Option Addr} {n c : Nat} {l : List ActV} (h : ActsAt w (.slice a n c) l) (j : Nat) (u : ActV) (hu : l[j]? = some u) : ∃ b off, a = some ⟨b, off, none⟩ ∧ ActCells w b (off + j * 5) u := by
  obtain ⟨a', c', hx, _, _, h3⟩ := h
  simp only [Value.slice.injEq] at hx
  obtain ⟨rfl, _, _⟩ := hx
  exact h3 j u hu

/-- A bool comes back; true for a short list alone; and nothing has changed. -/
def FewPost (l : List ActV) (w : World) (e : Ending) (w' : World) : Prop := ∃ q : Bool, e = .returned (.bool q) ∧ (q = true → l.length ≤ 100) ∧ w = w'

set_option maxHeartbeats 1000000 in
theorem few_any (x : Value) (l : List ActV) (w : World) (h : ActsAt w x l) :
    Calls Try.prog 16 #[x] w (FewPost l w) := by
  obtain ⟨a, c, rfl, h1, h2⟩ := h.val
  unfold maxLen at h2
  go_enter Try.func16, Try.ntmps16
  go_wp2
  go_loop [3, 4] (fun n i => ∃ (k : Nat) (m : Int), k ≤ l.length ∧ k ≤ 101 ∧ i = .int .i64 k ∧ n = .int .i64 m ∧ 0 ≤ m ∧ m ≤ k * 9223372036854775) (fun _ i => 102 - (intOf i).toNat)
  case atStart => exact ⟨0, 0, by omega, by omega, rfl, rfl, by omega, by omega⟩
  case round =>
    obtain ⟨k, m, hk, hk2, rfl, rfl, hm1, hm2⟩ := hrel
    by_cases hlt : k < l.length
    · obtain ⟨b, off, rfl, _, hc1, _⟩ := acts_cell h k l[k] (List.getElem?_eq_getElem hlt)
      go_wp2
      · go_round
        case rel => exact ⟨k + 1, _, by omega, by omega, by go_num, rfl, by omega, by omega⟩
        case measure => simp [intOf]; omega
      · go_ret
        exact ⟨_, rfl, (fun hq => by cases hq), rfl⟩
    · go_wp2
      · go_ret
        exact ⟨_, rfl, fun _ => by omega, rfl⟩
      · go_ret
        exact ⟨_, rfl, (fun hq => by cases hq), rfl⟩

theorem refrest_any (n b : Int) (w : World) (h : 0 < b) (hb : b ≤ 1000000000) :
    Calls Try.prog 19 #[.int .i64 n, .int .i64 b] w fun e w' => e = .returned (.int .i64 (n % b)) ∧ w = w' := by
  have h1 := Int.tmod_lt_of_pos n h
  have h2 : -b < n.tmod b := by have := Int.lt_tmod_of_pos n h; omega
  have e1 := Int.tmod_eq_emod (a := n) (b := b)
  have h3 := Int.emod_nonneg n (show b ≠ 0 by omega)
  have h4 := Int.emod_lt_of_pos n h
  have hv : n % b = if n.tmod b < 0 then n.tmod b + b else n.tmod b := by
    have hnb : (b.natAbs : Int) = b := by omega
    split <;> split at e1 <;> (try rw [hnb] at e1) <;> omega
  have HV := Lib.hid hv
  clear hv e1
  by_cases hn : n.tmod b < 0
  · go_enter Try.func19, Try.ntmps19
    go_wp2
    go_ret
    exact ⟨ret_int (by rw [HV.out, if_pos hn]), rfl⟩
  · go_enter Try.func19, Try.ntmps19
    go_wp2
    go_ret
    exact ⟨ret_int (by rw [HV.out, if_neg (by omega)]), rfl⟩

/-- A new row of texts comes back. -/
def NewStrs (l : List ByteArray) (w : World) (e : Ending) (w' : World) : Prop := ∃ v, e = .returned v ∧ w'.ownsRow w.heap.size 9 1 v l.length (l.map Value.string) ∧ Below w.heap.size w w'

theorem without_step (l : List ByteArray) (i : Int) (k : Nat) (hk : k < l.length) : (((l.take k).zipIdx.filter fun p => decide ((p.2 : Int) ≠ i)).map (·.1)) ++ (if (k : Int) = i then [] else [l[k]]) = (((l.take (k + 1)).zipIdx.filter fun p => decide ((p.2 : Int) ≠ i)).map (·.1)) := by
  rw [List.take_succ_eq_append_getElem hk, List.zipIdx_append]
  simp only [List.filter_append, List.map_append]
  congr 1
  by_cases h : (k : Int) = i <;> simp [h, Nat.min_eq_left (Nat.le_of_lt hk), List.filter_cons]

/-- The texts but the one at place i. -/
def butAt (l : List ByteArray) (i : Int) : List ByteArray := (l.zipIdx.filter fun p => decide ((p.2 : Int) ≠ i)).map (·.1)

theorem butAt_len (l : List ByteArray) (i : Int) (k : Nat) : (butAt (l.take k) i).length ≤ k := by
  unfold butAt
  rw [List.length_map]
  refine Nat.le_trans (List.length_filter_le _ _) ?_
  simp
  omega

set_option maxHeartbeats 1000000 in
theorem without_any (x : Value) (l : List ByteArray) (i : Int) (w : World) (h : StrsAt w x l) (hl : l.length ≤ 100000) :
    Calls Try.prog 18 #[x, .int .i64 i] w (NewStrs (butAt l i) w) := by
  obtain ⟨i0, hi0, hz0, hz1, hz2⟩ := info_parts Try.info9
  obtain ⟨a, c, rfl, hlc, hcm⟩ := h.val
  unfold maxLen at hcm
  go_enter Try.func18, Try.ntmps18
  go_wp2
  go_loopw [5, 6] (fun v j wr => ∃ k : Nat, k ≤ l.length ∧ j = .int .i64 k ∧ wr.ownsRow w.heap.size 9 1 v (butAt (l.take k) i).length ((butAt (l.take k) i).map Value.string) ∧ Below w.heap.size w wr) (fun _ j _ => l.length - (intOf j).toNat)
  case atStart => exact ⟨0, by omega, rfl, World.ownsRow_nil _ _ _ _, Below.refl _ _⟩
  case round =>
    obtain ⟨k, hk, rfl, hown, hbel⟩ := hrel
    obtain ⟨va, vc, rfl, hv1, hv2, _⟩ := own_val hown
    by_cases hlt : k < l.length
    · obtain ⟨b, off, rfl, hc⟩ := strs_cell h k l[k] (List.getElem?_eq_getElem hlt)
      have hc1 : wr.cell? ⟨b, off + k, none⟩ = some (.string l[k]) := (hbel.cell (p := ⟨b, _, none⟩) (World.block_lt_of_cell? w _ hc)).trans hc
      have hst := without_step l i k hlt
      have hln := butAt_len l i k
      have hlc1 := (butAt (l.take k) i).length
      by_cases hki : (k : Int) = i
      · rw [if_pos hki, List.append_nil] at hst
        have HS : Hid (butAt (l.take k) i = butAt (l.take (k + 1)) i) := hst
        have hq : ((k : Int) != i) = false := by simp [hki]
        clear hst
        go_wp2
        go_roundw
        case rel => exact ⟨k + 1, by omega, by go_num, by rw [← HS.out]; exact hown, hbel⟩
        case measure => simp [intOf]; omega
      · rw [if_neg hki] at hst
        have HS : Hid (butAt (l.take k) i ++ [l[k]] = butAt (l.take (k + 1)) i) := hst
        have hq : ((k : Int) != i) = true := by simp [hki]
        clear hst
        have hsz := hbel.size
        go_wp2_with (at_builtin; refine wpList_append_src rfl _ _ 27 27 rfl w.heap.size 9 i0 _ 1 16 Try.underlying27 hi0 hz0 hz1 hz2 rfl (by decide) (.slice va _ vc) _ _ rfl (hown.alloc _) _ 1 [.string l[k]] rfl (src_one _ wr.heap.size l[k] (heap_alloc_new wr _)) (by unfold maxLen; omega) (by omega) (by simp; omega) ?_; intro v' w1 h1 h2 h3)
        have h1' : w1.ownsRow w.heap.size 9 1 v' (butAt (l.take (k + 1)) i).length ((butAt (l.take (k + 1)) i).map Value.string) := by
          rw [← HS.out]; simpa using h1
        have hb1 : Below w.heap.size w w1 := (hbel.alloc hsz _).trans (h2.below (by simp; omega) (fun j hj => by have := own_lt hown j hj; omega))
        clear h1 h2 h3
        go_wp2
        go_roundw
        case rel => exact ⟨k + 1, by omega, by go_num, h1', hb1⟩
        case measure => simp [intOf]; omega
    · obtain rfl : k = l.length := by omega
      go_wp2
      go_ret
      simp only [List.take_length] at hown ⊢
      exact ⟨_, rfl, hown, hbel⟩

end Go.Proofs.Ytkcjhjoodincbaa
