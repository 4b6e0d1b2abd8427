/- The document's disk: Find and Room. -/
import Derived.Test.YtclibfiaihhbaaaDiskP
import Derived.Test.YtclibfiaihhbaaaDiskH
namespace Go.Proofs.Ytclibfiaihhbaaa
open Go.RowKit Go.ChangeMaps Go.MapKept

def namesOf (l : List KV) : List ByteArray := l.map fun p => p.1
def heldOf (l : List KV) : List ByteArray := l.map fun p => p.2
theorem namesOf_len (l : List KV) : (namesOf l).length = l.length := List.length_map _
theorem heldOf_len (l : List KV) : (heldOf l).length = l.length := List.length_map _
theorem namesOf_at {l : List KV} {i : Nat} {p : KV} (h : l[i]? = some p) : (namesOf l)[i]? = some p.1 := by unfold namesOf; rw [List.getElem?_map, h]; rfl
theorem heldOf_at {l : List KV} {i : Nat} {p : KV} (h : l[i]? = some p) : (heldOf l)[i]? = some p.2 := by unfold heldOf; rw [List.getElem?_map, h]; rfl

/-- The document's disk as a value: two slices that read as the names and the bytes. -/
def RefAt (w : World) (xn xh : Value) (l : List KV) : Prop := StrsAt w xn (namesOf l) ∧ StrsAt w xh (heldOf l)
theorem RefAt.below {w w' : World} {xn xh : Value} {l : List KV} (h : RefAt w xn xh l) {B : Nat} (hb : Below B w w') (hB : w.heap.size ≤ B) : RefAt w' xn xh l := ⟨h.1.below hb hB, h.2.below hb hB⟩
theorem three_cells {w : World} {g : Nat} {v0 v1 v2 : Value} {t : TypeId} {fz : Nat × Nat} (h : w.heap[g]? = some (.cells #[v0, v1, v2] t fz)) :
    w.cell? ⟨g, 0, none⟩ = some v0 ∧ w.cell? ⟨g, 1, none⟩ = some v1 ∧ w.cell? ⟨g, 2, none⟩ = some v2 := by
  simp [World.cell?, h]

theorem beq_no {a b : ByteArray} (h : a ≠ b) : (a.toList == b.toList) = false := by
  cases e : a.toList == b.toList
  · rfl
  · exact absurd (str_eq a b e) h

set_option maxHeartbeats 1000000 in
theorem find_any (size : Int) (xn xh : Value) (l : List KV) (k : ByteArray) (w : World) (h : StrsAt w xn (namesOf l)) (hn : l.length ≤ 1000000) :
    Calls Try.prog 25 #[.agg #[.int .i64 size, xn, xh], .string k] w fun e w' => e = .returned (.int .i64 (findI l k)) ∧ Below w.heap.size w w' := by
  obtain ⟨xa, xc, rfl, hxc, hxm⟩ := h.val
  rw [namesOf_len] at hxc ⊢
  have hb0 : Below w.heap.size w (w.alloc (.cells #[.int .i64 size, .slice xa l.length xc, xh] 44)) := (Below.refl _ w).alloc (Nat.le_refl _) _
  have h1 := h.below hb0 (Nat.le_refl _)
  obtain ⟨W1, hW1⟩ : ∃ W1, W1 = w.alloc (.cells #[.int .i64 size, .slice xa l.length xc, xh] 44) := ⟨_, rfl⟩
  obtain ⟨k0, k1, k2⟩ := three_cells (w := W1) (by rw [hW1]; exact heap_alloc_new w _)
  rw [← hW1] at hb0 h1
  rw [namesOf_len] at h1
  go_enter Try.func25, Try.ntmps25
  go_wp2_with (rw [← hW1]; clear hW1)
  go_loop [5] (fun i => ∃ n : Nat, n ≤ l.length ∧ i = .int .i64 n ∧ ∀ j q, j < n → l[j]? = some q → q.1 ≠ k) (fun i => l.length - (intOf i).toNat)
  case atStart => exact ⟨0, by omega, rfl, fun j q hj => by omega⟩
  case round =>
    obtain ⟨n, hn1, rfl, hno⟩ := hrel
    have HNO := Lib.hid hno
    clear hno
    by_cases hlt : n < l.length
    · obtain ⟨p, hp⟩ : ∃ p, l[n]? = some p := ⟨_, List.getElem?_eq_getElem hlt⟩
      obtain ⟨bx, ox, ex, hcx⟩ := strs_cell h1 n p.1 (namesOf_at hp)
      subst ex
      by_cases e : p.1 = k
      · have hq : (p.1.toList == k.toList) = true := by rw [e]; simp
        have hf := findI_at l k n p hp e HNO.out
        go_wp2
        go_ret
        exact ⟨rfl, hb0⟩
      · have hq : (p.1.toList == k.toList) = false := beq_no e
        go_wp2
        go_round
        case rel => exact ⟨n + 1, by omega, by go_num, fun j q hj hjq => by
          by_cases ej : j = n
          · subst ej
            rw [hp] at hjq
            injection hjq with hjq
            rw [← hjq]; exact e
          · exact HNO.out j q (by omega) hjq⟩
        case measure => simp [intOf]; omega
    · have hf := findI_none l k (fun p hp => by
        obtain ⟨j, hj, hje⟩ := List.getElem_of_mem hp
        exact HNO.out j p (by omega) (by rw [List.getElem?_eq_getElem hj, hje]))
      go_wp2
      go_ret
      exact ⟨rfl, hb0⟩

theorem tot_snoc (l : List KV) (p : KV) : tot (l ++ [p]) = tot l + takesKV p := by
  induction l with
  | nil => simp [tot]
  | cons y r ih => simp only [List.cons_append, tot, ih]; omega
theorem tot_take_le (l : List KV) : ∀ n, tot (l.take n) ≤ tot l := by
  induction l with
  | nil => intro n; simp [tot]
  | cons y r ih =>
    intro n
    cases n with
    | zero => simp [tot]
    | succ n => simp only [List.take_succ_cons, tot]; have := ih n; omega

set_option maxHeartbeats 1000000 in
theorem rroom_any (size : Nat) (xn xh : Value) (l : List KV) (w : World) (h : RefAt w xn xh l) (hs : size ≤ 4194304) (ht : tot l ≤ 1000000000) :
    Calls Try.prog 17 #[.agg #[.int .i64 size, xn, xh]] w fun e w' => e = .returned (.int .i64 ((size : Int) - (tot l : Int))) ∧ Below w.heap.size w w' := by
  obtain ⟨hn, hh⟩ := h
  obtain ⟨xa, xc, rfl, hxc, hxm⟩ := hn.val
  obtain ⟨ya, yc, rfl, hyc, hym⟩ := hh.val
  rw [namesOf_len] at hxc ⊢
  rw [heldOf_len] at hyc ⊢
  have hlen := len_tot l
  have hb0 : Below w.heap.size w (w.alloc (.cells #[.int .i64 size, .slice xa l.length xc, .slice ya l.length yc] 44)) := (Below.refl _ w).alloc (Nat.le_refl _) _
  have h1 := hn.below hb0 (Nat.le_refl _)
  have h2 := hh.below hb0 (Nat.le_refl _)
  obtain ⟨W1, hW1⟩ : ∃ W1, W1 = w.alloc (.cells #[.int .i64 size, .slice xa l.length xc, .slice ya l.length yc] 44) := ⟨_, rfl⟩
  obtain ⟨k0, k1, k2⟩ := three_cells (w := W1) (by rw [hW1]; exact heap_alloc_new w _)
  rw [← hW1] at hb0 h1 h2
  rw [namesOf_len] at h1
  rw [heldOf_len] at h2
  clear hn hh
  go_enter Try.func17, Try.ntmps17
  go_wp2_with (rw [← hW1]; clear hW1)
  go_loopw [3, 4] (fun s i wr => ∃ n m : Nat, n ≤ l.length ∧ i = .int .i64 n ∧ s = .int .i64 ((size : Int) - (tot (l.take n) : Int)) ∧ wr = W1.drewN m) (fun _ i _ => l.length - (intOf i).toNat)
  case atStart => exact ⟨0, 0, by omega, rfl, by simp [tot], rfl⟩
  case round =>
    obtain ⟨n, m, hn1, rfl, rfl, hwr⟩ := hrel
    have htl := tot_take_le l n
    have HW := Lib.hid hwr
    by_cases hlt : n < l.length
    · obtain ⟨p, hp⟩ : ∃ p, l[n]? = some p := ⟨_, List.getElem?_eq_getElem hlt⟩
      obtain ⟨bx, ox, ex, hcx⟩ := strs_cell h1 n p.1 (namesOf_at hp)
      obtain ⟨bb, ob, eb, hcy⟩ := strs_cell h2 n p.2 (heldOf_at hp)
      subst ex eb
      have c1 : wr.cell? ⟨bx, ox + n, none⟩ = some (.string p.1) := by rw [hwr]; exact hcx
      have c2 : wr.cell? ⟨bb, ob + n, none⟩ = some (.string p.2) := by rw [hwr]; exact hcy
      have d1 : wr.cell? ⟨w.heap.size, 1, none⟩ = some (.slice (some ⟨bx, ox, none⟩) l.length xc) := by rw [hwr]; exact k1
      have d2 : wr.cell? ⟨w.heap.size, 2, none⟩ = some (.slice (some ⟨bb, ob, none⟩) l.length yc) := by rw [hwr]; exact k2
      have hts : tot (l.take (n + 1)) = tot (l.take n) + takesKV p := by rw [List.take_add_one, hp]; exact tot_snoc _ _
      have hpt : takesKV p ≤ tot l := mem_tot (List.mem_of_getElem? hp)
      unfold takesKV at hts hpt
      have hle : tot (l.take (n + 1)) ≤ tot l := tot_take_le l (n + 1)
      obtain ⟨T, hT⟩ : ∃ T, T = tot (l.take n) := ⟨_, rfl⟩
      have HTS := Lib.hid hts
      rw [← hT] at htl
      simp only [← hT]
      have HT := Lib.hid hT
      clear hwr hcx hcy h1 h2 k1 k2 hts hT hle
      go_wp2
      go_quiet (fail)
      go_wp2
      go_roundw
      case rel => exact ⟨n + 1, _, by omega, by go_num, by rw [HTS.out, ← HT.out]; congr 1; first | rfl | omega | (simp only [IntKind.wrap_i64]; unfold wrap64; omega), by rw [HW.out, World.drewN_drewN]⟩
      case measure => simp [intOf]; omega
    · have d1 : wr.cell? ⟨w.heap.size, 1, none⟩ = some (.slice xa l.length xc) := by rw [hwr]; exact k1
      clear hwr
      obtain rfl : n = l.length := by omega
      rw [List.take_length]
      go_wp2
      go_ret
      exact ⟨rfl, by rw [HW.out]; exact ⟨hb0.os, hb0.tape, hb0.output, hb0.size, hb0.block⟩⟩
end Go.Proofs.Ytclibfiaihhbaaa
