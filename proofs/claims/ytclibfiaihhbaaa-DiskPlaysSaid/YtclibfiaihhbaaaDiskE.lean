/- A disk's calls: how a list of them reads; few; done. -/
import Derived.Test.YtclibfiaihhbaaaDiskD
import Derived.StillTailTactics
namespace Go.Proofs.Ytclibfiaihhbaaa
open Go.RowKit Go.ChangeMaps Go.MapKept

/-- A call: its five fields. -/
structure ActV where
  d : Int
  k : ByteArray
  s : ByteArray
  at_ : Int
  by_ : Int

def ActV.val (a : ActV) : Value := .agg #[.int .u8 a.d, .string a.k, .string a.s, .int .i64 a.at_, .int .u8 a.by_]

/-- The cells of a call at a place. -/
def ActCells (w : World) (b o : Nat) (a : ActV) : Prop :=
  w.cell? ⟨b, o, none⟩ = some (.int .u8 a.d) ∧ w.cell? ⟨b, o + 1, none⟩ = some (.string a.k) ∧ w.cell? ⟨b, o + 2, none⟩ = some (.string a.s) ∧ w.cell? ⟨b, o + 3, none⟩ = some (.int .i64 a.at_) ∧
    w.cell? ⟨b, o + 4, none⟩ = some (.int .u8 a.by_) ∧ 0 ≤ a.d ∧ a.d ≤ 255 ∧ 0 ≤ a.by_ ∧ a.by_ ≤ 255 ∧ a.s.size ≤ maxLen ∧ a.k.size ≤ maxLen

/-- A slice of calls that can be read. -/
def ActsAt (w : World) (x : Value) (l : List ActV) : Prop :=
  ∃ a c, x = .slice a l.length c ∧ l.length ≤ c ∧ c ≤ maxLen ∧ ∀ (j : Nat) u, l[j]? = some u → ∃ b off, a = some ⟨b, off, none⟩ ∧ ActCells w b (off + j * 5) u

theorem ActsAt.val {w : World} {x : Value} {l : List ActV} (h : ActsAt w x l) : ∃ a c, x = .slice a l.length c ∧ l.length ≤ c ∧ c ≤ maxLen := by
  obtain ⟨a, c, rfl, h1, h2, _⟩ := h
  exact ⟨a, c, rfl, h1, h2⟩

theorem ActsAt.below {w w' : World} {x : Value} {l : List ActV} (h : ActsAt w x l) {B : Nat} (hb : Below B w w') (hB : w.heap.size ≤ B) : ActsAt w' x l := by
  obtain ⟨a, c, rfl, h1, h2, h3⟩ := h
  refine ⟨a, c, rfl, h1, h2, fun j u hu => ?_⟩
  obtain ⟨b, off, e, p1, p2, p3, p4, p5, r⟩ := h3 j u hu
  have hlt : b < B := by have := World.block_lt_of_cell? w _ p1; simp at this; omega
  exact ⟨b, off, e, (hb.cell (p := ⟨b, _, none⟩) hlt).trans p1, (hb.cell (p := ⟨b, _, none⟩) hlt).trans p2, (hb.cell (p := ⟨b, _, none⟩) hlt).trans p3,
    (hb.cell (p := ⟨b, _, none⟩) hlt).trans p4, (hb.cell (p := ⟨b, _, none⟩) hlt).trans p5, r⟩

theorem acts_cell {w : World} {a : Option Addr} {n c : Nat} {l : List ActV} (h : ActsAt w (.slice a n c) l) (j : Nat) (u : ActV) (hu : l[j]? = some u) : ∃ b off, a = some ⟨b, off, none⟩ ∧ ActCells w b (off + j * 5) u := by
  obtain ⟨a', c', hx, _, _, h3⟩ := h
  simp only [Value.slice.injEq] at hx
  obtain ⟨rfl, _, _⟩ := hx
  exact h3 j u hu

/-- A bool comes back; true for a short list of short texts alone; and nothing has changed. -/
def FewPost (l : List ActV) (w : World) (e : Ending) (w' : World) : Prop := ∃ q : Bool, e = .returned (.bool q) ∧ (q = true → l.length ≤ 100 ∧ ∀ a ∈ l, a.s.size ≤ 20000 ∧ a.k.size ≤ 20000) ∧ ∃ n, w' = w.drewN n

def sizesUpto (l : List ActV) : Nat := ((l.map fun a => min a.s.size 100000 + min a.k.size 100000)).sum

theorem sizes_step (l : List ActV) (k : Nat) (hk : k < l.length) : sizesUpto (l.take (k + 1)) = sizesUpto (l.take k) + (min l[k].s.size 100000 + min l[k].k.size 100000) := by
  rw [List.take_succ_eq_append_getElem hk]
  unfold sizesUpto
  rw [List.map_append, List.sum_append]
  simp
theorem sizes_mem {l : List ActV} {a : ActV} (h : a ∈ l) (hs : sizesUpto l ≤ 20000) : a.s.size ≤ 20000 ∧ a.k.size ≤ 20000 := by
  unfold sizesUpto at hs
  induction l with
  | nil => cases h
  | cons b r ih =>
    simp only [List.map_cons, List.sum_cons] at hs
    rcases List.mem_cons.1 h with rfl | h
    · omega
    · exact ih h (by omega)
theorem sizes_le (l : List ActV) : sizesUpto l ≤ l.length * 200000 := by
  unfold sizesUpto
  induction l with
  | nil => simp
  | cons a r ih => simp only [List.map_cons, List.sum_cons, List.length_cons]; omega

set_option maxHeartbeats 1000000 in
theorem few_any (x : Value) (l : List ActV) (w : World) (h : ActsAt w x l) :
    Calls Try.prog 8 #[x] w (FewPost l w) := by
  obtain ⟨a, c, rfl, h1, h2⟩ := h.val
  unfold maxLen at h2
  go_enter Try.func8, Try.ntmps8
  go_wp2
  go_loopw [3, 4] (fun n i wr => ∃ (k m : Nat), wr = w.drewN m ∧ k ≤ l.length ∧ k ≤ 101 ∧ i = .int .i64 k ∧ n = .int .i64 (sizesUpto (l.take k) : Nat)) (fun _ i _ => 102 - (intOf i).toNat)
  case atStart => exact ⟨0, 0, rfl, by omega, by omega, rfl, rfl⟩
  case round =>
    obtain ⟨k, m, hwr, hk, hk2, rfl, rfl⟩ := hrel
    have HW := Lib.hid hwr
    by_cases hlt : k < l.length
    · obtain ⟨b, off, rfl, hc0, hc1, hc2, hc3, hc4, _⟩ := acts_cell h k l[k] (List.getElem?_eq_getElem hlt)
      have hst := sizes_step l k hlt
      have hle := sizes_le (l.take k)
      rw [List.length_take] at hle
      obtain ⟨u, hu⟩ : ∃ u, u = l[k] := ⟨_, rfl⟩
      rw [← hu] at hc0 hc1 hc2 hc3 hc4 hst
      have d1 : wr.cell? ⟨b, off + k * 5 + 1, none⟩ = some (.string u.k) := by rw [hwr]; exact hc1
      have d2 : wr.cell? ⟨b, off + k * 5 + 2, none⟩ = some (.string u.s) := by rw [hwr]; exact hc2
      clear hc0 hc1 hc2 hc3 hc4 hwr
      obtain ⟨S, hS⟩ : ∃ S, S = sizesUpto (l.take k) := ⟨_, rfl⟩
      rw [← hS] at hst hle
      simp only [← hS]
      have HU := Lib.hid hu
      have HS := Lib.hid hS
      clear hu hS
      go_wp2
      · refine wp_region_still_lit (by kernel_rfl) (by kernel_rfl) ?_
        repeat still_step
        refine wpStill_nil ?_
        go_wp2
        have hv : IntKind.i64.wrap (IntKind.i64.wrap ((S : Int) + min (u.s.size : Int) 100000) + min (u.k.size : Int) 100000) = ((sizesUpto (l.take (k + 1)) : Nat) : Int) := by
          rw [IntKind.wrap_i64, IntKind.wrap_i64]
          omega
        go_roundw
        case rel => exact ⟨k + 1, m + 1, by rw [HW.out]; rfl, by omega, by omega, by go_num, by rw [hv]⟩
        case measure => simp [intOf]; omega
      · go_ret
        exact ⟨_, rfl, (fun hq => by cases hq), m, HW.out⟩
    · clear hwr
      go_wp2
      · go_ret
        refine ⟨_, rfl, fun hq => ?_, m, HW.out⟩
        obtain rfl : k = l.length := by omega
        rw [List.take_length] at hq
        refine ⟨by omega, fun a ha => sizes_mem ha (by have hq2 : ((sizesUpto l : Nat) : Int) ≤ 20000 := (by simpa using hq); omega)⟩
      · go_ret
        exact ⟨_, rfl, (fun hq => by cases hq), m, HW.out⟩

end Go.Proofs.Ytclibfiaihhbaaa
