/- A disk's names, in order: the keys as the map reads; a copy. -/
import Derived.Test.YtclibfiaihhbaaaDiskE
import Derived.Test.YtclibfiaihhbaaaDiskShelf
import Derived.Sort.KeysCollected
import Derived.Deep.RegionHeld3
namespace Go.Proofs.Ytclibfiaihhbaaa
open Go.RowKit Go.ChangeMaps Go.MapKept Go.Maps Go.Sort Go.Shelf

def keysL (l : List KV) : List (List UInt8) := l.map fun p => p.1.data.toList

theorem strKeys_md (l : List KV) : strKeys (MD l) = keysL l := by
  unfold MD strKeys keysL
  show (l.map kvLit).map _ = _
  rw [List.map_map]
  rfl

theorem before_lt : ∀ (a b : List UInt8), bytesBefore a b = true ↔ a < b
  | [], [] => by simp [bytesBefore]
  | [], b :: s => by simp [bytesBefore]
  | a :: r, [] => by simp [bytesBefore]
  | a :: r, b :: s => by
    rw [List.cons_lt_cons_iff, ← before_lt r s]
    simp [bytesBefore]

/-- In order. -/
def Rising (l : List KV) : Prop := l.Pairwise (fun p q => p.1.data.toList < q.1.data.toList)
theorem MapAt.rising {w : World} {b : Nat} {l : List KV} (h : MapAt w b l) : Rising l := by
  obtain ⟨es, he, hp, _⟩ := World.ownsMap.canon h Try.keyed9
  have : l.map kvLit = es := by
    unfold MD at he; injection he
  subst this
  rw [List.pairwise_map] at hp
  exact hp.imp fun {p q} hlt => (before_lt _ _).1 hlt

theorem rising_sorted {l : List KV} (h : Rising l) : (keysL l).mergeSort (fun x y => decide (x ≤ y)) = keysL l := by
  apply List.mergeSort_of_pairwise
  unfold keysL
  rw [List.pairwise_map]
  exact h.imp fun {p q} hlt => by simp only [decide_eq_true_eq]; exact List.le_of_lt hlt

theorem keys_enc (l : List KV) : (keysL l).map encStr = (l.map fun p => p.1).map Value.string := by
  unfold keysL
  rw [List.map_map, List.map_map]
  rfl

theorem sorts23 (m : Nat) : AnyZ.SortsIn Try.prog Try.sorted23_ren Fence.wide m :=
  ⟨fun blk off cap ss W hH hblk hsz => callsIn_wide.2 (AnyM.slices_Sort_string Try.sort30 blk off cap ss W hH hblk hsz),
   fun p cap W => callsIn_wide.2 (AnyM.slices_Sort_string_none Try.sort30 p cap W)⟩

set_option maxHeartbeats 1000000 in
/-- Names: a new slice of the names, in order. -/
theorem names_any (p b size : Nat) (l : List KV) (w : World) (h : DiskAt w p b size l) :
    Calls Try.prog 15 #[.pointer (some ⟨p, 0, none⟩)] w fun e w' => ∃ v, e = .returned v ∧ w'.ownsRow w.heap.size 9 1 v l.length ((l.map fun p => p.1).map Value.string) ∧ Below w.heap.size w w' := by
  refine (callsIn_wide (n := 6)).1 ?_
  have c1 := h.cell1
  have hown := h.own
  have hbl := hown.lt
  have hris := hown.rising
  have hlt := len_tot l
  have hf := h.fits
  have hsm := h.small
  have hmax : Maps.size (MD l) ≤ maxLen := by rw [md_size]; unfold maxLen; omega
  have hbytes : Maps.size (MD l) * 16 ≤ 140737488355328 := by rw [md_size]; omega
  have hseq : SeqGives Fence.wide 2 Try.prog 31 #[.pointer (some ⟨w.heap.size, 0, none⟩)] encStr (fun ss => ss.Perm (strKeys (MD l))) (Maps.size (MD l)) (w.alloc (.cells #[.map (some b)] 51)) :=
    AnyZ.keys_gives (ρ := Try.keys24_ren) { Try.keys24 with } Fence.wide _ trivial rfl (by omega) w.heap.size b l.length (MD l) _ (by simp) (by simp) (by
      obtain ⟨es, clock, hb, Ft, hs, hD⟩ := hown
      exact ⟨es, clock, (Below.heap_alloc _ _ b hbl).trans hb, Ft, hs, hD⟩)
  have cK : ∀ mb W, CallsIn Fence.wide 5 Try.prog 24 #[.map mb] W fun e w' => e = .returned (.func (.func 31) #[] #[.pointer (some ⟨W.heap.size, 0, none⟩)]) ∧ w' = W.alloc (.cells #[.map mb] 51) := fun mb W => AnyZ.keys_in Try.keys24 Fence.wide 5 trivial rfl mb W
  have cS := AnyZ.sorted_in Try.sorted23 Fence.wide 5 trivial trivial trivial trivial rfl (by omega) (sorts23 _) (enters_of Try.func30 (by kernel_rfl) rfl) 31 #[.pointer (some ⟨w.heap.size, 0, none⟩)] trivial (enters_of Try.func31 (by kernel_rfl) rfl) _ _ hmax hbytes _ hseq
  change CallsIn _ _ Try.prog 23 _ _ _ at cS
  have hfK : Fence.wide.fn 24 := trivial
  have hfS : Fence.wide.fn 23 := trivial
  clear hseq
  refine callsIn_of_wp Try.func15 rfl trivial ?_ rfl
  simp only [Try.ntmps15, List.size_toArray, List.length_cons, List.length_nil, Nat.reduceAdd, Nat.reduceSub, Array.replicate_succ, Array.replicate_zero, List.push_toArray, List.append_toArray, List.nil_append, List.cons_append]
  gi_wp2_with (first
    | (gi_at_call 24; refine (cK _ _).mono ?_; rintro e w' ⟨rfl, rfl⟩)
    | (gi_at_call 23; refine cS.mono ?_; rintro e w' ⟨v, ss, rfl, hS, hrow, hnil, hb⟩))
  go_ret
  have hmm : ss.mergeSort (fun x y => decide (x ≤ y)) = keysL l := by
    rw [strKeys_md] at hS
    have e1 : (ss.mergeSort (fun x y => decide (x ≤ y))).Perm (keysL l) := (List.mergeSort_perm ss _).trans hS
    have tr : ∀ x y z : List UInt8, decide (x ≤ y) = true → decide (y ≤ z) = true → decide (x ≤ z) = true := fun x y z h1 h2 => by
      simp only [decide_eq_true_eq] at *; exact List.le_trans h1 h2
    have to : ∀ x y : List UInt8, (decide (x ≤ y) || decide (y ≤ x)) = true := fun x y => by
      simp only [Bool.or_eq_true, decide_eq_true_eq]; exact List.le_total x y
    refine List.Perm.eq_of_pairwise (le := fun x y => decide (x ≤ y) = true) ?_ (List.pairwise_mergeSort tr to _) ?_ e1
    · intro x y _ _ h1 h2
      simp only [decide_eq_true_eq] at h1 h2
      exact List.le_antisymm h1 h2
    · rw [← rising_sorted hris]
      exact List.pairwise_mergeSort tr to _
  have hll : ss.length = l.length := by
    have := hS.length_eq
    rw [strKeys_md] at this
    simpa [keysL] using this
  rw [hmm, keys_enc, hll] at hrow
  exact ⟨v, rfl, ownsRow_base_a hrow (by simp), ((Below.refl _ w).alloc (Nat.le_refl _) _).trans (hb.mono (by simp))⟩

set_option maxHeartbeats 1000000 in
/-- Copy: a new disk that holds the same; the old one stays. -/
theorem copy_any (p b size : Nat) (l : List KV) (w : World) (h : DiskAt w p b size l) :
    Calls Try.prog 19 #[.pointer (some ⟨p, 0, none⟩)] w fun e w' => ∃ p' b', e = .returned (.pointer (some ⟨p', 0, none⟩)) ∧ DiskAt w' p' b' size l ∧ Below w.heap.size w w' ∧ w.heap.size ≤ p' ∧ w.heap.size ≤ b' := by
  have c0 := h.cell0
  have c1 := h.cell1
  have hlt := h.lt
  obtain ⟨es, clock, hb, F, hs, hD⟩ := h.own
  have hcl := fun W hW => AnyW.maps_Clone Try.clone28 b es clock W hW
  change ∀ W, _ → Calls Try.prog 28 _ _ _ at hcl
  go_enter Try.func19, Try.ntmps19
  go_wp2_with fail
  go_region_held3 (fun w' => w'.cell? ⟨p, 0, none⟩ = some (.int .i64 size) ∧ w'.cell? ⟨p, 1, none⟩ = some (.map (some b)))
    (go_keep)
    (first | (go_at_call 28; refine (hcl _ ?_).mono ?_; (exact hb); rintro e w' ⟨rfl, rfl⟩))
  go_wp2
  go_ret
  have e1 : (w.alloc (.map es clock)).heap.size = w.heap.size + 1 := by simp
  have hat := heap_alloc_new (w.alloc (.map es clock)) (.cells #[.int .i64 size, .map (some w.heap.size)] 53)
  rw [e1] at hat
  have B : Below w.heap.size w ((w.alloc (.map es clock)).alloc (.cells #[.int .i64 size, .map (some w.heap.size)] 53)) := ((Below.refl _ w).alloc (Nat.le_refl _) _).alloc (by simp) _
  refine ⟨w.heap.size + 1, w.heap.size, rfl, ⟨hat, ⟨es, clock, ?_, F, hs, hD⟩, by omega, h.fits, h.small⟩, ⟨B.os, B.tape, B.output, B.size, B.block⟩, by omega, Nat.le_refl _⟩
  show ((w.alloc (.map es clock)).alloc _).heap[w.heap.size]? = _
  rw [Below.heap_alloc _ _ _ (by simp)]
  exact heap_alloc_new w _

end Go.Proofs.Ytclibfiaihhbaaa
