/- A text's bytes with one of them turned, in memory and back. -/
import Derived.Test.YtclibfiaihhbaaaDiskX
namespace Go.Proofs.Ytclibfiaihhbaaa
open Go.RowKit Go.ChangeMaps Go.MapKept

theorem spo_mem (w : World) (u : ByteArray) (at_ y : Int) (i : Nat) (hi : (i : Int) = at_ % (u.size : Int)) (hiu : i < u.size) (hy : 0 ≤ y) (hy2 : y ≤ 255) :
    ∃ (X C : Nat) (W1 : World), (∀ (n : Nat) (T : Array Value), n = n → (convert 9 63 (.string u)).run Try.prog w = .ok (.slice (some ⟨w.heap.size, 0, none⟩) u.size C) W1) ∧ u.size ≤ C ∧
      Below w.heap.size w W1 ∧ w.heap.size < W1.heap.size ∧
      W1.cell? ⟨w.heap.size, i, none⟩ = some (.int .u8 ((u.data.toList.getD i 0).toNat : Int)) ∧ W1.frozen? ⟨w.heap.size, i, none⟩ = false ∧
      bits .xor .u8 ((u.data.toList.getD i 0).toNat : Int) y = (X : Int) ∧
      ∀ W : World, W.heap[w.heap.size]? = (W1.setCell ⟨w.heap.size, i, none⟩ (.int .u8 (X : Int))).heap[w.heap.size]? →
        (convert 63 9 (.slice (some ⟨w.heap.size, 0, none⟩) u.size C)).run Try.prog W = .ok (.string (spo u at_ y)) W := by
  have hcv := Lib.run_convert_string_bytes (P := Try.prog) w 9 63 5 u Try.underlying9 Try.underlying63 Try.underlying5
  obtain ⟨C, hC⟩ : ∃ C, C = grownCap w u.size 0 5 := ⟨_, rfl⟩
  obtain ⟨W1, hW1⟩ : ∃ W1, W1 = Lib.bytesWorld w 5 u := ⟨_, rfl⟩
  rw [← hC, ← hW1] at hcv
  have hcell : W1.cell? ⟨w.heap.size, i, none⟩ = some (.int .u8 ((u.data.toList.getD i 0).toNat : Int)) := by rw [hW1]; exact Lib.bytesWorld_cell w 5 u i hiu
  have hblk := Lib.bytesWorld_at_new w 5 u
  rw [← hW1] at hblk
  have hCs : u.size ≤ C := by rw [hC]; exact grownCap_ge ..
  have hbs : (Lib.bytesCells w 5 u).size = C := by unfold Lib.bytesCells; rw [← hC]; simp only [Array.size_append, Array.size_map, Array.size_replicate, ByteArray.size_data]; omega
  have hfrz : W1.frozen? ⟨w.heap.size, i, none⟩ = false := by
    simp [World.frozen?, hblk, hbs]; omega
  have hx0 : bits .xor .u8 ((u.data.toList.getD i 0).toNat : Int) y = (((u.data.toList.getD i 0).toNat ^^^ y.toNat : Nat) : Int) := by
    have := u8_xor ((u.data.toList.getD i 0).toNat : Int) y (by omega) (by have := (u.data.toList.getD i 0).toNat_lt; omega) (by omega) (by omega)
    simpa using this
  obtain ⟨X, hX⟩ : ∃ X : Nat, X = (u.data.toList.getD i 0).toNat ^^^ y.toNat := ⟨_, rfl⟩
  rw [← hX] at hx0
  have hXlt : X < 256 := by rw [hX]; exact Nat.xor_lt_two_pow (n := 8) (u.data.toList.getD i 0).toNat_lt (by omega)
  refine ⟨X, C, W1, fun _ _ _ => hcv, hCs, ?_, (Array.getElem?_eq_some_iff.1 hblk).1, hcell, hfrz, hx0, fun W hW => ?_⟩
  · rw [hW1]
    refine ⟨?_, ?_, ?_, by rw [Lib.bytesWorld_size]; omega, fun j hj => Lib.bytesWorld_at_old w 5 u j hj⟩ <;> rfl
  have hl : (spoL u.data.toList i y).length = u.size := by unfold spoL; rw [List.length_set, Array.length_toList, ByteArray.size_data]
  have hWc : ∀ j, W.cell? ⟨w.heap.size, j, none⟩ = (W1.setCell ⟨w.heap.size, i, none⟩ (.int .u8 (X : Int))).cell? ⟨w.heap.size, j, none⟩ := fun j => World.cell?_of_block hW
  have hc : ∀ j (hj : j < (spoL u.data.toList i y).length), W.cell? ((⟨w.heap.size, 0, none⟩ : Addr).add j) = some (.int .u8 ((spoL u.data.toList i y)[j].toNat : Int)) := by
    intro j hj
    rw [Addr.add_lit, Nat.zero_add, hWc]
    by_cases e : j = i
    · subst e
      have : (World.setCell W1 ⟨w.heap.size, j, none⟩ (.int .u8 (X : Int))).cell? ⟨w.heap.size, j, none⟩ = some (.int .u8 (X : Int)) := by
        simp [World.setCell, World.cell?, Array.getElem?_modify, hblk, Array.getElem?_setIfInBounds]; omega
      rw [this]
      simp only [spoL, List.getElem_set_self]
      rw [← hX]
      have e8 : (UInt8.ofNat X).toNat = X := by rw [UInt8.toNat_ofNat']; omega
      rw [e8]
    · have : (World.setCell W1 ⟨w.heap.size, i, none⟩ (.int .u8 (X : Int))).cell? ⟨w.heap.size, j, none⟩ = W1.cell? ⟨w.heap.size, j, none⟩ := by
        simp [World.setCell, World.cell?, Array.getElem?_modify, hblk, Array.getElem?_setIfInBounds, Ne.symm e]
      rw [this, hW1, Lib.bytesWorld_cell w 5 u j (by omega)]
      have hj2 : j < u.data.toList.length := by simp [spoL] at hj; simpa using hj
      simp only [spoL, List.getElem_set_ne (Ne.symm e), List.getD, List.getElem?_eq_getElem hj2, Option.getD_some]
  have := run_convert_bytes_back W 63 9 5 ⟨w.heap.size, 0, none⟩ C (spoL u.data.toList i y) Try.underlying63 Try.underlying5 Try.underlying9 hc
  rw [hl] at this
  rw [this]
  unfold spo
  rw [← hi, Int.toNat_natCast]

/-- The rest of a number, as Go reckons it, and then from 0 on. -/
theorem rest_parts (n b : Int) (h : 0 < b) : (0 ≤ n.tmod b ∧ n.tmod b = n % b) ∨ (n.tmod b < 0 ∧ -b < n.tmod b ∧ n.tmod b + b = n % b) := by
  have h1 := Int.tmod_lt_of_pos n h
  have h2 : -b < n.tmod b := by have := Int.lt_tmod_of_pos n h; omega
  have h3 := Int.tmod_eq_emod (a := n) (b := b)
  by_cases h4 : 0 ≤ n.tmod b
  · refine .inl ⟨h4, ?_⟩
    have e1 := Int.emod_nonneg n (show b ≠ 0 by omega)
    have e2 := Int.emod_lt_of_pos n h
    split at h3
    · omega
    · have : ((b.natAbs : Int)) = b := by omega
      omega
  · refine .inr ⟨by omega, h2, ?_⟩
    have e1 := Int.emod_nonneg n (show b ≠ 0 by omega)
    split at h3
    · omega
    · have : ((b.natAbs : Int)) = b := by omega
      omega

/-- A text put over one of an owned row's. -/
theorem row_put {W : World} {B i : Nat} {y : Value} {L : List ByteArray} {s : ByteArray} (h : W.ownsRow B 9 1 y L.length (L.map Value.string)) (hi : i < L.length) :
    ∃ g c, y = .slice (some ⟨g, 0, none⟩) L.length c ∧ W.cell? ⟨g, i, none⟩ = some (.string L[i]) ∧ W.frozen? ⟨g, i, none⟩ = false ∧ B ≤ g ∧ g < W.heap.size ∧ i < c ∧ y.ownBlock = some g ∧
      StrsAt (W.setCell ⟨g, i, none⟩ (.string s)) y (L.set i s) := by
  rcases h.2 with ⟨rfl, h0⟩ | ⟨g, c, cur, rfl, hB, hg, hnc, hcm, hcs, htake⟩
  · omega
  · have hcells : ∀ j u, L[j]? = some u → W.cell? ⟨g, j, none⟩ = some (.string u) := fun j u hu => by
      have := h.cells (g := g) rfl j (.string u) (by rw [List.getElem?_map, hu]; rfl)
      rwa [Addr.add_lit, Nat.zero_add] at this
    have hci := hcells i L[i] (List.getElem?_eq_getElem hi)
    refine ⟨g, c, rfl, hci, by simp [World.frozen?, hg], hB, (Array.getElem?_eq_some_iff.1 hg).1, by omega, rfl, some ⟨g, 0, none⟩, c, by rw [List.length_set], by rw [List.length_set]; exact hnc, hcm, fun j u hu => ⟨g, 0, rfl, ?_⟩⟩
    rw [Nat.zero_add]
    by_cases e : i = j
    · subst e
      rw [List.getElem?_set_self hi] at hu
      injection hu with hu
      subst hu
      have : i < cur.size := by rw [hcs]; omega
      simp [World.setCell, World.cell?, Array.getElem?_modify, hg, Array.getElem?_setIfInBounds, this]
    · rw [List.getElem?_set_ne e] at hu
      have := hcells j u hu
      rw [← this]
      simp [World.setCell, World.cell?, Array.getElem?_modify, hg, Array.getElem?_setIfInBounds, e]

theorem namesOf_set {l : List KV} {i : Nat} {k u v : ByteArray} (h : l[i]? = some (k, u)) : namesOf (l.set i (k, v)) = namesOf l := by
  unfold namesOf
  rw [List.map_set]
  have : (l.map fun p => p.1)[i]? = some k := by rw [List.getElem?_map, h]; rfl
  obtain ⟨hlt, he⟩ := List.getElem?_eq_some_iff.1 this
  simp only
  rw [← he]
  exact List.set_getElem_self hlt
theorem heldOf_set (l : List KV) (i : Nat) (k v : ByteArray) : heldOf (l.set i (k, v)) = (heldOf l).set i v := by
  unfold heldOf
  rw [List.map_set]
end Go.Proofs.Ytclibfiaihhbaaa
