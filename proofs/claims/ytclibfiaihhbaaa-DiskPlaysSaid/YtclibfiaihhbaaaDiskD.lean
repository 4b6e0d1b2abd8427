/- A disk: Spoil. -/
import Derived.Test.YtclibfiaihhbaaaDiskC
import Derived.Lib.ConvBytes
import Derived.Laws.IdiomStrings
import Derived.Laws.BitsAllLaws
namespace Go.Proofs.Ytclibfiaihhbaaa
open Go.RowKit Go.ChangeMaps Go.MapKept

set_option maxRecDepth 100000 in
theorem spoil_no (p b size : Nat) (l : List KV) (k : ByteArray) (at_ y : Int) (w : World) (h : DiskAt w p b size l) (hk : k.size ≤ maxLen) (hno : look l k = none ∨ look l k = some ByteArray.empty ∨ y = 0) :
    Calls Try.prog 21 #[.pointer (some ⟨p, 0, none⟩), .string k, .int .i64 at_, .int .u8 y] w fun e w' => e = .returned (.bool false) ∧ w = w' := by
  have hrd := read_any p b size l k w h hk
  unfold readE at hrd
  cases hlk : look l k with
  | none =>
    simp only [hlk, Option.getD_none, Option.isSome_none, Bool.false_eq_true, if_false] at hrd
    go_enter Try.func21, Try.ntmps21
    go_wp2_with (go_at_call 11; refine hrd.mono ?_; rintro e w1 ⟨rfl, rfl⟩)
    go_ret
    exact ⟨rfl, rfl⟩
  | some u =>
    simp only [hlk, Option.getD_some, Option.isSome_some, if_true] at hrd
    rw [hlk] at hno
    rcases hno with hno | hno | rfl
    · cases hno
    · injection hno with hno
      subst hno
      have he : ByteArray.empty.toList.isEmpty = true := by rw [isEmpty_iff]; rfl
      go_enter Try.func21, Try.ntmps21
      go_wp2_with (go_at_call 11; refine hrd.mono ?_; rintro e w1 ⟨rfl, rfl⟩)
      all_goals go_ret
      all_goals exact ⟨rfl, rfl⟩
    · go_enter Try.func21, Try.ntmps21
      go_wp2_with (go_at_call 11; refine hrd.mono ?_; rintro e w1 ⟨rfl, rfl⟩)
      all_goals go_ret
      all_goals exact ⟨rfl, rfl⟩

/-- The bytes with one of them turned. -/
def spoL (l : List UInt8) (i : Nat) (y : Int) : List UInt8 := l.set i (UInt8.ofNat ((l.getD i 0).toNat ^^^ y.toNat))
def spo (u : ByteArray) (at_ y : Int) : ByteArray := ⟨(spoL u.data.toList (at_ % (u.size : Int)).toNat y).toArray⟩
theorem spo_size (u : ByteArray) (at_ y : Int) : (spo u at_ y).size = u.size := by
  unfold spo spoL
  rw [← ByteArray.size_data, ← Array.length_toList, List.length_set, Array.length_toList, ByteArray.size_data]

set_option maxHeartbeats 1000000 in
set_option maxRecDepth 100000 in
theorem spoil_yes (p b size : Nat) (l : List KV) (k : ByteArray) (at_ y : Int) (w : World) (h : DiskAt w p b size l) (hk : k.size ≤ maxLen) (u : ByteArray) (hlk : look l k = some u) (hu : u.size ≠ 0) (hy : 0 < y) (hy2 : y ≤ 255) :
    Calls Try.prog 21 #[.pointer (some ⟨p, 0, none⟩), .string k, .int .i64 at_, .int .u8 y] w fun e w' => e = .returned (.bool true) ∧ DiskAt w' p b size (putKV k (spo u at_ y) l) ∧ Chg (fun i => i = b) w w' := by
  have hrd := read_any p b size l k w h hk
  unfold readE at hrd
  simp only [hlk, Option.getD_some, Option.isSome_some, if_true] at hrd
  have h0 := isEmpty_iff u
  rw [decide_eq_false hu] at h0
  have hus := look_size hlk
  have hfits := h.fits
  have hsmall := h.small
  have hcv := Lib.run_convert_string_bytes (P := Try.prog) w 9 63 5 u Try.underlying9 Try.underlying63 Try.underlying5
  obtain ⟨C, hC⟩ : ∃ C, C = grownCap w u.size 0 5 := ⟨_, rfl⟩
  obtain ⟨W1, hW1⟩ : ∃ W1, W1 = Lib.bytesWorld w 5 u := ⟨_, rfl⟩
  have hn := Int.emod_nonneg at_ (show (u.size : Int) ≠ 0 by omega)
  have hn2 := Int.emod_lt_of_pos at_ (show (0 : Int) < (u.size : Int) by omega)
  obtain ⟨i, hi⟩ : ∃ i : Nat, (i : Int) = at_ % (u.size : Int) := ⟨(at_ % (u.size : Int)).toNat, by omega⟩
  have hrest := rest_num at_ (u.size : Int) (by omega) (by omega)
  rw [← hi] at hrest
  rw [← hC, ← hW1] at hcv
  have hiu : i < u.size := by omega
  have hcell : W1.cell? ⟨w.heap.size, i, none⟩ = some (.int .u8 ((u.data.toList.getD i 0).toNat : Int)) := by rw [hW1]; exact Lib.bytesWorld_cell w 5 u i hiu
  have hblk := Lib.bytesWorld_at_new w 5 u
  rw [← hW1] at hblk
  have hCs : u.size ≤ C := by rw [hC]; exact grownCap_ge ..
  have hbs : (Lib.bytesCells w 5 u).size = C := by unfold Lib.bytesCells; rw [← hC]; simp only [Array.size_append, Array.size_map, Array.size_replicate, ByteArray.size_data]; omega
  have hfrz : W1.frozen? ⟨w.heap.size, i, none⟩ = false := by
    simp [World.frozen?, hblk, hbs]; omega
  have hx0 : bits .xor .u8 ((u.data.toList.getD i 0).toNat : Int) y = (((u.data.toList.getD i 0).toNat ^^^ y.toNat : Nat) : Int) := by
    have := u8_xor ((u.data.toList.getD i 0).toNat : Int) y (by omega) (by have := (u.data.toList.getD i 0).toNat_lt; omega) (by omega) (by omega)
    simpa using this
  obtain ⟨X, hX⟩ : ∃ X : Nat, X = (u.data.toList.getD i 0).toNat ^^^ y.toNat := ⟨_, rfl⟩
  rw [← hX] at hx0
  obtain ⟨x0, hx00⟩ : ∃ x0 : Nat, x0 = (u.data.toList.getD i 0).toNat := ⟨_, rfl⟩
  rw [← hx00] at hx0 hcell
  have hXlt : X < 256 := by rw [hX]; exact Nat.xor_lt_two_pow (n := 8) (u.data.toList.getD i 0).toNat_lt (by omega)
  have hch1 : Chg (fun _ => False) w W1 := by
    rw [hW1]
    refine ⟨?_, ?_, ?_, by rw [Lib.bytesWorld_size]; omega, fun j hj _ => Lib.bytesWorld_at_old w 5 u j hj⟩ <;> rfl
  obtain ⟨W2, hW2⟩ : ∃ W2, W2 = W1.setCell ⟨w.heap.size, i, none⟩ (.int .u8 (X : Int)) := ⟨_, rfl⟩
  have hch2 : Chg (fun _ => False) w W2 := by rw [hW2]; exact hch1.setCell (.inr (Nat.le_refl _)) _
  have hback : (convert 63 9 (.slice (some ⟨w.heap.size, 0, none⟩) u.size C)).run Try.prog W2.drew = .ok (.string (spo u at_ y)) W2.drew := by
    have hl : (spoL u.data.toList i y).length = u.size := by unfold spoL; rw [List.length_set, Array.length_toList, ByteArray.size_data]
    have hc : ∀ j (hj : j < (spoL u.data.toList i y).length), W2.drew.cell? ((⟨w.heap.size, 0, none⟩ : Addr).add j) = some (.int .u8 ((spoL u.data.toList i y)[j].toNat : Int)) := by
      intro j hj
      show W2.cell? _ = _
      rw [Addr.add_lit, hW2]
      by_cases e : j = i
      · subst e
        have : (World.setCell W1 ⟨w.heap.size, j, none⟩ (.int .u8 (X : Int))).cell? ⟨w.heap.size, j, none⟩ = some (.int .u8 (X : Int)) := by
          simp [World.setCell, World.cell?, Array.getElem?_modify, hblk, Array.getElem?_setIfInBounds]; omega
        rw [Nat.zero_add, this]
        simp only [spoL, List.getElem_set_self]
        rw [← hX]
        have e8 : (UInt8.ofNat X).toNat = X := by rw [UInt8.toNat_ofNat']; omega
        rw [e8]
      · have : (World.setCell W1 ⟨w.heap.size, i, none⟩ (.int .u8 (X : Int))).cell? ⟨w.heap.size, j, none⟩ = W1.cell? ⟨w.heap.size, j, none⟩ := by
          simp [World.setCell, World.cell?, Array.getElem?_modify, hblk, Array.getElem?_setIfInBounds, Ne.symm e]
        rw [Nat.zero_add, this, hW1, Lib.bytesWorld_cell w 5 u j (by omega)]
        have hj2 : j < u.data.toList.length := by simp [spoL] at hj; simpa using hj
        simp only [spoL, List.getElem_set_ne (Ne.symm e), List.getD, List.getElem?_eq_getElem hj2, Option.getD_some]
    have := run_convert_bytes_back W2.drew 63 9 5 ⟨w.heap.size, 0, none⟩ C (spoL u.data.toList i y) Try.underlying63 Try.underlying5 Try.underlying9 hc
    rw [hl] at this
    rw [this]
    unfold spo
    rw [← hi, Int.toNat_natCast]
  have hd2 : DiskAt W2.drew p b size l := h.chg hch2.drew (by simp) (by simp)
  have c1 := hd2.cell1
  obtain ⟨w3, hst, hm3, hch3⟩ := hd2.own.store_run k (spo u at_ y) hk (by rw [spo_size]; unfold maxLen; omega) (by have := len_tot l; unfold maxLen; omega)
  have ht := tot_put h.own.apart k (spo u at_ y)
  rw [spo_size] at ht
  have hht : heldTakes l k = k.size + u.size + 16 := by unfold heldTakes; rw [hlk]
  have hfin : DiskAt w3 p b size (putKV k (spo u at_ y) l) ∧ Chg (fun i => i = b) w w3 :=
    ⟨⟨(hch3.block p hd2.lt.1 h.ne).trans hd2.at_, hm3, h.ne, by omega, h.small⟩, (hch2.drew.mono (T := fun i => i = b) (fun _ x => x.elim)).trans hch3 (fun i hi _ => hi)⟩
  have HF := Lib.hid hfin
  have hy3 : (y == 0) = false := by simp; omega
  clear hx00 hfin hht ht hm3 hch3 hd2 hch2 hch1 hXlt hX hbs hblk hC hW1 hn hn2
  have HI := Lib.hid hi
  clear hi
  go_enter Try.func21, Try.ntmps21
  go_wp2_with (go_at_call 11; refine hrd.mono ?_; rintro e w1 ⟨rfl, rfl⟩)
  rw [← hW2]
  clear hW2
  have c1' : W2.cell? ⟨p, 1, none⟩ = some (.map (some b)) := c1
  go_region_law (fail)
  all_goals (go_wp2; go_ret; exact ⟨rfl, HF.out⟩)


/-- What Spoil answers, and what is held behind it. -/
def spoilE (l : List KV) (k : ByteArray) (y : Int) : Bool := match look l k with | some u => !decide (u.size = 0) && !decide (y = 0) | none => false
def spoilS (l : List KV) (k : ByteArray) (at_ y : Int) : List KV := match look l k with | some u => if u.size = 0 ∨ y = 0 then l else putKV k (spo u at_ y) l | none => l

theorem spoil_any (p b size : Nat) (l : List KV) (k : ByteArray) (at_ y : Int) (w : World) (h : DiskAt w p b size l) (hk : k.size ≤ maxLen) (hy : 0 ≤ y) (hy2 : y ≤ 255) :
    Calls Try.prog 21 #[.pointer (some ⟨p, 0, none⟩), .string k, .int .i64 at_, .int .u8 y] w fun e w' => e = .returned (.bool (spoilE l k y)) ∧ DiskAt w' p b size (spoilS l k at_ y) ∧ Chg (fun i => i = b) w w' := by
  unfold spoilE spoilS
  cases hlk : look l k with
  | none =>
    refine (spoil_no p b size l k at_ y w h hk (.inl hlk)).mono ?_
    rintro e w' ⟨rfl, rfl⟩
    exact ⟨rfl, h, Chg.refl _ _⟩
  | some u =>
    by_cases hu : u.size = 0
    · refine (spoil_no p b size l k at_ y w h hk (.inr (.inl ?_))).mono ?_
      · rw [hlk]
        have : u = ByteArray.empty := by
          apply ByteArray.ext
          apply Array.eq_empty_of_size_eq_zero
          rw [ByteArray.size_data]; exact hu
        rw [this]
      · rintro e w' ⟨rfl, rfl⟩
        simp only [hu, true_or, if_true, decide_true, Bool.not_true, Bool.false_and]
        exact ⟨trivial, h, Chg.refl _ _⟩
    · by_cases hy0 : y = 0
      · refine (spoil_no p b size l k at_ y w h hk (.inr (.inr hy0))).mono ?_
        rintro e w' ⟨rfl, rfl⟩
        simp only [hy0, or_true, if_true, decide_true, Bool.not_true, Bool.and_false]
        exact ⟨trivial, h, Chg.refl _ _⟩
      · refine (spoil_yes p b size l k at_ y w h hk u hlk hu (by omega) hy2).mono ?_
        rintro e w' ⟨rfl, h1, h2⟩
        simp only [hu, hy0, or_self, if_false, decide_false, Bool.not_false, Bool.and_self]
        exact ⟨trivial, h1, h2⟩

end Go.Proofs.Ytclibfiaihhbaaa
