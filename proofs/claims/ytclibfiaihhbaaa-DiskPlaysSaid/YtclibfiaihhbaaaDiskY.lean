/- The document's answer to a call, and the disk behind it. -/
import Derived.Test.YtclibfiaihhbaaaDiskV
namespace Go.Proofs.Ytclibfiaihhbaaa
open Go.RowKit Go.ChangeMaps Go.MapKept

/-- A list of names and bytes as a disk may hold it. -/
structure Good (size : Nat) (l : List KV) : Prop where
  apart : Apartn l
  rising : Rising l
  noEmpty : NoEmpty l
  fits : tot l ≤ size
  small : size ≤ 4194304

/-- The three blocks at the begin: the disk, the call, the room for the answer. -/
structure PlAt (w W : World) (size : Int) (xn xh : Value) (a : ActV) : Prop where
  below : Below w.heap.size w W
  dbox : W.heap[w.heap.size]? = some (.cells #[.int .i64 size, xn, xh] 44 (0, 0))
  abox : W.heap[w.heap.size + 1]? = some (.cells #[.int .u8 a.d, .string a.k, .string a.s, .int .i64 a.at_, .int .u8 a.by_] 33 (0, 0))
  res : W.heap[w.heap.size + 1 + 1]? = some (.cells #[.int .i64 0, .slice none 0 0, .slice none 0 0] 44 (0, 0))

theorem PlAt.keep {w W W' : World} {size : Int} {xn xh : Value} {a : ActV} (h : PlAt w W size xn xh a) (hb : Below W.heap.size W W') : PlAt w W' size xn xh a :=
  ⟨h.below.trans (hb.mono h.below.size), (hb.block _ (Array.getElem?_eq_some_iff.1 h.dbox).1).trans h.dbox, (hb.block _ (Array.getElem?_eq_some_iff.1 h.abox).1).trans h.abox, (hb.block _ (Array.getElem?_eq_some_iff.1 h.res).1).trans h.res⟩
theorem PlAt.made (w : World) (size : Int) (xn xh : Value) (a : ActV) :
    PlAt w (((w.alloc (.cells #[.int .i64 size, xn, xh] 44)).alloc (.cells #[.int .u8 a.d, .string a.k, .string a.s, .int .i64 a.at_, .int .u8 a.by_] 33)).alloc (.cells #[.int .i64 0, .slice none 0 0, .slice none 0 0] 44)) size xn xh a := by
  have e1 : (w.alloc (.cells #[.int .i64 size, xn, xh] 44)).heap.size = w.heap.size + 1 := by simp
  have e2 : ((w.alloc (.cells #[.int .i64 size, xn, xh] 44)).alloc (.cells #[.int .u8 a.d, .string a.k, .string a.s, .int .i64 a.at_, .int .u8 a.by_] 33)).heap.size = w.heap.size + 1 + 1 := by simp
  refine ⟨(((Below.refl _ w).alloc (Nat.le_refl _) _).alloc (by simp) _).alloc (by simp; omega) _, ?_, ?_, ?_⟩
  · rw [Below.heap_alloc _ _ _ (by simp; omega), Below.heap_alloc _ _ _ (by simp)]; exact heap_alloc_new w _
  · rw [Below.heap_alloc _ _ _ (by simp), ← e1]; exact heap_alloc_new _ _
  · rw [← e2]; exact heap_alloc_new _ _
/-- The answer's room filled, at the end. -/
theorem PlAt.fill {w W : World} {size : Int} {xn xh : Value} {a : ActV} (h : PlAt w W size xn xh a) (x y z : Value) :
    (((W.setCell ⟨w.heap.size + 1 + 1, 0, none⟩ x).setCell ⟨w.heap.size + 1 + 1, 1, none⟩ y).setCell ⟨w.heap.size + 1 + 1, 2, none⟩ z).heap[w.heap.size + 1 + 1]? = some (.cells #[x, y, z] 44 (0, 0)) ∧
      Chg (fun i => i = w.heap.size + 1 + 1) W (((W.setCell ⟨w.heap.size + 1 + 1, 0, none⟩ x).setCell ⟨w.heap.size + 1 + 1, 1, none⟩ y).setCell ⟨w.heap.size + 1 + 1, 2, none⟩ z) := res_stored x y z h.res
theorem StrsAt.chg {S : Nat → Prop} {w w' : World} {x : Value} {l : List ByteArray} (h : StrsAt w x l) (hc : Chg S w w') (hs : ∀ i, S i → w.heap.size ≤ i) : StrsAt w' x l := h.below (hc.below (Nat.le_refl _) hs) (Nat.le_refl _)

/-- Texts are not in a block that holds none. -/
theorem StrsAt.far {w w' : World} {x : Value} {l : List ByteArray} {r : Nat} {a b c : Value} {t : TypeId} (h : StrsAt w x l) (hr : w.heap[r]? = some (.cells #[a, b, c] t (0, 0))) (ha : ∀ s, a ≠ .string s) (hb : ∀ s, b ≠ .string s) (hc : ∀ s, c ≠ .string s) (hch : Chg (fun i => i = r) w w') : StrsAt w' x l := by
  obtain ⟨ad, cp, rfl, h1, h2, h3⟩ := h
  refine ⟨ad, cp, rfl, h1, h2, fun j s hs => ?_⟩
  obtain ⟨g, off, e, hcell⟩ := h3 j s hs
  refine ⟨g, off, e, ?_⟩
  by_cases eg : g = r
  · exfalso
    subst eg
    simp only [World.cell?, hr] at hcell
    match off + j, hcell with
    | 0, hcell => exact ha s (by simpa using hcell)
    | 1, hcell => exact hb s (by simpa using hcell)
    | 2, hcell => exact hc s (by simpa using hcell)
    | n + 3, hcell => simp at hcell
  · exact (hch.cell (p := ⟨g, _, none⟩) (World.block_lt_of_cell? w _ hcell) eg).trans hcell
theorem RefAt.far {w W W' : World} {size : Int} {dn dh xn xh : Value} {a : ActV} {l : List KV} (hp : PlAt w W size dn dh a) (h : RefAt W xn xh l) (hch : Chg (fun i => i = w.heap.size + 1 + 1) W W') : RefAt W' xn xh l :=
  ⟨h.1.far hp.res (by simp) (by simp) (by simp) hch, h.2.far hp.res (by simp) (by simp) (by simp) hch⟩
theorem refNil (w : World) : RefAt w (.slice none 0 0) (.slice none 0 0) [] := ⟨own_strs (l := []) (World.ownsRow_nil w 0 9 1), own_strs (l := []) (World.ownsRow_nil w 0 9 1)⟩

set_option maxHeartbeats 8000000 in
set_option maxRecDepth 100000 in
theorem plainly_any (size : Nat) (xn xh : Value) (l : List KV) (a : ActV) (w : World) (h : RefAt w xn xh l) (hg : Good size l) (ha : ActOk a) :
    Calls Try.prog 16 #[.agg #[.int .i64 size, xn, xh], a.val] w fun e w' => ∃ xn' xh', e = .returned (.tuple #[.agg #[.int .i64 size, xn', xh'], .string (doneT l a), .int .i64 (doneE size l a)]) ∧
      RefAt w' xn' xh' (doneS size l a) ∧ Below w.heap.size w w' := by
  obtain ⟨hN, hH⟩ := h
  obtain ⟨xa, xc, rfl, hxc, hxm⟩ := hN.val
  obtain ⟨ya, yc, rfl, hyc, hym⟩ := hH.val
  rw [namesOf_len] at hxc hN ⊢
  rw [heldOf_len] at hyc hH ⊢
  have hlt := len_tot l
  have hfits := hg.fits
  have hsmall := hg.small
  have hp1 := PlAt.made w size (.slice xa l.length xc) (.slice ya l.length yc) a
  obtain ⟨T, hT⟩ : ∃ T, T = doneT l a := ⟨_, rfl⟩
  obtain ⟨E, hE⟩ : ∃ E, E = doneE size l a := ⟨_, rfl⟩
  obtain ⟨S, hS⟩ : ∃ S, S = doneS size l a := ⟨_, rfl⟩
  rw [← hT, ← hE, ← hS]
  unfold doneT at hT
  unfold doneE at hE
  unfold doneS at hS
  have HA := Lib.hid ha
  obtain ⟨d, k, s, at_, y⟩ := a
  obtain ⟨d0, d1, y0, y1, hss, hks⟩ := ha
  simp only at d0 d1 y0 y1 hss hks hT hE hS
  unfold ActV.val
  simp only
  obtain ⟨W1, hW1⟩ : ∃ W1, W1 = ((w.alloc (.cells #[.int .i64 size, .slice xa l.length xc, .slice ya l.length yc] 44)).alloc (.cells #[.int .u8 d, .string k, .string s, .int .i64 at_, .int .u8 y] 33)).alloc (.cells #[.int .i64 0, .slice none 0 0, .slice none 0 0] 44) := ⟨_, rfl⟩
  simp only at hp1
  rw [← hW1] at hp1
  have hfd := find_any size (.slice xa l.length xc) (.slice ya l.length yc) l k W1 (hN.below hp1.below (Nat.le_refl _)) (by omega)
  have HG := Lib.hid hg
  have HT := Lib.hid hT
  have HE := Lib.hid hE
  have HS := Lib.hid hS
  clear hT hE hS hg
  obtain ⟨d0_, d1_, d2_⟩ := three_cells hp1.dbox
  obtain ⟨k0, k1, k2, k3, k4⟩ := act_cells hp1.abox
  rcases find_look l k with ⟨hf, hlk⟩ | ⟨i, u, hf, hli, hlk, hhi⟩
  · rw [hf] at hfd
    go_enter Try.func16, Try.ntmps16
    go_wp2_with (first | (rw [← hW1]; clear hW1))
    refine hfd.mono ?_
    rintro e W2 ⟨rfl, hb2⟩
    have hp2 := hp1.keep hb2
    clear hfd hp1 hb2 k0 k1 k2 k3 k4 d0_ d1_ d2_ hf
    obtain ⟨d0_, d1_, d2_⟩ := three_cells hp2.dbox
    obtain ⟨k0, k1, k2, k3, k4⟩ := act_cells hp2.abox
    obtain ⟨r0, r1, r2⟩ := three_cells hp2.res
    obtain ⟨f0, f1, f2⟩ := three_free hp2.res
    have HP := Lib.hid hp2
    clear hp2
    by_cases e4 : d % 8 = 4
    · have HT1 := Lib.hid (HT.out.trans (show _ = (⟨#[]⟩ : ByteArray) by rw [if_pos e4, hlk]; rfl))
      have HE1 := Lib.hid (HE.out.trans (show _ = (8 : Int) by rw [if_pos e4]; unfold readE; rw [hlk]; rfl))
      have HS1 := Lib.hid (HS.out.trans (show _ = l by rw [if_pos e4]))
      clear HT HE HS
      obtain ⟨hr9, hC9⟩ := HP.out.fill (.int .i64 size) (.slice xa l.length xc) (.slice ya l.length yc)
      obtain ⟨s0, s1, s2⟩ := three_cells hr9
      have HX := Lib.hid (HP.out.below.trans (hC9.below HP.out.below.size (fun i hi => by omega)))
      clear hr9 hC9
      go_wp2_with fail
      exact bodyPost_ret (v := .tuple #[.agg #[.int .i64 size, .slice xa l.length xc, .slice ya l.length yc], .string ⟨#[]⟩, .int .i64 8]) (by simp [results, Try.results16, go_sem, s0, s1, s2]) rfl ⟨_, _, by rw [HT1.out, HE1.out], by rw [HS1.out]; exact ⟨hN.below HX.out (Nat.le_refl _), hH.below HX.out (Nat.le_refl _)⟩, HX.out⟩
    by_cases e5 : d % 8 = 5
    · have HT1 := Lib.hid (HT.out.trans (show _ = (⟨#[]⟩ : ByteArray) by exact (if_neg e4).trans rfl))
      have HE1 := Lib.hid (HE.out.trans (show _ = (8 : Int) by rw [if_neg e4, if_pos e5]; unfold readE; rw [hlk]; rfl))
      have HS1 := Lib.hid (HS.out.trans (show _ = l by rw [if_neg e4, if_pos e5]; exact delKV_none (fun p hp e => by have := mem_look HG.out.apart hp; rw [e, hlk] at this; cases this)))
      clear HT HE HS
      obtain ⟨hr9, hC9⟩ := HP.out.fill (.int .i64 size) (.slice xa l.length xc) (.slice ya l.length yc)
      obtain ⟨s0, s1, s2⟩ := three_cells hr9
      have HX := Lib.hid (HP.out.below.trans (hC9.below HP.out.below.size (fun i hi => by omega)))
      clear hr9 hC9
      go_wp2_with fail
      exact bodyPost_ret (v := .tuple #[.agg #[.int .i64 size, .slice xa l.length xc, .slice ya l.length yc], .string ⟨#[]⟩, .int .i64 8]) (by simp [results, Try.results16, go_sem, s0, s1, s2]) rfl ⟨_, _, by rw [HT1.out, HE1.out], by rw [HS1.out]; exact ⟨hN.below HX.out (Nat.le_refl _), hH.below HX.out (Nat.le_refl _)⟩, HX.out⟩
    by_cases e6 : d % 8 = 6
    · have HT1 := Lib.hid (HT.out.trans (show _ = (⟨#[]⟩ : ByteArray) by exact (if_neg e4).trans rfl))
      have HE1 := Lib.hid (HE.out.trans (show _ = (0 : Int) by rw [if_neg e4, if_neg e5, if_pos e6]; unfold spoilE; rw [hlk]; rfl))
      have HS1 := Lib.hid (HS.out.trans (show _ = l by rw [if_neg e4, if_neg e5, if_pos e6]; unfold spoilS; rw [hlk]))
      clear HT HE HS
      obtain ⟨hr9, hC9⟩ := HP.out.fill (.int .i64 size) (.slice xa l.length xc) (.slice ya l.length yc)
      obtain ⟨s0, s1, s2⟩ := three_cells hr9
      have HX := Lib.hid (HP.out.below.trans (hC9.below HP.out.below.size (fun i hi => by omega)))
      clear hr9 hC9
      go_wp2_with fail
      exact bodyPost_ret (v := .tuple #[.agg #[.int .i64 size, .slice xa l.length xc, .slice ya l.length yc], .string ⟨#[]⟩, .int .i64 0]) (by simp [results, Try.results16, go_sem, s0, s1, s2]) rfl ⟨_, _, by rw [HT1.out, HE1.out], by rw [HS1.out]; exact ⟨hN.below HX.out (Nat.le_refl _), hH.below HX.out (Nat.le_refl _)⟩, HX.out⟩
    by_cases e7 : d % 8 = 7
    · have HT1 := Lib.hid (HT.out.trans (show _ = (⟨#[]⟩ : ByteArray) by exact (if_neg e4).trans rfl))
      have HE1 := Lib.hid (HE.out.trans (show _ = ((l.length : Nat) : Int) by rw [if_neg e4, if_neg e5, if_neg e6, if_pos e7]))
      have HS1 := Lib.hid (HS.out.trans (show _ = [] by rw [if_neg e4, if_neg e5, if_neg e6, if_pos e7]))
      clear HT HE HS
      obtain ⟨hr9, hC9⟩ := HP.out.fill (.int .i64 size) (.slice none 0 0) (.slice none 0 0)
      obtain ⟨s0, s1, s2⟩ := three_cells hr9
      have HX := Lib.hid (HP.out.below.trans (hC9.below HP.out.below.size (fun i hi => by omega)))
      have HC9 := Lib.hid hC9
      clear hr9 hC9
      go_wp2_with fail
      go_region_law (fail)
      all_goals
        go_wp2_with fail
        exact bodyPost_ret (v := .tuple #[.agg #[.int .i64 size, (.slice none 0 0), (.slice none 0 0)], .string ⟨#[]⟩, .int .i64 (l.length : Nat)]) (by simp [results, Try.results16, go_sem, s0, s1, s2]) rfl ⟨_, _, by rw [HT1.out, HE1.out], by rw [HS1.out]; exact refNil _, ⟨HX.out.os, HX.out.tape, HX.out.output, HX.out.size, HX.out.block⟩⟩
    have HT1 := Lib.hid (HT.out.trans (show _ = (⟨#[]⟩ : ByteArray) by exact (if_neg e4).trans rfl))
    have HE1 := Lib.hid (HE.out.trans (show _ = (writeE size l k s : Int) by rw [if_neg e4, if_neg e5, if_neg e6, if_neg e7]))
    have HS1 := Lib.hid (HS.out.trans (show _ = writeS size l k s by rw [if_neg e4, if_neg e5, if_neg e6, if_neg e7]))
    clear HT HE HS
    have hwr := rwrite_any size _ _ l k s W2 ⟨hN.below HP.out.below (Nat.le_refl _), hH.below HP.out.below (Nat.le_refl _)⟩ HG.out.apart HG.out.small HG.out.fits (by omega)
    go_wp2_with fail
    refine hwr.mono ?_
    rintro e W3 ⟨xq, yq, rfl, hr3, hb3⟩
    obtain ⟨W4, hW4⟩ : ∃ W4, W4 = W3.alloc (.cells #[.int .i64 size, xq, yq] 44) := ⟨_, rfl⟩
    have hp3 := HP.out.keep hb3
    have hb4 : Below W3.heap.size W3 W4 := by rw [hW4]; exact (Below.refl _ _).alloc (Nat.le_refl _) _
    have hp4 := hp3.keep hb4
    have hr4 := hr3.below hb4 (Nat.le_refl _)
    obtain ⟨g0, g1, g2⟩ := three_cells (w := W4) (g := W3.heap.size) (by rw [hW4]; exact heap_alloc_new _ _)
    clear hp3 hb3 hb4 hr3 hwr r0 r1 r2 f0 f1 f2 k0 k1 k2 k3 k4 d0_ d1_ d2_
    obtain ⟨xqa, xqc, rfl, _⟩ := hr4.1.val
    obtain ⟨yqa, yqc, rfl, _⟩ := hr4.2.val
    obtain ⟨r0, r1, r2⟩ := three_cells hp4.res
    obtain ⟨f0, f1, f2⟩ := three_free hp4.res
    have HR4 := Lib.hid hr4
    have HP4 := Lib.hid hp4
    clear hr4 hp4
    obtain ⟨hr9, hC9⟩ := HP4.out.fill (.int .i64 size) (.slice xqa (namesOf (writeS size l k s)).length xqc) (.slice yqa (heldOf (writeS size l k s)).length yqc)
    obtain ⟨s0, s1, s2⟩ := three_cells hr9
    have HX := Lib.hid (HP4.out.below.trans (hC9.below HP4.out.below.size (fun i hi => by omega)))
    have HC9 := Lib.hid hC9
    clear hr9 hC9
    go_wp2_with (first | (rw [← hW4]; clear hW4))
    exact bodyPost_ret (v := .tuple #[.agg #[.int .i64 size, (.slice xqa (namesOf (writeS size l k s)).length xqc), (.slice yqa (heldOf (writeS size l k s)).length yqc)], .string ⟨#[]⟩, .int .i64 (writeE size l k s)]) (by simp [results, Try.results16, go_sem, s0, s1, s2]) rfl ⟨_, _, by rw [HT1.out, HE1.out], by rw [HS1.out]; exact RefAt.far HP4.out HR4.out HC9.out, ⟨HX.out.os, HX.out.tape, HX.out.output, HX.out.size, HX.out.block⟩⟩
  · rw [hf] at hfd
    go_enter Try.func16, Try.ntmps16
    go_wp2_with (first | (rw [← hW1]; clear hW1))
    refine hfd.mono ?_
    rintro e W2 ⟨rfl, hb2⟩
    have hp2 := hp1.keep hb2
    clear hfd hp1 hb2 k0 k1 k2 k3 k4 d0_ d1_ d2_ hf
    obtain ⟨d0_, d1_, d2_⟩ := three_cells hp2.dbox
    obtain ⟨k0, k1, k2, k3, k4⟩ := act_cells hp2.abox
    obtain ⟨r0, r1, r2⟩ := three_cells hp2.res
    obtain ⟨f0, f1, f2⟩ := three_free hp2.res
    have HP := Lib.hid hp2
    clear hp2
    by_cases e4 : d % 8 = 4
    · have HT1 := Lib.hid (HT.out.trans (show _ = (u : ByteArray) by rw [if_pos e4, hlk]; rfl))
      have HE1 := Lib.hid (HE.out.trans (show _ = (0 : Int) by rw [if_pos e4]; unfold readE; rw [hlk]; rfl))
      have HS1 := Lib.hid (HS.out.trans (show _ = l by rw [if_pos e4]))
      clear HT HE HS
      obtain ⟨bb, ob, eb, hcw⟩ := strs_cell hH i u hhi
      subst eb
      have hbl : bb < w.heap.size := World.block_lt_of_cell? w _ hcw
      have hcy := (HP.out.below.cell (p := ⟨bb, ob + i, none⟩) hbl).trans hcw
      have hbl2 : bb < W2.heap.size := Nat.lt_of_lt_of_le hbl HP.out.below.size
      have hil : i < l.length := (List.getElem?_eq_some_iff.1 hli).1
      obtain ⟨hr9, hC9⟩ := HP.out.fill (.int .i64 size) (.slice xa l.length xc) (.slice (some ⟨bb, ob, none⟩) l.length yc)
      obtain ⟨s0, s1, s2⟩ := three_cells hr9
      have HX := Lib.hid (HP.out.below.trans (hC9.below HP.out.below.size (fun i hi => by omega)))
      have HC9 := Lib.hid hC9
      clear hr9 hC9
      have hcy9 := (HC9.out.cell (p := ⟨bb, ob + i, none⟩) hbl2 (by show ¬ bb = _; omega)).trans hcy
      go_wp2_with fail
      go_region_law (fail)
      all_goals
        go_wp2_with fail
        exact bodyPost_ret (v := .tuple #[.agg #[.int .i64 size, (.slice xa l.length xc), (.slice (some ⟨bb, ob, none⟩) l.length yc)], .string u, .int .i64 0]) (by simp [results, Try.results16, go_sem, s0, s1, s2]) rfl ⟨_, _, by rw [HT1.out, HE1.out], by rw [HS1.out]; exact ⟨hN.below ⟨HX.out.os, HX.out.tape, HX.out.output, HX.out.size, HX.out.block⟩ (Nat.le_refl _), hH.below ⟨HX.out.os, HX.out.tape, HX.out.output, HX.out.size, HX.out.block⟩ (Nat.le_refl _)⟩, ⟨HX.out.os, HX.out.tape, HX.out.output, HX.out.size, HX.out.block⟩⟩
    by_cases e5 : d % 8 = 5
    · have HT1 := Lib.hid (HT.out.trans (show _ = (⟨#[]⟩ : ByteArray) by exact (if_neg e4).trans rfl))
      have HE1 := Lib.hid (HE.out.trans (show _ = (0 : Int) by rw [if_neg e4, if_pos e5]; unfold readE; rw [hlk]; rfl))
      have HS1 := Lib.hid (HS.out.trans (show _ = delKV k l by rw [if_neg e4, if_pos e5]))
      clear HT HE HS
      have hwo := without_any size _ _ l k W2 ⟨hN.below HP.out.below (Nat.le_refl _), hH.below HP.out.below (Nat.le_refl _)⟩ (by omega)
      go_wp2_with fail
      refine hwo.mono ?_
      rintro e W3 ⟨xq, yq, rfl, hO3, hb3⟩
      have hp3 := HP.out.keep hb3
      have hr3 : RefAt W3 xq yq (delKV k l) := ⟨own_strs hO3.rowN, own_strs hO3.rowH⟩
      clear hb3 hO3 hwo r0 r1 r2 f0 f1 f2 k0 k1 k2 k3 k4 d0_ d1_ d2_
      obtain ⟨xqa, xqc, rfl, _⟩ := hr3.1.val
      obtain ⟨yqa, yqc, rfl, _⟩ := hr3.2.val
      obtain ⟨r0, r1, r2⟩ := three_cells hp3.res
      obtain ⟨f0, f1, f2⟩ := three_free hp3.res
      have HR4 := Lib.hid hr3
      have HP4 := Lib.hid hp3
      clear hr3 hp3
      obtain ⟨hr9, hC9⟩ := HP4.out.fill (.int .i64 size) (.slice xqa (namesOf (delKV k l)).length xqc) (.slice yqa (heldOf (delKV k l)).length yqc)
      obtain ⟨s0, s1, s2⟩ := three_cells hr9
      have HX := Lib.hid (HP4.out.below.trans (hC9.below HP4.out.below.size (fun i hi => by omega)))
      have HC9 := Lib.hid hC9
      clear hr9 hC9
      go_wp2_with fail
      exact bodyPost_ret (v := .tuple #[.agg #[.int .i64 size, (.slice xqa (namesOf (delKV k l)).length xqc), (.slice yqa (heldOf (delKV k l)).length yqc)], .string ⟨#[]⟩, .int .i64 0]) (by simp [results, Try.results16, go_sem, s0, s1, s2]) rfl ⟨_, _, by rw [HT1.out, HE1.out], by rw [HS1.out]; exact RefAt.far HP4.out HR4.out HC9.out, ⟨HX.out.os, HX.out.tape, HX.out.output, HX.out.size, HX.out.block⟩⟩
    by_cases e6 : d % 8 = 6
    · obtain ⟨bb, ob, eb, hcw⟩ := strs_cell hH i u hhi
      subst eb
      have hbl : bb < w.heap.size := World.block_lt_of_cell? w _ hcw
      have hcy := (HP.out.below.cell (p := ⟨bb, ob + i, none⟩) hbl).trans hcw
      have hil : i < l.length := (List.getElem?_eq_some_iff.1 hli).1
      have hu0 := isEmpty_iff u
      by_cases huz : u.size = 0
      · rw [decide_eq_true huz] at hu0
        have HT1 := Lib.hid (HT.out.trans (show _ = (⟨#[]⟩ : ByteArray) by exact (if_neg e4).trans rfl))
        have HE1 := Lib.hid (HE.out.trans (show _ = (0 : Int) by rw [if_neg e4, if_neg e5, if_pos e6]; unfold spoilE; rw [hlk]; simp [huz]))
        have HS1 := Lib.hid (HS.out.trans (show _ = l by rw [if_neg e4, if_neg e5, if_pos e6]; unfold spoilS; rw [hlk]; simp [huz]))
        clear HT HE HS
        obtain ⟨hr9, hC9⟩ := HP.out.fill (.int .i64 size) (.slice xa l.length xc) (.slice (some ⟨bb, ob, none⟩) l.length yc)
        obtain ⟨s0, s1, s2⟩ := three_cells hr9
        have HX := Lib.hid (HP.out.below.trans (hC9.below HP.out.below.size (fun i hi => by omega)))
        clear hr9 hC9
        go_wp2_with fail
        exact bodyPost_ret (v := .tuple #[.agg #[.int .i64 size, .slice xa l.length xc, .slice (some ⟨bb, ob, none⟩) l.length yc], .string ⟨#[]⟩, .int .i64 0]) (by simp [results, Try.results16, go_sem, s0, s1, s2]) rfl ⟨_, _, by rw [HT1.out, HE1.out], by rw [HS1.out]; exact ⟨hN.below HX.out (Nat.le_refl _), hH.below HX.out (Nat.le_refl _)⟩, HX.out⟩
      rw [decide_eq_false huz] at hu0
      by_cases hyz : y = 0
      · have hyb : (y == 0) = true := by simp [hyz]
        have HT1 := Lib.hid (HT.out.trans (show _ = (⟨#[]⟩ : ByteArray) by exact (if_neg e4).trans rfl))
        have HE1 := Lib.hid (HE.out.trans (show _ = (0 : Int) by rw [if_neg e4, if_neg e5, if_pos e6]; unfold spoilE; rw [hlk]; simp [hyz]))
        have HS1 := Lib.hid (HS.out.trans (show _ = l by rw [if_neg e4, if_neg e5, if_pos e6]; unfold spoilS; rw [hlk]; simp [hyz]))
        clear HT HE HS
        obtain ⟨hr9, hC9⟩ := HP.out.fill (.int .i64 size) (.slice xa l.length xc) (.slice (some ⟨bb, ob, none⟩) l.length yc)
        obtain ⟨s0, s1, s2⟩ := three_cells hr9
        have HX := Lib.hid (HP.out.below.trans (hC9.below HP.out.below.size (fun i hi => by omega)))
        clear hr9 hC9
        go_wp2_with fail
        exact bodyPost_ret (v := .tuple #[.agg #[.int .i64 size, .slice xa l.length xc, .slice (some ⟨bb, ob, none⟩) l.length yc], .string ⟨#[]⟩, .int .i64 0]) (by simp [results, Try.results16, go_sem, s0, s1, s2]) rfl ⟨_, _, by rw [HT1.out, HE1.out], by rw [HS1.out]; exact ⟨hN.below HX.out (Nat.le_refl _), hH.below HX.out (Nat.le_refl _)⟩, HX.out⟩
      have hyb : (y == 0) = false := by simp [hyz]
      have hus := look_size hlk
      obtain ⟨r, hri⟩ : ∃ r : Nat, at_ % (u.size : Int) = (r : Int) := ⟨(at_ % (u.size : Int)).toNat, by have := Int.emod_nonneg at_ (show (u.size : Int) ≠ 0 by omega); omega⟩
      have hru : r < u.size := by have := Int.emod_lt_of_pos at_ (show (0 : Int) < (u.size : Int) by omega); omega
      obtain ⟨X, C, W3, hcv0, hC, hb3, hw3, hc3, hf3, hx3, hback⟩ := spo_mem W2 u at_ y r hri.symm hru y0 y1
      have hcv := hcv0 0 #[] rfl
      have hp3 := HP.out.keep hb3
      obtain ⟨x0, hx0⟩ : ∃ x0 : Nat, x0 = (u.data.toList.getD r 0).toNat := ⟨_, rfl⟩
      rw [← hx0] at hc3 hx3
      have HBK := Lib.hid hback
      have HP3 := Lib.hid hp3
      obtain ⟨i0_, i1_, i2_⟩ := three_cells hp3.dbox
      obtain ⟨j0, j1, j2, j3, j4⟩ := act_cells hp3.abox
      have hput := put_set l k u (spo u at_ y) i HG.out.rising hli
      have HT1 := Lib.hid (HT.out.trans (show _ = (⟨#[]⟩ : ByteArray) by exact (if_neg e4).trans rfl))
      have HE1 := Lib.hid (HE.out.trans (show _ = (1 : Int) by rw [if_neg e4, if_neg e5, if_pos e6]; unfold spoilE; rw [hlk]; simp [huz, hyz]))
      have HS1 := Lib.hid (HS.out.trans (show _ = l.set i (k, spo u at_ y) by rw [if_neg e4, if_neg e5, if_pos e6]; unfold spoilS; rw [hlk, ← hput]; simp [huz, hyz]))
      clear HT HE HS
      have hrp := rest_parts at_ (u.size : Int) (by omega)
      clear hx0 hback hp3 hput hcv0
      rcases hrp with hrp | hrp
      · obtain ⟨q1, q2⟩ := hrp
        rw [hri] at q2
        go_wp2_with fail
        go_region_law (fail)
        all_goals
          obtain ⟨W4, hW4⟩ : ∃ W4, W4 = (W3.setCell ⟨W2.heap.size, r, none⟩ (.int .u8 (X : Int))).drew := ⟨_, rfl⟩
          rw [← hW4]
          have hb4 : Below W2.heap.size W2 W4 := by
            have q := hb3.setCell (p := ⟨W2.heap.size, r, none⟩) (Nat.le_refl _) (.int .u8 (X : Int))
            rw [hW4]
            exact ⟨q.os, q.tape, q.output, q.size, q.block⟩
          have hblk4 : W4.heap[W2.heap.size]? = (W3.setCell ⟨W2.heap.size, r, none⟩ (.int .u8 (X : Int))).heap[W2.heap.size]? := by rw [hW4]; rfl
          have hlt4 : W2.heap.size < W4.heap.size := by
            have : (W3.setCell ⟨W2.heap.size, r, none⟩ (.int .u8 (X : Int))).drew.heap.size = W3.heap.size := by simp [World.setCell]
            rw [hW4, this]; exact hw3
          have hp4 := HP.out.keep hb4
          clear hW4 hb3 hc3 hf3 hx3 hcv i0_ i1_ i2_ j0 j1 j2 j3 j4 k0 k1 k2 k3 k4 d0_ d1_ d2_ r0 r1 r2 f0 f1 f2 hcy HP3 hw3 hcw
          obtain ⟨d0_, d1_, d2_⟩ := three_cells hp4.dbox
          have hwo := without_any size _ _ l ByteArray.empty W4 ⟨hN.below hp4.below (Nat.le_refl _), hH.below hp4.below (Nat.le_refl _)⟩ (by omega)
          rw [del_empty HG.out.noEmpty] at hwo
          go_wp2_with fail
          refine hwo.mono ?_
          rintro e W5 ⟨xq, yq, rfl, hO5, hb5⟩
          have hp5 := hp4.keep hb5
          have hblk5 := (hb5.block _ hlt4).trans hblk4
          obtain ⟨W6, hW6⟩ : ∃ W6, W6 = W5.alloc (.cells #[.int .i64 size, xq, yq] 44) := ⟨_, rfl⟩
          have hb6 : Below W5.heap.size W5 W6 := by rw [hW6]; exact (Below.refl _ _).alloc (Nat.le_refl _) _
          have hg6 : W6.heap[W5.heap.size]? = some (.cells #[.int .i64 size, xq, yq] 44 (0, 0)) := by rw [hW6]; exact heap_alloc_new _ _
          have hO6 := hO5.alloc (.cells #[.int .i64 size, xq, yq] 44)
          rw [← hW6] at hO6
          have hp6 := hp5.keep hb6
          have hlt5 : W2.heap.size < W5.heap.size := Nat.lt_of_lt_of_le hlt4 hb5.size
          have hblk6 := (hb6.block _ hlt5).trans hblk5
          have hconv := HBK.out W6 hblk6
          have hil2 : i < (heldOf l).length := by rw [heldOf_len]; exact hil
          obtain ⟨gh, ch, hyq, hcl, hfr, hBg, hgl, hic, hob, hst⟩ := row_put (s := spo u at_ y) hO6.rowH hil2
          have hgh5 := (World.ownsRow.lt hO5.rowH gh hob).2
          have hp4s := hp4.below.size
          have hresl := (Array.getElem?_eq_some_iff.1 hp4.res).1
          have hc7 : Chg (fun j => j = gh) W6 (W6.setCell ⟨gh, i, none⟩ (.string (spo u at_ y))) := (Chg.refl (fun j => j = gh) W6).setCell (p := ⟨gh, i, none⟩) (.inl rfl) _
          have hn7 := own_strs (own_kept hO6.rowN hc7 (fun g hg e => hO6.ne g hg (e ▸ hob)))
          obtain ⟨W7, hW7⟩ : ∃ W7, W7 = W6.setCell ⟨gh, i, none⟩ (.string (spo u at_ y)) := ⟨_, rfl⟩
          rw [← hW7] at hc7 hn7 hst
          have hp7 : PlAt w W7 (size : Int) _ _ _ := ⟨hp6.below.trans (hc7.below hp6.below.size (fun j hj => by omega)), (hc7.block _ (Array.getElem?_eq_some_iff.1 hp6.dbox).1 (by omega)).trans hp6.dbox, (hc7.block _ (Array.getElem?_eq_some_iff.1 hp6.abox).1 (by omega)).trans hp6.abox, (hc7.block _ (Array.getElem?_eq_some_iff.1 hp6.res).1 (by omega)).trans hp6.res⟩
          have hr7 : RefAt W7 xq yq (l.set i (k, spo u at_ y)) := ⟨by rw [namesOf_set hli]; exact hn7, by rw [heldOf_set]; exact hst⟩
          have hg7 := (hc7.block _ (Array.getElem?_eq_some_iff.1 hg6).1 (by omega)).trans hg6
          obtain ⟨xqa, xqc, rfl, _⟩ := own_val hO6.rowN
          subst hyq
          obtain ⟨z0, z1, z2⟩ := three_cells hg6
          obtain ⟨z3, z4, z5⟩ := three_cells hg7
          obtain ⟨r0, r1, r2⟩ := three_cells hp7.res
          obtain ⟨f0, f1, f2⟩ := three_free hp7.res
          rw [heldOf_len] at *
          rw [namesOf_len] at *
          have HR4 := Lib.hid hr7
          have HP4 := Lib.hid hp7
          clear hr7 hp7 hg7 hg6 hn7 hst hc7 hO5 hO6 hp4 hp5 hp6 hb4 hb5 hb6 hblk4 hblk5 hblk6 hwo d0_ d1_ d2_
          obtain ⟨hr9, hC9⟩ := HP4.out.fill (.int .i64 size) (.slice xqa l.length xqc) (.slice (some ⟨gh, 0, none⟩) l.length ch)
          obtain ⟨s0, s1, s2⟩ := three_cells hr9
          have HX := Lib.hid (HP4.out.below.trans (hC9.below HP4.out.below.size (fun i hi => by omega)))
          have HC9 := Lib.hid hC9
          clear hr9 hC9
          go_wp2_with (first | (rw [← hW6]; clear hW6) | (rw [← hW7]; clear hW7))
          exact bodyPost_ret (v := .tuple #[.agg #[.int .i64 size, (.slice xqa l.length xqc), (.slice (some ⟨gh, 0, none⟩) l.length ch)], .string ⟨#[]⟩, .int .i64 1]) (by simp [results, Try.results16, go_sem, s0, s1, s2]) rfl ⟨_, _, by rw [HT1.out, HE1.out], by rw [HS1.out]; exact RefAt.far HP4.out HR4.out HC9.out, ⟨HX.out.os, HX.out.tape, HX.out.output, HX.out.size, HX.out.block⟩⟩
      · obtain ⟨q1, q3, q2⟩ := hrp
        rw [hri] at q2
        obtain ⟨m, hm⟩ : ∃ m, m = at_.tmod (u.size : Int) := ⟨_, rfl⟩
        rw [← hm] at q1 q2 q3
        have hm' := hm.symm
        clear hm
        go_wp2_with fail
        go_region_law (fail)
        all_goals
          obtain ⟨W4, hW4⟩ : ∃ W4, W4 = (W3.setCell ⟨W2.heap.size, r, none⟩ (.int .u8 (X : Int))).drew := ⟨_, rfl⟩
          rw [← hW4]
          have hb4 : Below W2.heap.size W2 W4 := by
            have q := hb3.setCell (p := ⟨W2.heap.size, r, none⟩) (Nat.le_refl _) (.int .u8 (X : Int))
            rw [hW4]
            exact ⟨q.os, q.tape, q.output, q.size, q.block⟩
          have hblk4 : W4.heap[W2.heap.size]? = (W3.setCell ⟨W2.heap.size, r, none⟩ (.int .u8 (X : Int))).heap[W2.heap.size]? := by rw [hW4]; rfl
          have hlt4 : W2.heap.size < W4.heap.size := by
            have : (W3.setCell ⟨W2.heap.size, r, none⟩ (.int .u8 (X : Int))).drew.heap.size = W3.heap.size := by simp [World.setCell]
            rw [hW4, this]; exact hw3
          have hp4 := HP.out.keep hb4
          clear hW4 hb3 hc3 hf3 hx3 hcv i0_ i1_ i2_ j0 j1 j2 j3 j4 k0 k1 k2 k3 k4 d0_ d1_ d2_ r0 r1 r2 f0 f1 f2 hcy HP3 hw3 hcw
          obtain ⟨d0_, d1_, d2_⟩ := three_cells hp4.dbox
          have hwo := without_any size _ _ l ByteArray.empty W4 ⟨hN.below hp4.below (Nat.le_refl _), hH.below hp4.below (Nat.le_refl _)⟩ (by omega)
          rw [del_empty HG.out.noEmpty] at hwo
          go_wp2_with fail
          refine hwo.mono ?_
          rintro e W5 ⟨xq, yq, rfl, hO5, hb5⟩
          have hp5 := hp4.keep hb5
          have hblk5 := (hb5.block _ hlt4).trans hblk4
          obtain ⟨W6, hW6⟩ : ∃ W6, W6 = W5.alloc (.cells #[.int .i64 size, xq, yq] 44) := ⟨_, rfl⟩
          have hb6 : Below W5.heap.size W5 W6 := by rw [hW6]; exact (Below.refl _ _).alloc (Nat.le_refl _) _
          have hg6 : W6.heap[W5.heap.size]? = some (.cells #[.int .i64 size, xq, yq] 44 (0, 0)) := by rw [hW6]; exact heap_alloc_new _ _
          have hO6 := hO5.alloc (.cells #[.int .i64 size, xq, yq] 44)
          rw [← hW6] at hO6
          have hp6 := hp5.keep hb6
          have hlt5 : W2.heap.size < W5.heap.size := Nat.lt_of_lt_of_le hlt4 hb5.size
          have hblk6 := (hb6.block _ hlt5).trans hblk5
          have hconv := HBK.out W6 hblk6
          have hil2 : i < (heldOf l).length := by rw [heldOf_len]; exact hil
          obtain ⟨gh, ch, hyq, hcl, hfr, hBg, hgl, hic, hob, hst⟩ := row_put (s := spo u at_ y) hO6.rowH hil2
          have hgh5 := (World.ownsRow.lt hO5.rowH gh hob).2
          have hp4s := hp4.below.size
          have hresl := (Array.getElem?_eq_some_iff.1 hp4.res).1
          have hc7 : Chg (fun j => j = gh) W6 (W6.setCell ⟨gh, i, none⟩ (.string (spo u at_ y))) := (Chg.refl (fun j => j = gh) W6).setCell (p := ⟨gh, i, none⟩) (.inl rfl) _
          have hn7 := own_strs (own_kept hO6.rowN hc7 (fun g hg e => hO6.ne g hg (e ▸ hob)))
          obtain ⟨W7, hW7⟩ : ∃ W7, W7 = W6.setCell ⟨gh, i, none⟩ (.string (spo u at_ y)) := ⟨_, rfl⟩
          rw [← hW7] at hc7 hn7 hst
          have hp7 : PlAt w W7 (size : Int) _ _ _ := ⟨hp6.below.trans (hc7.below hp6.below.size (fun j hj => by omega)), (hc7.block _ (Array.getElem?_eq_some_iff.1 hp6.dbox).1 (by omega)).trans hp6.dbox, (hc7.block _ (Array.getElem?_eq_some_iff.1 hp6.abox).1 (by omega)).trans hp6.abox, (hc7.block _ (Array.getElem?_eq_some_iff.1 hp6.res).1 (by omega)).trans hp6.res⟩
          have hr7 : RefAt W7 xq yq (l.set i (k, spo u at_ y)) := ⟨by rw [namesOf_set hli]; exact hn7, by rw [heldOf_set]; exact hst⟩
          have hg7 := (hc7.block _ (Array.getElem?_eq_some_iff.1 hg6).1 (by omega)).trans hg6
          obtain ⟨xqa, xqc, rfl, _⟩ := own_val hO6.rowN
          subst hyq
          obtain ⟨z0, z1, z2⟩ := three_cells hg6
          obtain ⟨z3, z4, z5⟩ := three_cells hg7
          obtain ⟨r0, r1, r2⟩ := three_cells hp7.res
          obtain ⟨f0, f1, f2⟩ := three_free hp7.res
          rw [heldOf_len] at *
          rw [namesOf_len] at *
          have HR4 := Lib.hid hr7
          have HP4 := Lib.hid hp7
          clear hr7 hp7 hg7 hg6 hn7 hst hc7 hO5 hO6 hp4 hp5 hp6 hb4 hb5 hb6 hblk4 hblk5 hblk6 hwo d0_ d1_ d2_
          obtain ⟨hr9, hC9⟩ := HP4.out.fill (.int .i64 size) (.slice xqa l.length xqc) (.slice (some ⟨gh, 0, none⟩) l.length ch)
          obtain ⟨s0, s1, s2⟩ := three_cells hr9
          have HX := Lib.hid (HP4.out.below.trans (hC9.below HP4.out.below.size (fun i hi => by omega)))
          have HC9 := Lib.hid hC9
          clear hr9 hC9
          go_wp2_with (first | (rw [← hW6]; clear hW6) | (rw [← hW7]; clear hW7))
          exact bodyPost_ret (v := .tuple #[.agg #[.int .i64 size, (.slice xqa l.length xqc), (.slice (some ⟨gh, 0, none⟩) l.length ch)], .string ⟨#[]⟩, .int .i64 1]) (by simp [results, Try.results16, go_sem, s0, s1, s2]) rfl ⟨_, _, by rw [HT1.out, HE1.out], by rw [HS1.out]; exact RefAt.far HP4.out HR4.out HC9.out, ⟨HX.out.os, HX.out.tape, HX.out.output, HX.out.size, HX.out.block⟩⟩
    by_cases e7 : d % 8 = 7
    · have HT1 := Lib.hid (HT.out.trans (show _ = (⟨#[]⟩ : ByteArray) by exact (if_neg e4).trans rfl))
      have HE1 := Lib.hid (HE.out.trans (show _ = ((l.length : Nat) : Int) by rw [if_neg e4, if_neg e5, if_neg e6, if_pos e7]))
      have HS1 := Lib.hid (HS.out.trans (show _ = [] by rw [if_neg e4, if_neg e5, if_neg e6, if_pos e7]))
      clear HT HE HS
      obtain ⟨hr9, hC9⟩ := HP.out.fill (.int .i64 size) (.slice none 0 0) (.slice none 0 0)
      obtain ⟨s0, s1, s2⟩ := three_cells hr9
      have HX := Lib.hid (HP.out.below.trans (hC9.below HP.out.below.size (fun i hi => by omega)))
      have HC9 := Lib.hid hC9
      clear hr9 hC9
      go_wp2_with fail
      go_region_law (fail)
      all_goals
        go_wp2_with fail
        exact bodyPost_ret (v := .tuple #[.agg #[.int .i64 size, (.slice none 0 0), (.slice none 0 0)], .string ⟨#[]⟩, .int .i64 (l.length : Nat)]) (by simp [results, Try.results16, go_sem, s0, s1, s2]) rfl ⟨_, _, by rw [HT1.out, HE1.out], by rw [HS1.out]; exact refNil _, ⟨HX.out.os, HX.out.tape, HX.out.output, HX.out.size, HX.out.block⟩⟩
    have HT1 := Lib.hid (HT.out.trans (show _ = (⟨#[]⟩ : ByteArray) by exact (if_neg e4).trans rfl))
    have HE1 := Lib.hid (HE.out.trans (show _ = (writeE size l k s : Int) by rw [if_neg e4, if_neg e5, if_neg e6, if_neg e7]))
    have HS1 := Lib.hid (HS.out.trans (show _ = writeS size l k s by rw [if_neg e4, if_neg e5, if_neg e6, if_neg e7]))
    clear HT HE HS
    have hwr := rwrite_any size _ _ l k s W2 ⟨hN.below HP.out.below (Nat.le_refl _), hH.below HP.out.below (Nat.le_refl _)⟩ HG.out.apart HG.out.small HG.out.fits (by omega)
    go_wp2_with fail
    refine hwr.mono ?_
    rintro e W3 ⟨xq, yq, rfl, hr3, hb3⟩
    obtain ⟨W4, hW4⟩ : ∃ W4, W4 = W3.alloc (.cells #[.int .i64 size, xq, yq] 44) := ⟨_, rfl⟩
    have hp3 := HP.out.keep hb3
    have hb4 : Below W3.heap.size W3 W4 := by rw [hW4]; exact (Below.refl _ _).alloc (Nat.le_refl _) _
    have hp4 := hp3.keep hb4
    have hr4 := hr3.below hb4 (Nat.le_refl _)
    obtain ⟨g0, g1, g2⟩ := three_cells (w := W4) (g := W3.heap.size) (by rw [hW4]; exact heap_alloc_new _ _)
    clear hp3 hb3 hb4 hr3 hwr r0 r1 r2 f0 f1 f2 k0 k1 k2 k3 k4 d0_ d1_ d2_
    obtain ⟨xqa, xqc, rfl, _⟩ := hr4.1.val
    obtain ⟨yqa, yqc, rfl, _⟩ := hr4.2.val
    obtain ⟨r0, r1, r2⟩ := three_cells hp4.res
    obtain ⟨f0, f1, f2⟩ := three_free hp4.res
    have HR4 := Lib.hid hr4
    have HP4 := Lib.hid hp4
    clear hr4 hp4
    obtain ⟨hr9, hC9⟩ := HP4.out.fill (.int .i64 size) (.slice xqa (namesOf (writeS size l k s)).length xqc) (.slice yqa (heldOf (writeS size l k s)).length yqc)
    obtain ⟨s0, s1, s2⟩ := three_cells hr9
    have HX := Lib.hid (HP4.out.below.trans (hC9.below HP4.out.below.size (fun i hi => by omega)))
    have HC9 := Lib.hid hC9
    clear hr9 hC9
    go_wp2_with (first | (rw [← hW4]; clear hW4))
    exact bodyPost_ret (v := .tuple #[.agg #[.int .i64 size, (.slice xqa (namesOf (writeS size l k s)).length xqc), (.slice yqa (heldOf (writeS size l k s)).length yqc)], .string ⟨#[]⟩, .int .i64 (writeE size l k s)]) (by simp [results, Try.results16, go_sem, s0, s1, s2]) rfl ⟨_, _, by rw [HT1.out, HE1.out], by rw [HS1.out]; exact RefAt.far HP4.out HR4.out HC9.out, ⟨HX.out.os, HX.out.tape, HX.out.output, HX.out.size, HX.out.block⟩⟩
end Go.Proofs.Ytclibfiaihhbaaa
