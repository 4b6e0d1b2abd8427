/- The statement DiskPlays, walked. -/
import Derived.Test.YtclibfiaihhbaaaDiskY
import Derived.Deep.RegionHeld3
import Derived.Deep.DeepCutAuto
namespace Go.Proofs.Ytclibfiaihhbaaa
open Go.RowKit Go.ChangeMaps Go.MapKept

/-- A call's cells, in every world that is as the first one was. -/
theorem acts_hold {x : Value} {l : List ActV} {w : World} (h : ActsAt w x l) {k : Nat} {u : ActV} (hu : l[k]? = some u) : ∃ b off, (∃ n c, x = .slice (some ⟨b, off, none⟩) n c) ∧ ∀ W, Below w.heap.size w W → ActCells W b (off + k * 5) u := by
  obtain ⟨a, c, rfl, _⟩ := h.val
  obtain ⟨b, off, rfl, hc⟩ := acts_cell h k u hu
  refine ⟨b, off, ⟨_, _, rfl⟩, fun W hb => ?_⟩
  obtain ⟨b', off', e, hc'⟩ := acts_cell (h.below hb (Nat.le_refl _)) k u hu
  injection e with e; injection e with e1 e2
  subst e1 e2
  exact hc'

/-- Texts are not in a map's block. -/
theorem StrsAt.off {w w' : World} {x : Value} {l : List ByteArray} {b : Nat} {L : List KV} (h : StrsAt w x l) (hm : MapAt w b L) (hch : Chg (fun i => i = b) w w') : StrsAt w' x l := by
  obtain ⟨es, clock, hbm, _⟩ := hm
  obtain ⟨ad, cp, rfl, h1, h2, h3⟩ := h
  refine ⟨ad, cp, rfl, h1, h2, fun j s hs => ?_⟩
  obtain ⟨g, off, e, hcell⟩ := h3 j s hs
  refine ⟨g, off, e, ?_⟩
  by_cases eg : g = b
  · exfalso
    subst eg
    simp [World.cell?, hbm] at hcell
  · exact (hch.cell (p := ⟨g, _, none⟩) (World.block_lt_of_cell? w _ hcell) eg).trans hcell

/-- What stands at a round's begin: the disk, the document's disk, and their like. -/
structure PA (w : World) (p b g size : Nat) (xn xh : Value) (L : List KV) (W : World) : Prop where
  disk : DiskAt W p b size L
  ref : RefAt W xn xh L
  box : W.heap[g]? = some (.cells #[.int .i64 size, xn, xh] 44 (0, 0))
  below : Below w.heap.size w W

theorem PA.keep {w : World} {p b g size : Nat} {xn xh : Value} {L : List KV} {W W' : World} (h : PA w p b g size xn xh L W) (hb : Below W.heap.size W W') : PA w p b g size xn xh L W' :=
  ⟨h.disk.below hb h.disk.lt.1 h.disk.lt.2, h.ref.below hb (Nat.le_refl _), (hb.block _ (Array.getElem?_eq_some_iff.1 h.box).1).trans h.box, h.below.trans (hb.mono h.below.size)⟩
theorem PA.good {w : World} {p b g size : Nat} {xn xh : Value} {L : List KV} {W : World} (h : PA w p b g size xn xh L W) (hn : NoEmpty L) : Good size L :=
  ⟨h.disk.own.apart, h.disk.own.rising, hn, h.disk.fits, h.disk.small⟩

/-- What stands behind the document's call: its disk is in a block of its own. -/
def CutAt (w : World) (p b g size : Nat) (xn xh : Value) (L' : List KV) (T : ByteArray) (E : Int) (s11 s12 s13 : Value) (W : World) : Prop :=
  ∃ (r : Nat) (xq yq : Value), s11 = .pointer (some ⟨r, 0, none⟩) ∧ s12 = .string T ∧ s13 = .int .i64 E ∧ W.heap[r]? = some (.cells #[.int .i64 size, xq, yq] 44 (0, 0)) ∧ RefAt W xq yq L' ∧ DiskAt W p b size L' ∧
    W.heap[g]? = some (.cells #[.int .i64 size, xn, xh] 44 (0, 0)) ∧ r ≠ g ∧ p ≠ g ∧ b ≠ g ∧ Below w.heap.size w W
theorem below_drew {B : Nat} {a c : World} (h : Below B a c) : Below B a c.drew := ⟨h.os, h.tape, h.output, h.size, h.block⟩
abbrev zeroBox : Obj := .cells #[.int .i64 0, .slice none 0 0, .slice none 0 0] 44
theorem early_box {w5 w6 : World} (hb : Below (w5.alloc zeroBox).drew.heap.size (w5.alloc zeroBox).drew w6) : w6.heap[w5.heap.size]? = some zeroBox := by
  have h1 : (w5.alloc zeroBox).drew.heap[w5.heap.size]? = some zeroBox := heap_alloc_new w5 _
  exact (hb.block w5.heap.size (Array.getElem?_eq_some_iff.1 h1).1).trans h1
theorem cut_early {w w5 w6 : World} {p b g size : Nat} {xn xh xq yq : Value} {L' : List KV} {T : ByteArray} {E : Int} (hd : DiskAt w5 p b size L') (hx : w5.heap[g]? = some (.cells #[.int .i64 size, xn, xh] 44 (0, 0))) (hB : Below w.heap.size w w5) (hpg : p ≠ g ∧ b ≠ g)
    (hr : RefAt w6 xq yq L') (hb : Below (w5.alloc zeroBox).drew.heap.size (w5.alloc zeroBox).drew w6) :
    CutAt w p b g size xn xh L' T E (.pointer (some ⟨w5.heap.size, 0, none⟩)) (.string T) (.int .i64 E) (((w6.setCell ⟨w5.heap.size, 0, none⟩ (.int .i64 size)).setCell ⟨w5.heap.size, 1, none⟩ xq).setCell ⟨w5.heap.size, 2, none⟩ yq) := by
  have hz := early_box hb
  have hg5 := (Array.getElem?_eq_some_iff.1 hx).1
  have hs : w5.heap.size < (w5.alloc zeroBox).drew.heap.size := by show _ < (w5.alloc zeroBox).heap.size; simp
  obtain ⟨h1, h2⟩ := res_stored (.int .i64 size) xq yq hz
  have hw : Below w5.heap.size w5 w6 := (below_drew ((Below.refl _ w5).alloc (Nat.le_refl _) zeroBox)).trans (hb.mono (Nat.le_of_lt hs))
  have hd6 := hd.below hw hd.lt.1 hd.lt.2
  have hx6 := (hw.block _ hg5).trans hx
  refine ⟨_, _, _, rfl, rfl, rfl, h1, ⟨hr.1.far hz (by simp) (by simp) (by simp) h2, hr.2.far hz (by simp) (by simp) (by simp) h2⟩, hd6.chg h2 (by have := hd.lt; omega) (by have := hd.lt; omega), (h2.block _ (Nat.lt_of_lt_of_le hg5 hw.size) (by omega)).trans hx6, by omega, hpg.1, hpg.2, ?_⟩
  exact hB.trans ((hw.mono hB.size).trans (h2.below (Nat.le_trans hB.size hw.size) (fun i hi => by have := hB.size; omega)))
theorem cut_late {w w5 w6 : World} {p b g size : Nat} {xn xh xq yq : Value} {L' : List KV} {T : ByteArray} {E : Int} (hd : DiskAt w5 p b size L') (hx : w5.heap[g]? = some (.cells #[.int .i64 size, xn, xh] 44 (0, 0))) (hB : Below w.heap.size w w5) (hpg : p ≠ g ∧ b ≠ g)
    (hr : RefAt w6 xq yq L') (hb : Below w5.drew.heap.size w5.drew w6) :
    CutAt w p b g size xn xh L' T E (.pointer (some ⟨w6.heap.size, 0, none⟩)) (.string T) (.int .i64 E) (w6.alloc (.cells #[.int .i64 size, xq, yq] 44)) := by
  have hg5 := (Array.getElem?_eq_some_iff.1 hx).1
  have hw : Below w5.heap.size w5 w6 := ⟨hb.os, hb.tape, hb.output, hb.size, hb.block⟩
  have h2 : Below w6.heap.size w6 (w6.alloc (.cells #[.int .i64 size, xq, yq] 44)) := (Below.refl _ _).alloc (Nat.le_refl _) _
  have hw2 := hw.trans (h2.mono hw.size)
  have hd6 := hd.below hw2 hd.lt.1 hd.lt.2
  have hx6 := (hw2.block _ hg5).trans hx
  exact ⟨_, _, _, rfl, rfl, rfl, heap_alloc_new _ _, hr.below h2 (Nat.le_refl _), hd6, hx6, by have := hw.size; omega, hpg.1, hpg.2, hB.trans (hw2.mono hB.size)⟩

set_option maxHeartbeats 4000000 in
set_option maxRecDepth 100000 in
theorem plays_walk {n : Int} {x : Value} {l : List ActV} {w : World} (hx : ActsAt w x l) :
    Calls Try.prog 5 #[.int .i64 n, x] w fun e w' => e = .returned (.bool true) ∧ Below w.heap.size w w' := by
  obtain ⟨a, c, rfl, hlc, hcm⟩ := hx.val
  unfold maxLen at hcm
  go_enter Try.func5, Try.ntmps5
  go_wp2_with fail
  refine (awake_any _).mono ?_
  rintro e w1 ⟨rfl, hb1⟩
  have hx1 := hx.below hb1 (Nat.le_refl _)
  go_wp2_with fail
  refine (few_any _ l w1 hx1).mono ?_
  rintro e w2 ⟨q, rfl, hq, m, hw2⟩
  have hb2 : Below w.heap.size w w2 := by rw [hw2]; exact ⟨hb1.os, hb1.tape, hb1.output, hb1.size, hb1.block⟩
  clear hw2 hb1 hx1
  cases q with
  | false =>
    clear hq
    go_wp2_with fail
    refine (awake_any _).mono ?_
    rintro e w3 ⟨rfl, hb3⟩
    go_wp2_with fail
    go_ret
    exact ⟨rfl, hb2.trans (hb3.mono hb2.size)⟩
  | true =>
  obtain ⟨hl100, hfew⟩ := hq rfl
  clear hq
  by_cases hbad : n < 0 ∨ 4194304 < n
  · have hnb := new_bad n w2 hbad
    go_wp2_with fail
    refine hnb.mono ?_
    rintro e w3 ⟨rfl, rfl⟩
    rcases hbad with hbad | hbad
    · go_wp2_with fail
      go_ret
      exact ⟨rfl, hb2⟩
    · have : ¬ n < 0 := by omega
      go_wp2_with fail
      go_ret
      exact ⟨rfl, hb2⟩
  obtain ⟨sz, rfl⟩ : ∃ sz : Nat, n = (sz : Int) := ⟨n.toNat, by omega⟩
  have hsz : (sz : Int) ≤ 4194304 := by omega
  clear hbad
  go_wp2_with fail
  refine (new_any sz w2 (by omega)).mono ?_
  rintro e w3 ⟨p, b, rfl, hd3, hb3, hp3, hq3⟩
  have hpw : w.heap.size ≤ p := Nat.le_trans hb2.size hp3
  have hbw : w.heap.size ≤ b := Nat.le_trans hb2.size hq3
  have hb3' := hb2.trans (hb3.mono hb2.size)
  clear hp3 hq3 hb3 hb2
  have hPA : PA w p b w3.heap.size sz (.slice none 0 0) (.slice none 0 0) [] (w3.alloc (.cells #[.int .i64 sz, .slice none 0 0, .slice none 0 0] 44)) :=
    ⟨hd3.below ((Below.refl _ w3).alloc (Nat.le_refl _) _) hd3.lt.1 hd3.lt.2, refNil _, heap_alloc_new _ _, hb3'.trans ((Below.refl _ w3).alloc hb3'.size _)⟩
  have hlt3 := hd3.lt
  clear hd3
  go_wp2_with fail
  go_loopw [8] (fun i wr => ∃ (k : Nat) (xn xh : Value) (L : List KV), k ≤ l.length ∧ i = .int .i64 k ∧ NoEmpty L ∧ PA w p b w3.heap.size sz xn xh L wr) (fun i _ => l.length - (intOf i).toNat)
  case atStart => exact ⟨0, _, _, [], by omega, rfl, (fun p hp => (by cases hp)), hPA⟩
  case round =>
    obtain ⟨k, xn, xh, L, hk, rfl, hne, hpa⟩ := hrel
    clear hPA
    have HW := Lib.hid (show w.heap.size ≤ w3.heap.size from hb3'.size)
    by_cases hlt : k < l.length
    · obtain ⟨u, hu⟩ : ∃ u, l[k]? = some u := ⟨_, List.getElem?_eq_getElem hlt⟩
      obtain ⟨bx, ox, ⟨nx, cx, ex⟩, hcx⟩ := acts_hold hx hu
      injection ex with ex1 ex2 ex3
      subst ex1
      have HCX := Lib.hid hcx
      have hc := hcx wr hpa.below
      have hok : ActOk u := by
        obtain ⟨_, _, _, _, _, r0, r1, r2, r3, _⟩ := hc
        have := hfew u (List.mem_of_getElem? hu)
        exact ⟨r0, r1, r2, r3, this.1, this.2⟩
      have hdn := done_any p b sz L u wr hpa.disk hok
      have HOK := Lib.hid hok
      have HGD := Lib.hid (hpa.good hne)
      have HNE := Lib.hid (no_done hne sz u)
      unfold ActV.val at hdn
      obtain ⟨c0, c1, c2, c3, c4, _⟩ := hc
      obtain ⟨T, hT⟩ : ∃ T, T = doneT L u := ⟨_, rfl⟩
      obtain ⟨E, hE⟩ : ∃ E, E = doneE sz L u := ⟨_, rfl⟩
      obtain ⟨L', hL'⟩ : ∃ L', L' = doneS sz L u := ⟨_, rfl⟩
      rw [← hT, ← hE, ← hL'] at hdn
      rw [← hL'] at HNE
      have HT := Lib.hid hT
      have HE := Lib.hid hE
      have HL := Lib.hid hL'
      have HPA := Lib.hid hpa
      clear hcx ex2 ex3 hok hne hT hE hL' hpa
      go_wp2_with fail
      refine hdn.mono ?_
      rintro e w5 ⟨rfl, hd5, hc5⟩
      have hr5 : RefAt w5 xn xh L := ⟨HPA.out.ref.1.off HPA.out.disk.own hc5, HPA.out.ref.2.off HPA.out.disk.own hc5⟩
      have hbox5 := (hc5.block _ (Array.getElem?_eq_some_iff.1 HPA.out.box).1 (by omega)).trans HPA.out.box
      have hbel5 := HPA.out.below.trans (hc5.below HPA.out.below.size (fun i hi => by omega))
      have hcc := HCX.out w5 hbel5
      have hbz : Below w5.heap.size w5 (w5.alloc (.cells #[.int .i64 0, .slice none 0 0, .slice none 0 0] 44)) := (Below.refl _ _).alloc (Nat.le_refl _) _
      obtain ⟨e0, e1, e2, e3, e4, _⟩ := HCX.out _ (hbel5.trans (hbz.mono hbel5.size))
      obtain ⟨y0, y1, y2⟩ := three_cells ((hbz.block _ (Array.getElem?_eq_some_iff.1 hbox5).1).trans hbox5)
      clear hbz
      clear c0 c1 c2 c3 c4 hdn hc5 HPA
      obtain ⟨c0, c1, c2, c3, c4, _⟩ := hcc
      obtain ⟨g0, g1, g2⟩ := three_cells hbox5
      have hpl : ∀ W, Below w5.heap.size w5 W → Calls Try.prog 16 #[.agg #[.int .i64 sz, xn, xh], .agg #[.int .u8 u.d, .string u.k, .string u.s, .int .i64 u.at_, .int .u8 u.by_]] W fun e w' => ∃ xa' xc' ya' yc', e = .returned (.tuple #[.agg #[.int .i64 sz, .slice xa' L'.length xc', .slice ya' L'.length yc'], .string T, .int .i64 E]) ∧
          RefAt w' (.slice xa' L'.length xc') (.slice ya' L'.length yc') L' ∧ Below W.heap.size W w' := fun W hW => by
        have := plainly_any sz xn xh L u W (hr5.below hW (Nat.le_refl _)) HGD.out HOK.out
        rw [← HT.out, ← HE.out, ← HL.out] at this
        refine this.mono ?_
        rintro e w' ⟨xq, yq, rfl, hr, hb⟩
        obtain ⟨xqa, xqc, rfl, _⟩ := hr.1.val
        obtain ⟨yqa, yqc, rfl, _⟩ := hr.2.val
        rw [namesOf_len, heldOf_len] at *
        exact ⟨xqa, xqc, yqa, yqc, rfl, hr, hb⟩
      have HXS := Lib.hid (show (∀ s, xn ≠ .string s) ∧ (∀ s, xh ≠ .string s) from by
        obtain ⟨q1, q2, e1, _⟩ := hr5.1.val
        obtain ⟨q3, q4, e2, _⟩ := hr5.2.val
        rw [e1, e2]
        exact ⟨by simp, by simp⟩)
      have HPL := Lib.hid hpl
      have hw3g : w3.heap.size < w5.heap.size := (Array.getElem?_eq_some_iff.1 hbox5).1
      have hpg : p ≠ w3.heap.size ∧ b ≠ w3.heap.size := by omega
      have HD5 := Lib.hid hd5
      have HB5 := Lib.hid hbel5
      have HX5 := Lib.hid hbox5
      clear hpl hd5 hbel5 hbox5 hr5 hfew
      go_upto_region 11 with (fail)
      go_cut [11, 12, 13] (fun s11 s12 s13 wc => CutAt w p b w3.heap.size sz xn xh L' T E s11 s12 s13 wc)
      case first =>
        go_region_law (go_simp; go_at_call 16; refine (HPL.out _ (by first | exact below_drew (Below.refl _ _) | exact below_drew ((Below.refl _ w5).alloc (Nat.le_refl _) _))).mono ?_; rintro e w6 ⟨xa', xc', ya', yc', rfl, hr6, hb6⟩; (first | (have hz := early_box hb6; obtain ⟨z0, z1, z2⟩ := three_cells hz; obtain ⟨z3, z4, z5⟩ := three_free hz) | skip))
        all_goals
          go_wp2_with fail
          go_meet
          first
            | exact cut_early HD5.out HX5.out HB5.out hpg hr6 hb6
            | exact cut_late HD5.out HX5.out HB5.out hpg hr6 hb6
            | (trace_state; sorry)
      case rest =>
        obtain ⟨r, xq, yq, rfl, rfl, rfl, hr7, href, hd7, hg7, hrg, hpg1, hbg1, hB7⟩ := hcut
        obtain ⟨xa', xc', rfl, _⟩ := href.1.val
        obtain ⟨ya', yc', rfl, _⟩ := href.2.val
        rw [namesOf_len, heldOf_len] at hr7 href
        obtain ⟨hm1, hm2⟩ := res_stored (.int .i64 sz) (.slice xa' L'.length xc') (.slice ya' L'.length yc') hg7
        have hp8 : PA w p b w3.heap.size sz (.slice xa' L'.length xc') (.slice ya' L'.length yc') L' (((wc.setCell ⟨w3.heap.size, 0, none⟩ (.int .i64 sz)).setCell ⟨w3.heap.size, 1, none⟩ (.slice xa' L'.length xc')).setCell ⟨w3.heap.size, 2, none⟩ (.slice ya' L'.length yc')) :=
          ⟨hd7.chg hm2 hpg1 hbg1, ⟨href.1.far hg7 (by simp) HXS.out.1 HXS.out.2 hm2, href.2.far hg7 (by simp) HXS.out.1 HXS.out.2 hm2⟩, hm1, hB7.trans (hm2.below hB7.size (fun i hi => by have := HW.out; omega))⟩
        clear g0 g1 g2 y0 y1 y2 c0 c1 c2 c3 c4 e0 e1 e2 e3 e4 HPL HD5 HB5 HX5 HCX
        obtain ⟨k0, k1, k2⟩ := three_cells hr7
        obtain ⟨g0, g1, g2⟩ := three_cells hg7
        obtain ⟨f0, f1, f2⟩ := three_free hg7
        obtain ⟨W8, hW8⟩ : ∃ W8, W8 = ((wc.setCell ⟨w3.heap.size, 0, none⟩ (.int .i64 sz)).setCell ⟨w3.heap.size, 1, none⟩ (.slice xa' L'.length xc')).setCell ⟨w3.heap.size, 2, none⟩ (.slice ya' L'.length yc') := ⟨_, rfl⟩
        rw [← hW8] at hp8
        have hss : (T.toList == T.toList) = true := by simp
        go_wp2_with (first | (rw [← hW8]; clear hW8))
        have hp8d : PA w p b w3.heap.size sz (.slice xa' L'.length xc') (.slice ya' L'.length yc') L' W8.drew := hp8.keep (below_drew (Below.refl _ _))
        obtain ⟨R, hR⟩ : ∃ R : Int, R = (sz : Int) - (tot L' : Int) := ⟨_, rfl⟩
        have hro : ∀ W, PA w p b w3.heap.size sz (.slice xa' L'.length xc') (.slice ya' L'.length yc') L' W → Calls Try.prog 13 #[.pointer (some ⟨p, 0, none⟩)] W fun e w' => e = .returned (.int .i64 R) ∧ PA w p b w3.heap.size sz (.slice xa' L'.length xc') (.slice ya' L'.length yc') L' w' := fun W h => (room_any p b sz L' W h.disk).mono fun e w' ⟨he, hb⟩ => ⟨by rw [he, hR], h.keep hb⟩
        have hrr : ∀ W, PA w p b w3.heap.size sz (.slice xa' L'.length xc') (.slice ya' L'.length yc') L' W → Calls Try.prog 17 #[.agg #[.int .i64 sz, .slice xa' L'.length xc', .slice ya' L'.length yc']] W fun e w' => e = .returned (.int .i64 R) ∧ PA w p b w3.heap.size sz (.slice xa' L'.length xc') (.slice ya' L'.length yc') L' w' := fun W h => (rroom_any sz _ _ L' W h.ref h.disk.small (by have := h.disk.fits; have := h.disk.small; omega)).mono fun e w' ⟨he, hb⟩ => ⟨by rw [he, hR], h.keep hb⟩
        have hnn : ∀ W, PA w p b w3.heap.size sz (.slice xa' L'.length xc') (.slice ya' L'.length yc') L' W → Calls Try.prog 15 #[.pointer (some ⟨p, 0, none⟩)] W fun e w' => ∃ v, e = .returned v ∧ StrsAt w' v (namesOf L') ∧ PA w p b w3.heap.size sz (.slice xa' L'.length xc') (.slice ya' L'.length yc') L' w' := fun W h => (names_any p b sz L' W h.disk).mono fun e w' ⟨v, he, ho, hb⟩ => ⟨v, he, own_strs (l := namesOf L') (by rw [namesOf_len]; exact ho), h.keep hb⟩
        have hst : ∀ W v, StrsAt W v (namesOf L') → PA w p b w3.heap.size sz (.slice xa' L'.length xc') (.slice ya' L'.length yc') L' W → Calls Try.prog 18 #[v, .slice xa' L'.length xc'] W fun e w' => e = .returned (.bool true) ∧ PA w p b w3.heap.size sz (.slice xa' L'.length xc') (.slice ya' L'.length yc') L' w' := fun W v hv h => (same_texts hv h.ref.1).mono fun e w' ⟨he, n, hn⟩ => ⟨he, by rw [hn]; exact h.keep ⟨rfl, rfl, rfl, Nat.le_refl _, fun _ _ => rfl⟩⟩
        have HRO := Lib.hid hro
        have HRR := Lib.hid hrr
        have HNN := Lib.hid hnn
        have HST := Lib.hid hst
        clear hro hrr hnn hst hR
        go_region_held3 (fun W' => (W'.cell? ⟨w3.heap.size, 0, none⟩ = some (.int .i64 sz) ∧ W'.cell? ⟨w3.heap.size, 1, none⟩ = some (.slice xa' L'.length xc') ∧ W'.cell? ⟨w3.heap.size, 2, none⟩ = some (.slice ya' L'.length yc')) ∧ PA w p b w3.heap.size sz (.slice xa' L'.length xc') (.slice ya' L'.length yc') L' W')
          (exact ⟨three_cells (PA.box ‹_›), ‹_›⟩)
          (first
            | (go_at_call 13; refine (HRO.out _ ?_).mono ?_; (assumption); rintro e w9 ⟨rfl, hp9⟩)
            | (go_at_call 17; refine (HRR.out _ ?_).mono ?_; (assumption); rintro e w9 ⟨rfl, hp9⟩)
            | (go_at_call 15; refine (HNN.out _ ?_).mono ?_; (assumption); rintro e w9 ⟨v, rfl, hv9, hp9⟩)
            | (go_at_call 18; refine (HST.out _ _ ?_ ?_).mono ?_; (assumption); (assumption); rintro e w9 ⟨rfl, hp9⟩))
        all_goals
          go_wp2_with fail
          go_roundw
          case rel => exact ⟨k + 1, _, _, L', by omega, by go_num, HNE.out, hp9⟩
          case measure => simp [intOf]; omega
    · go_wp2_with fail
      go_ret
      exact ⟨rfl, hpa.below⟩
end Go.Proofs.Ytclibfiaihhbaaa
