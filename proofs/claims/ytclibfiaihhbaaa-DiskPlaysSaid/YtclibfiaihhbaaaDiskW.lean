/- The document's disk: Without. -/
import Derived.Test.YtclibfiaihhbaaaDiskQ
import Derived.Outline
namespace Go.Proofs.Ytclibfiaihhbaaa
open Go.RowKit Go.ChangeMaps Go.MapKept

theorem Try.info9 : (Try.prog.info? 9).map (fun i => (i.zero, i.size, i.bytes)) = some (some (.string ByteArray.empty), 1, 16) := by kernel_rfl
theorem src_one (w : World) (vb : Nat) (s : ByteArray) (hs : w.heap[vb]? = some (.cells #[.string s] 9 (0, 0))) : Src Try.prog 1 39 (.slice (some ⟨vb, 0, none⟩) 1 1) 1 [.string s] w :=
  Src.ofSlice w Try.underlying39 _ 1 1 _ (by simp) (fun j u hu => by
    have hj := (List.getElem?_eq_some_iff.1 hu).1
    obtain rfl : j = 0 := by simpa using hj
    simp at hu
    subst hu
    rw [Addr.add_lit]
    simp [World.cell?, hs]) (by simp [Value.oneCell'])

/-- A disk of the document's that the call makes: its block, and the two rows that it owns. -/
structure OutAt (wr : World) (o base : Nat) (size : Int) (xn xh : Value) (MN MH : List ByteArray) : Prop where
  out : wr.heap[o]? = some (.cells #[.int .i64 size, xn, xh] 44 (0, 0))
  rowN : wr.ownsRow base 9 1 xn MN.length (MN.map Value.string)
  rowH : wr.ownsRow base 9 1 xh MH.length (MH.map Value.string)
  ne : ∀ g, xn.ownBlock = some g → xh.ownBlock ≠ some g
  lt : o < base
  le : base ≤ wr.heap.size

theorem OutAt.keep {S : Nat → Prop} {a b : World} {o base : Nat} {size : Int} {xn xh : Value} {MN MH : List ByteArray} (h : OutAt a o base size xn xh MN MH) (hc : Chg S a b) (ho : ¬ S o) (hs : ∀ g, base ≤ g → g < a.heap.size → ¬ S g) : OutAt b o base size xn xh MN MH :=
  ⟨(hc.block o (Array.getElem?_eq_some_iff.1 h.out).1 ho).trans h.out, own_kept h.rowN hc (fun g hg => hs g (World.ownsRow.lt h.rowN g hg).1 (World.ownsRow.lt h.rowN g hg).2), own_kept h.rowH hc (fun g hg => hs g (World.ownsRow.lt h.rowH g hg).1 (World.ownsRow.lt h.rowH g hg).2), h.ne, h.lt, Nat.le_trans h.le hc.size⟩
theorem OutAt.drew {a : World} {o base : Nat} {size : Int} {xn xh : Value} {MN MH : List ByteArray} (h : OutAt a o base size xn xh MN MH) : OutAt a.drew o base size xn xh MN MH := h.keep ((Chg.refl (fun _ => False) a).drew) (by simp) (by simp)
theorem OutAt.alloc {a : World} {o base : Nat} {size : Int} {xn xh : Value} {MN MH : List ByteArray} (h : OutAt a o base size xn xh MN MH) (x : Obj) : OutAt (a.alloc x) o base size xn xh MN MH := h.keep ((Chg.refl (fun _ => False) a).alloc x) (by simp) (by simp)

theorem OutAt.cells {a : World} {o base : Nat} {size : Int} {xn xh : Value} {MN MH : List ByteArray} (h : OutAt a o base size xn xh MN MH) :
    a.cell? ⟨o, 0, none⟩ = some (.int .i64 size) ∧ a.cell? ⟨o, 1, none⟩ = some xn ∧ a.cell? ⟨o, 2, none⟩ = some xh := three_cells h.out
theorem OutAt.free {a : World} {o base : Nat} {size : Int} {xn xh : Value} {MN MH : List ByteArray} (h : OutAt a o base size xn xh MN MH) :
    a.frozen? ⟨o, 0, none⟩ = false ∧ a.frozen? ⟨o, 1, none⟩ = false ∧ a.frozen? ⟨o, 2, none⟩ = false := by
  have := h.out
  simp [World.frozen?, this]

theorem OutAt.still {a b : World} {o base : Nat} {size : Int} {xn xh : Value} {MN MH : List ByteArray} (h : OutAt a o base size xn xh MN MH) {x : Value} (hx : ∀ g, x.ownBlock = some g → base ≤ g) (hc : Chg (fun k => some k = x.ownBlock) a b) :
    b.cell? ⟨o, 1, none⟩ = some xn ∧ b.frozen? ⟨o, 1, none⟩ = false ∧ b.cell? ⟨o, 2, none⟩ = some xh ∧ b.frozen? ⟨o, 2, none⟩ = false := by
  have := h.lt
  have hout := (hc.block o (Array.getElem?_eq_some_iff.1 h.out).1 (fun e => by have := hx o e.symm; omega)).trans h.out
  obtain ⟨_, c1, c2⟩ := three_cells hout
  exact ⟨c1, by simp [World.frozen?, hout], c2, by simp [World.frozen?, hout]⟩
theorem OutAt.stillN {a b : World} {o base : Nat} {size : Int} {xn xh : Value} {MN MH : List ByteArray} (h : OutAt a o base size xn xh MN MH) (hc : Chg (fun k => some k = xn.ownBlock) a b) :
    b.cell? ⟨o, 1, none⟩ = some xn ∧ b.frozen? ⟨o, 1, none⟩ = false ∧ b.cell? ⟨o, 2, none⟩ = some xh ∧ b.frozen? ⟨o, 2, none⟩ = false := h.still (fun g hg => (World.ownsRow.lt h.rowN g hg).1) hc
theorem OutAt.stillH {a b : World} {o base : Nat} {size : Int} {xn xh : Value} {MN MH : List ByteArray} (h : OutAt a o base size xn xh MN MH) (hc : Chg (fun k => some k = xh.ownBlock) a b) :
    b.cell? ⟨o, 1, none⟩ = some xn ∧ b.frozen? ⟨o, 1, none⟩ = false ∧ b.cell? ⟨o, 2, none⟩ = some xh ∧ b.frozen? ⟨o, 2, none⟩ = false := h.still (fun g hg => (World.ownsRow.lt h.rowH g hg).1) hc

/-- What an append onto the names, stored back, leaves. -/
theorem OutAt.putN {a b : World} {o base : Nat} {size : Int} {xn xh : Value} {MN MH : List ByteArray} {s : ByteArray} {v : Value} (h : OutAt a o base size xn xh MN MH)
    (ho : b.ownsRow base 9 1 v (MN.length + 1) (MN.map Value.string ++ [.string s])) (hc : Chg (fun k => some k = xn.ownBlock) a b) (hn : v.ownBlock = xn.ownBlock ∨ v.ownBlock = some a.heap.size) :
    OutAt (b.setCell ⟨o, 1, none⟩ v) o base size v xh (MN ++ [s]) MH ∧ Chg (fun i => i = o ∨ base ≤ i) a (b.setCell ⟨o, 1, none⟩ v) := by
  have hlN := fun g hg => World.ownsRow.lt h.rowN g hg
  have hlH := fun g hg => World.ownsRow.lt h.rowH g hg
  have h1 := h.lt
  have hout := (hc.block o (Array.getElem?_eq_some_iff.1 h.out).1 (fun e => by have := (hlN o e.symm).1; omega)).trans h.out
  have hc2 : Chg (fun i => i = o) b (b.setCell ⟨o, 1, none⟩ v) := (Chg.refl (fun i => i = o) b).setCell (p := ⟨o, 1, none⟩) (.inl rfl) v
  have hv : ∀ g, v.ownBlock = some g → base ≤ g := fun g hg => (World.ownsRow.lt ho g hg).1
  refine ⟨⟨?_, ?_, ?_, ?_, h.lt, Nat.le_trans h.le (Nat.le_trans hc.size hc2.size)⟩, (hc.mono (T := fun i => i = o ∨ base ≤ i) (fun i hi => .inr (hlN i hi.symm).1)).trans hc2 (fun i hi _ => .inl hi)⟩
  · simp [World.setCell, Array.getElem?_modify, hout]
  · have := own_kept ho hc2 (fun g hg => by have := hv g hg; omega)
    simpa using this
  · have k1 := own_kept h.rowH hc (fun g hg e => h.ne g e.symm hg)
    exact own_kept k1 hc2 (fun g hg => by have := (hlH g hg).1; omega)
  · intro g hg
    rcases hn with e | e
    · exact h.ne g (e ▸ hg)
    · intro e2
      have := (hlH g e2).2
      rw [e] at hg
      injection hg with hg
      omega
theorem OutAt.putH {a b : World} {o base : Nat} {size : Int} {xn xh : Value} {MN MH : List ByteArray} {s : ByteArray} {v : Value} (h : OutAt a o base size xn xh MN MH)
    (ho : b.ownsRow base 9 1 v (MH.length + 1) (MH.map Value.string ++ [.string s])) (hc : Chg (fun k => some k = xh.ownBlock) a b) (hn : v.ownBlock = xh.ownBlock ∨ v.ownBlock = some a.heap.size) :
    OutAt (b.setCell ⟨o, 2, none⟩ v) o base size xn v MN (MH ++ [s]) ∧ Chg (fun i => i = o ∨ base ≤ i) a (b.setCell ⟨o, 2, none⟩ v) := by
  have hlN := fun g hg => World.ownsRow.lt h.rowN g hg
  have hlH := fun g hg => World.ownsRow.lt h.rowH g hg
  have h1 := h.lt
  have hout := (hc.block o (Array.getElem?_eq_some_iff.1 h.out).1 (fun e => by have := (hlH o e.symm).1; omega)).trans h.out
  have hc2 : Chg (fun i => i = o) b (b.setCell ⟨o, 2, none⟩ v) := (Chg.refl (fun i => i = o) b).setCell (p := ⟨o, 2, none⟩) (.inl rfl) v
  have hv : ∀ g, v.ownBlock = some g → base ≤ g := fun g hg => (World.ownsRow.lt ho g hg).1
  refine ⟨⟨?_, ?_, ?_, ?_, h.lt, Nat.le_trans h.le (Nat.le_trans hc.size hc2.size)⟩, (hc.mono (T := fun i => i = o ∨ base ≤ i) (fun i hi => .inr (hlH i hi.symm).1)).trans hc2 (fun i hi _ => .inl hi)⟩
  · simp [World.setCell, Array.getElem?_modify, hout]
  · have k1 := own_kept h.rowN hc (fun g hg e => h.ne g hg e.symm)
    exact own_kept k1 hc2 (fun g hg => by have := (hlN g hg).1; omega)
  · have := own_kept ho hc2 (fun g hg => by have := hv g hg; omega)
    simpa using this
  · intro g hg
    rcases hn with e | e
    · rw [e]; exact h.ne g hg
    · intro e2
      have := (hlN g hg).2
      rw [e] at e2
      injection e2 with e2
      omega

/-- The lists so far. -/
theorem del_take_no {l : List KV} {n : Nat} {p : KV} {k : ByteArray} (hp : l[n]? = some p) (h : p.1 ≠ k) : delKV k (l.take (n + 1)) = delKV k (l.take n) ++ [p] := by
  rw [List.take_add_one, hp]
  unfold delKV
  rw [List.filter_append]
  simp [h]
theorem del_take_yes {l : List KV} {n : Nat} {p : KV} {k : ByteArray} (hp : l[n]? = some p) (h : p.1 = k) : delKV k (l.take (n + 1)) = delKV k (l.take n) := by
  rw [List.take_add_one, hp]
  unfold delKV
  rw [List.filter_append]
  simp [h]
theorem namesOf_snoc (l : List KV) (p : KV) : namesOf (l ++ [p]) = namesOf l ++ [p.1] := by simp [namesOf]
theorem heldOf_snoc (l : List KV) (p : KV) : heldOf (l ++ [p]) = heldOf l ++ [p.2] := by simp [heldOf]

/-- What Without leaves, so far. -/
structure WoAt (w wr : World) (dn dh : Value) (size : Int) (xn xh : Value) (MN MH : List ByteArray) : Prop where
  below : Below w.heap.size w wr
  box : wr.heap[w.heap.size]? = some (.cells #[.int .i64 size, dn, dh] 44 (0, 0))
  res : wr.heap[w.heap.size + 1]? = some (.cells #[.int .i64 0, .slice none 0 0, .slice none 0 0] 44 (0, 0))
  out : OutAt wr (w.heap.size + 1 + 1) (w.heap.size + 1 + 1 + 1) size xn xh MN MH

theorem WoAt.put {w wr W : World} {dn dh : Value} {size : Int} {xn xh xn' xh' : Value} {MN MH MN' MH' : List ByteArray} (h : WoAt w wr dn dh size xn xh MN MH) (ho : OutAt W (w.heap.size + 1 + 1) (w.heap.size + 1 + 1 + 1) size xn' xh' MN' MH')
    (hc : Chg (fun i => i = w.heap.size + 1 + 1 ∨ w.heap.size + 1 + 1 + 1 ≤ i) wr W) : WoAt w W dn dh size xn' xh' MN' MH' :=
  ⟨h.below.trans (hc.below h.below.size (fun i hi => by omega)), (hc.block _ (Array.getElem?_eq_some_iff.1 h.box).1 (by omega)).trans h.box, (hc.block _ (Array.getElem?_eq_some_iff.1 h.res).1 (by omega)).trans h.res, ho⟩

set_option maxHeartbeats 4000000 in
set_option maxRecDepth 100000 in
theorem without_any (size : Int) (xn xh : Value) (l : List KV) (k : ByteArray) (w : World) (h : RefAt w xn xh l) (hn : l.length ≤ 1000000) :
    Calls Try.prog 26 #[.agg #[.int .i64 size, xn, xh], .string k] w fun e w' => ∃ xn' xh', e = .returned (.agg #[.int .i64 size, xn', xh']) ∧
      OutAt w' (w.heap.size + 1 + 1) (w.heap.size + 1 + 1 + 1) size xn' xh' (namesOf (delKV k l)) (heldOf (delKV k l)) ∧ Below w.heap.size w w' := by
  obtain ⟨hN, hH⟩ := h
  obtain ⟨xa, xc, rfl, hxc, hxm⟩ := hN.val
  obtain ⟨ya, yc, rfl, hyc, hym⟩ := hH.val
  rw [namesOf_len] at hxc hN ⊢
  rw [heldOf_len] at hyc hH ⊢
  obtain ⟨i0, hiz, hz0, hz1, hz2⟩ := info_parts Try.info9
  go_enter Try.func26, Try.ntmps26
  go_wp2_with fail
  obtain ⟨W1, hW1⟩ : ∃ W1, W1 = ((w.alloc (.cells #[.int .i64 size, .slice xa l.length xc, .slice ya l.length yc] 44)).alloc (.cells #[.int .i64 0, .slice none 0 0, .slice none 0 0] 44)).alloc (.cells #[.int .i64 size, .slice none 0 0, .slice none 0 0] 44) := ⟨_, rfl⟩
  rw [← hW1]
  have h0 : WoAt w W1 (.slice xa l.length xc) (.slice ya l.length yc) size (.slice none 0 0) (.slice none 0 0) [] [] := by
    have e1 : (w.alloc (.cells #[.int .i64 size, .slice xa l.length xc, .slice ya l.length yc] 44)).heap.size = w.heap.size + 1 := by simp
    have e2 : ((w.alloc (.cells #[.int .i64 size, .slice xa l.length xc, .slice ya l.length yc] 44)).alloc (.cells #[.int .i64 0, .slice none 0 0, .slice none 0 0] 44)).heap.size = w.heap.size + 1 + 1 := by simp
    rw [hW1]
    refine ⟨(((Below.refl _ w).alloc (Nat.le_refl _) _).alloc (by simp) _).alloc (by simp; omega) _, ?_, ?_, ⟨?_, World.ownsRow_nil _ _ 9 1, World.ownsRow_nil _ _ 9 1, (fun g hg => (by cases hg)), by omega, by simp⟩⟩
    · rw [Below.heap_alloc _ _ _ (by simp; omega), Below.heap_alloc _ _ _ (by simp)]; exact heap_alloc_new w _
    · rw [Below.heap_alloc _ _ _ (by simp), ← e1]; exact heap_alloc_new _ _
    · rw [← e2]; exact heap_alloc_new _ _
  clear hW1
  go_loopw [6] (fun i wr => ∃ (n : Nat) (xn xh : Value), n ≤ l.length ∧ i = .int .i64 n ∧ WoAt w wr (.slice xa l.length xc) (.slice ya l.length yc) size xn xh (namesOf (delKV k (l.take n))) (heldOf (delKV k (l.take n)))) (fun i _ => l.length - (intOf i).toNat)
  case atStart => exact ⟨0, _, _, by omega, rfl, h0⟩
  case round =>
    obtain ⟨n, xn, xh, hn1, rfl, hw⟩ := hrel
    clear h0
    obtain ⟨b0, b1, b2⟩ := three_cells hw.box
    by_cases hlt : n < l.length
    · obtain ⟨p, hp⟩ : ∃ p, l[n]? = some p := ⟨_, List.getElem?_eq_getElem hlt⟩
      obtain ⟨bx, ox, ex, hcx⟩ := strs_cell (hN.below hw.below (Nat.le_refl _)) n p.1 (namesOf_at hp)
      obtain ⟨bb, ob, eb, hcy⟩ := strs_cell (hH.below hw.below (Nat.le_refl _)) n p.2 (heldOf_at hp)
      subst ex eb
      by_cases e : p.1 = k
      · have hq : (p.1.toList == k.toList) = true := by rw [e]; simp
        rw [← del_take_yes hp e] at hw
        go_wp2
        go_roundw
        case rel => exact ⟨n + 1, _, _, by omega, by go_num, hw⟩
        case measure => simp [intOf]; omega
      · have hq : (p.1.toList == k.toList) = false := beq_no e
        obtain ⟨o0, o1, o2⟩ := hw.out.cells
        obtain ⟨f0, f1, f2⟩ := hw.out.free
        obtain ⟨va, vc, rfl, hvc, hvm, _⟩ := own_val hw.out.rowN
        have hlen1 : (namesOf (delKV k (l.take n))).length ≤ n := by rw [namesOf_len]; exact Nat.le_trans (len_del_le _ _) (List.length_take_le _ _)
        have h4 := (hw.out.drew).alloc (.cells #[.string p.1] 9)
        have HM := Lib.hid h4
        have ha1 := (hw.out.alloc (.cells #[.string p.1] 9)).cells.2.1
        have HW := Lib.hid hw
        clear hw h4
        unfold maxLen at hvm
        go_wp2_with fail
        go_region_law (refine step_append_src rfl (.tmp 25) (.tmp 31) 39 39 rfl (w.heap.size + 1 + 1 + 1) 9 i0 _ 1 16 Try.underlying39 hiz hz0 hz1 hz2 rfl (by decide) _ _ _ (by simp [Act.eval, Act.put]) HM.out.rowN _ 1 [.string p.1] (by simp [Act.eval, Act.put]) (src_one _ wr.heap.size p.1 (heap_alloc_new wr.drew _)) (by unfold maxLen; omega) (by omega) (by have := HM.out.le; simp at this ⊢; omega) ?_; intro v5 W5 ho5 hch5 hnew5; obtain ⟨a5, c5, rfl, _⟩ := own_val ho5; obtain ⟨g0, g1, _, _⟩ := HM.out.stillN hch5)
        all_goals
          obtain ⟨h5, hc5⟩ := HM.out.putN ho5 hch5 hnew5
          have hc5' : Chg (fun i => i = w.heap.size + 1 + 1 ∨ w.heap.size + 1 + 1 + 1 ≤ i) wr _ := ((Chg.refl (fun i => i = w.heap.size + 1 + 1 ∨ w.heap.size + 1 + 1 + 1 ≤ i) wr).drew.alloc (.cells #[.string p.1] 9)).trans hc5 (fun _ x _ => x)
          have hw5 := HW.out.put h5 hc5'
          obtain ⟨W6, hW6⟩ : ∃ W6, W6 = W5.setCell ⟨w.heap.size + 1 + 1, 1, none⟩ (.slice a5 ((namesOf (delKV k (l.take n))).length + 1) c5) := ⟨_, rfl⟩
          rw [← hW6] at hw5 ⊢
          clear hW6 h5 hc5 hc5' HM hch5 ho5 hnew5 g0 g1 b0 b1 b2 o0 o1 o2 f0 f1 f2 HW ha1 hcx hcy
          obtain ⟨b0, b1, b2⟩ := three_cells hw5.box
          obtain ⟨o0, o1, o2⟩ := hw5.out.cells
          obtain ⟨f0, f1, f2⟩ := hw5.out.free
          obtain ⟨vh, vhc, rfl, hvhc, hvhm, _⟩ := own_val hw5.out.rowH
          obtain ⟨bb', ob', eb, hcy⟩ := strs_cell (hH.below hw5.below (Nat.le_refl _)) n p.2 (heldOf_at hp)
          injection eb with eb
          injection eb with eb1 eb2
          subst eb1 eb2
          have hlen2 : (heldOf (delKV k (l.take n))).length ≤ n := by rw [heldOf_len, ← namesOf_len]; exact hlen1
          have h4 := (hw5.out.drew).alloc (.cells #[.string p.2] 9)
          have HM := Lib.hid h4
          have ha1 := (hw5.out.alloc (.cells #[.string p.2] 9)).cells.2.2
          have HW := Lib.hid hw5
          clear hw5 h4
          unfold maxLen at hvhm
          go_wp2_with fail
          go_region_law (refine step_append_src rfl (.tmp 35) (.tmp 41) 39 39 rfl (w.heap.size + 1 + 1 + 1) 9 i0 _ 1 16 Try.underlying39 hiz hz0 hz1 hz2 rfl (by decide) _ _ _ (by simp [Act.eval, Act.put]) HM.out.rowH _ 1 [.string p.2] (by simp [Act.eval, Act.put]) (src_one _ W6.heap.size p.2 (heap_alloc_new W6.drew _)) (by unfold maxLen; omega) (by omega) (by have := HM.out.le; simp at this ⊢; omega) ?_; intro v7 W7 ho7 hch7 hnew7; obtain ⟨a7, c7, rfl, _⟩ := own_val ho7; obtain ⟨_, _, g2, g3⟩ := HM.out.stillH hch7)
          all_goals
            obtain ⟨h7, hc7⟩ := HM.out.putH ho7 hch7 hnew7
            have hc7' : Chg (fun i => i = w.heap.size + 1 + 1 ∨ w.heap.size + 1 + 1 + 1 ≤ i) W6 _ := ((Chg.refl (fun i => i = w.heap.size + 1 + 1 ∨ w.heap.size + 1 + 1 + 1 ≤ i) W6).drew.alloc (.cells #[.string p.2] 9)).trans hc7 (fun _ x _ => x)
            have hw7 := HW.out.put h7 hc7'
            obtain ⟨W8, hW8⟩ : ∃ W8, W8 = W7.setCell ⟨w.heap.size + 1 + 1, 2, none⟩ (.slice a7 ((heldOf (delKV k (l.take n))).length + 1) c7) := ⟨_, rfl⟩
            rw [← hW8] at hw7 ⊢
            rw [← namesOf_snoc, ← heldOf_snoc, ← del_take_no hp e] at hw7
            clear hW8 h7 hc7 hc7' HM hch7 ho7 hnew7 g2 g3 b0 b1 b2 o0 o1 o2 f0 f1 f2 HW ha1 hcy
            go_wp2_with fail
            go_roundw
            case rel => exact ⟨n + 1, _, _, by omega, by go_num, hw7⟩
            case measure => simp [intOf]; omega
    · obtain rfl : n = l.length := by omega
      rw [List.take_length] at hw
      obtain ⟨va, vc, rfl, _⟩ := own_val hw.out.rowN
      obtain ⟨vh, vhc, rfl, _⟩ := own_val hw.out.rowH
      obtain ⟨o0, o1, o2⟩ := hw.out.cells
      obtain ⟨r0, r1, r2⟩ := three_cells hw.res
      obtain ⟨q0, q1, q2⟩ : wr.frozen? ⟨w.heap.size + 1, 0, none⟩ = false ∧ wr.frozen? ⟨w.heap.size + 1, 1, none⟩ = false ∧ wr.frozen? ⟨w.heap.size + 1, 2, none⟩ = false := by
        have := hw.res
        simp [World.frozen?, this]
      have HW := Lib.hid hw
      clear hw
      go_wp2_with fail
      have hC := ((((Chg.refl (fun i => i = w.heap.size + 1) wr).setCell (p := ⟨w.heap.size + 1, 0, none⟩) (.inl rfl) (.int .i64 size)).setCell (p := ⟨w.heap.size + 1, 1, none⟩) (.inl rfl) (.slice va (namesOf (delKV k l)).length vc)).setCell (p := ⟨w.heap.size + 1, 2, none⟩) (.inl rfl) (.slice vh (heldOf (delKV k l)).length vhc))
      obtain ⟨W9, hW9⟩ : ∃ W9, W9 = ((wr.setCell ⟨w.heap.size + 1, 0, none⟩ (.int .i64 size)).setCell ⟨w.heap.size + 1, 1, none⟩ (.slice va (namesOf (delKV k l)).length vc)).setCell ⟨w.heap.size + 1, 2, none⟩ (.slice vh (heldOf (delKV k l)).length vhc) := ⟨_, rfl⟩
      have hr9 : W9.heap[w.heap.size + 1]? = some (.cells #[.int .i64 size, .slice va (namesOf (delKV k l)).length vc, .slice vh (heldOf (delKV k l)).length vhc] 44 (0, 0)) := by
        rw [hW9]
        simp [World.setCell, Array.getElem?_modify, HW.out.res]
      obtain ⟨s0, s1, s2⟩ := three_cells hr9
      rw [← hW9] at hC ⊢
      refine bodyPost_ret (v := .agg #[.int .i64 size, .slice va (namesOf (delKV k l)).length vc, .slice vh (heldOf (delKV k l)).length vhc]) (by simp [results, Try.results26, go_sem, s0, s1, s2]) rfl ⟨_, _, rfl, ?_, ?_⟩
      · exact HW.out.out.keep hC (by omega) (fun g hg _ => by omega)
      · exact HW.out.below.trans (hC.below HW.out.below.size (fun i hi => by omega))
end Go.Proofs.Ytclibfiaihhbaaa
