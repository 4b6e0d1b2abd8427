/- The document's disk: Write. -/
import Derived.Test.YtclibfiaihhbaaaDiskW
namespace Go.Proofs.Ytclibfiaihhbaaa
open Go.RowKit Go.ChangeMaps Go.MapKept

/-- A string's cell, in every world that is as the first one was. -/
theorem strs_hold {x : Value} {l : List ByteArray} {w : World} (h : StrsAt w x l) {k : Nat} {s : ByteArray} (hs : l[k]? = some s) : ∃ b off, (∃ n c, x = .slice (some ⟨b, off, none⟩) n c) ∧ ∀ W, Below w.heap.size w W → W.cell? ⟨b, off + k, none⟩ = some (.string s) := by
  obtain ⟨a, c, rfl, _⟩ := h.val
  obtain ⟨b, off, rfl, hc⟩ := strs_cell h k s hs
  exact ⟨b, off, ⟨_, _, rfl⟩, fun W hb => (hb.cell (p := ⟨b, _, none⟩) (World.block_lt_of_cell? w _ hc)).trans hc⟩

def soFar (put : Bool) (x : KV) (M : List KV) : List KV := if put then insKV x M else M
def Passed (put : Bool) (x : KV) (M : List KV) : Prop := if put then ∃ p ∈ M, x.1.data.toList < p.1.data.toList else ∀ p ∈ M, ¬ (x.1.data.toList < p.1.data.toList)

theorem soFar_step {put : Bool} {x : KV} {M : List KV} {n : Nat} {p : KV} (hp : M[n]? = some p) (h : Passed put x (M.take n)) (hb : put = true ∨ ¬ (x.1.data.toList < p.1.data.toList)) :
    soFar put x (M.take (n + 1)) = soFar put x (M.take n) ++ [p] ∧ Passed put x (M.take (n + 1)) := by
  rw [List.take_add_one, hp]
  unfold soFar Passed at *
  cases put with
  | true =>
    simp only [if_true] at *
    refine ⟨ins_snoc_put x p _ h, ?_⟩
    obtain ⟨q, hq, hl⟩ := h
    exact ⟨q, List.mem_append_left _ hq, hl⟩
  | false =>
    simp only [Bool.false_eq_true, if_false] at *
    refine ⟨rfl, fun q hq => ?_⟩
    rcases List.mem_append.1 hq with hq | hq
    · exact h q hq
    · have : q = p := by simpa using hq
      rw [this]
      exact hb.resolve_left (by simp)
theorem soFar_here {x : KV} {M : List KV} {n : Nat} {p : KV} (hp : M[n]? = some p) (h : Passed false x (M.take n)) (hb : x.1.data.toList < p.1.data.toList) :
    soFar true x (M.take (n + 1)) = soFar false x (M.take n) ++ [x, p] ∧ Passed true x (M.take (n + 1)) := by
  rw [List.take_add_one, hp]
  unfold soFar Passed at *
  simp only [Bool.false_eq_true, if_false, if_true] at *
  exact ⟨ins_snoc_here x p hb _ h, p, by simp, hb⟩
theorem soFar_end {x : KV} {M : List KV} (put : Bool) (h : Passed put x M) : (if put then soFar put x M else soFar put x M ++ [x]) = insKV x M := by
  unfold soFar Passed at *
  cases put with
  | true => rfl
  | false =>
    simp only [Bool.false_eq_true, if_false] at *
    exact (ins_none x M h).symm

theorem own_strs' {w : World} {B : Nat} {e : TypeId} {a : Option Addr} {n n' c : Nat} {l : List ByteArray} (hn : n' = n) (h : w.ownsRow B e 1 (.slice a n c) n' (l.map Value.string)) : StrsAt w (.slice a n c) l := by
  subst hn
  have e1 : n' = l.length := by have := h.1; simpa using this.symm
  subst e1
  exact own_strs h

theorem alloc_set (W : World) (p : Addr) (u : Value) (o : Obj) : ((W.setCell p u).alloc o).heap[W.heap.size]? = some o := by
  have := heap_alloc_new (W.setCell p u) o
  have e : (W.setCell p u).heap.size = W.heap.size := by simp [World.setCell]
  rw [e] at this
  exact this

/-- Three cells stored over a block of three. -/
theorem res_stored {W : World} {r : Nat} {a0 b0 c0 : Value} {t : TypeId} (a b c : Value) (h : W.heap[r]? = some (.cells #[a0, b0, c0] t (0, 0))) :
    (((W.setCell ⟨r, 0, none⟩ a).setCell ⟨r, 1, none⟩ b).setCell ⟨r, 2, none⟩ c).heap[r]? = some (.cells #[a, b, c] t (0, 0)) ∧ Chg (fun i => i = r) W (((W.setCell ⟨r, 0, none⟩ a).setCell ⟨r, 1, none⟩ b).setCell ⟨r, 2, none⟩ c) := by
  refine ⟨?_, (((Chg.refl (fun i => i = r) W).setCell (p := ⟨r, 0, none⟩) (.inl rfl) a).setCell (p := ⟨r, 1, none⟩) (.inl rfl) b).setCell (p := ⟨r, 2, none⟩) (.inl rfl) c⟩
  simp [World.setCell, Array.getElem?_modify, h]
theorem three_free {w : World} {g : Nat} {v0 v1 v2 : Value} {t : TypeId} (h : w.heap[g]? = some (.cells #[v0, v1, v2] t (0, 0))) :
    w.frozen? ⟨g, 0, none⟩ = false ∧ w.frozen? ⟨g, 1, none⟩ = false ∧ w.frozen? ⟨g, 2, none⟩ = false := by
  simp [World.frozen?, h]

theorem less_facts {a k : ByteArray} (hne : a ≠ k) : (Op.bytesLess a.toList k.toList = true ∧ ¬ (k.data.toList < a.data.toList)) ∨ (Op.bytesLess a.toList k.toList = false ∧ k.data.toList < a.data.toList) := by
  have e := bytesLess_eq a.toList k.toList
  rw [ByteArray.toList_eq, ByteArray.toList_eq] at e
  rw [ByteArray.toList_eq, ByteArray.toList_eq, e]
  by_cases h : a.data.toList < k.data.toList
  · exact .inl ⟨decide_eq_true h, List.lt_asymm h⟩
  · refine .inr ⟨decide_eq_false h, ?_⟩
    by_cases h1 : k.data.toList < a.data.toList
    · exact h1
    · exact absurd (ByteArray.ext (Array.toList_inj.1 (List.le_antisymm (List.not_lt.1 h1) (List.not_lt.1 h)))) hne

set_option maxHeartbeats 4000000 in
set_option maxRecDepth 100000 in
theorem rwrite_any (size : Nat) (xn xh : Value) (l : List KV) (k v : ByteArray) (w : World) (h : RefAt w xn xh l) (hap : Apartn l) (hs : size ≤ 4194304) (ht : tot l ≤ size) (hv : v.size ≤ 140737488351232) :
    Calls Try.prog 27 #[.agg #[.int .i64 size, xn, xh], .string k, .string v] w fun e w' => ∃ xn' xh', e = .returned (.tuple #[.agg #[.int .i64 size, xn', xh'], .int .i64 (writeE size l k v)]) ∧
      RefAt w' xn' xh' (writeS size l k v) ∧ Below w.heap.size w w' := by
  obtain ⟨hN, hH⟩ := h
  obtain ⟨xa, xc, rfl, hxc, hxm⟩ := hN.val
  obtain ⟨ya, yc, rfl, hyc, hym⟩ := hH.val
  rw [namesOf_len] at hxc hN ⊢
  rw [heldOf_len] at hyc hH ⊢
  have h0 := isEmpty_iff k
  obtain ⟨W1, hW1⟩ : ∃ W1, W1 = (w.alloc (.cells #[.int .i64 size, .slice xa l.length xc, .slice ya l.length yc] 44)).alloc (.cells #[.int .i64 0, .slice none 0 0, .slice none 0 0] 44) := ⟨_, rfl⟩
  have hbel : Below w.heap.size w W1 := by rw [hW1]; exact ((Below.refl _ w).alloc (Nat.le_refl _) _).alloc (by simp) _
  have hbox : W1.heap[w.heap.size]? = some (.cells #[.int .i64 size, .slice xa l.length xc, .slice ya l.length yc] 44 (0, 0)) := by
    rw [hW1, Below.heap_alloc _ _ _ (by simp)]; exact heap_alloc_new w _
  have hres : W1.heap[w.heap.size + 1]? = some (.cells #[.int .i64 0, .slice none 0 0, .slice none 0 0] 44 (0, 0)) := by
    have e1 : (w.alloc (.cells #[.int .i64 size, .slice xa l.length xc, .slice ya l.length yc] 44)).heap.size = w.heap.size + 1 := by simp
    rw [hW1, ← e1]; exact heap_alloc_new _ _
  by_cases hbad : k.size = 0 ∨ 64 < k.size
  · have e1 : writeE size l k v = 1 := by unfold writeE; rw [if_pos hbad]
    have e2 : writeS size l k v = l := by unfold writeS; rw [if_pos hbad]
    rw [e1, e2]
    obtain ⟨b0, b1, b2⟩ := three_cells hbox
    obtain ⟨r0, r1, r2⟩ := three_cells hres
    obtain ⟨f0, f1, f2⟩ := three_free hres
    obtain ⟨hr9, hC⟩ := res_stored (.int .i64 size) (.slice xa l.length xc) (.slice ya l.length yc) hres
    obtain ⟨W9, hW9⟩ : ∃ W9, W9 = ((W1.setCell ⟨w.heap.size + 1, 0, none⟩ (.int .i64 size)).setCell ⟨w.heap.size + 1, 1, none⟩ (.slice xa l.length xc)).setCell ⟨w.heap.size + 1, 2, none⟩ (.slice ya l.length yc) := ⟨_, rfl⟩
    rw [← hW9] at hr9 hC
    obtain ⟨s0, s1, s2⟩ := three_cells hr9
    have HB := Lib.hid (hbel.trans (hC.below hbel.size (fun i hi => by omega)))
    clear hr9 hC hbel hbox hres
    by_cases hk0 : k.size = 0
    · rw [decide_eq_true hk0] at h0
      go_enter Try.func27, Try.ntmps27
      go_wp2_with (first | (rw [← hW1]; clear hW1))
      rw [← hW9]
      exact bodyPost_ret (v := .tuple #[.agg #[.int .i64 size, .slice xa l.length xc, .slice ya l.length yc], .int .i64 1]) (by simp [results, Try.results27, go_sem, s0, s1, s2]) rfl ⟨_, _, rfl, ⟨hN.below HB.out (Nat.le_refl _), hH.below HB.out (Nat.le_refl _)⟩, HB.out⟩
    · rw [decide_eq_false hk0] at h0
      have h64 : (64 : Int) < (k.size : Int) := by omega
      go_enter Try.func27, Try.ntmps27
      go_wp2_with (first | (rw [← hW1]; clear hW1))
      rw [← hW9]
      exact bodyPost_ret (v := .tuple #[.agg #[.int .i64 size, .slice xa l.length xc, .slice ya l.length yc], .int .i64 1]) (by simp [results, Try.results27, go_sem, s0, s1, s2]) rfl ⟨_, _, rfl, ⟨hN.below HB.out (Nat.le_refl _), hH.below HB.out (Nat.le_refl _)⟩, HB.out⟩
  rw [decide_eq_false (by omega)] at h0
  have h64 : ¬ ((64 : Int) < (k.size : Int)) := by omega
  obtain ⟨i0, hiz, hz0, hz1, hz2⟩ := info_parts Try.info9
  obtain ⟨b0, b1, b2⟩ := three_cells hbox
  have hlt := len_tot l
  have htd := tot_del hap k
  have hd1 : RefAt W1 (.slice xa l.length xc) (.slice ya l.length yc) l := ⟨hN.below hbel (Nat.le_refl _), hH.below hbel (Nat.le_refl _)⟩
  obtain ⟨E, hE⟩ : ∃ E, E = writeE size l k v := ⟨_, rfl⟩
  obtain ⟨S, hS⟩ : ∃ S, S = writeS size l k v := ⟨_, rfl⟩
  rw [← hE, ← hS]
  have HE := Lib.hid hE
  have HS := Lib.hid hS
  clear hE hS
  go_enter Try.func27, Try.ntmps27
  go_wp2_with (first | (rw [← hW1]; clear hW1))
  refine (without_any size _ _ l k W1 hd1 (by omega)).mono ?_
  rintro e W2 ⟨xw, yw, rfl, hO2, hb2⟩
  obtain ⟨M, hM⟩ : ∃ M, M = delKV k l := ⟨_, rfl⟩
  rw [← hM] at hO2 htd
  have hMe := Lib.hid hM
  clear hM
  have hwN := own_strs hO2.rowN
  have hwH := own_strs hO2.rowH
  have hx2 := hbel.trans (hb2.mono hbel.size)
  have hbox2 := (hb2.block _ (by have := (Array.getElem?_eq_some_iff.1 hbox).1; exact this)).trans hbox
  have hres2 := (hb2.block _ (by have := (Array.getElem?_eq_some_iff.1 hres).1; exact this)).trans hres
  have hb3 : Below W2.heap.size W2 (W2.alloc (.cells #[.int .i64 size, xw, yw] 44)) := (Below.refl _ _).alloc (Nat.le_refl _) _
  clear b0 b1 b2 hbox hres hO2 hb2 hd1 hbel
  obtain ⟨xwa, xwc, rfl, hxwc, hxwm⟩ := hwN.val
  obtain ⟨ywa, ywc, rfl, hywc, hywm⟩ := hwH.val
  rw [namesOf_len, heldOf_len] at hb3 ⊢
  rw [namesOf_len] at hwN hxwc
  rw [heldOf_len] at hwH hywc
  obtain ⟨W3, hW3⟩ : ∃ W3, W3 = W2.alloc (.cells #[.int .i64 size, .slice xwa M.length xwc, .slice ywa M.length ywc] 44) := ⟨_, rfl⟩
  have hg3 : W3.heap[W2.heap.size]? = some (.cells #[.int .i64 size, .slice xwa M.length xwc, .slice ywa M.length ywc] 44 (0, 0)) := by rw [hW3]; exact heap_alloc_new _ _
  rw [← hW3] at hb3
  have hsz3 : W2.heap.size < W3.heap.size := (Array.getElem?_eq_some_iff.1 hg3).1
  have hbox3 := (hb3.block _ (Array.getElem?_eq_some_iff.1 hbox2).1).trans hbox2
  have hres3 := (hb3.block _ (Array.getElem?_eq_some_iff.1 hres2).1).trans hres2
  have hlt2 := (Array.getElem?_eq_some_iff.1 hres2).1
  have hx3 := hx2.trans (hb3.mono hx2.size)
  have hr3 : RefAt W3 (.slice xwa M.length xwc) (.slice ywa M.length ywc) M := ⟨hwN.below hb3 (Nat.le_refl _), hwH.below hb3 (Nat.le_refl _)⟩
  obtain ⟨b0, b1, b2⟩ := three_cells hg3
  clear hwN hwH hx2 hb3 hbox2 hres2
  go_wp2_with (first | (rw [← hW3]; clear hW3))
  refine (rroom_any size _ _ M W3 hr3 hs (by omega)).mono ?_
  rintro e W4 ⟨rfl, hb4⟩
  have hg4 := (hb4.block _ (Array.getElem?_eq_some_iff.1 hg3).1).trans hg3
  have hbox4 := (hb4.block _ (Array.getElem?_eq_some_iff.1 hbox3).1).trans hbox3
  have hres4 := (hb4.block _ (Array.getElem?_eq_some_iff.1 hres3).1).trans hres3
  have hx4 := hx3.trans (hb4.mono hx3.size)
  have hr4 := hr3.below hb4 (Nat.le_refl _)
  have hsz4 : W2.heap.size < W4.heap.size := Nat.lt_of_lt_of_le hsz3 hb4.size
  clear b0 b1 b2 hr3 hx3 hb4 hg3 hbox3 hres3 hsz3
  by_cases hful : size + heldTakes l k < tot l + (k.size + v.size + 16)
  · have e1 : writeE size l k v = 9 := by unfold writeE; rw [if_neg hbad, if_pos hful]
    have e2 : writeS size l k v = l := by unfold writeS; rw [if_neg hbad, if_pos hful]
    have HE1 := Lib.hid (HE.out.trans e1)
    have HS1 := Lib.hid (HS.out.trans e2)
    clear e1 e2 HE HS
    obtain ⟨b0, b1, b2⟩ := three_cells hbox4
    obtain ⟨r0, r1, r2⟩ := three_cells hres4
    obtain ⟨f0, f1, f2⟩ := three_free hres4
    obtain ⟨hr9, hC⟩ := res_stored (.int .i64 size) (.slice xa l.length xc) (.slice ya l.length yc) hres4
    obtain ⟨W9, hW9⟩ : ∃ W9, W9 = ((W4.setCell ⟨w.heap.size + 1, 0, none⟩ (.int .i64 size)).setCell ⟨w.heap.size + 1, 1, none⟩ (.slice xa l.length xc)).setCell ⟨w.heap.size + 1, 2, none⟩ (.slice ya l.length yc) := ⟨_, rfl⟩
    rw [← hW9] at hr9 hC
    obtain ⟨s0, s1, s2⟩ := three_cells hr9
    have HB := Lib.hid (hx4.trans (hC.below hx4.size (fun i hi => by omega)))
    have hfull : (size : Int) - (tot M : Int) < (k.size : Int) + (v.size : Int) + 16 := by omega
    clear hr9 hC hbox4 hres4
    go_wp2_with fail
    rw [← hW9]
    exact bodyPost_ret (v := .tuple #[.agg #[.int .i64 size, .slice xa l.length xc, .slice ya l.length yc], .int .i64 9]) (by simp [results, Try.results27, go_sem, s0, s1, s2]) rfl ⟨_, _, by rw [HE1.out], by rw [HS1.out]; exact ⟨hN.below HB.out (Nat.le_refl _), hH.below HB.out (Nat.le_refl _)⟩, HB.out⟩
  · have e1 : writeE size l k v = 0 := by unfold writeE; rw [if_neg hbad, if_neg hful]
    have e2 : writeS size l k v = insKV (k, v) M := by unfold writeS; rw [if_neg hbad, if_neg hful, hMe.out]; rfl
    have hMk : ∀ p ∈ M, p.1 ≠ k := by rw [hMe.out]; exact fun p hp => (mem_del.1 hp).2
    have hMl : M.length ≤ l.length := by rw [hMe.out]; exact len_del_le _ _
    have hMK := Lib.hid hMk
    have HE1 := Lib.hid (HE.out.trans e1)
    have HS1 := Lib.hid (HS.out.trans e2)
    have hroom : ¬ ((size : Int) - (tot M : Int) < (k.size : Int) + (v.size : Int) + 16) := by omega
    obtain ⟨b0, b1, b2⟩ := three_cells hbox4
    clear hMk e1 e2 hful HE HS
    go_wp2_with fail
    have hW5 : OutAt (W4.alloc (.cells #[.int .i64 size, .slice none 0 0, .slice none 0 0] 44)) W4.heap.size (W4.heap.size + 1) size (.slice none 0 0) (.slice none 0 0) [] [] :=
      ⟨heap_alloc_new W4 _, World.ownsRow_nil _ _ 9 1, World.ownsRow_nil _ _ 9 1, (fun g hg => (by cases hg)), by omega, by simp⟩
    have hB0 : Below W4.heap.size W4 (W4.alloc (.cells #[.int .i64 size, .slice none 0 0, .slice none 0 0] 44)) := (Below.refl _ _).alloc (Nat.le_refl _) _
    obtain ⟨Wz, hWz⟩ : ∃ Wz, Wz = W4.alloc (.cells #[.int .i64 size, .slice none 0 0, .slice none 0 0] 44) := ⟨_, rfl⟩
    rw [← hWz] at hW5 hB0 ⊢
    clear hWz b0 b1 b2
    have HG4 := Lib.hid hg4
    have HR4 := Lib.hid hr4
    have HBOX := Lib.hid hbox4
    have HRES := Lib.hid hres4
    have HX4 := Lib.hid hx4
    have hres4l := (Array.getElem?_eq_some_iff.1 hres4).1
    have hbox4l := (Array.getElem?_eq_some_iff.1 hbox4).1
    clear hg4 hr4 hbox4 hres4 hx4
    have hMl2 : M.length ≤ 1000000 := by omega
    go_loopw [10, 11] (fun q i wr => ∃ (n : Nat) (put : Bool) (xn xh : Value), n ≤ M.length ∧ i = .int .i64 n ∧ q = .bool put ∧ Passed put (k, v) (M.take n) ∧ Below W4.heap.size W4 wr ∧ OutAt wr W4.heap.size (W4.heap.size + 1) size xn xh (namesOf (soFar put (k, v) (M.take n))) (heldOf (soFar put (k, v) (M.take n)))) (fun _ i _ => M.length - (intOf i).toNat)
    case atStart => exact ⟨0, false, _, _, by omega, rfl, rfl, fun p hp => by simp at hp, hB0, hW5⟩
    case round =>
      obtain ⟨n, put, xn, xh, hn1, rfl, rfl, hps, hB, hO⟩ := hrel
      clear hW5 hB0
      have HBW := Lib.hid hB
      obtain ⟨C, hC⟩ : ∃ C, C = soFar put (k, v) (M.take n) := ⟨_, rfl⟩
      have hCl : C.length ≤ 1000001 := by
        rw [hC]
        unfold soFar
        have h1 : (M.take n).length ≤ n := List.length_take_le _ _
        split
        · rw [len_ins]; omega
        · omega
      by_cases hlt2 : n < M.length
      · obtain ⟨p, hp⟩ : ∃ p, M[n]? = some p := ⟨_, List.getElem?_eq_getElem hlt2⟩
        obtain ⟨bx, ox, ⟨nx, cx, ex⟩, hcx⟩ := strs_hold HR4.out.1 (namesOf_at hp)
        obtain ⟨bb, ob, ⟨nb, cb, eb⟩, hcy⟩ := strs_hold HR4.out.2 (heldOf_at hp)
        injection ex with ex1 ex2 ex3
        injection eb with eb1 eb2 eb3
        subst ex1 eb1
        have HCN := Lib.hid hcx
        have HCH := Lib.hid hcy
        clear hcx hcy ex2 ex3 eb2 eb3
        have hpk : p.1 ≠ k := hMK.out p (List.mem_of_getElem? hp)
        have hq := beq_no hpk
        obtain ⟨b0, b1, b2⟩ := three_cells ((HBW.out.block _ hsz4).trans HG4.out)
        have hcx := HCN.out _ HBW.out
        cases put with
        | true =>
          have HSF := Lib.hid (soFar_step (x := (k, v)) hp hps (.inl rfl))
          rw [← hC] at hO HSF
          clear hC hps hB
          go_wp2_with fail
          clear b0 b1 b2 hcx
          obtain ⟨o0, o1, o2⟩ := hO.cells
          obtain ⟨f0, f1, f2⟩ := hO.free
          obtain ⟨va, vc, rfl, hvc, hvm, _⟩ := own_val hO.rowN
          obtain ⟨b0, b1, b2⟩ := three_cells ((HBW.out.block _ hsz4).trans HG4.out)
          have hcx := HCN.out _ HBW.out
          have hO4 := hO.drew.alloc (.cells #[.string p.1] 9)
          have ha1 := (hO.alloc (.cells #[.string p.1] 9)).cells.2.1
          have HO := Lib.hid hO
          have HM := Lib.hid hO4
          unfold maxLen at hvm
          clear hO hO4
          go_wp2_with fail
          go_region_law (refine step_append_src rfl (.tmp 67) (.tmp 73) 39 39 rfl (W4.heap.size + 1) 9 i0 _ 1 16 Try.underlying39 hiz hz0 hz1 hz2 rfl (by decide) _ _ _ (by simp [Act.eval, Act.put]) HM.out.rowN _ 1 [.string p.1] (by simp [Act.eval, Act.put]) (src_one _ wr.heap.size p.1 (heap_alloc_new wr.drew _)) (by unfold maxLen; simp only [namesOf_len, heldOf_len, List.length_append, List.length_singleton]; omega) (by simp only [namesOf_len, heldOf_len, List.length_append, List.length_singleton]; omega) (by have := HM.out.le; simp at this ⊢; omega) ?_; intro v5 W5 ho5 hch5 hnew5; obtain ⟨a5, c5, rfl, _⟩ := own_val ho5; obtain ⟨g0, g1, g2, g3⟩ := HM.out.stillN hch5)
          all_goals
            obtain ⟨h5, hc5⟩ := HM.out.putN ho5 hch5 hnew5
            have hB5 := HBW.out.trans ((((Chg.refl (fun i => i = W4.heap.size ∨ W4.heap.size + 1 ≤ i) wr).drew.alloc (.cells #[.string p.1] 9)).trans hc5 (fun _ x _ => x)).below HBW.out.size (fun i hi => by omega))
            obtain ⟨wrx, hW6⟩ : ∃ wrx, wrx = W5.setCell ⟨W4.heap.size, 1, none⟩ (.slice a5 ((namesOf C).length + 1) c5) := ⟨_, rfl⟩
            rw [← hW6] at h5 hB5 ⊢
            clear hW6 hc5 HM hch5 ho5 hnew5 g0 g1 g2 g3 o0 o1 o2 f0 f1 f2 HO HBW hvc hvm b0 b1 b2 hcx ha1
            have hO := h5
            have HBW := Lib.hid hB5
            clear h5 hB5
            obtain ⟨o0, o1, o2⟩ := hO.cells
            obtain ⟨f0, f1, f2⟩ := hO.free
            obtain ⟨va, vc, rfl, hvc, hvm, _⟩ := own_val hO.rowH
            obtain ⟨b0, b1, b2⟩ := three_cells ((HBW.out.block _ hsz4).trans HG4.out)
            have hcx := HCH.out _ HBW.out
            have hO4 := hO.drew.alloc (.cells #[.string p.2] 9)
            have ha1 := (hO.alloc (.cells #[.string p.2] 9)).cells.2.2
            have HO := Lib.hid hO
            have HM := Lib.hid hO4
            unfold maxLen at hvm
            clear hO hO4
            go_wp2_with fail
            go_region_law (refine step_append_src rfl (.tmp 77) (.tmp 83) 39 39 rfl (W4.heap.size + 1) 9 i0 _ 1 16 Try.underlying39 hiz hz0 hz1 hz2 rfl (by decide) _ _ _ (by simp [Act.eval, Act.put]) HM.out.rowH _ 1 [.string p.2] (by simp [Act.eval, Act.put]) (src_one _ wrx.heap.size p.2 (heap_alloc_new wrx.drew _)) (by unfold maxLen; simp only [namesOf_len, heldOf_len, List.length_append, List.length_singleton]; omega) (by simp only [namesOf_len, heldOf_len, List.length_append, List.length_singleton]; omega) (by have := HM.out.le; simp at this ⊢; omega) ?_; intro v5 W5 ho5 hch5 hnew5; obtain ⟨a5, c5, rfl, _⟩ := own_val ho5; obtain ⟨g0, g1, g2, g3⟩ := HM.out.stillH hch5)
            all_goals
              obtain ⟨h5, hc5⟩ := HM.out.putH ho5 hch5 hnew5
              have hB5 := HBW.out.trans ((((Chg.refl (fun i => i = W4.heap.size ∨ W4.heap.size + 1 ≤ i) wrx).drew.alloc (.cells #[.string p.2] 9)).trans hc5 (fun _ x _ => x)).below HBW.out.size (fun i hi => by omega))
              obtain ⟨wry, hW6⟩ : ∃ wry, wry = W5.setCell ⟨W4.heap.size, 2, none⟩ (.slice a5 ((heldOf C).length + 1) c5) := ⟨_, rfl⟩
              rw [← hW6] at h5 hB5 ⊢
              clear hW6 hc5 HM hch5 ho5 hnew5 g0 g1 g2 g3 o0 o1 o2 f0 f1 f2 HO HBW hvc hvm b0 b1 b2 hcx ha1
              have hO := h5
              have HBW := Lib.hid hB5
              clear h5 hB5
              go_wp2_with fail
              go_roundw
              case rel => exact ⟨n + 1, true, _, _, by omega, by go_num, rfl, HSF.out.2, HBW.out, by rw [HSF.out.1, namesOf_snoc, heldOf_snoc]; exact hO⟩
              case measure => simp [intOf]; omega
        | false =>
          rcases less_facts hpk with ⟨hless, hnl⟩ | ⟨hless, hnl⟩
          · have HSF := Lib.hid (soFar_step (x := (k, v)) hp hps (.inr hnl))
            rw [← hC] at hO HSF
            clear hC hps hB
            go_wp2_with fail
            clear b0 b1 b2 hcx
            obtain ⟨o0, o1, o2⟩ := hO.cells
            obtain ⟨f0, f1, f2⟩ := hO.free
            obtain ⟨va, vc, rfl, hvc, hvm, _⟩ := own_val hO.rowN
            obtain ⟨b0, b1, b2⟩ := three_cells ((HBW.out.block _ hsz4).trans HG4.out)
            have hcx := HCN.out _ HBW.out
            have hO4 := hO.drew.alloc (.cells #[.string p.1] 9)
            have ha1 := (hO.alloc (.cells #[.string p.1] 9)).cells.2.1
            have HO := Lib.hid hO
            have HM := Lib.hid hO4
            unfold maxLen at hvm
            clear hO hO4
            go_wp2_with fail
            go_region_law (refine step_append_src rfl (.tmp 67) (.tmp 73) 39 39 rfl (W4.heap.size + 1) 9 i0 _ 1 16 Try.underlying39 hiz hz0 hz1 hz2 rfl (by decide) _ _ _ (by simp [Act.eval, Act.put]) HM.out.rowN _ 1 [.string p.1] (by simp [Act.eval, Act.put]) (src_one _ wr.heap.size p.1 (heap_alloc_new wr.drew _)) (by unfold maxLen; simp only [namesOf_len, heldOf_len, List.length_append, List.length_singleton]; omega) (by simp only [namesOf_len, heldOf_len, List.length_append, List.length_singleton]; omega) (by have := HM.out.le; simp at this ⊢; omega) ?_; intro v5 W5 ho5 hch5 hnew5; obtain ⟨a5, c5, rfl, _⟩ := own_val ho5; obtain ⟨g0, g1, g2, g3⟩ := HM.out.stillN hch5)
            all_goals
              obtain ⟨h5, hc5⟩ := HM.out.putN ho5 hch5 hnew5
              have hB5 := HBW.out.trans ((((Chg.refl (fun i => i = W4.heap.size ∨ W4.heap.size + 1 ≤ i) wr).drew.alloc (.cells #[.string p.1] 9)).trans hc5 (fun _ x _ => x)).below HBW.out.size (fun i hi => by omega))
              obtain ⟨wrx, hW6⟩ : ∃ wrx, wrx = W5.setCell ⟨W4.heap.size, 1, none⟩ (.slice a5 ((namesOf C).length + 1) c5) := ⟨_, rfl⟩
              rw [← hW6] at h5 hB5 ⊢
              clear hW6 hc5 HM hch5 ho5 hnew5 g0 g1 g2 g3 o0 o1 o2 f0 f1 f2 HO HBW hvc hvm b0 b1 b2 hcx ha1
              have hO := h5
              have HBW := Lib.hid hB5
              clear h5 hB5
              obtain ⟨o0, o1, o2⟩ := hO.cells
              obtain ⟨f0, f1, f2⟩ := hO.free
              obtain ⟨va, vc, rfl, hvc, hvm, _⟩ := own_val hO.rowH
              obtain ⟨b0, b1, b2⟩ := three_cells ((HBW.out.block _ hsz4).trans HG4.out)
              have hcx := HCH.out _ HBW.out
              have hO4 := hO.drew.alloc (.cells #[.string p.2] 9)
              have ha1 := (hO.alloc (.cells #[.string p.2] 9)).cells.2.2
              have HO := Lib.hid hO
              have HM := Lib.hid hO4
              unfold maxLen at hvm
              clear hO hO4
              go_wp2_with fail
              go_region_law (refine step_append_src rfl (.tmp 77) (.tmp 83) 39 39 rfl (W4.heap.size + 1) 9 i0 _ 1 16 Try.underlying39 hiz hz0 hz1 hz2 rfl (by decide) _ _ _ (by simp [Act.eval, Act.put]) HM.out.rowH _ 1 [.string p.2] (by simp [Act.eval, Act.put]) (src_one _ wrx.heap.size p.2 (heap_alloc_new wrx.drew _)) (by unfold maxLen; simp only [namesOf_len, heldOf_len, List.length_append, List.length_singleton]; omega) (by simp only [namesOf_len, heldOf_len, List.length_append, List.length_singleton]; omega) (by have := HM.out.le; simp at this ⊢; omega) ?_; intro v5 W5 ho5 hch5 hnew5; obtain ⟨a5, c5, rfl, _⟩ := own_val ho5; obtain ⟨g0, g1, g2, g3⟩ := HM.out.stillH hch5)
              all_goals
                obtain ⟨h5, hc5⟩ := HM.out.putH ho5 hch5 hnew5
                have hB5 := HBW.out.trans ((((Chg.refl (fun i => i = W4.heap.size ∨ W4.heap.size + 1 ≤ i) wrx).drew.alloc (.cells #[.string p.2] 9)).trans hc5 (fun _ x _ => x)).below HBW.out.size (fun i hi => by omega))
                obtain ⟨wry, hW6⟩ : ∃ wry, wry = W5.setCell ⟨W4.heap.size, 2, none⟩ (.slice a5 ((heldOf C).length + 1) c5) := ⟨_, rfl⟩
                rw [← hW6] at h5 hB5 ⊢
                clear hW6 hc5 HM hch5 ho5 hnew5 g0 g1 g2 g3 o0 o1 o2 f0 f1 f2 HO HBW hvc hvm b0 b1 b2 hcx ha1
                have hO := h5
                have HBW := Lib.hid hB5
                clear h5 hB5
                go_wp2_with fail
                go_roundw
                case rel => exact ⟨n + 1, false, _, _, by omega, by go_num, rfl, HSF.out.2, HBW.out, by rw [HSF.out.1, namesOf_snoc, heldOf_snoc]; exact hO⟩
                case measure => simp [intOf]; omega
          · have HSF := Lib.hid (soFar_here (x := (k, v)) hp hps hnl)
            rw [← hC] at hO HSF
            rw [show C ++ [(k, v), p] = (C ++ [(k, v)]) ++ [p] by simp] at HSF
            clear hC hps hB
            obtain ⟨o0, o1, o2⟩ := hO.cells
            obtain ⟨f0, f1, f2⟩ := hO.free
            obtain ⟨va, vc, rfl, hvc, hvm, _⟩ := own_val hO.rowN
            obtain ⟨vh, vhc, rfl, hvhc, hvhm, _⟩ := own_val hO.rowH
            have hO4 := hO.alloc (.cells #[.string k] 9)
            have HO := Lib.hid hO
            have HM := Lib.hid hO4
            unfold maxLen at hvm hvhm
            clear hO hO4
            go_wp2_with (first
              | (at_builtin; refine wpList_append_src rfl (.tmp 55) (.tmp 57) 39 39 rfl (W4.heap.size + 1) 9 i0 _ 1 16 Try.underlying39 hiz hz0 hz1 hz2 rfl (by decide) _ _ _ rfl HM.out.rowN _ 1 [.string k] rfl (src_one _ _ k (heap_alloc_new _ _)) (by unfold maxLen; simp only [namesOf_len, heldOf_len, List.length_append, List.length_singleton]; omega) (by simp only [namesOf_len, heldOf_len, List.length_append, List.length_singleton]; omega) HM.out.le ?_; intro v5 W5 ho5 hch5 hnew5; obtain ⟨a5, c5, rfl, _⟩ := own_val ho5; obtain ⟨g0, g1, g2, g3⟩ := HM.out.stillN hch5; obtain ⟨h5, hc5⟩ := HM.out.putN ho5 hch5 hnew5; obtain ⟨q0, q1, q2⟩ := h5.cells; have HC5 := Lib.hid hc5; have HM2 := Lib.hid (h5.alloc (.cells #[.string v] 9)); have q5 := (h5.alloc (.cells #[.string v] 9)).cells.2.2; clear h5 hc5 hch5 ho5 hnew5)
              | (at_builtin; refine wpList_append_src rfl (.tmp 61) (.tmp 63) 39 39 rfl (W4.heap.size + 1) 9 i0 _ 1 16 Try.underlying39 hiz hz0 hz1 hz2 rfl (by decide) _ _ _ rfl HM2.out.rowH _ 1 [.string v] rfl (src_one _ _ v (alloc_set _ _ _ _)) (by unfold maxLen; simp only [namesOf_len, heldOf_len, List.length_append, List.length_singleton]; omega) (by simp only [namesOf_len, heldOf_len, List.length_append, List.length_singleton]; omega) HM2.out.le ?_; intro v6 W6 ho6 hch6 hnew6; obtain ⟨a6, c6, rfl, _⟩ := own_val ho6; obtain ⟨j0, j1, j2, j3⟩ := HM2.out.stillH hch6))
            obtain ⟨h6, hc6⟩ := HM2.out.putH ho6 hch6 hnew6
            have hB5 := HBW.out.trans ((((Chg.refl (fun i => i = W4.heap.size ∨ W4.heap.size + 1 ≤ i) wr).alloc (.cells #[.string k] 9)).trans HC5.out (fun _ x _ => x)).below HBW.out.size (fun i hi => by omega))
            have hB6 := hB5.trans ((((Chg.refl (fun i => i = W4.heap.size ∨ W4.heap.size + 1 ≤ i) _).alloc (.cells #[.string v] 9)).trans hc6 (fun _ x _ => x)).below hB5.size (fun i hi => by omega))
            obtain ⟨wb, hW6⟩ : ∃ wb, wb = W6.setCell ⟨W4.heap.size, 2, none⟩ (.slice a6 ((heldOf C).length + 1) c6) := ⟨_, rfl⟩
            rw [← hW6] at h6 hB6 ⊢
            clear hW6 hc6 HM HM2 hch6 ho6 hnew6 g0 g1 g2 g3 j0 j1 j2 j3 q0 q1 q2 q5 o0 o1 o2 f0 f1 f2 HO HBW hvc hvm hvhc hvhm HC5 hB5
            obtain ⟨xq, hxq⟩ : ∃ x, x = Value.slice a5 ((namesOf C).length + 1) c5 := ⟨_, rfl⟩
            obtain ⟨yq, hyq⟩ : ∃ x, x = Value.slice a6 ((heldOf C).length + 1) c6 := ⟨_, rfl⟩
            rw [← hxq, ← hyq] at h6
            have hO := h6
            have HBW := Lib.hid hB6
            clear h6 hB6 hxq hyq
            rw [← namesOf_snoc C (k, v), ← heldOf_snoc C (k, v)] at hO
            clear b0 b1 b2 hcx
            have hCl' : (C ++ [(k, v)]).length ≤ 1000002 := by simp; omega
            obtain ⟨o0, o1, o2⟩ := hO.cells
            obtain ⟨f0, f1, f2⟩ := hO.free
            obtain ⟨va, vc, rfl, hvc, hvm, _⟩ := own_val hO.rowN
            obtain ⟨b0, b1, b2⟩ := three_cells ((HBW.out.block _ hsz4).trans HG4.out)
            have hcx := HCN.out _ HBW.out
            have hO4 := hO.drew.alloc (.cells #[.string p.1] 9)
            have ha1 := (hO.alloc (.cells #[.string p.1] 9)).cells.2.1
            have HO := Lib.hid hO
            have HM := Lib.hid hO4
            unfold maxLen at hvm
            clear hO hO4
            go_wp2_with fail
            go_region_law (refine step_append_src rfl (.tmp 67) (.tmp 73) 39 39 rfl (W4.heap.size + 1) 9 i0 _ 1 16 Try.underlying39 hiz hz0 hz1 hz2 rfl (by decide) _ _ _ (by simp [Act.eval, Act.put]) HM.out.rowN _ 1 [.string p.1] (by simp [Act.eval, Act.put]) (src_one _ wb.heap.size p.1 (heap_alloc_new wb.drew _)) (by unfold maxLen; simp only [namesOf_len, heldOf_len, List.length_append, List.length_singleton]; omega) (by simp only [namesOf_len, heldOf_len, List.length_append, List.length_singleton]; omega) (by have := HM.out.le; simp at this ⊢; omega) ?_; intro v5 W5 ho5 hch5 hnew5; obtain ⟨a5, c5, rfl, _⟩ := own_val ho5; obtain ⟨g0, g1, g2, g3⟩ := HM.out.stillN hch5)
            all_goals
              obtain ⟨h5, hc5⟩ := HM.out.putN ho5 hch5 hnew5
              have hB5 := HBW.out.trans ((((Chg.refl (fun i => i = W4.heap.size ∨ W4.heap.size + 1 ≤ i) wb).drew.alloc (.cells #[.string p.1] 9)).trans hc5 (fun _ x _ => x)).below HBW.out.size (fun i hi => by omega))
              obtain ⟨wbx, hW6⟩ : ∃ wbx, wbx = W5.setCell ⟨W4.heap.size, 1, none⟩ (.slice a5 ((namesOf (C ++ [(k, v)])).length + 1) c5) := ⟨_, rfl⟩
              rw [← hW6] at h5 hB5 ⊢
              clear hW6 hc5 HM hch5 ho5 hnew5 g0 g1 g2 g3 o0 o1 o2 f0 f1 f2 HO HBW hvc hvm b0 b1 b2 hcx ha1
              have hO := h5
              have HBW := Lib.hid hB5
              clear h5 hB5
              obtain ⟨o0, o1, o2⟩ := hO.cells
              obtain ⟨f0, f1, f2⟩ := hO.free
              obtain ⟨va, vc, rfl, hvc, hvm, _⟩ := own_val hO.rowH
              obtain ⟨b0, b1, b2⟩ := three_cells ((HBW.out.block _ hsz4).trans HG4.out)
              have hcx := HCH.out _ HBW.out
              have hO4 := hO.drew.alloc (.cells #[.string p.2] 9)
              have ha1 := (hO.alloc (.cells #[.string p.2] 9)).cells.2.2
              have HO := Lib.hid hO
              have HM := Lib.hid hO4
              unfold maxLen at hvm
              clear hO hO4
              go_wp2_with fail
              go_region_law (refine step_append_src rfl (.tmp 77) (.tmp 83) 39 39 rfl (W4.heap.size + 1) 9 i0 _ 1 16 Try.underlying39 hiz hz0 hz1 hz2 rfl (by decide) _ _ _ (by simp [Act.eval, Act.put]) HM.out.rowH _ 1 [.string p.2] (by simp [Act.eval, Act.put]) (src_one _ wbx.heap.size p.2 (heap_alloc_new wbx.drew _)) (by unfold maxLen; simp only [namesOf_len, heldOf_len, List.length_append, List.length_singleton]; omega) (by simp only [namesOf_len, heldOf_len, List.length_append, List.length_singleton]; omega) (by have := HM.out.le; simp at this ⊢; omega) ?_; intro v5 W5 ho5 hch5 hnew5; obtain ⟨a5, c5, rfl, _⟩ := own_val ho5; obtain ⟨g0, g1, g2, g3⟩ := HM.out.stillH hch5)
              all_goals
                obtain ⟨h5, hc5⟩ := HM.out.putH ho5 hch5 hnew5
                have hB5 := HBW.out.trans ((((Chg.refl (fun i => i = W4.heap.size ∨ W4.heap.size + 1 ≤ i) wbx).drew.alloc (.cells #[.string p.2] 9)).trans hc5 (fun _ x _ => x)).below HBW.out.size (fun i hi => by omega))
                obtain ⟨wby, hW6⟩ : ∃ wby, wby = W5.setCell ⟨W4.heap.size, 2, none⟩ (.slice a5 ((heldOf (C ++ [(k, v)])).length + 1) c5) := ⟨_, rfl⟩
                rw [← hW6] at h5 hB5 ⊢
                clear hW6 hc5 HM hch5 ho5 hnew5 g0 g1 g2 g3 o0 o1 o2 f0 f1 f2 HO HBW hvc hvm b0 b1 b2 hcx ha1
                have hO := h5
                have HBW := Lib.hid hB5
                clear h5 hB5
                go_wp2_with fail
                go_roundw
                case rel => exact ⟨n + 1, true, _, _, by omega, by go_num, rfl, HSF.out.2, HBW.out, by rw [HSF.out.1, namesOf_snoc, heldOf_snoc]; exact hO⟩
                case measure => simp [intOf]; omega
      · obtain rfl : n = M.length := by omega
        rw [List.take_length] at hps hC hO
        have hse := soFar_end put hps
        rw [← hC] at hO hse
        have hHE := Lib.hid hse
        clear hps hse hC hB
        have hresW := (HBW.out.block _ hres4l).trans HRES.out
        have hxW := HX4.out.trans (HBW.out.mono HX4.out.size)
        obtain ⟨b0, b1, b2⟩ := three_cells ((HBW.out.block _ hsz4).trans HG4.out)
        obtain ⟨va, vc, rfl, hvc, hvm, _⟩ := own_val hO.rowN
        obtain ⟨vh, vhc, rfl, hvhc, hvhm, _⟩ := own_val hO.rowH
        obtain ⟨o0, o1, o2⟩ := hO.cells
        cases put with
        | true =>
          obtain ⟨r0, r1, r2⟩ := three_cells hresW
          obtain ⟨f0, f1, f2⟩ := three_free hresW
          obtain ⟨hr9, hC9⟩ := res_stored (.int .i64 size) (.slice va (namesOf C).length vc) (.slice vh (heldOf C).length vhc) hresW
          obtain ⟨s0, s1, s2⟩ := three_cells hr9
          have HO := Lib.hid (hO.keep hC9 (by omega) (fun g hg _ => by omega))
          have HX := Lib.hid (hxW.trans (hC9.below hxW.size (fun i hi => by omega)))
          clear hr9 hC9 hO hxW hresW
          go_wp2_with fail
          exact bodyPost_ret (v := .tuple #[.agg #[.int .i64 size, .slice va (namesOf C).length vc, .slice vh (heldOf C).length vhc], .int .i64 0]) (by simp [results, Try.results27, go_sem, s0, s1, s2]) rfl
            ⟨_, _, by rw [HE1.out], by rw [HS1.out, ← hHE.out]; exact ⟨own_strs HO.out.rowN, own_strs HO.out.rowH⟩, HX.out⟩
        | false =>
          obtain ⟨f0, f1, f2⟩ := hO.free
          have hO4 := hO.alloc (.cells #[.string k] 9)
          have HM := Lib.hid hO4
          have HRW := Lib.hid hresW
          have HXW := Lib.hid hxW
          unfold maxLen at hvm hvhm
          clear hO hO4 hresW hxW
          go_wp2_with (first
            | (at_builtin; refine wpList_append_src rfl (.tmp 89) (.tmp 91) 39 39 rfl (W4.heap.size + 1) 9 i0 _ 1 16 Try.underlying39 hiz hz0 hz1 hz2 rfl (by decide) _ _ _ rfl HM.out.rowN _ 1 [.string k] rfl (src_one _ _ k (heap_alloc_new _ _)) (by unfold maxLen; simp only [namesOf_len, heldOf_len, List.length_append, List.length_singleton]; omega) (by simp only [namesOf_len, heldOf_len, List.length_append, List.length_singleton]; omega) HM.out.le ?_; intro v5 W5 ho5 hch5 hnew5; obtain ⟨a5, c5, rfl, _⟩ := own_val ho5; obtain ⟨g0, g1, g2, g3⟩ := HM.out.stillN hch5; obtain ⟨h5, hc5⟩ := HM.out.putN ho5 hch5 hnew5; obtain ⟨q0, q1, q2⟩ := h5.cells; have HC5 := Lib.hid hc5; have HM2 := Lib.hid (h5.alloc (.cells #[.string v] 9)); have q5 := (h5.alloc (.cells #[.string v] 9)).cells.2.2; clear h5 hc5 hch5 ho5 hnew5)
            | (at_builtin; refine wpList_append_src rfl (.tmp 95) (.tmp 97) 39 39 rfl (W4.heap.size + 1) 9 i0 _ 1 16 Try.underlying39 hiz hz0 hz1 hz2 rfl (by decide) _ _ _ rfl HM2.out.rowH _ 1 [.string v] rfl (src_one _ _ v (alloc_set _ _ _ _)) (by unfold maxLen; simp only [namesOf_len, heldOf_len, List.length_append, List.length_singleton]; omega) (by simp only [namesOf_len, heldOf_len, List.length_append, List.length_singleton]; omega) HM2.out.le ?_; intro v6 W6 ho6 hch6 hnew6; obtain ⟨a6, c6, rfl, _⟩ := own_val ho6; obtain ⟨j0, j1, j2, j3⟩ := HM2.out.stillH hch6; obtain ⟨h6, hc6⟩ := HM2.out.putH ho6 hch6 hnew6; obtain ⟨z0, z1, z2⟩ := h6.cells; have hB5 := (((Chg.refl (fun i => i = W4.heap.size ∨ W4.heap.size + 1 ≤ i) wr).alloc (.cells #[.string k] 9)).trans HC5.out (fun _ x _ => x)); have hB6 := hB5.trans (((Chg.refl (fun i => i = W4.heap.size ∨ W4.heap.size + 1 ≤ i) _).alloc (.cells #[.string v] 9)).trans hc6 (fun _ x _ => x)) (fun _ x _ => x); have hres6 := (hB6.block _ (Array.getElem?_eq_some_iff.1 HRW.out).1 (by omega)).trans HRW.out; obtain ⟨r0, r1, r2⟩ := three_cells hres6; obtain ⟨y0, y1, y2⟩ := three_free hres6; obtain ⟨hr9, hC9⟩ := res_stored (.int .i64 size) (.slice a5 ((namesOf C).length + 1) c5) (.slice a6 ((heldOf C).length + 1) c6) hres6; obtain ⟨s0, s1, s2⟩ := three_cells hr9; have HO6 := Lib.hid (h6.keep hC9 (by omega) (fun g hg _ => by omega)); have hX6 := HXW.out.trans (hB6.below HXW.out.size (fun i hi => by omega)); have HX6 := Lib.hid (hX6.trans (hC9.below hX6.size (fun i hi => by omega))); clear h6 hc6 ho6 hch6 hnew6 hB5 hB6 hres6 hr9 hC9 hX6))
          exact bodyPost_ret (v := .tuple #[.agg #[.int .i64 size, .slice a5 ((namesOf C).length + 1) c5, .slice a6 ((heldOf C).length + 1) c6], .int .i64 0]) (by simp [results, Try.results27, go_sem, s0, s1, s2]) rfl
            ⟨_, _, by rw [HE1.out], by rw [HS1.out, ← hHE.out]; simp only [Bool.false_eq_true, if_false]; unfold RefAt; rw [namesOf_snoc, heldOf_snoc]; exact ⟨own_strs' (by simp) HO6.out.rowN, own_strs' (by simp) HO6.out.rowH⟩, HX6.out⟩
end Go.Proofs.Ytclibfiaihhbaaa
