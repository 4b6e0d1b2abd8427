/- JobPlays: the row and what it needs, part 3. -/
import Derived.Test.YtejbpnhondpnfaaGreatJP2
import Derived.IntWalk
import Derived.Shelf.Abstract
import Derived.Shelf.GgClosure.StringsIndexFunc
import Derived.Laws.RangeAny
import Derived.Great.Ranges
import Derived.Deep.RegionLaw
import Derived.Test.YtejbpnhondpnfaaGreatProg
import Derived.Below
import Derived.Deep.Draws
import Derived.Deep.AppendLies
import Derived.Maps.AppendAt
import Derived.OwnWalk
import Derived.Laws.BytesArg
import Derived.Laws.MakeOwn
import Derived.Laws.OwnMore
import Derived.Deep.OwnRows
import Derived.Tactics
import Derived.Lib.ConvBytes
import Derived.Laws.Slices
import Derived.WalkKit
import Derived.KernelRfl
import Derived.RowKit3
import Derived.Deep.LoopGhost
import Derived.Deep.QuietTactic
import Derived.BigQuiet
import Derived.WideLaws
import Derived.Deep.DeepCutAuto
import Derived.Deep.CutBlock
import Derived.Deep.RegionHeld3
import Derived.Laws.Rows
import Derived.Lib.AppendStr
import Derived.ArgAppend
import Derived.Laws.IdiomCopy
import Derived.OrdersHeld
import Derived.Laws.BitsLemmas
import Derived.RowKit
import Derived.Test.YtejbpnhondpnfaaGreatJP1
import Derived.Lib.LazyBuf
import Derived.Laws.CopyOwn
import Derived.BigRegion
import Derived.Orders
set_option linter.unusedSimpArgs false
set_option linter.unusedVariables false
namespace Go.Proofs.YtejbpnhondpnfaaGreat
set_option maxRecDepth 100000
open Go.RowKit
theorem set_five {w : World} {g : Nat} {t : TypeId} {v0 v1 v2 v3 v4 : Value} (u0 u1 u2 u3 u4 : Value) (h : w.heap[g]? = some (.cells #[v0, v1, v2, v3, v4] t (0, 0))) :
  (((((w.setCell ⟨g, 0, none⟩ u0).setCell ⟨g, 1, none⟩ u1).setCell ⟨g, 2, none⟩ u2).setCell ⟨g, 3, none⟩ u3).setCell ⟨g, 4, none⟩ u4).heap[g]? = some (.cells #[u0, u1, u2, u3, u4] t (0, 0)) :=
 heap_setCell_same _ g 4 #[u0, u1, u2, u3, v4] t u4 (heap_setCell_same _ g 3 #[u0, u1, u2, v3, v4] t u3 (heap_setCell_same _ g 2 #[u0, u1, v2, v3, v4] t u2 (heap_setCell_same _ g 1 #[u0, v1, v2, v3, v4] t u1 (heap_setCell_same w g 0 #[v0, v1, v2, v3, v4] t u0 h))))
theorem below_five {w0 w : World} {g B : Nat} (u0 u1 u2 u3 u4 : Value) (h : Below B w0 w) (hg : B ≤ g) :
  Below B w0 (((((w.setCell ⟨g, 0, none⟩ u0).setCell ⟨g, 1, none⟩ u1).setCell ⟨g, 2, none⟩ u2).setCell ⟨g, 3, none⟩ u3).setCell ⟨g, 4, none⟩ u4) :=
 ((((h.setCell (p := ⟨g, 0, none⟩) hg _).setCell (p := ⟨g, 1, none⟩) hg _).setCell (p := ⟨g, 2, none⟩) hg _).setCell (p := ⟨g, 3, none⟩) hg _).setCell (p := ⟨g, 4, none⟩) hg _
def zeroV : Val := ⟨0, 0, ⟨#[]⟩, 0, 0⟩
def numV (n : Int) : Val := ⟨0, n, ⟨#[]⟩, 0, 0⟩
def pntV (p : Pt) : Val := ⟨2, 0, ⟨#[]⟩, p.x, p.y⟩
def sumB' : ByteArray := ⟨#[115, 117, 109]⟩
def gcdB : ByteArray := ⟨#[103, 99, 100]⟩
theorem qao {W : World} {g o : Nat} {cs : Array Value} {t : TypeId} (h : W.heap[g]? = some (.cells cs t (0, 0))) : W.frozen? ⟨g, o, none⟩ = false := by simp [World.frozen?, h]
theorem num_sum (a b : Int) (ha : -9007199254740992 ≤ a ∧ a ≤ 9007199254740992) (hb : -9007199254740992 ≤ b ∧ b ≤ 9007199254740992) (w : World) :
  Calls Tryz.prog 47 #[.string sumB', .int .i64 a, .int .i64 b] w fun e w' => e = .returned (valV (numV (wrapZ 9007199254740992 (a + b)))) ∧ Below w.heap.size w w' := by
 have hw : IntKind.i64.wrap (a + b) = a + b := by rw [IntKind.wrap_i64]; omega
 have hc := Lib.hid (wrapped_any (a + b) 9007199254740992 (by decide) (by decide) (by omega) (by omega))
 obtain ⟨r, hr⟩ : ∃ r, r = wrapZ 9007199254740992 (a + b) := ⟨_, rfl⟩
 rw [← hr] at hc ⊢
 obtain ⟨W1, hW1⟩ : ∃ W1, W1 = w.alloc (valB zeroV) := ⟨_, rfl⟩
 have hB : Below w.heap.size w W1 := by rw [hW1]; exact (Below.refl _ w).alloc (Nat.le_refl _) _
 have hg : W1.heap[w.heap.size]? = some (valB zeroV) := by rw [hW1]; exact heap_alloc_new w _
 unfold valB zeroV at hg
 have HG0 := Lib.hid hg
 have HB0 := Lib.hid hB
 unfold valB zeroV at hW1
 unfold valV numV sumB'
 clear hr hg hB
 go_enter Tryz.func47, Tryz.ntmps47
 go_wp2_with (first | (rw [← hW1]; clear hW1))
 refine (hc.out _).mono ?_
 rintro e w2 ⟨rfl, rfl⟩
 have hg := HG0.out
 have hB := HB0.out
 obtain ⟨k0, k1, k2, k3, k4⟩ := qam hg
 have f0 := qao (o := 0) hg
 have f1 := qao (o := 1) hg
 have f2 := qao (o := 2) hg
 have f3 := qao (o := 3) hg
 have f4 := qao (o := 4) hg
 have HG := Lib.hid hg
 have HB := Lib.hid hB
 clear hg hB
 go_wp2_with fail
 have h5 := set_five (.int .i64 0) (.int .i64 r) (.string ⟨#[]⟩) (.int .i64 0) (.int .i64 0) HG.out
 exact bodyPost_ret (results_cell_row rfl _ _ w.heap.size 45 #[.int .i64 0, .int .i64 r, .string ⟨#[]⟩, .int .i64 0, .int .i64 0] (0, 0) _ rfl h5 Tryz.underlying45 rfl (by kernel_rfl)) rfl ⟨rfl, below_five _ _ _ _ _ HB.out (Nat.le_refl _)⟩
theorem num_gcd (a b : Int) (ha : -9007199254740992 ≤ a ∧ a ≤ 9007199254740992) (hb : -9007199254740992 ≤ b ∧ b ≤ 9007199254740992) (w : World) :
  Calls Tryz.prog 47 #[.string gcdB, .int .i64 a, .int .i64 b] w fun e w' => e = .returned (valV (numV (((Int.gcd a b : Nat) : Int)))) ∧ Below w.heap.size w w' := by
 have hc := Lib.hid (jcommon_any a b ha hb)
 obtain ⟨r, hr⟩ : ∃ r, r = ((Int.gcd a b : Nat) : Int) := ⟨_, rfl⟩
 rw [← hr] at hc ⊢
 obtain ⟨W1, hW1⟩ : ∃ W1, W1 = w.alloc (valB zeroV) := ⟨_, rfl⟩
 have hB : Below w.heap.size w W1 := by rw [hW1]; exact (Below.refl _ w).alloc (Nat.le_refl _) _
 have hg : W1.heap[w.heap.size]? = some (valB zeroV) := by rw [hW1]; exact heap_alloc_new w _
 unfold valB zeroV at hg
 have HG0 := Lib.hid hg
 have HB0 := Lib.hid hB
 unfold valB zeroV at hW1
 unfold valV numV gcdB
 clear hr hg hB
 go_enter Tryz.func47, Tryz.ntmps47
 go_wp2_with (first | (rw [← hW1]; clear hW1))
 refine (hc.out _).mono ?_
 rintro e w2 ⟨rfl, hb2⟩
 have hg := (hb2.block _ (Array.getElem?_eq_some_iff.1 HG0.out).1).trans HG0.out
 have hB := HB0.out.trans (hb2.mono HB0.out.size)
 obtain ⟨k0, k1, k2, k3, k4⟩ := qam hg
 have f0 := qao (o := 0) hg
 have f1 := qao (o := 1) hg
 have f2 := qao (o := 2) hg
 have f3 := qao (o := 3) hg
 have f4 := qao (o := 4) hg
 have HG := Lib.hid hg
 have HB := Lib.hid hB
 clear hg hB
 go_wp2_with fail
 have h5 := set_five (.int .i64 0) (.int .i64 r) (.string ⟨#[]⟩) (.int .i64 0) (.int .i64 0) HG.out
 exact bodyPost_ret (results_cell_row rfl _ _ w.heap.size 45 #[.int .i64 0, .int .i64 r, .string ⟨#[]⟩, .int .i64 0, .int .i64 0] (0, 0) _ rfl h5 Tryz.underlying45 rfl (by kernel_rfl)) rfl ⟨rfl, below_five _ _ _ _ _ HB.out (Nat.le_refl _)⟩
structure Nd where
 op : Int
 k : Int
 n : Int
 t : ByteArray
 x : Int
 y : Int
def ndV (z : Nd) : Value := .agg #[.int .i64 z.op, .int .i64 z.k, .int .i64 z.n, .string z.t, .int .i64 z.x, .int .i64 z.y]
structure NdAt (w : World) (b o : Nat) (z : Nd) : Prop where
 c0 : w.cell? ⟨b, o, none⟩ = some (.int .i64 z.op)
 c1 : w.cell? ⟨b, o + 1, none⟩ = some (.int .i64 z.k)
 c2 : w.cell? ⟨b, o + 2, none⟩ = some (.int .i64 z.n)
 c3 : w.cell? ⟨b, o + 3, none⟩ = some (.string z.t)
 c4 : w.cell? ⟨b, o + 4, none⟩ = some (.int .i64 z.x)
 c5 : w.cell? ⟨b, o + 5, none⟩ = some (.int .i64 z.y)
def NdsAt (w : World) (a : Option Addr) (l : List Nd) : Prop := ∀ (j : Nat) z, l[j]? = some z → ∃ b o, a = some ⟨b, o, none⟩ ∧ NdAt w b (o + j * 6) z
theorem NdAt.lt {w : World} {b o : Nat} {z : Nd} (h : NdAt w b o z) : b < w.heap.size := World.block_lt_of_cell? w ⟨b, o, none⟩ h.c0
theorem NdAt.below {w w' : World} {b o : Nat} {z : Nd} (h : NdAt w b o z) {B : Nat} (hb : Below B w w') (hB : w.heap.size ≤ B) : NdAt w' b o z := by
 have hlt := h.lt
 have e : ∀ i, w'.cell? ⟨b, i, none⟩ = w.cell? ⟨b, i, none⟩ := fun i => hb.cell (p := ⟨b, i, none⟩) (Nat.lt_of_lt_of_le hlt hB)
 exact ⟨(e _).trans h.c0, (e _).trans h.c1, (e _).trans h.c2, (e _).trans h.c3, (e _).trans h.c4, (e _).trans h.c5⟩
theorem NdsAt.below {w w' : World} {a : Option Addr} {l : List Nd} (h : NdsAt w a l) {B : Nat} (hb : Below B w w') (hB : w.heap.size ≤ B) : NdsAt w' a l := fun j z hz => by
 obtain ⟨b, o, e, hn⟩ := h j z hz
 exact ⟨b, o, e, hn.below hb hB⟩
theorem emit1_any (z : Nd) (w : World) : Calls Tryz.prog 72 #[ndV z] w fun e w' => e = .returned (.bool (decide (z.op = 26))) ∧ Below w.heap.size w w' := by
 obtain ⟨op, k, n, t, x, y⟩ := z
 obtain ⟨q, hq⟩ : ∃ q, q = decide (op = 26) := ⟨_, rfl⟩
 have hq2 : (op == 26) = q := by rw [hq]; rfl
 simp only [← hq]
 clear hq
 obtain ⟨W1, hW1⟩ : ∃ W1, W1 = w.alloc (.cells #[.int .i64 op, .int .i64 k, .int .i64 n, .string t, .int .i64 x, .int .i64 y] 114 (0, 0)) := ⟨_, rfl⟩
 have hb1 : Below w.heap.size w W1 := by rw [hW1]; exact (Below.refl _ w).alloc (Nat.le_refl _) _
 have hg : W1.heap[w.heap.size]? = some (.cells #[.int .i64 op, .int .i64 k, .int .i64 n, .string t, .int .i64 x, .int .i64 y] 114 (0, 0)) := by rw [hW1]; exact heap_alloc_new w _
 have c0 : W1.cell? ⟨w.heap.size, 0, none⟩ = some (.int .i64 op) := by simp [World.cell?, hg]
 clear hg
 unfold ndV
 go_enter Tryz.func72, Tryz.ntmps72
 go_wp2_with (first | (rw [← hW1]; clear hW1))
 go_ret
 exact ⟨rfl, hb1⟩
set_option maxHeartbeats 2000000 in
theorem idxNd_any (a : Option Addr) (c : Nat) (l : List Nd) (f : Nat) (p : Nd → Bool) (w : World) (eg : ∀ args w, (callFunc f args).run Tryz.prog w = .ok (.enter f args) w) (hL : NdsAt w a l) (hn : l.length ≤ 1000000)
  (ht : ∀ W, ∀ z, Calls Tryz.prog f (#[ndV z] ++ #[]) W fun e w' => e = .returned (.bool (p z)) ∧ Below W.heap.size W w') :
  Calls Tryz.prog 117 #[.slice a l.length c, .func (.func f) #[] #[]] w fun e w' => ∃ i : Int, e = .returned (.int .i64 i) ∧ decide (0 ≤ i) = l.any p ∧ Below w.heap.size w w' := by
 have HT := Lib.hid ht
 have HL := Lib.hid hL
 clear ht hL
 go_enter Tryz.func117, Tryz.ntmps117
 go_wp2
 go_loopw [8] (fun s wr => ∃ i : Nat, i ≤ l.length ∧ s = .int .i64 (i : Int) ∧ Hid ((l.take i).any p = false) ∧ Below w.heap.size w wr) (fun s _ => l.length - (intOf s).toNat)
 case atStart => exact ⟨0, by omega, rfl, Lib.hid rfl, Below.refl _ _⟩
 case round =>
  obtain ⟨i, hi, rfl, HP, hb⟩ := hrel
  by_cases hlt : i < l.length
  ·
   obtain ⟨z, hz⟩ : ∃ z, z = l[i] := ⟨_, rfl⟩
   have hz2 : l[i]? = some z := by rw [hz]; exact List.getElem?_eq_getElem hlt
   obtain ⟨b, o, rfl, hc⟩ := HL.out.below hb (Nat.le_refl _) i z hz2
   obtain ⟨k0, k1, k2, k3, k4, k5⟩ := hc
   have hsn : (l.take (i + 1)).any p = ((l.take i).any p || p z) := by
    rw [List.take_succ_eq_append_getElem hlt, List.any_append, ← hz]; simp
   have hall : p z = true → l.any p = true := fun h => List.any_eq_true.2 ⟨z, List.mem_of_getElem? hz2, h⟩
   have HSN := Lib.hid hsn
   have HALL := Lib.hid hall
   obtain ⟨pz, hpz⟩ : ∃ pz, pz = p z := ⟨_, rfl⟩
   have hcall := HT.out wr z
   rw [← hpz] at hcall
   have HPZ := Lib.hid hpz
   obtain ⟨op, k, n, t, x, y⟩ := z
   unfold ndV at hcall
   have hltz : (i : Int) < (l.length : Int) := by omega
   simp only at k0 k1 k2 k3 k4 k5
   clear hz hz2 hpz hsn hall
   cases pz with
   | true =>
    go_wp2_with (go_at_fn f; refine hcall.mono ?_; rintro e w' ⟨rfl, hb2⟩)
    go_ret
    exact ⟨_, rfl, by rw [HALL.out HPZ.out.symm]; simp, hb.trans (hb2.mono hb.size)⟩
   | false =>
    go_wp2_with (go_at_fn f; refine hcall.mono ?_; rintro e w' ⟨rfl, hb2⟩)
    go_roundw
    case rel => exact ⟨i + 1, by omega, by go_num, Lib.hid (by rw [HSN.out, HP.out, ← HPZ.out]; rfl), hb.trans (hb2.mono hb.size)⟩
    case measure => simp [intOf]; omega
  ·
   obtain rfl : i = l.length := by omega
   have hltz : ¬ (l.length : Int) < (l.length : Int) := by omega
   have HE : Hid (l.any p = false) := Lib.hid (by have := HP.out; rwa [List.take_length] at this)
   go_wp2
   go_ret
   exact ⟨_, rfl, by rw [HE.out]; rfl, hb⟩
set_option maxHeartbeats 2000000 in
theorem conNd_any (a : Option Addr) (c : Nat) (l : List Nd) (f : Nat) (p : Nd → Bool) (w : World) (eg : ∀ args w, (callFunc f args).run Tryz.prog w = .ok (.enter f args) w) (hL : NdsAt w a l) (hn : l.length ≤ 1000000)
  (ht : ∀ W, ∀ z, Calls Tryz.prog f (#[ndV z] ++ #[]) W fun e w' => e = .returned (.bool (p z)) ∧ Below W.heap.size W w') :
  Calls Tryz.prog 71 #[.slice a l.length c, .func (.func f) #[] #[]] w fun e w' => e = .returned (.bool (l.any p)) ∧ Below w.heap.size w w' := by
 have HT := Lib.hid (idxNd_any a c l f p w eg hL hn ht)
 clear ht hL
 go_enter Tryz.func71, Tryz.ntmps71
 go_wp2_with (go_at_call 117; refine HT.out.mono ?_; rintro e w5 ⟨i, rfl, hi, hb⟩; have HI := Lib.hid hi; clear hi)
 go_ret
 exact ⟨by rw [← HI.out]; rfl, hb⟩
set_option maxHeartbeats 2000000 in
theorem emits_any (a : Option Addr) (c : Nat) (l : List Nd) (w : World) (hL : NdsAt w a l) (hn : l.length ≤ 1000000) :
  Calls Tryz.prog 38 #[.slice a l.length c] w fun e w' => e = .returned (.bool (l.any fun z => decide (z.op = 26))) ∧ Below w.heap.size w w' := by
 have HT := Lib.hid (conNd_any a c l 72 (fun z => decide (z.op = 26)) w (fun args w => by go_simp) hL hn (fun W z => emit1_any z W))
 clear hL
 obtain ⟨r, hr⟩ : ∃ r, r = (l.any fun z => decide (z.op = 26)) := ⟨_, rfl⟩
 rw [← hr] at HT ⊢
 clear hr
 go_enter Tryz.func38, Tryz.ntmps38
 go_wp2_with (go_at_call 71; refine HT.out.mono ?_; rintro e w5 ⟨rfl, hb⟩)
 go_ret
 exact ⟨rfl, hb⟩
def hasN (l : List Nd) (i : Int) : Bool := l.any fun z => decide (z.op = 1) && decide (z.n = i)
def nameA (q : Int → Bool) : Array Value := #[.bool (q 0), .bool (q 1), .bool (q 2), .bool (q 3), .bool (q 4)]
structure NmW (w : World) (g h : Nat) (q : Int → Bool) (w' : World) : Prop where
 res : w'.heap[g]? = some (.cells (nameA fun _ => false) 72 (0, 0))
 out : w'.heap[h]? = some (.cells (nameA q) 72 (0, 0))
 bel : Below w.heap.size w w'
 ge : w.heap.size ≤ g
 gh : g < h
theorem nmW_cells {w w' : World} {g h : Nat} {q : Int → Bool} (H : NmW w g h q w') : (∀ i, i < 5 → w'.cell? ⟨h, i, none⟩ = some (.bool (q i)) ∧ w'.frozen? ⟨h, i, none⟩ = false) ∧ (∀ i, i < 5 → w'.cell? ⟨g, i, none⟩ = some (.bool false) ∧ w'.frozen? ⟨g, i, none⟩ = false) := by
 have h1 := H.out
 have h2 := H.res
 refine ⟨fun i hi => ?_, fun i hi => ?_⟩
 ·
  match i, hi with
  | 0, _ | 1, _ | 2, _ | 3, _ | 4, _ => simp [World.cell?, World.frozen?, h1, nameA]
 ·
  match i, hi with
  | 0, _ | 1, _ | 2, _ | 3, _ | 4, _ => simp [World.cell?, World.frozen?, h2, nameA]
theorem NmW.alloc {w w' : World} {g h : Nat} {q : Int → Bool} (H : NmW w g h q w') (o : Obj) : NmW w g h q (w'.alloc o) :=
 have e : ∀ k, (∃ x, w'.heap[k]? = some x) → (w'.alloc o).heap[k]? = w'.heap[k]? := fun k ⟨x, hx⟩ => Below.heap_alloc w' o k (Array.getElem?_eq_some_iff.1 hx).1
 ⟨(e g ⟨_, H.res⟩).trans H.res, (e h ⟨_, H.out⟩).trans H.out, H.bel.alloc H.bel.size o, H.ge, H.gh⟩
theorem NmW.set {w w' : World} {g h : Nat} {q : Int → Bool} (H : NmW w g h q w') {n : Nat} (hn : n < 5) : NmW w g h (fun i => if i = (n : Int) then true else q i) (w'.setCell ⟨h, n, none⟩ (.bool true)) := by
 have hgh := H.gh
 refine ⟨?_, ?_, H.bel.setCell (p := ⟨h, n, none⟩) (by have := H.ge; show w.heap.size ≤ h; omega) _, H.ge, H.gh⟩
 ·
  have := H.res
  simpa [World.setCell, Array.getElem?_modify, show h ≠ g by omega] using this
 ·
  have := H.out
  simp only [World.setCell, Array.getElem?_modify, this, if_true, Option.map_some]
  match n, hn with
  | 0, _ | 1, _ | 2, _ | 3, _ | 4, _ => simp [nameA]
theorem NmW.below {w w' w'' : World} {g h : Nat} {q : Int → Bool} (H : NmW w g h q w') (hb : Below w'.heap.size w' w'') : NmW w g h q w'' :=
 have e : ∀ k, (∃ x, w'.heap[k]? = some x) → w''.heap[k]? = w'.heap[k]? := fun k ⟨x, hx⟩ => hb.block k (Array.getElem?_eq_some_iff.1 hx).1
 ⟨(e g ⟨_, H.res⟩).trans H.res, (e h ⟨_, H.out⟩).trans H.out, H.bel.trans (hb.mono H.bel.size), H.ge, H.gh⟩
theorem NmW.ofq {w w' : World} {g h : Nat} {q q' : Int → Bool} (H : NmW w g h q w') (e : q = q') : NmW w g h q' w' := e ▸ H
def NamesIs (q : Int → Bool) (B : Nat) (w : World) (e : Ending) (w' : World) : Prop := e = .returned (.agg (nameA q)) ∧ Below B w w'
theorem names_w (w : World) : NmW w w.heap.size (w.heap.size + 1) (fun _ => false) ((w.alloc (.cells (nameA fun _ => false) 72 (0, 0))).alloc (.cells (nameA fun _ => false) 72 (0, 0))) := by
 refine ⟨?_, ?_, ((Below.refl _ w).alloc (Nat.le_refl _) _).alloc (by simp) _, Nat.le_refl _, by omega⟩
 ·
  rw [Below.heap_alloc _ _ _ (by simp)]; exact heap_alloc_new w _
 ·
  have := heap_alloc_new (w.alloc (.cells (nameA fun _ => false) 72 (0, 0))) (.cells (nameA fun _ => false) 72 (0, 0))
  simpa using this
def NdOk (z : Nd) : Prop := z.op = 1 → 0 ≤ z.n ∧ z.n < 5
set_option maxHeartbeats 8000000 in
theorem names_any (a : Option Addr) (c : Nat) (l : List Nd) (r : Bool) (w : World) (hL : NdsAt w a l) (hn : l.length ≤ 1000000) (hok : r = true → ∀ z ∈ l, NdOk z)
  (hr : ∀ W, Below w.heap.size w W → Calls Tryz.prog 34 #[.slice a l.length c] W fun e W' => e = .returned (.bool r) ∧ Below W.heap.size W W') :
  Calls Tryz.prog 37 #[.slice a l.length c] w (NamesIs (fun i => r && hasN l i) w.heap.size w) := by
 have HR := Lib.hid hr
 have HL := Lib.hid hL
 have HO := Lib.hid hok
 obtain ⟨W2, hW2⟩ : ∃ W2, W2 = ((w.alloc (.cells (nameA fun _ => false) 72 (0, 0))).alloc (.cells (nameA fun _ => false) 72 (0, 0))) := ⟨_, rfl⟩
 have N2 : NmW w w.heap.size (w.heap.size + 1) (fun _ => false) W2 := by rw [hW2]; exact names_w w
 have HN2 := Lib.hid N2
 have hR2 := Lib.hid (hr W2 N2.bel)
 clear hr hL hok N2
 unfold nameA at hW2
 go_enter Tryz.func37, Tryz.ntmps37
 cases r with
 | false =>
  go_wp2_with (first
   | (rw [← hW2]; clear hW2)
   | (go_at_call 34; refine hR2.out.mono ?_; rintro e w3 ⟨rfl, hb3⟩; have HN3 := HN2.out.below hb3; obtain ⟨hc, hd⟩ := nmW_cells HN3; obtain ⟨x0, y0⟩ := hc 0 (by omega); obtain ⟨x1, y1⟩ := hc 1 (by omega); obtain ⟨x2, y2⟩ := hc 2 (by omega); obtain ⟨x3, y3⟩ := hc 3 (by omega); obtain ⟨x4, y4⟩ := hc 4 (by omega); obtain ⟨z0, u0⟩ := hd 0 (by omega); obtain ⟨z1, u1⟩ := hd 1 (by omega); obtain ⟨z2, u2⟩ := hd 2 (by omega); obtain ⟨z3, u3⟩ := hd 3 (by omega); obtain ⟨z4, u4⟩ := hd 4 (by omega); have HH3 := Lib.hid HN3; clear hc hd HN3))
  exact bodyPost_ret (results_cell_row rfl _ _ w.heap.size 72 (nameA fun _ => false) (0, 0) _ rfl (set_five _ _ _ _ _ HH3.out.res) Tryz.underlying72 rfl (by kernel_rfl)) rfl ⟨by simp, below_five _ _ _ _ _ HH3.out.bel (Nat.le_refl _)⟩
 | true =>
  go_wp2_with (first
   | (rw [← hW2]; clear hW2)
   | (go_at_call 34; refine hR2.out.mono ?_; rintro e w3 ⟨rfl, hb3⟩; have HN3 := Lib.hid (HN2.out.below hb3); clear hb3))
  go_loopw [12] (fun s wr => ∃ i : Nat, s = .int .i64 (i : Int) ∧ i ≤ l.length ∧ NmW w w.heap.size (w.heap.size + 1) (fun v => hasN (l.take i) v) wr) (fun s _ => l.length - (intOf s).toNat)
  case atStart => exact ⟨0, rfl, by omega, HN3.out.ofq (by funext v; simp [hasN])⟩
  case round =>
   obtain ⟨i, rfl, hi, hN⟩ := hrel
   by_cases hlt : i < l.length
   ·
    obtain ⟨z, hz⟩ : ∃ z, z = l[i] := ⟨_, rfl⟩
    have hz2 : l[i]? = some z := by rw [hz]; exact List.getElem?_eq_getElem hlt
    obtain ⟨b, o, rfl, hc⟩ := HL.out.below hN.bel (Nat.le_refl _) i z hz2
    obtain ⟨k0, k1, k2, k3, k4, k5⟩ := hc
    have hnz := HO.out (by first | exact rfl | trivial) z (List.mem_of_getElem? hz2)
    unfold NdOk at hnz
    have hsn : ∀ v, hasN (l.take (i + 1)) v = (hasN (l.take i) v || (decide (z.op = 1) && decide (z.n = v))) := fun v => by
     unfold hasN
     rw [List.take_succ_eq_append_getElem hlt, List.any_append, ← hz]; simp
    have HSN := Lib.hid hsn
    obtain ⟨op, k, n, t, x, y⟩ := z
    simp only at k0 k1 k2 k3 k4 k5 hnz HSN
    have hltz : (i : Int) < (l.length : Int) := by omega
    have HNR := Lib.hid hN
    clear hz hz2 hsn hN
    by_cases ho : op = 1
    ·
     subst ho
     obtain ⟨hn0, hn5⟩ := hnz rfl
     obtain ⟨m, rfl⟩ := Int.eq_ofNat_of_zero_le hn0
     have hm5 : m < 5 := by omega
     have HNA := Lib.hid (HNR.out.alloc (.cells #[.int .i64 1, .int .i64 k, .int .i64 (m : Int), .string t, .int .i64 x, .int .i64 y] 114 (0, 0)))
     obtain ⟨x0, y0⟩ := (nmW_cells HNA.out).1 m hm5
     have q5 : (m : Int) < 5 := by omega
     clear hnz
     go_wp2_with fail
     go_roundw
     case rel => exact ⟨i + 1, by go_num, by omega, (HNA.out.set hm5).ofq (by funext v; rw [HSN.out v]; by_cases e : v = (m : Int) <;> simp [e, eq_comm])⟩
     case measure => simp [intOf]; omega
    ·
     have hob : (op == 1) = false := by rw [beq_eq_false_iff_ne]; exact ho
     have HNA := Lib.hid (HNR.out.alloc (.cells #[.int .i64 op, .int .i64 k, .int .i64 n, .string t, .int .i64 x, .int .i64 y] 114 (0, 0)))
     have HO1 := Lib.hid ho
     clear hnz ho
     go_wp2_with fail
     go_roundw
     case rel => exact ⟨i + 1, by go_num, by omega, HNA.out.ofq (by funext v; rw [HSN.out v]; simp [HO1.out])⟩
     case measure => simp [intOf]; omega
   ·
    obtain rfl : i = l.length := by omega
    have hltz : ¬ (l.length : Int) < (l.length : Int) := by omega
    obtain ⟨q0, q1, q2, q3, q4⟩ : Hid True ∧ Hid True ∧ Hid True ∧ Hid True ∧ Hid True := ⟨Lib.hid trivial, Lib.hid trivial, Lib.hid trivial, Lib.hid trivial, Lib.hid trivial⟩
    have hN' : NmW w w.heap.size (w.heap.size + 1) (fun v => hasN l v) wr := hN.ofq (by funext v; rw [List.take_length])
    obtain ⟨hc, hd⟩ := nmW_cells hN'
    obtain ⟨x0, y0⟩ := hc 0 (by omega); obtain ⟨x1, y1⟩ := hc 1 (by omega); obtain ⟨x2, y2⟩ := hc 2 (by omega); obtain ⟨x3, y3⟩ := hc 3 (by omega); obtain ⟨x4, y4⟩ := hc 4 (by omega)
    obtain ⟨z0, u0⟩ := hd 0 (by omega); obtain ⟨z1, u1⟩ := hd 1 (by omega); obtain ⟨z2, u2⟩ := hd 2 (by omega); obtain ⟨z3, u3⟩ := hd 3 (by omega); obtain ⟨z4, u4⟩ := hd 4 (by omega)
    have HH3 := Lib.hid hN'
    clear hc hd hN hN'
    go_wp2
    exact bodyPost_ret (results_cell_row rfl _ _ w.heap.size 72 (nameA fun v => hasN l v) (0, 0) _ rfl (set_five _ _ _ _ _ HH3.out.res) Tryz.underlying72 rfl (by kernel_rfl)) rfl ⟨by simp, below_five _ _ _ _ _ HH3.out.bel (Nat.le_refl _)⟩
end Go.Proofs.YtejbpnhondpnfaaGreat
namespace Go.Proofs.YtejbpnhondpnfaaGreat
def partsL : List Nat := [2, 2, 2, 2, 2, 1, 2, 2, 1, 3, 2, 2, 2, 1, 3, 2, 1, 1, 1, 2, 1, 1, 1, 1, 2, 2, 2, 2]
def Nd.val (z : Nd) : Val := ⟨z.k, z.n, z.t, z.x, z.y⟩
def Val.isZero (v : Val) : Bool := v.k == 0 && (v.n == 0 && (v.t.toList == ([] : List UInt8) && (v.x == 0 && v.y == 0)))
def aloneB (z : Nd) : Bool := if z.op = 1 then decide (z.k = 0) && qbf z.val && decide (0 ≤ z.n) && decide (z.n < 5) else decide (z.op = 0) && qbf z.val
def qba (z : Nd) : Option Nat := if 2 ≤ z.op ∧ z.op ≤ 29 then (if z.val.isZero then some (partsL.getD (z.op - 2).toNat 0) else none) else (if aloneB z then some 0 else none)
def exprR (l : List Nd) : Bool := decide (0 < l.length) && decide (l.length ≤ 400) && stackRun [1] (l.map qba)
theorem stack_all : ∀ (op : List Nat) (L : List (Option Nat)), stackRun op L = true → ∀ x ∈ L, x ≠ none
 | _, [], _, x, hx => by cases hx
 | op, none :: r, h, _, _ => by cases op <;> cases h
 | op, some k :: r, h, x, hx => by
  unfold stackRun at h
  split at h
  ·
   cases h
  ·
   rcases List.mem_cons.1 hx with rfl | hx
   ·
    exact fun e => by cases e
   ·
    exact stack_all _ r h x hx
theorem exprR_ok {l : List Nd} (h : exprR l = true) : ∀ z ∈ l, NdOk z := by
 intro z hz ho
 unfold exprR at h
 simp only [Bool.and_eq_true] at h
 have := stack_all _ _ h.2 (qba z) (List.mem_map_of_mem hz)
 unfold qba at this
 rw [if_neg (by omega)] at this
 unfold aloneB at this
 rw [if_pos ho] at this
 by_cases hn : 0 ≤ z.n ∧ z.n < 5
 ·
  exact hn
 ·
  exfalso
  apply this
  rw [if_neg]
  simp
  intros
  omega
def nameC (c : Int) : Bool := (decide (97 ≤ c) && decide (c ≤ 122)) || (decide (48 ≤ c) && decide (c ≤ 57))
def namedB (s : ByteArray) : Bool := decide (0 < s.size) && decide (s.size ≤ 16) && s.data.toList.all (fun c => nameC (c.toNat : Int))
theorem idx_all (p : Nat → Bool) (q : UInt8 → Bool) (s : ByteArray) (hlo : ∀ c : UInt8, c.toNat < 128 → p c.toNat = q c) (hhi : ∀ n, 128 ≤ n → p n = true) (hq : ∀ c : UInt8, 128 ≤ c.toNat → q c = true) :
  ∀ (f pos : Nat), s.size ≤ pos + f → decide (0 ≤ Lib.idxFuncFrom p true s f pos) = (s.data.toList.drop pos).any q
 | 0, pos, h => by
  rw [List.drop_eq_nil_of_le (by simpa using h)]
  rfl
 | f + 1, pos, h => by
  unfold Lib.idxFuncFrom
  by_cases hp : pos < s.size
  ·
   rw [if_pos hp]
   have hd : s.data.toList.drop pos = s[pos] :: s.data.toList.drop (pos + 1) := by
    rw [List.drop_eq_getElem_cons (by simpa using hp)]; rfl
   rw [hd, List.any_cons]
   by_cases ha : (s[pos]'hp).toNat < 128
   ·
    rw [decode_ascii s pos hp ha]
    simp only
    by_cases hc : p (s[pos]'hp).toNat = true
    ·
     rw [if_pos hc, ← hlo _ ha, hc]
     simp
    ·
     rw [if_neg hc, ← hlo _ ha, Bool.eq_false_iff.mpr hc, Bool.false_or]
     exact idx_all p q s hlo hhi hq f (pos + 1) (by omega)
   ·
    obtain ⟨h1, _⟩ := decode_high s pos hp (by omega)
    rw [if_pos (hhi _ h1), hq _ (by omega)]
    simp
  ·
   rw [if_neg hp, List.drop_eq_nil_of_le (by simp; omega)]
   rfl
theorem named_idx (s : ByteArray) : decide (0 ≤ Lib.idxFunc (fun n => !nameC (n : Int)) true s) = !(s.data.toList.all (fun c => nameC (c.toNat : Int))) := by
 unfold Lib.idxFunc
 rw [idx_all _ (fun c => !nameC (c.toNat : Int)) s (fun _ _ => rfl) (fun n hn => by simp [nameC]; omega) (fun c hc => by simp [nameC]; omega) s.size 0 (by omega)]
 rw [List.drop_zero, List.any_eq_not_all_not]
 congr 1
 apply congrArg
 funext c
 simp
end Go.Proofs.YtejbpnhondpnfaaGreat
namespace Go.Proofs.YtejbpnhondpnfaaGreat
set_option maxRecDepth 100000
open Go.RowKit
def U8 (w : World) (h j : Nat) : Prop := ∃ x : Int, w.cell? ⟨h, j, none⟩ = some (.int .u8 x) ∧ 0 ≤ x ∧ x ≤ 255
structure BytesAt (w : World) (B h o k : Nat) : Prop where
 lo : B ≤ h
 blk : Blk w h 5
 each : ∀ j, j < k → U8 w h (o + j)
def RowV (w : World) (B : Nat) (v : Value) (k : Nat) : Prop := ∃ h o c, v = .slice (some ⟨h, o, none⟩) k c ∧ k ≤ c ∧ c ≤ maxLen ∧ BytesAt w B h o k
structure RowsAt (w : World) (B g n k : Nat) : Prop where
 lo : B ≤ g
 blk : Blk w g 102
 each : ∀ i, i < n → ∃ u, w.cell? ⟨g, i, none⟩ = some u ∧ RowV w B u k
def MatV (w : World) (B : Nat) (v : Value) (n k : Nat) : Prop := ∃ g c, v = .slice (some ⟨g, 0, none⟩) n c ∧ n ≤ c ∧ c ≤ maxLen ∧ RowsAt w B g n k
structure RKept (B : Nat) (w w' : World) : Prop where
 below : Below B w w'
 size : w.heap.size ≤ w'.heap.size
 other : ∀ h t, Blk w h t → t ≠ 5 → w'.heap[h]? = w.heap[h]?
 blk : ∀ h, Blk w h 5 → Blk w' h 5
 bytes : ∀ h j, Blk w h 5 → U8 w h j → U8 w' h j
theorem RKept.refl (B : Nat) (w : World) : RKept B w w := ⟨Below.refl _ _, Nat.le_refl _, fun _ _ _ _ => rfl, fun _ h => h, fun _ _ _ h => h⟩
theorem Blk.kept {B : Nat} {w w' : World} {h : Nat} {t : TypeId} (k : Blk w h t) (hk : RKept B w w') : Blk w' h t := by
 by_cases e : t = 5
 ·
  subst e; exact hk.blk h k
 ·
  obtain ⟨cs, hc⟩ := k
  exact ⟨cs, (hk.other h t ⟨cs, hc⟩ e).trans hc⟩
theorem RKept.trans {B : Nat} {a b c : World} (h : RKept B a b) (k : RKept B b c) : RKept B a c :=
 ⟨h.below.trans k.below, Nat.le_trans h.size k.size, fun g t hg hn => (k.other g t (hg.kept h) hn).trans (h.other g t hg hn), fun g hg => k.blk g (h.blk g hg), fun g j hg hu => k.bytes g j (h.blk g hg) (h.bytes g j hg hu)⟩
theorem RKept.of_below {B : Nat} {w w' : World} (h : Below w.heap.size w w') (hB : B ≤ w.heap.size) : RKept B w w' :=
 ⟨h.mono hB, h.size, fun g t hg _ => h.block g hg.lt, fun g hg => by obtain ⟨cs, hc⟩ := hg; exact ⟨cs, (h.block g (Blk.lt ⟨cs, hc⟩)).trans hc⟩,
  fun g j hg hu => by obtain ⟨x, hx, r⟩ := hu; exact ⟨x, (h.cell (p := ⟨g, j, none⟩) hg.lt).trans hx, r⟩⟩
theorem RKept.drew {B : Nat} {w w' : World} (h : RKept B w w') : RKept B w w'.drew := ⟨⟨h.below.os, h.below.tape, h.below.output, h.below.size, h.below.block⟩, h.size, h.other, h.blk, h.bytes⟩
theorem RKept.set {B : Nat} {w : World} {h j : Nat} {x : Int} (hb : Blk w h 5) (hB : B ≤ h) (h0 : 0 ≤ x) (h1 : x ≤ 255) : RKept B w (w.setCell ⟨h, j, none⟩ (.int .u8 x)) := by
 refine ⟨(Below.refl B w).setCell (p := ⟨h, j, none⟩) hB _, by simp [World.setCell], fun g t hg hn => ?_, fun g hg => ?_, fun g i hg hu => ?_⟩
 ·
  have hne : g ≠ h := fun e => by subst e; exact hn (hg.tag hb)
  simp [World.setCell, Array.getElem?_modify, Ne.symm hne]
 ·
  by_cases e : g = h
  ·
   subst e; exact blk_setCell hg _ _
  ·
   obtain ⟨cs, hc⟩ := hg
   exact ⟨cs, by simpa [World.setCell, Array.getElem?_modify, Ne.symm e] using hc⟩
 ·
  obtain ⟨y, hy, r⟩ := hu
  by_cases e : g = h
  ·
   subst e
   by_cases e2 : i = j
   ·
    subst e2; exact ⟨x, cell_setCell_eq hg hy _, h0, h1⟩
   ·
    exact ⟨y, (cell_setCell_ne hg e2 _).trans hy, r⟩
  ·
   refine ⟨y, ?_, r⟩
   rw [← hy]
   simp only [World.cell?]
   have : (w.setCell ⟨h, j, none⟩ (.int .u8 x)).heap[g]? = w.heap[g]? := by simp [World.setCell, Array.getElem?_modify, Ne.symm e]
   rw [this]
theorem BytesAt.kept {B h o k : Nat} {w w' : World} (b : BytesAt w B h o k) {B' : Nat} (hk : RKept B' w w') : BytesAt w' B h o k :=
 ⟨b.lo, b.blk.kept hk, fun j hj => hk.bytes h _ b.blk (b.each j hj)⟩
theorem RowV.kept {B k : Nat} {v : Value} {w w' : World} (b : RowV w B v k) {B' : Nat} (hk : RKept B' w w') : RowV w' B v k := by
 obtain ⟨h, o, c, e, h1, h2, hb⟩ := b
 exact ⟨h, o, c, e, h1, h2, hb.kept hk⟩
theorem RKept.cell {B : Nat} {w w' : World} (hk : RKept B w w') {g : Nat} {t : TypeId} (hb : Blk w g t) (hn : t ≠ 5) (j : Nat) : w'.cell? ⟨g, j, none⟩ = w.cell? ⟨g, j, none⟩ := by
 simp only [World.cell?]
 rw [hk.other g t hb hn]
theorem RowsAt.kept {B g n k : Nat} {w w' : World} (b : RowsAt w B g n k) {B' : Nat} (hk : RKept B' w w') : RowsAt w' B g n k :=
 ⟨b.lo, b.blk.kept hk, fun i hi => by
  obtain ⟨u, hu, hr⟩ := b.each i hi
  exact ⟨u, (hk.cell b.blk (by decide) i).trans hu, hr.kept hk⟩⟩
theorem MatV.kept {B n k : Nat} {v : Value} {w w' : World} (b : MatV w B v n k) {B' : Nat} (hk : RKept B' w w') : MatV w' B v n k := by
 obtain ⟨g, c, e, h1, h2, hr⟩ := b
 exact ⟨g, c, e, h1, h2, hr.kept hk⟩
theorem FieldAt.kept {g : Nat} {w w' : World} (b : FieldAt w g) {B' : Nat} (hk : RKept B' w w') : FieldAt w' g :=
 ⟨b.blk.kept hk, fun i hi => by
  obtain ⟨x, hx, r⟩ := b.exp i hi
  exact ⟨x, (hk.cell b.blk (by decide) _).trans hx, r⟩, fun i hi => by
  obtain ⟨x, hx, r⟩ := b.log i hi
  exact ⟨x, (hk.cell b.blk (by decide) _).trans hx, r⟩⟩
def ByteEnd (w : World) (e : Ending) (w' : World) : Prop := ∃ r : Nat, r ≤ 255 ∧ e = .returned (.int .u8 (r : Int)) ∧ Below w.heap.size w w'
theorem FieldAt.logN {w : World} {g : Nat} (h : FieldAt w g) (a : Nat) (ha : a ≤ 255) : ∃ y : Nat, y ≤ 254 ∧ w.cell? ⟨g, 510 + a, none⟩ = some (.int .i64 (y : Int)) := by
 obtain ⟨y, hy, h0, h1⟩ := h.log a (by omega)
 exact ⟨y.toNat, by omega, by rw [hy, Int.toNat_of_nonneg h0]⟩
theorem FieldAt.expN {w : World} {g : Nat} (h : FieldAt w g) (i : Nat) (hi : i < 510) : ∃ x : Nat, x ≤ 255 ∧ w.cell? ⟨g, i, none⟩ = some (.int .u8 (x : Int)) := by
 obtain ⟨y, hy, h0, h1⟩ := h.exp i hi
 exact ⟨y.toNat, by omega, by rw [hy, Int.toNat_of_nonneg h0]⟩
theorem mul_any (g a b : Nat) (ha : a ≤ 255) (hb : b ≤ 255) (w : World) (h : FieldAt w g) :
  Calls Tryz.prog 187 #[.pointer (some ⟨g, 0, none⟩), .int .u8 (a : Int), .int .u8 (b : Int)] w (ByteEnd w) := by
 by_cases a0 : a = 0
 ·
  subst a0
  go_enter Tryz.func187, Tryz.ntmps187
  go_wp2_with fail
  go_ret
  exact ⟨0, by omega, rfl, Below.refl _ _⟩
 by_cases b0 : b = 0
 ·
  subst b0
  have a1 : ((a : Int) == 0) = false := by rw [beq_eq_false_iff_ne]; omega
  go_enter Tryz.func187, Tryz.ntmps187
  go_wp2_with fail
  go_ret
  exact ⟨0, by omega, rfl, Below.refl _ _⟩
 obtain ⟨y, hy, ly⟩ := h.logN a ha
 obtain ⟨z, hz, lz⟩ := h.logN b hb
 obtain ⟨x, hx, lx⟩ := h.expN (y + z) (by omega)
 have a1 : ((a : Int) == 0) = false := by rw [beq_eq_false_iff_ne]; omega
 have b1 : ((b : Int) == 0) = false := by rw [beq_eq_false_iff_ne]; omega
 have q1 : (a : Int) < 256 := by omega
 have q2 : (b : Int) < 256 := by omega
 have q3 : (y : Int) + (z : Int) < 510 := by omega
 go_enter Tryz.func187, Tryz.ntmps187
 go_wp2_with fail
 go_quiet (fail)
 go_wp2_with fail
 go_ret
 exact ⟨x, hx, rfl, ⟨rfl, rfl, rfl, Nat.le_refl _, fun _ _ => rfl⟩⟩
theorem fdiv_any (g a b : Nat) (ha : a ≤ 255) (hb : b ≤ 255) (w : World) (h : FieldAt w g) :
  Calls Tryz.prog 185 #[.pointer (some ⟨g, 0, none⟩), .int .u8 (a : Int), .int .u8 (b : Int)] w fun e w' => ∃ (r : Nat) (q : Bool), r ≤ 255 ∧ e = .returned (.tuple #[.int .u8 (r : Int), .bool q]) ∧ Below w.heap.size w w' := by
 by_cases b0 : b = 0
 ·
  subst b0
  go_enter Tryz.func185, Tryz.ntmps185
  go_wp2_with fail
  go_ret2
  exact ⟨0, false, by omega, rfl, Below.refl _ _⟩
 have b1 : ((b : Int) == 0) = false := by rw [beq_eq_false_iff_ne]; omega
 by_cases a0 : a = 0
 ·
  subst a0
  go_enter Tryz.func185, Tryz.ntmps185
  go_wp2_with fail
  go_ret2
  exact ⟨0, true, by omega, rfl, Below.refl _ _⟩
 obtain ⟨y, hy, ly⟩ := h.logN a ha
 obtain ⟨z, hz, lz⟩ := h.logN b hb
 obtain ⟨x, hx, lx⟩ := h.expN (y + 255 - z) (by omega)
 have a1 : ((a : Int) == 0) = false := by rw [beq_eq_false_iff_ne]; omega
 have q1 : (a : Int) < 256 := by omega
 have q2 : (b : Int) < 256 := by omega
 have q3 : (y : Int) + 255 - (z : Int) < 510 := by omega
 have q4 : (0 : Int) ≤ (y : Int) + 255 - (z : Int) := by omega
 have q5 : IntKind.i64.wrap ((y : Int) + 255 - (z : Int)) = ((y + 255 - z : Nat) : Int) := by rw [IntKind.wrap_i64]; omega
 go_enter Tryz.func185, Tryz.ntmps185
 go_wp2_with fail
 go_quiet (fail)
 go_wp2_with fail
 go_ret2
 exact ⟨x, true, hx, rfl, ⟨rfl, rfl, rfl, Nat.le_refl _, fun _ _ => rfl⟩⟩
theorem expo_any (g n : Nat) (hn : n ≤ 100000) (w : World) (h : FieldAt w g) :
  Calls Tryz.prog 182 #[.pointer (some ⟨g, 0, none⟩), .int .i64 (n : Int)] w (ByteEnd w) := by
 obtain ⟨x, hx, lx⟩ := h.expN (n % 255) (by omega)
 have q1 : Int.tmod (n : Int) 255 = ((n % 255 : Nat) : Int) := by rw [Int.tmod_eq_emod_of_nonneg (by omega)]; omega
 have q2 : ((n % 255 : Nat) : Int) < 510 := by omega
 have q3 : ¬ ((n % 255 : Nat) : Int) < 0 := by omega
 obtain ⟨m, hm⟩ : ∃ m, m = n % 255 := ⟨_, rfl⟩
 rw [← hm] at q1 q2 q3 lx
 clear hm
 go_enter Tryz.func182, Tryz.ntmps182
 go_wp2_with fail
 go_ret
 exact ⟨x, hx, rfl, Below.refl _ _⟩
theorem pow_any (g a n : Nat) (ha : a ≤ 255) (hn : n ≤ 200) (w : World) (h : FieldAt w g) :
  Calls Tryz.prog 149 #[.pointer (some ⟨g, 0, none⟩), .int .u8 (a : Int), .int .i64 (n : Int)] w (ByteEnd w) := by
 by_cases n0 : n = 0
 ·
  subst n0
  go_enter Tryz.func149, Tryz.ntmps149
  go_wp2_with fail
  go_ret
  exact ⟨1, by omega, rfl, Below.refl _ _⟩
 have n1 : ((n : Int) == 0) = false := by rw [beq_eq_false_iff_ne]; omega
 by_cases a0 : a = 0
 ·
  subst a0
  go_enter Tryz.func149, Tryz.ntmps149
  go_wp2_with fail
  go_ret
  exact ⟨0, by omega, rfl, Below.refl _ _⟩
 obtain ⟨y, hy, ly⟩ := h.logN a ha
 have a1 : ((a : Int) == 0) = false := by rw [beq_eq_false_iff_ne]; omega
 have q0 : (a : Int) < 256 := by omega
 have q1 : Int.tmod (n : Int) 255 = (n : Int) := by rw [Int.tmod_eq_emod_of_nonneg (by omega)]; omega
 have hyn : y * n ≤ 100000 := by
  have : y * n ≤ 254 * 200 := Nat.mul_le_mul hy hn
  omega
 have q2 : IntKind.i64.wrap ((y : Int) * (n : Int)) = ((y * n : Nat) : Int) := by
  rw [← Int.natCast_mul, IntKind.wrap_i64]; omega
 have HE := Lib.hid (expo_any g (y * n) hyn w h)
 obtain ⟨m, hm⟩ : ∃ m, m = y * n := ⟨_, rfl⟩
 rw [← hm] at q2 HE
 clear hm hyn
 go_enter Tryz.func149, Tryz.ntmps149
 go_wp2_with fail
 refine HE.out.mono ?_
 rintro e w1 ⟨r, hr, rfl, hb1⟩
 go_wp2_with fail
 go_ret
 exact ⟨r, hr, rfl, hb1⟩
theorem goto_scopeG {P : Program} {c K : Code} {a : Act} {w : World} {Q : Exit → Act → World → Prop} (l : Nat) (J : Act → World → Prop) (μ : Act → World → Nat) (hf : findLabel c l = some (.seq .skip K))
  (pass : ∀ a w, J a w → K.wp P (Exit.jump l (fun a' w' => J a' w' ∧ μ a' w' < μ a w) Q) a w)
  (first : (∀ a w, J a w → K.wp P (Exit.jump l J Q) a w) → c.wp P (Exit.jump l J Q) a w) : (Code.scope c).wp P Q a w := by
 refine wp_scope_jumps l J μ hf (first fun a w h => ?_) (fun a w h => wp_seq (wp_skip (pass a w h)))
 intro b k cs
 obtain ⟨e, a₁, w₁, hq, harr⟩ := pass a w h b k cs
 refine ⟨e, a₁, w₁, ?_, harr⟩
 cases e with
 | goto l' =>
  simp only [Exit.jump] at hq ⊢
  exact ⟨hq.1, hq.2.1⟩
 | normal => exact hq
 | exit _ => exact hq
 | ret => exact hq
 | panic _ => exact hq
 | outgrown => exact hq
theorem dbl_xor : ∀ x : Fin 256, bits BinOp.xor IntKind.i64 ((x.val : Int) * 2) 285 = (((2 * x.val) ^^^ 285 : Nat) : Int) := by decide +kernel
def NewA (g x i : Nat) (a : Act) : Prop := ∃ u4 u5 u6 u7 u8 u9 u10 u11 u12 u13 u14 u15 u16 u17 u18 u19 u20 u21 u22 u23 u24 u25 u26 u27 u28 u29 u30 u31 u32 u33 u34 u35 u36 u37 : Value, a = ⟨#[.pointer none, .pointer (some ⟨g, 0, none⟩), .int .i64 (x : Nat), .int .i64 (i : Nat), u4, u5, u6, u7, u8, u9, u10, u11, u12, u13, u14, u15, u16, u17, u18, u19, u20, u21, u22, u23, u24, u25, u26, u27, u28, u29, u30, u31, u32, u33, u34, u35, u36, u37], []⟩
structure NewJ (w : World) (x i : Nat) (w' : World) : Prop where
 fld : FieldAt w' w.heap.size
 x0 : 1 ≤ x
 x1 : x ≤ 255
 le : i ≤ 255
 bel : Below w.heap.size w w'
set_option maxHeartbeats 4000000 in
theorem newField_any (w : World) : Calls Tryz.prog 115 #[] w fun e w' => ∃ g, e = .returned (.pointer (some ⟨g, 0, none⟩)) ∧ FieldAt w' g ∧ w.heap.size ≤ g ∧ Below w.heap.size w w' := by
 obtain ⟨W1, hW1⟩ : ∃ W1, W1 = w.alloc (.cells ZF 213) := ⟨_, rfl⟩
 have hF1 : FieldAt W1 w.heap.size := field_new (by rw [hW1]; exact heap_alloc_new w _)
 have hb1 : Below w.heap.size w W1 := by rw [hW1]; exact (Below.refl _ w).alloc (Nat.le_refl _) _
 go_enter Tryz.func115, Tryz.ntmps115
 go_wp2_with fail
 refine goto_scopeG 0 (fun a' w' => ∃ x i, NewA w.heap.size x i a' ∧ NewJ w x i w') (fun a' _ => 256 - (intOf (a'.tmps.getD 3 undef)).toNat) rfl ?_ ?_
 ·
  rintro a' w' ⟨x, i, hA, hJ⟩
  unfold NewA at hA
  obtain ⟨u4, u5, u6, u7, u8, u9, u10, u11, u12, u13, u14, u15, u16, u17, u18, u19, u20, u21, u22, u23, u24, u25, u26, u27, u28, u29, u30, u31, u32, u33, u34, u35, u36, u37, rfl⟩ := hA
  have hi := hJ.le
  have hx1 := hJ.x1
  have hx0 := hJ.x0
  have HJ := Lib.hid hJ
  by_cases hlt : i < 255
  ·
   have hltz : (i : Int) < 255 := by omega
   obtain ⟨z1, c1, _⟩ := hJ.fld.exp i (by omega)
   obtain ⟨z2, c2, _⟩ := hJ.fld.exp (i + 255) (by omega)
   obtain ⟨z3, c3, _⟩ := hJ.fld.log x (by omega)
   have f1 := hJ.fld.frozen i
   have f2 := hJ.fld.frozen (i + 255)
   have f3 := hJ.fld.frozen (510 + x)
   have hw8 : IntKind.u8.wrap (x : Int) = (x : Int) := by simp [IntKind.wrap, IntKind.bits, IntKind.signed]; omega
   have q1 : (i : Int) + 255 < 510 := by omega
   have q4 : IntKind.i64.wrap ((i : Int) + 255) = (i : Int) + 255 := by rw [IntKind.wrap_i64]; omega
   have q5 : (0 : Int) ≤ (i : Int) + 255 := by omega
   have q6 : ((i : Int) + 255).toNat = i + 255 := by omega
   have q2 : (x : Int) < 256 := by omega
   have q3 : (i : Int) < 510 := by omega
   have hFd : FieldAt w'.drew w.heap.size := hJ.fld.chg (S := fun _ => False) ((Chg.refl _ w').drew) (fun h => h)
   have hb := hJ.bel
   have hBd : Below w.heap.size w w'.drew := ⟨hb.os, hb.tape, hb.output, hb.size, hb.block⟩
   have hxr := dbl_xor ⟨x, by omega⟩
   have hdl := dbl_le ⟨x, by omega⟩ hx0
   simp only at hxr hdl
   clear hJ hb
   by_cases hd : 255 < 2 * x
   ·
    rw [if_pos hd] at hdl
    have hdz : (255 : Int) < (x : Int) * 2 := by omega
    obtain ⟨y, hy⟩ : ∃ y, y = (2 * x) ^^^ 285 := ⟨_, rfl⟩
    rw [← hy] at hxr hdl
    clear hy
    go_wp2_with fail
    go_region_law (fail)
    all_goals
     go_wp2_with fail
     go_step3
     refine ⟨rfl, ⟨y, i + 1, ?fr, ?j⟩, ?_⟩
     case fr => unfold NewA; (repeat apply Exists.intro); rfl
     case j =>
      refine ⟨?_, hdl.2, hdl.1, by omega, ?_⟩
      ·
       refine FieldAt.setLog (FieldAt.setExp (FieldAt.setExp hFd ?_ ?_ ?_) ?_ ?_ ?_) ?_ ?_ ?_ <;> omega
      ·
       exact (((hBd.setCell (p := ⟨w.heap.size, _, none⟩) (Nat.le_refl _) _).setCell (p := ⟨w.heap.size, _, none⟩) (Nat.le_refl _) _).setCell (p := ⟨w.heap.size, _, none⟩) (Nat.le_refl _) _)
     ·
      simp [intOf]; omega
   ·
    rw [if_neg hd] at hdl
    have hdz : ¬ (255 : Int) < (x : Int) * 2 := by omega
    clear hxr
    go_wp2_with fail
    go_region_law (fail)
    all_goals
     go_wp2_with fail
     go_step3
     refine ⟨rfl, ⟨x * 2, i + 1, ?fr, ?j⟩, ?_⟩
     case fr => unfold NewA; (repeat apply Exists.intro); rfl
     case j =>
      refine ⟨?_, by omega, by omega, by omega, ?_⟩
      ·
       refine FieldAt.setLog (FieldAt.setExp (FieldAt.setExp hFd ?_ ?_ ?_) ?_ ?_ ?_) ?_ ?_ ?_ <;> omega
      ·
       exact (((hBd.setCell (p := ⟨w.heap.size, _, none⟩) (Nat.le_refl _) _).setCell (p := ⟨w.heap.size, _, none⟩) (Nat.le_refl _) _).setCell (p := ⟨w.heap.size, _, none⟩) (Nat.le_refl _) _)
     ·
      simp [intOf]; omega
  ·
   have hltz : ¬ (i : Int) < 255 := by omega
   have hF := hJ.fld
   have hb := hJ.bel
   clear hJ
   go_wp2_with fail
   simp only [Exit.jump]
   go_ret
   exact ⟨_, rfl, hF, Nat.le_refl _, hb⟩
 ·
  intro hpass
  go_wp2_with (first
   | (refine Go.Great.wpList_buildTo rfl 213 #[] rfl (some 4) rfl ZF (by kernel_rfl) ?_)
   | (refine Go.Great.wpList_boxTo rfl 213 (.tmp 4) rfl (some 5) rfl w.heap.size rfl ZF (by kernel_rfl) ?_; rw [← hW1]; clear hW1))
  go_step3
  rename_i hKK
  refine hKK _ _ (hpass _ _ ?_)
  refine ⟨1, 0, ?fr, ?j⟩
  case fr => unfold NewA; (repeat apply Exists.intro); rfl
  case j => exact ⟨hF1, by omega, by omega, by omega, hb1⟩
end Go.Proofs.YtejbpnhondpnfaaGreat
namespace Go.Proofs.YtejbpnhondpnfaaGreat.PRows
open Go.RowKit Go.Proofs.YtejbpnhondpnfaaGreatW.PrintWords Go.Proofs.YtejbpnhondpnfaaGreatW.PrintLast Go.Proofs.YtejbpnhondpnfaaGreatW.PrintMore
attribute [local go_sem] qaz qbe
theorem info3 : (Tryz.prog.info? 3).map (fun i => (i.zero, i.size, i.bytes)) = some (some (.int .i64 0), 1, 8) := by kernel_rfl
theorem info5 : (Tryz.prog.info? 5).map (fun i => (i.zero, i.size, i.bytes)) = some (some (.int .u8 0), 1, 1) := by kernel_rfl
theorem info102 : (Tryz.prog.info? 102).map (fun i => (i.zero, i.size, i.bytes)) = some (some (.slice none 0 0), 1, 24) := by kernel_rfl
def rba.l0 : Nat → Int → List (List Int) → Int → Int → Option ((List (List Int)))
 | 0, _, _, _, _ => none
 | k + 1, x1, x5, x6, x7 => if x7 < x6 then (if 0 ≤ x1 then (if (x1 : Int).toNat ≤ 281474976710656 then (if x5.length < 5864062014805 then (rba.l0 k x1 (x5 ++ [(List.replicate (x1 : Int).toNat 0)]) x6 (wrap64 (x7 + 1))) else (none)) else (none)) else (none)) else (some x5)
def rba.f (k : Nat) (a0 : Int) (a1 : Int) : Option ((List (List Int))) := rba.l0 k a1 ([] : List (List Int)) a0 0
set_option maxHeartbeats 8000000 in
set_option maxRecDepth 100000 in
theorem rba.calls (k : Nat) (a0 : Int) (a1 : Int) (r : List (List Int)) (w : World) (h : rba.f k a0 a1 = some r) :
  Calls Tryz.prog 148 #[.int .i64 a0, .int .i64 a1] w fun e w' => ∃ v0_ : Value, e = .returned (v0_) ∧ Kd.S (Kd.slice 5 (Kd.int .u8)) 102 w' w.heap.size (fun _ => True) v0_ r ∧ Below w.heap.size w w' := by
 have HB := Aside0.mk (Below.refl w.heap.size w)
 have H : (rba.l0 k a1 ([] : List (List Int)) a0 0) = some r := h
 clear h
 have H' := Aside0.mk H
 clear H
 go_enter Tryz.func148, Tryz.ntmps148
 go_wp2
 go_loopg [5, 7] k (fun kq v5 v7 w' => ∃ (x5_1 : List (List Int)) (x7_1 : Int), v7 = .int .i64 x7_1 ∧ Aside0 (rba.l0 kq a1 x5_1 a0 x7_1 = some r) ∧ Aside0 (kq ≤ k) ∧ Aside0 (Kd.S (Kd.slice 5 (Kd.int .u8)) 102 w' w.heap.size (fun _ => True) v5 x5_1) ∧ Aside0 (Below w.heap.size w w'))
 case atStart => exact ⟨(([] : List (List Int))), (0), (by first | rfl | (simp; done) | (simp [*]; done)), H', ⟨Nat.le_refl _⟩, ⟨by first | exact Kd.S_nil _ _ _ _ _ | exact Kd.N_nil _ _ _ _ _ | exact Kd.V_nil _ _ _ _ _ | exact Kd.Q_nil _ _ _ _ _ | exact Kd.R_nil _ _ _ _ _⟩, ⟨by repeat (first | (with_reducible first | exact HB.out | apply qad | apply qab | apply qac) | exact HB.out)⟩⟩
 case round =>
  clear H'
  try clear c1
  try clear p2
  obtain ⟨x5_1, x7_1, rfl, HA, HK1, HO_5, HB⟩ := hrel
  cases gk with
  | zero => exact absurd HA.out (by simp [rba.l0])
  | succ k1 =>
   have H := HA.out
   clear HA
   simp only [rba.l0] at H
   by_cases c3 : x7_1 < a0
   ·
    rw [if_pos c3] at H
    have c3b0 : decide (x7_1 < a0) = true := decide_eq_true c3
    clear c3
    by_cases c4 : 0 ≤ a1
    ·
     rw [if_pos c4] at H
     have c4b0 := eq_true c4
     have c4b1 : decide (0 ≤ a1) = true := decide_eq_true c4
     clear c4
     by_cases c5 : (a1 : Int).toNat ≤ 281474976710656
     ·
      rw [if_pos c5] at H
      have c5b0 := eq_true c5
      have c5b1 : decide ((a1 : Int).toNat ≤ 281474976710656) = true := decide_eq_true c5
      clear c5
      obtain ⟨y179, hy179⟩ : ∃ y_ : List Int, y_ = (List.replicate (a1 : Int).toNat 0) := ⟨_, rfl⟩
      replace H : (if x5_1.length < 5864062014805 then (rba.l0 k1 a1 (x5_1 ++ [y179]) a0 (wrap64 (x7_1 + 1))) else (none)) = some r := by first | (rw [hy179]; with_reducible exact H) | (have H2_ := (Option.bind_some _ _).symm.trans H; rw [hy179]; with_reducible exact H2_) | (have H2_ := (Option.bind_some _ _).symm.trans H; with_reducible exact H2_) | with_reducible exact H | (rw [hy179]; exact H) | exact H
      have Ny179 := Aside0.mk hy179
      clear hy179
      by_cases c6 : x5_1.length < 5864062014805
      ·
       rw [if_pos c6] at H
       have LMc6 := Aside0.mk c6
       clear c6
       obtain ⟨y182, hy182⟩ : ∃ y_ : List (List Int), y_ = (x5_1 ++ [y179]) := ⟨_, rfl⟩
       replace H : (rba.l0 k1 a1 y182 a0 (wrap64 (x7_1 + 1))) = some r := by first | (rw [hy182]; with_reducible exact H) | (have H2_ := (Option.bind_some _ _).symm.trans H; rw [hy182]; with_reducible exact H2_) | (have H2_ := (Option.bind_some _ _).symm.trans H; with_reducible exact H2_) | with_reducible exact H | (rw [hy182]; exact H) | exact H
       have Ny182 := Aside0.mk hy182
       clear hy182
       have H' := Aside0.mk H
       clear H
       go_wp2_with (first | ((with_reducible refine qav (N := 11) rfl ?_); refine Kd.R_make (Kd.int .u8) _ 5 rfl (N := 11) rfl 102 _ _ rfl a1 rfl rfl Tryz.underlying102 (.int .u8 0) 1 info5 rfl (by decide) (by omega) 0 (ok := fun _ => True) (okp := fun _ => True) rfl (fun _ hk => hk) trivial (of_decide_eq_true (by first | (with_reducible assumption) | assumption)) (Nat.le_trans (Nat.mul_le_mul_right _ (of_decide_eq_true (by first | (with_reducible assumption) | assumption) : a1.toNat ≤ 281474976710656)) (by omega)) (Below.refl _ _) (Nat.le_refl _) ?_; intro v180 w7 ho8 hb hg_ hnew_; clear hg_ hnew_; (first | rw [← Ny179.out] at ho8 | (simp only [Int.reduceToNat] at ho8; rw [← Ny179.out] at ho8)); have n0_ := Aside0.mk (Kd.S_elder' (by (with_reducible repeat (first | apply Kd.S_alloc | apply Kd.S_drewN | apply Kd.S_drew)); exact HO_5.out) (Kd.R_base ho8) hb); have n1_ := Aside0.mk (Kd.R_lower ho8 (qaj (by repeat (first | (with_reducible first | exact HB.out | apply qad | apply qab | apply qac) | exact HB.out)))); have n2_ := Aside0.mk (qah (by repeat (first | (with_reducible first | exact HB.out | apply qad | apply qab | apply qac) | exact HB.out)) hb); clear HO_5; clear HB; have HO_5 := n0_; have HO181 := n1_; have HB := n2_; clear n0_ n1_ n2_; clear hb ho8; obtain ⟨Ao10, co10, eo10⟩ := Kd.R_slice HO181.out; subst eo10) | ((with_reducible refine gate_builtin (b := .append) (xs := #[.tmp 9, .tmp 12]) rfl ?_); at_builtin; refine Kd.S_append (Kd.slice 5 (Kd.int .u8)) (w0 := w) w.heap.size rfl (.tmp 9) (.tmp 12) 160 102 (.slice none 0 0) 24 rfl Tryz.underlying160 info102 rfl (by decide) (by omega) u5 x5_1 y179 [.slice Ao10 y179.length co10] (fun _ => True) (fun k_ => some k_ = (.slice Ao10 y179.length co10 : Value).ownBlock) rfl rfl ?aP (fun k_ hk_ => ((Kd.R_mono (ok' := fun k_ => ((fun _ => True)) k_ ∧ some k_ ≠ (u5 : Value).ownBlock) (Kd.R_apart' (HO181.out) (Kd.S_typed HO_5.out) (by decide)) (fun k_ hk => ⟨trivial, hk.2⟩))).1 k_ hk_.symm) ?aF ?aO ?aB ?aS ?aL ?_; (case aP => exact Kd.M_row (Kd.R_mono (Kd.R_tight rfl (Kd.R_mono (ok' := fun k_ => ((fun _ => True)) k_ ∧ some k_ ≠ (u5 : Value).ownBlock) (Kd.R_apart' (HO181.out) (Kd.S_typed HO_5.out) (by decide)) (fun k_ hk => ⟨trivial, hk.2⟩))) (fun _ h_ => h_))); (case aB => exact (by repeat (first | (with_reducible first | exact HB.out | apply qad | apply qab | apply qac) | exact HB.out))); (case aF => exact (fun _ _ => trivial)); (case aO => exact (by (with_reducible repeat (first | apply Kd.S_alloc | apply Kd.S_drewN | apply Kd.S_drew)); exact Kd.S_mono HO_5.out (fun k_ hk => ⟨trivial, fun e_ => hk.2 e_⟩))); (case aS => exact (qaj (by repeat (first | (with_reducible first | exact HB.out | apply qad | apply qab | apply qac) | exact HB.out)))); (case aL => have := LMc6.out; omega); intro v183 w9 ho hb hg hat; rw [← Ny182.out] at ho; have n0_ := Aside0.mk (hb); have n1_ := Aside0.mk (ho); clear HB; clear HO_5; clear HO181; have HB := n0_; have HO184 := n1_; clear n0_ n1_; clear ho hb hg hat))
       go_roundg k1
       case measure => have := HK1.out; omega
       case rel => exact ⟨(y182), (wrap64 (x7_1 + 1)), (by first | rfl | (simp; done) | (simp [*]; done)), H', ⟨by have := HK1.out; omega⟩, ⟨by (with_reducible repeat (first | apply Kd.S_alloc | apply Kd.S_drewN | apply Kd.S_drew)); exact HO184.out⟩, ⟨by repeat (first | (with_reducible first | exact HB.out | apply qad | apply qab | apply qac) | exact HB.out)⟩⟩
      ·
       rw [if_neg c6] at H
       exact absurd H (by simp)
     ·
      rw [if_neg c5] at H
      exact absurd H (by simp)
    ·
     rw [if_neg c4] at H
     exact absurd H (by simp)
   ·
    rw [if_neg c3] at H
    have c3b0 : decide (x7_1 < a0) = false := decide_eq_false c3
    clear c3
    obtain rfl := Option.some.inj H
    go_wp2
    go_ret
    exact ⟨_, by first | rfl | (simp [*] <;> rfl), by (with_reducible repeat (first | apply Kd.S_alloc | apply Kd.S_drewN | apply Kd.S_drew)); exact HO_5.out, by repeat (first | (with_reducible first | exact HB.out | apply qad | apply qab | apply qac) | exact HB.out)⟩
def ray.l0 : Nat → List Int → Int → Int → Option (List Int)
 | 0, _, _, _ => none
 | k + 1, x3, x5, x6 => if x6 < x5 then (if x3.length < 17592186044416 then (ray.l0 k (x3 ++ [x6]) x5 (wrap64 (x6 + 1))) else (none)) else (some x3)
def ray.f (k : Nat) (a0 : Int) : Option (List Int) := ray.l0 k ([] : List Int) a0 0
set_option maxHeartbeats 8000000 in
set_option maxRecDepth 100000 in
theorem ray.calls (k : Nat) (a0 : Int) (r : List Int) (w : World) (h : ray.f k a0 = some r) :
  Calls Tryz.prog 112 #[.int .i64 a0] w fun e w' => ∃ v0_ : Value, e = .returned (v0_) ∧ Kd.R (Kd.int .i64) 3 w' w.heap.size (fun _ => True) v0_ r ∧ Below w.heap.size w w' := by
 have HB := Aside0.mk (Below.refl w.heap.size w)
 have H : (ray.l0 k ([] : List Int) a0 0) = some r := h
 clear h
 have H' := Aside0.mk H
 clear H
 go_enter Tryz.func112, Tryz.ntmps112
 go_wp2
 go_loopg [3, 6] k (fun kq v3 v6 w' => ∃ (x3_1 : List Int) (x6_1 : Int), v6 = .int .i64 x6_1 ∧ Aside0 (ray.l0 kq x3_1 a0 x6_1 = some r) ∧ Aside0 (kq ≤ k) ∧ Aside0 (Kd.R (Kd.int .i64) 3 w' w.heap.size (fun _ => True) v3 x3_1) ∧ Aside0 (Below w.heap.size w w'))
 case atStart => exact ⟨(([] : List Int)), (0), (by first | rfl | (simp; done) | (simp [*]; done)), H', ⟨Nat.le_refl _⟩, ⟨by first | exact Kd.R_nil _ _ _ _ _ | exact Kd.N_nil _ _ _ _ _ | exact Kd.V_nil _ _ _ _ _ | exact Kd.Q_nil _ _ _ _ _ | exact Kd.S_nil _ _ _ _ _⟩, ⟨by repeat (first | (with_reducible first | exact HB.out | apply qad | apply qab | apply qac) | exact HB.out)⟩⟩
 case round =>
  clear H'
  try clear c1
  obtain ⟨x3_1, x6_1, rfl, HA, HK1, HO_3, HB⟩ := hrel
  cases gk with
  | zero => exact absurd HA.out (by simp [ray.l0])
  | succ k1 =>
   have H := HA.out
   clear HA
   simp only [ray.l0] at H
   by_cases c2 : x6_1 < a0
   ·
    rw [if_pos c2] at H
    have c2b0 : decide (x6_1 < a0) = true := decide_eq_true c2
    clear c2
    by_cases c3 : x3_1.length < 17592186044416
    ·
     rw [if_pos c3] at H
     have LMc3 := Aside0.mk c3
     clear c3
     obtain ⟨y187, hy187⟩ : ∃ y_ : List Int, y_ = (x3_1 ++ [x6_1]) := ⟨_, rfl⟩
     replace H : (ray.l0 k1 y187 a0 (wrap64 (x6_1 + 1))) = some r := by first | (rw [hy187]; with_reducible exact H) | (have H2_ := (Option.bind_some _ _).symm.trans H; rw [hy187]; with_reducible exact H2_) | (have H2_ := (Option.bind_some _ _).symm.trans H; with_reducible exact H2_) | with_reducible exact H | (rw [hy187]; exact H) | exact H
     have Ny187 := Aside0.mk hy187
     clear hy187
     have H' := Aside0.mk H
     clear H
     go_wp2_with (first | ((with_reducible refine gate_builtin (b := .append) (xs := #[.tmp 9, .tmp 11]) rfl ?_); at_builtin; refine Kd.R_append (Kd.int .i64) (w0 := w) w.heap.size rfl (.tmp 9) (.tmp 11) 121 3 (.int .i64 0) 8 rfl Tryz.underlying121 info3 rfl (by decide) (by omega) u3 x3_1 x6_1 [.int .i64 x6_1] (fun _ => True) (fun _ => False) rfl rfl ?aP (fun _ hk => hk.elim) ?aF ?aO ?aB ?aS ?aL ?_; (case aP => exact rfl); (case aB => exact (by repeat (first | (with_reducible first | exact HB.out | apply qad | apply qab | apply qac) | exact HB.out))); (case aF => exact (fun _ _ => trivial)); (case aO => exact (by (with_reducible repeat (first | apply Kd.R_alloc | apply Kd.R_drewN | apply Kd.R_drew)); exact HO_3.out)); (case aS => exact (qaj (by repeat (first | (with_reducible first | exact HB.out | apply qad | apply qab | apply qac) | exact HB.out)))); (case aL => have := LMc3.out; omega); intro v188 w4 ho hb hg hat; rw [← Ny187.out] at ho; have n0_ := Aside0.mk (hb); have n1_ := Aside0.mk (ho); clear HB; clear HO_3; have HB := n0_; have HO189 := n1_; clear n0_ n1_; clear ho hb hg hat))
     go_roundg k1
     case measure => have := HK1.out; omega
     case rel => exact ⟨(y187), (wrap64 (x6_1 + 1)), (by first | rfl | (simp; done) | (simp [*]; done)), H', ⟨by have := HK1.out; omega⟩, ⟨by (with_reducible repeat (first | apply Kd.R_alloc | apply Kd.R_drewN | apply Kd.R_drew)); exact HO189.out⟩, ⟨by repeat (first | (with_reducible first | exact HB.out | apply qad | apply qab | apply qac) | exact HB.out)⟩⟩
    ·
     rw [if_neg c3] at H
     exact absurd H (by simp)
   ·
    rw [if_neg c2] at H
    have c2b0 : decide (x6_1 < a0) = false := decide_eq_false c2
    clear c2
    obtain rfl := Option.some.inj H
    go_wp2
    go_ret
    exact ⟨_, by first | rfl | (simp [*] <;> rfl), by (with_reducible repeat (first | apply Kd.R_alloc | apply Kd.R_drewN | apply Kd.R_drew)); exact HO_3.out, by repeat (first | (with_reducible first | exact HB.out | apply qad | apply qab | apply qac) | exact HB.out)⟩
end Go.Proofs.YtejbpnhondpnfaaGreat.PRows
namespace Go.Proofs.YtejbpnhondpnfaaGreat
set_option maxRecDepth 100000
open Go.RowKit
open Go.Proofs.YtejbpnhondpnfaaGreatW.PrintWords Go.Proofs.YtejbpnhondpnfaaGreatW.PrintLast Go.Proofs.YtejbpnhondpnfaaGreatW.PrintMore Go.Proofs.YtejbpnhondpnfaaGreat.PRows
theorem fits_any (n : Nat) (w : World) : Calls Tryz.prog 147 #[.int .i64 (n : Int)] w fun e w' => e = .returned (.bool (decide (1 ≤ n) && decide (n ≤ 32))) ∧ w = w' := by
 by_cases h1 : 1 ≤ n
 ·
  have q1 : (1 : Int) ≤ (n : Int) := by omega
  by_cases h2 : n ≤ 32
  ·
   have q2 : (n : Int) ≤ 32 := by omega
   rw [decide_eq_true h1, decide_eq_true h2]
   go_enter Tryz.func147, Tryz.ntmps147
   go_wp2_with fail
   go_ret
   exact ⟨rfl, rfl⟩
  ·
   have q2 : ¬ (n : Int) ≤ 32 := by omega
   rw [decide_eq_true h1, decide_eq_false h2]
   go_enter Tryz.func147, Tryz.ntmps147
   go_wp2_with fail
   go_ret
   exact ⟨rfl, rfl⟩
 ·
  have q1 : ¬ (1 : Int) ≤ (n : Int) := by omega
  rw [decide_eq_false h1]
  go_enter Tryz.func147, Tryz.ntmps147
  go_wp2_with fail
  go_ret
  exact ⟨rfl, rfl⟩
theorem BytesAt.chg {S : Nat → Prop} {w w' : World} {B h o k : Nat} (b : BytesAt w B h o k) (hc : Chg S w w') (hn : ¬ S h) : BytesAt w' B h o k := by
 have hlt := b.blk.lt
 obtain ⟨cs, hb⟩ := b.blk
 refine ⟨b.lo, ⟨cs, (hc.block h hlt hn).trans hb⟩, fun j hj => ?_⟩
 obtain ⟨x, hx, r⟩ := b.each j hj
 exact ⟨x, (hc.cell (p := ⟨h, _, none⟩) hlt hn).trans hx, r⟩
theorem RowV.chg {S : Nat → Prop} {w w' : World} {B k : Nat} {v : Value} (b : RowV w B v k) (hc : Chg S w w') (hn : ∀ h, Blk w h 5 → ¬ S h) : RowV w' B v k := by
 obtain ⟨h, o, c, e, h1, h2, hb⟩ := b
 exact ⟨h, o, c, e, h1, h2, hb.chg hc (hn h hb.blk)⟩
theorem RowV.base {w : World} {B B' k : Nat} {v : Value} (b : RowV w B v k) (h : B' ≤ B) : RowV w B' v k := by
 obtain ⟨h', o, c, e, h1, h2, hb⟩ := b
 exact ⟨h', o, c, e, h1, h2, Nat.le_trans h hb.lo, hb.blk, hb.each⟩
theorem own_blk {w : World} {B : Nat} {e : TypeId} {z : Nat} {v : Value} {n : Nat} {xs : List Value} (h : w.ownsRow B e z v n xs) {g : Nat} (hg : some g = v.ownBlock) : Blk w g e := by
 rcases h.2 with ⟨rfl, _⟩ | ⟨g', c, cur, rfl, _, hb, _⟩
 ·
  cases hg
 ·
  injection hg with hg
  subst hg
  exact ⟨cur, hb⟩
theorem infoRow : (Tryz.prog.info? 102).map (fun i => (i.zero, i.size, i.bytes)) = some (some (.slice none 0 0), 1, 24) := by kernel_rfl
theorem one_of_drop {l : List Value} {j : Nat} {u : Value} (h : (l.drop (j * 1)).take 1 = [u]) : l[j]? = some u := by
 rw [Nat.mul_one] at h
 rcases Nat.lt_or_ge j l.length with hj | hj
 ·
  rw [List.drop_eq_getElem_cons hj] at h
  simp only [List.take_succ_cons, List.take_zero, List.cons.injEq, and_true] at h
  rw [List.getElem?_eq_getElem hj, h]
 ·
  rw [List.drop_eq_nil_of_le hj] at h; cases h
theorem own_at {w : World} {B : Nat} {e : TypeId} {g c n : Nat} {xs : List Value} {o : Nat} (h : w.ownsRow B e 1 (.slice (some ⟨g, o, none⟩) n c) n xs) {j : Nat} {u : Value} (hu : xs[j]? = some u) : w.cell? ⟨g, j, none⟩ = some u := by
 rcases h.2 with ⟨e, _⟩ | ⟨g', c', cur, e, _, hb, _, _, _, ht⟩
 ·
  cases e
 ·
  injection e with e _ _
  injection e with e
  injection e with e _ _
  subst e
  simp only [World.cell?, hb]
  have hj : j < xs.length := (List.getElem?_eq_some_iff.1 hu).1
  have hl := h.1
  rw [← ht, List.getElem?_take] at hu
  split at hu
  ·
   rw [← Array.getElem?_toList]; exact hu
  ·
   cases hu
theorem rowV_of_R {w : World} {B : Nat} {ok : Nat → Prop} {v : Value} {xs : List Int} (h : Kd.R (Kd.int .u8) 5 w B ok v xs) (h1 : 1 ≤ xs.length) (hx : ∀ x ∈ xs, 0 ≤ x ∧ x ≤ 255) : RowV w B v xs.length := by
 obtain ⟨_, inner, ho, hr⟩ := h
 have ho1 := ho
 obtain ⟨hl, ho⟩ := ho
 rcases ho with ⟨rfl, e⟩ | ⟨g, c, cur, rfl, hB, hb, hc1, hc2, hs, ht⟩
 ·
  omega
 ·
  refine ⟨g, 0, c, rfl, hc1, hc2, hB, ⟨cur, hb⟩, fun j hj => ?_⟩
  have hM := hr.2 j _ (List.getElem?_eq_getElem hj)
  have hc := own_at ho1 (one_of_drop (show _ = [Value.int .u8 xs[j]] from hM))
  exact ⟨_, by rw [Nat.zero_add]; exact hc, hx _ (List.getElem_mem hj)⟩
theorem matV_of_R {w : World} {B : Nat} {ok : Nat → Prop} {v : Value} {xs : List (List Int)} {k : Nat} (h : Kd.R (Kd.slice 5 (Kd.int .u8)) 102 w B ok v xs) (h1 : 1 ≤ xs.length) (hk : 1 ≤ k) (hx : ∀ r ∈ xs, r.length = k ∧ ∀ x ∈ r, 0 ≤ x ∧ x ≤ 255) : MatV w B v xs.length k := by
 obtain ⟨_, inner, ho, hr⟩ := h
 have ho1 := ho
 obtain ⟨hl, ho⟩ := ho
 rcases ho with ⟨rfl, e⟩ | ⟨g, c, cur, rfl, hB, hb, hc1, hc2, hs, ht⟩
 ·
  omega
 ·
  refine ⟨g, c, rfl, hc1, hc2, hB, ⟨cur, hb⟩, fun j hj => ?_⟩
  have hM := hr.2 j _ (List.getElem?_eq_getElem hj)
  obtain ⟨u, hu, hR⟩ := hM
  obtain ⟨hk1, hk2⟩ := hx _ (List.getElem_mem hj)
  refine ⟨u, own_at ho1 (one_of_drop hu), ?_⟩
  rw [← hk1]
  exact rowV_of_R hR (by omega) hk2
theorem made_val : ∀ n k : Nat, n ≤ 1000 → k ≤ 1000 → ∀ i : Nat, i ≤ n → rba.l0 (n - i + 1) (k : Int) (List.replicate i (List.replicate k 0)) (n : Int) (i : Int) = some (List.replicate n (List.replicate k 0)) := by
 intro n k hn hk i hi
 induction hd : n - i generalizing i with
 | zero =>
  obtain rfl : i = n := by omega
  simp [rba.l0]
 | succ d ih =>
  have hw : wrap64 ((i : Int) + 1) = ((i + 1 : Nat) : Int) := by unfold wrap64; omega
  have hr : List.replicate i (List.replicate k (0 : Int)) ++ [List.replicate k 0] = List.replicate (i + 1) (List.replicate k 0) := by rw [List.replicate_succ']
  unfold rba.l0
  rw [if_pos (by omega), if_pos (by omega), if_pos (by simp; omega), if_pos (by simp; omega), hw, Int.toNat_natCast, hr]
  exact ih (i + 1) (by omega) (by omega)
theorem made_any (n k : Nat) (hn1 : 1 ≤ n) (hn : n ≤ 32) (hk1 : 1 ≤ k) (hk : k ≤ 32) (w : World) :
  Calls Tryz.prog 148 #[.int .i64 (n : Int), .int .i64 (k : Int)] w fun e w' => ∃ v, e = .returned v ∧ MatV w' w.heap.size v n k ∧ Below w.heap.size w w' := by
 refine (rba.calls (n + 1) _ _ (List.replicate n (List.replicate k 0)) w (made_val n k (by omega) (by omega) 0 (by omega))).mono ?_
 rintro e w' ⟨v, rfl, hS, hb⟩
 refine ⟨v, rfl, ?_, hb⟩
 have := matV_of_R (k := k) (Kd.S_R hS) (by simp; omega) hk1 (fun r hr => by
  obtain ⟨_, rfl⟩ := List.mem_replicate.1 hr
  exact ⟨by simp, fun x hx => by obtain ⟨_, rfl⟩ := List.mem_replicate.1 hx; omega⟩)
 rwa [List.length_replicate] at this
theorem upTo_val : ∀ n : Nat, n ≤ 1000 → ∀ i : Nat, i ≤ n → ray.l0 (n - i + 1) ((List.range i).map Int.ofNat) (n : Int) (i : Int) = some ((List.range n).map Int.ofNat) := by
 intro n hn i hi
 induction hd : n - i generalizing i with
 | zero =>
  obtain rfl : i = n := by omega
  simp [ray.l0]
 | succ d ih =>
  have hw : wrap64 ((i : Int) + 1) = ((i + 1 : Nat) : Int) := by unfold wrap64; omega
  have hr : (List.range i).map Int.ofNat ++ [(i : Int)] = (List.range (i + 1)).map Int.ofNat := by rw [List.range_succ]; simp
  unfold ray.l0
  rw [if_pos (by omega), if_pos (by simp; omega), hw, hr]
  exact ih (i + 1) (by omega) (by omega)
theorem upTo_any (n : Nat) (hn : n ≤ 32) (w : World) :
  Calls Tryz.prog 112 #[.int .i64 (n : Int)] w fun e w' => ∃ v xs, e = .returned v ∧ w'.ownsRow w.heap.size 3 1 v n xs ∧ (∀ i, i < n → xs[i]? = some (.int .i64 (i : Int))) ∧ Below w.heap.size w w' := by
 refine (ray.calls (n + 1) _ ((List.range n).map Int.ofNat) w (upTo_val n (by omega) 0 (by omega))).mono ?_
 rintro e w' ⟨v, rfl, ⟨_, inner, ho, hr⟩, hb⟩
 rw [List.length_map, List.length_range] at ho
 refine ⟨v, inner, rfl, ho, fun i hi => ?_, hb⟩
 exact one_of_drop (hr.2 i (i : Int) (by simp [hi]))
end Go.Proofs.YtejbpnhondpnfaaGreat
namespace Go.Proofs.YtejbpnhondpnfaaGreat
set_option maxRecDepth 100000
open Go.RowKit
theorem BytesAt.frz {w : World} {B h o k : Nat} (b : BytesAt w B h o k) (j : Nat) : w.frozen? ⟨h, j, none⟩ = false := by
 obtain ⟨cs, hc⟩ := b.blk
 simp [World.frozen?, hc]
set_option maxHeartbeats 2000000 in
theorem one_any (n : Nat) (hn1 : 1 ≤ n) (hn : n ≤ 32) (w : World) :
  Calls Tryz.prog 152 #[.int .i64 (n : Int)] w fun e w' => ∃ v, e = .returned (.tuple #[v, .bool true]) ∧ MatV w' w.heap.size v n n ∧ Below w.heap.size w w' := by
 have hF := Lib.hid (fun W => fits_any n W)
 have hM := Lib.hid (fun W => made_any n n hn1 hn hn1 hn W)
 have d1 : (decide (1 ≤ n) && decide (n ≤ 32)) = true := by simp [hn1, hn]
 rw [d1] at hF
 go_enter Tryz.func152, Tryz.ntmps152
 go_wp2_with (first
  | (go_at_call 147; refine (hF.out _).mono ?_; rintro e w5 ⟨rfl, rfl⟩)
  | (go_at_call 148; refine (hM.out _).mono ?_; rintro e w6 ⟨v, rfl, hV, hb6⟩; obtain ⟨g, c, rfl, hc1, hc2, hR⟩ := hV))
 have HR := Lib.hid hR
 clear hR hF hM
 go_loopw [14] (fun s wr => ∃ i : Nat, s = .int .i64 (i : Int) ∧ i ≤ n ∧ RKept w.heap.size w6 wr) (fun s _ => n - (intOf s).toNat)
 case atStart => exact ⟨0, rfl, by omega, RKept.refl _ _⟩
 case round =>
  obtain ⟨i, rfl, hi, hk⟩ := hrel
  by_cases hlt : i < n
  ·
   have hltz : (i : Int) < (n : Int) := by omega
   obtain ⟨u, hu, h, o, c', rfl, h1, h2, hB⟩ := (HR.out.kept hk).each i hlt
   obtain ⟨x, hx, _⟩ := hB.each i hlt
   have q3 : i < c' := by omega
   have hfz := hB.frz (o + i)
   have hB2 := Lib.hid hB
   clear hB
   go_wp2_with fail
   go_roundw
   case rel => exact ⟨i + 1, by go_num, by omega, hk.trans (RKept.set hB2.out.blk hB2.out.lo (by omega) (by omega))⟩
   case measure => simp [intOf]; omega
  ·
   have hltz : ¬ (i : Int) < (n : Int) := by omega
   go_wp2_with fail
   go_ret2
   exact ⟨_, rfl, MatV.kept ⟨g, c, rfl, hc1, hc2, HR.out⟩ hk, hb6.trans hk.below⟩
theorem xor_u8 (y r : Nat) (hy : y ≤ 255) (hr : r ≤ 255) : ∃ z : Nat, z ≤ 255 ∧ Go.bits .xor .u8 (y : Int) (r : Int) = (z : Int) := by
 refine ⟨(Go.bits .xor .u8 (y : Int) (r : Int)).toNat, ?_, ?_⟩ <;>
 ·
  have h : 0 ≤ Go.bits .xor .u8 (y : Int) (r : Int) ∧ Go.bits .xor .u8 (y : Int) (r : Int) < 256 := by
   unfold Go.bits
   simp only
   rw [IntKind.wrap_u8]
   omega
  omega
theorem mul_is (g a b : Nat) (ha : a ≤ 255) (hb : b ≤ 255) (w : World) (h : FieldAt w g) :
  ∃ r : Nat, r ≤ 255 ∧ ∀ W, (∃ n, W = w.drewN n) → Calls Tryz.prog 187 #[.pointer (some ⟨g, 0, none⟩), .int .u8 (a : Int), .int .u8 (b : Int)] W fun e W' => e = .returned (.int .u8 (r : Int)) ∧ ∃ n, W' = w.drewN n := by
 by_cases a0 : a = 0
 ·
  subst a0
  refine ⟨0, by omega, ?_⟩
  rintro W ⟨n, rfl⟩
  go_enter Tryz.func187, Tryz.ntmps187
  go_wp2_with fail
  go_ret
  exact ⟨rfl, n, rfl⟩
 by_cases b0 : b = 0
 ·
  subst b0
  have a1 : ((a : Int) == 0) = false := by rw [beq_eq_false_iff_ne]; omega
  refine ⟨0, by omega, ?_⟩
  rintro W ⟨n, rfl⟩
  go_enter Tryz.func187, Tryz.ntmps187
  go_wp2_with fail
  go_ret
  exact ⟨rfl, n, rfl⟩
 obtain ⟨y, hy, ly⟩ := h.logN a ha
 obtain ⟨z, hz, lz⟩ := h.logN b hb
 obtain ⟨x, hx, lx⟩ := h.expN (y + z) (by omega)
 refine ⟨x, hx, ?_⟩
 rintro W ⟨n, rfl⟩
 replace ly : (w.drewN n).cell? ⟨g, 510 + a, none⟩ = _ := ly
 replace lz : (w.drewN n).cell? ⟨g, 510 + b, none⟩ = _ := lz
 replace lx : (w.drewN n).cell? ⟨g, y + z, none⟩ = _ := lx
 obtain ⟨W, hW⟩ : ∃ W, W = w.drewN n := ⟨_, rfl⟩
 rw [← hW] at ly lz lx ⊢
 have HW := Lib.hid hW
 clear hW
 have a1 : ((a : Int) == 0) = false := by rw [beq_eq_false_iff_ne]; omega
 have b1 : ((b : Int) == 0) = false := by rw [beq_eq_false_iff_ne]; omega
 have q1 : (a : Int) < 256 := by omega
 have q2 : (b : Int) < 256 := by omega
 have q3 : (y : Int) + (z : Int) < 510 := by omega
 go_enter Tryz.func187, Tryz.ntmps187
 go_wp2_with fail
 go_quiet (fail)
 go_wp2_with fail
 go_ret
 exact ⟨rfl, n + nq, by rw [HW.out, World.drewN_drewN]⟩
set_option maxHeartbeats 2000000 in
theorem dot_any (g k : Nat) (a b : Value) (hk : k ≤ 32) (w : World) (hF : FieldAt w g) {B : Nat} (ha : RowV w B a k) (hb : RowV w B b k) :
  Calls Tryz.prog 156 #[.pointer (some ⟨g, 0, none⟩), a, b] w fun e w' => ∃ r : Nat, r ≤ 255 ∧ e = .returned (.tuple #[.int .u8 (r : Int), .bool true]) ∧ Below w.heap.size w w' := by
 obtain ⟨h, o, c, rfl, h1, h2, hA⟩ := ha
 obtain ⟨h', o', c', rfl, h1', h2', hB⟩ := hb
 have HA := Lib.hid hA
 have HB := Lib.hid hB
 have HF := Lib.hid hF
 clear hA hB hF
 go_enter Tryz.func156, Tryz.ntmps156
 go_wp2_with fail
 go_loopw [8, 21] (fun s8 s wr => ∃ i y : Nat, s8 = .int .u8 (y : Int) ∧ s = .int .i64 (i : Int) ∧ y ≤ 255 ∧ i ≤ k ∧ Below w.heap.size w wr) (fun _ s _ => k - (intOf s).toNat)
 case atStart => exact ⟨0, 0, rfl, rfl, by omega, by omega, Below.refl _ _⟩
 case round =>
  obtain ⟨i, y, rfl, rfl, hy, hi, hb⟩ := hrel
  by_cases hlt : i < k
  ·
   have hltz : (i : Int) < (k : Int) := by omega
   have hkp : RKept w.heap.size w wr := RKept.of_below hb (Nat.le_refl _)
   obtain ⟨x, hx, hx0, hx1⟩ := (HA.out.kept hkp).each i hlt
   obtain ⟨z, hz, hz0, hz1⟩ := (HB.out.kept hkp).each i hlt
   obtain ⟨x, rfl⟩ := Int.eq_ofNat_of_zero_le hx0
   obtain ⟨z, rfl⟩ := Int.eq_ofNat_of_zero_le hz0
   obtain ⟨r, hr, hM⟩ := mul_is g x z (by omega) (by omega) wr (HF.out.kept hkp)
   have HM := Lib.hid hM
   have hxr := xor_u8 y r hy hr
   clear hkp hM
   have q1 : (i : Int) < (c : Int) := by omega
   have q2 : (i : Int) < (c' : Int) := by omega
   go_wp2_with fail
   go_quiet ((go_at_call 187; exact (HM.out _ ⟨_, rfl⟩)))
   obtain ⟨z', hz', hzb⟩ := hxr
   rw [hzb]
   go_wp2_with fail
   go_roundw
   case rel => exact ⟨i + 1, z', rfl, by go_num, hz', by omega, ⟨hb.os, hb.tape, hb.output, hb.size, hb.block⟩⟩
   case measure => simp [intOf]; omega
  ·
   have hltz : ¬ (i : Int) < (k : Int) := by omega
   go_wp2_with fail
   go_ret2
   exact ⟨y, hy, rfl, hb⟩
theorem right1_any (g : Nat) (v u : Value) (n k : Nat) (hn1 : 1 ≤ n) (W : World) {B : Nat} (hg : W.heap[g]? = some (.cells #[v] 160 (0, 0))) (hV : MatV W B v n k) (hu : RowV W B u k) (hk : k ≤ 32) :
  Calls Tryz.prog 184 (#[u] ++ #[.pointer (some ⟨g, 0, none⟩)]) W fun e w' => e = .returned (.bool false) ∧ Below W.heap.size W w' := by
 obtain ⟨h, o, c, rfl, h1, h2, hB⟩ := hu
 obtain ⟨g', c', rfl, h3, h4, hR⟩ := hV
 obtain ⟨u0, hu0, h', o', c2, rfl, h1', h2', hB'⟩ := hR.each 0 (by omega)
 have hc0 := one_cell hg
 have q1 : (0 : Int) < (n : Int) := by omega
 have q2 : ((k : Int) != (k : Int)) = false := by simp
 clear hR hB hB' hg
 go_enter Tryz.func184, Tryz.ntmps184
 go_wp2_with fail
 go_ret
 exact ⟨rfl, Below.refl _ _⟩
theorem idxRow_any (g c n k : Nat) (f : Nat) (cb : Array Value) (w : World) (B : Nat) (eg : ∀ args w, (callFunc f args).run Tryz.prog w = .ok (.enter f args) w) (hL : RowsAt w B g n k) (hn : n ≤ 1000)
  (ht : ∀ W, Below w.heap.size w W → ∀ u, RowV W B u k → Calls Tryz.prog f (#[u] ++ cb) W fun e w' => e = .returned (.bool false) ∧ Below W.heap.size W w') :
  Calls Tryz.prog 214 #[.slice (some ⟨g, 0, none⟩) n c, .func (.func f) #[] cb] w fun e w' => e = .returned (.int .i64 (-1)) ∧ Below w.heap.size w w' := by
 have HT := Lib.hid ht
 have HL := Lib.hid hL
 clear ht hL
 go_enter Tryz.func214, Tryz.ntmps214
 go_wp2
 go_loopw [8] (fun s wr => ∃ i : Nat, i ≤ n ∧ s = .int .i64 (i : Int) ∧ Below w.heap.size w wr) (fun s _ => n - (intOf s).toNat)
 case atStart => exact ⟨0, by omega, rfl, Below.refl _ _⟩
 case round =>
  obtain ⟨i, hi, rfl, hb⟩ := hrel
  by_cases hlt : i < n
  ·
   obtain ⟨u, hu, hr⟩ := (HL.out.kept (RKept.of_below hb (Nat.le_refl _))).each i hlt
   have hcall := HT.out wr hb u hr
   have hltz : (i : Int) < (n : Int) := by omega
   clear hr
   go_wp2_with (go_at_fn f; refine hcall.mono ?_; rintro e w' ⟨rfl, hb2⟩)
   go_roundw
   case rel => exact ⟨i + 1, by omega, by go_num, hb.trans (hb2.mono hb.size)⟩
   case measure => simp [intOf]; omega
  ·
   obtain rfl : i = n := by omega
   have hltz : ¬ (i : Int) < (i : Int) := by omega
   go_wp2
   go_ret
   exact ⟨rfl, hb⟩
theorem conRow_any (g c n k : Nat) (f : Nat) (cb : Array Value) (w : World) (B : Nat) (eg : ∀ args w, (callFunc f args).run Tryz.prog w = .ok (.enter f args) w) (hL : RowsAt w B g n k) (hn : n ≤ 1000)
  (ht : ∀ W, Below w.heap.size w W → ∀ u, RowV W B u k → Calls Tryz.prog f (#[u] ++ cb) W fun e w' => e = .returned (.bool false) ∧ Below W.heap.size W w') :
  Calls Tryz.prog 183 #[.slice (some ⟨g, 0, none⟩) n c, .func (.func f) #[] cb] w fun e w' => e = .returned (.bool false) ∧ Below w.heap.size w w' := by
 have HT := Lib.hid (idxRow_any g c n k f cb w B eg hL hn ht)
 clear ht hL
 go_enter Tryz.func183, Tryz.ntmps183
 go_wp2_with (go_at_call 214; refine HT.out.mono ?_; rintro e w5 ⟨rfl, hb⟩)
 go_ret
 exact ⟨rfl, hb⟩
theorem right_any (v : Value) (n k : Nat) (hn1 : 1 ≤ n) (hn : n ≤ 32) (hk1 : 1 ≤ k) (hk : k ≤ 32) (w : World) {B : Nat} (hV : MatV w B v n k) :
  Calls Tryz.prog 150 #[v] w fun e w' => e = .returned (.bool true) ∧ Below w.heap.size w w' := by
 obtain ⟨W1, hW1⟩ : ∃ W1, W1 = w.alloc (.cells #[v] 160 (0, 0)) := ⟨_, rfl⟩
 have hb1 : Below w.heap.size w W1 := by rw [hW1]; exact (Below.refl _ w).alloc (Nat.le_refl _) _
 have hg : W1.heap[w.heap.size]? = some (.cells #[v] 160 (0, 0)) := by rw [hW1]; exact heap_alloc_new w _
 have hV1 : MatV W1 B v n k := hV.kept (RKept.of_below hb1 (Nat.le_refl _))
 have HC := fun c g' (hR : RowsAt W1 B g' n k) => conRow_any g' c n k 184 #[.pointer (some ⟨w.heap.size, 0, none⟩)] W1 B (fun args w => by go_simp) hR (by omega) (fun W hb u hu =>
  right1_any w.heap.size v u n k hn1 W ((hb.block _ (by rw [hW1]; simp)).trans hg) (hV1.kept (RKept.of_below hb (Nat.le_refl _))) hu hk)
 obtain ⟨g', c', rfl, h3, h4, hR⟩ := hV1
 obtain ⟨u0, hu0, h', o', c2, rfl, h1', h2', hB'⟩ := hR.each 0 (by omega)
 have HCC := Lib.hid (HC c' g' hR)
 have hc0 := one_cell hg
 have q0 : (0 : Int) < (n : Int) := by omega
 have q1 : ¬ (n : Int) < 1 := by omega
 have q2 : ¬ (32 : Int) < (n : Int) := by omega
 have q3 : ¬ (k : Int) < 1 := by omega
 have q4 : ¬ (32 : Int) < (k : Int) := by omega
 clear hR hB' hg HC hV
 go_enter Tryz.func150, Tryz.ntmps150
 go_wp2_with (first
  | (rw [← hW1]; clear hW1)
  | (go_at_call 183; refine HCC.out.mono ?_; rintro e w5 ⟨rfl, hb⟩))
 go_ret
 exact ⟨rfl, hb1.trans (hb.mono hb1.size)⟩
theorem right_nil (w : World) : Calls Tryz.prog 150 #[.slice none 0 0] w fun e w' => e = .returned (.bool false) ∧ Below w.heap.size w w' := by
 obtain ⟨W1, hW1⟩ : ∃ W1, W1 = w.alloc (.cells #[.slice none 0 0] 160 (0, 0)) := ⟨_, rfl⟩
 have hb1 : Below w.heap.size w W1 := by rw [hW1]; exact (Below.refl _ w).alloc (Nat.le_refl _) _
 have hg : W1.heap[w.heap.size]? = some (.cells #[.slice none 0 0] 160 (0, 0)) := by rw [hW1]; exact heap_alloc_new w _
 have hc0 := one_cell hg
 clear hg
 go_enter Tryz.func150, Tryz.ntmps150
 go_wp2_with (first
  | (rw [← hW1]; clear hW1))
 go_ret
 exact ⟨rfl, hb1⟩
theorem below_drew' {B : Nat} {w W : World} (h : Below B w W) : Below B w W.drew := ⟨h.os, h.tape, h.output, h.size, h.block⟩
theorem infoU8 : (Tryz.prog.info? 5).map (fun i => (i.zero, i.size, i.bytes)) = some (some (.int .u8 0), 1, 1) := by kernel_rfl
theorem rowV_of_own {w : World} {B : Nat} {v : Value} {n : Nat} {xs : List Value} (h : w.ownsRow B 5 1 v n xs) (h1 : 1 ≤ n) (hx : ∀ u ∈ xs, ∃ x : Int, u = .int .u8 x ∧ 0 ≤ x ∧ x ≤ 255) : RowV w B v n := by
 have ho1 := h
 obtain ⟨hl, ho⟩ := h
 rcases ho with ⟨rfl, e⟩ | ⟨g, c, cur, rfl, hB, hb, hc1, hc2, hs, ht⟩
 ·
  omega
 ·
  refine ⟨g, 0, c, rfl, hc1, hc2, hB, ⟨cur, hb⟩, fun j hj => ?_⟩
  have hj' : j < xs.length := by omega
  obtain ⟨x, hx, r⟩ := hx _ (List.getElem_mem hj')
  exact ⟨x, by rw [Nat.zero_add, ← hx]; exact own_at ho1 (List.getElem?_eq_getElem hj'), r⟩
theorem src_one_u8 (w : World) (vb : Nat) (c : Int) (hs : w.heap[vb]? = some (.cells #[.int .u8 c] 5 (0, 0))) : Src Tryz.prog 1 102 (.slice (some ⟨vb, 0, none⟩) 1 1) 1 [.int .u8 c] w :=
 Src.ofSlice w Tryz.underlying102 ⟨vb, 0, none⟩ 1 1 [.int .u8 c] rfl (fun j u hu => by
  obtain rfl : j = 0 := by have := (List.getElem?_eq_some_iff.1 hu).1; simpa using this
  rw [Addr.add_lit]
  simp at hu
  subst hu
  simp [World.cell?, hs]) (fun u hu => by simp at hu; subst hu; rfl)
set_option maxHeartbeats 2000000 in
theorem column_any (v : Value) (n k at_ : Nat) (hn1 : 1 ≤ n) (hn : n ≤ 32) (ha : at_ < k) (hk : k ≤ 32) (w : World) {B : Nat} (hV : MatV w B v n k) :
  Calls Tryz.prog 155 #[v, .int .i64 (at_ : Int)] w fun e w' => ∃ u, e = .returned u ∧ RowV w' w.heap.size u n ∧ Below w.heap.size w w' := by
 obtain ⟨g, c, rfl, h1, h2, hR⟩ := hV
 obtain ⟨i0, hi0, hz0, hz1, hz2⟩ := info_parts infoU8
 have HR := Lib.hid hR
 clear hR
 go_enter Tryz.func155, Tryz.ntmps155
 go_wp2_with fail
 go_loopw [5, 10] (fun s5 s wr => ∃ (i : Nat) (xs : List Value), s = .int .i64 (i : Int) ∧ i ≤ n ∧ wr.ownsRow w.heap.size 5 1 s5 i xs ∧ Hid (∀ u ∈ xs, ∃ x : Int, u = .int .u8 x ∧ 0 ≤ x ∧ x ≤ 255) ∧ Below w.heap.size w wr) (fun _ s _ => n - (intOf s).toNat)
 case atStart => exact ⟨0, [], rfl, by omega, ⟨rfl, .inl ⟨rfl, rfl⟩⟩, Lib.hid (fun u hu => by cases hu), Below.refl _ _⟩
 case round =>
  obtain ⟨i, xs, rfl, hi, hrow, HX, hb⟩ := hrel
  obtain ⟨av', cv', rfl, hcv, hcv2, _⟩ := own_val hrow
  by_cases hlt : i < n
  ·
   obtain ⟨u, hu, h', o', c2, rfl, h1', h2', hB'⟩ := (HR.out.kept (RKept.of_below hb (Nat.le_refl _))).each i hlt
   obtain ⟨x, hx, hx0, hx1⟩ := hB'.each at_ ha
   have hltz : (i : Int) < (n : Int) := by omega
   have q1 : (at_ : Int) < (k : Int) := by omega
   have HXR := Lib.hid (And.intro hx0 hx1)
   clear hB' hx0 hx1
   go_wp2_with (at_builtin; refine wpList_append_src rfl _ _ 102 102 rfl w.heap.size 5 i0 _ 1 1 Tryz.underlying102 hi0 hz0 hz1 hz2 rfl (by decide) _ _ _ rfl (hrow.alloc _) _ 1 _ rfl (src_one_u8 _ _ _ (heap_alloc_new _ _)) (by unfold maxLen; omega) (by omega) (by have := hb.size; simp; omega) ?_; intro v2 w2 hrow2 hch2 hnew2)
   go_roundw
   case rel =>
    refine ⟨i + 1, _, by go_num, by omega, hrow2, Lib.hid (fun u hu => ?_), ?_⟩
    ·
     rcases List.mem_append.1 hu with hu | hu
     ·
      exact HX.out u hu
     ·
      exact ⟨x, by simpa using hu, HXR.out⟩
    ·
     exact (hb.alloc hb.size _).trans (hch2.below (by have := hb.size; simp; omega) (fun q hq => (own_lt hrow q hq).1))
   case measure => simp [intOf]; omega
  ·
   obtain rfl : i = n := by omega
   have hltz : ¬ (i : Int) < (i : Int) := by omega
   go_wp2
   go_ret
   exact ⟨_, rfl, rowV_of_own hrow (by omega) HX.out, hb⟩
set_option maxHeartbeats 2000000 in
theorem scale_any (g k b : Nat) (v : Value) (hb : b ≤ 255) (hk : k ≤ 32) (w : World) {B : Nat} (hF : FieldAt w g) (hV : RowV w B v k) :
  Calls Tryz.prog 153 #[.pointer (some ⟨g, 0, none⟩), v, .int .u8 (b : Int)] w fun e w' => e = .returned (.tuple #[]) ∧ RKept B w w' := by
 obtain ⟨h, o, c, rfl, h1, h2, hA⟩ := hV
 have HA := Lib.hid hA
 have HF := Lib.hid hF
 clear hA hF
 go_enter Tryz.func153, Tryz.ntmps153
 go_wp2_with fail
 go_loopw [9] (fun s wr => ∃ i : Nat, s = .int .i64 (i : Int) ∧ i ≤ k ∧ RKept B w wr) (fun s _ => k - (intOf s).toNat)
 case atStart => exact ⟨0, rfl, by omega, RKept.refl _ _⟩
 case round =>
  obtain ⟨i, rfl, hi, hkp⟩ := hrel
  by_cases hlt : i < k
  ·
   have hltz : (i : Int) < (k : Int) := by omega
   obtain ⟨x, hx, hx0, hx1⟩ := (HA.out.kept hkp).each i hlt
   obtain ⟨x, rfl⟩ := Int.eq_ofNat_of_zero_le hx0
   have HD := Lib.hid (fdiv_any g x b (by omega) hb wr (HF.out.kept hkp))
   have HB := Lib.hid (HA.out.kept hkp)
   have q1 : (i : Int) < (c : Int) := by omega
   have HXR := Lib.hid (And.intro hx0 hx1)
   clear hx0 hx1
   go_wp2_with (go_at_call 185; refine HD.out.mono ?_; rintro e w5 ⟨r, q, hr, rfl, hb5⟩; have hkp5 := RKept.of_below hb5 (B := B) (by have := HB.out.lo; have := HB.out.blk.lt; omega); have HB5 := Lib.hid (HB.out.kept hkp5); obtain ⟨x5, hx5, _⟩ := HB5.out.each i hlt; have hfz5 := HB5.out.frz (o + i))
   go_roundw
   case rel => exact ⟨i + 1, by go_num, by omega, (hkp.trans hkp5).trans (RKept.set HB5.out.blk HB5.out.lo (by omega) (by omega))⟩
   case measure => simp [intOf]; omega
  ·
   have hltz : ¬ (i : Int) < (k : Int) := by omega
   go_wp2_with fail
   go_end0
   exact ⟨rfl, hkp⟩
theorem add_any (x y : Nat) (hx : x ≤ 255) (hy : y ≤ 255) (w : World) : Calls Tryz.prog 186 #[.int .u8 (x : Int), .int .u8 (y : Int)] w fun e w' => ∃ r : Nat, r ≤ 255 ∧ e = .returned (.int .u8 (r : Int)) ∧ Below w.heap.size w w' := by
 obtain ⟨z, hz, hzb⟩ := xor_u8 x y hx hy
 go_enter Tryz.func186, Tryz.ntmps186
 go_wp2_with fail
 go_ret
 exact ⟨z, hz, rfl, Below.refl _ _⟩
set_option maxHeartbeats 2000000 in
theorem less_any (g k b : Nat) (v u : Value) (hb : b ≤ 255) (hk : k ≤ 32) (w : World) {B : Nat} (hF : FieldAt w g) (hV : RowV w B v k) (hU : RowV w B u k) :
  Calls Tryz.prog 154 #[.pointer (some ⟨g, 0, none⟩), v, u, .int .u8 (b : Int)] w fun e w' => e = .returned (.tuple #[]) ∧ RKept B w w' := by
 obtain ⟨h, o, c, rfl, h1, h2, hA⟩ := hV
 obtain ⟨h', o', c', rfl, h1', h2', hA'⟩ := hU
 have HA := Lib.hid hA
 have HA' := Lib.hid hA'
 have HF := Lib.hid hF
 clear hA hA' hF
 go_enter Tryz.func154, Tryz.ntmps154
 go_wp2_with fail
 go_loopw [11] (fun s wr => ∃ i : Nat, s = .int .i64 (i : Int) ∧ i ≤ k ∧ RKept B w wr) (fun s _ => k - (intOf s).toNat)
 case atStart => exact ⟨0, rfl, by omega, RKept.refl _ _⟩
 case round =>
  obtain ⟨i, rfl, hi, hkp⟩ := hrel
  by_cases hlt : i < k
  ·
   have hltz : (i : Int) < (k : Int) := by omega
   obtain ⟨x, hx, hx0, hx1⟩ := (HA.out.kept hkp).each i hlt
   obtain ⟨x, rfl⟩ := Int.eq_ofNat_of_zero_le hx0
   obtain ⟨z, hz, hz0, hz1⟩ := (HA'.out.kept hkp).each i hlt
   obtain ⟨z, rfl⟩ := Int.eq_ofNat_of_zero_le hz0
   have hBw : B ≤ wr.heap.size := by have := (HA.out.kept hkp).lo; have := (HA.out.kept hkp).blk.lt; omega
   have HM := Lib.hid (fun (y : Nat) W (hy : y ≤ 255) (hW : Below wr.heap.size wr W) => (mul_any g y b hy hb W (HF.out.kept (hkp.trans (RKept.of_below hW hBw)))).mono
    (R' := fun e W' => ∃ r : Nat, r ≤ 255 ∧ e = .returned (.int .u8 (r : Int)) ∧ Below wr.heap.size wr W') (fun e W' ⟨r, h1, h2, h3⟩ => ⟨r, h1, h2, hW.trans (h3.mono hW.size)⟩))
   have HD := Lib.hid (fun (y z : Nat) W (hy : y ≤ 255) (hz : z ≤ 255) (hW : Below wr.heap.size wr W) => (add_any y z hy hz W).mono
    (R' := fun e W' => ∃ r : Nat, r ≤ 255 ∧ e = .returned (.int .u8 (r : Int)) ∧ Below wr.heap.size wr W') (fun e W' ⟨r, h1, h2, h3⟩ => ⟨r, h1, h2, hW.trans (h3.mono hW.size)⟩))
   have HK : Hid (∀ W, Below wr.heap.size wr W → (W.cell? ⟨h, o + i, none⟩ = some (.int .u8 (x : Int)) ∧ W.frozen? ⟨h, o + i, none⟩ = false) ∧ W.cell? ⟨h', o' + i, none⟩ = some (.int .u8 (z : Int))) := Lib.hid fun W hW =>
    ⟨⟨(hW.cell (p := ⟨h, _, none⟩) (HA.out.kept hkp).blk.lt).trans hx, ((HA.out.kept hkp).kept (RKept.of_below hW hBw)).frz _⟩, (hW.cell (p := ⟨h', _, none⟩) (HA'.out.kept hkp).blk.lt).trans hz⟩
   have q1 : (i : Int) < (c : Int) := by omega
   have hb0 := Below.refl wr.heap.size wr
   have hb1 := below_drew' hb0
   obtain ⟨⟨hx0', hfz0⟩, hz0'⟩ := HK.out _ hb0
   clear hx hz
   go_wp2_with fail
   go_region_law (first
     | (go_simp; go_at_call 187; refine (HM.out _ _ ?_ ?_).mono ?_; (omega); (assumption); rintro e w9 ⟨r, hr, rfl, hp9⟩; obtain ⟨⟨hx9, hfz9⟩, hz9⟩ := HK.out _ hp9)
     | (go_simp; go_at_call 186; refine (HD.out _ _ _ ?_ ?_ ?_).mono ?_; (omega); (omega); (assumption); rintro e w10 ⟨r2, hr2, rfl, hp10⟩; obtain ⟨⟨hx10, hfz10⟩, hz10⟩ := HK.out _ hp10))
   all_goals
    have hkq := hkp.trans (RKept.of_below hp10 hBw)
    have hbs := HA.out.kept hkq
    go_wp2_with fail
    go_roundw
    case rel => exact ⟨i + 1, by go_num, by omega, hkq.trans (RKept.set hbs.blk hbs.lo (by omega) (by omega))⟩
    case measure => simp [intOf]; omega
  ·
   have hltz : ¬ (i : Int) < (k : Int) := by omega
   go_wp2_with fail
   go_end0
   exact ⟨rfl, hkp⟩
set_option maxHeartbeats 4000000 in
theorem powers_any (n k : Nat) (hn1 : 1 ≤ n) (hn : n ≤ 32) (hk1 : 1 ≤ k) (hk : k ≤ 32) (w : World) :
  Calls Tryz.prog 110 #[.int .i64 (n : Int), .int .i64 (k : Int)] w fun e w' => ∃ v, e = .returned (.tuple #[v, .bool true]) ∧ MatV w' w.heap.size v n k ∧ Below w.heap.size w w' := by
 have hF := Lib.hid (fun W => fits_any n W)
 have hG := Lib.hid (fun W => fits_any k W)
 have hM := Lib.hid (fun W => made_any n k hn1 hn hk1 hk W)
 have d1 : (decide (1 ≤ n) && decide (n ≤ 32)) = true := by simp [hn1, hn]
 have d2 : (decide (1 ≤ k) && decide (k ≤ 32)) = true := by simp [hk1, hk]
 rw [d1] at hF
 rw [d2] at hG
 go_enter Tryz.func110, Tryz.ntmps110
 go_wp2_with (first
  | (go_at_call 147; refine (hF.out _).mono ?_; rintro e w5 ⟨rfl, rfl⟩)
  | (go_at_call 147; refine (hG.out _).mono ?_; rintro e w5 ⟨rfl, rfl⟩)
  | (go_at_call 115; refine (newField_any _).mono ?_; rintro e w5 ⟨f, rfl, hFl, hfl, hb5⟩)
  | (go_at_call 148; refine (hM.out _).mono ?_; rintro e w6 ⟨v, rfl, hV, hb6⟩; obtain ⟨g, c, rfl, hc1, hc2, hR⟩ := hV))
 have hF6 := hFl.kept (RKept.of_below hb6 (Nat.le_refl _))
 have hbw : Below w.heap.size w w6 := hb5.trans (hb6.mono hb5.size)
 have hR' : RowsAt w6 w.heap.size g n k := ⟨Nat.le_trans hb5.size hR.lo, hR.blk, fun i hi => by
  obtain ⟨u, hu, hr⟩ := hR.each i hi
  exact ⟨u, hu, hr.base hb5.size⟩⟩
 have HR := Lib.hid hR'
 have HF := Lib.hid hF6
 clear hR hR' hF hG hM hF6 hFl hfl hb5 hb6
 go_loopw [24] (fun s wr => ∃ i : Nat, s = .int .i64 (i : Int) ∧ i ≤ n ∧ RKept w.heap.size w6 wr) (fun s _ => n - (intOf s).toNat)
 case atStart => exact ⟨0, rfl, by omega, RKept.refl _ _⟩
 case round =>
  obtain ⟨i, rfl, hi, hkp⟩ := hrel
  by_cases hlt : i < n
  ·
   have hltz : (i : Int) < (n : Int) := by omega
   go_wp2_with fail
   go_loopw [28] (fun s wr => ∃ j : Nat, s = .int .i64 (j : Int) ∧ j ≤ k ∧ RKept w.heap.size w6 wr) (fun s _ => k - (intOf s).toNat)
   case atStart => exact ⟨0, rfl, by omega, hkp⟩
   case round =>
    obtain ⟨j, rfl, hj, hkr⟩ := hrel
    by_cases hlu : j < k
    ·
     have hluz : (j : Int) < (k : Int) := by omega
     obtain ⟨u, hu, h, o, c', rfl, h1, h2, hB⟩ := (HR.out.kept hkr).each i hlt
     obtain ⟨x, hx, _⟩ := hB.each j hlu
     have hgb := (HR.out.kept hkr).blk.lt
     have hhb := hB.blk.lt
     have hBw : w.heap.size ≤ wr.heap.size := Nat.le_trans hB.lo (Nat.le_of_lt hhb)
     have HB := Lib.hid hB
     have HM := Lib.hid (fun W (hW : Below wr.heap.size wr W) => (pow_any f i j (by omega) (by omega) W (HF.out.kept (hkr.trans (RKept.of_below hW hBw)))).mono
      (R' := fun e W' => ∃ r : Nat, r ≤ 255 ∧ e = .returned (.int .u8 (r : Int)) ∧ Below wr.heap.size wr W') (fun e W' ⟨r, h1, h2, h3⟩ => ⟨r, h1, h2, hW.trans (h3.mono hW.size)⟩))
     have HK : Hid (∀ W, Below wr.heap.size wr W → (W.cell? ⟨g, i, none⟩ = some (.slice (some ⟨h, o, none⟩) k c') ∧ W.cell? ⟨h, o + j, none⟩ = some (.int .u8 x) ∧ W.frozen? ⟨h, o + j, none⟩ = false)) := Lib.hid fun W hW =>
      ⟨(hW.cell (p := ⟨g, _, none⟩) hgb).trans hu, (hW.cell (p := ⟨h, _, none⟩) hhb).trans hx, (HB.out.kept (RKept.of_below hW hBw)).frz _⟩
     have q1 : (j : Int) < (c' : Int) := by omega
     have q2 : IntKind.u8.wrap (i : Int) = (i : Int) := by rw [IntKind.wrap_u8]; omega
     have hb0 := Below.refl wr.heap.size wr
     have hb1 := below_drew' hb0
     obtain ⟨hu0, hx0, hfz0⟩ := HK.out _ hb0
     clear hu hx hB hgb hhb
     go_wp2_with fail
     go_region_law (first
      | (go_simp; go_at_call 149; refine (HM.out _ ?_).mono ?_; (assumption); rintro e w9 ⟨r, hr, rfl, hp9⟩; obtain ⟨hu9, hx9, hfz9⟩ := HK.out _ hp9))
     all_goals
      have hkq := hkr.trans (RKept.of_below hp9 hBw)
      have hbs := HB.out.kept (RKept.of_below hp9 hBw)
      go_wp2_with fail
      go_roundw
      case rel => exact ⟨j + 1, by go_num, by omega, hkq.trans (RKept.set hbs.blk hbs.lo (by omega) (by omega))⟩
      case measure => simp [intOf]; omega
    ·
     have hluz : ¬ (j : Int) < (k : Int) := by omega
     go_wp2_with fail
     go_roundw
     case rel => exact ⟨i + 1, by go_num, by omega, hkr⟩
     case measure => simp [intOf]; omega
  ·
   have hltz : ¬ (i : Int) < (n : Int) := by omega
   go_wp2_with fail
   go_ret2
   exact ⟨_, rfl, MatV.kept ⟨g, c, rfl, hc1, hc2, HR.out⟩ hkp, hbw.trans hkp.below⟩
theorem bytes_list {w : World} {B h o : Nat} : ∀ {k : Nat}, BytesAt w B h o k → ∃ xs : List Value, xs.length = k ∧ (∀ u ∈ xs, ∃ x : Int, u = .int .u8 x ∧ 0 ≤ x ∧ x ≤ 255) ∧ ∀ (j : Nat) u, xs[j]? = some u → w.cell? ⟨h, o + j, none⟩ = some u
 | 0, _ => ⟨[], rfl, fun u hu => by (cases hu), fun j u hu => by simp at hu⟩
 | k + 1, b => by
  obtain ⟨xs, hl, hx, hc⟩ := bytes_list (k := k) ⟨b.lo, b.blk, fun j hj => b.each j (by omega)⟩
  obtain ⟨y, hy, r⟩ := b.each k (by omega)
  refine ⟨xs ++ [.int .u8 y], by simp [hl], fun u hu => ?_, fun j u hu => ?_⟩
  ·
   rcases List.mem_append.1 hu with hu | hu
   ·
    exact hx u hu
   ·
    exact ⟨y, by simpa using hu, r⟩
  ·
   rcases Nat.lt_or_ge j xs.length with hj | hj
   ·
    rw [List.getElem?_append_left hj] at hu; exact hc j u hu
   ·
    rw [List.getElem?_append_right hj] at hu
    obtain rfl : j = xs.length := by
     have := (List.getElem?_eq_some_iff.1 hu).1
     simp at this; omega
    simp at hu
    subst hu
    rw [hl]; exact hy
theorem clone_any (v : Value) (k : Nat) (hk1 : 1 ≤ k) (hk : k ≤ 32) (w : World) {B : Nat} (hV : RowV w B v k) :
  Calls Tryz.prog 151 #[v] w fun e w' => ∃ u, e = .returned u ∧ RowV w' w.heap.size u k ∧ Below w.heap.size w w' := by
 obtain ⟨h, o, c, rfl, h1, h2, hA⟩ := hV
 obtain ⟨i0, hi0, hz0, hz1, hz2⟩ := info_parts infoU8
 have hhb := hA.blk.lt
 obtain ⟨xs, hl, hx, hc⟩ := bytes_list hA
 have HX := Lib.hid hx
 have HC := Lib.hid hc
 clear hx hc hA
 have hcmp : ∀ W : World, (binOp .eql 102 (.slice (some ⟨h, o, none⟩) k c) (.slice none 0 0)).run Tryz.prog W = .ok (.bool false) W := fun W => run_eql_slice_nil W 102 5 _ _ _ Tryz.underlying102
 go_enter Tryz.func151, Tryz.ntmps151
 have hown : (w.alloc (.cells #[] 5)).ownsRow w.heap.size 5 1 (.slice (some ⟨w.heap.size, 0, none⟩) 0 0) 0 [] := ⟨rfl, .inr ⟨_, _, _, rfl, Nat.le_refl _, heap_alloc_new _ _, Nat.le_refl _, Nat.zero_le _, rfl, rfl⟩⟩
 have hsrc : Src Tryz.prog 1 102 (.slice (some ⟨h, o, none⟩) k c) k xs (w.alloc (.cells #[] 5)) := Src.ofSlice _ Tryz.underlying102 ⟨h, o, none⟩ k c xs (by rw [hl, Nat.mul_one]) (fun j u hu => by rw [Addr.add_lit]; exact ((((Below.refl _ w).alloc (Nat.le_refl _) _).cell (p := ⟨h, _, none⟩) hhb).trans (HC.out j u hu))) (fun u hu => by obtain ⟨x, rfl, _⟩ := HX.out u hu; rfl)
 go_wp2_with (at_builtin; refine wpList_append_src rfl _ _ 102 102 rfl w.heap.size 5 i0 _ 1 1 Tryz.underlying102 hi0 hz0 hz1 hz2 rfl (by decide) _ 0 [] rfl hown _ k xs rfl hsrc (by unfold maxLen; omega) (by omega) (by simp) ?_; intro v2 w2 hrow2 hch2 hnew2)
 go_ret
 rw [Nat.zero_add, List.nil_append] at hrow2
 exact ⟨_, rfl, rowV_of_own hrow2 hk1 HX.out, ((Below.refl _ w).alloc (Nat.le_refl _) _).trans (hch2.below (by simp) (fun q hq => (own_lt hown q hq).1))⟩
theorem src_one_row (w : World) (vb : Nat) (u : Value) (ho : u.oneCell' = true) (hs : w.heap[vb]? = some (.cells #[u] 102 (0, 0))) : Src Tryz.prog 1 160 (.slice (some ⟨vb, 0, none⟩) 1 1) 1 [u] w :=
 Src.ofSlice w Tryz.underlying160 ⟨vb, 0, none⟩ 1 1 [u] rfl (fun j x hx => by
  obtain rfl : j = 0 := by have := (List.getElem?_eq_some_iff.1 hx).1; simpa using this
  rw [Addr.add_lit]
  simp at hx
  subst hx
  simp [World.cell?, hs]) (fun x hx => by simp at hx; subst hx; exact ho)
theorem matV_of_own {w : World} {B : Nat} {v : Value} {n k : Nat} {R : List Value} (h : w.ownsRow B 102 1 v n R) (h1 : 1 ≤ n) (hx : ∀ u ∈ R, RowV w B u k) : MatV w B v n k := by
 have ho1 := h
 obtain ⟨hl, ho⟩ := h
 rcases ho with ⟨rfl, e⟩ | ⟨g, c, cur, rfl, hB, hb, hc1, hc2, hs, ht⟩
 ·
  omega
 ·
  refine ⟨g, c, rfl, hc1, hc2, hB, ⟨cur, hb⟩, fun j hj => ?_⟩
  have hj' : j < R.length := by omega
  exact ⟨_, own_at ho1 (List.getElem?_eq_getElem hj'), hx _ (List.getElem_mem hj')⟩
set_option maxHeartbeats 4000000 in
theorem pick_any (v lv : Value) (n m k : Nat) (xs : List Value) (hn : n ≤ 32) (hm1 : 1 ≤ m) (hmn : m ≤ n) (hk1 : 1 ≤ k) (hk : k ≤ 32) (w : World) {B B' : Nat} (hB : B ≤ w.heap.size) (hB' : B' ≤ w.heap.size) (hV : MatV w B v n k) (hL : w.ownsRow B' 3 1 lv m xs) (hxs : ∀ i, i < m → xs[i]? = some (.int .i64 (i : Int))) :
    Calls Tryz.prog 111 #[v, lv] w fun e w' => ∃ u, e = .returned (.tuple #[u, .int .i64 0]) ∧ MatV w' w.heap.size u m k ∧ Below w.heap.size w w' := by
  obtain ⟨i0, hi0, hz0, hz1, hz2⟩ := info_parts infoRow
  have hRt := Lib.hid (right_any v n k (by omega) hn hk1 hk w hV)
  have hF := Lib.hid (fun W => fits_any m W)
  have d1 : (decide (1 ≤ m) && decide (m ≤ 32)) = true := by simp; omega
  rw [d1] at hF
  obtain ⟨g, c, rfl, h1, h2, hR⟩ := hV
  obtain ⟨av, cv, rfl, hcv, hcv2, _⟩ := own_val hL
  obtain ⟨gl, rfl⟩ : ∃ gl, av = some ⟨gl, 0, none⟩ := by
    rcases hL.2 with ⟨e, e'⟩ | ⟨g', c', cur, e, _⟩
    · omega
    · injection e with e _ _; exact ⟨g', e⟩
  have hgl : gl < w.heap.size := (own_lt hL gl rfl).2
  have HL := Lib.hid (fun i (hi : i < m) => own_at hL (hxs i hi))
  have HR := Lib.hid hR
  clear hR hL hxs
  go_enter Tryz.func111, Tryz.ntmps111
  go_wp2_with (first
    | (go_at_call 150; refine hRt.out.mono ?_; rintro e w5 ⟨rfl, hb5⟩)
    | (go_at_call 147; refine (hF.out _).mono ?_; rintro e w6 ⟨rfl, rfl⟩))
  go_loopw [6, 20] (fun s6 s wr => ∃ (i : Nat) (R : List Value), s = .int .i64 (i : Int) ∧ i ≤ m ∧ wr.ownsRow w.heap.size 102 1 s6 i R ∧ Hid (∀ u ∈ R, RowV wr w.heap.size u k) ∧ Below w.heap.size w wr) (fun _ s _ => m - (intOf s).toNat)
  case atStart => exact ⟨0, [], rfl, by omega, ⟨rfl, .inl ⟨rfl, rfl⟩⟩, Lib.hid (fun u hu => by cases hu), hb5⟩
  case round =>
    obtain ⟨i, R, rfl, hi, hrow, HX, hb⟩ := hrel
    obtain ⟨av', cv', rfl, hcv', hcv2', _⟩ := own_val hrow
    by_cases hlt : i < m
    · have hltz : (i : Int) < (m : Int) := by omega
      have hltn : (i : Int) < (n : Int) := by omega
      have q0 : ¬ (i : Int) < 0 := by omega
      have q1 : ¬ (n : Int) ≤ (i : Int) := by omega
      obtain ⟨u, hu, hur⟩ := (HR.out.kept (RKept.of_below hb (Nat.le_refl _))).each i (by omega)
      have hli : wr.cell? ⟨gl, i, none⟩ = some (.int .i64 (i : Int)) := (hb.cell (p := ⟨gl, i, none⟩) hgl).trans (HL.out i hlt)
      have HCL := Lib.hid (clone_any u k hk1 hk wr hur)
      clear hur
      go_wp2_with (first
        | (go_at_call 151; refine HCL.out.mono ?_; rintro e w7 ⟨u', rfl, hu', hb7⟩
           obtain ⟨h8, o8, c8, rfl, h81, h82, hB8⟩ := hu'
           have hc7 : Chg (fun _ => False) wr w7 := Chg.mk hb7.os hb7.tape hb7.output hb7.size (fun q hq _ => hb7.block q hq)
           have hrow7 := own_kept hrow hc7 (fun _ _ h => h))
        | (at_builtin; refine wpList_append_src rfl _ _ 160 160 rfl w.heap.size 102 i0 _ 1 24 Tryz.underlying160 hi0 hz0 hz1 hz2 rfl (by decide) _ _ _ rfl (hrow7.alloc _) _ 1 _ rfl (src_one_row _ _ _ rfl (heap_alloc_new _ _)) (by unfold maxLen; omega) (by omega) (by have := hb.size; have := hb7.size; simp; omega) ?_; intro v2 w2 hrow2 hch2 hnew2))
      go_roundw
      case rel =>
        have hb8 : Below w.heap.size w (w7.alloc (.cells #[.slice (some ⟨h8, o8, none⟩) k c8] 102)) := (hb.trans (hb7.mono hb.size)).alloc (Nat.le_trans hb.size hb7.size) _
        have hk8 : RKept w.heap.size wr (w7.alloc (.cells #[.slice (some ⟨h8, o8, none⟩) k c8] 102)) := (RKept.of_below hb7 hb.size).trans (RKept.of_below ((Below.refl _ w7).alloc (Nat.le_refl _) _) (Nat.le_trans hb.size hb7.size))
        have hown8 : (w7.alloc (.cells #[.slice (some ⟨h8, o8, none⟩) k c8] 102)).ownsRow w.heap.size 102 1 (.slice av' i cv') i R := hrow7.alloc _
        have hnot : ∀ q, Blk (w7.alloc (.cells #[.slice (some ⟨h8, o8, none⟩) k c8] 102)) q 5 → ¬ (some q = (Value.slice av' i cv').ownBlock) := fun q hq e => absurd (hq.tag (own_blk hown8 e)) (by decide)
        refine ⟨i + 1, _, by go_num, by omega, hrow2, Lib.hid (fun u hu => ?_), ?_⟩
        · rcases List.mem_append.1 hu with hu | hu
          · exact ((HX.out u hu).kept hk8).chg hch2 hnot
          · obtain rfl : u = _ := by simpa using hu
            exact RowV.chg (RowV.base ⟨h8, o8, c8, rfl, h81, h82, hB8.kept (RKept.of_below ((Below.refl _ w7).alloc (Nat.le_refl _) _) (Nat.le_refl _))⟩ hb.size) hch2 hnot
        · exact hb8.trans (hch2.below hb8.size (fun q hq => (own_lt hown8 q hq).1))
      case measure => simp [intOf]; omega
    · obtain rfl : i = m := by omega
      have hltz : ¬ (i : Int) < (i : Int) := by omega
      go_wp2
      go_ret2
      exact ⟨_, rfl, matV_of_own hrow hm1 HX.out, hb⟩
set_option maxHeartbeats 4000000 in
theorem mulNil_any (v : Value) (n k : Nat) (hn1 : 1 ≤ n) (hn : n ≤ 32) (hk1 : 1 ≤ k) (hk : k ≤ 32) (w : World) {B : Nat} (hV : MatV w B v n k) :
  Calls Tryz.prog 114 #[v, .slice none 0 0] w fun e w' => e = .returned (.tuple #[.slice none 0 0, .int .i64 1]) ∧ Below w.heap.size w w' := by
 have hRt := Lib.hid (right_any v n k hn1 hn hk1 hk w hV)
 obtain ⟨g, c, rfl, h1, h2, hR⟩ := hV
 clear hR
 go_enter Tryz.func114, Tryz.ntmps114
 go_wp2_with (first
  | (go_at_call 150; ((with_reducible refine hRt.out.mono ?_); rintro e w5 ⟨rfl, hb5⟩))
  | (go_at_call 150; refine (right_nil _).mono ?_; rintro e w6 ⟨rfl, hb6⟩))
 go_ret2
 exact ⟨rfl, hb5.trans (hb6.mono hb5.size)⟩
set_option maxHeartbeats 8000000 in
theorem mulM_any (a b : Value) (n k m : Nat) (hn1 : 1 ≤ n) (hn : n ≤ 32) (hk1 : 1 ≤ k) (hk : k ≤ 32) (hm1 : 1 ≤ m) (hm : m ≤ 32) (w : World) {B : Nat} (hV : MatV w B a n k) (hU : MatV w B b k m) :
  Calls Tryz.prog 114 #[a, b] w fun e w' => ∃ v, e = .returned (.tuple #[v, .int .i64 0]) ∧ MatV w' w.heap.size v n m ∧ Below w.heap.size w w' := by
 have hRa := Lib.hid (right_any a n k hn1 hn hk1 hk w hV)
 have hRb := Lib.hid (fun W (hW : Below w.heap.size w W) => right_any b k m hk1 hk hm1 hm W (hU.kept (RKept.of_below hW (Nat.le_refl _))))
 have hM := Lib.hid (fun W => made_any n m hn1 hn hm1 hm W)
 have hC := Lib.hid (fun (j : Nat) (hj : j < m) W (hW : RKept w.heap.size w W) => column_any b k m j hk1 hk hj hm W (hU.kept hW))
 obtain ⟨ga, ca, rfl, ha1, ha2, hA⟩ := hV
 obtain ⟨gb, cb, rfl, hb1, hb2, hBm⟩ := hU
 obtain ⟨u0, hu0, p0, o0, c0, rfl, h01, h02, hB0⟩ := hA.each 0 (by omega)
 obtain ⟨v0, hv0, p1, o1, c1, rfl, h11, h12, hB1⟩ := hBm.each 0 (by omega)
 have hga := hA.blk.lt
 have hgb := hBm.blk.lt
 have H0 : Hid (∀ W, Below w.heap.size w W → W.cell? ⟨ga, 0, none⟩ = some (.slice (some ⟨p0, o0, none⟩) k c0) ∧ W.cell? ⟨gb, 0, none⟩ = some (.slice (some ⟨p1, o1, none⟩) m c1)) := Lib.hid fun W hW =>
  ⟨(hW.cell (p := ⟨ga, _, none⟩) hga).trans hu0, (hW.cell (p := ⟨gb, _, none⟩) hgb).trans hv0⟩
 have HA := Lib.hid hA
 have qk : ((k : Int) != (k : Int)) = false := by simp
 have q0 : (0 : Int) < (n : Int) := by omega
 have q1 : (0 : Int) < (k : Int) := by omega
 clear hA hBm hB0 hB1 hu0 hv0 hga hgb
 go_enter Tryz.func114, Tryz.ntmps114
 go_wp2_with (first
  | (go_at_call 150; ((with_reducible refine hRa.out.mono ?_); rintro e w5 ⟨rfl, hp5⟩))
  | (go_at_call 150; refine (hRb.out _ hp5).mono ?_; rintro e w6 ⟨rfl, hp6'⟩; have hp6 := hp5.trans (hp6'.mono hp5.size); obtain ⟨h61, h62⟩ := H0.out _ hp6; clear hp6')
  | (go_at_call 115; refine (newField_any _).mono ?_; rintro e w7 ⟨f, rfl, hFl, hfl, hp7'⟩; have hp7 := hp6.trans (hp7'.mono hp6.size); obtain ⟨h71, h72⟩ := H0.out _ hp7; clear hp7')
  | (go_at_call 148; refine (hM.out _).mono ?_; rintro e w8 ⟨v, rfl, hV, hp8'⟩; obtain ⟨g, c, rfl, hc1, hc2, hR⟩ := hV; have hp8 := hp7.trans (hp8'.mono hp7.size); obtain ⟨h81, h82⟩ := H0.out _ hp8))
 have hF8 := hFl.kept (RKept.of_below hp8' (Nat.le_refl _))
 have hR' : RowsAt w8 w.heap.size g n m := ⟨Nat.le_trans hp7.size hR.lo, hR.blk, fun i hi => by
  obtain ⟨u, hu, hr⟩ := hR.each i hi
  exact ⟨u, hu, hr.base hp7.size⟩⟩
 have HR := Lib.hid hR'
 have HF := Lib.hid hF8
 have hk8 : RKept w.heap.size w w8 := RKept.of_below hp8 (Nat.le_refl _)
 have HK8 := Lib.hid hk8
 clear hR hR' hF8 hFl hfl hp8' hRa hRb hM hk8 hp7 hp6 hp5
 go_loopw [40] (fun s wr => ∃ j : Nat, s = .int .i64 (j : Int) ∧ j ≤ m ∧ RKept w.heap.size w8 wr) (fun s _ => m - (intOf s).toNat)
 case atStart => exact ⟨0, rfl, by omega, RKept.refl _ _⟩
 case round =>
  obtain ⟨j, rfl, hj, hkp⟩ := hrel
  by_cases hlt : j < m
  ·
   have hltz : (j : Int) < (m : Int) := by omega
   go_wp2_with (go_at_call 155; refine (hC.out j hlt _ (HK8.out.trans hkp)).mono ?_; rintro e w9 ⟨u9, rfl, hu9, hp9⟩; obtain ⟨h9, o9, c9, rfl, h91, h92, hB9⟩ := hu9)
   have hB9' := Lib.hid (RowV.base (B' := 0) ⟨h9, o9, c9, rfl, h91, h92, hB9⟩ (Nat.zero_le _))
   have hk9 : RKept w.heap.size w8 w9 := hkp.trans (RKept.of_below hp9 (Nat.le_trans HK8.out.size hkp.size))
   clear hB9 hp9 hkp
   go_loopw [48] (fun s wr => ∃ i : Nat, s = .int .i64 (i : Int) ∧ i ≤ n ∧ RKept w.heap.size w9 wr) (fun s _ => n - (intOf s).toNat)
   case atStart => exact ⟨0, rfl, by omega, RKept.refl _ _⟩
   case round =>
    obtain ⟨i, rfl, hi, hkr⟩ := hrel
    by_cases hlu : i < n
    ·
     have hluz : (i : Int) < (n : Int) := by omega
     have hk8r := hk9.trans hkr
     have hkwr := HK8.out.trans hk8r
     obtain ⟨u, hu, h, o, c', rfl, h1, h2, hB⟩ := (HR.out.kept hk8r).each i hlu
     obtain ⟨y, hy, hyr⟩ := (HA.out.kept hkwr).each i hlu
     have hyr0 := Lib.hid (hyr.base (Nat.zero_le _))
     obtain ⟨hq, oq, cq, rfl, hq1, hq2, hqb⟩ := hyr
     obtain ⟨x, hx, _⟩ := hB.each j hlt
     have hgb := (HR.out.kept hk8r).blk.lt
     have hgA := (HA.out.kept hkwr).blk.lt
     have hhb := hB.blk.lt
     have hBw : w.heap.size ≤ wr.heap.size := Nat.le_trans hB.lo (Nat.le_of_lt hhb)
     have HB := Lib.hid hB
     have HM := Lib.hid (fun W (hW : Below wr.heap.size wr W) => (dot_any f k _ _ hk W (HF.out.kept (hk8r.trans (RKept.of_below hW hBw))) (hyr0.out.kept (RKept.of_below hW hBw)) (hB9'.out.kept (hkr.trans (RKept.of_below hW hBw)))).mono
      (R' := fun e W' => ∃ r : Nat, r ≤ 255 ∧ e = .returned (.tuple #[.int .u8 (r : Int), .bool true]) ∧ Below wr.heap.size wr W') (fun e W' ⟨r, h1, h2, h3⟩ => ⟨r, h1, h2, hW.trans (h3.mono hW.size)⟩))
     have HK : Hid (∀ W, Below wr.heap.size wr W → (W.cell? ⟨g, i, none⟩ = some (.slice (some ⟨h, o, none⟩) m c') ∧ W.cell? ⟨ga, i, none⟩ = some (.slice (some ⟨hq, oq, none⟩) k cq) ∧ W.cell? ⟨h, o + j, none⟩ = some (.int .u8 x) ∧ W.frozen? ⟨h, o + j, none⟩ = false)) := Lib.hid fun W hW =>
      ⟨(hW.cell (p := ⟨g, _, none⟩) hgb).trans hu, (hW.cell (p := ⟨ga, _, none⟩) hgA).trans hy, (hW.cell (p := ⟨h, _, none⟩) hhb).trans hx, (HB.out.kept (RKept.of_below hW hBw)).frz _⟩
     have q1 : (j : Int) < (c' : Int) := by omega
     have hb0 := Below.refl wr.heap.size wr
     have hb1 := below_drew' hb0
     obtain ⟨hu0, hy0, hx0, hfz0⟩ := HK.out _ hb0
     have HKR := Lib.hid hkr
     clear hu hx hB hgb hhb hy hgA hqb hyr0 hkwr hkr
     go_wp2_with fail
     go_region_law (first
      | (go_simp; go_at_call 156; refine (HM.out _ ?_).mono ?_; (assumption); rintro e w10 ⟨r, hr, rfl, hp10⟩; obtain ⟨hu9, hy9, hx9, hfz9⟩ := HK.out _ hp10))
     all_goals
      have hkq := HKR.out.trans (RKept.of_below hp10 hBw)
      have hbs := HB.out.kept (RKept.of_below hp10 hBw)
      go_wp2_with fail
      go_roundw
      case rel => exact ⟨i + 1, by go_num, by omega, hkq.trans (RKept.set hbs.blk hbs.lo (by omega) (by omega))⟩
      case measure => simp [intOf]; omega
    ·
     have hluz : ¬ (i : Int) < (n : Int) := by omega
     go_wp2_with fail
     go_roundw
     case rel => exact ⟨j + 1, by go_num, by omega, hk9.trans hkr⟩
     case measure => simp [intOf]; omega
  ·
   have hltz : ¬ (j : Int) < (m : Int) := by omega
   go_wp2_with fail
   go_ret2
   exact ⟨_, rfl, MatV.kept ⟨g, c, rfl, hc1, hc2, HR.out⟩ hkp, hp8.trans hkp.below⟩
theorem chg_one {w : World} (g i : Nat) (u : Value) : Chg (fun k => k = g) w (w.setCell ⟨g, i, none⟩ u) := (Chg.refl (fun k => k = g) w).setCell (p := ⟨g, i, none⟩) (.inl rfl) u
theorem RowV.put {w : World} {B k : Nat} {v : Value} (h : RowV w B v k) {g : Nat} (hg : Blk w g 102) (i : Nat) (u : Value) : RowV (w.setCell ⟨g, i, none⟩ u) B v k :=
 h.chg (chg_one g i u) (fun b hb e => by subst e; exact absurd (hb.tag hg) (by decide))
theorem FieldAt.put {w : World} {f : Nat} (h : FieldAt w f) {g : Nat} (hg : Blk w g 102) (i : Nat) (u : Value) : FieldAt (w.setCell ⟨g, i, none⟩ u) f :=
 h.chg (chg_one g i u) (fun e => by subst e; exact absurd (h.blk.tag hg) (by decide))
theorem Blk.put {w : World} {g' : Nat} {t : TypeId} (h : Blk w g' t) (g i : Nat) (u : Value) : Blk (w.setCell ⟨g, i, none⟩ u) g' t := by
 obtain ⟨cs, hc⟩ := h
 by_cases e : g = g'
 ·
  subst e; exact ⟨cs.setIfInBounds i u, by simp [World.setCell, Array.getElem?_modify, hc]⟩
 ·
  exact ⟨cs, by simpa [World.setCell, Array.getElem?_modify, e] using hc⟩
theorem RowsAt.put {w : World} {B g n k : Nat} (h : RowsAt w B g n k) {g' : Nat} (hg : Blk w g' 102) {u : Value} (hu : RowV w B u k) (i : Nat) : RowsAt (w.setCell ⟨g', i, none⟩ u) B g n k := by
 refine ⟨h.lo, h.blk.put _ _ _, fun j hj => ?_⟩
 obtain ⟨v, hv, hr⟩ := h.each j hj
 by_cases e : g' = g
 ·
  subst e
  by_cases e2 : j = i
  ·
   subst e2; exact ⟨u, cell_setCell_eq h.blk hv _, hu.put hg _ _⟩
  ·
   exact ⟨v, (cell_setCell_ne h.blk e2 _).trans hv, hr.put hg _ _⟩
 ·
  refine ⟨v, ?_, hr.put hg _ _⟩
  rw [← hv]
  simp only [World.cell?]
  have : (w.setCell ⟨g', i, none⟩ u).heap[g]? = w.heap[g]? := by simp [World.setCell, Array.getElem?_modify, e]
  rw [this]
structure UndoJ (w : World) (B f g g2 n : Nat) (w' : World) : Prop where
 fld : FieldAt w' f
 one : RowsAt w' B g n n
 two : RowsAt w' B g2 n n
 bel : Below B w w'
theorem UndoJ.put {w w' : World} {B f g g2 n : Nat} (h : UndoJ w B f g g2 n w') {g' : Nat} (hg : g' = g ∨ g' = g2) {u : Value} (hu : RowV w' B u n) (i : Nat) : UndoJ w B f g g2 n (w'.setCell ⟨g', i, none⟩ u) := by
 have hb : Blk w' g' 102 := hg.elim (fun e => e ▸ h.one.blk) (fun e => e ▸ h.two.blk)
 have hl : B ≤ g' := hg.elim (fun e => e ▸ h.one.lo) (fun e => e ▸ h.two.lo)
 exact ⟨h.fld.put hb _ _, h.one.put hb hu _, h.two.put hb hu _, h.bel.setCell (p := ⟨g', i, none⟩) hl _⟩
theorem UndoJ.kept {w w' w'' : World} {B f g g2 n : Nat} (h : UndoJ w B f g g2 n w') (k : RKept B w' w'') : UndoJ w B f g g2 n w'' :=
 ⟨h.fld.kept k, h.one.kept k, h.two.kept k, h.bel.trans k.below⟩
theorem UndoJ.row {w w' : World} {B f g g2 n : Nat} (h : UndoJ w B f g g2 n w') {v : Value} (hv : RowV w' B v n) {g' : Nat} (hg : g' = g ∨ g' = g2) (i : Nat) (u : Value) : RowV (w'.setCell ⟨g', i, none⟩ u) B v n :=
 hv.put (hg.elim (fun e => e ▸ h.one.blk) (fun e => e ▸ h.two.blk)) _ _
theorem kept_setRow {B : Nat} {w : World} {h o : Nat} {cur : Array Value} {cs : List Value} (hc : w.heap[h]? = some (.cells cur 5 (0, 0))) (hB : B ≤ h) (hf : o + cs.length ≤ cur.size)
  (hx : ∀ u ∈ cs, ∃ x : Int, u = .int .u8 x ∧ 0 ≤ x ∧ x ≤ 255) : RKept B w (w.setRow h (cur.toList.take o ++ cs ++ cur.toList.drop (o + cs.length)).toArray) := by
 have hb : Blk w h 5 := ⟨cur, hc⟩
 refine ⟨⟨rfl, rfl, rfl, by simp [World.setRow], fun k hk => setRow_other w h k _ (by omega)⟩, by simp [World.setRow], fun g t hg hn => setRow_other w h g _ (fun e => by subst e; exact hn (hg.tag hb)), fun g hg => ?_, fun g i hg hu => ?_⟩
 ·
  by_cases e : g = h
  ·
   subst e; exact ⟨_, setRow_heap w g _ _ _ _ hc⟩
  ·
   obtain ⟨cs', hc'⟩ := hg
   exact ⟨cs', (setRow_other w h g _ e).trans hc'⟩
 ·
  by_cases e : g = h
  ·
   subst e
   obtain ⟨x, hx1, hx2⟩ := hu
   simp only [World.cell?, hc, Option.isSome_none, Bool.false_eq_true, if_false] at hx1
   rw [← Array.getElem?_toList] at hx1
   unfold U8
   rw [cell_setRow_same w g i _ _ _ _ hc]
   simp only [List.getElem?_toArray]
   by_cases h1 : i < o
   ·
    refine ⟨x, ?_, hx2⟩
    have hil : i < (cur.toList.take o ++ cs).length := by simp; omega
    rw [List.getElem?_append_left hil, List.getElem?_append_left (by simp; omega), List.getElem?_take, if_pos h1]
    exact hx1
   ·
    by_cases h2 : i < o + cs.length
    ·
     have hio : i - o < cs.length := by omega
     obtain ⟨y, hy, hy2⟩ := hx _ (List.getElem_mem hio)
     refine ⟨y, ?_, hy2⟩
     rw [List.getElem?_append_left (by simp; omega), List.getElem?_append_right (by simp; omega)]
     have : i - (cur.toList.take o).length = i - o := by simp; omega
     rw [this, List.getElem?_eq_getElem hio, hy]
    ·
     refine ⟨x, ?_, hx2⟩
     rw [List.getElem?_append_right (by simp; omega), List.getElem?_drop]
     have : o + cs.length + (i - (cur.toList.take o ++ cs).length) = i := by simp; omega
     rw [this]
     exact hx1
  ·
   obtain ⟨x, hx1, hx2⟩ := hu
   refine ⟨x, ?_, hx2⟩
   rw [← hx1]
   simp only [World.cell?]
   rw [setRow_other w h g _ e]
theorem size_of_bytes {w : World} {B h o k : Nat} (b : BytesAt w B h o k) (hk : 1 ≤ k) {cur : Array Value} (hc : w.heap[h]? = some (.cells cur 5 (0, 0))) : o + k ≤ cur.size := by
 obtain ⟨x, hx, _⟩ := b.each (k - 1) (by omega)
 simp only [World.cell?, hc, Option.isSome_none, Bool.false_eq_true, if_false] at hx
 have := (Array.getElem?_eq_some_iff.1 hx).1
 omega
theorem uint8_size : (Tryz.prog.info? 5).map (·.size) = some 1 := by kernel_rfl
theorem step_copy_kept {ops : Array Oper} {o : Oper} {a : Act} {w : World} {K : Act → World → Prop} {Q : Exit → Act → World → Prop} {E : Prop} (hgd : o.guard = none) (d s : Operand)
  (ho : o.op = .call { callee := .builtin .copy, args := #[d, s], argTypes := #[102, 102] }) (B B' h o1 c h' o' c' k : Nat) (hk : 1 ≤ k)
  (hd : a.eval d = .slice (some ⟨h, o1, none⟩) k c) (hs : a.eval s = .slice (some ⟨h', o', none⟩) k c') (hD : BytesAt w B h o1 k) (hS : BytesAt w B' h' o' k)
  (hK : ∀ w' v, RKept B w w' → K (a.put o.dst v) w') : if Region.wanted o (yielded ops a.tmps) = true then Oper.wp Tryz.prog o a w K Q else E := by
 have hw : Region.wanted o (yielded ops a.tmps) = true := by simp [Region.wanted, hgd]
 rw [if_pos hw]
 obtain ⟨cs, hl, hx, hcs⟩ := bytes_list hS
 obtain ⟨cur, hcur⟩ := hD.blk
 have hsz := size_of_bytes hD hk hcur
 have hrun := run_copy_row (P := Tryz.prog) w 102 102 o.type 5 h o1 k c ⟨h', o', none⟩ k c' cur 5 cs Tryz.underlying102 uint8_size hcur (by rw [hl]; exact (Nat.min_self k).symm) (fun j v hv => by rw [Addr.add_lit]; exact hcs j v hv) (by omega) (fun v hv => by obtain ⟨x, rfl, _⟩ := hx v hv; rfl)
 unfold Oper.wp
 simp [execOp, ho, resolve, invoke, builtin, hd, hs, hrun, Result.andThen]
 have := hK _ (goInt cs.length) (kept_setRow (o := o1) hcur hD.lo (by omega) hx)
 rw [List.append_assoc] at this
 exact this
def UndoA (a : Value) (f g c1 g2 c2 n c : Nat) (x : Act) : Prop := ∃ u : Nat → Value, x = ⟨#[a, u 1, u 2, u 3, .pointer (some ⟨f, 0, none⟩), .int .i64 (n : Nat), .slice (some ⟨g2, 0, none⟩) n c2, u 7, .slice (some ⟨g, 0, none⟩) n c1, u 9, .int .i64 (c : Nat), u 11, u 12, u 13, u 14, u 15, u 16, u 17, u 18, u 19, u 20, u 21, u 22, u 23, u 24, u 25, u 26, u 27, u 28, u 29, u 30, u 31, u 32, u 33, u 34, u 35, u 36, u 37, u 38, u 39, u 40, u 41, u 42, u 43, u 44, u 45, u 46, u 47, u 48, u 49, u 50, u 51, u 52, u 53, u 54, u 55, u 56, u 57, u 58, u 59, u 60, u 61, u 62, u 63, u 64, u 65, u 66, u 67, u 68, u 69, u 70, u 71, u 72, u 73, u 74, u 75, u 76, u 77, u 78, u 79, u 80, u 81, u 82, u 83, u 84, u 85, u 86, u 87, u 88, u 89, u 90, u 91, u 92, u 93, u 94, u 95, u 96, u 97, u 98, u 99, u 100, u 101, u 102, u 103, u 104, u 105, u 106, u 107, u 108, u 109, u 110, u 111, u 112, u 113, u 114, u 115, u 116, u 117, u 118, u 119, u 120, u 121, u 122, u 123, u 124, u 125, u 126, u 127, u 128, u 129, u 130, u 131, u 132, u 133, u 134, u 135, u 136, u 137, u 138, u 139, u 140, u 141, u 142, u 143, u 144, u 145, u 146, u 147, u 148, u 149, u 150, u 151, u 152, u 153, u 154, u 155, u 156, u 157, u 158, u 159, u 160, u 161, u 162, u 163, u 164, u 165, u 166, u 167, u 168], []⟩
theorem UndoA.mk {a : Value} {f g c1 g2 c2 n c : Nat} {x : Act} (h : x = ⟨#[a, x.tmps.getD 1 undef, x.tmps.getD 2 undef, x.tmps.getD 3 undef, .pointer (some ⟨f, 0, none⟩), .int .i64 (n : Nat), .slice (some ⟨g2, 0, none⟩) n c2, x.tmps.getD 7 undef, .slice (some ⟨g, 0, none⟩) n c1, x.tmps.getD 9 undef, .int .i64 (c : Nat), x.tmps.getD 11 undef, x.tmps.getD 12 undef, x.tmps.getD 13 undef, x.tmps.getD 14 undef, x.tmps.getD 15 undef, x.tmps.getD 16 undef, x.tmps.getD 17 undef, x.tmps.getD 18 undef, x.tmps.getD 19 undef, x.tmps.getD 20 undef, x.tmps.getD 21 undef, x.tmps.getD 22 undef, x.tmps.getD 23 undef, x.tmps.getD 24 undef, x.tmps.getD 25 undef, x.tmps.getD 26 undef, x.tmps.getD 27 undef, x.tmps.getD 28 undef, x.tmps.getD 29 undef, x.tmps.getD 30 undef, x.tmps.getD 31 undef, x.tmps.getD 32 undef, x.tmps.getD 33 undef, x.tmps.getD 34 undef, x.tmps.getD 35 undef, x.tmps.getD 36 undef, x.tmps.getD 37 undef, x.tmps.getD 38 undef, x.tmps.getD 39 undef, x.tmps.getD 40 undef, x.tmps.getD 41 undef, x.tmps.getD 42 undef, x.tmps.getD 43 undef, x.tmps.getD 44 undef, x.tmps.getD 45 undef, x.tmps.getD 46 undef, x.tmps.getD 47 undef, x.tmps.getD 48 undef, x.tmps.getD 49 undef, x.tmps.getD 50 undef, x.tmps.getD 51 undef, x.tmps.getD 52 undef, x.tmps.getD 53 undef, x.tmps.getD 54 undef, x.tmps.getD 55 undef, x.tmps.getD 56 undef, x.tmps.getD 57 undef, x.tmps.getD 58 undef, x.tmps.getD 59 undef, x.tmps.getD 60 undef, x.tmps.getD 61 undef, x.tmps.getD 62 undef, x.tmps.getD 63 undef, x.tmps.getD 64 undef, x.tmps.getD 65 undef, x.tmps.getD 66 undef, x.tmps.getD 67 undef, x.tmps.getD 68 undef, x.tmps.getD 69 undef, x.tmps.getD 70 undef, x.tmps.getD 71 undef, x.tmps.getD 72 undef, x.tmps.getD 73 undef, x.tmps.getD 74 undef, x.tmps.getD 75 undef, x.tmps.getD 76 undef, x.tmps.getD 77 undef, x.tmps.getD 78 undef, x.tmps.getD 79 undef, x.tmps.getD 80 undef, x.tmps.getD 81 undef, x.tmps.getD 82 undef, x.tmps.getD 83 undef, x.tmps.getD 84 undef, x.tmps.getD 85 undef, x.tmps.getD 86 undef, x.tmps.getD 87 undef, x.tmps.getD 88 undef, x.tmps.getD 89 undef, x.tmps.getD 90 undef, x.tmps.getD 91 undef, x.tmps.getD 92 undef, x.tmps.getD 93 undef, x.tmps.getD 94 undef, x.tmps.getD 95 undef, x.tmps.getD 96 undef, x.tmps.getD 97 undef, x.tmps.getD 98 undef, x.tmps.getD 99 undef, x.tmps.getD 100 undef, x.tmps.getD 101 undef, x.tmps.getD 102 undef, x.tmps.getD 103 undef, x.tmps.getD 104 undef, x.tmps.getD 105 undef, x.tmps.getD 106 undef, x.tmps.getD 107 undef, x.tmps.getD 108 undef, x.tmps.getD 109 undef, x.tmps.getD 110 undef, x.tmps.getD 111 undef, x.tmps.getD 112 undef, x.tmps.getD 113 undef, x.tmps.getD 114 undef, x.tmps.getD 115 undef, x.tmps.getD 116 undef, x.tmps.getD 117 undef, x.tmps.getD 118 undef, x.tmps.getD 119 undef, x.tmps.getD 120 undef, x.tmps.getD 121 undef, x.tmps.getD 122 undef, x.tmps.getD 123 undef, x.tmps.getD 124 undef, x.tmps.getD 125 undef, x.tmps.getD 126 undef, x.tmps.getD 127 undef, x.tmps.getD 128 undef, x.tmps.getD 129 undef, x.tmps.getD 130 undef, x.tmps.getD 131 undef, x.tmps.getD 132 undef, x.tmps.getD 133 undef, x.tmps.getD 134 undef, x.tmps.getD 135 undef, x.tmps.getD 136 undef, x.tmps.getD 137 undef, x.tmps.getD 138 undef, x.tmps.getD 139 undef, x.tmps.getD 140 undef, x.tmps.getD 141 undef, x.tmps.getD 142 undef, x.tmps.getD 143 undef, x.tmps.getD 144 undef, x.tmps.getD 145 undef, x.tmps.getD 146 undef, x.tmps.getD 147 undef, x.tmps.getD 148 undef, x.tmps.getD 149 undef, x.tmps.getD 150 undef, x.tmps.getD 151 undef, x.tmps.getD 152 undef, x.tmps.getD 153 undef, x.tmps.getD 154 undef, x.tmps.getD 155 undef, x.tmps.getD 156 undef, x.tmps.getD 157 undef, x.tmps.getD 158 undef, x.tmps.getD 159 undef, x.tmps.getD 160 undef, x.tmps.getD 161 undef, x.tmps.getD 162 undef, x.tmps.getD 163 undef, x.tmps.getD 164 undef, x.tmps.getD 165 undef, x.tmps.getD 166 undef, x.tmps.getD 167 undef, x.tmps.getD 168 undef], []⟩) : UndoA a f g c1 g2 c2 n c x := ⟨fun i => x.tmps.getD i undef, h⟩
def UndoPost (B : Nat) (w : World) (n : Nat) (e : Ending) (w' : World) : Prop :=
 (e = .returned (.tuple #[.slice none 0 0, .int .i64 4]) ∨ ∃ v, e = .returned (.tuple #[v, .int .i64 0]) ∧ MatV w' B v n n) ∧ Below B w w'
structure UndoS (w : World) (f g c1 g2 c2 n c : Nat) (w' : World) : Prop where
 j : UndoJ w w.heap.size f g g2 n w'
 cn : c ≤ n
 l1 : n ≤ c1
 l2 : n ≤ c2
 m2 : c2 ≤ maxLen
 ne : g ≠ g2
set_option maxHeartbeats 16000000 in
theorem undo_any (v : Value) (n : Nat) (hn1 : 1 ≤ n) (hn : n ≤ 32) (w : World) {B0 : Nat} (hV : MatV w B0 v n n) :
  Calls Tryz.prog 113 #[v] w (UndoPost w.heap.size w n) := by
 have hRa := Lib.hid (right_any v n n hn1 hn hn1 hn w hV)
 have hO := Lib.hid (fun W => one_any n hn1 hn W)
 have hM := Lib.hid (fun W => made_any n n hn1 hn hn1 hn W)
 have HV := Lib.hid (fun W (hW : RKept w.heap.size w W) => hV.kept hW)
 obtain ⟨ga, ca, rfl, ha1, ha2, hA⟩ := hV
 obtain ⟨u0, hu0, p0, o0, c0, rfl, h01, h02, hB0⟩ := hA.each 0 (by omega)
 have hga := hA.blk.lt
 have H0 : Hid (∀ W, Below w.heap.size w W → W.cell? ⟨ga, 0, none⟩ = some (.slice (some ⟨p0, o0, none⟩) n c0)) := Lib.hid fun W hW => (hW.cell (p := ⟨ga, _, none⟩) hga).trans hu0
 have HA := Lib.hid hA
 have qk : ((n : Int) != (n : Int)) = false := by simp
 have q0 : (0 : Int) < (n : Int) := by omega
 have q1 : decide (0 < n) = true := by simp; omega
 clear hA hB0 hu0 hga
 go_enter Tryz.func113, Tryz.ntmps113
 go_wp2_with fail
 refine goto_scopeG 0 (fun a' w' => ∃ f g c1 g2 c2 c, UndoA (.slice (some ⟨ga, 0, none⟩) n ca) f g c1 g2 c2 n c a' ∧ UndoS w f g c1 g2 c2 n c w') (fun a' _ => n - (intOf (a'.tmps.getD 10 undef)).toNat) rfl ?_ ?_
 ·
  rintro a' w' ⟨f, g, c1, g2, c2, c, hA, hJ⟩
  unfold UndoA at hA
  obtain ⟨u, rfl⟩ := hA
  obtain ⟨hJ, hcn, hl1, hl2, hm2, hgne⟩ := hJ
  have hgne' : ¬ g2 = g := fun e => hgne e.symm
  have HJ3 := Lib.hid hJ
  by_cases hlt : c < n
  ·
   have hltz : ((c : Int) == (n : Int)) = false := by rw [beq_eq_false_iff_ne]; omega
   clear hJ
   go_wp2_with fail
   go_loop [11] (fun s => ∃ p : Nat, s = .int .i64 (p : Int) ∧ p ≤ n) (fun s => n - (intOf s).toNat)
   case atStart => exact ⟨c, rfl, hcn⟩
   case round =>
    obtain ⟨p, rfl, hp⟩ := hrel
    by_cases hlp : p < n
    ·
     have hlpz : (p : Int) < (n : Int) := by omega
     obtain ⟨up, hup, hp1, op, cp, rfl, hcp1, hcp2, hBp⟩ := HJ3.out.one.each p hlp
     obtain ⟨x, hx, hx0, hx1⟩ := hBp.each c hlt
     have q3 : (c : Int) < (cp : Int) := by omega
     have q4 : decide (c < n) = true := by simp; omega
     have q5 : decide (p < n) = true := by simp; omega
     have HBp := Lib.hid hBp
     clear hBp
     by_cases hz : x = 0
     ·
      subst hz
      go_wp2_with fail
      go_round
      case rel => exact ⟨p + 1, by go_num, by omega⟩
      case measure => simp [intOf]; omega
     ·
      have hzz : (x == 0) = false := by rw [beq_eq_false_iff_ne]; exact hz
      have hpn : ((p : Int) == (n : Int)) = false := by rw [beq_eq_false_iff_ne]; omega
      go_wp2_with fail
      have RP : RowV w' w.heap.size (.slice (some ⟨hp1, op, none⟩) n cp) n := ⟨hp1, op, cp, rfl, hcp1, hcp2, HBp.out⟩
      obtain ⟨vp, hvp, hp3, op3, cp3, rfl, hcp31, hcp32, hBvp⟩ := HJ3.out.two.each p hlp
      have RVP : RowV w' w.heap.size (.slice (some ⟨hp3, op3, none⟩) n cp3) n := ⟨hp3, op3, cp3, rfl, hcp31, hcp32, hBvp⟩
      have fz1 := HJ3.out.one.blk.frozen c
      have fz3 := HJ3.out.two.blk.frozen c
      by_cases hpc : p = c
      ·
       obtain rfl := hpc.symm
       clear hBvp
       clear hx
       go_region
       all_goals
        generalize hW20 : World.drew _ = W20
        have J20 : UndoJ w w.heap.size f g g2 n W20 := by
         rw [← hW20]
         have e1 := HJ3.out.put (.inl rfl) RP c
         have r2 := HJ3.out.row RP (.inl rfl) c (.slice (some ⟨hp1, op, none⟩) n cp)
         have r3 := HJ3.out.row RVP (.inl rfl) c (.slice (some ⟨hp1, op, none⟩) n cp)
         have r4 := HJ3.out.row RVP (.inl rfl) c (.slice (some ⟨hp1, op, none⟩) n cp)
         have e2 := e1.put (.inl rfl) r2 c
         have s3 := e1.row r3 (.inl rfl) c (.slice (some ⟨hp1, op, none⟩) n cp)
         have s4 := e1.row r4 (.inl rfl) c (.slice (some ⟨hp1, op, none⟩) n cp)
         have e3 := e2.put (.inr rfl) s3 c
         have t4 := e2.row s4 (.inr rfl) c (.slice (some ⟨hp3, op3, none⟩) n cp3)
         exact (e3.put (.inr rfl) t4 c).kept ((RKept.refl w.heap.size _).drew)
        clear hW20 hup hvp fz1 fz3 RP RVP
        obtain ⟨ur, hur, h5, o5, c5, rfl, h51, h52, hB5⟩ := J20.one.each c hlt
        obtain ⟨x5, hx5, hx50, hx51⟩ := hB5.each c hlt
        obtain ⟨x5, rfl⟩ := Int.eq_ofNat_of_zero_le hx50
        have hq5 : (c : Int) < (c5 : Int) := by omega
        have HS1 := Lib.hid (scale_any f n x5 _ (by omega) hn W20 (B := w.heap.size) J20.fld ⟨h5, o5, c5, rfl, h51, h52, hB5⟩)
        have HJ20 := Lib.hid J20
        clear hB5 J20
        go_wp2_with (first
         | (go_at_call 153; ((with_reducible refine HS1.out.mono ?_); rintro e w21 ⟨rfl, hk21⟩; have J21 := HJ20.out.kept hk21; clear hur hx5 hk21; obtain ⟨ur6, hur6, h6, o6, c6, rfl, h61, h62, hB6⟩ := J21.two.each c hlt; have HS2 := Lib.hid (scale_any f n x5 _ (by omega) hn w21 (B := w.heap.size) J21.fld ⟨h6, o6, c6, rfl, h61, h62, hB6⟩); have HJ21 := Lib.hid J21; clear hB6 J21))
         | (go_at_call 153; ((with_reducible refine HS2.out.mono ?_); rintro e w22 ⟨rfl, hk22⟩; have HJ22 := Lib.hid (HJ21.out.kept hk22); clear hur6 hk22)))
        go_loopw [127] (fun s wr => ∃ i : Nat, s = .int .i64 (i : Int) ∧ i ≤ n ∧ UndoJ w w.heap.size f g g2 n wr) (fun s _ => n - (intOf s).toNat)
        case atStart => exact ⟨0, rfl, by omega, HJ22.out⟩
        case round =>
         obtain ⟨i, rfl, hi, hJ⟩ := hrel
         by_cases hli : i < n
         ·
          have hliz : (i : Int) < (n : Int) := by omega
          have q6 : decide (i < n) = true := by simp; omega
          obtain ⟨a1, ha1, h1, o1, k1, rfl, h11, h12, hA1⟩ := hJ.one.each i hli
          obtain ⟨b1, hb1, h2, o2, k2, rfl, h21, h22, hA2⟩ := hJ.one.each c hlt
          obtain ⟨x6, hx6, hx60, hx61⟩ := hA1.each c hlt
          obtain ⟨x6, rfl⟩ := Int.eq_ofNat_of_zero_le hx60
          have q7 : (c : Int) < (k1 : Int) := by omega
          have HL1 := Lib.hid (less_any f n x6 _ _ (by omega) hn wr.drew (B := w.heap.size) (hJ.fld.kept (RKept.drew (RKept.refl 0 wr))) (RowV.kept ⟨h1, o1, k1, rfl, h11, h12, hA1⟩ (RKept.drew (RKept.refl 0 wr))) (RowV.kept ⟨h2, o2, k2, rfl, h21, h22, hA2⟩ (RKept.drew (RKept.refl 0 wr))))
          have HJ0 := Lib.hid hJ
          have HJd := Lib.hid (hJ.kept ((RKept.refl w.heap.size wr).drew))
          clear hA1 hA2 hJ
          by_cases hic : i = c
          ·
           have hicz : ((i : Int) != (c : Int)) = false := by simp; omega
           clear hic
           go_wp2_with fail
           go_roundw
           case rel => exact ⟨i + 1, by go_num, by omega, HJ0.out⟩
           case measure => simp [intOf]; omega
          ·
           have hicz : ((i : Int) != (c : Int)) = true := by simp; omega
           by_cases h60 : x6 = 0
           ·
            subst h60
            go_wp2_with fail
            go_roundw
            case rel => exact ⟨i + 1, by go_num, by omega, HJ0.out⟩
            case measure => simp [intOf]; omega
           ·
            have h60z : ((x6 : Int) != 0) = true := by simp; omega
            go_wp2_with fail
            go_region_law (first
             | (go_simp; go_at_call 154; ((with_reducible refine HL1.out.mono ?_); rintro e w23 ⟨rfl, hk23⟩)))
            all_goals
             have J23 := HJd.out.kept hk23
             clear ha1 hb1 hx6 hk23
             obtain ⟨a3, ha3, h3, o3, k3, rfl, h31, h32, hA3⟩ := J23.two.each i hli
             obtain ⟨b3, hb3, h4, o4, k4, rfl, h41, h42, hA4⟩ := J23.two.each c hlt
             have HL2 := Lib.hid (less_any f n x6 _ _ (by omega) hn w23.drew (B := w.heap.size) (J23.fld.kept (RKept.drew (RKept.refl 0 w23))) (RowV.kept ⟨h3, o3, k3, rfl, h31, h32, hA3⟩ (RKept.drew (RKept.refl 0 w23))) (RowV.kept ⟨h4, o4, k4, rfl, h41, h42, hA4⟩ (RKept.drew (RKept.refl 0 w23))))
             have HJ24 := Lib.hid (J23.kept ((RKept.refl w.heap.size w23).drew))
             clear hA3 hA4 J23
             go_wp2_with fail
             go_region_law (first
              | (go_simp; go_at_call 154; ((with_reducible refine HL2.out.mono ?_); rintro e w24 ⟨rfl, hk24⟩)))
             all_goals
              go_wp2_with fail
              go_roundw
              case rel => exact ⟨i + 1, by go_num, by omega, HJ24.out.kept hk24⟩
              case measure => simp [intOf]; omega
         ·
          have hliz : ¬ (i : Int) < (n : Int) := by omega
          have HJ9 := Lib.hid hJ
          clear hJ
          go_wp2_with fail
          go_step3
          refine ⟨rfl, ⟨f, g, c1, g2, c2, c + 1, UndoA.mk rfl, HJ9.out, by omega, hl1, hl2, hm2, hgne⟩, ?_⟩
          simp [intOf]; omega
      ·
       have hpc' : ¬ c = p := fun e => hpc e.symm
       obtain ⟨uc, huc, hp2, oc, cc, rfl, hcc1, hcc2, hBc⟩ := HJ3.out.one.each c hlt
       have RC : RowV w' w.heap.size (.slice (some ⟨hp2, oc, none⟩) n cc) n := ⟨hp2, oc, cc, rfl, hcc1, hcc2, hBc⟩
       obtain ⟨vc, hvc, hp4, oc4, cc4, rfl, hcc41, hcc42, hBvc⟩ := HJ3.out.two.each c hlt
       have RVC : RowV w' w.heap.size (.slice (some ⟨hp4, oc4, none⟩) n cc4) n := ⟨hp4, oc4, cc4, rfl, hcc41, hcc42, hBvc⟩
       have fz2 := HJ3.out.one.blk.frozen p
       have fz4 := HJ3.out.two.blk.frozen p
       clear hBc hBvc hBvp hx
       go_region
       all_goals
        generalize hW20 : World.drew _ = W20
        have J20 : UndoJ w w.heap.size f g g2 n W20 := by
         rw [← hW20]
         have e1 := HJ3.out.put (.inl rfl) RP c
         have r2 := HJ3.out.row RC (.inl rfl) c (.slice (some ⟨hp1, op, none⟩) n cp)
         have r3 := HJ3.out.row RVP (.inl rfl) c (.slice (some ⟨hp1, op, none⟩) n cp)
         have r4 := HJ3.out.row RVC (.inl rfl) c (.slice (some ⟨hp1, op, none⟩) n cp)
         have e2 := e1.put (.inl rfl) r2 p
         have s3 := e1.row r3 (.inl rfl) p (.slice (some ⟨hp2, oc, none⟩) n cc)
         have s4 := e1.row r4 (.inl rfl) p (.slice (some ⟨hp2, oc, none⟩) n cc)
         have e3 := e2.put (.inr rfl) s3 c
         have t4 := e2.row s4 (.inr rfl) c (.slice (some ⟨hp3, op3, none⟩) n cp3)
         exact (e3.put (.inr rfl) t4 p).kept ((RKept.refl w.heap.size _).drew)
        clear hW20 hup hvp huc hvc fz1 fz2 fz3 fz4 RP RC RVP RVC
        obtain ⟨ur, hur, h5, o5, c5, rfl, h51, h52, hB5⟩ := J20.one.each c hlt
        obtain ⟨x5, hx5, hx50, hx51⟩ := hB5.each c hlt
        obtain ⟨x5, rfl⟩ := Int.eq_ofNat_of_zero_le hx50
        have hq5 : (c : Int) < (c5 : Int) := by omega
        have HS1 := Lib.hid (scale_any f n x5 _ (by omega) hn W20 (B := w.heap.size) J20.fld ⟨h5, o5, c5, rfl, h51, h52, hB5⟩)
        have HJ20 := Lib.hid J20
        clear hB5 J20
        go_wp2_with (first
         | (go_at_call 153; ((with_reducible refine HS1.out.mono ?_); rintro e w21 ⟨rfl, hk21⟩; have J21 := HJ20.out.kept hk21; clear hur hx5 hk21; obtain ⟨ur6, hur6, h6, o6, c6, rfl, h61, h62, hB6⟩ := J21.two.each c hlt; have HS2 := Lib.hid (scale_any f n x5 _ (by omega) hn w21 (B := w.heap.size) J21.fld ⟨h6, o6, c6, rfl, h61, h62, hB6⟩); have HJ21 := Lib.hid J21; clear hB6 J21))
         | (go_at_call 153; ((with_reducible refine HS2.out.mono ?_); rintro e w22 ⟨rfl, hk22⟩; have HJ22 := Lib.hid (HJ21.out.kept hk22); clear hur6 hk22)))
        go_loopw [127] (fun s wr => ∃ i : Nat, s = .int .i64 (i : Int) ∧ i ≤ n ∧ UndoJ w w.heap.size f g g2 n wr) (fun s _ => n - (intOf s).toNat)
        case atStart => exact ⟨0, rfl, by omega, HJ22.out⟩
        case round =>
         obtain ⟨i, rfl, hi, hJ⟩ := hrel
         by_cases hli : i < n
         ·
          have hliz : (i : Int) < (n : Int) := by omega
          have q6 : decide (i < n) = true := by simp; omega
          obtain ⟨a1, ha1, h1, o1, k1, rfl, h11, h12, hA1⟩ := hJ.one.each i hli
          obtain ⟨b1, hb1, h2, o2, k2, rfl, h21, h22, hA2⟩ := hJ.one.each c hlt
          obtain ⟨x6, hx6, hx60, hx61⟩ := hA1.each c hlt
          obtain ⟨x6, rfl⟩ := Int.eq_ofNat_of_zero_le hx60
          have q7 : (c : Int) < (k1 : Int) := by omega
          have HL1 := Lib.hid (less_any f n x6 _ _ (by omega) hn wr.drew (B := w.heap.size) (hJ.fld.kept (RKept.drew (RKept.refl 0 wr))) (RowV.kept ⟨h1, o1, k1, rfl, h11, h12, hA1⟩ (RKept.drew (RKept.refl 0 wr))) (RowV.kept ⟨h2, o2, k2, rfl, h21, h22, hA2⟩ (RKept.drew (RKept.refl 0 wr))))
          have HJ0 := Lib.hid hJ
          have HJd := Lib.hid (hJ.kept ((RKept.refl w.heap.size wr).drew))
          clear hA1 hA2 hJ
          by_cases hic : i = c
          ·
           have hicz : ((i : Int) != (c : Int)) = false := by simp; omega
           clear hic
           go_wp2_with fail
           go_roundw
           case rel => exact ⟨i + 1, by go_num, by omega, HJ0.out⟩
           case measure => simp [intOf]; omega
          ·
           have hicz : ((i : Int) != (c : Int)) = true := by simp; omega
           by_cases h60 : x6 = 0
           ·
            subst h60
            go_wp2_with fail
            go_roundw
            case rel => exact ⟨i + 1, by go_num, by omega, HJ0.out⟩
            case measure => simp [intOf]; omega
           ·
            have h60z : ((x6 : Int) != 0) = true := by simp; omega
            go_wp2_with fail
            go_region_law (first
             | (go_simp; go_at_call 154; ((with_reducible refine HL1.out.mono ?_); rintro e w23 ⟨rfl, hk23⟩)))
            all_goals
             have J23 := HJd.out.kept hk23
             clear ha1 hb1 hx6 hk23
             obtain ⟨a3, ha3, h3, o3, k3, rfl, h31, h32, hA3⟩ := J23.two.each i hli
             obtain ⟨b3, hb3, h4, o4, k4, rfl, h41, h42, hA4⟩ := J23.two.each c hlt
             have HL2 := Lib.hid (less_any f n x6 _ _ (by omega) hn w23.drew (B := w.heap.size) (J23.fld.kept (RKept.drew (RKept.refl 0 w23))) (RowV.kept ⟨h3, o3, k3, rfl, h31, h32, hA3⟩ (RKept.drew (RKept.refl 0 w23))) (RowV.kept ⟨h4, o4, k4, rfl, h41, h42, hA4⟩ (RKept.drew (RKept.refl 0 w23))))
             have HJ24 := Lib.hid (J23.kept ((RKept.refl w.heap.size w23).drew))
             clear hA3 hA4 J23
             go_wp2_with fail
             go_region_law (first
              | (go_simp; go_at_call 154; ((with_reducible refine HL2.out.mono ?_); rintro e w24 ⟨rfl, hk24⟩)))
             all_goals
              go_wp2_with fail
              go_roundw
              case rel => exact ⟨i + 1, by go_num, by omega, HJ24.out.kept hk24⟩
              case measure => simp [intOf]; omega
         ·
          have hliz : ¬ (i : Int) < (n : Int) := by omega
          have HJ9 := Lib.hid hJ
          clear hJ
          go_wp2_with fail
          go_step3
          refine ⟨rfl, ⟨f, g, c1, g2, c2, c + 1, UndoA.mk rfl, HJ9.out, by omega, hl1, hl2, hm2, hgne⟩, ?_⟩
          simp [intOf]; omega
    ·
     have hlpz : ¬ (p : Int) < (n : Int) := by omega
     obtain rfl : p = n := by omega
     go_wp2_with fail
     go_ret2
     exact ⟨.inl rfl, HJ3.out.bel⟩
  ·
   have hltz : ((c : Int) == (n : Int)) = true := by rw [beq_iff_eq]; omega
   clear hJ
   go_wp2_with fail
   simp only [Exit.jump]
   go_ret2
   exact ⟨.inr ⟨_, rfl, ⟨g2, c2, rfl, hl2, hm2, HJ3.out.two⟩⟩, HJ3.out.bel⟩
 ·
  intro hpass
  go_wp2_with (first
   | (go_at_call 150; ((with_reducible refine hRa.out.mono ?_); rintro e w5 ⟨rfl, hp5⟩; have h50 := H0.out _ hp5))
   | (go_at_call 115; refine (newField_any _).mono ?_; rintro e w6 ⟨f, rfl, hFl, hfl, hp6'⟩; have hp6 := hp5.trans (hp6'.mono hp5.size))
   | (go_at_call 152; refine (hO.out _).mono ?_; rintro e w7 ⟨v7, rfl, hV7, hp7'⟩; obtain ⟨g2, c2, rfl, hc21, hc22, hR2⟩ := hV7; have hp7 := hp6.trans (hp7'.mono hp6.size))
   | (go_at_call 148; refine (hM.out _).mono ?_; rintro e w8 ⟨v8, rfl, hV8, hp8'⟩; obtain ⟨g, c1, rfl, hc11, hc12, hR1⟩ := hV8; have hp8 := hp7.trans (hp8'.mono hp7.size)))
  have hbase : ∀ {W : World} {B' g' : Nat}, RowsAt W B' g' n n → w.heap.size ≤ B' → RowsAt W w.heap.size g' n n := fun h hb => ⟨Nat.le_trans hb h.lo, h.blk, fun i hi => by
   obtain ⟨u, hu, hr⟩ := h.each i hi
   exact ⟨u, hu, hr.base hb⟩⟩
  have HJ : Hid (UndoJ w w.heap.size f g g2 n w8) := Lib.hid ⟨(hFl.kept (RKept.of_below hp7' (Nat.le_refl _))).kept (RKept.of_below hp8' (Nat.le_refl _)), hbase hR1 hp7.size, (hbase hR2 hp6.size).kept (RKept.of_below hp8' (Nat.le_refl _)), hp8⟩
  have hgg : g ≠ g2 := by have := hR1.lo; have := hR2.blk.lt; omega
  clear hbase hR1 hR2 hFl hfl hp5 hp6 hp7 hp8 hp6' hp7' hp8' hRa hO hM
  go_loopw [40] (fun s wr => ∃ i : Nat, s = .int .i64 (i : Int) ∧ i ≤ n ∧ UndoJ w w.heap.size f g g2 n wr) (fun s _ => n - (intOf s).toNat)
  case atStart => exact ⟨0, rfl, by omega, HJ.out⟩
  case round =>
   obtain ⟨i, rfl, hi, hJ⟩ := hrel
   by_cases hlt : i < n
   ·
    have hltz : (i : Int) < (n : Int) := by omega
    obtain ⟨u, hu, h, o, c', rfl, h1, h2, hB⟩ := hJ.one.each i hlt
    obtain ⟨y, hy, h', o', c'', rfl, h1', h2', hB'⟩ := (HA.out.kept (RKept.of_below hJ.bel (Nat.le_refl _))).each i hlt
    have HB : Hid (BytesAt wr.drew w.heap.size h o n) := Lib.hid (hB.kept (RKept.drew (RKept.refl 0 wr)))
    have HB' : Hid (BytesAt wr.drew B0 h' o' n) := Lib.hid (hB'.kept (RKept.drew (RKept.refl 0 wr)))
    have HJ1 := Lib.hid hJ
    clear hB hB' hJ
    go_wp2_with fail
    go_region_law (first
     | (refine step_copy_kept rfl (.tmp 46) (.tmp 50) rfl w.heap.size B0 h o c' h' o' c'' n hn1 rfl rfl HB.out HB'.out ?_; intro w9 vv hk9))
    all_goals
     go_wp2_with fail
     go_roundw
     case rel => exact ⟨i + 1, by go_num, by omega, HJ1.out.kept (RKept.trans ((RKept.refl _ _).drew) hk9)⟩
     case measure => simp [intOf]; omega
   ·
    have hltz : ¬ (i : Int) < (n : Int) := by omega
    have HJ2 := Lib.hid hJ
    clear hJ
    go_wp2_with fail
    go_step3
    rename_i hKK
    refine hKK _ _ (hpass _ _ ?_)
    refine ⟨f, g, c1, g2, c2, 0, ?fr, HJ2.out, Nat.zero_le _, hc11, hc21, hc22, hgg⟩
    case fr => exact UndoA.mk rfl
theorem coderNo_any (k n : Int) (h : k < 1 ∨ n < k ∨ 16 < n) (w : World) :
  Calls Tryz.prog 67 #[.int .i64 k, .int .i64 n] w fun e w' => e = .returned (.tuple #[.pointer none, .int .i64 1]) ∧ Below w.heap.size w w' := by
 by_cases h1 : k < 1
 ·
  clear h
  go_enter Tryz.func67, Tryz.ntmps67
  go_wp2_with fail
  go_ret2
  exact ⟨rfl, Below.refl _ _⟩
 by_cases h2 : n < k
 ·
  clear h
  go_enter Tryz.func67, Tryz.ntmps67
  go_wp2_with fail
  go_ret2
  exact ⟨rfl, Below.refl _ _⟩
 have h3 : 16 < n := by omega
 clear h
 go_enter Tryz.func67, Tryz.ntmps67
 go_wp2_with fail
 go_ret2
 exact ⟨rfl, Below.refl _ _⟩
def UndoU (B : Nat) (w : World) (n : Nat) (e : Ending) (w' : World) : Prop :=
 ∃ u q, e = .returned (.tuple #[u, .int .i64 q]) ∧ (u = .slice none 0 0 ∨ MatV w' B u n n) ∧ Below B w w'
theorem undo_u (v : Value) (n : Nat) (hn1 : 1 ≤ n) (hn : n ≤ 32) (w : World) {B0 : Nat} (hV : MatV w B0 v n n) :
  Calls Tryz.prog 113 #[v] w (UndoU w.heap.size w n) := by
 refine (undo_any v n hn1 hn w hV).mono ?_
 rintro e w' ⟨h | ⟨u, h, hm⟩, hb⟩
 ·
  exact ⟨_, _, h, .inl rfl, hb⟩
 ·
  exact ⟨_, _, h, .inr hm, hb⟩
def MulU (B : Nat) (w : World) (e : Ending) (w' : World) : Prop := ∃ a m c q, e = .returned (.tuple #[.slice a m c, .int .i64 q]) ∧ Below B w w'
theorem mul_u (a b : Value) (n k : Nat) (hn1 : 1 ≤ n) (hn : n ≤ 32) (hk1 : 1 ≤ k) (hk : k ≤ 32) (w : World) {B B' : Nat} (hV : MatV w B a n k) (hU : b = .slice none 0 0 ∨ MatV w B' b k k) :
  Calls Tryz.prog 114 #[a, b] w (MulU w.heap.size w) := by
 rcases hU with rfl | hU
 ·
  exact (mulNil_any a n k hn1 hn hk1 hk w hV).mono fun e w' ⟨h1, h2⟩ => ⟨_, _, _, _, h1, h2⟩
 ·
  have hU' : MatV w 0 b k k := by
   obtain ⟨g, c, e, h1, h2, hr⟩ := hU
   exact ⟨g, c, e, h1, h2, Nat.zero_le _, hr.blk, fun i hi => by
    obtain ⟨u, hu, h⟩ := hr.each i hi
    exact ⟨u, hu, h.base (Nat.zero_le _)⟩⟩
  have hV' : MatV w 0 a n k := by
   obtain ⟨g, c, e, h1, h2, hr⟩ := hV
   exact ⟨g, c, e, h1, h2, Nat.zero_le _, hr.blk, fun i hi => by
    obtain ⟨u, hu, h⟩ := hr.each i hi
    exact ⟨u, hu, h.base (Nat.zero_le _)⟩⟩
  exact (mulM_any a b n k k hn1 hn hk1 hk hk1 hk w hV' hU').mono fun e w' ⟨v, h1, ⟨g, c, hv, _⟩, h2⟩ => ⟨_, _, _, _, (by rw [hv] at h1; exact h1), h2⟩
def CoderOk (B : Nat) (w : World) (e : Ending) (w' : World) : Prop := (∃ g, e = .returned (.tuple #[.pointer (some ⟨g, 0, none⟩), .int .i64 0])) ∧ Below B w w'
set_option maxHeartbeats 4000000 in
theorem coderYes_any (k n : Nat) (h1 : 1 ≤ k) (h2 : k ≤ n) (h3 : n ≤ 16) (w : World) :
  Calls Tryz.prog 67 #[.int .i64 (k : Int), .int .i64 (n : Int)] w (CoderOk w.heap.size w) := by
 have q1 : ¬ (k : Int) < 1 := by omega
 have q2 : ¬ (n : Int) < (k : Int) := by omega
 have q3 : ¬ (16 : Int) < (n : Int) := by omega
 have q4 : decide (n < k) = false := by simp; omega
 have HP := Lib.hid (fun W => powers_any n k (by omega) (by omega) h1 (by omega) W)
 have HU := Lib.hid (fun W => upTo_any k (by omega) W)
 go_enter Tryz.func67, Tryz.ntmps67
 go_wp2_with (first
  | (go_at_call 110; refine (HP.out _).mono ?_; rintro e w5 ⟨v5, rfl, hV5, hb5⟩)
  | (go_at_call 112; refine (HU.out _).mono ?_; rintro e w6 ⟨v6, xs, rfl, ho6, hx6, hb6⟩; have hV6 := hV5.kept (RKept.of_below hb6 (Nat.le_refl _)); have HPk := Lib.hid (pick_any _ _ n k k xs (by omega) h1 h2 h1 (by omega) w6 (B := w.heap.size) (B' := w5.heap.size) (Nat.le_trans hb5.size hb6.size) hb6.size hV6 ho6 hx6); clear hx6 ho6)
  | (go_at_call 111; ((with_reducible refine HPk.out.mono ?_); rintro e w7 ⟨v7, rfl, hV7, hb7⟩; have hV8 := hV6.kept (RKept.of_below hb7 (Nat.le_refl _)); have HUn := Lib.hid (undo_u _ k h1 (by omega) w7 hV7)))
  | (go_at_call 113; ((with_reducible refine HUn.out.mono ?_); rintro e w8 ⟨u8, q8, rfl, hu8, hb8⟩; have HMu := Lib.hid (mul_u _ u8 n k (by omega) (by omega) h1 (by omega) w8 (hV8.kept (RKept.of_below hb8 (Nat.le_refl _))) hu8); have hb58 : Below w.heap.size w w8 := ((hb5.trans (hb6.mono hb5.size)).trans (hb7.mono (Nat.le_trans hb5.size hb6.size))).trans (hb8.mono (Nat.le_trans hb5.size (Nat.le_trans hb6.size hb7.size))); clear hu8))
  | (go_at_call 114; ((with_reducible refine HMu.out.mono ?_); rintro e w9 ⟨a9, m9, c9, q9, rfl, hb9⟩; have hb59 := hb58.trans (hb9.mono hb58.size)))
  | (go_at_call 115; refine (newField_any _).mono ?_; rintro e w10 ⟨f, rfl, hFl, hfl, hb10⟩; have hb510 := hb59.trans (hb10.mono hb59.size); clear hFl))
 go_ret2
 exact ⟨⟨_, rfl⟩, hb510.alloc hb510.size _⟩
def codeOk (k n : Int) : Bool := decide (1 ≤ k) && decide (k ≤ n) && decide (n ≤ 16)
def CoderIs (k n : Int) (B : Nat) (w : World) (e : Ending) (w' : World) : Prop := (∃ p q, e = .returned (.tuple #[p, .int .i64 q]) ∧ (q == 0) = codeOk k n) ∧ Below B w w'
theorem coderNew_any (k n : Int) (w : World) : Calls Tryz.prog 67 #[.int .i64 k, .int .i64 n] w (CoderIs k n w.heap.size w) := by
 by_cases h : k < 1 ∨ n < k ∨ 16 < n
 ·
  refine (coderNo_any k n h w).mono ?_
  rintro e w' ⟨h1, h2⟩
  refine ⟨⟨_, _, h1, ?_⟩, h2⟩
  have : codeOk k n = false := by unfold codeOk; simp; omega
  rw [this]; rfl
 ·
  obtain ⟨k, rfl⟩ := Int.eq_ofNat_of_zero_le (show 0 ≤ k by omega)
  obtain ⟨n, rfl⟩ := Int.eq_ofNat_of_zero_le (show 0 ≤ n by omega)
  refine (coderYes_any k n (by omega) (by omega) (by omega) w).mono ?_
  rintro e w' ⟨⟨g, h1⟩, h2⟩
  refine ⟨⟨_, _, h1, ?_⟩, h2⟩
  have : codeOk k n = true := by unfold codeOk; simp; omega
  rw [this]; rfl
def nameR (x : Int) : Bool := ((decide (x < 97)) || decide (122 < x)) && ((decide (x < 48)) || decide (57 < x))
theorem nameR_not (x : Nat) : nameR (x : Int) = !nameC (x : Int) := by
 unfold nameR nameC
 rw [Bool.eq_iff_iff]
 simp
theorem named1_any (x : Int) (w : World) : Calls Tryz.prog 66 (#[.int .i32 x] ++ #[]) w fun e w' => e = .returned (.bool (nameR x)) ∧ Below w.heap.size w w' := by
 obtain ⟨q, hq⟩ : ∃ q, q = nameR x := ⟨_, rfl⟩
 have HQ := Lib.hid hq
 rw [← hq]
 clear hq
 by_cases h1 : x < 97
 ·
  by_cases h2 : x < 48
  ·
   go_enter Tryz.func66, Tryz.ntmps66
   go_wp2_with fail
   go_ret
   exact ⟨congrArg (fun b => Ending.returned (Value.bool b)) (by rw [HQ.out]; unfold nameR; rw [Bool.eq_iff_iff]; first | (simp; omega) | (simp [*]; done) | (simp [*]; omega)), Below.refl _ _⟩
  ·
   go_enter Tryz.func66, Tryz.ntmps66
   go_wp2_with fail
   go_ret
   exact ⟨congrArg (fun b => Ending.returned (Value.bool b)) (by rw [HQ.out]; unfold nameR; rw [Bool.eq_iff_iff]; first | (simp; omega) | (simp [*]; done) | (simp [*]; omega)), Below.refl _ _⟩
 ·
  by_cases h3 : 122 < x
  ·
   have h2 : ¬ x < 48 := by omega
   have h4 : 57 < x := by omega
   go_enter Tryz.func66, Tryz.ntmps66
   go_wp2_with fail
   go_ret
   exact ⟨congrArg (fun b => Ending.returned (Value.bool b)) (by rw [HQ.out]; unfold nameR; rw [Bool.eq_iff_iff]; first | (simp; omega) | (simp [*]; done) | (simp [*]; omega)), Below.refl _ _⟩
  ·
   go_enter Tryz.func66, Tryz.ntmps66
   go_wp2_with fail
   go_ret
   exact ⟨congrArg (fun b => Ending.returned (Value.bool b)) (by rw [HQ.out]; unfold nameR; rw [Bool.eq_iff_iff]; first | (simp; omega) | (simp [*]; done) | (simp [*]; omega)), Below.refl _ _⟩
theorem named_any (s : ByteArray) (w : World) : Calls Tryz.prog 32 #[.string s] w fun e w' => e = .returned (.bool (namedB s)) ∧ Below w.heap.size w w' := by
 have hC := Lib.hid (Tryz.strings_ContainsFunc_grows 66 #[] (fun args w => by go_simp) (fun n => !nameC (n : Int)) s w (fun W x hx hb => by
  have := named1_any (x : Int) W
  rw [nameR_not] at this
  exact this))
 rw [Go.Proofs.YtejbpnhondpnfaaGreat.named_idx] at hC
 by_cases h0 : s.size = 0
 ·
  obtain rfl : s = ⟨#[]⟩ := ByteArray.size_eq_zero_iff.1 h0
  clear hC
  have hf : namedB ⟨#[]⟩ = false := rfl
  rw [hf]
  go_enter Tryz.func32, Tryz.ntmps32
  go_wp2_with fail
  go_ret
  exact ⟨rfl, Below.refl _ _⟩
 have e1 : ¬ s.toList = [] := fun e => h0 (by rw [ByteArray.toList_eq] at e; have := congrArg List.length e; simpa using this)
 have e2 : s.toList.isEmpty = false := by simpa using e1
 by_cases h16 : 16 < s.size
 ·
  have hf : namedB s = false := by unfold namedB; simp; omega
  have q1 : (16 : Int) < (s.size : Int) := by omega
  rw [hf]
  clear hC h0
  go_enter Tryz.func32, Tryz.ntmps32
  go_wp2_with fail
  go_ret
  exact ⟨rfl, Below.refl _ _⟩
 ·
  have q1 : ¬ (16 : Int) < (s.size : Int) := by omega
  have hf : namedB s = s.data.toList.all (fun c => nameC (c.toNat : Int)) := by
   unfold namedB
   rw [decide_eq_true (show 0 < s.size by omega), decide_eq_true (show s.size ≤ 16 by omega)]
   rfl
  rw [hf]
  obtain ⟨q, hq⟩ : ∃ q, q = s.data.toList.all (fun c => nameC (c.toNat : Int)) := ⟨_, rfl⟩
  rw [← hq] at hC ⊢
  clear hf hq h0
  go_enter Tryz.func32, Tryz.ntmps32
  go_wp2_with (go_at_call 65; refine hC.out.mono ?_; rintro e w5 ⟨rfl, hb⟩)
  go_ret
  exact ⟨by simp, hb⟩
def withinB (n m : Int) : Bool := decide (1 ≤ n) && decide (n ≤ m)
theorem within_any (n m : Int) (w : World) : Calls Tryz.prog 68 #[.int .i64 n, .int .i64 m] w fun e w' => e = .returned (.bool (withinB n m)) ∧ Below w.heap.size w w' := by
 by_cases h1 : 1 ≤ n
 ·
  have e : withinB n m = decide (n ≤ m) := by unfold withinB; simp [h1]
  rw [e]
  clear e
  go_enter Tryz.func68, Tryz.ntmps68
  go_wp2_with fail
  go_ret
  exact ⟨rfl, Below.refl _ _⟩
 ·
  have e : withinB n m = false := by unfold withinB; simp [h1]
  rw [e]
  clear e
  go_enter Tryz.func68, Tryz.ntmps68
  go_wp2_with fail
  go_ret
  exact ⟨rfl, Below.refl _ _⟩
structure Jb where
 name : ByteArray
 tasks : Int
 parts : Int
 k : Int
 n : Int
 fuel : Int
 fold : ByteArray
 comb : Bool
def jbA (j : Jb) (A6 A7 A8 : Option Addr) (n6 c6 n7 c7 n8 c8 : Nat) : Array Value := #[.string j.name, .int .i64 j.tasks, .int .i64 j.parts, .int .i64 j.k, .int .i64 j.n, .int .i64 j.fuel, .slice A6 n6 c6, .slice A7 n7 c7, .slice A8 n8 c8, .string j.fold, .bool j.comb]
def numbersB (j : Jb) : Bool := codeOk j.k j.n && withinB j.tasks 16 && withinB j.parts 16 && withinB j.fuel 100000
theorem cells_of {w : World} {g : Nat} {cs : Array Value} {t : TypeId} {fz : Nat × Nat} (h : w.heap[g]? = some (.cells cs t fz)) (i : Nat) (v : Value) (hv : cs[i]? = some v) : w.cell? ⟨g, i, none⟩ = some v := by
 simp only [World.cell?, h]; exact hv
set_option maxHeartbeats 4000000 in
theorem numbers_any (j : Jb) (A6 A7 A8 : Option Addr) (n6 c6 n7 c7 n8 c8 : Nat) (w : World) :
  Calls Tryz.prog 33 #[.agg (jbA j A6 A7 A8 n6 c6 n7 c7 n8 c8)] w fun e w' => e = .returned (.bool (numbersB j)) ∧ Below w.heap.size w w' := by
 obtain ⟨nm, ta, pa, k, n, fu, fo, cb⟩ := j
 obtain ⟨W1, hW1⟩ : ∃ W1, W1 = w.alloc (.cells (jbA ⟨nm, ta, pa, k, n, fu, fo, cb⟩ A6 A7 A8 n6 c6 n7 c7 n8 c8) 32) := ⟨_, rfl⟩
 have hg : W1.heap[w.heap.size]? = some (.cells (jbA ⟨nm, ta, pa, k, n, fu, fo, cb⟩ A6 A7 A8 n6 c6 n7 c7 n8 c8) 32 (0, 0)) := by rw [hW1]; exact heap_alloc_new w _
 have hb1 : Below w.heap.size w W1 := by rw [hW1]; exact (Below.refl _ w).alloc (Nat.le_refl _) _
 have hlt : w.heap.size < W1.heap.size := (Array.getElem?_eq_some_iff.1 hg).1
 have HG : Hid (∀ W, Below W1.heap.size W1 W → W.cell? ⟨w.heap.size, 1, none⟩ = some (.int .i64 ta) ∧ W.cell? ⟨w.heap.size, 2, none⟩ = some (.int .i64 pa) ∧ W.cell? ⟨w.heap.size, 5, none⟩ = some (.int .i64 fu)) := Lib.hid fun W hW =>
  ⟨cells_of ((hW.block _ hlt).trans hg) 1 _ rfl, cells_of ((hW.block _ hlt).trans hg) 2 _ rfl, cells_of ((hW.block _ hlt).trans hg) 5 _ rfl⟩
 have k3 : W1.cell? ⟨w.heap.size, 3, none⟩ = some (.int .i64 k) := cells_of hg 3 _ rfl
 have k4 : W1.cell? ⟨w.heap.size, 4, none⟩ = some (.int .i64 n) := cells_of hg 4 _ rfl
 have HC := Lib.hid (coderNew_any k n W1)
 have HW := Lib.hid (fun (x m : Int) W (hW : Below W1.heap.size W1 W) => (within_any x m W).mono (R' := fun e W' => e = .returned (.bool (withinB x m)) ∧ Below W1.heap.size W1 W') (fun e W' ⟨h1, h2⟩ => ⟨h1, hW.trans (h2.mono hW.size)⟩))
 clear hg hlt
 unfold jbA at hW1 ⊢
 simp only at hW1 ⊢
 obtain ⟨rr, hrr⟩ : ∃ rr, rr = numbersB ⟨nm, ta, pa, k, n, fu, fo, cb⟩ := ⟨_, rfl⟩
 rw [← hrr]
 have HRR := Lib.hid hrr
 clear hrr
 obtain ⟨b0, hb0⟩ : ∃ b, b = codeOk k n := ⟨_, rfl⟩
 obtain ⟨b1, hb1'⟩ : ∃ b, b = withinB ta 16 := ⟨_, rfl⟩
 obtain ⟨b2, hb2⟩ : ∃ b, b = withinB pa 16 := ⟨_, rfl⟩
 obtain ⟨b3, hb3⟩ : ∃ b, b = withinB fu 100000 := ⟨_, rfl⟩
 have hw1 := fun W hW => HW.out ta 16 W hW
 have hw2 := fun W hW => HW.out pa 16 W hW
 have hw3 := fun W hW => HW.out fu 100000 W hW
 rw [← hb1'] at hw1
 rw [← hb2] at hw2
 rw [← hb3] at hw3
 have HRB : Hid (rr = (b0 && b1 && b2 && b3)) := Lib.hid (by rw [HRR.out, hb0, hb1', hb2, hb3]; rfl)
 have HW1 := Lib.hid hw1
 have HW2 := Lib.hid hw2
 have HW3 := Lib.hid hw3
 have HB0 := Lib.hid hb0
 clear hb0 hb1' hb2 hb3 hw1 hw2 hw3 HW HRR
 go_enter Tryz.func33, Tryz.ntmps33
 cases b0
 case false =>
  go_wp2_with (first
   | (rw [← hW1]; clear hW1)
   | (go_at_call 67; refine HC.out.mono ?_; rintro e w5 ⟨⟨p, q, rfl, hq⟩, hp5⟩; rw [← HB0.out] at hq))
  go_ret
  exact ⟨by rw [HRB.out]; rfl, hb1.trans (hp5.mono hb1.size)⟩
 case true =>
  cases b1
  case false =>
   go_wp2_with (first
    | (rw [← hW1]; clear hW1)
    | (go_at_call 67; refine HC.out.mono ?_; rintro e w5 ⟨⟨p, q, rfl, hq⟩, hp5⟩; rw [← HB0.out] at hq; obtain ⟨y1, y2, y5⟩ := HG.out _ hp5)
    | (go_at_call 68; ((with_reducible refine (HW1.out _ hp5).mono ?_); rintro e w6 ⟨rfl, hp6⟩)))
   go_ret
   exact ⟨by rw [HRB.out]; rfl, hb1.trans (hp6.mono hb1.size)⟩
  case true =>
   cases b2
   case false =>
    go_wp2_with (first
     | (rw [← hW1]; clear hW1)
     | (go_at_call 67; refine HC.out.mono ?_; rintro e w5 ⟨⟨p, q, rfl, hq⟩, hp5⟩; rw [← HB0.out] at hq; obtain ⟨y1, y2, y5⟩ := HG.out _ hp5)
     | (go_at_call 68; ((with_reducible refine (HW1.out _ hp5).mono ?_); rintro e w6 ⟨rfl, hp6⟩; obtain ⟨z1, z2, z5⟩ := HG.out _ hp6))
     | (go_at_call 68; ((with_reducible refine (HW2.out _ hp6).mono ?_); rintro e w7 ⟨rfl, hp7⟩)))
    go_ret
    exact ⟨by rw [HRB.out]; rfl, hb1.trans (hp7.mono hb1.size)⟩
   case true =>
    go_wp2_with (first
     | (rw [← hW1]; clear hW1)
     | (go_at_call 67; refine HC.out.mono ?_; rintro e w5 ⟨⟨p, q, rfl, hq⟩, hp5⟩; rw [← HB0.out] at hq; obtain ⟨y1, y2, y5⟩ := HG.out _ hp5)
     | (go_at_call 68; ((with_reducible refine (HW1.out _ hp5).mono ?_); rintro e w6 ⟨rfl, hp6⟩; obtain ⟨z1, z2, z5⟩ := HG.out _ hp6))
     | (go_at_call 68; ((with_reducible refine (HW2.out _ hp6).mono ?_); rintro e w7 ⟨rfl, hp7⟩; obtain ⟨v1, v2, v5⟩ := HG.out _ hp7))
     | (go_at_call 68; ((with_reducible refine (HW3.out _ hp7).mono ?_); rintro e w8 ⟨rfl, hp8⟩)))
    go_ret
    exact ⟨by rw [HRB.out]; rfl, hb1.trans (hp8.mono hb1.size)⟩
structure PF (a b : Pt) (w W : World) : Prop where
 below : Below w.heap.size w W
 a : W.heap[w.heap.size]? = some (.cells #[.int .i64 a.x, .int .i64 a.y] 43 (0, 0))
 b : W.heap[w.heap.size + 1]? = some (.cells #[.int .i64 b.x, .int .i64 b.y] 43 (0, 0))
 c : W.heap[w.heap.size + 1 + 1]? = some (.cells #[.int .i64 0, .int .i64 0, .string ⟨#[]⟩, .int .i64 0, .int .i64 0] 45 (0, 0))
theorem PF.step {a b : Pt} {w W W' : World} (h : PF a b w W) (k : Below W.heap.size W W') : PF a b w W' :=
 ⟨h.below.trans (k.mono h.below.size), (k.block _ (Array.getElem?_eq_some_iff.1 h.a).1).trans h.a, (k.block _ (Array.getElem?_eq_some_iff.1 h.b).1).trans h.b, (k.block _ (Array.getElem?_eq_some_iff.1 h.c).1).trans h.c⟩
def fW (a b : Pt) (w : World) : World := ((w.alloc (ptB a.x a.y)).alloc (ptB b.x b.y)).alloc (valB zeroV)
theorem fW_pf (a b : Pt) (w : World) : PF a b w (fW a b w) := by
 have h : (fW a b w).heap = ((w.heap.push (ptB a.x a.y)).push (ptB b.x b.y)).push (valB zeroV) := rfl
 refine ⟨(((Below.refl _ w).alloc (Nat.le_refl _) _).alloc (by rw [World.size_alloc]; omega) _).alloc (by rw [World.size_alloc, World.size_alloc]; omega) _, ?_, ?_, ?_⟩ <;> rw [h]
 ·
  rw [Array.getElem?_push_lt (by rw [Array.size_push, Array.size_push]; omega), ← Array.getElem?_eq_getElem, Array.getElem?_push_lt (by rw [Array.size_push]; omega), ← Array.getElem?_eq_getElem, Array.getElem?_push_size]; rfl
 ·
  rw [Array.getElem?_push_lt (by rw [Array.size_push, Array.size_push]; omega), ← Array.getElem?_eq_getElem]
  have := Array.getElem?_push_size (xs := w.heap.push (ptB a.x a.y)) (x := ptB b.x b.y)
  rw [Array.size_push] at this; exact this
 ·
  have := Array.getElem?_push_size (xs := (w.heap.push (ptB a.x a.y)).push (ptB b.x b.y)) (x := valB zeroV)
  rw [Array.size_push, Array.size_push] at this; exact this
theorem PF.fin {a b : Pt} {w W : World} (h : PF a b w W) (u0 u1 u2 u3 u4 : Value) :
  (((((W.setCell ⟨w.heap.size + 1 + 1, 0, none⟩ u0).setCell ⟨w.heap.size + 1 + 1, 1, none⟩ u1).setCell ⟨w.heap.size + 1 + 1, 2, none⟩ u2).setCell ⟨w.heap.size + 1 + 1, 3, none⟩ u3).setCell ⟨w.heap.size + 1 + 1, 4, none⟩ u4).heap[w.heap.size + 1 + 1]? = some (.cells #[u0, u1, u2, u3, u4] 45 (0, 0)) ∧
  Below w.heap.size w (((((W.setCell ⟨w.heap.size + 1 + 1, 0, none⟩ u0).setCell ⟨w.heap.size + 1 + 1, 1, none⟩ u1).setCell ⟨w.heap.size + 1 + 1, 2, none⟩ u2).setCell ⟨w.heap.size + 1 + 1, 3, none⟩ u3).setCell ⟨w.heap.size + 1 + 1, 4, none⟩ u4) :=
 ⟨set_five _ _ _ _ _ h.c, below_five _ _ _ _ _ h.below (Nat.le_trans (Nat.le_succ _) (Nat.le_succ _))⟩
set_option maxHeartbeats 1000000 in
theorem pnt_sum (a b : Pt) (ha : inP a) (hb : inP b) (w : World) :
  Calls Tryz.prog 48 #[.string sumB', ptV a.x a.y, ptV b.x b.y] w fun e w' => e = .returned (valV (pntV ⟨wrapZ 16777216 (a.x + b.x), wrapZ 16777216 (a.y + b.y)⟩)) ∧ Below w.heap.size w w' := by
 obtain ⟨⟨a1, a2⟩, a3, a4⟩ := ha
 obtain ⟨⟨b1, b2⟩, b3, b4⟩ := hb
 have hw1 : IntKind.i64.wrap (a.x + b.x) = a.x + b.x := by rw [IntKind.wrap_i64]; omega
 have hw2 : IntKind.i64.wrap (a.y + b.y) = a.y + b.y := by rw [IntKind.wrap_i64]; omega
 have hc1 := fun W => (wrapped_any (a.x + b.x) 16777216 (by decide) (by decide) (by omega) (by omega) W).mono fun _ _ ⟨p, q⟩ => (⟨p, q.symm⟩ : _ ∧ _ = _)
 have hc2 := fun W => (wrapped_any (a.y + b.y) 16777216 (by decide) (by decide) (by omega) (by omega) W).mono fun _ _ ⟨p, q⟩ => (⟨p, q.symm⟩ : _ ∧ _ = _)
 obtain ⟨r1, hr1⟩ : ∃ r, r = wrapZ 16777216 (a.x + b.x) := ⟨_, rfl⟩
 obtain ⟨r2, hr2⟩ : ∃ r, r = wrapZ 16777216 (a.y + b.y) := ⟨_, rfl⟩
 rw [← hr1] at hc1 ⊢
 rw [← hr2] at hc2 ⊢
 have HC1 := Lib.hid hc1
 have HC2 := Lib.hid hc2
 obtain ⟨W1, hW1⟩ : ∃ W1, W1 = fW a b w := ⟨_, rfl⟩
 have hpf : PF a b w W1 := hW1 ▸ fW_pf a b w
 obtain ⟨k0, k1⟩ := two_cells hpf.a
 obtain ⟨l0, l1⟩ := two_cells hpf.b
 unfold fW ptB valB zeroV at hW1
 unfold ptV valV pntV sumB'
 have HPF := Lib.hid hpf
 clear hr1 hr2 hc1 hc2 hpf
 go_enter Tryz.func48, Tryz.ntmps48
 go_wp2_with (first | (rw [← hW1]; clear hW1))
 go_still_tail 14, (by kernel_rfl)
 still_call HC1.out _
 repeat still_step
 still_call HC2.out _
 repeat still_step
 refine wpStill_nil ?_
 change wpList _ _ _ _ _ W1.drew
 obtain ⟨w2, hW⟩ : ∃ w2, w2 = W1.drew := ⟨_, rfl⟩
 have hpf2 : PF a b w w2 := by rw [hW]; exact HPF.out.step (below_drew W1)
 rw [← hW]
 obtain ⟨c0, c1, c2, c3, c4⟩ := qam hpf2.c
 have f0 := qao (o := 0) hpf2.c
 have f1 := qao (o := 1) hpf2.c
 have f2 := qao (o := 2) hpf2.c
 have f3 := qao (o := 3) hpf2.c
 have f4 := qao (o := 4) hpf2.c
 have HF := Lib.hid (hpf2.fin (.int .i64 2) (.int .i64 0) (.string ⟨#[]⟩) (.int .i64 r1) (.int .i64 r2))
 clear hW hpf2
 go_wp2_with fail
 exact bodyPost_ret (results_cell_row rfl _ _ (w.heap.size + 1 + 1) 45 #[.int .i64 2, .int .i64 0, .string ⟨#[]⟩, .int .i64 r1, .int .i64 r2] (0, 0) _ rfl HF.out.1 Tryz.underlying45 rfl (by kernel_rfl)) rfl ⟨rfl, HF.out.2⟩
set_option maxHeartbeats 1000000 in
theorem pnt_gcd (a b : Pt) (ha : inP a) (hb : inP b) (w : World) :
  Calls Tryz.prog 48 #[.string gcdB, ptV a.x a.y, ptV b.x b.y] w fun e w' => e = .returned (valV (pntV (comG a b))) ∧ Below w.heap.size w w' := by
 have HC := Lib.hid (common_any a b ha hb)
 obtain ⟨r, hr⟩ : ∃ r, r = comG a b := ⟨_, rfl⟩
 rw [← hr] at HC ⊢
 obtain ⟨W1, hW1⟩ : ∃ W1, W1 = fW a b w := ⟨_, rfl⟩
 have hpf : PF a b w W1 := hW1 ▸ fW_pf a b w
 obtain ⟨k0, k1⟩ := two_cells hpf.a
 obtain ⟨l0, l1⟩ := two_cells hpf.b
 unfold fW ptB valB zeroV at hW1
 unfold ptV at HC ⊢
 unfold valV pntV gcdB
 have HPF := Lib.hid hpf
 clear hr hpf
 go_enter Tryz.func48, Tryz.ntmps48
 go_wp2_with (first | (rw [← hW1]; clear hW1))
 refine (HC.out _).mono ?_
 rintro e w2 ⟨rfl, hb2⟩
 have hs2 : w.heap.size + 3 ≤ w2.heap.size := by
  have h1 := hb2.size
  have h2 := (Array.getElem?_eq_some_iff.1 HPF.out.c).1
  omega
 obtain ⟨w3, hW3⟩ : ∃ w3, w3 = w2.alloc (.cells #[.int .i64 r.x, .int .i64 r.y] 43) := ⟨_, rfl⟩
 have hpf2 : PF a b w w3 := by rw [hW3]; exact (HPF.out.step hb2).step ((Below.refl _ w2).alloc (Nat.le_refl _) _)
 have hn3 : w3.heap[w2.heap.size]? = some (.cells #[.int .i64 r.x, .int .i64 r.y] 43 (0, 0)) := by rw [hW3]; exact heap_alloc_new _ _
 obtain ⟨m0, m1⟩ := two_cells hn3
 obtain ⟨c0, c1, c2, c3, c4⟩ := qam hpf2.c
 have f0 := qao (o := 0) hpf2.c
 have f1 := qao (o := 1) hpf2.c
 have f2 := qao (o := 2) hpf2.c
 have f3 := qao (o := 3) hpf2.c
 have f4 := qao (o := 4) hpf2.c
 have HF := Lib.hid (hpf2.fin (.int .i64 2) (.int .i64 0) (.string ⟨#[]⟩) (.int .i64 r.x) (.int .i64 r.y))
 clear hpf2 hn3 hb2
 go_wp2_with (first | (rw [← hW3]; clear hW3))
 exact bodyPost_ret (results_cell_row rfl _ _ (w.heap.size + 1 + 1) 45 #[.int .i64 2, .int .i64 0, .string ⟨#[]⟩, .int .i64 r.x, .int .i64 r.y] (0, 0) _ rfl HF.out.1 Tryz.underlying45 rfl (by kernel_rfl)) rfl ⟨rfl, HF.out.2⟩
def maxB : ByteArray := ⟨#[109, 97, 120]⟩
def minB : ByteArray := ⟨#[109, 105, 110]⟩
def foldsL : List ByteArray := [sumB', maxB, minB, gcdB]
def foldsO : Obj := .cells #[.string sumB', .string maxB, .string minB, .string gcdB] 9 (0, 0)
theorem folds_any (w : World) : Calls Tryz.prog 36 #[] w fun e w' => e = .returned (.slice (some ⟨w.heap.size, 0, none⟩) 4 4) ∧ w' = w.alloc foldsO := by
 unfold foldsO sumB' maxB minB gcdB
 go_enter Tryz.func36, Tryz.ntmps36
 go_wp2_with fail
 go_ret
 exact ⟨rfl, rfl⟩
theorem has_any (x : ByteArray) (hx : Lib.containsS foldsL x = true) (g : Nat) (W : World) (hg : W.heap[g]? = some foldsO) :
  Calls Tryz.prog 35 #[.slice (some ⟨g, 0, none⟩) 4 4, .string x] W fun e w' => e = .returned (.bool true) ∧ w' = W := by
 refine (Tryz.slices_Contains_string g 0 4 4 foldsL x W (by decide) (by decide) (fun j hj => ?_)).mono ?_
 ·
  rw [Nat.zero_add]
  have hj4 : j < 4 := hj
  unfold foldsO at hg
  match j, hj4 with
  | 0, _ => simp [World.cell?, hg]; rfl
  | 1, _ => simp [World.cell?, hg]; rfl
  | 2, _ => simp [World.cell?, hg]; rfl
  | 3, _ => simp [World.cell?, hg]; rfl
 ·
  rintro e w' ⟨rfl, rfl⟩
  have : foldsL.take 4 = foldsL := rfl
  rw [this, hx]
  exact ⟨rfl, rfl⟩
structure PO (a b : Val) (w W : World) : Prop where
 below : Below w.heap.size w W
 a : W.heap[w.heap.size]? = some (.cells #[.int .i64 a.k, .int .i64 a.n, .string a.t, .int .i64 a.x, .int .i64 a.y] 45 (0, 0))
 b : W.heap[w.heap.size + 1]? = some (.cells #[.int .i64 b.k, .int .i64 b.n, .string b.t, .int .i64 b.x, .int .i64 b.y] 45 (0, 0))
 c : W.heap[w.heap.size + 1 + 1]? = some (.cells #[.int .i64 0, .int .i64 0, .string ⟨#[]⟩, .int .i64 0, .int .i64 0] 45 (0, 0))
theorem PO.step {a b : Val} {w W W' : World} (h : PO a b w W) (k : Below W.heap.size W W') : PO a b w W' :=
 ⟨h.below.trans (k.mono h.below.size), (k.block _ (Array.getElem?_eq_some_iff.1 h.a).1).trans h.a, (k.block _ (Array.getElem?_eq_some_iff.1 h.b).1).trans h.b, (k.block _ (Array.getElem?_eq_some_iff.1 h.c).1).trans h.c⟩
def oW (a b : Val) (w : World) : World := ((w.alloc (valB a)).alloc (valB b)).alloc (valB zeroV)
theorem oW_po (a b : Val) (w : World) : PO a b w (oW a b w) := by
 have h : (oW a b w).heap = ((w.heap.push (valB a)).push (valB b)).push (valB zeroV) := rfl
 refine ⟨(((Below.refl _ w).alloc (Nat.le_refl _) _).alloc (by rw [World.size_alloc]; omega) _).alloc (by rw [World.size_alloc, World.size_alloc]; omega) _, ?_, ?_, ?_⟩ <;> rw [h]
 ·
  rw [Array.getElem?_push_lt (by rw [Array.size_push, Array.size_push]; omega), ← Array.getElem?_eq_getElem, Array.getElem?_push_lt (by rw [Array.size_push]; omega), ← Array.getElem?_eq_getElem, Array.getElem?_push_size]; rfl
 ·
  rw [Array.getElem?_push_lt (by rw [Array.size_push, Array.size_push]; omega), ← Array.getElem?_eq_getElem]
  have := Array.getElem?_push_size (xs := w.heap.push (valB a)) (x := valB b)
  rw [Array.size_push] at this; exact this
 ·
  have := Array.getElem?_push_size (xs := (w.heap.push (valB a)).push (valB b)) (x := valB zeroV)
  rw [Array.size_push, Array.size_push] at this; exact this
theorem PO.fin {a b : Val} {w W : World} (h : PO a b w W) (v : Val) :
  (((((W.setCell ⟨w.heap.size + 1 + 1, 0, none⟩ (.int .i64 v.k)).setCell ⟨w.heap.size + 1 + 1, 1, none⟩ (.int .i64 v.n)).setCell ⟨w.heap.size + 1 + 1, 2, none⟩ (.string v.t)).setCell ⟨w.heap.size + 1 + 1, 3, none⟩ (.int .i64 v.x)).setCell ⟨w.heap.size + 1 + 1, 4, none⟩ (.int .i64 v.y)).heap[w.heap.size + 1 + 1]? = some (.cells #[.int .i64 v.k, .int .i64 v.n, .string v.t, .int .i64 v.x, .int .i64 v.y] 45 (0, 0)) ∧
  Below w.heap.size w (((((W.setCell ⟨w.heap.size + 1 + 1, 0, none⟩ (.int .i64 v.k)).setCell ⟨w.heap.size + 1 + 1, 1, none⟩ (.int .i64 v.n)).setCell ⟨w.heap.size + 1 + 1, 2, none⟩ (.string v.t)).setCell ⟨w.heap.size + 1 + 1, 3, none⟩ (.int .i64 v.x)).setCell ⟨w.heap.size + 1 + 1, 4, none⟩ (.int .i64 v.y)) :=
 ⟨set_five _ _ _ _ _ h.c, below_five _ _ _ _ _ h.below (Nat.le_trans (Nat.le_succ _) (Nat.le_succ _))⟩
theorem right_int {v : Val} (h : qbf v = true) (hk : v.k = 0) : -9007199254740992 ≤ v.n ∧ v.n ≤ 9007199254740992 := by
 unfold qbf at h
 rw [if_pos hk] at h
 simp only [Bool.and_eq_true, decide_eq_true_eq] at h
 exact ⟨h.1, h.2.1⟩
theorem right_pnt {v : Val} (h : qbf v = true) (hk : v.k = 2) : inP ⟨v.x, v.y⟩ := by
 unfold qbf at h
 rw [if_neg (by omega), if_neg (by omega), if_pos hk] at h
 simp only [Bool.and_eq_true] at h
 exact ptR_in.1 h.1
def foldV (j : Nat) (a b : Val) : Val × Int :=
 if qbf a = true ∧ qbf b = true then
  if a.k = b.k then
   if j = 1 then (if 0 < ordV a b then a else b, 0)
   else if j = 2 then (if ordV a b < 0 then a else b, 0)
   else if a.k = 0 then (numV (if j = 0 then wrapZ 9007199254740992 (a.n + b.n) else ((Int.gcd a.n b.n : Nat) : Int)), 0)
   else if a.k = 2 then (pntV (if j = 0 then ⟨wrapZ 16777216 (a.x + b.x), wrapZ 16777216 (a.y + b.y)⟩ else comG ⟨a.x, a.y⟩ ⟨b.x, b.y⟩), 0)
   else (zeroV, 13)
  else (zeroV, 13)
 else (zeroV, 1)
set_option maxHeartbeats 4000000 in
theorem fold_sum (a b : Val) (w : World) :
  Calls Tryz.prog 19 #[.string sumB', valV a, valV b] w fun e w' => e = .returned (.tuple #[valV (foldV 0 a b).1, .int .i64 (foldV 0 a b).2]) ∧ Below w.heap.size w w' := by
 obtain ⟨r, hr⟩ : ∃ r, r = foldV 0 a b := ⟨_, rfl⟩
 rw [← hr]
 have HR := Lib.hid hr
 have hra := Lib.hid (vright_any a)
 have hrb := Lib.hid (vright_any b)
 have hor := Lib.hid (order_any a b)
 have hco := Lib.hid (has_any sumB' (by kernel_rfl))
 obtain ⟨W1, hW1⟩ : ∃ W1, W1 = oW a b w := ⟨_, rfl⟩
 have hp1 : PO a b w W1 := hW1 ▸ oW_po a b w
 unfold valV at hra hrb hor ⊢
 unfold oW valB zeroV at hW1
 unfold sumB' at hco ⊢
 clear hr
 obtain ⟨w2, hw2⟩ : ∃ w2, w2 = W1.alloc foldsO := ⟨_, rfl⟩
 have hp2 : PO a b w w2 := by rw [hw2]; exact hp1.step ((Below.refl _ W1).alloc (Nat.le_refl _) _)
 have hg2 : w2.heap[W1.heap.size]? = some foldsO := by rw [hw2]; exact heap_alloc_new _ _
 have HC := Lib.hid (hco.out _ _ hg2)
 clear hg2 hp1 hco
 go_enter Tryz.func19, Tryz.ntmps19
 go_wp2_with (first | (rw [← hW1]; clear hW1))
 refine (folds_any W1).mono ?_
 rintro e w3 ⟨rfl, rfl⟩
 rw [← hw2]
 clear hw2
 obtain ⟨k0, k1, k2, k3, k4⟩ := qam hp2.a
 go_wp2_with fail
 refine HC.out.mono ?_
 rintro e w3 ⟨rfl, rfl⟩
 go_wp2_with fail
 refine (hra.out _).mono ?_
 rintro e w3 ⟨rfl, hb3⟩
 have hp3 := hp2.step hb3
 clear k0 k1 k2 k3 k4 hp2 hb3 HC
 cases hqa : qbf a with
 | false =>
  have hz : r = (zeroV, 1) := by rw [HR.out]; unfold foldV; rw [if_neg (by rw [hqa]; simp)]
  have HZ := Lib.hid hz
  obtain ⟨k0, k1, k2, k3, k4⟩ := qam hp3.a
  obtain ⟨l0, l1, l2, l3, l4⟩ := qam hp3.b
  obtain ⟨c0, c1, c2, c3, c4⟩ := qam hp3.c
  have f0 := qao (o := 0) hp3.c
  have f1 := qao (o := 1) hp3.c
  have f2 := qao (o := 2) hp3.c
  have f3 := qao (o := 3) hp3.c
  have f4 := qao (o := 4) hp3.c
  have HF := Lib.hid (hp3.fin zeroV)
  clear hp3 hz hqa
  go_wp2_with fail
  exact bodyPost_ret (qas rfl _ _ (w.heap.size + 1 + 1) 45 #[.int .i64 0, .int .i64 0, .string ⟨#[]⟩, .int .i64 0, .int .i64 0] _ (.int .i64 1) rfl rfl HF.out.1 Tryz.underlying45 rfl (by kernel_rfl)) rfl ⟨by rw [HZ.out]; rfl, HF.out.2⟩
 | true =>
  obtain ⟨l0, l1, l2, l3, l4⟩ := qam hp3.b
  go_wp2_with fail
  refine (hrb.out _).mono ?_
  rintro e w4 ⟨rfl, hb4⟩
  have hp4 := hp3.step hb4
  clear l0 l1 l2 l3 l4 hp3 hb4
  cases hqb : qbf b with
  | false =>
   have hz : r = (zeroV, 1) := by rw [HR.out]; unfold foldV; rw [if_neg (by rw [hqb]; simp)]
   have HZ := Lib.hid hz
   obtain ⟨k0, k1, k2, k3, k4⟩ := qam hp4.a
   obtain ⟨l0, l1, l2, l3, l4⟩ := qam hp4.b
   obtain ⟨c0, c1, c2, c3, c4⟩ := qam hp4.c
   have f0 := qao (o := 0) hp4.c
   have f1 := qao (o := 1) hp4.c
   have f2 := qao (o := 2) hp4.c
   have f3 := qao (o := 3) hp4.c
   have f4 := qao (o := 4) hp4.c
   have HF := Lib.hid (hp4.fin zeroV)
   clear hp4 hz hqa hqb
   go_wp2_with fail
   exact bodyPost_ret (qas rfl _ _ (w.heap.size + 1 + 1) 45 #[.int .i64 0, .int .i64 0, .string ⟨#[]⟩, .int .i64 0, .int .i64 0] _ (.int .i64 1) rfl rfl HF.out.1 Tryz.underlying45 rfl (by kernel_rfl)) rfl ⟨by rw [HZ.out]; rfl, HF.out.2⟩
  | true =>
   have hif := HR.out
   unfold foldV at hif
   rw [if_pos ⟨hqa, hqb⟩] at hif
   obtain ⟨k0, k1, k2, k3, k4⟩ := qam hp4.a
   obtain ⟨l0, l1, l2, l3, l4⟩ := qam hp4.b
   go_wp2_with fail
   refine (hor.out _).mono ?_
   rintro e w5 ⟨rfl, hb5⟩
   have hp5 := hp4.step hb5
   clear k0 k1 k2 k3 k4 l0 l1 l2 l3 l4 hp4 hb5
   obtain ⟨o, ho⟩ : ∃ o, o = ordV a b := ⟨_, rfl⟩
   rw [← ho] at hif ⊢
   clear ho
   obtain ⟨k0, k1, k2, k3, k4⟩ := qam hp5.a
   obtain ⟨l0, l1, l2, l3, l4⟩ := qam hp5.b
   obtain ⟨c0, c1, c2, c3, c4⟩ := qam hp5.c
   have f0 := qao (o := 0) hp5.c
   have f1 := qao (o := 1) hp5.c
   have f2 := qao (o := 2) hp5.c
   have f3 := qao (o := 3) hp5.c
   have f4 := qao (o := 4) hp5.c
   by_cases hk : a.k = b.k
   ·
    rw [if_pos hk] at hif
    have hkb : (a.k != b.k) = false := by rw [hk]; simp
    rw [if_neg (by decide), if_neg (by decide)] at hif
    by_cases hk0 : a.k = 0
    ·
     rw [if_pos hk0, if_pos trivial] at hif
     have hnf := Lib.hid (num_sum a.n b.n (right_int hqa hk0) (right_int hqb (hk ▸ hk0)))
     obtain ⟨m, hm⟩ : ∃ m, m = wrapZ 9007199254740992 (a.n + b.n) := ⟨_, rfl⟩
     rw [← hm] at hif hnf
     have HZ := Lib.hid hif
     unfold valV numV sumB' at hnf
     clear hif hm hqa hqb
     go_wp2_with fail
     refine (hnf.out _).mono ?_
     rintro e w6 ⟨rfl, hb6⟩
     have hp6 := hp5.step hb6
     clear k0 k1 k2 k3 k4 l0 l1 l2 l3 l4 c0 c1 c2 c3 c4 f0 f1 f2 f3 f4 hp5 hb6
     obtain ⟨k0, k1, k2, k3, k4⟩ := qam hp6.a
     obtain ⟨l0, l1, l2, l3, l4⟩ := qam hp6.b
     obtain ⟨c0, c1, c2, c3, c4⟩ := qam hp6.c
     have f0 := qao (o := 0) hp6.c
     have f1 := qao (o := 1) hp6.c
     have f2 := qao (o := 2) hp6.c
     have f3 := qao (o := 3) hp6.c
     have f4 := qao (o := 4) hp6.c
     have HF := Lib.hid (hp6.fin (numV m))
     clear hp6
     go_wp2_with fail
     exact bodyPost_ret (qas rfl _ _ (w.heap.size + 1 + 1) 45 #[.int .i64 0, .int .i64 m, .string ⟨#[]⟩, .int .i64 0, .int .i64 0] _ (.int .i64 0) rfl rfl HF.out.1 Tryz.underlying45 rfl (by kernel_rfl)) rfl ⟨by rw [HZ.out]; rfl, HF.out.2⟩
    ·
     rw [if_neg hk0] at hif
     by_cases hk2 : a.k = 2
     ·
      rw [if_pos hk2, if_pos trivial] at hif
      have hnf := Lib.hid (pnt_sum ⟨a.x, a.y⟩ ⟨b.x, b.y⟩ (right_pnt hqa hk2) (right_pnt hqb (hk ▸ hk2)))
      obtain ⟨m, hm⟩ : ∃ m, m = (⟨wrapZ 16777216 (a.x + b.x), wrapZ 16777216 (a.y + b.y)⟩ : Pt) := ⟨_, rfl⟩
      simp only at hnf
      rw [← hm] at hif hnf
      have HZ := Lib.hid hif
      unfold valV pntV ptV sumB' at hnf
      clear hif hm hqa hqb
      go_wp2_with fail
      refine (hnf.out _).mono ?_
      rintro e w6 ⟨rfl, hb6⟩
      have hp6 := hp5.step hb6
      clear k0 k1 k2 k3 k4 l0 l1 l2 l3 l4 c0 c1 c2 c3 c4 f0 f1 f2 f3 f4 hp5 hb6
      obtain ⟨k0, k1, k2, k3, k4⟩ := qam hp6.a
      obtain ⟨l0, l1, l2, l3, l4⟩ := qam hp6.b
      obtain ⟨c0, c1, c2, c3, c4⟩ := qam hp6.c
      have f0 := qao (o := 0) hp6.c
      have f1 := qao (o := 1) hp6.c
      have f2 := qao (o := 2) hp6.c
      have f3 := qao (o := 3) hp6.c
      have f4 := qao (o := 4) hp6.c
      have HF := Lib.hid (hp6.fin (pntV m))
      clear hp6
      go_wp2_with fail
      exact bodyPost_ret (qas rfl _ _ (w.heap.size + 1 + 1) 45 #[.int .i64 2, .int .i64 0, .string ⟨#[]⟩, .int .i64 m.x, .int .i64 m.y] _ (.int .i64 0) rfl rfl HF.out.1 Tryz.underlying45 rfl (by kernel_rfl)) rfl ⟨by rw [HZ.out]; rfl, HF.out.2⟩
     ·
      rw [if_neg hk2] at hif
      have HZ := Lib.hid hif
      have HF := Lib.hid (hp5.fin zeroV)
      clear hif hp5 hqa hqb
      go_wp2_with fail
      exact bodyPost_ret (qas rfl _ _ (w.heap.size + 1 + 1) 45 #[.int .i64 0, .int .i64 0, .string ⟨#[]⟩, .int .i64 0, .int .i64 0] _ (.int .i64 13) rfl rfl HF.out.1 Tryz.underlying45 rfl (by kernel_rfl)) rfl ⟨by rw [HZ.out]; rfl, HF.out.2⟩
   ·
    rw [if_neg hk] at hif
    have HZ := Lib.hid hif
    have HF := Lib.hid (hp5.fin zeroV)
    have hkb : (a.k != b.k) = true := by simp [hk]
    clear hif hp5 hqa hqb
    go_wp2_with fail
    exact bodyPost_ret (qas rfl _ _ (w.heap.size + 1 + 1) 45 #[.int .i64 0, .int .i64 0, .string ⟨#[]⟩, .int .i64 0, .int .i64 0] _ (.int .i64 13) rfl rfl HF.out.1 Tryz.underlying45 rfl (by kernel_rfl)) rfl ⟨by rw [HZ.out]; rfl, HF.out.2⟩
set_option maxHeartbeats 4000000 in
theorem fold_max (a b : Val) (w : World) :
  Calls Tryz.prog 19 #[.string maxB, valV a, valV b] w fun e w' => e = .returned (.tuple #[valV (foldV 1 a b).1, .int .i64 (foldV 1 a b).2]) ∧ Below w.heap.size w w' := by
 obtain ⟨r, hr⟩ : ∃ r, r = foldV 1 a b := ⟨_, rfl⟩
 rw [← hr]
 have HR := Lib.hid hr
 have hra := Lib.hid (vright_any a)
 have hrb := Lib.hid (vright_any b)
 have hor := Lib.hid (order_any a b)
 have hco := Lib.hid (has_any maxB (by kernel_rfl))
 obtain ⟨W1, hW1⟩ : ∃ W1, W1 = oW a b w := ⟨_, rfl⟩
 have hp1 : PO a b w W1 := hW1 ▸ oW_po a b w
 unfold valV at hra hrb hor ⊢
 unfold oW valB zeroV at hW1
 unfold maxB at hco ⊢
 clear hr
 obtain ⟨w2, hw2⟩ : ∃ w2, w2 = W1.alloc foldsO := ⟨_, rfl⟩
 have hp2 : PO a b w w2 := by rw [hw2]; exact hp1.step ((Below.refl _ W1).alloc (Nat.le_refl _) _)
 have hg2 : w2.heap[W1.heap.size]? = some foldsO := by rw [hw2]; exact heap_alloc_new _ _
 have HC := Lib.hid (hco.out _ _ hg2)
 clear hg2 hp1 hco
 go_enter Tryz.func19, Tryz.ntmps19
 go_wp2_with (first | (rw [← hW1]; clear hW1))
 refine (folds_any W1).mono ?_
 rintro e w3 ⟨rfl, rfl⟩
 rw [← hw2]
 clear hw2
 obtain ⟨k0, k1, k2, k3, k4⟩ := qam hp2.a
 go_wp2_with fail
 refine HC.out.mono ?_
 rintro e w3 ⟨rfl, rfl⟩
 go_wp2_with fail
 refine (hra.out _).mono ?_
 rintro e w3 ⟨rfl, hb3⟩
 have hp3 := hp2.step hb3
 clear k0 k1 k2 k3 k4 hp2 hb3 HC
 cases hqa : qbf a with
 | false =>
  have hz : r = (zeroV, 1) := by rw [HR.out]; unfold foldV; rw [if_neg (by rw [hqa]; simp)]
  have HZ := Lib.hid hz
  obtain ⟨k0, k1, k2, k3, k4⟩ := qam hp3.a
  obtain ⟨l0, l1, l2, l3, l4⟩ := qam hp3.b
  obtain ⟨c0, c1, c2, c3, c4⟩ := qam hp3.c
  have f0 := qao (o := 0) hp3.c
  have f1 := qao (o := 1) hp3.c
  have f2 := qao (o := 2) hp3.c
  have f3 := qao (o := 3) hp3.c
  have f4 := qao (o := 4) hp3.c
  have HF := Lib.hid (hp3.fin zeroV)
  clear hp3 hz hqa
  go_wp2_with fail
  exact bodyPost_ret (qas rfl _ _ (w.heap.size + 1 + 1) 45 #[.int .i64 0, .int .i64 0, .string ⟨#[]⟩, .int .i64 0, .int .i64 0] _ (.int .i64 1) rfl rfl HF.out.1 Tryz.underlying45 rfl (by kernel_rfl)) rfl ⟨by rw [HZ.out]; rfl, HF.out.2⟩
 | true =>
  obtain ⟨l0, l1, l2, l3, l4⟩ := qam hp3.b
  go_wp2_with fail
  refine (hrb.out _).mono ?_
  rintro e w4 ⟨rfl, hb4⟩
  have hp4 := hp3.step hb4
  clear l0 l1 l2 l3 l4 hp3 hb4
  cases hqb : qbf b with
  | false =>
   have hz : r = (zeroV, 1) := by rw [HR.out]; unfold foldV; rw [if_neg (by rw [hqb]; simp)]
   have HZ := Lib.hid hz
   obtain ⟨k0, k1, k2, k3, k4⟩ := qam hp4.a
   obtain ⟨l0, l1, l2, l3, l4⟩ := qam hp4.b
   obtain ⟨c0, c1, c2, c3, c4⟩ := qam hp4.c
   have f0 := qao (o := 0) hp4.c
   have f1 := qao (o := 1) hp4.c
   have f2 := qao (o := 2) hp4.c
   have f3 := qao (o := 3) hp4.c
   have f4 := qao (o := 4) hp4.c
   have HF := Lib.hid (hp4.fin zeroV)
   clear hp4 hz hqa hqb
   go_wp2_with fail
   exact bodyPost_ret (qas rfl _ _ (w.heap.size + 1 + 1) 45 #[.int .i64 0, .int .i64 0, .string ⟨#[]⟩, .int .i64 0, .int .i64 0] _ (.int .i64 1) rfl rfl HF.out.1 Tryz.underlying45 rfl (by kernel_rfl)) rfl ⟨by rw [HZ.out]; rfl, HF.out.2⟩
  | true =>
   have hif := HR.out
   unfold foldV at hif
   rw [if_pos ⟨hqa, hqb⟩] at hif
   obtain ⟨k0, k1, k2, k3, k4⟩ := qam hp4.a
   obtain ⟨l0, l1, l2, l3, l4⟩ := qam hp4.b
   go_wp2_with fail
   refine (hor.out _).mono ?_
   rintro e w5 ⟨rfl, hb5⟩
   have hp5 := hp4.step hb5
   clear k0 k1 k2 k3 k4 l0 l1 l2 l3 l4 hp4 hb5
   obtain ⟨o, ho⟩ : ∃ o, o = ordV a b := ⟨_, rfl⟩
   rw [← ho] at hif ⊢
   clear ho
   obtain ⟨k0, k1, k2, k3, k4⟩ := qam hp5.a
   obtain ⟨l0, l1, l2, l3, l4⟩ := qam hp5.b
   obtain ⟨c0, c1, c2, c3, c4⟩ := qam hp5.c
   have f0 := qao (o := 0) hp5.c
   have f1 := qao (o := 1) hp5.c
   have f2 := qao (o := 2) hp5.c
   have f3 := qao (o := 3) hp5.c
   have f4 := qao (o := 4) hp5.c
   by_cases hk : a.k = b.k
   ·
    rw [if_pos hk] at hif
    have hkb : (a.k != b.k) = false := by rw [hk]; simp
    rw [if_pos trivial] at hif
    by_cases hs : 0 < o
    ·
     rw [if_pos hs] at hif
     have HZ := Lib.hid hif
     have HF := Lib.hid (hp5.fin a)
     clear hif hp5 hqa hqb hk
     go_wp2_with fail
     exact bodyPost_ret (qas rfl _ _ (w.heap.size + 1 + 1) 45 #[.int .i64 a.k, .int .i64 a.n, .string a.t, .int .i64 a.x, .int .i64 a.y] _ (.int .i64 0) rfl rfl HF.out.1 Tryz.underlying45 rfl (by kernel_rfl)) rfl ⟨by rw [HZ.out], HF.out.2⟩
    ·
     rw [if_neg hs] at hif
     have HZ := Lib.hid hif
     have HF := Lib.hid (hp5.fin b)
     clear hif hp5 hqa hqb hk
     go_wp2_with fail
     exact bodyPost_ret (qas rfl _ _ (w.heap.size + 1 + 1) 45 #[.int .i64 b.k, .int .i64 b.n, .string b.t, .int .i64 b.x, .int .i64 b.y] _ (.int .i64 0) rfl rfl HF.out.1 Tryz.underlying45 rfl (by kernel_rfl)) rfl ⟨by rw [HZ.out], HF.out.2⟩
   ·
    rw [if_neg hk] at hif
    have HZ := Lib.hid hif
    have HF := Lib.hid (hp5.fin zeroV)
    have hkb : (a.k != b.k) = true := by simp [hk]
    clear hif hp5 hqa hqb
    go_wp2_with fail
    exact bodyPost_ret (qas rfl _ _ (w.heap.size + 1 + 1) 45 #[.int .i64 0, .int .i64 0, .string ⟨#[]⟩, .int .i64 0, .int .i64 0] _ (.int .i64 13) rfl rfl HF.out.1 Tryz.underlying45 rfl (by kernel_rfl)) rfl ⟨by rw [HZ.out]; rfl, HF.out.2⟩
set_option maxHeartbeats 4000000 in
theorem fold_min (a b : Val) (w : World) :
  Calls Tryz.prog 19 #[.string minB, valV a, valV b] w fun e w' => e = .returned (.tuple #[valV (foldV 2 a b).1, .int .i64 (foldV 2 a b).2]) ∧ Below w.heap.size w w' := by
 obtain ⟨r, hr⟩ : ∃ r, r = foldV 2 a b := ⟨_, rfl⟩
 rw [← hr]
 have HR := Lib.hid hr
 have hra := Lib.hid (vright_any a)
 have hrb := Lib.hid (vright_any b)
 have hor := Lib.hid (order_any a b)
 have hco := Lib.hid (has_any minB (by kernel_rfl))
 obtain ⟨W1, hW1⟩ : ∃ W1, W1 = oW a b w := ⟨_, rfl⟩
 have hp1 : PO a b w W1 := hW1 ▸ oW_po a b w
 unfold valV at hra hrb hor ⊢
 unfold oW valB zeroV at hW1
 unfold minB at hco ⊢
 clear hr
 obtain ⟨w2, hw2⟩ : ∃ w2, w2 = W1.alloc foldsO := ⟨_, rfl⟩
 have hp2 : PO a b w w2 := by rw [hw2]; exact hp1.step ((Below.refl _ W1).alloc (Nat.le_refl _) _)
 have hg2 : w2.heap[W1.heap.size]? = some foldsO := by rw [hw2]; exact heap_alloc_new _ _
 have HC := Lib.hid (hco.out _ _ hg2)
 clear hg2 hp1 hco
 go_enter Tryz.func19, Tryz.ntmps19
 go_wp2_with (first | (rw [← hW1]; clear hW1))
 refine (folds_any W1).mono ?_
 rintro e w3 ⟨rfl, rfl⟩
 rw [← hw2]
 clear hw2
 obtain ⟨k0, k1, k2, k3, k4⟩ := qam hp2.a
 go_wp2_with fail
 refine HC.out.mono ?_
 rintro e w3 ⟨rfl, rfl⟩
 go_wp2_with fail
 refine (hra.out _).mono ?_
 rintro e w3 ⟨rfl, hb3⟩
 have hp3 := hp2.step hb3
 clear k0 k1 k2 k3 k4 hp2 hb3 HC
 cases hqa : qbf a with
 | false =>
  have hz : r = (zeroV, 1) := by rw [HR.out]; unfold foldV; rw [if_neg (by rw [hqa]; simp)]
  have HZ := Lib.hid hz
  obtain ⟨k0, k1, k2, k3, k4⟩ := qam hp3.a
  obtain ⟨l0, l1, l2, l3, l4⟩ := qam hp3.b
  obtain ⟨c0, c1, c2, c3, c4⟩ := qam hp3.c
  have f0 := qao (o := 0) hp3.c
  have f1 := qao (o := 1) hp3.c
  have f2 := qao (o := 2) hp3.c
  have f3 := qao (o := 3) hp3.c
  have f4 := qao (o := 4) hp3.c
  have HF := Lib.hid (hp3.fin zeroV)
  clear hp3 hz hqa
  go_wp2_with fail
  exact bodyPost_ret (qas rfl _ _ (w.heap.size + 1 + 1) 45 #[.int .i64 0, .int .i64 0, .string ⟨#[]⟩, .int .i64 0, .int .i64 0] _ (.int .i64 1) rfl rfl HF.out.1 Tryz.underlying45 rfl (by kernel_rfl)) rfl ⟨by rw [HZ.out]; rfl, HF.out.2⟩
 | true =>
  obtain ⟨l0, l1, l2, l3, l4⟩ := qam hp3.b
  go_wp2_with fail
  refine (hrb.out _).mono ?_
  rintro e w4 ⟨rfl, hb4⟩
  have hp4 := hp3.step hb4
  clear l0 l1 l2 l3 l4 hp3 hb4
  cases hqb : qbf b with
  | false =>
   have hz : r = (zeroV, 1) := by rw [HR.out]; unfold foldV; rw [if_neg (by rw [hqb]; simp)]
   have HZ := Lib.hid hz
   obtain ⟨k0, k1, k2, k3, k4⟩ := qam hp4.a
   obtain ⟨l0, l1, l2, l3, l4⟩ := qam hp4.b
   obtain ⟨c0, c1, c2, c3, c4⟩ := qam hp4.c
   have f0 := qao (o := 0) hp4.c
   have f1 := qao (o := 1) hp4.c
   have f2 := qao (o := 2) hp4.c
   have f3 := qao (o := 3) hp4.c
   have f4 := qao (o := 4) hp4.c
   have HF := Lib.hid (hp4.fin zeroV)
   clear hp4 hz hqa hqb
   go_wp2_with fail
   exact bodyPost_ret (qas rfl _ _ (w.heap.size + 1 + 1) 45 #[.int .i64 0, .int .i64 0, .string ⟨#[]⟩, .int .i64 0, .int .i64 0] _ (.int .i64 1) rfl rfl HF.out.1 Tryz.underlying45 rfl (by kernel_rfl)) rfl ⟨by rw [HZ.out]; rfl, HF.out.2⟩
  | true =>
   have hif := HR.out
   unfold foldV at hif
   rw [if_pos ⟨hqa, hqb⟩] at hif
   obtain ⟨k0, k1, k2, k3, k4⟩ := qam hp4.a
   obtain ⟨l0, l1, l2, l3, l4⟩ := qam hp4.b
   go_wp2_with fail
   refine (hor.out _).mono ?_
   rintro e w5 ⟨rfl, hb5⟩
   have hp5 := hp4.step hb5
   clear k0 k1 k2 k3 k4 l0 l1 l2 l3 l4 hp4 hb5
   obtain ⟨o, ho⟩ : ∃ o, o = ordV a b := ⟨_, rfl⟩
   rw [← ho] at hif ⊢
   clear ho
   obtain ⟨k0, k1, k2, k3, k4⟩ := qam hp5.a
   obtain ⟨l0, l1, l2, l3, l4⟩ := qam hp5.b
   obtain ⟨c0, c1, c2, c3, c4⟩ := qam hp5.c
   have f0 := qao (o := 0) hp5.c
   have f1 := qao (o := 1) hp5.c
   have f2 := qao (o := 2) hp5.c
   have f3 := qao (o := 3) hp5.c
   have f4 := qao (o := 4) hp5.c
   by_cases hk : a.k = b.k
   ·
    rw [if_pos hk] at hif
    have hkb : (a.k != b.k) = false := by rw [hk]; simp
    rw [if_neg (by decide), if_pos trivial] at hif
    by_cases hs : o < 0
    ·
     rw [if_pos hs] at hif
     have HZ := Lib.hid hif
     have HF := Lib.hid (hp5.fin a)
     clear hif hp5 hqa hqb hk
     go_wp2_with fail
     exact bodyPost_ret (qas rfl _ _ (w.heap.size + 1 + 1) 45 #[.int .i64 a.k, .int .i64 a.n, .string a.t, .int .i64 a.x, .int .i64 a.y] _ (.int .i64 0) rfl rfl HF.out.1 Tryz.underlying45 rfl (by kernel_rfl)) rfl ⟨by rw [HZ.out], HF.out.2⟩
    ·
     rw [if_neg hs] at hif
     have HZ := Lib.hid hif
     have HF := Lib.hid (hp5.fin b)
     clear hif hp5 hqa hqb hk
     go_wp2_with fail
     exact bodyPost_ret (qas rfl _ _ (w.heap.size + 1 + 1) 45 #[.int .i64 b.k, .int .i64 b.n, .string b.t, .int .i64 b.x, .int .i64 b.y] _ (.int .i64 0) rfl rfl HF.out.1 Tryz.underlying45 rfl (by kernel_rfl)) rfl ⟨by rw [HZ.out], HF.out.2⟩
   ·
    rw [if_neg hk] at hif
    have HZ := Lib.hid hif
    have HF := Lib.hid (hp5.fin zeroV)
    have hkb : (a.k != b.k) = true := by simp [hk]
    clear hif hp5 hqa hqb
    go_wp2_with fail
    exact bodyPost_ret (qas rfl _ _ (w.heap.size + 1 + 1) 45 #[.int .i64 0, .int .i64 0, .string ⟨#[]⟩, .int .i64 0, .int .i64 0] _ (.int .i64 13) rfl rfl HF.out.1 Tryz.underlying45 rfl (by kernel_rfl)) rfl ⟨by rw [HZ.out]; rfl, HF.out.2⟩
set_option maxHeartbeats 4000000 in
theorem fold_gcd (a b : Val) (w : World) :
  Calls Tryz.prog 19 #[.string gcdB, valV a, valV b] w fun e w' => e = .returned (.tuple #[valV (foldV 3 a b).1, .int .i64 (foldV 3 a b).2]) ∧ Below w.heap.size w w' := by
 obtain ⟨r, hr⟩ : ∃ r, r = foldV 3 a b := ⟨_, rfl⟩
 rw [← hr]
 have HR := Lib.hid hr
 have hra := Lib.hid (vright_any a)
 have hrb := Lib.hid (vright_any b)
 have hor := Lib.hid (order_any a b)
 have hco := Lib.hid (has_any gcdB (by kernel_rfl))
 obtain ⟨W1, hW1⟩ : ∃ W1, W1 = oW a b w := ⟨_, rfl⟩
 have hp1 : PO a b w W1 := hW1 ▸ oW_po a b w
 unfold valV at hra hrb hor ⊢
 unfold oW valB zeroV at hW1
 unfold gcdB at hco ⊢
 clear hr
 obtain ⟨w2, hw2⟩ : ∃ w2, w2 = W1.alloc foldsO := ⟨_, rfl⟩
 have hp2 : PO a b w w2 := by rw [hw2]; exact hp1.step ((Below.refl _ W1).alloc (Nat.le_refl _) _)
 have hg2 : w2.heap[W1.heap.size]? = some foldsO := by rw [hw2]; exact heap_alloc_new _ _
 have HC := Lib.hid (hco.out _ _ hg2)
 clear hg2 hp1 hco
 go_enter Tryz.func19, Tryz.ntmps19
 go_wp2_with (first | (rw [← hW1]; clear hW1))
 refine (folds_any W1).mono ?_
 rintro e w3 ⟨rfl, rfl⟩
 rw [← hw2]
 clear hw2
 obtain ⟨k0, k1, k2, k3, k4⟩ := qam hp2.a
 go_wp2_with fail
 refine HC.out.mono ?_
 rintro e w3 ⟨rfl, rfl⟩
 go_wp2_with fail
 refine (hra.out _).mono ?_
 rintro e w3 ⟨rfl, hb3⟩
 have hp3 := hp2.step hb3
 clear k0 k1 k2 k3 k4 hp2 hb3 HC
 cases hqa : qbf a with
 | false =>
  have hz : r = (zeroV, 1) := by rw [HR.out]; unfold foldV; rw [if_neg (by rw [hqa]; simp)]
  have HZ := Lib.hid hz
  obtain ⟨k0, k1, k2, k3, k4⟩ := qam hp3.a
  obtain ⟨l0, l1, l2, l3, l4⟩ := qam hp3.b
  obtain ⟨c0, c1, c2, c3, c4⟩ := qam hp3.c
  have f0 := qao (o := 0) hp3.c
  have f1 := qao (o := 1) hp3.c
  have f2 := qao (o := 2) hp3.c
  have f3 := qao (o := 3) hp3.c
  have f4 := qao (o := 4) hp3.c
  have HF := Lib.hid (hp3.fin zeroV)
  clear hp3 hz hqa
  go_wp2_with fail
  exact bodyPost_ret (qas rfl _ _ (w.heap.size + 1 + 1) 45 #[.int .i64 0, .int .i64 0, .string ⟨#[]⟩, .int .i64 0, .int .i64 0] _ (.int .i64 1) rfl rfl HF.out.1 Tryz.underlying45 rfl (by kernel_rfl)) rfl ⟨by rw [HZ.out]; rfl, HF.out.2⟩
 | true =>
  obtain ⟨l0, l1, l2, l3, l4⟩ := qam hp3.b
  go_wp2_with fail
  refine (hrb.out _).mono ?_
  rintro e w4 ⟨rfl, hb4⟩
  have hp4 := hp3.step hb4
  clear l0 l1 l2 l3 l4 hp3 hb4
  cases hqb : qbf b with
  | false =>
   have hz : r = (zeroV, 1) := by rw [HR.out]; unfold foldV; rw [if_neg (by rw [hqb]; simp)]
   have HZ := Lib.hid hz
   obtain ⟨k0, k1, k2, k3, k4⟩ := qam hp4.a
   obtain ⟨l0, l1, l2, l3, l4⟩ := qam hp4.b
   obtain ⟨c0, c1, c2, c3, c4⟩ := qam hp4.c
   have f0 := qao (o := 0) hp4.c
   have f1 := qao (o := 1) hp4.c
   have f2 := qao (o := 2) hp4.c
   have f3 := qao (o := 3) hp4.c
   have f4 := qao (o := 4) hp4.c
   have HF := Lib.hid (hp4.fin zeroV)
   clear hp4 hz hqa hqb
   go_wp2_with fail
   exact bodyPost_ret (qas rfl _ _ (w.heap.size + 1 + 1) 45 #[.int .i64 0, .int .i64 0, .string ⟨#[]⟩, .int .i64 0, .int .i64 0] _ (.int .i64 1) rfl rfl HF.out.1 Tryz.underlying45 rfl (by kernel_rfl)) rfl ⟨by rw [HZ.out]; rfl, HF.out.2⟩
  | true =>
   have hif := HR.out
   unfold foldV at hif
   rw [if_pos ⟨hqa, hqb⟩] at hif
   obtain ⟨k0, k1, k2, k3, k4⟩ := qam hp4.a
   obtain ⟨l0, l1, l2, l3, l4⟩ := qam hp4.b
   go_wp2_with fail
   refine (hor.out _).mono ?_
   rintro e w5 ⟨rfl, hb5⟩
   have hp5 := hp4.step hb5
   clear k0 k1 k2 k3 k4 l0 l1 l2 l3 l4 hp4 hb5
   obtain ⟨o, ho⟩ : ∃ o, o = ordV a b := ⟨_, rfl⟩
   rw [← ho] at hif ⊢
   clear ho
   obtain ⟨k0, k1, k2, k3, k4⟩ := qam hp5.a
   obtain ⟨l0, l1, l2, l3, l4⟩ := qam hp5.b
   obtain ⟨c0, c1, c2, c3, c4⟩ := qam hp5.c
   have f0 := qao (o := 0) hp5.c
   have f1 := qao (o := 1) hp5.c
   have f2 := qao (o := 2) hp5.c
   have f3 := qao (o := 3) hp5.c
   have f4 := qao (o := 4) hp5.c
   by_cases hk : a.k = b.k
   ·
    rw [if_pos hk] at hif
    have hkb : (a.k != b.k) = false := by rw [hk]; simp
    rw [if_neg (by decide), if_neg (by decide)] at hif
    by_cases hk0 : a.k = 0
    ·
     rw [if_pos hk0, if_neg (by decide)] at hif
     have hnf := Lib.hid (num_gcd a.n b.n (right_int hqa hk0) (right_int hqb (hk ▸ hk0)))
     obtain ⟨m, hm⟩ : ∃ m, m = ((Int.gcd a.n b.n : Nat) : Int) := ⟨_, rfl⟩
     rw [← hm] at hif hnf
     have HZ := Lib.hid hif
     unfold valV numV gcdB at hnf
     clear hif hm hqa hqb
     go_wp2_with fail
     refine (hnf.out _).mono ?_
     rintro e w6 ⟨rfl, hb6⟩
     have hp6 := hp5.step hb6
     clear k0 k1 k2 k3 k4 l0 l1 l2 l3 l4 c0 c1 c2 c3 c4 f0 f1 f2 f3 f4 hp5 hb6
     obtain ⟨k0, k1, k2, k3, k4⟩ := qam hp6.a
     obtain ⟨l0, l1, l2, l3, l4⟩ := qam hp6.b
     obtain ⟨c0, c1, c2, c3, c4⟩ := qam hp6.c
     have f0 := qao (o := 0) hp6.c
     have f1 := qao (o := 1) hp6.c
     have f2 := qao (o := 2) hp6.c
     have f3 := qao (o := 3) hp6.c
     have f4 := qao (o := 4) hp6.c
     have HF := Lib.hid (hp6.fin (numV m))
     clear hp6
     go_wp2_with fail
     exact bodyPost_ret (qas rfl _ _ (w.heap.size + 1 + 1) 45 #[.int .i64 0, .int .i64 m, .string ⟨#[]⟩, .int .i64 0, .int .i64 0] _ (.int .i64 0) rfl rfl HF.out.1 Tryz.underlying45 rfl (by kernel_rfl)) rfl ⟨by rw [HZ.out]; rfl, HF.out.2⟩
    ·
     rw [if_neg hk0] at hif
     by_cases hk2 : a.k = 2
     ·
      rw [if_pos hk2, if_neg (by decide)] at hif
      have hnf := Lib.hid (pnt_gcd ⟨a.x, a.y⟩ ⟨b.x, b.y⟩ (right_pnt hqa hk2) (right_pnt hqb (hk ▸ hk2)))
      obtain ⟨m, hm⟩ : ∃ m, m = comG ⟨a.x, a.y⟩ ⟨b.x, b.y⟩ := ⟨_, rfl⟩
      simp only at hnf
      rw [← hm] at hif hnf
      have HZ := Lib.hid hif
      unfold valV pntV ptV gcdB at hnf
      clear hif hm hqa hqb
      go_wp2_with fail
      refine (hnf.out _).mono ?_
      rintro e w6 ⟨rfl, hb6⟩
      have hp6 := hp5.step hb6
      clear k0 k1 k2 k3 k4 l0 l1 l2 l3 l4 c0 c1 c2 c3 c4 f0 f1 f2 f3 f4 hp5 hb6
      obtain ⟨k0, k1, k2, k3, k4⟩ := qam hp6.a
      obtain ⟨l0, l1, l2, l3, l4⟩ := qam hp6.b
      obtain ⟨c0, c1, c2, c3, c4⟩ := qam hp6.c
      have f0 := qao (o := 0) hp6.c
      have f1 := qao (o := 1) hp6.c
      have f2 := qao (o := 2) hp6.c
      have f3 := qao (o := 3) hp6.c
      have f4 := qao (o := 4) hp6.c
      have HF := Lib.hid (hp6.fin (pntV m))
      clear hp6
      go_wp2_with fail
      exact bodyPost_ret (qas rfl _ _ (w.heap.size + 1 + 1) 45 #[.int .i64 2, .int .i64 0, .string ⟨#[]⟩, .int .i64 m.x, .int .i64 m.y] _ (.int .i64 0) rfl rfl HF.out.1 Tryz.underlying45 rfl (by kernel_rfl)) rfl ⟨by rw [HZ.out]; rfl, HF.out.2⟩
     ·
      rw [if_neg hk2] at hif
      have HZ := Lib.hid hif
      have HF := Lib.hid (hp5.fin zeroV)
      clear hif hp5 hqa hqb
      go_wp2_with fail
      exact bodyPost_ret (qas rfl _ _ (w.heap.size + 1 + 1) 45 #[.int .i64 0, .int .i64 0, .string ⟨#[]⟩, .int .i64 0, .int .i64 0] _ (.int .i64 13) rfl rfl HF.out.1 Tryz.underlying45 rfl (by kernel_rfl)) rfl ⟨by rw [HZ.out]; rfl, HF.out.2⟩
   ·
    rw [if_neg hk] at hif
    have HZ := Lib.hid hif
    have HF := Lib.hid (hp5.fin zeroV)
    have hkb : (a.k != b.k) = true := by simp [hk]
    clear hif hp5 hqa hqb
    go_wp2_with fail
    exact bodyPost_ret (qas rfl _ _ (w.heap.size + 1 + 1) 45 #[.int .i64 0, .int .i64 0, .string ⟨#[]⟩, .int .i64 0, .int .i64 0] _ (.int .i64 13) rfl rfl HF.out.1 Tryz.underlying45 rfl (by kernel_rfl)) rfl ⟨by rw [HZ.out]; rfl, HF.out.2⟩
end Go.Proofs.YtejbpnhondpnfaaGreat
namespace Go.Proofs.YtejbpnhondpnfaaGreat
def dstIx (ops : Array Oper) (s : Tmp) : Option Nat := (List.range ops.size).find? fun i => (ops[i]?.bind (·.dst)) == some s
def notSel (o : Oper) : Bool := match o.op with | .select _ _ => false | .defer _ => false | _ => true
def regChk (ops : Array Oper) : Bool := (List.range ops.size).all fun i => match ops[i]? with
 | none => true
 | some o => o.after.all (fun e => decide (e.on < i)) && notSel o && (o.looksAt ops).all (fun s => match dstIx ops s with | none => true | some j => o.after.any fun e => e.on == j && Region.binds .any e) &&
  (match o.dst with | none => true | some d => dstIx ops d == some i)
structure RegChk (ops : Array Oper) (i : Nat) (o : Oper) : Prop where
 dep : ∀ e ∈ o.after, e.on < i
 sel : notSel o = true
 look : ∀ s ∈ o.looksAt ops, ∀ j, dstIx ops s = some j → ∃ e ∈ o.after, e.on = j ∧ Region.binds .any e = true
 dst : ∀ d, o.dst = some d → dstIx ops d = some i
theorem regChk_at {ops : Array Oper} (h : regChk ops = true) (i : Nat) (o : Oper) (ho : ops[i]? = some o) : RegChk ops i o := by
 have := List.all_eq_true.1 h i (List.mem_range.2 (Array.getElem?_eq_some_iff.1 ho).1)
 rw [ho] at this
 simp only [Bool.and_eq_true] at this
 obtain ⟨⟨⟨h1, h2⟩, h3⟩, h4⟩ := this
 refine ⟨fun e he => by simpa using Array.all_eq_true'.1 h1 e he, h2, fun s hs j hj => ?_, fun d hd => ?_⟩
 ·
  have := List.all_eq_true.1 h3 s hs
  rw [hj] at this
  obtain ⟨e, he, hb⟩ := Array.any_eq_true'.1 this
  simp only [Bool.and_eq_true, beq_iff_eq] at hb
  exact ⟨e, he, hb.1, hb.2⟩
 ·
  rw [hd] at h4
  simpa using h4
structure OnWay (ops : Array Oper) (F : Act) (listed : Array Bool) (a : Act) : Prop where
 defers : a.defers = F.defers
 size : a.tmps.size = F.tmps.size
 old : ∀ s, dstIx ops s = none → a.tmps[s]? = F.tmps[s]?
 new : ∀ s j, dstIx ops s = some j → listed.getD j false = true → a.tmps[s]? = F.tmps[s]?
theorem dstIx_lt {ops : Array Oper} {s : Tmp} {j : Nat} (h : dstIx ops s = some j) : j < ops.size := by
 have := List.mem_of_find?_eq_some h
 exact List.mem_range.1 this
theorem OnWay.eval {ops : Array Oper} {F : Act} {listed : Array Bool} {a : Act} (h : OnWay ops F listed a) {i : Nat} {o : Oper} (c : RegChk ops i o)
  (hd : ∀ e ∈ o.after, Region.binds .any e = true → listed.getD e.on false = true) : ∀ s ∈ o.looksAt ops, a.tmps[s]? = F.tmps[s]? := by
 intro s hs
 cases hx : dstIx ops s with
 | none => exact h.old s hx
 | some j =>
  obtain ⟨e, he, rfl, hb⟩ := c.look s hs j hx
  exact h.new s _ hx (hd e he hb)
theorem OnWay.exec {ops : Array Oper} {F : Act} {listed : Array Bool} {a : Act} (h : OnWay ops F listed a) {i : Nat} {o : Oper} (c : RegChk ops i o)
  (hd : ∀ e ∈ o.after, Region.binds .any e = true → listed.getD e.on false = true) : execOp a.eval o = execOp F.eval o := by
 refine execOp_congr o (fun cs b e => ?_) fun x hx => ?_
 ·
  have := c.sel
  unfold notSel at this
  rw [e] at this
  cases this
 ·
  cases x with
  | tmp t =>
   have := h.eval c hd t (List.mem_append_left _ (List.mem_filterMap.2 ⟨.tmp t, by simpa using hx, rfl⟩))
   show a.tmps.getD t undef = F.tmps.getD t undef
   rw [Array.getD_eq_getD_getElem?, Array.getD_eq_getD_getElem?, this]
  | _ => rfl
theorem OnWay.wanted {ops : Array Oper} {F : Act} {listed : Array Bool} {a : Act} (h : OnWay ops F listed a) {i : Nat} {o : Oper} (c : RegChk ops i o)
  (hd : ∀ e ∈ o.after, Region.binds .any e = true → listed.getD e.on false = true) : Region.wanted o (yielded ops a.tmps) = Region.wanted o (yielded ops F.tmps) := by
 unfold Region.wanted
 cases hg : o.guard with
 | none => rfl
 | some gw =>
  obtain ⟨g, want⟩ := gw
  have hy : yielded ops a.tmps g = yielded ops F.tmps g := by
   unfold yielded
   cases ht : (ops[g]?).bind (·.dst) with
   | none => rfl
   | some t =>
    have hm : t ∈ o.looksAt ops := by simp [Oper.looksAt, hg, ht]
    have := h.eval c hd t hm
    simp [this]
  simp only [hy]
theorem OnWay.put {ops : Array Oper} {F : Act} {listed : Array Bool} {a : Act} (h : OnWay ops F listed a) (hsz : listed.size = ops.size) {i : Nat} {o : Oper} (hi : ops[i]? = some o) (c : RegChk ops i o) {v : Value} (hv : F.put o.dst v = F) :
  OnWay ops F (listed.setIfInBounds i true) (a.put o.dst v) := by
 cases hd : o.dst with
 | none =>
  refine ⟨h.defers, h.size, h.old, fun s j hj hl => ?_⟩
  by_cases e : j = i
  ·
   subst e
   exfalso
   have := List.find?_some hj
   rw [hi] at this
   simp [hd] at this
  ·
   exact h.new s j hj (by simpa [Array.getElem?_setIfInBounds, Ne.symm e] using hl)
 | some d =>
  have hdi := c.dst d hd
  rw [hd] at hv
  refine ⟨h.defers, by simpa [Act.put] using h.size, fun s hs => ?_, fun s j hj hl => ?_⟩
  ·
   have hne : d ≠ s := fun e => by subst e; rw [hdi] at hs; cases hs
   simp only [Act.put, Array.getElem?_setIfInBounds_ne hne]
   exact h.old s hs
  ·
   by_cases e : d = s
   ·
    subst e
    have e2 : (F.put (some d) v).tmps[d]? = F.tmps[d]? := by rw [hv]
    rw [← e2]
    simp only [Act.put, Array.getElem?_setIfInBounds_self, h.size]
   ·
    simp only [Act.put, Array.getElem?_setIfInBounds_ne e]
    refine h.new s j hj ?_
    have hji : j ≠ i := fun q => by
     subst q
     have := List.find?_some hj
     rw [hi] at this
     simp [hd] at this
     exact e this
    simpa [Array.getElem?_setIfInBounds, Ne.symm hji] using hl
theorem onWay_done {ops : Array Oper} {F : Act} {listed : Array Bool} {a : Act} (h : OnWay ops F listed a) (hl : ∀ i : Nat, i < ops.size → listed.getD i false = true) : a = F := by
 obtain ⟨t, d⟩ := a
 obtain ⟨t', d'⟩ := F
 have h1 := h.defers
 simp only at h1
 subst h1
 have : t = t' := by
  refine Array.ext_getElem? fun s => ?_
  cases hx : dstIx ops s with
  | none => exact h.old s hx
  | some j => exact h.new s j hx (hl j (dstIx_lt hx))
 rw [this]
def unlF (l : List Bool) : Nat := l.count false
theorem unlF_set : ∀ (l : List Bool) (i : Nat), l[i]? = some false → unlF (l.set i true) + 1 = unlF l
 | [], i, h => by simp at h
 | b :: l, 0, h => by
  simp at h
  subst h
  simp [unlF]
 | b :: l, i + 1, h => by
  have := unlF_set l i (by simpa using h)
  unfold unlF at *
  rw [sIs, List.count_cons, List.count_cons]
  omega
theorem wpOp_monoF {P : Program} {ops : Array Oper} {Q : Exit → Act → World → Prop} {i : Nat} {K K' : Act → World → Prop} {a : Act} {w : World} (h : ∀ a w, K a w → K' a w) (hh : wpOp P ops Q i K a w) : wpOp P ops Q i K' a w := by
 unfold wpOp at *
 split
 ·
  rename_i he; rw [he] at hh; exact h _ _ hh
 ·
  rename_i o he
  rw [he] at hh
  simp only at hh
  split
  ·
   rename_i hw
   rw [if_pos hw] at hh
   exact hh.imp (fun q => Oper.wp_mono h q) id
  ·
   rename_i hw
   rw [if_neg hw] at hh
   exact h _ _ hh
def updX (x : Nat → Value) (i : Nat) (v : Value) : Nat → Value := fun j => if j = i then v else x j
def OpFull (P : Program) (ops : Array Oper) (F : (Nat → Value) → Act) (late : Nat → Bool) (T : Nat → Value → World → Prop) (S : World → Prop) (Keep : World → World → Prop) (Q : Exit → Act → World → Prop) (i : Nat) (o : Oper) : Prop :=
 ∀ x : Nat → Value, if Region.wanted o (yielded ops (F x).tmps) = true then ∀ W, S W → (∀ j, late j = true → (∃ e ∈ o.after, e.on = j ∧ Region.binds .any e = true) → T j (x j) W) →
  o.wp P (F x) W (fun F' W' => (if late i = true then ∃ v, F' = (F x).put o.dst v ∧ T i v W' else F' = F x) ∧ S W' ∧ Keep W W') (NoPanic Q) else late i = false ∧ (F x).put o.dst undef = F x
structure FullW (ops : Array Oper) (F : (Nat → Value) → Act) (late : Nat → Bool) (T : Nat → Value → World → Prop) (S : World → Prop) (listed : Array Bool) (a : Act) (w : World) : Prop where
 ex : ∃ x : Nat → Value, OnWay ops (F x) listed a ∧ ∀ i, late i = true → listed.getD i false = true → T i (x i) w
 s : S w
theorem OnWay.putLate {ops : Array Oper} {F F' : Act} {listed : Array Bool} {a : Act} (h : OnWay ops F listed a) (hsz : listed.size = ops.size) {i : Nat} {o : Oper} (hi : ops[i]? = some o) (c : RegChk ops i o) {v : Value} (hv : F' = F.put o.dst v) :
  OnWay ops F' (listed.setIfInBounds i true) (a.put o.dst v) := by
 subst hv
 cases hd : o.dst with
 | none =>
  have hp : F.put o.dst v = F := by rw [hd]; rfl
  have := h.put hsz hi c hp
  rwa [hd] at this
 | some d =>
  have hdi := c.dst d hd
  refine ⟨h.defers, by simpa [Act.put] using h.size, fun s hs => ?_, fun s j hj hl => ?_⟩
  ·
   have hne : d ≠ s := fun e => by subst e; rw [hdi] at hs; cases hs
   simp only [Act.put, Array.getElem?_setIfInBounds_ne hne]
   exact h.old s hs
  ·
   by_cases e : d = s
   ·
    subst e
    simp only [Act.put, Array.getElem?_setIfInBounds_self, h.size]
   ·
    simp only [Act.put, Array.getElem?_setIfInBounds_ne e]
    refine h.new s j hj ?_
    have hji : j ≠ i := fun q => by
     subst q
     have := List.find?_some hj
     rw [hi] at this
     simp [hd] at this
     exact e this
    simpa [Array.getElem?_setIfInBounds, Ne.symm hji] using hl
theorem getD_set' {listed : Array Bool} {i j : Nat} (h : (listed.setIfInBounds i true).getD j false = true) (hne : j ≠ i) : listed.getD j false = true := by
 simpa [Array.getElem?_setIfInBounds, Ne.symm hne] using h
theorem opFull_step {P : Program} {ops : Array Oper} {F : (Nat → Value) → Act} {late : Nat → Bool} {T : Nat → Value → World → Prop} {S : World → Prop} {Keep : World → World → Prop} {Q : Exit → Act → World → Prop} {i : Nat} {o : Oper} {listed : Array Bool} {a : Act} {w : World}
  (hlate : ∀ x i v (o : Oper), late i = true → ops[i]? = some o → F (updX x i v) = (F x).put o.dst v) (hT : ∀ j v W W', Keep W W' → T j v W → T j v W')
  (hi : ops[i]? = some o) (c : RegChk ops i o) (hsz : listed.size = ops.size) (hni : listed.getD i false = false)
  (h : FullW ops F late T S listed a w) (hd : ∀ e ∈ o.after, Region.binds .any e = true → listed.getD e.on false = true) (hf : OpFull P ops F late T S Keep Q i o) :
  wpOp P ops Q i (fun a' w' => FullW ops F late T S (listed.setIfInBounds i true) a' w') a w := by
 obtain ⟨⟨x, hW, hx⟩, hS⟩ := h
 unfold wpOp
 simp only [hi]
 rw [hW.wanted c hd]
 have hf := hf x
 have hsel := c.sel
 -- behind the operation
 have key : ∀ v W', ((if late i = true then ∃ v', (F x).put o.dst v = (F x).put o.dst v' ∧ T i v' W' else (F x).put o.dst v = F x) ∧ S W' ∧ Keep w W') → FullW ops F late T S (listed.setIfInBounds i true) (a.put o.dst v) W' := by
  rintro v W' ⟨h1, h2, h3⟩
  refine ⟨?_, h2⟩
  split at h1
  ·
   rename_i hl
   obtain ⟨v', e, ht⟩ := h1
   refine ⟨updX x i v', hW.putLate hsz hi c (v := v) (by rw [hlate x i v' o hl hi, e]), fun j hj hjl => ?_⟩
   by_cases e2 : j = i
   ·
    subst e2; unfold updX; rw [if_pos rfl]; exact ht
   ·
    unfold updX; rw [if_neg e2]; exact hT _ _ _ _ h3 (hx j hj (getD_set' hjl e2))
  ·
   rename_i hl
   refine ⟨x, hW.put hsz hi c h1, fun j hj hjl => ?_⟩
   by_cases e2 : j = i
   ·
    subst e2; exact absurd hj hl
   ·
    exact hT _ _ _ _ h3 (hx j hj (getD_set' hjl e2))
 split
 ·
  rename_i hw
  rw [if_pos hw] at hf
  refine .inl ?_
  have hf := hf w hS (fun j hj ⟨e, he, hej, hb⟩ => hx j hj (by rw [← hej]; exact hd e he hb))
  unfold Oper.wp at *
  rw [hW.exec c hd]
  generalize hr : (execOp (F x).eval o).run P w = r at *
  cases r with
  | ok n w' =>
   cases n <;> simp only [Oper.upon] at hf ⊢
   case value u => exact key u w' hf
   case skip => exact key undef w' hf
   case defer d =>
    exfalso
    have e : ∀ v : Value, ({ F x with defers := d :: (F x).defers }.put o.dst v).defers = d :: (F x).defers := fun v => by cases o.dst <;> rfl
    have e' : ∀ v : Value, ((F x).put o.dst v).defers = (F x).defers := fun v => by cases o.dst <;> rfl
    obtain ⟨h1, _⟩ := hf
    split at h1
    ·
     obtain ⟨v, h1, _⟩ := h1
     have := congrArg Act.defers h1
     rw [e, e'] at this
     exact absurd (congrArg List.length this) (by simp)
    ·
     have := congrArg Act.defers h1
     rw [e] at this
     exact absurd (congrArg List.length this) (by simp)
   case enter f args =>
    refine Calls.mono hf fun e w'' he => ?_
    cases e with
    | returned u => exact key u w'' he
    | panicked c => exact (he : False).elim
    | outgrown => exact he
   case row row args => exact Rows.mono hf fun u w'' he => key u w'' he
  | halt x w' =>
   cases x <;> simp only [Oper.upon] at hf ⊢
   case panic u => exact (hf : False).elim
 ·
  rename_i hw
  rw [if_neg hw] at hf
  refine ⟨⟨x, hW.put hsz hi c hf.2, fun j hj hjl => ?_⟩, hS⟩
  by_cases e2 : j = i
  ·
   subst e2; rw [hf.1] at hj; cases hj
  ·
   exact hx j hj (getD_set' hjl e2)
theorem wpAny_full {P : Program} {ops : Array Oper} {Q : Exit → Act → World → Prop} {F : (Nat → Value) → Act} {late : Nat → Bool} {T : Nat → Value → World → Prop} {S : World → Prop} {Keep : World → World → Prop} (hchk : regChk ops = true)
  (hlate : ∀ x i v (o : Oper), late i = true → ops[i]? = some o → F (updX x i v) = (F x).put o.dst v) (hT : ∀ j v W W', Keep W W' → T j v W → T j v W')
  (hops : ∀ (i : Nat) (o : Oper), ops[i]? = some o → OpFull P ops F late T S Keep Q i o)
  (hdone : ∀ x w, S w → (∀ i, i < ops.size → late i = true → T i (x i) w) → Q .normal (F x) w) : ∀ (fuel : Nat) (listed : Array Bool) (a : Act) (w : World), listed.size = ops.size → FullW ops F late T S listed a w → unlF listed.toList ≤ fuel → wpAny P .any ops Q fuel listed a w := by
 have hall : ∀ listed : Array Bool, listed.size = ops.size → Region.ready .any ops listed = [] → ∀ i, i < ops.size → listed.getD i false = true := by
  intro listed hsz hr i
  induction i using Nat.strongRecOn with
  | _ i ih =>
   intro hi
   cases hl : listed.getD i false with
   | true => rfl
   | false =>
    exfalso
    have hmem : i ∈ Region.ready .any ops listed := by
     unfold Region.ready
     refine List.mem_filter.2 ⟨List.mem_range.2 hi, ?_⟩
     have h1 : listed.getD i true = false := by
      have hlt : i < listed.size := by omega
      simp [hlt] at hl ⊢
      exact hl
     rw [h1]
     simp only [Bool.not_false, Bool.true_and]
     rw [Array.getElem?_eq_getElem hi]
     simp only [Option.map_some, Option.getD_some]
     rw [Array.all_eq_true']
     intro e he
     have := (regChk_at hchk i ops[i] (Array.getElem?_eq_getElem hi)).dep e he
     rw [ih e.on this (by omega)]
     simp
    rw [hr] at hmem
    cases hmem
 have fin : ∀ (listed : Array Bool) (a : Act) (w : World), FullW ops F late T S listed a w → (∀ i : Nat, i < ops.size → listed.getD i false = true) → Q .normal a w := by
  rintro listed a w ⟨⟨x, hW, hx⟩, hS⟩ hl
  rw [onWay_done hW hl]
  exact hdone x w hS (fun i hi hli => hx i hli (hl i hi))
 intro fuel
 induction fuel with
 | zero =>
  intro listed a w hsz hI hu
  have hl : ∀ i, i < ops.size → listed.getD i false = true := by
   intro i hi
   cases h : listed.getD i false with
   | true => rfl
   | false =>
    exfalso
    have hlt : i < listed.size := by omega
    have h2 : listed.toList[i]? = some false := by simp [hlt] at h ⊢; exact h
    have := unlF_set _ _ h2
    omega
  refine ⟨?_, fin _ _ _ hI hl⟩
  unfold Region.ready
  rw [List.filter_eq_nil_iff]
  intro i hi
  have hlt : i < listed.size := by rw [hsz]; exact List.mem_range.1 hi
  have := hl i (by omega)
  simp [hlt] at this ⊢
  simp [this]
 | succ fuel ih =>
  intro listed a w hsz hI hu
  refine ⟨fun hr => fin _ _ _ hI (hall listed hsz hr), fun i hi => ?_⟩
  unfold Region.ready at hi
  obtain ⟨h1, h2⟩ := List.mem_filter.1 hi
  have hio : i < ops.size := List.mem_range.1 h1
  simp only [Bool.and_eq_true, Array.getElem?_eq_getElem hio, Option.map_some, Option.getD_some] at h2
  have hlt : i < listed.size := by omega
  have hf : listed.toList[i]? = some false := by
   have := h2.1
   simp [hlt] at this ⊢
   exact this
  refine wpOp_monoF (fun a' w' hI' => ih _ a' w' (by simpa using hsz) hI' ?_) (opFull_step hlate hT (Array.getElem?_eq_getElem hio) (regChk_at hchk i ops[i] (Array.getElem?_eq_getElem hio)) hsz ?_ hI (fun e he hb => ?_) (hops i ops[i] (Array.getElem?_eq_getElem hio)))
  ·
   have := unlF_set _ _ hf
   rw [Array.toList_setIfInBounds]
   omega
  ·
   have h1 := h2.1
   simp [hlt] at h1 ⊢
   exact h1
  ·
   have := Array.all_eq_true'.1 h2.2 e he
   rw [hb] at this
   simpa using this
@[reducible] def OpsFull (R : Nat → Oper → Prop) : Nat → List Oper → Prop
 | _, [] => True
 | i, o :: r => R i o ∧ OpsFull R (i + 1) r
theorem opsFull_at {R : Nat → Oper → Prop} : ∀ (l : List Oper) (k : Nat), OpsFull R k l → ∀ i o, l[i]? = some o → R (k + i) o
 | [], _, _, i, o, h => by simp at h
 | o' :: r, k, h, 0, o, ho => by
  simp at ho
  subst ho
  exact h.1
 | o' :: r, k, h, i + 1, o, ho => by
  have := opsFull_at r (k + 1) h.2 i o (by simpa using ho)
  rwa [show k + (i + 1) = k + 1 + i by omega]
def putL (a : Act) (l : List (Tmp × Value)) : Act := l.foldl (fun a p => a.put (some p.1) p.2) a
theorem putL_keep : ∀ (l : List (Tmp × Value)) (a : Act), (putL a l).defers = a.defers ∧ (putL a l).tmps.size = a.tmps.size ∧ ∀ s, (∀ p ∈ l, p.1 ≠ s) → (putL a l).tmps[s]? = a.tmps[s]?
 | [], a => ⟨rfl, rfl, fun _ _ => rfl⟩
 | p :: l, a => by
  obtain ⟨h1, h2, h3⟩ := putL_keep l (a.put (some p.1) p.2)
  refine ⟨h1, by rw [show putL a (p :: l) = putL (a.put (some p.1) p.2) l from rfl, h2]; simp [Act.put], fun s hs => ?_⟩
  rw [show putL a (p :: l) = putL (a.put (some p.1) p.2) l from rfl, h3 s (fun q hq => hs q (List.mem_cons_of_mem _ hq))]
  simp only [Act.put]
  rw [Array.getElem?_setIfInBounds_ne (hs p List.mem_cons_self)]
theorem wp_region_full {P : Program} {id : Nat} {ops : Array Oper} {Q : Exit → Act → World → Prop} {a : Act} {w : World} (hm : P.follows .mixedOrders = true) (hchk : regChk ops = true)
  (l : (Nat → Value) → List (Tmp × Value)) (hk : ∀ x, ∀ p ∈ l x, (dstIx ops p.1).isSome = true) (F : (Nat → Value) → Act) (hF : ∀ x, putL a (l x) = F x)
  (late : Nat → Bool) (hlate : ∀ x i v (o : Oper), late i = true → ops[i]? = some o → F (updX x i v) = (F x).put o.dst v)
  (S : World → Prop) (Keep : World → World → Prop) (T : Nat → Value → World → Prop) (hT : ∀ j v W W', Keep W W' → T j v W → T j v W') (hS : S w.drew)
  (hops : OpsFull (OpFull P ops F late T S Keep Q) 0 ops.toList) (hdone : ∀ x w, S w → (∀ i, i < ops.size → late i = true → T i (x i) w) → Q .normal (F x) w) : (Code.region id ops true).wp P Q a w := by
 refine wp_region_any hm (wpAny_full hchk hlate hT (fun i o ho => ?_) hdone _ _ _ _ (by simp) ⟨⟨fun _ => undef, ⟨?_, ?_, fun s hs => ?_, fun s j hj hl => ?_⟩, fun i _ hl => ?_⟩, hS⟩ (by rw [Array.toList_replicate]; unfold unlF; rw [List.count_replicate_self]; exact Nat.le_refl _))
 ·
  have := opsFull_at _ 0 hops i o (by simpa using ho)
  rwa [Nat.zero_add] at this
 ·
  rw [← hF]; exact (putL_keep _ _).1.symm
 ·
  rw [← hF]; exact (putL_keep _ _).2.1.symm
 ·
  rw [← hF]
  refine ((putL_keep _ _).2.2 s (fun p hp e => ?_)).symm
  subst e
  have := hk _ p hp
  rw [hs] at this
  cases this
 ·
  exfalso
  rw [Array.getD_eq_getD_getElem?, Array.getElem?_replicate] at hl
  split at hl <;> simp at hl
 ·
  exfalso
  rw [Array.getD_eq_getD_getElem?, Array.getElem?_replicate] at hl
  split at hl <;> simp at hl
end Go.Proofs.YtejbpnhondpnfaaGreat
namespace Go.Proofs.YtejbpnhondpnfaaGreat
set_option maxRecDepth 100000
open Go.RowKit
theorem has_is (x : ByteArray) (g : Nat) (W : World) (hg : W.heap[g]? = some foldsO) :
  Calls Tryz.prog 35 #[.slice (some ⟨g, 0, none⟩) 4 4, .string x] W fun e w' => e = .returned (.bool (Lib.containsS foldsL x)) ∧ w' = W := by
 refine (Tryz.slices_Contains_string g 0 4 4 foldsL x W (by decide) (by decide) (fun j hj => ?_)).mono ?_
 ·
  rw [Nat.zero_add]
  have hj4 : j < 4 := hj
  unfold foldsO at hg
  match j, hj4 with
  | 0, _ => simp [World.cell?, hg]; rfl
  | 1, _ => simp [World.cell?, hg]; rfl
  | 2, _ => simp [World.cell?, hg]; rfl
  | 3, _ => simp [World.cell?, hg]; rfl
 ·
  rintro e w' ⟨rfl, rfl⟩
  have : foldsL.take 4 = foldsL := rfl
  rw [this]
  exact ⟨rfl, rfl⟩
theorem has_b (x : ByteArray) (w W : World) (hb : Below w.heap.size w W) :
  Calls Tryz.prog 35 #[.slice (some ⟨W.heap.size, 0, none⟩) 4 4, .string x] (W.alloc foldsO) fun e w' => e = .returned (.bool (Lib.containsS foldsL x)) ∧ Below w.heap.size w w' := by
 refine (has_is x W.heap.size _ (heap_alloc_new W _)).mono ?_
 rintro e w' ⟨rfl, rfl⟩
 exact ⟨rfl, hb.alloc hb.size _⟩
theorem folds_s (W0 W : World) (hb : Below W0.heap.size W0 W) : Calls Tryz.prog 36 #[] W fun e w' => ∃ g, e = .returned (.slice (some ⟨g, 0, none⟩) 4 4) ∧ w'.heap[g]? = some foldsO ∧ Below W0.heap.size W0 w' ∧ Below W.heap.size W w' :=
 (folds_any W).mono fun e w' ⟨h1, h2⟩ => ⟨W.heap.size, h1, by rw [h2]; exact heap_alloc_new W _, by rw [h2]; exact hb.alloc hb.size _, by rw [h2]; exact (Below.refl _ W).alloc (Nat.le_refl _) _⟩
theorem has_s (x : ByteArray) (q : Bool) (W0 : World) (hq : q = Lib.containsS foldsL x) (g : Nat) (W : World) (hg : W.heap[g]? = some foldsO) (hb : Below W0.heap.size W0 W) :
  Calls Tryz.prog 35 #[.slice (some ⟨g, 0, none⟩) 4 4, .string x] W fun e w' => e = .returned (.bool q) ∧ Below W0.heap.size W0 w' ∧ Below W.heap.size W w' :=
 (has_is x g W hg).mono fun e w' ⟨h1, h2⟩ => ⟨by rw [h1, hq], by rw [h2]; exact hb, by rw [h2]; exact Below.refl _ _⟩
structure JF (j : Jb) (A6 A7 A8 : Option Addr) (n6 c6 n7 c7 n8 c8 g : Nat) (W : World) : Prop where
 f0 : W.cell? ⟨g, 0, none⟩ = some (.string j.name)
 f1 : W.cell? ⟨g, 1, none⟩ = some (.int .i64 j.tasks)
 f2 : W.cell? ⟨g, 2, none⟩ = some (.int .i64 j.parts)
 f3 : W.cell? ⟨g, 3, none⟩ = some (.int .i64 j.k)
 f4 : W.cell? ⟨g, 4, none⟩ = some (.int .i64 j.n)
 f5 : W.cell? ⟨g, 5, none⟩ = some (.int .i64 j.fuel)
 f6 : W.cell? ⟨g, 6, none⟩ = some (.slice A6 n6 c6)
 f7 : W.cell? ⟨g, 7, none⟩ = some (.slice A7 n7 c7)
 f8 : W.cell? ⟨g, 8, none⟩ = some (.slice A8 n8 c8)
 f9 : W.cell? ⟨g, 9, none⟩ = some (.string j.fold)
 f10 : W.cell? ⟨g, 10, none⟩ = some (.bool j.comb)
theorem jf_of {j : Jb} {A6 A7 A8 : Option Addr} {n6 c6 n7 c7 n8 c8 g : Nat} {W : World} (h : W.heap[g]? = some (.cells (jbA j A6 A7 A8 n6 c6 n7 c7 n8 c8) 32 (0, 0))) : JF j A6 A7 A8 n6 c6 n7 c7 n8 c8 g W :=
 ⟨cells_of h 0 _ rfl, cells_of h 1 _ rfl, cells_of h 2 _ rfl, cells_of h 3 _ rfl, cells_of h 4 _ rfl, cells_of h 5 _ rfl, cells_of h 6 _ rfl, cells_of h 7 _ rfl, cells_of h 8 _ rfl, cells_of h 9 _ rfl, cells_of h 10 _ rfl⟩
theorem wpList_val {P : Program} {ops : Array Oper} {rest : List Oper} {o : Oper} {a : Act} {w : World} {Q : Exit → Act → World → Prop} {v : Value} (hg : o.guard = none) (hr : (execOp a.eval o).run P w = .ok (.value v) w) (hK : wpList P ops Q rest (a.put o.dst v) w) : wpList P ops Q (o :: rest) a w := by
 refine wpList_plain hg fun _ hK' => ?_
 unfold Oper.wp
 rw [hr]
 exact hK' _ _ hK
theorem eqArr (y0 y1 y2 y3 y4 : Bool) (w : World) : (Op.equalIn 10000 72 (.agg #[.bool y0, .bool y1, .bool y2, .bool y3, .bool y4]) (.agg #[.bool y0, .bool false, .bool false, .bool false, .bool false])).run Tryz.prog w = .ok (!(y1 || y2 || y3 || y4)) w := by
 cases y0 <;> cases y1 <;> cases y2 <;> cases y3 <;> cases y4 <;> kernel_rfl
attribute [local go_sem high] eqArr
def wrong1 (r6 r7 r8 : Bool) (n7 n8 : Nat) : Bool := !r6 || (decide (0 < n7) && !r7) || (decide (0 < n8) && !r8)
def wrong2 (fo : ByteArray) (n8 : Nat) : Bool := (!fo.toList.isEmpty && !Lib.containsS foldsL fo) || (fo.toList.isEmpty == decide (n8 = 0))
def wrong3 (r6 r7 : Bool) (l6 l7 l8 : List Nd) : Bool :=
 (r6 && hasN l6 2) || ((r7 && hasN l7 1) || (r7 && hasN l7 2) || (r7 && hasN l7 3) || (r7 && hasN l7 4)) || l7.any (fun z => decide (z.op = 26)) || l8.any (fun z => decide (z.op = 26))
def wrong4 (cb : Bool) (fo : ByteArray) : Bool := cb && fo.toList.isEmpty
def rightJ (j : Jb) (r6 r7 r8 : Bool) (l6 l7 l8 : List Nd) : Int :=
 if namedB j.name = false then 11 else if numbersB j = false then 14 else if wrong1 r6 r7 r8 l7.length l8.length then 1 else if wrong2 j.fold l8.length then 1
 else if wrong3 r6 r7 l6 l7 l8 then 10 else if wrong4 j.comb j.fold then 19 else 0
def RightIs (r : Int) (B : Nat) (w : World) (e : Ending) (w' : World) : Prop := e = .returned (.int .i64 r) ∧ Below B w w'
set_option maxHeartbeats 16000000 in
theorem jright_any (j : Jb) (A6 A7 A8 : Option Addr) (c6 c7 c8 : Nat) (l6 l7 l8 : List Nd) (r6 r7 r8 : Bool) (w : World)
  (h6 : NdsAt w A6 l6) (h7 : NdsAt w A7 l7) (h8 : NdsAt w A8 l8) (n6 : l6.length ≤ 1000000) (n7 : l7.length ≤ 1000000) (n8 : l8.length ≤ 1000000)
  (o6 : r6 = true → ∀ z ∈ l6, NdOk z) (o7 : r7 = true → ∀ z ∈ l7, NdOk z)
  (x6 : ∀ W, Below w.heap.size w W → Calls Tryz.prog 34 #[.slice A6 l6.length c6] W fun e W' => e = .returned (.bool r6) ∧ Below W.heap.size W W')
  (x7 : ∀ W, Below w.heap.size w W → Calls Tryz.prog 34 #[.slice A7 l7.length c7] W fun e W' => e = .returned (.bool r7) ∧ Below W.heap.size W W')
  (x8 : ∀ W, Below w.heap.size w W → Calls Tryz.prog 34 #[.slice A8 l8.length c8] W fun e W' => e = .returned (.bool r8) ∧ Below W.heap.size W W') :
  Calls Tryz.prog 13 #[.agg (jbA j A6 A7 A8 l6.length c6 l7.length c7 l8.length c8)] w (RightIs (rightJ j r6 r7 r8 l6 l7 l8) w.heap.size w) := by
 obtain ⟨W1, hW1⟩ : ∃ W1, W1 = w.alloc (.cells (jbA j A6 A7 A8 l6.length c6 l7.length c7 l8.length c8) 32) := ⟨_, rfl⟩
 have hg : W1.heap[w.heap.size]? = some (.cells (jbA j A6 A7 A8 l6.length c6 l7.length c7 l8.length c8) 32 (0, 0)) := by rw [hW1]; exact heap_alloc_new w _
 have hb1 : Below w.heap.size w W1 := by rw [hW1]; exact (Below.refl _ w).alloc (Nat.le_refl _) _
 have hlt : w.heap.size < W1.heap.size := (Array.getElem?_eq_some_iff.1 hg).1
 have HG : Hid (∀ W, Below W1.heap.size W1 W → JF j A6 A7 A8 l6.length c6 l7.length c7 l8.length c8 w.heap.size W) := Lib.hid fun W hW => jf_of ((hW.block _ hlt).trans hg)
 have HB1 := Lib.hid hb1
 have low : ∀ {f : Nat} {xs : Array Value} {W : World} {v : Value}, Below W1.heap.size W1 W → (Calls Tryz.prog f xs W fun e W' => e = .returned v ∧ Below W.heap.size W W') → Calls Tryz.prog f xs W fun e W' => e = .returned v ∧ Below W1.heap.size W1 W' :=
  fun hW h => h.mono fun e W' ⟨h1, h2⟩ => ⟨h1, hW.trans (h2.mono hW.size)⟩
 have HX6 := Lib.hid (fun W (hW : Below W1.heap.size W1 W) => low hW (x6 W (hb1.trans (hW.mono hb1.size))))
 have HX7 := Lib.hid (fun W (hW : Below W1.heap.size W1 W) => low hW (x7 W (hb1.trans (hW.mono hb1.size))))
 have HX8 := Lib.hid (fun W (hW : Below W1.heap.size W1 W) => low hW (x8 W (hb1.trans (hW.mono hb1.size))))
 have HNm := Lib.hid (fun W (hW : Below W1.heap.size W1 W) => low hW (named_any j.name W))
 have HNu := Lib.hid (fun W (hW : Below W1.heap.size W1 W) => low hW (numbers_any j A6 A7 A8 l6.length c6 l7.length c7 l8.length c8 W))
 have HE7 := Lib.hid (fun W (hW : Below W1.heap.size W1 W) => low hW (emits_any A7 c7 l7 W (h7.below (hb1.trans (hW.mono hb1.size)) (Nat.le_refl _)) n7))
 have HE8 := Lib.hid (fun W (hW : Below W1.heap.size W1 W) => low hW (emits_any A8 c8 l8 W (h8.below (hb1.trans (hW.mono hb1.size)) (Nat.le_refl _)) n8))
 have lowN : ∀ {q : Int → Bool} {xs : Array Value} {W : World}, Below W1.heap.size W1 W → Calls Tryz.prog 37 xs W (NamesIs q W.heap.size W) → Calls Tryz.prog 37 xs W fun e W' => e = .returned (.agg #[.bool (q 0), .bool (q 1), .bool (q 2), .bool (q 3), .bool (q 4)]) ∧ Below W1.heap.size W1 W' ∧ Below W.heap.size W W' :=
  fun hW h => h.mono fun e W' ⟨h1, h2⟩ => ⟨h1, hW.trans (h2.mono hW.size), h2⟩
 obtain ⟨q6, hq6⟩ : ∃ q : Int → Bool, q = fun i => r6 && hasN l6 i := ⟨_, rfl⟩
 obtain ⟨q7, hq7⟩ : ∃ q : Int → Bool, q = fun i => r7 && hasN l7 i := ⟨_, rfl⟩
 have HN6 := Lib.hid (fun W (hW : Below W1.heap.size W1 W) => lowN (q := q6) hW (by rw [hq6]; exact names_any A6 c6 l6 r6 W (h6.below (hb1.trans (hW.mono hb1.size)) (Nat.le_refl _)) n6 o6 (fun W' hW' => x6 W' ((hb1.trans (hW.mono hb1.size)).trans (hW'.mono (hb1.trans (hW.mono hb1.size)).size)))))
 have HN7 := Lib.hid (fun W (hW : Below W1.heap.size W1 W) => lowN (q := q7) hW (by rw [hq7]; exact names_any A7 c7 l7 r7 W (h7.below (hb1.trans (hW.mono hb1.size)) (Nat.le_refl _)) n7 o7 (fun W' hW' => x7 W' ((hb1.trans (hW.mono hb1.size)).trans (hW'.mono (hb1.trans (hW.mono hb1.size)).size)))))
 have HF := Lib.hid (fun W (hW : Below W1.heap.size W1 W) => has_b j.fold W1 W hW)
 have HR0 : Hid (Below W1.heap.size W1 W1) := Lib.hid (Below.refl _ _)
 obtain ⟨nm, ta, pa, k, n, fu, fo, cb⟩ := j
 unfold jbA at hW1 HNu ⊢
 simp only at hW1 HNu HNm HF ⊢
 obtain ⟨rr, hrr⟩ : ∃ rr, rr = rightJ ⟨nm, ta, pa, k, n, fu, fo, cb⟩ r6 r7 r8 l6 l7 l8 := ⟨_, rfl⟩
 rw [← hrr]
 have HRR := Lib.hid hrr
 obtain ⟨m7, hm7⟩ : ∃ m, m = l7.length := ⟨_, rfl⟩
 obtain ⟨m8, hm8⟩ : ∃ m, m = l8.length := ⟨_, rfl⟩
 obtain ⟨m6, hm6⟩ : ∃ m, m = l6.length := ⟨_, rfl⟩
 obtain ⟨b0, hb0⟩ : ∃ b, b = namedB nm := ⟨_, rfl⟩
 obtain ⟨bn, hbn⟩ : ∃ b, b = numbersB ⟨nm, ta, pa, k, n, fu, fo, cb⟩ := ⟨_, rfl⟩
 obtain ⟨e7, he7⟩ : ∃ b, b = l7.any (fun z => decide (z.op = 26)) := ⟨_, rfl⟩
 obtain ⟨e8, he8⟩ : ∃ b, b = l8.any (fun z => decide (z.op = 26)) := ⟨_, rfl⟩
 obtain ⟨cf, hcf⟩ : ∃ b, b = Lib.containsS foldsL fo := ⟨_, rfl⟩
 rw [← hm6, ← hm7, ← hm8] at hW1 HNu HG ⊢
 rw [← hm6] at HX6 HN6
 rw [← hm7] at HX7 HN7 HE7
 rw [← hm8] at HX8 HE8
 rw [← hb0] at HNm
 rw [← hbn] at HNu
 rw [← he7] at HE7
 rw [← he8] at HE8
 rw [← hcf] at HF
 have HRD : Hid (rr = if b0 = false then 11 else if bn = false then 14 else if wrong1 r6 r7 r8 m7 m8 then 1 else if wrong2 fo m8 then 1 else if wrong3 r6 r7 l6 l7 l8 then 10 else if wrong4 cb fo then 19 else 0) := Lib.hid (by rw [HRR.out, hb0, hbn, hm7, hm8]; rfl)
 have HW3 : Hid (wrong3 r6 r7 l6 l7 l8 = (q6 2 || (q7 1 || q7 2 || q7 3 || q7 4) || e7 || e8)) := Lib.hid (by rw [he7, he8, hq6, hq7]; rfl)
 have HCF := Lib.hid hcf
 have HW2 : Hid (wrong2 fo m8 = ((!fo.toList.isEmpty && !cf) || (fo.toList.isEmpty == decide (m8 = 0)))) := Lib.hid (by rw [hcf]; rfl)
 clear hrr hm6 hm7 hm8 hb0 hbn he7 he8 hcf hq6 hq7 HRR low lowN hg hlt hb1 h6 h7 h8 o6 o7 x6 x7 x8 n6 n7 n8
 have J1 := Lib.hid (HG.out W1 HR0.out)
 go_enter Tryz.func13, Tryz.ntmps13
 cases b0
 case false =>
  obtain ⟨f0, _⟩ := J1.out
  go_wp2_with (first
   | (rw [← hW1]; clear hW1)
   | (go_at_call 32; ((with_reducible refine (HNm.out _ HR0.out).mono ?_); rintro e w2 ⟨rfl, hp2⟩)))
  go_ret
  exact ⟨by rw [HRD.out]; rfl, HB1.out.trans (hp2.mono HB1.out.size)⟩
 case true =>
 cases bn
 case false =>
  obtain ⟨f0, _⟩ := J1.out
  go_wp2_with (first
   | (rw [← hW1]; clear hW1)
   | (go_at_call 32; ((with_reducible refine (HNm.out _ HR0.out).mono ?_); rintro e w2 ⟨rfl, hp2⟩; obtain ⟨g0, g1, g2, g3, g4, g5, g6, g7, g8, g9, g10⟩ := HG.out _ hp2))
   | (go_at_call 33; ((with_reducible refine (HNu.out _ hp2).mono ?_); rintro e w3 ⟨rfl, hp3⟩)))
  go_ret
  exact ⟨by rw [HRD.out]; rfl, HB1.out.trans (hp3.mono HB1.out.size)⟩
 case true =>
 obtain ⟨f0, _⟩ := J1.out
 go_upto_region 5 with (first
   | (rw [← hW1]; clear hW1)
   | (go_at_call 32; ((with_reducible refine (HNm.out _ HR0.out).mono ?_); rintro e w2 ⟨rfl, hp2⟩; obtain ⟨g0, g1, g2, g3, g4, g5, g6, g7, g8, g9, g10⟩ := HG.out _ hp2))
   | (go_at_call 33; ((with_reducible refine (HNu.out _ hp2).mono ?_); rintro e w3 ⟨rfl, hp3⟩)))
 obtain ⟨e1, he1⟩ : ∃ b, b = wrong1 r6 r7 r8 m7 m8 := ⟨_, rfl⟩
 have HE1 := Lib.hid he1
 clear he1 g0 g1 g2 g3 g4 g5 g6 g7 g8 g9 g10
 go_cut [13] (fun s13 wc => s13 = .bool e1 ∧ Below W1.heap.size W1 wc)
 case first =>
  obtain ⟨_, _, _, _, _, _, t6, t7, t8, _, _⟩ := HG.out _ hp3
  cases r6
  case false =>
   go_wp2_with (first | (go_at_call 34; ((with_reducible refine (HX6.out _ (by assumption)).mono ?_); rintro e w4 ⟨rfl, hp4⟩; obtain ⟨_, _, _, _, _, _, w4f6, w4f7, w4f8, _, _⟩ := HG.out _ hp4)))
   go_meet
   exact ⟨by rw [HE1.out]; rfl, hp4⟩
  case true =>
  rcases Nat.eq_zero_or_pos m7 with z7 | z7
  ·
   subst z7
   rcases Nat.eq_zero_or_pos m8 with z8 | z8
   ·
    subst z8
    go_wp2_with (first | (go_at_call 34; ((with_reducible refine (HX6.out _ (by assumption)).mono ?_); rintro e w4 ⟨rfl, hp4⟩; obtain ⟨_, _, _, _, _, _, w4f6, w4f7, w4f8, _, _⟩ := HG.out _ hp4)))
    go_meet
    exact ⟨by rw [HE1.out]; rfl, hp4⟩
   ·
    have y8 : decide (0 < m8) = true := decide_eq_true z8
    have x8 : (0 : Int) < (m8 : Int) := by omega
    cases r8 <;>
    ·
     go_wp2_with (first | (go_at_call 34; ((with_reducible refine (HX6.out _ (by assumption)).mono ?_); rintro e w4 ⟨rfl, hp4⟩; obtain ⟨_, _, _, _, _, _, w4f6, w4f7, w4f8, _, _⟩ := HG.out _ hp4)) | (go_at_call 34; ((with_reducible refine (HX8.out _ (by assumption)).mono ?_); rintro e w6 ⟨rfl, hp6⟩; obtain ⟨_, _, _, _, _, _, w6f6, w6f7, w6f8, _, _⟩ := HG.out _ hp6)))
     go_meet
     exact ⟨by rw [HE1.out]; unfold wrong1; rw [y8]; rfl, hp6⟩
  ·
   have y7 : decide (0 < m7) = true := decide_eq_true z7
   have x7 : (0 : Int) < (m7 : Int) := by omega
   cases r7
   case false =>
    go_wp2_with (first | (go_at_call 34; ((with_reducible refine (HX6.out _ (by assumption)).mono ?_); rintro e w4 ⟨rfl, hp4⟩; obtain ⟨_, _, _, _, _, _, w4f6, w4f7, w4f8, _, _⟩ := HG.out _ hp4)) | (go_at_call 34; ((with_reducible refine (HX7.out _ (by assumption)).mono ?_); rintro e w5 ⟨rfl, hp5⟩; obtain ⟨_, _, _, _, _, _, w5f6, w5f7, w5f8, _, _⟩ := HG.out _ hp5)))
    go_meet
    exact ⟨by rw [HE1.out]; unfold wrong1; rw [y7]; rfl, hp5⟩
   case true =>
    rcases Nat.eq_zero_or_pos m8 with z8 | z8
    ·
     subst z8
     go_wp2_with (first | (go_at_call 34; ((with_reducible refine (HX6.out _ (by assumption)).mono ?_); rintro e w4 ⟨rfl, hp4⟩; obtain ⟨_, _, _, _, _, _, w4f6, w4f7, w4f8, _, _⟩ := HG.out _ hp4)) | (go_at_call 34; ((with_reducible refine (HX7.out _ (by assumption)).mono ?_); rintro e w5 ⟨rfl, hp5⟩; obtain ⟨_, _, _, _, _, _, w5f6, w5f7, w5f8, _, _⟩ := HG.out _ hp5)))
     go_meet
     exact ⟨by rw [HE1.out]; unfold wrong1; rw [y7]; rfl, hp5⟩
    ·
     have y8 : decide (0 < m8) = true := decide_eq_true z8
     have x8 : (0 : Int) < (m8 : Int) := by omega
     cases r8 <;>
     ·
      go_wp2_with (first | (go_at_call 34; ((with_reducible refine (HX6.out _ (by assumption)).mono ?_); rintro e w4 ⟨rfl, hp4⟩; obtain ⟨_, _, _, _, _, _, w4f6, w4f7, w4f8, _, _⟩ := HG.out _ hp4)) | (go_at_call 34; ((with_reducible refine (HX7.out _ (by assumption)).mono ?_); rintro e w5 ⟨rfl, hp5⟩; obtain ⟨_, _, _, _, _, _, w5f6, w5f7, w5f8, _, _⟩ := HG.out _ hp5)) | (go_at_call 34; ((with_reducible refine (HX8.out _ (by assumption)).mono ?_); rintro e w6 ⟨rfl, hp6⟩; obtain ⟨_, _, _, _, _, _, w6f6, w6f7, w6f8, _, _⟩ := HG.out _ hp6)))
      go_meet
      exact ⟨by rw [HE1.out]; unfold wrong1; rw [y7, y8]; rfl, hp6⟩
 case rest =>
  obtain ⟨rfl, hpc⟩ := hcut
  cases e1
  case true =>
   go_wp2_with fail
   go_ret
   exact ⟨by rw [HRD.out, ← HE1.out]; rfl, HB1.out.trans (hpc.mono HB1.out.size)⟩
  case false =>
  go_upto_region 7 with (fail)
  obtain ⟨e2, he2⟩ : ∃ b, b = wrong2 fo m8 := ⟨_, rfl⟩
  have HE2 := Lib.hid he2
  clear he2
  go_cut [42] (fun s42 wd => s42 = .bool e2 ∧ Below W1.heap.size W1 wd)
  case first =>
   obtain ⟨_, _, _, _, _, _, _, _, t8, t9, _⟩ := HG.out _ hpc
   have hm8b : Hid ((m8 == 0) = decide (m8 = 0)) := Lib.hid rfl
   by_cases hfo : fo.size = 0
   ·
    obtain rfl : fo = ⟨#[]⟩ := ByteArray.size_eq_zero_iff.1 hfo
    rcases Nat.eq_zero_or_pos m8 with z8 | z8
    ·
     subst z8
     clear hfo
     go_wp2_with fail
     go_quiet (fail)
     go_wp2_with fail
     go_meet
     exact ⟨by rw [HE2.out]; unfold wrong2; simp, ⟨hpc.os, hpc.tape, hpc.output, hpc.size, hpc.block⟩⟩
    ·
     have x8 : ((m8 : Int) == 0) = false := by rw [beq_eq_false_iff_ne]; omega
     have x8' : (m8 == 0) = false := by rw [beq_eq_false_iff_ne]; omega
     have HD8 : Hid (decide (m8 = 0) = false) := Lib.hid (by simp; omega)
     clear hfo z8
     go_wp2_with fail
     go_quiet (fail)
     go_wp2_with fail
     go_meet
     exact ⟨by rw [HE2.out]; unfold wrong2; rw [HD8.out]; simp, ⟨hpc.os, hpc.tape, hpc.output, hpc.size, hpc.block⟩⟩
   ·
    have e1 : ¬ fo.toList = [] := fun e => hfo (by rw [ByteArray.toList_eq] at e; have := congrArg List.length e; simpa using this)
    have e2' : fo.toList.isEmpty = false := by simpa using e1
    have e3' : (!fo.toList.isEmpty) = true := by rw [e2']; rfl
    have HW2' : Hid (wrong2 fo m8 = (!cf || !decide (m8 = 0))) := Lib.hid (by rw [HW2.out, e2']; simp)
    clear hfo
    cases cf
    case false =>
     refine' wp_region_full (by kernel_rfl) (by kernel_rfl) (fun x => [(43, .pointer (some ⟨w.heap.size, 9, none⟩)), (44, .string fo), (45, .bool true), (46, .bool true), (47, x 4), (48, .pointer (some ⟨w.heap.size, 9, none⟩)), (49, .string fo), (50, .bool false), (51, .bool true), (52, .bool true), (53, .bool true), (54, undef), (55, undef), (56, undef), (57, undef), (58, undef), (59, undef), (60, undef), (61, undef), (62, .bool true), (42, .bool true)]) ?hk _ ?hF (fun i => i == 4) ?hlate (fun W => Below W1.heap.size W1 W) (fun W W' => Below W.heap.size W W') (fun i v W => ∃ g, v = .slice (some ⟨g, 0, none⟩) 4 4 ∧ W.heap[g]? = some foldsO) ?hT ?hS ?hops ?hdone
     case hF => intro x; simp only [putL, List.foldl]; go_simp; rfl
     case hk => intro x p hp; simp only [List.mem_cons, List.not_mem_nil, or_false] at hp; (rcases hp with rfl | rfl | rfl | rfl | rfl | rfl | rfl | rfl | rfl | rfl | rfl | rfl | rfl | rfl | rfl | rfl | rfl | rfl | rfl | rfl | rfl <;> rfl)
     case hlate =>
      intro x i v o hl ho
      simp only [Bool.or_eq_true, beq_iff_eq] at hl
      obtain rfl : i = 4 := hl; obtain rfl := Option.some.inj ho; rfl
     case hT => rintro j v W W' hk ⟨g, h1, h2⟩; exact ⟨g, h1, (hk.block g (Array.getElem?_eq_some_iff.1 h2).1).trans h2⟩
     case hS => exact below_drew' hpc
     case hops =>
      refine ⟨?o0, ?o1, ?o2, ?o3, ?o4, ?o5, ?o6, ?o7, ?o8, ?o9, ?o10, ?o11, ?o12, ?o13, ?o14, ?o15, ?o16, ?o17, ?o18, ?o19, ?o20, trivial⟩
      case o0 => intro x; rw [if_pos (by rfl)]; intro W hW hj; go_simp; first | exact Below.refl _ _ | exact ⟨rfl, hW, Below.refl _ _⟩ | exact ⟨hW, Below.refl _ _⟩
      case o1 => intro x; rw [if_pos (by rfl)]; intro W hW hj; obtain ⟨_, _, _, _, _, _, _, _, v8, v9, _⟩ := HG.out _ hW; go_simp; first | exact Below.refl _ _ | exact ⟨rfl, hW, Below.refl _ _⟩ | exact ⟨hW, Below.refl _ _⟩
      case o2 => intro x; rw [if_pos (by rfl)]; intro W hW hj; go_simp; first | exact Below.refl _ _ | exact ⟨rfl, hW, Below.refl _ _⟩ | exact ⟨hW, Below.refl _ _⟩
      case o3 => intro x; rw [if_pos (by rfl)]; intro W hW hj; go_simp; first | exact Below.refl _ _ | exact ⟨rfl, hW, Below.refl _ _⟩ | exact ⟨hW, Below.refl _ _⟩
      case o4 => intro x; rw [if_pos (by rfl)]; intro W hW hj; go_simp; go_at_call 36; refine (folds_s W1 _ hW).mono ?_; rintro e w7 ⟨g7, rfl, hg7, hp7, hk7⟩; exact ⟨⟨g7, rfl, hg7⟩, hp7, hk7⟩
      case o5 => intro x; rw [if_pos (by rfl)]; intro W hW hj; go_simp; first | exact Below.refl _ _ | exact ⟨rfl, hW, Below.refl _ _⟩ | exact ⟨hW, Below.refl _ _⟩
      case o6 => intro x; rw [if_pos (by rfl)]; intro W hW hj; obtain ⟨_, _, _, _, _, _, _, _, v8, v9, _⟩ := HG.out _ hW; go_simp; first | exact Below.refl _ _ | exact ⟨rfl, hW, Below.refl _ _⟩ | exact ⟨hW, Below.refl _ _⟩
      case o7 => intro x; rw [if_pos (by rfl)]; intro W hW hj; obtain ⟨g7, hx, hg7⟩ := hj 4 rfl ⟨⟨4, .data⟩, by simp, rfl, rfl⟩; go_simp; go_at_call 35; refine (has_s fo _ W1 HCF.out g7 _ hg7 hW).mono ?_; rintro e w8 ⟨rfl, hp8, hk8⟩; exact ⟨rfl, hp8, hk8⟩
      case o8 => intro x; rw [if_pos (by rfl)]; intro W hW hj; go_simp; first | exact Below.refl _ _ | exact ⟨rfl, hW, Below.refl _ _⟩ | exact ⟨hW, Below.refl _ _⟩
      case o9 => intro x; rw [if_pos (by rfl)]; intro W hW hj; go_simp; first | exact Below.refl _ _ | exact ⟨rfl, hW, Below.refl _ _⟩ | exact ⟨hW, Below.refl _ _⟩
      case o10 => intro x; rw [if_pos (by rfl)]; intro W hW hj; go_simp; first | exact Below.refl _ _ | exact ⟨rfl, hW, Below.refl _ _⟩ | exact ⟨hW, Below.refl _ _⟩
      case o11 => intro x; rw [if_neg (Bool.eq_false_iff.mp (by rfl))]; exact ⟨rfl, rfl⟩
      case o12 => intro x; rw [if_neg (Bool.eq_false_iff.mp (by rfl))]; exact ⟨rfl, rfl⟩
      case o13 => intro x; rw [if_neg (Bool.eq_false_iff.mp (by rfl))]; exact ⟨rfl, rfl⟩
      case o14 => intro x; rw [if_neg (Bool.eq_false_iff.mp (by rfl))]; exact ⟨rfl, rfl⟩
      case o15 => intro x; rw [if_neg (Bool.eq_false_iff.mp (by rfl))]; exact ⟨rfl, rfl⟩
      case o16 => intro x; rw [if_neg (Bool.eq_false_iff.mp (by rfl))]; exact ⟨rfl, rfl⟩
      case o17 => intro x; rw [if_neg (Bool.eq_false_iff.mp (by rfl))]; exact ⟨rfl, rfl⟩
      case o18 => intro x; rw [if_neg (Bool.eq_false_iff.mp (by rfl))]; exact ⟨rfl, rfl⟩
      case o19 => intro x; rw [if_pos (by rfl)]; intro W hW hj; go_simp; first | exact Below.refl _ _ | exact ⟨rfl, hW, Below.refl _ _⟩ | exact ⟨hW, Below.refl _ _⟩
      case o20 => intro x; rw [if_pos (by rfl)]; intro W hW hj; go_simp; first | exact Below.refl _ _ | exact ⟨rfl, hW, Below.refl _ _⟩ | exact ⟨hW, Below.refl _ _⟩
     case hdone =>
      intro x w9 hw9 hx
      go_wp2_with fail
      go_meet
      exact ⟨by rw [HE2.out, HW2'.out]; rfl, hw9⟩
    case true =>
     rcases Nat.eq_zero_or_pos m8 with z8 | z8
     ·
      subst z8
      refine' wp_region_full (by kernel_rfl) (by kernel_rfl) (fun x => [(43, .pointer (some ⟨w.heap.size, 9, none⟩)), (44, .string fo), (45, .bool true), (46, .bool true), (47, x 4), (48, .pointer (some ⟨w.heap.size, 9, none⟩)), (49, .string fo), (50, .bool true), (51, .bool false), (52, .bool false), (53, .bool false), (54, .pointer (some ⟨w.heap.size, 9, none⟩)), (55, .string fo), (56, .bool false), (57, .pointer (some ⟨w.heap.size, 8, none⟩)), (58, .slice A8 0 c8), (59, .int .i64 0), (60, .bool true), (61, .bool false), (62, .bool false), (42, .bool false)]) ?hk _ ?hF (fun i => i == 4) ?hlate (fun W => Below W1.heap.size W1 W) (fun W W' => Below W.heap.size W W') (fun i v W => ∃ g, v = .slice (some ⟨g, 0, none⟩) 4 4 ∧ W.heap[g]? = some foldsO) ?hT ?hS ?hops ?hdone
      case hF => intro x; simp only [putL, List.foldl]; go_simp; rfl
      case hk => intro x p hp; simp only [List.mem_cons, List.not_mem_nil, or_false] at hp; (rcases hp with rfl | rfl | rfl | rfl | rfl | rfl | rfl | rfl | rfl | rfl | rfl | rfl | rfl | rfl | rfl | rfl | rfl | rfl | rfl | rfl | rfl <;> rfl)
      case hlate =>
       intro x i v o hl ho
       simp only [Bool.or_eq_true, beq_iff_eq] at hl
       obtain rfl : i = 4 := hl; obtain rfl := Option.some.inj ho; rfl
      case hT => rintro j v W W' hk ⟨g, h1, h2⟩; exact ⟨g, h1, (hk.block g (Array.getElem?_eq_some_iff.1 h2).1).trans h2⟩
      case hS => exact below_drew' hpc
      case hops =>
       refine ⟨?o0, ?o1, ?o2, ?o3, ?o4, ?o5, ?o6, ?o7, ?o8, ?o9, ?o10, ?o11, ?o12, ?o13, ?o14, ?o15, ?o16, ?o17, ?o18, ?o19, ?o20, trivial⟩
       case o0 => intro x; rw [if_pos (by rfl)]; intro W hW hj; go_simp; first | exact Below.refl _ _ | exact ⟨rfl, hW, Below.refl _ _⟩ | exact ⟨hW, Below.refl _ _⟩
       case o1 => intro x; rw [if_pos (by rfl)]; intro W hW hj; obtain ⟨_, _, _, _, _, _, _, _, v8, v9, _⟩ := HG.out _ hW; go_simp; first | exact Below.refl _ _ | exact ⟨rfl, hW, Below.refl _ _⟩ | exact ⟨hW, Below.refl _ _⟩
       case o2 => intro x; rw [if_pos (by rfl)]; intro W hW hj; go_simp; first | exact Below.refl _ _ | exact ⟨rfl, hW, Below.refl _ _⟩ | exact ⟨hW, Below.refl _ _⟩
       case o3 => intro x; rw [if_pos (by rfl)]; intro W hW hj; go_simp; first | exact Below.refl _ _ | exact ⟨rfl, hW, Below.refl _ _⟩ | exact ⟨hW, Below.refl _ _⟩
       case o4 => intro x; rw [if_pos (by rfl)]; intro W hW hj; go_simp; go_at_call 36; refine (folds_s W1 _ hW).mono ?_; rintro e w7 ⟨g7, rfl, hg7, hp7, hk7⟩; exact ⟨⟨g7, rfl, hg7⟩, hp7, hk7⟩
       case o5 => intro x; rw [if_pos (by rfl)]; intro W hW hj; go_simp; first | exact Below.refl _ _ | exact ⟨rfl, hW, Below.refl _ _⟩ | exact ⟨hW, Below.refl _ _⟩
       case o6 => intro x; rw [if_pos (by rfl)]; intro W hW hj; obtain ⟨_, _, _, _, _, _, _, _, v8, v9, _⟩ := HG.out _ hW; go_simp; first | exact Below.refl _ _ | exact ⟨rfl, hW, Below.refl _ _⟩ | exact ⟨hW, Below.refl _ _⟩
       case o7 => intro x; rw [if_pos (by rfl)]; intro W hW hj; obtain ⟨g7, hx, hg7⟩ := hj 4 rfl ⟨⟨4, .data⟩, by simp, rfl, rfl⟩; go_simp; go_at_call 35; refine (has_s fo _ W1 HCF.out g7 _ hg7 hW).mono ?_; rintro e w8 ⟨rfl, hp8, hk8⟩; exact ⟨rfl, hp8, hk8⟩
       case o8 => intro x; rw [if_pos (by rfl)]; intro W hW hj; go_simp; first | exact Below.refl _ _ | exact ⟨rfl, hW, Below.refl _ _⟩ | exact ⟨hW, Below.refl _ _⟩
       case o9 => intro x; rw [if_pos (by rfl)]; intro W hW hj; go_simp; first | exact Below.refl _ _ | exact ⟨rfl, hW, Below.refl _ _⟩ | exact ⟨hW, Below.refl _ _⟩
       case o10 => intro x; rw [if_pos (by rfl)]; intro W hW hj; go_simp; first | exact Below.refl _ _ | exact ⟨rfl, hW, Below.refl _ _⟩ | exact ⟨hW, Below.refl _ _⟩
       case o11 => intro x; rw [if_pos (by rfl)]; intro W hW hj; go_simp; first | exact Below.refl _ _ | exact ⟨rfl, hW, Below.refl _ _⟩ | exact ⟨hW, Below.refl _ _⟩
       case o12 => intro x; rw [if_pos (by rfl)]; intro W hW hj; obtain ⟨_, _, _, _, _, _, _, _, v8, v9, _⟩ := HG.out _ hW; go_simp; first | exact Below.refl _ _ | exact ⟨rfl, hW, Below.refl _ _⟩ | exact ⟨hW, Below.refl _ _⟩
       case o13 => intro x; rw [if_pos (by rfl)]; intro W hW hj; go_simp; first | exact Below.refl _ _ | exact ⟨rfl, hW, Below.refl _ _⟩ | exact ⟨hW, Below.refl _ _⟩
       case o14 => intro x; rw [if_pos (by rfl)]; intro W hW hj; go_simp; first | exact Below.refl _ _ | exact ⟨rfl, hW, Below.refl _ _⟩ | exact ⟨hW, Below.refl _ _⟩
       case o15 => intro x; rw [if_pos (by rfl)]; intro W hW hj; obtain ⟨_, _, _, _, _, _, _, _, v8, v9, _⟩ := HG.out _ hW; go_simp; first | exact Below.refl _ _ | exact ⟨rfl, hW, Below.refl _ _⟩ | exact ⟨hW, Below.refl _ _⟩
       case o16 => intro x; rw [if_pos (by rfl)]; intro W hW hj; go_simp; first | exact Below.refl _ _ | exact ⟨rfl, hW, Below.refl _ _⟩ | exact ⟨hW, Below.refl _ _⟩
       case o17 => intro x; rw [if_pos (by rfl)]; intro W hW hj; go_simp; first | exact Below.refl _ _ | exact ⟨rfl, hW, Below.refl _ _⟩ | exact ⟨hW, Below.refl _ _⟩
       case o18 => intro x; rw [if_pos (by rfl)]; intro W hW hj; go_simp; first | exact Below.refl _ _ | exact ⟨rfl, hW, Below.refl _ _⟩ | exact ⟨hW, Below.refl _ _⟩
       case o19 => intro x; rw [if_pos (by rfl)]; intro W hW hj; go_simp; first | exact Below.refl _ _ | exact ⟨rfl, hW, Below.refl _ _⟩ | exact ⟨hW, Below.refl _ _⟩
       case o20 => intro x; rw [if_pos (by rfl)]; intro W hW hj; go_simp; first | exact Below.refl _ _ | exact ⟨rfl, hW, Below.refl _ _⟩ | exact ⟨hW, Below.refl _ _⟩
      case hdone =>
       intro x w9 hw9 hx
       go_wp2_with fail
       go_meet
       exact ⟨by rw [HE2.out, HW2'.out]; rfl, hw9⟩
     ·
      have x8 : ((m8 : Int) == 0) = false := by rw [beq_eq_false_iff_ne]; omega
      have x8' : (m8 == 0) = false := by rw [beq_eq_false_iff_ne]; omega
      have HD8 : Hid (decide (m8 = 0) = false) := Lib.hid (by simp; omega)
      clear z8
      refine' wp_region_full (by kernel_rfl) (by kernel_rfl) (fun x => [(43, .pointer (some ⟨w.heap.size, 9, none⟩)), (44, .string fo), (45, .bool true), (46, .bool true), (47, x 4), (48, .pointer (some ⟨w.heap.size, 9, none⟩)), (49, .string fo), (50, .bool true), (51, .bool false), (52, .bool false), (53, .bool false), (54, .pointer (some ⟨w.heap.size, 9, none⟩)), (55, .string fo), (56, .bool false), (57, .pointer (some ⟨w.heap.size, 8, none⟩)), (58, .slice A8 m8 c8), (59, .int .i64 (m8 : Nat)), (60, .bool false), (61, .bool true), (62, .bool true), (42, .bool true)]) ?hk _ ?hF (fun i => i == 4) ?hlate (fun W => Below W1.heap.size W1 W) (fun W W' => Below W.heap.size W W') (fun i v W => ∃ g, v = .slice (some ⟨g, 0, none⟩) 4 4 ∧ W.heap[g]? = some foldsO) ?hT ?hS ?hops ?hdone
      case hF => intro x; simp only [putL, List.foldl]; go_simp; rfl
      case hk => intro x p hp; simp only [List.mem_cons, List.not_mem_nil, or_false] at hp; (rcases hp with rfl | rfl | rfl | rfl | rfl | rfl | rfl | rfl | rfl | rfl | rfl | rfl | rfl | rfl | rfl | rfl | rfl | rfl | rfl | rfl | rfl <;> rfl)
      case hlate =>
       intro x i v o hl ho
       simp only [Bool.or_eq_true, beq_iff_eq] at hl
       obtain rfl : i = 4 := hl; obtain rfl := Option.some.inj ho; rfl
      case hT => rintro j v W W' hk ⟨g, h1, h2⟩; exact ⟨g, h1, (hk.block g (Array.getElem?_eq_some_iff.1 h2).1).trans h2⟩
      case hS => exact below_drew' hpc
      case hops =>
       refine ⟨?o0, ?o1, ?o2, ?o3, ?o4, ?o5, ?o6, ?o7, ?o8, ?o9, ?o10, ?o11, ?o12, ?o13, ?o14, ?o15, ?o16, ?o17, ?o18, ?o19, ?o20, trivial⟩
       case o0 => intro x; rw [if_pos (by rfl)]; intro W hW hj; go_simp; first | exact Below.refl _ _ | exact ⟨rfl, hW, Below.refl _ _⟩ | exact ⟨hW, Below.refl _ _⟩
       case o1 => intro x; rw [if_pos (by rfl)]; intro W hW hj; obtain ⟨_, _, _, _, _, _, _, _, v8, v9, _⟩ := HG.out _ hW; go_simp; first | exact Below.refl _ _ | exact ⟨rfl, hW, Below.refl _ _⟩ | exact ⟨hW, Below.refl _ _⟩
       case o2 => intro x; rw [if_pos (by rfl)]; intro W hW hj; go_simp; first | exact Below.refl _ _ | exact ⟨rfl, hW, Below.refl _ _⟩ | exact ⟨hW, Below.refl _ _⟩
       case o3 => intro x; rw [if_pos (by rfl)]; intro W hW hj; go_simp; first | exact Below.refl _ _ | exact ⟨rfl, hW, Below.refl _ _⟩ | exact ⟨hW, Below.refl _ _⟩
       case o4 => intro x; rw [if_pos (by rfl)]; intro W hW hj; go_simp; go_at_call 36; refine (folds_s W1 _ hW).mono ?_; rintro e w7 ⟨g7, rfl, hg7, hp7, hk7⟩; exact ⟨⟨g7, rfl, hg7⟩, hp7, hk7⟩
       case o5 => intro x; rw [if_pos (by rfl)]; intro W hW hj; go_simp; first | exact Below.refl _ _ | exact ⟨rfl, hW, Below.refl _ _⟩ | exact ⟨hW, Below.refl _ _⟩
       case o6 => intro x; rw [if_pos (by rfl)]; intro W hW hj; obtain ⟨_, _, _, _, _, _, _, _, v8, v9, _⟩ := HG.out _ hW; go_simp; first | exact Below.refl _ _ | exact ⟨rfl, hW, Below.refl _ _⟩ | exact ⟨hW, Below.refl _ _⟩
       case o7 => intro x; rw [if_pos (by rfl)]; intro W hW hj; obtain ⟨g7, hx, hg7⟩ := hj 4 rfl ⟨⟨4, .data⟩, by simp, rfl, rfl⟩; go_simp; go_at_call 35; refine (has_s fo _ W1 HCF.out g7 _ hg7 hW).mono ?_; rintro e w8 ⟨rfl, hp8, hk8⟩; exact ⟨rfl, hp8, hk8⟩
       case o8 => intro x; rw [if_pos (by rfl)]; intro W hW hj; go_simp; first | exact Below.refl _ _ | exact ⟨rfl, hW, Below.refl _ _⟩ | exact ⟨hW, Below.refl _ _⟩
       case o9 => intro x; rw [if_pos (by rfl)]; intro W hW hj; go_simp; first | exact Below.refl _ _ | exact ⟨rfl, hW, Below.refl _ _⟩ | exact ⟨hW, Below.refl _ _⟩
       case o10 => intro x; rw [if_pos (by rfl)]; intro W hW hj; go_simp; first | exact Below.refl _ _ | exact ⟨rfl, hW, Below.refl _ _⟩ | exact ⟨hW, Below.refl _ _⟩
       case o11 => intro x; rw [if_pos (by rfl)]; intro W hW hj; go_simp; first | exact Below.refl _ _ | exact ⟨rfl, hW, Below.refl _ _⟩ | exact ⟨hW, Below.refl _ _⟩
       case o12 => intro x; rw [if_pos (by rfl)]; intro W hW hj; obtain ⟨_, _, _, _, _, _, _, _, v8, v9, _⟩ := HG.out _ hW; go_simp; first | exact Below.refl _ _ | exact ⟨rfl, hW, Below.refl _ _⟩ | exact ⟨hW, Below.refl _ _⟩
       case o13 => intro x; rw [if_pos (by rfl)]; intro W hW hj; go_simp; first | exact Below.refl _ _ | exact ⟨rfl, hW, Below.refl _ _⟩ | exact ⟨hW, Below.refl _ _⟩
       case o14 => intro x; rw [if_pos (by rfl)]; intro W hW hj; go_simp; first | exact Below.refl _ _ | exact ⟨rfl, hW, Below.refl _ _⟩ | exact ⟨hW, Below.refl _ _⟩
       case o15 => intro x; rw [if_pos (by rfl)]; intro W hW hj; obtain ⟨_, _, _, _, _, _, _, _, v8, v9, _⟩ := HG.out _ hW; go_simp; first | exact Below.refl _ _ | exact ⟨rfl, hW, Below.refl _ _⟩ | exact ⟨hW, Below.refl _ _⟩
       case o16 => intro x; rw [if_pos (by rfl)]; intro W hW hj; go_simp; first | exact Below.refl _ _ | exact ⟨rfl, hW, Below.refl _ _⟩ | exact ⟨hW, Below.refl _ _⟩
       case o17 => intro x; rw [if_pos (by rfl)]; intro W hW hj; go_simp; first | exact Below.refl _ _ | exact ⟨rfl, hW, Below.refl _ _⟩ | exact ⟨hW, Below.refl _ _⟩
       case o18 => intro x; rw [if_pos (by rfl)]; intro W hW hj; go_simp; first | exact Below.refl _ _ | exact ⟨rfl, hW, Below.refl _ _⟩ | exact ⟨hW, Below.refl _ _⟩
       case o19 => intro x; rw [if_pos (by rfl)]; intro W hW hj; go_simp; first | exact Below.refl _ _ | exact ⟨rfl, hW, Below.refl _ _⟩ | exact ⟨hW, Below.refl _ _⟩
       case o20 => intro x; rw [if_pos (by rfl)]; intro W hW hj; go_simp; first | exact Below.refl _ _ | exact ⟨rfl, hW, Below.refl _ _⟩ | exact ⟨hW, Below.refl _ _⟩
      case hdone =>
       intro x w9 hw9 hx
       go_wp2_with fail
       go_meet
       exact ⟨by rw [HE2.out, HW2'.out, HD8.out]; rfl, hw9⟩
  case rest =>
   obtain ⟨rfl, hpd⟩ := hcut
   cases e2
   case true =>
    go_wp2_with fail
    go_ret
    exact ⟨by rw [HRD.out, ← HE1.out, ← HE2.out]; rfl, HB1.out.trans (hpd.mono HB1.out.size)⟩
   case false =>
   obtain ⟨_, _, _, _, _, _, v6, v7, v8, v9, _⟩ := HG.out _ hpd
   obtain ⟨y0, hy0⟩ : ∃ y, y = q7 0 := ⟨_, rfl⟩
   obtain ⟨y1, hy1⟩ : ∃ y, y = q7 1 := ⟨_, rfl⟩
   obtain ⟨y2, hy2⟩ : ∃ y, y = q7 2 := ⟨_, rfl⟩
   obtain ⟨y3, hy3⟩ : ∃ y, y = q7 3 := ⟨_, rfl⟩
   obtain ⟨y4, hy4⟩ : ∃ y, y = q7 4 := ⟨_, rfl⟩
   obtain ⟨z0, hz0⟩ : ∃ y, y = q6 0 := ⟨_, rfl⟩
   obtain ⟨z1, hz1⟩ : ∃ y, y = q6 1 := ⟨_, rfl⟩
   obtain ⟨z2, hz2⟩ : ∃ y, y = q6 2 := ⟨_, rfl⟩
   obtain ⟨z3, hz3⟩ : ∃ y, y = q6 3 := ⟨_, rfl⟩
   obtain ⟨z4, hz4⟩ : ∃ y, y = q6 4 := ⟨_, rfl⟩
   have HW3' : Hid (wrong3 r6 r7 l6 l7 l8 = (z2 || (y1 || y2 || y3 || y4) || e7 || e8)) := Lib.hid (by rw [HW3.out, hz2, hy1, hy2, hy3, hy4])
   rw [← hy0, ← hy1, ← hy2, ← hy3, ← hy4] at HN7
   rw [← hz0, ← hz1, ← hz2, ← hz3, ← hz4] at HN6
   clear hy0 hy1 hy2 hy3 hy4 hz0 hz1 hz2 hz3 hz4 HW3
   obtain ⟨e3, he3⟩ : ∃ b, b = (z2 || (y1 || y2 || y3 || y4) || e7 || e8) := ⟨_, rfl⟩
   rw [← he3] at HW3'
   have HE3 := Lib.hid he3
   clear he3
   go_upto_region 10 with (first
    | (go_at_call 37; ((with_reducible refine (HN7.out _ hpd).mono ?_); rintro e w9 ⟨rfl, hp9, _⟩)))
   obtain ⟨W10, hW10⟩ : ∃ W10, W10 = w9.alloc (.cells #[.bool y0, .bool y1, .bool y2, .bool y3, .bool y4] 72) := ⟨_, rfl⟩
   have hg10 : W10.heap[w9.heap.size]? = some (.cells #[.bool y0, .bool y1, .bool y2, .bool y3, .bool y4] 72 (0, 0)) := by rw [hW10]; exact heap_alloc_new w9 _
   have hp10 : Below W1.heap.size W1 W10 := by rw [hW10]; exact hp9.alloc hp9.size _
   have hlt10 := (Array.getElem?_eq_some_iff.1 hg10).1
   have HY : Hid (∀ W, Below W10.heap.size W10 W → W.cell? ⟨w9.heap.size, 0, none⟩ = some (.bool y0) ∧ W.cell? ⟨w9.heap.size, 1, none⟩ = some (.bool y1) ∧ W.cell? ⟨w9.heap.size, 2, none⟩ = some (.bool y2) ∧ W.cell? ⟨w9.heap.size, 3, none⟩ = some (.bool y3) ∧ W.cell? ⟨w9.heap.size, 4, none⟩ = some (.bool y4)) := Lib.hid fun W hW =>
    qam ((hW.block _ hlt10).trans hg10)
   have HN6' := Lib.hid (HN6.out W10 hp10)
   rw [← hW10]
   clear hW10 hg10 v6 v7 v8 v9
   obtain ⟨_, _, _, _, _, _, v6, v7, v8, v9, _⟩ := HG.out _ hp10
   go_cut [66] (fun s66 wf => s66 = .bool e3 ∧ Below W1.heap.size W1 wf)
   case first =>
    cases z2
    case true =>
     go_wp2_with (first | (with_reducible refine wpList_val (o := ⟨some 70, _, _, _, _, _⟩) (v := .bool true) rfl (by kernel_rfl) ?_) | (go_at_call 37; ((with_reducible refine HN6'.out.mono ?_); rintro e w11 ⟨rfl, hp11, hq11⟩; obtain ⟨a0, a1, a2, a3, a4⟩ := HY.out _ hq11; obtain ⟨_, _, _, _, _, _, s6, s7, s8, s9, _⟩ := HG.out _ hp11)))
     go_meet
     exact ⟨by rw [HE3.out]; rfl, hp11⟩
    case false =>
    cases y1
    case true =>
     go_wp2_with (first | (with_reducible refine wpList_val (o := ⟨some 70, _, _, _, _, _⟩) (v := .bool false) rfl (by kernel_rfl) ?_) | (go_at_call 37; ((with_reducible refine HN6'.out.mono ?_); rintro e w11 ⟨rfl, hp11, hq11⟩; obtain ⟨a0, a1, a2, a3, a4⟩ := HY.out _ hq11; obtain ⟨_, _, _, _, _, _, s6, s7, s8, s9, _⟩ := HG.out _ hp11)))
     go_meet
     exact ⟨by rw [HE3.out]; rfl, hp11⟩
    case false =>
    cases y2
    case true =>
     go_wp2_with (first | (with_reducible refine wpList_val (o := ⟨some 70, _, _, _, _, _⟩) (v := .bool false) rfl (by kernel_rfl) ?_) | (go_at_call 37; ((with_reducible refine HN6'.out.mono ?_); rintro e w11 ⟨rfl, hp11, hq11⟩; obtain ⟨a0, a1, a2, a3, a4⟩ := HY.out _ hq11; obtain ⟨_, _, _, _, _, _, s6, s7, s8, s9, _⟩ := HG.out _ hp11)))
     go_meet
     exact ⟨by rw [HE3.out]; rfl, hp11⟩
    case false =>
    cases y3
    case true =>
     go_wp2_with (first | (with_reducible refine wpList_val (o := ⟨some 70, _, _, _, _, _⟩) (v := .bool false) rfl (by kernel_rfl) ?_) | (go_at_call 37; ((with_reducible refine HN6'.out.mono ?_); rintro e w11 ⟨rfl, hp11, hq11⟩; obtain ⟨a0, a1, a2, a3, a4⟩ := HY.out _ hq11; obtain ⟨_, _, _, _, _, _, s6, s7, s8, s9, _⟩ := HG.out _ hp11)))
     go_meet
     exact ⟨by rw [HE3.out]; rfl, hp11⟩
    case false =>
    cases y4
    case true =>
     go_wp2_with (first | (with_reducible refine wpList_val (o := ⟨some 70, _, _, _, _, _⟩) (v := .bool false) rfl (by kernel_rfl) ?_) | (go_at_call 37; ((with_reducible refine HN6'.out.mono ?_); rintro e w11 ⟨rfl, hp11, hq11⟩; obtain ⟨a0, a1, a2, a3, a4⟩ := HY.out _ hq11; obtain ⟨_, _, _, _, _, _, s6, s7, s8, s9, _⟩ := HG.out _ hp11)))
     go_meet
     exact ⟨by rw [HE3.out]; rfl, hp11⟩
    case false =>
    cases e7
    case true =>
     go_wp2_with (first | (with_reducible refine wpList_val (o := ⟨some 70, _, _, _, _, _⟩) (v := .bool false) rfl (by kernel_rfl) ?_) | (go_at_call 37; ((with_reducible refine HN6'.out.mono ?_); rintro e w11 ⟨rfl, hp11, hq11⟩; obtain ⟨a0, a1, a2, a3, a4⟩ := HY.out _ hq11; obtain ⟨_, _, _, _, _, _, s6, s7, s8, s9, _⟩ := HG.out _ hp11)) | (go_at_call 38; ((with_reducible refine (HE7.out _ (by assumption)).mono ?_); rintro e w12 ⟨rfl, hp12⟩; obtain ⟨_, _, _, _, _, _, r6', r7', r8', r9', _⟩ := HG.out _ hp12)))
     go_meet
     exact ⟨by rw [HE3.out]; rfl, hp12⟩
    case false =>
     cases e8 <;>
     ·
      go_wp2_with (first | (with_reducible refine wpList_val (o := ⟨some 70, _, _, _, _, _⟩) (v := .bool false) rfl (by kernel_rfl) ?_) | (go_at_call 37; ((with_reducible refine HN6'.out.mono ?_); rintro e w11 ⟨rfl, hp11, hq11⟩; obtain ⟨a0, a1, a2, a3, a4⟩ := HY.out _ hq11; obtain ⟨_, _, _, _, _, _, s6, s7, s8, s9, _⟩ := HG.out _ hp11)) | (go_at_call 38; ((with_reducible refine (HE7.out _ (by assumption)).mono ?_); rintro e w12 ⟨rfl, hp12⟩; obtain ⟨_, _, _, _, _, _, r6', r7', r8', r9', _⟩ := HG.out _ hp12)) | (go_at_call 38; ((with_reducible refine (HE8.out _ (by assumption)).mono ?_); rintro e w13 ⟨rfl, hp13⟩)))
      go_meet
      exact ⟨by rw [HE3.out]; rfl, hp13⟩
   case rest =>
    obtain ⟨rfl, hpf⟩ := hcut
    cases e3
    case true =>
     go_wp2_with fail
     go_ret
     exact ⟨by rw [HRD.out, ← HE1.out, ← HE2.out, HW3'.out]; rfl, HB1.out.trans (hpf.mono HB1.out.size)⟩
    case false =>
    obtain ⟨_, _, _, _, _, _, t6, t7, t8, t9, t10⟩ := HG.out _ hpf
    cases cb
    case false =>
     go_wp2_with fail
     go_ret
     exact ⟨by rw [HRD.out, ← HE1.out, ← HE2.out, HW3'.out]; rfl, HB1.out.trans (hpf.mono HB1.out.size)⟩
    case true =>
     by_cases hfo : fo.size = 0
     ·
      obtain rfl : fo = ⟨#[]⟩ := ByteArray.size_eq_zero_iff.1 hfo
      clear hfo
      go_wp2_with fail
      go_ret
      exact ⟨by rw [HRD.out, ← HE1.out, ← HE2.out, HW3'.out]; simp [wrong4], HB1.out.trans (hpf.mono HB1.out.size)⟩
     ·
      have u1 : ¬ fo.toList = [] := fun e => hfo (by rw [ByteArray.toList_eq] at e; have := congrArg List.length e; simpa using this)
      have u2 : fo.toList.isEmpty = false := by simpa using u1
      have HU2 := Lib.hid u2
      clear hfo
      go_wp2_with fail
      go_ret
      exact ⟨by rw [HRD.out, ← HE1.out, ← HE2.out, HW3'.out]; simp [wrong4, HU2.out], HB1.out.trans (hpf.mono HB1.out.size)⟩
end Go.Proofs.YtejbpnhondpnfaaGreat
namespace Go.Proofs.YtejbpnhondpnfaaGreat.PJob
open Go.RowKit Go.Proofs.YtejbpnhondpnfaaGreatW.PrintWords Go.Proofs.YtejbpnhondpnfaaGreatW.PrintLast Go.Proofs.YtejbpnhondpnfaaGreatW.PrintMore
attribute [local go_sem] qaz qbe
def toNd (x : S114) : Nd := ⟨x.f0, x.f1.f0, x.f1.f1, x.f1.f2, x.f1.f3.f0, x.f1.f3.f1⟩
theorem ndsAt_of {w : World} {A : Option Addr} {l : List S114} (h : Kd.C k114 w A l.length l) : NdsAt w A (l.map toNd) := by
  intro j z hz
  obtain ⟨x, hx, rfl⟩ : ∃ x, l[j]? = some x ∧ toNd x = z := by simpa using hz
  obtain ⟨_, _, hx0⟩ := h
  have hj := (List.getElem?_eq_some_iff.1 hx).1
  obtain ⟨ad, rfl, hc⟩ := hx0 (by omega)
  obtain ⟨c, _, hk, hi⟩ := hc j x hx
  obtain rfl := k114_open hk
  have hs : k114.sz = 6 := rfl
  rw [hs] at hi
  obtain ⟨b, off, spot⟩ := ad
  have c0 := hi 0 _ rfl
  have hspot : spot = none := by
    obtain ⟨c', _, hk', hi'⟩ := hc 0 _ (List.getElem?_eq_getElem (by omega))
    obtain rfl := k114_open hk'
    have c1 := hi' 0 _ rfl
    have := World.cell?_spot c1
    simpa [Addr.add] using this
  subst hspot
  have e : ∀ i, ((⟨b, off, none⟩ : Addr).add (j * 6 + i)) = ⟨b, off + j * 6 + i, none⟩ := fun i => by rw [Addr.add_lit]; simp [Nat.add_assoc]
  refine ⟨b, off, rfl, ?_, ?_, ?_, ?_, ?_, ?_⟩
  · have := hi 0 _ rfl; rw [e] at this; exact this
  · have := hi 1 _ rfl; rw [e] at this; exact this
  · have := hi 2 _ rfl; rw [e] at this; exact this
  · have := hi 3 _ rfl; rw [e] at this; exact this
  · have := hi 4 _ rfl; rw [e] at this; exact this
  · have := hi 5 _ rfl; rw [e] at this; exact this
theorem nd_right (k n : Int) (t : ByteArray) (x y : Int) : ran.f k n t x y = some (qbf ⟨k, n, t, x, y⟩) := rfl
theorem nd_kinds_at : ∀ i : Fin 28, (rd_T196 (rbf.f.getD []) (i.val : Int)).f1 = ((partsL.getD i.val 0 : Nat) : Int) := by decide
theorem Parts_yes (op : Int) (h1 : 2 ≤ op) (h2 : op ≤ 29) : ∃ wd, rat.f op = some (wd, ((partsL.getD (op - 2).toNat 0 : Nat) : Int), true) := by
  obtain ⟨i, rfl⟩ : ∃ i : Nat, op = (i : Int) + 2 := ⟨(op - 2).toNat, by omega⟩
  have hi : i < 28 := by omega
  have hw : wrap64 (wrap64 ((i : Int) + 2 - 1) - 1) = (i : Int) := by unfold wrap64; omega
  unfold rat.f
  rw [if_neg (by omega), if_neg (by omega), hw]
  have := nd_kinds_at ⟨i, hi⟩
  simp only at this
  rw [show ((i : Int) + 2 - 2).toNat = i by omega, ← this]
  unfold rbf.f
  simp only [Option.bind_some, Option.getD_some]
  rw [if_pos (by omega), if_pos (by simp; omega)]
  exact ⟨_, rfl⟩
theorem Parts_no (op : Int) (h : op < 2 ∨ 29 < op) : rat.f op = some (⟨#[]⟩, 0, false) := by
  unfold rat.f
  by_cases h1 : op ≤ 1
  · rw [if_pos h1]
  · rw [if_neg h1, if_pos (by omega)]
theorem nd_alone (z : S114) : rap.f z.f0 z.f1.f0 z.f1.f1 z.f1.f2 z.f1.f3.f0 z.f1.f3.f1 = some (aloneB (toNd z)) := by
  obtain ⟨op, ⟨k, n, t, ⟨x, y⟩⟩⟩ := z
  unfold rap.f aloneB toNd Nd.val
  simp only [nd_right, rbi.f, Option.bind_some]
  by_cases h1 : op = 1
  · rw [if_pos h1, if_pos h1]
    by_cases h2 : k = 0
    · rw [if_pos h2]
      cases qbf ⟨k, n, t, x, y⟩ with
      | true =>
        by_cases h3 : n ≥ 0
        · rw [if_pos rfl, if_pos h3]
          simp [h2]
          omega
        · rw [if_pos rfl, if_neg h3]
          simp; omega
      | false => simp
    · rw [if_neg h2]; simp [h2]
  · rw [if_neg h1, if_neg h1]
    by_cases h2 : op = 0
    · rw [if_pos h2]; simp [h2]
    · rw [if_neg h2]; simp [h2]
theorem nd_parts (z : S114) : rbj.f z.f0 z.f1.f0 z.f1.f1 z.f1.f2 z.f1.f3.f0 z.f1.f3.f1 = some (match qba (toNd z) with | some k => ((k : Int), true) | none => ((if 2 ≤ z.f0 ∧ z.f0 ≤ 29 then ((partsL.getD (z.f0 - 2).toNat 0 : Nat) : Int) else 0), false)) := by
  unfold rbj.f qba
  have ha := nd_alone z
  by_cases ho : 2 ≤ z.f0 ∧ z.f0 ≤ 29
  · obtain ⟨wd, hP⟩ := Parts_yes z.f0 ho.1 ho.2
    have ho' : 2 ≤ (toNd z).op ∧ (toNd z).op ≤ 29 := ho
    rw [hP, if_pos ho', if_pos ho]
    simp only [Option.bind_some, if_true]
    have hz : (z.f1.f0 == 0 && (z.f1.f1 == 0 && (z.f1.f2.toList == ([] : List UInt8) && ((z.f1.f3.f0 == 0 && (z.f1.f3.f1 == 0)))))) = (toNd z).val.isZero := rfl
    rw [hz]
    cases (toNd z).val.isZero <;> rfl
  · have ho' : ¬ (2 ≤ (toNd z).op ∧ (toNd z).op ≤ 29) := ho
    rw [Parts_no z.f0 (by omega), if_neg ho', if_neg ho]
    simp only [Option.bind_some, Bool.false_eq_true, if_false, ha]
    cases aloneB (toNd z) <;> rfl
def encS (op : List Nat) : List Int := op.reverse.map Int.ofNat
theorem encS_len (op : List Nat) : (encS op).length = op.length := by simp [encS]
theorem encS_cons (t : Nat) (b : List Nat) : encS (t :: b) = encS b ++ [(t : Int)] := by simp [encS]
theorem nd_rd_last (xs : List Int) (v : Int) : rd (xs ++ [v]) (xs.length : Int) = v := by simp [rd]
theorem nd_w1 (n : Nat) (h : n ≤ 1000000) : wrap64 (((n + 1 : Nat) : Int) - 1) = (n : Int) := by unfold wrap64; omega
theorem nd_l1 (l : List S114) (n i : Int) (r : Bool) : ∀ (op : List Nat), op.length ≤ 1000 → Ev (fun k => rag.l0 k (encS (pops op)) l n (wrap64 (i + 1))) r → Ev (fun k => rag.l1 k (encS op) l n i) r
  | [], _, h => by
    refine Ev.step (fun k => ?_) h
    simp only [rag.l1]
    rw [if_neg (by simp [encS])]
    rfl
  | 0 :: b, hl, h => by
    have ih := nd_l1 l n i r b (by simp at hl; omega) h
    refine Ev.step (fun k => ?_) ih
    simp only [rag.l1]
    have hlen : (encS (0 :: b)).length = b.length + 1 := encS_len _
    have hw := nd_w1 b.length (by simp at hl; omega)
    rw [hlen, hw]
    have hr : rd (encS (0 :: b)) (b.length : Int) = 0 := by rw [encS_cons, ← encS_len b]; exact nd_rd_last _ _
    rw [if_pos (by omega), if_pos (by omega), if_pos (by omega), if_pos hr, if_pos (by omega)]
    congr 1
    rw [encS_cons, Int.toNat_natCast, ← encS_len b, List.take_left]
  | (t + 1) :: b, hl, h => by
    refine Ev.step (fun k => ?_) h
    simp only [rag.l1]
    have hlen : (encS ((t + 1) :: b)).length = b.length + 1 := encS_len _
    have hw := nd_w1 b.length (by simp at hl; omega)
    rw [hlen, hw]
    have hr : rd (encS ((t + 1) :: b)) (b.length : Int) = ((t + 1 : Nat) : Int) := by rw [encS_cons, ← encS_len b]; exact nd_rd_last _ _
    rw [if_pos (by omega), if_pos (by omega), if_pos (by omega), if_neg (by rw [hr]; omega)]
    rfl
theorem nd_pops : ∀ (op : List Nat), (∀ t ∈ op, t ≤ 3) → (∀ t ∈ pops op, t ≤ 3) ∧ (pops op).length ≤ op.length ∧ ∀ t b, pops op = t :: b → 1 ≤ t
  | [], h => ⟨h, Nat.le_refl _, fun _ _ e => by cases e⟩
  | 0 :: b, h => by
    obtain ⟨h1, h2, h3⟩ := nd_pops b (fun t ht => h t (List.mem_cons_of_mem _ ht))
    exact ⟨h1, by simp [pops]; omega, h3⟩
  | (t + 1) :: b, h => ⟨h, Nat.le_refl _, fun t' b' e => by unfold pops at e; injection e with e _; omega⟩
theorem nd_le3 {z : Nd} {k : Nat} (h : qba z = some k) : k ≤ 3 := by
  unfold qba at h
  split at h
  · split at h
    · injection h with h
      have : ∀ j : Fin 28, partsL.getD j.val 0 ≤ 3 := by decide
      have := this ⟨(z.op - 2).toNat, by omega⟩
      simp only at this
      omega
    · cases h
  · split at h
    · injection h with h; omega
    · cases h
theorem nd_l0 (l : List S114) (hl : l.length ≤ 1000000) : ∀ (m i : Nat) (op : List Nat), i + m = l.length → op.length ≤ 26 → (∀ t ∈ op, t ≤ 3) → (∀ t b, op = t :: b → 1 ≤ t) →
    Ev (fun k => rag.l0 k (encS op) l (l.length : Int) (i : Int)) (stackRun op ((l.drop i).map fun z => qba (toNd z)))
  | 0, i, op, hi, h26, h3, h1 => by
    refine Ev.step (f := fun _ => some (stackRun op ((l.drop i).map fun z => qba (toNd z)))) (fun k => ?_) (Ev.now _)
    simp only [rag.l0]
    rw [if_neg (by omega), List.drop_eq_nil_of_le (by omega)]
    have : stackRun op (([] : List S114).map fun z => qba (toNd z)) = op.isEmpty := by cases op <;> rfl
    rw [this, encS_len]
    cases op <;> simp <;> omega
  | m + 1, i, op, hi, h26, h3, h1 => by
    have hlt : i < l.length := by omega
    have hd : l.drop i = l[i] :: l.drop (i + 1) := List.drop_eq_getElem_cons hlt
    have hrd : qaq l (i : Int) = l[i] := by simp [qaq, hlt]
    have hw : wrap64 ((i : Int) + 1) = ((i + 1 : Nat) : Int) := by unfold wrap64; omega
    rw [hd, List.map_cons]
    obtain ⟨z, hz⟩ : ∃ z, z = l[i] := ⟨_, rfl⟩
    rw [← hz] at hrd ⊢
    have hp := nd_parts z
    cases hk : qba (toNd z) with
    | none =>
      rw [hk] at hp
      have hs : stackRun op (none :: (l.drop (i + 1)).map fun z => qba (toNd z)) = false := by cases op <;> rfl
      rw [hs]
      refine Ev.step (f := fun k => rag.j2 k (encS op) (if 2 ≤ z.f0 ∧ z.f0 ≤ 29 then ((partsL.getD (z.f0 - 2).toNat 0 : Nat) : Int) else 0) l (l.length : Int) (i : Int) true) (fun k => ?_) (Ev.step (f := fun _ => some false) (fun k => ?_) (Ev.now _))
      · simp only [rag.l0]
        rw [if_pos (by omega), if_pos (by omega), if_pos (by omega), hrd, hp]
        simp only [Option.bind_some, Bool.false_eq_true, if_false]
      · simp only [rag.j2, if_true]
    | some k0 =>
      rw [hk] at hp
      have hk3 := nd_le3 hk
      by_cases hb : op = [] ∨ 24 < op.length - 1
      · have hs : stackRun op (some k0 :: (l.drop (i + 1)).map fun z => qba (toNd z)) = false := by
          show (if op = [] ∨ 24 < op.length - 1 then false else _) = false
          rw [if_pos hb]
        rw [hs]
        refine Ev.step (f := fun k => rag.j2 k (encS op) (k0 : Int) l (l.length : Int) (i : Int) true) (fun k => ?_) (Ev.step (f := fun _ => some false) (fun k => ?_) (Ev.now _))
        · simp only [rag.l0]
          rw [if_pos (by omega), if_pos (by omega), if_pos (by omega), hrd, hp]
          simp only [Option.bind_some, if_true, encS_len]
          by_cases h0 : op = []
          · subst h0; simp
          · have hne : op.length ≠ 0 := fun e => h0 (List.length_eq_zero_iff.1 e)
            rw [if_neg (show ¬ ((op.length : Int) = 0) by omega)]
            have hb' := hb.resolve_left h0
            have hdec : decide (wrap64 ((op.length : Int) - 1) > 24) = true := by
              have : wrap64 ((op.length : Int) - 1) = (op.length : Int) - 1 := by unfold wrap64; omega
              rw [this]; simp; omega
            rw [hdec]
        · simp only [rag.j2, if_true]
      · obtain ⟨t, b, rfl⟩ : ∃ t b, op = t :: b := by
          cases op with
          | nil => exact absurd (.inl rfl) hb
          | cons t b => exact ⟨t, b, rfl⟩
        have ht1 := h1 t b rfl
        have ht3 := h3 t List.mem_cons_self
        have hs : stackRun (t :: b) (some k0 :: (l.drop (i + 1)).map fun z => qba (toNd z)) = stackRun (pops (k0 :: (t - 1) :: b)) ((l.drop (i + 1)).map fun z => qba (toNd z)) := by
          show (if _ then false else _) = _
          rw [if_neg hb]; rfl
        rw [hs]
        have hsmall : ∀ s ∈ k0 :: (t - 1) :: b, s ≤ 3 := by
          intro s hs
          rcases List.mem_cons.1 hs with rfl | hs
          · exact hk3
          rcases List.mem_cons.1 hs with rfl | hs
          · omega
          · exact h3 s (List.mem_cons_of_mem _ hs)
        obtain ⟨p1, p2, p3⟩ := nd_pops _ hsmall
        have hlb : b.length ≤ 24 := by simp at hb; omega
        have ih := nd_l0 l hl m (i + 1) (pops (k0 :: (t - 1) :: b)) (by omega) (by simp at p2; omega) p1 p3
        rw [← hw] at ih
        have ih1 := nd_l1 l (l.length : Int) (i : Int) _ (k0 :: (t - 1) :: b) (by simp; omega) ih
        refine Ev.step (f := fun k => rag.j2 k (encS (t :: b)) (k0 : Int) l (l.length : Int) (i : Int) false) (fun k => ?_) (Ev.step (fun k => ?_) ih1)
        · simp only [rag.l0]
          rw [if_pos (by omega), if_pos (by omega), if_pos (by omega), hrd, hp]
          simp only [Option.bind_some, if_true, encS_len]
          rw [if_neg (by simp; omega)]
          have hdec : decide (wrap64 (((t :: b).length : Int) - 1) > 24) = false := by
            have : wrap64 (((t :: b).length : Int) - 1) = (b.length : Int) := by simp; unfold wrap64; omega
            rw [this]; simp; omega
          rw [hdec]
        · simp only [rag.j2]
          have hlen : (encS (t :: b)).length = b.length + 1 := encS_len _
          have hwl := nd_w1 b.length (by omega)
          rw [if_neg (by decide), hlen, hwl]
          have hr : rd (encS (t :: b)) (b.length : Int) = (t : Int) := by rw [encS_cons, ← encS_len b]; exact nd_rd_last _ _
          rw [if_pos (by omega), if_pos (by omega), hr]
          simp only [Option.bind_some]
          have hset : (encS (t :: b)).set (b.length : Int).toNat (wrap64 ((t : Int) - 1)) = encS ((t - 1) :: b) := by
            have hwt : wrap64 ((t : Int) - 1) = ((t - 1 : Nat) : Int) := by unfold wrap64; omega
            rw [encS_cons, encS_cons, Int.toNat_natCast, hwt, ← encS_len b]
            simp
          rw [hset, if_pos (by rw [encS_len]; simp; omega)]
          rw [encS_cons k0]
theorem exprR_val (l : List S114) (hl : l.length ≤ 1000000) : ∃ k, rag.f k l = some (exprR (l.map toNd)) := by
  refine Ev.rounds ?_
  unfold rag.f exprR
  rw [List.length_map]
  by_cases h0 : l.length = 0
  · refine Ev.congr (f := fun k => rag.j0 k l true) (fun k => by rw [if_pos (by omega)]) ?_
    rw [decide_eq_false (show ¬ 0 < l.length by omega)]
    exact Ev.step (f := fun _ => some false) (fun k => by simp only [rag.j0, if_true]) (Ev.now _)
  · by_cases h4 : 400 < l.length
    · refine Ev.congr (f := fun k => rag.j0 k l true) (fun k => by rw [if_neg (by omega), decide_eq_true (by omega)]) ?_
      rw [decide_eq_false (show ¬ l.length ≤ 400 by omega), Bool.and_false, Bool.false_and]
      exact Ev.step (f := fun _ => some false) (fun k => by simp only [rag.j0, if_true]) (Ev.now _)
    · refine Ev.congr (f := fun k => rag.j0 k l false) (fun k => by rw [if_neg (by omega), decide_eq_false (by omega)]) ?_
      rw [decide_eq_true (show 0 < l.length by omega), decide_eq_true (show l.length ≤ 400 by omega), Bool.true_and, Bool.true_and]
      have := nd_l0 l hl l.length 0 [1] (by omega) (by decide) (by decide) (fun t b e => by injection e with e _; omega)
      have e : ((l.map toNd).map qba) = l.map (fun z => qba (toNd z)) := by simp [Function.comp_def]
      rw [e]
      refine Ev.step (fun k => ?_) (by simpa using this)
      simp only [rag.j0, Bool.false_eq_true, if_false]
      rfl
def rbg.f (a0_0 : ByteArray) (a0_1 : Int) (a0_2 : Int) (a0_3 : Int) (a0_4 : Int) (a0_5 : Int) (l0_6 : List S114) (l0_7 : List S114) (l0_8 : List S114) (a0_9 : ByteArray) (a0_10 : Bool) : Option Int :=
  if l0_6.length ≤ 1000000 ∧ l0_7.length ≤ 1000000 ∧ l0_8.length ≤ 1000000 then some (rightJ ⟨a0_0, a0_1, a0_2, a0_3, a0_4, a0_5, a0_9, a0_10⟩ (exprR (l0_6.map toNd)) (exprR (l0_7.map toNd)) (exprR (l0_8.map toNd)) (l0_6.map toNd) (l0_7.map toNd) (l0_8.map toNd)) else none
theorem rbg.calls (a0_0 : ByteArray) (a0_1 : Int) (a0_2 : Int) (a0_3 : Int) (a0_4 : Int) (a0_5 : Int) (A0_6 : Option Addr) (c0_6 : Nat) (l0_6 : List S114) (A0_7 : Option Addr) (c0_7 : Nat) (l0_7 : List S114) (A0_8 : Option Addr) (c0_8 : Nat) (l0_8 : List S114) (a0_9 : ByteArray) (a0_10 : Bool) (r : Int) (w : World) (hr0_6 : Kd.C k114 w A0_6 l0_6.length l0_6) (hc0_6 : l0_6.length ≤ c0_6) (hr0_7 : Kd.C k114 w A0_7 l0_7.length l0_7) (hc0_7 : l0_7.length ≤ c0_7) (hr0_8 : Kd.C k114 w A0_8 l0_8.length l0_8) (hc0_8 : l0_8.length ≤ c0_8) (h : rbg.f a0_0 a0_1 a0_2 a0_3 a0_4 a0_5 l0_6 l0_7 l0_8 a0_9 a0_10 = some r) :
    Calls Tryz.prog 13 #[.agg #[.string a0_0, .int .i64 a0_1, .int .i64 a0_2, .int .i64 a0_3, .int .i64 a0_4, .int .i64 a0_5, .slice A0_6 l0_6.length c0_6, .slice A0_7 l0_7.length c0_7, .slice A0_8 l0_8.length c0_8, .string a0_9, .bool a0_10]] w fun e w' => e = .returned (.int .i64 r) ∧ Below w.heap.size w w' := by
  -- uses rag
  unfold rbg.f at h
  split at h
  · rename_i hl
    obtain ⟨hl6, hl7, hl8⟩ := hl
    injection h with h
    subst h
    have X : ∀ (A : Option Addr) (c : Nat) (l : List S114), l.length ≤ 1000000 → Kd.C k114 w A l.length l → l.length ≤ c → ∀ W, Below w.heap.size w W →
        Calls Tryz.prog 34 #[.slice A (l.map toNd).length c] W fun e W' => e = .returned (.bool (exprR (l.map toNd))) ∧ Below W.heap.size W W' := by
      intro A c l hl hr hc W hW
      obtain ⟨k, hk⟩ := exprR_val l hl
      rw [List.length_map]
      exact rag.calls k A c l _ W (Kd.C_below hr hW) hc hk
    have := jright_any ⟨a0_0, a0_1, a0_2, a0_3, a0_4, a0_5, a0_9, a0_10⟩ A0_6 A0_7 A0_8 c0_6 c0_7 c0_8 (l0_6.map toNd) (l0_7.map toNd) (l0_8.map toNd) _ _ _ w (ndsAt_of hr0_6) (ndsAt_of hr0_7) (ndsAt_of hr0_8) (by simpa using hl6) (by simpa using hl7) (by simpa using hl8)
      exprR_ok exprR_ok (X A0_6 c0_6 l0_6 hl6 hr0_6 hc0_6) (X A0_7 c0_7 l0_7 hl7 hr0_7 hc0_7) (X A0_8 c0_8 l0_8 hl8 hr0_8 hc0_8)
    simp only [List.length_map] at this
    exact this
  · cases h
mutual
def raj.l0 : Nat → Int → ByteArray → Option (ByteArray)
 | 0, _, _ => none
 | k + 1, x0, x3 => if 0 ≤ (Int.tmod x0 10) then (if (Int.tmod x0 10) ≤ (wrap64 ((Int.tmod x0 10) + 1)) then (if (wrap64 ((Int.tmod x0 10) + 1)) ≤ 16 then (if ((⟨#[48, 49, 50, 51, 52, 53, 54, 55, 56, 57, 97, 98, 99, 100, 101, 102]⟩ : ByteArray).extract ((Int.tmod x0 10) : Int).toNat ((wrap64 ((Int.tmod x0 10) + 1)) : Int).toNat).size + x3.size ≤ 9223372036854775807 then (if (wrap64 (Int.tdiv x0 10)) = 0 then (some (((⟨#[48, 49, 50, 51, 52, 53, 54, 55, 56, 57, 97, 98, 99, 100, 101, 102]⟩ : ByteArray).extract ((Int.tmod x0 10) : Int).toNat ((wrap64 ((Int.tmod x0 10) + 1)) : Int).toNat) ++ x3)) else (raj.l0 k (wrap64 (Int.tdiv x0 10)) (((⟨#[48, 49, 50, 51, 52, 53, 54, 55, 56, 57, 97, 98, 99, 100, 101, 102]⟩ : ByteArray).extract ((Int.tmod x0 10) : Int).toNat ((wrap64 ((Int.tmod x0 10) + 1)) : Int).toNat) ++ x3))) else (none)) else (none)) else (none)) else (none)
def raj.f : Nat → Int → Option (ByteArray)
 | 0, _ => none
 | k + 1, a0 => if a0 < 0 then ((raj.f k (wrap64 (-a0))).bind fun t174 => (if 1 + t174.size ≤ 9223372036854775807 then (some ((⟨#[45]⟩ : ByteArray) ++ t174)) else (none))) else (raj.l0 k a0 (⟨#[]⟩ : ByteArray))
end
set_option maxHeartbeats 8000000 in
set_option maxRecDepth 100000 in
theorem raj.calls (k : Nat) : ∀ (a0 : Int) (r : ByteArray) (w : World) (h : raj.f k a0 = some r),
  Calls Tryz.prog 107 #[.int .i64 a0] w fun e w' => e = .returned (.string r) ∧ Drawn0 w w' := by
 induction k using Nat.strongRecOn with
 | _ k ih =>
 intro a0 r w h
 cases k with
 | zero => exact absurd h (by simp [raj.f])
 | succ k =>
 simp only [raj.f] at h
 have H : (if a0 < 0 then ((raj.f k (wrap64 (-a0))).bind fun t174 => (if 1 + t174.size ≤ 9223372036854775807 then (some ((⟨#[45]⟩ : ByteArray) ++ t174)) else (none))) else (raj.l0 k a0 (⟨#[]⟩ : ByteArray))) = some r := h
 clear h
 by_cases c2 : a0 < 0
 ·
  rw [if_pos c2] at H
  have c2b0 : decide (a0 < 0) = true := decide_eq_true c2
  clear c2
  replace H := Option.bind_eq_some_iff.mp H
  obtain ⟨t174, A30, H⟩ := H
  replace H : (if 1 + t174.size ≤ 9223372036854775807 then (some ((⟨#[45]⟩ : ByteArray) ++ t174)) else (none)) = some r := H
  have A3 := Aside0.mk A30
  clear A30
  by_cases c4 : 1 + t174.size ≤ 9223372036854775807
  ·
   rw [if_pos c4] at H
   have c4b0 := eq_true c4
   have c4b1 : decide (1 + t174.size ≤ 9223372036854775807) = true := decide_eq_true c4
   try have c4b2 : (9223372036854775807 < 1 + t174.size) = False := eq_false (Nat.not_lt.2 c4)
   obtain rfl := Option.some.inj H
   go_enter Tryz.func107, Tryz.ntmps107
   go_wp2_with (first | ((with_reducible refine qat (f := 107) rfl ?_); refine goesL_ (some 8) rfl rfl Tryz.func107 (by kernel_rfl) rfl #[.int .i64 (wrap64 (-a0))] rfl (by (try simp only [List.map_toArray, List.map_cons, List.map_nil]); first | done | rfl | (simp only [List.length_drop, List.length_take]; rfl)) ?_; (with_reducible refine (ih k (by omega) (wrap64 (-a0)) t174 _ A3.out).mono ?_); rintro e w' ⟨rfl, ⟨nd, rfl⟩⟩; refine ⟨_, rfl, ?_⟩))
   go_ret
   exact ⟨by first | rfl | (simp; done) | (simp [*]; done), by repeat (first | exact Drawn0.refl _ | apply Drawn0.step)⟩
  ·
   rw [if_neg c4] at H
   exact absurd H (by simp)
 ·
  rw [if_neg c2] at H
  have c2b0 : decide (a0 < 0) = false := decide_eq_false c2
  clear c2
  have H' := Aside0.mk H
  clear H
  go_enter Tryz.func107, Tryz.ntmps107
  go_wp2
  go_loopg [0, 3] k (fun kq v0 v3 w' => ∃ (x0_1 : Int) (x3_1 : ByteArray), v0 = .int .i64 x0_1 ∧ v3 = .string x3_1 ∧ Aside0 (raj.l0 kq x0_1 x3_1 = some r) ∧ Aside0 (kq ≤ k) ∧ Drawn0 w w')
  case atStart => exact ⟨(a0), ((⟨#[]⟩ : ByteArray)), (by first | rfl | (simp; done) | (simp [*]; done)), (by first | rfl | (simp; done) | (simp [*]; done)), H', ⟨Nat.le_refl _⟩, by repeat (first | exact Drawn0.refl _ | apply Drawn0.step)⟩
  case round =>
   clear H'
   try clear c1
   try clear c2
   try clear c2b0
   try clear p2
   try clear c4
   try clear c4b0
   try clear c4b1
   try clear c4b2
   obtain ⟨x0_1, x3_1, rfl, rfl, HA, HK1, ⟨m1, rfl⟩⟩ := hrel
   cases gk with
   | zero => exact absurd HA.out (by simp [raj.l0])
   | succ k1 =>
    have H := HA.out
    clear HA
    simp only [raj.l0] at H
    obtain ⟨ji5, hji5⟩ : ∃ j_ : Int, (Int.tmod x0_1 10) = j_ := ⟨_, rfl⟩
    replace H : (if 0 ≤ (ji5) then (if (ji5) ≤ (wrap64 ((ji5) + 1)) then (if (wrap64 ((ji5) + 1)) ≤ 16 then (if ((⟨#[48, 49, 50, 51, 52, 53, 54, 55, 56, 57, 97, 98, 99, 100, 101, 102]⟩ : ByteArray).extract ((ji5) : Int).toNat ((wrap64 ((ji5) + 1)) : Int).toNat).size + x3_1.size ≤ 9223372036854775807 then (if (wrap64 (Int.tdiv x0_1 10)) = 0 then (some (((⟨#[48, 49, 50, 51, 52, 53, 54, 55, 56, 57, 97, 98, 99, 100, 101, 102]⟩ : ByteArray).extract ((ji5) : Int).toNat ((wrap64 ((ji5) + 1)) : Int).toNat) ++ x3_1)) else (raj.l0 k1 (wrap64 (Int.tdiv x0_1 10)) (((⟨#[48, 49, 50, 51, 52, 53, 54, 55, 56, 57, 97, 98, 99, 100, 101, 102]⟩ : ByteArray).extract ((ji5) : Int).toNat ((wrap64 ((ji5) + 1)) : Int).toNat) ++ x3_1))) else (none)) else (none)) else (none)) else (none)) = some r := by first | (rw [hji5] at H; exact H) | (simp only [hji5] at H ⊢; exact H)
    by_cases c6 : 0 ≤ (ji5)
    ·
     rw [if_pos c6] at H
     have c6b0 := eq_true c6
     have c6b1 : decide (0 ≤ (ji5)) = true := decide_eq_true c6
     clear c6
     by_cases c7 : (ji5) ≤ (wrap64 ((ji5) + 1))
     ·
      rw [if_pos c7] at H
      have c7b0 := eq_true c7
      have c7b1 : decide ((ji5) ≤ (wrap64 ((ji5) + 1))) = true := decide_eq_true c7
      by_cases c8 : (wrap64 ((ji5) + 1)) ≤ 16
      ·
       rw [if_pos c8] at H
       have c8b0 := eq_true c8
       have c8b1 : decide ((wrap64 ((ji5) + 1)) ≤ 16) = true := decide_eq_true c8
       by_cases c9 : ((⟨#[48, 49, 50, 51, 52, 53, 54, 55, 56, 57, 97, 98, 99, 100, 101, 102]⟩ : ByteArray).extract ((ji5) : Int).toNat ((wrap64 ((ji5) + 1)) : Int).toNat).size + x3_1.size ≤ 9223372036854775807
       ·
        rw [if_pos c9] at H
        have c9b0 := eq_true c9
        have c9b1 : decide (((⟨#[48, 49, 50, 51, 52, 53, 54, 55, 56, 57, 97, 98, 99, 100, 101, 102]⟩ : ByteArray).extract ((ji5) : Int).toNat ((wrap64 ((ji5) + 1)) : Int).toNat).size + x3_1.size ≤ 9223372036854775807) = true := decide_eq_true c9
        try have c9b2 : (9223372036854775807 < ((⟨#[48, 49, 50, 51, 52, 53, 54, 55, 56, 57, 97, 98, 99, 100, 101, 102]⟩ : ByteArray).extract ((ji5) : Int).toNat ((wrap64 ((ji5) + 1)) : Int).toNat).size + x3_1.size) = False := eq_false (Nat.not_lt.2 c9)
        by_cases c10 : (wrap64 (Int.tdiv x0_1 10)) = 0
        ·
         rw [if_pos c10] at H
         have c10b0 : ((wrap64 (Int.tdiv x0_1 10)) == 0) = true := beq_iff_eq.mpr c10
         have c10b1 : ((wrap64 (Int.tdiv x0_1 10)) != 0) = false := bne_eq_false_iff_eq.mpr c10
         clear c10
         obtain rfl := Option.some.inj H
         go_wp2
         go_ret
         exact ⟨by first | rfl | (simp; done) | (simp only [← hji5] <;> (first | rfl | simp)) | (simp [*]; done), by repeat (first | exact Drawn0.refl _ | apply Drawn0.step)⟩
        ·
         rw [if_neg c10] at H
         have c10b0 : ((wrap64 (Int.tdiv x0_1 10)) == 0) = false := beq_eq_false_iff_ne.mpr c10
         have c10b1 : ((wrap64 (Int.tdiv x0_1 10)) != 0) = true := bne_iff_ne.mpr c10
         have H' := Aside0.mk H
         clear H
         go_wp2
         go_roundg k1
         case measure => have := HK1.out; omega
         case rel => exact ⟨(wrap64 (Int.tdiv x0_1 10)), (((⟨#[48, 49, 50, 51, 52, 53, 54, 55, 56, 57, 97, 98, 99, 100, 101, 102]⟩ : ByteArray).extract ((ji5) : Int).toNat ((wrap64 ((ji5) + 1)) : Int).toNat) ++ x3_1), (by first | rfl | (simp; done) | (simp [*]; done)), (by first | rfl | (simp; done) | (simp only [← hji5] <;> (first | rfl | simp)) | (simp [*]; done)), H', ⟨by have := HK1.out; omega⟩, by repeat (first | exact Drawn0.refl _ | apply Drawn0.step)⟩
       ·
        rw [if_neg c9] at H
        exact absurd H (by simp)
      ·
       rw [if_neg c8] at H
       exact absurd H (by simp)
     ·
      rw [if_neg c7] at H
      exact absurd H (by simp)
    ·
     rw [if_neg c6] at H
     exact absurd H (by simp)
end Go.Proofs.YtejbpnhondpnfaaGreat.PJob
namespace Go.Proofs.YtejbpnhondpnfaaGreat
set_option maxRecDepth 100000
open Go.RowKit
theorem sizeBuilder : (Tryz.prog.info? 104).map (·.size) = some 2 := by kernel_rfl
theorem bldByte : (Tryz.prog.info? 5).map (fun i => (i.zero, i.size, i.bytes)) = some (some (.int .u8 0), 1, 1) := by kernel_rfl
set_option maxHeartbeats 1000000 in
theorem check_used (b : Nat) (w : World) (h0 : w.cell? ⟨b, 0, none⟩ = some (.pointer (some ⟨b, 0, none⟩))) :
  Calls Tryz.prog 101 #[.pointer (some ⟨b, 0, none⟩)] w fun e w' => e = .returned (.tuple #[]) ∧ w' = w := by
 obtain ⟨j, hj, _⟩ := Option.map_eq_some_iff.1 sizeBuilder
 go_enter Tryz.func101, Tryz.ntmps101
 go_wp2
 rw [Lib.run_neq_ptr_same w _ Tryz.underlying101 hj]
 go_wp2
 go_end0
 exact ⟨rfl, rfl⟩
set_option maxHeartbeats 1000000 in
theorem check_fresh (b : Nat) (w : World) (h0 : w.cell? ⟨b, 0, none⟩ = some (.pointer none)) (hsh : w.shape? b = some (104, 2)) (hfz : w.frozen? ⟨b, 0, none⟩ = false) :
  Calls Tryz.prog 101 #[.pointer (some ⟨b, 0, none⟩)] w fun e w' => e = .returned (.tuple #[]) ∧ w' = w.setCell ⟨b, 0, none⟩ (.pointer (some ⟨b, 0, none⟩)) := by
 obtain ⟨j, hj, hjs⟩ := Option.map_eq_some_iff.1 sizeBuilder
 go_enter Tryz.func101, Tryz.ntmps101
 go_wp2
 rw [Lib.run_to_unsafe w ⟨b, 0, none⟩ Tryz.underlying101 Tryz.underlying192 hj (by rw [hjs]; decide) hsh (Nat.zero_lt_succ 1)]
 simp only [Result.andThen]
 rw [Oper.upon_value]
 go_wp2
 rw [run_callFunc_extern Tryz.func142 (by kernel_rfl) (by kernel_rfl) (by kernel_rfl) (e := Extern.AbiNoEscape.same) (by kernel_rfl)]
 rw [Lib.run_noEscape]
 simp only [Result.andThen]
 rw [Oper.upon_value]
 go_wp2
 rw [Lib.run_from_unsafe w ⟨b, 0, none⟩ Tryz.underlying192 Tryz.underlying101 hj hsh (by kernel_rfl)]
 simp only [Result.andThen]
 rw [Oper.upon_value]
 go_wp2
 go_end0
 exact ⟨rfl, rfl⟩
abbrev IsB (B b : Nat) (bs : List Value) (w : World) : Prop := Lib.IsBuilder 104 5 B b bs w
abbrev BAt (B b : Nat) (bs : List Value) (w : World) : Prop := Lib.BuilderAt 104 5 B b (.pointer (some ⟨b, 0, none⟩)) bs w
theorem check_any (B b : Nat) (bs : List Value) (w : World) (h : IsB B b bs w) :
  Calls Tryz.prog 101 #[.pointer (some ⟨b, 0, none⟩)] w fun e w' => e = .returned (.tuple #[]) ∧ (BAt B b bs w' ∧ Below B w w') := by
 rcases h with h | h
 ·
  refine (check_fresh b w h.cell0 h.shape h.frozen0).mono ?_
  rintro e w' ⟨rfl, rfl⟩
  exact ⟨rfl, h.used _, (Below.refl B w).setCell (p := ⟨b, 0, none⟩) h.1 _⟩
 ·
  refine (check_used b w h.cell0).mono ?_
  rintro e w' ⟨rfl, rfl⟩
  exact ⟨rfl, h, Below.refl B _⟩
set_option maxHeartbeats 1000000 in
theorem wstr_any (B b : Nat) (bs : List Value) (s : ByteArray) (w : World) (h : IsB B b bs w) (hlen : bs.length + s.size ≤ 140737488355328) (hBw : B ≤ w.heap.size) :
  Calls Tryz.prog 60 #[.pointer (some ⟨b, 0, none⟩), .string s] w fun e w' => e = .returned (.tuple #[.int .i64 s.size, .nilIface]) ∧ (BAt B b (bs ++ Lib.strCells s) w' ∧ Below B w w') := by
 obtain ⟨i0, hi, hz0, hz1, hz2⟩ := info_parts bldByte
 go_enter Tryz.func60, Tryz.ntmps60
 go_wp2_with (go_at_call 101; refine (check_any B b bs _ h).mono ?_)
 rintro e w1 ⟨rfl, h1, hb1⟩
 obtain ⟨hB, v, hbk, hown, hne⟩ := h1
 have c0 : w1.cell? ⟨b, 0, none⟩ = some (.pointer (some ⟨b, 0, none⟩)) := by rw [Lib.cell_of_heap hbk]; rfl
 have c1 : w1.cell? ⟨b, 1, none⟩ = some v := by rw [Lib.cell_of_heap hbk]; rfl
 go_wp2_with (at_builtin; refine Lib.wpList_append_own_string _ rfl _ _ 102 9 rfl B 5 i0 Tryz.underlying102 Tryz.underlying9 hi hz0 hz1 hz2 _ _ _ rfl hown s rfl ?c3 ?c4 ?c5 ?_)
 case c3 => unfold maxLen; omega
 case c4 => omega
 case c5 => have := hb1.size; omega
 intro v' w2 hown' hgrow _
 have hlt : b < w1.heap.size := by
  rcases Nat.lt_or_ge b w1.heap.size with h' | h'
  ·
   exact h'
  ·
   simp [Array.getElem?_eq_none h'] at hbk
 have hb2 : w2.heap[b]? = some (.cells #[.pointer (some ⟨b, 0, none⟩), v] 104 (0, 0)) := by
  rw [hgrow.block b hlt (fun e => hne e.symm)]
  exact hbk
 have d0 : w2.cell? ⟨b, 0, none⟩ = some (.pointer (some ⟨b, 0, none⟩)) := by rw [Lib.cell_of_heap hb2]; rfl
 have d1 : w2.cell? ⟨b, 1, none⟩ = some v := by rw [Lib.cell_of_heap hb2]; rfl
 have f1 : w2.frozen? ⟨b, 1, none⟩ = false := Lib.frozen_of_heap hb2 1
 obtain ⟨ao, n', cap, rfl⟩ : ∃ ao n' cap, v' = .slice ao n' cap := by
  rcases hown'.2 with ⟨hv, _⟩ | ⟨g, cap, cur, hv, _⟩
  ·
   exact ⟨_, _, _, hv⟩
  ·
   exact ⟨_, _, _, hv⟩
 go_wp2
 go_ret2
 refine ⟨rfl, ?_, ?_⟩
 ·
  exact Lib.BuilderAt.put (T := 104) (e := 5) hB hb2 (bs' := bs ++ Lib.strCells s) (by simpa [Lib.strCells_length] using hown') (by decide)
 ·
  exact (hb1.grown hgrow (by have := hb1.size; omega) (fun k hk => (hown.lt k hk).1)).setCell (p := ⟨b, 1, none⟩) hB _
set_option maxHeartbeats 2000000 in
theorem wbyte_any (B b : Nat) (bs : List Value) (c : Int) (w : World) (h : IsB B b bs w) (hlen : bs.length + 1 ≤ 140737488355328) (hBw : B ≤ w.heap.size) :
  Calls Tryz.prog 105 #[.pointer (some ⟨b, 0, none⟩), .int .u8 c] w fun e w' => e = .returned .nilIface ∧ (BAt B b (bs ++ [.int .u8 c]) w' ∧ Below B w w') := by
 obtain ⟨i0, hi, hz0, hz1, hz2⟩ := info_parts bldByte
 go_enter Tryz.func105, Tryz.ntmps105
 go_wp2_with (go_at_call 101; refine (check_any B b bs _ h).mono ?_)
 rintro e w1 ⟨rfl, h1, hb1⟩
 obtain ⟨hB, v, hbk, hown, hne⟩ := h1
 have c0 : w1.cell? ⟨b, 0, none⟩ = some (.pointer (some ⟨b, 0, none⟩)) := by rw [Lib.cell_of_heap hbk]; rfl
 have c1 : w1.cell? ⟨b, 1, none⟩ = some v := by rw [Lib.cell_of_heap hbk]; rfl
 go_wp2_with (at_builtin; refine wpList_append_own _ rfl _ _ 102 rfl B 5 i0 (.int .u8 0) 1 1 Tryz.underlying102 hi hz0 hz1 hz2 rfl (by decide) _ _ _ rfl (hown.alloc _) ⟨w1.heap.size, 0, none⟩ 1 1 [.int .u8 c] rfl rfl ?c1 ?c2 ?c3 ?c4 ?c5 ?_)
 case c1 =>
  intro j u hj
  match j, hj with
  | 0, hj => simp at hj; subst hj; simp [Addr.add]
 case c2 => intro u hu; simp at hu; subst hu; rfl
 case c3 => unfold maxLen; omega
 case c4 => omega
 case c5 => have := hb1.size; simp; omega
 intro v' w2 hown' hgrow _
 have hlt : b < w1.heap.size := by
  rcases Nat.lt_or_ge b w1.heap.size with h' | h'
  ·
   exact h'
  ·
   simp [Array.getElem?_eq_none h'] at hbk
 have hb2 : w2.heap[b]? = some (.cells #[.pointer (some ⟨b, 0, none⟩), v] 104 (0, 0)) := by
  rw [hgrow.block b (by simp; omega) (fun e => hne e.symm), Lib.alloc_old w1 _ b hlt]
  exact hbk
 have d0 : w2.cell? ⟨b, 0, none⟩ = some (.pointer (some ⟨b, 0, none⟩)) := by rw [Lib.cell_of_heap hb2]; rfl
 have d1 : w2.cell? ⟨b, 1, none⟩ = some v := by rw [Lib.cell_of_heap hb2]; rfl
 have f1 : w2.frozen? ⟨b, 1, none⟩ = false := Lib.frozen_of_heap hb2 1
 obtain ⟨g, cap, rfl⟩ : ∃ g cap, v' = .slice (some ⟨g, 0, none⟩) (bs.length + 1) cap := by
  rcases hown'.2 with ⟨_, h0⟩ | ⟨g, cap, cur, hv, _⟩
  ·
   omega
  ·
   exact ⟨g, cap, hv⟩
 go_wp2
 go_ret
 refine ⟨rfl, ?_, ?_⟩
 ·
  exact Lib.BuilderAt.put (T := 104) (e := 5) hB hb2 (bs' := bs ++ [.int .u8 c]) (by simpa using hown') (by decide)
 ·
  exact ((hb1.alloc (Nat.le_trans hBw hb1.size) _).grown hgrow (by have := hb1.size; simp; omega) (fun k hk => (hown.lt k hk).1)).setCell (p := ⟨b, 1, none⟩) hB _
end Go.Proofs.YtejbpnhondpnfaaGreat
