/- JobPlays, proved: whether any job is right, and how it is written, is the document's: for every job that the statement's guard lets in. No conditions. -/
import Derived.Test.YtejbpnhondpnfaaGreatJP6
import Derived.Test.YtejbpnhondpnfaaGreatJP5
import Derived.Test.YtejbpnhondpnfaaGreatJP2
import Derived.ProofKit
import Derived.OpenShut
import Derived.ShutString
import Derived.ChangeOld
import Derived.Below
import Derived.SizedLaws
set_option linter.unusedSimpArgs false
set_option linter.unusedVariables false
namespace Go.Proofs.YtejbpnhondpnfaaGreat.PJob
open Go.RowKit Go.Proofs.YtejbpnhondpnfaaGreatW.PrintWords Go.Proofs.YtejbpnhondpnfaaGreatW.PrintLast Go.Proofs.YtejbpnhondpnfaaGreatW.PrintMore
set_option maxRecDepth 100000
theorem jw_ref (j : Jb) (d : Int → ByteArray) (n7 : Nat) (x6 x7 x8 : ByteArray) : jw9 j d n7 x6 x7 x8 = refText j n7 d x6 x7 x8 := by
 have h6 : jw6 j d x6 = refHead j d x6 := by
  unfold jw6 jw5 jw4 jw3 jw2 jw1 refHead
  simp only [joinB_two, joinB_three]
  apply ByteArray.ext
  apply Array.ext'
  simp
 have h7 : jw7 j d n7 x6 x7 = refBy n7 x7 (refHead j d x6) := by
  unfold jw7 refBy
  rw [h6]
  split
  ·
   rw [joinB_two]
   apply ByteArray.ext
   simp
  ·
   rfl
 have h8 : jw8 j d n7 x6 x7 x8 = refFold j.fold x8 (refBy n7 x7 (refHead j d x6)) := by
  unfold jw8 refFold
  rw [h7]
  split
  ·
   rw [joinB_two]
   apply ByteArray.ext
   simp
  ·
   rw [joinB_two]
   apply ByteArray.ext
   simp
 unfold jw9 refText yesB
 rw [h8, joinB_two]
 apply ByteArray.ext
 simp
theorem right_zero {j : Jb} {r6 r7 r8 : Bool} {m6 m7 m8 : List Nd} (h : rightJ j r6 r7 r8 m6 m7 m8 = 0) :
  numbersB j = true ∧ r6 = true ∧ (m7.length = 0 ∨ r7 = true) ∧ (m8.length = 0 ∨ r8 = true) ∧ (j.fold = ⟨#[]⟩ ↔ m8.length ≠ 0) := by
 unfold rightJ at h
 split at h
 ·
  cases h
 split at h
 ·
  cases h
 rename_i h2
 split at h
 ·
  cases h
 rename_i h3
 split at h
 ·
  cases h
 rename_i h4
 have he : j.fold = ⟨#[]⟩ ↔ j.fold.toList.isEmpty = true := by
  rw [ByteArray.toList_eq]
  constructor
  ·
   intro e; rw [e]; rfl
  ·
   intro e
   apply ByteArray.size_eq_zero_iff.1
   have := List.isEmpty_iff.1 e
   have := congrArg List.length this
   simpa using this
 unfold wrong1 at h3
 unfold wrong2 at h4
 simp only [Bool.or_eq_true, not_or, Bool.not_eq_true, Bool.not_eq_false', Bool.and_eq_false_iff, decide_eq_false_iff_not, Nat.not_lt, Nat.le_zero] at h3
 simp only [Bool.or_eq_true, not_or] at h4
 refine ⟨by simpa using h2, h3.1.1, h3.1.2, h3.2, ?_⟩
 rw [he]
 have h5 := h4.2
 clear h4 he
 generalize j.fold.toList.isEmpty = e at h5 ⊢
 by_cases h0 : m8.length = 0
 ·
  rw [decide_eq_true h0] at h5
  cases e with
  | true => exact absurd rfl h5
  | false => exact ⟨fun h => (by cases h), fun h => absurd h0 h⟩
 ·
  rw [decide_eq_false h0] at h5
  cases e with
  | true => exact ⟨fun _ => h0, fun _ => rfl⟩
  | false => exact absurd rfl h5
theorem wr_right (l : List S57) (h : exprR (l.map qaw) = true) : wrText (l.map convN) = if 4096 < (textB (l.map qaw)).size then (⟨#[]⟩, 3) else (textB (l.map qaw), 0) := by
 unfold wrText writeR textB VT
 rw [convN_nd, h]
 obtain ⟨b, hb⟩ := wr_total VT wordB h
 unfold VT at hb
 rw [hb]
 have e : (⟨((some (b, ([] : List Nd))).elim [] (·.1)).toArray⟩ : ByteArray).size = b.length := by show b.toArray.size = _; simp
 rw [e]
 rfl
theorem ref_write_val (nm : ByteArray) (ta pa kk n fu : Int) (l6 l7 l8 : List S57) (fo : ByteArray) (cb : Bool)
  (hR : rightJ ⟨nm, ta, pa, kk, n, fu, fo, cb⟩ (exprR (l6.map qaw)) (exprR (l7.map qaw)) (exprR (l8.map qaw)) (l6.map qaw) (l7.map qaw) (l8.map qaw) = 0) :
  rbc.f nm ta pa kk n fu l6 l7 l8 fo cb = some (refText ⟨nm, ta, pa, kk, n, fu, fo, cb⟩ l7.length decV (textB (l6.map qaw)) (textB (l7.map qaw)) (textB (l8.map qaw))) := by
 obtain ⟨hn, hf⟩ := rightJ_zero hR
 obtain ⟨g1, g2, g3, g4, g5⟩ := right_zero hR
 rw [List.length_map] at g3 g4 g5
 have gn := (numbersB_iff _).1 g1
 simp only at gn hn hf g5
 have hf9 : fo.size ≤ 1000000 := by
  rcases hf with h9 | h9
  ·
   rw [h9]; decide
  ·
   have : ∀ x ∈ foldsL, x.size ≤ 1000000 := by decide
   exact this _ h9
 unfold rbc.f numOk
 rw [if_pos]
 exact ⟨g2, g3, g4, fun h0 h1 => g5.1 h1 h0, by omega, hf9, by omega, by omega, by omega, by omega, by omega⟩
theorem jw_val (nm : ByteArray) (ta pa kk n fu : Int) (l6 l7 l8 : List S57) (fo : ByteArray) (cb : Bool)
  (hR : rightJ ⟨nm, ta, pa, kk, n, fu, fo, cb⟩ (exprR (l6.map qaw)) (exprR (l7.map qaw)) (exprR (l8.map qaw)) (l6.map qaw) (l7.map qaw) (l8.map qaw) = 0) :
  jwRes ⟨nm, ta, pa, kk, n, fu, fo, cb⟩ decV l7.length (wrText (l6.map convN)) (wrText (l7.map convN)) (wrText (l8.map convN)) =
   if 4096 < (textB (l6.map qaw)).size ∨ (0 < l7.length ∧ 4096 < (textB (l7.map qaw)).size) ∨ (0 < l8.length ∧ 4096 < (textB (l8.map qaw)).size) ∨ 4096 < (refText ⟨nm, ta, pa, kk, n, fu, fo, cb⟩ l7.length decV (textB (l6.map qaw)) (textB (l7.map qaw)) (textB (l8.map qaw))).size then (⟨#[]⟩, 3)
   else (refText ⟨nm, ta, pa, kk, n, fu, fo, cb⟩ l7.length decV (textB (l6.map qaw)) (textB (l7.map qaw)) (textB (l8.map qaw)), 0) := by
 obtain ⟨_, g2, g3, g4, g5⟩ := right_zero hR
 rw [List.length_map] at g3 g4 g5
 have x6 := wr_right l6 g2
 have x7 : 0 < l7.length → _ := fun h => wr_right l7 (g3.resolve_left (by omega))
 have x8 : 0 < l8.length → _ := fun h => wr_right l8 (g4.resolve_left (by omega))
 simp only at g5
 generalize textB (l6.map qaw) = t6 at *
 generalize textB (l7.map qaw) = t7 at *
 generalize textB (l8.map qaw) = t8 at *
 generalize wrText (l6.map convN) = y6 at *
 generalize wrText (l7.map convN) = y7 at *
 generalize wrText (l8.map convN) = y8 at *
 clear hR g2 g3 g4
 -- what isn't written doesn't matter
 have by_no : ∀ s a b, ¬ 0 < l7.length → refBy l7.length a s = refBy l7.length b s := by
  intro s a b h; unfold refBy; rw [if_neg h, if_neg h]
 unfold jwRes
 simp only
 rw [jw_ref]
 by_cases c6 : 4096 < t6.size
 ·
  rw [if_pos (.inl c6)]
  rw [if_pos c6] at x6
  have e : je8 fo l7.length y6.2 y7.2 y8.2 = 3 := by
   rw [x6]; unfold je8 je7; simp
  rw [e]; rfl
 rw [if_neg c6] at x6
 by_cases z7 : 0 < l7.length
 ·
  have x7 := x7 z7
  by_cases c7 : 4096 < t7.size
  ·
   rw [if_pos (.inr (.inl ⟨z7, c7⟩))]
   rw [if_pos c7] at x7
   have e : je8 fo l7.length y6.2 y7.2 y8.2 = 3 := by
    rw [x6, x7]; unfold je8 je7; simp [z7]
   rw [e]; rfl
  rw [if_neg c7] at x7
  by_cases z8 : 0 < l8.length
  ·
   have x8 := x8 z8
   have hfo := g5.2 (by omega)
   by_cases c8 : 4096 < t8.size
   ·
    rw [if_pos (.inr (.inr (.inl ⟨z8, c8⟩)))]
    rw [if_pos c8] at x8
    have e : je8 fo l7.length y6.2 y7.2 y8.2 = 3 := by
     rw [x6, x7, x8]; unfold je8 je7; simp [z7, hfo]
    rw [e]; rfl
   rw [if_neg c8] at x8
   have e : je8 fo l7.length y6.2 y7.2 y8.2 = 0 := by
    rw [x6, x7, x8]; unfold je8 je7; simp [z7, hfo]
   rw [e, x6, x7, x8]
   unfold jwEnd
   rw [if_pos rfl]
   by_cases cT : 4096 < (refText ⟨nm, ta, pa, kk, n, fu, fo, cb⟩ l7.length decV t6 t7 t8).size
   ·
    rw [if_pos cT, if_pos (.inr (.inr (.inr cT)))]
   ·
    rw [if_neg cT, if_neg (by rintro (h | h | h | h); exact c6 h; exact c7 h.2; exact c8 h.2; exact cT h)]
  ·
   have hfo : ¬ fo = ⟨#[]⟩ := fun h => g5.1 h (by omega)
   have e : je8 fo l7.length y6.2 y7.2 y8.2 = 0 := by
    rw [x6, x7]; unfold je8 je7; simp [z7, hfo]
   have eT : ∀ a, refText ⟨nm, ta, pa, kk, n, fu, fo, cb⟩ l7.length decV t6 t7 a = refText ⟨nm, ta, pa, kk, n, fu, fo, cb⟩ l7.length decV t6 t7 t8 := by
    intro a; unfold refText refFold; simp only; rw [if_neg hfo, if_neg hfo]
   rw [e, x6, x7, eT]
   unfold jwEnd
   rw [if_pos rfl]
   by_cases cT : 4096 < (refText ⟨nm, ta, pa, kk, n, fu, fo, cb⟩ l7.length decV t6 t7 t8).size
   ·
    rw [if_pos cT, if_pos (.inr (.inr (.inr cT)))]
   ·
    rw [if_neg cT, if_neg (by rintro (h | h | h | h); exact c6 h; exact c7 h.2; exact z8 h.1; exact cT h)]
 ·
  by_cases z8 : 0 < l8.length
  ·
   have x8 := x8 z8
   have hfo := g5.2 (by omega)
   have eT : ∀ a, refText ⟨nm, ta, pa, kk, n, fu, fo, cb⟩ l7.length decV t6 a t8 = refText ⟨nm, ta, pa, kk, n, fu, fo, cb⟩ l7.length decV t6 t7 t8 := by
    intro a; unfold refText; rw [by_no _ a t7 z7]
   by_cases c8 : 4096 < t8.size
   ·
    rw [if_pos (.inr (.inr (.inl ⟨z8, c8⟩)))]
    rw [if_pos c8] at x8
    have e : je8 fo l7.length y6.2 y7.2 y8.2 = 3 := by
     rw [x6, x8]; unfold je8 je7; simp [z7, hfo]
    rw [e]; rfl
   rw [if_neg c8] at x8
   have e : je8 fo l7.length y6.2 y7.2 y8.2 = 0 := by
    rw [x6, x8]; unfold je8 je7; simp [z7, hfo]
   rw [e, x6, x8, eT]
   unfold jwEnd
   rw [if_pos rfl]
   by_cases cT : 4096 < (refText ⟨nm, ta, pa, kk, n, fu, fo, cb⟩ l7.length decV t6 t7 t8).size
   ·
    rw [if_pos cT, if_pos (.inr (.inr (.inr cT)))]
   ·
    rw [if_neg cT, if_neg (by rintro (h | h | h | h); exact c6 h; exact z7 h.1; exact c8 h.2; exact cT h)]
  ·
   have hfo : ¬ fo = ⟨#[]⟩ := fun h => g5.1 h (by omega)
   have e : je8 fo l7.length y6.2 y7.2 y8.2 = 0 := by
    rw [x6]; unfold je8 je7; simp [z7, hfo]
   have eT : ∀ a b, refText ⟨nm, ta, pa, kk, n, fu, fo, cb⟩ l7.length decV t6 a b = refText ⟨nm, ta, pa, kk, n, fu, fo, cb⟩ l7.length decV t6 t7 t8 := by
    intro a b; unfold refText refFold; simp only; rw [if_neg hfo, if_neg hfo, by_no _ a t7 z7]
   rw [e, x6, eT]
   unfold jwEnd
   rw [if_pos rfl]
   by_cases cT : 4096 < (refText ⟨nm, ta, pa, kk, n, fu, fo, cb⟩ l7.length decV t6 t7 t8).size
   ·
    rw [if_pos cT, if_pos (.inr (.inr (.inr cT)))]
   ·
    rw [if_neg cT, if_neg (by rintro (h | h | h | h); exact c6 h; exact z7 h.1; exact z8 h.1; exact cT h)]
set_option maxHeartbeats 4000000 in
theorem plays_with (nm : ByteArray) (ta pa kk n fu : Int) (A6 A7 A8 : Option Addr) (l6 l7 l8 : List S57) (c6 c7 c8 : Nat) (fo : ByteArray) (cb : Bool) (w : World) (s R : Int) (x : ByteArray × Int) (b : Bool) (T : ByteArray)
  (hcase : s = 0 ∨ (s = 1 ∧ R ≠ 0 ∧ x = (⟨#[]⟩, R)) ∨ (s = 1 ∧ R = 0 ∧ b = true ∧ x = (⟨#[]⟩, 3)) ∨ (s = 1 ∧ R = 0 ∧ b = false ∧ x = (T, 0)))
  (hA : ∀ W, Below w.heap.size w W → Calls Tryz.prog 8 #[] W fun e W' => e = .returned (.bool true) ∧ Below W.heap.size W W')
  (hS : ∀ W, Below w.heap.size w W → Calls Tryz.prog 9 #[.agg #[.string nm, .int .i64 ta, .int .i64 pa, .int .i64 kk, .int .i64 n, .int .i64 fu, .slice A6 l6.length c6, .slice A7 l7.length c7, .slice A8 l8.length c8, .string fo, .bool cb]] W fun e W' => e = .returned (.int .i64 s) ∧ Below W.heap.size W W')
  (hRr : s = 1 → ∀ W, Below w.heap.size w W → Calls Tryz.prog 10 #[.agg #[.string nm, .int .i64 ta, .int .i64 pa, .int .i64 kk, .int .i64 n, .int .i64 fu, .slice A6 l6.length c6, .slice A7 l7.length c7, .slice A8 l8.length c8, .string fo, .bool cb]] W fun e W' => e = .returned (.int .i64 R) ∧ Below W.heap.size W W')
  (hO : s = 1 → ∀ W, Below w.heap.size w W → Calls Tryz.prog 12 #[.agg #[.string nm, .int .i64 ta, .int .i64 pa, .int .i64 kk, .int .i64 n, .int .i64 fu, .slice A6 l6.length c6, .slice A7 l7.length c7, .slice A8 l8.length c8, .string fo, .bool cb]] W fun e W' => ∃ v6 v7 v8, e = .returned (.agg #[.string nm, .int .i64 ta, .int .i64 pa, .int .i64 kk, .int .i64 n, .int .i64 fu, v6, v7, v8, .string fo, .bool cb]) ∧ Below W.heap.size W W' ∧ (Calls Tryz.prog 11 #[.agg #[.string nm, .int .i64 ta, .int .i64 pa, .int .i64 kk, .int .i64 n, .int .i64 fu, v6, v7, v8, .string fo, .bool cb]] W' fun e W'' => e = .returned (.tuple #[.string x.1, .int .i64 x.2]) ∧ Below W'.heap.size W' W'') ∧ (Calls Tryz.prog 13 #[.agg #[.string nm, .int .i64 ta, .int .i64 pa, .int .i64 kk, .int .i64 n, .int .i64 fu, v6, v7, v8, .string fo, .bool cb]] W' fun e W'' => e = .returned (.int .i64 R) ∧ Below W'.heap.size W' W''))
  (hL : s = 1 → R = 0 → ∀ W, Below w.heap.size w W → Calls Tryz.prog 14 #[.agg #[.string nm, .int .i64 ta, .int .i64 pa, .int .i64 kk, .int .i64 n, .int .i64 fu, .slice A6 l6.length c6, .slice A7 l7.length c7, .slice A8 l8.length c8, .string fo, .bool cb]] W fun e W' => e = .returned (.bool b) ∧ Below W.heap.size W W')
  (hT : s = 1 → R = 0 → ∀ W, Below w.heap.size w W → Calls Tryz.prog 15 #[.agg #[.string nm, .int .i64 ta, .int .i64 pa, .int .i64 kk, .int .i64 n, .int .i64 fu, .slice A6 l6.length c6, .slice A7 l7.length c7, .slice A8 l8.length c8, .string fo, .bool cb]] W fun e W' => e = .returned (.string T) ∧ Below W.heap.size W W') :
  Calls Tryz.prog 3 #[.agg #[.string nm, .int .i64 ta, .int .i64 pa, .int .i64 kk, .int .i64 n, .int .i64 fu, .slice A6 l6.length c6, .slice A7 l7.length c7, .slice A8 l8.length c8, .string fo, .bool cb]] w fun e w' => e = .returned (.bool true) ∧ Below w.heap.size w w' := by
 obtain ⟨W1, hW1⟩ : ∃ W1, W1 = w.alloc (.cells (jbA ⟨nm, ta, pa, kk, n, fu, fo, cb⟩ A6 A7 A8 l6.length c6 l7.length c7 l8.length c8) 24) := ⟨_, rfl⟩
 have hg : W1.heap[w.heap.size]? = some (.cells (jbA ⟨nm, ta, pa, kk, n, fu, fo, cb⟩ A6 A7 A8 l6.length c6 l7.length c7 l8.length c8) 24 (0, 0)) := by rw [hW1]; exact heap_alloc_new w _
 have hb1 : Below w.heap.size w W1 := by rw [hW1]; exact (Below.refl _ w).alloc (Nat.le_refl _) _
 have hlt := (Array.getElem?_eq_some_iff.1 hg).1
 have HG : Hid (∀ W, Below W1.heap.size W1 W → JF ⟨nm, ta, pa, kk, n, fu, fo, cb⟩ A6 A7 A8 l6.length c6 l7.length c7 l8.length c8 w.heap.size W) := Lib.hid fun W hW => jf_at ((hW.block _ hlt).trans hg)
 have up : ∀ W, Below W1.heap.size W1 W → Below w.heap.size w W := fun W hW => hb1.trans (hW.mono hb1.size)
 have HA : Hid (∀ W, Below W1.heap.size W1 W → Calls Tryz.prog 8 #[] W fun e W' => e = .returned (.bool true) ∧ Below W1.heap.size W1 W') := Lib.hid fun W hW => (hA W (up W hW)).mono fun e W' ⟨h1, h2⟩ => ⟨h1, hW.trans (h2.mono hW.size)⟩
 have HS : Hid (∀ W, Below W1.heap.size W1 W → Calls Tryz.prog 9 #[.agg #[.string nm, .int .i64 ta, .int .i64 pa, .int .i64 kk, .int .i64 n, .int .i64 fu, .slice A6 l6.length c6, .slice A7 l7.length c7, .slice A8 l8.length c8, .string fo, .bool cb]] W fun e W' => e = .returned (.int .i64 s) ∧ Below W1.heap.size W1 W') := Lib.hid fun W hW => (hS W (up W hW)).mono fun e W' ⟨h1, h2⟩ => ⟨h1, hW.trans (h2.mono hW.size)⟩
 have hbw := Lib.hid hb1
 have hb := Below.refl W1.heap.size W1
 obtain ⟨f0, f1, f2, f3, f4, f5, f6, f7, f8, f9, f10⟩ := HG.out _ hb
 unfold jbA at hW1
 simp only at hW1 f0 f1 f2 f3 f4 f5 f6 f7 f8 f9 f10
 clear hA hS hg hlt
 rcases hcase with rfl | ⟨rfl, h0, hx⟩ | ⟨rfl, h0, hbb, hx⟩ | ⟨rfl, h0, hbb, hx⟩
 ·
  clear hRr hO hL hT
  clear up
  go_enter Tryz.func3, Tryz.ntmps3
  go_wp2_with (first
   | (rw [← hW1]; clear hW1)
   | (go_at_call 8; (with_reducible refine (HA.out _ hb).mono ?_); clear hb; rintro e w2 ⟨rfl, hb⟩; clear f0 f1 f2 f3 f4 f5 f6 f7 f8 f9 f10; obtain ⟨f0, f1, f2, f3, f4, f5, f6, f7, f8, f9, f10⟩ := HG.out _ hb)
   | (go_at_call 9; (with_reducible refine (HS.out _ hb).mono ?_); clear hb; rintro e w2 ⟨rfl, hb⟩; clear f0 f1 f2 f3 f4 f5 f6 f7 f8 f9 f10; obtain ⟨f0, f1, f2, f3, f4, f5, f6, f7, f8, f9, f10⟩ := HG.out _ hb)
   | (go_at_call 10; (with_reducible refine (HRr.out _ hb).mono ?_); clear hb; rintro e w2 ⟨rfl, hb⟩; clear f0 f1 f2 f3 f4 f5 f6 f7 f8 f9 f10; obtain ⟨f0, f1, f2, f3, f4, f5, f6, f7, f8, f9, f10⟩ := HG.out _ hb)
   | (go_at_call 12; (with_reducible refine (HO.out _ hb).mono ?_); clear hb; rintro e w2 ⟨v6, v7, v8, rfl, hb, hk⟩; have HK := Lib.hid hk; clear hk; clear f0 f1 f2 f3 f4 f5 f6 f7 f8 f9 f10; obtain ⟨f0, f1, f2, f3, f4, f5, f6, f7, f8, f9, f10⟩ := HG.out _ hb)
   | (go_at_call 11; (with_reducible refine HK.out.1.mono ?_); clear HK hb; rintro e w2 ⟨rfl, hb⟩; clear f0 f1 f2 f3 f4 f5 f6 f7 f8 f9 f10; obtain ⟨f0, f1, f2, f3, f4, f5, f6, f7, f8, f9, f10⟩ := HG.out _ hb)
   | (go_at_call 13; (with_reducible refine HK.out.2.mono ?_); clear HK hb; rintro e w2 ⟨rfl, hb⟩; clear f0 f1 f2 f3 f4 f5 f6 f7 f8 f9 f10; obtain ⟨f0, f1, f2, f3, f4, f5, f6, f7, f8, f9, f10⟩ := HG.out _ hb)
   | (go_at_call 14; (with_reducible refine (HL.out _ hb).mono ?_); clear hb; rintro e w2 ⟨rfl, hb⟩; clear f0 f1 f2 f3 f4 f5 f6 f7 f8 f9 f10; obtain ⟨f0, f1, f2, f3, f4, f5, f6, f7, f8, f9, f10⟩ := HG.out _ hb)
   | (go_at_call 15; (with_reducible refine (HT.out _ hb).mono ?_); clear hb; rintro e w2 ⟨rfl, hb⟩; clear f0 f1 f2 f3 f4 f5 f6 f7 f8 f9 f10; obtain ⟨f0, f1, f2, f3, f4, f5, f6, f7, f8, f9, f10⟩ := HG.out _ hb)
   | fail)
  go_ret
  exact ⟨by simp, hbw.out.trans (hb.mono hbw.out.size)⟩
 ·
  have HRr : Hid (∀ W, Below W1.heap.size W1 W → Calls Tryz.prog 10 #[.agg #[.string nm, .int .i64 ta, .int .i64 pa, .int .i64 kk, .int .i64 n, .int .i64 fu, .slice A6 l6.length c6, .slice A7 l7.length c7, .slice A8 l8.length c8, .string fo, .bool cb]] W fun e W' => e = .returned (.int .i64 R) ∧ Below W1.heap.size W1 W') := Lib.hid fun W hW => (hRr rfl W (up W hW)).mono fun e W' ⟨h1, h2⟩ => ⟨h1, hW.trans (h2.mono hW.size)⟩
  have HO : Hid (∀ W, Below W1.heap.size W1 W → Calls Tryz.prog 12 #[.agg #[.string nm, .int .i64 ta, .int .i64 pa, .int .i64 kk, .int .i64 n, .int .i64 fu, .slice A6 l6.length c6, .slice A7 l7.length c7, .slice A8 l8.length c8, .string fo, .bool cb]] W fun e W' => ∃ v6 v7 v8, e = .returned (.agg #[.string nm, .int .i64 ta, .int .i64 pa, .int .i64 kk, .int .i64 n, .int .i64 fu, v6, v7, v8, .string fo, .bool cb]) ∧ Below W1.heap.size W1 W' ∧ (Calls Tryz.prog 11 #[.agg #[.string nm, .int .i64 ta, .int .i64 pa, .int .i64 kk, .int .i64 n, .int .i64 fu, v6, v7, v8, .string fo, .bool cb]] W' fun e W'' => e = .returned (.tuple #[.string x.1, .int .i64 x.2]) ∧ Below W1.heap.size W1 W'') ∧ (Calls Tryz.prog 13 #[.agg #[.string nm, .int .i64 ta, .int .i64 pa, .int .i64 kk, .int .i64 n, .int .i64 fu, v6, v7, v8, .string fo, .bool cb]] W' fun e W'' => e = .returned (.int .i64 R) ∧ Below W1.heap.size W1 W'')) := Lib.hid fun W hW => (hO rfl W (up W hW)).mono fun e W' ⟨v6, v7, v8, h1, h2, h3, h4⟩ => ⟨v6, v7, v8, h1, hW.trans (h2.mono hW.size), h3.mono fun e W'' ⟨g1, g2⟩ => ⟨g1, (hW.trans (h2.mono hW.size)).trans (g2.mono (hW.trans (h2.mono hW.size)).size)⟩, h4.mono fun e W'' ⟨g1, g2⟩ => ⟨g1, (hW.trans (h2.mono hW.size)).trans (g2.mono (hW.trans (h2.mono hW.size)).size)⟩⟩
  subst hx
  have hr1 : (R != 0) = true := bne_iff_ne.2 h0
  have hr2 : (R == 0) = false := beq_eq_false_iff_ne.2 h0
  simp only at HO
  clear hRr hO hL hT
  clear up
  go_enter Tryz.func3, Tryz.ntmps3
  go_wp2_with (first
   | (rw [← hW1]; clear hW1)
   | (go_at_call 8; (with_reducible refine (HA.out _ hb).mono ?_); clear hb; rintro e w2 ⟨rfl, hb⟩; clear f0 f1 f2 f3 f4 f5 f6 f7 f8 f9 f10; obtain ⟨f0, f1, f2, f3, f4, f5, f6, f7, f8, f9, f10⟩ := HG.out _ hb)
   | (go_at_call 9; (with_reducible refine (HS.out _ hb).mono ?_); clear hb; rintro e w2 ⟨rfl, hb⟩; clear f0 f1 f2 f3 f4 f5 f6 f7 f8 f9 f10; obtain ⟨f0, f1, f2, f3, f4, f5, f6, f7, f8, f9, f10⟩ := HG.out _ hb)
   | (go_at_call 10; (with_reducible refine (HRr.out _ hb).mono ?_); clear hb; rintro e w2 ⟨rfl, hb⟩; clear f0 f1 f2 f3 f4 f5 f6 f7 f8 f9 f10; obtain ⟨f0, f1, f2, f3, f4, f5, f6, f7, f8, f9, f10⟩ := HG.out _ hb)
   | (go_at_call 12; (with_reducible refine (HO.out _ hb).mono ?_); clear hb; rintro e w2 ⟨v6, v7, v8, rfl, hb, hk⟩; have HK := Lib.hid hk; clear hk; clear f0 f1 f2 f3 f4 f5 f6 f7 f8 f9 f10; obtain ⟨f0, f1, f2, f3, f4, f5, f6, f7, f8, f9, f10⟩ := HG.out _ hb)
   | (go_at_call 11; (with_reducible refine HK.out.1.mono ?_); clear HK hb; rintro e w2 ⟨rfl, hb⟩; clear f0 f1 f2 f3 f4 f5 f6 f7 f8 f9 f10; obtain ⟨f0, f1, f2, f3, f4, f5, f6, f7, f8, f9, f10⟩ := HG.out _ hb)
   | (go_at_call 13; (with_reducible refine HK.out.2.mono ?_); clear HK hb; rintro e w2 ⟨rfl, hb⟩; clear f0 f1 f2 f3 f4 f5 f6 f7 f8 f9 f10; obtain ⟨f0, f1, f2, f3, f4, f5, f6, f7, f8, f9, f10⟩ := HG.out _ hb)
   | (go_at_call 14; (with_reducible refine (HL.out _ hb).mono ?_); clear hb; rintro e w2 ⟨rfl, hb⟩; clear f0 f1 f2 f3 f4 f5 f6 f7 f8 f9 f10; obtain ⟨f0, f1, f2, f3, f4, f5, f6, f7, f8, f9, f10⟩ := HG.out _ hb)
   | (go_at_call 15; (with_reducible refine (HT.out _ hb).mono ?_); clear hb; rintro e w2 ⟨rfl, hb⟩; clear f0 f1 f2 f3 f4 f5 f6 f7 f8 f9 f10; obtain ⟨f0, f1, f2, f3, f4, f5, f6, f7, f8, f9, f10⟩ := HG.out _ hb)
   | fail)
  go_ret
  exact ⟨by simp, hbw.out.trans (hb.mono hbw.out.size)⟩
 ·
  have HRr : Hid (∀ W, Below W1.heap.size W1 W → Calls Tryz.prog 10 #[.agg #[.string nm, .int .i64 ta, .int .i64 pa, .int .i64 kk, .int .i64 n, .int .i64 fu, .slice A6 l6.length c6, .slice A7 l7.length c7, .slice A8 l8.length c8, .string fo, .bool cb]] W fun e W' => e = .returned (.int .i64 R) ∧ Below W1.heap.size W1 W') := Lib.hid fun W hW => (hRr rfl W (up W hW)).mono fun e W' ⟨h1, h2⟩ => ⟨h1, hW.trans (h2.mono hW.size)⟩
  have HO : Hid (∀ W, Below W1.heap.size W1 W → Calls Tryz.prog 12 #[.agg #[.string nm, .int .i64 ta, .int .i64 pa, .int .i64 kk, .int .i64 n, .int .i64 fu, .slice A6 l6.length c6, .slice A7 l7.length c7, .slice A8 l8.length c8, .string fo, .bool cb]] W fun e W' => ∃ v6 v7 v8, e = .returned (.agg #[.string nm, .int .i64 ta, .int .i64 pa, .int .i64 kk, .int .i64 n, .int .i64 fu, v6, v7, v8, .string fo, .bool cb]) ∧ Below W1.heap.size W1 W' ∧ (Calls Tryz.prog 11 #[.agg #[.string nm, .int .i64 ta, .int .i64 pa, .int .i64 kk, .int .i64 n, .int .i64 fu, v6, v7, v8, .string fo, .bool cb]] W' fun e W'' => e = .returned (.tuple #[.string x.1, .int .i64 x.2]) ∧ Below W1.heap.size W1 W'') ∧ (Calls Tryz.prog 13 #[.agg #[.string nm, .int .i64 ta, .int .i64 pa, .int .i64 kk, .int .i64 n, .int .i64 fu, v6, v7, v8, .string fo, .bool cb]] W' fun e W'' => e = .returned (.int .i64 R) ∧ Below W1.heap.size W1 W'')) := Lib.hid fun W hW => (hO rfl W (up W hW)).mono fun e W' ⟨v6, v7, v8, h1, h2, h3, h4⟩ => ⟨v6, v7, v8, h1, hW.trans (h2.mono hW.size), h3.mono fun e W'' ⟨g1, g2⟩ => ⟨g1, (hW.trans (h2.mono hW.size)).trans (g2.mono (hW.trans (h2.mono hW.size)).size)⟩, h4.mono fun e W'' ⟨g1, g2⟩ => ⟨g1, (hW.trans (h2.mono hW.size)).trans (g2.mono (hW.trans (h2.mono hW.size)).size)⟩⟩
  have HL : Hid (∀ W, Below W1.heap.size W1 W → Calls Tryz.prog 14 #[.agg #[.string nm, .int .i64 ta, .int .i64 pa, .int .i64 kk, .int .i64 n, .int .i64 fu, .slice A6 l6.length c6, .slice A7 l7.length c7, .slice A8 l8.length c8, .string fo, .bool cb]] W fun e W' => e = .returned (.bool b) ∧ Below W1.heap.size W1 W') := Lib.hid fun W hW => (hL rfl h0 W (up W hW)).mono fun e W' ⟨h1, h2⟩ => ⟨h1, hW.trans (h2.mono hW.size)⟩
  have HT : Hid (∀ W, Below W1.heap.size W1 W → Calls Tryz.prog 15 #[.agg #[.string nm, .int .i64 ta, .int .i64 pa, .int .i64 kk, .int .i64 n, .int .i64 fu, .slice A6 l6.length c6, .slice A7 l7.length c7, .slice A8 l8.length c8, .string fo, .bool cb]] W fun e W' => e = .returned (.string T) ∧ Below W1.heap.size W1 W') := Lib.hid fun W hW => (hT rfl h0 W (up W hW)).mono fun e W' ⟨h1, h2⟩ => ⟨h1, hW.trans (h2.mono hW.size)⟩
  subst h0 hbb hx
  simp only at HO
  clear hRr hO hL hT
  clear up
  go_enter Tryz.func3, Tryz.ntmps3
  go_wp2_with (first
   | (rw [← hW1]; clear hW1)
   | (go_at_call 8; (with_reducible refine (HA.out _ hb).mono ?_); clear hb; rintro e w2 ⟨rfl, hb⟩; clear f0 f1 f2 f3 f4 f5 f6 f7 f8 f9 f10; obtain ⟨f0, f1, f2, f3, f4, f5, f6, f7, f8, f9, f10⟩ := HG.out _ hb)
   | (go_at_call 9; (with_reducible refine (HS.out _ hb).mono ?_); clear hb; rintro e w2 ⟨rfl, hb⟩; clear f0 f1 f2 f3 f4 f5 f6 f7 f8 f9 f10; obtain ⟨f0, f1, f2, f3, f4, f5, f6, f7, f8, f9, f10⟩ := HG.out _ hb)
   | (go_at_call 10; (with_reducible refine (HRr.out _ hb).mono ?_); clear hb; rintro e w2 ⟨rfl, hb⟩; clear f0 f1 f2 f3 f4 f5 f6 f7 f8 f9 f10; obtain ⟨f0, f1, f2, f3, f4, f5, f6, f7, f8, f9, f10⟩ := HG.out _ hb)
   | (go_at_call 12; (with_reducible refine (HO.out _ hb).mono ?_); clear hb; rintro e w2 ⟨v6, v7, v8, rfl, hb, hk⟩; have HK := Lib.hid hk; clear hk; clear f0 f1 f2 f3 f4 f5 f6 f7 f8 f9 f10; obtain ⟨f0, f1, f2, f3, f4, f5, f6, f7, f8, f9, f10⟩ := HG.out _ hb)
   | (go_at_call 11; (with_reducible refine HK.out.1.mono ?_); clear HK hb; rintro e w2 ⟨rfl, hb⟩; clear f0 f1 f2 f3 f4 f5 f6 f7 f8 f9 f10; obtain ⟨f0, f1, f2, f3, f4, f5, f6, f7, f8, f9, f10⟩ := HG.out _ hb)
   | (go_at_call 13; (with_reducible refine HK.out.2.mono ?_); clear HK hb; rintro e w2 ⟨rfl, hb⟩; clear f0 f1 f2 f3 f4 f5 f6 f7 f8 f9 f10; obtain ⟨f0, f1, f2, f3, f4, f5, f6, f7, f8, f9, f10⟩ := HG.out _ hb)
   | (go_at_call 14; (with_reducible refine (HL.out _ hb).mono ?_); clear hb; rintro e w2 ⟨rfl, hb⟩; clear f0 f1 f2 f3 f4 f5 f6 f7 f8 f9 f10; obtain ⟨f0, f1, f2, f3, f4, f5, f6, f7, f8, f9, f10⟩ := HG.out _ hb)
   | (go_at_call 15; (with_reducible refine (HT.out _ hb).mono ?_); clear hb; rintro e w2 ⟨rfl, hb⟩; clear f0 f1 f2 f3 f4 f5 f6 f7 f8 f9 f10; obtain ⟨f0, f1, f2, f3, f4, f5, f6, f7, f8, f9, f10⟩ := HG.out _ hb)
   | fail)
  go_ret
  exact ⟨by simp, hbw.out.trans (hb.mono hbw.out.size)⟩
 ·
  have HRr : Hid (∀ W, Below W1.heap.size W1 W → Calls Tryz.prog 10 #[.agg #[.string nm, .int .i64 ta, .int .i64 pa, .int .i64 kk, .int .i64 n, .int .i64 fu, .slice A6 l6.length c6, .slice A7 l7.length c7, .slice A8 l8.length c8, .string fo, .bool cb]] W fun e W' => e = .returned (.int .i64 R) ∧ Below W1.heap.size W1 W') := Lib.hid fun W hW => (hRr rfl W (up W hW)).mono fun e W' ⟨h1, h2⟩ => ⟨h1, hW.trans (h2.mono hW.size)⟩
  have HO : Hid (∀ W, Below W1.heap.size W1 W → Calls Tryz.prog 12 #[.agg #[.string nm, .int .i64 ta, .int .i64 pa, .int .i64 kk, .int .i64 n, .int .i64 fu, .slice A6 l6.length c6, .slice A7 l7.length c7, .slice A8 l8.length c8, .string fo, .bool cb]] W fun e W' => ∃ v6 v7 v8, e = .returned (.agg #[.string nm, .int .i64 ta, .int .i64 pa, .int .i64 kk, .int .i64 n, .int .i64 fu, v6, v7, v8, .string fo, .bool cb]) ∧ Below W1.heap.size W1 W' ∧ (Calls Tryz.prog 11 #[.agg #[.string nm, .int .i64 ta, .int .i64 pa, .int .i64 kk, .int .i64 n, .int .i64 fu, v6, v7, v8, .string fo, .bool cb]] W' fun e W'' => e = .returned (.tuple #[.string x.1, .int .i64 x.2]) ∧ Below W1.heap.size W1 W'') ∧ (Calls Tryz.prog 13 #[.agg #[.string nm, .int .i64 ta, .int .i64 pa, .int .i64 kk, .int .i64 n, .int .i64 fu, v6, v7, v8, .string fo, .bool cb]] W' fun e W'' => e = .returned (.int .i64 R) ∧ Below W1.heap.size W1 W'')) := Lib.hid fun W hW => (hO rfl W (up W hW)).mono fun e W' ⟨v6, v7, v8, h1, h2, h3, h4⟩ => ⟨v6, v7, v8, h1, hW.trans (h2.mono hW.size), h3.mono fun e W'' ⟨g1, g2⟩ => ⟨g1, (hW.trans (h2.mono hW.size)).trans (g2.mono (hW.trans (h2.mono hW.size)).size)⟩, h4.mono fun e W'' ⟨g1, g2⟩ => ⟨g1, (hW.trans (h2.mono hW.size)).trans (g2.mono (hW.trans (h2.mono hW.size)).size)⟩⟩
  have HL : Hid (∀ W, Below W1.heap.size W1 W → Calls Tryz.prog 14 #[.agg #[.string nm, .int .i64 ta, .int .i64 pa, .int .i64 kk, .int .i64 n, .int .i64 fu, .slice A6 l6.length c6, .slice A7 l7.length c7, .slice A8 l8.length c8, .string fo, .bool cb]] W fun e W' => e = .returned (.bool b) ∧ Below W1.heap.size W1 W') := Lib.hid fun W hW => (hL rfl h0 W (up W hW)).mono fun e W' ⟨h1, h2⟩ => ⟨h1, hW.trans (h2.mono hW.size)⟩
  have HT : Hid (∀ W, Below W1.heap.size W1 W → Calls Tryz.prog 15 #[.agg #[.string nm, .int .i64 ta, .int .i64 pa, .int .i64 kk, .int .i64 n, .int .i64 fu, .slice A6 l6.length c6, .slice A7 l7.length c7, .slice A8 l8.length c8, .string fo, .bool cb]] W fun e W' => e = .returned (.string T) ∧ Below W1.heap.size W1 W') := Lib.hid fun W hW => (hT rfl h0 W (up W hW)).mono fun e W' ⟨h1, h2⟩ => ⟨h1, hW.trans (h2.mono hW.size)⟩
  subst h0 hbb hx
  simp only at HO
  clear hRr hO hL hT
  clear up
  go_enter Tryz.func3, Tryz.ntmps3
  go_wp2_with (first
   | (rw [← hW1]; clear hW1)
   | (go_at_call 8; (with_reducible refine (HA.out _ hb).mono ?_); clear hb; rintro e w2 ⟨rfl, hb⟩; clear f0 f1 f2 f3 f4 f5 f6 f7 f8 f9 f10; obtain ⟨f0, f1, f2, f3, f4, f5, f6, f7, f8, f9, f10⟩ := HG.out _ hb)
   | (go_at_call 9; (with_reducible refine (HS.out _ hb).mono ?_); clear hb; rintro e w2 ⟨rfl, hb⟩; clear f0 f1 f2 f3 f4 f5 f6 f7 f8 f9 f10; obtain ⟨f0, f1, f2, f3, f4, f5, f6, f7, f8, f9, f10⟩ := HG.out _ hb)
   | (go_at_call 10; (with_reducible refine (HRr.out _ hb).mono ?_); clear hb; rintro e w2 ⟨rfl, hb⟩; clear f0 f1 f2 f3 f4 f5 f6 f7 f8 f9 f10; obtain ⟨f0, f1, f2, f3, f4, f5, f6, f7, f8, f9, f10⟩ := HG.out _ hb)
   | (go_at_call 12; (with_reducible refine (HO.out _ hb).mono ?_); clear hb; rintro e w2 ⟨v6, v7, v8, rfl, hb, hk⟩; have HK := Lib.hid hk; clear hk; clear f0 f1 f2 f3 f4 f5 f6 f7 f8 f9 f10; obtain ⟨f0, f1, f2, f3, f4, f5, f6, f7, f8, f9, f10⟩ := HG.out _ hb)
   | (go_at_call 11; (with_reducible refine HK.out.1.mono ?_); clear HK hb; rintro e w2 ⟨rfl, hb⟩; clear f0 f1 f2 f3 f4 f5 f6 f7 f8 f9 f10; obtain ⟨f0, f1, f2, f3, f4, f5, f6, f7, f8, f9, f10⟩ := HG.out _ hb)
   | (go_at_call 13; (with_reducible refine HK.out.2.mono ?_); clear HK hb; rintro e w2 ⟨rfl, hb⟩; clear f0 f1 f2 f3 f4 f5 f6 f7 f8 f9 f10; obtain ⟨f0, f1, f2, f3, f4, f5, f6, f7, f8, f9, f10⟩ := HG.out _ hb)
   | (go_at_call 14; (with_reducible refine (HL.out _ hb).mono ?_); clear hb; rintro e w2 ⟨rfl, hb⟩; clear f0 f1 f2 f3 f4 f5 f6 f7 f8 f9 f10; obtain ⟨f0, f1, f2, f3, f4, f5, f6, f7, f8, f9, f10⟩ := HG.out _ hb)
   | (go_at_call 15; (with_reducible refine (HT.out _ hb).mono ?_); clear hb; rintro e w2 ⟨rfl, hb⟩; clear f0 f1 f2 f3 f4 f5 f6 f7 f8 f9 f10; obtain ⟨f0, f1, f2, f3, f4, f5, f6, f7, f8, f9, f10⟩ := HG.out _ hb)
   | fail)
  go_ret
  exact ⟨by simp, hbw.out.trans (hb.mono hbw.out.size)⟩
end Go.Proofs.YtejbpnhondpnfaaGreat.PJob
namespace Go.Proofs.YtejbpnhondpnfaaGreat
open Go.RowKit
set_option maxRecDepth 100000
set_option maxHeartbeats 4000000 in
theorem large_any (nm : ByteArray) (ta pa kk n fu : Int) (A6 A7 A8 : Option Addr) (n6 n7 n8 c6 c7 c8 : Nat) (fo : ByteArray) (cb : Bool) (w : World) (t6 t7 t8 T : ByteArray)
  (h6 : ∀ W, Below w.heap.size w W → Calls Tryz.prog 39 #[.slice A6 n6 c6, .int .i64 0] W fun e W' => e = .returned (.string t6) ∧ Below W.heap.size W W')
  (h7 : 0 < n7 → ∀ W, Below w.heap.size w W → Calls Tryz.prog 39 #[.slice A7 n7 c7, .int .i64 0] W fun e W' => e = .returned (.string t7) ∧ Below W.heap.size W W')
  (h8 : 0 < n8 → ∀ W, Below w.heap.size w W → Calls Tryz.prog 39 #[.slice A8 n8 c8, .int .i64 0] W fun e W' => e = .returned (.string t8) ∧ Below W.heap.size W W')
  (hT : ∀ W, Below w.heap.size w W → Calls Tryz.prog 15 #[.agg #[.string nm, .int .i64 ta, .int .i64 pa, .int .i64 kk, .int .i64 n, .int .i64 fu, .slice A6 n6 c6, .slice A7 n7 c7, .slice A8 n8 c8, .string fo, .bool cb]] W fun e W' => e = .returned (.string T) ∧ Below W.heap.size W W') :
  Calls Tryz.prog 14 #[.agg #[.string nm, .int .i64 ta, .int .i64 pa, .int .i64 kk, .int .i64 n, .int .i64 fu, .slice A6 n6 c6, .slice A7 n7 c7, .slice A8 n8 c8, .string fo, .bool cb]] w fun e w' => e = .returned (.bool (decide (4096 < t6.size ∨ (0 < n7 ∧ 4096 < t7.size) ∨ (0 < n8 ∧ 4096 < t8.size) ∨ 4096 < T.size))) ∧ Below w.heap.size w w' := by
 obtain ⟨W1, hW1⟩ : ∃ W1, W1 = w.alloc (.cells (jbA ⟨nm, ta, pa, kk, n, fu, fo, cb⟩ A6 A7 A8 n6 c6 n7 c7 n8 c8) 24) := ⟨_, rfl⟩
 have hg : W1.heap[w.heap.size]? = some (.cells (jbA ⟨nm, ta, pa, kk, n, fu, fo, cb⟩ A6 A7 A8 n6 c6 n7 c7 n8 c8) 24 (0, 0)) := by rw [hW1]; exact heap_alloc_new w _
 have hb1 : Below w.heap.size w W1 := by rw [hW1]; exact (Below.refl _ w).alloc (Nat.le_refl _) _
 have hlt := (Array.getElem?_eq_some_iff.1 hg).1
 have HG : Hid (∀ W, Below W1.heap.size W1 W → JF ⟨nm, ta, pa, kk, n, fu, fo, cb⟩ A6 A7 A8 n6 c6 n7 c7 n8 c8 w.heap.size W) := Lib.hid fun W hW => jf_at ((hW.block _ hlt).trans hg)
 have up : ∀ W, Below W1.heap.size W1 W → Below w.heap.size w W := fun W hW => hb1.trans (hW.mono hb1.size)
 have H6 : Hid (∀ W, Below W1.heap.size W1 W → Calls Tryz.prog 39 #[.slice A6 n6 c6, .int .i64 0] W fun e W' => e = .returned (.string t6) ∧ Below W1.heap.size W1 W') := Lib.hid fun W hW => (h6 W (up W hW)).mono fun e W' ⟨h1, h2⟩ => ⟨h1, hW.trans (h2.mono hW.size)⟩
 have H7 : Hid (0 < n7 → ∀ W, Below W1.heap.size W1 W → Calls Tryz.prog 39 #[.slice A7 n7 c7, .int .i64 0] W fun e W' => e = .returned (.string t7) ∧ Below W1.heap.size W1 W') := Lib.hid fun h W hW => (h7 h W (up W hW)).mono fun e W' ⟨h1, h2⟩ => ⟨h1, hW.trans (h2.mono hW.size)⟩
 have H8 : Hid (0 < n8 → ∀ W, Below W1.heap.size W1 W → Calls Tryz.prog 39 #[.slice A8 n8 c8, .int .i64 0] W fun e W' => e = .returned (.string t8) ∧ Below W1.heap.size W1 W') := Lib.hid fun h W hW => (h8 h W (up W hW)).mono fun e W' ⟨h1, h2⟩ => ⟨h1, hW.trans (h2.mono hW.size)⟩
 have HT : Hid (∀ W, Below W1.heap.size W1 W → Calls Tryz.prog 15 #[.agg #[.string nm, .int .i64 ta, .int .i64 pa, .int .i64 kk, .int .i64 n, .int .i64 fu, .slice A6 n6 c6, .slice A7 n7 c7, .slice A8 n8 c8, .string fo, .bool cb]] W fun e W' => e = .returned (.string T) ∧ Below W1.heap.size W1 W') := Lib.hid fun W hW => (hT W (up W hW)).mono fun e W' ⟨h1, h2⟩ => ⟨h1, hW.trans (h2.mono hW.size)⟩
 have hbw := Lib.hid hb1
 have hb := Below.refl W1.heap.size W1
 obtain ⟨f0, f1, f2, f3, f4, f5, f6, f7, f8, f9, f10⟩ := HG.out _ hb
 unfold jbA at hW1
 simp only at hW1 f0 f1 f2 f3 f4 f5 f6 f7 f8 f9 f10
 obtain ⟨B, hB⟩ : ∃ B, B = decide (4096 < t6.size ∨ (0 < n7 ∧ 4096 < t7.size) ∨ (0 < n8 ∧ 4096 < t8.size) ∨ 4096 < T.size) := ⟨_, rfl⟩
 rw [← hB]
 have yes : (4096 < t6.size ∨ (0 < n7 ∧ 4096 < t7.size) ∨ (0 < n8 ∧ 4096 < t8.size) ∨ 4096 < T.size) → B = true := fun h => by rw [hB]; exact decide_eq_true h
 have no : ¬ (4096 < t6.size ∨ (0 < n7 ∧ 4096 < t7.size) ∨ (0 < n8 ∧ 4096 < t8.size) ∨ 4096 < T.size) → B = false := fun h => by rw [hB]; exact decide_eq_false h
 clear hB h6 h7 h8 hT hg hlt up
 by_cases c6 : 4096 < t6.size
 ·
  have d6 : (4096 : Int) < (t6.size : Int) := by omega
  have e : B = true := yes (.inl c6)
  have HE := Lib.hid e
  clear e yes no
  go_enter Tryz.func14, Tryz.ntmps14
  go_wp2_with (first
   | (rw [← hW1]; clear hW1)
   | (go_at_call 39; (with_reducible refine (H6.out _ hb).mono ?_); clear hb; rintro e w2 ⟨rfl, hb⟩; clear f0 f1 f2 f3 f4 f5 f6 f7 f8 f9 f10; obtain ⟨f0, f1, f2, f3, f4, f5, f6, f7, f8, f9, f10⟩ := HG.out _ hb)
   | fail)
  go_ret
  exact ⟨by rw [HE.out]; first | done | rfl | (simp; done) | (simp; omega), hbw.out.trans (hb.mono hbw.out.size)⟩
 have d6 : ¬ (4096 : Int) < (t6.size : Int) := by omega
 by_cases z7 : 0 < n7
 ·
  have Z7 := Lib.hid z7
  have i7 : (0 : Int) < (n7 : Int) := by omega
  by_cases c7 : 4096 < t7.size
  ·
   have d7 : (4096 : Int) < (t7.size : Int) := by omega
   have e : B = true := yes (.inr (.inl ⟨z7, c7⟩))
   have HE := Lib.hid e
   clear e yes no
   go_enter Tryz.func14, Tryz.ntmps14
   go_wp2_with (first
    | (rw [← hW1]; clear hW1)
    | (go_at_call 39; (with_reducible refine (H6.out _ hb).mono ?_); clear hb; rintro e w2 ⟨rfl, hb⟩; clear f0 f1 f2 f3 f4 f5 f6 f7 f8 f9 f10; obtain ⟨f0, f1, f2, f3, f4, f5, f6, f7, f8, f9, f10⟩ := HG.out _ hb)
    | (go_at_call 39; (with_reducible refine (H7.out Z7.out _ hb).mono ?_); clear hb; rintro e w2 ⟨rfl, hb⟩; clear f0 f1 f2 f3 f4 f5 f6 f7 f8 f9 f10; obtain ⟨f0, f1, f2, f3, f4, f5, f6, f7, f8, f9, f10⟩ := HG.out _ hb)
    | fail)
   go_ret
   exact ⟨by rw [HE.out]; first | done | rfl | (simp; done) | (simp; omega), hbw.out.trans (hb.mono hbw.out.size)⟩
  have d7 : ¬ (4096 : Int) < (t7.size : Int) := by omega
  by_cases z8 : 0 < n8
  ·
   have Z8 := Lib.hid z8
   have i8 : (0 : Int) < (n8 : Int) := by omega
   by_cases c8 : 4096 < t8.size
   ·
    have d8 : (4096 : Int) < (t8.size : Int) := by omega
    have e : B = true := yes (.inr (.inr (.inl ⟨z8, c8⟩)))
    have HE := Lib.hid e
    clear e yes no
    go_enter Tryz.func14, Tryz.ntmps14
    go_wp2_with (first
     | (rw [← hW1]; clear hW1)
     | (go_at_call 39; (with_reducible refine (H6.out _ hb).mono ?_); clear hb; rintro e w2 ⟨rfl, hb⟩; clear f0 f1 f2 f3 f4 f5 f6 f7 f8 f9 f10; obtain ⟨f0, f1, f2, f3, f4, f5, f6, f7, f8, f9, f10⟩ := HG.out _ hb)
     | (go_at_call 39; (with_reducible refine (H7.out Z7.out _ hb).mono ?_); clear hb; rintro e w2 ⟨rfl, hb⟩; clear f0 f1 f2 f3 f4 f5 f6 f7 f8 f9 f10; obtain ⟨f0, f1, f2, f3, f4, f5, f6, f7, f8, f9, f10⟩ := HG.out _ hb)
     | (go_at_call 39; (with_reducible refine (H8.out Z8.out _ hb).mono ?_); clear hb; rintro e w2 ⟨rfl, hb⟩; clear f0 f1 f2 f3 f4 f5 f6 f7 f8 f9 f10; obtain ⟨f0, f1, f2, f3, f4, f5, f6, f7, f8, f9, f10⟩ := HG.out _ hb)
     | fail)
    go_ret
    exact ⟨by rw [HE.out]; first | done | rfl | (simp; done) | (simp; omega), hbw.out.trans (hb.mono hbw.out.size)⟩
   have d8 : ¬ (4096 : Int) < (t8.size : Int) := by omega
   by_cases cT : 4096 < T.size
   ·
    have dT : (4096 : Int) < (T.size : Int) := by omega
    have e : B = true := yes (.inr (.inr (.inr cT)))
    have HE := Lib.hid e
    clear e yes no
    go_enter Tryz.func14, Tryz.ntmps14
    go_wp2_with (first
     | (rw [← hW1]; clear hW1)
     | (go_at_call 39; (with_reducible refine (H6.out _ hb).mono ?_); clear hb; rintro e w2 ⟨rfl, hb⟩; clear f0 f1 f2 f3 f4 f5 f6 f7 f8 f9 f10; obtain ⟨f0, f1, f2, f3, f4, f5, f6, f7, f8, f9, f10⟩ := HG.out _ hb)
     | (go_at_call 39; (with_reducible refine (H7.out Z7.out _ hb).mono ?_); clear hb; rintro e w2 ⟨rfl, hb⟩; clear f0 f1 f2 f3 f4 f5 f6 f7 f8 f9 f10; obtain ⟨f0, f1, f2, f3, f4, f5, f6, f7, f8, f9, f10⟩ := HG.out _ hb)
     | (go_at_call 39; (with_reducible refine (H8.out Z8.out _ hb).mono ?_); clear hb; rintro e w2 ⟨rfl, hb⟩; clear f0 f1 f2 f3 f4 f5 f6 f7 f8 f9 f10; obtain ⟨f0, f1, f2, f3, f4, f5, f6, f7, f8, f9, f10⟩ := HG.out _ hb)
     | (go_at_call 15; (with_reducible refine (HT.out _ hb).mono ?_); clear hb; rintro e w2 ⟨rfl, hb⟩; clear f0 f1 f2 f3 f4 f5 f6 f7 f8 f9 f10; obtain ⟨f0, f1, f2, f3, f4, f5, f6, f7, f8, f9, f10⟩ := HG.out _ hb)
     | fail)
    go_ret
    exact ⟨by rw [HE.out]; first | done | rfl | (simp; done) | (simp; omega), hbw.out.trans (hb.mono hbw.out.size)⟩
   ·
    have dT : ¬ (4096 : Int) < (T.size : Int) := by omega
    have e : B = false := no (by rintro (h | h | h | h); exact c6 h; exact c7 h.2; exact c8 h.2; exact cT h)
    have HE := Lib.hid e
    clear e yes no
    go_enter Tryz.func14, Tryz.ntmps14
    go_wp2_with (first
     | (rw [← hW1]; clear hW1)
     | (go_at_call 39; (with_reducible refine (H6.out _ hb).mono ?_); clear hb; rintro e w2 ⟨rfl, hb⟩; clear f0 f1 f2 f3 f4 f5 f6 f7 f8 f9 f10; obtain ⟨f0, f1, f2, f3, f4, f5, f6, f7, f8, f9, f10⟩ := HG.out _ hb)
     | (go_at_call 39; (with_reducible refine (H7.out Z7.out _ hb).mono ?_); clear hb; rintro e w2 ⟨rfl, hb⟩; clear f0 f1 f2 f3 f4 f5 f6 f7 f8 f9 f10; obtain ⟨f0, f1, f2, f3, f4, f5, f6, f7, f8, f9, f10⟩ := HG.out _ hb)
     | (go_at_call 39; (with_reducible refine (H8.out Z8.out _ hb).mono ?_); clear hb; rintro e w2 ⟨rfl, hb⟩; clear f0 f1 f2 f3 f4 f5 f6 f7 f8 f9 f10; obtain ⟨f0, f1, f2, f3, f4, f5, f6, f7, f8, f9, f10⟩ := HG.out _ hb)
     | (go_at_call 15; (with_reducible refine (HT.out _ hb).mono ?_); clear hb; rintro e w2 ⟨rfl, hb⟩; clear f0 f1 f2 f3 f4 f5 f6 f7 f8 f9 f10; obtain ⟨f0, f1, f2, f3, f4, f5, f6, f7, f8, f9, f10⟩ := HG.out _ hb)
     | fail)
    go_ret
    exact ⟨by rw [HE.out]; first | done | rfl | (simp; done) | (simp; omega), hbw.out.trans (hb.mono hbw.out.size)⟩
  ·
   have i8 : ¬ (0 : Int) < (n8 : Int) := by omega
   by_cases cT : 4096 < T.size
   ·
    have dT : (4096 : Int) < (T.size : Int) := by omega
    have e : B = true := yes (.inr (.inr (.inr cT)))
    have HE := Lib.hid e
    clear e yes no
    go_enter Tryz.func14, Tryz.ntmps14
    go_wp2_with (first
     | (rw [← hW1]; clear hW1)
     | (go_at_call 39; (with_reducible refine (H6.out _ hb).mono ?_); clear hb; rintro e w2 ⟨rfl, hb⟩; clear f0 f1 f2 f3 f4 f5 f6 f7 f8 f9 f10; obtain ⟨f0, f1, f2, f3, f4, f5, f6, f7, f8, f9, f10⟩ := HG.out _ hb)
     | (go_at_call 39; (with_reducible refine (H7.out Z7.out _ hb).mono ?_); clear hb; rintro e w2 ⟨rfl, hb⟩; clear f0 f1 f2 f3 f4 f5 f6 f7 f8 f9 f10; obtain ⟨f0, f1, f2, f3, f4, f5, f6, f7, f8, f9, f10⟩ := HG.out _ hb)
     | (go_at_call 15; (with_reducible refine (HT.out _ hb).mono ?_); clear hb; rintro e w2 ⟨rfl, hb⟩; clear f0 f1 f2 f3 f4 f5 f6 f7 f8 f9 f10; obtain ⟨f0, f1, f2, f3, f4, f5, f6, f7, f8, f9, f10⟩ := HG.out _ hb)
     | fail)
    go_ret
    exact ⟨by rw [HE.out]; first | done | rfl | (simp; done) | (simp; omega), hbw.out.trans (hb.mono hbw.out.size)⟩
   ·
    have dT : ¬ (4096 : Int) < (T.size : Int) := by omega
    have e : B = false := no (by rintro (h | h | h | h); exact c6 h; exact c7 h.2; exact z8 h.1; exact cT h)
    have HE := Lib.hid e
    clear e yes no
    go_enter Tryz.func14, Tryz.ntmps14
    go_wp2_with (first
     | (rw [← hW1]; clear hW1)
     | (go_at_call 39; (with_reducible refine (H6.out _ hb).mono ?_); clear hb; rintro e w2 ⟨rfl, hb⟩; clear f0 f1 f2 f3 f4 f5 f6 f7 f8 f9 f10; obtain ⟨f0, f1, f2, f3, f4, f5, f6, f7, f8, f9, f10⟩ := HG.out _ hb)
     | (go_at_call 39; (with_reducible refine (H7.out Z7.out _ hb).mono ?_); clear hb; rintro e w2 ⟨rfl, hb⟩; clear f0 f1 f2 f3 f4 f5 f6 f7 f8 f9 f10; obtain ⟨f0, f1, f2, f3, f4, f5, f6, f7, f8, f9, f10⟩ := HG.out _ hb)
     | (go_at_call 15; (with_reducible refine (HT.out _ hb).mono ?_); clear hb; rintro e w2 ⟨rfl, hb⟩; clear f0 f1 f2 f3 f4 f5 f6 f7 f8 f9 f10; obtain ⟨f0, f1, f2, f3, f4, f5, f6, f7, f8, f9, f10⟩ := HG.out _ hb)
     | fail)
    go_ret
    exact ⟨by rw [HE.out]; first | done | rfl | (simp; done) | (simp; omega), hbw.out.trans (hb.mono hbw.out.size)⟩
 ·
  have i7 : ¬ (0 : Int) < (n7 : Int) := by omega
  by_cases z8 : 0 < n8
  ·
   have Z8 := Lib.hid z8
   have i8 : (0 : Int) < (n8 : Int) := by omega
   by_cases c8 : 4096 < t8.size
   ·
    have d8 : (4096 : Int) < (t8.size : Int) := by omega
    have e : B = true := yes (.inr (.inr (.inl ⟨z8, c8⟩)))
    have HE := Lib.hid e
    clear e yes no
    go_enter Tryz.func14, Tryz.ntmps14
    go_wp2_with (first
     | (rw [← hW1]; clear hW1)
     | (go_at_call 39; (with_reducible refine (H6.out _ hb).mono ?_); clear hb; rintro e w2 ⟨rfl, hb⟩; clear f0 f1 f2 f3 f4 f5 f6 f7 f8 f9 f10; obtain ⟨f0, f1, f2, f3, f4, f5, f6, f7, f8, f9, f10⟩ := HG.out _ hb)
     | (go_at_call 39; (with_reducible refine (H8.out Z8.out _ hb).mono ?_); clear hb; rintro e w2 ⟨rfl, hb⟩; clear f0 f1 f2 f3 f4 f5 f6 f7 f8 f9 f10; obtain ⟨f0, f1, f2, f3, f4, f5, f6, f7, f8, f9, f10⟩ := HG.out _ hb)
     | fail)
    go_ret
    exact ⟨by rw [HE.out]; first | done | rfl | (simp; done) | (simp; omega), hbw.out.trans (hb.mono hbw.out.size)⟩
   have d8 : ¬ (4096 : Int) < (t8.size : Int) := by omega
   by_cases cT : 4096 < T.size
   ·
    have dT : (4096 : Int) < (T.size : Int) := by omega
    have e : B = true := yes (.inr (.inr (.inr cT)))
    have HE := Lib.hid e
    clear e yes no
    go_enter Tryz.func14, Tryz.ntmps14
    go_wp2_with (first
     | (rw [← hW1]; clear hW1)
     | (go_at_call 39; (with_reducible refine (H6.out _ hb).mono ?_); clear hb; rintro e w2 ⟨rfl, hb⟩; clear f0 f1 f2 f3 f4 f5 f6 f7 f8 f9 f10; obtain ⟨f0, f1, f2, f3, f4, f5, f6, f7, f8, f9, f10⟩ := HG.out _ hb)
     | (go_at_call 39; (with_reducible refine (H8.out Z8.out _ hb).mono ?_); clear hb; rintro e w2 ⟨rfl, hb⟩; clear f0 f1 f2 f3 f4 f5 f6 f7 f8 f9 f10; obtain ⟨f0, f1, f2, f3, f4, f5, f6, f7, f8, f9, f10⟩ := HG.out _ hb)
     | (go_at_call 15; (with_reducible refine (HT.out _ hb).mono ?_); clear hb; rintro e w2 ⟨rfl, hb⟩; clear f0 f1 f2 f3 f4 f5 f6 f7 f8 f9 f10; obtain ⟨f0, f1, f2, f3, f4, f5, f6, f7, f8, f9, f10⟩ := HG.out _ hb)
     | fail)
    go_ret
    exact ⟨by rw [HE.out]; first | done | rfl | (simp; done) | (simp; omega), hbw.out.trans (hb.mono hbw.out.size)⟩
   ·
    have dT : ¬ (4096 : Int) < (T.size : Int) := by omega
    have e : B = false := no (by rintro (h | h | h | h); exact c6 h; exact z7 h.1; exact c8 h.2; exact cT h)
    have HE := Lib.hid e
    clear e yes no
    go_enter Tryz.func14, Tryz.ntmps14
    go_wp2_with (first
     | (rw [← hW1]; clear hW1)
     | (go_at_call 39; (with_reducible refine (H6.out _ hb).mono ?_); clear hb; rintro e w2 ⟨rfl, hb⟩; clear f0 f1 f2 f3 f4 f5 f6 f7 f8 f9 f10; obtain ⟨f0, f1, f2, f3, f4, f5, f6, f7, f8, f9, f10⟩ := HG.out _ hb)
     | (go_at_call 39; (with_reducible refine (H8.out Z8.out _ hb).mono ?_); clear hb; rintro e w2 ⟨rfl, hb⟩; clear f0 f1 f2 f3 f4 f5 f6 f7 f8 f9 f10; obtain ⟨f0, f1, f2, f3, f4, f5, f6, f7, f8, f9, f10⟩ := HG.out _ hb)
     | (go_at_call 15; (with_reducible refine (HT.out _ hb).mono ?_); clear hb; rintro e w2 ⟨rfl, hb⟩; clear f0 f1 f2 f3 f4 f5 f6 f7 f8 f9 f10; obtain ⟨f0, f1, f2, f3, f4, f5, f6, f7, f8, f9, f10⟩ := HG.out _ hb)
     | fail)
    go_ret
    exact ⟨by rw [HE.out]; first | done | rfl | (simp; done) | (simp; omega), hbw.out.trans (hb.mono hbw.out.size)⟩
  ·
   have i8 : ¬ (0 : Int) < (n8 : Int) := by omega
   by_cases cT : 4096 < T.size
   ·
    have dT : (4096 : Int) < (T.size : Int) := by omega
    have e : B = true := yes (.inr (.inr (.inr cT)))
    have HE := Lib.hid e
    clear e yes no
    go_enter Tryz.func14, Tryz.ntmps14
    go_wp2_with (first
     | (rw [← hW1]; clear hW1)
     | (go_at_call 39; (with_reducible refine (H6.out _ hb).mono ?_); clear hb; rintro e w2 ⟨rfl, hb⟩; clear f0 f1 f2 f3 f4 f5 f6 f7 f8 f9 f10; obtain ⟨f0, f1, f2, f3, f4, f5, f6, f7, f8, f9, f10⟩ := HG.out _ hb)
     | (go_at_call 15; (with_reducible refine (HT.out _ hb).mono ?_); clear hb; rintro e w2 ⟨rfl, hb⟩; clear f0 f1 f2 f3 f4 f5 f6 f7 f8 f9 f10; obtain ⟨f0, f1, f2, f3, f4, f5, f6, f7, f8, f9, f10⟩ := HG.out _ hb)
     | fail)
    go_ret
    exact ⟨by rw [HE.out]; first | done | rfl | (simp; done) | (simp; omega), hbw.out.trans (hb.mono hbw.out.size)⟩
   ·
    have dT : ¬ (4096 : Int) < (T.size : Int) := by omega
    have e : B = false := no (by rintro (h | h | h | h); exact c6 h; exact z7 h.1; exact z8 h.1; exact cT h)
    have HE := Lib.hid e
    clear e yes no
    go_enter Tryz.func14, Tryz.ntmps14
    go_wp2_with (first
     | (rw [← hW1]; clear hW1)
     | (go_at_call 39; (with_reducible refine (H6.out _ hb).mono ?_); clear hb; rintro e w2 ⟨rfl, hb⟩; clear f0 f1 f2 f3 f4 f5 f6 f7 f8 f9 f10; obtain ⟨f0, f1, f2, f3, f4, f5, f6, f7, f8, f9, f10⟩ := HG.out _ hb)
     | (go_at_call 15; (with_reducible refine (HT.out _ hb).mono ?_); clear hb; rintro e w2 ⟨rfl, hb⟩; clear f0 f1 f2 f3 f4 f5 f6 f7 f8 f9 f10; obtain ⟨f0, f1, f2, f3, f4, f5, f6, f7, f8, f9, f10⟩ := HG.out _ hb)
     | fail)
    go_ret
    exact ⟨by rw [HE.out]; first | done | rfl | (simp; done) | (simp; omega), hbw.out.trans (hb.mono hbw.out.size)⟩
end Go.Proofs.YtejbpnhondpnfaaGreat
namespace Go.Proofs.YtejbpnhondpnfaaGreat.PJob
open Go.RowKit Go.Proofs.YtejbpnhondpnfaaGreatW.PrintWords Go.Proofs.YtejbpnhondpnfaaGreatW.PrintLast Go.Proofs.YtejbpnhondpnfaaGreatW.PrintMore
set_option maxRecDepth 100000
theorem plays_row {nm : ByteArray} {ta pa k n fu : Int} {A6 : Option Addr} {l6 : List S57} {c6 : Nat} {A7 : Option Addr} {l7 : List S57} {c7 : Nat} {A8 : Option Addr} {l8 : List S57} {c8 : Nat} {fo : ByteArray} {cb : Bool} {w : World}
  (r6 : Kd.C k57 w A6 l6.length l6) (s6 : l6.length ≤ c6) (r7 : Kd.C k57 w A7 l7.length l7) (s7 : l7.length ≤ c7) (r8 : Kd.C k57 w A8 l8.length l8) (s8 : l8.length ≤ c8) :
  Calls Tryz.prog 3 #[.agg #[.string nm, .int .i64 ta, .int .i64 pa, .int .i64 k, .int .i64 n, .int .i64 fu, .slice A6 l6.length c6, .slice A7 l7.length c7, .slice A8 l8.length c8, .string fo, .bool cb]] w fun e w' => e = .returned (.bool true) ∧ Below w.heap.size w w' := by
 obtain ⟨s, hs, hv⟩ := jl_small nm ta pa k n fu l6 l7 l8 fo cb
 obtain ⟨q, hq⟩ := Ev.rounds hv
 obtain ⟨R, hR⟩ : ∃ R, R = rightJ ⟨nm, ta, pa, k, n, fu, fo, cb⟩ (exprR (l6.map qaw)) (exprR (l7.map qaw)) (exprR (l8.map qaw)) (l6.map qaw) (l7.map qaw) (l8.map qaw) := ⟨_, rfl⟩
 obtain ⟨T, hT⟩ : ∃ T, T = refText ⟨nm, ta, pa, k, n, fu, fo, cb⟩ l7.length decV (textB (l6.map qaw)) (textB (l7.map qaw)) (textB (l8.map qaw)) := ⟨_, rfl⟩
 obtain ⟨b, hb⟩ : ∃ b, b = decide (4096 < (textB (l6.map qaw)).size ∨ (0 < l7.length ∧ 4096 < (textB (l7.map qaw)).size) ∨ (0 < l8.length ∧ 4096 < (textB (l8.map qaw)).size) ∨ 4096 < T.size) := ⟨_, rfl⟩
 obtain ⟨x, hx⟩ : ∃ x : ByteArray × Int, x = if R = 0 then (if b = true then (⟨#[]⟩, 3) else (T, 0)) else (⟨#[]⟩, R) := ⟨_, rfl⟩
 have small : s = 1 → l6.length < 200 ∧ l7.length < 200 ∧ l8.length < 200 := by
  intro h
  rcases hs with h0 | ⟨_, h1, h2, h3, _⟩
  ·
   omega
  ·
   exact ⟨h1, h2, h3⟩
 have hjr : s = 1 → rbg.f nm ta pa k n fu (l6.map convN) (l7.map convN) (l8.map convN) fo cb = some R := by
  intro h
  have := small h
  unfold rbg.f
  rw [if_pos (by simp only [List.length_map]; omega), convN_nd, convN_nd, convN_nd, ← hR]
 have hjw : s = 1 → rbn.f nm ta pa k n fu (l6.map convN) (l7.map convN) (l8.map convN) fo cb = some x := by
  intro h
  unfold rbn.f
  rw [hjr h]
  simp only [Option.bind_some, List.length_map]
  rw [hx]
  by_cases h0 : R = 0
  ·
   rw [if_pos h0, if_pos h0, jw_val nm ta pa k n fu l6 l7 l8 fo cb (by rw [← hR, h0]), ← hT]
   congr 1
   by_cases c : 4096 < (textB (l6.map qaw)).size ∨ (0 < l7.length ∧ 4096 < (textB (l7.map qaw)).size) ∨ (0 < l8.length ∧ 4096 < (textB (l8.map qaw)).size) ∨ 4096 < T.size
   ·
    rw [if_pos c, if_pos (by rw [hb]; exact decide_eq_true c)]
   ·
    rw [if_neg c, if_neg (by rw [hb]; simpa using c)]
  ·
   rw [if_neg h0, if_neg h0]
 refine plays_with nm ta pa k n fu A6 A7 A8 l6 l7 l8 c6 c7 c8 fo cb w s R x b T ?_ (fun W hW => rbh.calls true W jl_awake) (fun W hW => rae.calls q nm ta pa k n fu A6 c6 l6 A7 c7 l7 A8 c8 l8 fo cb s W (Kd.C_below r6 hW) s6 (Kd.C_below r7 hW) s7 (Kd.C_below r8 hW) s8 hq) (fun h W hW => ?_) (fun h W hW => ?_) (fun h h0 W hW => ?_) (fun h h0 W hW => ?_)
 ·
  rcases hs with h0 | ⟨h1, _⟩
  ·
   exact .inl h0
  ·
   by_cases h0 : R = 0
   ·
    rw [if_pos h0] at hx
    cases hbb : b with
    | true => rw [hbb] at hx; exact .inr (.inr (.inl ⟨h1, h0, rfl, hx⟩))
    | false => rw [hbb] at hx; exact .inr (.inr (.inr ⟨h1, h0, rfl, hx⟩))
   ·
    rw [if_neg h0] at hx
    exact .inr (.inl ⟨h1, h0, hx⟩)
 ·
  obtain ⟨z6, z7, z8⟩ := small h
  have hrr := rf_jobright nm ta pa k n fu l6 l7 l8 fo cb (by omega) (by omega) (by omega)
  rw [← hR] at hrr
  obtain ⟨q2, hq2⟩ := Ev.rounds hrr
  exact rab.calls q2 nm ta pa k n fu A6 c6 l6 A7 c7 l7 A8 c8 l8 fo cb R W (Kd.C_below r6 hW) s6 (Kd.C_below r7 hW) s7 (Kd.C_below r8 hW) s8 hq2
 ·
  obtain ⟨z6, z7, z8⟩ := small h
  obtain ⟨q2, hq2⟩ := Ev.rounds (jl_Of nm ta pa k n fu l6 l7 l8 fo cb (by omega) (by omega) (by omega))
  refine (ras.calls q2 nm ta pa k n fu A6 c6 l6 A7 c7 l7 A8 c8 l8 fo cb _ _ _ _ _ _ _ _ _ _ _ W (Kd.C_below r6 hW) s6 (Kd.C_below r7 hW) s7 (Kd.C_below r8 hW) s8 hq2).mono ?_
  rintro e W' ⟨v6, v7, v8, rfl, ho0, ho1, ho2, hB⟩
  obtain ⟨B6, d6, rfl, g6, k6⟩ := Kd.R_reads ho0
  obtain ⟨B7, d7, rfl, g7, k7⟩ := Kd.R_reads ho1
  obtain ⟨B8, d8, rfl, g8, k8⟩ := Kd.R_reads ho2
  refine ⟨_, _, _, rfl, hB, ?_, ?_⟩
  ·
   exact rbn.calls nm ta pa k n fu B6 d6 (l6.map convN) B7 d7 (l7.map convN) B8 d8 (l8.map convN) fo cb x.1 x.2 W' k6 g6 k7 g7 k8 g8 (hjw h)
  ·
   exact rbg.calls nm ta pa k n fu B6 d6 (l6.map convN) B7 d7 (l7.map convN) B8 d8 (l8.map convN) fo cb R W' k6 g6 k7 g7 k8 g8 (hjr h)
 ·
  have hR0 : rightJ ⟨nm, ta, pa, k, n, fu, fo, cb⟩ (exprR (l6.map qaw)) (exprR (l7.map qaw)) (exprR (l8.map qaw)) (l6.map qaw) (l7.map qaw) (l8.map qaw) = 0 := by rw [← hR, h0]
  obtain ⟨_, g2, g3, g4, _⟩ := right_zero hR0
  rw [List.length_map] at g3 g4
  have X : ∀ (A : Option Addr) (c : Nat) (l : List S57), exprR (l.map qaw) = true → Kd.C k57 w A l.length l → l.length ≤ c → ∀ W', Below W.heap.size W W' →
    Calls Tryz.prog 39 #[.slice A l.length c, .int .i64 0] W' fun e W'' => e = .returned (.string (textB (l.map qaw))) ∧ Below W'.heap.size W' W'' := by
   intro A c l hl hr hc W' hW'
   obtain ⟨q2, hq2⟩ := Ev.rounds (rf_textB l hl)
   exact rak.calls q2 A c l 0 _ W' (Kd.C_below hr (hW.trans (hW'.mono hW.size))) hc hq2
  rw [hb]
  refine large_any nm ta pa k n fu A6 A7 A8 l6.length l7.length l8.length c6 c7 c8 fo cb W _ _ _ T (X A6 c6 l6 g2 r6 s6) (fun h => X A7 c7 l7 (g3.resolve_left (by omega)) r7 s7) (fun h => X A8 c8 l8 (g4.resolve_left (by omega)) r8 s8) (fun W' hW' => ?_)
  have hWW := hW.trans (hW'.mono hW.size)
  exact rbc.calls nm ta pa k n fu A6 c6 l6 A7 c7 l7 A8 c8 l8 fo cb T W' (Kd.C_below r6 hWW) s6 (Kd.C_below r7 hWW) s7 (Kd.C_below r8 hWW) s8 (by rw [hT]; exact ref_write_val nm ta pa k n fu l6 l7 l8 fo cb hR0)
 ·
  exact rbc.calls nm ta pa k n fu A6 c6 l6 A7 c7 l7 A8 c8 l8 fo cb T W (Kd.C_below r6 hW) s6 (Kd.C_below r7 hW) s7 (Kd.C_below r8 hW) s8 (by rw [hT]; exact ref_write_val nm ta pa k n fu l6 l7 l8 fo cb (by rw [← hR, h0]))
end Go.Proofs.YtejbpnhondpnfaaGreat.PJob
namespace Go.Proofs.YtejbpnhondpnfaaGreat.jobPlays
open Go.ChangeShapes Go.WideShapes Go.ChangeAt Go.RowKit
open Go.ChangeMaps (open_string shut_string)
theorem own : ownKnob Tryz.prog.godebug = none := by kernel_rfl
theorem laidOut : laidOutB Tryz.prog = true := by kernel_rfl
set_option maxRecDepth 100000 in
theorem lifted (os : Os) (started : os.Started) (H : Type) (enc : TypeId × Value → H) :
  ReturnsInHanded {} Tryz.checked os 3 .any (Rows.jobPlaysSpec.pre6 enc Tryz.prog Tryz.f3 Rows.jobPlaysRow.domain false) (Rows.jobPlaysSpec.post enc Tryz.prog Tryz.f3 false true false false) := by
 refine returnsInHanded_of_change_sized (C := Tryz.checked) own started (by kernel_rfl) Tryz.func3
  (ChangeSpec.witness6 (enc := enc) (C := Tryz.checked) false ⟨#[], #[.agg #[.string ByteArray.empty, .int .i64 0, .int .i64 0, .int .i64 0, .int .i64 0, .int .i64 0, .slice none 0 0, .slice none 0 0, .slice none 0 0, .string ByteArray.empty, .bool false]], []⟩ 8 (by kernel_rfl) (by kernel_rfl) (by kernel_rfl) (by kernel_rfl)) ?_
 intro W base args ds gs before hval0 hW hcnd hsz0 _
 have hsz : (DataW.weightsEach Tryz.prog (Tryz.f3.params.toList ++ Rows.jobPlaysSpec.plain.varTypes Tryz.prog) (ds ++ gs)).all (· ≤ reachBytes) = true := hsz0
 have hval : ∀ (j : Nat) t v, Tryz.f3.params[j]? = some t → args[j]? = some v → Value.okWide Tryz.prog W .any base t v := hval0
 have hW' := hW
 obtain ⟨p, q, hA0, hV, rfl, hfz, hnd⟩ := hW
 have hA : DataW.TrodAll enc Tryz.prog W 0 (fun _ => true) true Tryz.f3.params.toList args.toList ds p := hA0
 rw [Tryz.params3] at hA hval hsz
 obtain ⟨v0, vs0, d0, ds0, p0, q0, hargs, rfl, rfl, h0, r0⟩ := trodAll_cons hA
 obtain ⟨rfl, rfl, rfl⟩ := trodAll_nil r0
 obtain rfl : args = #[v0] := by cases args; simp_all
 obtain ⟨rfl, rfl⟩ := trodVars_none hV
 have k0 := h0
 have lt0 : ∀ x ∈ p0, x.block < W.heap.size := by obtain ⟨m, hm⟩ := k0; exact DataW.trod_lt m _ _ _ hm
 obtain ⟨nm, ta, pa, kk, n, fu, A6, l6, c6, A7, l7, c7, A8, l8, c8, fo, cb, rfl, r6, s6, r7, s7, r8, s8⟩ := PJob.oj_job (okWide_struct Tryz.underlying24 (hval 0 24 v0 rfl rfl)) h0
 clear hA0 hval0 hsz0 hsz
 refine (PJob.plays_row r6 s6 r7 s7 r8 s8).mono fun e W' ⟨he, bel⟩ => ?_
 subst he
 exact ⟨_, rfl, _, _, _, [], _, [], hW', trodAll_mk1 (shut_bool Tryz.underlying4 _), (trodAll_cons_mk (Below.trod laidOut (by kernel_rfl) (of_decide_eq_true (by kernel_rfl)) k0 bel lt0) trodAll_mk0), rfl, bel.frame _, fun h => by cases h⟩
theorem over : Rows.jobPlaysRow.holds Tryz.pinned (OpenSpec.ofChange Rows.jobPlaysSpec) :=
 OpenClaim.holds_of_wide 3 Tryz.f3 rfl rfl rfl rfl rfl rfl rfl ⟨rfl, rfl, rfl, rfl, rfl⟩ rfl rfl rfl rfl rfl (by kernel_rfl) Tryz.func3 (by kernel_rfl)
  (of_decide_eq_true (by kernel_rfl)) (by unfold Func.isWrapper; first | (rw [if_pos (by decide +kernel)]; kernel_rfl) | (rw [if_neg (by decide +kernel)]; exact ⟨rfl, rfl⟩))
  (fun os started H enc _ => lifted os started H enc)
theorem proved : Rows.JobPlaysSaid := over
end Go.Proofs.YtejbpnhondpnfaaGreat.jobPlays
