/- The iterator over the texts under way (All), and the statement NetNil. -/
import Derived.Test.YtkcjhjoodincbaaNetH
import Derived.RangeFuncNested
import Derived.RangeFuncBound
import Derived.RangeFuncCalls
import Derived.RangeFuncLeaves
import Derived.RangeFuncBox
import Derived.Shelf.Abstract
import Derived.Shelf.RegionOpen
import Derived.OwnWalkIn
import Derived.TacticsInMore
import Derived.LoopNIn
import Derived.LoopIn

namespace Go.Proofs.Ytkcjhjoodincbaa
open Go.RowKit Go.Shelf
attribute [local go_sem] Oper.semAt_some

theorem clone_any (x : Value) (l : List ByteArray) (w : World) (h : StrsAt w x l) (hl : l.length ≤ 100000) :
    Calls Try.prog 25 #[x] w (NewStrs l w) := by
  obtain ⟨i0, hi0, hz0, hz1, hz2⟩ := info_parts Try.info9
  obtain ⟨a, c, rfl, hlc, hcm⟩ := h.val
  cases a with
  | none =>
    have hl0 : l = [] := by
      match l, h with
      | [], _ => rfl
      | s :: r, h =>
        obtain ⟨b, off, e, _⟩ := strs_cell h 0 s rfl
        cases e
    subst hl0
    have he := Lib.run_eql_slice_nil (P := Try.prog) w 27 9 none 0 c 0 0 Try.underlying27
    go_enter Try.func25, Try.ntmps25
    go_wp2
    go_ret
    exact ⟨_, rfl, World.ownsRow_nil _ _ _ _, Below.refl _ _⟩
  | some ad =>
    have hsrc := (h.below ((Below.refl w.heap.size w).alloc (Nat.le_refl _) (.cells #[] 9)) (Nat.le_refl _)).src l.length (Nat.le_refl _)
    rw [List.take_length] at hsrc
    have he := Lib.run_eql_slice_nil (P := Try.prog) w 27 9 (some ad) l.length c 0 0 Try.underlying27
    go_enter Try.func25, Try.ntmps25
    go_wp2_with (at_builtin; refine wpList_append_src rfl _ _ 27 27 rfl w.heap.size 9 i0 _ 1 16 Try.underlying27 hi0 hz0 hz1 hz2 rfl (by decide) _ _ _ rfl (own_empty w w.heap.size (Nat.le_refl _)) _ l.length _ rfl hsrc (by unfold maxLen; omega) (by omega) (by simp) ?_; intro vl w4 hown4 hchg4 hnew4)
    go_ret
    refine ⟨_, rfl, ?_, ?_⟩
    · simpa using hown4
    · exact ((Below.refl w.heap.size w).alloc (Nat.le_refl _) _).trans (hchg4.below (by simp) (fun i hi => (own_lt (own_empty w w.heap.size (Nat.le_refl _)) i hi).1))

/-- What a round keeps: the rows of cells that are not the caller's own. -/
def KpR (own : World → Nat → Prop) (W W' : World) : Prop :=
  W.heap.size ≤ W'.heap.size ∧ ∀ c o, W.heap[c]? = some o → o.isCells = true → ¬ own W c → W'.heap[c]? = some o ∧ ¬ own W' c

theorem KpR.trans {own : World → Nat → Prop} {A B C : World} (h : KpR own A B) (k : KpR own B C) : KpR own A C :=
  ⟨Nat.le_trans h.1 k.1, fun c o hc ho hn => by
    obtain ⟨h1, h2⟩ := h.2 c o hc ho hn
    exact k.2 c o h1 ho h2⟩

/-- What is asked of a caller's own blocks. -/
structure OwnOk (n₀ : Nat) (w : World) (own : World → Nat → Prop) : Prop where
  lt : ∀ W k, own W k → k < W.heap.size
  start : ∀ W k, Below w.heap.size w W → own W k → k < w.heap.size
  put : ∀ W l o o' k, n₀ ≤ l → W.heap[l]? = some o → o.isCells = false → own (W.putObj l o') k → own W k

theorem KpR.put {n₀ : Nat} {w : World} {own : World → Nat → Prop} (hO : OwnOk n₀ w own) (W : World) (l : Nat) (o o' : Obj) (hl : n₀ ≤ l) (h : W.heap[l]? = some o) (hc : o.isCells = false) : KpR own W (W.putObj l o') :=
  ⟨by simp [World.putObj], fun c u hu huc hn => ⟨by
    have hne : c ≠ l := by
      rintro rfl
      rw [h] at hu
      injection hu with hu
      subst hu
      rw [hc] at huc
      cases huc
    exact (World.putObj_heap_other (by omega)).trans hu, fun ho => hn (hO.put W l o o' c hl h hc ho)⟩⟩

theorem all_in (p0 : Option Addr) (w : World) :
    Calls Try.prog 13 #[.pointer p0] w fun e w' => e = .returned (.func (.func 24) #[] #[.pointer (some ⟨w.heap.size, 0, none⟩)]) ∧ w' = w.alloc (.cells #[.pointer p0] 24) := by
  have hmf : ∀ (fn : Fn) (first cap : Array Value) (w : World), (Instr.makeFunc fn first cap).run Try.prog w = .ok (.func fn first cap) w := fun _ _ _ _ => rfl
  go_enter Try.func13, Try.ntmps13
  go_wp2
  go_ret
  exact ⟨rfl, rfl⟩

set_option maxRecDepth 100000 in
set_option maxHeartbeats 2000000 in
theorem all1_nil (n : Nat) (l Bn : Nat) (W : World) (hBn : W.cell? ⟨Bn, 0, none⟩ = some (.pointer none)) :
    CallsIn Fence.wide n Try.prog 24 #[.func (.yield l) #[] #[], .pointer (some ⟨Bn, 0, none⟩)] W fun e W' => (∃ v, e = .returned v) ∧ W = W' := by
  refine callsIn_of_wp Try.func24 rfl trivial ?_ rfl
  simp only [Try.ntmps24, List.size_toArray, List.length_cons, List.length_nil, Nat.reduceAdd, Nat.reduceSub, Array.replicate_succ, Array.replicate_zero, List.push_toArray, List.append_toArray, List.nil_append, List.cons_append]
  gi_wp2
  refine bodyPost_ret (results_none rfl _ _ _) rfl ?_
  exact ⟨⟨_, rfl⟩, rfl⟩

/-- The law of a range over a function whose loop has no variable of its own to be assigned. -/
theorem wpIn_rangeFunc_skip {F : Fence} {n : Nat} {P : Program} {α : Type} {g : Operand} {ps : Array Tmp} {body : Code} {Q : Exit → Act → World → Prop} {a : Act} {w : World}
    (hro : F.round = none) (h1 : 1 ≤ n) {gf : Nat} {lb : Array Value} (hg : a.eval g = .func (.func gf) #[] lb) (hFg : F.fn gf) (eg : ∀ args w, (callFunc gf args).run P w = .ok (.enter gf args) w)
    {encs : α → Array Value} {Kp : World → World → Prop} {S Sp : List α → Prop} {N : Nat} {w0 : World} (hseq : SeqStopsK F (n - 1) P gf lb encs Kp S Sp N w0)
    (hKt : ∀ {A B C : World}, Kp A B → Kp B C → Kp A C) (hKb : ∀ (W : World) (l : Nat) (o o' : Obj), w.heap.size ≤ l → W.heap[l]? = some o → o.isCells = false → o.isWalk = false → Kp W (W.putObj l o')) (hb0 : Below w0.heap.size w0 w) (hps : ∀ x, (encs x).size = ps.size)
    (I : List α → World → Prop) (Ix : Code → List α → World → Prop) (hI : OwnFrom w.heap.size I) (hIx : ∀ c, OwnFrom w.heap.size (Ix c)) (h0 : I [] w)
    (hbody : ∀ (l : Nat) (pre : List α) (x : α) (W : World), I pre W → pre.length < N → body.wpIn (F.inRound l) (n - 1 - 1) P (ownPostK Kp I Ix (pre ++ [x]) W) { tmps := (ps.zip (encs x)).foldl (fun t (p, v) => t.setIfInBounds p v) a.tmps, defers := [] } W)
    (hdone : ∀ (D : Nat) (xs : List α) (W : World), w.heap.size ≤ D → S xs → I xs W → W.heap[D]? = some (.deferred (some [])) → Q .normal { a with defers := { target := .collected D, args := #[] } :: a.defers } W)
    (hstop : ∀ (D : Nat) (c : Code) (pre : List α) (W : World), w.heap.size ≤ D → Sp pre → Ix c pre W → W.heap[D]? = some (.deferred (some [])) → c.wpIn F n P Q { a with defers := { target := .collected D, args := #[] } :: a.defers } W) :
    (Code.rangeFunc g ps .skip body).wpIn F n P Q a w :=
  wpIn_rangeFunc_ownF hro h1 hg hFg eg hseq hKt hKb hb0 hps I Ix hI hIx h0 (fun x => { tmps := (ps.zip (encs x)).foldl (fun t (p, v) => t.setIfInBounds p v) a.tmps, defers := [] })
    (fun l x W K hK => wpIn_skip (F := F.inRound l) hK) hbody hdone hstop

theorem spoil_nil (n m b : Int) (w : World) :
    Calls Try.prog 21 #[.pointer none, .int .i64 n, .int .i64 m, .int .u8 b] w fun e w' => e = .returned (.bool false) ∧ w = w' := by
  go_enter Try.func21, Try.ntmps21
  go_wp2_with (first
    | (go_at_call 23; refine (place_nil n w).mono ?_; rintro e w' ⟨rfl, rfl⟩))
  go_ret
  exact ⟨rfl, rfl⟩

theorem nil_stops (n : Nat) (Bn : Nat) (w : World) (hBn : Bn < w.heap.size) (hc : w.cell? ⟨Bn, 0, none⟩ = some (.pointer none)) (n₀ : Nat) :
    SeqStopsK Fence.wide n Try.prog 24 #[.pointer (some ⟨Bn, 0, none⟩)] (fun x : ByteArray => #[Value.string x]) (Below n₀) (fun ys => ys = []) (fun _ => False) 0 w := fun l J Jx W hW _ _ hY h0 =>
  (all1_nil n l Bn W ((hW.cell (p := ⟨Bn, 0, none⟩) hBn).trans hc)).mono fun _ _ ⟨hv, hw⟩ => ⟨hv, .inl ⟨[], rfl, hw ▸ h0⟩⟩

set_option maxRecDepth 100000 in
set_option maxHeartbeats 4000000 in
theorem nil_in (a : Int) (w : World) :
    CallsIn Fence.wide 5 Try.prog 7 #[.int .i64 a] w fun e w' => e = .returned (.bool true) ∧ Below w.heap.size w w' := by
  refine callsIn_of_wp_marks Try.func7 rfl trivial ?_ rfl
  simp only [Try.ntmps7, List.size_toArray, List.length_cons, List.length_nil, Nat.reduceAdd, Nat.reduceSub, Array.replicate_succ, Array.replicate_zero, List.push_toArray, List.append_toArray, List.nil_append, List.cons_append]
  gi_wp2_with (first
    | (refine ⟨trivial, ?_⟩; gi_at_call 8; refine (callsIn_wide.2 (awake_any _)).mono ?_; rintro e w1 ⟨rfl, hb1⟩)
    | (refine ⟨trivial, ?_⟩; gi_at_call 15; refine (callsIn_wide.2 (take_nil _ _)).mono ?_; rintro e w2 ⟨rfl, rfl⟩)
    | (refine ⟨trivial, ?_⟩; gi_at_call 13; refine (callsIn_wide.2 (all_in _ _)).mono ?_; rintro e w3 ⟨rfl, rfl⟩))
  have hsz1 : w.heap.size + 1 ≤ w1.heap.size := by have := hb1.size; simpa using this
  have hbx := Boxed.new w1 24 (.pointer none)
  have hres : (w1.alloc (.cells #[.pointer none] 24)).heap[w.heap.size]? = some (.cells #[.bool false] 4 (0, 0)) := (Below.heap_alloc w1 _ _ (by omega)).trans ((hb1.block _ (by simp)).trans (heap_alloc_new w _))
  have hB0 : Below w.heap.size w (w1.alloc (.cells #[.pointer none] 24)) := (((Below.refl w.heap.size w).alloc (Nat.le_refl _) _).trans (hb1.mono (by simp))).alloc (by omega) _
  refine wpIn_rangeFunc_skip rfl (by omega) (gf := 24) (lb := #[.pointer (some ⟨w1.heap.size, 0, none⟩)]) rfl trivial (enters_of Try.func24 (by kernel_rfl) rfl)
    (nil_stops (5 - 1) w1.heap.size (w1.alloc (.cells #[.pointer none] 24)) (by simp) hbx.cell w.heap.size) belowK_t (belowK_b (by simp; omega)) (Below.refl _ _) (fun _ => rfl)
    (fun _ W => W.heap[w.heap.size]? = some (.cells #[.bool false] 4 (0, 0)) ∧ Below w.heap.size w W) (fun _ _ _ => False)
    ?own (fun _ _ _ _ _ hs _ _ => hs) ⟨hres, hB0⟩ ?body ?done ?stop
  case own =>
    rintro s A B row ⟨h1, h2⟩ hg hr
    refine ⟨(hg.block _ (by have := h2.size; have := (Array.getElem?_eq_some_iff.1 h1).1; omega) (fun e => by have := (hr _ e.symm).1; simp at this; omega)).trans h1, h2.grown hg h2.size (fun k e => by have := (hr k e).1; simp at this; omega)⟩
  case body =>
    intro l pre x W _ hl
    omega
  case done =>
    rintro D ys W hD rfl ⟨hr, hB⟩ hK
    have hc0 := one_cell hr
    have hf0 := one_free hr
    have hlt : w.heap.size < W.heap.size := (Array.getElem?_eq_some_iff.1 hr).1
    have hr1 : (W.alloc (.cells #[.string ⟨#[97]⟩] 9)).heap[w.heap.size]? = some (.cells #[.bool false] 4 (0, 0)) := (Below.heap_alloc W _ _ hlt).trans hr
    have hc1 := one_cell hr1
    have hf1 := one_free hr1
    gi_wp2_with (first
      | (refine ⟨trivial, ?_⟩; gi_at_call 10; refine (callsIn_wide.2 (send_nil _ _)).mono ?_; rintro e w2 ⟨rfl, rfl⟩)
      | (refine ⟨trivial, ?_⟩; gi_at_call 20; refine (callsIn_wide.2 (drop_nil _ _)).mono ?_; rintro e w2 ⟨rfl, rfl⟩)
      | (refine ⟨trivial, ?_⟩; gi_at_call 12; refine (callsIn_wide.2 (twice_nil _ _)).mono ?_; rintro e w2 ⟨rfl, rfl⟩)
      | (refine ⟨trivial, ?_⟩; gi_at_call 21; refine (callsIn_wide.2 (spoil_nil _ _ _ _)).mono ?_; rintro e w2 ⟨rfl, rfl⟩)
      | (refine ⟨trivial, ?_⟩; gi_at_call 17; refine (callsIn_wide.2 (move_nil _ _ _)).mono ?_; rintro e w2 ⟨rfl, rfl⟩)
      | (refine ⟨trivial, ?_⟩; gi_at_call 11; refine (callsIn_wide.2 (len_nil _)).mono ?_; rintro e w2 ⟨rfl, rfl⟩))
    obtain ⟨W2, hW2⟩ : ∃ W2, W2 = (W.setCell ⟨w.heap.size, 0, none⟩ (.bool true)).alloc (.cells #[.string ⟨#[97]⟩] 9) := ⟨_, rfl⟩
    have hK' : W2.heap[D]? = some (.deferred (some [])) := by
      rw [hW2]
      exact ((KeepsOthers.setCell W ⟨w.heap.size, 0, none⟩ (.bool true)).trans (KeepsOthers.alloc _ _)).same D _ hK rfl
    have hc2 : W2.cell? ⟨w.heap.size, 0, none⟩ = some (.bool true) := by rw [hW2]; exact one_cell ((Below.heap_alloc _ _ _ (by simpa [World.setCell] using hlt)).trans (one_set hr _))
    have hb2 : Below w.heap.size w W2 := by rw [hW2]; exact (hB.setCell (p := ⟨w.heap.size, 0, none⟩) (Nat.le_refl _) _).alloc (by simpa [World.setCell] using hB.size) _
    rw [← hW2]
    refine ⟨by simp, .inl ⟨_, _, rfl, run_takeDeferred hK', ?_⟩⟩
    have hc5 := cell_kept hc2 (grownBy_putObj' _ D (.deferred none)) (fun r e => by cases e; exact ⟨_, hK', rfl⟩)
    refine ⟨.bool true, ?_, rfl, hb2.trans (belowK_b (w := w) (Nat.le_refl _) _ D _ _ (by simp at hD; omega) hK' rfl rfl)⟩
    simp [results, Try.f7, go_sem, hc5]
  case stop =>
    rintro D c pre W _ _ h _
    exact h.elim

theorem nil_walk {a : Int} {w : World} (_ : (Lit.int .i64 a).wf = true) :
    Calls Try.prog 7 #[.int .i64 a] w fun e w' => e = .returned (.bool true) ∧ Below w.heap.size w w' := callsIn_wide.1 (nil_in a w)

end Go.Proofs.Ytkcjhjoodincbaa
