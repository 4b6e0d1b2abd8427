/- The statement NetOrder: sent in order, and taken at 0 always, all come in order. -/
import Derived.Test.YtkcjhjoodincbaaNetJ
import Derived.Deep.QuietTactic
import Derived.BigQuiet
namespace Go.Proofs.Ytkcjhjoodincbaa
open Go.RowKit Go.Shelf
attribute [local go_sem] Oper.semAt_some

/-- append, from whatever source, for the walk in company. -/
theorem wpListIn_append_src {F : Fence} {nn : Nat} {P : Program} {ops : Array Oper} {rest : List Oper} {o : Oper} {a : Act} {w : World} {Q : Exit → Act → World → Prop}
    (hg : o.guard = none) (s y : Operand) (t tx : TypeId) (hop : o.op = Op.call { callee := Callee.builtin Builtin.append, args := #[s, y], argTypes := #[t, tx] })
    (base : Nat) (e : TypeId) (i : TypeInfo) (z : Value) (size bytes : Nat) (ht : P.underlying t = some (.slice e)) (hi : P.info? e = some i) (hz : i.zero = some z)
    (hsize : i.size = size) (hby : i.bytes = bytes) (hzs : z.cells.size = size) (hsz : 0 < size)
    (v : Value) (n : Nat) (xs : List Value) (hv : a.eval s = v) (hown : w.ownsRow base e size v n xs) (x : Value) (m : Nat) (news : List Value) (hx : a.eval y = x) (hs : Src P size tx x m news w)
    (h63 : n + m ≤ maxLen) (hbytes : (n + m) * bytes ≤ 140737488355328) (hbase : base ≤ w.heap.size)
    (hK : ∀ v' w', w'.ownsRow base e size v' (n + m) (xs ++ news) → Chg (fun k => some k = v.ownBlock) w w' → (v'.ownBlock = v.ownBlock ∨ v'.ownBlock = some w.heap.size) → wpListIn F nn P ops Q rest (a.put o.dst v') w') :
    wpListIn F nn P ops Q (o :: rest) a w := by
  refine wpListIn_plain hg fun K hK' => ?_
  obtain ⟨v', w', hr, h2, h3, h4⟩ := run_append_src (P := P) w base t tx o.type e i z size bytes ht hi hz hsize hby hzs hsz v n xs hown x m news hs h63 hbytes hbase
  unfold Oper.wpIn
  refine ⟨?_, ?_⟩
  · simp [Oper.about, hop, resolve, Target.leads, Sem.run_pure]
  · rw [Oper.semAt_plain F _ _ (by rw [hop]; intro c hc'; cases hc')]
    simp [execOp, hop, resolve, invoke, builtin, hv, hx, hr, Result.andThen]
    exact hK' _ _ (hK v' w' h2 h3 h4)

set_option maxHeartbeats 1000000 in
theorem same_any (x y : Value) (l : List ByteArray) (w : World) (hx : StrsAt w x l) (hy : StrsAt w y l) :
    Calls Try.prog 14 #[x, y] w fun e w' => e = .returned (.bool true) ∧ ∃ m, w' = w.drewN m := by
  obtain ⟨a1, c1, rfl, h1, h2⟩ := hx.val
  obtain ⟨a2, c2, rfl, h3, h4⟩ := hy.val
  unfold maxLen at h2 h4
  have hq : ((l.length : Int) != (l.length : Int)) = false := by simp
  go_enter Try.func14, Try.ntmps14
  go_wp2
  go_loopw [5] (fun i wr => ∃ (k m : Nat), k ≤ l.length ∧ i = .int .i64 k ∧ wr = w.drewN m) (fun i _ => l.length - (intOf i).toNat)
  case atStart => exact ⟨0, 0, by omega, rfl, rfl⟩
  case round =>
    obtain ⟨k, m, hk, rfl, rfl⟩ := hrel
    by_cases hlt : k < l.length
    · obtain ⟨b1, o1, rfl, k1⟩ := strs_cell hx k l[k] (List.getElem?_eq_getElem hlt)
      obtain ⟨b2, o2, rfl, k2⟩ := strs_cell hy k l[k] (List.getElem?_eq_getElem hlt)
      have hq2 : (l[k].toList != l[k].toList) = false := by simp
      go_wp2
      go_quiet (fail)
      go_wp2
      go_roundw
      case rel => exact ⟨k + 1, _, by omega, by go_num, rfl⟩
      case measure => simp [intOf]; omega
    · go_wp2
      go_ret
      exact ⟨rfl, _, rfl⟩

theorem order_first (x0 : Value) (l : List ByteArray) (w : World) (h0 : StrsAt w x0 l) (hl : 100 < l.length) :
    Calls Try.prog 4 #[x0] w fun e w' => e = .returned (.bool true) ∧ Below w.heap.size w w' := by
  obtain ⟨a0, c0, rfl, hlc0, hcm0⟩ := h0.val
  unfold maxLen at hcm0
  have hd : decide ((100 : Int) < (l.length : Int)) = true := decide_eq_true (by omega)
  go_enter Try.func4, Try.ntmps4
  go_wp2_with fail
  refine (awake_any _).mono ?_
  rintro e w1 ⟨rfl, hb1⟩
  go_wp2_with fail
  refine (awake_any _).mono ?_
  rintro e w2 ⟨rfl, hb2⟩
  go_wp2_with fail
  go_ret
  exact ⟨rfl, hb1.trans (hb2.mono hb1.size)⟩

/-- The caller's own blocks: a variable in memory, and the row that the slice in it leads to. -/
def boxOwn (B : Nat) (W : World) (k : Nat) : Prop := k < W.heap.size ∧ (k = B ∨ ∃ v, W.cell? ⟨B, 0, none⟩ = some v ∧ v.ownBlock = some k)

theorem boxOwn_ok (B : Nat) (w : World) (hB : B < w.heap.size) (v : Value) (hv : w.cell? ⟨B, 0, none⟩ = some v) (ho : ∀ k, v.ownBlock = some k → k < w.heap.size) : OwnOk (B + 1) w (boxOwn B) where
  lt := fun W k h => h.1
  start := fun W k hb h => by
    rcases h with ⟨h1, rfl | ⟨v', hv', hk⟩⟩
    · exact hB
    · rw [hb.cell (p := ⟨B, 0, none⟩) hB, hv] at hv'
      injection hv' with e
      subst e
      exact ho k hk
  put := fun W l o o' k hl h hc ho => by
    rcases ho with ⟨h1, rfl | ⟨v, hv, hk⟩⟩
    · exact ⟨by simpa [World.putObj] using h1, .inl rfl⟩
    · have e : (W.putObj l o').cell? ⟨B, 0, none⟩ = W.cell? ⟨B, 0, none⟩ := World.cell?_of_block (w := W) (World.putObj_heap_other (by show B ≠ l; omega))
      rw [e] at hv
      exact ⟨by simpa [World.putObj] using h1, .inr ⟨v, hv, hk⟩⟩

theorem step_deferred {w w' : World} {p D : Nat} {v v' : Value} {l l' : List ByteArray} {o : Obj} (hs : NetStep p v w w' v' l') (hn : NetAt w p v l) (hK : w.heap[D]? = some o) (ho : o.isCells = false) : w'.heap[D]? = some o := by
  refine (hs.chg.block D (Array.getElem?_eq_some_iff.1 hK).1 (fun hS => ?_)).trans hK
  rcases hS with rfl | hS
  · rw [hn.at_] at hK
    injection hK with hK
    subst hK
    cases ho
  · rcases hn.own.2 with ⟨rfl, _⟩ | ⟨g, c, cur, rfl, _, hg, _⟩
    · simp [Value.ownBlock] at hS
    · simp [Value.ownBlock] at hS
      subst hS
      rw [hg] at hK
      injection hK with hK
      subst hK
      cases ho

theorem NetAt.drewN {w : World} {b : Nat} {v : Value} {l : List ByteArray} (h : NetAt w b v l) (m : Nat) : NetAt (w.drewN m) b v l := ⟨h.at_, h.own, h.few⟩

theorem OwnOk.kput {n₀ : Nat} {w : World} {own : World → Nat → Prop} (hO : OwnOk n₀ w own) (W : World) (l : Nat) (o o' : Obj) (hl : n₀ ≤ l) (h : W.heap[l]? = some o) (hc : o.isCells = false) : KpR own W (W.putObj l o') := KpR.put hO W l o o' hl h hc

theorem round_keeps {B : Nat} {W w1 : World} {o : Obj} {v v' : Value} {n n' : Nat} {xs xs' : List Value} (h1 : W.heap[B]? = some (.cells #[v] 27 (0, 0))) (h2 : W.ownsRow (B + 1) 9 1 v n xs)
    (hch : Chg (fun k => some k = v.ownBlock) (W.alloc o) w1) (ho : w1.ownsRow (B + 1) 9 1 v' n' xs') (hnew : v'.ownBlock = v.ownBlock ∨ v'.ownBlock = some (W.alloc o).heap.size) :
    w1.heap[B]? = some (.cells #[v] 27 (0, 0)) ∧ KeepsOthers W (w1.setCell ⟨B, 0, none⟩ v') ∧ KpR (boxOwn B) W (w1.setCell ⟨B, 0, none⟩ v') ∧
      (w1.setCell ⟨B, 0, none⟩ v').heap[B]? = some (.cells #[v'] 27 (0, 0)) ∧ (w1.setCell ⟨B, 0, none⟩ v').ownsRow (B + 1) 9 1 v' n' xs' ∧ Below B W (w1.setCell ⟨B, 0, none⟩ v') := by
  have hBl : B < W.heap.size := (Array.getElem?_eq_some_iff.1 h1).1
  have ho2 := World.ownsRow.alloc h2 o
  have hw1 : w1.heap[B]? = some (.cells #[v] 27 (0, 0)) := (hch.block B (by simp; omega) (fun hk => by have := own_lt ho2 B hk; omega)).trans ((Below.heap_alloc W o B hBl).trans h1)
  have hko : KeepsOthers (W.alloc o) w1 := ⟨hch.size, fun k u hk hu => by
    refine (hch.block k (Array.getElem?_eq_some_iff.1 hk).1 (fun e => ?_)).trans hk
    rcases ho2.2 with ⟨rfl, _⟩ | ⟨g, c, cur, rfl, _, hg, _⟩
    · simp [Value.ownBlock] at e
    · simp [Value.ownBlock] at e
      subst e
      rw [hg] at hk
      injection hk with hk
      subst hk
      cases hu⟩
  have hcell : W.cell? ⟨B, 0, none⟩ = some v := one_cell h1
  have hset := one_set hw1 v'
  have hcell' : (w1.setCell ⟨B, 0, none⟩ v').cell? ⟨B, 0, none⟩ = some v' := one_cell hset
  have hsz : W.heap.size + 1 ≤ w1.heap.size := by have := hch.size; simpa using this
  refine ⟨hw1, ((KeepsOthers.alloc W o).trans hko).trans (KeepsOthers.setCell _ _ _), ⟨by simp [World.setCell]; omega, fun c u hc hu hn => ?_⟩, hset, own_set ho _, ?_⟩
  · have hcl : c < W.heap.size := (Array.getElem?_eq_some_iff.1 hc).1
    have hcB : c ≠ B := fun e => hn ⟨hcl, .inl e⟩
    have hcv : v.ownBlock ≠ some c := fun e => hn ⟨hcl, .inr ⟨v, hcell, e⟩⟩
    refine ⟨?_, fun hown => ?_⟩
    · rw [Below.heap_setCell _ _ _ _ hcB, hch.block c (by simp; omega) (fun e => hcv e.symm), Below.heap_alloc W o c hcl]
      exact hc
    · rcases hown with ⟨_, rfl | ⟨u', hu', hk'⟩⟩
      · exact hcB rfl
      · rw [hcell'] at hu'
        injection hu' with hu'
        subst hu'
        rcases hnew with e | e
        · exact hcv (e ▸ hk')
        · rw [e] at hk'
          injection hk' with hk'
          simp at hk'
          omega
  · exact (((Below.refl B W).alloc (by omega) o).trans (hch.below (by simp; omega) (fun i hi => by have := own_lt ho2 i hi; omega))).setCell (p := ⟨B, 0, none⟩) (Nat.le_refl _) _

set_option maxRecDepth 100000 in
set_option maxHeartbeats 4000000 in
theorem order_in (x0 : Value) (l : List ByteArray) (w : World) (h0 : StrsAt w x0 l) (hl : l.length ≤ 100) :
    CallsIn Fence.wide 7 Try.prog 4 #[x0] w fun e w' => e = .returned (.bool true) ∧ Below w.heap.size w w' := by
  obtain ⟨a0, c0, rfl, hlc0, hcm0⟩ := h0.val
  unfold maxLen at hcm0
  have hd : decide ((100 : Int) < (l.length : Int)) = false := decide_eq_false (by omega)
  have hq : ((l.length : Int) != (l.length : Int)) = false := by simp
  refine callsIn_of_wp_marks Try.func4 rfl trivial ?_ rfl
  simp only [Try.ntmps4, List.size_toArray, List.length_cons, List.length_nil, Nat.reduceAdd, Nat.reduceSub, Array.replicate_succ, Array.replicate_zero, List.push_toArray, List.append_toArray, List.nil_append, List.cons_append]
  gi_wp2_with fail
  refine ⟨trivial, (callsIn_wide.2 (awake_any _)).mono ?_⟩
  rintro e w1 ⟨rfl, hb1⟩
  gi_wp2_with fail
  refine ⟨trivial, (callsIn_wide.2 (new_any _)).mono ?_⟩
  rintro e w2 ⟨rfl, hn, hc⟩
  obtain ⟨p, hp⟩ : ∃ p, p = w1.heap.size := ⟨_, rfl⟩
  rw [← hp] at hn ⊢
  have hp1 : w.heap.size ≤ p := by have := hb1.size; omega
  have hb2 : Below w1.heap.size w1 w2 := hc.below (Nat.le_refl _) (fun i hi => hi.elim)
  have h01 := (h0.below hb1 (Nat.le_refl _)).below hb2 (Nat.le_refl _)
  clear hp
  gi_wp2_with fail
  refine ⟨trivial, (callsIn_wide.2 (send_any p _ [] _ l _ hn h01 l.length (by simp; omega))).mono ?_⟩
  rintro e w3 ⟨rfl, v3, hs3⟩
  have hb3 : Below w.heap.size w w3 := hb1.trans ((hb2.mono hb1.size).trans (hs3.below hn hp1))
  have hn3 := hs3.at_
  rw [List.take_length, List.nil_append] at hn3
  gi_wp2_with fail
  refine ⟨trivial, (callsIn_wide.2 (len_any p v3 l w3 hn3)).mono ?_⟩
  rintro e w4 ⟨rfl, rfl⟩
  gi_wp2_with fail
  refine ⟨trivial, (callsIn_wide.2 (all_in _ _)).mono ?_⟩
  rintro e w5 ⟨rfl, rfl⟩
  gi_wp2_with fail
  have bG := Boxed.new w3 27 (.slice none 0 0)
  have bN := Boxed.new (w3.alloc (.cells #[.slice none 0 0] 27)) 24 (.pointer (some ⟨p, 0, none⟩))
  rw [World.size_alloc] at bN
  have hpl : p < w3.heap.size := (Array.getElem?_eq_some_iff.1 hn3.at_).1
  have hvl : ∀ g, v3.ownBlock = some g → g < w3.heap.size := fun g hg => (own_lt hn3.own g hg.symm).2
  have hB0 : Below w3.heap.size w3 ((w3.alloc (.cells #[.slice none 0 0] 27)).alloc (.cells #[.pointer (some ⟨p, 0, none⟩)] 24)) := ((Below.refl _ w3).alloc (Nat.le_refl _) _).alloc (by simp) _
  have hG0 : ((w3.alloc (.cells #[.slice none 0 0] 27)).alloc (.cells #[.pointer (some ⟨p, 0, none⟩)] 24)).heap[w3.heap.size]? = some (.cells #[.slice none 0 0] 27 (0, 0)) := (Below.heap_alloc _ _ _ (by simp)).trans (heap_alloc_new w3 _)
  have hOk := boxOwn_ok w3.heap.size ((w3.alloc (.cells #[.slice none 0 0] 27)).alloc (.cells #[.pointer (some ⟨p, 0, none⟩)] 24)) (by simp; omega) _ (one_cell hG0) (fun k hk => by simp [Value.ownBlock] at hk)
  have hst := all_stops (7 - 1) (by omega) (w3.heap.size + 1) p v3 l (w3.heap.size + 1) (boxOwn w3.heap.size) ((w3.alloc (.cells #[.slice none 0 0] 27)).alloc (.cells #[.pointer (some ⟨p, 0, none⟩)] 24)) hOk (by simp) bN.cell (hn3.below hB0 hpl hvl)
  obtain ⟨i0, hi0, hz0, hz1, hz2⟩ := info_parts Try.info9
  refine wpIn_rangeFunc_ownF rfl (by omega) (gf := 24) (lb := #[.pointer (some ⟨w3.heap.size + 1, 0, none⟩)]) rfl trivial (enters_of Try.func24 (by kernel_rfl) rfl)
    hst KpR.trans (fun W lx o o' hl' ho hoc _ => hOk.kput W lx o o' (by simp at hl'; omega) ho hoc) (Below.refl _ _) (fun _ => rfl)
    (fun pre W => (∃ v, W.heap[w3.heap.size]? = some (.cells #[v] 27 (0, 0)) ∧ W.ownsRow (w3.heap.size + 1) 9 1 v pre.length (pre.map Value.string)) ∧ Below w3.heap.size w3 W) (fun _ _ _ => False)
    ?own (fun _ _ _ _ _ hs _ _ => hs) ⟨⟨_, hG0, World.ownsRow_nil _ _ _ _⟩, hB0⟩
    (fun x => { tmps := #[.slice a0 l.length c0, undef, .bool false, .pointer (some ⟨p, 0, none⟩), .pointer (some ⟨w3.heap.size, 0, none⟩), .string x, undef, undef, undef, undef, undef, .bool true, .bool false, .bool false, .slice a0 l.length c0, .int .i64 l.length, .bool false, .bool false, undef, .pointer (some ⟨p, 0, none⟩), .pointer (some ⟨p, 0, none⟩), .slice a0 l.length c0, .int .i64 l.length, .slice a0 l.length c0, .int .i64 l.length, .bool false, .bool false, .pointer (some ⟨p, 0, none⟩), .int .i64 l.length, .slice a0 l.length c0, .int .i64 l.length, .bool false, .bool false, .pointer (some ⟨p, 0, none⟩), .func (.func 24) #[] #[.pointer (some ⟨w3.heap.size + 1, 0, none⟩)], .string x, undef, undef, undef, undef, undef, undef, undef, undef, undef, undef, undef, undef, undef, undef, undef, undef, undef, undef, undef, undef, undef, undef, undef, undef, undef, undef, undef, undef, undef, undef, undef, undef, undef, undef, undef, undef, undef, undef, undef, undef, undef], defers := [] }) ?assign ?body ?done ?stop
  case own =>
    rintro s A B row ⟨⟨v, h1, h2⟩, h3⟩ hg hr
    refine ⟨⟨v, (hg.block _ (Array.getElem?_eq_some_iff.1 h1).1 (fun e => by have := (hr _ e.symm).1; simp at this; omega)).trans h1, h2.kept hg ?_⟩, h3.grown hg h3.size (fun k e => by have := (hr k e).1; simp at this; omega)⟩
    rcases h2.2 with ⟨rfl, _⟩ | ⟨g, c, cur, rfl, hb, hgc, _⟩
    · exact .inl rfl
    · refine .inr (fun e => ?_)
      obtain ⟨_, o, ho, hoc⟩ := hr g e.symm
      rw [hgc] at ho
      injection ho with ho
      subst ho
      cases hoc
  case assign =>
    intro lx x W K hK
    gi_wp2
    exact hK
  case body =>
    rintro lx pre x W ⟨⟨v, h1, h2⟩, h3⟩ hlt
    have hc1 := one_cell h1
    have hf1 := one_free h1
    have hGl : w3.heap.size < W.heap.size := (Array.getElem?_eq_some_iff.1 h1).1
    obtain ⟨va, vc, rfl, _⟩ := own_val h2
    gi_wp2_with (gi_at_builtin; refine wpListIn_append_src rfl _ _ 27 27 rfl (w3.heap.size + 1) 9 i0 _ 1 16 Try.underlying27 hi0 hz0 hz1 hz2 rfl (by decide) (.slice va _ vc) _ _ rfl (h2.alloc _) _ 1 [.string x] rfl (src_one _ W.heap.size x (heap_alloc_new W _)) (by unfold maxLen; omega) (by omega) (by simp; omega) ?_; intro v' w6 ho hch hnew; obtain ⟨a', c', rfl, _⟩ := own_val ho; obtain ⟨k0, k1, k2, k3, k4, k5⟩ := round_keeps h1 h2 hch ho hnew; have e1 := one_cell k0; have e2 := one_free k0)
    exact ⟨k1, k2, ⟨_, k3, by simpa using k4⟩, h3.trans k5⟩
  case done =>
    rintro D ys W hD rfl ⟨⟨v, h1, h2⟩, h3⟩ hK
    have hc1 := one_cell h1
    obtain ⟨va, vc, rfl, _⟩ := own_val h2
    have hnW : NetAt W p v3 ys := hn3.below h3 hpl hvl
    have hbW : Below w.heap.size w W := hb3.trans (h3.mono hb3.size)
    gi_wp2_with fail
    refine ⟨trivial, (callsIn_wide.2 (same_any _ _ ys W (own_strs h2) (h0.below hbW (Nat.le_refl _)))).mono ?_⟩
    rintro e W1 ⟨rfl, m, rfl⟩
    gi_wp2_with fail
    gi_loopw [6] (fun i wr => ∃ (k : Nat) (vN : Value), k ≤ ys.length ∧ i = .int .i64 k ∧ NetAt wr p vN (ys.drop k) ∧ Below w.heap.size w wr ∧ wr.heap[D]? = some (.deferred (some []))) (fun i _ => ys.length - (intOf i).toNat)
    case atStart => exact ⟨0, v3, by omega, rfl, hnW.drewN m, ⟨hbW.os, hbW.tape, hbW.output, hbW.size, hbW.block⟩, hK⟩
    case round =>
      obtain ⟨k, vN, hk, rfl, hnk, hbk, hKk⟩ := hrel
      by_cases hlk : k < ys.length
      · have hs : (ys.drop k)[0]? = some ys[k] := by rw [List.getElem?_drop, Nat.add_zero, List.getElem?_eq_getElem hlk]
        have htk := take_any p vN (ys.drop k) 0 wr hnk 0 (by simp) ys[k] hs
        rw [List.take_zero, List.nil_append, List.drop_drop] at htk
        have HT := Lib.hid htk
        obtain ⟨b0, o0, rfl, hcl⟩ := strs_cell (h0.below hbk (Nat.le_refl _)) k ys[k] (List.getElem?_eq_getElem hlk)
        have hq2 : (ys[k].toList != ys[k].toList) = false := by simp
        clear htk hs
        gi_wp2_with fail
        refine ⟨trivial, (callsIn_wide.2 HT.out).mono ?_⟩
        rintro e W2 ⟨rfl, v2, hs2⟩
        have hb2' : Below w.heap.size w W2 := hbk.trans (hs2.below hnk hp1)
        have hK2 := step_deferred hs2 hnk hKk rfl
        obtain ⟨b1, o1, hb1e, hcl2⟩ := strs_cell (h0.below hb2' (Nat.le_refl _)) k ys[k] (List.getElem?_eq_getElem hlk)
        injection hb1e with hb1e
        injection hb1e with e1 e2 e3
        subst e1 e2
        gi_wp2
        go_roundw
        case rel => exact ⟨k + 1, v2, by omega, by go_num, hs2.at_, hb2', hK2⟩
        case measure => simp [intOf]; omega
      · obtain rfl : k = ys.length := by omega
        rw [List.drop_length] at hnk
        gi_wp2_with fail
        refine ⟨trivial, (callsIn_wide.2 (take_none p vN 0 _ hnk)).mono ?_⟩
        rintro e W2 ⟨rfl, rfl⟩
        gi_wp2_with fail
        refine ⟨trivial, (callsIn_wide.2 (len_any p vN [] _ hnk)).mono ?_⟩
        rintro e W2 ⟨rfl, rfl⟩
        gi_wp2
        have hsz3 := hb3.size
        refine ⟨by simp, .inl ⟨_, _, rfl, run_takeDeferred hKk, ?_⟩⟩
        exact ⟨_, results_tmp rfl _ _ _, rfl, hbk.trans (belowK_b (w := w) (Nat.le_refl _) _ D _ _ (by simp at hD; omega) hKk rfl rfl)⟩
  case stop =>
    rintro D c pre W _ _ h _
    exact h.elim

theorem order_walk {x0 : Value} {l : List ByteArray} {w : World} (h0 : StrsAt w x0 l) :
    Calls Try.prog 4 #[x0] w fun e w' => e = .returned (.bool true) ∧ Below w.heap.size w w' := by
  by_cases hl : 100 < l.length
  · exact order_first x0 l w h0 hl
  · exact callsIn_wide.1 (order_in x0 l w h0 (by omega))

end Go.Proofs.Ytkcjhjoodincbaa
