/- Points' greatest common divisor, walked. -/
import Derived.Test.YtejbpnhondpnfaaGaussB
import Derived.Test.YtejbpnhondpnfaaJobA
namespace Go.Proofs.Ytejbpnhondpnfaa
open Go.RowKit

/-- How many turns a point wants. -/
def rotM (z : Pt) : Nat := if quad z = true then 0 else if quad (rot z) = true then 1 else if quad (rot (rot z)) = true then 2 else 3

theorem rot_zero {z : Pt} (h : z ≠ Pt.zero) : rot z ≠ Pt.zero := fun e => h (by
  have e1 : -z.y = 0 := congrArg Pt.x e
  have e2 : z.x = 0 := congrArg Pt.y e
  exact Pt.ext' e2 (by show z.y = 0; omega))
theorem rot_some {z : Pt} (h : z ≠ Pt.zero) (hq : ¬ quad z = true) : quad (rot z) = true ∨ quad (rot (rot z)) = true ∨ quad (rot (rot (rot z))) = true := by
  have hz : ¬ (z.x = 0 ∧ z.y = 0) := fun e => h (Pt.ext' e.1 e.2)
  rw [quad_iff] at hq
  rw [quad_iff, quad_iff, quad_iff]
  simp only [rot]
  omega
theorem rot_step {z : Pt} (h : z ≠ Pt.zero) (hq : ¬ quad z = true) : nrmF 3 (rot z) = nrmF 3 z ∧ rotM (rot z) < rotM z := by
  have h1 := rot_zero h
  have h2 := rot_zero h1
  have h3 := rot_zero h2
  have hs := rot_some h hq
  unfold rotM
  simp only [nrmF, h, h1, h2, h3, hq, false_or, if_false, Bool.false_eq_true]
  by_cases c1 : quad (rot z) = true
  · simp [c1]
  · by_cases c2 : quad (rot (rot z)) = true
    · simp [c1, c2]
    · have c3 : quad (rot (rot (rot z))) = true := by rcases hs with e | e | e; exact absurd e c1; exact absurd e c2; exact e
      simp [c1, c2, c3]
theorem nrm_stop {z : Pt} (h : z = Pt.zero ∨ quad z = true) : nrmF 3 z = z := by simp [nrmF, h]

/-- The point in a block. -/
def ptAt (g : Nat) (W : World) : Pt := match W.heap[g]? with
  | some (.cells cs _ _) => ⟨intOf (cs.getD 0 undef), intOf (cs.getD 1 undef)⟩
  | _ => Pt.zero
theorem ptAt_of {g : Nat} {W : World} {x y : Int} {t : TypeId} {fz : Nat × Nat} (h : W.heap[g]? = some (.cells #[.int .i64 x, .int .i64 y] t fz)) : ptAt g W = ⟨x, y⟩ := by
  unfold ptAt; rw [h]; rfl

/-- What Common holds. -/
structure PC (a b : Pt) (w W : World) : Prop where
  below : Below w.heap.size w W
  a : W.heap[w.heap.size]? = some (.cells #[.int .i64 a.x, .int .i64 a.y] 23 (0, 0))
  b : W.heap[w.heap.size + 1]? = some (.cells #[.int .i64 b.x, .int .i64 b.y] 23 (0, 0))
  c : W.heap[w.heap.size + 2]? = some (.cells #[.int .i64 0, .int .i64 0] 23 (0, 0))
theorem PC.step {a b : Pt} {w W W' : World} (h : PC a b w W) (k : Below W.heap.size W W') : PC a b w W' :=
  ⟨h.below.trans (k.mono h.below.size), (k.block _ (Array.getElem?_eq_some_iff.1 h.a).1).trans h.a, (k.block _ (Array.getElem?_eq_some_iff.1 h.b).1).trans h.b, (k.block _ (Array.getElem?_eq_some_iff.1 h.c).1).trans h.c⟩
def cW (a b : Pt) (w : World) : World := ((w.alloc (ptB a.x a.y)).alloc (ptB b.x b.y)).alloc (ptB 0 0)
theorem cW_pc (a b : Pt) (w : World) : PC a b w (cW a b w) := by
  have h : (cW a b w).heap = ((w.heap.push (ptB a.x a.y)).push (ptB b.x b.y)).push (ptB 0 0) := rfl
  refine ⟨(((Below.refl _ w).alloc (Nat.le_refl _) _).alloc (by rw [World.size_alloc]; omega) _).alloc (by rw [World.size_alloc, World.size_alloc]; omega) _, ?_, ?_, ?_⟩ <;> rw [h]
  · rw [Array.getElem?_push_lt (by rw [Array.size_push, Array.size_push]; omega), ← Array.getElem?_eq_getElem, Array.getElem?_push_lt (by rw [Array.size_push]; omega), ← Array.getElem?_eq_getElem, Array.getElem?_push_size]; rfl
  · rw [Array.getElem?_push_lt (by rw [Array.size_push, Array.size_push]; omega), ← Array.getElem?_eq_getElem]
    have := Array.getElem?_push_size (xs := w.heap.push (ptB a.x a.y)) (x := ptB b.x b.y)
    rw [Array.size_push] at this; exact this
  · have := Array.getElem?_push_size (xs := (w.heap.push (ptB a.x a.y)).push (ptB b.x b.y)) (x := ptB 0 0)
    rw [Array.size_push, Array.size_push] at this; exact this

theorem ptR_in {a : Pt} : ptR a.x a.y = true ↔ inP a := by unfold ptR inP; simp

theorem neq_spot (x y : Int) (W : World) : (binOp .neq 23 (.agg #[.int .i64 x, .int .i64 y]) (.agg #[.int .i64 0, .int .i64 0])).run Try.prog W = .ok (.bool (decide (Pt.mk x y ≠ Pt.zero))) W := by
  by_cases hx : x = 0
  · subst hx
    by_cases hy : y = 0
    · subst hy
      have e : (decide (Pt.mk 0 0 ≠ Pt.zero)) = false := by decide
      rw [e]
      go_simp
    · have e : (decide (Pt.mk 0 y ≠ Pt.zero)) = true := decide_eq_true (fun h => hy (congrArg Pt.y h))
      rw [e]
      go_simp
  · have e : (decide (Pt.mk x y ≠ Pt.zero)) = true := decide_eq_true (fun h => hx (congrArg Pt.x h))
    rw [e]
    go_simp
theorem neq_yes {p : Pt} (h : p ≠ Pt.zero) (W : World) : (binOp .neq 23 (.agg #[.int .i64 p.x, .int .i64 p.y]) (.agg #[.int .i64 0, .int .i64 0])).run Try.prog W = .ok (.bool true) W := by
  have := neq_spot p.x p.y W
  rw [decide_eq_true (show Pt.mk p.x p.y ≠ Pt.zero from h)] at this
  exact this
theorem neq_no {p : Pt} (h : p = Pt.zero) (W : World) : (binOp .neq 23 (.agg #[.int .i64 p.x, .int .i64 p.y]) (.agg #[.int .i64 0, .int .i64 0])).run Try.prog W = .ok (.bool false) W := by
  have := neq_spot p.x p.y W
  rw [decide_eq_false (show ¬ Pt.mk p.x p.y ≠ Pt.zero from fun k => k h)] at this
  exact this

theorem PC.turn {x y : Pt} {w W : World} (h : PC x y w W) (r : Pt) : PC y r w ((((W.setCell ⟨w.heap.size, 0, none⟩ (.int .i64 y.x)).setCell ⟨w.heap.size, 1, none⟩ (.int .i64 y.y)).setCell ⟨w.heap.size + 1, 0, none⟩ (.int .i64 r.x)).setCell ⟨w.heap.size + 1, 1, none⟩ (.int .i64 r.y)).drew where
  below := ((((h.below.setCell (p := ⟨w.heap.size, 0, none⟩) (Nat.le_refl _) _).setCell (p := ⟨w.heap.size, 1, none⟩) (Nat.le_refl _) _).setCell (p := ⟨w.heap.size + 1, 0, none⟩) (Nat.le_succ _) _).setCell (p := ⟨w.heap.size + 1, 1, none⟩) (Nat.le_succ _) _).drew
  a := set_two_far _ _ (by omega) (set_two _ _ h.a)
  b := set_two _ _ (set_two_far _ _ (by omega) h.b)
  c := set_two_far _ _ (by omega) (set_two_far _ _ (by omega) h.c)

/-- The same for one point alone. -/
theorem PC.spin {x y : Pt} {w W : World} (h : PC x y w W) (z : Pt) : PC z y w ((W.setCell ⟨w.heap.size, 0, none⟩ (.int .i64 z.x)).setCell ⟨w.heap.size, 1, none⟩ (.int .i64 z.y)) where
  below := (h.below.setCell (p := ⟨w.heap.size, 0, none⟩) (Nat.le_refl _) _).setCell (p := ⟨w.heap.size, 1, none⟩) (Nat.le_refl _) _
  a := set_two _ _ h.a
  b := set_two_far _ _ (by omega) h.b
  c := set_two_far _ _ (by omega) h.c

theorem results_cell_slot {P : Program} {fn : Func} {p q : Tmp} {ty : TypeId} (h : fn.results = #[.cell p ty, .tmp q]) (tmps : Array Value) (w : World) (g : Nat) (t : TypeId) (cs : Array Value) (d : TypeDesc) (v : Value)
    (hp : tmps.getD p undef = .pointer (some ⟨g, 0, none⟩)) (hq : tmps.getD q undef = v) (hg : w.heap[g]? = some (.cells cs t (0, 0)))
    (hu : P.underlying ty = some d) (hd : (match d with | .struct _ | .array _ _ => true | _ => false) = true) (hi : (P.info? ty).map (·.size) = some cs.size) :
    (results fn tmps).run P w = .ok (.tuple #[.agg cs, v]) w := by
  have hp' : tmps[p]?.getD undef = .pointer (some ⟨g, 0, none⟩) := by simpa using hp
  have hq' : tmps[q]?.getD undef = v := by simpa using hq
  simp [results, h, hp', hq', asAddr, run_loadVar_row w g t ty cs (0, 0) d hg hu hd hi]

/-- The result's block set, at the end. -/
theorem PC.fin {x y : Pt} {w W : World} (h : PC x y w W) (z : Pt) : ((W.setCell ⟨w.heap.size + 1 + 1, 0, none⟩ (.int .i64 z.x)).setCell ⟨w.heap.size + 1 + 1, 1, none⟩ (.int .i64 z.y)).heap[w.heap.size + 1 + 1]? = some (.cells #[.int .i64 z.x, .int .i64 z.y] 23 (0, 0)) ∧
    Below w.heap.size w ((W.setCell ⟨w.heap.size + 1 + 1, 0, none⟩ (.int .i64 z.x)).setCell ⟨w.heap.size + 1 + 1, 1, none⟩ (.int .i64 z.y)) :=
  ⟨set_two _ _ h.c, (h.below.setCell (p := ⟨w.heap.size + 1 + 1, 0, none⟩) (Nat.le_trans (Nat.le_succ _) (Nat.le_succ _)) _).setCell (p := ⟨w.heap.size + 1 + 1, 1, none⟩) (Nat.le_trans (Nat.le_succ _) (Nat.le_succ _)) _⟩

def CoA (w : World) (a : Act) : Prop := ∃ u0 u1 u6 u7 u8 u9 u10 u11 u12 u13 u14 u15 u16 u17 u18 u19 u20 u21 u22 u23 u24 u25 u26 u27 u28 u29 u30 u31 u32 u33 u34 u35 u36 u37 u38 u39 u40 u41 u42 u43 u44 u45 u46 u47 : Value,
  a = ⟨#[u0, u1, .pointer (some ⟨w.heap.size, 0, none⟩), .pointer (some ⟨w.heap.size + 1, 0, none⟩), .pointer (some ⟨w.heap.size + 1 + 1, 0, none⟩), .int .i64 0, u6, u7, u8, u9, u10, u11, u12, u13, u14, u15, u16, u17, u18, u19, u20, u21, u22, u23, u24, u25, u26, u27, u28, u29, u30, u31, u32, u33, u34, u35, u36, u37, u38, u39, u40, u41, u42, u43, u44, u45, u46, u47], []⟩

theorem common_any (a b : Pt) (ha : inP a) (hb : inP b) (w : World) : Calls Try.prog 19 #[ptV a.x a.y, ptV b.x b.y] w fun e w' =>
    e = .returned (.tuple #[ptV (comG a b).x (comG a b).y, .int .i64 0]) ∧ Below w.heap.size w w' := by
  have hra := gright_any a.x a.y
  have hrb := gright_any b.x b.y
  rw [ptR_in.2 ha] at hra
  rw [ptR_in.2 hb] at hrb
  unfold ptV at *
  have HRA := Lib.hid hra
  have HRB := Lib.hid hrb
  clear hra hrb
  obtain ⟨W1, hW1⟩ : ∃ W1, W1 = cW a b w := ⟨_, rfl⟩
  have hpc : PC a b w W1 := hW1 ▸ cW_pc a b w
  unfold cW ptB at hW1
  obtain ⟨cg, hcg⟩ : ∃ c, c = comG a b := ⟨_, rfl⟩
  rw [← hcg]
  have HCG := Lib.hid hcg
  clear hcg
  go_enter Try.func19, Try.ntmps19
  go_wp2_with (first | (rw [← hW1]; clear hW1))
  refine goto_scope 0 (fun a' w' => ∃ x y, CoA w a' ∧ PC x y w w' ∧ gcdG x y = gcdG a b ∧ inP x ∧ inP y) (fun _ w' => (ptAt (w.heap.size + 1) w').norm.toNat) rfl ?_ ?_
  · rintro a' w' ⟨x, y, hA, hP, hg, hx, hy⟩
    unfold CoA at hA
    obtain ⟨u0, u1, u6, u7, u8, u9, u10, u11, u12, u13, u14, u15, u16, u17, u18, u19, u20, u21, u22, u23, u24, u25, u26, u27, u28, u29, u30, u31, u32, u33, u34, u35, u36, u37, u38, u39, u40, u41, u42, u43, u44, u45, u46, u47, rfl⟩ := hA
    obtain ⟨c1, c2⟩ := two_cells hP.a
    obtain ⟨d1, d2⟩ := two_cells hP.b
    rw [ptAt_of hP.b]
    clear hpc HRA HRB
    by_cases h0 : y = Pt.zero
    · have hgx : gcdG a b = x := by rw [← hg, h0, gcdG_end]
      have d1' : w'.cell? ⟨w.heap.size + 1, 0, none⟩ = some (.int .i64 0) := by rw [d1, h0]; rfl
      have d2' : w'.cell? ⟨w.heap.size + 1, 1, none⟩ = some (.int .i64 0) := by rw [d2, h0]; rfl
      have hcg : cg = nrmF 3 x := by rw [HCG.out]; unfold comG; rw [hgx]
      have HC := Lib.hid hcg
      clear hgx hg hcg HCG d1 d2
      go_wp2_with fail
      go_loopw [40] (fun _ wr => ∃ z, PC z y w wr ∧ inP z ∧ nrmF 3 z = cg) (fun _ wr => rotM (ptAt w.heap.size wr))
      case atStart => exact ⟨x, hP, hx, HC.out.symm⟩
      case round =>
        clear c1 c2 d1' d2'
        obtain ⟨z, hz, hiz, hnz⟩ := hrel
        obtain ⟨⟨i1, i2⟩, i3, i4⟩ := id hiz
        obtain ⟨k1, k2⟩ := two_cells hz.a
        obtain ⟨m1, m2⟩ := two_cells (show wr.heap[w.heap.size + 1 + 1]? = _ from hz.c)
        have f1 : wr.frozen? ⟨w.heap.size, 0, none⟩ = false := by simp [World.frozen?, hz.a]
        have f2 : wr.frozen? ⟨w.heap.size, 1, none⟩ = false := by simp [World.frozen?, hz.a]
        have f3 : wr.frozen? ⟨w.heap.size + 1 + 1, 0, none⟩ = false := by simp [World.frozen?, show wr.heap[w.heap.size + 1 + 1]? = _ from hz.c]
        have f4 : wr.frozen? ⟨w.heap.size + 1 + 1, 1, none⟩ = false := by simp [World.frozen?, show wr.heap[w.heap.size + 1 + 1]? = _ from hz.c]
        by_cases hz0 : z = Pt.zero
        · have hzz : cg = Pt.zero := (hnz.symm.trans (nrm_stop (.inl hz0))).trans hz0
          have HZ := Lib.hid hzz
          rw [hz0] at k1 k2
          change _ = some (Value.int .i64 0) at k1
          change _ = some (Value.int .i64 0) at k2
          clear hz0 hzz hnz
          go_wp2_with fail
          simp only [Exit.jump, Exit.then]
          obtain ⟨hr, hB⟩ := hz.fin Pt.zero
          refine bodyPost_ret (results_cell_slot rfl _ _ (w.heap.size + 1 + 1) 23 #[.int .i64 0, .int .i64 0] _ (.int .i64 0) rfl rfl hr Try.underlying23 rfl (by kernel_rfl)) rfl ?_
          exact ⟨by rw [HZ.out]; rfl, hB⟩
        · have hne := neq_yes hz0
          by_cases hq : quad z = true
          · have hzz : cg = z := hnz.symm.trans (nrm_stop (.inr hq))
            have HZ := Lib.hid hzz
            have hqq := (quad_iff z).1 hq
            obtain ⟨q1, q2⟩ := hqq
            clear hz0 hq hzz hnz
            go_wp2_with fail
            simp only [Exit.jump, Exit.then]
            obtain ⟨hr, hB⟩ := hz.fin z
            refine bodyPost_ret (results_cell_slot rfl _ _ (w.heap.size + 1 + 1) 23 #[.int .i64 z.x, .int .i64 z.y] _ (.int .i64 0) rfl rfl hr Try.underlying23 rfl (by kernel_rfl)) rfl ?_
            exact ⟨by rw [HZ.out], hB⟩
          · obtain ⟨hst1, hst2⟩ := rot_step hz0 hq
            have hsp := hz.spin (rot z)
            have hm : rotM (ptAt w.heap.size ((wr.setCell ⟨w.heap.size, 0, none⟩ (.int .i64 (rot z).x)).setCell ⟨w.heap.size, 1, none⟩ (.int .i64 (rot z).y))) < rotM (ptAt w.heap.size wr) := by
              rw [ptAt_of hsp.a, ptAt_of hz.a]; exact hst2
            have hneg : IntKind.i64.wrap (-z.y) = -z.y := by rw [IntKind.wrap_i64]; omega
            have hrel := Lib.hid (show PC (rot z) y w _ ∧ inP (rot z) ∧ nrmF 3 (rot z) = cg from ⟨hsp, ⟨⟨by show _ ≤ -z.y; omega, by show -z.y ≤ _; omega⟩, i1, i2⟩, hst1.trans hnz⟩)
            have HM := Lib.hid hm
            rw [quad_iff] at hq
            clear hz0 hsp hst1 hst2 hm hnz
            by_cases hx0 : z.x ≤ 0
            · clear hq
              go_wp2_with fail
              go_roundw
              case rel => exact ⟨rot z, hrel.out⟩
              case measure => exact HM.out
            · have hy0 : z.y < 0 := by omega
              clear hq
              go_wp2_with fail
              go_roundw
              case rel => exact ⟨rot z, hrel.out⟩
              case measure => exact HM.out
    · have hne := neq_yes h0
      have hdv := Lib.hid (div_any x y hx hy h0)
      unfold ptV at hdv
      go_wp2_with fail
      refine (hdv.out _).mono ?_
      rintro e w2 ⟨rfl, hb2⟩
      have hP2 := hP.step hb2
      have hr := rem_norm x h0
      have hyp := Pt.norm_pos h0
      have hri : inP (remG x y) := small_of_norm (by have := norm_of_small hy; omega)
      have hrg : gcdG y (remG x y) = gcdG a b := (gcdG_step x h0).symm.trans hg
      have hrn : (remG x y).norm.toNat < y.norm.toNat := by have := (remG x y).norm_nonneg; omega
      generalize quoG x y = q at *
      generalize remG x y = r at *
      have HR := Lib.hid hrg
      have HN := Lib.hid hrn
      clear hr hyp hrg hrn hdv hne h0 hb2
      obtain ⟨W3, hW3⟩ : ∃ W3, W3 = (w2.alloc (.cells #[.int .i64 q.x, .int .i64 q.y] 23)).alloc (.cells #[.int .i64 r.x, .int .i64 r.y] 23) := ⟨_, rfl⟩
      have hP3 : PC x y w W3 := by
        rw [hW3]; exact hP2.step (((Below.refl _ w2).alloc (Nat.le_refl _) _).alloc (by simp) _)
      have hr3 : W3.heap[w2.heap.size + 1]? = some (.cells #[.int .i64 r.x, .int .i64 r.y] 23 (0, 0)) := by
        have := heap_alloc_new (w2.alloc (.cells #[.int .i64 q.x, .int .i64 q.y] 23)) (.cells #[.int .i64 r.x, .int .i64 r.y] 23)
        rw [World.size_alloc] at this
        rw [hW3]; exact this
      obtain ⟨e1, e2⟩ := two_cells hr3
      obtain ⟨g1, g2⟩ := two_cells hP3.b
      have hs : w.heap.size + 3 ≤ w2.heap.size := by have := (Array.getElem?_eq_some_iff.1 hP2.c).1; omega
      have f1 : W3.frozen? ⟨w.heap.size, 0, none⟩ = false := by simp [World.frozen?, hP3.a]
      have f2 : W3.frozen? ⟨w.heap.size, 1, none⟩ = false := by simp [World.frozen?, hP3.a]
      have f3 : W3.frozen? ⟨w.heap.size + 1, 0, none⟩ = false := by simp [World.frozen?, hP3.b]
      have f4 : W3.frozen? ⟨w.heap.size + 1, 1, none⟩ = false := by simp [World.frozen?, hP3.b]
      obtain ⟨k1, k2⟩ := two_cells hP3.a
      clear hP2 hr3 c1 c2 d1 d2 hP
      go_wp2_with (first | (rw [← hW3]; clear hW3))
      go_region
      all_goals
        go_wp2_with fail
        go_step3
        have hP5 := hP3.turn r
        have hN := HN.out
        refine ⟨rfl, ⟨y, r, ?fr, hP5, HR.out, hy, hri⟩, ?_⟩
        case fr => unfold CoA; (repeat apply Exists.intro); rfl
        · rw [ptAt_of hP5.b]; exact hN
  · intro HP
    obtain ⟨c1, c2⟩ := two_cells hpc.a
    obtain ⟨d1, d2⟩ := two_cells hpc.b
    go_wp2_with fail
    refine (HRA.out _).mono ?_
    rintro e w2 ⟨rfl, hb2⟩
    have hpc2 := hpc.step hb2
    obtain ⟨e1, e2⟩ := two_cells hpc2.b
    go_wp2_with fail
    refine (HRB.out _).mono ?_
    rintro e w3 ⟨rfl, hb3⟩
    have hpc3 := hpc2.step hb3
    go_wp2_with fail
    go_step3
    rename_i hKK
    refine hKK _ _ (HP _ _ ?_)
    refine ⟨a, b, ?fr, hpc3, rfl, ha, hb⟩
    case fr => unfold CoA; (repeat apply Exists.intro); rfl
end Go.Proofs.Ytejbpnhondpnfaa
