/- The statement FragNames: the names of two ids, held against the ids. -/
import Derived.Test.YtkldkaahpicnmaaFragN
import Derived.Test.YtkldkaahpicnmaaFragJ
namespace Go.Proofs.Ytkldkaahpicnmaa
open Go.RowKit PFragNames
open Go.Proofs.YtkldkaahpicnmaaW.PrintWords Go.Proofs.YtkldkaahpicnmaaW.PrintLast Go.Proofs.YtkldkaahpicnmaaW.PrintMore

theorem eqA26 (d : Nat) (w : World) (x0 y0 x1 y1 x2 y2 x3 y3 : Int) :
    (Op.equalIn (d + 2) 26 (.agg #[.int .i64 x0, .int .i64 x1, .int .i64 x2, .int .i64 x3]) (.agg #[.int .i64 y0, .int .i64 y1, .int .i64 y2, .int .i64 y3])).run Try.prog w = .ok (x0 == y0 && (x1 == y1 && (x2 == y2 && (x3 == y3)))) w := by
  refine eqA_of Try.underlying26 (by kernel_rfl) ?_
  refine eqf_cons (by rfl) (by go_simp; rfl) (by go_simp; rfl) (by go_simp) ?_
  refine eqf_cons (by rfl) (by go_simp; rfl) (by go_simp; rfl) (by go_simp) ?_
  refine eqf_cons (by rfl) (by go_simp; rfl) (by go_simp; rfl) (by go_simp) ?_
  exact eqf_last (by rfl) (by go_simp; rfl) (by go_simp; rfl) (by go_simp)

theorem eqA23 (d : Nat) (w : World) (x0 y0 x1 y1 x2 y2 x3 y3 : Int) :
    (Op.equalIn (d + 2) 23 (.agg #[.int .i64 x0, .int .i64 x1, .int .i64 x2, .int .i64 x3]) (.agg #[.int .i64 y0, .int .i64 y1, .int .i64 y2, .int .i64 y3])).run Try.prog w = .ok (x0 == y0 && (x1 == y1 && (x2 == y2 && (x3 == y3)))) w := by
  refine eqA_of Try.underlying23 (by kernel_rfl) ?_
  refine eqf_cons (by rfl) (by go_simp; rfl) (by go_simp; rfl) (by go_simp) ?_
  refine eqf_cons (by rfl) (by go_simp; rfl) (by go_simp; rfl) (by go_simp) ?_
  refine eqf_cons (by rfl) (by go_simp; rfl) (by go_simp; rfl) (by go_simp) ?_
  exact eqf_last (by rfl) (by go_simp; rfl) (by go_simp; rfl) (by go_simp)

theorem of_any (a b c d : Int) (w : World) : Calls Try.prog 7 #[.agg #[.int .i64 a, .int .i64 b, .int .i64 c, .int .i64 d]] w fun e w' => e = .returned (.agg #[.int .i64 a, .int .i64 b, .int .i64 c, .int .i64 d]) ∧ Below w.heap.size w w' :=
  stooklaw15_Of.calls a b c d a b c d w rfl

/-- Two ids lie in memory, and nothing below has changed. -/
def Two (w : World) (p q : Nat) (a b c d a2 b2 c2 d2 : Int) (W : World) : Prop :=
  ((W.cell? ⟨p, 0, none⟩ = some (.int .i64 a) ∧ W.cell? ⟨p, 1, none⟩ = some (.int .i64 b) ∧ W.cell? ⟨p, 2, none⟩ = some (.int .i64 c) ∧ W.cell? ⟨p, 3, none⟩ = some (.int .i64 d)) ∧
      W.cell? ⟨q, 0, none⟩ = some (.int .i64 a2) ∧ W.cell? ⟨q, 1, none⟩ = some (.int .i64 b2) ∧ W.cell? ⟨q, 2, none⟩ = some (.int .i64 c2) ∧ W.cell? ⟨q, 3, none⟩ = some (.int .i64 d2)) ∧ Below w.heap.size w W

theorem Two.keep {w W W' : World} {p q : Nat} {a b c d a2 b2 c2 d2 : Int} (h : Two w p q a b c d a2 b2 c2 d2 W) (hb : Below W.heap.size W W') : Two w p q a b c d a2 b2 c2 d2 W' := by
  have k : ∀ (r o : Nat) (v : Value), W.cell? ⟨r, o, none⟩ = some v → W'.cell? ⟨r, o, none⟩ = some v := fun r o v hv => (hb.cell (p := ⟨r, o, none⟩) (World.block_lt_of_cell? W _ hv)).trans hv
  obtain ⟨⟨⟨h0, h1, h2, h3⟩, h4, h5, h6, h7⟩, h8⟩ := h
  exact ⟨⟨⟨k _ _ _ h0, k _ _ _ h1, k _ _ _ h2, k _ _ _ h3⟩, k _ _ _ h4, k _ _ _ h5, k _ _ _ h6, k _ _ _ h7⟩, h8.trans (hb.mono h8.size)⟩

def regOf (n : Nat) : Code → Option Code
  | .region i o d => if i == n then some (.region i o d) else none
  | .seq a b => match regOf n a with
    | some c => some c
    | none => regOf n b
  | .block _ c => regOf n c
  | .scope c => regOf n c
  | .loop c => regOf n c
  | .cond _ a b => match regOf n a with
    | some c => some c
    | none => regOf n b
  | _ => none
noncomputable def namesReg : Code := ((Try.f3.body.bind (regOf 3)).getD .skip)

theorem hx_set {x : Nat → Value} {L : List Value} {listed : Array Bool} (hx : ∀ i, i < 21 → listed.getD i false = true → x (17 + i) = (L[i]?).getD undef) (k : Nat) (V : Value) (hV : V = (L[k]?).getD undef) :
    ∀ i, i < 21 → (listed.setIfInBounds k true).getD i false = true → (fun j => if j = 17 + k then V else x j) (17 + i) = (L[i]?).getD undef := by
  intro i hi hl
  by_cases e : i = k
  · subst e
    simp only [if_true]
    exact hV
  · simp only
    rw [if_neg (by omega)]
    refine hx i hi ?_
    have e' : ¬ k = i := fun h => e h.symm
    simpa [Array.getElem?_setIfInBounds, e'] using hl

theorem dep_of {ops : Array Oper} (h : ((List.range ops.size).all fun i => match ops[i]? with | some o => o.after.all (fun e => decide (e.on < i)) | none => true) = true) :
    ∀ (i : Nat) (o : Oper), ops[i]? = some o → ∀ e ∈ o.after, e.on < i := by
  intro i o ho e he
  have := List.all_eq_true.1 h i (List.mem_range.2 (Array.getElem?_eq_some_iff.1 ho).1)
  rw [ho] at this
  simpa using Array.all_eq_true'.1 this e he

attribute [local go_sem high] eqA26 eqA23

set_option maxRecDepth 100000 in
set_option maxHeartbeats 4000000 in
theorem names_reg_f (w w1 : World) (p q : Nat) (a b c d a2 b2 c2 d2 : Int) (hoa : okId a b c d = false)
    (hS : Two w p q a b c d a2 b2 c2 d2 { w1 with drawn := w1.drawn + 1 }) (Kx : Act → World → Prop) (Q : Exit → Act → World → Prop) (u0 u1 u2 u5 u6 u7 u8 u9 u10 u11 u12 u13 u14 u15 u16 u38 u39 u40 u41 u42 u43 u44 u45 u46 u47 u48 u49 u50 u51 u52 u53 u54 u55 u56 u57 u58 u59 u60 u61 u62 : Value) (x0 : Nat → Value)
    (hKx : ∀ (x : Nat → Value) (w' : World), x 37 = .bool false → Two w p q a b c d a2 b2 c2 d2 w' → Kx ⟨#[u0, u1, u2, .pointer (some ⟨p, 0, none⟩), .pointer (some ⟨q, 0, none⟩), u5, u6, u7, u8, u9, u10, u11, u12, u13, u14, u15, u16, x 17, x 18, x 19, x 20, x 21, x 22, x 23, x 24, x 25, x 26, x 27, x 28, x 29, x 30, x 31, x 32, x 33, x 34, x 35, x 36, x 37, u38, u39, u40, u41, u42, u43, u44, u45, u46, u47, u48, u49, u50, u51, u52, u53, u54, u55, u56, u57, u58, u59, u60, u61, u62], []⟩ w') :
    namesReg.wp Try.prog (Exit.then Kx Q) ⟨#[u0, u1, u2, .pointer (some ⟨p, 0, none⟩), .pointer (some ⟨q, 0, none⟩), u5, u6, u7, u8, u9, u10, u11, u12, u13, u14, u15, u16, x0 17, x0 18, x0 19, x0 20, x0 21, x0 22, x0 23, x0 24, x0 25, x0 26, x0 27, x0 28, x0 29, x0 30, x0 31, x0 32, x0 33, x0 34, x0 35, x0 36, x0 37, u38, u39, u40, u41, u42, u43, u44, u45, u46, u47, u48, u49, u50, u51, u52, u53, u54, u55, u56, u57, u58, u59, u60, u61, u62], []⟩ w1 := by
  conv => arg 2; whnf
  obtain ⟨L, hL⟩ : ∃ L : List Value, L = [.agg #[.int .i64 a, .int .i64 b, .int .i64 c, .int .i64 d], .agg #[.int .i64 a, .int .i64 b, .int .i64 c, .int .i64 d], .bool false, .bool false, undef, undef, undef, .bool false, .bool false, undef, undef, undef, undef, undef, undef, undef, undef, undef, undef, undef, .bool false] := ⟨_, rfl⟩
  refine wp_region_any (by kernel_rfl) ?_
  refine wpAny_inv (fun listed ac W => ∃ x : Nat → Value, ac = ⟨#[u0, u1, u2, .pointer (some ⟨p, 0, none⟩), .pointer (some ⟨q, 0, none⟩), u5, u6, u7, u8, u9, u10, u11, u12, u13, u14, u15, u16, x 17, x 18, x 19, x 20, x 21, x 22, x 23, x 24, x 25, x 26, x 27, x 28, x 29, x 30, x 31, x 32, x 33, x 34, x 35, x 36, x 37, u38, u39, u40, u41, u42, u43, u44, u45, u46, u47, u48, u49, u50, u51, u52, u53, u54, u55, u56, u57, u58, u59, u60, u61, u62], []⟩ ∧ (∀ i, i < 21 → listed.getD i false = true → x (17 + i) = (L[i]?).getD undef) ∧ Two w p q a b c d a2 b2 c2 d2 W) (dep_of (by kernel_rfl)) ?step ?done _ _ _ _ (by simp) ?start (by rw [Array.toList_replicate]; unfold unl; rw [List.count_replicate_self]; exact Nat.le_refl _)
  case start => exact ⟨x0, rfl, (fun i hi h => by rw [getD_replicate_false] at h; cases h), hS⟩
  case done =>
    rintro listed ac W ⟨x, rfl, hx, hT⟩ hl
    have h37 := hx 20 (by decide) (hl 20 (by decide))
    rw [hL] at h37
    exact hKx x W h37 hT
  case step =>
    rintro i o listed ac W hio ⟨x, rfl, hx, hT⟩ hd hsz
    have hi : i < 21 := (Array.getElem?_eq_some_iff.1 hio).1
    have HT := Lib.hid hT
    obtain ⟨⟨⟨q0, q1, q2, q3⟩, q4, q5, q6, q7⟩, _⟩ := hT
    have HX := Lib.hid hx
    clear hx
    obtain rfl | rfl | rfl | rfl | rfl | rfl | rfl | rfl | rfl | rfl | rfl | rfl | rfl | rfl | rfl | rfl | rfl | rfl | rfl | rfl | rfl : i = 0 ∨ i = 1 ∨ i = 2 ∨ i = 3 ∨ i = 4 ∨ i = 5 ∨ i = 6 ∨ i = 7 ∨ i = 8 ∨ i = 9 ∨ i = 10 ∨ i = 11 ∨ i = 12 ∨ i = 13 ∨ i = 14 ∨ i = 15 ∨ i = 16 ∨ i = 17 ∨ i = 18 ∨ i = 19 ∨ i = 20 := by omega
    · obtain rfl := Option.some.inj hio
      refine wpOp_some rfl ?_
      have hV : (.agg #[.int .i64 a, .int .i64 b, .int .i64 c, .int .i64 d] : Value) = (L[0]?).getD undef := by rw [hL]; rfl
      have HV := Lib.hid hV
      clear hL hV hd hio
      suffices hh : ∀ K : Act → World → Prop, (∀ ac' w', (∃ x : Nat → Value, ac' = ⟨#[u0, u1, u2, .pointer (some ⟨p, 0, none⟩), .pointer (some ⟨q, 0, none⟩), u5, u6, u7, u8, u9, u10, u11, u12, u13, u14, u15, u16, x 17, x 18, x 19, x 20, x 21, x 22, x 23, x 24, x 25, x 26, x 27, x 28, x 29, x 30, x 31, x 32, x 33, x 34, x 35, x 36, x 37, u38, u39, u40, u41, u42, u43, u44, u45, u46, u47, u48, u49, u50, u51, u52, u53, u54, u55, u56, u57, u58, u59, u60, u61, u62], []⟩ ∧ (∀ i, i < 21 → (listed.setIfInBounds 0 true).getD i false = true → x (17 + i) = (L[i]?).getD undef) ∧ Two w p q a b c d a2 b2 c2 d2 w') → K ac' w') → (if Region.wanted _ _ = true then Oper.wp _ _ _ _ K _ else K _ _) from hh _ (fun _ _ h => h)
      intro K hK
      go_simp
      refine hK _ _ ⟨fun j => if j = 17 + 0 then .agg #[.int .i64 a, .int .i64 b, .int .i64 c, .int .i64 d] else x j, ?_, hx_set HX.out 0 _ HV.out, HT.out⟩
      simp []
    · obtain rfl := Option.some.inj hio
      have v0 : x 17 = .agg #[.int .i64 a, .int .i64 b, .int .i64 c, .int .i64 d] := (HX.out 0 (by decide) (by first | (refine hd ⟨0, .data⟩ ?_ rfl; simp; done) | (refine hd ⟨0, .guard⟩ ?_ rfl; simp; done) | (refine hd ⟨0, .chain⟩ ?_ rfl; simp; done))).trans (by rw [hL]; rfl)
      refine wpOp_some rfl ?_
      simp only [v0]
      have hV : (.agg #[.int .i64 a, .int .i64 b, .int .i64 c, .int .i64 d] : Value) = (L[1]?).getD undef := by rw [hL]; rfl
      have HV := Lib.hid hV
      clear hL hV hd hio
      suffices hh : ∀ K : Act → World → Prop, (∀ ac' w', (∃ x : Nat → Value, ac' = ⟨#[u0, u1, u2, .pointer (some ⟨p, 0, none⟩), .pointer (some ⟨q, 0, none⟩), u5, u6, u7, u8, u9, u10, u11, u12, u13, u14, u15, u16, x 17, x 18, x 19, x 20, x 21, x 22, x 23, x 24, x 25, x 26, x 27, x 28, x 29, x 30, x 31, x 32, x 33, x 34, x 35, x 36, x 37, u38, u39, u40, u41, u42, u43, u44, u45, u46, u47, u48, u49, u50, u51, u52, u53, u54, u55, u56, u57, u58, u59, u60, u61, u62], []⟩ ∧ (∀ i, i < 21 → (listed.setIfInBounds 1 true).getD i false = true → x (17 + i) = (L[i]?).getD undef) ∧ Two w p q a b c d a2 b2 c2 d2 w') → K ac' w') → (if Region.wanted _ _ = true then Oper.wp _ _ _ _ K _ else K _ _) from hh _ (fun _ _ h => h)
      intro K hK
      go_simp
      refine (of_any _ _ _ _ _).mono ?_
      rintro e w2 ⟨rfl, hb⟩
      refine hK _ _ ⟨fun j => if j = 17 + 1 then .agg #[.int .i64 a, .int .i64 b, .int .i64 c, .int .i64 d] else x j, ?_, hx_set HX.out 1 _ HV.out, (HT.out.keep hb)⟩
      simp [v0]
    · obtain rfl := Option.some.inj hio
      have v1 : x 18 = .agg #[.int .i64 a, .int .i64 b, .int .i64 c, .int .i64 d] := (HX.out 1 (by decide) (by first | (refine hd ⟨1, .data⟩ ?_ rfl; simp; done) | (refine hd ⟨1, .guard⟩ ?_ rfl; simp; done) | (refine hd ⟨1, .chain⟩ ?_ rfl; simp; done))).trans (by rw [hL]; rfl)
      refine wpOp_some rfl ?_
      simp only [v1]
      have hV : (.bool false : Value) = (L[2]?).getD undef := by rw [hL]; rfl
      have HV := Lib.hid hV
      clear hL hV hd hio
      suffices hh : ∀ K : Act → World → Prop, (∀ ac' w', (∃ x : Nat → Value, ac' = ⟨#[u0, u1, u2, .pointer (some ⟨p, 0, none⟩), .pointer (some ⟨q, 0, none⟩), u5, u6, u7, u8, u9, u10, u11, u12, u13, u14, u15, u16, x 17, x 18, x 19, x 20, x 21, x 22, x 23, x 24, x 25, x 26, x 27, x 28, x 29, x 30, x 31, x 32, x 33, x 34, x 35, x 36, x 37, u38, u39, u40, u41, u42, u43, u44, u45, u46, u47, u48, u49, u50, u51, u52, u53, u54, u55, u56, u57, u58, u59, u60, u61, u62], []⟩ ∧ (∀ i, i < 21 → (listed.setIfInBounds 2 true).getD i false = true → x (17 + i) = (L[i]?).getD undef) ∧ Two w p q a b c d a2 b2 c2 d2 w') → K ac' w') → (if Region.wanted _ _ = true then Oper.wp _ _ _ _ K _ else K _ _) from hh _ (fun _ _ h => h)
      intro K hK
      go_simp
      refine (right_any a b c d _).mono ?_
      rintro e w2 ⟨rfl, hb⟩
      rw [hoa]
      refine hK _ _ ⟨fun j => if j = 17 + 2 then .bool false else x j, ?_, hx_set HX.out 2 _ HV.out, (HT.out.keep hb)⟩
      simp [v1]
    · obtain rfl := Option.some.inj hio
      have v2 : x 19 = .bool false := (HX.out 2 (by decide) (by first | (refine hd ⟨2, .data⟩ ?_ rfl; simp; done) | (refine hd ⟨2, .guard⟩ ?_ rfl; simp; done) | (refine hd ⟨2, .chain⟩ ?_ rfl; simp; done))).trans (by rw [hL]; rfl)
      refine wpOp_some rfl ?_
      simp only [v2]
      have hV : (.bool false : Value) = (L[3]?).getD undef := by rw [hL]; rfl
      have HV := Lib.hid hV
      clear hL hV hd hio
      suffices hh : ∀ K : Act → World → Prop, (∀ ac' w', (∃ x : Nat → Value, ac' = ⟨#[u0, u1, u2, .pointer (some ⟨p, 0, none⟩), .pointer (some ⟨q, 0, none⟩), u5, u6, u7, u8, u9, u10, u11, u12, u13, u14, u15, u16, x 17, x 18, x 19, x 20, x 21, x 22, x 23, x 24, x 25, x 26, x 27, x 28, x 29, x 30, x 31, x 32, x 33, x 34, x 35, x 36, x 37, u38, u39, u40, u41, u42, u43, u44, u45, u46, u47, u48, u49, u50, u51, u52, u53, u54, u55, u56, u57, u58, u59, u60, u61, u62], []⟩ ∧ (∀ i, i < 21 → (listed.setIfInBounds 3 true).getD i false = true → x (17 + i) = (L[i]?).getD undef) ∧ Two w p q a b c d a2 b2 c2 d2 w') → K ac' w') → (if Region.wanted _ _ = true then Oper.wp _ _ _ _ K _ else K _ _) from hh _ (fun _ _ h => h)
      intro K hK
      go_simp
      refine hK _ _ ⟨fun j => if j = 17 + 3 then .bool false else x j, ?_, hx_set HX.out 3 _ HV.out, HT.out⟩
      simp [v2]
    · obtain rfl := Option.some.inj hio
      have v3 : x 20 = .bool false := (HX.out 3 (by decide) (by first | (refine hd ⟨3, .data⟩ ?_ rfl; simp; done) | (refine hd ⟨3, .guard⟩ ?_ rfl; simp; done) | (refine hd ⟨3, .chain⟩ ?_ rfl; simp; done))).trans (by rw [hL]; rfl)
      refine wpOp_some rfl ?_
      simp only [v3]
      have hV : (undef : Value) = (L[4]?).getD undef := by rw [hL]; rfl
      have HV := Lib.hid hV
      clear hL hV hd hio
      suffices hh : ∀ K : Act → World → Prop, (∀ ac' w', (∃ x : Nat → Value, ac' = ⟨#[u0, u1, u2, .pointer (some ⟨p, 0, none⟩), .pointer (some ⟨q, 0, none⟩), u5, u6, u7, u8, u9, u10, u11, u12, u13, u14, u15, u16, x 17, x 18, x 19, x 20, x 21, x 22, x 23, x 24, x 25, x 26, x 27, x 28, x 29, x 30, x 31, x 32, x 33, x 34, x 35, x 36, x 37, u38, u39, u40, u41, u42, u43, u44, u45, u46, u47, u48, u49, u50, u51, u52, u53, u54, u55, u56, u57, u58, u59, u60, u61, u62], []⟩ ∧ (∀ i, i < 21 → (listed.setIfInBounds 4 true).getD i false = true → x (17 + i) = (L[i]?).getD undef) ∧ Two w p q a b c d a2 b2 c2 d2 w') → K ac' w') → (if Region.wanted _ _ = true then Oper.wp _ _ _ _ K _ else K _ _) from hh _ (fun _ _ h => h)
      intro K hK
      go_simp
      refine hK _ _ ⟨fun j => if j = 17 + 4 then undef else x j, ?_, hx_set HX.out 4 _ HV.out, HT.out⟩
      simp [v3]
    · obtain rfl := Option.some.inj hio
      have v3 : x 20 = .bool false := (HX.out 3 (by decide) (by first | (refine hd ⟨3, .data⟩ ?_ rfl; simp; done) | (refine hd ⟨3, .guard⟩ ?_ rfl; simp; done) | (refine hd ⟨3, .chain⟩ ?_ rfl; simp; done))).trans (by rw [hL]; rfl)
      refine wpOp_some rfl ?_
      simp only [v3]
      have hV : (undef : Value) = (L[5]?).getD undef := by rw [hL]; rfl
      have HV := Lib.hid hV
      clear hL hV hd hio
      suffices hh : ∀ K : Act → World → Prop, (∀ ac' w', (∃ x : Nat → Value, ac' = ⟨#[u0, u1, u2, .pointer (some ⟨p, 0, none⟩), .pointer (some ⟨q, 0, none⟩), u5, u6, u7, u8, u9, u10, u11, u12, u13, u14, u15, u16, x 17, x 18, x 19, x 20, x 21, x 22, x 23, x 24, x 25, x 26, x 27, x 28, x 29, x 30, x 31, x 32, x 33, x 34, x 35, x 36, x 37, u38, u39, u40, u41, u42, u43, u44, u45, u46, u47, u48, u49, u50, u51, u52, u53, u54, u55, u56, u57, u58, u59, u60, u61, u62], []⟩ ∧ (∀ i, i < 21 → (listed.setIfInBounds 5 true).getD i false = true → x (17 + i) = (L[i]?).getD undef) ∧ Two w p q a b c d a2 b2 c2 d2 w') → K ac' w') → (if Region.wanted _ _ = true then Oper.wp _ _ _ _ K _ else K _ _) from hh _ (fun _ _ h => h)
      intro K hK
      go_simp
      refine hK _ _ ⟨fun j => if j = 17 + 5 then undef else x j, ?_, hx_set HX.out 5 _ HV.out, HT.out⟩
      simp [v3]
    · obtain rfl := Option.some.inj hio
      have v3 : x 20 = .bool false := (HX.out 3 (by decide) (by first | (refine hd ⟨3, .data⟩ ?_ rfl; simp; done) | (refine hd ⟨3, .guard⟩ ?_ rfl; simp; done) | (refine hd ⟨3, .chain⟩ ?_ rfl; simp; done))).trans (by rw [hL]; rfl)
      refine wpOp_some rfl ?_
      simp only [v3]
      have hV : (undef : Value) = (L[6]?).getD undef := by rw [hL]; rfl
      have HV := Lib.hid hV
      clear hL hV hd hio
      suffices hh : ∀ K : Act → World → Prop, (∀ ac' w', (∃ x : Nat → Value, ac' = ⟨#[u0, u1, u2, .pointer (some ⟨p, 0, none⟩), .pointer (some ⟨q, 0, none⟩), u5, u6, u7, u8, u9, u10, u11, u12, u13, u14, u15, u16, x 17, x 18, x 19, x 20, x 21, x 22, x 23, x 24, x 25, x 26, x 27, x 28, x 29, x 30, x 31, x 32, x 33, x 34, x 35, x 36, x 37, u38, u39, u40, u41, u42, u43, u44, u45, u46, u47, u48, u49, u50, u51, u52, u53, u54, u55, u56, u57, u58, u59, u60, u61, u62], []⟩ ∧ (∀ i, i < 21 → (listed.setIfInBounds 6 true).getD i false = true → x (17 + i) = (L[i]?).getD undef) ∧ Two w p q a b c d a2 b2 c2 d2 w') → K ac' w') → (if Region.wanted _ _ = true then Oper.wp _ _ _ _ K _ else K _ _) from hh _ (fun _ _ h => h)
      intro K hK
      go_simp
      refine hK _ _ ⟨fun j => if j = 17 + 6 then undef else x j, ?_, hx_set HX.out 6 _ HV.out, HT.out⟩
      simp [v3]
    · obtain rfl := Option.some.inj hio
      have v3 : x 20 = .bool false := (HX.out 3 (by decide) (by first | (refine hd ⟨3, .data⟩ ?_ rfl; simp; done) | (refine hd ⟨3, .guard⟩ ?_ rfl; simp; done) | (refine hd ⟨3, .chain⟩ ?_ rfl; simp; done))).trans (by rw [hL]; rfl)
      have v6 : x 23 = undef := (HX.out 6 (by decide) (by first | (refine hd ⟨6, .data⟩ ?_ rfl; simp; done) | (refine hd ⟨6, .guard⟩ ?_ rfl; simp; done) | (refine hd ⟨6, .chain⟩ ?_ rfl; simp; done))).trans (by rw [hL]; rfl)
      refine wpOp_some rfl ?_
      simp only [v3, v6]
      have hV : (.bool false : Value) = (L[7]?).getD undef := by rw [hL]; rfl
      have HV := Lib.hid hV
      clear hL hV hd hio
      suffices hh : ∀ K : Act → World → Prop, (∀ ac' w', (∃ x : Nat → Value, ac' = ⟨#[u0, u1, u2, .pointer (some ⟨p, 0, none⟩), .pointer (some ⟨q, 0, none⟩), u5, u6, u7, u8, u9, u10, u11, u12, u13, u14, u15, u16, x 17, x 18, x 19, x 20, x 21, x 22, x 23, x 24, x 25, x 26, x 27, x 28, x 29, x 30, x 31, x 32, x 33, x 34, x 35, x 36, x 37, u38, u39, u40, u41, u42, u43, u44, u45, u46, u47, u48, u49, u50, u51, u52, u53, u54, u55, u56, u57, u58, u59, u60, u61, u62], []⟩ ∧ (∀ i, i < 21 → (listed.setIfInBounds 7 true).getD i false = true → x (17 + i) = (L[i]?).getD undef) ∧ Two w p q a b c d a2 b2 c2 d2 w') → K ac' w') → (if Region.wanted _ _ = true then Oper.wp _ _ _ _ K _ else K _ _) from hh _ (fun _ _ h => h)
      intro K hK
      go_simp
      refine hK _ _ ⟨fun j => if j = 17 + 7 then .bool false else x j, ?_, hx_set HX.out 7 _ HV.out, HT.out⟩
      simp [v3, v6]
    · obtain rfl := Option.some.inj hio
      have v7 : x 24 = .bool false := (HX.out 7 (by decide) (by first | (refine hd ⟨7, .data⟩ ?_ rfl; simp; done) | (refine hd ⟨7, .guard⟩ ?_ rfl; simp; done) | (refine hd ⟨7, .chain⟩ ?_ rfl; simp; done))).trans (by rw [hL]; rfl)
      refine wpOp_some rfl ?_
      simp only [v7]
      have hV : (.bool false : Value) = (L[8]?).getD undef := by rw [hL]; rfl
      have HV := Lib.hid hV
      clear hL hV hd hio
      suffices hh : ∀ K : Act → World → Prop, (∀ ac' w', (∃ x : Nat → Value, ac' = ⟨#[u0, u1, u2, .pointer (some ⟨p, 0, none⟩), .pointer (some ⟨q, 0, none⟩), u5, u6, u7, u8, u9, u10, u11, u12, u13, u14, u15, u16, x 17, x 18, x 19, x 20, x 21, x 22, x 23, x 24, x 25, x 26, x 27, x 28, x 29, x 30, x 31, x 32, x 33, x 34, x 35, x 36, x 37, u38, u39, u40, u41, u42, u43, u44, u45, u46, u47, u48, u49, u50, u51, u52, u53, u54, u55, u56, u57, u58, u59, u60, u61, u62], []⟩ ∧ (∀ i, i < 21 → (listed.setIfInBounds 8 true).getD i false = true → x (17 + i) = (L[i]?).getD undef) ∧ Two w p q a b c d a2 b2 c2 d2 w') → K ac' w') → (if Region.wanted _ _ = true then Oper.wp _ _ _ _ K _ else K _ _) from hh _ (fun _ _ h => h)
      intro K hK
      go_simp
      refine hK _ _ ⟨fun j => if j = 17 + 8 then .bool false else x j, ?_, hx_set HX.out 8 _ HV.out, HT.out⟩
      simp [v7]
    · obtain rfl := Option.some.inj hio
      have v8 : x 25 = .bool false := (HX.out 8 (by decide) (by first | (refine hd ⟨8, .data⟩ ?_ rfl; simp; done) | (refine hd ⟨8, .guard⟩ ?_ rfl; simp; done) | (refine hd ⟨8, .chain⟩ ?_ rfl; simp; done))).trans (by rw [hL]; rfl)
      refine wpOp_some rfl ?_
      simp only [v8]
      have hV : (undef : Value) = (L[9]?).getD undef := by rw [hL]; rfl
      have HV := Lib.hid hV
      clear hL hV hd hio
      suffices hh : ∀ K : Act → World → Prop, (∀ ac' w', (∃ x : Nat → Value, ac' = ⟨#[u0, u1, u2, .pointer (some ⟨p, 0, none⟩), .pointer (some ⟨q, 0, none⟩), u5, u6, u7, u8, u9, u10, u11, u12, u13, u14, u15, u16, x 17, x 18, x 19, x 20, x 21, x 22, x 23, x 24, x 25, x 26, x 27, x 28, x 29, x 30, x 31, x 32, x 33, x 34, x 35, x 36, x 37, u38, u39, u40, u41, u42, u43, u44, u45, u46, u47, u48, u49, u50, u51, u52, u53, u54, u55, u56, u57, u58, u59, u60, u61, u62], []⟩ ∧ (∀ i, i < 21 → (listed.setIfInBounds 9 true).getD i false = true → x (17 + i) = (L[i]?).getD undef) ∧ Two w p q a b c d a2 b2 c2 d2 w') → K ac' w') → (if Region.wanted _ _ = true then Oper.wp _ _ _ _ K _ else K _ _) from hh _ (fun _ _ h => h)
      intro K hK
      go_simp
      refine hK _ _ ⟨fun j => if j = 17 + 9 then undef else x j, ?_, hx_set HX.out 9 _ HV.out, HT.out⟩
      simp [v8]
    · obtain rfl := Option.some.inj hio
      have v8 : x 25 = .bool false := (HX.out 8 (by decide) (by first | (refine hd ⟨8, .data⟩ ?_ rfl; simp; done) | (refine hd ⟨8, .guard⟩ ?_ rfl; simp; done) | (refine hd ⟨8, .chain⟩ ?_ rfl; simp; done))).trans (by rw [hL]; rfl)
      refine wpOp_some rfl ?_
      simp only [v8]
      have hV : (undef : Value) = (L[10]?).getD undef := by rw [hL]; rfl
      have HV := Lib.hid hV
      clear hL hV hd hio
      suffices hh : ∀ K : Act → World → Prop, (∀ ac' w', (∃ x : Nat → Value, ac' = ⟨#[u0, u1, u2, .pointer (some ⟨p, 0, none⟩), .pointer (some ⟨q, 0, none⟩), u5, u6, u7, u8, u9, u10, u11, u12, u13, u14, u15, u16, x 17, x 18, x 19, x 20, x 21, x 22, x 23, x 24, x 25, x 26, x 27, x 28, x 29, x 30, x 31, x 32, x 33, x 34, x 35, x 36, x 37, u38, u39, u40, u41, u42, u43, u44, u45, u46, u47, u48, u49, u50, u51, u52, u53, u54, u55, u56, u57, u58, u59, u60, u61, u62], []⟩ ∧ (∀ i, i < 21 → (listed.setIfInBounds 10 true).getD i false = true → x (17 + i) = (L[i]?).getD undef) ∧ Two w p q a b c d a2 b2 c2 d2 w') → K ac' w') → (if Region.wanted _ _ = true then Oper.wp _ _ _ _ K _ else K _ _) from hh _ (fun _ _ h => h)
      intro K hK
      go_simp
      refine hK _ _ ⟨fun j => if j = 17 + 10 then undef else x j, ?_, hx_set HX.out 10 _ HV.out, HT.out⟩
      simp [v8]
    · obtain rfl := Option.some.inj hio
      have v8 : x 25 = .bool false := (HX.out 8 (by decide) (by first | (refine hd ⟨8, .data⟩ ?_ rfl; simp; done) | (refine hd ⟨8, .guard⟩ ?_ rfl; simp; done) | (refine hd ⟨8, .chain⟩ ?_ rfl; simp; done))).trans (by rw [hL]; rfl)
      refine wpOp_some rfl ?_
      simp only [v8]
      have hV : (undef : Value) = (L[11]?).getD undef := by rw [hL]; rfl
      have HV := Lib.hid hV
      clear hL hV hd hio
      suffices hh : ∀ K : Act → World → Prop, (∀ ac' w', (∃ x : Nat → Value, ac' = ⟨#[u0, u1, u2, .pointer (some ⟨p, 0, none⟩), .pointer (some ⟨q, 0, none⟩), u5, u6, u7, u8, u9, u10, u11, u12, u13, u14, u15, u16, x 17, x 18, x 19, x 20, x 21, x 22, x 23, x 24, x 25, x 26, x 27, x 28, x 29, x 30, x 31, x 32, x 33, x 34, x 35, x 36, x 37, u38, u39, u40, u41, u42, u43, u44, u45, u46, u47, u48, u49, u50, u51, u52, u53, u54, u55, u56, u57, u58, u59, u60, u61, u62], []⟩ ∧ (∀ i, i < 21 → (listed.setIfInBounds 11 true).getD i false = true → x (17 + i) = (L[i]?).getD undef) ∧ Two w p q a b c d a2 b2 c2 d2 w') → K ac' w') → (if Region.wanted _ _ = true then Oper.wp _ _ _ _ K _ else K _ _) from hh _ (fun _ _ h => h)
      intro K hK
      go_simp
      refine hK _ _ ⟨fun j => if j = 17 + 11 then undef else x j, ?_, hx_set HX.out 11 _ HV.out, HT.out⟩
      simp [v8]
    · obtain rfl := Option.some.inj hio
      have v8 : x 25 = .bool false := (HX.out 8 (by decide) (by first | (refine hd ⟨8, .data⟩ ?_ rfl; simp; done) | (refine hd ⟨8, .guard⟩ ?_ rfl; simp; done) | (refine hd ⟨8, .chain⟩ ?_ rfl; simp; done))).trans (by rw [hL]; rfl)
      refine wpOp_some rfl ?_
      simp only [v8]
      have hV : (undef : Value) = (L[12]?).getD undef := by rw [hL]; rfl
      have HV := Lib.hid hV
      clear hL hV hd hio
      suffices hh : ∀ K : Act → World → Prop, (∀ ac' w', (∃ x : Nat → Value, ac' = ⟨#[u0, u1, u2, .pointer (some ⟨p, 0, none⟩), .pointer (some ⟨q, 0, none⟩), u5, u6, u7, u8, u9, u10, u11, u12, u13, u14, u15, u16, x 17, x 18, x 19, x 20, x 21, x 22, x 23, x 24, x 25, x 26, x 27, x 28, x 29, x 30, x 31, x 32, x 33, x 34, x 35, x 36, x 37, u38, u39, u40, u41, u42, u43, u44, u45, u46, u47, u48, u49, u50, u51, u52, u53, u54, u55, u56, u57, u58, u59, u60, u61, u62], []⟩ ∧ (∀ i, i < 21 → (listed.setIfInBounds 12 true).getD i false = true → x (17 + i) = (L[i]?).getD undef) ∧ Two w p q a b c d a2 b2 c2 d2 w') → K ac' w') → (if Region.wanted _ _ = true then Oper.wp _ _ _ _ K _ else K _ _) from hh _ (fun _ _ h => h)
      intro K hK
      go_simp
      refine hK _ _ ⟨fun j => if j = 17 + 12 then undef else x j, ?_, hx_set HX.out 12 _ HV.out, HT.out⟩
      simp [v8]
    · obtain rfl := Option.some.inj hio
      have v8 : x 25 = .bool false := (HX.out 8 (by decide) (by first | (refine hd ⟨8, .data⟩ ?_ rfl; simp; done) | (refine hd ⟨8, .guard⟩ ?_ rfl; simp; done) | (refine hd ⟨8, .chain⟩ ?_ rfl; simp; done))).trans (by rw [hL]; rfl)
      refine wpOp_some rfl ?_
      simp only [v8]
      have hV : (undef : Value) = (L[13]?).getD undef := by rw [hL]; rfl
      have HV := Lib.hid hV
      clear hL hV hd hio
      suffices hh : ∀ K : Act → World → Prop, (∀ ac' w', (∃ x : Nat → Value, ac' = ⟨#[u0, u1, u2, .pointer (some ⟨p, 0, none⟩), .pointer (some ⟨q, 0, none⟩), u5, u6, u7, u8, u9, u10, u11, u12, u13, u14, u15, u16, x 17, x 18, x 19, x 20, x 21, x 22, x 23, x 24, x 25, x 26, x 27, x 28, x 29, x 30, x 31, x 32, x 33, x 34, x 35, x 36, x 37, u38, u39, u40, u41, u42, u43, u44, u45, u46, u47, u48, u49, u50, u51, u52, u53, u54, u55, u56, u57, u58, u59, u60, u61, u62], []⟩ ∧ (∀ i, i < 21 → (listed.setIfInBounds 13 true).getD i false = true → x (17 + i) = (L[i]?).getD undef) ∧ Two w p q a b c d a2 b2 c2 d2 w') → K ac' w') → (if Region.wanted _ _ = true then Oper.wp _ _ _ _ K _ else K _ _) from hh _ (fun _ _ h => h)
      intro K hK
      go_simp
      refine hK _ _ ⟨fun j => if j = 17 + 13 then undef else x j, ?_, hx_set HX.out 13 _ HV.out, HT.out⟩
      simp [v8]
    · obtain rfl := Option.some.inj hio
      have v8 : x 25 = .bool false := (HX.out 8 (by decide) (by first | (refine hd ⟨8, .data⟩ ?_ rfl; simp; done) | (refine hd ⟨8, .guard⟩ ?_ rfl; simp; done) | (refine hd ⟨8, .chain⟩ ?_ rfl; simp; done))).trans (by rw [hL]; rfl)
      refine wpOp_some rfl ?_
      simp only [v8]
      have hV : (undef : Value) = (L[14]?).getD undef := by rw [hL]; rfl
      have HV := Lib.hid hV
      clear hL hV hd hio
      suffices hh : ∀ K : Act → World → Prop, (∀ ac' w', (∃ x : Nat → Value, ac' = ⟨#[u0, u1, u2, .pointer (some ⟨p, 0, none⟩), .pointer (some ⟨q, 0, none⟩), u5, u6, u7, u8, u9, u10, u11, u12, u13, u14, u15, u16, x 17, x 18, x 19, x 20, x 21, x 22, x 23, x 24, x 25, x 26, x 27, x 28, x 29, x 30, x 31, x 32, x 33, x 34, x 35, x 36, x 37, u38, u39, u40, u41, u42, u43, u44, u45, u46, u47, u48, u49, u50, u51, u52, u53, u54, u55, u56, u57, u58, u59, u60, u61, u62], []⟩ ∧ (∀ i, i < 21 → (listed.setIfInBounds 14 true).getD i false = true → x (17 + i) = (L[i]?).getD undef) ∧ Two w p q a b c d a2 b2 c2 d2 w') → K ac' w') → (if Region.wanted _ _ = true then Oper.wp _ _ _ _ K _ else K _ _) from hh _ (fun _ _ h => h)
      intro K hK
      go_simp
      refine hK _ _ ⟨fun j => if j = 17 + 14 then undef else x j, ?_, hx_set HX.out 14 _ HV.out, HT.out⟩
      simp [v8]
    · obtain rfl := Option.some.inj hio
      have v8 : x 25 = .bool false := (HX.out 8 (by decide) (by first | (refine hd ⟨8, .data⟩ ?_ rfl; simp; done) | (refine hd ⟨8, .guard⟩ ?_ rfl; simp; done) | (refine hd ⟨8, .chain⟩ ?_ rfl; simp; done))).trans (by rw [hL]; rfl)
      refine wpOp_some rfl ?_
      simp only [v8]
      have hV : (undef : Value) = (L[15]?).getD undef := by rw [hL]; rfl
      have HV := Lib.hid hV
      clear hL hV hd hio
      suffices hh : ∀ K : Act → World → Prop, (∀ ac' w', (∃ x : Nat → Value, ac' = ⟨#[u0, u1, u2, .pointer (some ⟨p, 0, none⟩), .pointer (some ⟨q, 0, none⟩), u5, u6, u7, u8, u9, u10, u11, u12, u13, u14, u15, u16, x 17, x 18, x 19, x 20, x 21, x 22, x 23, x 24, x 25, x 26, x 27, x 28, x 29, x 30, x 31, x 32, x 33, x 34, x 35, x 36, x 37, u38, u39, u40, u41, u42, u43, u44, u45, u46, u47, u48, u49, u50, u51, u52, u53, u54, u55, u56, u57, u58, u59, u60, u61, u62], []⟩ ∧ (∀ i, i < 21 → (listed.setIfInBounds 15 true).getD i false = true → x (17 + i) = (L[i]?).getD undef) ∧ Two w p q a b c d a2 b2 c2 d2 w') → K ac' w') → (if Region.wanted _ _ = true then Oper.wp _ _ _ _ K _ else K _ _) from hh _ (fun _ _ h => h)
      intro K hK
      go_simp
      refine hK _ _ ⟨fun j => if j = 17 + 15 then undef else x j, ?_, hx_set HX.out 15 _ HV.out, HT.out⟩
      simp [v8]
    · obtain rfl := Option.some.inj hio
      have v8 : x 25 = .bool false := (HX.out 8 (by decide) (by first | (refine hd ⟨8, .data⟩ ?_ rfl; simp; done) | (refine hd ⟨8, .guard⟩ ?_ rfl; simp; done) | (refine hd ⟨8, .chain⟩ ?_ rfl; simp; done))).trans (by rw [hL]; rfl)
      refine wpOp_some rfl ?_
      simp only [v8]
      have hV : (undef : Value) = (L[16]?).getD undef := by rw [hL]; rfl
      have HV := Lib.hid hV
      clear hL hV hd hio
      suffices hh : ∀ K : Act → World → Prop, (∀ ac' w', (∃ x : Nat → Value, ac' = ⟨#[u0, u1, u2, .pointer (some ⟨p, 0, none⟩), .pointer (some ⟨q, 0, none⟩), u5, u6, u7, u8, u9, u10, u11, u12, u13, u14, u15, u16, x 17, x 18, x 19, x 20, x 21, x 22, x 23, x 24, x 25, x 26, x 27, x 28, x 29, x 30, x 31, x 32, x 33, x 34, x 35, x 36, x 37, u38, u39, u40, u41, u42, u43, u44, u45, u46, u47, u48, u49, u50, u51, u52, u53, u54, u55, u56, u57, u58, u59, u60, u61, u62], []⟩ ∧ (∀ i, i < 21 → (listed.setIfInBounds 16 true).getD i false = true → x (17 + i) = (L[i]?).getD undef) ∧ Two w p q a b c d a2 b2 c2 d2 w') → K ac' w') → (if Region.wanted _ _ = true then Oper.wp _ _ _ _ K _ else K _ _) from hh _ (fun _ _ h => h)
      intro K hK
      go_simp
      refine hK _ _ ⟨fun j => if j = 17 + 16 then undef else x j, ?_, hx_set HX.out 16 _ HV.out, HT.out⟩
      simp [v8]
    · obtain rfl := Option.some.inj hio
      have v8 : x 25 = .bool false := (HX.out 8 (by decide) (by first | (refine hd ⟨8, .data⟩ ?_ rfl; simp; done) | (refine hd ⟨8, .guard⟩ ?_ rfl; simp; done) | (refine hd ⟨8, .chain⟩ ?_ rfl; simp; done))).trans (by rw [hL]; rfl)
      refine wpOp_some rfl ?_
      simp only [v8]
      have hV : (undef : Value) = (L[17]?).getD undef := by rw [hL]; rfl
      have HV := Lib.hid hV
      clear hL hV hd hio
      suffices hh : ∀ K : Act → World → Prop, (∀ ac' w', (∃ x : Nat → Value, ac' = ⟨#[u0, u1, u2, .pointer (some ⟨p, 0, none⟩), .pointer (some ⟨q, 0, none⟩), u5, u6, u7, u8, u9, u10, u11, u12, u13, u14, u15, u16, x 17, x 18, x 19, x 20, x 21, x 22, x 23, x 24, x 25, x 26, x 27, x 28, x 29, x 30, x 31, x 32, x 33, x 34, x 35, x 36, x 37, u38, u39, u40, u41, u42, u43, u44, u45, u46, u47, u48, u49, u50, u51, u52, u53, u54, u55, u56, u57, u58, u59, u60, u61, u62], []⟩ ∧ (∀ i, i < 21 → (listed.setIfInBounds 17 true).getD i false = true → x (17 + i) = (L[i]?).getD undef) ∧ Two w p q a b c d a2 b2 c2 d2 w') → K ac' w') → (if Region.wanted _ _ = true then Oper.wp _ _ _ _ K _ else K _ _) from hh _ (fun _ _ h => h)
      intro K hK
      go_simp
      refine hK _ _ ⟨fun j => if j = 17 + 17 then undef else x j, ?_, hx_set HX.out 17 _ HV.out, HT.out⟩
      simp [v8]
    · obtain rfl := Option.some.inj hio
      have v8 : x 25 = .bool false := (HX.out 8 (by decide) (by first | (refine hd ⟨8, .data⟩ ?_ rfl; simp; done) | (refine hd ⟨8, .guard⟩ ?_ rfl; simp; done) | (refine hd ⟨8, .chain⟩ ?_ rfl; simp; done))).trans (by rw [hL]; rfl)
      refine wpOp_some rfl ?_
      simp only [v8]
      have hV : (undef : Value) = (L[18]?).getD undef := by rw [hL]; rfl
      have HV := Lib.hid hV
      clear hL hV hd hio
      suffices hh : ∀ K : Act → World → Prop, (∀ ac' w', (∃ x : Nat → Value, ac' = ⟨#[u0, u1, u2, .pointer (some ⟨p, 0, none⟩), .pointer (some ⟨q, 0, none⟩), u5, u6, u7, u8, u9, u10, u11, u12, u13, u14, u15, u16, x 17, x 18, x 19, x 20, x 21, x 22, x 23, x 24, x 25, x 26, x 27, x 28, x 29, x 30, x 31, x 32, x 33, x 34, x 35, x 36, x 37, u38, u39, u40, u41, u42, u43, u44, u45, u46, u47, u48, u49, u50, u51, u52, u53, u54, u55, u56, u57, u58, u59, u60, u61, u62], []⟩ ∧ (∀ i, i < 21 → (listed.setIfInBounds 18 true).getD i false = true → x (17 + i) = (L[i]?).getD undef) ∧ Two w p q a b c d a2 b2 c2 d2 w') → K ac' w') → (if Region.wanted _ _ = true then Oper.wp _ _ _ _ K _ else K _ _) from hh _ (fun _ _ h => h)
      intro K hK
      go_simp
      refine hK _ _ ⟨fun j => if j = 17 + 18 then undef else x j, ?_, hx_set HX.out 18 _ HV.out, HT.out⟩
      simp [v8]
    · obtain rfl := Option.some.inj hio
      have v8 : x 25 = .bool false := (HX.out 8 (by decide) (by first | (refine hd ⟨8, .data⟩ ?_ rfl; simp; done) | (refine hd ⟨8, .guard⟩ ?_ rfl; simp; done) | (refine hd ⟨8, .chain⟩ ?_ rfl; simp; done))).trans (by rw [hL]; rfl)
      refine wpOp_some rfl ?_
      simp only [v8]
      have hV : (undef : Value) = (L[19]?).getD undef := by rw [hL]; rfl
      have HV := Lib.hid hV
      clear hL hV hd hio
      suffices hh : ∀ K : Act → World → Prop, (∀ ac' w', (∃ x : Nat → Value, ac' = ⟨#[u0, u1, u2, .pointer (some ⟨p, 0, none⟩), .pointer (some ⟨q, 0, none⟩), u5, u6, u7, u8, u9, u10, u11, u12, u13, u14, u15, u16, x 17, x 18, x 19, x 20, x 21, x 22, x 23, x 24, x 25, x 26, x 27, x 28, x 29, x 30, x 31, x 32, x 33, x 34, x 35, x 36, x 37, u38, u39, u40, u41, u42, u43, u44, u45, u46, u47, u48, u49, u50, u51, u52, u53, u54, u55, u56, u57, u58, u59, u60, u61, u62], []⟩ ∧ (∀ i, i < 21 → (listed.setIfInBounds 19 true).getD i false = true → x (17 + i) = (L[i]?).getD undef) ∧ Two w p q a b c d a2 b2 c2 d2 w') → K ac' w') → (if Region.wanted _ _ = true then Oper.wp _ _ _ _ K _ else K _ _) from hh _ (fun _ _ h => h)
      intro K hK
      go_simp
      refine hK _ _ ⟨fun j => if j = 17 + 19 then undef else x j, ?_, hx_set HX.out 19 _ HV.out, HT.out⟩
      simp [v8]
    · obtain rfl := Option.some.inj hio
      have v8 : x 25 = .bool false := (HX.out 8 (by decide) (by first | (refine hd ⟨8, .data⟩ ?_ rfl; simp; done) | (refine hd ⟨8, .guard⟩ ?_ rfl; simp; done) | (refine hd ⟨8, .chain⟩ ?_ rfl; simp; done))).trans (by rw [hL]; rfl)
      have v19 : x 36 = undef := (HX.out 19 (by decide) (by first | (refine hd ⟨19, .data⟩ ?_ rfl; simp; done) | (refine hd ⟨19, .guard⟩ ?_ rfl; simp; done) | (refine hd ⟨19, .chain⟩ ?_ rfl; simp; done))).trans (by rw [hL]; rfl)
      refine wpOp_some rfl ?_
      simp only [v8, v19]
      have hV : (.bool false : Value) = (L[20]?).getD undef := by rw [hL]; rfl
      have HV := Lib.hid hV
      clear hL hV hd hio
      suffices hh : ∀ K : Act → World → Prop, (∀ ac' w', (∃ x : Nat → Value, ac' = ⟨#[u0, u1, u2, .pointer (some ⟨p, 0, none⟩), .pointer (some ⟨q, 0, none⟩), u5, u6, u7, u8, u9, u10, u11, u12, u13, u14, u15, u16, x 17, x 18, x 19, x 20, x 21, x 22, x 23, x 24, x 25, x 26, x 27, x 28, x 29, x 30, x 31, x 32, x 33, x 34, x 35, x 36, x 37, u38, u39, u40, u41, u42, u43, u44, u45, u46, u47, u48, u49, u50, u51, u52, u53, u54, u55, u56, u57, u58, u59, u60, u61, u62], []⟩ ∧ (∀ i, i < 21 → (listed.setIfInBounds 20 true).getD i false = true → x (17 + i) = (L[i]?).getD undef) ∧ Two w p q a b c d a2 b2 c2 d2 w') → K ac' w') → (if Region.wanted _ _ = true then Oper.wp _ _ _ _ K _ else K _ _) from hh _ (fun _ _ h => h)
      intro K hK
      go_simp
      refine hK _ _ ⟨fun j => if j = 17 + 20 then .bool false else x j, ?_, hx_set HX.out 20 _ HV.out, HT.out⟩
      simp [v8, v19]

set_option maxRecDepth 100000 in
set_option maxHeartbeats 4000000 in
theorem names_reg_g (w w1 : World) (p q : Nat) (a b c d a2 b2 c2 d2 : Int) (hoa : okId a b c d = true) (hob : okId a2 b2 c2 d2 = false)
    (hS : Two w p q a b c d a2 b2 c2 d2 { w1 with drawn := w1.drawn + 1 }) (Kx : Act → World → Prop) (Q : Exit → Act → World → Prop) (u0 u1 u2 u5 u6 u7 u8 u9 u10 u11 u12 u13 u14 u15 u16 u38 u39 u40 u41 u42 u43 u44 u45 u46 u47 u48 u49 u50 u51 u52 u53 u54 u55 u56 u57 u58 u59 u60 u61 u62 : Value) (x0 : Nat → Value)
    (hKx : ∀ (x : Nat → Value) (w' : World), x 37 = .bool false → Two w p q a b c d a2 b2 c2 d2 w' → Kx ⟨#[u0, u1, u2, .pointer (some ⟨p, 0, none⟩), .pointer (some ⟨q, 0, none⟩), u5, u6, u7, u8, u9, u10, u11, u12, u13, u14, u15, u16, x 17, x 18, x 19, x 20, x 21, x 22, x 23, x 24, x 25, x 26, x 27, x 28, x 29, x 30, x 31, x 32, x 33, x 34, x 35, x 36, x 37, u38, u39, u40, u41, u42, u43, u44, u45, u46, u47, u48, u49, u50, u51, u52, u53, u54, u55, u56, u57, u58, u59, u60, u61, u62], []⟩ w') :
    namesReg.wp Try.prog (Exit.then Kx Q) ⟨#[u0, u1, u2, .pointer (some ⟨p, 0, none⟩), .pointer (some ⟨q, 0, none⟩), u5, u6, u7, u8, u9, u10, u11, u12, u13, u14, u15, u16, x0 17, x0 18, x0 19, x0 20, x0 21, x0 22, x0 23, x0 24, x0 25, x0 26, x0 27, x0 28, x0 29, x0 30, x0 31, x0 32, x0 33, x0 34, x0 35, x0 36, x0 37, u38, u39, u40, u41, u42, u43, u44, u45, u46, u47, u48, u49, u50, u51, u52, u53, u54, u55, u56, u57, u58, u59, u60, u61, u62], []⟩ w1 := by
  conv => arg 2; whnf
  obtain ⟨L, hL⟩ : ∃ L : List Value, L = [.agg #[.int .i64 a, .int .i64 b, .int .i64 c, .int .i64 d], .agg #[.int .i64 a, .int .i64 b, .int .i64 c, .int .i64 d], .bool true, .bool true, .agg #[.int .i64 a2, .int .i64 b2, .int .i64 c2, .int .i64 d2], .agg #[.int .i64 a2, .int .i64 b2, .int .i64 c2, .int .i64 d2], .bool false, .bool false, .bool false, undef, undef, undef, undef, undef, undef, undef, undef, undef, undef, undef, .bool false] := ⟨_, rfl⟩
  refine wp_region_any (by kernel_rfl) ?_
  refine wpAny_inv (fun listed ac W => ∃ x : Nat → Value, ac = ⟨#[u0, u1, u2, .pointer (some ⟨p, 0, none⟩), .pointer (some ⟨q, 0, none⟩), u5, u6, u7, u8, u9, u10, u11, u12, u13, u14, u15, u16, x 17, x 18, x 19, x 20, x 21, x 22, x 23, x 24, x 25, x 26, x 27, x 28, x 29, x 30, x 31, x 32, x 33, x 34, x 35, x 36, x 37, u38, u39, u40, u41, u42, u43, u44, u45, u46, u47, u48, u49, u50, u51, u52, u53, u54, u55, u56, u57, u58, u59, u60, u61, u62], []⟩ ∧ (∀ i, i < 21 → listed.getD i false = true → x (17 + i) = (L[i]?).getD undef) ∧ Two w p q a b c d a2 b2 c2 d2 W) (dep_of (by kernel_rfl)) ?step ?done _ _ _ _ (by simp) ?start (by rw [Array.toList_replicate]; unfold unl; rw [List.count_replicate_self]; exact Nat.le_refl _)
  case start => exact ⟨x0, rfl, (fun i hi h => by rw [getD_replicate_false] at h; cases h), hS⟩
  case done =>
    rintro listed ac W ⟨x, rfl, hx, hT⟩ hl
    have h37 := hx 20 (by decide) (hl 20 (by decide))
    rw [hL] at h37
    exact hKx x W h37 hT
  case step =>
    rintro i o listed ac W hio ⟨x, rfl, hx, hT⟩ hd hsz
    have hi : i < 21 := (Array.getElem?_eq_some_iff.1 hio).1
    have HT := Lib.hid hT
    obtain ⟨⟨⟨q0, q1, q2, q3⟩, q4, q5, q6, q7⟩, _⟩ := hT
    have HX := Lib.hid hx
    clear hx
    obtain rfl | rfl | rfl | rfl | rfl | rfl | rfl | rfl | rfl | rfl | rfl | rfl | rfl | rfl | rfl | rfl | rfl | rfl | rfl | rfl | rfl : i = 0 ∨ i = 1 ∨ i = 2 ∨ i = 3 ∨ i = 4 ∨ i = 5 ∨ i = 6 ∨ i = 7 ∨ i = 8 ∨ i = 9 ∨ i = 10 ∨ i = 11 ∨ i = 12 ∨ i = 13 ∨ i = 14 ∨ i = 15 ∨ i = 16 ∨ i = 17 ∨ i = 18 ∨ i = 19 ∨ i = 20 := by omega
    · obtain rfl := Option.some.inj hio
      refine wpOp_some rfl ?_
      have hV : (.agg #[.int .i64 a, .int .i64 b, .int .i64 c, .int .i64 d] : Value) = (L[0]?).getD undef := by rw [hL]; rfl
      have HV := Lib.hid hV
      clear hL hV hd hio
      suffices hh : ∀ K : Act → World → Prop, (∀ ac' w', (∃ x : Nat → Value, ac' = ⟨#[u0, u1, u2, .pointer (some ⟨p, 0, none⟩), .pointer (some ⟨q, 0, none⟩), u5, u6, u7, u8, u9, u10, u11, u12, u13, u14, u15, u16, x 17, x 18, x 19, x 20, x 21, x 22, x 23, x 24, x 25, x 26, x 27, x 28, x 29, x 30, x 31, x 32, x 33, x 34, x 35, x 36, x 37, u38, u39, u40, u41, u42, u43, u44, u45, u46, u47, u48, u49, u50, u51, u52, u53, u54, u55, u56, u57, u58, u59, u60, u61, u62], []⟩ ∧ (∀ i, i < 21 → (listed.setIfInBounds 0 true).getD i false = true → x (17 + i) = (L[i]?).getD undef) ∧ Two w p q a b c d a2 b2 c2 d2 w') → K ac' w') → (if Region.wanted _ _ = true then Oper.wp _ _ _ _ K _ else K _ _) from hh _ (fun _ _ h => h)
      intro K hK
      go_simp
      refine hK _ _ ⟨fun j => if j = 17 + 0 then .agg #[.int .i64 a, .int .i64 b, .int .i64 c, .int .i64 d] else x j, ?_, hx_set HX.out 0 _ HV.out, HT.out⟩
      simp []
    · obtain rfl := Option.some.inj hio
      have v0 : x 17 = .agg #[.int .i64 a, .int .i64 b, .int .i64 c, .int .i64 d] := (HX.out 0 (by decide) (by first | (refine hd ⟨0, .data⟩ ?_ rfl; simp; done) | (refine hd ⟨0, .guard⟩ ?_ rfl; simp; done) | (refine hd ⟨0, .chain⟩ ?_ rfl; simp; done))).trans (by rw [hL]; rfl)
      refine wpOp_some rfl ?_
      simp only [v0]
      have hV : (.agg #[.int .i64 a, .int .i64 b, .int .i64 c, .int .i64 d] : Value) = (L[1]?).getD undef := by rw [hL]; rfl
      have HV := Lib.hid hV
      clear hL hV hd hio
      suffices hh : ∀ K : Act → World → Prop, (∀ ac' w', (∃ x : Nat → Value, ac' = ⟨#[u0, u1, u2, .pointer (some ⟨p, 0, none⟩), .pointer (some ⟨q, 0, none⟩), u5, u6, u7, u8, u9, u10, u11, u12, u13, u14, u15, u16, x 17, x 18, x 19, x 20, x 21, x 22, x 23, x 24, x 25, x 26, x 27, x 28, x 29, x 30, x 31, x 32, x 33, x 34, x 35, x 36, x 37, u38, u39, u40, u41, u42, u43, u44, u45, u46, u47, u48, u49, u50, u51, u52, u53, u54, u55, u56, u57, u58, u59, u60, u61, u62], []⟩ ∧ (∀ i, i < 21 → (listed.setIfInBounds 1 true).getD i false = true → x (17 + i) = (L[i]?).getD undef) ∧ Two w p q a b c d a2 b2 c2 d2 w') → K ac' w') → (if Region.wanted _ _ = true then Oper.wp _ _ _ _ K _ else K _ _) from hh _ (fun _ _ h => h)
      intro K hK
      go_simp
      refine (of_any _ _ _ _ _).mono ?_
      rintro e w2 ⟨rfl, hb⟩
      refine hK _ _ ⟨fun j => if j = 17 + 1 then .agg #[.int .i64 a, .int .i64 b, .int .i64 c, .int .i64 d] else x j, ?_, hx_set HX.out 1 _ HV.out, (HT.out.keep hb)⟩
      simp [v0]
    · obtain rfl := Option.some.inj hio
      have v1 : x 18 = .agg #[.int .i64 a, .int .i64 b, .int .i64 c, .int .i64 d] := (HX.out 1 (by decide) (by first | (refine hd ⟨1, .data⟩ ?_ rfl; simp; done) | (refine hd ⟨1, .guard⟩ ?_ rfl; simp; done) | (refine hd ⟨1, .chain⟩ ?_ rfl; simp; done))).trans (by rw [hL]; rfl)
      refine wpOp_some rfl ?_
      simp only [v1]
      have hV : (.bool true : Value) = (L[2]?).getD undef := by rw [hL]; rfl
      have HV := Lib.hid hV
      clear hL hV hd hio
      suffices hh : ∀ K : Act → World → Prop, (∀ ac' w', (∃ x : Nat → Value, ac' = ⟨#[u0, u1, u2, .pointer (some ⟨p, 0, none⟩), .pointer (some ⟨q, 0, none⟩), u5, u6, u7, u8, u9, u10, u11, u12, u13, u14, u15, u16, x 17, x 18, x 19, x 20, x 21, x 22, x 23, x 24, x 25, x 26, x 27, x 28, x 29, x 30, x 31, x 32, x 33, x 34, x 35, x 36, x 37, u38, u39, u40, u41, u42, u43, u44, u45, u46, u47, u48, u49, u50, u51, u52, u53, u54, u55, u56, u57, u58, u59, u60, u61, u62], []⟩ ∧ (∀ i, i < 21 → (listed.setIfInBounds 2 true).getD i false = true → x (17 + i) = (L[i]?).getD undef) ∧ Two w p q a b c d a2 b2 c2 d2 w') → K ac' w') → (if Region.wanted _ _ = true then Oper.wp _ _ _ _ K _ else K _ _) from hh _ (fun _ _ h => h)
      intro K hK
      go_simp
      refine (right_any a b c d _).mono ?_
      rintro e w2 ⟨rfl, hb⟩
      rw [hoa]
      refine hK _ _ ⟨fun j => if j = 17 + 2 then .bool true else x j, ?_, hx_set HX.out 2 _ HV.out, (HT.out.keep hb)⟩
      simp [v1]
    · obtain rfl := Option.some.inj hio
      have v2 : x 19 = .bool true := (HX.out 2 (by decide) (by first | (refine hd ⟨2, .data⟩ ?_ rfl; simp; done) | (refine hd ⟨2, .guard⟩ ?_ rfl; simp; done) | (refine hd ⟨2, .chain⟩ ?_ rfl; simp; done))).trans (by rw [hL]; rfl)
      refine wpOp_some rfl ?_
      simp only [v2]
      have hV : (.bool true : Value) = (L[3]?).getD undef := by rw [hL]; rfl
      have HV := Lib.hid hV
      clear hL hV hd hio
      suffices hh : ∀ K : Act → World → Prop, (∀ ac' w', (∃ x : Nat → Value, ac' = ⟨#[u0, u1, u2, .pointer (some ⟨p, 0, none⟩), .pointer (some ⟨q, 0, none⟩), u5, u6, u7, u8, u9, u10, u11, u12, u13, u14, u15, u16, x 17, x 18, x 19, x 20, x 21, x 22, x 23, x 24, x 25, x 26, x 27, x 28, x 29, x 30, x 31, x 32, x 33, x 34, x 35, x 36, x 37, u38, u39, u40, u41, u42, u43, u44, u45, u46, u47, u48, u49, u50, u51, u52, u53, u54, u55, u56, u57, u58, u59, u60, u61, u62], []⟩ ∧ (∀ i, i < 21 → (listed.setIfInBounds 3 true).getD i false = true → x (17 + i) = (L[i]?).getD undef) ∧ Two w p q a b c d a2 b2 c2 d2 w') → K ac' w') → (if Region.wanted _ _ = true then Oper.wp _ _ _ _ K _ else K _ _) from hh _ (fun _ _ h => h)
      intro K hK
      go_simp
      refine hK _ _ ⟨fun j => if j = 17 + 3 then .bool true else x j, ?_, hx_set HX.out 3 _ HV.out, HT.out⟩
      simp [v2]
    · obtain rfl := Option.some.inj hio
      have v3 : x 20 = .bool true := (HX.out 3 (by decide) (by first | (refine hd ⟨3, .data⟩ ?_ rfl; simp; done) | (refine hd ⟨3, .guard⟩ ?_ rfl; simp; done) | (refine hd ⟨3, .chain⟩ ?_ rfl; simp; done))).trans (by rw [hL]; rfl)
      refine wpOp_some rfl ?_
      simp only [v3]
      have hV : (.agg #[.int .i64 a2, .int .i64 b2, .int .i64 c2, .int .i64 d2] : Value) = (L[4]?).getD undef := by rw [hL]; rfl
      have HV := Lib.hid hV
      clear hL hV hd hio
      suffices hh : ∀ K : Act → World → Prop, (∀ ac' w', (∃ x : Nat → Value, ac' = ⟨#[u0, u1, u2, .pointer (some ⟨p, 0, none⟩), .pointer (some ⟨q, 0, none⟩), u5, u6, u7, u8, u9, u10, u11, u12, u13, u14, u15, u16, x 17, x 18, x 19, x 20, x 21, x 22, x 23, x 24, x 25, x 26, x 27, x 28, x 29, x 30, x 31, x 32, x 33, x 34, x 35, x 36, x 37, u38, u39, u40, u41, u42, u43, u44, u45, u46, u47, u48, u49, u50, u51, u52, u53, u54, u55, u56, u57, u58, u59, u60, u61, u62], []⟩ ∧ (∀ i, i < 21 → (listed.setIfInBounds 4 true).getD i false = true → x (17 + i) = (L[i]?).getD undef) ∧ Two w p q a b c d a2 b2 c2 d2 w') → K ac' w') → (if Region.wanted _ _ = true then Oper.wp _ _ _ _ K _ else K _ _) from hh _ (fun _ _ h => h)
      intro K hK
      go_simp
      refine hK _ _ ⟨fun j => if j = 17 + 4 then .agg #[.int .i64 a2, .int .i64 b2, .int .i64 c2, .int .i64 d2] else x j, ?_, hx_set HX.out 4 _ HV.out, HT.out⟩
      simp [v3]
    · obtain rfl := Option.some.inj hio
      have v4 : x 21 = .agg #[.int .i64 a2, .int .i64 b2, .int .i64 c2, .int .i64 d2] := (HX.out 4 (by decide) (by first | (refine hd ⟨4, .data⟩ ?_ rfl; simp; done) | (refine hd ⟨4, .guard⟩ ?_ rfl; simp; done) | (refine hd ⟨4, .chain⟩ ?_ rfl; simp; done))).trans (by rw [hL]; rfl)
      have v3 : x 20 = .bool true := (HX.out 3 (by decide) (by first | (refine hd ⟨3, .data⟩ ?_ rfl; simp; done) | (refine hd ⟨3, .guard⟩ ?_ rfl; simp; done) | (refine hd ⟨3, .chain⟩ ?_ rfl; simp; done))).trans (by rw [hL]; rfl)
      refine wpOp_some rfl ?_
      simp only [v4, v3]
      have hV : (.agg #[.int .i64 a2, .int .i64 b2, .int .i64 c2, .int .i64 d2] : Value) = (L[5]?).getD undef := by rw [hL]; rfl
      have HV := Lib.hid hV
      clear hL hV hd hio
      suffices hh : ∀ K : Act → World → Prop, (∀ ac' w', (∃ x : Nat → Value, ac' = ⟨#[u0, u1, u2, .pointer (some ⟨p, 0, none⟩), .pointer (some ⟨q, 0, none⟩), u5, u6, u7, u8, u9, u10, u11, u12, u13, u14, u15, u16, x 17, x 18, x 19, x 20, x 21, x 22, x 23, x 24, x 25, x 26, x 27, x 28, x 29, x 30, x 31, x 32, x 33, x 34, x 35, x 36, x 37, u38, u39, u40, u41, u42, u43, u44, u45, u46, u47, u48, u49, u50, u51, u52, u53, u54, u55, u56, u57, u58, u59, u60, u61, u62], []⟩ ∧ (∀ i, i < 21 → (listed.setIfInBounds 5 true).getD i false = true → x (17 + i) = (L[i]?).getD undef) ∧ Two w p q a b c d a2 b2 c2 d2 w') → K ac' w') → (if Region.wanted _ _ = true then Oper.wp _ _ _ _ K _ else K _ _) from hh _ (fun _ _ h => h)
      intro K hK
      go_simp
      refine (of_any _ _ _ _ _).mono ?_
      rintro e w2 ⟨rfl, hb⟩
      refine hK _ _ ⟨fun j => if j = 17 + 5 then .agg #[.int .i64 a2, .int .i64 b2, .int .i64 c2, .int .i64 d2] else x j, ?_, hx_set HX.out 5 _ HV.out, (HT.out.keep hb)⟩
      simp [v4, v3]
    · obtain rfl := Option.some.inj hio
      have v5 : x 22 = .agg #[.int .i64 a2, .int .i64 b2, .int .i64 c2, .int .i64 d2] := (HX.out 5 (by decide) (by first | (refine hd ⟨5, .data⟩ ?_ rfl; simp; done) | (refine hd ⟨5, .guard⟩ ?_ rfl; simp; done) | (refine hd ⟨5, .chain⟩ ?_ rfl; simp; done))).trans (by rw [hL]; rfl)
      have v3 : x 20 = .bool true := (HX.out 3 (by decide) (by first | (refine hd ⟨3, .data⟩ ?_ rfl; simp; done) | (refine hd ⟨3, .guard⟩ ?_ rfl; simp; done) | (refine hd ⟨3, .chain⟩ ?_ rfl; simp; done))).trans (by rw [hL]; rfl)
      refine wpOp_some rfl ?_
      simp only [v5, v3]
      have hV : (.bool false : Value) = (L[6]?).getD undef := by rw [hL]; rfl
      have HV := Lib.hid hV
      clear hL hV hd hio
      suffices hh : ∀ K : Act → World → Prop, (∀ ac' w', (∃ x : Nat → Value, ac' = ⟨#[u0, u1, u2, .pointer (some ⟨p, 0, none⟩), .pointer (some ⟨q, 0, none⟩), u5, u6, u7, u8, u9, u10, u11, u12, u13, u14, u15, u16, x 17, x 18, x 19, x 20, x 21, x 22, x 23, x 24, x 25, x 26, x 27, x 28, x 29, x 30, x 31, x 32, x 33, x 34, x 35, x 36, x 37, u38, u39, u40, u41, u42, u43, u44, u45, u46, u47, u48, u49, u50, u51, u52, u53, u54, u55, u56, u57, u58, u59, u60, u61, u62], []⟩ ∧ (∀ i, i < 21 → (listed.setIfInBounds 6 true).getD i false = true → x (17 + i) = (L[i]?).getD undef) ∧ Two w p q a b c d a2 b2 c2 d2 w') → K ac' w') → (if Region.wanted _ _ = true then Oper.wp _ _ _ _ K _ else K _ _) from hh _ (fun _ _ h => h)
      intro K hK
      go_simp
      refine (right_any a2 b2 c2 d2 _).mono ?_
      rintro e w2 ⟨rfl, hb⟩
      rw [hob]
      refine hK _ _ ⟨fun j => if j = 17 + 6 then .bool false else x j, ?_, hx_set HX.out 6 _ HV.out, (HT.out.keep hb)⟩
      simp [v5, v3]
    · obtain rfl := Option.some.inj hio
      have v3 : x 20 = .bool true := (HX.out 3 (by decide) (by first | (refine hd ⟨3, .data⟩ ?_ rfl; simp; done) | (refine hd ⟨3, .guard⟩ ?_ rfl; simp; done) | (refine hd ⟨3, .chain⟩ ?_ rfl; simp; done))).trans (by rw [hL]; rfl)
      have v6 : x 23 = .bool false := (HX.out 6 (by decide) (by first | (refine hd ⟨6, .data⟩ ?_ rfl; simp; done) | (refine hd ⟨6, .guard⟩ ?_ rfl; simp; done) | (refine hd ⟨6, .chain⟩ ?_ rfl; simp; done))).trans (by rw [hL]; rfl)
      refine wpOp_some rfl ?_
      simp only [v3, v6]
      have hV : (.bool false : Value) = (L[7]?).getD undef := by rw [hL]; rfl
      have HV := Lib.hid hV
      clear hL hV hd hio
      suffices hh : ∀ K : Act → World → Prop, (∀ ac' w', (∃ x : Nat → Value, ac' = ⟨#[u0, u1, u2, .pointer (some ⟨p, 0, none⟩), .pointer (some ⟨q, 0, none⟩), u5, u6, u7, u8, u9, u10, u11, u12, u13, u14, u15, u16, x 17, x 18, x 19, x 20, x 21, x 22, x 23, x 24, x 25, x 26, x 27, x 28, x 29, x 30, x 31, x 32, x 33, x 34, x 35, x 36, x 37, u38, u39, u40, u41, u42, u43, u44, u45, u46, u47, u48, u49, u50, u51, u52, u53, u54, u55, u56, u57, u58, u59, u60, u61, u62], []⟩ ∧ (∀ i, i < 21 → (listed.setIfInBounds 7 true).getD i false = true → x (17 + i) = (L[i]?).getD undef) ∧ Two w p q a b c d a2 b2 c2 d2 w') → K ac' w') → (if Region.wanted _ _ = true then Oper.wp _ _ _ _ K _ else K _ _) from hh _ (fun _ _ h => h)
      intro K hK
      go_simp
      refine hK _ _ ⟨fun j => if j = 17 + 7 then .bool false else x j, ?_, hx_set HX.out 7 _ HV.out, HT.out⟩
      simp [v3, v6]
    · obtain rfl := Option.some.inj hio
      have v7 : x 24 = .bool false := (HX.out 7 (by decide) (by first | (refine hd ⟨7, .data⟩ ?_ rfl; simp; done) | (refine hd ⟨7, .guard⟩ ?_ rfl; simp; done) | (refine hd ⟨7, .chain⟩ ?_ rfl; simp; done))).trans (by rw [hL]; rfl)
      refine wpOp_some rfl ?_
      simp only [v7]
      have hV : (.bool false : Value) = (L[8]?).getD undef := by rw [hL]; rfl
      have HV := Lib.hid hV
      clear hL hV hd hio
      suffices hh : ∀ K : Act → World → Prop, (∀ ac' w', (∃ x : Nat → Value, ac' = ⟨#[u0, u1, u2, .pointer (some ⟨p, 0, none⟩), .pointer (some ⟨q, 0, none⟩), u5, u6, u7, u8, u9, u10, u11, u12, u13, u14, u15, u16, x 17, x 18, x 19, x 20, x 21, x 22, x 23, x 24, x 25, x 26, x 27, x 28, x 29, x 30, x 31, x 32, x 33, x 34, x 35, x 36, x 37, u38, u39, u40, u41, u42, u43, u44, u45, u46, u47, u48, u49, u50, u51, u52, u53, u54, u55, u56, u57, u58, u59, u60, u61, u62], []⟩ ∧ (∀ i, i < 21 → (listed.setIfInBounds 8 true).getD i false = true → x (17 + i) = (L[i]?).getD undef) ∧ Two w p q a b c d a2 b2 c2 d2 w') → K ac' w') → (if Region.wanted _ _ = true then Oper.wp _ _ _ _ K _ else K _ _) from hh _ (fun _ _ h => h)
      intro K hK
      go_simp
      refine hK _ _ ⟨fun j => if j = 17 + 8 then .bool false else x j, ?_, hx_set HX.out 8 _ HV.out, HT.out⟩
      simp [v7]
    · obtain rfl := Option.some.inj hio
      have v8 : x 25 = .bool false := (HX.out 8 (by decide) (by first | (refine hd ⟨8, .data⟩ ?_ rfl; simp; done) | (refine hd ⟨8, .guard⟩ ?_ rfl; simp; done) | (refine hd ⟨8, .chain⟩ ?_ rfl; simp; done))).trans (by rw [hL]; rfl)
      refine wpOp_some rfl ?_
      simp only [v8]
      have hV : (undef : Value) = (L[9]?).getD undef := by rw [hL]; rfl
      have HV := Lib.hid hV
      clear hL hV hd hio
      suffices hh : ∀ K : Act → World → Prop, (∀ ac' w', (∃ x : Nat → Value, ac' = ⟨#[u0, u1, u2, .pointer (some ⟨p, 0, none⟩), .pointer (some ⟨q, 0, none⟩), u5, u6, u7, u8, u9, u10, u11, u12, u13, u14, u15, u16, x 17, x 18, x 19, x 20, x 21, x 22, x 23, x 24, x 25, x 26, x 27, x 28, x 29, x 30, x 31, x 32, x 33, x 34, x 35, x 36, x 37, u38, u39, u40, u41, u42, u43, u44, u45, u46, u47, u48, u49, u50, u51, u52, u53, u54, u55, u56, u57, u58, u59, u60, u61, u62], []⟩ ∧ (∀ i, i < 21 → (listed.setIfInBounds 9 true).getD i false = true → x (17 + i) = (L[i]?).getD undef) ∧ Two w p q a b c d a2 b2 c2 d2 w') → K ac' w') → (if Region.wanted _ _ = true then Oper.wp _ _ _ _ K _ else K _ _) from hh _ (fun _ _ h => h)
      intro K hK
      go_simp
      refine hK _ _ ⟨fun j => if j = 17 + 9 then undef else x j, ?_, hx_set HX.out 9 _ HV.out, HT.out⟩
      simp [v8]
    · obtain rfl := Option.some.inj hio
      have v8 : x 25 = .bool false := (HX.out 8 (by decide) (by first | (refine hd ⟨8, .data⟩ ?_ rfl; simp; done) | (refine hd ⟨8, .guard⟩ ?_ rfl; simp; done) | (refine hd ⟨8, .chain⟩ ?_ rfl; simp; done))).trans (by rw [hL]; rfl)
      refine wpOp_some rfl ?_
      simp only [v8]
      have hV : (undef : Value) = (L[10]?).getD undef := by rw [hL]; rfl
      have HV := Lib.hid hV
      clear hL hV hd hio
      suffices hh : ∀ K : Act → World → Prop, (∀ ac' w', (∃ x : Nat → Value, ac' = ⟨#[u0, u1, u2, .pointer (some ⟨p, 0, none⟩), .pointer (some ⟨q, 0, none⟩), u5, u6, u7, u8, u9, u10, u11, u12, u13, u14, u15, u16, x 17, x 18, x 19, x 20, x 21, x 22, x 23, x 24, x 25, x 26, x 27, x 28, x 29, x 30, x 31, x 32, x 33, x 34, x 35, x 36, x 37, u38, u39, u40, u41, u42, u43, u44, u45, u46, u47, u48, u49, u50, u51, u52, u53, u54, u55, u56, u57, u58, u59, u60, u61, u62], []⟩ ∧ (∀ i, i < 21 → (listed.setIfInBounds 10 true).getD i false = true → x (17 + i) = (L[i]?).getD undef) ∧ Two w p q a b c d a2 b2 c2 d2 w') → K ac' w') → (if Region.wanted _ _ = true then Oper.wp _ _ _ _ K _ else K _ _) from hh _ (fun _ _ h => h)
      intro K hK
      go_simp
      refine hK _ _ ⟨fun j => if j = 17 + 10 then undef else x j, ?_, hx_set HX.out 10 _ HV.out, HT.out⟩
      simp [v8]
    · obtain rfl := Option.some.inj hio
      have v8 : x 25 = .bool false := (HX.out 8 (by decide) (by first | (refine hd ⟨8, .data⟩ ?_ rfl; simp; done) | (refine hd ⟨8, .guard⟩ ?_ rfl; simp; done) | (refine hd ⟨8, .chain⟩ ?_ rfl; simp; done))).trans (by rw [hL]; rfl)
      refine wpOp_some rfl ?_
      simp only [v8]
      have hV : (undef : Value) = (L[11]?).getD undef := by rw [hL]; rfl
      have HV := Lib.hid hV
      clear hL hV hd hio
      suffices hh : ∀ K : Act → World → Prop, (∀ ac' w', (∃ x : Nat → Value, ac' = ⟨#[u0, u1, u2, .pointer (some ⟨p, 0, none⟩), .pointer (some ⟨q, 0, none⟩), u5, u6, u7, u8, u9, u10, u11, u12, u13, u14, u15, u16, x 17, x 18, x 19, x 20, x 21, x 22, x 23, x 24, x 25, x 26, x 27, x 28, x 29, x 30, x 31, x 32, x 33, x 34, x 35, x 36, x 37, u38, u39, u40, u41, u42, u43, u44, u45, u46, u47, u48, u49, u50, u51, u52, u53, u54, u55, u56, u57, u58, u59, u60, u61, u62], []⟩ ∧ (∀ i, i < 21 → (listed.setIfInBounds 11 true).getD i false = true → x (17 + i) = (L[i]?).getD undef) ∧ Two w p q a b c d a2 b2 c2 d2 w') → K ac' w') → (if Region.wanted _ _ = true then Oper.wp _ _ _ _ K _ else K _ _) from hh _ (fun _ _ h => h)
      intro K hK
      go_simp
      refine hK _ _ ⟨fun j => if j = 17 + 11 then undef else x j, ?_, hx_set HX.out 11 _ HV.out, HT.out⟩
      simp [v8]
    · obtain rfl := Option.some.inj hio
      have v8 : x 25 = .bool false := (HX.out 8 (by decide) (by first | (refine hd ⟨8, .data⟩ ?_ rfl; simp; done) | (refine hd ⟨8, .guard⟩ ?_ rfl; simp; done) | (refine hd ⟨8, .chain⟩ ?_ rfl; simp; done))).trans (by rw [hL]; rfl)
      refine wpOp_some rfl ?_
      simp only [v8]
      have hV : (undef : Value) = (L[12]?).getD undef := by rw [hL]; rfl
      have HV := Lib.hid hV
      clear hL hV hd hio
      suffices hh : ∀ K : Act → World → Prop, (∀ ac' w', (∃ x : Nat → Value, ac' = ⟨#[u0, u1, u2, .pointer (some ⟨p, 0, none⟩), .pointer (some ⟨q, 0, none⟩), u5, u6, u7, u8, u9, u10, u11, u12, u13, u14, u15, u16, x 17, x 18, x 19, x 20, x 21, x 22, x 23, x 24, x 25, x 26, x 27, x 28, x 29, x 30, x 31, x 32, x 33, x 34, x 35, x 36, x 37, u38, u39, u40, u41, u42, u43, u44, u45, u46, u47, u48, u49, u50, u51, u52, u53, u54, u55, u56, u57, u58, u59, u60, u61, u62], []⟩ ∧ (∀ i, i < 21 → (listed.setIfInBounds 12 true).getD i false = true → x (17 + i) = (L[i]?).getD undef) ∧ Two w p q a b c d a2 b2 c2 d2 w') → K ac' w') → (if Region.wanted _ _ = true then Oper.wp _ _ _ _ K _ else K _ _) from hh _ (fun _ _ h => h)
      intro K hK
      go_simp
      refine hK _ _ ⟨fun j => if j = 17 + 12 then undef else x j, ?_, hx_set HX.out 12 _ HV.out, HT.out⟩
      simp [v8]
    · obtain rfl := Option.some.inj hio
      have v8 : x 25 = .bool false := (HX.out 8 (by decide) (by first | (refine hd ⟨8, .data⟩ ?_ rfl; simp; done) | (refine hd ⟨8, .guard⟩ ?_ rfl; simp; done) | (refine hd ⟨8, .chain⟩ ?_ rfl; simp; done))).trans (by rw [hL]; rfl)
      refine wpOp_some rfl ?_
      simp only [v8]
      have hV : (undef : Value) = (L[13]?).getD undef := by rw [hL]; rfl
      have HV := Lib.hid hV
      clear hL hV hd hio
      suffices hh : ∀ K : Act → World → Prop, (∀ ac' w', (∃ x : Nat → Value, ac' = ⟨#[u0, u1, u2, .pointer (some ⟨p, 0, none⟩), .pointer (some ⟨q, 0, none⟩), u5, u6, u7, u8, u9, u10, u11, u12, u13, u14, u15, u16, x 17, x 18, x 19, x 20, x 21, x 22, x 23, x 24, x 25, x 26, x 27, x 28, x 29, x 30, x 31, x 32, x 33, x 34, x 35, x 36, x 37, u38, u39, u40, u41, u42, u43, u44, u45, u46, u47, u48, u49, u50, u51, u52, u53, u54, u55, u56, u57, u58, u59, u60, u61, u62], []⟩ ∧ (∀ i, i < 21 → (listed.setIfInBounds 13 true).getD i false = true → x (17 + i) = (L[i]?).getD undef) ∧ Two w p q a b c d a2 b2 c2 d2 w') → K ac' w') → (if Region.wanted _ _ = true then Oper.wp _ _ _ _ K _ else K _ _) from hh _ (fun _ _ h => h)
      intro K hK
      go_simp
      refine hK _ _ ⟨fun j => if j = 17 + 13 then undef else x j, ?_, hx_set HX.out 13 _ HV.out, HT.out⟩
      simp [v8]
    · obtain rfl := Option.some.inj hio
      have v8 : x 25 = .bool false := (HX.out 8 (by decide) (by first | (refine hd ⟨8, .data⟩ ?_ rfl; simp; done) | (refine hd ⟨8, .guard⟩ ?_ rfl; simp; done) | (refine hd ⟨8, .chain⟩ ?_ rfl; simp; done))).trans (by rw [hL]; rfl)
      refine wpOp_some rfl ?_
      simp only [v8]
      have hV : (undef : Value) = (L[14]?).getD undef := by rw [hL]; rfl
      have HV := Lib.hid hV
      clear hL hV hd hio
      suffices hh : ∀ K : Act → World → Prop, (∀ ac' w', (∃ x : Nat → Value, ac' = ⟨#[u0, u1, u2, .pointer (some ⟨p, 0, none⟩), .pointer (some ⟨q, 0, none⟩), u5, u6, u7, u8, u9, u10, u11, u12, u13, u14, u15, u16, x 17, x 18, x 19, x 20, x 21, x 22, x 23, x 24, x 25, x 26, x 27, x 28, x 29, x 30, x 31, x 32, x 33, x 34, x 35, x 36, x 37, u38, u39, u40, u41, u42, u43, u44, u45, u46, u47, u48, u49, u50, u51, u52, u53, u54, u55, u56, u57, u58, u59, u60, u61, u62], []⟩ ∧ (∀ i, i < 21 → (listed.setIfInBounds 14 true).getD i false = true → x (17 + i) = (L[i]?).getD undef) ∧ Two w p q a b c d a2 b2 c2 d2 w') → K ac' w') → (if Region.wanted _ _ = true then Oper.wp _ _ _ _ K _ else K _ _) from hh _ (fun _ _ h => h)
      intro K hK
      go_simp
      refine hK _ _ ⟨fun j => if j = 17 + 14 then undef else x j, ?_, hx_set HX.out 14 _ HV.out, HT.out⟩
      simp [v8]
    · obtain rfl := Option.some.inj hio
      have v8 : x 25 = .bool false := (HX.out 8 (by decide) (by first | (refine hd ⟨8, .data⟩ ?_ rfl; simp; done) | (refine hd ⟨8, .guard⟩ ?_ rfl; simp; done) | (refine hd ⟨8, .chain⟩ ?_ rfl; simp; done))).trans (by rw [hL]; rfl)
      refine wpOp_some rfl ?_
      simp only [v8]
      have hV : (undef : Value) = (L[15]?).getD undef := by rw [hL]; rfl
      have HV := Lib.hid hV
      clear hL hV hd hio
      suffices hh : ∀ K : Act → World → Prop, (∀ ac' w', (∃ x : Nat → Value, ac' = ⟨#[u0, u1, u2, .pointer (some ⟨p, 0, none⟩), .pointer (some ⟨q, 0, none⟩), u5, u6, u7, u8, u9, u10, u11, u12, u13, u14, u15, u16, x 17, x 18, x 19, x 20, x 21, x 22, x 23, x 24, x 25, x 26, x 27, x 28, x 29, x 30, x 31, x 32, x 33, x 34, x 35, x 36, x 37, u38, u39, u40, u41, u42, u43, u44, u45, u46, u47, u48, u49, u50, u51, u52, u53, u54, u55, u56, u57, u58, u59, u60, u61, u62], []⟩ ∧ (∀ i, i < 21 → (listed.setIfInBounds 15 true).getD i false = true → x (17 + i) = (L[i]?).getD undef) ∧ Two w p q a b c d a2 b2 c2 d2 w') → K ac' w') → (if Region.wanted _ _ = true then Oper.wp _ _ _ _ K _ else K _ _) from hh _ (fun _ _ h => h)
      intro K hK
      go_simp
      refine hK _ _ ⟨fun j => if j = 17 + 15 then undef else x j, ?_, hx_set HX.out 15 _ HV.out, HT.out⟩
      simp [v8]
    · obtain rfl := Option.some.inj hio
      have v8 : x 25 = .bool false := (HX.out 8 (by decide) (by first | (refine hd ⟨8, .data⟩ ?_ rfl; simp; done) | (refine hd ⟨8, .guard⟩ ?_ rfl; simp; done) | (refine hd ⟨8, .chain⟩ ?_ rfl; simp; done))).trans (by rw [hL]; rfl)
      refine wpOp_some rfl ?_
      simp only [v8]
      have hV : (undef : Value) = (L[16]?).getD undef := by rw [hL]; rfl
      have HV := Lib.hid hV
      clear hL hV hd hio
      suffices hh : ∀ K : Act → World → Prop, (∀ ac' w', (∃ x : Nat → Value, ac' = ⟨#[u0, u1, u2, .pointer (some ⟨p, 0, none⟩), .pointer (some ⟨q, 0, none⟩), u5, u6, u7, u8, u9, u10, u11, u12, u13, u14, u15, u16, x 17, x 18, x 19, x 20, x 21, x 22, x 23, x 24, x 25, x 26, x 27, x 28, x 29, x 30, x 31, x 32, x 33, x 34, x 35, x 36, x 37, u38, u39, u40, u41, u42, u43, u44, u45, u46, u47, u48, u49, u50, u51, u52, u53, u54, u55, u56, u57, u58, u59, u60, u61, u62], []⟩ ∧ (∀ i, i < 21 → (listed.setIfInBounds 16 true).getD i false = true → x (17 + i) = (L[i]?).getD undef) ∧ Two w p q a b c d a2 b2 c2 d2 w') → K ac' w') → (if Region.wanted _ _ = true then Oper.wp _ _ _ _ K _ else K _ _) from hh _ (fun _ _ h => h)
      intro K hK
      go_simp
      refine hK _ _ ⟨fun j => if j = 17 + 16 then undef else x j, ?_, hx_set HX.out 16 _ HV.out, HT.out⟩
      simp [v8]
    · obtain rfl := Option.some.inj hio
      have v8 : x 25 = .bool false := (HX.out 8 (by decide) (by first | (refine hd ⟨8, .data⟩ ?_ rfl; simp; done) | (refine hd ⟨8, .guard⟩ ?_ rfl; simp; done) | (refine hd ⟨8, .chain⟩ ?_ rfl; simp; done))).trans (by rw [hL]; rfl)
      refine wpOp_some rfl ?_
      simp only [v8]
      have hV : (undef : Value) = (L[17]?).getD undef := by rw [hL]; rfl
      have HV := Lib.hid hV
      clear hL hV hd hio
      suffices hh : ∀ K : Act → World → Prop, (∀ ac' w', (∃ x : Nat → Value, ac' = ⟨#[u0, u1, u2, .pointer (some ⟨p, 0, none⟩), .pointer (some ⟨q, 0, none⟩), u5, u6, u7, u8, u9, u10, u11, u12, u13, u14, u15, u16, x 17, x 18, x 19, x 20, x 21, x 22, x 23, x 24, x 25, x 26, x 27, x 28, x 29, x 30, x 31, x 32, x 33, x 34, x 35, x 36, x 37, u38, u39, u40, u41, u42, u43, u44, u45, u46, u47, u48, u49, u50, u51, u52, u53, u54, u55, u56, u57, u58, u59, u60, u61, u62], []⟩ ∧ (∀ i, i < 21 → (listed.setIfInBounds 17 true).getD i false = true → x (17 + i) = (L[i]?).getD undef) ∧ Two w p q a b c d a2 b2 c2 d2 w') → K ac' w') → (if Region.wanted _ _ = true then Oper.wp _ _ _ _ K _ else K _ _) from hh _ (fun _ _ h => h)
      intro K hK
      go_simp
      refine hK _ _ ⟨fun j => if j = 17 + 17 then undef else x j, ?_, hx_set HX.out 17 _ HV.out, HT.out⟩
      simp [v8]
    · obtain rfl := Option.some.inj hio
      have v8 : x 25 = .bool false := (HX.out 8 (by decide) (by first | (refine hd ⟨8, .data⟩ ?_ rfl; simp; done) | (refine hd ⟨8, .guard⟩ ?_ rfl; simp; done) | (refine hd ⟨8, .chain⟩ ?_ rfl; simp; done))).trans (by rw [hL]; rfl)
      refine wpOp_some rfl ?_
      simp only [v8]
      have hV : (undef : Value) = (L[18]?).getD undef := by rw [hL]; rfl
      have HV := Lib.hid hV
      clear hL hV hd hio
      suffices hh : ∀ K : Act → World → Prop, (∀ ac' w', (∃ x : Nat → Value, ac' = ⟨#[u0, u1, u2, .pointer (some ⟨p, 0, none⟩), .pointer (some ⟨q, 0, none⟩), u5, u6, u7, u8, u9, u10, u11, u12, u13, u14, u15, u16, x 17, x 18, x 19, x 20, x 21, x 22, x 23, x 24, x 25, x 26, x 27, x 28, x 29, x 30, x 31, x 32, x 33, x 34, x 35, x 36, x 37, u38, u39, u40, u41, u42, u43, u44, u45, u46, u47, u48, u49, u50, u51, u52, u53, u54, u55, u56, u57, u58, u59, u60, u61, u62], []⟩ ∧ (∀ i, i < 21 → (listed.setIfInBounds 18 true).getD i false = true → x (17 + i) = (L[i]?).getD undef) ∧ Two w p q a b c d a2 b2 c2 d2 w') → K ac' w') → (if Region.wanted _ _ = true then Oper.wp _ _ _ _ K _ else K _ _) from hh _ (fun _ _ h => h)
      intro K hK
      go_simp
      refine hK _ _ ⟨fun j => if j = 17 + 18 then undef else x j, ?_, hx_set HX.out 18 _ HV.out, HT.out⟩
      simp [v8]
    · obtain rfl := Option.some.inj hio
      have v8 : x 25 = .bool false := (HX.out 8 (by decide) (by first | (refine hd ⟨8, .data⟩ ?_ rfl; simp; done) | (refine hd ⟨8, .guard⟩ ?_ rfl; simp; done) | (refine hd ⟨8, .chain⟩ ?_ rfl; simp; done))).trans (by rw [hL]; rfl)
      refine wpOp_some rfl ?_
      simp only [v8]
      have hV : (undef : Value) = (L[19]?).getD undef := by rw [hL]; rfl
      have HV := Lib.hid hV
      clear hL hV hd hio
      suffices hh : ∀ K : Act → World → Prop, (∀ ac' w', (∃ x : Nat → Value, ac' = ⟨#[u0, u1, u2, .pointer (some ⟨p, 0, none⟩), .pointer (some ⟨q, 0, none⟩), u5, u6, u7, u8, u9, u10, u11, u12, u13, u14, u15, u16, x 17, x 18, x 19, x 20, x 21, x 22, x 23, x 24, x 25, x 26, x 27, x 28, x 29, x 30, x 31, x 32, x 33, x 34, x 35, x 36, x 37, u38, u39, u40, u41, u42, u43, u44, u45, u46, u47, u48, u49, u50, u51, u52, u53, u54, u55, u56, u57, u58, u59, u60, u61, u62], []⟩ ∧ (∀ i, i < 21 → (listed.setIfInBounds 19 true).getD i false = true → x (17 + i) = (L[i]?).getD undef) ∧ Two w p q a b c d a2 b2 c2 d2 w') → K ac' w') → (if Region.wanted _ _ = true then Oper.wp _ _ _ _ K _ else K _ _) from hh _ (fun _ _ h => h)
      intro K hK
      go_simp
      refine hK _ _ ⟨fun j => if j = 17 + 19 then undef else x j, ?_, hx_set HX.out 19 _ HV.out, HT.out⟩
      simp [v8]
    · obtain rfl := Option.some.inj hio
      have v8 : x 25 = .bool false := (HX.out 8 (by decide) (by first | (refine hd ⟨8, .data⟩ ?_ rfl; simp; done) | (refine hd ⟨8, .guard⟩ ?_ rfl; simp; done) | (refine hd ⟨8, .chain⟩ ?_ rfl; simp; done))).trans (by rw [hL]; rfl)
      have v19 : x 36 = undef := (HX.out 19 (by decide) (by first | (refine hd ⟨19, .data⟩ ?_ rfl; simp; done) | (refine hd ⟨19, .guard⟩ ?_ rfl; simp; done) | (refine hd ⟨19, .chain⟩ ?_ rfl; simp; done))).trans (by rw [hL]; rfl)
      refine wpOp_some rfl ?_
      simp only [v8, v19]
      have hV : (.bool false : Value) = (L[20]?).getD undef := by rw [hL]; rfl
      have HV := Lib.hid hV
      clear hL hV hd hio
      suffices hh : ∀ K : Act → World → Prop, (∀ ac' w', (∃ x : Nat → Value, ac' = ⟨#[u0, u1, u2, .pointer (some ⟨p, 0, none⟩), .pointer (some ⟨q, 0, none⟩), u5, u6, u7, u8, u9, u10, u11, u12, u13, u14, u15, u16, x 17, x 18, x 19, x 20, x 21, x 22, x 23, x 24, x 25, x 26, x 27, x 28, x 29, x 30, x 31, x 32, x 33, x 34, x 35, x 36, x 37, u38, u39, u40, u41, u42, u43, u44, u45, u46, u47, u48, u49, u50, u51, u52, u53, u54, u55, u56, u57, u58, u59, u60, u61, u62], []⟩ ∧ (∀ i, i < 21 → (listed.setIfInBounds 20 true).getD i false = true → x (17 + i) = (L[i]?).getD undef) ∧ Two w p q a b c d a2 b2 c2 d2 w') → K ac' w') → (if Region.wanted _ _ = true then Oper.wp _ _ _ _ K _ else K _ _) from hh _ (fun _ _ h => h)
      intro K hK
      go_simp
      refine hK _ _ ⟨fun j => if j = 17 + 20 then .bool false else x j, ?_, hx_set HX.out 20 _ HV.out, HT.out⟩
      simp [v8, v19]

set_option maxRecDepth 100000 in
set_option maxHeartbeats 4000000 in
theorem names_reg_eq (w w1 : World) (p q : Nat) (a b c d a2 b2 c2 d2 : Int) (hoa : okId a b c d = true) (hob : okId a2 b2 c2 d2 = true) (nA nB : ByteArray) (hnA : nameUpto [a, b, c, d] 4 = nA) (hnB : nameUpto [a2, b2, c2, d2] 4 = nB) (hq1 : (nA.toList == nB.toList) = true) (hq2 : (a == a2 && (b == b2 && (c == c2 && (d == d2)))) = true)
    (hS : Two w p q a b c d a2 b2 c2 d2 { w1 with drawn := w1.drawn + 1 }) (Kx : Act → World → Prop) (Q : Exit → Act → World → Prop) (u0 u1 u2 u5 u6 u7 u8 u9 u10 u11 u12 u13 u14 u15 u16 u38 u39 u40 u41 u42 u43 u44 u45 u46 u47 u48 u49 u50 u51 u52 u53 u54 u55 u56 u57 u58 u59 u60 u61 u62 : Value) (x0 : Nat → Value)
    (hKx : ∀ (x : Nat → Value) (w' : World), x 37 = .bool false → Two w p q a b c d a2 b2 c2 d2 w' → Kx ⟨#[u0, u1, u2, .pointer (some ⟨p, 0, none⟩), .pointer (some ⟨q, 0, none⟩), u5, u6, u7, u8, u9, u10, u11, u12, u13, u14, u15, u16, x 17, x 18, x 19, x 20, x 21, x 22, x 23, x 24, x 25, x 26, x 27, x 28, x 29, x 30, x 31, x 32, x 33, x 34, x 35, x 36, x 37, u38, u39, u40, u41, u42, u43, u44, u45, u46, u47, u48, u49, u50, u51, u52, u53, u54, u55, u56, u57, u58, u59, u60, u61, u62], []⟩ w') :
    namesReg.wp Try.prog (Exit.then Kx Q) ⟨#[u0, u1, u2, .pointer (some ⟨p, 0, none⟩), .pointer (some ⟨q, 0, none⟩), u5, u6, u7, u8, u9, u10, u11, u12, u13, u14, u15, u16, x0 17, x0 18, x0 19, x0 20, x0 21, x0 22, x0 23, x0 24, x0 25, x0 26, x0 27, x0 28, x0 29, x0 30, x0 31, x0 32, x0 33, x0 34, x0 35, x0 36, x0 37, u38, u39, u40, u41, u42, u43, u44, u45, u46, u47, u48, u49, u50, u51, u52, u53, u54, u55, u56, u57, u58, u59, u60, u61, u62], []⟩ w1 := by
  conv => arg 2; whnf
  obtain ⟨L, hL⟩ : ∃ L : List Value, L = [.agg #[.int .i64 a, .int .i64 b, .int .i64 c, .int .i64 d], .agg #[.int .i64 a, .int .i64 b, .int .i64 c, .int .i64 d], .bool true, .bool true, .agg #[.int .i64 a2, .int .i64 b2, .int .i64 c2, .int .i64 d2], .agg #[.int .i64 a2, .int .i64 b2, .int .i64 c2, .int .i64 d2], .bool true, .bool true, .bool true, .agg #[.int .i64 a, .int .i64 b, .int .i64 c, .int .i64 d], .agg #[.int .i64 a, .int .i64 b, .int .i64 c, .int .i64 d], .string nA, .agg #[.int .i64 a2, .int .i64 b2, .int .i64 c2, .int .i64 d2], .agg #[.int .i64 a2, .int .i64 b2, .int .i64 c2, .int .i64 d2], .string nB, .bool true, .agg #[.int .i64 a, .int .i64 b, .int .i64 c, .int .i64 d], .agg #[.int .i64 a2, .int .i64 b2, .int .i64 c2, .int .i64 d2], .bool true, .bool false, .bool false] := ⟨_, rfl⟩
  refine wp_region_any (by kernel_rfl) ?_
  refine wpAny_inv (fun listed ac W => ∃ x : Nat → Value, ac = ⟨#[u0, u1, u2, .pointer (some ⟨p, 0, none⟩), .pointer (some ⟨q, 0, none⟩), u5, u6, u7, u8, u9, u10, u11, u12, u13, u14, u15, u16, x 17, x 18, x 19, x 20, x 21, x 22, x 23, x 24, x 25, x 26, x 27, x 28, x 29, x 30, x 31, x 32, x 33, x 34, x 35, x 36, x 37, u38, u39, u40, u41, u42, u43, u44, u45, u46, u47, u48, u49, u50, u51, u52, u53, u54, u55, u56, u57, u58, u59, u60, u61, u62], []⟩ ∧ (∀ i, i < 21 → listed.getD i false = true → x (17 + i) = (L[i]?).getD undef) ∧ Two w p q a b c d a2 b2 c2 d2 W) (dep_of (by kernel_rfl)) ?step ?done _ _ _ _ (by simp) ?start (by rw [Array.toList_replicate]; unfold unl; rw [List.count_replicate_self]; exact Nat.le_refl _)
  case start => exact ⟨x0, rfl, (fun i hi h => by rw [getD_replicate_false] at h; cases h), hS⟩
  case done =>
    rintro listed ac W ⟨x, rfl, hx, hT⟩ hl
    have h37 := hx 20 (by decide) (hl 20 (by decide))
    rw [hL] at h37
    exact hKx x W h37 hT
  case step =>
    rintro i o listed ac W hio ⟨x, rfl, hx, hT⟩ hd hsz
    have hi : i < 21 := (Array.getElem?_eq_some_iff.1 hio).1
    have HT := Lib.hid hT
    obtain ⟨⟨⟨q0, q1, q2, q3⟩, q4, q5, q6, q7⟩, _⟩ := hT
    have HX := Lib.hid hx
    clear hx
    obtain rfl | rfl | rfl | rfl | rfl | rfl | rfl | rfl | rfl | rfl | rfl | rfl | rfl | rfl | rfl | rfl | rfl | rfl | rfl | rfl | rfl : i = 0 ∨ i = 1 ∨ i = 2 ∨ i = 3 ∨ i = 4 ∨ i = 5 ∨ i = 6 ∨ i = 7 ∨ i = 8 ∨ i = 9 ∨ i = 10 ∨ i = 11 ∨ i = 12 ∨ i = 13 ∨ i = 14 ∨ i = 15 ∨ i = 16 ∨ i = 17 ∨ i = 18 ∨ i = 19 ∨ i = 20 := by omega
    · obtain rfl := Option.some.inj hio
      refine wpOp_some rfl ?_
      have hV : (.agg #[.int .i64 a, .int .i64 b, .int .i64 c, .int .i64 d] : Value) = (L[0]?).getD undef := by rw [hL]; rfl
      have HV := Lib.hid hV
      clear hL hV hd hio
      suffices hh : ∀ K : Act → World → Prop, (∀ ac' w', (∃ x : Nat → Value, ac' = ⟨#[u0, u1, u2, .pointer (some ⟨p, 0, none⟩), .pointer (some ⟨q, 0, none⟩), u5, u6, u7, u8, u9, u10, u11, u12, u13, u14, u15, u16, x 17, x 18, x 19, x 20, x 21, x 22, x 23, x 24, x 25, x 26, x 27, x 28, x 29, x 30, x 31, x 32, x 33, x 34, x 35, x 36, x 37, u38, u39, u40, u41, u42, u43, u44, u45, u46, u47, u48, u49, u50, u51, u52, u53, u54, u55, u56, u57, u58, u59, u60, u61, u62], []⟩ ∧ (∀ i, i < 21 → (listed.setIfInBounds 0 true).getD i false = true → x (17 + i) = (L[i]?).getD undef) ∧ Two w p q a b c d a2 b2 c2 d2 w') → K ac' w') → (if Region.wanted _ _ = true then Oper.wp _ _ _ _ K _ else K _ _) from hh _ (fun _ _ h => h)
      intro K hK
      go_simp
      refine hK _ _ ⟨fun j => if j = 17 + 0 then .agg #[.int .i64 a, .int .i64 b, .int .i64 c, .int .i64 d] else x j, ?_, hx_set HX.out 0 _ HV.out, HT.out⟩
      simp []
    · obtain rfl := Option.some.inj hio
      have v0 : x 17 = .agg #[.int .i64 a, .int .i64 b, .int .i64 c, .int .i64 d] := (HX.out 0 (by decide) (by first | (refine hd ⟨0, .data⟩ ?_ rfl; simp; done) | (refine hd ⟨0, .guard⟩ ?_ rfl; simp; done) | (refine hd ⟨0, .chain⟩ ?_ rfl; simp; done))).trans (by rw [hL]; rfl)
      refine wpOp_some rfl ?_
      simp only [v0]
      have hV : (.agg #[.int .i64 a, .int .i64 b, .int .i64 c, .int .i64 d] : Value) = (L[1]?).getD undef := by rw [hL]; rfl
      have HV := Lib.hid hV
      clear hL hV hd hio
      suffices hh : ∀ K : Act → World → Prop, (∀ ac' w', (∃ x : Nat → Value, ac' = ⟨#[u0, u1, u2, .pointer (some ⟨p, 0, none⟩), .pointer (some ⟨q, 0, none⟩), u5, u6, u7, u8, u9, u10, u11, u12, u13, u14, u15, u16, x 17, x 18, x 19, x 20, x 21, x 22, x 23, x 24, x 25, x 26, x 27, x 28, x 29, x 30, x 31, x 32, x 33, x 34, x 35, x 36, x 37, u38, u39, u40, u41, u42, u43, u44, u45, u46, u47, u48, u49, u50, u51, u52, u53, u54, u55, u56, u57, u58, u59, u60, u61, u62], []⟩ ∧ (∀ i, i < 21 → (listed.setIfInBounds 1 true).getD i false = true → x (17 + i) = (L[i]?).getD undef) ∧ Two w p q a b c d a2 b2 c2 d2 w') → K ac' w') → (if Region.wanted _ _ = true then Oper.wp _ _ _ _ K _ else K _ _) from hh _ (fun _ _ h => h)
      intro K hK
      go_simp
      refine (of_any _ _ _ _ _).mono ?_
      rintro e w2 ⟨rfl, hb⟩
      refine hK _ _ ⟨fun j => if j = 17 + 1 then .agg #[.int .i64 a, .int .i64 b, .int .i64 c, .int .i64 d] else x j, ?_, hx_set HX.out 1 _ HV.out, (HT.out.keep hb)⟩
      simp [v0]
    · obtain rfl := Option.some.inj hio
      have v1 : x 18 = .agg #[.int .i64 a, .int .i64 b, .int .i64 c, .int .i64 d] := (HX.out 1 (by decide) (by first | (refine hd ⟨1, .data⟩ ?_ rfl; simp; done) | (refine hd ⟨1, .guard⟩ ?_ rfl; simp; done) | (refine hd ⟨1, .chain⟩ ?_ rfl; simp; done))).trans (by rw [hL]; rfl)
      refine wpOp_some rfl ?_
      simp only [v1]
      have hV : (.bool true : Value) = (L[2]?).getD undef := by rw [hL]; rfl
      have HV := Lib.hid hV
      clear hL hV hd hio
      suffices hh : ∀ K : Act → World → Prop, (∀ ac' w', (∃ x : Nat → Value, ac' = ⟨#[u0, u1, u2, .pointer (some ⟨p, 0, none⟩), .pointer (some ⟨q, 0, none⟩), u5, u6, u7, u8, u9, u10, u11, u12, u13, u14, u15, u16, x 17, x 18, x 19, x 20, x 21, x 22, x 23, x 24, x 25, x 26, x 27, x 28, x 29, x 30, x 31, x 32, x 33, x 34, x 35, x 36, x 37, u38, u39, u40, u41, u42, u43, u44, u45, u46, u47, u48, u49, u50, u51, u52, u53, u54, u55, u56, u57, u58, u59, u60, u61, u62], []⟩ ∧ (∀ i, i < 21 → (listed.setIfInBounds 2 true).getD i false = true → x (17 + i) = (L[i]?).getD undef) ∧ Two w p q a b c d a2 b2 c2 d2 w') → K ac' w') → (if Region.wanted _ _ = true then Oper.wp _ _ _ _ K _ else K _ _) from hh _ (fun _ _ h => h)
      intro K hK
      go_simp
      refine (right_any a b c d _).mono ?_
      rintro e w2 ⟨rfl, hb⟩
      rw [hoa]
      refine hK _ _ ⟨fun j => if j = 17 + 2 then .bool true else x j, ?_, hx_set HX.out 2 _ HV.out, (HT.out.keep hb)⟩
      simp [v1]
    · obtain rfl := Option.some.inj hio
      have v2 : x 19 = .bool true := (HX.out 2 (by decide) (by first | (refine hd ⟨2, .data⟩ ?_ rfl; simp; done) | (refine hd ⟨2, .guard⟩ ?_ rfl; simp; done) | (refine hd ⟨2, .chain⟩ ?_ rfl; simp; done))).trans (by rw [hL]; rfl)
      refine wpOp_some rfl ?_
      simp only [v2]
      have hV : (.bool true : Value) = (L[3]?).getD undef := by rw [hL]; rfl
      have HV := Lib.hid hV
      clear hL hV hd hio
      suffices hh : ∀ K : Act → World → Prop, (∀ ac' w', (∃ x : Nat → Value, ac' = ⟨#[u0, u1, u2, .pointer (some ⟨p, 0, none⟩), .pointer (some ⟨q, 0, none⟩), u5, u6, u7, u8, u9, u10, u11, u12, u13, u14, u15, u16, x 17, x 18, x 19, x 20, x 21, x 22, x 23, x 24, x 25, x 26, x 27, x 28, x 29, x 30, x 31, x 32, x 33, x 34, x 35, x 36, x 37, u38, u39, u40, u41, u42, u43, u44, u45, u46, u47, u48, u49, u50, u51, u52, u53, u54, u55, u56, u57, u58, u59, u60, u61, u62], []⟩ ∧ (∀ i, i < 21 → (listed.setIfInBounds 3 true).getD i false = true → x (17 + i) = (L[i]?).getD undef) ∧ Two w p q a b c d a2 b2 c2 d2 w') → K ac' w') → (if Region.wanted _ _ = true then Oper.wp _ _ _ _ K _ else K _ _) from hh _ (fun _ _ h => h)
      intro K hK
      go_simp
      refine hK _ _ ⟨fun j => if j = 17 + 3 then .bool true else x j, ?_, hx_set HX.out 3 _ HV.out, HT.out⟩
      simp [v2]
    · obtain rfl := Option.some.inj hio
      have v3 : x 20 = .bool true := (HX.out 3 (by decide) (by first | (refine hd ⟨3, .data⟩ ?_ rfl; simp; done) | (refine hd ⟨3, .guard⟩ ?_ rfl; simp; done) | (refine hd ⟨3, .chain⟩ ?_ rfl; simp; done))).trans (by rw [hL]; rfl)
      refine wpOp_some rfl ?_
      simp only [v3]
      have hV : (.agg #[.int .i64 a2, .int .i64 b2, .int .i64 c2, .int .i64 d2] : Value) = (L[4]?).getD undef := by rw [hL]; rfl
      have HV := Lib.hid hV
      clear hL hV hd hio
      suffices hh : ∀ K : Act → World → Prop, (∀ ac' w', (∃ x : Nat → Value, ac' = ⟨#[u0, u1, u2, .pointer (some ⟨p, 0, none⟩), .pointer (some ⟨q, 0, none⟩), u5, u6, u7, u8, u9, u10, u11, u12, u13, u14, u15, u16, x 17, x 18, x 19, x 20, x 21, x 22, x 23, x 24, x 25, x 26, x 27, x 28, x 29, x 30, x 31, x 32, x 33, x 34, x 35, x 36, x 37, u38, u39, u40, u41, u42, u43, u44, u45, u46, u47, u48, u49, u50, u51, u52, u53, u54, u55, u56, u57, u58, u59, u60, u61, u62], []⟩ ∧ (∀ i, i < 21 → (listed.setIfInBounds 4 true).getD i false = true → x (17 + i) = (L[i]?).getD undef) ∧ Two w p q a b c d a2 b2 c2 d2 w') → K ac' w') → (if Region.wanted _ _ = true then Oper.wp _ _ _ _ K _ else K _ _) from hh _ (fun _ _ h => h)
      intro K hK
      go_simp
      refine hK _ _ ⟨fun j => if j = 17 + 4 then .agg #[.int .i64 a2, .int .i64 b2, .int .i64 c2, .int .i64 d2] else x j, ?_, hx_set HX.out 4 _ HV.out, HT.out⟩
      simp [v3]
    · obtain rfl := Option.some.inj hio
      have v4 : x 21 = .agg #[.int .i64 a2, .int .i64 b2, .int .i64 c2, .int .i64 d2] := (HX.out 4 (by decide) (by first | (refine hd ⟨4, .data⟩ ?_ rfl; simp; done) | (refine hd ⟨4, .guard⟩ ?_ rfl; simp; done) | (refine hd ⟨4, .chain⟩ ?_ rfl; simp; done))).trans (by rw [hL]; rfl)
      have v3 : x 20 = .bool true := (HX.out 3 (by decide) (by first | (refine hd ⟨3, .data⟩ ?_ rfl; simp; done) | (refine hd ⟨3, .guard⟩ ?_ rfl; simp; done) | (refine hd ⟨3, .chain⟩ ?_ rfl; simp; done))).trans (by rw [hL]; rfl)
      refine wpOp_some rfl ?_
      simp only [v4, v3]
      have hV : (.agg #[.int .i64 a2, .int .i64 b2, .int .i64 c2, .int .i64 d2] : Value) = (L[5]?).getD undef := by rw [hL]; rfl
      have HV := Lib.hid hV
      clear hL hV hd hio
      suffices hh : ∀ K : Act → World → Prop, (∀ ac' w', (∃ x : Nat → Value, ac' = ⟨#[u0, u1, u2, .pointer (some ⟨p, 0, none⟩), .pointer (some ⟨q, 0, none⟩), u5, u6, u7, u8, u9, u10, u11, u12, u13, u14, u15, u16, x 17, x 18, x 19, x 20, x 21, x 22, x 23, x 24, x 25, x 26, x 27, x 28, x 29, x 30, x 31, x 32, x 33, x 34, x 35, x 36, x 37, u38, u39, u40, u41, u42, u43, u44, u45, u46, u47, u48, u49, u50, u51, u52, u53, u54, u55, u56, u57, u58, u59, u60, u61, u62], []⟩ ∧ (∀ i, i < 21 → (listed.setIfInBounds 5 true).getD i false = true → x (17 + i) = (L[i]?).getD undef) ∧ Two w p q a b c d a2 b2 c2 d2 w') → K ac' w') → (if Region.wanted _ _ = true then Oper.wp _ _ _ _ K _ else K _ _) from hh _ (fun _ _ h => h)
      intro K hK
      go_simp
      refine (of_any _ _ _ _ _).mono ?_
      rintro e w2 ⟨rfl, hb⟩
      refine hK _ _ ⟨fun j => if j = 17 + 5 then .agg #[.int .i64 a2, .int .i64 b2, .int .i64 c2, .int .i64 d2] else x j, ?_, hx_set HX.out 5 _ HV.out, (HT.out.keep hb)⟩
      simp [v4, v3]
    · obtain rfl := Option.some.inj hio
      have v5 : x 22 = .agg #[.int .i64 a2, .int .i64 b2, .int .i64 c2, .int .i64 d2] := (HX.out 5 (by decide) (by first | (refine hd ⟨5, .data⟩ ?_ rfl; simp; done) | (refine hd ⟨5, .guard⟩ ?_ rfl; simp; done) | (refine hd ⟨5, .chain⟩ ?_ rfl; simp; done))).trans (by rw [hL]; rfl)
      have v3 : x 20 = .bool true := (HX.out 3 (by decide) (by first | (refine hd ⟨3, .data⟩ ?_ rfl; simp; done) | (refine hd ⟨3, .guard⟩ ?_ rfl; simp; done) | (refine hd ⟨3, .chain⟩ ?_ rfl; simp; done))).trans (by rw [hL]; rfl)
      refine wpOp_some rfl ?_
      simp only [v5, v3]
      have hV : (.bool true : Value) = (L[6]?).getD undef := by rw [hL]; rfl
      have HV := Lib.hid hV
      clear hL hV hd hio
      suffices hh : ∀ K : Act → World → Prop, (∀ ac' w', (∃ x : Nat → Value, ac' = ⟨#[u0, u1, u2, .pointer (some ⟨p, 0, none⟩), .pointer (some ⟨q, 0, none⟩), u5, u6, u7, u8, u9, u10, u11, u12, u13, u14, u15, u16, x 17, x 18, x 19, x 20, x 21, x 22, x 23, x 24, x 25, x 26, x 27, x 28, x 29, x 30, x 31, x 32, x 33, x 34, x 35, x 36, x 37, u38, u39, u40, u41, u42, u43, u44, u45, u46, u47, u48, u49, u50, u51, u52, u53, u54, u55, u56, u57, u58, u59, u60, u61, u62], []⟩ ∧ (∀ i, i < 21 → (listed.setIfInBounds 6 true).getD i false = true → x (17 + i) = (L[i]?).getD undef) ∧ Two w p q a b c d a2 b2 c2 d2 w') → K ac' w') → (if Region.wanted _ _ = true then Oper.wp _ _ _ _ K _ else K _ _) from hh _ (fun _ _ h => h)
      intro K hK
      go_simp
      refine (right_any a2 b2 c2 d2 _).mono ?_
      rintro e w2 ⟨rfl, hb⟩
      rw [hob]
      refine hK _ _ ⟨fun j => if j = 17 + 6 then .bool true else x j, ?_, hx_set HX.out 6 _ HV.out, (HT.out.keep hb)⟩
      simp [v5, v3]
    · obtain rfl := Option.some.inj hio
      have v3 : x 20 = .bool true := (HX.out 3 (by decide) (by first | (refine hd ⟨3, .data⟩ ?_ rfl; simp; done) | (refine hd ⟨3, .guard⟩ ?_ rfl; simp; done) | (refine hd ⟨3, .chain⟩ ?_ rfl; simp; done))).trans (by rw [hL]; rfl)
      have v6 : x 23 = .bool true := (HX.out 6 (by decide) (by first | (refine hd ⟨6, .data⟩ ?_ rfl; simp; done) | (refine hd ⟨6, .guard⟩ ?_ rfl; simp; done) | (refine hd ⟨6, .chain⟩ ?_ rfl; simp; done))).trans (by rw [hL]; rfl)
      refine wpOp_some rfl ?_
      simp only [v3, v6]
      have hV : (.bool true : Value) = (L[7]?).getD undef := by rw [hL]; rfl
      have HV := Lib.hid hV
      clear hL hV hd hio
      suffices hh : ∀ K : Act → World → Prop, (∀ ac' w', (∃ x : Nat → Value, ac' = ⟨#[u0, u1, u2, .pointer (some ⟨p, 0, none⟩), .pointer (some ⟨q, 0, none⟩), u5, u6, u7, u8, u9, u10, u11, u12, u13, u14, u15, u16, x 17, x 18, x 19, x 20, x 21, x 22, x 23, x 24, x 25, x 26, x 27, x 28, x 29, x 30, x 31, x 32, x 33, x 34, x 35, x 36, x 37, u38, u39, u40, u41, u42, u43, u44, u45, u46, u47, u48, u49, u50, u51, u52, u53, u54, u55, u56, u57, u58, u59, u60, u61, u62], []⟩ ∧ (∀ i, i < 21 → (listed.setIfInBounds 7 true).getD i false = true → x (17 + i) = (L[i]?).getD undef) ∧ Two w p q a b c d a2 b2 c2 d2 w') → K ac' w') → (if Region.wanted _ _ = true then Oper.wp _ _ _ _ K _ else K _ _) from hh _ (fun _ _ h => h)
      intro K hK
      go_simp
      refine hK _ _ ⟨fun j => if j = 17 + 7 then .bool true else x j, ?_, hx_set HX.out 7 _ HV.out, HT.out⟩
      simp [v3, v6]
    · obtain rfl := Option.some.inj hio
      have v7 : x 24 = .bool true := (HX.out 7 (by decide) (by first | (refine hd ⟨7, .data⟩ ?_ rfl; simp; done) | (refine hd ⟨7, .guard⟩ ?_ rfl; simp; done) | (refine hd ⟨7, .chain⟩ ?_ rfl; simp; done))).trans (by rw [hL]; rfl)
      refine wpOp_some rfl ?_
      simp only [v7]
      have hV : (.bool true : Value) = (L[8]?).getD undef := by rw [hL]; rfl
      have HV := Lib.hid hV
      clear hL hV hd hio
      suffices hh : ∀ K : Act → World → Prop, (∀ ac' w', (∃ x : Nat → Value, ac' = ⟨#[u0, u1, u2, .pointer (some ⟨p, 0, none⟩), .pointer (some ⟨q, 0, none⟩), u5, u6, u7, u8, u9, u10, u11, u12, u13, u14, u15, u16, x 17, x 18, x 19, x 20, x 21, x 22, x 23, x 24, x 25, x 26, x 27, x 28, x 29, x 30, x 31, x 32, x 33, x 34, x 35, x 36, x 37, u38, u39, u40, u41, u42, u43, u44, u45, u46, u47, u48, u49, u50, u51, u52, u53, u54, u55, u56, u57, u58, u59, u60, u61, u62], []⟩ ∧ (∀ i, i < 21 → (listed.setIfInBounds 8 true).getD i false = true → x (17 + i) = (L[i]?).getD undef) ∧ Two w p q a b c d a2 b2 c2 d2 w') → K ac' w') → (if Region.wanted _ _ = true then Oper.wp _ _ _ _ K _ else K _ _) from hh _ (fun _ _ h => h)
      intro K hK
      go_simp
      refine hK _ _ ⟨fun j => if j = 17 + 8 then .bool true else x j, ?_, hx_set HX.out 8 _ HV.out, HT.out⟩
      simp [v7]
    · obtain rfl := Option.some.inj hio
      have v8 : x 25 = .bool true := (HX.out 8 (by decide) (by first | (refine hd ⟨8, .data⟩ ?_ rfl; simp; done) | (refine hd ⟨8, .guard⟩ ?_ rfl; simp; done) | (refine hd ⟨8, .chain⟩ ?_ rfl; simp; done))).trans (by rw [hL]; rfl)
      refine wpOp_some rfl ?_
      simp only [v8]
      have hV : (.agg #[.int .i64 a, .int .i64 b, .int .i64 c, .int .i64 d] : Value) = (L[9]?).getD undef := by rw [hL]; rfl
      have HV := Lib.hid hV
      clear hL hV hd hio
      suffices hh : ∀ K : Act → World → Prop, (∀ ac' w', (∃ x : Nat → Value, ac' = ⟨#[u0, u1, u2, .pointer (some ⟨p, 0, none⟩), .pointer (some ⟨q, 0, none⟩), u5, u6, u7, u8, u9, u10, u11, u12, u13, u14, u15, u16, x 17, x 18, x 19, x 20, x 21, x 22, x 23, x 24, x 25, x 26, x 27, x 28, x 29, x 30, x 31, x 32, x 33, x 34, x 35, x 36, x 37, u38, u39, u40, u41, u42, u43, u44, u45, u46, u47, u48, u49, u50, u51, u52, u53, u54, u55, u56, u57, u58, u59, u60, u61, u62], []⟩ ∧ (∀ i, i < 21 → (listed.setIfInBounds 9 true).getD i false = true → x (17 + i) = (L[i]?).getD undef) ∧ Two w p q a b c d a2 b2 c2 d2 w') → K ac' w') → (if Region.wanted _ _ = true then Oper.wp _ _ _ _ K _ else K _ _) from hh _ (fun _ _ h => h)
      intro K hK
      go_simp
      refine hK _ _ ⟨fun j => if j = 17 + 9 then .agg #[.int .i64 a, .int .i64 b, .int .i64 c, .int .i64 d] else x j, ?_, hx_set HX.out 9 _ HV.out, HT.out⟩
      simp [v8]
    · obtain rfl := Option.some.inj hio
      have v9 : x 26 = .agg #[.int .i64 a, .int .i64 b, .int .i64 c, .int .i64 d] := (HX.out 9 (by decide) (by first | (refine hd ⟨9, .data⟩ ?_ rfl; simp; done) | (refine hd ⟨9, .guard⟩ ?_ rfl; simp; done) | (refine hd ⟨9, .chain⟩ ?_ rfl; simp; done))).trans (by rw [hL]; rfl)
      have v8 : x 25 = .bool true := (HX.out 8 (by decide) (by first | (refine hd ⟨8, .data⟩ ?_ rfl; simp; done) | (refine hd ⟨8, .guard⟩ ?_ rfl; simp; done) | (refine hd ⟨8, .chain⟩ ?_ rfl; simp; done))).trans (by rw [hL]; rfl)
      refine wpOp_some rfl ?_
      simp only [v9, v8]
      have hV : (.agg #[.int .i64 a, .int .i64 b, .int .i64 c, .int .i64 d] : Value) = (L[10]?).getD undef := by rw [hL]; rfl
      have HV := Lib.hid hV
      clear hL hV hd hio
      suffices hh : ∀ K : Act → World → Prop, (∀ ac' w', (∃ x : Nat → Value, ac' = ⟨#[u0, u1, u2, .pointer (some ⟨p, 0, none⟩), .pointer (some ⟨q, 0, none⟩), u5, u6, u7, u8, u9, u10, u11, u12, u13, u14, u15, u16, x 17, x 18, x 19, x 20, x 21, x 22, x 23, x 24, x 25, x 26, x 27, x 28, x 29, x 30, x 31, x 32, x 33, x 34, x 35, x 36, x 37, u38, u39, u40, u41, u42, u43, u44, u45, u46, u47, u48, u49, u50, u51, u52, u53, u54, u55, u56, u57, u58, u59, u60, u61, u62], []⟩ ∧ (∀ i, i < 21 → (listed.setIfInBounds 10 true).getD i false = true → x (17 + i) = (L[i]?).getD undef) ∧ Two w p q a b c d a2 b2 c2 d2 w') → K ac' w') → (if Region.wanted _ _ = true then Oper.wp _ _ _ _ K _ else K _ _) from hh _ (fun _ _ h => h)
      intro K hK
      go_simp
      refine (of_any _ _ _ _ _).mono ?_
      rintro e w2 ⟨rfl, hb⟩
      refine hK _ _ ⟨fun j => if j = 17 + 10 then .agg #[.int .i64 a, .int .i64 b, .int .i64 c, .int .i64 d] else x j, ?_, hx_set HX.out 10 _ HV.out, (HT.out.keep hb)⟩
      simp [v9, v8]
    · obtain rfl := Option.some.inj hio
      have v10 : x 27 = .agg #[.int .i64 a, .int .i64 b, .int .i64 c, .int .i64 d] := (HX.out 10 (by decide) (by first | (refine hd ⟨10, .data⟩ ?_ rfl; simp; done) | (refine hd ⟨10, .guard⟩ ?_ rfl; simp; done) | (refine hd ⟨10, .chain⟩ ?_ rfl; simp; done))).trans (by rw [hL]; rfl)
      have v8 : x 25 = .bool true := (HX.out 8 (by decide) (by first | (refine hd ⟨8, .data⟩ ?_ rfl; simp; done) | (refine hd ⟨8, .guard⟩ ?_ rfl; simp; done) | (refine hd ⟨8, .chain⟩ ?_ rfl; simp; done))).trans (by rw [hL]; rfl)
      refine wpOp_some rfl ?_
      simp only [v10, v8]
      have hV : (.string nA : Value) = (L[11]?).getD undef := by rw [hL]; rfl
      have HV := Lib.hid hV
      clear hL hV hd hio
      suffices hh : ∀ K : Act → World → Prop, (∀ ac' w', (∃ x : Nat → Value, ac' = ⟨#[u0, u1, u2, .pointer (some ⟨p, 0, none⟩), .pointer (some ⟨q, 0, none⟩), u5, u6, u7, u8, u9, u10, u11, u12, u13, u14, u15, u16, x 17, x 18, x 19, x 20, x 21, x 22, x 23, x 24, x 25, x 26, x 27, x 28, x 29, x 30, x 31, x 32, x 33, x 34, x 35, x 36, x 37, u38, u39, u40, u41, u42, u43, u44, u45, u46, u47, u48, u49, u50, u51, u52, u53, u54, u55, u56, u57, u58, u59, u60, u61, u62], []⟩ ∧ (∀ i, i < 21 → (listed.setIfInBounds 11 true).getD i false = true → x (17 + i) = (L[i]?).getD undef) ∧ Two w p q a b c d a2 b2 c2 d2 w') → K ac' w') → (if Region.wanted _ _ = true then Oper.wp _ _ _ _ K _ else K _ _) from hh _ (fun _ _ h => h)
      intro K hK
      go_simp
      refine (name_right a b c d hoa _).mono ?_
      rintro e w2 ⟨rfl, hb⟩
      rw [hnA]
      refine hK _ _ ⟨fun j => if j = 17 + 11 then .string nA else x j, ?_, hx_set HX.out 11 _ HV.out, (HT.out.keep hb)⟩
      simp [v10, v8]
    · obtain rfl := Option.some.inj hio
      have v8 : x 25 = .bool true := (HX.out 8 (by decide) (by first | (refine hd ⟨8, .data⟩ ?_ rfl; simp; done) | (refine hd ⟨8, .guard⟩ ?_ rfl; simp; done) | (refine hd ⟨8, .chain⟩ ?_ rfl; simp; done))).trans (by rw [hL]; rfl)
      refine wpOp_some rfl ?_
      simp only [v8]
      have hV : (.agg #[.int .i64 a2, .int .i64 b2, .int .i64 c2, .int .i64 d2] : Value) = (L[12]?).getD undef := by rw [hL]; rfl
      have HV := Lib.hid hV
      clear hL hV hd hio
      suffices hh : ∀ K : Act → World → Prop, (∀ ac' w', (∃ x : Nat → Value, ac' = ⟨#[u0, u1, u2, .pointer (some ⟨p, 0, none⟩), .pointer (some ⟨q, 0, none⟩), u5, u6, u7, u8, u9, u10, u11, u12, u13, u14, u15, u16, x 17, x 18, x 19, x 20, x 21, x 22, x 23, x 24, x 25, x 26, x 27, x 28, x 29, x 30, x 31, x 32, x 33, x 34, x 35, x 36, x 37, u38, u39, u40, u41, u42, u43, u44, u45, u46, u47, u48, u49, u50, u51, u52, u53, u54, u55, u56, u57, u58, u59, u60, u61, u62], []⟩ ∧ (∀ i, i < 21 → (listed.setIfInBounds 12 true).getD i false = true → x (17 + i) = (L[i]?).getD undef) ∧ Two w p q a b c d a2 b2 c2 d2 w') → K ac' w') → (if Region.wanted _ _ = true then Oper.wp _ _ _ _ K _ else K _ _) from hh _ (fun _ _ h => h)
      intro K hK
      go_simp
      refine hK _ _ ⟨fun j => if j = 17 + 12 then .agg #[.int .i64 a2, .int .i64 b2, .int .i64 c2, .int .i64 d2] else x j, ?_, hx_set HX.out 12 _ HV.out, HT.out⟩
      simp [v8]
    · obtain rfl := Option.some.inj hio
      have v12 : x 29 = .agg #[.int .i64 a2, .int .i64 b2, .int .i64 c2, .int .i64 d2] := (HX.out 12 (by decide) (by first | (refine hd ⟨12, .data⟩ ?_ rfl; simp; done) | (refine hd ⟨12, .guard⟩ ?_ rfl; simp; done) | (refine hd ⟨12, .chain⟩ ?_ rfl; simp; done))).trans (by rw [hL]; rfl)
      have v8 : x 25 = .bool true := (HX.out 8 (by decide) (by first | (refine hd ⟨8, .data⟩ ?_ rfl; simp; done) | (refine hd ⟨8, .guard⟩ ?_ rfl; simp; done) | (refine hd ⟨8, .chain⟩ ?_ rfl; simp; done))).trans (by rw [hL]; rfl)
      refine wpOp_some rfl ?_
      simp only [v12, v8]
      have hV : (.agg #[.int .i64 a2, .int .i64 b2, .int .i64 c2, .int .i64 d2] : Value) = (L[13]?).getD undef := by rw [hL]; rfl
      have HV := Lib.hid hV
      clear hL hV hd hio
      suffices hh : ∀ K : Act → World → Prop, (∀ ac' w', (∃ x : Nat → Value, ac' = ⟨#[u0, u1, u2, .pointer (some ⟨p, 0, none⟩), .pointer (some ⟨q, 0, none⟩), u5, u6, u7, u8, u9, u10, u11, u12, u13, u14, u15, u16, x 17, x 18, x 19, x 20, x 21, x 22, x 23, x 24, x 25, x 26, x 27, x 28, x 29, x 30, x 31, x 32, x 33, x 34, x 35, x 36, x 37, u38, u39, u40, u41, u42, u43, u44, u45, u46, u47, u48, u49, u50, u51, u52, u53, u54, u55, u56, u57, u58, u59, u60, u61, u62], []⟩ ∧ (∀ i, i < 21 → (listed.setIfInBounds 13 true).getD i false = true → x (17 + i) = (L[i]?).getD undef) ∧ Two w p q a b c d a2 b2 c2 d2 w') → K ac' w') → (if Region.wanted _ _ = true then Oper.wp _ _ _ _ K _ else K _ _) from hh _ (fun _ _ h => h)
      intro K hK
      go_simp
      refine (of_any _ _ _ _ _).mono ?_
      rintro e w2 ⟨rfl, hb⟩
      refine hK _ _ ⟨fun j => if j = 17 + 13 then .agg #[.int .i64 a2, .int .i64 b2, .int .i64 c2, .int .i64 d2] else x j, ?_, hx_set HX.out 13 _ HV.out, (HT.out.keep hb)⟩
      simp [v12, v8]
    · obtain rfl := Option.some.inj hio
      have v13 : x 30 = .agg #[.int .i64 a2, .int .i64 b2, .int .i64 c2, .int .i64 d2] := (HX.out 13 (by decide) (by first | (refine hd ⟨13, .data⟩ ?_ rfl; simp; done) | (refine hd ⟨13, .guard⟩ ?_ rfl; simp; done) | (refine hd ⟨13, .chain⟩ ?_ rfl; simp; done))).trans (by rw [hL]; rfl)
      have v8 : x 25 = .bool true := (HX.out 8 (by decide) (by first | (refine hd ⟨8, .data⟩ ?_ rfl; simp; done) | (refine hd ⟨8, .guard⟩ ?_ rfl; simp; done) | (refine hd ⟨8, .chain⟩ ?_ rfl; simp; done))).trans (by rw [hL]; rfl)
      refine wpOp_some rfl ?_
      simp only [v13, v8]
      have hV : (.string nB : Value) = (L[14]?).getD undef := by rw [hL]; rfl
      have HV := Lib.hid hV
      clear hL hV hd hio
      suffices hh : ∀ K : Act → World → Prop, (∀ ac' w', (∃ x : Nat → Value, ac' = ⟨#[u0, u1, u2, .pointer (some ⟨p, 0, none⟩), .pointer (some ⟨q, 0, none⟩), u5, u6, u7, u8, u9, u10, u11, u12, u13, u14, u15, u16, x 17, x 18, x 19, x 20, x 21, x 22, x 23, x 24, x 25, x 26, x 27, x 28, x 29, x 30, x 31, x 32, x 33, x 34, x 35, x 36, x 37, u38, u39, u40, u41, u42, u43, u44, u45, u46, u47, u48, u49, u50, u51, u52, u53, u54, u55, u56, u57, u58, u59, u60, u61, u62], []⟩ ∧ (∀ i, i < 21 → (listed.setIfInBounds 14 true).getD i false = true → x (17 + i) = (L[i]?).getD undef) ∧ Two w p q a b c d a2 b2 c2 d2 w') → K ac' w') → (if Region.wanted _ _ = true then Oper.wp _ _ _ _ K _ else K _ _) from hh _ (fun _ _ h => h)
      intro K hK
      go_simp
      refine (name_right a2 b2 c2 d2 hob _).mono ?_
      rintro e w2 ⟨rfl, hb⟩
      rw [hnB]
      refine hK _ _ ⟨fun j => if j = 17 + 14 then .string nB else x j, ?_, hx_set HX.out 14 _ HV.out, (HT.out.keep hb)⟩
      simp [v13, v8]
    · obtain rfl := Option.some.inj hio
      have v11 : x 28 = .string nA := (HX.out 11 (by decide) (by first | (refine hd ⟨11, .data⟩ ?_ rfl; simp; done) | (refine hd ⟨11, .guard⟩ ?_ rfl; simp; done) | (refine hd ⟨11, .chain⟩ ?_ rfl; simp; done))).trans (by rw [hL]; rfl)
      have v14 : x 31 = .string nB := (HX.out 14 (by decide) (by first | (refine hd ⟨14, .data⟩ ?_ rfl; simp; done) | (refine hd ⟨14, .guard⟩ ?_ rfl; simp; done) | (refine hd ⟨14, .chain⟩ ?_ rfl; simp; done))).trans (by rw [hL]; rfl)
      have v8 : x 25 = .bool true := (HX.out 8 (by decide) (by first | (refine hd ⟨8, .data⟩ ?_ rfl; simp; done) | (refine hd ⟨8, .guard⟩ ?_ rfl; simp; done) | (refine hd ⟨8, .chain⟩ ?_ rfl; simp; done))).trans (by rw [hL]; rfl)
      refine wpOp_some rfl ?_
      simp only [v11, v14, v8]
      have hV : (.bool true : Value) = (L[15]?).getD undef := by rw [hL]; rfl
      have HV := Lib.hid hV
      clear hL hV hd hio
      suffices hh : ∀ K : Act → World → Prop, (∀ ac' w', (∃ x : Nat → Value, ac' = ⟨#[u0, u1, u2, .pointer (some ⟨p, 0, none⟩), .pointer (some ⟨q, 0, none⟩), u5, u6, u7, u8, u9, u10, u11, u12, u13, u14, u15, u16, x 17, x 18, x 19, x 20, x 21, x 22, x 23, x 24, x 25, x 26, x 27, x 28, x 29, x 30, x 31, x 32, x 33, x 34, x 35, x 36, x 37, u38, u39, u40, u41, u42, u43, u44, u45, u46, u47, u48, u49, u50, u51, u52, u53, u54, u55, u56, u57, u58, u59, u60, u61, u62], []⟩ ∧ (∀ i, i < 21 → (listed.setIfInBounds 15 true).getD i false = true → x (17 + i) = (L[i]?).getD undef) ∧ Two w p q a b c d a2 b2 c2 d2 w') → K ac' w') → (if Region.wanted _ _ = true then Oper.wp _ _ _ _ K _ else K _ _) from hh _ (fun _ _ h => h)
      intro K hK
      go_simp
      refine hK _ _ ⟨fun j => if j = 17 + 15 then .bool true else x j, ?_, hx_set HX.out 15 _ HV.out, HT.out⟩
      simp [v11, v14, v8]
    · obtain rfl := Option.some.inj hio
      have v8 : x 25 = .bool true := (HX.out 8 (by decide) (by first | (refine hd ⟨8, .data⟩ ?_ rfl; simp; done) | (refine hd ⟨8, .guard⟩ ?_ rfl; simp; done) | (refine hd ⟨8, .chain⟩ ?_ rfl; simp; done))).trans (by rw [hL]; rfl)
      refine wpOp_some rfl ?_
      simp only [v8]
      have hV : (.agg #[.int .i64 a, .int .i64 b, .int .i64 c, .int .i64 d] : Value) = (L[16]?).getD undef := by rw [hL]; rfl
      have HV := Lib.hid hV
      clear hL hV hd hio
      suffices hh : ∀ K : Act → World → Prop, (∀ ac' w', (∃ x : Nat → Value, ac' = ⟨#[u0, u1, u2, .pointer (some ⟨p, 0, none⟩), .pointer (some ⟨q, 0, none⟩), u5, u6, u7, u8, u9, u10, u11, u12, u13, u14, u15, u16, x 17, x 18, x 19, x 20, x 21, x 22, x 23, x 24, x 25, x 26, x 27, x 28, x 29, x 30, x 31, x 32, x 33, x 34, x 35, x 36, x 37, u38, u39, u40, u41, u42, u43, u44, u45, u46, u47, u48, u49, u50, u51, u52, u53, u54, u55, u56, u57, u58, u59, u60, u61, u62], []⟩ ∧ (∀ i, i < 21 → (listed.setIfInBounds 16 true).getD i false = true → x (17 + i) = (L[i]?).getD undef) ∧ Two w p q a b c d a2 b2 c2 d2 w') → K ac' w') → (if Region.wanted _ _ = true then Oper.wp _ _ _ _ K _ else K _ _) from hh _ (fun _ _ h => h)
      intro K hK
      go_simp
      refine hK _ _ ⟨fun j => if j = 17 + 16 then .agg #[.int .i64 a, .int .i64 b, .int .i64 c, .int .i64 d] else x j, ?_, hx_set HX.out 16 _ HV.out, HT.out⟩
      simp [v8]
    · obtain rfl := Option.some.inj hio
      have v8 : x 25 = .bool true := (HX.out 8 (by decide) (by first | (refine hd ⟨8, .data⟩ ?_ rfl; simp; done) | (refine hd ⟨8, .guard⟩ ?_ rfl; simp; done) | (refine hd ⟨8, .chain⟩ ?_ rfl; simp; done))).trans (by rw [hL]; rfl)
      refine wpOp_some rfl ?_
      simp only [v8]
      have hV : (.agg #[.int .i64 a2, .int .i64 b2, .int .i64 c2, .int .i64 d2] : Value) = (L[17]?).getD undef := by rw [hL]; rfl
      have HV := Lib.hid hV
      clear hL hV hd hio
      suffices hh : ∀ K : Act → World → Prop, (∀ ac' w', (∃ x : Nat → Value, ac' = ⟨#[u0, u1, u2, .pointer (some ⟨p, 0, none⟩), .pointer (some ⟨q, 0, none⟩), u5, u6, u7, u8, u9, u10, u11, u12, u13, u14, u15, u16, x 17, x 18, x 19, x 20, x 21, x 22, x 23, x 24, x 25, x 26, x 27, x 28, x 29, x 30, x 31, x 32, x 33, x 34, x 35, x 36, x 37, u38, u39, u40, u41, u42, u43, u44, u45, u46, u47, u48, u49, u50, u51, u52, u53, u54, u55, u56, u57, u58, u59, u60, u61, u62], []⟩ ∧ (∀ i, i < 21 → (listed.setIfInBounds 17 true).getD i false = true → x (17 + i) = (L[i]?).getD undef) ∧ Two w p q a b c d a2 b2 c2 d2 w') → K ac' w') → (if Region.wanted _ _ = true then Oper.wp _ _ _ _ K _ else K _ _) from hh _ (fun _ _ h => h)
      intro K hK
      go_simp
      refine hK _ _ ⟨fun j => if j = 17 + 17 then .agg #[.int .i64 a2, .int .i64 b2, .int .i64 c2, .int .i64 d2] else x j, ?_, hx_set HX.out 17 _ HV.out, HT.out⟩
      simp [v8]
    · obtain rfl := Option.some.inj hio
      have v16 : x 33 = .agg #[.int .i64 a, .int .i64 b, .int .i64 c, .int .i64 d] := (HX.out 16 (by decide) (by first | (refine hd ⟨16, .data⟩ ?_ rfl; simp; done) | (refine hd ⟨16, .guard⟩ ?_ rfl; simp; done) | (refine hd ⟨16, .chain⟩ ?_ rfl; simp; done))).trans (by rw [hL]; rfl)
      have v17 : x 34 = .agg #[.int .i64 a2, .int .i64 b2, .int .i64 c2, .int .i64 d2] := (HX.out 17 (by decide) (by first | (refine hd ⟨17, .data⟩ ?_ rfl; simp; done) | (refine hd ⟨17, .guard⟩ ?_ rfl; simp; done) | (refine hd ⟨17, .chain⟩ ?_ rfl; simp; done))).trans (by rw [hL]; rfl)
      have v8 : x 25 = .bool true := (HX.out 8 (by decide) (by first | (refine hd ⟨8, .data⟩ ?_ rfl; simp; done) | (refine hd ⟨8, .guard⟩ ?_ rfl; simp; done) | (refine hd ⟨8, .chain⟩ ?_ rfl; simp; done))).trans (by rw [hL]; rfl)
      refine wpOp_some rfl ?_
      simp only [v16, v17, v8]
      have hV : (.bool true : Value) = (L[18]?).getD undef := by rw [hL]; rfl
      have HV := Lib.hid hV
      clear hL hV hd hio
      suffices hh : ∀ K : Act → World → Prop, (∀ ac' w', (∃ x : Nat → Value, ac' = ⟨#[u0, u1, u2, .pointer (some ⟨p, 0, none⟩), .pointer (some ⟨q, 0, none⟩), u5, u6, u7, u8, u9, u10, u11, u12, u13, u14, u15, u16, x 17, x 18, x 19, x 20, x 21, x 22, x 23, x 24, x 25, x 26, x 27, x 28, x 29, x 30, x 31, x 32, x 33, x 34, x 35, x 36, x 37, u38, u39, u40, u41, u42, u43, u44, u45, u46, u47, u48, u49, u50, u51, u52, u53, u54, u55, u56, u57, u58, u59, u60, u61, u62], []⟩ ∧ (∀ i, i < 21 → (listed.setIfInBounds 18 true).getD i false = true → x (17 + i) = (L[i]?).getD undef) ∧ Two w p q a b c d a2 b2 c2 d2 w') → K ac' w') → (if Region.wanted _ _ = true then Oper.wp _ _ _ _ K _ else K _ _) from hh _ (fun _ _ h => h)
      intro K hK
      go_simp
      refine hK _ _ ⟨fun j => if j = 17 + 18 then .bool true else x j, ?_, hx_set HX.out 18 _ HV.out, HT.out⟩
      simp [v16, v17, v8]
    · obtain rfl := Option.some.inj hio
      have v15 : x 32 = .bool true := (HX.out 15 (by decide) (by first | (refine hd ⟨15, .data⟩ ?_ rfl; simp; done) | (refine hd ⟨15, .guard⟩ ?_ rfl; simp; done) | (refine hd ⟨15, .chain⟩ ?_ rfl; simp; done))).trans (by rw [hL]; rfl)
      have v18 : x 35 = .bool true := (HX.out 18 (by decide) (by first | (refine hd ⟨18, .data⟩ ?_ rfl; simp; done) | (refine hd ⟨18, .guard⟩ ?_ rfl; simp; done) | (refine hd ⟨18, .chain⟩ ?_ rfl; simp; done))).trans (by rw [hL]; rfl)
      have v8 : x 25 = .bool true := (HX.out 8 (by decide) (by first | (refine hd ⟨8, .data⟩ ?_ rfl; simp; done) | (refine hd ⟨8, .guard⟩ ?_ rfl; simp; done) | (refine hd ⟨8, .chain⟩ ?_ rfl; simp; done))).trans (by rw [hL]; rfl)
      refine wpOp_some rfl ?_
      simp only [v15, v18, v8]
      have hV : (.bool false : Value) = (L[19]?).getD undef := by rw [hL]; rfl
      have HV := Lib.hid hV
      clear hL hV hd hio
      suffices hh : ∀ K : Act → World → Prop, (∀ ac' w', (∃ x : Nat → Value, ac' = ⟨#[u0, u1, u2, .pointer (some ⟨p, 0, none⟩), .pointer (some ⟨q, 0, none⟩), u5, u6, u7, u8, u9, u10, u11, u12, u13, u14, u15, u16, x 17, x 18, x 19, x 20, x 21, x 22, x 23, x 24, x 25, x 26, x 27, x 28, x 29, x 30, x 31, x 32, x 33, x 34, x 35, x 36, x 37, u38, u39, u40, u41, u42, u43, u44, u45, u46, u47, u48, u49, u50, u51, u52, u53, u54, u55, u56, u57, u58, u59, u60, u61, u62], []⟩ ∧ (∀ i, i < 21 → (listed.setIfInBounds 19 true).getD i false = true → x (17 + i) = (L[i]?).getD undef) ∧ Two w p q a b c d a2 b2 c2 d2 w') → K ac' w') → (if Region.wanted _ _ = true then Oper.wp _ _ _ _ K _ else K _ _) from hh _ (fun _ _ h => h)
      intro K hK
      go_simp
      refine hK _ _ ⟨fun j => if j = 17 + 19 then .bool false else x j, ?_, hx_set HX.out 19 _ HV.out, HT.out⟩
      simp [v15, v18, v8]
    · obtain rfl := Option.some.inj hio
      have v8 : x 25 = .bool true := (HX.out 8 (by decide) (by first | (refine hd ⟨8, .data⟩ ?_ rfl; simp; done) | (refine hd ⟨8, .guard⟩ ?_ rfl; simp; done) | (refine hd ⟨8, .chain⟩ ?_ rfl; simp; done))).trans (by rw [hL]; rfl)
      have v19 : x 36 = .bool false := (HX.out 19 (by decide) (by first | (refine hd ⟨19, .data⟩ ?_ rfl; simp; done) | (refine hd ⟨19, .guard⟩ ?_ rfl; simp; done) | (refine hd ⟨19, .chain⟩ ?_ rfl; simp; done))).trans (by rw [hL]; rfl)
      refine wpOp_some rfl ?_
      simp only [v8, v19]
      have hV : (.bool false : Value) = (L[20]?).getD undef := by rw [hL]; rfl
      have HV := Lib.hid hV
      clear hL hV hd hio
      suffices hh : ∀ K : Act → World → Prop, (∀ ac' w', (∃ x : Nat → Value, ac' = ⟨#[u0, u1, u2, .pointer (some ⟨p, 0, none⟩), .pointer (some ⟨q, 0, none⟩), u5, u6, u7, u8, u9, u10, u11, u12, u13, u14, u15, u16, x 17, x 18, x 19, x 20, x 21, x 22, x 23, x 24, x 25, x 26, x 27, x 28, x 29, x 30, x 31, x 32, x 33, x 34, x 35, x 36, x 37, u38, u39, u40, u41, u42, u43, u44, u45, u46, u47, u48, u49, u50, u51, u52, u53, u54, u55, u56, u57, u58, u59, u60, u61, u62], []⟩ ∧ (∀ i, i < 21 → (listed.setIfInBounds 20 true).getD i false = true → x (17 + i) = (L[i]?).getD undef) ∧ Two w p q a b c d a2 b2 c2 d2 w') → K ac' w') → (if Region.wanted _ _ = true then Oper.wp _ _ _ _ K _ else K _ _) from hh _ (fun _ _ h => h)
      intro K hK
      go_simp
      refine hK _ _ ⟨fun j => if j = 17 + 20 then .bool false else x j, ?_, hx_set HX.out 20 _ HV.out, HT.out⟩
      simp [v8, v19]

set_option maxRecDepth 100000 in
set_option maxHeartbeats 4000000 in
theorem names_reg_ne (w w1 : World) (p q : Nat) (a b c d a2 b2 c2 d2 : Int) (hoa : okId a b c d = true) (hob : okId a2 b2 c2 d2 = true) (nA nB : ByteArray) (hnA : nameUpto [a, b, c, d] 4 = nA) (hnB : nameUpto [a2, b2, c2, d2] 4 = nB) (hq1 : (nA.toList == nB.toList) = false) (hq2 : (a == a2 && (b == b2 && (c == c2 && (d == d2)))) = false)
    (hS : Two w p q a b c d a2 b2 c2 d2 { w1 with drawn := w1.drawn + 1 }) (Kx : Act → World → Prop) (Q : Exit → Act → World → Prop) (u0 u1 u2 u5 u6 u7 u8 u9 u10 u11 u12 u13 u14 u15 u16 u38 u39 u40 u41 u42 u43 u44 u45 u46 u47 u48 u49 u50 u51 u52 u53 u54 u55 u56 u57 u58 u59 u60 u61 u62 : Value) (x0 : Nat → Value)
    (hKx : ∀ (x : Nat → Value) (w' : World), x 37 = .bool false → Two w p q a b c d a2 b2 c2 d2 w' → Kx ⟨#[u0, u1, u2, .pointer (some ⟨p, 0, none⟩), .pointer (some ⟨q, 0, none⟩), u5, u6, u7, u8, u9, u10, u11, u12, u13, u14, u15, u16, x 17, x 18, x 19, x 20, x 21, x 22, x 23, x 24, x 25, x 26, x 27, x 28, x 29, x 30, x 31, x 32, x 33, x 34, x 35, x 36, x 37, u38, u39, u40, u41, u42, u43, u44, u45, u46, u47, u48, u49, u50, u51, u52, u53, u54, u55, u56, u57, u58, u59, u60, u61, u62], []⟩ w') :
    namesReg.wp Try.prog (Exit.then Kx Q) ⟨#[u0, u1, u2, .pointer (some ⟨p, 0, none⟩), .pointer (some ⟨q, 0, none⟩), u5, u6, u7, u8, u9, u10, u11, u12, u13, u14, u15, u16, x0 17, x0 18, x0 19, x0 20, x0 21, x0 22, x0 23, x0 24, x0 25, x0 26, x0 27, x0 28, x0 29, x0 30, x0 31, x0 32, x0 33, x0 34, x0 35, x0 36, x0 37, u38, u39, u40, u41, u42, u43, u44, u45, u46, u47, u48, u49, u50, u51, u52, u53, u54, u55, u56, u57, u58, u59, u60, u61, u62], []⟩ w1 := by
  conv => arg 2; whnf
  obtain ⟨L, hL⟩ : ∃ L : List Value, L = [.agg #[.int .i64 a, .int .i64 b, .int .i64 c, .int .i64 d], .agg #[.int .i64 a, .int .i64 b, .int .i64 c, .int .i64 d], .bool true, .bool true, .agg #[.int .i64 a2, .int .i64 b2, .int .i64 c2, .int .i64 d2], .agg #[.int .i64 a2, .int .i64 b2, .int .i64 c2, .int .i64 d2], .bool true, .bool true, .bool true, .agg #[.int .i64 a, .int .i64 b, .int .i64 c, .int .i64 d], .agg #[.int .i64 a, .int .i64 b, .int .i64 c, .int .i64 d], .string nA, .agg #[.int .i64 a2, .int .i64 b2, .int .i64 c2, .int .i64 d2], .agg #[.int .i64 a2, .int .i64 b2, .int .i64 c2, .int .i64 d2], .string nB, .bool false, .agg #[.int .i64 a, .int .i64 b, .int .i64 c, .int .i64 d], .agg #[.int .i64 a2, .int .i64 b2, .int .i64 c2, .int .i64 d2], .bool false, .bool false, .bool false] := ⟨_, rfl⟩
  refine wp_region_any (by kernel_rfl) ?_
  refine wpAny_inv (fun listed ac W => ∃ x : Nat → Value, ac = ⟨#[u0, u1, u2, .pointer (some ⟨p, 0, none⟩), .pointer (some ⟨q, 0, none⟩), u5, u6, u7, u8, u9, u10, u11, u12, u13, u14, u15, u16, x 17, x 18, x 19, x 20, x 21, x 22, x 23, x 24, x 25, x 26, x 27, x 28, x 29, x 30, x 31, x 32, x 33, x 34, x 35, x 36, x 37, u38, u39, u40, u41, u42, u43, u44, u45, u46, u47, u48, u49, u50, u51, u52, u53, u54, u55, u56, u57, u58, u59, u60, u61, u62], []⟩ ∧ (∀ i, i < 21 → listed.getD i false = true → x (17 + i) = (L[i]?).getD undef) ∧ Two w p q a b c d a2 b2 c2 d2 W) (dep_of (by kernel_rfl)) ?step ?done _ _ _ _ (by simp) ?start (by rw [Array.toList_replicate]; unfold unl; rw [List.count_replicate_self]; exact Nat.le_refl _)
  case start => exact ⟨x0, rfl, (fun i hi h => by rw [getD_replicate_false] at h; cases h), hS⟩
  case done =>
    rintro listed ac W ⟨x, rfl, hx, hT⟩ hl
    have h37 := hx 20 (by decide) (hl 20 (by decide))
    rw [hL] at h37
    exact hKx x W h37 hT
  case step =>
    rintro i o listed ac W hio ⟨x, rfl, hx, hT⟩ hd hsz
    have hi : i < 21 := (Array.getElem?_eq_some_iff.1 hio).1
    have HT := Lib.hid hT
    obtain ⟨⟨⟨q0, q1, q2, q3⟩, q4, q5, q6, q7⟩, _⟩ := hT
    have HX := Lib.hid hx
    clear hx
    obtain rfl | rfl | rfl | rfl | rfl | rfl | rfl | rfl | rfl | rfl | rfl | rfl | rfl | rfl | rfl | rfl | rfl | rfl | rfl | rfl | rfl : i = 0 ∨ i = 1 ∨ i = 2 ∨ i = 3 ∨ i = 4 ∨ i = 5 ∨ i = 6 ∨ i = 7 ∨ i = 8 ∨ i = 9 ∨ i = 10 ∨ i = 11 ∨ i = 12 ∨ i = 13 ∨ i = 14 ∨ i = 15 ∨ i = 16 ∨ i = 17 ∨ i = 18 ∨ i = 19 ∨ i = 20 := by omega
    · obtain rfl := Option.some.inj hio
      refine wpOp_some rfl ?_
      have hV : (.agg #[.int .i64 a, .int .i64 b, .int .i64 c, .int .i64 d] : Value) = (L[0]?).getD undef := by rw [hL]; rfl
      have HV := Lib.hid hV
      clear hL hV hd hio
      suffices hh : ∀ K : Act → World → Prop, (∀ ac' w', (∃ x : Nat → Value, ac' = ⟨#[u0, u1, u2, .pointer (some ⟨p, 0, none⟩), .pointer (some ⟨q, 0, none⟩), u5, u6, u7, u8, u9, u10, u11, u12, u13, u14, u15, u16, x 17, x 18, x 19, x 20, x 21, x 22, x 23, x 24, x 25, x 26, x 27, x 28, x 29, x 30, x 31, x 32, x 33, x 34, x 35, x 36, x 37, u38, u39, u40, u41, u42, u43, u44, u45, u46, u47, u48, u49, u50, u51, u52, u53, u54, u55, u56, u57, u58, u59, u60, u61, u62], []⟩ ∧ (∀ i, i < 21 → (listed.setIfInBounds 0 true).getD i false = true → x (17 + i) = (L[i]?).getD undef) ∧ Two w p q a b c d a2 b2 c2 d2 w') → K ac' w') → (if Region.wanted _ _ = true then Oper.wp _ _ _ _ K _ else K _ _) from hh _ (fun _ _ h => h)
      intro K hK
      go_simp
      refine hK _ _ ⟨fun j => if j = 17 + 0 then .agg #[.int .i64 a, .int .i64 b, .int .i64 c, .int .i64 d] else x j, ?_, hx_set HX.out 0 _ HV.out, HT.out⟩
      simp []
    · obtain rfl := Option.some.inj hio
      have v0 : x 17 = .agg #[.int .i64 a, .int .i64 b, .int .i64 c, .int .i64 d] := (HX.out 0 (by decide) (by first | (refine hd ⟨0, .data⟩ ?_ rfl; simp; done) | (refine hd ⟨0, .guard⟩ ?_ rfl; simp; done) | (refine hd ⟨0, .chain⟩ ?_ rfl; simp; done))).trans (by rw [hL]; rfl)
      refine wpOp_some rfl ?_
      simp only [v0]
      have hV : (.agg #[.int .i64 a, .int .i64 b, .int .i64 c, .int .i64 d] : Value) = (L[1]?).getD undef := by rw [hL]; rfl
      have HV := Lib.hid hV
      clear hL hV hd hio
      suffices hh : ∀ K : Act → World → Prop, (∀ ac' w', (∃ x : Nat → Value, ac' = ⟨#[u0, u1, u2, .pointer (some ⟨p, 0, none⟩), .pointer (some ⟨q, 0, none⟩), u5, u6, u7, u8, u9, u10, u11, u12, u13, u14, u15, u16, x 17, x 18, x 19, x 20, x 21, x 22, x 23, x 24, x 25, x 26, x 27, x 28, x 29, x 30, x 31, x 32, x 33, x 34, x 35, x 36, x 37, u38, u39, u40, u41, u42, u43, u44, u45, u46, u47, u48, u49, u50, u51, u52, u53, u54, u55, u56, u57, u58, u59, u60, u61, u62], []⟩ ∧ (∀ i, i < 21 → (listed.setIfInBounds 1 true).getD i false = true → x (17 + i) = (L[i]?).getD undef) ∧ Two w p q a b c d a2 b2 c2 d2 w') → K ac' w') → (if Region.wanted _ _ = true then Oper.wp _ _ _ _ K _ else K _ _) from hh _ (fun _ _ h => h)
      intro K hK
      go_simp
      refine (of_any _ _ _ _ _).mono ?_
      rintro e w2 ⟨rfl, hb⟩
      refine hK _ _ ⟨fun j => if j = 17 + 1 then .agg #[.int .i64 a, .int .i64 b, .int .i64 c, .int .i64 d] else x j, ?_, hx_set HX.out 1 _ HV.out, (HT.out.keep hb)⟩
      simp [v0]
    · obtain rfl := Option.some.inj hio
      have v1 : x 18 = .agg #[.int .i64 a, .int .i64 b, .int .i64 c, .int .i64 d] := (HX.out 1 (by decide) (by first | (refine hd ⟨1, .data⟩ ?_ rfl; simp; done) | (refine hd ⟨1, .guard⟩ ?_ rfl; simp; done) | (refine hd ⟨1, .chain⟩ ?_ rfl; simp; done))).trans (by rw [hL]; rfl)
      refine wpOp_some rfl ?_
      simp only [v1]
      have hV : (.bool true : Value) = (L[2]?).getD undef := by rw [hL]; rfl
      have HV := Lib.hid hV
      clear hL hV hd hio
      suffices hh : ∀ K : Act → World → Prop, (∀ ac' w', (∃ x : Nat → Value, ac' = ⟨#[u0, u1, u2, .pointer (some ⟨p, 0, none⟩), .pointer (some ⟨q, 0, none⟩), u5, u6, u7, u8, u9, u10, u11, u12, u13, u14, u15, u16, x 17, x 18, x 19, x 20, x 21, x 22, x 23, x 24, x 25, x 26, x 27, x 28, x 29, x 30, x 31, x 32, x 33, x 34, x 35, x 36, x 37, u38, u39, u40, u41, u42, u43, u44, u45, u46, u47, u48, u49, u50, u51, u52, u53, u54, u55, u56, u57, u58, u59, u60, u61, u62], []⟩ ∧ (∀ i, i < 21 → (listed.setIfInBounds 2 true).getD i false = true → x (17 + i) = (L[i]?).getD undef) ∧ Two w p q a b c d a2 b2 c2 d2 w') → K ac' w') → (if Region.wanted _ _ = true then Oper.wp _ _ _ _ K _ else K _ _) from hh _ (fun _ _ h => h)
      intro K hK
      go_simp
      refine (right_any a b c d _).mono ?_
      rintro e w2 ⟨rfl, hb⟩
      rw [hoa]
      refine hK _ _ ⟨fun j => if j = 17 + 2 then .bool true else x j, ?_, hx_set HX.out 2 _ HV.out, (HT.out.keep hb)⟩
      simp [v1]
    · obtain rfl := Option.some.inj hio
      have v2 : x 19 = .bool true := (HX.out 2 (by decide) (by first | (refine hd ⟨2, .data⟩ ?_ rfl; simp; done) | (refine hd ⟨2, .guard⟩ ?_ rfl; simp; done) | (refine hd ⟨2, .chain⟩ ?_ rfl; simp; done))).trans (by rw [hL]; rfl)
      refine wpOp_some rfl ?_
      simp only [v2]
      have hV : (.bool true : Value) = (L[3]?).getD undef := by rw [hL]; rfl
      have HV := Lib.hid hV
      clear hL hV hd hio
      suffices hh : ∀ K : Act → World → Prop, (∀ ac' w', (∃ x : Nat → Value, ac' = ⟨#[u0, u1, u2, .pointer (some ⟨p, 0, none⟩), .pointer (some ⟨q, 0, none⟩), u5, u6, u7, u8, u9, u10, u11, u12, u13, u14, u15, u16, x 17, x 18, x 19, x 20, x 21, x 22, x 23, x 24, x 25, x 26, x 27, x 28, x 29, x 30, x 31, x 32, x 33, x 34, x 35, x 36, x 37, u38, u39, u40, u41, u42, u43, u44, u45, u46, u47, u48, u49, u50, u51, u52, u53, u54, u55, u56, u57, u58, u59, u60, u61, u62], []⟩ ∧ (∀ i, i < 21 → (listed.setIfInBounds 3 true).getD i false = true → x (17 + i) = (L[i]?).getD undef) ∧ Two w p q a b c d a2 b2 c2 d2 w') → K ac' w') → (if Region.wanted _ _ = true then Oper.wp _ _ _ _ K _ else K _ _) from hh _ (fun _ _ h => h)
      intro K hK
      go_simp
      refine hK _ _ ⟨fun j => if j = 17 + 3 then .bool true else x j, ?_, hx_set HX.out 3 _ HV.out, HT.out⟩
      simp [v2]
    · obtain rfl := Option.some.inj hio
      have v3 : x 20 = .bool true := (HX.out 3 (by decide) (by first | (refine hd ⟨3, .data⟩ ?_ rfl; simp; done) | (refine hd ⟨3, .guard⟩ ?_ rfl; simp; done) | (refine hd ⟨3, .chain⟩ ?_ rfl; simp; done))).trans (by rw [hL]; rfl)
      refine wpOp_some rfl ?_
      simp only [v3]
      have hV : (.agg #[.int .i64 a2, .int .i64 b2, .int .i64 c2, .int .i64 d2] : Value) = (L[4]?).getD undef := by rw [hL]; rfl
      have HV := Lib.hid hV
      clear hL hV hd hio
      suffices hh : ∀ K : Act → World → Prop, (∀ ac' w', (∃ x : Nat → Value, ac' = ⟨#[u0, u1, u2, .pointer (some ⟨p, 0, none⟩), .pointer (some ⟨q, 0, none⟩), u5, u6, u7, u8, u9, u10, u11, u12, u13, u14, u15, u16, x 17, x 18, x 19, x 20, x 21, x 22, x 23, x 24, x 25, x 26, x 27, x 28, x 29, x 30, x 31, x 32, x 33, x 34, x 35, x 36, x 37, u38, u39, u40, u41, u42, u43, u44, u45, u46, u47, u48, u49, u50, u51, u52, u53, u54, u55, u56, u57, u58, u59, u60, u61, u62], []⟩ ∧ (∀ i, i < 21 → (listed.setIfInBounds 4 true).getD i false = true → x (17 + i) = (L[i]?).getD undef) ∧ Two w p q a b c d a2 b2 c2 d2 w') → K ac' w') → (if Region.wanted _ _ = true then Oper.wp _ _ _ _ K _ else K _ _) from hh _ (fun _ _ h => h)
      intro K hK
      go_simp
      refine hK _ _ ⟨fun j => if j = 17 + 4 then .agg #[.int .i64 a2, .int .i64 b2, .int .i64 c2, .int .i64 d2] else x j, ?_, hx_set HX.out 4 _ HV.out, HT.out⟩
      simp [v3]
    · obtain rfl := Option.some.inj hio
      have v4 : x 21 = .agg #[.int .i64 a2, .int .i64 b2, .int .i64 c2, .int .i64 d2] := (HX.out 4 (by decide) (by first | (refine hd ⟨4, .data⟩ ?_ rfl; simp; done) | (refine hd ⟨4, .guard⟩ ?_ rfl; simp; done) | (refine hd ⟨4, .chain⟩ ?_ rfl; simp; done))).trans (by rw [hL]; rfl)
      have v3 : x 20 = .bool true := (HX.out 3 (by decide) (by first | (refine hd ⟨3, .data⟩ ?_ rfl; simp; done) | (refine hd ⟨3, .guard⟩ ?_ rfl; simp; done) | (refine hd ⟨3, .chain⟩ ?_ rfl; simp; done))).trans (by rw [hL]; rfl)
      refine wpOp_some rfl ?_
      simp only [v4, v3]
      have hV : (.agg #[.int .i64 a2, .int .i64 b2, .int .i64 c2, .int .i64 d2] : Value) = (L[5]?).getD undef := by rw [hL]; rfl
      have HV := Lib.hid hV
      clear hL hV hd hio
      suffices hh : ∀ K : Act → World → Prop, (∀ ac' w', (∃ x : Nat → Value, ac' = ⟨#[u0, u1, u2, .pointer (some ⟨p, 0, none⟩), .pointer (some ⟨q, 0, none⟩), u5, u6, u7, u8, u9, u10, u11, u12, u13, u14, u15, u16, x 17, x 18, x 19, x 20, x 21, x 22, x 23, x 24, x 25, x 26, x 27, x 28, x 29, x 30, x 31, x 32, x 33, x 34, x 35, x 36, x 37, u38, u39, u40, u41, u42, u43, u44, u45, u46, u47, u48, u49, u50, u51, u52, u53, u54, u55, u56, u57, u58, u59, u60, u61, u62], []⟩ ∧ (∀ i, i < 21 → (listed.setIfInBounds 5 true).getD i false = true → x (17 + i) = (L[i]?).getD undef) ∧ Two w p q a b c d a2 b2 c2 d2 w') → K ac' w') → (if Region.wanted _ _ = true then Oper.wp _ _ _ _ K _ else K _ _) from hh _ (fun _ _ h => h)
      intro K hK
      go_simp
      refine (of_any _ _ _ _ _).mono ?_
      rintro e w2 ⟨rfl, hb⟩
      refine hK _ _ ⟨fun j => if j = 17 + 5 then .agg #[.int .i64 a2, .int .i64 b2, .int .i64 c2, .int .i64 d2] else x j, ?_, hx_set HX.out 5 _ HV.out, (HT.out.keep hb)⟩
      simp [v4, v3]
    · obtain rfl := Option.some.inj hio
      have v5 : x 22 = .agg #[.int .i64 a2, .int .i64 b2, .int .i64 c2, .int .i64 d2] := (HX.out 5 (by decide) (by first | (refine hd ⟨5, .data⟩ ?_ rfl; simp; done) | (refine hd ⟨5, .guard⟩ ?_ rfl; simp; done) | (refine hd ⟨5, .chain⟩ ?_ rfl; simp; done))).trans (by rw [hL]; rfl)
      have v3 : x 20 = .bool true := (HX.out 3 (by decide) (by first | (refine hd ⟨3, .data⟩ ?_ rfl; simp; done) | (refine hd ⟨3, .guard⟩ ?_ rfl; simp; done) | (refine hd ⟨3, .chain⟩ ?_ rfl; simp; done))).trans (by rw [hL]; rfl)
      refine wpOp_some rfl ?_
      simp only [v5, v3]
      have hV : (.bool true : Value) = (L[6]?).getD undef := by rw [hL]; rfl
      have HV := Lib.hid hV
      clear hL hV hd hio
      suffices hh : ∀ K : Act → World → Prop, (∀ ac' w', (∃ x : Nat → Value, ac' = ⟨#[u0, u1, u2, .pointer (some ⟨p, 0, none⟩), .pointer (some ⟨q, 0, none⟩), u5, u6, u7, u8, u9, u10, u11, u12, u13, u14, u15, u16, x 17, x 18, x 19, x 20, x 21, x 22, x 23, x 24, x 25, x 26, x 27, x 28, x 29, x 30, x 31, x 32, x 33, x 34, x 35, x 36, x 37, u38, u39, u40, u41, u42, u43, u44, u45, u46, u47, u48, u49, u50, u51, u52, u53, u54, u55, u56, u57, u58, u59, u60, u61, u62], []⟩ ∧ (∀ i, i < 21 → (listed.setIfInBounds 6 true).getD i false = true → x (17 + i) = (L[i]?).getD undef) ∧ Two w p q a b c d a2 b2 c2 d2 w') → K ac' w') → (if Region.wanted _ _ = true then Oper.wp _ _ _ _ K _ else K _ _) from hh _ (fun _ _ h => h)
      intro K hK
      go_simp
      refine (right_any a2 b2 c2 d2 _).mono ?_
      rintro e w2 ⟨rfl, hb⟩
      rw [hob]
      refine hK _ _ ⟨fun j => if j = 17 + 6 then .bool true else x j, ?_, hx_set HX.out 6 _ HV.out, (HT.out.keep hb)⟩
      simp [v5, v3]
    · obtain rfl := Option.some.inj hio
      have v3 : x 20 = .bool true := (HX.out 3 (by decide) (by first | (refine hd ⟨3, .data⟩ ?_ rfl; simp; done) | (refine hd ⟨3, .guard⟩ ?_ rfl; simp; done) | (refine hd ⟨3, .chain⟩ ?_ rfl; simp; done))).trans (by rw [hL]; rfl)
      have v6 : x 23 = .bool true := (HX.out 6 (by decide) (by first | (refine hd ⟨6, .data⟩ ?_ rfl; simp; done) | (refine hd ⟨6, .guard⟩ ?_ rfl; simp; done) | (refine hd ⟨6, .chain⟩ ?_ rfl; simp; done))).trans (by rw [hL]; rfl)
      refine wpOp_some rfl ?_
      simp only [v3, v6]
      have hV : (.bool true : Value) = (L[7]?).getD undef := by rw [hL]; rfl
      have HV := Lib.hid hV
      clear hL hV hd hio
      suffices hh : ∀ K : Act → World → Prop, (∀ ac' w', (∃ x : Nat → Value, ac' = ⟨#[u0, u1, u2, .pointer (some ⟨p, 0, none⟩), .pointer (some ⟨q, 0, none⟩), u5, u6, u7, u8, u9, u10, u11, u12, u13, u14, u15, u16, x 17, x 18, x 19, x 20, x 21, x 22, x 23, x 24, x 25, x 26, x 27, x 28, x 29, x 30, x 31, x 32, x 33, x 34, x 35, x 36, x 37, u38, u39, u40, u41, u42, u43, u44, u45, u46, u47, u48, u49, u50, u51, u52, u53, u54, u55, u56, u57, u58, u59, u60, u61, u62], []⟩ ∧ (∀ i, i < 21 → (listed.setIfInBounds 7 true).getD i false = true → x (17 + i) = (L[i]?).getD undef) ∧ Two w p q a b c d a2 b2 c2 d2 w') → K ac' w') → (if Region.wanted _ _ = true then Oper.wp _ _ _ _ K _ else K _ _) from hh _ (fun _ _ h => h)
      intro K hK
      go_simp
      refine hK _ _ ⟨fun j => if j = 17 + 7 then .bool true else x j, ?_, hx_set HX.out 7 _ HV.out, HT.out⟩
      simp [v3, v6]
    · obtain rfl := Option.some.inj hio
      have v7 : x 24 = .bool true := (HX.out 7 (by decide) (by first | (refine hd ⟨7, .data⟩ ?_ rfl; simp; done) | (refine hd ⟨7, .guard⟩ ?_ rfl; simp; done) | (refine hd ⟨7, .chain⟩ ?_ rfl; simp; done))).trans (by rw [hL]; rfl)
      refine wpOp_some rfl ?_
      simp only [v7]
      have hV : (.bool true : Value) = (L[8]?).getD undef := by rw [hL]; rfl
      have HV := Lib.hid hV
      clear hL hV hd hio
      suffices hh : ∀ K : Act → World → Prop, (∀ ac' w', (∃ x : Nat → Value, ac' = ⟨#[u0, u1, u2, .pointer (some ⟨p, 0, none⟩), .pointer (some ⟨q, 0, none⟩), u5, u6, u7, u8, u9, u10, u11, u12, u13, u14, u15, u16, x 17, x 18, x 19, x 20, x 21, x 22, x 23, x 24, x 25, x 26, x 27, x 28, x 29, x 30, x 31, x 32, x 33, x 34, x 35, x 36, x 37, u38, u39, u40, u41, u42, u43, u44, u45, u46, u47, u48, u49, u50, u51, u52, u53, u54, u55, u56, u57, u58, u59, u60, u61, u62], []⟩ ∧ (∀ i, i < 21 → (listed.setIfInBounds 8 true).getD i false = true → x (17 + i) = (L[i]?).getD undef) ∧ Two w p q a b c d a2 b2 c2 d2 w') → K ac' w') → (if Region.wanted _ _ = true then Oper.wp _ _ _ _ K _ else K _ _) from hh _ (fun _ _ h => h)
      intro K hK
      go_simp
      refine hK _ _ ⟨fun j => if j = 17 + 8 then .bool true else x j, ?_, hx_set HX.out 8 _ HV.out, HT.out⟩
      simp [v7]
    · obtain rfl := Option.some.inj hio
      have v8 : x 25 = .bool true := (HX.out 8 (by decide) (by first | (refine hd ⟨8, .data⟩ ?_ rfl; simp; done) | (refine hd ⟨8, .guard⟩ ?_ rfl; simp; done) | (refine hd ⟨8, .chain⟩ ?_ rfl; simp; done))).trans (by rw [hL]; rfl)
      refine wpOp_some rfl ?_
      simp only [v8]
      have hV : (.agg #[.int .i64 a, .int .i64 b, .int .i64 c, .int .i64 d] : Value) = (L[9]?).getD undef := by rw [hL]; rfl
      have HV := Lib.hid hV
      clear hL hV hd hio
      suffices hh : ∀ K : Act → World → Prop, (∀ ac' w', (∃ x : Nat → Value, ac' = ⟨#[u0, u1, u2, .pointer (some ⟨p, 0, none⟩), .pointer (some ⟨q, 0, none⟩), u5, u6, u7, u8, u9, u10, u11, u12, u13, u14, u15, u16, x 17, x 18, x 19, x 20, x 21, x 22, x 23, x 24, x 25, x 26, x 27, x 28, x 29, x 30, x 31, x 32, x 33, x 34, x 35, x 36, x 37, u38, u39, u40, u41, u42, u43, u44, u45, u46, u47, u48, u49, u50, u51, u52, u53, u54, u55, u56, u57, u58, u59, u60, u61, u62], []⟩ ∧ (∀ i, i < 21 → (listed.setIfInBounds 9 true).getD i false = true → x (17 + i) = (L[i]?).getD undef) ∧ Two w p q a b c d a2 b2 c2 d2 w') → K ac' w') → (if Region.wanted _ _ = true then Oper.wp _ _ _ _ K _ else K _ _) from hh _ (fun _ _ h => h)
      intro K hK
      go_simp
      refine hK _ _ ⟨fun j => if j = 17 + 9 then .agg #[.int .i64 a, .int .i64 b, .int .i64 c, .int .i64 d] else x j, ?_, hx_set HX.out 9 _ HV.out, HT.out⟩
      simp [v8]
    · obtain rfl := Option.some.inj hio
      have v9 : x 26 = .agg #[.int .i64 a, .int .i64 b, .int .i64 c, .int .i64 d] := (HX.out 9 (by decide) (by first | (refine hd ⟨9, .data⟩ ?_ rfl; simp; done) | (refine hd ⟨9, .guard⟩ ?_ rfl; simp; done) | (refine hd ⟨9, .chain⟩ ?_ rfl; simp; done))).trans (by rw [hL]; rfl)
      have v8 : x 25 = .bool true := (HX.out 8 (by decide) (by first | (refine hd ⟨8, .data⟩ ?_ rfl; simp; done) | (refine hd ⟨8, .guard⟩ ?_ rfl; simp; done) | (refine hd ⟨8, .chain⟩ ?_ rfl; simp; done))).trans (by rw [hL]; rfl)
      refine wpOp_some rfl ?_
      simp only [v9, v8]
      have hV : (.agg #[.int .i64 a, .int .i64 b, .int .i64 c, .int .i64 d] : Value) = (L[10]?).getD undef := by rw [hL]; rfl
      have HV := Lib.hid hV
      clear hL hV hd hio
      suffices hh : ∀ K : Act → World → Prop, (∀ ac' w', (∃ x : Nat → Value, ac' = ⟨#[u0, u1, u2, .pointer (some ⟨p, 0, none⟩), .pointer (some ⟨q, 0, none⟩), u5, u6, u7, u8, u9, u10, u11, u12, u13, u14, u15, u16, x 17, x 18, x 19, x 20, x 21, x 22, x 23, x 24, x 25, x 26, x 27, x 28, x 29, x 30, x 31, x 32, x 33, x 34, x 35, x 36, x 37, u38, u39, u40, u41, u42, u43, u44, u45, u46, u47, u48, u49, u50, u51, u52, u53, u54, u55, u56, u57, u58, u59, u60, u61, u62], []⟩ ∧ (∀ i, i < 21 → (listed.setIfInBounds 10 true).getD i false = true → x (17 + i) = (L[i]?).getD undef) ∧ Two w p q a b c d a2 b2 c2 d2 w') → K ac' w') → (if Region.wanted _ _ = true then Oper.wp _ _ _ _ K _ else K _ _) from hh _ (fun _ _ h => h)
      intro K hK
      go_simp
      refine (of_any _ _ _ _ _).mono ?_
      rintro e w2 ⟨rfl, hb⟩
      refine hK _ _ ⟨fun j => if j = 17 + 10 then .agg #[.int .i64 a, .int .i64 b, .int .i64 c, .int .i64 d] else x j, ?_, hx_set HX.out 10 _ HV.out, (HT.out.keep hb)⟩
      simp [v9, v8]
    · obtain rfl := Option.some.inj hio
      have v10 : x 27 = .agg #[.int .i64 a, .int .i64 b, .int .i64 c, .int .i64 d] := (HX.out 10 (by decide) (by first | (refine hd ⟨10, .data⟩ ?_ rfl; simp; done) | (refine hd ⟨10, .guard⟩ ?_ rfl; simp; done) | (refine hd ⟨10, .chain⟩ ?_ rfl; simp; done))).trans (by rw [hL]; rfl)
      have v8 : x 25 = .bool true := (HX.out 8 (by decide) (by first | (refine hd ⟨8, .data⟩ ?_ rfl; simp; done) | (refine hd ⟨8, .guard⟩ ?_ rfl; simp; done) | (refine hd ⟨8, .chain⟩ ?_ rfl; simp; done))).trans (by rw [hL]; rfl)
      refine wpOp_some rfl ?_
      simp only [v10, v8]
      have hV : (.string nA : Value) = (L[11]?).getD undef := by rw [hL]; rfl
      have HV := Lib.hid hV
      clear hL hV hd hio
      suffices hh : ∀ K : Act → World → Prop, (∀ ac' w', (∃ x : Nat → Value, ac' = ⟨#[u0, u1, u2, .pointer (some ⟨p, 0, none⟩), .pointer (some ⟨q, 0, none⟩), u5, u6, u7, u8, u9, u10, u11, u12, u13, u14, u15, u16, x 17, x 18, x 19, x 20, x 21, x 22, x 23, x 24, x 25, x 26, x 27, x 28, x 29, x 30, x 31, x 32, x 33, x 34, x 35, x 36, x 37, u38, u39, u40, u41, u42, u43, u44, u45, u46, u47, u48, u49, u50, u51, u52, u53, u54, u55, u56, u57, u58, u59, u60, u61, u62], []⟩ ∧ (∀ i, i < 21 → (listed.setIfInBounds 11 true).getD i false = true → x (17 + i) = (L[i]?).getD undef) ∧ Two w p q a b c d a2 b2 c2 d2 w') → K ac' w') → (if Region.wanted _ _ = true then Oper.wp _ _ _ _ K _ else K _ _) from hh _ (fun _ _ h => h)
      intro K hK
      go_simp
      refine (name_right a b c d hoa _).mono ?_
      rintro e w2 ⟨rfl, hb⟩
      rw [hnA]
      refine hK _ _ ⟨fun j => if j = 17 + 11 then .string nA else x j, ?_, hx_set HX.out 11 _ HV.out, (HT.out.keep hb)⟩
      simp [v10, v8]
    · obtain rfl := Option.some.inj hio
      have v8 : x 25 = .bool true := (HX.out 8 (by decide) (by first | (refine hd ⟨8, .data⟩ ?_ rfl; simp; done) | (refine hd ⟨8, .guard⟩ ?_ rfl; simp; done) | (refine hd ⟨8, .chain⟩ ?_ rfl; simp; done))).trans (by rw [hL]; rfl)
      refine wpOp_some rfl ?_
      simp only [v8]
      have hV : (.agg #[.int .i64 a2, .int .i64 b2, .int .i64 c2, .int .i64 d2] : Value) = (L[12]?).getD undef := by rw [hL]; rfl
      have HV := Lib.hid hV
      clear hL hV hd hio
      suffices hh : ∀ K : Act → World → Prop, (∀ ac' w', (∃ x : Nat → Value, ac' = ⟨#[u0, u1, u2, .pointer (some ⟨p, 0, none⟩), .pointer (some ⟨q, 0, none⟩), u5, u6, u7, u8, u9, u10, u11, u12, u13, u14, u15, u16, x 17, x 18, x 19, x 20, x 21, x 22, x 23, x 24, x 25, x 26, x 27, x 28, x 29, x 30, x 31, x 32, x 33, x 34, x 35, x 36, x 37, u38, u39, u40, u41, u42, u43, u44, u45, u46, u47, u48, u49, u50, u51, u52, u53, u54, u55, u56, u57, u58, u59, u60, u61, u62], []⟩ ∧ (∀ i, i < 21 → (listed.setIfInBounds 12 true).getD i false = true → x (17 + i) = (L[i]?).getD undef) ∧ Two w p q a b c d a2 b2 c2 d2 w') → K ac' w') → (if Region.wanted _ _ = true then Oper.wp _ _ _ _ K _ else K _ _) from hh _ (fun _ _ h => h)
      intro K hK
      go_simp
      refine hK _ _ ⟨fun j => if j = 17 + 12 then .agg #[.int .i64 a2, .int .i64 b2, .int .i64 c2, .int .i64 d2] else x j, ?_, hx_set HX.out 12 _ HV.out, HT.out⟩
      simp [v8]
    · obtain rfl := Option.some.inj hio
      have v12 : x 29 = .agg #[.int .i64 a2, .int .i64 b2, .int .i64 c2, .int .i64 d2] := (HX.out 12 (by decide) (by first | (refine hd ⟨12, .data⟩ ?_ rfl; simp; done) | (refine hd ⟨12, .guard⟩ ?_ rfl; simp; done) | (refine hd ⟨12, .chain⟩ ?_ rfl; simp; done))).trans (by rw [hL]; rfl)
      have v8 : x 25 = .bool true := (HX.out 8 (by decide) (by first | (refine hd ⟨8, .data⟩ ?_ rfl; simp; done) | (refine hd ⟨8, .guard⟩ ?_ rfl; simp; done) | (refine hd ⟨8, .chain⟩ ?_ rfl; simp; done))).trans (by rw [hL]; rfl)
      refine wpOp_some rfl ?_
      simp only [v12, v8]
      have hV : (.agg #[.int .i64 a2, .int .i64 b2, .int .i64 c2, .int .i64 d2] : Value) = (L[13]?).getD undef := by rw [hL]; rfl
      have HV := Lib.hid hV
      clear hL hV hd hio
      suffices hh : ∀ K : Act → World → Prop, (∀ ac' w', (∃ x : Nat → Value, ac' = ⟨#[u0, u1, u2, .pointer (some ⟨p, 0, none⟩), .pointer (some ⟨q, 0, none⟩), u5, u6, u7, u8, u9, u10, u11, u12, u13, u14, u15, u16, x 17, x 18, x 19, x 20, x 21, x 22, x 23, x 24, x 25, x 26, x 27, x 28, x 29, x 30, x 31, x 32, x 33, x 34, x 35, x 36, x 37, u38, u39, u40, u41, u42, u43, u44, u45, u46, u47, u48, u49, u50, u51, u52, u53, u54, u55, u56, u57, u58, u59, u60, u61, u62], []⟩ ∧ (∀ i, i < 21 → (listed.setIfInBounds 13 true).getD i false = true → x (17 + i) = (L[i]?).getD undef) ∧ Two w p q a b c d a2 b2 c2 d2 w') → K ac' w') → (if Region.wanted _ _ = true then Oper.wp _ _ _ _ K _ else K _ _) from hh _ (fun _ _ h => h)
      intro K hK
      go_simp
      refine (of_any _ _ _ _ _).mono ?_
      rintro e w2 ⟨rfl, hb⟩
      refine hK _ _ ⟨fun j => if j = 17 + 13 then .agg #[.int .i64 a2, .int .i64 b2, .int .i64 c2, .int .i64 d2] else x j, ?_, hx_set HX.out 13 _ HV.out, (HT.out.keep hb)⟩
      simp [v12, v8]
    · obtain rfl := Option.some.inj hio
      have v13 : x 30 = .agg #[.int .i64 a2, .int .i64 b2, .int .i64 c2, .int .i64 d2] := (HX.out 13 (by decide) (by first | (refine hd ⟨13, .data⟩ ?_ rfl; simp; done) | (refine hd ⟨13, .guard⟩ ?_ rfl; simp; done) | (refine hd ⟨13, .chain⟩ ?_ rfl; simp; done))).trans (by rw [hL]; rfl)
      have v8 : x 25 = .bool true := (HX.out 8 (by decide) (by first | (refine hd ⟨8, .data⟩ ?_ rfl; simp; done) | (refine hd ⟨8, .guard⟩ ?_ rfl; simp; done) | (refine hd ⟨8, .chain⟩ ?_ rfl; simp; done))).trans (by rw [hL]; rfl)
      refine wpOp_some rfl ?_
      simp only [v13, v8]
      have hV : (.string nB : Value) = (L[14]?).getD undef := by rw [hL]; rfl
      have HV := Lib.hid hV
      clear hL hV hd hio
      suffices hh : ∀ K : Act → World → Prop, (∀ ac' w', (∃ x : Nat → Value, ac' = ⟨#[u0, u1, u2, .pointer (some ⟨p, 0, none⟩), .pointer (some ⟨q, 0, none⟩), u5, u6, u7, u8, u9, u10, u11, u12, u13, u14, u15, u16, x 17, x 18, x 19, x 20, x 21, x 22, x 23, x 24, x 25, x 26, x 27, x 28, x 29, x 30, x 31, x 32, x 33, x 34, x 35, x 36, x 37, u38, u39, u40, u41, u42, u43, u44, u45, u46, u47, u48, u49, u50, u51, u52, u53, u54, u55, u56, u57, u58, u59, u60, u61, u62], []⟩ ∧ (∀ i, i < 21 → (listed.setIfInBounds 14 true).getD i false = true → x (17 + i) = (L[i]?).getD undef) ∧ Two w p q a b c d a2 b2 c2 d2 w') → K ac' w') → (if Region.wanted _ _ = true then Oper.wp _ _ _ _ K _ else K _ _) from hh _ (fun _ _ h => h)
      intro K hK
      go_simp
      refine (name_right a2 b2 c2 d2 hob _).mono ?_
      rintro e w2 ⟨rfl, hb⟩
      rw [hnB]
      refine hK _ _ ⟨fun j => if j = 17 + 14 then .string nB else x j, ?_, hx_set HX.out 14 _ HV.out, (HT.out.keep hb)⟩
      simp [v13, v8]
    · obtain rfl := Option.some.inj hio
      have v11 : x 28 = .string nA := (HX.out 11 (by decide) (by first | (refine hd ⟨11, .data⟩ ?_ rfl; simp; done) | (refine hd ⟨11, .guard⟩ ?_ rfl; simp; done) | (refine hd ⟨11, .chain⟩ ?_ rfl; simp; done))).trans (by rw [hL]; rfl)
      have v14 : x 31 = .string nB := (HX.out 14 (by decide) (by first | (refine hd ⟨14, .data⟩ ?_ rfl; simp; done) | (refine hd ⟨14, .guard⟩ ?_ rfl; simp; done) | (refine hd ⟨14, .chain⟩ ?_ rfl; simp; done))).trans (by rw [hL]; rfl)
      have v8 : x 25 = .bool true := (HX.out 8 (by decide) (by first | (refine hd ⟨8, .data⟩ ?_ rfl; simp; done) | (refine hd ⟨8, .guard⟩ ?_ rfl; simp; done) | (refine hd ⟨8, .chain⟩ ?_ rfl; simp; done))).trans (by rw [hL]; rfl)
      refine wpOp_some rfl ?_
      simp only [v11, v14, v8]
      have hV : (.bool false : Value) = (L[15]?).getD undef := by rw [hL]; rfl
      have HV := Lib.hid hV
      clear hL hV hd hio
      suffices hh : ∀ K : Act → World → Prop, (∀ ac' w', (∃ x : Nat → Value, ac' = ⟨#[u0, u1, u2, .pointer (some ⟨p, 0, none⟩), .pointer (some ⟨q, 0, none⟩), u5, u6, u7, u8, u9, u10, u11, u12, u13, u14, u15, u16, x 17, x 18, x 19, x 20, x 21, x 22, x 23, x 24, x 25, x 26, x 27, x 28, x 29, x 30, x 31, x 32, x 33, x 34, x 35, x 36, x 37, u38, u39, u40, u41, u42, u43, u44, u45, u46, u47, u48, u49, u50, u51, u52, u53, u54, u55, u56, u57, u58, u59, u60, u61, u62], []⟩ ∧ (∀ i, i < 21 → (listed.setIfInBounds 15 true).getD i false = true → x (17 + i) = (L[i]?).getD undef) ∧ Two w p q a b c d a2 b2 c2 d2 w') → K ac' w') → (if Region.wanted _ _ = true then Oper.wp _ _ _ _ K _ else K _ _) from hh _ (fun _ _ h => h)
      intro K hK
      go_simp
      refine hK _ _ ⟨fun j => if j = 17 + 15 then .bool false else x j, ?_, hx_set HX.out 15 _ HV.out, HT.out⟩
      simp [v11, v14, v8]
    · obtain rfl := Option.some.inj hio
      have v8 : x 25 = .bool true := (HX.out 8 (by decide) (by first | (refine hd ⟨8, .data⟩ ?_ rfl; simp; done) | (refine hd ⟨8, .guard⟩ ?_ rfl; simp; done) | (refine hd ⟨8, .chain⟩ ?_ rfl; simp; done))).trans (by rw [hL]; rfl)
      refine wpOp_some rfl ?_
      simp only [v8]
      have hV : (.agg #[.int .i64 a, .int .i64 b, .int .i64 c, .int .i64 d] : Value) = (L[16]?).getD undef := by rw [hL]; rfl
      have HV := Lib.hid hV
      clear hL hV hd hio
      suffices hh : ∀ K : Act → World → Prop, (∀ ac' w', (∃ x : Nat → Value, ac' = ⟨#[u0, u1, u2, .pointer (some ⟨p, 0, none⟩), .pointer (some ⟨q, 0, none⟩), u5, u6, u7, u8, u9, u10, u11, u12, u13, u14, u15, u16, x 17, x 18, x 19, x 20, x 21, x 22, x 23, x 24, x 25, x 26, x 27, x 28, x 29, x 30, x 31, x 32, x 33, x 34, x 35, x 36, x 37, u38, u39, u40, u41, u42, u43, u44, u45, u46, u47, u48, u49, u50, u51, u52, u53, u54, u55, u56, u57, u58, u59, u60, u61, u62], []⟩ ∧ (∀ i, i < 21 → (listed.setIfInBounds 16 true).getD i false = true → x (17 + i) = (L[i]?).getD undef) ∧ Two w p q a b c d a2 b2 c2 d2 w') → K ac' w') → (if Region.wanted _ _ = true then Oper.wp _ _ _ _ K _ else K _ _) from hh _ (fun _ _ h => h)
      intro K hK
      go_simp
      refine hK _ _ ⟨fun j => if j = 17 + 16 then .agg #[.int .i64 a, .int .i64 b, .int .i64 c, .int .i64 d] else x j, ?_, hx_set HX.out 16 _ HV.out, HT.out⟩
      simp [v8]
    · obtain rfl := Option.some.inj hio
      have v8 : x 25 = .bool true := (HX.out 8 (by decide) (by first | (refine hd ⟨8, .data⟩ ?_ rfl; simp; done) | (refine hd ⟨8, .guard⟩ ?_ rfl; simp; done) | (refine hd ⟨8, .chain⟩ ?_ rfl; simp; done))).trans (by rw [hL]; rfl)
      refine wpOp_some rfl ?_
      simp only [v8]
      have hV : (.agg #[.int .i64 a2, .int .i64 b2, .int .i64 c2, .int .i64 d2] : Value) = (L[17]?).getD undef := by rw [hL]; rfl
      have HV := Lib.hid hV
      clear hL hV hd hio
      suffices hh : ∀ K : Act → World → Prop, (∀ ac' w', (∃ x : Nat → Value, ac' = ⟨#[u0, u1, u2, .pointer (some ⟨p, 0, none⟩), .pointer (some ⟨q, 0, none⟩), u5, u6, u7, u8, u9, u10, u11, u12, u13, u14, u15, u16, x 17, x 18, x 19, x 20, x 21, x 22, x 23, x 24, x 25, x 26, x 27, x 28, x 29, x 30, x 31, x 32, x 33, x 34, x 35, x 36, x 37, u38, u39, u40, u41, u42, u43, u44, u45, u46, u47, u48, u49, u50, u51, u52, u53, u54, u55, u56, u57, u58, u59, u60, u61, u62], []⟩ ∧ (∀ i, i < 21 → (listed.setIfInBounds 17 true).getD i false = true → x (17 + i) = (L[i]?).getD undef) ∧ Two w p q a b c d a2 b2 c2 d2 w') → K ac' w') → (if Region.wanted _ _ = true then Oper.wp _ _ _ _ K _ else K _ _) from hh _ (fun _ _ h => h)
      intro K hK
      go_simp
      refine hK _ _ ⟨fun j => if j = 17 + 17 then .agg #[.int .i64 a2, .int .i64 b2, .int .i64 c2, .int .i64 d2] else x j, ?_, hx_set HX.out 17 _ HV.out, HT.out⟩
      simp [v8]
    · obtain rfl := Option.some.inj hio
      have v16 : x 33 = .agg #[.int .i64 a, .int .i64 b, .int .i64 c, .int .i64 d] := (HX.out 16 (by decide) (by first | (refine hd ⟨16, .data⟩ ?_ rfl; simp; done) | (refine hd ⟨16, .guard⟩ ?_ rfl; simp; done) | (refine hd ⟨16, .chain⟩ ?_ rfl; simp; done))).trans (by rw [hL]; rfl)
      have v17 : x 34 = .agg #[.int .i64 a2, .int .i64 b2, .int .i64 c2, .int .i64 d2] := (HX.out 17 (by decide) (by first | (refine hd ⟨17, .data⟩ ?_ rfl; simp; done) | (refine hd ⟨17, .guard⟩ ?_ rfl; simp; done) | (refine hd ⟨17, .chain⟩ ?_ rfl; simp; done))).trans (by rw [hL]; rfl)
      have v8 : x 25 = .bool true := (HX.out 8 (by decide) (by first | (refine hd ⟨8, .data⟩ ?_ rfl; simp; done) | (refine hd ⟨8, .guard⟩ ?_ rfl; simp; done) | (refine hd ⟨8, .chain⟩ ?_ rfl; simp; done))).trans (by rw [hL]; rfl)
      refine wpOp_some rfl ?_
      simp only [v16, v17, v8]
      have hV : (.bool false : Value) = (L[18]?).getD undef := by rw [hL]; rfl
      have HV := Lib.hid hV
      clear hL hV hd hio
      suffices hh : ∀ K : Act → World → Prop, (∀ ac' w', (∃ x : Nat → Value, ac' = ⟨#[u0, u1, u2, .pointer (some ⟨p, 0, none⟩), .pointer (some ⟨q, 0, none⟩), u5, u6, u7, u8, u9, u10, u11, u12, u13, u14, u15, u16, x 17, x 18, x 19, x 20, x 21, x 22, x 23, x 24, x 25, x 26, x 27, x 28, x 29, x 30, x 31, x 32, x 33, x 34, x 35, x 36, x 37, u38, u39, u40, u41, u42, u43, u44, u45, u46, u47, u48, u49, u50, u51, u52, u53, u54, u55, u56, u57, u58, u59, u60, u61, u62], []⟩ ∧ (∀ i, i < 21 → (listed.setIfInBounds 18 true).getD i false = true → x (17 + i) = (L[i]?).getD undef) ∧ Two w p q a b c d a2 b2 c2 d2 w') → K ac' w') → (if Region.wanted _ _ = true then Oper.wp _ _ _ _ K _ else K _ _) from hh _ (fun _ _ h => h)
      intro K hK
      go_simp
      refine hK _ _ ⟨fun j => if j = 17 + 18 then .bool false else x j, ?_, hx_set HX.out 18 _ HV.out, HT.out⟩
      simp [v16, v17, v8]
    · obtain rfl := Option.some.inj hio
      have v15 : x 32 = .bool false := (HX.out 15 (by decide) (by first | (refine hd ⟨15, .data⟩ ?_ rfl; simp; done) | (refine hd ⟨15, .guard⟩ ?_ rfl; simp; done) | (refine hd ⟨15, .chain⟩ ?_ rfl; simp; done))).trans (by rw [hL]; rfl)
      have v18 : x 35 = .bool false := (HX.out 18 (by decide) (by first | (refine hd ⟨18, .data⟩ ?_ rfl; simp; done) | (refine hd ⟨18, .guard⟩ ?_ rfl; simp; done) | (refine hd ⟨18, .chain⟩ ?_ rfl; simp; done))).trans (by rw [hL]; rfl)
      have v8 : x 25 = .bool true := (HX.out 8 (by decide) (by first | (refine hd ⟨8, .data⟩ ?_ rfl; simp; done) | (refine hd ⟨8, .guard⟩ ?_ rfl; simp; done) | (refine hd ⟨8, .chain⟩ ?_ rfl; simp; done))).trans (by rw [hL]; rfl)
      refine wpOp_some rfl ?_
      simp only [v15, v18, v8]
      have hV : (.bool false : Value) = (L[19]?).getD undef := by rw [hL]; rfl
      have HV := Lib.hid hV
      clear hL hV hd hio
      suffices hh : ∀ K : Act → World → Prop, (∀ ac' w', (∃ x : Nat → Value, ac' = ⟨#[u0, u1, u2, .pointer (some ⟨p, 0, none⟩), .pointer (some ⟨q, 0, none⟩), u5, u6, u7, u8, u9, u10, u11, u12, u13, u14, u15, u16, x 17, x 18, x 19, x 20, x 21, x 22, x 23, x 24, x 25, x 26, x 27, x 28, x 29, x 30, x 31, x 32, x 33, x 34, x 35, x 36, x 37, u38, u39, u40, u41, u42, u43, u44, u45, u46, u47, u48, u49, u50, u51, u52, u53, u54, u55, u56, u57, u58, u59, u60, u61, u62], []⟩ ∧ (∀ i, i < 21 → (listed.setIfInBounds 19 true).getD i false = true → x (17 + i) = (L[i]?).getD undef) ∧ Two w p q a b c d a2 b2 c2 d2 w') → K ac' w') → (if Region.wanted _ _ = true then Oper.wp _ _ _ _ K _ else K _ _) from hh _ (fun _ _ h => h)
      intro K hK
      go_simp
      refine hK _ _ ⟨fun j => if j = 17 + 19 then .bool false else x j, ?_, hx_set HX.out 19 _ HV.out, HT.out⟩
      simp [v15, v18, v8]
    · obtain rfl := Option.some.inj hio
      have v8 : x 25 = .bool true := (HX.out 8 (by decide) (by first | (refine hd ⟨8, .data⟩ ?_ rfl; simp; done) | (refine hd ⟨8, .guard⟩ ?_ rfl; simp; done) | (refine hd ⟨8, .chain⟩ ?_ rfl; simp; done))).trans (by rw [hL]; rfl)
      have v19 : x 36 = .bool false := (HX.out 19 (by decide) (by first | (refine hd ⟨19, .data⟩ ?_ rfl; simp; done) | (refine hd ⟨19, .guard⟩ ?_ rfl; simp; done) | (refine hd ⟨19, .chain⟩ ?_ rfl; simp; done))).trans (by rw [hL]; rfl)
      refine wpOp_some rfl ?_
      simp only [v8, v19]
      have hV : (.bool false : Value) = (L[20]?).getD undef := by rw [hL]; rfl
      have HV := Lib.hid hV
      clear hL hV hd hio
      suffices hh : ∀ K : Act → World → Prop, (∀ ac' w', (∃ x : Nat → Value, ac' = ⟨#[u0, u1, u2, .pointer (some ⟨p, 0, none⟩), .pointer (some ⟨q, 0, none⟩), u5, u6, u7, u8, u9, u10, u11, u12, u13, u14, u15, u16, x 17, x 18, x 19, x 20, x 21, x 22, x 23, x 24, x 25, x 26, x 27, x 28, x 29, x 30, x 31, x 32, x 33, x 34, x 35, x 36, x 37, u38, u39, u40, u41, u42, u43, u44, u45, u46, u47, u48, u49, u50, u51, u52, u53, u54, u55, u56, u57, u58, u59, u60, u61, u62], []⟩ ∧ (∀ i, i < 21 → (listed.setIfInBounds 20 true).getD i false = true → x (17 + i) = (L[i]?).getD undef) ∧ Two w p q a b c d a2 b2 c2 d2 w') → K ac' w') → (if Region.wanted _ _ = true then Oper.wp _ _ _ _ K _ else K _ _) from hh _ (fun _ _ h => h)
      intro K hK
      go_simp
      refine hK _ _ ⟨fun j => if j = 17 + 20 then .bool false else x j, ?_, hx_set HX.out 20 _ HV.out, HT.out⟩
      simp [v8, v19]

end Go.Proofs.Ytkldkaahpicnmaa
