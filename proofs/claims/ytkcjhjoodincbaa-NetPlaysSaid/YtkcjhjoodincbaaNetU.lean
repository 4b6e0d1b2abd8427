/- The statement NetPlays: the range over all texts, at a round's end. -/
import Derived.Test.YtkcjhjoodincbaaNetT
namespace Go.Proofs.Ytkcjhjoodincbaa
open Go.RowKit Go.Shelf
attribute [local go_sem] Oper.semAt_some

/-- At the loop's head: n texts at most. -/
def LI (w : World) (l0 : Value) (R p M k n : Nat) (a : Act) (W : World) : Prop :=
  ∃ Ds v vm mm v8 v9 v10 v11, St w R p M Ds [] W v mm vm mm ∧ mm.length ≤ n ∧ (∀ s ∈ mm, s.size ≤ 10000) ∧ FR l0 R p M (.int .i64 k) v8 v9 v10 v11 (Ds.map mark) a

theorem St.mark {w : World} {R p M : Nat} {Ds : List Nat} {Ex : List (Nat × Obj)} {W : World} {v : Value} {mn : List ByteArray} {vm : Value} {mm : List ByteArray} (h : St w R p M Ds Ex W v mn vm mm)
    {n D : Nat} (hn : ∀ E, E ∈ Ds → E < n) (hR : R + 1 ≤ n) (hD : n ≤ D) (hK : W.heap[D]? = some (.deferred (some []))) : St w R p M (D :: Ds) Ex W v mn vm mm :=
  ⟨h.rp, h.pm, h.wr, h.net, h.box, h.row, h.res, h.apart, h.bel, h.marks.cons hn hR hD hK, h.ex⟩

/-- The variable that counts. -/
def oneOwn (b : Nat) (W : World) (k : Nat) : Prop := k = b ∧ b < W.heap.size
theorem oneOwn_ok (b : Nat) (w : World) (hb : b < w.heap.size) : OwnOk (b + 1) w (oneOwn b) where
  lt := fun W k h => h.1 ▸ h.2
  start := fun W k _ h => h.1 ▸ hb
  put := fun W l o o' k hl h hc ho => ⟨ho.1, by simpa [World.putObj] using ho.2⟩
theorem oneOwn_set (b : Nat) (W : World) (u : Value) : KpR (oneOwn b) W (W.setCell ⟨b, 0, none⟩ u) :=
  ⟨by simp [World.setCell], fun c o hc ho hn => by
    have hcl := (Array.getElem?_eq_some_iff.1 hc).1
    have hne : c ≠ b := fun e => hn ⟨e, e ▸ hcl⟩
    exact ⟨(Below.heap_setCell W _ _ c hne).trans hc, fun h => hne h.1⟩⟩

set_option maxRecDepth 100000 in
set_option maxHeartbeats 2000000 in
theorem plays_range (w : World) (l0 : Value) (R p M k n : Nat) (Ds : List Nat) (W : World) (v vm : Value) (mm : List ByteArray) (q : Bool) (z : ByteArray)
    (h : St w R p M Ds [] W v mm vm mm) (hmm : mm.length ≤ n) (hsz : ∀ s ∈ mm, s.size ≤ 10000)
    (Qg : Exit → Act → World → Prop) (hK : ∀ a' W', LI w l0 R p M k n a' W' → Qg .normal a' W')
    (u1 u6 u7 u12 u13 u14 u15 u16 u17 u18 u19 u20 u21 u22 u23 u24 u25 u26 u27 u28 u29 u30 u31 u32 u33 u34 u35 u36 u37 u38 u39 u40 u41 u42 u43 u44 u45 u46 u47 u48 u49 u50 u51 u52 u53 u54 u55 u56 u57 u58 u59 u60 u61 u62 u63 u64 u65 u66 u67 u68 u69 u70 u71 u72 u73 u74 u75 u76 u77 u78 u79 u80 u81 u82 u83 u84 u85 u86 u87 u88 u89 u90 u91 u92 u93 u94 u95 u96 u97 u98 u99 u100 u101 u102 u103 u104 u105 u106 u107 u108 u109 u110 u111 u112 u113 u114 u115 u116 u117 u118 u119 u120 u121 u122 u123 u124 u125 u126 u127 u128 u129 u130 u131 u132 u133 u134 u135 u136 u137 u138 u139 u140 u141 u142 u143 u144 u145 u146 u147 u148 u149 u150 u151 u152 u153 u154 u155 u156 u157 u158 u159 u160 u161 u162 u163 u164 u165 u166 u167 u168 u169 u170 u171 u172 u173 u174 u175 u176 u177 u178 u179 u180 u181 u182 u183 u184 u185 u186 u187 u188 u189 u190 u191 u192 u193 u194 u195 u196 u197 u198 u199 u200 u201 u202 : Value) : playsRange.wpIn Fence.wide 7 Try.prog Qg ⟨#[l0, u1, .pointer (some ⟨R, 0, none⟩), .pointer (some ⟨p, 0, none⟩), .pointer (some ⟨M, 0, none⟩), .int .i64 k, u6, u7, .bool q, .bool q, .string z, .string z, u12, u13, u14, u15, u16, u17, u18, u19, u20, u21, u22, u23, u24, u25, u26, u27, u28, u29, u30, u31, u32, u33, u34, u35, u36, u37, u38, u39, u40, u41, u42, u43, u44, u45, u46, u47, u48, u49, u50, u51, u52, u53, u54, u55, u56, u57, u58, u59, u60, u61, u62, u63, u64, u65, u66, u67, u68, u69, u70, u71, u72, u73, u74, u75, u76, u77, u78, u79, u80, u81, u82, u83, u84, u85, u86, u87, u88, u89, u90, u91, u92, u93, u94, u95, u96, u97, u98, u99, u100, u101, u102, u103, u104, u105, u106, u107, u108, u109, u110, u111, u112, u113, u114, u115, u116, u117, u118, u119, u120, u121, u122, u123, u124, u125, u126, u127, u128, u129, u130, u131, u132, u133, u134, u135, u136, u137, u138, u139, u140, u141, u142, u143, u144, u145, u146, u147, u148, u149, u150, u151, u152, u153, u154, u155, u156, u157, u158, u159, u160, u161, u162, u163, u164, u165, u166, u167, u168, u169, u170, u171, u172, u173, u174, u175, u176, u177, u178, u179, u180, u181, u182, u183, u184, u185, u186, u187, u188, u189, u190, u191, u192, u193, u194, u195, u196, u197, u198, u199, u200, u201, u202], Ds.map mark⟩ W := by
  conv => arg 4; whnf
  obtain ⟨va, vc, rfl, hvc, hvm, _⟩ := own_val h.row
  unfold maxLen at hvm
  have hsz := Lib.hid hsz
  gi_wp2_with fail
  refine ⟨trivial, (callsIn_wide.2 (all_in _ _)).mono ?_⟩
  rintro e w5 ⟨rfl, rfl⟩
  gi_wp2_with fail
  have hWs : R < W.heap.size := by have := h.rp; have := h.pm; have := h.ml; omega
  have hB0 : Below W.heap.size W ((W.alloc (.cells #[.int .i64 0] 3)).alloc (.cells #[.pointer (some ⟨p, 0, none⟩)] 24)) := ((Below.refl _ W).alloc (Nat.le_refl _) _).alloc (by simp) _
  have hK0 : ((W.alloc (.cells #[.int .i64 0] 3)).alloc (.cells #[.pointer (some ⟨p, 0, none⟩)] 24)).heap[W.heap.size]? = some (.cells #[.int .i64 0] 3 (0, 0)) := (Below.heap_alloc _ _ _ (by simp)).trans (heap_alloc_new W _)
  have bN := Boxed.new (W.alloc (.cells #[.int .i64 0] 3)) 24 (.pointer (some ⟨p, 0, none⟩))
  rw [World.size_alloc] at bN
  have hOk := oneOwn_ok W.heap.size ((W.alloc (.cells #[.int .i64 0] 3)).alloc (.cells #[.pointer (some ⟨p, 0, none⟩)] 24)) (by simp; omega)
  have hst := all_stops (7 - 1) (by omega) (W.heap.size + 1) p v mm (W.heap.size + 1) (oneOwn W.heap.size) ((W.alloc (.cells #[.int .i64 0] 3)).alloc (.cells #[.pointer (some ⟨p, 0, none⟩)] 24)) hOk (by simp) bN.cell (h.below hB0).net
  refine wpIn_rangeFunc_ownF rfl (by omega) (gf := 24) (lb := #[.pointer (some ⟨W.heap.size + 1, 0, none⟩)]) rfl trivial (enters_of Try.func24 (by kernel_rfl) rfl)
    hst KpR.trans (fun W' lx o o' hl' ho hoc _ => hOk.kput W' lx o o' (by simp at hl'; omega) ho hoc) (Below.refl _ _) (fun _ => rfl)
    (fun pre W' => W'.heap[W.heap.size]? = some (.cells #[.int .i64 (pre.length : Nat)] 3 (0, 0)) ∧ pre <+: mm ∧ Below W.heap.size W W') (fun _ pre _ => ¬ pre <+: mm)
    ?own (fun _ _ _ _ _ hs _ _ => hs) ⟨hK0, List.nil_prefix, hB0⟩
    (fun x => { tmps := #[l0, u1, .pointer (some ⟨R, 0, none⟩), .pointer (some ⟨p, 0, none⟩), .pointer (some ⟨M, 0, none⟩), .int .i64 k, u6, u7, .bool q, .bool q, .string z, .string z, u12, u13, .pointer (some ⟨W.heap.size, 0, none⟩), .string x, u16, u17, u18, u19, u20, u21, u22, u23, u24, u25, u26, u27, u28, u29, u30, u31, u32, u33, u34, u35, u36, u37, u38, u39, u40, u41, u42, u43, u44, u45, u46, u47, u48, u49, u50, u51, u52, u53, u54, u55, u56, u57, u58, u59, u60, u61, u62, u63, u64, u65, u66, u67, u68, u69, u70, u71, u72, u73, u74, u75, u76, u77, u78, u79, u80, u81, u82, u83, u84, u85, u86, u87, u88, u89, u90, u91, u92, u93, u94, u95, u96, u97, u98, u99, u100, u101, u102, u103, u104, u105, u106, u107, u108, u109, u110, u111, u112, u113, u114, u115, u116, u117, u118, u119, u120, u121, u122, u123, u124, u125, u126, u127, u128, u129, u130, u131, u132, u133, u134, u135, u136, u137, u138, u139, u140, u141, u142, u143, u144, u145, u146, u147, u148, u149, u150, u151, u152, u153, u154, u155, u156, u157, u158, u159, u160, u161, u162, u163, u164, u165, u166, u167, u168, u169, u170, u171, u172, u173, u174, u175, u176, u177, u178, u179, u180, u181, u182, u183, u184, u185, .pointer (some ⟨p, 0, none⟩), .func (.func 24) #[] #[.pointer (some ⟨W.heap.size + 1, 0, none⟩)], .string x, u189, u190, u191, u192, u193, u194, u195, u196, u197, u198, u199, u200, u201, u202], defers := [] }) ?assign ?body ?done ?stop
  case own =>
    rintro s A B row ⟨h1, h2, h3⟩ hg hr
    refine ⟨(hg.block _ (Array.getElem?_eq_some_iff.1 h1).1 (fun e => by have := (hr _ e.symm).1; simp at this; omega)).trans h1, h2, h3.grown hg h3.size (fun k e => by have := (hr k e).1; simp at this; omega)⟩
  case assign =>
    intro lx x W' K hK
    gi_wp2
    exact hK
  case body =>
    rintro lx pre x W' ⟨h1, h2, h3⟩ hlt
    have hS := h.below h3
    have hcM := one_cell hS.box
    have hcK := one_cell h1
    have hfK := one_free h1
    have hcR := one_cell hS.res
    have hfR := one_free hS.res
    obtain ⟨c, hc⟩ : ∃ c, c = pre.length := ⟨_, rfl⟩
    have hcl : c < mm.length := by omega
    rw [← hc] at h1 hcK
    obtain ⟨y, hy⟩ : ∃ y, mm[c]? = some y := ⟨_, List.getElem?_eq_getElem hcl⟩
    obtain ⟨g, rfl, hg⟩ := rowCell hS.row c y hy
    have HY := Lib.hid hy
    have H2 := Lib.hid h2
    have HC := Lib.hid hc
    have HP : Hid (pre ++ [x] <+: mm ↔ x = y) := Lib.hid (by
      obtain ⟨t, ht⟩ := h2
      have hm : mm[c]? = t[0]? := by rw [← ht, hc, List.getElem?_append_right (by omega), Nat.sub_self]
      rw [hy] at hm
      cases t with
      | nil => cases hm
      | cons u t =>
        simp only [List.getElem?_cons_zero, Option.some.injEq] at hm
        subst hm
        rw [← ht]
        constructor
        · intro hp
          have := (List.prefix_append_right_inj pre).1 hp
          obtain ⟨r, hr⟩ := this
          injection hr
        · rintro rfl
          exact ⟨t, by simp⟩)
    clear hy h2 hc
    by_cases hx : x = y
    · subst hx
      have hq1 : (x.toList != x.toList) = false := by simp
      gi_wp2
      refine ⟨KeepsOthers.setCell _ _ _, oneOwn_set _ _ _, ?_, HP.out.mpr (by first | exact rfl | trivial), h3.setCell (p := ⟨W.heap.size, 0, none⟩) (Nat.le_refl _) _⟩
      have := one_set h1 (.int .i64 ((c : Int) + 1))
      rw [List.length_append, ← HC.out]
      exact this
    · have hq1 : (x.toList == y.toList) = false := by
        rw [beq_eq_false_iff_ne]
        intro e
        exact hx (str_eq x y (by simp [e]))
      gi_wp2
      exact ⟨KeepsOthers.setCell _ _ _, fun hp => hx (HP.out.1 hp)⟩
  case done =>
    rintro D ys W' hD rfl ⟨h1, h2, h3⟩ hKD
    have hS := (h.below h3).mark (n := W.heap.size) (D := D) (fun E hE => h.marks.lt E hE) hWs (by simp at hD; omega) hKD
    refine hK _ _ ?_
    unfold LI FR
    refine ⟨D :: Ds, v, _, ys, .bool q, .bool q, .string z, .string z, hS, hmm, hsz.out, ?fr⟩
    case fr => (repeat apply Exists.intro); rfl
  case stop =>
    rintro D c pre W' _ hp hn _
    exact absurd hp hn

end Go.Proofs.Ytkcjhjoodincbaa
