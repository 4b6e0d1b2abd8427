/- slices.Insert of one element at []string, where there is room. -/
import Derived.Test.YtkcjhjoodincbaaNetD
import Derived.Lib.Overlaps
import Derived.Laws.Externs
import Derived.Laws.IdiomCopy
namespace Go.Proofs.Ytkcjhjoodincbaa
open Go.RowKit Go.Lib

section
variable {P : Program}
theorem wp_copy_run (w : World) {o : Oper} {a : Act} {K : Act → World → Prop} {Q : Exit → Act → World → Prop} (d s : Operand) (t t' : TypeId)
    (ho : o.op = .call { callee := .builtin .copy, args := #[d, s], argTypes := #[t, t'] }) (v u : Value) (hd : a.eval d = v) (hs : a.eval s = u) {v' : Value} {w' : World}
    (hr : (Builtin.copy_ #[t, t'] o.type #[v, u]).run P w = .ok v' w') (h : K (a.put o.dst v') w') : o.wp P a w K Q := by
  unfold Oper.wp execOp
  simp only [ho, resolve, invoke, builtin, Sem.run_bind, Sem.run_pure, Result.andThen_ok, List.map_toArray, List.map_cons, List.map_nil, hd, hs, hr]
  exact h
theorem wpList_copy_run (w : World) {ops : Array Oper} {rest : List Oper} {o : Oper} {a : Act} {Q : Exit → Act → World → Prop} (hgd : o.guard = none) (d s : Operand) (t t' : TypeId)
    (ho : o.op = .call { callee := .builtin .copy, args := #[d, s], argTypes := #[t, t'] }) (v u : Value) (hd : a.eval d = v) (hs : a.eval s = u) {v' : Value} {w' : World}
    (hr : (Builtin.copy_ #[t, t'] o.type #[v, u]).run P w = .ok v' w') (h : wpList P ops Q rest (a.put o.dst v') w') : wpList P ops Q (o :: rest) a w :=
  wpList_plain hgd fun _ hK => wp_copy_run w d s t t' ho v u hd hs hr (hK _ _ h)
theorem step_copy_run {ops : Array Oper} {o : Oper} {a : Act} {w : World} {K : Act → World → Prop} {Q : Exit → Act → World → Prop} {E : Prop}
    (hg : o.guard = none) (d x : Operand) (dT sT : TypeId) (hop : o.op = Op.call { callee := Callee.builtin Builtin.copy, args := #[d, x], argTypes := #[dT, sT] })
    (v u : Value) (hd : a.eval d = v) (hx : a.eval x = u) {v' : Value} {w' : World} (hr : (Builtin.copy_ #[dT, sT] o.type #[v, u]).run P w = .ok v' w') (hK : K (a.put o.dst v') w') :
    if Region.wanted o (yielded ops a.tmps) = true then Oper.wp P o a w K Q else E := by
  have hw : Region.wanted o (yielded ops a.tmps) = true := by simp [Region.wanted, hg]
  rw [if_pos hw]
  unfold Oper.wp
  simp [execOp, hop, resolve, invoke, builtin, hd, hx, hr, Result.andThen]
  exact hK
end

theorem Try.size9 : (Try.prog.info? 9).map (·.size) = some 1 := by kernel_rfl
theorem Try.sizeOf9 (w : World) : (Go.sizeOf 9).run Try.prog w = .ok 1 w := by kernel_rfl

set_option maxHeartbeats 4000000 in
set_option maxRecDepth 100000 in
theorem insert_shift (w : World) (B g n c i vb : Nat) (xs : List Value) (s : ByteArray) (h1c : ∀ u ∈ xs, u.oneCell' = true) (hown : w.ownsRow B 9 1 (.slice (some ⟨g, 0, none⟩) n c) n xs) (hi : i < n) (hroom : n < c)
    (hvb : vb ≠ g) (hs : w.heap[vb]? = some (.cells #[.string s] 9 (0, 0))) :
    Calls Try.prog 27 #[.slice (some ⟨g, 0, none⟩) n c, .int .i64 i, .slice (some ⟨vb, 0, none⟩) 1 1] w fun e w' =>
      e = .returned (.slice (some ⟨g, 0, none⟩) (n + 1) c) ∧ w'.ownsRow B 9 1 (.slice (some ⟨g, 0, none⟩) (n + 1) c) (n + 1) (xs.take i ++ .string s :: xs.drop i) ∧ Chg (fun k => k = g) w w' := by
  obtain ⟨hlen, hown⟩ := hown
  rcases hown with ⟨hh, _⟩ | ⟨g', c', cur, hh, hB, hg, hnc, hcm, hsz, htake⟩
  · simp at hh
  simp only [Value.slice.injEq, Option.some.injEq, Addr.mk.injEq, true_and, and_true] at hh
  obtain ⟨rfl, rfl⟩ := hh
  simp only [Nat.mul_one] at hlen hsz htake
  have hcm' := hcm
  unfold maxLen at hcm
  have hdl : (xs.drop i).length = n - i := by rw [List.length_drop, hlen]
  have hov : ∀ lb cb, (callFunc 29 #[.slice (some ⟨vb, 0, none⟩) 1 1, .slice (some ⟨g, i + 1, none⟩) lb cb]).run Try.prog w = .ok (.value (.bool false)) w := fun lb cb => by
    rw [run_callFunc_extern Try.func29 (by kernel_rfl) (by kernel_rfl) (by kernel_rfl) (e := Extern.SlicesOverlaps.overlaps #[27, 27] #[4]) (by kernel_rfl),
      Lib.run_overlaps_apart w 27 4 9 Try.underlying27 1 Try.sizeOf9 ⟨vb, 0, none⟩ ⟨g, i + 1, none⟩ 1 1 lb cb hvb 9 9 1 c (by simp [World.shape?, hs]) (by simp [World.shape?, hg, hsz]) (by omega) (by simp [World.frozen?, hs]) (by simp [World.frozen?, hs])]
    rfl
  have hcp1 : ∀ ty dc sc, (Builtin.copy_ #[27, 27] ty #[.slice (some ⟨g, i + 1, none⟩) (n - i) dc, .slice (some ⟨g, i, none⟩) (n + 1 - i) sc]).run Try.prog w.drew = .ok (goInt (xs.drop i).length) (w.drew.setCells g (i + 1) (xs.drop i)) := fun ty dc sc =>
    run_copy_cells w.drew _ _ ty 9 g (i + 1) (n - i) dc ⟨g, i, none⟩ (n + 1 - i) sc (xs.drop i) Try.underlying27 Try.size9 (by rw [hdl]; simp only [Nat.min_def]; split <;> omega)
      (fun j v hj => by
        rw [Addr.add_lit]
        rw [List.getElem?_drop, ← htake, List.getElem?_take] at hj
        split at hj
        · show w.cell? _ = _
          simpa [World.cell?, hg] using hj
        · simp at hj)
      (fun j hj => by show (w.cell? _).isSome = true; simp [World.cell?, hg]; omega) (fun j hj => by show w.frozen? _ = false; simp [World.frozen?, hg]) (fun v hv => h1c v (List.mem_of_mem_drop hv))
  obtain ⟨W1, hW1⟩ : ∃ W1, W1 = w.drew.setCells g (i + 1) (xs.drop i) := ⟨_, rfl⟩
  have hg1 : W1.heap[g]? = some (.cells (cur.toList.take (i + 1) ++ xs.drop i ++ cur.toList.drop (i + 1 + (xs.drop i).length)).toArray 9 (0, 0)) := by
    rw [hW1]
    exact heap_setCells _ (i + 1) w.drew cur hg (by omega)
  have hc1 : Chg (fun k => k = g) w W1 := by
    rw [hW1]; exact ((Chg.refl _ w).drew).trans (chg_setCells _ _ w.drew) (fun _ h _ => h)
  have hs1 : W1.heap[vb]? = some (.cells #[.string s] 9 (0, 0)) := (hc1.block vb (Array.getElem?_eq_some_iff.1 hs).1 hvb).trans hs
  have hcp2 : ∀ ty dc, (Builtin.copy_ #[27, 27] ty #[.slice (some ⟨g, i, none⟩) (n + 1 - i) dc, .slice (some ⟨vb, 0, none⟩) 1 1]).run Try.prog W1 = .ok (goInt [Value.string s].length) (W1.setCells g i [.string s]) := fun ty dc =>
    run_copy_cells W1 _ _ ty 9 g i (n + 1 - i) dc ⟨vb, 0, none⟩ 1 1 [.string s] Try.underlying27 Try.size9 (by simp only [Nat.min_def]; split <;> simp <;> omega)
      (fun j v hj => by
        have hj0 := (List.getElem?_eq_some_iff.1 hj).1
        obtain rfl : j = 0 := by simpa using hj0
        simp at hj
        subst hj
        rw [Addr.add_lit]
        simp [World.cell?, hs1])
      (fun j hj => by simp [World.cell?, hg1]; simp at hj; omega) (fun j hj => by simp [World.frozen?, hg1]) (by simp [Value.oneCell'])
  have hfin : (W1.setCells g i [.string s]).ownsRow B 9 1 (.slice (some ⟨g, 0, none⟩) (n + 1) c) (n + 1) (xs.take i ++ .string s :: xs.drop i) := by
    have hg2 := heap_setCells [.string s] i W1 _ hg1 (by simp; omega)
    refine ⟨by simp; omega, .inr ⟨g, c, _, rfl, hB, hg2, by omega, hcm', ?_, ?_⟩⟩
    · simp; omega
    · have e2 : xs.take i = cur.toList.take i := by rw [← htake, List.take_take, Nat.min_eq_left (by omega)]
      rw [List.toList_toArray, List.toList_toArray, Nat.mul_one, e2]
      have e3 : (cur.toList.take (i + 1) ++ xs.drop i ++ cur.toList.drop (i + 1 + (xs.drop i).length)).take i = cur.toList.take i := by
        rw [List.append_assoc, List.take_append_of_le_length (by simp; omega), List.take_take, Nat.min_eq_left (by omega)]
      have e4 : (cur.toList.take (i + 1) ++ xs.drop i ++ cur.toList.drop (i + 1 + (xs.drop i).length)).drop (i + [Value.string s].length) = xs.drop i ++ cur.toList.drop (i + 1 + (xs.drop i).length) := by
        rw [List.append_assoc, List.drop_left']
        simp; omega
      rw [e3, e4, ← List.append_assoc, List.take_left' (by simp; omega)]
      simp
  have hfc : Chg (fun k => k = g) w (W1.setCells g i [.string s]) := hc1.trans (chg_setCells _ _ _) (fun _ h _ => h)
  have HF := Lib.hid hfin
  have HC := Lib.hid hfc
  rw [← hW1] at hcp1
  have hw1 : IntKind.i64.wrap ((i : Int) + 1) = (i : Int) + 1 := by rw [IntKind.wrap_i64]; omega
  have htn : ((i : Int) + 1).toNat = i + 1 := by omega
  have hb5 : (i : Int) + 1 ≤ (n : Int) + 1 := by omega
  have hb1 : (0 : Int) ≤ (i : Int) + 1 := by omega
  have hb2 : ¬ (c = i + 1) := by omega
  have hb3 : (i : Int) ≤ (n : Int) + 1 := by omega
  have hb4 : ¬ (c = i) := by omega
  have hz2 : ¬ ((i : Int) = (n : Int)) := by omega
  have hin : i ≤ n := by omega
  clear hfin hfc hs1 hc1 hg1 hW1 hdl htake hsz hlen hg hcm' hs h1c
  go_enter Try.func27, Try.ntmps27
  go_wp2_with (simp only [hov])
  go_region_law (refine step_copy_run rfl _ _ 27 27 rfl _ _ (by simp [Act.eval, Act.put]) (by simp [Act.eval, Act.put]) (hcp1 _ _ _) ?_)
  go_wp2_with (at_builtin; refine wpList_copy_run _ rfl _ _ 27 27 rfl _ _ rfl rfl (hcp2 _ _) ?_)
  go_ret
  exact ⟨rfl, HF.out, HC.out⟩

theorem src_one (w : World) (vb : Nat) (s : ByteArray) (hs : w.heap[vb]? = some (.cells #[.string s] 9 (0, 0))) : Src Try.prog 1 27 (.slice (some ⟨vb, 0, none⟩) 1 1) 1 [.string s] w :=
  Src.ofSlice w Try.underlying27 _ 1 1 _ (by simp) (fun j u hu => by
    have hj := (List.getElem?_eq_some_iff.1 hu).1
    obtain rfl : j = 0 := by simpa using hj
    simp at hu
    subst hu
    rw [Addr.add_lit]
    simp [World.cell?, hs]) (by simp [Value.oneCell'])

theorem insert_end (w : World) (B : Nat) (v : Value) (n vb : Nat) (xs : List Value) (s : ByteArray) (hown : w.ownsRow B 9 1 v n xs) (hn : n ≤ 5000) (hB : B ≤ w.heap.size)
    (hs : w.heap[vb]? = some (.cells #[.string s] 9 (0, 0))) (ob : Option Nat) (hob : v.ownBlock = ob) :
    Calls Try.prog 27 #[v, .int .i64 n, .slice (some ⟨vb, 0, none⟩) 1 1] w fun e w' =>
      ∃ v', e = .returned v' ∧ w'.ownsRow B 9 1 v' (n + 1) (xs ++ [.string s]) ∧ Chg (fun k => some k = ob) w w' ∧ (v'.ownBlock = ob ∨ v'.ownBlock = some w.heap.size) := by
  obtain ⟨i0, hi0, hz0, hz1, hz2⟩ := info_parts Try.info9
  have hsrc := src_one w vb s hs
  obtain ⟨a, c, rfl, hnc, hcm, _⟩ := own_val hown
  have HO := Lib.hid hob
  clear hob
  go_enter Try.func27, Try.ntmps27
  go_wp2_with (at_builtin; refine wpList_append_src rfl _ _ 27 27 rfl B 9 i0 _ 1 16 Try.underlying27 hi0 hz0 hz1 hz2 rfl (by decide) (.slice a n c) n xs rfl hown _ _ _ rfl hsrc (by unfold maxLen; omega) (by omega) hB ?_; intro v' w' h1 h2 h3; rw [HO.out] at h2 h3)
  all_goals (go_ret; exact ⟨_, rfl, h1, h2, h3⟩)

theorem insert_any (w : World) (B : Nat) (g : Nat) (n c i vb : Nat) (xs : List Value) (s : ByteArray) (h1c : ∀ u ∈ xs, u.oneCell' = true) (hown : w.ownsRow B 9 1 (.slice (some ⟨g, 0, none⟩) n c) n xs) (hi : i ≤ n) (hroom : n < c) (hn : n ≤ 5000) (hB : B ≤ w.heap.size)
    (hvb : vb ≠ g) (hs : w.heap[vb]? = some (.cells #[.string s] 9 (0, 0))) :
    Calls Try.prog 27 #[.slice (some ⟨g, 0, none⟩) n c, .int .i64 i, .slice (some ⟨vb, 0, none⟩) 1 1] w fun e w' =>
      ∃ v', e = .returned v' ∧ w'.ownsRow B 9 1 v' (n + 1) (xs.take i ++ .string s :: xs.drop i) ∧ Chg (fun k => some k = some g) w w' ∧ (v'.ownBlock = some g ∨ v'.ownBlock = some w.heap.size) := by
  by_cases h : i = n
  · subst h
    refine (insert_end w B _ i vb xs s hown hn hB hs (some g) rfl).mono ?_
    rintro e w' ⟨v', rfl, h1, h2, h3⟩
    refine ⟨v', rfl, ?_, h2, h3⟩
    have hl := hown.1
    rw [List.take_of_length_le (by omega), List.drop_of_length_le (by omega)]
    exact h1
  · refine (insert_shift w B g n c i vb xs s h1c hown (by omega) hroom hvb hs).mono ?_
    rintro e w' ⟨rfl, h1, h2⟩
    exact ⟨_, rfl, h1, h2.mono (fun k hk => by rw [hk]), .inl rfl⟩

end Go.Proofs.Ytkcjhjoodincbaa
