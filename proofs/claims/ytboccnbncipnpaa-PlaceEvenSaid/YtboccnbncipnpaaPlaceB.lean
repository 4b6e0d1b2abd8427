import Derived.Test.YtboccnbncipnpaaPlaceS
import Derived.Outline
import Derived.WalkMore
import Derived.ScopeJumps
import Derived.Deep.QuietTactic
import Derived.BigQuiet
import Derived.BigRegion
namespace Go.Proofs.Ytboccnbncipnpaa
open Go.RowKit Go.Sort

theorem wp_scope_label {P : Program} {c K : Code} {a : Act} {w : World} {Q : Exit → Act → World → Prop} (l : Nat) (J : Act → World → Prop) (μ : Act → World → Nat) (hf : findLabel c l = some (.seq .skip K))
    (pass : ∀ a w, J a w → K.wp P (Exit.jump l (fun a' w' => J a' w' ∧ μ a' w' < μ a w) Q) a w)
    (first : (∀ a w, J a w → K.wp P (Exit.jump l J Q) a w) → c.wp P (Exit.jump l J Q) a w) : (Code.scope c).wp P Q a w := by
  refine wp_scope_jumps l J μ hf (first fun a w h => ?_) (fun a w h => wp_seq (wp_skip (pass a w h)))
  intro b k cs
  obtain ⟨e, a₁, w₁, hq, harr⟩ := pass a w h b k cs
  refine ⟨e, a₁, w₁, ?_, harr⟩
  cases e with
  | goto l' =>
    simp only [Exit.jump] at hq ⊢
    exact ⟨hq.1, hq.2.1⟩
  | normal => exact hq
  | exit _ => exact hq
  | ret => exact hq
  | panic _ => exact hq
  | outgrown => exact hq

/-- The live workers below m. -/
def upto (live : List Bool) (m : Nat) : List Nat := (List.range m).filter fun i => live.getD i false
theorem upto_succ (live : List Bool) (m : Nat) (b : Bool) (hb : live[m]? = some b) : upto live (m + 1) = upto live m ++ if b then [m] else [] := by
  unfold upto
  rw [List.range_succ, List.filter_append]
  congr 1
  cases b <;> simp [hb]
theorem upto_length (live : List Bool) (m : Nat) : (upto live m).length ≤ m := by
  have := List.length_filter_le (fun i => live.getD i false) (List.range m)
  simpa [upto] using this

/-- Behind the rounds: the row of the live workers below m, and nothing else has turned. -/
structure ChJ (w4 : World) (live : List Bool) (m : Nat) (v : Value) (w' : World) : Prop where
  hm : m ≤ live.length
  own : w'.ownsRow w4.heap.size 3 1 v (upto live m).length ((upto live m).map fun (i : Nat) => Value.int .i64 i)
  chg : Chg (fun _ => False) w4 w'

theorem ChJ.dead {w4 : World} {live : List Bool} {m : Nat} {v : Value} {w' : World} (h : ChJ w4 live m v w') (hb : live[m]? = some false) : ChJ w4 live (m + 1) v w' := by
  have e := upto_succ live m _ hb
  have hlt := (List.getElem?_eq_some_iff.1 hb).1
  simp only [Bool.false_eq_true, if_false, List.append_nil] at e
  exact ⟨hlt, by rw [e]; exact h.own, h.chg⟩

theorem ChJ.live {w4 : World} {live : List Bool} {m : Nat} {v : Value} {w' w'' : World} {v' : Value} (h : ChJ w4 live m v w') (hb : live[m]? = some true) (o : Obj)
    (ho : w''.ownsRow w4.heap.size 3 1 v' ((upto live m).length + 1) (((upto live m).map fun (i : Nat) => Value.int .i64 i) ++ [.int .i64 m])) (hc : Chg (fun k => some k = v.ownBlock) (w'.alloc o) w'') : ChJ w4 live (m + 1) v' w'' := by
  have e := upto_succ live m _ hb
  have hlt := (List.getElem?_eq_some_iff.1 hb).1
  simp only [if_true] at e
  refine ⟨hlt, ?_, ?_⟩
  · rw [e, List.length_append, List.map_append]; exact ho
  · refine (h.chg.alloc o).trans hc (fun i hi hlt => ?_)
    have := own_lt h.own i hi
    omega

def ChA (A B : Addr) (c0 c1 : Nat) (loads : List Int) (live : List Bool) (k : Nat) (turn : Int) (b : Nat) (m : Nat) (v : Value) (a' : Act) : Prop :=
  ∃ u14 u15 u16 u17 u18 u19 u20 u21 u22 u23 u24 u25 u26 u27 u28 u29 u30 u31 u32 u33 u34 u35 u36 u37 u38 u39 u40 u41 u42 u43 u44 u45 u46 u47 u48 u49 u50 u51 u52 u53 u54 u55 u56 u57 : Value, a' = { tmps := #[(.slice (some A) loads.length c0), (.slice (some B) live.length c1), (.int .i64 k), (.int .i64 turn), (.pointer (some ⟨b, 0, none⟩)), undef, undef, undef, (.slice none 0 0), (.pointer (some ⟨b + 1, 0, none⟩)), (.pointer (some ⟨b + 2, 0, none⟩)), (.pointer (some ⟨b + 2 + 1, 0, none⟩)), v, (.int .i64 (m : Nat)), u14, u15, u16, u17, u18, u19, u20, u21, u22, u23, u24, u25, u26, u27, u28, u29, u30, u31, u32, u33, u34, u35, u36, u37, u38, u39, u40, u41, u42, u43, u44, u45, u46, u47, u48, u49, u50, u51, u52, u53, u54, u55, u56, u57], defers := [] }

theorem info3 : (Try.prog.info? 3).map (fun i => (i.zero, i.size, i.bytes)) = some (some (.int .i64 0), 1, 8) := by kernel_rfl

def intOf : Value → Int | .int _ q => q | _ => 0

theorem src_one_int (w : World) (vb : Nat) (s : Int) (hs : w.heap[vb]? = some (.cells #[.int .i64 s] 3 (0, 0))) : Src Try.prog 1 22 (.slice (some ⟨vb, 0, none⟩) 1 1) 1 [.int .i64 s] w :=
  Src.ofSlice w Try.underlying22 _ 1 1 _ (by simp) (fun j u hu => by
    have hj := (List.getElem?_eq_some_iff.1 hu).1
    obtain rfl : j = 0 := by simpa using hj
    simp at hu
    subst hu
    rw [Addr.add_lit]
    simp [World.cell?, hs]) (by simp [Value.oneCell'])

theorem own_nil (w : World) (B : Nat) (e : TypeId) (z : Nat) : w.ownsRow B e z (.slice none 0 0) 0 [] := ⟨by simp, .inl ⟨rfl, rfl⟩⟩

theorem four_cells (w : World) (a b c d : Value) (ta tb tc td : TypeId) (w4 : World) (h : w4 = ((((w.alloc (.cells #[a] ta)).alloc (.cells #[b] tb)).alloc (.cells #[c] tc)).alloc (.cells #[d] td)).drew) :
    w4.cell? ⟨w.heap.size, 0, none⟩ = some a ∧ w4.cell? ⟨w.heap.size + 1, 0, none⟩ = some b ∧ w4.cell? ⟨w.heap.size + 2, 0, none⟩ = some c ∧ w4.cell? ⟨w.heap.size + 2 + 1, 0, none⟩ = some d := by
  have e1 := heap_alloc_new w (.cells #[a] ta)
  have e2 := heap_alloc_new (w.alloc (.cells #[a] ta)) (.cells #[b] tb)
  have e3 := heap_alloc_new ((w.alloc (.cells #[a] ta)).alloc (.cells #[b] tb)) (.cells #[c] tc)
  have e4 := heap_alloc_new (((w.alloc (.cells #[a] ta)).alloc (.cells #[b] tb)).alloc (.cells #[c] tc)) (.cells #[d] td)
  have z2 : (w.alloc (.cells #[a] ta)).heap.size = w.heap.size + 1 := by simp
  have z3 : ((w.alloc (.cells #[a] ta)).alloc (.cells #[b] tb)).heap.size = w.heap.size + 2 := by simp
  have z4 : (((w.alloc (.cells #[a] ta)).alloc (.cells #[b] tb)).alloc (.cells #[c] tc)).heap.size = w.heap.size + 2 + 1 := by simp
  rw [z2] at e2
  rw [z3] at e3
  rw [z4] at e4
  rw [h]
  refine ⟨one_cell (t := ta) ?_, one_cell (t := tb) ?_, one_cell (t := tc) ?_, one_cell (t := td) ?_⟩
  · exact (Below.heap_alloc _ _ _ (by rw [z4]; omega)).trans ((Below.heap_alloc _ _ _ (by rw [z3]; omega)).trans ((Below.heap_alloc _ _ _ (by rw [z2]; omega)).trans e1))
  · exact (Below.heap_alloc _ _ _ (by rw [z4]; omega)).trans ((Below.heap_alloc _ _ _ (by rw [z3]; omega)).trans e2)
  · exact (Below.heap_alloc _ _ _ (by rw [z4]; omega)).trans e3
  · exact e4

/-- What choose hands back: k workers, one more each, the row its own. -/
structure Chosen (w : World) (loads : List Int) (live : List Bool) (k : Nat) (f : Int) (v : Value) (w' : World) : Prop where
  row : ∃ ys : List Nat, ys.Perm (upto live live.length) ∧ ys.Pairwise (fun i j => ¬ Ahead loads f live.length j i) ∧ w'.ownsRow w.heap.size 3 1 v k ((ys.take k).map fun (i : Nat) => Value.int .i64 ((i : Int) + 1))
  below : Below w.heap.size w w'

theorem own_some {w : World} {B : Nat} {e : TypeId} {z : Nat} {v : Value} {n : Nat} {xs : List Value} (h : w.ownsRow B e z v n xs) (hn : 0 < n) : ∃ g c, v = .slice (some ⟨g, 0, none⟩) n c ∧ n ≤ c ∧ c ≤ maxLen ∧ B ≤ g := by
  rcases h.2 with ⟨_, h0⟩ | ⟨g, c, cur, rfl, hg, _, h1, h2, _⟩
  · omega
  · exact ⟨g, c, rfl, h1, h2, hg⟩

theorem own_cell {w : World} {B : Nat} {e : TypeId} {g n c : Nat} {xs : List Nat} {f : Nat → Value} (h : w.ownsRow B e 1 (.slice (some ⟨g, 0, none⟩) n c) n (xs.map f)) (j : Nat) (x : Nat) (hx : xs[j]? = some x) : w.cell? ⟨g, j, none⟩ = some (f x) := by
  have := h.cells (g := g) rfl j (f x) (by rw [List.getElem?_map, hx]; rfl)
  rwa [Addr.add_lit, Nat.zero_add] at this

/-- Behind q of the last rounds. -/
structure OutJ (w5 : World) (ys : List Nat) (k q : Nat) (v : Value) (w' : World) : Prop where
  hq : q ≤ k
  own : w'.ownsRow w5.heap.size 3 1 v q ((ys.take q).map fun (i : Nat) => Value.int .i64 ((i : Int) + 1))
  chg : Chg (fun _ => False) w5 w'

theorem OutJ.next {w5 : World} {ys : List Nat} {k q : Nat} {v : Value} {w' w'' : World} {v' : Value} (h : OutJ w5 ys k q v w') (hlt : q < k) (x : Nat) (hx : ys[q]? = some x) (o : Obj)
    (ho : w''.ownsRow w5.heap.size 3 1 v' (q + 1) (((ys.take q).map fun (i : Nat) => Value.int .i64 ((i : Int) + 1)) ++ [.int .i64 ((x : Int) + 1)])) (hc : Chg (fun k => some k = v.ownBlock) (w'.alloc o) w'') : OutJ w5 ys k (q + 1) v' w'' := by
  refine ⟨hlt, ?_, ?_⟩
  · rw [List.take_add_one, hx, List.map_append]; exact ho
  · refine (h.chg.alloc o).trans hc (fun i hi hlt => ?_)
    have := own_lt h.own i hi
    omega

set_option maxHeartbeats 2000000 in
theorem choose_any (A B : Addr) (c0 c1 : Nat) (loads : List Int) (live : List Bool) (k : Nat) (turn : Int) (w : World) (hA : ∀ (j : Nat) v, loads[j]? = some v → w.cell? (A.add j) = some (.int .i64 v)) (hB : ∀ (j : Nat) v, live[j]? = some v → w.cell? (B.add j) = some (.bool v)) (hAB : A.block < w.heap.size) (hlen : loads.length = live.length) (h0 : 0 < live.length) (h1 : live.length ≤ 16) (hk : 1 ≤ k) (hku : k ≤ (upto live live.length).length) :
    Calls Try.prog 12 #[.slice (some A) loads.length c0, .slice (some B) live.length c1, .int .i64 (k : Nat), .int .i64 turn] w fun e w' => ∃ v, e = .returned v ∧ Chosen w loads live k (turn % (live.length : Int)) v w' := by
  have hn0 : (live.length : Int) ≠ 0 := by omega
  have HB := Lib.hid hB
  have HA := Lib.hid hA
  clear hA hB
  obtain ⟨w4, hW4⟩ : ∃ w4, w4 = ((((w.alloc (Obj.cells #[Value.slice (some A) loads.length c0] 22)).alloc (Obj.cells #[Value.int IntKind.i64 (live.length : Int)] 3)).alloc (Obj.cells #[Value.int IntKind.i64 (turn % (live.length : Int))] 3)).alloc (Obj.cells #[Value.func (Fn.func 15) #[] #[Value.pointer (some ⟨w.heap.size + 2, 0, none⟩), Value.pointer (some ⟨w.heap.size + 1, 0, none⟩)]] 40)).drew := ⟨_, rfl⟩
  obtain ⟨p1, q1, p3, p4⟩ := four_cells w _ _ _ _ _ _ _ _ w4 hW4
  have z4 : w4.heap.size = w.heap.size + 4 := by rw [hW4]; simp
  have hC4 : Chg (fun _ => False) w w4 := by rw [hW4]; exact ((((((Chg.refl _ w).alloc _).alloc _).alloc _).alloc _).drew)
  have HC : Hid (CmpAt w4 ⟨w.heap.size, 0, none⟩ ⟨w.heap.size + 2 + 1, 0, none⟩ ⟨w.heap.size + 2, 0, none⟩ ⟨w.heap.size + 1, 0, none⟩ A c0 loads (turn % (live.length : Int)) live.length) :=
    Lib.hid ⟨p1, p4, p3, q1, fun j v hv => (hC4.cell (by rw [addr_add_block]; exact hAB) id).trans (HA.out j v hv)⟩
  have HW4 := Lib.hid hW4
  clear p1 p3 p4
  have HLEN := Lib.hid hlen
  clear hlen
  clear hW4
  go_enter Try.func12, Try.ntmps12
  go_wp2
  obtain ⟨w1, hW1⟩ : ∃ w1, w1 = (w.alloc (Obj.cells #[Value.slice (some A) loads.length c0] 22)) := ⟨_, rfl⟩
  have hs1 : w1.heap.size = w.heap.size + 1 := by rw [hW1]; simp
  have HR := Lib.hid (rest_num turn live.length (by omega) (by omega))
  rw [← hW1]
  have HW1 := Lib.hid hW1
  clear hW1
  refine wp_scope_label 0 (fun a' w' => ∃ m v, ChA A B c0 c1 loads live k turn w.heap.size m v a' ∧ ChJ w4 live m v w') (fun a' _ => live.length - (intOf (a'.tmps.getD 13 undef)).toNat) rfl ?_ ?_
  · clear HR HW1 hs1
    rintro a' w' ⟨m, v, ⟨u14, u15, u16, u17, u18, u19, u20, u21, u22, u23, u24, u25, u26, u27, u28, u29, u30, u31, u32, u33, u34, u35, u36, u37, u38, u39, u40, u41, u42, u43, u44, u45, u46, u47, u48, u49, u50, u51, u52, u53, u54, u55, u56, u57, rfl⟩, hJ⟩
    have HJ := Lib.hid hJ
    have hm := hJ.hm
    have qn : w'.cell? ⟨w.heap.size + 1, 0, none⟩ = some (.int .i64 (live.length : Int)) := (hJ.chg.cell (p := ⟨w.heap.size + 1, 0, none⟩) (by show _ + 1 < _; omega) id).trans q1
    by_cases hlt : m < live.length
    · obtain ⟨bv, hbv⟩ : ∃ bv, live[m]? = some bv := ⟨_, List.getElem?_eq_getElem hlt⟩
      have hBm := HB.out m bv hbv
      have hBlt := World.block_lt_of_cell? w _ hBm
      have qb : w'.cell? (B.add m) = some (.bool bv) := (hJ.chg.cell (by omega) id).trans ((hC4.cell hBlt id).trans hBm)
      clear hBm hBlt
      obtain ⟨av, cv, rfl, hcv⟩ := own_val hJ.own
      have HBV := Lib.hid hbv
      have hown := hJ.own
      have hul := upto_length live m
      clear hJ q1 hbv
      obtain ⟨i0, hi0, hz0, hz1, hz2⟩ := info_parts info3
      cases bv
      · have HJ2 := Lib.hid (HJ.out.dead HBV.out)
        clear hown
        go_wp2
        go_step3
        refine ⟨rfl, ⟨m + 1, _, ⟨_, _, _, _, _, _, _, _, _, _, _, _, _, _, _, _, _, _, _, _, _, _, _, _, _, _, _, _, _, _, _, _, _, _, _, _, _, _, _, _, _, _, _, _, rfl⟩, HJ2.out⟩, ?_⟩
        simp [intOf]
        omega
      · go_wp2_with (at_builtin; refine wpList_append_src rfl _ _ 22 22 rfl w4.heap.size 3 i0 _ 1 8 Try.underlying22 hi0 hz0 hz1 hz2 rfl (by decide) _ _ _ rfl (hown.alloc _) _ 1 _ rfl (src_one_int _ w'.heap.size m (heap_alloc_new w' _)) (by unfold maxLen; omega) (by omega) (by simp; have := HJ.out.chg.size; omega) ?_; intro v2 w2 ho hch hnew)
        go_step3
        refine ⟨rfl, ⟨m + 1, _, ⟨_, _, _, _, _, _, _, _, _, _, _, _, _, _, _, _, _, _, _, _, _, _, _, _, _, _, _, _, _, _, _, _, _, _, _, _, _, _, _, _, _, _, _, _, rfl⟩, HJ.out.live HBV.out _ ho hch⟩, ?_⟩
        simp [intOf]
        omega
    · obtain rfl : m = live.length := by omega
      have hul := upto_length live live.length
      obtain ⟨g, cv, rfl, hcv, hcv2, hg4⟩ := own_some hJ.own (by omega)
      have hs' := hJ.chg.size
      have HS := Lib.hid (sort_any (upto live live.length) loads (turn % (live.length : Int)) live.length _ ⟨w.heap.size, 0, none⟩ ⟨w.heap.size + 2 + 1, 0, none⟩ ⟨w.heap.size + 2, 0, none⟩ ⟨w.heap.size + 1, 0, none⟩ A c0 w' w4.heap.size
        (fun x hx => by have := List.mem_filter.1 hx; have := List.mem_range.1 this.1; have := HLEN.out; omega) (fun h => by rw [h] at hku; simp at hku; omega) (by have := HLEN.out; omega) (by omega) (Int.emod_nonneg _ hn0) (Int.emod_lt_of_pos _ (by omega))
        hJ.own (by
          obtain ⟨x1, x2, x3, x4, x5⟩ := HC.out
          exact ⟨(hJ.chg.cell (World.block_lt_of_cell? w4 _ x1) id).trans x1, (hJ.chg.cell (World.block_lt_of_cell? w4 _ x2) id).trans x2, (hJ.chg.cell (World.block_lt_of_cell? w4 _ x3) id).trans x3, (hJ.chg.cell (World.block_lt_of_cell? w4 _ x4) id).trans x4, fun j v hv => (hJ.chg.cell (World.block_lt_of_cell? w4 _ (x5 j v hv)) id).trans (x5 j v hv)⟩)
        hs' (by show w.heap.size < _; omega) (by show w.heap.size + 2 + 1 < _; omega) (by show w.heap.size + 2 < _; omega) (by show w.heap.size + 1 < _; omega) (by omega) (by omega))
      have HJ5 := Lib.hid hJ.chg
      clear hJ q1 HJ
      go_wp2_with (go_at_call 16; refine HS.out.mono ?_; rintro e w5 ⟨rfl, ys, hys⟩)
      have HY := Lib.hid hys
      obtain ⟨hperm, _, hown5, hchg5⟩ := hys
      have hyl := hperm.length_eq
      have hmem : Hid (∀ x ∈ ys, x < 16) := Lib.hid fun x hx => by
        have := List.mem_filter.1 (hperm.mem_iff.1 hx); have := List.mem_range.1 this.1; omega
      clear hperm
      have HO5 := Lib.hid hown5
      have HC5 := Lib.hid hchg5
      clear hown5 hchg5
      have hg5 : g < w5.heap.size := (own_lt HO5.out g rfl).2
      clear HS HC HW4 HA HB
      go_loopw [14, 47] (fun vo j wr => ∃ q : Nat, j = .int .i64 q ∧ OutJ w5 ys k q vo wr) (fun _ j _ => k - (intOf j).toNat)
      case atStart => exact ⟨0, rfl, ⟨Nat.zero_le _, own_nil _ _ _ _, Chg.refl _ _⟩⟩
      case round =>
        obtain ⟨q, rfl, hq⟩ := hrel
        have hqk := hq.hq
        have HQ := Lib.hid hq
        by_cases hlt : q < k
        · obtain ⟨x, hx⟩ : ∃ x, ys[q]? = some x := ⟨_, List.getElem?_eq_getElem (by omega)⟩
          have hx16 := hmem.out x (List.mem_of_getElem? hx)
          have hcx := (hq.chg.cell (p := ⟨g, q, none⟩) hg5 id).trans (own_cell (by have := HO5.out; rwa [hyl] at this) q x hx)
          have HX := Lib.hid hx
          obtain ⟨ao, co, rfl, hco, hco2, _⟩ := own_val hq.own
          have hownq := hq.own
          have hzq := hq.chg.size
          clear hx hq
          obtain ⟨i0, hi0, hz0, hz1, hz2⟩ := info_parts info3
          go_wp2_with (at_builtin; refine wpList_append_src rfl _ _ 22 22 rfl w5.heap.size 3 i0 _ 1 8 Try.underlying22 hi0 hz0 hz1 hz2 rfl (by decide) _ _ _ rfl (hownq.alloc _) _ 1 _ rfl (src_one_int _ _ _ (heap_alloc_new _ _)) (by unfold maxLen; omega) (by omega) (by simp; omega) ?_; intro v2 w2 ho hch hnew)
          go_roundw
          case rel => exact ⟨q + 1, by go_num, HQ.out.next hlt x HX.out _ ho hch⟩
          case measure => simp [intOf]; omega
        · obtain rfl : q = k := by omega
          clear hq
          have hbel : Below w.heap.size w wr :=
            (((hC4.trans HJ5.out (fun _ h _ => h)).trans HC5.out (fun i hi hlt => by
              have : i = g := Option.some.inj hi
              omega)).trans HQ.out.chg (fun _ h _ => h)).below (Nat.le_refl _) (fun _ h => h.elim)
          go_wp2
          simp only [Exit.jump]
          go_ret
          exact ⟨_, rfl, ⟨ys, HY.out.1, HY.out.2.1, own_base HQ.out.own (by omega)⟩, hbel⟩
  · intro HP
    go_wp2
    obtain ⟨w2, hW2⟩ : ∃ w2, w2 = (w1.alloc (Obj.cells #[Value.int IntKind.i64 (live.length : Int)] 3)) := ⟨_, rfl⟩
    rw [← hW2]
    have k1 : w2.cell? ⟨w.heap.size + 1, 0, none⟩ = some (.int .i64 (live.length : Int)) := by
      rw [hW2, ← hs1]
      exact one_cell (heap_alloc_new w1 _)
    have hs2 : w2.heap.size = w.heap.size + 2 := by rw [hW2]; simp [hs1]
    have HW2 := Lib.hid hW2
    clear hW2
    have hx1 : IntKind.i64.wrap (turn.tmod (live.length : Int) + (live.length : Int)) = turn.tmod (live.length : Int) + (live.length : Int) := by
      have h3 := Int.tmod_lt_of_pos turn (show (0 : Int) < live.length by omega)
      have h4 := Int.lt_tmod_of_pos turn (show (0 : Int) < live.length by omega)
      simp [IntKind.wrap, IntKind.bits, IntKind.signed]; omega
    have HF : Hid ((turn.tmod (live.length : Int) + (live.length : Int)).tmod (live.length : Int) = turn % (live.length : Int)) := by
      have := HR.out
      unfold wrap64 at this
      have h3 := Int.tmod_lt_of_pos turn (show (0 : Int) < live.length by omega)
      have h4 := Int.lt_tmod_of_pos turn (show (0 : Int) < live.length by omega)
      rwa [show (turn.tmod (live.length : Int) + (live.length : Int) + 9223372036854775808) % 18446744073709551616 - 9223372036854775808 = turn.tmod (live.length : Int) + (live.length : Int) by omega] at this
    go_region
    go_wp2
    go_step3
    rename_i hKK
    refine hKK _ _ (HP _ _ ?_)
    refine ⟨0, _, ⟨_, _, _, _, _, _, _, _, _, _, _, _, _, _, _, _, _, _, _, _, _, _, _, _, _, _, _, _, _, _, _, _, _, _, _, _, _, _, _, _, _, _, _, _, rfl⟩, ?_⟩
    refine ⟨Nat.zero_le _, own_nil _ _ _ _, ?_⟩
    rw [HF.out, HW4.out, HW2.out, HW1.out]
    exact Chg.refl _ _
end Go.Proofs.Ytboccnbncipnpaa
