/- PlaceEven: the walk. -/
import Derived.Test.YtboccnbncipnpaaPlaceE
import Derived.RegionTactic
import Derived.ChangeAlike
import Derived.Test.YtboccnbncipnpaaPlaceEvenMay
namespace Go.Proofs.Ytboccnbncipnpaa
open Go.RowKit Go.Sort Go.Proofs.YtboccnbncipnpaaW.PrintWords Go.Proofs.YtboccnbncipnpaaW.PrintLast Go.Proofs.YtboccnbncipnpaaW.PrintMore

set_option maxHeartbeats 2000000 in
theorem all_err (A B : Addr) (c0 c1 : Nat) (nl nb : Nat) (n : Int) (turn : Int) (parts : Nat) (r : Int) (hr : r ≠ 0) (w : World) (hp : parts ≤ 1000)
    (hmay : Calls Try.prog 11 #[.slice (some A) nl c0, .slice (some B) nb c1, .int .i64 n] w fun e w' => e = .returned (.int .i64 r) ∧ Chg (fun _ => False) w w') :
    Calls Try.prog 10 #[.slice (some A) nl c0, .slice (some B) nb c1, .int .i64 n, .int .i64 turn, .int .i64 parts] w fun e w' => e = .returned (.tuple #[.slice none 0 0, .slice none 0 0, .int .i64 r]) ∧ Chg (fun _ => False) w w' := by
  have HM := Lib.hid hmay
  clear hmay
  go_enter Try.func10, Try.ntmps10
  go_wp2_with (go_at_call 11; refine HM.out.mono ?_; rintro e w1 ⟨rfl, hw1⟩)
  go_ret3
  exact ⟨rfl, hw1⟩

theorem info4 : (Try.prog.info? 4).map (fun i => (i.zero, i.size, i.bytes)) = some (some (.bool false), 1, 1) := by kernel_rfl

theorem src_one_bool (w : World) (vb : Nat) (s : Bool) (hs : w.heap[vb]? = some (.cells #[.bool s] 4 (0, 0))) : Src Try.prog 1 23 (.slice (some ⟨vb, 0, none⟩) 1 1) 1 [.bool s] w :=
  Src.ofSlice w Try.underlying23 _ 1 1 _ (by simp) (fun j u hu => by
    have hj := (List.getElem?_eq_some_iff.1 hu).1
    obtain rfl : j = 0 := by simpa using hj
    simp at hu
    subst hu
    rw [Addr.add_lit]
    simp [World.cell?, hs]) (by simp [Value.oneCell'])

theorem made_zeros (n : Nat) : (madeCells (Value.int .i64 0).cells (n * 1)).toList = (List.replicate n (0 : Int)).map (Value.int .i64) := by
  have e : (Value.int .i64 0).cells = #[Value.int .i64 0] := rfl
  rw [e, Nat.mul_one, List.map_replicate]
  unfold madeCells
  apply List.ext_getElem
  · simp
  · intro i h1 h2
    simp [Nat.mod_one]

/-- i live workers. -/
structure LiveJ (w1 : World) (i : Nat) (v : Value) (w' : World) : Prop where
  own : w'.ownsRow w1.heap.size 4 1 v i ((List.replicate i true).map Value.bool)
  chg : Chg (fun _ => False) w1 w'
theorem LiveJ.next {w1 : World} {i : Nat} {v v' : Value} {w' w'' : World} (h : LiveJ w1 i v w') (o : Obj) (ho : w''.ownsRow w1.heap.size 4 1 v' (i + 1) ((List.replicate i true).map Value.bool ++ [.bool true])) (hc : Chg (fun k => some k = v.ownBlock) (w'.alloc o) w'') : LiveJ w1 (i + 1) v' w'' := by
  refine ⟨?_, (h.chg.alloc o).trans hc (fun k hk hlt => ?_)⟩
  · rw [List.replicate_succ', List.map_append]; exact ho
  · have := own_lt h.own k hk
    omega

theorem rep_bnd (w : Nat) : Bnd (List.replicate w 0) 1000000 := by
  intro i
  rw [List.getD_eq_getElem?_getD, List.getElem?_replicate]
  split <;> simp <;> omega

/-- What All hands back to PlaceEven. -/
def EvenOut (W : World) (wn n parts : Nat) (turn : Int) (e : Ending) (w' : World) : Prop :=
  ∃ vo g c vs, e = .returned (.tuple #[vo, .slice (some ⟨g, 0, none⟩) wn c, .int .i64 0]) ∧
    w'.ownsRow W.heap.size 3 1 (.slice (some ⟨g, 0, none⟩) wn c) wn ((allL (List.replicate wn 0) (List.replicate wn true) n (turn.tmod wn) parts).map (Value.int .i64)) ∧
    w'.ownsRow W.heap.size 22 1 vo parts vs ∧ Below W.heap.size W w'

section
variable (ab : Nat) (B : Addr) (c0 c1 wn n parts : Nat) (turn : Int) (W : World) (h0 : 1 ≤ wn) (h1 : wn ≤ 16) (hc0 : wn ≤ c0) (hc1 : wn ≤ c1) (hp : parts ≤ 1000)
  (hA : ∀ (j : Nat) v, (List.replicate wn (0 : Int))[j]? = some v → W.cell? ⟨ab, 0 + j, none⟩ = some (.int .i64 v)) (hB : ∀ (j : Nat) v, (List.replicate wn true)[j]? = some v → W.cell? (B.add j) = some (.bool v))
include h0 h1 hc0 hc1 hp hA hB

theorem even_all_ok (hn : 1 ≤ n) (hn2 : n ≤ wn) :
    Calls Try.prog 10 #[.slice (some ⟨ab, 0, none⟩) wn c0, .slice (some B) wn c1, .int .i64 n, .int .i64 turn, .int .i64 parts] W (EvenOut W wn n parts turn) := by
  have hm := PureE.may_calls ⟨ab, 0, none⟩ B c0 c1 wn n W h0 h1 hc0 hc1 (fun j v h => by rw [Addr.add_lit]; exact hA j v h) hB
  rw [if_neg (by omega), if_neg (by omega)] at hm
  have hl : (List.replicate wn true).length = wn := List.length_replicate
  have hl0 : (List.replicate wn (0 : Int)).length = wn := List.length_replicate
  have := all_any ab 0 B c0 c1 (List.replicate wn 0) (List.replicate wn true) n turn parts W hA hB (by simp) (by rw [hl]; omega) (by rw [hl]; omega) hn (by rw [hl, upto_all wn wn (Nat.le_refl _), List.length_range]; exact hn2) hp (rep_bnd wn) hm
  rw [hl, hl0] at this
  refine this.mono ?_
  rintro e w' ⟨vo, g, c, vs, rfl, h1, h2, _, h3⟩
  exact ⟨vo, g, c, vs, rfl, h1, h2, h3⟩

theorem even_all_no (r : Int) (hr : r ≠ 0) (hrn : (if (n : Int) < 1 then 1 else if (wn : Int) < n then 21 else 0) = r) :
    Calls Try.prog 10 #[.slice (some ⟨ab, 0, none⟩) wn c0, .slice (some B) wn c1, .int .i64 n, .int .i64 turn, .int .i64 parts] W fun e w' => e = .returned (.tuple #[.slice none 0 0, .slice none 0 0, .int .i64 r]) ∧ Chg (fun _ => False) W w' := by
  have hm := PureE.may_calls ⟨ab, 0, none⟩ B c0 c1 wn n W h0 h1 hc0 hc1 (fun j v h => by rw [Addr.add_lit]; exact hA j v h) hB
  rw [hrn, List.length_replicate, List.length_replicate] at hm
  exact all_err ⟨ab, 0, none⟩ B c0 c1 wn wn n turn parts r hr W hp hm
end

/-- Behind i loads: the least, the greatest, the sum. -/
structure SumJ (L : List Int) (wn : Nat) (m : Int) (i : Nat) (a b s : Int) : Prop where
  hi : i ≤ wn
  lo : a = m ∨ a = m + 1
  up : b = m ∨ b = m + 1
  sum : s = (L.take i).sum
  s0 : 0 ≤ s
  s1 : s ≤ (i : Int) * 1000001
def AtW (w6 wv : World) : Prop := ∃ q, wv = w6.drewN q
theorem SumJ.next {L : List Int} {wn : Nat} {m : Int} {i : Nat} {a b s x : Int} (h : SumJ L wn m i a b s) (hlt : i < wn) (hx : x = L.getD i 0) (hxm : x = m ∨ x = m + 1) (hb : 0 ≤ x ∧ x ≤ 1000001) : SumJ L wn m (i + 1) (if x < a then x else a) (if b < x then x else b) (s + x) := by
  obtain ⟨h1, h2, h3, h4, h5, h6⟩ := h
  refine ⟨hlt, by split <;> omega, by split <;> omega, ?_, by omega, by omega⟩
  rw [List.take_add_one, List.sum_append, ← h4, hx, List.getD_eq_getElem?_getD]
  cases L[i]? <;> simp
attribute [local go_sem] max2_int min2_int max_two min_two

set_option maxHeartbeats 2000000 in
theorem placeEven_calls (a0 : Int) (n parts : Nat) (a3 : Int) (w : World) (g0 : 0 ≤ a0 ∧ a0 ≤ 255) (g1 : n ≤ 255) (g2 : parts ≤ 255)
    (EV : ∀ (wn n parts : Nat) (t : Int), 1 ≤ wn → wn ≤ 16 → 1 ≤ n → n ≤ wn → parts ≤ 255 → ∃ m : Int, (∀ i, i < wn → (allL (List.replicate wn 0) (List.replicate wn true) n t parts).getD i 0 = m ∨ (allL (List.replicate wn 0) (List.replicate wn true) n t parts).getD i 0 = m + 1) ∧ (allL (List.replicate wn 0) (List.replicate wn true) n t parts).sum = n * parts ∧ 0 ≤ m ∧ m ≤ 1000000) :
    Calls Try.prog 5 #[.int .u8 a0, .int .u8 n, .int .u8 parts, .int .i64 a3] w fun e w' => e = .returned (.bool true) ∧ Below w.heap.size w w' := by
  obtain ⟨wn, hwn⟩ := Int.eq_ofNat_of_zero_le (show 0 ≤ 1 + a0 % 16 by omega)
  have hw16 : 1 ≤ wn ∧ wn ≤ 16 := by omega
  have HAW := Lib.hid (PureE.awake_calls w)
  have HEV := Lib.hid EV
  have HW := Lib.hid hwn
  clear EV hwn
  go_enter Try.func5, Try.ntmps5
  go_wp2_with (go_at_call 7; refine HAW.out.mono ?_; rintro e w1 ⟨rfl, hw1⟩)
  rw [HW.out]
  have HW1 := Lib.hid hw1
  clear hw1
  go_loopw [10, 11] (fun v j wr => ∃ i : Nat, i ≤ wn ∧ j = .int .i64 i ∧ LiveJ w1 i v wr) (fun _ j _ => wn - (intOf j).toNat)
  case atStart => exact ⟨0, by omega, rfl, own_nil _ _ _ _, Chg.refl _ _⟩
  case round =>
    obtain ⟨i, hi, rfl, hJ⟩ := hrel
    have HJ := Lib.hid hJ
    have hJo := hJ.own
    have hJc := hJ.chg.size
    obtain ⟨av, cv, rfl, hcv, hcv2, _⟩ := own_val hJo
    clear hJ
    by_cases hlt : i < wn
    · obtain ⟨i0, hi0, hz0, hz1, hz2⟩ := info_parts info4
      go_wp2_with (at_builtin; refine wpList_append_src rfl _ _ 23 23 rfl w1.heap.size 4 i0 _ 1 1 Try.underlying23 hi0 hz0 hz1 hz2 rfl (by decide) _ _ _ rfl (hJo.alloc _) _ 1 _ rfl (src_one_bool _ _ _ (heap_alloc_new _ _)) (by unfold maxLen; omega) (by omega) (by simp; omega) ?_; intro v9 w9 ho hch hnew)
      have hJn := HJ.out.next _ ho hch
      go_roundw
      case rel => exact ⟨i + 1, by omega, by go_num, hJn⟩
      case measure => simp [intOf]; omega
    · obtain rfl : wn = i := by omega
      obtain ⟨gb, cb, hv, hcb, hcb2, hgb⟩ := own_some hJo (by omega)
      simp only [Value.slice.injEq, true_and] at hv
      obtain ⟨rfl, rfl⟩ := hv
      obtain ⟨i0, hi0, hz0, hz1, hz2⟩ := info_parts info3
      go_wp2_with (at_make; refine wpList_make_full _ rfl _ _ 22 rfl w1.heap.size 3 i0 _ 1 Try.underlying22 hi0 hz0 hz1 .i64 .i64 _ _ wn rfl rfl rfl rfl (by rw [hz2]; omega) (by unfold maxLen; omega) (by omega) ?_; intro w5 how hgw)
      rw [made_zeros] at how
      have hgc := Chg.grown hgw
      have HG := Lib.hid hgc
      have HOW := Lib.hid how
      have hgb2 := (own_lt hJo gb rfl).2
      have hA : ∀ (j : Nat) v, (List.replicate wn (0 : Int))[j]? = some v → w5.cell? ⟨wr.heap.size, 0 + j, none⟩ = some (.int .i64 v) := fun j v hv => by
        have := how.cells (g := wr.heap.size) rfl j (.int .i64 v) (by rw [List.getElem?_map, hv]; rfl)
        rwa [Addr.add_lit] at this
      have hB : ∀ (j : Nat) v, (List.replicate wn true)[j]? = some v → w5.cell? ((⟨gb, 0, none⟩ : Addr).add j) = some (.bool v) := fun j v hv => by
        have hb := own_kept hJo hgc (fun _ _ h => by cases h)
        exact hb.cells (g := gb) rfl j (.bool v) (by rw [List.getElem?_map, hv]; rfl)
      have HA := Lib.hid hA
      have HB := Lib.hid hB
      have HC5 : Hid (Chg (fun _ => False) w w5) := Lib.hid ((HW1.out.trans HJ.out.chg (fun _ h _ => h)).trans hgc (fun _ h _ => by cases h))
      clear hgw hgc how hA hB hJo
      by_cases hn1 : (n : Int) < 1
      · have hc := even_all_no wr.heap.size ⟨gb, 0, none⟩ wn cv wn n parts a3 w5 (by omega) (by omega) (Nat.le_refl _) hcv (by omega) HA.out HB.out 1 (by decide) (if_pos hn1)
        have HCC := Lib.hid hc
        clear hc
        go_wp2_with (go_at_call 10; refine HCC.out.mono ?_; rintro e w6 ⟨rfl, hw6⟩)
        go_ret
        refine ⟨?_, (HC5.out.trans hw6 (fun _ h _ => h)).below (Nat.le_refl _) (fun _ h => h.elim)⟩
        rw [show n = 0 by omega]
        rfl
      · by_cases hn2 : (wn : Int) < n
        · have hc := even_all_no wr.heap.size ⟨gb, 0, none⟩ wn cv wn n parts a3 w5 (by omega) (by omega) (Nat.le_refl _) hcv (by omega) HA.out HB.out 21 (by decide) (by rw [if_neg hn1, if_pos hn2])
          have HCC := Lib.hid hc
          clear hc
          go_wp2_with (go_at_call 10; refine HCC.out.mono ?_; rintro e w6 ⟨rfl, hw6⟩)
          go_ret
          exact ⟨rfl, (HC5.out.trans hw6 (fun _ h _ => h)).below (Nat.le_refl _) (fun _ h => h.elim)⟩
        · have hc := even_all_ok wr.heap.size ⟨gb, 0, none⟩ wn cv wn n parts a3 w5 (by omega) (by omega) (Nat.le_refl _) hcv (by omega) HA.out HB.out (by omega) (by omega)
          have HCC := Lib.hid hc
          clear hc
          go_wp2_with (go_at_call 10; refine HCC.out.mono ?_; rintro e w6 ⟨vo, g, c, vs, rfl, hw6, hvo, hbl⟩; obtain ⟨ao, co, rfl, _, _, _⟩ := own_val hvo)
          obtain ⟨L, hL⟩ : ∃ L, L = allL (List.replicate wn 0) (List.replicate wn true) n (a3.tmod wn) parts := ⟨_, rfl⟩
          rw [← hL] at hw6
          have hLl : L.length = wn := by rw [hL, allL_length, List.length_replicate]
          obtain ⟨m, hm, hsum, hm0⟩ : ∃ m : Int, (∀ i, i < wn → L.getD i 0 = m ∨ L.getD i 0 = m + 1) ∧ L.sum = n * parts ∧ 0 ≤ m ∧ m ≤ 1000000 := by
            rw [hL]; exact HEV.out wn n parts _ (by omega) (by omega) (by omega) (by omega) g2
          have HM := Lib.hid hm
          have HSU := Lib.hid hsum
          have HLE := Lib.hid hL
          have HL6 := Lib.hid hw6
          have HBL := Lib.hid hbl
          have hcell : ∀ i, i < wn → w6.cell? ⟨g, i, none⟩ = some (.int .i64 (L.getD i 0)) := fun i hi => by
            have := hw6.cells (g := g) rfl i (.int .i64 (L.getD i 0)) (by rw [List.getElem?_map, List.getD_eq_getElem?_getD, List.getElem?_eq_getElem (by omega)]; rfl)
            rwa [Addr.add_lit, Nat.zero_add] at this
          have HCE := Lib.hid hcell
          obtain ⟨x0, hx0⟩ : ∃ x0, x0 = L.getD 0 0 := ⟨_, rfl⟩
          have hc0 := hcell 0 (by omega)
          have hx0m := hm 0 (by omega)
          rw [← hx0] at hc0 hx0m
          have hx0b : 0 ≤ x0 ∧ x0 ≤ 1000001 := by omega
          clear hm hsum hL hw6 hvo hbl hcell hx0
          go_wp2
          go_region
          go_wp2
          go_loopw [15, 16, 17, 18] (fun lo hi su j wv => ∃ (i : Nat) (a b s : Int), lo = .int .i64 a ∧ hi = .int .i64 b ∧ su = .int .i64 s ∧ j = .int .i64 i ∧ SumJ L wn m i a b s ∧ AtW w6 wv) (fun _ _ _ j _ => wn - (intOf j).toNat)
          case atStart => exact ⟨0, x0, x0, 0, rfl, rfl, rfl, rfl, ⟨by omega, hx0m, hx0m, by simp, by omega, by omega⟩, ⟨1, rfl⟩⟩
          case round =>
            obtain ⟨i, a, b, s, rfl, rfl, rfl, rfl, hS, ⟨q, rfl⟩⟩ := hrel
            have HS := Lib.hid hS
            obtain ⟨h1, h2, h3, h4, h5, h6⟩ := hS
            by_cases hlt : i < wn
            · obtain ⟨x, hx⟩ : ∃ x, x = L.getD i 0 := ⟨_, rfl⟩
              have hcx : (w6.drewN q).cell? ⟨g, i, none⟩ = some (.int .i64 x) := by rw [hx]; exact HCE.out i hlt
              have hxm := HM.out i hlt
              rw [← hx] at hxm
              have hN := HS.out.next hlt hx hxm (by omega)
              have HN := Lib.hid hN
              have hi16 : (i : Int) * 1000001 ≤ 16 * 1000001 := by omega
              clear hN hx h2 h3 h4
              go_wp2
              go_roundw
              case rel => exact ⟨i + 1, _, _, _, rfl, rfl, rfl, by go_num, HN.out, ⟨q, rfl⟩⟩
              case measure => simp [intOf]; omega
            · obtain rfl : wn = i := by omega
              go_wp2
              go_ret
              have hnp : n * parts ≤ 255 * 255 := Nat.mul_le_mul g1 g2
              have hfin : ((List.take wn L).sum == wrap64 ((n : Int) * (parts : Int))) = true := by
                rw [List.take_of_length_le (Nat.le_of_eq hLl), HSU.out, beq_iff_eq]
                have e : ((n : Int) * (parts : Int)) = ((n * parts : Nat) : Int) := by simp
                rw [e]; unfold wrap64; omega
              exact ⟨congrArg (fun b => Ending.returned (.bool b)) hfin, ((HC5.out.trans (chg_below HBL.out) (fun _ h _ => h)).drewN q).below (Nat.le_refl _) (fun _ h => h.elim)⟩
end Go.Proofs.Ytboccnbncipnpaa
