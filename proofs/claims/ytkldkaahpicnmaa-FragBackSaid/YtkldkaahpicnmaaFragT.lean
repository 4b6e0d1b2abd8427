/- An id, read from a tape. -/
import Derived.Test.YtkldkaahpicnmaaFragS
import Derived.StillTailTactics
namespace Go.Proofs.Ytkldkaahpicnmaa
open Go.RowKit

theorem infoI : (Try.prog.info? 3).map (fun i => (i.zero, i.size, i.bytes)) = some (some (.int .i64 0), 1, 8) := by kernel_rfl
theorem srcInt (w : World) (vb : Nat) (s : Int) (hs : w.heap[vb]? = some (.cells #[.int .i64 s] 3 (0, 0))) : Src Try.prog 1 39 (.slice (some ⟨vb, 0, none⟩) 1 1) 1 [.int .i64 s] w :=
  Src.ofSlice w Try.underlying39 _ 1 1 _ (by simp) (fun j u hu => by
    have hj := (List.getElem?_eq_some_iff.1 hu).1
    obtain rfl : j = 0 := by simpa using hj
    simp at hu
    subst hu
    rw [Addr.add_lit]
    simp [World.cell?, hs]) (by simp [Value.oneCell'])

/-- The bytes of numbers, one behind the other. -/
def numsL (l : List Nat) : List UInt8 := l.flatMap numL
theorem numsL_cons (n : Nat) (r : List Nat) : numsL (n :: r) = numL n ++ numsL r := rfl

theorem four_cells {w : World} {g : Nat} {v0 v1 v2 v3 : Value} {t : TypeId} {fz : Nat × Nat} (h : w.heap[g]? = some (.cells #[v0, v1, v2, v3] t fz)) :
    w.cell? ⟨g, 0, none⟩ = some v0 ∧ w.cell? ⟨g, 1, none⟩ = some v1 ∧ w.cell? ⟨g, 2, none⟩ = some v2 ∧ w.cell? ⟨g, 3, none⟩ = some v3 := by
  simp [World.cell?, h]
theorem four_free {w : World} {g : Nat} {v0 v1 v2 v3 : Value} {t : TypeId} (h : w.heap[g]? = some (.cells #[v0, v1, v2, v3] t (0, 0))) :
    w.frozen? ⟨g, 0, none⟩ = false ∧ w.frozen? ⟨g, 1, none⟩ = false ∧ w.frozen? ⟨g, 2, none⟩ = false ∧ w.frozen? ⟨g, 3, none⟩ = false := by
  simp [World.frozen?, h]
theorem res_four {W : World} {r : Nat} {a0 b0 c0 d0 : Value} {t : TypeId} (a b c d : Value) (h : W.heap[r]? = some (.cells #[a0, b0, c0, d0] t (0, 0))) :
    ((((W.setCell ⟨r, 0, none⟩ a).setCell ⟨r, 1, none⟩ b).setCell ⟨r, 2, none⟩ c).setCell ⟨r, 3, none⟩ d).heap[r]? = some (.cells #[a, b, c, d] t (0, 0)) ∧ Chg (fun i => i = r) W ((((W.setCell ⟨r, 0, none⟩ a).setCell ⟨r, 1, none⟩ b).setCell ⟨r, 2, none⟩ c).setCell ⟨r, 3, none⟩ d) := by
  refine ⟨?_, ((((Chg.refl (fun i => i = r) W).setCell (p := ⟨r, 0, none⟩) (.inl rfl) a).setCell (p := ⟨r, 1, none⟩) (.inl rfl) b).setCell (p := ⟨r, 2, none⟩) (.inl rfl) c).setCell (p := ⟨r, 3, none⟩) (.inl rfl) d⟩
  simp [World.setCell, Array.getElem?_modify, h]

structure IdedJ (w : World) (t : Nat) (s : ByteArray) (rest : List UInt8) (ns : List Nat) (k : Nat) (v : Value) (wr : World) : Prop where
  tape : ∃ p, TapeAt wr t s p ∧ p ≤ s.size ∧ s.data.toList.drop p = numsL (ns.drop k) ++ rest
  row : wr.ownsRow (w.heap.size + 1) 3 1 v k ((ns.take k).map fun (n : Nat) => Value.int .i64 (n : Int))
  res : wr.heap[w.heap.size]? = some (.cells #[.int .i64 0, .int .i64 0, .int .i64 0, .int .i64 0] 26 (0, 0))
  chg : Chg (fun i => i = t) w wr

set_option maxHeartbeats 4000000 in
set_option maxRecDepth 100000 in
theorem ided_any (t : Nat) (s : ByteArray) (p : Nat) (a b c d : Nat) (rest : List UInt8) (w : World) (h : TapeAt w t s p) (hp : p ≤ s.size) (hs : s.size ≤ 2000000) (hd : s.data.toList.drop p = numsL [a, b, c, d] ++ rest)
    (ha : a ≤ 9007199254740991) (hb : b ≤ 9007199254740991) (hc : c ≤ 9007199254740991) (hdd : d ≤ 9007199254740991) :
    Calls Try.prog 22 #[.pointer (some ⟨t, 0, none⟩)] w fun e w' => e = .returned (.tuple #[.agg #[.int .i64 a, .int .i64 b, .int .i64 c, .int .i64 d], .int .i64 0]) ∧ (∃ q, TapeAt w' t s q ∧ q ≤ s.size ∧ s.data.toList.drop q = rest) ∧ Chg (fun i => i = t) w w' := by
  obtain ⟨i0, hiz, hz0, hz1, hz2⟩ := info_parts infoI
  obtain ⟨ns, hns⟩ : ∃ ns, ns = [a, b, c, d] := ⟨_, rfl⟩
  have hall : ∀ n ∈ ns, n ≤ 9007199254740991 := by
    rw [hns]
    intro n hn
    simp at hn
    omega
  have hlen : ns.length = 4 := by rw [hns]; rfl
  rw [← hns] at hd
  have ht := h.lt
  have h0 : IdedJ w t s rest ns 0 (.slice none 0 0) (w.alloc (.cells #[.int .i64 0, .int .i64 0, .int .i64 0, .int .i64 0] 26)) :=
    ⟨⟨p, h.below ((Below.refl _ w).alloc (Nat.le_refl _) _), hp, hd⟩, World.ownsRow_nil _ _ _ _, heap_alloc_new w _, (Chg.refl _ w).alloc _⟩
  have HNS := Lib.hid hns
  have HALL := Lib.hid hall
  clear hns hall h hd
  go_enter Try.func22, Try.ntmps22
  go_wp2_with fail
  go_loopw [4, 7] (fun v i wr => ∃ k : Nat, k ≤ 4 ∧ i = .int .i64 k ∧ IdedJ w t s rest ns k v wr) (fun _ i _ => 4 - (intOf i).toNat)
  case atStart => exact ⟨0, by omega, rfl, h0⟩
  case round =>
    clear h0
    obtain ⟨k, hk, rfl, hJ⟩ := hrel
    by_cases hlt : k < 4
    · obtain ⟨n, hn⟩ : ∃ n, ns[k]? = some n := ⟨_, List.getElem?_eq_getElem (by omega)⟩
      obtain ⟨q, hq1, hq2, hq3⟩ := hJ.tape
      have hdr : ns.drop k = n :: ns.drop (k + 1) := by
        obtain ⟨h1, h2⟩ := List.getElem?_eq_some_iff.1 hn
        rw [List.drop_eq_getElem_cons h1, h2]
      rw [hdr, numsL_cons, List.append_assoc] at hq3
      have hnm := tnum_any t s q n _ wr hq1 hq2 hs hq3 (HALL.out n (List.mem_of_getElem? hn))
      have hql := drop_len hq3 hq2
      have HJ := Lib.hid hJ
      have HN := Lib.hid hn
      have HQ := Lib.hid hq3
      clear hJ hn hq3 hdr hq1
      go_wp2_with fail
      refine hnm.mono ?_
      rintro e w1 ⟨rfl, htp, hc1⟩
      have hrow := own_kept HJ.out.row hc1 (fun g hg => by have := (own_lt HJ.out.row g hg.symm).1; omega)
      obtain ⟨va, vc, rfl, hvc, hvm, _⟩ := own_val HJ.out.row
      unfold maxLen at hvm
      have hw1 := Nat.le_trans HJ.out.chg.size hc1.size
      have hrl := (Array.getElem?_eq_some_iff.1 HJ.out.res).1
      have HR := Lib.hid hrow
      have HT := Lib.hid htp
      have HC1 := Lib.hid hc1
      clear hrow htp hc1
      go_wp2_with (at_builtin; refine wpList_append_src rfl _ _ 39 39 rfl (w.heap.size + 1) 3 i0 _ 1 8 Try.underlying39 hiz hz0 hz1 hz2 rfl (by decide) (.slice va _ vc) _ _ rfl (HR.out.alloc _) _ 1 [.int .i64 (n : Int)] rfl (srcInt _ w1.heap.size _ (heap_alloc_new w1 _)) (by unfold maxLen; omega) (by omega) (by have := HC1.out.size; simp; omega) ?_; intro v5 W5 ho5 hch5 hnew5)
      have hbase := fun g hg => (own_lt HR.out g hg).1
      have hc2 : Chg (fun i => w.heap.size + 1 ≤ i) w1 W5 := ((Chg.refl _ w1).alloc _).trans hch5 (fun i hi _ => hbase i hi)
      have hnew : IdedJ w t s rest ns (k + 1) v5 W5 := by
        refine ⟨⟨q + (numL n).length, ?_, by omega, ?_⟩, ?_, ?_, ?_⟩
        · exact (hc2.block t (by have := HT.out.lt; exact this) (by omega)).trans HT.out
        · rw [← List.drop_drop, HQ.out, List.drop_left]
        · rw [List.take_add_one, HN.out, List.map_append]
          exact ho5
        · exact (hc2.block _ (Nat.lt_of_lt_of_le hrl HC1.out.size) (by omega)).trans ((HC1.out.block _ hrl (by omega)).trans HJ.out.res)
        · exact ((HJ.out.chg.trans HC1.out (fun _ x _ => x)).trans (hc2.mono (T := fun i => i = t ∨ w.heap.size + 1 ≤ i) (fun i hi => .inr hi)) (fun i hi hlt => by omega))
      go_roundw
      case rel => exact ⟨k + 1, by omega, by go_num, hnew⟩
      case measure => simp [intOf]; omega
    · obtain rfl : k = 4 := by omega
      have HT := Lib.hid hJ.tape
      have hrow := hJ.row
      rw [List.take_of_length_le (by omega), HNS.out] at hrow
      obtain ⟨g, cc, rfl, hc0, hc1, hc2, hc3, hgl, hgb, h4c⟩ : ∃ g cc, u4 = .slice (some ⟨g, 0, none⟩) 4 cc ∧ wr.cell? ⟨g, 0, none⟩ = some (.int .i64 (a : Int)) ∧ wr.cell? ⟨g, 1, none⟩ = some (.int .i64 (b : Int)) ∧ wr.cell? ⟨g, 2, none⟩ = some (.int .i64 (c : Int)) ∧ wr.cell? ⟨g, 3, none⟩ = some (.int .i64 (d : Int)) ∧ g < wr.heap.size ∧ w.heap.size + 1 ≤ g ∧ 4 ≤ cc := by
        rcases hrow.2 with ⟨_, h0⟩ | ⟨g, cc, cur, rfl, hB, hg, hnc, hcm, hcs, htake⟩
        · omega
        · have hcl : ∀ (j : Nat) u, ([a, b, c, d].map fun (n : Nat) => Value.int .i64 (n : Int))[j]? = some u → wr.cell? ⟨g, j, none⟩ = some u := fun j u hu => by
            have := hrow.cells (g := g) rfl j u hu
            rwa [Addr.add_lit, Nat.zero_add] at this
          exact ⟨g, cc, rfl, hcl 0 _ rfl, hcl 1 _ rfl, hcl 2 _ rfl, hcl 3 _ rfl, (Array.getElem?_eq_some_iff.1 hg).1, hB, hnc⟩
      have hres := hJ.res
      have HC := Lib.hid hJ.chg
      obtain ⟨r0, r1, r2, r3⟩ := four_cells hres
      obtain ⟨f0, f1, f2, f3⟩ := four_free hres
      clear hJ hrow
      obtain ⟨h9, hc9⟩ := res_four (.int .i64 (a : Int)) (.int .i64 (b : Int)) (.int .i64 (c : Int)) (.int .i64 (d : Int)) hres
      obtain ⟨s0, s1, s2, s3⟩ := four_cells h9
      have HC9 := Lib.hid hc9
      clear hres h9 hc9
      go_wp2_with fail
      go_still_tail 13, (by kernel_rfl)
      go_wp2_with fail
      obtain ⟨q, hq1, hq2, hq3⟩ := HT.out
      have e0 : ns.drop 4 = [] := List.drop_of_length_le (by omega)
      rw [e0] at hq3
      have hq4 : s.data.toList.drop q = rest := hq3
      have hq1l := hq1.lt
      exact bodyPost_ret (v := .tuple #[.agg #[.int .i64 (a : Int), .int .i64 (b : Int), .int .i64 (c : Int), .int .i64 (d : Int)], .int .i64 0]) (by simp [results, Try.results22, go_sem, s0, s1, s2, s3]) rfl
        ⟨rfl, ⟨q, (HC9.out.block t hq1l (by omega)).trans hq1, hq2, hq4⟩, HC.out.trans HC9.out.drew (fun i hi hlt => by omega)⟩
end Go.Proofs.Ytkldkaahpicnmaa
