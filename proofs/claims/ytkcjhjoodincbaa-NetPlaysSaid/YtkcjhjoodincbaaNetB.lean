/- slices.Delete of one element and slices.Clone, at []string, over rows that the call owns. -/
import Derived.Test.YtkcjhjoodincbaaNetA
namespace Go.Proofs.Ytkcjhjoodincbaa
open Go.RowKit

theorem Try.info9 : (Try.prog.info? 9).map (fun i => (i.zero, i.size, i.bytes)) = some (some (.string ByteArray.empty), 1, 16) := by kernel_rfl
theorem Try.zero9 (w : World) : (zeroValue 9).run Try.prog w = .ok (.string ByteArray.empty) w := by kernel_rfl

/-- The slice of m elements has the row and the capacity that the one of n elements has. -/
def CapKept (v v' : Value) (n m : Nat) : Prop := ∀ a c, v = .slice a n c → v' = .slice a m c

set_option maxHeartbeats 1000000 in
theorem delete_any (w : World) (B : Nat) (v : Value) (n : Nat) (xs : List Value) (h1c : ∀ u ∈ xs, u.oneCell' = true) (hown : w.ownsRow B 9 1 v n xs) (i j : Nat) (hi : i < j) (hj : j ≤ n) :
    Calls Try.prog 26 #[v, .int .i64 i, .int .i64 j] w fun e w' => ∃ v', e = .returned v' ∧ w'.ownsRow B 9 1 v' (n - (j - i)) (xs.take i ++ xs.drop j) ∧ v'.ownBlock = v.ownBlock ∧ Chg (fun k => some k = v.ownBlock) w w' ∧ CapKept v v' n (n - (j - i)) := by
  obtain ⟨hlen, hown⟩ := hown
  rcases hown with ⟨rfl, rfl⟩ | ⟨g, cap, cur, rfl, hB, hg, hnc, hcm, hsz, htake⟩
  · omega
  obtain ⟨i0, hi0, hz0, hz1, hz2⟩ := info_parts Try.info9
  unfold maxLen at hcm
  simp only [Nat.mul_one] at hlen hsz htake
  have hxs : ∀ j, j < n → xs[j]? = cur.toList[j]? := by intro j hj; rw [← htake, List.getElem?_take, if_pos hj]
  -- the cells that are moved to the left
  obtain ⟨news, hnews⟩ : ∃ news, news = xs.drop j := ⟨_, rfl⟩
  have hnl : news.length = n - j := by rw [hnews]; simp [hlen]
  obtain ⟨A, hA, hsrc⟩ : ∃ A : Addr, (if cap = j then some (⟨g, 0, none⟩ : Addr) else some ⟨g, j, none⟩) = some A ∧ Hid (∀ t u, news[t]? = some u → w.drew.cell? (A.add t) = some u) := by
    by_cases h : cap = j
    · refine ⟨⟨g, 0, none⟩, by simp [h], fun t u hu => ?_⟩
      have h0 : news.length = 0 := by omega
      rw [List.length_eq_zero_iff.1 h0] at hu
      simp at hu
    · refine ⟨⟨g, j, none⟩, by simp [h], fun t u hu => ?_⟩
      have ht : t < n - j := by
        have := (List.getElem?_eq_some_iff.1 hu).1
        omega
      rw [hnews, List.getElem?_drop, hxs _ (by omega)] at hu
      rw [Addr.add_lit]
      show w.cell? _ = _
      simpa [World.cell?, hg] using hu
  have s1 : Hid (news.length = (n - j) * 1) := by rw [Nat.mul_one]; exact hnl
  have s2 : Hid (∀ u ∈ news, u.oneCell' = true) := by
    intro u hu
    rw [hnews] at hu
    exact h1c u (List.mem_of_mem_drop hu)
  have s3 : Hid (∀ t, t < news.length → (w.drew.cell? ⟨g, 0 + i * 1 + t, none⟩).isSome = true ∧ w.drew.frozen? ⟨g, 0 + i * 1 + t, none⟩ = false) := by
    intro t ht
    refine ⟨?_, ?_⟩
    · show (w.cell? _).isSome = true
      simp [World.cell?, hg]; omega
    · show w.frozen? _ = false
      simp [World.frozen?, hg]
  obtain ⟨W1, hW1⟩ : ∃ W1, W1 = w.drew.setCells g (0 + i * 1) news := ⟨_, rfl⟩
  have hg1 : W1.heap[g]? = some (.cells (cur.toList.take i ++ news ++ cur.toList.drop (i + news.length)).toArray 9 (0, 0)) := by
    rw [hW1, Nat.zero_add, Nat.mul_one]
    exact heap_setCells news i w.drew cur hg (by omega)
  have hc1 : Chg (fun k => k = g) w W1 := by
    rw [hW1]; exact ((Chg.refl _ w).drew).trans (chg_setCells news _ w.drew) (fun _ h _ => h)
  have hcl : ∀ ty, (Builtin.clear_ #[27] ty #[.slice (some ⟨g, i + (n - j), none⟩) (n - (i + (n - j))) (cap - (i + (n - j)))]).run Try.prog W1 = .ok (.tuple #[]) (W1.setCells g (i + (n - j)) (List.replicate (n - (i + (n - j))) (.string ByteArray.empty))) :=
    fun ty => Lib.run_clear_slice W1 _ _ ty _ Try.underlying27 Try.zero9 rfl rfl g (i + (n - j)) _ _ (by omega) (fun t ht => by simp [World.cell?, hg1]; omega) (fun t ht => by simp [World.frozen?, hg1])
  have hcs : (cur.toList.take i ++ news ++ cur.toList.drop (i + news.length)).toArray.size = cap := by simp; omega
  have hfin : (W1.setCells g (i + (n - j)) (List.replicate (n - (i + (n - j))) (.string ByteArray.empty))).ownsRow B 9 1 (.slice (some ⟨g, 0, none⟩) (i + (n - j)) cap) (n - (j - i)) (xs.take i ++ xs.drop j) := by
    have hg2 := heap_setCells (List.replicate (n - (i + (n - j))) (.string ByteArray.empty)) (i + (n - j)) W1 _ hg1 (by rw [hcs]; simp; omega)
    refine ⟨by simp; omega, .inr ⟨g, cap, _, by rw [show i + (n - j) = n - (j - i) by omega], hB, hg2, by omega, by unfold maxLen; omega, ?_, ?_⟩⟩
    · simp; omega
    · have e1 : (cur.toList.take i ++ news ++ cur.toList.drop (i + news.length)).take (i + (n - j)) = cur.toList.take i ++ news := by
        rw [List.take_left']
        simp; omega
      have e2 : xs.take i = cur.toList.take i := by rw [← htake, List.take_take, Nat.min_eq_left (by omega)]
      rw [List.toList_toArray, List.toList_toArray, e1, List.append_assoc, Nat.mul_one, List.take_left' (by simp; omega), e2, hnews]
  have hfc : Chg (fun k => k = g) w (W1.setCells g (i + (n - j)) (List.replicate (n - (i + (n - j))) (.string ByteArray.empty))) := hc1.trans (chg_setCells _ _ _) (fun _ h _ => h)
  have hW : Hid (W1 = w.drew.setCells g (0 + i * 1) news) := hW1
  have hic : i ≤ cap := by omega
  have hjc : j ≤ cap := by omega
  have HF := Lib.hid hfin
  have HC := Lib.hid hfc
  clear hW1 hg1 hc1 hnews hnl hxs hsz htake hlen hg hfin hfc hcs
  go_enter Try.func26, Try.ntmps26
  go_wp2_with fail
  go_region_law (refine step_append_room rfl (.tmp 22) (.tmp 25) 27 rfl 9 i0 1 Try.underlying27 hi0 hz1 g 0 i cap (by simp [Act.eval, Act.put]) A (n - j) (cap - j) news (by simp [Act.eval, Act.put]) s1.out hsrc.out s2.out (by omega) s3.out ?_; rw [← hW.out])
  go_wp2
  go_ret
  exact ⟨_, rfl, HF.out, rfl, HC.out.mono (fun k hk => by simp [Value.ownBlock, hk]), fun a c h => by
    simp only [Value.slice.injEq, true_and] at h
    obtain ⟨rfl, rfl⟩ := h
    rw [show i + (n - j) = n - (j - i) by omega]; rfl⟩

end Go.Proofs.Ytkcjhjoodincbaa
