/- The plain law of PlaceEven: the loads stay within one of each other; each part adds n. -/
import Derived.Test.YtboccnbncipnpaaPlaceF
import Derived.OpenShut
namespace Go.Proofs.Ytboccnbncipnpaa

theorem sum_bump : ∀ (L : List Int) (s : Nat), s < L.length → (bump L s).sum = L.sum + 1
  | [], s, h => by simp at h
  | x :: L, 0, _ => by simp [bump]; omega
  | x :: L, s + 1, h => by
    have := sum_bump L s (by simpa using h)
    unfold bump at this ⊢
    simp only [List.set_cons_succ, List.sum_cons, List.getD_cons_succ]
    omega

theorem sum_bumpAll : ∀ (S : List Nat) (L : List Int), (∀ s ∈ S, s < L.length) → (bumpAll L S).sum = L.sum + S.length
  | [], L, _ => by simp [bumpAll]
  | s :: S, L, h => by
    have h1 := sum_bump L s (h s (by simp))
    have h2 := sum_bumpAll S (bump L s) (fun x hx => by rw [bump_length]; exact h x (by simp [hx]))
    rw [bumpAll, List.foldl_cons]
    rw [bumpAll] at h2
    rw [h2, h1, List.length_cons]
    omega

theorem bump_get (L : List Int) (s i : Nat) (hs : s < L.length) : (bump L s).getD i 0 = L.getD i 0 + if i = s then 1 else 0 := by
  unfold bump
  rw [List.getD_eq_getElem?_getD, List.getElem?_set]
  by_cases h : s = i
  · subst h
    rw [if_pos rfl, if_pos hs, if_pos rfl]; rfl
  · rw [if_neg h, if_neg (fun e => h e.symm), ← List.getD_eq_getElem?_getD]; omega

theorem bumpAll_get : ∀ (S : List Nat) (L : List Int) (i : Nat), (∀ s ∈ S, s < L.length) → S.Nodup → (bumpAll L S).getD i 0 = L.getD i 0 + if i ∈ S then 1 else 0
  | [], L, i, _, _ => by simp [bumpAll]
  | s :: S, L, i, h, hn => by
    have hn2 := List.nodup_cons.1 hn
    have h1 := bump_get L s i (h s (by simp))
    have h2 := bumpAll_get S (bump L s) i (fun x hx => by rw [bump_length]; exact h x (by simp [hx])) hn2.2
    rw [bumpAll, List.foldl_cons]
    rw [bumpAll] at h2
    rw [h2, h1]
    by_cases e : i = s
    · subst e
      rw [if_pos rfl, if_neg hn2.1, if_pos (by simp)]; omega
    · rw [if_neg e]
      by_cases e2 : i ∈ S
      · rw [if_pos e2, if_pos (by simp [e2])]; omega
      · rw [if_neg e2, if_neg (by simp [e, e2])]; omega

theorem even_step (L : List Int) (wn n : Nat) (t : Int) (m : Int) (hn2 : n ≤ wn) (hl : L.length = wn) (hm : ∀ i, i < wn → L.getD i 0 = m ∨ L.getD i 0 = m + 1) (p : Nat) :
    (bumpAll L (pickP L (List.replicate wn true) n t p)).sum = L.sum + n ∧ ∃ m', (m' = m ∨ m' = m + 1) ∧ ∀ i, i < wn → (bumpAll L (pickP L (List.replicate wn true) n t p)).getD i 0 = m' ∨ (bumpAll L (pickP L (List.replicate wn true) n t p)).getD i 0 = m' + 1 := by
  have hlr : (List.replicate wn true).length = wn := List.length_replicate
  obtain ⟨S, hS⟩ : ∃ S, S = sortedW L (List.replicate wn true) (t + p) := ⟨_, rfl⟩
  have hp : S.Perm (List.range wn) := by
    have := sortedW_perm L (List.replicate wn true) (t + p)
    rw [hlr, upto_all wn wn (Nat.le_refl _)] at this
    rw [hS]; exact this
  have hs := sortedW_sorted L (List.replicate wn true) (t + p)
  rw [← hS] at hs
  have hT : pickP L (List.replicate wn true) n t p = S.take n := by rw [pickP, hS]
  rw [hT]
  have hmem : ∀ s ∈ S, s < wn := fun s h => List.mem_range.1 (hp.mem_iff.1 h)
  have hnd : S.Nodup := hp.nodup_iff.2 List.nodup_range
  have hSl : S.length = wn := by rw [hp.length_eq, List.length_range]
  have hTm : ∀ s ∈ S.take n, s < L.length := fun s h => by rw [hl]; exact hmem s (List.mem_of_mem_take h)
  have hTn : (S.take n).Nodup := hnd.sublist (List.take_sublist n S)
  refine ⟨by rw [sum_bumpAll _ _ hTm, List.length_take, hSl, Nat.min_eq_left hn2], ?_⟩
  rw [← List.take_append_drop n S, List.pairwise_append] at hs
  by_cases hA : ∃ a ∈ S.take n, L.getD a 0 = m + 1
  · obtain ⟨a, ha, hav⟩ := hA
    refine ⟨m + 1, .inr rfl, fun i hi => ?_⟩
    rw [bumpAll_get _ _ _ hTm hTn]
    have hv := hm i hi
    by_cases hiT : i ∈ S.take n
    · rw [if_pos hiT]; omega
    · rw [if_neg hiT]
      have hiS : i ∈ S := hp.mem_iff.2 (List.mem_range.2 hi)
      rw [← List.take_append_drop n S, List.mem_append] at hiS
      have h3 := hs.2.2 a ha i (hiS.resolve_left hiT)
      unfold Ahead at h3
      omega
  · refine ⟨m, .inl rfl, fun i hi => ?_⟩
    rw [bumpAll_get _ _ _ hTm hTn]
    have hv := hm i hi
    by_cases hiT : i ∈ S.take n
    · rw [if_pos hiT]
      have : ¬ L.getD i 0 = m + 1 := fun e => hA ⟨i, hiT, e⟩
      omega
    · rw [if_neg hiT]; omega

theorem even_all (wn n : Nat) (t : Int) (hn2 : n ≤ wn) : ∀ p : Nat, (allL (List.replicate wn 0) (List.replicate wn true) n t p).sum = (n : Int) * p ∧ ∃ m : Int, 0 ≤ m ∧ m ≤ p ∧ ∀ i, i < wn → (allL (List.replicate wn 0) (List.replicate wn true) n t p).getD i 0 = m ∨ (allL (List.replicate wn 0) (List.replicate wn true) n t p).getD i 0 = m + 1
  | 0 => by
    refine ⟨?_, 0, by omega, by omega, fun i hi => .inl ?_⟩
    · rw [allL]; simp
    · rw [allL, List.getD_eq_getElem?_getD, List.getElem?_replicate, if_pos hi]; rfl
  | p + 1 => by
    obtain ⟨h1, m, h2, h3, h4⟩ := even_all wn n t hn2 p
    have hl : (allL (List.replicate wn 0) (List.replicate wn true) n t p).length = wn := by rw [allL_length, List.length_replicate]
    obtain ⟨h5, m', h6, h7⟩ := even_step _ wn n t m hn2 hl h4 p
    refine ⟨?_, m', by omega, by omega, ?_⟩
    · rw [allL, h5, h1, Int.natCast_add, Int.mul_add]; simp
    · rw [allL]; exact h7

theorem placeEven_walk {a0 a1 a2 a3 : Int} {w : World} (w0 : (Lit.int .u8 a0).wf = true) (w1 : (Lit.int .u8 a1).wf = true) (w2 : (Lit.int .u8 a2).wf = true) (_ : (Lit.int .i64 a3).wf = true) :
    Calls Try.prog 5 #[.int .u8 a0, .int .u8 a1, .int .u8 a2, .int .i64 a3] w fun e w' => e = .returned (.bool true) ∧ Go.RowKit.Below w.heap.size w w' := by
  have g0 := Go.bounds_u8 w0
  have g1 := Go.bounds_u8 w1
  have g2 := Go.bounds_u8 w2
  obtain ⟨n, rfl⟩ := Int.eq_ofNat_of_zero_le g1.1
  obtain ⟨p, rfl⟩ := Int.eq_ofNat_of_zero_le g2.1
  refine placeEven_calls a0 n p a3 w g0 (by omega) (by omega) (fun wn n parts t h1 h2 h3 h4 h5 => ?_)
  obtain ⟨e1, m, e2, e3, e4⟩ := even_all wn n t h4 parts
  exact ⟨m, e4, e1, e2, by omega⟩
end Go.Proofs.Ytboccnbncipnpaa
