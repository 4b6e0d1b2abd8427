/- The pure side of PlaceUnlike. -/
import Derived.Test.YtboccnbncipnpaaPPlaceUnlikex2
import Derived.Test.YtboccnbncipnpaaPlaceD
namespace Go.Proofs.Ytboccnbncipnpaa.PureU
open Go.RowKit Go.Proofs.Ytboccnbncipnpaa.PPlaceUnlike Go.Proofs.YtboccnbncipnpaaW.PrintWords Go.Proofs.YtboccnbncipnpaaW.PrintLast

theorem w64 (x : Int) (h : -9223372036854775808 ≤ x) (h2 : x < 9223372036854775808) : wrap64 x = x := by unfold wrap64; omega

theorem live_l0 (l : List Bool) (hl : l.length ≤ 1000) : ∀ m k i : Nat, l.length = i + m → m < k → place_Live.l0 k ((upto l i).length : Int) l (l.length : Int) (i : Int) = some ((upto l l.length).length : Int) := by
  intro m
  induction m with
  | zero =>
    intro k i hi hk
    obtain ⟨k, rfl⟩ : ∃ j, k = j + 1 := ⟨k - 1, by omega⟩
    obtain rfl : i = l.length := by omega
    rw [place_Live.l0, if_neg (by omega)]
  | succ m ih =>
    intro k i hi hk
    obtain ⟨k, rfl⟩ : ∃ j, k = j + 1 := ⟨k - 1, by omega⟩
    have hb : l[i]? = some (l[i]'(by omega)) := List.getElem?_eq_getElem (by omega)
    have hu := upto_succ l i _ hb
    have hul := upto_length l i
    have hr : rdOf false l (i : Int) = l[i]'(by omega) := by simp [rdOf, List.getD_eq_getElem?_getD, hb]
    have hn := ih k (i + 1) (by omega) (by omega)
    rw [place_Live.l0, if_pos (by omega), if_pos (by omega), if_pos (by omega), hr]
    rw [w64 ((i : Int) + 1) (by omega) (by omega), w64 (((upto l i).length : Int) + 1) (by omega) (by omega)]
    cases hv : l[i]'(by omega) with
    | true =>
      rw [hv, if_pos rfl] at hu
      rw [if_pos rfl]
      rw [hu] at hn
      simpa using hn
    | false =>
      rw [hv, if_neg (by decide), List.append_nil] at hu
      rw [if_neg (by decide)]
      rw [hu] at hn
      simpa using hn

theorem live_f (l : List Bool) (hl : l.length ≤ 1000) (k : Nat) (hk : l.length < k) : place_Live.f k l = some ((upto l l.length).length : Int) := live_l0 l hl l.length k 0 (by omega) hk

theorem Choose_ok (k : Nat) (loads : List Int) (live : List Bool) (n turn : Int) (hk : live.length + 1 < k) (h0 : 0 < live.length) (h1 : live.length ≤ 16) (h2 : loads.length = live.length) (h3 : 1 ≤ n) (h4 : n ≤ ((upto live live.length).length : Int)) :
    place_Choose.f k loads live n turn = some (((sortedW loads live turn).take n.toNat).map fun (i : Nat) => (i : Int) + 1, 0) := by
  have hm : place_may.f k loads live n = some 0 := by
    obtain ⟨k, rfl⟩ : ∃ j, k = j + 1 := ⟨k - 1, by omega⟩
    rw [place_may.f, if_neg (by omega), if_neg (by omega), if_pos (by omega), decide_eq_false (by omega), place_may.j0, if_neg (by decide), live_f live (by omega) k (by omega), Option.bind_some, if_neg (by omega)]
  rw [place_Choose.f, hm, Option.bind_some, if_pos rfl, place_choose.f, chooseF_ok loads live n turn h0 h1 h2 h3 h4, Option.bind_some]

theorem equal_l0 (l : List Int) (hl : l.length ≤ 1000) : ∀ m k i : Nat, l.length = i + m → m < k → stooklaw17_equal.l0 k l l (i : Int) = some true := by
  intro m
  induction m with
  | zero =>
    intro k i hi hk
    obtain ⟨k, rfl⟩ : ∃ j, k = j + 1 := ⟨k - 1, by omega⟩
    rw [stooklaw17_equal.l0, if_neg (by omega)]
  | succ m ih =>
    intro k i hi hk
    obtain ⟨k, rfl⟩ : ∃ j, k = j + 1 := ⟨k - 1, by omega⟩
    rw [stooklaw17_equal.l0, if_pos (by omega), if_pos (by omega), if_pos (by omega), if_pos rfl, w64 ((i : Int) + 1) (by omega) (by omega)]
    exact ih k (i + 1) (by omega) (by omega)

theorem equal_self (l : List Int) (hl : l.length ≤ 1000) (k : Nat) (hk : l.length < k) : stooklaw17_equal.f k l l = some true := by
  rw [stooklaw17_equal.f, if_pos rfl]
  exact equal_l0 l hl l.length k 0 (by omega) hk

theorem awake_ok (k : Nat) (hk : 8 ≤ k) : stooklaw17_awake.f k = some true := by
  rw [stooklaw17_awake.f, Choose_ok k [2, 0, 1] [true, true, true] 2 0 (by simp; omega) (by decide) (by decide) rfl (by decide) (by decide), sortedW_doc]
  exact (congrArg (fun o => Option.bind o fun t => some t) (equal_self [2, 3] (by decide) k (by simp; omega)) : _)

theorem in_l0 (r : List Int) (x : Int) (hl : r.length ≤ 1000) : ∀ m k i : Nat, r.length = i + m → m < k → stookref17_In.l0 k r x (i : Int) = some (decide (x ∈ r.drop i)) := by
  intro m
  induction m with
  | zero =>
    intro k i hi hk
    obtain ⟨k, rfl⟩ : ∃ j, k = j + 1 := ⟨k - 1, by omega⟩
    rw [stookref17_In.l0, if_neg (by omega), List.drop_eq_nil_of_le (by omega)]
    simp
  | succ m ih =>
    intro k i hi hk
    obtain ⟨k, rfl⟩ : ∃ j, k = j + 1 := ⟨k - 1, by omega⟩
    have hlt : i < r.length := by omega
    have hr : rd r (i : Int) = r[i] := by simp [rd, List.getD_eq_getElem?_getD, List.getElem?_eq_getElem hlt]
    rw [stookref17_In.l0, if_pos (by omega), if_pos (by omega), hr, List.drop_eq_getElem_cons hlt]
    by_cases h : r[i] = x
    · rw [if_pos h, h]; simp
    · rw [if_neg h, w64 ((i : Int) + 1) (by omega) (by omega)]
      have := ih k (i + 1) (by omega) (by omega)
      rw [Int.natCast_add, Int.natCast_one] at this
      rw [this]
      congr 1
      exact decide_eq_decide.2 ⟨fun hx => List.mem_cons_of_mem _ hx, fun hx => (List.mem_cons.1 hx).resolve_left (Ne.symm h)⟩

theorem in_f (r : List Int) (x : Int) (hl : r.length ≤ 1000) (k : Nat) (hk : r.length < k) : stookref17_In.f k r x = some (decide (x ∈ r)) := by
  have := in_l0 r x hl r.length k 0 (by omega) hk
  simpa [stookref17_In.f] using this

/-- What is known of the choice. -/
structure Pick (loads : List Int) (live : List Bool) (S : List Nat) (n : Nat) : Prop where
  n1 : 1 ≤ n
  len : n ≤ S.length
  few : live.length ≤ 16
  same : loads.length = live.length
  mem : ∀ s ∈ S, live[s]? = some true
  all : ∀ i, live[i]? = some true → i ∈ S
  nodup : S.Nodup
  sorted : S.Pairwise fun i j => loads.getD i 0 ≤ loads.getD j 0

def pickL (S : List Nat) (n : Nat) : List Int := (S.take n).map fun (i : Nat) => (i : Int) + 1

theorem pick_len {S : List Nat} {n : Nat} (h : n ≤ S.length) : (pickL S n).length = n := by simp [pickL]; omega
theorem pick_rd {S : List Nat} {n i s : Nat} (hi : i < n) (hs : S[i]? = some s) : rd (pickL S n) (i : Int) = (s : Int) + 1 := by
  simp [rd, pickL, List.getD_eq_getElem?_getD, List.getElem?_take, hi, hs]
theorem pick_mem {S : List Nat} {n s : Nat} : ((s : Int) + 1) ∈ pickL S n ↔ s ∈ S.take n := by
  unfold pickL
  rw [List.mem_map]
  constructor
  · rintro ⟨a, ha, e⟩
    obtain rfl : a = s := by omega
    exact ha
  · intro h; exact ⟨s, h, rfl⟩
theorem pick_take {S : List Nat} {n i : Nat} (hi : i ≤ n) : (pickL S n).take i = pickL S i := by
  simp [pickL, ← List.map_take, List.take_take, Nat.min_eq_left hi]
theorem fresh {S : List Nat} (hS : S.Nodup) {i s : Nat} (hs : S[i]? = some s) : s ∉ S.take i := by
  intro h
  have h1 := hS
  rw [← List.take_append_drop i S, List.Nodup, List.pairwise_append] at h1
  obtain ⟨hlt, rfl⟩ := List.getElem?_eq_some_iff.1 hs
  exact h1.2.2 _ h S[i] (by rw [List.drop_eq_getElem_cons hlt]; exact List.mem_cons_self) rfl

theorem few_of {loads live S n} (h : Pick loads live S n) : S.length ≤ 16 := by
  have h1 : S.Perm ((List.range live.length).filter fun i => decide (i ∈ S)) := by
    refine (List.perm_ext_iff_of_nodup h.nodup (List.nodup_range.filter _)).2 fun a => ?_
    rw [List.mem_filter, List.mem_range]
    constructor
    · intro ha
      exact ⟨(List.getElem?_eq_some_iff.1 (h.mem a ha)).1, by simpa using ha⟩
    · intro ha; simpa using ha.2
  have := h1.length_eq
  have h2 := List.length_filter_le (fun i => decide (i ∈ S)) (List.range live.length)
  have := h.few
  simp at h2
  omega

/-- The load of the i-th chosen; nothing: 0. -/
def mostAt (loads : List Int) (S : List Nat) (i : Nat) : Int := if i = 0 then 0 else loads.getD (S.getD (i - 1) 0) 0

theorem unl_l1 {loads live S n} (h : Pick loads live S n) : ∀ m k i : Nat, live.length = i + m → m + 40 < k → stooklaw17_PlaceUnlike.l1 k loads live (n : Int) (pickL S n) (mostAt loads S n) (i : Int) = some true := by
  have hl := pick_len h.len
  have hfew := h.few
  have hfS := few_of h
  have hnS := h.len
  have hn1 := h.n1
  have hsame := h.same
  intro m
  induction m with
  | zero =>
    intro k i hi hk
    obtain ⟨k, rfl⟩ : ∃ j, k = j + 1 := ⟨k - 1, by omega⟩
    rw [stooklaw17_PlaceUnlike.l1, if_neg (by omega), hl]
    simp
  | succ m ih =>
    intro k i hi hk
    obtain ⟨k, rfl⟩ : ∃ j, k = j + 1 := ⟨k - 1, by omega⟩
    have hlt : i < live.length := by omega
    have hr : rdOf false live (i : Int) = live[i] := by simp [rdOf, List.getD_eq_getElem?_getD, List.getElem?_eq_getElem hlt]
    have hn := ih k (i + 1) (by omega) (by omega)
    rw [Int.natCast_add, Int.natCast_one] at hn
    rw [stooklaw17_PlaceUnlike.l1, if_pos (by omega), if_pos (by omega), hr, w64 ((i : Int) + 1) (by omega) (by omega), in_f _ _ (by omega) k (by omega), Option.bind_some]
    by_cases hv : live[i] = true
    · rw [if_pos hv]
      by_cases hm : ((i : Int) + 1) ∈ pickL S n
      · rw [if_pos (decide_eq_true hm)]; exact hn
      · rw [if_neg (by simpa using hm), if_pos (by omega), if_neg ?_]
        · exact hn
        · have hiS : i ∈ S := h.all i (by rw [List.getElem?_eq_getElem hlt, hv])
          rw [pick_mem] at hm
          have hid : i ∈ S.drop n := by
            rw [← List.take_append_drop n S, List.mem_append] at hiS
            exact hiS.resolve_left hm
          have hp := h.sorted
          rw [← List.take_append_drop n S, List.pairwise_append] at hp
          obtain ⟨s, hs⟩ : ∃ s, S[n - 1]? = some s := ⟨_, List.getElem?_eq_getElem (by omega)⟩
          have := hp.2.2 s (by
            rw [List.mem_iff_getElem?]
            exact ⟨n - 1, by rw [List.getElem?_take, if_pos (by omega), hs]⟩) i hid
          unfold mostAt
          rw [if_neg (by omega), List.getD_eq_getElem?_getD (l := S), hs, rd, Int.toNat_natCast]
          simp only [Option.getD_some]
          omega
    · rw [if_neg hv]; exact hn

theorem unl_l0 {loads live S n} (h : Pick loads live S n) : ∀ m k i : Nat, n = i + m → 2 * m + 80 < k → stooklaw17_PlaceUnlike.l0 k loads live (n : Int) (pickL S n) (mostAt loads S i) (i : Int) = some true := by
  have hl := pick_len h.len
  have hfew := h.few
  have hfS := few_of h
  have hnS := h.len
  have hn1 := h.n1
  have hsame := h.same
  intro m
  induction m with
  | zero =>
    intro k i hi hk
    obtain ⟨k, rfl⟩ : ∃ j, k = j + 1 := ⟨k - 1, by omega⟩
    obtain rfl : n = i := by omega
    rw [stooklaw17_PlaceUnlike.l0, if_neg (by omega)]
    exact unl_l1 h live.length k 0 (by omega) (by omega)
  | succ m ih =>
    intro k i hi hk
    obtain ⟨k, rfl⟩ : ∃ j, k = j + 2 := ⟨k - 2, by omega⟩
    obtain ⟨s, hs⟩ : ∃ s, S[i]? = some s := ⟨_, List.getElem?_eq_getElem (by omega)⟩
    have hls := h.mem s (List.mem_of_getElem? hs)
    have hslt := (List.getElem?_eq_some_iff.1 hls).1
    have hr := pick_rd (n := n) (by omega) hs
    have hn := ih k (i + 1) (by omega) (by omega)
    rw [Int.natCast_add, Int.natCast_one] at hn
    have hw : wrap64 ((s : Int) + 1 - 1) = s := by rw [w64 _ (by omega) (by omega)]; omega
    have hlive : rdOf false live (s : Int) = true := by simp [rdOf, List.getD_eq_getElem?_getD, hls]
    have hfr : ¬ ((s : Int) + 1) ∈ pickL S i := by rw [pick_mem]; exact fresh h.nodup hs
    have hnew : mostAt loads S (i + 1) = loads.getD s 0 := by
      unfold mostAt
      rw [if_neg (by omega), Nat.add_sub_cancel, List.getD_eq_getElem?_getD (l := S), hs]; rfl
    have hrl : rd loads (s : Int) = loads.getD s 0 := by rw [rd, Int.toNat_natCast]
    rw [stooklaw17_PlaceUnlike.l0, if_pos (by omega), if_pos (by omega), hr, if_neg (by omega), if_neg (by omega), hw, if_pos (by omega), if_pos (by omega), if_pos hlive, if_pos (by omega), Int.toNat_natCast, pick_take (by omega),
      in_f _ _ (by rw [pick_len (by omega)]; omega) (k + 1) (by rw [pick_len (by omega)]; omega), Option.bind_some, decide_eq_false hfr, stooklaw17_PlaceUnlike.j2, if_neg (by decide), hr, hw, hrl, w64 ((i : Int) + 1) (by omega) (by omega)]
    rw [hnew] at hn
    by_cases h0 : i = 0
    · rw [if_pos (by omega), if_pos (by omega), if_pos (by omega), if_pos (by omega), if_pos (by omega)]
      exact hn
    · rw [if_neg (by omega), if_pos (by omega), if_pos (by omega), if_pos (by omega), if_pos (by omega)]
      by_cases hg : loads.getD s 0 > mostAt loads S i
      · rw [if_pos hg]; exact hn
      · rw [if_neg hg]
        have hp := List.pairwise_iff_getElem.1 h.sorted (i - 1) i (by omega) (by omega) (by omega)
        have he : mostAt loads S i = loads.getD s 0 := by
          have hsi : S[i]'(by omega) = s := (List.getElem?_eq_some_iff.1 hs).2
          have hm : mostAt loads S i = loads.getD (S[i - 1]'(by omega)) 0 := by
            unfold mostAt
            rw [if_neg h0, List.getD_eq_getElem?_getD (l := S), List.getElem?_eq_getElem (by omega)]; rfl
          rw [hsi] at hp
          omega
        rw [he]; exact hn

theorem pick_sorted (loads : List Int) (live : List Bool) (turn : Int) (n : Nat) (h0 : 1 ≤ n) (h1 : n ≤ (upto live live.length).length) (h2 : live.length ≤ 16) (h3 : loads.length = live.length) : Pick loads live (sortedW loads live turn) n where
  n1 := h0
  len := by rw [sortedW_len]; exact h1
  few := h2
  same := h3
  mem := fun s hs => by
    have := (sortedW_perm loads live turn).mem_iff.1 hs
    obtain ⟨a, b⟩ := List.mem_filter.1 this
    have a := List.mem_range.1 a
    rw [List.getD_eq_getElem?_getD, List.getElem?_eq_getElem a] at b
    rw [List.getElem?_eq_getElem a]
    simpa using b
  all := fun i hi => by
    refine (sortedW_perm loads live turn).mem_iff.2 (List.mem_filter.2 ⟨List.mem_range.2 (List.getElem?_eq_some_iff.1 hi).1, ?_⟩)
    rw [List.getD_eq_getElem?_getD, hi]; rfl
  nodup := ((sortedW_perm loads live turn).nodup_iff).2 (List.nodup_range.filter _)
  sorted := (sortedW_sorted loads live turn).imp fun h => by unfold Ahead at h; omega

theorem may_cases (k : Nat) (hk : 20 < k) (loads : List Int) (live : List Bool) (n : Int) :
    (∃ e, place_may.f k loads live n = some e ∧ e ≠ 0) ∨ (0 < live.length ∧ live.length ≤ 16 ∧ loads.length = live.length ∧ 1 ≤ n ∧ n ≤ ((upto live live.length).length : Int)) := by
  obtain ⟨k, rfl⟩ : ∃ j, k = j + 1 := ⟨k - 1, by omega⟩
  have hj : place_may.j0 (k + 1) live n true = some 1 := by rw [place_may.j0, if_pos rfl]
  rw [place_may.f]
  by_cases h0 : (live.length : Int) = 0
  · left; rw [if_pos h0, hj]; exact ⟨1, rfl, by decide⟩
  · rw [if_neg h0]
    by_cases h1 : (live.length : Int) > 16
    · left; rw [if_pos h1, hj]; exact ⟨1, rfl, by decide⟩
    · rw [if_neg h1]
      by_cases h2 : (loads.length : Int) = (live.length : Int)
      · rw [if_pos h2]
        by_cases h3 : n < 1
        · left; rw [decide_eq_true h3, hj]; exact ⟨1, rfl, by decide⟩
        · rw [decide_eq_false h3, place_may.j0, if_neg (by decide), live_f live (by omega) k (by omega), Option.bind_some]
          by_cases h4 : ((upto live live.length).length : Int) < n
          · left; rw [if_pos h4]; exact ⟨21, rfl, by decide⟩
          · right; omega
      · left; rw [if_neg h2, hj]; exact ⟨1, rfl, by decide⟩

theorem PlaceUnlike (l0 : List Int) (l1 : List Bool) (a2 a3 : Int) : ∃ k, stooklaw17_PlaceUnlike.f k l0 l1 a2 a3 = some true := by
  refine ⟨200, ?_⟩
  rw [stooklaw17_PlaceUnlike.f]
  rcases may_cases 200 (by decide) l0 l1 a2 with ⟨e, he, hne⟩ | ⟨h0, h1, h2, h3, h4⟩
  · rw [place_Choose.f, he, Option.bind_some, if_neg hne, Option.bind_some, awake_ok 200 (by decide), Option.bind_some, if_pos rfl]
    have hb : (e != 0) = true := bne_iff_ne.2 hne
    show stooklaw17_PlaceUnlike.j0 200 l0 l1 a2 [] (e != 0) = some true
    rw [hb, stooklaw17_PlaceUnlike.j0, if_pos rfl, awake_ok 199 (by decide), Option.bind_some, if_pos rfl]
    rfl
  · obtain ⟨n, rfl⟩ := Int.eq_ofNat_of_zero_le (show 0 ≤ a2 by omega)
    rw [Choose_ok 200 l0 l1 n a3 (by omega) h0 h1 h2 h3 h4, Option.bind_some, awake_ok 200 (by decide), Option.bind_some, if_pos rfl]
    show stooklaw17_PlaceUnlike.j0 200 l0 l1 n (pickL (sortedW l0 l1 a3) n) false = some true
    rw [stooklaw17_PlaceUnlike.j0, if_neg (by decide)]
    have := upto_length l1 l1.length
    exact unl_l0 (pick_sorted l0 l1 a3 n (by omega) (by omega) h1 h2) n 199 0 (by omega) (by omega)

end Go.Proofs.Ytboccnbncipnpaa.PureU
