/- A fold of three values is the same, whichever two come first. -/
import Derived.Test.YtejbpnhondpnfaaFoldP
namespace Go.Proofs.Ytejbpnhondpnfaa

theorem wrap_comm_assoc {a b c L : Int} (hL : L = 9007199254740992 ∨ L = 16777216) (ha : -L ≤ a ∧ a ≤ L) (hb : -L ≤ b ∧ b ≤ L) (hc : -L ≤ c ∧ c ≤ L) :
    wrapZ L (wrapZ L (a + b) + c) = wrapZ L (a + wrapZ L (b + c)) ∧ (-L ≤ wrapZ L (a + b) ∧ wrapZ L (a + b) ≤ L) := by
  unfold wrapZ
  rcases hL with rfl | rfl
  · by_cases c1 : a + b < -9007199254740992
    · rw [if_pos c1]
      by_cases d1 : b + c < -9007199254740992
      · rw [if_pos d1]; refine ⟨?_, by omega⟩; repeat' split
        all_goals omega
      · rw [if_neg d1]
        by_cases d2 : 9007199254740992 ≤ b + c
        · rw [if_pos d2]; refine ⟨?_, by omega⟩; repeat' split
          all_goals omega
        · rw [if_neg d2]; refine ⟨?_, by omega⟩; repeat' split
          all_goals omega
    · rw [if_neg c1]
      by_cases c2 : 9007199254740992 ≤ a + b
      · rw [if_pos c2]
        by_cases d1 : b + c < -9007199254740992
        · rw [if_pos d1]; refine ⟨?_, by omega⟩; repeat' split
          all_goals omega
        · rw [if_neg d1]
          by_cases d2 : 9007199254740992 ≤ b + c
          · rw [if_pos d2]; refine ⟨?_, by omega⟩; repeat' split
            all_goals omega
          · rw [if_neg d2]; refine ⟨?_, by omega⟩; repeat' split
            all_goals omega
      · rw [if_neg c2]
        by_cases d1 : b + c < -9007199254740992
        · rw [if_pos d1]; refine ⟨?_, by omega⟩; repeat' split
          all_goals omega
        · rw [if_neg d1]
          by_cases d2 : 9007199254740992 ≤ b + c
          · rw [if_pos d2]; refine ⟨?_, by omega⟩; repeat' split
            all_goals omega
          · rw [if_neg d2]; refine ⟨?_, by omega⟩; repeat' split
            all_goals omega
  · by_cases c1 : a + b < -16777216
    · rw [if_pos c1]
      by_cases d1 : b + c < -16777216
      · rw [if_pos d1]; refine ⟨?_, by omega⟩; repeat' split
        all_goals omega
      · rw [if_neg d1]
        by_cases d2 : 16777216 ≤ b + c
        · rw [if_pos d2]; refine ⟨?_, by omega⟩; repeat' split
          all_goals omega
        · rw [if_neg d2]; refine ⟨?_, by omega⟩; repeat' split
          all_goals omega
    · rw [if_neg c1]
      by_cases c2 : 16777216 ≤ a + b
      · rw [if_pos c2]
        by_cases d1 : b + c < -16777216
        · rw [if_pos d1]; refine ⟨?_, by omega⟩; repeat' split
          all_goals omega
        · rw [if_neg d1]
          by_cases d2 : 16777216 ≤ b + c
          · rw [if_pos d2]; refine ⟨?_, by omega⟩; repeat' split
            all_goals omega
          · rw [if_neg d2]; refine ⟨?_, by omega⟩; repeat' split
            all_goals omega
      · rw [if_neg c2]
        by_cases d1 : b + c < -16777216
        · rw [if_pos d1]; refine ⟨?_, by omega⟩; repeat' split
          all_goals omega
        · rw [if_neg d1]
          by_cases d2 : 16777216 ≤ b + c
          · rw [if_pos d2]; refine ⟨?_, by omega⟩; repeat' split
            all_goals omega
          · rw [if_neg d2]; refine ⟨?_, by omega⟩; repeat' split
            all_goals omega

theorem gcd_in {a b : Int} (ha : -9007199254740992 ≤ a ∧ a ≤ 9007199254740992) (hb : -9007199254740992 ≤ b ∧ b ≤ 9007199254740992) : -9007199254740992 ≤ ((Int.gcd a b : Nat) : Int) ∧ ((Int.gcd a b : Nat) : Int) ≤ 9007199254740992 := by
  have h : Int.gcd a b ≤ 9007199254740992 := by
    by_cases h0 : a.natAbs = 0
    · have : Int.gcd a b = b.natAbs := by unfold Int.gcd; rw [h0, Nat.gcd_zero_left]
      omega
    · have : Int.gcd a b ≤ a.natAbs := by unfold Int.gcd; exact Nat.gcd_le_left _ (by omega)
      omega
  omega
theorem gcd_three (a b c : Int) : Int.gcd ((Int.gcd a b : Nat) : Int) c = Int.gcd a ((Int.gcd b c : Nat) : Int) := by
  unfold Int.gcd
  rw [Int.natAbs_natCast, Int.natAbs_natCast]
  exact Nat.gcd_assoc _ _ _

theorem right_num {n : Int} (h : -9007199254740992 ≤ n ∧ n ≤ 9007199254740992) : rightV (numV n) = true := by
  unfold rightV numV
  rw [if_pos rfl]
  simp only [Bool.and_eq_true, decide_eq_true_eq]
  exact ⟨h.1, h.2, by rw [ByteArray.toList_eq]; rfl, rfl⟩
theorem right_pt {p : Pt} (h : inP p) : rightV (pntV p) = true := by
  unfold rightV pntV
  rw [if_neg (by simp), if_neg (by simp), if_pos rfl]
  simp only [Bool.and_eq_true]
  exact ⟨ptR_in.2 h, rfl, by rw [ByteArray.toList_eq]; rfl⟩

theorem fold_comm (j : Nat) (a b : Val) : foldV j a b = foldV j b a := by
  unfold foldV
  by_cases hr : rightV a = true ∧ rightV b = true
  · rw [if_pos hr, if_pos hr.symm]
    by_cases hk : a.k = b.k
    · rw [if_pos hk, if_pos hk.symm]
      have h1 : (if 0 < ordV a b then a else b) = (if 0 < ordV b a then b else a) := top_comm ord_cmp (fun _ _ => ord_eq) a b
      have h2 : (if ordV a b < 0 then a else b) = (if ordV b a < 0 then b else a) := by
        have e1 := ord_cmp.anti a b
        by_cases c : ordV a b < 0
        · rw [if_pos c, if_neg (by omega)]
        · by_cases d : ordV a b = 0
          · rw [ord_eq d]
          · rw [if_neg c, if_pos (by omega)]
      rw [h1, h2, hk, Int.add_comm a.n, Int.add_comm a.x, Int.add_comm a.y, Int.gcd_comm, comG_comm]
    · rw [if_neg hk, if_neg (fun h => hk h.symm)]
  · rw [if_neg hr, if_neg (fun h => hr h.symm)]

theorem fold_wrong {j : Nat} {a b : Val} (h : ¬ (rightV a = true ∧ rightV b = true)) : foldV j a b = (zeroV, 1) := by unfold foldV; rw [if_neg h]
theorem fold_unlike {j : Nat} {a b : Val} (ha : rightV a = true) (hb : rightV b = true) (h : a.k ≠ b.k) : foldV j a b = (zeroV, 13) := by unfold foldV; rw [if_pos ⟨ha, hb⟩, if_neg h]

/-- Right values of one kind, folded. -/
def opV (j : Nat) (a b : Val) : Val :=
  if j = 1 then (if 0 < ordV a b then a else b)
  else if j = 2 then (if ordV a b < 0 then a else b)
  else if a.k = 0 then numV (if j = 0 then wrapZ 9007199254740992 (a.n + b.n) else ((Int.gcd a.n b.n : Nat) : Int))
  else pntV (if j = 0 then ⟨wrapZ 16777216 (a.x + b.x), wrapZ 16777216 (a.y + b.y)⟩ else comG ⟨a.x, a.y⟩ ⟨b.x, b.y⟩)
/-- Can values of a kind be folded? -/
def canV (j : Nat) (k : Int) : Prop := j = 1 ∨ j = 2 ∨ k = 0 ∨ k = 2

theorem fold_can {j : Nat} {a b : Val} (ha : rightV a = true) (hb : rightV b = true) (hk : a.k = b.k) (hc : canV j a.k) : foldV j a b = (opV j a b, 0) := by
  unfold foldV opV
  rw [if_pos ⟨ha, hb⟩, if_pos hk]
  by_cases h1 : j = 1
  · rw [if_pos h1, if_pos h1]
  · rw [if_neg h1, if_neg h1]
    by_cases h2 : j = 2
    · rw [if_pos h2, if_pos h2]
    · rw [if_neg h2, if_neg h2]
      by_cases h3 : a.k = 0
      · rw [if_pos h3, if_pos h3]
      · rw [if_neg h3, if_neg h3]
        have h4 : a.k = 2 := by rcases hc with h | h | h | h; exact absurd h h1; exact absurd h h2; exact absurd h h3; exact h
        rw [if_pos h4]
theorem fold_cannot {j : Nat} {a b : Val} (ha : rightV a = true) (hb : rightV b = true) (hk : a.k = b.k) (hc : ¬ canV j a.k) : foldV j a b = (zeroV, 13) := by
  unfold foldV
  rw [if_pos ⟨ha, hb⟩, if_pos hk, if_neg (fun h => hc (.inl h)), if_neg (fun h => hc (.inr (.inl h))), if_neg (fun h => hc (.inr (.inr (.inl h)))), if_neg (fun h => hc (.inr (.inr (.inr h))))]

theorem op_right {j : Nat} {a b : Val} (ha : rightV a = true) (hb : rightV b = true) (hk : a.k = b.k) (hc : canV j a.k) : rightV (opV j a b) = true ∧ (opV j a b).k = a.k := by
  unfold opV
  by_cases h1 : j = 1
  · rw [if_pos h1]
    split
    · exact ⟨ha, rfl⟩
    · exact ⟨hb, hk.symm⟩
  · rw [if_neg h1]
    by_cases h2 : j = 2
    · rw [if_pos h2]
      split
      · exact ⟨ha, rfl⟩
      · exact ⟨hb, hk.symm⟩
    · rw [if_neg h2]
      by_cases h3 : a.k = 0
      · rw [if_pos h3]
        have ra := right_int ha h3
        have rb := right_int hb (hk ▸ h3)
        refine ⟨right_num ?_, h3.symm⟩
        by_cases h4 : j = 0
        · rw [if_pos h4]; exact (wrap_comm_assoc (.inl rfl) ra rb rb).2
        · rw [if_neg h4]; exact gcd_in ra rb
      · rw [if_neg h3]
        have h4 : a.k = 2 := by rcases hc with h | h | h | h; exact absurd h h1; exact absurd h h2; exact absurd h h3; exact h
        have ra := right_pnt ha h4
        have rb := right_pnt hb (hk ▸ h4)
        refine ⟨right_pt ?_, h4.symm⟩
        by_cases h5 : j = 0
        · rw [if_pos h5]
          exact ⟨(wrap_comm_assoc (.inr rfl) ra.1 rb.1 rb.1).2, (wrap_comm_assoc (.inr rfl) ra.2 rb.2 rb.2).2⟩
        · rw [if_neg h5]; exact comG_in ra rb

theorem op_assoc {j : Nat} {a b c : Val} (ha : rightV a = true) (hb : rightV b = true) (hcr : rightV c = true) (hk : a.k = b.k) (hk2 : b.k = c.k) (hc : canV j a.k) : opV j (opV j a b) c = opV j a (opV j b c) := by
  have hab := op_right ha hb hk hc
  unfold opV
  by_cases h1 : j = 1
  · simp only [if_pos h1]
    exact top_assoc ord_cmp a b c
  · simp only [if_neg h1]
    by_cases h2 : j = 2
    · simp only [if_pos h2]
      have hsw : Cmp fun x y => ordV y x := ⟨fun x y => ord_cmp.anti y x, fun x y z h => by
        have e1 := ord_cmp.anti y x
        have e2 := ord_cmp.same x y z (by omega)
        have e3 := ord_cmp.anti x z
        have e4 := ord_cmp.anti y z
        omega, fun x y z h k => ord_cmp.trans z y x k h⟩
      have e : ∀ x y : Val, (if ordV x y < 0 then x else y) = topV (fun x y => ordV y x) x y := fun x y => by
        unfold topV
        have := ord_cmp.anti x y
        by_cases p : ordV x y < 0
        · rw [if_pos p, if_pos (show 0 < ordV y x by omega)]
        · rw [if_neg p, if_neg (show ¬ 0 < ordV y x by omega)]
      simp only [e]
      exact top_assoc hsw a b c
    · simp only [if_neg h2]
      by_cases h3 : a.k = 0
      · have ra := right_int ha h3
        have rb := right_int hb (hk ▸ h3)
        have rc := right_int hcr (hk2 ▸ hk ▸ h3)
        have h3b : b.k = 0 := hk ▸ h3
        simp only [if_pos h3, if_pos h3b]
        have hn : (numV (if j = 0 then wrapZ 9007199254740992 (a.n + b.n) else ((Int.gcd a.n b.n : Nat) : Int))).k = 0 := rfl
        rw [if_pos hn]
        by_cases h4 : j = 0
        · simp only [if_pos h4, numV]
          rw [(wrap_comm_assoc (.inl rfl) ra rb rc).1]
        · simp only [if_neg h4, numV]
          rw [gcd_three]
      · have h4 : a.k = 2 := by rcases hc with h | h | h | h; exact absurd h h1; exact absurd h h2; exact absurd h h3; exact h
        have h4b : b.k ≠ 0 := by rw [← hk, h4]; decide
        have ra := right_pnt ha h4
        have rb := right_pnt hb (hk ▸ h4)
        have rc := right_pnt hcr (hk2 ▸ hk ▸ h4)
        simp only [if_neg h3, if_neg h4b]
        have hn : (pntV (if j = 0 then ⟨wrapZ 16777216 (a.x + b.x), wrapZ 16777216 (a.y + b.y)⟩ else comG ⟨a.x, a.y⟩ ⟨b.x, b.y⟩)).k ≠ 0 := by show (2 : Int) ≠ 0; decide
        rw [if_neg hn]
        by_cases h5 : j = 0
        · simp only [if_pos h5, pntV]
          rw [(wrap_comm_assoc (.inr rfl) ra.1 rb.1 rc.1).1, (wrap_comm_assoc (.inr rfl) ra.2 rb.2 rc.2).1]
        · simp only [if_neg h5, pntV]
          rw [comG_assoc]

/-- The law, in plain words. -/
theorem fold_law (j : Nat) (a b c : Val) (he : (foldV j a b).2 ≠ 1) (hg : (foldV j b c).2 ≠ 1) :
    (if (foldV j a b).2 = 0 then foldV j (foldV j a b).1 c else foldV j a b).2 = (if (foldV j b c).2 = 0 then foldV j a (foldV j b c).1 else foldV j b c).2 ∧
    ((if (foldV j a b).2 = 0 then foldV j (foldV j a b).1 c else foldV j a b).2 = 0 → (if (foldV j a b).2 = 0 then foldV j (foldV j a b).1 c else foldV j a b).1 = (if (foldV j b c).2 = 0 then foldV j a (foldV j b c).1 else foldV j b c).1) := by
  have hab : rightV a = true ∧ rightV b = true := Decidable.byContradiction fun h => he (by rw [fold_wrong h])
  have hbc : rightV b = true ∧ rightV c = true := Decidable.byContradiction fun h => hg (by rw [fold_wrong h])
  obtain ⟨ha, hb⟩ := hab
  have hc := hbc.2
  have hd1 : canV j a.k ∨ ¬ canV j a.k := Classical.em _
  have hd2 : canV j b.k ∨ ¬ canV j b.k := Classical.em _
  by_cases hk : a.k = b.k
  · by_cases hk2 : b.k = c.k
    · rcases hd1 with hcan | hcan
      · have hcan2 : canV j b.k := hk ▸ hcan
        have o1 := op_right ha hb hk hcan
        have o2 := op_right hb hc hk2 hcan2
        rw [fold_can ha hb hk hcan, fold_can hb hc hk2 hcan2]
        simp only [if_true]
        rw [fold_can o1.1 hc (o1.2.trans (hk.trans hk2)) (o1.2.symm ▸ hcan), fold_can ha o2.1 (hk.trans o2.2.symm) hcan]
        exact ⟨rfl, fun _ => op_assoc ha hb hc hk hk2 hcan⟩
      · have hcan2 : ¬ canV j b.k := hk ▸ hcan
        rw [fold_cannot ha hb hk hcan, fold_cannot hb hc hk2 hcan2]
        exact ⟨rfl, fun _ => rfl⟩
    · rw [fold_unlike hb hc hk2]
      rcases hd1 with hcan | hcan
      · have o1 := op_right ha hb hk hcan
        rw [fold_can ha hb hk hcan]
        simp only [if_true]
        rw [fold_unlike o1.1 hc (by rw [o1.2, hk]; exact hk2)]
        exact ⟨rfl, fun _ => rfl⟩
      · rw [fold_cannot ha hb hk hcan]
        exact ⟨rfl, fun _ => rfl⟩
  · rw [fold_unlike ha hb hk]
    by_cases hk2 : b.k = c.k
    · rcases hd2 with hcan | hcan
      · have o2 := op_right hb hc hk2 hcan
        rw [fold_can hb hc hk2 hcan]
        simp only [if_true]
        rw [fold_unlike ha o2.1 (by rw [o2.2]; exact hk)]
        exact ⟨rfl, fun _ => rfl⟩
      · rw [fold_cannot hb hc hk2 hcan]
        exact ⟨rfl, fun _ => rfl⟩
    · rw [fold_unlike hb hc hk2]
      exact ⟨rfl, fun _ => rfl⟩
end Go.Proofs.Ytejbpnhondpnfaa
