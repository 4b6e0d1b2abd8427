/- What Fold answers doesn't hang on the order of its values. -/
import Derived.Test.YtejbpnhondpnfaaFoldE
namespace Go.Proofs.Ytejbpnhondpnfaa

/-- A way of comparing. -/
structure Cmp {α : Type} (f : α → α → Int) : Prop where
  anti : ∀ x y, f y x = - f x y
  same : ∀ x y z, f x y = 0 → f x z = f y z
  trans : ∀ x y z, 0 < f x y → 0 < f y z → 0 < f x z

theorem Cmp.lex {α : Type} {f g : α → α → Int} (hf : Cmp f) (hg : Cmp g) : Cmp fun x y => if f x y = 0 then g x y else f x y where
  anti x y := by
    have h1 := hf.anti x y
    have h2 := hg.anti x y
    by_cases c : f x y = 0
    · rw [if_pos (by omega), if_pos c]; exact h2
    · rw [if_neg (by omega), if_neg c]; exact h1
  same x y z h := by
    by_cases c : f x y = 0
    · rw [if_pos c] at h
      rw [hf.same x y z c, hg.same x y z h]
    · rw [if_neg c] at h; exact absurd h c
  trans x y z h k := by
    by_cases c : f x y = 0
    · rw [if_pos c] at h
      rw [hf.same x y z c]
      by_cases d : f y z = 0
      · rw [if_pos d] at k ⊢
        exact hg.trans x y z h k
      · rw [if_neg d] at k ⊢
        exact k
    · rw [if_neg c] at h
      by_cases d : f y z = 0
      · have e1 := hf.anti y z
        have e2 := hf.same z y x (by omega)
        have e3 := hf.anti x z
        have e4 := hf.anti x y
        rw [if_neg (by omega)]; omega
      · rw [if_neg d] at k
        have := hf.trans x y z h k
        rw [if_neg (by omega)]; exact this

theorem Cmp.on {α β : Type} {f : β → β → Int} (hf : Cmp f) (p : α → β) : Cmp fun x y => f (p x) (p y) :=
  ⟨fun x y => hf.anti _ _, fun x y z => hf.same _ _ _, fun x y z => hf.trans _ _ _⟩

theorem Cmp.int : Cmp Lib.compareInt where
  anti x y := by unfold Lib.compareInt; repeat' split
                 all_goals omega
  same x y z := by unfold Lib.compareInt; repeat' split
                   all_goals omega
  trans x y z := by unfold Lib.compareInt; repeat' split
                    all_goals omega

theorem cb_anti : ∀ x y : List UInt8, Lib.compareBytes y x = - Lib.compareBytes x y
  | [], [] => rfl
  | [], _ :: _ => rfl
  | _ :: _, [] => rfl
  | a :: al, b :: bl => by
    unfold Lib.compareBytes
    by_cases c : a < b
    · have d : ¬ b < a := fun h => by rw [UInt8.lt_iff_toNat_lt] at *; omega
      rw [if_neg d, if_pos c, if_pos c]; rfl
    · by_cases d : b < a
      · rw [if_pos d, if_neg c, if_pos d]
      · rw [if_neg d, if_neg c, if_neg c, if_neg d]; exact cb_anti al bl
theorem cb_eq : ∀ x y : List UInt8, Lib.compareBytes x y = 0 → x = y
  | [], [], _ => rfl
  | [], _ :: _, h => by simp [Lib.compareBytes] at h
  | _ :: _, [], h => by simp [Lib.compareBytes] at h
  | a :: al, b :: bl, h => by
    unfold Lib.compareBytes at h
    by_cases c : a < b
    · rw [if_pos c] at h; omega
    · by_cases d : b < a
      · rw [if_neg c, if_pos d] at h; omega
      · rw [if_neg c, if_neg d] at h
        rw [cb_eq al bl h]
        have : a = b := UInt8.toNat_inj.1 (by rw [UInt8.lt_iff_toNat_lt] at c d; omega)
        rw [this]
theorem cb_trans : ∀ x y z : List UInt8, 0 < Lib.compareBytes x y → 0 < Lib.compareBytes y z → 0 < Lib.compareBytes x z
  | [], [], _, h, _ => by simp [Lib.compareBytes] at h
  | [], _ :: _, _, h, _ => by simp [Lib.compareBytes] at h
  | _ :: _, [], [], _, h => by simp [Lib.compareBytes] at h
  | _ :: _, [], _ :: _, _, h => by simp [Lib.compareBytes] at h
  | _ :: _, _ :: _, [], _, _ => by simp [Lib.compareBytes]
  | a :: al, b :: bl, c :: cl, h, k => by
    unfold Lib.compareBytes at h k ⊢
    have e1 : (a < b) = (a.toNat < b.toNat) := propext UInt8.lt_iff_toNat_lt
    have e2 : (b < a) = (b.toNat < a.toNat) := propext UInt8.lt_iff_toNat_lt
    have e3 : (b < c) = (b.toNat < c.toNat) := propext UInt8.lt_iff_toNat_lt
    have e4 : (c < b) = (c.toNat < b.toNat) := propext UInt8.lt_iff_toNat_lt
    have e5 : (a < c) = (a.toNat < c.toNat) := propext UInt8.lt_iff_toNat_lt
    have e6 : (c < a) = (c.toNat < a.toNat) := propext UInt8.lt_iff_toNat_lt
    simp only [e1, e2, e3, e4, e5, e6] at h k ⊢
    have ih := cb_trans al bl cl
    by_cases p1 : a.toNat < b.toNat
    · rw [if_pos p1] at h; omega
    · rw [if_neg p1] at h
      by_cases p3 : b.toNat < c.toNat
      · rw [if_pos p3] at k; omega
      · rw [if_neg p3] at k
        rw [if_neg (by omega)]
        by_cases p6 : c.toNat < a.toNat
        · rw [if_pos p6]; omega
        · rw [if_neg (by omega)] at h
          rw [if_neg (by omega)] at k
          rw [if_neg p6]
          exact ih h k
theorem Cmp.bytes : Cmp Lib.compareBytes := ⟨cb_anti, fun x y z h => by rw [cb_eq x y h], cb_trans⟩

theorem ord_cmp : Cmp ordV := by
  have h1 := Cmp.int.on Val.k
  have h2 := Cmp.int.on Val.n
  have h3 := Cmp.bytes.on fun v : Val => v.t.data.toList
  have h4 := Cmp.int.on Val.x
  have h5 := Cmp.int.on Val.y
  have e : ordV = fun a b => if Lib.compareInt a.k b.k = 0 then (if Lib.compareInt a.n b.n = 0 then (if Lib.compareBytes a.t.data.toList b.t.data.toList = 0 then (if Lib.compareInt a.x b.x = 0 then Lib.compareInt a.y b.y else Lib.compareInt a.x b.x) else Lib.compareBytes a.t.data.toList b.t.data.toList) else Lib.compareInt a.n b.n) else Lib.compareInt a.k b.k := by
    funext a b
    unfold ordV
    simp only [orZ]
    have : (if Lib.compareInt a.y b.y = 0 then 0 else Lib.compareInt a.y b.y) = Lib.compareInt a.y b.y := by split <;> omega
    rw [this]
  rw [e]
  exact h1.lex (h2.lex (h3.lex (h4.lex h5)))

theorem ci_eq {x y : Int} (h : Lib.compareInt x y = 0) : x = y := by
  unfold Lib.compareInt at h
  by_cases c : x < y
  · rw [if_pos c] at h; omega
  · rw [if_neg c] at h
    by_cases d : x > y
    · rw [if_pos d] at h; omega
    · omega
theorem ord_eq {a b : Val} (h : ordV a b = 0) : a = b := by
  unfold ordV at h
  simp only [orZ] at h
  split at h
  · rename_i e1
    split at h
    · rename_i e2
      split at h
      · rename_i e3
        split at h
        · rename_i e4
          have e5 : Lib.compareInt a.y b.y = 0 := by split at h <;> omega
          have t : a.t = b.t := ByteArray.ext (Array.ext' (cb_eq _ _ e3))
          cases a; cases b
          simp only at *
          rw [ci_eq e1, ci_eq e2, t, ci_eq e4, ci_eq e5]
        · omega
      · omega
    · omega
  · omega

/-- The greater of two, by a way of comparing. -/
def topV (f : Val → Val → Int) (a b : Val) : Val := if 0 < f a b then a else b
theorem top_comm {f : Val → Val → Int} (hf : Cmp f) (he : ∀ a b, f a b = 0 → a = b) (a b : Val) : topV f a b = topV f b a := by
  unfold topV
  have h := hf.anti a b
  by_cases c : 0 < f a b
  · rw [if_pos c, if_neg (by omega)]
  · by_cases d : f a b = 0
    · rw [he a b d]
    · rw [if_neg c, if_pos (by omega)]
theorem top_assoc {f : Val → Val → Int} (hf : Cmp f) (a b c : Val) : topV f (topV f a b) c = topV f a (topV f b c) := by
  unfold topV
  have ab := hf.anti a b
  by_cases p : 0 < f a b
  · rw [if_pos p]
    by_cases q : 0 < f b c
    · rw [if_pos q, if_pos p, if_pos (hf.trans a b c p q)]
    · rw [if_neg q]
  · rw [if_neg p]
    by_cases q : 0 < f b c
    · rw [if_pos q, if_neg p]
    · rw [if_neg q]
      by_cases s : f a b = 0
      · have := hf.same a b c s
        rw [if_neg (by omega)]
      · rw [if_neg (fun h => q (hf.trans b a c (by omega) h))]
end Go.Proofs.Ytejbpnhondpnfaa
