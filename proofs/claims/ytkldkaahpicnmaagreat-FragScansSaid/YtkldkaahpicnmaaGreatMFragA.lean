/- Which ids are right. -/
import Derived.Test.YtkldkaahpicnmaaGreatMDisk
import Derived.Test.YtkldkaahpicnmaaGreatPFragNamesx2
import Derived.Outline
import Derived.StillTailTactics
import Derived.Deep.RegionLaw
import Derived.Lib.Bytealg
import Derived.Laws.IdiomStrings
import Derived.Laws.BytesArg
namespace Go.Proofs.YtkldkaahpicnmaaGreat
open Go.RowKit

/-- Beyond an id's range. -/
def beyond (n : Int) : Bool := decide (n < 0) || decide (2147483647 < n)

theorem out_any (n : Int) (w : World) : Calls Tryz.prog 22 #[.int .i64 n] w fun e w' => e = .returned (.bool (beyond n)) ∧ w = w' := by
  by_cases h : n < 0
  · have hb : beyond n = true := by simp [beyond, h]
    rw [hb]
    go_enter Tryz.func22, Tryz.ntmps22
    go_wp2
    go_ret
    exact ⟨rfl, rfl⟩
  · have hb : beyond n = decide (2147483647 < n) := by simp [beyond, h]
    rw [hb]
    go_enter Tryz.func22, Tryz.ntmps22
    go_wp2
    go_ret
    exact ⟨rfl, rfl⟩

/-- A row of whole numbers that can be read. -/
def IntsAt (w : World) (x : Value) (l : List Int) : Prop :=
  ∃ g c, x = .slice (some ⟨g, 0, none⟩) l.length c ∧ l.length ≤ c ∧ c ≤ maxLen ∧ ∀ (j : Nat) n, l[j]? = some n → w.cell? ⟨g, j, none⟩ = some (.int .i64 n)

theorem index_any (x : Value) (l : List Int) (w : World) (h : IntsAt w x l) (hl : l.length ≤ 1000) :
    Calls Tryz.prog 39 #[x, .func (.func 22) #[] #[]] w fun e w' => (∃ r : Int, e = .returned (.int .i64 r) ∧ (decide (r ≥ 0) = l.any beyond)) ∧ w = w' := by
  obtain ⟨g, c, rfl, hc1, hc2, hcell⟩ := h
  unfold maxLen at hc2
  have HC := Lib.hid hcell
  clear hcell
  go_enter Tryz.func39, Tryz.ntmps39
  go_wp2
  go_loop [8] (fun i => ∃ k : Nat, k ≤ l.length ∧ i = .int .i64 k ∧ Hid ((l.take k).any beyond = false)) (fun i => l.length - (intOf i).toNat)
  case atStart => exact ⟨0, by omega, rfl, Lib.hid (by simp)⟩
  case round =>
    obtain ⟨k, hk, rfl, HT⟩ := hrel
    by_cases hlt : k < l.length
    · have hcl := HC.out k l[k] (List.getElem?_eq_getElem hlt)
      cases hb : beyond l[k] with
      | true =>
        go_wp2_with fail
        refine (out_any l[k] _).mono ?_
        rintro e w' ⟨rfl, rfl⟩
        rw [hb]
        go_wp2_with fail
        go_ret
        refine ⟨⟨(k : Int), rfl, ?_⟩, rfl⟩
        have h1 : l.any beyond = true := List.any_eq_true.2 ⟨l[k], List.getElem_mem hlt, hb⟩
        rw [h1]
        exact decide_eq_true (by omega)
      | false =>
        go_wp2_with fail
        refine (out_any l[k] _).mono ?_
        rintro e w' ⟨rfl, rfl⟩
        rw [hb]
        go_wp2_with fail
        go_round
        case rel => exact ⟨k + 1, by omega, by go_num, Lib.hid (by rw [List.take_succ_eq_append_getElem hlt, List.any_append, HT.out]; simp [hb])⟩
        case measure => simp [intOf]; omega
    · obtain rfl : k = l.length := by omega
      go_wp2_with fail
      go_ret
      refine ⟨⟨-1, rfl, ?_⟩, rfl⟩
      have := HT.out
      rw [List.take_length] at this
      rw [this]
      rfl

theorem contains_any (x : Value) (l : List Int) (w : World) (h : IntsAt w x l) (hl : l.length ≤ 1000) :
    Calls Tryz.prog 20 #[x, .func (.func 22) #[] #[]] w fun e w' => e = .returned (.bool (l.any beyond)) ∧ w = w' := by
  have HI := Lib.hid (index_any x l w h hl)
  go_enter Tryz.func20, Tryz.ntmps20
  go_wp2_with fail
  refine HI.out.mono ?_
  rintro e w' ⟨⟨r, rfl, hr⟩, rfl⟩
  go_wp2_with fail
  go_ret
  exact ⟨by simp [hr], rfl⟩

/-- Is an id right? -/
def okId (a b c d : Int) : Bool := !(beyond a || beyond b || beyond c || beyond d)

def idV (a b c d : Int) : Value := .agg #[.int .i64 a, .int .i64 b, .int .i64 c, .int .i64 d]

theorem numbers_any (a b c d : Int) (w : World) : Calls Tryz.prog 21 #[idV a b c d] w fun e w' => ∃ v, e = .returned v ∧ IntsAt w' v [a, b, c, d] ∧ Below w.heap.size w w' := by
  unfold idV
  go_enter Tryz.func21, Tryz.ntmps21
  go_wp2
  go_ret
  refine ⟨_, rfl, ⟨w.heap.size + 1, 4, rfl, by simp, by decide, fun j n hj => ?_⟩, ((Below.refl _ w).alloc (Nat.le_refl _) _).alloc (by simp) _⟩
  have hnew := heap_alloc_new (w.alloc (.cells #[.int .i64 a, .int .i64 b, .int .i64 c, .int .i64 d] 26)) (.cells #[.int .i64 a, .int .i64 b, .int .i64 c, .int .i64 d] 3)
  rw [World.size_alloc] at hnew
  simp only [World.cell?, hnew]
  match j, hj with
  | 0, hj => cases hj; rfl
  | 1, hj => cases hj; rfl
  | 2, hj => cases hj; rfl
  | 3, hj => cases hj; rfl

theorem right_any (a b c d : Int) (w : World) : Calls Tryz.prog 6 #[idV a b c d] w fun e w' => e = .returned (.bool (okId a b c d)) ∧ Below w.heap.size w w' := by
  have HN := Lib.hid (numbers_any a b c d (w.alloc (.cells #[.int .i64 a, .int .i64 b, .int .i64 c, .int .i64 d] 26)))
  unfold idV at *
  go_enter Tryz.func6, Tryz.ntmps6
  go_wp2_with fail
  refine HN.out.mono ?_
  rintro e w1 ⟨v, rfl, hv, hb⟩
  have HC := Lib.hid (contains_any v _ w1 hv (by simp))
  have hb' : Below w.heap.size w w1 := ((Below.refl _ w).alloc (Nat.le_refl _) _).trans (hb.mono (by simp))
  obtain ⟨g, cc, rfl, _⟩ := hv
  go_wp2_with fail
  refine HC.out.mono ?_
  rintro e w2 ⟨rfl, rfl⟩
  go_wp2_with fail
  go_ret
  exact ⟨by simp [okId, Bool.or_assoc], hb'⟩

end Go.Proofs.YtkldkaahpicnmaaGreat
/- Decimals; whole numbers as values, written. -/
namespace Go.Proofs.YtkldkaahpicnmaaGreat
set_option maxRecDepth 100000
open Go.RowKit PFragNames
open Go.Proofs.YtkldkaahpicnmaaGreatW.PrintWords

def digits : ByteArray := ⟨#[48, 49, 50, 51, 52, 53, 54, 55, 56, 57, 97, 98, 99, 100, 101, 102]⟩
def digitB (d : Nat) : ByteArray := digits.extract d (d + 1)
/-- A number in decimal. -/
def decB (n : Nat) : ByteArray := if n < 10 then digitB n else decB (n / 10) ++ digitB (n % 10)
termination_by n
decreasing_by omega

theorem digitB_size (d : Nat) (h : d < 16) : (digitB d).size = 1 := by
  unfold digitB
  rw [ByteArray.size_extract]
  show min (d + 1) 16 - d = 1
  omega

theorem decB_size : ∀ (k n : Nat), n < 10 ^ (k + 1) → (decB n).size ≤ k + 1
  | k, n, h => by
    unfold decB
    by_cases h10 : n < 10
    · rw [if_pos h10, digitB_size n (by omega)]; omega
    · rw [if_neg h10, ByteArray.size_append, digitB_size (n % 10) (by omega)]
      cases k with
      | zero => omega
      | succ k =>
        have := decB_size k (n / 10) (by rw [Nat.pow_succ] at h; omega)
        omega

theorem dec_l0 : ∀ (k n : Nat) (x : ByteArray), n < 10 ^ (k + 1) → n ≤ 9007199254740992 → x.size + k ≤ 100000 → value_decimal.l0 (k + 1) (n : Int) x = some (decB n ++ x)
  | k, n, x, h, hn, hx => by
    have h1 : Int.tmod (n : Int) 10 = ((n % 10 : Nat) : Int) := by rw [Int.tmod_eq_emod_of_nonneg (by omega)]; omega
    have h2 : wrap64 (Int.tdiv (n : Int) 10) = ((n / 10 : Nat) : Int) := by rw [Int.tdiv_eq_ediv_of_nonneg (by omega)]; unfold wrap64; omega
    have h3 : wrap64 (((n % 10 : Nat) : Int) + 1) = ((n % 10 + 1 : Nat) : Int) := by unfold wrap64; omega
    have hd : ((⟨#[48, 49, 50, 51, 52, 53, 54, 55, 56, 57, 97, 98, 99, 100, 101, 102]⟩ : ByteArray).extract (n % 10) (n % 10 + 1)) = digitB (n % 10) := rfl
    have hs := digitB_size (n % 10) (by omega)
    have hm : n % 10 < 10 := Nat.mod_lt _ (by decide)
    unfold value_decimal.l0
    simp only [h1, h2, h3, Int.toNat_natCast, hd, hs]
    rw [if_pos (by omega), if_pos (by omega), if_pos (by omega), if_pos (by omega)]
    by_cases h10 : n < 10
    · rw [if_pos (by omega)]
      have e : n % 10 = n := Nat.mod_eq_of_lt h10
      unfold decB
      rw [if_pos h10, e]
    · rw [if_neg (by omega)]
      cases k with
      | zero => omega
      | succ k =>
        rw [dec_l0 k (n / 10) _ (by rw [Nat.pow_succ] at h; omega) (by omega) (by rw [ByteArray.size_append, hs]; omega)]
        conv => rhs; unfold decB
        rw [if_neg h10, ByteArray.append_assoc]

theorem dec_any (n : Nat) (hn : n ≤ 9007199254740992) (w : World) : Calls Tryz.prog 55 #[.int .i64 (n : Int)] w fun e w' => e = .returned (.string (decB n)) ∧ Below w.heap.size w w' := by
  have h : value_decimal.f (19 + 1) (n : Int) = some (decB n) := by
    simp only [value_decimal.f]
    rw [if_neg (by omega), dec_l0 18 n _ (by omega) hn (by decide)]
    exact congrArg some ByteArray.append_empty
  refine (value_decimal.calls _ _ _ w h).mono ?_
  rintro e w' ⟨he, hd⟩
  obtain ⟨m, rfl⟩ := hd.out
  exact ⟨he, ⟨rfl, rfl, rfl, Nat.le_refl _, fun _ _ => rfl⟩⟩

/-- A whole number as a value. -/
def intV (n : Int) : Value := .agg #[.int .i64 0, .int .i64 n, .string ⟨#[]⟩, .int .i64 0, .int .i64 0]

theorem vcells {W : World} {b : Nat} {a0 a1 a2 a3 a4 : Value} (h : W.heap[b]? = some (.cells #[a0, a1, a2, a3, a4] 71 (0, 0))) :
    W.cell? ⟨b, 0, none⟩ = some a0 ∧ W.cell? ⟨b, 1, none⟩ = some a1 ∧ W.cell? ⟨b, 2, none⟩ = some a2 ∧ W.cell? ⟨b, 3, none⟩ = some a3 ∧ W.cell? ⟨b, 4, none⟩ = some a4 := by
  simp [World.cell?, h]

attribute [local go_sem high] eqA44
/-- A bool comes back: true if n is in range. -/
def VRI (n : Int) (w : World) (e : Ending) (w' : World) : Prop := (∃ q : Bool, e = .returned (.bool q) ∧ (-9007199254740992 ≤ n ∧ n ≤ 9007199254740992 → q = true)) ∧ Below w.heap.size w w'
/-- A bool comes back. -/
def BoolEnd (w : World) (e : Ending) (w' : World) : Prop := (∃ q : Bool, e = .returned (.bool q)) ∧ Below w.heap.size w w'

set_option maxHeartbeats 2000000 in
theorem vright_int (n : Int) (w : World) : Calls Tryz.prog 54 #[intV n] w (VRI n w) := by
  unfold intV
  go_enter Tryz.func54, Tryz.ntmps54
  go_wp2_with fail
  obtain ⟨W1, hW1⟩ : ∃ W1, W1 = w.alloc (.cells #[.int .i64 0, .int .i64 n, .string ⟨#[]⟩, .int .i64 0, .int .i64 0] 71) := ⟨_, rfl⟩
  have hB : Below w.heap.size w W1 := by rw [hW1]; exact (Below.refl _ w).alloc (Nat.le_refl _) _
  obtain ⟨k0, k1, k2, k3, k4⟩ := vcells (W := W1) (by rw [hW1]; exact heap_alloc_new w _)
  rw [← hW1]
  clear hW1
  go_still (by kernel_rfl)
  go_wp2_with fail
  all_goals
    go_ret
    refine ⟨⟨_, rfl, fun hq => ?_⟩, hB.drew⟩
    first | rfl | (exfalso; omega) | (simp; omega)

/-- A point as a value. -/
def pointV (x y : Int) : Value := .agg #[.int .i64 2, .int .i64 0, .string ⟨#[]⟩, .int .i64 x, .int .i64 y]

theorem gright_any (x y : Int) (w : World) : Calls Tryz.prog 76 #[.agg #[.int .i64 x, .int .i64 y]] w (BoolEnd w) := by
  obtain ⟨r, hr⟩ : ∃ r, gauss_Right.f x y = some r := by
    unfold gauss_Right.f gauss_inside.f
    by_cases h1 : x ≥ -16777216
    · by_cases h2 : y ≥ -16777216
      · by_cases h3 : x ≤ 16777216 <;> simp [h1, h2, h3]
      · by_cases h3 : x ≤ 16777216 <;> simp [h1, h2, h3]
    · simp [h1]
  refine (gauss_Right.calls x y r w hr).mono ?_
  rintro e w' ⟨he, hb⟩
  exact ⟨⟨r, he⟩, hb⟩

set_option maxHeartbeats 2000000 in
theorem vright_point (x y : Int) (w : World) : Calls Tryz.prog 54 #[pointV x y] w (BoolEnd w) := by
  unfold pointV
  go_enter Tryz.func54, Tryz.ntmps54
  go_wp2_with fail
  obtain ⟨W1, hW1⟩ : ∃ W1, W1 = w.alloc (.cells #[.int .i64 2, .int .i64 0, .string ⟨#[]⟩, .int .i64 x, .int .i64 y] 71) := ⟨_, rfl⟩
  have hB : Below w.heap.size w W1 := by rw [hW1]; exact (Below.refl _ w).alloc (Nat.le_refl _) _
  have hs1 := hB.size
  obtain ⟨k0, k1, k2, k3, k4⟩ := vcells (W := W1) (by rw [hW1]; exact heap_alloc_new w _)
  rw [← hW1]
  clear hW1
  go_still (by kernel_rfl)
  go_wp2_with fail
  refine (gright_any x y _).mono ?_
  rintro e w2 ⟨⟨q, rfl⟩, hb2⟩
  have hb3 : Below w.heap.size w w2 := hB.drew.trans (hb2.mono hs1)
  cases q
  all_goals
    go_wp2_with fail
    go_ret
    exact ⟨⟨_, rfl⟩, hb3⟩

set_option maxHeartbeats 2000000 in
theorem write_int (n : Nat) (hn : n ≤ 9007199254740992) (w : World) : Calls Tryz.prog 33 #[intV n] w fun e w' => e = .returned (.string (decB n)) ∧ Below w.heap.size w w' := by
  have HR := Lib.hid (vright_int n)
  unfold intV at *
  go_enter Tryz.func33, Tryz.ntmps33
  go_wp2_with fail
  refine (HR.out _).mono ?_
  rintro e w1 ⟨⟨q, rfl, hq⟩, hb1⟩
  obtain rfl := hq (by omega)
  have hbx := (hb1.block w.heap.size (by simp)).trans (heap_alloc_new w _)
  obtain ⟨k0, k1, k2, k3, k4⟩ := vcells hbx
  have hb2 : Below w.heap.size w w1 := ((Below.refl _ w).alloc (Nat.le_refl _) _).trans (hb1.mono (by simp))
  go_wp2_with fail
  refine (dec_any n hn _).mono ?_
  rintro e w2 ⟨rfl, hb3⟩
  go_wp2_with fail
  go_ret
  exact ⟨rfl, hb2.trans (hb3.mono hb2.size)⟩

end Go.Proofs.YtkldkaahpicnmaaGreat
/- A number in decimal: its digits, and what they come to. -/
namespace Go.Proofs.YtkldkaahpicnmaaGreat
set_option maxRecDepth 100000

def decL (n : Nat) : List UInt8 := (decB n).data.toList
/-- What digits come to. -/
def valL (l : List UInt8) : Nat := l.foldl (fun a c => 10 * a + (c.toNat - 48)) 0
theorem valL_snoc (l : List UInt8) (c : UInt8) : valL (l ++ [c]) = 10 * valL l + (c.toNat - 48) := by unfold valL; rw [List.foldl_append]; rfl

theorem digitB_list (d : Nat) (h : d < 10) : (digitB d).data.toList = [UInt8.ofNat (48 + d)] := by
  match d, h with
  | 0, _ => rfl
  | 1, _ => rfl
  | 2, _ => rfl
  | 3, _ => rfl
  | 4, _ => rfl
  | 5, _ => rfl
  | 6, _ => rfl
  | 7, _ => rfl
  | 8, _ => rfl
  | 9, _ => rfl
theorem decL_small {n : Nat} (h : n < 10) : decL n = [UInt8.ofNat (48 + n)] := by unfold decL decB; rw [if_pos h, digitB_list n h]
theorem decL_big {n : Nat} (h : ¬ n < 10) : decL n = decL (n / 10) ++ [UInt8.ofNat (48 + n % 10)] := by
  unfold decL
  conv => lhs; unfold decB
  rw [if_neg h, ByteArray.data_append, Array.toList_append, digitB_list (n % 10) (by omega)]
theorem dig_nat {d : Nat} (h : d < 10) : (UInt8.ofNat (48 + d)).toNat = 48 + d := by rw [UInt8.toNat_ofNat']; omega
theorem decL_digits (n : Nat) : ∀ c ∈ decL n, 48 ≤ c.toNat ∧ c.toNat ≤ 57 := by
  induction n using Nat.strongRecOn with
  | _ n ih =>
    by_cases h : n < 10
    · rw [decL_small h]
      intro c hc
      rw [List.mem_singleton.1 hc, dig_nat h]; omega
    · rw [decL_big h]
      intro c hc
      rcases List.mem_append.1 hc with hc | hc
      · exact ih (n / 10) (by omega) c hc
      · rw [List.mem_singleton.1 hc, dig_nat (by omega)]; omega
theorem decL_val (n : Nat) : valL (decL n) = n := by
  induction n using Nat.strongRecOn with
  | _ n ih =>
    by_cases h : n < 10
    · rw [decL_small h]
      show 10 * 0 + ((UInt8.ofNat (48 + n)).toNat - 48) = n
      rw [dig_nat h]; omega
    · rw [decL_big h, valL_snoc, ih (n / 10) (by omega), dig_nat (by omega)]; omega
theorem decL_pos (n : Nat) : 0 < (decL n).length := by
  by_cases h : n < 10
  · rw [decL_small h]; simp
  · rw [decL_big h]; simp
theorem decL_lead (n : Nat) : (decL n).length = 1 ∨ ∃ c, (decL n)[0]? = some c ∧ c.toNat ≠ 48 := by
  induction n using Nat.strongRecOn with
  | _ n ih =>
    by_cases h : n < 10
    · rw [decL_small h]; exact .inl rfl
    · have hp := decL_pos (n / 10)
      rw [decL_big h]
      refine .inr ?_
      rcases ih (n / 10) (by omega) with h1 | ⟨c, h1, h2⟩
      · by_cases h3 : n / 10 < 10
        · rw [decL_small h3]
          exact ⟨_, rfl, by rw [dig_nat h3]; omega⟩
        · rw [decL_big h3] at h1
          have := decL_pos (n / 10 / 10)
          rw [List.length_append, List.length_singleton] at h1
          omega
      · exact ⟨c, by rw [List.getElem?_append_left hp]; exact h1, h2⟩
theorem valL_take (l : List UInt8) (k : Nat) (c : UInt8) (h : l[k]? = some c) : valL (l.take (k + 1)) = 10 * valL (l.take k) + (c.toNat - 48) := by
  rw [List.take_add_one, h]; exact valL_snoc _ _
theorem valL_mono (l r : List UInt8) : valL l ≤ valL (l ++ r) := by
  induction r generalizing l with
  | nil => simp
  | cons c r ih =>
    have h1 := ih (l ++ [c])
    rw [List.append_assoc] at h1
    rw [valL_snoc] at h1
    show valL l ≤ valL (l ++ ([c] ++ r))
    omega
theorem valL_le (l : List UInt8) (k : Nat) : valL (l.take k) ≤ valL l := by
  have := valL_mono (l.take k) (l.drop k)
  rwa [List.take_append_drop] at this
theorem decL_size (n : Nat) : (decL n).length = (decB n).size := rfl
end Go.Proofs.YtkldkaahpicnmaaGreat
/- An id's name. -/
namespace Go.Proofs.YtkldkaahpicnmaaGreat
set_option maxRecDepth 100000
open Go.RowKit PFragNames

def letterB (k : Nat) : ByteArray := (⟨#[116, 97, 112, 102]⟩ : ByteArray).extract k (k + 1)
/-- The name of the first k numbers. -/
def nameUpto (l : List Int) : Nat → ByteArray
  | 0 => ⟨#[]⟩
  | k + 1 => nameUpto l k ++ (letterB k ++ decB (l.getD k 0).toNat)

theorem letterB_size (k : Nat) (h : k < 4) : (letterB k).size = 1 := by
  unfold letterB
  rw [ByteArray.size_extract]
  show min (k + 1) 4 - k = 1
  omega

theorem nameUpto_size (l : List Int) (h : ∀ n ∈ l, 0 ≤ n ∧ n ≤ 2147483647) : ∀ k, k ≤ 4 → (nameUpto l k).size ≤ k * 20
  | 0, _ => Nat.le_refl _
  | k + 1, hk => by
    have ih := nameUpto_size l h k (by omega)
    have hd : (l.getD k 0).toNat < 10 ^ (10 + 1) := by
      rw [List.getD_eq_getElem?_getD]
      cases hn : l[k]? with
      | none => simp
      | some n => have := h n (List.mem_of_getElem? hn); simp; omega
    have h1 := decB_size 10 _ hd
    have h2 := letterB_size k (by omega)
    unfold nameUpto
    rw [ByteArray.size_append, ByteArray.size_append]
    omega

theorem okId_all {a b c d : Int} (h : okId a b c d = true) (k : Nat) (n : Int) (hn : [a, b, c, d][k]? = some n) : 0 ≤ n ∧ n ≤ 2147483647 := by
  simp [okId, beyond] at h
  match k, hn with
  | 0, hn => cases hn; omega
  | 1, hn => cases hn; omega
  | 2, hn => cases hn; omega
  | 3, hn => cases hn; omega

def idCells (a b c d : Int) : Obj := .cells #[.int .i64 a, .int .i64 b, .int .i64 c, .int .i64 d] 26

theorem icells {W : World} {g : Nat} {a b c d : Int} (h : W.heap[g]? = some (.cells #[.int .i64 a, .int .i64 b, .int .i64 c, .int .i64 d] 26 (0, 0))) :
    W.cell? ⟨g, 0, none⟩ = some (.int .i64 a) ∧ W.cell? ⟨g, 1, none⟩ = some (.int .i64 b) ∧ W.cell? ⟨g, 2, none⟩ = some (.int .i64 c) ∧ W.cell? ⟨g, 3, none⟩ = some (.int .i64 d) := by
  simp [World.cell?, h]

theorem name_wrong (a b c d : Int) (h : okId a b c d = false) (w : World) : Calls Tryz.prog 13 #[idV a b c d] w fun e w' => e = .returned (.string ByteArray.empty) ∧ Below w.heap.size w w' := by
  have HR := Lib.hid (right_any a b c d)
  unfold idV at *
  go_enter Tryz.func13, Tryz.ntmps13
  go_wp2_with fail
  refine (HR.out _).mono ?_
  rintro e w1 ⟨rfl, hb1⟩
  rw [h]
  have hb2 : Below w.heap.size w w1 := ((Below.refl _ w).alloc (Nat.le_refl _) _).trans (hb1.mono (by simp))
  go_wp2_with fail
  go_ret
  exact ⟨rfl, hb2⟩

set_option maxHeartbeats 1000000 in
theorem name_right (a b c d : Int) (h : okId a b c d = true) (w : World) : Calls Tryz.prog 13 #[idV a b c d] w fun e w' => e = .returned (.string (nameUpto [a, b, c, d] 4)) ∧ Below w.heap.size w w' := by
  have HR := Lib.hid (right_any a b c d)
  have HN := Lib.hid (numbers_any a b c d)
  have HA := Lib.hid (fun k n hn => okId_all h k n hn)
  obtain ⟨l, hl⟩ : ∃ l : List Int, l = [a, b, c, d] := ⟨_, rfl⟩
  rw [← hl] at HN HA ⊢
  have hl4 : l.length = 4 := by rw [hl]; rfl
  unfold idV at *
  go_enter Tryz.func13, Tryz.ntmps13
  go_wp2_with fail
  refine (HR.out _).mono ?_
  rintro e w1 ⟨rfl, hb1⟩
  rw [h]
  have hb2 : Below w.heap.size w w1 := ((Below.refl _ w).alloc (Nat.le_refl _) _).trans (hb1.mono (by simp))
  have hbx := (hb1.block w.heap.size (by simp)).trans (heap_alloc_new w _)
  obtain ⟨k0, k1, k2, k3⟩ := icells hbx
  clear hl
  go_wp2_with fail
  refine (HN.out _).mono ?_
  rintro e w2 ⟨v, rfl, hv, hb3⟩
  obtain ⟨g, cc, rfl, hc1, hc2, hcell⟩ := hv
  have HC := Lib.hid hcell
  have hb4 : Below w.heap.size w w2 := hb2.trans (hb3.mono hb2.size)
  clear hcell
  unfold maxLen at hc2
  go_wp2_with fail
  go_loopw [3, 12] (fun out i wr => ∃ k : Nat, k ≤ 4 ∧ i = .int .i64 k ∧ out = .string (nameUpto l k) ∧ Below w2.heap.size w2 wr) (fun _ i _ => 4 - (intOf i).toNat)
  case atStart => exact ⟨0, by omega, rfl, rfl, Below.refl _ _⟩
  case round =>
    obtain ⟨k, hk, rfl, rfl, hbw⟩ := hrel
    by_cases hlt : k < 4
    · obtain ⟨n, hn⟩ : ∃ n, l[k]? = some n := ⟨_, List.getElem?_eq_getElem (by omega)⟩
      have hcl := HC.out k n hn
      have hg : g < w2.heap.size := World.block_lt_of_cell? w2 _ hcl
      have hcl2 : wr.cell? ⟨g, k, none⟩ = some (.int .i64 n) := (hbw.cell (p := ⟨g, k, none⟩) hg).trans hcl
      obtain ⟨n1, n2⟩ := HA.out k n hn
      obtain ⟨m, rfl⟩ := Int.eq_ofNat_of_zero_le n1
      have HW := Lib.hid (write_int m (by omega) wr.drew)
      have HS : Hid (nameUpto l (k + 1) = nameUpto l k ++ (letterB k ++ decB m)) := Lib.hid (by
        show nameUpto l k ++ (letterB k ++ decB (l.getD k 0).toNat) = _
        rw [List.getD_eq_getElem?_getD, hn]; rfl)
      have hz0 := nameUpto_size l (fun n hm => by obtain ⟨j, hj⟩ := List.mem_iff_getElem?.1 hm; exact HA.out j n hj) k hk
      have hz1 := decB_size 18 m (by omega)
      have hz2 := letterB_size k hlt
      have hz3 : (letterB k ++ decB m).size = 1 + (decB m).size := by rw [ByteArray.size_append, hz2]
      have hwr : IntKind.i64.wrap ((k : Int) + 1) = (k : Int) + 1 := by rw [IntKind.wrap_i64]; omega
      have hk1 : (0 : Int) ≤ (k : Int) + 1 ∧ (k : Int) + 1 ≤ 4 := by omega
      have hk2 : (k : Int) ≤ (k : Int) + 1 := by omega
      have hq1 : ¬ (9223372036854775807 < 1 + (decB m).size) := by omega
      have hq2 : ¬ (9223372036854775807 < (nameUpto l k).size + (1 + (decB m).size)) := by omega
      have hlet : (⟨#[116, 97, 112, 102]⟩ : ByteArray).extract k (k + 1) = letterB k := rfl
      clear hn hcl
      unfold intV at HW
      go_wp2_with fail
      go_region_law (first
        | (go_simp; go_at_call 33; refine HW.out.mono ?_; rintro e w3 ⟨rfl, hb5⟩))
      all_goals
        go_wp2_with fail
        go_roundw
        case rel => exact ⟨k + 1, by omega, by go_num, by rw [HS.out], hbw.drew.trans (hb5.mono hbw.size)⟩
        case measure => simp [intOf]; omega
    · obtain rfl : k = 4 := by omega
      go_wp2_with fail
      go_ret
      exact ⟨rfl, hb4.trans (hbw.mono hb4.size)⟩

end Go.Proofs.YtkldkaahpicnmaaGreat
/- A number, read. -/
namespace Go.Proofs.YtkldkaahpicnmaaGreat
set_option maxRecDepth 100000
open Go.RowKit PFragNames

theorem wp_scope_label {P : Program} {c K : Code} {a : Act} {w : World} {Q : Exit → Act → World → Prop} (l : Nat) (J : Act → World → Prop) (μ : Act → World → Nat) (hf : findLabel c l = some (.seq .skip K))
    (pass : ∀ a w, J a w → K.wp P (Exit.jump l (fun a' w' => J a' w' ∧ μ a' w' < μ a w) Q) a w)
    (first : (∀ a w, J a w → K.wp P (Exit.jump l J Q) a w) → c.wp P (Exit.jump l J Q) a w) : (Code.scope c).wp P Q a w := by
  refine wp_scope_jumps l J μ hf (first fun a w h => ?_) (fun a w h => wp_seq (wp_skip (pass a w h)))
  intro b k cs
  obtain ⟨e, a₁, w₁, hq, harr⟩ := pass a w h b k cs
  refine ⟨e, a₁, w₁, ?_, harr⟩
  cases e with
  | goto l' =>
    simp only [Exit.jump] at hq ⊢
    exact ⟨hq.1, hq.2.1⟩
  | normal => exact hq
  | exit _ => exact hq
  | ret => exact hq
  | panic _ => exact hq
  | outgrown => exact hq

theorem digit_any (c : Int) (w : World) : Calls Tryz.prog 97 #[.int .u8 c] w (BoolEnd w) := by
  obtain ⟨r, hr⟩ : ∃ r, value_digit.f c = some r := by
    unfold value_digit.f
    by_cases h : c ≥ 48 <;> simp [h]
  refine (value_digit.calls c r w hr).mono ?_
  rintro e w' ⟨he, hd⟩
  obtain ⟨m, rfl⟩ := hd.out
  exact ⟨⟨r, he⟩, ⟨rfl, rfl, rfl, Nat.le_refl _, fun _ _ => rfl⟩⟩

theorem plain_any (c : Int) (w : World) : Calls Tryz.prog 78 #[.int .u8 c] w (BoolEnd w) := by
  obtain ⟨r, hr⟩ : ∃ r, value_plain.f c = some r := by
    unfold value_plain.f
    by_cases h1 : c ≥ 32 <;> by_cases h2 : c ≤ 126 <;> by_cases h3 : c = 34 <;> simp [h1, h2, h3]
  refine (value_plain.calls c r w hr).mono ?_
  rintro e w' ⟨he, hd⟩
  obtain ⟨m, rfl⟩ := hd.out
  exact ⟨⟨r, he⟩, ⟨rfl, rfl, rfl, Nat.le_refl _, fun _ _ => rfl⟩⟩

/-- A number, the place behind it, an error come back. -/
def NumEnd (s : ByteArray) (w : World) (e : Ending) (w' : World) : Prop :=
  (∃ (n : Int) (i : Nat) (er : Int), e = .returned (.tuple #[.int .i64 n, .int .i64 (i : Int), .int .i64 er]) ∧ i ≤ s.size) ∧ Below w.heap.size w w'

def NumA (s : ByteArray) (f i : Nat) (m sg : Int) (a : Act) : Prop :=
  ∃ u2 u3 u4 u5 u6 u10 u11 u12 u13 u14 u15 u16 u17 u18 u19 u20 u21 u22 u23 u24 u25 u26 u27 u28 u29 u30 u31 u32 u33 u34 u35 u36 u37 u38 u39 u40 u41 u42 u43 u44 u45 u46 u47 u48 u49 u50 u51 u52 u53 u54 u55 u56 u57 u58 u59 u60 u61 u62 u63 u64 u65 u66 u67 u68 u69 u70 u71 u72 : Value, a = ⟨#[.string s, .int .i64 (i : Nat), u2, u3, u4, u5, u6, .int .i64 m, .int .i64 sg, .int .i64 (f : Nat), u10, u11, u12, u13, u14, u15, u16, u17, u18, u19, u20, u21, u22, u23, u24, u25, u26, u27, u28, u29, u30, u31, u32, u33, u34, u35, u36, u37, u38, u39, u40, u41, u42, u43, u44, u45, u46, u47, u48, u49, u50, u51, u52, u53, u54, u55, u56, u57, u58, u59, u60, u61, u62, u63, u64, u65, u66, u67, u68, u69, u70, u71, u72], []⟩

structure NumJ (s : ByteArray) (f i : Nat) (m sg : Int) (w w' : World) : Prop where
  ff : f < s.size
  fi : f ≤ i
  ii : i ≤ s.size
  m0 : 0 ≤ m
  m1 : m ≤ 18014398509481984
  sg : sg = 1 ∨ sg = -1
  bel : Below w.heap.size w w'

set_option maxHeartbeats 4000000 in
theorem number_any (s : ByteArray) (i0 : Nat) (hs : s.size ≤ 1000000) (hi : i0 ≤ s.size) (w : World) : Calls Tryz.prog 111 #[.string s, .int .i64 (i0 : Int)] w (NumEnd s w) := by
  go_enter Tryz.func111, Tryz.ntmps111
  go_wp2_with fail
  refine wp_scope_label 0 (fun a' w' => ∃ f i m sg, NumA s f i m sg a' ∧ NumJ s f i m sg w w') (fun a' _ => s.size - (intOf (a'.tmps.getD 1 undef)).toNat) rfl ?_ ?_
  · rintro a' w' ⟨f, i, m, sg, hA, hJ⟩
    unfold NumA at hA
    obtain ⟨u2, hA⟩ := hA
    obtain ⟨u3, hA⟩ := hA
    obtain ⟨u4, hA⟩ := hA
    obtain ⟨u5, hA⟩ := hA
    obtain ⟨u6, hA⟩ := hA
    obtain ⟨u10, hA⟩ := hA
    obtain ⟨u11, hA⟩ := hA
    obtain ⟨u12, hA⟩ := hA
    obtain ⟨u13, hA⟩ := hA
    obtain ⟨u14, hA⟩ := hA
    obtain ⟨u15, hA⟩ := hA
    obtain ⟨u16, hA⟩ := hA
    obtain ⟨u17, hA⟩ := hA
    obtain ⟨u18, hA⟩ := hA
    obtain ⟨u19, hA⟩ := hA
    obtain ⟨u20, hA⟩ := hA
    obtain ⟨u21, hA⟩ := hA
    obtain ⟨u22, hA⟩ := hA
    obtain ⟨u23, hA⟩ := hA
    obtain ⟨u24, hA⟩ := hA
    obtain ⟨u25, hA⟩ := hA
    obtain ⟨u26, hA⟩ := hA
    obtain ⟨u27, hA⟩ := hA
    obtain ⟨u28, hA⟩ := hA
    obtain ⟨u29, hA⟩ := hA
    obtain ⟨u30, hA⟩ := hA
    obtain ⟨u31, hA⟩ := hA
    obtain ⟨u32, hA⟩ := hA
    obtain ⟨u33, hA⟩ := hA
    obtain ⟨u34, hA⟩ := hA
    obtain ⟨u35, hA⟩ := hA
    obtain ⟨u36, hA⟩ := hA
    obtain ⟨u37, hA⟩ := hA
    obtain ⟨u38, hA⟩ := hA
    obtain ⟨u39, hA⟩ := hA
    obtain ⟨u40, hA⟩ := hA
    obtain ⟨u41, hA⟩ := hA
    obtain ⟨u42, hA⟩ := hA
    obtain ⟨u43, hA⟩ := hA
    obtain ⟨u44, hA⟩ := hA
    obtain ⟨u45, hA⟩ := hA
    obtain ⟨u46, hA⟩ := hA
    obtain ⟨u47, hA⟩ := hA
    obtain ⟨u48, hA⟩ := hA
    obtain ⟨u49, hA⟩ := hA
    obtain ⟨u50, hA⟩ := hA
    obtain ⟨u51, hA⟩ := hA
    obtain ⟨u52, hA⟩ := hA
    obtain ⟨u53, hA⟩ := hA
    obtain ⟨u54, hA⟩ := hA
    obtain ⟨u55, hA⟩ := hA
    obtain ⟨u56, hA⟩ := hA
    obtain ⟨u57, hA⟩ := hA
    obtain ⟨u58, hA⟩ := hA
    obtain ⟨u59, hA⟩ := hA
    obtain ⟨u60, hA⟩ := hA
    obtain ⟨u61, hA⟩ := hA
    obtain ⟨u62, hA⟩ := hA
    obtain ⟨u63, hA⟩ := hA
    obtain ⟨u64, hA⟩ := hA
    obtain ⟨u65, hA⟩ := hA
    obtain ⟨u66, hA⟩ := hA
    obtain ⟨u67, hA⟩ := hA
    obtain ⟨u68, hA⟩ := hA
    obtain ⟨u69, hA⟩ := hA
    obtain ⟨u70, hA⟩ := hA
    obtain ⟨u71, hA⟩ := hA
    obtain ⟨u72, hA⟩ := hA
    subst hA
    obtain ⟨j1, j2, j3, j4, j5, j6, j7⟩ := hJ
    have hs1 := j7.size
    by_cases hlt : i < s.size
    · go_wp2_with fail
      refine (digit_any _ _).mono ?_
      rintro e w1 ⟨⟨q, rfl⟩, hb1⟩
      have hb2 : Below w.heap.size w w1 := j7.trans (hb1.mono hs1)
      cases q
      · go_wp2_with fail
        all_goals
          simp only [Exit.jump]
          go_ret3
          first | exact ⟨⟨_, i, _, rfl, by omega⟩, hb2⟩ | exact ⟨⟨_, 0, _, rfl, by omega⟩, hb2⟩
      · go_wp2_with fail
        go_step3
        refine ⟨rfl, ⟨f, i + 1, min (10 * m + ((s[i].toNat : Int) - 48) % 256) 18014398509481984, sg, ?fr, ⟨j1, by omega, by omega, ?_, ?_, j6, hb2⟩⟩, ?_⟩
        case fr => unfold NumA; (repeat apply Exists.intro); rfl
        · omega
        · omega
        · simp [intOf]; omega
    · obtain rfl : i = s.size := by omega
      go_wp2_with fail
      all_goals
        simp only [Exit.jump]
        go_ret3
        first | exact ⟨⟨_, s.size, _, rfl, by omega⟩, j7⟩ | exact ⟨⟨_, 0, _, rfl, by omega⟩, j7⟩
  · intro HP
    by_cases hlt : i0 < s.size
    · go_wp2_with fail
      all_goals first
        | (simp only [Exit.jump]; go_ret3; exact ⟨⟨_, 0, _, rfl, Nat.zero_le _⟩, Below.refl _ _⟩)
        | skip
      all_goals
        refine (digit_any _ _).mono ?_
        rintro e w1 ⟨⟨q, rfl⟩, hb1⟩
        cases q
        · go_wp2_with fail
          simp only [Exit.jump]
          go_ret3
          exact ⟨⟨_, 0, _, rfl, Nat.zero_le _⟩, hb1⟩
        · go_wp2_with fail
          go_step3
          rename_i hKK
          refine hKK _ _ (HP _ _ ?_)
          first
            | (refine ⟨i0, i0, 0, 1, ?fr, ⟨hlt, Nat.le_refl _, hi, by decide, by decide, .inl rfl, hb1⟩⟩
               case fr => unfold NumA; (repeat apply Exists.intro); rfl)
            | (refine ⟨i0 + 1, i0 + 1, 0, -1, ?fr, ⟨by omega, Nat.le_refl _, by omega, by decide, by decide, .inr rfl, hb1⟩⟩
               case fr => unfold NumA; (repeat apply Exists.intro); rfl)
    · obtain rfl : i0 = s.size := by omega
      go_wp2_with fail
      simp only [Exit.jump]
      go_ret3
      exact ⟨⟨_, 0, _, rfl, Nat.zero_le _⟩, Below.refl _ _⟩

end Go.Proofs.YtkldkaahpicnmaaGreat
/- A number in decimal is read as it was written. -/
namespace Go.Proofs.YtkldkaahpicnmaaGreat
set_option maxRecDepth 100000
open Go.RowKit PFragNames

theorem digit_yes (c : Int) (h1 : 48 ≤ c) (h2 : c ≤ 57) (w : World) : Calls Tryz.prog 97 #[.int .u8 c] w fun e w' => e = .returned (.bool true) ∧ Below w.heap.size w w' := by
  have hr : value_digit.f c = some true := by
    unfold value_digit.f
    rw [if_pos (by omega), decide_eq_true h2]
  refine (value_digit.calls c true w hr).mono ?_
  rintro e w' ⟨he, hd⟩
  obtain ⟨m, rfl⟩ := hd.out
  exact ⟨he, ⟨rfl, rfl, rfl, Nat.le_refl _, fun _ _ => rfl⟩⟩
theorem digit_no (c : Int) (h : ¬ (48 ≤ c ∧ c ≤ 57)) (w : World) : Calls Tryz.prog 97 #[.int .u8 c] w fun e w' => e = .returned (.bool false) ∧ Below w.heap.size w w' := by
  have hr : value_digit.f c = some false := by
    unfold value_digit.f
    by_cases h1 : c ≥ 48
    · rw [if_pos h1, decide_eq_false (by omega)]
    · rw [if_neg h1]
  refine (value_digit.calls c false w hr).mono ?_
  rintro e w' ⟨he, hd⟩
  obtain ⟨m, rfl⟩ := hd.out
  exact ⟨he, ⟨rfl, rfl, rfl, Nat.le_refl _, fun _ _ => rfl⟩⟩

structure NumK (n i k : Nat) (m : Int) (w w' : World) : Prop where
  le : k ≤ (decL n).length
  val : m = (valL ((decL n).take k) : Nat)
  bel : Below w.heap.size w w'

set_option maxHeartbeats 4000000 in
set_option maxRecDepth 100000 in
theorem number_ex (s : ByteArray) (i0 n : Nat) (rest : List UInt8) (hs : s.size ≤ 1000000) (hi : i0 ≤ s.size) (hd : s.data.toList.drop i0 = decL n ++ rest) (hr : ∀ c, rest[0]? = some c → ¬ ((48 : Int) ≤ (c.toNat : Int) ∧ (c.toNat : Int) ≤ 57)) (hn : n ≤ 2147483647) (w : World) :
    Calls Tryz.prog 111 #[.string s, .int .i64 (i0 : Int)] w fun e w' => e = .returned (.tuple #[.int .i64 (n : Int), .int .i64 ((i0 + (decL n).length : Nat) : Int), .int .i64 0]) ∧ Below w.heap.size w w' := by
  have hpos := decL_pos n
  have hlead := decL_lead n
  have hlen : i0 + (decL n).length + rest.length = s.size := by
    have := congrArg List.length hd
    rw [List.length_drop, List.length_append] at this
    have e : s.data.toList.length = s.size := by simp
    omega
  have hat : ∀ i k, i = i0 + k → (h : k < (decL n).length) → ∃ h2 : i < s.size, (decL n)[k]? = some s[i] ∧ (48 : Int) ≤ (s[i].toNat : Int) ∧ (s[i].toNat : Int) ≤ 57 := by
    intro i k hik h
    have h2 : i < s.size := by omega
    have e1 : (s.data.toList.drop i0)[k]? = some s[i] := by
      rw [List.getElem?_drop, ← hik]
      simp [h2]
      rfl
    rw [hd, List.getElem?_append_left h] at e1
    have := decL_digits n s[i] (List.mem_of_getElem? e1)
    exact ⟨h2, e1, by omega, by omega⟩
  have hend : ∀ i, i = i0 + (decL n).length → (h : i < s.size) → ¬ ((48 : Int) ≤ (s[i].toNat : Int) ∧ (s[i].toNat : Int) ≤ 57) := by
    intro i hi h
    have e1 : (s.data.toList.drop i0)[(decL n).length]? = some s[i] := by
      rw [List.getElem?_drop, ← hi]
      simp [h]
      rfl
    rw [hd, List.getElem?_append_right (Nat.le_refl _), Nat.sub_self] at e1
    exact hr _ e1
  have hval := decL_val n
  have HAT := Lib.hid hat
  have HEND := Lib.hid hend
  have HVAL := Lib.hid hval
  obtain ⟨h00, h01, h02, h03⟩ := hat i0 0 rfl hpos
  have H01 := Lib.hid h01
  obtain ⟨L, hL⟩ : ∃ L, L = (decL n).length := ⟨_, rfl⟩
  have HL := Lib.hid hL
  have hlL : i0 + L + rest.length = s.size := by omega
  have hposL : 0 < L := by omega
  have hlead2 : L = 1 ∨ ((s[i0].toNat : Int) == 48) = false := by
    rcases hlead with h | ⟨c, h1, h2⟩
    · exact .inl (by omega)
    · refine .inr ?_
      have e := H01.out.symm.trans h1
      injection e with e
      rw [beq_eq_false_iff_ne, e]
      omega
  have h45 : ((s[i0].toNat : Int) == 45) = false := by rw [beq_eq_false_iff_ne]; omega
  rw [← hL]
  have HLEAD := Lib.hid hlead2
  clear hat hend hval hd hr hlen hL hpos hlead h01 hlead2
  go_enter Tryz.func111, Tryz.ntmps111
  go_wp2_with fail
  refine wp_scope_label 0 (fun a' w' => ∃ k m, NumA s i0 (i0 + k) m 1 a' ∧ NumK n i0 k m w w') (fun a' _ => s.size - (intOf (a'.tmps.getD 1 undef)).toNat) rfl ?_ ?_
  · rintro a' w' ⟨k, m, hA, hJ⟩
    unfold NumA at hA
    obtain ⟨u2, hA⟩ := hA
    obtain ⟨u3, hA⟩ := hA
    obtain ⟨u4, hA⟩ := hA
    obtain ⟨u5, hA⟩ := hA
    obtain ⟨u6, hA⟩ := hA
    obtain ⟨u10, hA⟩ := hA
    obtain ⟨u11, hA⟩ := hA
    obtain ⟨u12, hA⟩ := hA
    obtain ⟨u13, hA⟩ := hA
    obtain ⟨u14, hA⟩ := hA
    obtain ⟨u15, hA⟩ := hA
    obtain ⟨u16, hA⟩ := hA
    obtain ⟨u17, hA⟩ := hA
    obtain ⟨u18, hA⟩ := hA
    obtain ⟨u19, hA⟩ := hA
    obtain ⟨u20, hA⟩ := hA
    obtain ⟨u21, hA⟩ := hA
    obtain ⟨u22, hA⟩ := hA
    obtain ⟨u23, hA⟩ := hA
    obtain ⟨u24, hA⟩ := hA
    obtain ⟨u25, hA⟩ := hA
    obtain ⟨u26, hA⟩ := hA
    obtain ⟨u27, hA⟩ := hA
    obtain ⟨u28, hA⟩ := hA
    obtain ⟨u29, hA⟩ := hA
    obtain ⟨u30, hA⟩ := hA
    obtain ⟨u31, hA⟩ := hA
    obtain ⟨u32, hA⟩ := hA
    obtain ⟨u33, hA⟩ := hA
    obtain ⟨u34, hA⟩ := hA
    obtain ⟨u35, hA⟩ := hA
    obtain ⟨u36, hA⟩ := hA
    obtain ⟨u37, hA⟩ := hA
    obtain ⟨u38, hA⟩ := hA
    obtain ⟨u39, hA⟩ := hA
    obtain ⟨u40, hA⟩ := hA
    obtain ⟨u41, hA⟩ := hA
    obtain ⟨u42, hA⟩ := hA
    obtain ⟨u43, hA⟩ := hA
    obtain ⟨u44, hA⟩ := hA
    obtain ⟨u45, hA⟩ := hA
    obtain ⟨u46, hA⟩ := hA
    obtain ⟨u47, hA⟩ := hA
    obtain ⟨u48, hA⟩ := hA
    obtain ⟨u49, hA⟩ := hA
    obtain ⟨u50, hA⟩ := hA
    obtain ⟨u51, hA⟩ := hA
    obtain ⟨u52, hA⟩ := hA
    obtain ⟨u53, hA⟩ := hA
    obtain ⟨u54, hA⟩ := hA
    obtain ⟨u55, hA⟩ := hA
    obtain ⟨u56, hA⟩ := hA
    obtain ⟨u57, hA⟩ := hA
    obtain ⟨u58, hA⟩ := hA
    obtain ⟨u59, hA⟩ := hA
    obtain ⟨u60, hA⟩ := hA
    obtain ⟨u61, hA⟩ := hA
    obtain ⟨u62, hA⟩ := hA
    obtain ⟨u63, hA⟩ := hA
    obtain ⟨u64, hA⟩ := hA
    obtain ⟨u65, hA⟩ := hA
    obtain ⟨u66, hA⟩ := hA
    obtain ⟨u67, hA⟩ := hA
    obtain ⟨u68, hA⟩ := hA
    obtain ⟨u69, hA⟩ := hA
    obtain ⟨u70, hA⟩ := hA
    obtain ⟨u71, hA⟩ := hA
    obtain ⟨u72, hA⟩ := hA
    subst hA
    have hkL : k ≤ L := by have := hJ.le; rw [← HL.out] at this; exact this
    have HJ := Lib.hid hJ
    have hs1 := hJ.bel.size
    have hm0 : 0 ≤ m := by rw [hJ.val]; omega
    have hm1 : m ≤ 2147483647 := by
      have h1 := valL_le (decL n) k
      rw [HVAL.out] at h1
      rw [hJ.val]; omega
    obtain ⟨i, hii⟩ : ∃ i, i = i0 + k := ⟨_, rfl⟩
    rw [← hii]
    clear hJ
    by_cases hlt : k < L
    · obtain ⟨g0, g1, g2, g3⟩ := HAT.out i k hii (by rw [← HL.out]; exact hlt)
      have HII := Lib.hid hii
      have HG := Lib.hid g1
      clear hii g1
      go_wp2_with fail
      refine (digit_yes _ g2 g3 _).mono ?_
      rintro e w1 ⟨rfl, hb1⟩
      have hb2 : Below w.heap.size w w1 := HJ.out.bel.trans (hb1.mono hs1)
      go_wp2_with fail
      go_step3
      have hv : min (10 * m + ((s[i].toNat : Int) - 48)) 18014398509481984 = ((valL ((decL n).take (k + 1)) : Nat) : Int) := by
        have e1 := valL_take (decL n) k s[i] HG.out
        have e2 := valL_le (decL n) (k + 1)
        rw [HVAL.out] at e2
        have e3 := HJ.out.val
        omega
      refine ⟨rfl, ⟨k + 1, min (10 * m + ((s[i].toNat : Int) - 48)) 18014398509481984, ?fr, ⟨by rw [← HL.out]; omega, hv, hb2⟩⟩, ?_⟩
      case fr => rw [show i0 + (k + 1) = i + 1 by rw [HII.out]; omega]; unfold NumA; (repeat apply Exists.intro); rfl
      · simp [intOf]; omega
    · obtain rfl : k = L := by omega
      have hmn : m = (n : Int) := by
        rw [HJ.out.val, HL.out, List.take_length, HVAL.out]
      subst hmn
      have hz : ((s[i0].toNat : Int) == 48) = true ∧ (i : Int) ≤ (i0 : Int) + 1 ∨ ((s[i0].toNat : Int) == 48) = false := by
        rcases HLEAD.out with h1 | h1
        · by_cases h48 : ((s[i0].toNat : Int) == 48) = true
          · exact .inl ⟨h48, by omega⟩
          · exact .inr (by simpa using h48)
        · exact .inr h1
      have hend := fun h => HEND.out i (by rw [← HL.out]; exact hii) h
      have hii2 : (i0 : Int) + 1 ≤ (i : Int) := by omega
      have hii3 : i ≤ s.size := by omega
      have hr : ((i0 + k : Nat) : Int) = (i : Int) := by rw [hii]
      have HR := Lib.hid hr
      clear hii hr
      by_cases hls : i < s.size
      · have hno := hend hls
        have HNO := Lib.hid hno
        clear hend hno
        rcases hz with ⟨hz1, hz2⟩ | hz1
        all_goals
          go_wp2_with fail
          refine (digit_no _ HNO.out _).mono ?_
          rintro e w1 ⟨rfl, hb1⟩
          have hb2 : Below w.heap.size w w1 := HJ.out.bel.trans (hb1.mono hs1)
          go_wp2_with fail
          simp only [Exit.jump]
          go_ret3
          exact ⟨by rw [HR.out]; rfl, hb2⟩
      · obtain rfl : i = s.size := by omega
        clear hend
        rcases hz with ⟨hz1, hz2⟩ | hz1
        all_goals
          go_wp2_with fail
          simp only [Exit.jump]
          go_ret3
          exact ⟨by rw [HR.out]; rfl, HJ.out.bel⟩
  · intro HP
    go_wp2_with fail
    refine (digit_yes _ h02 h03 _).mono ?_
    rintro e w1 ⟨rfl, hb1⟩
    go_wp2_with fail
    go_step3
    rename_i hKK
    refine hKK _ _ (HP _ _ ?_)
    refine ⟨0, 0, ?fr, ⟨by omega, rfl, hb1⟩⟩
    case fr => unfold NumA; (repeat apply Exists.intro); rfl
end Go.Proofs.YtkldkaahpicnmaaGreat
/- A byte in two digits, read. -/
namespace Go.Proofs.YtkldkaahpicnmaaGreat
set_option maxRecDepth 100000
open Go.RowKit PFragNames

theorem ibs_call (s : ByteArray) (c : Int) (w : World) : (callFunc 119 #[.string s, .int .u8 c]).run Tryz.prog w = .ok (.value (.int .i64 (Lib.indexByte s.data.toList c.toNat.toUInt8))) w := by
  rw [run_callFunc_extern (e := Extern.BytealgIndexByte.indexByte) Tryz.func119 (by kernel_rfl) (by kernel_rfl) (by kernel_rfl) (by kernel_rfl), Lib.run_indexByteString]
  rfl

section
attribute [local go_sem] ibs_call
theorem ib51 (s : ByteArray) (c : Int) (w : World) : Calls Tryz.prog 118 #[.string s, .int .u8 c] w fun e w' => e = .returned (.int .i64 (Lib.indexByte s.data.toList c.toNat.toUInt8)) ∧ w = w' := by
  go_enter Tryz.func118, Tryz.ntmps118
  go_wp2
  go_ret
  exact ⟨rfl, rfl⟩
end

theorem ib50 (s : ByteArray) (c : Int) (w : World) : Calls Tryz.prog 116 #[.string s, .int .u8 c] w fun e w' => e = .returned (.int .i64 (Lib.indexByte s.data.toList c.toNat.toUInt8)) ∧ w = w' := by
  go_enter Tryz.func116, Tryz.ntmps116
  go_wp2_with fail
  refine (ib51 s c _).mono ?_
  rintro e w' ⟨rfl, rfl⟩
  go_wp2_with fail
  go_ret
  exact ⟨rfl, rfl⟩

/-- A byte and an error come back. -/
def ByteEnd (w : World) (e : Ending) (w' : World) : Prop :=
  (∃ (b : UInt8) (er : Int), e = .returned (.tuple #[.int .u8 (b.toNat : Int), .int .i64 er])) ∧ Below w.heap.size w w'

theorem u8_of (x : Int) (h : 0 ≤ x ∧ x ≤ 255) : ∃ b : UInt8, x = (b.toNat : Int) := ⟨UInt8.ofNat x.toNat, by rw [UInt8.toNat_ofNat']; omega⟩

set_option maxHeartbeats 2000000 in
theorem escaped_any (s : ByteArray) (i : Nat) (hs : s.size ≤ 1000000) (hi : i ≤ 1000010) (w : World) : Calls Tryz.prog 110 #[.string s, .int .i64 (i : Int)] w (ByteEnd w) := by
  go_enter Tryz.func110, Tryz.ntmps110
  go_wp2_with fail
  go_loopw [6, 7] (fun out k wr => ∃ (x : Int) (j : Nat), j ≤ i + 2 ∧ k = .int .i64 (j : Int) ∧ out = .int .i64 x ∧ Below w.heap.size w wr) (fun _ k _ => i + 2 - (intOf k).toNat)
  case atStart => exact ⟨0, i, by omega, rfl, rfl, Below.refl _ _⟩
  case round =>
    obtain ⟨x, j, hj, rfl, rfl, hb⟩ := hrel
    by_cases hlt : j < i + 2
    · by_cases hls : j < s.size
      · go_wp2_with fail
        refine (ib50 _ _ _).mono ?_
        rintro e w1 ⟨rfl, rfl⟩
        generalize Lib.indexByte _ _ = r
        go_wp2_with fail
        · go_ret2
          exact ⟨⟨0, _, rfl⟩, hb⟩
        · go_roundw
          case rel => exact ⟨_, j + 1, by omega, by go_num, rfl, hb⟩
          case measure => simp [intOf]; omega
      · go_wp2_with fail
        go_ret2
        exact ⟨⟨0, _, rfl⟩, hb⟩
    · go_wp2_with fail
      refine (plain_any _ _).mono ?_
      rintro e w1 ⟨⟨q, rfl⟩, hb1⟩
      have hb2 := hb.trans (hb1.mono hb.size)
      cases q
      · go_wp2_with fail
        go_ret2
        obtain ⟨b, hb'⟩ := u8_of (x % 256) (by omega)
        exact ⟨⟨b, 0, by rw [← hb']; rfl⟩, hb2⟩
      · go_wp2_with fail
        go_ret2
        exact ⟨⟨0, _, rfl⟩, hb2⟩

end Go.Proofs.YtkldkaahpicnmaaGreat
/- A text in quotes, read. -/
namespace Go.Proofs.YtkldkaahpicnmaaGreat
set_option maxRecDepth 100000
open Go.RowKit PFragNames
open Go.Proofs.YtkldkaahpicnmaaGreatW.PrintWords

theorem info5 : (Tryz.prog.info? 5).map (fun i => (i.zero, i.size, i.bytes)) = some (some (.int .u8 0), 1, 1) := by kernel_rfl

theorem src_one_u8 (w : World) (vb : Nat) (c : Int) (hs : w.heap[vb]? = some (.cells #[.int .u8 c] 5 (0, 0))) : Src Tryz.prog 1 66 (.slice (some ⟨vb, 0, none⟩) 1 1) 1 [.int .u8 c] w :=
  Src.ofSlice w Tryz.underlying66 ⟨vb, 0, none⟩ 1 1 [.int .u8 c] rfl (fun j u hu => by
    obtain rfl : j = 0 := by have := (List.getElem?_eq_some_iff.1 hu).1; simpa using this
    rw [Addr.add_lit]
    simp at hu
    subst hu
    simp [World.cell?, hs]) (fun u hu => by simp at hu; subst hu; rfl)

theorem conv_own {W : World} {B : Nat} {v : Value} {l : List UInt8} (h : W.ownsRow B 5 1 v l.length (l.map fun b => Value.int .u8 (b.toNat : Int))) : (convert 66 9 v).run Tryz.prog W = .ok (.string ⟨l.toArray⟩) W := by
  rcases h.2 with ⟨rfl, h0⟩ | ⟨g, c, cur, rfl, _⟩
  · obtain rfl : l = [] := List.length_eq_zero_iff.1 h0
    exact run_convert_bytes_nil W 66 5 Tryz.underlying66 Tryz.underlying5 0 0 9 Tryz.underlying9
  · refine run_convert_bytes_back W 66 9 5 ⟨g, 0, none⟩ c l Tryz.underlying66 Tryz.underlying5 Tryz.underlying9 (fun j hj => ?_)
    exact h.cells (g := g) rfl j _ (by rw [List.getElem?_map, List.getElem?_eq_getElem hj]; rfl)

theorem set5 {W : World} {g : Nat} {a0 a1 a2 a3 a4 : Value} (h : W.heap[g]? = some (.cells #[a0, a1, a2, a3, a4] 71 (0, 0))) (b0 b1 b2 b3 b4 : Value) :
    (((((W.setCell ⟨g, 0, none⟩ b0).setCell ⟨g, 1, none⟩ b1).setCell ⟨g, 2, none⟩ b2).setCell ⟨g, 3, none⟩ b3).setCell ⟨g, 4, none⟩ b4).heap[g]? = some (.cells #[b0, b1, b2, b3, b4] 71 (0, 0)) := by
  simp [World.setCell, Array.getElem?_modify, h]

theorem below5 {B : Nat} {w W : World} {g : Nat} (h : Below B w W) (hg : B ≤ g) (b0 b1 b2 b3 b4 : Value) :
    Below B w (((((W.setCell ⟨g, 0, none⟩ b0).setCell ⟨g, 1, none⟩ b1).setCell ⟨g, 2, none⟩ b2).setCell ⟨g, 3, none⟩ b3).setCell ⟨g, 4, none⟩ b4) :=
  ((((h.setCell (p := ⟨g, 0, none⟩) hg _).setCell (p := ⟨g, 1, none⟩) hg _).setCell (p := ⟨g, 2, none⟩) hg _).setCell (p := ⟨g, 3, none⟩) hg _).setCell (p := ⟨g, 4, none⟩) hg _

/-- A value, the place behind it, an error come back. -/
def ValEnd (s : ByteArray) (w : World) (e : Ending) (w' : World) : Prop :=
  (∃ (kd n : Int) (o : ByteArray) (x y : Int) (i : Nat) (er : Int), e = .returned (.tuple #[.agg #[.int .i64 kd, .int .i64 n, .string o, .int .i64 x, .int .i64 y], .int .i64 (i : Int), .int .i64 er]) ∧ i ≤ s.size) ∧ Below w.heap.size w w'

def TextA (s : ByteArray) (g i : Nat) (vo : Value) (a : Act) : Prop :=
  ∃ u1 u3 u4 u7 u8 u9 u10 u11 u12 u13 u14 u15 u16 u17 u18 u19 u20 u21 u22 u23 u24 u25 u26 u27 u28 u29 u30 u31 u32 u33 u34 u35 u36 u37 u38 u39 u40 u41 u42 u43 u44 u45 u46 u47 u48 u49 u50 u51 u52 u53 u54 u55 u56 u57 u58 u59 u60 u61 u62 u63 u64 u65 : Value, a = ⟨#[.string s, u1, .pointer (some ⟨g, 0, none⟩), u3, u4, vo, .int .i64 (i : Nat), u7, u8, u9, u10, u11, u12, u13, u14, u15, u16, u17, u18, u19, u20, u21, u22, u23, u24, u25, u26, u27, u28, u29, u30, u31, u32, u33, u34, u35, u36, u37, u38, u39, u40, u41, u42, u43, u44, u45, u46, u47, u48, u49, u50, u51, u52, u53, u54, u55, u56, u57, u58, u59, u60, u61, u62, u63, u64, u65], []⟩

structure TextJ (s : ByteArray) (g i : Nat) (vo : Value) (l : List UInt8) (w w' : World) : Prop where
  ii : i ≤ s.size + 3
  li : l.length ≤ i
  gg : g = w.heap.size
  box : w'.heap[g]? = some (.cells #[.int .i64 0, .int .i64 0, .string ⟨#[]⟩, .int .i64 0, .int .i64 0] 71 (0, 0))
  row : w'.ownsRow (w.heap.size + 1) 5 1 vo l.length (l.map fun b => Value.int .u8 (b.toNat : Int))
  bel : Below w.heap.size w w'

set_option maxHeartbeats 4000000 in
theorem text_any (s : ByteArray) (hs : s.size ≤ 1000000) (w : World) : Calls Tryz.prog 96 #[.string s] w (ValEnd s w) := by
  go_enter Tryz.func96, Tryz.ntmps96
  go_wp2_with fail
  refine wp_scope_label 0 (fun a' w' => ∃ g i vo l, TextA s g i vo a' ∧ TextJ s g i vo l w w') (fun a' _ => s.size + 4 - (intOf (a'.tmps.getD 6 undef)).toNat) rfl ?_ ?_
  · rintro a' w' ⟨g, i, vo, l, hA, hJ⟩
    unfold TextA at hA
    obtain ⟨u1, hA⟩ := hA
    obtain ⟨u3, hA⟩ := hA
    obtain ⟨u4, hA⟩ := hA
    obtain ⟨u7, hA⟩ := hA
    obtain ⟨u8, hA⟩ := hA
    obtain ⟨u9, hA⟩ := hA
    obtain ⟨u10, hA⟩ := hA
    obtain ⟨u11, hA⟩ := hA
    obtain ⟨u12, hA⟩ := hA
    obtain ⟨u13, hA⟩ := hA
    obtain ⟨u14, hA⟩ := hA
    obtain ⟨u15, hA⟩ := hA
    obtain ⟨u16, hA⟩ := hA
    obtain ⟨u17, hA⟩ := hA
    obtain ⟨u18, hA⟩ := hA
    obtain ⟨u19, hA⟩ := hA
    obtain ⟨u20, hA⟩ := hA
    obtain ⟨u21, hA⟩ := hA
    obtain ⟨u22, hA⟩ := hA
    obtain ⟨u23, hA⟩ := hA
    obtain ⟨u24, hA⟩ := hA
    obtain ⟨u25, hA⟩ := hA
    obtain ⟨u26, hA⟩ := hA
    obtain ⟨u27, hA⟩ := hA
    obtain ⟨u28, hA⟩ := hA
    obtain ⟨u29, hA⟩ := hA
    obtain ⟨u30, hA⟩ := hA
    obtain ⟨u31, hA⟩ := hA
    obtain ⟨u32, hA⟩ := hA
    obtain ⟨u33, hA⟩ := hA
    obtain ⟨u34, hA⟩ := hA
    obtain ⟨u35, hA⟩ := hA
    obtain ⟨u36, hA⟩ := hA
    obtain ⟨u37, hA⟩ := hA
    obtain ⟨u38, hA⟩ := hA
    obtain ⟨u39, hA⟩ := hA
    obtain ⟨u40, hA⟩ := hA
    obtain ⟨u41, hA⟩ := hA
    obtain ⟨u42, hA⟩ := hA
    obtain ⟨u43, hA⟩ := hA
    obtain ⟨u44, hA⟩ := hA
    obtain ⟨u45, hA⟩ := hA
    obtain ⟨u46, hA⟩ := hA
    obtain ⟨u47, hA⟩ := hA
    obtain ⟨u48, hA⟩ := hA
    obtain ⟨u49, hA⟩ := hA
    obtain ⟨u50, hA⟩ := hA
    obtain ⟨u51, hA⟩ := hA
    obtain ⟨u52, hA⟩ := hA
    obtain ⟨u53, hA⟩ := hA
    obtain ⟨u54, hA⟩ := hA
    obtain ⟨u55, hA⟩ := hA
    obtain ⟨u56, hA⟩ := hA
    obtain ⟨u57, hA⟩ := hA
    obtain ⟨u58, hA⟩ := hA
    obtain ⟨u59, hA⟩ := hA
    obtain ⟨u60, hA⟩ := hA
    obtain ⟨u61, hA⟩ := hA
    obtain ⟨u62, hA⟩ := hA
    obtain ⟨u63, hA⟩ := hA
    obtain ⟨u64, hA⟩ := hA
    obtain ⟨u65, hA⟩ := hA
    subst hA
    obtain ⟨j1, j2, rfl, j4, j5, j6⟩ := hJ
    have hs1 := j6.size
    obtain ⟨va, vc, rfl, hvc, hvm, _⟩ := own_val j5
    unfold maxLen at hvm
    obtain ⟨k0, k1, k2, k3, k4⟩ := vcells j4
    have hf : ∀ o, w'.frozen? ⟨w.heap.size, o, none⟩ = false := fun o => by simp [World.frozen?, j4]
    have f0 := hf 0
    have f1 := hf 1
    have f2 := hf 2
    have f3 := hf 3
    have f4 := hf 4
    clear hf
    have hT := conv_own j5
    obtain ⟨i0, hiz, hz0, hz1, hz2⟩ := info_parts info5
    have hbl : w.heap.size < w'.heap.size := (Array.getElem?_eq_some_iff.1 j4).1
    by_cases hlt : i < s.size
    · by_cases hq : ((s[i].toNat : Nat) : Int) = 34
      · go_wp2_with fail
        all_goals first
          | (simp only [Exit.jump]
             refine bodyPost_ret (results_ctt rfl _ _ w.heap.size 71 _ (0, 0) _ rfl (set5 j4 _ _ _ _ _) Tryz.underlying71 rfl (by kernel_rfl)) rfl ?_
             exact ⟨⟨_, _, _, _, _, 0, _, rfl, by omega⟩, below5 j6 (Nat.le_refl _) _ _ _ _ _⟩)
          | (simp only [Exit.jump]
             refine bodyPost_ret (results_ctt rfl _ _ w.heap.size 71 _ (0, 0) _ rfl (set5 j4 _ _ _ _ _) Tryz.underlying71 rfl (by kernel_rfl)) rfl ?_
             exact ⟨⟨_, _, _, _, _, i + 1, _, rfl, by omega⟩, below5 j6 (Nat.le_refl _) _ _ _ _ _⟩)
      · by_cases hq2 : ((s[i].toNat : Nat) : Int) = 92
        · have HE := Lib.hid (escaped_any s (i + 1) hs (by omega) w')
          go_wp2_with fail
          refine HE.out.mono ?_
          rintro e w1 ⟨⟨b, er, rfl⟩, hb1⟩
          have e4 := (hb1.block _ hbl).trans j4
          have e6 := j6.trans (hb1.mono hs1)
          have e5 := own_kept (S := fun _ => False) j5 ⟨hb1.os, hb1.tape, hb1.output, hb1.size, fun k hk _ => hb1.block k hk⟩ (fun _ _ q => q)
          have hs2 := hb1.size
          obtain ⟨p0, p1, p2, p3, p4⟩ := vcells e4
          have hf : ∀ o, w1.frozen? ⟨w.heap.size, o, none⟩ = false := fun o => by simp [World.frozen?, e4]
          have g0 := hf 0
          have g1 := hf 1
          have g2 := hf 2
          have g3 := hf 3
          have g4 := hf 4
          clear hf
          have hbl1 : w.heap.size < w1.heap.size := (Array.getElem?_eq_some_iff.1 e4).1
          by_cases her : er = 0
          · subst her
            go_wp2_with (at_builtin; refine wpList_append_src rfl _ _ 66 66 rfl (w.heap.size + 1) 5 i0 _ 1 1 Tryz.underlying66 hiz hz0 hz1 hz2 rfl (by decide) (.slice va _ vc) _ _ rfl (e5.alloc _) _ 1 [.int .u8 (b.toNat : Int)] rfl (src_one_u8 _ w1.heap.size _ (heap_alloc_new w1 _)) (by unfold maxLen; omega) (by omega) (by simp; omega) ?_; intro v5 W5 ho5 hch5 hnew5; obtain ⟨a5, c5, rfl, _⟩ := own_val ho5)
            go_step3
            refine ⟨rfl, ⟨w.heap.size, i + 3, _, l ++ [b], ?fr, ⟨by omega, by simp; omega, rfl, ?_, by simpa using ho5, ?_⟩⟩, ?_⟩
            case fr => unfold TextA; (repeat apply Exists.intro); rfl
            · exact (hch5.block _ (by simp; omega) (fun hk => by have := own_lt e5 _ hk; omega)).trans ((Below.heap_alloc _ _ _ (by omega)).trans e4)
            · exact (e6.alloc (by omega) _).trans (hch5.below (by simp; omega) (fun k hk => by have := own_lt e5 k hk; omega))
            · simp [intOf]; omega
          · go_wp2_with fail
            simp only [Exit.jump]
            refine bodyPost_ret (results_ctt rfl _ _ w.heap.size 71 _ (0, 0) _ rfl (set5 e4 _ _ _ _ _) Tryz.underlying71 rfl (by kernel_rfl)) rfl ?_
            exact ⟨⟨_, _, _, _, _, 0, _, rfl, by omega⟩, below5 e6 (Nat.le_refl _) _ _ _ _ _⟩
        · go_wp2_with fail
          refine (plain_any _ _).mono ?_
          rintro e w1 ⟨⟨q, rfl⟩, hb1⟩
          have e4 := (hb1.block _ hbl).trans j4
          have e6 := j6.trans (hb1.mono hs1)
          have e5 := own_kept (S := fun _ => False) j5 ⟨hb1.os, hb1.tape, hb1.output, hb1.size, fun k hk _ => hb1.block k hk⟩ (fun _ _ q => q)
          have hs2 := hb1.size
          obtain ⟨p0, p1, p2, p3, p4⟩ := vcells e4
          have hf : ∀ o, w1.frozen? ⟨w.heap.size, o, none⟩ = false := fun o => by simp [World.frozen?, e4]
          have g0 := hf 0
          have g1 := hf 1
          have g2 := hf 2
          have g3 := hf 3
          have g4 := hf 4
          clear hf
          have hbl1 : w.heap.size < w1.heap.size := (Array.getElem?_eq_some_iff.1 e4).1
          cases q
          · go_wp2_with fail
            simp only [Exit.jump]
            refine bodyPost_ret (results_ctt rfl _ _ w.heap.size 71 _ (0, 0) _ rfl (set5 e4 _ _ _ _ _) Tryz.underlying71 rfl (by kernel_rfl)) rfl ?_
            exact ⟨⟨_, _, _, _, _, 0, _, rfl, by omega⟩, below5 e6 (Nat.le_refl _) _ _ _ _ _⟩
          · go_wp2_with (at_builtin; refine wpList_append_src rfl _ _ 66 66 rfl (w.heap.size + 1) 5 i0 _ 1 1 Tryz.underlying66 hiz hz0 hz1 hz2 rfl (by decide) (.slice va _ vc) _ _ rfl (e5.alloc _) _ 1 [.int .u8 (s[i].toNat : Int)] rfl (src_one_u8 _ w1.heap.size _ (heap_alloc_new w1 _)) (by unfold maxLen; omega) (by omega) (by simp; omega) ?_; intro v5 W5 ho5 hch5 hnew5; obtain ⟨a5, c5, rfl, _⟩ := own_val ho5)
            go_step3
            refine ⟨rfl, ⟨w.heap.size, i + 1, _, l ++ [s[i]], ?fr, ⟨by omega, by simp; omega, rfl, ?_, by simpa using ho5, ?_⟩⟩, ?_⟩
            case fr => unfold TextA; (repeat apply Exists.intro); rfl
            · exact (hch5.block _ (by simp; omega) (fun hk => by have := own_lt e5 _ hk; omega)).trans ((Below.heap_alloc _ _ _ (by omega)).trans e4)
            · exact (e6.alloc (by omega) _).trans (hch5.below (by simp; omega) (fun k hk => by have := own_lt e5 k hk; omega))
            · simp [intOf]; omega
    · go_wp2_with fail
      simp only [Exit.jump]
      refine bodyPost_ret (results_ctt rfl _ _ w.heap.size 71 _ (0, 0) _ rfl (set5 j4 _ _ _ _ _) Tryz.underlying71 rfl (by kernel_rfl)) rfl ?_
      exact ⟨⟨_, _, _, _, _, 0, _, rfl, by omega⟩, below5 j6 (Nat.le_refl _) _ _ _ _ _⟩
  · intro HP
    go_wp2_with fail
    go_step3
    rename_i hKK
    refine hKK _ _ (HP _ _ ?_)
    refine ⟨w.heap.size, 1, .slice none 0 0, [], ?fr, ⟨by omega, by simp, rfl, heap_alloc_new w _, World.ownsRow_nil _ _ _ _, (Below.refl _ w).alloc (Nat.le_refl _) _⟩⟩
    case fr => unfold TextA; (repeat apply Exists.intro); rfl

end Go.Proofs.YtkldkaahpicnmaaGreat
/- A number or a point, read. -/
namespace Go.Proofs.YtkldkaahpicnmaaGreat
set_option maxRecDepth 100000
open Go.RowKit PFragNames
open Go.Proofs.YtkldkaahpicnmaaGreatW.PrintWords

theorem vfacts {W : World} {g : Nat} {a0 a1 a2 a3 a4 : Value} (h : W.heap[g]? = some (.cells #[a0, a1, a2, a3, a4] 71 (0, 0))) :
    (W.cell? ⟨g, 0, none⟩ = some a0 ∧ W.cell? ⟨g, 1, none⟩ = some a1 ∧ W.cell? ⟨g, 2, none⟩ = some a2 ∧ W.cell? ⟨g, 3, none⟩ = some a3 ∧ W.cell? ⟨g, 4, none⟩ = some a4) ∧
    W.frozen? ⟨g, 0, none⟩ = false ∧ W.frozen? ⟨g, 1, none⟩ = false ∧ W.frozen? ⟨g, 2, none⟩ = false ∧ W.frozen? ⟨g, 3, none⟩ = false ∧ W.frozen? ⟨g, 4, none⟩ = false := by
  simp [World.cell?, World.frozen?, h]

def zeroO : Obj := .cells #[.int .i64 0, .int .i64 0, .string ⟨#[]⟩, .int .i64 0, .int .i64 0] 71 (0, 0)

set_option maxHeartbeats 4000000 in
theorem numeric_any (s : ByteArray) (hs : s.size ≤ 1000000) (w : World) : Calls Tryz.prog 98 #[.string s] w (ValEnd s w) := by
  have HN := Lib.hid (fun i hi => number_any s i hs hi)
  have hn0 := HN.out 0 (Nat.zero_le _)
  have HN0 := Lib.hid hn0
  clear hn0
  go_enter Tryz.func98, Tryz.ntmps98
  go_wp2_with fail
  refine (HN0.out _).mono ?_
  rintro e w1 ⟨⟨n, i, er, rfl, hi⟩, hb1⟩
  have hB1 : Below w.heap.size w w1 := ((Below.refl _ w).alloc (Nat.le_refl _) _).trans (hb1.mono (by simp))
  have hs1 : w.heap.size < w1.heap.size := by have := hb1.size; simp at this; omega
  have x1 : w1.heap[w.heap.size]? = some (.cells #[.int .i64 0, .int .i64 0, .string ⟨#[]⟩, .int .i64 0, .int .i64 0] 71 (0, 0)) := (hb1.block _ (by simp)).trans (heap_alloc_new w _)
  by_cases her : er = 0
  · subst her
    obtain ⟨W2, hW2⟩ : ∃ W2, W2 = w1.alloc (.cells #[.int .i64 0, .int .i64 n, .string ⟨#[]⟩, .int .i64 0, .int .i64 0] 71) := ⟨_, rfl⟩
    have y2 : W2.heap[w1.heap.size]? = some (.cells #[.int .i64 0, .int .i64 n, .string ⟨#[]⟩, .int .i64 0, .int .i64 0] 71 (0, 0)) := by rw [hW2]; exact heap_alloc_new w1 _
    have x2 : W2.heap[w.heap.size]? = some (.cells #[.int .i64 0, .int .i64 0, .string ⟨#[]⟩, .int .i64 0, .int .i64 0] 71 (0, 0)) := by rw [hW2]; exact (Below.heap_alloc w1 _ _ hs1).trans x1
    have hB2 : Below w.heap.size w W2 := by rw [hW2]; exact hB1.alloc (by omega) _
    have hs2 : W2.heap.size = w1.heap.size + 1 := by rw [hW2]; simp
    obtain ⟨⟨c0, c1, c2, c3, c4⟩, f0, f1, f2, f3, f4⟩ := vfacts y2
    by_cases hc : ∃ h : i < s.size, ((s[i].toNat : Nat) : Int) = 58
    · obtain ⟨hlt, hq⟩ := hc
      have HN1 := Lib.hid (HN.out (i + 1) hlt)
      go_wp2_with fail
      try rw [← hW2]
      refine (HN1.out _).mono ?_
      rintro e w3 ⟨⟨m, k, er, rfl, hk⟩, hb3⟩
      have hs3 := hb3.size
      have x3 := (hb3.block _ (by omega)).trans x2
      have y3 := (hb3.block _ (by omega)).trans y2
      have hB3 : Below w.heap.size w w3 := hB2.trans (hb3.mono hB2.size)
      obtain ⟨⟨b0, b1, b2, b3, b4⟩, a0, a1, a2, a3, a4⟩ := vfacts x3
      obtain ⟨⟨h0, h1, h2, h3, h4⟩, l0, l1, l2, l3, l4⟩ := vfacts y3
      by_cases her : er = 0
      · subst her
        have y5 := set5 y3 (.int .i64 2) (.int .i64 0) (.string ⟨#[]⟩) (.int .i64 n) (.int .i64 m)
        have hB5 := below5 (Below.refl w1.heap.size w3) (Nat.le_refl _) (.int .i64 2) (.int .i64 0) (.string ⟨#[]⟩) (.int .i64 n) (.int .i64 m)
        obtain ⟨W5, hW5⟩ : ∃ W5, W5 = (((((w3.setCell ⟨w1.heap.size, 0, none⟩ (.int .i64 2)).setCell ⟨w1.heap.size, 1, none⟩ (.int .i64 0)).setCell ⟨w1.heap.size, 2, none⟩ (.string ⟨#[]⟩)).setCell ⟨w1.heap.size, 3, none⟩ (.int .i64 n)).setCell ⟨w1.heap.size, 4, none⟩ (.int .i64 m)) := ⟨_, rfl⟩
        rw [← hW5] at y5 hB5
        have x5 := (hB5.block _ hs1).trans x3
        have hB5' : Below w.heap.size w W5 := hB3.trans (hB5.mono (by omega))
        obtain ⟨⟨i0, i1, i2, i3, i4⟩, _⟩ := vfacts y5
        go_wp2_with fail
        try rw [← hW5]
        refine (vright_point n m W5).mono ?_
        rintro e w6 ⟨⟨q, rfl⟩, hb6⟩
        have hs6 := (Array.getElem?_eq_some_iff.1 x5).1
        have hs7 := (Array.getElem?_eq_some_iff.1 y5).1
        have x6 := (hb6.block _ hs6).trans x5
        have y6 := (hb6.block _ hs7).trans y5
        have hB6 : Below w.heap.size w w6 := hB5'.trans (hb6.mono hB5'.size)
        obtain ⟨⟨e0, e1, e2, e3, e4⟩, d0, d1, d2, d3, d4⟩ := vfacts x6
        obtain ⟨⟨r0, r1, r2, r3, r4⟩, _⟩ := vfacts y6
        cases q
        · go_wp2_with fail
          refine bodyPost_ret (results_ctt rfl _ _ w.heap.size 71 _ (0, 0) _ rfl (set5 x6 _ _ _ _ _) Tryz.underlying71 rfl (by kernel_rfl)) rfl ?_
          exact ⟨⟨_, _, _, _, _, 0, _, rfl, by omega⟩, below5 hB6 (Nat.le_refl _) _ _ _ _ _⟩
        · go_wp2_with fail
          refine bodyPost_ret (results_ctt rfl _ _ w.heap.size 71 _ (0, 0) _ rfl (set5 x6 _ _ _ _ _) Tryz.underlying71 rfl (by kernel_rfl)) rfl ?_
          exact ⟨⟨_, _, _, _, _, k, _, rfl, by omega⟩, below5 hB6 (Nat.le_refl _) _ _ _ _ _⟩
      · go_wp2_with fail
        refine bodyPost_ret (results_ctt rfl _ _ w.heap.size 71 _ (0, 0) _ rfl (set5 x3 _ _ _ _ _) Tryz.underlying71 rfl (by kernel_rfl)) rfl ?_
        exact ⟨⟨_, _, _, _, _, 0, _, rfl, by omega⟩, below5 hB3 (Nat.le_refl _) _ _ _ _ _⟩
    · by_cases hlt : i < s.size
      · have hq : ¬ (((s[i].toNat : Nat) : Int) = 58) := fun hq => hc ⟨hlt, hq⟩
        clear hc
        go_wp2_with fail
        try rw [← hW2]
        refine (vright_int n W2).mono ?_
        rintro e w6 ⟨⟨q, rfl, _⟩, hb6⟩
        have hs6 := (Array.getElem?_eq_some_iff.1 x2).1
        have hs7 := (Array.getElem?_eq_some_iff.1 y2).1
        have x6 := (hb6.block _ hs6).trans x2
        have y6 := (hb6.block _ hs7).trans y2
        have hB6 : Below w.heap.size w w6 := hB2.trans (hb6.mono hB2.size)
        obtain ⟨⟨e0, e1, e2, e3, e4⟩, d0, d1, d2, d3, d4⟩ := vfacts x6
        obtain ⟨⟨r0, r1, r2, r3, r4⟩, _⟩ := vfacts y6
        cases q
        · go_wp2_with fail
          refine bodyPost_ret (results_ctt rfl _ _ w.heap.size 71 _ (0, 0) _ rfl (set5 x6 _ _ _ _ _) Tryz.underlying71 rfl (by kernel_rfl)) rfl ?_
          exact ⟨⟨_, _, _, _, _, 0, _, rfl, by omega⟩, below5 hB6 (Nat.le_refl _) _ _ _ _ _⟩
        · go_wp2_with fail
          refine bodyPost_ret (results_ctt rfl _ _ w.heap.size 71 _ (0, 0) _ rfl (set5 x6 _ _ _ _ _) Tryz.underlying71 rfl (by kernel_rfl)) rfl ?_
          exact ⟨⟨_, _, _, _, _, i, _, rfl, by omega⟩, below5 hB6 (Nat.le_refl _) _ _ _ _ _⟩
      · clear hc
        go_wp2_with fail
        try rw [← hW2]
        refine (vright_int n W2).mono ?_
        rintro e w6 ⟨⟨q, rfl, _⟩, hb6⟩
        have hs6 := (Array.getElem?_eq_some_iff.1 x2).1
        have hs7 := (Array.getElem?_eq_some_iff.1 y2).1
        have x6 := (hb6.block _ hs6).trans x2
        have y6 := (hb6.block _ hs7).trans y2
        have hB6 : Below w.heap.size w w6 := hB2.trans (hb6.mono hB2.size)
        obtain ⟨⟨e0, e1, e2, e3, e4⟩, d0, d1, d2, d3, d4⟩ := vfacts x6
        obtain ⟨⟨r0, r1, r2, r3, r4⟩, _⟩ := vfacts y6
        cases q
        · go_wp2_with fail
          refine bodyPost_ret (results_ctt rfl _ _ w.heap.size 71 _ (0, 0) _ rfl (set5 x6 _ _ _ _ _) Tryz.underlying71 rfl (by kernel_rfl)) rfl ?_
          exact ⟨⟨_, _, _, _, _, 0, _, rfl, by omega⟩, below5 hB6 (Nat.le_refl _) _ _ _ _ _⟩
        · go_wp2_with fail
          refine bodyPost_ret (results_ctt rfl _ _ w.heap.size 71 _ (0, 0) _ rfl (set5 x6 _ _ _ _ _) Tryz.underlying71 rfl (by kernel_rfl)) rfl ?_
          exact ⟨⟨_, _, _, _, _, i, _, rfl, by omega⟩, below5 hB6 (Nat.le_refl _) _ _ _ _ _⟩
  · obtain ⟨⟨c0, c1, c2, c3, c4⟩, f0, f1, f2, f3, f4⟩ := vfacts x1
    go_wp2_with fail
    refine bodyPost_ret (results_ctt rfl _ _ w.heap.size 71 _ (0, 0) _ rfl (set5 x1 _ _ _ _ _) Tryz.underlying71 rfl (by kernel_rfl)) rfl ?_
    exact ⟨⟨_, _, _, _, _, 0, _, rfl, Nat.zero_le _⟩, below5 hB1 (Nat.le_refl _) _ _ _ _ _⟩

end Go.Proofs.YtkldkaahpicnmaaGreat
/- A value, read; a letter and a number, read. -/
namespace Go.Proofs.YtkldkaahpicnmaaGreat
set_option maxRecDepth 100000
open Go.RowKit PFragNames
open Go.Proofs.YtkldkaahpicnmaaGreatW.PrintWords

theorem notEmpty {s : ByteArray} (h : 0 < s.size) : s.toList.isEmpty = false := by
  rw [ByteArray.toList_eq, List.isEmpty_eq_false_iff]
  intro e
  have : s.data.toList.length = 0 := by rw [e]; rfl
  have h2 : s.size = s.data.toList.length := rfl
  omega

theorem isEmpty_ {s : ByteArray} (h : s.size = 0) : s = ⟨#[]⟩ := by
  obtain ⟨⟨l⟩⟩ := s
  obtain rfl : l = [] := List.length_eq_zero_iff.1 h
  rfl

set_option maxHeartbeats 400000 in
theorem parse_any (s : ByteArray) (hs : s.size ≤ 1000000) (w : World) : Calls Tryz.prog 85 #[.string s] w (ValEnd s w) := by
  have HT := Lib.hid (text_any s hs)
  have HN := Lib.hid (numeric_any s hs)
  have x0 := heap_alloc_new w (.cells #[.int .i64 0, .int .i64 0, .string ⟨#[]⟩, .int .i64 0, .int .i64 0] 71)
  by_cases h0 : 0 < s.size
  · have hse := notEmpty h0
    by_cases hq : ((s[0].toNat : Nat) : Int) = 34
    · go_enter Tryz.func85, Tryz.ntmps85
      go_wp2_with fail
      refine (HT.out _).mono ?_
      rintro e w1 ⟨⟨kd, n, o, x, y, i, er, rfl, hi⟩, hb1⟩
      have hB : Below w.heap.size w w1 := ((Below.refl _ w).alloc (Nat.le_refl _) _).trans (hb1.mono (by simp))
      have x1 := (hb1.block _ (by simp)).trans x0
      obtain ⟨⟨c0, c1, c2, c3, c4⟩, f0, f1, f2, f3, f4⟩ := vfacts x1
      go_wp2_with fail
      refine bodyPost_ret (results_ctt rfl _ _ w.heap.size 71 _ (0, 0) _ rfl (set5 x1 _ _ _ _ _) Tryz.underlying71 rfl (by kernel_rfl)) rfl ?_
      exact ⟨⟨_, _, _, _, _, i, _, rfl, hi⟩, below5 hB (Nat.le_refl _) _ _ _ _ _⟩
    · by_cases hm : ((s[0].toNat : Nat) : Int) = 45
      · go_enter Tryz.func85, Tryz.ntmps85
        go_wp2_with fail
        refine (HN.out _).mono ?_
        rintro e w1 ⟨⟨kd, n, o, x, y, i, er, rfl, hi⟩, hb1⟩
        have hB : Below w.heap.size w w1 := ((Below.refl _ w).alloc (Nat.le_refl _) _).trans (hb1.mono (by simp))
        have x1 := (hb1.block _ (by simp)).trans x0
        obtain ⟨⟨c0, c1, c2, c3, c4⟩, f0, f1, f2, f3, f4⟩ := vfacts x1
        go_wp2_with fail
        refine bodyPost_ret (results_ctt rfl _ _ w.heap.size 71 _ (0, 0) _ rfl (set5 x1 _ _ _ _ _) Tryz.underlying71 rfl (by kernel_rfl)) rfl ?_
        exact ⟨⟨_, _, _, _, _, i, _, rfl, hi⟩, below5 hB (Nat.le_refl _) _ _ _ _ _⟩
      · go_enter Tryz.func85, Tryz.ntmps85
        go_wp2_with fail
        refine (digit_any _ _).mono ?_
        rintro e w2 ⟨⟨q, rfl⟩, hb2⟩
        have hB2 : Below w.heap.size w w2 := ((Below.refl _ w).alloc (Nat.le_refl _) _).trans (hb2.mono (by simp))
        have x2 := (hb2.block _ (by simp)).trans x0
        obtain ⟨⟨e0, e1, e2, e3, e4⟩, g0, g1, g2, g3, g4⟩ := vfacts x2
        cases q
        · go_wp2_with fail
          refine bodyPost_ret (results_ctt rfl _ _ w.heap.size 71 _ (0, 0) _ rfl (set5 x2 _ _ _ _ _) Tryz.underlying71 rfl (by kernel_rfl)) rfl ?_
          exact ⟨⟨_, _, _, _, _, 0, _, rfl, by omega⟩, below5 hB2 (Nat.le_refl _) _ _ _ _ _⟩
        · go_wp2_with fail
          refine (HN.out _).mono ?_
          rintro e w1 ⟨⟨kd, n, o, x, y, i, er, rfl, hi⟩, hb1⟩
          have hB : Below w.heap.size w w1 := hB2.trans (hb1.mono hB2.size)
          have x1 := (hb1.block _ (Array.getElem?_eq_some_iff.1 x2).1).trans x2
          obtain ⟨⟨c0, c1, c2, c3, c4⟩, f0, f1, f2, f3, f4⟩ := vfacts x1
          go_wp2_with fail
          refine bodyPost_ret (results_ctt rfl _ _ w.heap.size 71 _ (0, 0) _ rfl (set5 x1 _ _ _ _ _) Tryz.underlying71 rfl (by kernel_rfl)) rfl ?_
          exact ⟨⟨_, _, _, _, _, i, _, rfl, hi⟩, below5 hB (Nat.le_refl _) _ _ _ _ _⟩
  · obtain rfl := isEmpty_ (s := s) (by omega)
    obtain ⟨⟨e0, e1, e2, e3, e4⟩, g0, g1, g2, g3, g4⟩ := vfacts x0
    go_enter Tryz.func85, Tryz.ntmps85
    go_wp2_with fail
    refine bodyPost_ret (results_ctt rfl _ _ w.heap.size 71 #[.int .i64 0, .int .i64 0, .string ⟨#[]⟩, .int .i64 0, .int .i64 0] (0, 0) _ rfl x0 Tryz.underlying71 rfl (by kernel_rfl)) rfl ?_
    exact ⟨⟨_, _, _, _, _, 0, _, rfl, Nat.zero_le _⟩, (Below.refl _ w).alloc (Nat.le_refl _) _⟩

/-- A number, what is left of a text, a bool come back. -/
def PartEnd (s : ByteArray) (w : World) (e : Ending) (w' : World) : Prop :=
  (∃ (n : Int) (o : ByteArray) (q : Bool), e = .returned (.tuple #[.int .i64 n, .string o, .bool q]) ∧ o.size ≤ s.size) ∧ Below w.heap.size w w'

set_option maxHeartbeats 400000 in
theorem numbered_any (s : ByteArray) (c : Int) (hs : s.size ≤ 1000000) (w : World) : Calls Tryz.prog 65 #[.string s, .int .u8 c] w (PartEnd s w) := by
  by_cases h0 : 0 < s.size
  · have hse := notEmpty h0
    by_cases hq : ((s[0].toNat : Nat) : Int) = c
    · obtain ⟨t, ht⟩ : ∃ t, s.extract 1 s.size = t := ⟨_, rfl⟩
      have htz : t.size = s.size - 1 := by rw [← ht, ByteArray.size_extract]; omega
      have HP := Lib.hid (parse_any t (by omega))
      have HT := Lib.hid ht
      go_enter Tryz.func65, Tryz.ntmps65
      go_wp2_with fail
      refine (HP.out _).mono ?_
      rintro e w1 ⟨⟨kd, n, o, x, y, i, er, rfl, hi⟩, hb1⟩
      obtain ⟨W2, hW2⟩ : ∃ W2, W2 = w1.alloc (.cells #[.int .i64 kd, .int .i64 n, .string o, .int .i64 x, .int .i64 y] 71) := ⟨_, rfl⟩
      have y2 : W2.heap[w1.heap.size]? = some (.cells #[.int .i64 kd, .int .i64 n, .string o, .int .i64 x, .int .i64 y] 71 (0, 0)) := by rw [hW2]; exact heap_alloc_new w1 _
      have hB2 : Below w.heap.size w W2 := by rw [hW2]; exact hb1.alloc hb1.size _
      obtain ⟨⟨c0, c1, c2, c3, c4⟩, _⟩ := vfacts y2
      have hwr : IntKind.i64.wrap (1 + (i : Int)) = 1 + (i : Int) := by rw [IntKind.wrap_i64]; omega
      have hk1 : (0 : Int) ≤ 1 + (i : Int) ∧ 1 + (i : Int) ≤ (s.size : Int) := by omega
      go_wp2_with fail
      try rw [← hW2]
      clear hW2
      refine wp_region_still_lit (by kernel_rfl) (by kernel_rfl) ?_
      repeat still_step
      refine wpStill_nil ?_
      go_wp2_with fail
      go_ret3
      refine ⟨⟨n, _, _, rfl, ?_⟩, hB2.drew⟩
      rw [ByteArray.size_extract]
      omega
    · go_enter Tryz.func65, Tryz.ntmps65
      go_wp2_with fail
      go_ret3
      exact ⟨⟨_, _, _, rfl, Nat.zero_le _⟩, Below.refl _ _⟩
  · obtain rfl := isEmpty_ (s := s) (by omega)
    go_enter Tryz.func65, Tryz.ntmps65
    go_wp2_with fail
    go_ret3
    exact ⟨⟨_, _, _, rfl, Nat.zero_le _⟩, Below.refl _ _⟩

end Go.Proofs.YtkldkaahpicnmaaGreat
/- The id of a name. -/
namespace Go.Proofs.YtkldkaahpicnmaaGreat
set_option maxRecDepth 100000
open Go.RowKit PFragNames
open Go.Proofs.YtkldkaahpicnmaaGreatW.PrintWords

theorem set4 {W : World} {g : Nat} {a0 a1 a2 a3 : Value} (h : W.heap[g]? = some (.cells #[a0, a1, a2, a3] 26 (0, 0))) (b0 b1 b2 b3 : Value) :
    ((((W.setCell ⟨g, 0, none⟩ b0).setCell ⟨g, 1, none⟩ b1).setCell ⟨g, 2, none⟩ b2).setCell ⟨g, 3, none⟩ b3).heap[g]? = some (.cells #[b0, b1, b2, b3] 26 (0, 0)) := by
  simp [World.setCell, Array.getElem?_modify, h]

theorem below4 {B : Nat} {w W : World} {g : Nat} (h : Below B w W) (hg : B ≤ g) (b0 b1 b2 b3 : Value) :
    Below B w ((((W.setCell ⟨g, 0, none⟩ b0).setCell ⟨g, 1, none⟩ b1).setCell ⟨g, 2, none⟩ b2).setCell ⟨g, 3, none⟩ b3) :=
  (((h.setCell (p := ⟨g, 0, none⟩) hg _).setCell (p := ⟨g, 1, none⟩) hg _).setCell (p := ⟨g, 2, none⟩) hg _).setCell (p := ⟨g, 3, none⟩) hg _

theorem ifacts {W : World} {g : Nat} {a0 a1 a2 a3 : Value} (h : W.heap[g]? = some (.cells #[a0, a1, a2, a3] 26 (0, 0))) :
    (W.cell? ⟨g, 0, none⟩ = some a0 ∧ W.cell? ⟨g, 1, none⟩ = some a1 ∧ W.cell? ⟨g, 2, none⟩ = some a2 ∧ W.cell? ⟨g, 3, none⟩ = some a3) ∧
    W.frozen? ⟨g, 0, none⟩ = false ∧ W.frozen? ⟨g, 1, none⟩ = false ∧ W.frozen? ⟨g, 2, none⟩ = false ∧ W.frozen? ⟨g, 3, none⟩ = false := by
  simp [World.cell?, World.frozen?, h]

/-- Four numbers in memory. -/
def ArrO (l : List Int) : Obj := .cells (l.map (Value.int .i64)).toArray 108 (0, 0)

theorem arr_cell {W : World} {g : Nat} {l : List Int} (h : W.heap[g]? = some (ArrO l)) (j : Nat) (n : Int) (hj : l[j]? = some n) : W.cell? ⟨g, j, none⟩ = some (.int .i64 n) ∧ W.frozen? ⟨g, j, none⟩ = false := by
  simp [World.cell?, World.frozen?, h, ArrO, hj]

theorem arr_set {W : World} {g : Nat} {l : List Int} (h : W.heap[g]? = some (ArrO l)) (k : Nat) (n : Int) : (W.setCell ⟨g, k, none⟩ (.int .i64 n)).heap[g]? = some (ArrO (l.set k n)) := by
  simp [World.setCell, Array.getElem?_modify, h, ArrO, List.map_set]

/-- An id and a bool come back: the id of that name, or none. -/
def NamedEnd (s : ByteArray) (w : World) (e : Ending) (w' : World) : Prop :=
  (∃ (a b c d : Int) (q : Bool), e = .returned (.tuple #[idV a b c d, .bool q]) ∧ (q = false → a = 0 ∧ b = 0 ∧ c = 0 ∧ d = 0) ∧ (q = true → okId a b c d = true ∧ nameUpto [a, b, c, d] 4 = s)) ∧ Below w.heap.size w w'

theorem name_pos (l : List Int) : 0 < (nameUpto l 4).size := by
  have h2 := letterB_size 3 (by decide)
  show 0 < (nameUpto l 3 ++ (letterB 3 ++ decB (l.getD 3 0).toNat)).size
  rw [ByteArray.size_append, ByteArray.size_append, h2]
  omega

set_option maxHeartbeats 1000000 in
theorem named_any (s : ByteArray) (hs : s.size ≤ 1000000) (w : World) : Calls Tryz.prog 50 #[.string s] w (NamedEnd s w) := by
  go_enter Tryz.func50, Tryz.ntmps50
  go_wp2_with fail
  go_loopw [5, 12] (fun rest i wr => ∃ (k : Nat) (o : ByteArray) (l : List Int), k ≤ 4 ∧ i = .int .i64 (k : Int) ∧ rest = .string o ∧ o.size ≤ s.size ∧ l.length = 4 ∧ wr.heap[w.heap.size]? = some (.cells #[.int .i64 0, .int .i64 0, .int .i64 0, .int .i64 0] 26 (0, 0)) ∧
    wr.heap[w.heap.size + 1]? = some (ArrO l) ∧ Below w.heap.size w wr) (fun _ i _ => 4 - (intOf i).toNat)
  case atStart =>
    refine ⟨0, s, [0, 0, 0, 0], by omega, rfl, rfl, Nat.le_refl _, rfl, (Below.heap_alloc _ _ _ (by simp)).trans (heap_alloc_new w _), ?_, ((Below.refl _ w).alloc (Nat.le_refl _) _).alloc (by simp) _⟩
    have := heap_alloc_new (w.alloc (.cells #[.int .i64 0, .int .i64 0, .int .i64 0, .int .i64 0] 26)) (.cells #[.int .i64 0, .int .i64 0, .int .i64 0, .int .i64 0] 108)
    rw [World.size_alloc] at this
    exact this
  case round =>
    obtain ⟨k, o, l, hk, rfl, rfl, ho, hl, x0, y0, hb⟩ := hrel
    by_cases hlt : k < 4
    · have HN := Lib.hid (fun c => numbered_any o c (by omega) wr)
      go_wp2_with fail
      refine (HN.out _).mono ?_
      rintro e w1 ⟨⟨n, o1, q, rfl, ho1⟩, hb1⟩
      have x1 := (hb1.block _ (Array.getElem?_eq_some_iff.1 x0).1).trans x0
      have y1 := (hb1.block _ (Array.getElem?_eq_some_iff.1 y0).1).trans y0
      have hB1 : Below w.heap.size w w1 := hb.trans (hb1.mono hb.size)
      obtain ⟨⟨c0, c1, c2, c3⟩, f0, f1, f2, f3⟩ := ifacts x1
      obtain ⟨z0, z1⟩ := arr_cell y1 k l[k] (List.getElem?_eq_getElem (by omega))
      cases q
      · go_wp2_with fail
        refine bodyPost_ret (results_ct rfl _ _ w.heap.size 26 _ (0, 0) _ rfl (set4 x1 _ _ _ _) Tryz.underlying26 rfl (by kernel_rfl)) rfl ?_
        exact ⟨⟨0, 0, 0, 0, false, rfl, fun _ => ⟨rfl, rfl, rfl, rfl⟩, fun h => by cases h⟩, below4 hB1 (Nat.le_refl _) _ _ _ _⟩
      · go_wp2_with fail
        go_roundw
        case rel => exact ⟨k + 1, o1, l.set k n, by omega, by go_num, rfl, by omega, by simp [hl], (Below.heap_setCell _ _ _ _ (by show w.heap.size ≠ w.heap.size + 1; omega)).trans x1, arr_set y1 k n, hB1.setCell (p := ⟨w.heap.size + 1, k, none⟩) (by show w.heap.size ≤ w.heap.size + 1; omega) _⟩
        case measure => simp [intOf]; omega
    · obtain rfl : k = 4 := by omega
      match l, hl with
      | [a, b, c, d], _ =>
        obtain ⟨z0, _⟩ := arr_cell y0 0 a rfl
        obtain ⟨z1, _⟩ := arr_cell y0 1 b rfl
        obtain ⟨z2, _⟩ := arr_cell y0 2 c rfl
        obtain ⟨z3, _⟩ := arr_cell y0 3 d rfl
        cases hok : okId a b c d with
        | false =>
          have HW := Lib.hid (name_wrong a b c d hok)
          go_wp2_with fail
          refine (HW.out _).mono ?_
          rintro e w1 ⟨rfl, hb1⟩
          have hlx : w.heap.size < wr.heap.size := (Array.getElem?_eq_some_iff.1 x0).1
          have x1 := (hb1.block w.heap.size (by simp; omega)).trans ((Below.heap_alloc wr _ _ (by omega)).trans x0)
          have y1 := (hb1.block wr.heap.size (by simp)).trans (heap_alloc_new wr _)
          have hB1 : Below w.heap.size w w1 := (hb.alloc hb.size _).trans (hb1.mono (by simp; omega))
          obtain ⟨⟨c0, c1, c2, c3⟩, f0, f1, f2, f3⟩ := ifacts x1
          obtain ⟨⟨e0, e1, e2, e3⟩, _⟩ := ifacts y1
          by_cases h0 : 0 < s.size
          · have hse := notEmpty h0
            have hne : (ByteArray.empty.toList == s.toList) = false := by
              rw [beq_eq_false_iff_ne]
              intro e
              rw [← e] at hse
              simp at hse
            have hne2 : (([] : List UInt8) == s.toList) = false := by
              rw [beq_eq_false_iff_ne]
              intro e
              rw [← e] at hse
              simp at hse
            go_wp2_with fail
            refine bodyPost_ret (results_ct rfl _ _ w.heap.size 26 _ (0, 0) _ rfl (set4 x1 _ _ _ _) Tryz.underlying26 rfl (by kernel_rfl)) rfl ?_
            exact ⟨⟨0, 0, 0, 0, false, rfl, fun _ => ⟨rfl, rfl, rfl, rfl⟩, fun h => by cases h⟩, below4 hB1 (Nat.le_refl _) _ _ _ _⟩
          · obtain rfl := isEmpty_ (s := s) (by omega)
            go_wp2_with fail
            refine bodyPost_ret (results_ct rfl _ _ w.heap.size 26 _ (0, 0) _ rfl (set4 x1 _ _ _ _) Tryz.underlying26 rfl (by kernel_rfl)) rfl ?_
            exact ⟨⟨0, 0, 0, 0, false, rfl, fun _ => ⟨rfl, rfl, rfl, rfl⟩, fun h => by cases h⟩, below4 hB1 (Nat.le_refl _) _ _ _ _⟩
        | true =>
          have HW := Lib.hid (name_right a b c d hok)
          go_wp2_with fail
          refine (HW.out _).mono ?_
          rintro e w1 ⟨rfl, hb1⟩
          have hlx : w.heap.size < wr.heap.size := (Array.getElem?_eq_some_iff.1 x0).1
          have x1 := (hb1.block w.heap.size (by simp; omega)).trans ((Below.heap_alloc wr _ _ (by omega)).trans x0)
          have y1 := (hb1.block wr.heap.size (by simp)).trans (heap_alloc_new wr _)
          have hB1 : Below w.heap.size w w1 := (hb.alloc hb.size _).trans (hb1.mono (by simp; omega))
          obtain ⟨⟨c0, c1, c2, c3⟩, f0, f1, f2, f3⟩ := ifacts x1
          obtain ⟨⟨e0, e1, e2, e3⟩, _⟩ := ifacts y1
          have hpos := name_pos [a, b, c, d]
          obtain ⟨nm, hnm⟩ : ∃ nm, nameUpto [a, b, c, d] 4 = nm := ⟨_, rfl⟩
          have HNM := Lib.hid hnm
          rw [hnm] at hpos ⊢
          clear hnm HW
          by_cases hes : nm = s
          · subst hes
            have hse := notEmpty hpos
            have hq1 : (nm.toList == nm.toList) = true := by simp
            go_wp2_with fail
            refine bodyPost_ret (results_ct rfl _ _ w.heap.size 26 _ (0, 0) _ rfl (set4 x1 _ _ _ _) Tryz.underlying26 rfl (by kernel_rfl)) rfl ?_
            exact ⟨⟨a, b, c, d, true, rfl, (fun h => by cases h), fun _ => ⟨hok, HNM.out⟩⟩, below4 hB1 (Nat.le_refl _) _ _ _ _⟩
          · have hq1 : (nm.toList == s.toList) = false := by
              rw [beq_eq_false_iff_ne]
              intro e
              exact hes (str_eq nm s (by simp [e]))
            go_wp2_with fail
            refine bodyPost_ret (results_ct rfl _ _ w.heap.size 26 _ (0, 0) _ rfl (set4 x1 _ _ _ _) Tryz.underlying26 rfl (by kernel_rfl)) rfl ?_
            exact ⟨⟨0, 0, 0, 0, false, rfl, fun _ => ⟨rfl, rfl, rfl, rfl⟩, fun h => by cases h⟩, below4 hB1 (Nat.le_refl _) _ _ _ _⟩

end Go.Proofs.YtkldkaahpicnmaaGreat
