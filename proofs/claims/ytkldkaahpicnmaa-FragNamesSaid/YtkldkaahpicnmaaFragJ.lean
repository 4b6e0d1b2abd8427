/- Unlike ids have unlike names. -/
import Derived.Test.YtkldkaahpicnmaaFragC
namespace Go.Proofs.Ytkldkaahpicnmaa

def decL (n : Nat) : List UInt8 := (decB n).data.toList

theorem digitL : ∀ d, d < 10 → (digitB d).data.toList = [UInt8.ofNat (48 + d)] := by
  intro d hd
  match d, hd with
  | 0, _ => rfl
  | 1, _ => rfl
  | 2, _ => rfl
  | 3, _ => rfl
  | 4, _ => rfl
  | 5, _ => rfl
  | 6, _ => rfl
  | 7, _ => rfl
  | 8, _ => rfl
  | 9, _ => rfl

theorem decL_lt (n : Nat) (h : n < 10) : decL n = [UInt8.ofNat (48 + n)] := by
  unfold decL decB
  rw [if_pos h]
  exact digitL n h

theorem decL_ge (n : Nat) (h : ¬ n < 10) : decL n = decL (n / 10) ++ [UInt8.ofNat (48 + n % 10)] := by
  rw [← digitL (n % 10) (Nat.mod_lt _ (by decide))]
  conv => lhs; unfold decL decB
  rw [if_neg h, ByteArray.data_append, Array.toList_append]
  rfl

theorem u8_digit (d : Nat) (h : d < 10) : (UInt8.ofNat (48 + d)).toNat = 48 + d := by rw [UInt8.toNat_ofNat']; omega

theorem decL_digit (n : Nat) : ∀ b ∈ decL n, 48 ≤ b.toNat ∧ b.toNat ≤ 57 := by
  induction n using Nat.strongRecOn with
  | _ n ih =>
    intro b hb
    by_cases h : n < 10
    · rw [decL_lt n h] at hb
      rw [List.mem_singleton.1 hb, u8_digit n h]; omega
    · rw [decL_ge n h] at hb
      rcases List.mem_append.1 hb with hb | hb
      · exact ih (n / 10) (by omega) b hb
      · rw [List.mem_singleton.1 hb, u8_digit _ (by omega)]; omega

def valL (l : List UInt8) : Nat := l.foldl (fun a b => 10 * a + (b.toNat - 48)) 0

theorem valL_dec (n : Nat) : valL (decL n) = n := by
  induction n using Nat.strongRecOn with
  | _ n ih =>
    by_cases h : n < 10
    · rw [decL_lt n h]
      show 10 * 0 + ((UInt8.ofNat (48 + n)).toNat - 48) = n
      rw [u8_digit n h]; omega
    · rw [decL_ge n h]
      unfold valL at ih ⊢
      rw [List.foldl_append, ih (n / 10) (by omega)]
      show 10 * (n / 10) + ((UInt8.ofNat (48 + n % 10)).toNat - 48) = n
      rw [u8_digit _ (by omega)]; omega

theorem split_at (x : UInt8) (hx : 57 < x.toNat) : ∀ (l l' r r' : List UInt8), (∀ b ∈ l, b.toNat ≤ 57) → (∀ b ∈ l', b.toNat ≤ 57) → l ++ x :: r = l' ++ x :: r' → l = l' ∧ r = r'
  | [], [], r, r', _, _, h => by simpa using h
  | [], b :: l', r, r', _, h2, h => by
    simp at h
    have := h2 b (by simp)
    rw [← h.1] at this
    omega
  | b :: l, [], r, r', h1, _, h => by
    simp at h
    have := h1 b (by simp)
    rw [h.1] at this
    omega
  | b :: l, c :: l', r, r', h1, h2, h => by
    simp at h
    obtain ⟨e1, e2⟩ := split_at x hx l l' r r' (fun u hu => h1 u (by simp [hu])) (fun u hu => h2 u (by simp [hu])) h.2
    exact ⟨by rw [h.1, e1], e2⟩

theorem name_list (a b c d : Int) : (nameUpto [a, b, c, d] 4).data.toList = 116 :: (decL a.toNat ++ 97 :: (decL b.toNat ++ 112 :: (decL c.toNat ++ 102 :: decL d.toNat))) := by
  have l0 : (letterB 0).data.toList = [116] := rfl
  have l1 : (letterB 1).data.toList = [97] := rfl
  have l2 : (letterB 2).data.toList = [112] := rfl
  have l3 : (letterB 3).data.toList = [102] := rfl
  show ((((⟨#[]⟩ ++ (letterB 0 ++ decB a.toNat)) ++ (letterB 1 ++ decB b.toNat)) ++ (letterB 2 ++ decB c.toNat)) ++ (letterB 3 ++ decB d.toNat)).data.toList = _
  simp only [ByteArray.data_append, Array.toList_append, l0, l1, l2, l3]
  simp [decL]

theorem dec_inj {m n : Nat} (h : decL m = decL n) : m = n := by
  rw [← valL_dec m, h, valL_dec]

theorem name_inj {a b c d a' b' c' d' : Int} (h1 : okId a b c d = true) (h2 : okId a' b' c' d' = true) (h : nameUpto [a, b, c, d] 4 = nameUpto [a', b', c', d'] 4) : a = a' ∧ b = b' ∧ c = c' ∧ d = d' := by
  have h3 : (nameUpto [a, b, c, d] 4).data.toList = (nameUpto [a', b', c', d'] 4).data.toList := by rw [h]
  rw [name_list, name_list] at h3
  injection h3 with _ h3
  have dg : ∀ n : Nat, ∀ b ∈ decL n, b.toNat ≤ 57 := fun n b hb => (decL_digit n b hb).2
  obtain ⟨e1, h3⟩ := split_at 97 (by decide) _ _ _ _ (dg _) (dg _) h3
  obtain ⟨e2, h3⟩ := split_at 112 (by decide) _ _ _ _ (dg _) (dg _) h3
  obtain ⟨e3, e4⟩ := split_at 102 (by decide) _ _ _ _ (dg _) (dg _) h3
  have f1 := dec_inj e1
  have f2 := dec_inj e2
  have f3 := dec_inj e3
  have f4 := dec_inj e4
  have ha := okId_all h1
  have hb := okId_all h2
  have := ha 0 a rfl
  have := ha 1 b rfl
  have := ha 2 c rfl
  have := ha 3 d rfl
  have := hb 0 a' rfl
  have := hb 1 b' rfl
  have := hb 2 c' rfl
  have := hb 3 d' rfl
  omega

theorem name_awake : nameUpto [1, 20, 3, 0] 4 = ⟨#[116, 49, 97, 50, 48, 112, 51, 102, 48]⟩ := by
  apply ByteArray.ext
  apply Array.toList_inj.1
  rw [name_list]
  have d1 : decL 1 = [49] := decL_lt 1 (by decide)
  have d20 : decL 20 = [50, 48] := by rw [decL_ge 20 (by decide), show 20 / 10 = 2 from rfl, decL_lt 2 (by decide)]; rfl
  have d3 : decL 3 = [51] := decL_lt 3 (by decide)
  have d0 : decL 0 = [48] := decL_lt 0 (by decide)
  show 116 :: (decL 1 ++ 97 :: (decL 20 ++ 112 :: (decL 3 ++ 102 :: decL 0))) = _
  rw [d1, d20, d3, d0]
  rfl

end Go.Proofs.Ytkldkaahpicnmaa
