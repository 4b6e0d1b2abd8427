/- JobPlays: the row and what it needs, part 4. -/
import Derived.Test.YtejbpnhondpnfaaGreatJP3
import Derived.StillTailTactics
import Derived.Test.YtejbpnhondpnfaaGreatJP2
import Derived.Deep.RegionLaw
set_option linter.unusedSimpArgs false
set_option linter.unusedVariables false
namespace Go.Proofs.YtejbpnhondpnfaaGreat
set_option maxRecDepth 100000
open Go.RowKit
def plainI (c : Int) : Bool := decide (32 ≤ c) && decide (c ≤ 126) && !(c == 34) && !(c == 92)
theorem plain_any (c : Int) (w : World) : Calls Tryz.prog 145 #[.int .u8 c] w fun e w' => e = .returned (.bool (plainI c)) ∧ w = w' := by
 obtain ⟨q, hq⟩ : ∃ q, q = plainI c := ⟨_, rfl⟩
 have HQ := Lib.hid hq
 rw [← hq]
 clear hq
 by_cases h1 : 32 ≤ c
 ·
  by_cases h2 : c ≤ 126
  ·
   by_cases h3 : c = 34
   ·
    subst h3
    go_enter Tryz.func145, Tryz.ntmps145
    go_wp2_with fail
    go_ret
    exact ⟨by rw [HQ.out]; rfl, rfl⟩
   ·
    have b3 : (c != 34) = true := by simpa using h3
    have b4 : (c == 34) = false := by simpa using h3
    have B4 := Lib.hid b4
    go_enter Tryz.func145, Tryz.ntmps145
    go_wp2_with fail
    go_ret
    exact ⟨congrArg (fun b => Ending.returned (Value.bool b)) (by rw [HQ.out]; unfold plainI; rw [B4.out]; simp [h1, h2]; first | rfl | (cases (c == 92) <;> rfl)), rfl⟩
  ·
   go_enter Tryz.func145, Tryz.ntmps145
   go_wp2_with fail
   go_ret
   exact ⟨congrArg (fun b => Ending.returned (Value.bool b)) (by rw [HQ.out]; unfold plainI; simp [h1, h2]; try omega), rfl⟩
 ·
  go_enter Tryz.func145, Tryz.ntmps145
  go_wp2_with fail
  go_ret
  exact ⟨congrArg (fun b => Ending.returned (Value.bool b)) (by rw [HQ.out]; unfold plainI; simp [h1]; try omega), rfl⟩
theorem bat_below {B b : Nat} {bs : List Value} {p : Value} {w w' : World} (h : Lib.BuilderAt 104 5 B b p bs w) (hb : Below w.heap.size w w') : Lib.BuilderAt 104 5 B b p bs w' := by
 obtain ⟨hB, v, hc, ho, hn⟩ := h
 have hch : Chg (fun _ => False) w w' := ⟨hb.os, hb.tape, hb.output, hb.size, fun k hk _ => hb.block k hk⟩
 exact ⟨hB, v, (hb.block _ (Array.getElem?_eq_some_iff.1 hc).1).trans hc, own_kept ho hch (fun _ _ h => h), hn⟩
theorem bat_is {B b : Nat} {bs : List Value} {w : World} (h : BAt B b bs w) : IsB B b bs w := Or.inr h
def digitsB : ByteArray := ⟨#[48, 49, 50, 51, 52, 53, 54, 55, 56, 57, 97, 98, 99, 100, 101, 102]⟩
def digC (n : Nat) : UInt8 := digitsB.data.toList.getD n 0
def quoteC (c : UInt8) : List UInt8 := if plainI (c.toNat : Int) then [c] else [92, digC (c.toNat / 16), digC (c.toNat % 16)]
def quotedL (l : List UInt8) : List UInt8 := [34] ++ l.flatMap quoteC ++ [34]
theorem dig_at : ∀ p : Fin 16, digitsB.extract p.val (p.val + 1) = ⟨#[digC p.val]⟩ := by decide +kernel
theorem quoteC_len (c : UInt8) : (quoteC c).length ≤ 3 := by unfold quoteC; split <;> simp
theorem quoted_len : ∀ l : List UInt8, (l.flatMap quoteC).length ≤ 3 * l.length
 | [] => by simp
 | c :: l => by
  have := quoteC_len c
  have := quoted_len l
  simp only [List.flatMap_cons, List.length_append, List.length_cons]
  omega
theorem quoted_snoc (s : ByteArray) (i : Nat) (h : i < s.size) : (s.data.toList.take (i + 1)).flatMap quoteC = (s.data.toList.take i).flatMap quoteC ++ quoteC s[i] := by
 rw [List.take_succ_eq_append_getElem (by simpa using h), List.flatMap_append]
 simp only [List.flatMap_cons, List.flatMap_nil, List.append_nil]
 rfl
set_option maxHeartbeats 1000000 in
theorem quoted_any (s : ByteArray) (hs : s.size ≤ 1000000) (w : World) :
  Calls Tryz.prog 108 #[.string s] w fun e w' => e = .returned (.string ⟨(quotedL s.data.toList).toArray⟩) ∧ Below w.heap.size w w' := by
 obtain ⟨W1, hW1⟩ : ∃ W1, W1 = w.alloc (.cells #[.pointer none, .slice none 0 0] 104) := ⟨_, rfl⟩
 have hg : W1.heap[w.heap.size]? = some (.cells #[.pointer none, .slice none 0 0] 104 (0, 0)) := by rw [hW1]; exact heap_alloc_new w _
 have hb1 : Below w.heap.size w W1 := by rw [hW1]; exact (Below.refl _ w).alloc (Nat.le_refl _) _
 have hB1 : IsB w.heap.size w.heap.size [] W1 := .inl ⟨Nat.le_refl _, _, hg, ⟨rfl, .inl ⟨rfl, rfl⟩⟩, by simp [Value.ownBlock]⟩
 have HB1 := Lib.hid hB1
 have HW1 := Lib.hid hb1
 have hle := hb1.size
 clear hg hB1 hb1
 go_enter Tryz.func108, Tryz.ntmps108
 go_wp2_with (first
  | (rw [← hW1]; clear hW1)
  | (go_at_call 105; refine (wbyte_any w.heap.size w.heap.size [] 34 W1 HB1.out (by simp) hle).mono ?_; rintro e w2 ⟨rfl, hB2, hb2⟩; have HB2 := Lib.hid hB2; have HW2 := Lib.hid (HW1.out.trans hb2); clear hB2 hb2))
 go_loopw [9] (fun s9 wr => ∃ i : Nat, s9 = .int .i64 (i : Int) ∧ i ≤ s.size ∧ Hid (BAt w.heap.size w.heap.size (Lib.byteCells ([34] ++ (s.data.toList.take i).flatMap quoteC)) wr) ∧ Hid (Below w.heap.size w wr)) (fun s9 _ => s.size - (intOf s9).toNat)
 case atStart => exact ⟨0, rfl, by omega, HB2, HW2⟩
 case round =>
  obtain ⟨i, rfl, hi, HB, HW⟩ := hrel
  have hlen : ([34] ++ (s.data.toList.take i).flatMap quoteC).length ≤ 3000001 := by
   have := quoted_len (s.data.toList.take i)
   have : (s.data.toList.take i).length ≤ i := List.length_take_le _ _
   simp only [List.length_append, List.length_cons, List.length_nil]
   omega
  have hwle := HW.out.size
  by_cases hlt : i < s.size
  ·
   have hltz : (i : Int) < (s.size : Int) := by omega
   have HSN := Lib.hid (quoted_snoc s i hlt)
   have hc256 : s[i].toNat < 256 := s[i].toNat_lt
   have hP := Lib.hid (fun W => plain_any (s[i].toNat : Int) W)
   cases hp : plainI (s[i].toNat : Int) with
   | true =>
    rw [hp] at hP
    have HQ : Hid (quoteC s[i] = [s[i]]) := Lib.hid (by unfold quoteC; rw [if_pos hp])
    clear hp
    go_wp2_with (first
     | (go_at_call 145; ((with_reducible refine (hP.out _).mono ?_); rintro e w3 ⟨rfl, rfl⟩))
     | (go_at_call 105; ((with_reducible refine (wbyte_any w.heap.size w.heap.size _ (s[i].toNat : Int) wr (bat_is HB.out) ?_ ?_).mono ?_); (rw [Lib.byteCells_length]; omega); (omega); rintro e w4 ⟨rfl, hB4, hb4⟩; have HB4 := Lib.hid hB4; clear hB4)))
    go_roundw
    case rel =>
     refine ⟨i + 1, by go_num, by omega, Lib.hid ?_, Lib.hid (HW.out.trans hb4)⟩
     rw [HSN.out, HQ.out, ← List.append_assoc]
     have e : Lib.byteCells (([34] ++ (s.data.toList.take i).flatMap quoteC) ++ [s[i]]) = Lib.byteCells ([34] ++ (s.data.toList.take i).flatMap quoteC) ++ [.int .u8 (s[i].toNat : Int)] := by simp [Lib.byteCells]
     rw [e]
     exact HB4.out
    case measure => simp [intOf]; omega
   | false =>
    rw [hp] at hP
    have HQ : Hid (quoteC s[i] = [92, digC (s[i].toNat / 16), digC (s[i].toNat % 16)]) := Lib.hid (by unfold quoteC; rw [if_neg (by rw [hp]; decide)])
    clear hp
    go_wp2_with (first
     | (go_at_call 145; ((with_reducible refine (hP.out _).mono ?_); rintro e w3 ⟨rfl, rfl⟩)))
    obtain ⟨p, hp⟩ : ∃ p : Nat, p = s[i].toNat / 16 := ⟨_, rfl⟩
    obtain ⟨r, hr⟩ : ∃ r : Nat, r = s[i].toNat % 16 := ⟨_, rfl⟩
    have p16 : (p : Int) < 16 := by omega
    have r16 : (r : Int) < 16 := by omega
    have p1 : (p : Int) + 1 ≤ 16 := by omega
    have r1 : (r : Int) + 1 ≤ 16 := by omega
    have e1 : IntKind.u8.wrap ((s[i].toNat : Int) / 16) = (p : Int) := by rw [IntKind.wrap_u8]; omega
    have e2 : IntKind.u8.wrap ((p : Int) + 1) = (p : Int) + 1 := by rw [IntKind.wrap_u8]; omega
    have e3 : IntKind.u8.wrap ((s[i].toNat : Int) % 16) = (r : Int) := by rw [IntKind.wrap_u8]; omega
    have e4 : IntKind.u8.wrap ((r : Int) + 1) = (r : Int) + 1 := by rw [IntKind.wrap_u8]; omega
    have e5 : (s[i].toNat : Int) % 16 = (r : Int) := by omega
    have e6 : (s[i].toNat : Int).tmod 16 = (r : Int) := by rw [Int.tmod_eq_emod_of_nonneg (by omega)]; omega
    have n1 : ((p : Int) + 1).toNat = p + 1 := by omega
    have n2 : ((r : Int) + 1).toNat = r + 1 := by omega
    have n3 : (0 : Int) ≤ (p : Int) + 1 := by omega
    have n4 : (0 : Int) ≤ (r : Int) + 1 := by omega
    have n5 : (p : Int) ≤ (p : Int) + 1 := by omega
    have n6 : (r : Int) ≤ (r : Int) + 1 := by omega
    have g1 : ¬ (9223372036854775807 < 1 + (min (p + 1) 16 - p)) := by omega
    have g2 : ¬ (9223372036854775807 < 1 + (min (p + 1) 16 - p) + (min (r + 1) 16 - r)) := by omega
    have HD : Hid (digitsB.extract p (p + 1) = ⟨#[digC p]⟩ ∧ digitsB.extract r (r + 1) = ⟨#[digC r]⟩) := Lib.hid (And.intro (dig_at ⟨p, by omega⟩) (dig_at ⟨r, by omega⟩))
    have HX3 : Hid (((⟨#[92]⟩ : ByteArray) ++ (⟨#[48, 49, 50, 51, 52, 53, 54, 55, 56, 57, 97, 98, 99, 100, 101, 102]⟩ : ByteArray).extract p (p + 1) ++ (⟨#[48, 49, 50, 51, 52, 53, 54, 55, 56, 57, 97, 98, 99, 100, 101, 102]⟩ : ByteArray).extract r (r + 1)).size = 3) := Lib.hid (by have h1 : (⟨#[48, 49, 50, 51, 52, 53, 54, 55, 56, 57, 97, 98, 99, 100, 101, 102]⟩ : ByteArray).extract p (p + 1) = ⟨#[digC p]⟩ := HD.out.1; have h2 : (⟨#[48, 49, 50, 51, 52, 53, 54, 55, 56, 57, 97, 98, 99, 100, 101, 102]⟩ : ByteArray).extract r (r + 1) = ⟨#[digC r]⟩ := HD.out.2; rw [h1, h2]; simp [ByteArray.size_append]; rfl)
    have HPR := Lib.hid (And.intro hp hr)
    clear hp hr
    go_still_tail 14, (by kernel_rfl)
    change wpList _ _ _ _ _ wr.drew
    have HBd : Hid (IsB w.heap.size w.heap.size (Lib.byteCells ([34] ++ (s.data.toList.take i).flatMap quoteC)) wr.drew) := Lib.hid (bat_is HB.out.drew)
    clear e1 e2 e3 e4 e5 e6 g1 g2
    go_wp2_with (first
     | (go_at_call 60; ((with_reducible refine (wstr_any w.heap.size w.heap.size _ _ wr.drew HBd.out ?_ ?_).mono ?_); (rw [Lib.byteCells_length, HX3.out]; omega); (exact hwle); rintro e w4 ⟨rfl, hB4, hb4⟩; have HB4 := Lib.hid hB4; clear hB4)))
    go_roundw
    case rel =>
     have hw4 : Below w.heap.size w wr.drew := ⟨HW.out.os, HW.out.tape, HW.out.output, HW.out.size, HW.out.block⟩
     refine ⟨i + 1, by go_num, by omega, Lib.hid ?_, Lib.hid (hw4.trans hb4)⟩
     obtain ⟨hp, hr⟩ := HPR.out
     obtain ⟨hd1, hd2⟩ := HD.out
     rw [HSN.out, HQ.out, ← List.append_assoc, ← hp, ← hr]
     have e : Lib.byteCells (([34] ++ (s.data.toList.take i).flatMap quoteC) ++ [92, digC p, digC r]) = Lib.byteCells ([34] ++ (s.data.toList.take i).flatMap quoteC) ++ Lib.strCells (⟨#[92]⟩ ++ digitsB.extract p (p + 1) ++ digitsB.extract r (r + 1)) := by
      rw [hd1, hd2]
      simp [Lib.byteCells, Lib.strCells]
     rw [e]
     exact HB4.out
    case measure => simp [intOf]; omega
  ·
   have hltz : ¬ (i : Int) < (s.size : Int) := by omega
   obtain rfl : i = s.size := by omega
   have HBE : Hid (BAt w.heap.size w.heap.size (Lib.byteCells ([34] ++ s.data.toList.flatMap quoteC)) wr) := Lib.hid (by have := HB.out; rwa [List.take_of_length_le (by simp)] at this)
   have hl2 : (Lib.byteCells ([34] ++ s.data.toList.flatMap quoteC)).length ≤ 3000001 := by rw [Lib.byteCells_length]; rwa [List.take_of_length_le (by simp)] at hlen
   clear hlen HB
   go_wp2_with (first
    | (go_at_call 105; ((with_reducible refine (wbyte_any w.heap.size w.heap.size _ 34 wr (bat_is HBE.out) ?_ ?_).mono ?_); (omega); (omega); rintro e w4 ⟨rfl, hB4, hb4⟩; have hb4' := HW.out.trans hb4; have e34 : Lib.byteCells ([34] ++ s.data.toList.flatMap quoteC) ++ [.int .u8 34] = Lib.byteCells (quotedL s.data.toList) := (by simp [Lib.byteCells, quotedL]); rw [e34] at hB4; have HS := Lib.hid (Tryz.Builder_String_any w.heap.size w.heap.size (quotedL s.data.toList) w4 (.inr hB4) hb4'.size); clear hB4 e34))
    | (go_at_call 61; ((with_reducible refine HS.out.mono ?_); rintro e w5 ⟨rfl, hb5⟩)))
   go_ret
   exact ⟨rfl, hb4'.trans hb5⟩
end Go.Proofs.YtejbpnhondpnfaaGreat
namespace Go.Proofs.YtejbpnhondpnfaaGreat.PJob
open Go.RowKit Go.Proofs.YtejbpnhondpnfaaGreatW.PrintWords Go.Proofs.YtejbpnhondpnfaaGreatW.PrintLast Go.Proofs.YtejbpnhondpnfaaGreatW.PrintMore
attribute [local go_sem] qaz qbe
def raz.f (a0 : ByteArray) : Option ByteArray := if a0.size ≤ 1000000 then some ⟨(quotedL a0.data.toList).toArray⟩ else none
theorem raz.calls (a0 : ByteArray) (r : ByteArray) (w : World) (h : raz.f a0 = some r) :
    Calls Tryz.prog 108 #[.string a0] w fun e w' => e = .returned (.string r) ∧ Below w.heap.size w w' := by
  unfold raz.f at h
  split at h
  · rename_i hl
    injection h with h
    subst h
    exact quoted_any a0 hl w
  · cases h
def rbb.f (k : Nat) (a0_0 : Int) (a0_1 : Int) (a0_2 : ByteArray) (a0_3 : Int) (a0_4 : Int) : Option (ByteArray) := (ran.f a0_0 a0_1 a0_2 a0_3 a0_4).bind fun t176 => (if t176 = true then (if a0_0 = 0 then ((raj.f k a0_1).bind fun t177 => (some t177)) else (if a0_0 = 1 then ((raz.f a0_2).bind fun t178 => (some t178)) else ((raj.f k a0_3).bind fun t179 => (if t179.size + 1 ≤ 9223372036854775807 then ((raj.f k a0_4).bind fun t180 => (if (t179 ++ (⟨#[58]⟩ : ByteArray)).size + t180.size ≤ 9223372036854775807 then (some ((t179 ++ (⟨#[58]⟩ : ByteArray)) ++ t180)) else (none))) else (none))))) else (some (⟨#[]⟩ : ByteArray)))
set_option maxHeartbeats 8000000 in
set_option maxRecDepth 100000 in
theorem rbb.calls (k : Nat) (a0_0 : Int) (a0_1 : Int) (a0_2 : ByteArray) (a0_3 : Int) (a0_4 : Int) (r : ByteArray) (w : World) (h : rbb.f k a0_0 a0_1 a0_2 a0_3 a0_4 = some r) :
  Calls Tryz.prog 64 #[.agg #[.int .i64 a0_0, .int .i64 a0_1, .string a0_2, .int .i64 a0_3, .int .i64 a0_4]] w fun e w' => e = .returned (.string r) ∧ Below w.heap.size w w' := by
 have hu45 := Tryz.underlying45
 have HB := Aside0.mk (Below.refl w.heap.size w)
 have H : ((ran.f a0_0 a0_1 a0_2 a0_3 a0_4).bind fun t176 => (if t176 = true then (if a0_0 = 0 then ((raj.f k a0_1).bind fun t177 => (some t177)) else (if a0_0 = 1 then ((raz.f a0_2).bind fun t178 => (some t178)) else ((raj.f k a0_3).bind fun t179 => (if t179.size + 1 ≤ 9223372036854775807 then ((raj.f k a0_4).bind fun t180 => (if (t179 ++ (⟨#[58]⟩ : ByteArray)).size + t180.size ≤ 9223372036854775807 then (some ((t179 ++ (⟨#[58]⟩ : ByteArray)) ++ t180)) else (none))) else (none))))) else (some (⟨#[]⟩ : ByteArray)))) = some r := h
 clear h
 replace H := Option.bind_eq_some_iff.mp H
 obtain ⟨t176, A20, H⟩ := H
 replace H : (if t176 = true then (if a0_0 = 0 then ((raj.f k a0_1).bind fun t177 => (some t177)) else (if a0_0 = 1 then ((raz.f a0_2).bind fun t178 => (some t178)) else ((raj.f k a0_3).bind fun t179 => (if t179.size + 1 ≤ 9223372036854775807 then ((raj.f k a0_4).bind fun t180 => (if (t179 ++ (⟨#[58]⟩ : ByteArray)).size + t180.size ≤ 9223372036854775807 then (some ((t179 ++ (⟨#[58]⟩ : ByteArray)) ++ t180)) else (none))) else (none))))) else (some (⟨#[]⟩ : ByteArray))) = some r := H
 have A2 := Aside0.mk A20
 clear A20
 by_cases c3 : t176 = true
 ·
  subst c3
  have H1 : (if a0_0 = 0 then ((raj.f k a0_1).bind fun t177 => (some t177)) else (if a0_0 = 1 then ((raz.f a0_2).bind fun t178 => (some t178)) else ((raj.f k a0_3).bind fun t179 => (if t179.size + 1 ≤ 9223372036854775807 then ((raj.f k a0_4).bind fun t180 => (if (t179 ++ (⟨#[58]⟩ : ByteArray)).size + t180.size ≤ 9223372036854775807 then (some ((t179 ++ (⟨#[58]⟩ : ByteArray)) ++ t180)) else (none))) else (none))))) = some r := by rw [if_pos rfl] at H; exact H
  clear H
  have H := H1
  clear H1
  by_cases c4 : a0_0 = 0
  ·
   rw [if_pos c4] at H
   have c4b0 : (a0_0 == 0) = true := beq_iff_eq.mpr c4
   have c4b1 : (a0_0 != 0) = false := bne_eq_false_iff_eq.mpr c4
   clear c4
   replace H := Option.bind_eq_some_iff.mp H
   obtain ⟨t177, A50, H⟩ := H
   replace H : (some t177) = some r := H
   have A5 := Aside0.mk A50
   clear A50
   obtain rfl := Option.some.inj H
   go_enter Tryz.func64, Tryz.ntmps64
   go_wp2_with (first | ((with_reducible refine qav (N := 1) rfl ?_); refine qau ?hg (N := 1) ?hd (cs := #[.int .i64 a0_0, .int .i64 a0_1, .string a0_2, .int .i64 a0_3, .int .i64 a0_4]) (t := 45) ?hr ?_; (case hd => rfl); (case hg => rfl); (case hr => first | (go_simp; done) | (go_simp; rfl)); intro gb175 hg w6 hbox hb; have n0_ := Aside0.mk (qah (by repeat (first | (with_reducible first | exact HB.out | apply qad | apply qab | apply qac) | exact HB.out)) hb); have n1_ := Aside0.mk (hbox); have n2_ := Aside0.mk ((by rw [hg]; exact (qaj (by repeat (first | (with_reducible first | exact HB.out | apply qad | apply qab | apply qac) | exact HB.out))) : w.heap.size ≤ gb175)); have n3_ := Aside0.mk ((by rw [hg]; exact (qaj (by repeat (first | (with_reducible first | exact HB.out | apply qad | apply qab | apply qac) | exact HB.out))) : w.heap.size ≤ gb175)); clear HB; have HB := n0_; have BK175 := n1_; have GW175 := n2_; have GE175 := n3_; clear n0_ n1_ n2_ n3_; clear hb hbox hg; obtain ⟨G7_0, G7_1, G7_2, G7_3, G7_4, F7_0, F7_1, F7_2, F7_3, F7_4⟩ := shr5 BK175.out) | (go_at_call 45; (with_reducible refine (ran.calls a0_0 a0_1 a0_2 a0_3 a0_4 true _ A2.out).mono ?_); rintro e w8 ⟨rfl, hb⟩; have n0_ := Aside0.mk (qan (g := gb175) (o := .cells #[.int .i64 a0_0, .int .i64 a0_1, .string a0_2, .int .i64 a0_3, .int .i64 a0_4] 45 (0, 0)) (by (with_reducible repeat (first | refine qag ?_ _ | refine qai ?_ | refine blk_alloc ?_ _)); exact BK175.out) hb); have n1_ := Aside0.mk (qah (by repeat (first | (with_reducible first | exact HB.out | apply qad | apply qab | apply qac | refine qaf ?_ GE175.out) | exact HB.out)) hb); clear BK175; clear HB; have BK175 := n0_; have HB := n1_; clear n0_ n1_; (try clear hb); (try clear hb2); (try clear hk); (try clear hi); obtain ⟨G9_0, G9_1, G9_2, G9_3, G9_4, F9_0, F9_1, F9_2, F9_3, F9_4⟩ := shr5 BK175.out) | (go_at_call 107; (with_reducible refine (raj.calls k a0_1 t177 _ A5.out).mono ?_); rintro e w' ⟨rfl, ⟨nd, rfl⟩⟩; (try first | exact ⟨rfl, _, World.drewN_drewN _ _ _⟩ | exact ⟨rfl, _, Eq.trans (World.drewN_drewN _ _ _) (congrArg (World.drewN _) (Nat.add_assoc _ _ _))⟩)))
   repeat (go_quiet (first | ((with_reducible refine qav (N := 1) rfl ?_); refine qau ?hg (N := 1) ?hd (cs := #[.int .i64 a0_0, .int .i64 a0_1, .string a0_2, .int .i64 a0_3, .int .i64 a0_4]) (t := 45) ?hr ?_; (case hd => rfl); (case hg => rfl); (case hr => first | (go_simp; done) | (go_simp; rfl)); intro gb175 hg w6 hbox hb; have n0_ := Aside0.mk (qah (by repeat (first | (with_reducible first | exact HB.out | apply qad | apply qab | apply qac) | exact HB.out)) hb); have n1_ := Aside0.mk (hbox); have n2_ := Aside0.mk ((by rw [hg]; exact (qaj (by repeat (first | (with_reducible first | exact HB.out | apply qad | apply qab | apply qac) | exact HB.out))) : w.heap.size ≤ gb175)); have n3_ := Aside0.mk ((by rw [hg]; exact (qaj (by repeat (first | (with_reducible first | exact HB.out | apply qad | apply qab | apply qac) | exact HB.out))) : w.heap.size ≤ gb175)); clear HB; have HB := n0_; have BK175 := n1_; have GW175 := n2_; have GE175 := n3_; clear n0_ n1_ n2_ n3_; clear hb hbox hg; obtain ⟨G7_0, G7_1, G7_2, G7_3, G7_4, F7_0, F7_1, F7_2, F7_3, F7_4⟩ := shr5 BK175.out) | (go_at_call 45; (with_reducible refine (ran.calls a0_0 a0_1 a0_2 a0_3 a0_4 true _ A2.out).mono ?_); rintro e w8 ⟨rfl, hb⟩; have n0_ := Aside0.mk (qan (g := gb175) (o := .cells #[.int .i64 a0_0, .int .i64 a0_1, .string a0_2, .int .i64 a0_3, .int .i64 a0_4] 45 (0, 0)) (by (with_reducible repeat (first | refine qag ?_ _ | refine qai ?_ | refine blk_alloc ?_ _)); exact BK175.out) hb); have n1_ := Aside0.mk (qah (by repeat (first | (with_reducible first | exact HB.out | apply qad | apply qab | apply qac | refine qaf ?_ GE175.out) | exact HB.out)) hb); clear BK175; clear HB; have BK175 := n0_; have HB := n1_; clear n0_ n1_; (try clear hb); (try clear hb2); (try clear hk); (try clear hi); obtain ⟨G9_0, G9_1, G9_2, G9_3, G9_4, F9_0, F9_1, F9_2, F9_3, F9_4⟩ := shr5 BK175.out) | (go_at_call 107; (with_reducible refine (raj.calls k a0_1 t177 _ A5.out).mono ?_); rintro e w' ⟨rfl, ⟨nd, rfl⟩⟩; (try first | exact ⟨rfl, _, World.drewN_drewN _ _ _⟩ | exact ⟨rfl, _, Eq.trans (World.drewN_drewN _ _ _) (congrArg (World.drewN _) (Nat.add_assoc _ _ _))⟩))); try go_wp2_with (first | ((with_reducible refine qav (N := 1) rfl ?_); refine qau ?hg (N := 1) ?hd (cs := #[.int .i64 a0_0, .int .i64 a0_1, .string a0_2, .int .i64 a0_3, .int .i64 a0_4]) (t := 45) ?hr ?_; (case hd => rfl); (case hg => rfl); (case hr => first | (go_simp; done) | (go_simp; rfl)); intro gb175 hg w6 hbox hb; have n0_ := Aside0.mk (qah (by repeat (first | (with_reducible first | exact HB.out | apply qad | apply qab | apply qac) | exact HB.out)) hb); have n1_ := Aside0.mk (hbox); have n2_ := Aside0.mk ((by rw [hg]; exact (qaj (by repeat (first | (with_reducible first | exact HB.out | apply qad | apply qab | apply qac) | exact HB.out))) : w.heap.size ≤ gb175)); have n3_ := Aside0.mk ((by rw [hg]; exact (qaj (by repeat (first | (with_reducible first | exact HB.out | apply qad | apply qab | apply qac) | exact HB.out))) : w.heap.size ≤ gb175)); clear HB; have HB := n0_; have BK175 := n1_; have GW175 := n2_; have GE175 := n3_; clear n0_ n1_ n2_ n3_; clear hb hbox hg; obtain ⟨G7_0, G7_1, G7_2, G7_3, G7_4, F7_0, F7_1, F7_2, F7_3, F7_4⟩ := shr5 BK175.out) | (go_at_call 45; (with_reducible refine (ran.calls a0_0 a0_1 a0_2 a0_3 a0_4 true _ A2.out).mono ?_); rintro e w8 ⟨rfl, hb⟩; have n0_ := Aside0.mk (qan (g := gb175) (o := .cells #[.int .i64 a0_0, .int .i64 a0_1, .string a0_2, .int .i64 a0_3, .int .i64 a0_4] 45 (0, 0)) (by (with_reducible repeat (first | refine qag ?_ _ | refine qai ?_ | refine blk_alloc ?_ _)); exact BK175.out) hb); have n1_ := Aside0.mk (qah (by repeat (first | (with_reducible first | exact HB.out | apply qad | apply qab | apply qac | refine qaf ?_ GE175.out) | exact HB.out)) hb); clear BK175; clear HB; have BK175 := n0_; have HB := n1_; clear n0_ n1_; (try clear hb); (try clear hb2); (try clear hk); (try clear hi); obtain ⟨G9_0, G9_1, G9_2, G9_3, G9_4, F9_0, F9_1, F9_2, F9_3, F9_4⟩ := shr5 BK175.out) | (go_at_call 107; (with_reducible refine (raj.calls k a0_1 t177 _ A5.out).mono ?_); rintro e w' ⟨rfl, ⟨nd, rfl⟩⟩; (try first | exact ⟨rfl, _, World.drewN_drewN _ _ _⟩ | exact ⟨rfl, _, Eq.trans (World.drewN_drewN _ _ _) (congrArg (World.drewN _) (Nat.add_assoc _ _ _))⟩))))
   go_ret
   exact ⟨by first | rfl | (simp [*] <;> rfl), by repeat (first | (with_reducible first | exact HB.out | apply qad | apply qab | apply qac | refine qaf ?_ GE175.out) | exact HB.out)⟩
  ·
   rw [if_neg c4] at H
   have c4b0 : (a0_0 == 0) = false := beq_eq_false_iff_ne.mpr c4
   have c4b1 : (a0_0 != 0) = true := bne_iff_ne.mpr c4
   by_cases c10 : a0_0 = 1
   ·
    rw [if_pos c10] at H
    have c10b0 : (a0_0 == 1) = true := beq_iff_eq.mpr c10
    have c10b1 : (a0_0 != 1) = false := bne_eq_false_iff_eq.mpr c10
    clear c10
    replace H := Option.bind_eq_some_iff.mp H
    obtain ⟨t178, A110, H⟩ := H
    replace H : (some t178) = some r := H
    have A11 := Aside0.mk A110
    clear A110
    obtain rfl := Option.some.inj H
    go_enter Tryz.func64, Tryz.ntmps64
    go_wp2_with (first | ((with_reducible refine qav (N := 1) rfl ?_); refine qau ?hg (N := 1) ?hd (cs := #[.int .i64 a0_0, .int .i64 a0_1, .string a0_2, .int .i64 a0_3, .int .i64 a0_4]) (t := 45) ?hr ?_; (case hd => rfl); (case hg => rfl); (case hr => first | (go_simp; done) | (go_simp; rfl)); intro gb175 hg w12 hbox hb; have n0_ := Aside0.mk (qah (by repeat (first | (with_reducible first | exact HB.out | apply qad | apply qab | apply qac) | exact HB.out)) hb); have n1_ := Aside0.mk (hbox); have n2_ := Aside0.mk ((by rw [hg]; exact (qaj (by repeat (first | (with_reducible first | exact HB.out | apply qad | apply qab | apply qac) | exact HB.out))) : w.heap.size ≤ gb175)); have n3_ := Aside0.mk ((by rw [hg]; exact (qaj (by repeat (first | (with_reducible first | exact HB.out | apply qad | apply qab | apply qac) | exact HB.out))) : w.heap.size ≤ gb175)); clear HB; have HB := n0_; have BK175 := n1_; have GW175 := n2_; have GE175 := n3_; clear n0_ n1_ n2_ n3_; clear hb hbox hg; obtain ⟨G13_0, G13_1, G13_2, G13_3, G13_4, F13_0, F13_1, F13_2, F13_3, F13_4⟩ := shr5 BK175.out) | (go_at_call 45; (with_reducible refine (ran.calls a0_0 a0_1 a0_2 a0_3 a0_4 true _ A2.out).mono ?_); rintro e w14 ⟨rfl, hb⟩; have n0_ := Aside0.mk (qan (g := gb175) (o := .cells #[.int .i64 a0_0, .int .i64 a0_1, .string a0_2, .int .i64 a0_3, .int .i64 a0_4] 45 (0, 0)) (by (with_reducible repeat (first | refine qag ?_ _ | refine qai ?_ | refine blk_alloc ?_ _)); exact BK175.out) hb); have n1_ := Aside0.mk (qah (by repeat (first | (with_reducible first | exact HB.out | apply qad | apply qab | apply qac | refine qaf ?_ GE175.out) | exact HB.out)) hb); clear BK175; clear HB; have BK175 := n0_; have HB := n1_; clear n0_ n1_; (try clear hb); (try clear hb2); (try clear hk); (try clear hi); obtain ⟨G15_0, G15_1, G15_2, G15_3, G15_4, F15_0, F15_1, F15_2, F15_3, F15_4⟩ := shr5 BK175.out) | (go_at_call 108; (with_reducible refine (raz.calls a0_2 t178 _ A11.out).mono ?_); rintro e w16 ⟨rfl, hb⟩; have n0_ := Aside0.mk (qan (g := gb175) (o := .cells #[.int .i64 a0_0, .int .i64 a0_1, .string a0_2, .int .i64 a0_3, .int .i64 a0_4] 45 (0, 0)) (by (with_reducible repeat (first | refine qag ?_ _ | refine qai ?_ | refine blk_alloc ?_ _)); exact BK175.out) hb); have n1_ := Aside0.mk (qah (by repeat (first | (with_reducible first | exact HB.out | apply qad | apply qab | apply qac | refine qaf ?_ GE175.out) | exact HB.out)) hb); clear BK175; clear HB; have BK175 := n0_; have HB := n1_; clear n0_ n1_; (try clear hb); (try clear hb2); (try clear hk); (try clear hi)))
    repeat (go_quiet (first | ((with_reducible refine qav (N := 1) rfl ?_); refine qau ?hg (N := 1) ?hd (cs := #[.int .i64 a0_0, .int .i64 a0_1, .string a0_2, .int .i64 a0_3, .int .i64 a0_4]) (t := 45) ?hr ?_; (case hd => rfl); (case hg => rfl); (case hr => first | (go_simp; done) | (go_simp; rfl)); intro gb175 hg w12 hbox hb; have n0_ := Aside0.mk (qah (by repeat (first | (with_reducible first | exact HB.out | apply qad | apply qab | apply qac) | exact HB.out)) hb); have n1_ := Aside0.mk (hbox); have n2_ := Aside0.mk ((by rw [hg]; exact (qaj (by repeat (first | (with_reducible first | exact HB.out | apply qad | apply qab | apply qac) | exact HB.out))) : w.heap.size ≤ gb175)); have n3_ := Aside0.mk ((by rw [hg]; exact (qaj (by repeat (first | (with_reducible first | exact HB.out | apply qad | apply qab | apply qac) | exact HB.out))) : w.heap.size ≤ gb175)); clear HB; have HB := n0_; have BK175 := n1_; have GW175 := n2_; have GE175 := n3_; clear n0_ n1_ n2_ n3_; clear hb hbox hg; obtain ⟨G13_0, G13_1, G13_2, G13_3, G13_4, F13_0, F13_1, F13_2, F13_3, F13_4⟩ := shr5 BK175.out) | (go_at_call 45; (with_reducible refine (ran.calls a0_0 a0_1 a0_2 a0_3 a0_4 true _ A2.out).mono ?_); rintro e w14 ⟨rfl, hb⟩; have n0_ := Aside0.mk (qan (g := gb175) (o := .cells #[.int .i64 a0_0, .int .i64 a0_1, .string a0_2, .int .i64 a0_3, .int .i64 a0_4] 45 (0, 0)) (by (with_reducible repeat (first | refine qag ?_ _ | refine qai ?_ | refine blk_alloc ?_ _)); exact BK175.out) hb); have n1_ := Aside0.mk (qah (by repeat (first | (with_reducible first | exact HB.out | apply qad | apply qab | apply qac | refine qaf ?_ GE175.out) | exact HB.out)) hb); clear BK175; clear HB; have BK175 := n0_; have HB := n1_; clear n0_ n1_; (try clear hb); (try clear hb2); (try clear hk); (try clear hi); obtain ⟨G15_0, G15_1, G15_2, G15_3, G15_4, F15_0, F15_1, F15_2, F15_3, F15_4⟩ := shr5 BK175.out) | (go_at_call 108; (with_reducible refine (raz.calls a0_2 t178 _ A11.out).mono ?_); rintro e w16 ⟨rfl, hb⟩; have n0_ := Aside0.mk (qan (g := gb175) (o := .cells #[.int .i64 a0_0, .int .i64 a0_1, .string a0_2, .int .i64 a0_3, .int .i64 a0_4] 45 (0, 0)) (by (with_reducible repeat (first | refine qag ?_ _ | refine qai ?_ | refine blk_alloc ?_ _)); exact BK175.out) hb); have n1_ := Aside0.mk (qah (by repeat (first | (with_reducible first | exact HB.out | apply qad | apply qab | apply qac | refine qaf ?_ GE175.out) | exact HB.out)) hb); clear BK175; clear HB; have BK175 := n0_; have HB := n1_; clear n0_ n1_; (try clear hb); (try clear hb2); (try clear hk); (try clear hi))); try go_wp2_with (first | ((with_reducible refine qav (N := 1) rfl ?_); refine qau ?hg (N := 1) ?hd (cs := #[.int .i64 a0_0, .int .i64 a0_1, .string a0_2, .int .i64 a0_3, .int .i64 a0_4]) (t := 45) ?hr ?_; (case hd => rfl); (case hg => rfl); (case hr => first | (go_simp; done) | (go_simp; rfl)); intro gb175 hg w12 hbox hb; have n0_ := Aside0.mk (qah (by repeat (first | (with_reducible first | exact HB.out | apply qad | apply qab | apply qac) | exact HB.out)) hb); have n1_ := Aside0.mk (hbox); have n2_ := Aside0.mk ((by rw [hg]; exact (qaj (by repeat (first | (with_reducible first | exact HB.out | apply qad | apply qab | apply qac) | exact HB.out))) : w.heap.size ≤ gb175)); have n3_ := Aside0.mk ((by rw [hg]; exact (qaj (by repeat (first | (with_reducible first | exact HB.out | apply qad | apply qab | apply qac) | exact HB.out))) : w.heap.size ≤ gb175)); clear HB; have HB := n0_; have BK175 := n1_; have GW175 := n2_; have GE175 := n3_; clear n0_ n1_ n2_ n3_; clear hb hbox hg; obtain ⟨G13_0, G13_1, G13_2, G13_3, G13_4, F13_0, F13_1, F13_2, F13_3, F13_4⟩ := shr5 BK175.out) | (go_at_call 45; (with_reducible refine (ran.calls a0_0 a0_1 a0_2 a0_3 a0_4 true _ A2.out).mono ?_); rintro e w14 ⟨rfl, hb⟩; have n0_ := Aside0.mk (qan (g := gb175) (o := .cells #[.int .i64 a0_0, .int .i64 a0_1, .string a0_2, .int .i64 a0_3, .int .i64 a0_4] 45 (0, 0)) (by (with_reducible repeat (first | refine qag ?_ _ | refine qai ?_ | refine blk_alloc ?_ _)); exact BK175.out) hb); have n1_ := Aside0.mk (qah (by repeat (first | (with_reducible first | exact HB.out | apply qad | apply qab | apply qac | refine qaf ?_ GE175.out) | exact HB.out)) hb); clear BK175; clear HB; have BK175 := n0_; have HB := n1_; clear n0_ n1_; (try clear hb); (try clear hb2); (try clear hk); (try clear hi); obtain ⟨G15_0, G15_1, G15_2, G15_3, G15_4, F15_0, F15_1, F15_2, F15_3, F15_4⟩ := shr5 BK175.out) | (go_at_call 108; (with_reducible refine (raz.calls a0_2 t178 _ A11.out).mono ?_); rintro e w16 ⟨rfl, hb⟩; have n0_ := Aside0.mk (qan (g := gb175) (o := .cells #[.int .i64 a0_0, .int .i64 a0_1, .string a0_2, .int .i64 a0_3, .int .i64 a0_4] 45 (0, 0)) (by (with_reducible repeat (first | refine qag ?_ _ | refine qai ?_ | refine blk_alloc ?_ _)); exact BK175.out) hb); have n1_ := Aside0.mk (qah (by repeat (first | (with_reducible first | exact HB.out | apply qad | apply qab | apply qac | refine qaf ?_ GE175.out) | exact HB.out)) hb); clear BK175; clear HB; have BK175 := n0_; have HB := n1_; clear n0_ n1_; (try clear hb); (try clear hb2); (try clear hk); (try clear hi))))
    go_ret
    exact ⟨by first | rfl | (simp [*] <;> rfl), by repeat (first | (with_reducible first | exact HB.out | apply qad | apply qab | apply qac | refine qaf ?_ GE175.out) | exact HB.out)⟩
   ·
    rw [if_neg c10] at H
    have c10b0 : (a0_0 == 1) = false := beq_eq_false_iff_ne.mpr c10
    have c10b1 : (a0_0 != 1) = true := bne_iff_ne.mpr c10
    replace H := Option.bind_eq_some_iff.mp H
    obtain ⟨t179, A170, H⟩ := H
    replace H : (if t179.size + 1 ≤ 9223372036854775807 then ((raj.f k a0_4).bind fun t180 => (if (t179 ++ (⟨#[58]⟩ : ByteArray)).size + t180.size ≤ 9223372036854775807 then (some ((t179 ++ (⟨#[58]⟩ : ByteArray)) ++ t180)) else (none))) else (none)) = some r := H
    have A17 := Aside0.mk A170
    clear A170
    by_cases c18 : t179.size + 1 ≤ 9223372036854775807
    ·
     rw [if_pos c18] at H
     have c18b0 := eq_true c18
     have c18b1 : decide (t179.size + 1 ≤ 9223372036854775807) = true := decide_eq_true c18
     try have c18b2 : (9223372036854775807 < t179.size + 1) = False := eq_false (Nat.not_lt.2 c18)
     replace H := Option.bind_eq_some_iff.mp H
     obtain ⟨t180, A190, H⟩ := H
     replace H : (if (t179 ++ (⟨#[58]⟩ : ByteArray)).size + t180.size ≤ 9223372036854775807 then (some ((t179 ++ (⟨#[58]⟩ : ByteArray)) ++ t180)) else (none)) = some r := H
     have A19 := Aside0.mk A190
     clear A190
     by_cases c20 : (t179 ++ (⟨#[58]⟩ : ByteArray)).size + t180.size ≤ 9223372036854775807
     ·
      rw [if_pos c20] at H
      have c20b0 := eq_true c20
      have c20b1 : decide ((t179 ++ (⟨#[58]⟩ : ByteArray)).size + t180.size ≤ 9223372036854775807) = true := decide_eq_true c20
      try have c20b2 : (9223372036854775807 < (t179 ++ (⟨#[58]⟩ : ByteArray)).size + t180.size) = False := eq_false (Nat.not_lt.2 c20)
      try have c20b3 := c20b2
      try simp only [ByteArray.size_append, show (ByteArray.mk #[58]).size = 1 from rfl] at c20b3
      obtain rfl := Option.some.inj H
      go_enter Tryz.func64, Tryz.ntmps64
      go_wp2_with (first | ((with_reducible refine qav (N := 1) rfl ?_); refine qau ?hg (N := 1) ?hd (cs := #[.int .i64 a0_0, .int .i64 a0_1, .string a0_2, .int .i64 a0_3, .int .i64 a0_4]) (t := 45) ?hr ?_; (case hd => rfl); (case hg => rfl); (case hr => first | (go_simp; done) | (go_simp; rfl)); intro gb175 hg w21 hbox hb; have n0_ := Aside0.mk (qah (by repeat (first | (with_reducible first | exact HB.out | apply qad | apply qab | apply qac) | exact HB.out)) hb); have n1_ := Aside0.mk (hbox); have n2_ := Aside0.mk ((by rw [hg]; exact (qaj (by repeat (first | (with_reducible first | exact HB.out | apply qad | apply qab | apply qac) | exact HB.out))) : w.heap.size ≤ gb175)); have n3_ := Aside0.mk ((by rw [hg]; exact (qaj (by repeat (first | (with_reducible first | exact HB.out | apply qad | apply qab | apply qac) | exact HB.out))) : w.heap.size ≤ gb175)); clear HB; have HB := n0_; have BK175 := n1_; have GW175 := n2_; have GE175 := n3_; clear n0_ n1_ n2_ n3_; clear hb hbox hg; obtain ⟨G22_0, G22_1, G22_2, G22_3, G22_4, F22_0, F22_1, F22_2, F22_3, F22_4⟩ := shr5 BK175.out) | (go_at_call 45; (with_reducible refine (ran.calls a0_0 a0_1 a0_2 a0_3 a0_4 true _ A2.out).mono ?_); rintro e w23 ⟨rfl, hb⟩; have n0_ := Aside0.mk (qan (g := gb175) (o := .cells #[.int .i64 a0_0, .int .i64 a0_1, .string a0_2, .int .i64 a0_3, .int .i64 a0_4] 45 (0, 0)) (by (with_reducible repeat (first | refine qag ?_ _ | refine qai ?_ | refine blk_alloc ?_ _)); exact BK175.out) hb); have n1_ := Aside0.mk (qah (by repeat (first | (with_reducible first | exact HB.out | apply qad | apply qab | apply qac | refine qaf ?_ GE175.out) | exact HB.out)) hb); clear BK175; clear HB; have BK175 := n0_; have HB := n1_; clear n0_ n1_; (try clear hb); (try clear hb2); (try clear hk); (try clear hi); obtain ⟨G24_0, G24_1, G24_2, G24_3, G24_4, F24_0, F24_1, F24_2, F24_3, F24_4⟩ := shr5 BK175.out) | (go_at_call 107; (with_reducible refine (raj.calls k a0_3 t179 _ A17.out).mono ?_); rintro e w' ⟨rfl, ⟨nd, rfl⟩⟩; (try first | exact ⟨rfl, _, World.drewN_drewN _ _ _⟩ | exact ⟨rfl, _, Eq.trans (World.drewN_drewN _ _ _) (congrArg (World.drewN _) (Nat.add_assoc _ _ _))⟩)) | (go_at_call 107; (with_reducible refine (raj.calls k a0_4 t180 _ A19.out).mono ?_); rintro e w' ⟨rfl, ⟨nd, rfl⟩⟩; (try first | exact ⟨rfl, _, World.drewN_drewN _ _ _⟩ | exact ⟨rfl, _, Eq.trans (World.drewN_drewN _ _ _) (congrArg (World.drewN _) (Nat.add_assoc _ _ _))⟩)))
      repeat (go_quiet (first | ((with_reducible refine qav (N := 1) rfl ?_); refine qau ?hg (N := 1) ?hd (cs := #[.int .i64 a0_0, .int .i64 a0_1, .string a0_2, .int .i64 a0_3, .int .i64 a0_4]) (t := 45) ?hr ?_; (case hd => rfl); (case hg => rfl); (case hr => first | (go_simp; done) | (go_simp; rfl)); intro gb175 hg w21 hbox hb; have n0_ := Aside0.mk (qah (by repeat (first | (with_reducible first | exact HB.out | apply qad | apply qab | apply qac) | exact HB.out)) hb); have n1_ := Aside0.mk (hbox); have n2_ := Aside0.mk ((by rw [hg]; exact (qaj (by repeat (first | (with_reducible first | exact HB.out | apply qad | apply qab | apply qac) | exact HB.out))) : w.heap.size ≤ gb175)); have n3_ := Aside0.mk ((by rw [hg]; exact (qaj (by repeat (first | (with_reducible first | exact HB.out | apply qad | apply qab | apply qac) | exact HB.out))) : w.heap.size ≤ gb175)); clear HB; have HB := n0_; have BK175 := n1_; have GW175 := n2_; have GE175 := n3_; clear n0_ n1_ n2_ n3_; clear hb hbox hg; obtain ⟨G22_0, G22_1, G22_2, G22_3, G22_4, F22_0, F22_1, F22_2, F22_3, F22_4⟩ := shr5 BK175.out) | (go_at_call 45; (with_reducible refine (ran.calls a0_0 a0_1 a0_2 a0_3 a0_4 true _ A2.out).mono ?_); rintro e w23 ⟨rfl, hb⟩; have n0_ := Aside0.mk (qan (g := gb175) (o := .cells #[.int .i64 a0_0, .int .i64 a0_1, .string a0_2, .int .i64 a0_3, .int .i64 a0_4] 45 (0, 0)) (by (with_reducible repeat (first | refine qag ?_ _ | refine qai ?_ | refine blk_alloc ?_ _)); exact BK175.out) hb); have n1_ := Aside0.mk (qah (by repeat (first | (with_reducible first | exact HB.out | apply qad | apply qab | apply qac | refine qaf ?_ GE175.out) | exact HB.out)) hb); clear BK175; clear HB; have BK175 := n0_; have HB := n1_; clear n0_ n1_; (try clear hb); (try clear hb2); (try clear hk); (try clear hi); obtain ⟨G24_0, G24_1, G24_2, G24_3, G24_4, F24_0, F24_1, F24_2, F24_3, F24_4⟩ := shr5 BK175.out) | (go_at_call 107; (with_reducible refine (raj.calls k a0_3 t179 _ A17.out).mono ?_); rintro e w' ⟨rfl, ⟨nd, rfl⟩⟩; (try first | exact ⟨rfl, _, World.drewN_drewN _ _ _⟩ | exact ⟨rfl, _, Eq.trans (World.drewN_drewN _ _ _) (congrArg (World.drewN _) (Nat.add_assoc _ _ _))⟩)) | (go_at_call 107; (with_reducible refine (raj.calls k a0_4 t180 _ A19.out).mono ?_); rintro e w' ⟨rfl, ⟨nd, rfl⟩⟩; (try first | exact ⟨rfl, _, World.drewN_drewN _ _ _⟩ | exact ⟨rfl, _, Eq.trans (World.drewN_drewN _ _ _) (congrArg (World.drewN _) (Nat.add_assoc _ _ _))⟩))); try go_wp2_with (first | ((with_reducible refine qav (N := 1) rfl ?_); refine qau ?hg (N := 1) ?hd (cs := #[.int .i64 a0_0, .int .i64 a0_1, .string a0_2, .int .i64 a0_3, .int .i64 a0_4]) (t := 45) ?hr ?_; (case hd => rfl); (case hg => rfl); (case hr => first | (go_simp; done) | (go_simp; rfl)); intro gb175 hg w21 hbox hb; have n0_ := Aside0.mk (qah (by repeat (first | (with_reducible first | exact HB.out | apply qad | apply qab | apply qac) | exact HB.out)) hb); have n1_ := Aside0.mk (hbox); have n2_ := Aside0.mk ((by rw [hg]; exact (qaj (by repeat (first | (with_reducible first | exact HB.out | apply qad | apply qab | apply qac) | exact HB.out))) : w.heap.size ≤ gb175)); have n3_ := Aside0.mk ((by rw [hg]; exact (qaj (by repeat (first | (with_reducible first | exact HB.out | apply qad | apply qab | apply qac) | exact HB.out))) : w.heap.size ≤ gb175)); clear HB; have HB := n0_; have BK175 := n1_; have GW175 := n2_; have GE175 := n3_; clear n0_ n1_ n2_ n3_; clear hb hbox hg; obtain ⟨G22_0, G22_1, G22_2, G22_3, G22_4, F22_0, F22_1, F22_2, F22_3, F22_4⟩ := shr5 BK175.out) | (go_at_call 45; (with_reducible refine (ran.calls a0_0 a0_1 a0_2 a0_3 a0_4 true _ A2.out).mono ?_); rintro e w23 ⟨rfl, hb⟩; have n0_ := Aside0.mk (qan (g := gb175) (o := .cells #[.int .i64 a0_0, .int .i64 a0_1, .string a0_2, .int .i64 a0_3, .int .i64 a0_4] 45 (0, 0)) (by (with_reducible repeat (first | refine qag ?_ _ | refine qai ?_ | refine blk_alloc ?_ _)); exact BK175.out) hb); have n1_ := Aside0.mk (qah (by repeat (first | (with_reducible first | exact HB.out | apply qad | apply qab | apply qac | refine qaf ?_ GE175.out) | exact HB.out)) hb); clear BK175; clear HB; have BK175 := n0_; have HB := n1_; clear n0_ n1_; (try clear hb); (try clear hb2); (try clear hk); (try clear hi); obtain ⟨G24_0, G24_1, G24_2, G24_3, G24_4, F24_0, F24_1, F24_2, F24_3, F24_4⟩ := shr5 BK175.out) | (go_at_call 107; (with_reducible refine (raj.calls k a0_3 t179 _ A17.out).mono ?_); rintro e w' ⟨rfl, ⟨nd, rfl⟩⟩; (try first | exact ⟨rfl, _, World.drewN_drewN _ _ _⟩ | exact ⟨rfl, _, Eq.trans (World.drewN_drewN _ _ _) (congrArg (World.drewN _) (Nat.add_assoc _ _ _))⟩)) | (go_at_call 107; (with_reducible refine (raj.calls k a0_4 t180 _ A19.out).mono ?_); rintro e w' ⟨rfl, ⟨nd, rfl⟩⟩; (try first | exact ⟨rfl, _, World.drewN_drewN _ _ _⟩ | exact ⟨rfl, _, Eq.trans (World.drewN_drewN _ _ _) (congrArg (World.drewN _) (Nat.add_assoc _ _ _))⟩))))
      go_ret
      exact ⟨by first | rfl | (simp [*] <;> rfl), by repeat (first | (with_reducible first | exact HB.out | apply qad | apply qab | apply qac | refine qaf ?_ GE175.out) | exact HB.out)⟩
     ·
      rw [if_neg c20] at H
      exact absurd H (by simp)
    ·
     rw [if_neg c18] at H
     exact absurd H (by simp)
 ·
  replace c3 := Bool.eq_false_iff.mpr c3
  subst c3
  have H1 : (some (⟨#[]⟩ : ByteArray)) = some r := by rw [if_neg (show ¬ (false = true) by decide)] at H; exact H
  clear H
  have H := H1
  clear H1
  obtain rfl := Option.some.inj H
  go_enter Tryz.func64, Tryz.ntmps64
  go_wp2_with (first | ((with_reducible refine qav (N := 1) rfl ?_); refine qau ?hg (N := 1) ?hd (cs := #[.int .i64 a0_0, .int .i64 a0_1, .string a0_2, .int .i64 a0_3, .int .i64 a0_4]) (t := 45) ?hr ?_; (case hd => rfl); (case hg => rfl); (case hr => first | (go_simp; done) | (go_simp; rfl)); intro gb175 hg w25 hbox hb; have n0_ := Aside0.mk (qah (by repeat (first | (with_reducible first | exact HB.out | apply qad | apply qab | apply qac) | exact HB.out)) hb); have n1_ := Aside0.mk (hbox); have n2_ := Aside0.mk ((by rw [hg]; exact (qaj (by repeat (first | (with_reducible first | exact HB.out | apply qad | apply qab | apply qac) | exact HB.out))) : w.heap.size ≤ gb175)); have n3_ := Aside0.mk ((by rw [hg]; exact (qaj (by repeat (first | (with_reducible first | exact HB.out | apply qad | apply qab | apply qac) | exact HB.out))) : w.heap.size ≤ gb175)); clear HB; have HB := n0_; have BK175 := n1_; have GW175 := n2_; have GE175 := n3_; clear n0_ n1_ n2_ n3_; clear hb hbox hg; obtain ⟨G26_0, G26_1, G26_2, G26_3, G26_4, F26_0, F26_1, F26_2, F26_3, F26_4⟩ := shr5 BK175.out) | (go_at_call 45; (with_reducible refine (ran.calls a0_0 a0_1 a0_2 a0_3 a0_4 false _ A2.out).mono ?_); rintro e w27 ⟨rfl, hb⟩; have n0_ := Aside0.mk (qan (g := gb175) (o := .cells #[.int .i64 a0_0, .int .i64 a0_1, .string a0_2, .int .i64 a0_3, .int .i64 a0_4] 45 (0, 0)) (by (with_reducible repeat (first | refine qag ?_ _ | refine qai ?_ | refine blk_alloc ?_ _)); exact BK175.out) hb); have n1_ := Aside0.mk (qah (by repeat (first | (with_reducible first | exact HB.out | apply qad | apply qab | apply qac | refine qaf ?_ GE175.out) | exact HB.out)) hb); clear BK175; clear HB; have BK175 := n0_; have HB := n1_; clear n0_ n1_; (try clear hb); (try clear hb2); (try clear hk); (try clear hi)))
  repeat (go_quiet (first | ((with_reducible refine qav (N := 1) rfl ?_); refine qau ?hg (N := 1) ?hd (cs := #[.int .i64 a0_0, .int .i64 a0_1, .string a0_2, .int .i64 a0_3, .int .i64 a0_4]) (t := 45) ?hr ?_; (case hd => rfl); (case hg => rfl); (case hr => first | (go_simp; done) | (go_simp; rfl)); intro gb175 hg w25 hbox hb; have n0_ := Aside0.mk (qah (by repeat (first | (with_reducible first | exact HB.out | apply qad | apply qab | apply qac) | exact HB.out)) hb); have n1_ := Aside0.mk (hbox); have n2_ := Aside0.mk ((by rw [hg]; exact (qaj (by repeat (first | (with_reducible first | exact HB.out | apply qad | apply qab | apply qac) | exact HB.out))) : w.heap.size ≤ gb175)); have n3_ := Aside0.mk ((by rw [hg]; exact (qaj (by repeat (first | (with_reducible first | exact HB.out | apply qad | apply qab | apply qac) | exact HB.out))) : w.heap.size ≤ gb175)); clear HB; have HB := n0_; have BK175 := n1_; have GW175 := n2_; have GE175 := n3_; clear n0_ n1_ n2_ n3_; clear hb hbox hg; obtain ⟨G26_0, G26_1, G26_2, G26_3, G26_4, F26_0, F26_1, F26_2, F26_3, F26_4⟩ := shr5 BK175.out) | (go_at_call 45; (with_reducible refine (ran.calls a0_0 a0_1 a0_2 a0_3 a0_4 false _ A2.out).mono ?_); rintro e w27 ⟨rfl, hb⟩; have n0_ := Aside0.mk (qan (g := gb175) (o := .cells #[.int .i64 a0_0, .int .i64 a0_1, .string a0_2, .int .i64 a0_3, .int .i64 a0_4] 45 (0, 0)) (by (with_reducible repeat (first | refine qag ?_ _ | refine qai ?_ | refine blk_alloc ?_ _)); exact BK175.out) hb); have n1_ := Aside0.mk (qah (by repeat (first | (with_reducible first | exact HB.out | apply qad | apply qab | apply qac | refine qaf ?_ GE175.out) | exact HB.out)) hb); clear BK175; clear HB; have BK175 := n0_; have HB := n1_; clear n0_ n1_; (try clear hb); (try clear hb2); (try clear hk); (try clear hi))); try go_wp2_with (first | ((with_reducible refine qav (N := 1) rfl ?_); refine qau ?hg (N := 1) ?hd (cs := #[.int .i64 a0_0, .int .i64 a0_1, .string a0_2, .int .i64 a0_3, .int .i64 a0_4]) (t := 45) ?hr ?_; (case hd => rfl); (case hg => rfl); (case hr => first | (go_simp; done) | (go_simp; rfl)); intro gb175 hg w25 hbox hb; have n0_ := Aside0.mk (qah (by repeat (first | (with_reducible first | exact HB.out | apply qad | apply qab | apply qac) | exact HB.out)) hb); have n1_ := Aside0.mk (hbox); have n2_ := Aside0.mk ((by rw [hg]; exact (qaj (by repeat (first | (with_reducible first | exact HB.out | apply qad | apply qab | apply qac) | exact HB.out))) : w.heap.size ≤ gb175)); have n3_ := Aside0.mk ((by rw [hg]; exact (qaj (by repeat (first | (with_reducible first | exact HB.out | apply qad | apply qab | apply qac) | exact HB.out))) : w.heap.size ≤ gb175)); clear HB; have HB := n0_; have BK175 := n1_; have GW175 := n2_; have GE175 := n3_; clear n0_ n1_ n2_ n3_; clear hb hbox hg; obtain ⟨G26_0, G26_1, G26_2, G26_3, G26_4, F26_0, F26_1, F26_2, F26_3, F26_4⟩ := shr5 BK175.out) | (go_at_call 45; (with_reducible refine (ran.calls a0_0 a0_1 a0_2 a0_3 a0_4 false _ A2.out).mono ?_); rintro e w27 ⟨rfl, hb⟩; have n0_ := Aside0.mk (qan (g := gb175) (o := .cells #[.int .i64 a0_0, .int .i64 a0_1, .string a0_2, .int .i64 a0_3, .int .i64 a0_4] 45 (0, 0)) (by (with_reducible repeat (first | refine qag ?_ _ | refine qai ?_ | refine blk_alloc ?_ _)); exact BK175.out) hb); have n1_ := Aside0.mk (qah (by repeat (first | (with_reducible first | exact HB.out | apply qad | apply qab | apply qac | refine qaf ?_ GE175.out) | exact HB.out)) hb); clear BK175; clear HB; have BK175 := n0_; have HB := n1_; clear n0_ n1_; (try clear hb); (try clear hb2); (try clear hk); (try clear hi))))
  go_ret
  exact ⟨by first | rfl | (simp [*] <;> rfl), by repeat (first | (with_reducible first | exact HB.out | apply qad | apply qab | apply qac | refine qaf ?_ GE175.out) | exact HB.out)⟩
def rau.l0 : Nat → List (S114) → Int → Int → Option (Int)
 | 0, _, _, _ => none
 | k + 1, x0, x1, x5 => if x5 > 0 then (if 0 ≤ x1 then (if x1 < (x0.length : Int) then ((rbj.f ((qaq x0 x1).f0) ((qaq x0 x1).f1.f0) ((qaq x0 x1).f1.f1) ((qaq x0 x1).f1.f2) ((qaq x0 x1).f1.f3.f0) ((qaq x0 x1).f1.f3.f1)).bind fun bt182 => (rau.l0 k x0 (wrap64 (x1 + 1)) (wrap64 ((wrap64 (x5 + bt182.1)) - 1)))) else (none)) else (none)) else (some x1)
def rau.f (k : Nat) (l0 : List (S114)) (a1 : Int) : Option (Int) := rau.l0 k l0 a1 1
set_option maxHeartbeats 8000000 in
set_option maxRecDepth 100000 in
theorem rau.calls (k : Nat) (A0 : Option Addr) (c0 : Nat) (l0 : List (S114)) (a1 : Int) (r : Int) (w : World) (hr0 : Kd.C k114 w A0 l0.length l0) (hc0 : l0.length ≤ c0) (h : rau.f k l0 a1 = some r) :
  Calls Tryz.prog 106 #[.slice A0 l0.length c0, .int .i64 a1] w fun e w' => e = .returned (.int .i64 r) ∧ Below w.heap.size w w' := by
 have hu114 := Tryz.underlying114
 have HR0 := Aside0.mk hr0
 have HC0 := Aside0.mk hc0
 clear hr0 hc0
 have HB := Aside0.mk (Below.refl w.heap.size w)
 have H : (rau.l0 k l0 a1 1) = some r := h
 clear h
 have H' := Aside0.mk H
 clear H
 go_enter Tryz.func106, Tryz.ntmps106
 go_wp2
 go_loopg [1, 5] k (fun kq v1 v5 w' => ∃ (x1_1 : Int) (x5_1 : Int), v1 = .int .i64 x1_1 ∧ v5 = .int .i64 x5_1 ∧ Aside0 (rau.l0 kq l0 x1_1 x5_1 = some r) ∧ Aside0 (kq ≤ k) ∧ Aside0 (Below w.heap.size w w'))
 case atStart => exact ⟨(a1), (1), (by first | rfl | (simp; done) | (simp [*]; done)), (by first | rfl | (simp; done) | (simp [*]; done)), H', ⟨Nat.le_refl _⟩, ⟨by repeat (first | (with_reducible first | exact HB.out | apply qad | apply qab | apply qac) | exact HB.out)⟩⟩
 case round =>
  clear H'
  try clear c1
  try clear p2
  obtain ⟨x1_1, x5_1, rfl, rfl, HA, HK1, HB⟩ := hrel
  cases gk with
  | zero => exact absurd HA.out (by simp [rau.l0])
  | succ k1 =>
   have H := HA.out
   clear HA
   simp only [rau.l0] at H
   by_cases c3 : x5_1 > 0
   ·
    rw [if_pos c3] at H
    have c3b0 : decide (0 < x5_1) = true := decide_eq_true c3
    clear c3
    by_cases c4 : 0 ≤ x1_1
    ·
     rw [if_pos c4] at H
     have c4b0 : decide (0 ≤ x1_1) = true := decide_eq_true c4
     clear c4
     by_cases c5 : x1_1 < (l0.length : Int)
     ·
      rw [if_pos c5] at H
      have c5b0 : decide (x1_1 < (l0.length : Int)) = true := decide_eq_true c5
      clear c5
      replace H := Option.bind_eq_some_iff.mp H
      obtain ⟨⟨t182, t183⟩, A60, H⟩ := H
      replace H : (rau.l0 k1 l0 (wrap64 (x1_1 + 1)) (wrap64 ((wrap64 (x5_1 + t182)) - 1))) = some r := H
      have A6 := Aside0.mk A60
      clear A60
      have H' := Aside0.mk H
      clear H
      have p181 : 0 ≤ (x1_1 : Int) := of_decide_eq_true (by first | (with_reducible assumption) | assumption)
      have q181 : x1_1 < (l0.length : Int) := of_decide_eq_true (by first | (with_reducible assumption) | assumption)
      obtain ⟨ad181, e181, hx181_0, hx181_1, hx181_2, hx181_3, hx181_4, hx181_5⟩ := at_T114 HR0.out x1_1 p181 q181
      cases e181
      replace hx181_0 := (HB.out.cell (World.block_lt_of_cell? w _ hx181_0)).trans hx181_0
      replace hx181_1 := (HB.out.cell (World.block_lt_of_cell? w _ hx181_1)).trans hx181_1
      replace hx181_2 := (HB.out.cell (World.block_lt_of_cell? w _ hx181_2)).trans hx181_2
      replace hx181_3 := (HB.out.cell (World.block_lt_of_cell? w _ hx181_3)).trans hx181_3
      replace hx181_4 := (HB.out.cell (World.block_lt_of_cell? w _ hx181_4)).trans hx181_4
      replace hx181_5 := (HB.out.cell (World.block_lt_of_cell? w _ hx181_5)).trans hx181_5
      replace p181 := eq_true p181
      replace q181 := eq_true q181
      go_wp2_with (first | ((with_reducible refine qat (f := 69) rfl ?_); refine goesL_ (some 17) rfl rfl Tryz.func69 (by kernel_rfl) rfl #[.agg #[.int .i64 ((qaq l0 x1_1).f0), .int .i64 ((qaq l0 x1_1).f1.f0), .int .i64 ((qaq l0 x1_1).f1.f1), .string ((qaq l0 x1_1).f1.f2), .int .i64 ((qaq l0 x1_1).f1.f3.f0), .int .i64 ((qaq l0 x1_1).f1.f3.f1)]] rfl (by (try simp only [List.map_toArray, List.map_cons, List.map_nil]); first | done | rfl | (simp only [List.length_drop, List.length_take]; rfl)) ?_; (with_reducible refine (rbj.calls ((qaq l0 x1_1).f0) ((qaq l0 x1_1).f1.f0) ((qaq l0 x1_1).f1.f1) ((qaq l0 x1_1).f1.f2) ((qaq l0 x1_1).f1.f3.f0) ((qaq l0 x1_1).f1.f3.f1) t182 t183 _ A6.out).mono ?_); rintro e w7 ⟨rfl, hb⟩; refine ⟨_, rfl, ?_⟩; have n0_ := Aside0.mk (qah (by repeat (first | (with_reducible first | exact HB.out | apply qad | apply qab | apply qac) | exact HB.out)) hb); clear HB; have HB := n0_; clear n0_; (try clear hb); (try clear hb2); (try clear hk); (try clear hi)))
      go_roundg k1
      case measure => have := HK1.out; omega
      case rel => exact ⟨(wrap64 (x1_1 + 1)), (wrap64 ((wrap64 (x5_1 + t182)) - 1)), (by first | rfl | (simp; done) | (simp [*]; done)), (by first | rfl | (simp; done) | (simp [*]; done)), H', ⟨by have := HK1.out; omega⟩, ⟨by repeat (first | (with_reducible first | exact HB.out | apply qad | apply qab | apply qac) | exact HB.out)⟩⟩
     ·
      rw [if_neg c5] at H
      exact absurd H (by simp)
    ·
     rw [if_neg c4] at H
     exact absurd H (by simp)
   ·
    rw [if_neg c3] at H
    have c3b0 : decide (0 < x5_1) = false := decide_eq_false c3
    clear c3
    obtain rfl := Option.some.inj H
    go_wp2
    go_ret
    exact ⟨by first | rfl | (simp [*] <;> rfl), by repeat (first | (with_reducible first | exact HB.out | apply qad | apply qab | apply qac) | exact HB.out)⟩
end Go.Proofs.YtejbpnhondpnfaaGreat.PJob
namespace Go.Proofs.YtejbpnhondpnfaaGreat
set_option maxRecDepth 100000
open Go.RowKit
def names5 : List ByteArray := [⟨#[107, 101, 121]⟩, ⟨#[118, 97, 108]⟩, ⟨#[97, 99, 99]⟩, ⟨#[105]⟩, ⟨#[105, 116]⟩]
def namesO : Obj := .cells #[.string ⟨#[107, 101, 121]⟩, .string ⟨#[118, 97, 108]⟩, .string ⟨#[97, 99, 99]⟩, .string ⟨#[105]⟩, .string ⟨#[105, 116]⟩] 9 (0, 0)
theorem names5_any (w : World) : Calls Tryz.prog 103 #[] w fun e w' => e = .returned (.slice (some ⟨w.heap.size, 0, none⟩) 5 5) ∧ w' = w.alloc namesO := by
 unfold namesO
 go_enter Tryz.func103, Tryz.ntmps103
 go_wp2_with fail
 go_ret
 exact ⟨rfl, rfl⟩
theorem names5_cell {W : World} {g : Nat} (h : W.heap[g]? = some namesO) (m : Nat) (hm : m < 5) : W.cell? ⟨g, m, none⟩ = some (.string (names5.getD m ⟨#[]⟩)) := by
 unfold namesO at h
 match m, hm with
 | 0, _ | 1, _ | 2, _ | 3, _ | 4, _ => simp [World.cell?, h]; rfl
theorem cells_of' {w : World} {g : Nat} {cs : Array Value} {t : TypeId} {fz : Nat × Nat} (h : w.heap[g]? = some (.cells cs t fz)) (i : Nat) (v : Value) (hv : cs[i]? = some v) : w.cell? ⟨g, i, none⟩ = some v := by
 simp only [World.cell?, h]; exact hv
def wrM (g : List Nd → Option (List UInt8 × List Nd)) : Nat → List Nd → Option (List UInt8 × List Nd)
 | 0, L => some ([], L)
 | k + 1, L => (g L).bind fun p => (wrM g k p.2).map fun q => (32 :: p.1 ++ q.1, q.2)
def wrE (V : Nd → ByteArray) (wd : Int → ByteArray) : Nat → List Nd → Option (List UInt8 × List Nd)
 | 0, _ => none
 | _ + 1, [] => none
 | f + 1, z :: r => if z.op = 0 then some ((V z).data.toList, r) else if z.op = 1 then some ((names5.getD z.n.toNat ⟨#[]⟩).data.toList, r)
  else (wrM (wrE V wd f) (partsL.getD (z.op - 2).toNat 0) r).map fun q => (40 :: (wd z.op).data.toList ++ q.1 ++ [41], q.2)
structure WrCtx (B : Nat) (w0 : World) (A : Option Addr) (c : Nat) (l : List Nd) (V : Nd → ByteArray) (wd : Int → ByteArray) : Prop where
 at_ : NdsAt w0 A l
 le : l.length ≤ 1000
 base : B = w0.heap.size
 ok : ∀ z ∈ l, (z.op = 0 ∨ z.op = 1 ∨ (2 ≤ z.op ∧ z.op ≤ 29)) ∧ NdOk z
 val : ∀ z ∈ l, z.op = 0 → ∀ W, Calls Tryz.prog 64 #[.agg #[.int .i64 z.k, .int .i64 z.n, .string z.t, .int .i64 z.x, .int .i64 z.y]] W fun e W' => e = .returned (.string (V z)) ∧ Below W.heap.size W W'
 word : ∀ op, 2 ≤ op → op ≤ 29 → ∀ W, Calls Tryz.prog 104 #[.int .i64 op] W fun e W' => e = .returned (.tuple #[.string (wd op), .int .i64 ((partsL.getD (op - 2).toNat 0 : Nat) : Int), .bool true]) ∧ Below W.heap.size W W'
 wlen : ∀ op, (wd op).size ≤ 100
 fin : ∀ f at_ b at', wrE V wd f (l.drop at_) = some (b, l.drop at') → at_ < l.length → at' ≤ l.length → ∀ W, Below B w0 W → Calls Tryz.prog 106 #[.slice A l.length c, .int .i64 (at_ : Int)] W fun e W' => e = .returned (.int .i64 (at' : Int)) ∧ Below W.heap.size W W'
def Wrote (B b : Nat) (w0 : World) (bs : List UInt8) (e : Ending) (w' : World) : Prop := e = .returned (.tuple #[]) ∧ BAt B b (Lib.byteCells bs) w' ∧ Below B w0 w'
theorem wrE_drop (V : Nd → ByteArray) (wd : Int → ByteArray) : ∀ (f : Nat) (L : List Nd) (b : List UInt8) (r : List Nd), wrE V wd f L = some (b, r) → ∃ n, 1 ≤ n ∧ n ≤ L.length ∧ r = L.drop n
 | 0, _, _, _, h => by cases h
 | f + 1, [], _, _, h => by cases h
 | f + 1, z :: r0, b, r, h => by
  unfold wrE at h
  split at h
  ·
   simp only [Option.some.injEq, Prod.mk.injEq] at h
   exact ⟨1, by omega, by simp, h.2.symm⟩
  split at h
  ·
   simp only [Option.some.injEq, Prod.mk.injEq] at h
   exact ⟨1, by omega, by simp, h.2.symm⟩
  have key : ∀ (k : Nat) (L : List Nd) (q : List UInt8 × List Nd), wrM (wrE V wd f) k L = some q → ∃ n, n ≤ L.length ∧ q.2 = L.drop n := by
   intro k
   induction k with
   | zero => intro L q h; injection h with h; exact ⟨0, by omega, by rw [← h]; rfl⟩
   | succ k ih =>
    intro L q h
    unfold wrM at h
    cases hg : wrE V wd f L with
    | none => rw [hg] at h; cases h
    | some p =>
     rw [hg] at h
     simp only [Option.bind_some] at h
     cases hm : wrM (wrE V wd f) k p.2 with
     | none => rw [hm] at h; cases h
     | some q' =>
      rw [hm] at h
      simp only [Option.map_some, Option.some.injEq] at h
      obtain ⟨n1, _, h2, h3⟩ := wrE_drop V wd f L p.1 p.2 (by rw [hg])
      obtain ⟨n2, h4, h5⟩ := ih p.2 q' hm
      refine ⟨n1 + n2, ?_, ?_⟩
      ·
       rw [h3] at h4; simp at h4; omega
      ·
       rw [← h]; show q'.2 = _; rw [h5, h3, List.drop_drop]
  cases hm : wrM (wrE V wd f) (partsL.getD (z.op - 2).toNat 0) r0 with
  | none => rw [hm] at h; cases h
  | some q =>
   rw [hm] at h
   simp only [Option.map_some, Option.some.injEq, Prod.mk.injEq] at h
   obtain ⟨n, hn, hq⟩ := key _ _ _ hm
   exact ⟨n + 1, by omega, by simp; omega, by rw [← h.2, hq]; rfl⟩
theorem isb_below {B b : Nat} {bs : List Value} {w w' : World} (h : IsB B b bs w) (hb : Below w.heap.size w w') : IsB B b bs w' := h.elim (fun h => .inl (bat_below h hb)) (fun h => .inr (bat_below h hb))
theorem cells_app (a : List UInt8) (s : ByteArray) : Lib.byteCells a ++ Lib.strCells s = Lib.byteCells (a ++ s.data.toList) := by simp [Lib.byteCells, Lib.strCells]
theorem cells_one (a : List UInt8) (c : UInt8) : Lib.byteCells a ++ [.int .u8 (c.toNat : Int)] = Lib.byteCells (a ++ [c]) := by simp [Lib.byteCells]
set_option maxHeartbeats 1000000 in
theorem write_lit {B : Nat} {w0 : World} {A : Option Addr} {c : Nat} {l : List Nd} {V : Nd → ByteArray} {wd : Int → ByteArray} (C : WrCtx B w0 A c l V wd) (at_ : Nat) (hat : at_ < l.length) (ho : l[at_].op = 0) (b : Nat) (acc : List UInt8) (W : World)
  (hI : IsB B b (Lib.byteCells acc) W) (hW : Below B w0 W) (hlen : acc.length + (V l[at_]).size ≤ 100000000) :
  Calls Tryz.prog 62 #[.slice A l.length c, .int .i64 (at_ : Int), .pointer (some ⟨b, 0, none⟩)] W (Wrote B b w0 (acc ++ (V l[at_]).data.toList)) := by
 obtain ⟨z, hz⟩ : ∃ z, z = l[at_] := ⟨_, rfl⟩
 rw [← hz] at ho hlen ⊢
 have hz2 : l[at_]? = some z := by rw [hz]; exact List.getElem?_eq_getElem hat
 have hBW : B ≤ W.heap.size := by have := hW.size; have := C.base; omega
 obtain ⟨bk, o, rfl, hc⟩ := C.at_.below (C.base ▸ hW) (Nat.le_refl _) at_ z hz2
 obtain ⟨k0, k1, k2, k3, k4, k5⟩ := hc
 have hv := C.val z (List.mem_of_getElem? hz2) ho
 obtain ⟨op, k, n, t, x, y⟩ := z
 simp only at ho hv k0 k1 k2 k3 k4 k5
 subst ho
 obtain ⟨S, hS⟩ : ∃ S, S = V ⟨0, k, n, t, x, y⟩ := ⟨_, rfl⟩
 rw [← hS] at hv hlen ⊢
 have HV := Lib.hid hv
 have HI := Lib.hid hI
 have HW := Lib.hid hW
 have hatz : (at_ : Int) < (l.length : Int) := by omega
 obtain ⟨W6, hW6⟩ : ∃ W6, W6 = W.alloc (.cells #[.int .i64 0, .int .i64 k, .int .i64 n, .string t, .int .i64 x, .int .i64 y] 114) := ⟨_, rfl⟩
 have hb6 : Below W.heap.size W W6 := by rw [hW6]; exact (Below.refl _ W).alloc (Nat.le_refl _) _
 have hg6 : W6.heap[W.heap.size]? = some (.cells #[.int .i64 0, .int .i64 k, .int .i64 n, .string t, .int .i64 x, .int .i64 y] 114 (0, 0)) := by rw [hW6]; exact heap_alloc_new W _
 have g0 : W6.cell? ⟨W.heap.size, 0, none⟩ = some (.int .i64 0) := cells_of' hg6 0 _ rfl
 have g1 : W6.cell? ⟨W.heap.size, 1, none⟩ = some (.int .i64 k) := cells_of' hg6 1 _ rfl
 have g2 : W6.cell? ⟨W.heap.size, 2, none⟩ = some (.int .i64 n) := cells_of' hg6 2 _ rfl
 have g3 : W6.cell? ⟨W.heap.size, 3, none⟩ = some (.string t) := cells_of' hg6 3 _ rfl
 have g4 : W6.cell? ⟨W.heap.size, 4, none⟩ = some (.int .i64 x) := cells_of' hg6 4 _ rfl
 have g5 : W6.cell? ⟨W.heap.size, 5, none⟩ = some (.int .i64 y) := cells_of' hg6 5 _ rfl
 have HB6 := Lib.hid hb6
 clear hS hz hz2 hv hI hW hg6 hb6
 go_enter Tryz.func62, Tryz.ntmps62
 go_wp2_with (first
  | (rw [← hW6]; clear hW6)
  | (go_at_call 64; ((with_reducible refine (HV.out _).mono ?_); rintro e w7 ⟨rfl, hb7⟩; have HI7 := Lib.hid (isb_below (isb_below HI.out HB6.out) hb7); have HW7 := Lib.hid (HW.out.trans ((HB6.out.trans (hb7.mono HB6.out.size)).mono hBW))))
  | (go_at_call 60; ((with_reducible refine (wstr_any B b _ S w7 HI7.out ?_ ?_).mono ?_); (rw [Lib.byteCells_length]; omega); (have := HW7.out.size; have := C.base; omega); rintro e w8 ⟨rfl, hB8, hb8⟩; have HB8 := Lib.hid hB8; clear hB8)))
 go_end0
 exact ⟨rfl, by rw [← cells_app]; exact HB8.out, HW7.out.trans hb8⟩
set_option maxHeartbeats 2000000 in
theorem write_name {B : Nat} {w0 : World} {A : Option Addr} {c : Nat} {l : List Nd} {V : Nd → ByteArray} {wd : Int → ByteArray} (C : WrCtx B w0 A c l V wd) (at_ : Nat) (hat : at_ < l.length) (ho : l[at_].op = 1) (b : Nat) (acc : List UInt8) (W : World)
  (hI : IsB B b (Lib.byteCells acc) W) (hW : Below B w0 W) (hlen : acc.length ≤ 100000000) :
  Calls Tryz.prog 62 #[.slice A l.length c, .int .i64 (at_ : Int), .pointer (some ⟨b, 0, none⟩)] W (Wrote B b w0 (acc ++ (names5.getD (l[at_].n).toNat ⟨#[]⟩).data.toList)) := by
 obtain ⟨z, hz⟩ : ∃ z, z = l[at_] := ⟨_, rfl⟩
 rw [← hz] at ho ⊢
 have hz2 : l[at_]? = some z := by rw [hz]; exact List.getElem?_eq_getElem hat
 have hBW : B ≤ W.heap.size := by have := hW.size; have := C.base; omega
 obtain ⟨bk, o, rfl, hc⟩ := C.at_.below (C.base ▸ hW) (Nat.le_refl _) at_ z hz2
 obtain ⟨k0, k1, k2, k3, k4, k5⟩ := hc
 obtain ⟨hn0, hn5⟩ := (C.ok z (List.mem_of_getElem? hz2)).2 ho
 obtain ⟨op, k, n, t, x, y⟩ := z
 simp only at ho k0 k1 k2 k3 k4 k5 hn0 hn5
 subst ho
 obtain ⟨m, rfl⟩ := Int.eq_ofNat_of_zero_le hn0
 have hm5 : m < 5 := by omega
 have hm5z : (m : Int) < 5 := by omega
 obtain ⟨S, hS⟩ : ∃ S, S = names5.getD m ⟨#[]⟩ := ⟨_, rfl⟩
 have hS3 : S.size ≤ 3 := by
  rw [hS]
  have : ∀ j : Fin 5, (names5.getD j.val ⟨#[]⟩).size ≤ 3 := by decide
  exact this ⟨m, hm5⟩
 have hcell := fun (W' : World) (g : Nat) (h : W'.heap[g]? = some namesO) => names5_cell h m hm5
 simp only [Int.toNat_natCast]
 rw [← hS] at hcell ⊢
 have HI := Lib.hid hI
 have HW := Lib.hid hW
 have hatz : (at_ : Int) < (l.length : Int) := by omega
 obtain ⟨W6, hW6⟩ : ∃ W6, W6 = W.alloc (.cells #[.int .i64 1, .int .i64 k, .int .i64 (m : Int), .string t, .int .i64 x, .int .i64 y] 114) := ⟨_, rfl⟩
 have hb6 : Below W.heap.size W W6 := by rw [hW6]; exact (Below.refl _ W).alloc (Nat.le_refl _) _
 have hg6 : W6.heap[W.heap.size]? = some (.cells #[.int .i64 1, .int .i64 k, .int .i64 (m : Int), .string t, .int .i64 x, .int .i64 y] 114 (0, 0)) := by rw [hW6]; exact heap_alloc_new W _
 have hlt6 := (Array.getElem?_eq_some_iff.1 hg6).1
 have g0 : W6.cell? ⟨W.heap.size, 0, none⟩ = some (.int .i64 1) := cells_of' hg6 0 _ rfl
 have g1 : W6.cell? ⟨W.heap.size, 1, none⟩ = some (.int .i64 k) := cells_of' hg6 1 _ rfl
 have g2 : W6.cell? ⟨W.heap.size, 2, none⟩ = some (.int .i64 (m : Int)) := cells_of' hg6 2 _ rfl
 have g3 : W6.cell? ⟨W.heap.size, 3, none⟩ = some (.string t) := cells_of' hg6 3 _ rfl
 have g4 : W6.cell? ⟨W.heap.size, 4, none⟩ = some (.int .i64 x) := cells_of' hg6 4 _ rfl
 have g5 : W6.cell? ⟨W.heap.size, 5, none⟩ = some (.int .i64 y) := cells_of' hg6 5 _ rfl
 have hg7 : (W6.alloc namesO).heap[W6.heap.size]? = some namesO := heap_alloc_new W6 _
 have hb7 : Below W6.heap.size W6 (W6.alloc namesO) := (Below.refl _ W6).alloc (Nat.le_refl _) _
 have c7 := hcell _ _ hg7
 have d7 : (W6.alloc namesO).cell? ⟨W.heap.size, 2, none⟩ = some (.int .i64 (m : Int)) := (hb7.cell (p := ⟨W.heap.size, 2, none⟩) hlt6).trans g2
 have HI7 : Hid (IsB B b (Lib.byteCells acc) (W6.alloc namesO).drew) := Lib.hid (isb_below (isb_below (isb_below hI hb6) hb7) ((Below.refl _ _).drew))
 have HW7 : Hid (Below B w0 (W6.alloc namesO).drew) := Lib.hid ((hW.trans ((hb6.trans (hb7.mono hb6.size)).mono hBW)).drew)
 have HSZ : Hid (B ≤ (W6.alloc namesO).drew.heap.size) := Lib.hid (Nat.le_trans hBW (Nat.le_trans hb6.size hb7.size))
 clear hS hz hz2 hI hW hg6 hb6 hcell hg7 hb7 hn0 hn5
 go_enter Tryz.func62, Tryz.ntmps62
 go_wp2_with (first
  | (rw [← hW6]; clear hW6))
 go_region_law (first
  | (go_simp; go_at_call 103; refine (names5_any _).mono ?_; rintro e w7 ⟨rfl, rfl⟩)
  | (go_simp; go_at_call 60; ((with_reducible refine (wstr_any B b _ S (W6.alloc namesO).drew HI7.out ?_ ?_).mono ?_); (rw [Lib.byteCells_length]; omega); (exact HSZ.out); rintro e w8 ⟨rfl, hB8, hb8⟩; have HB8 := Lib.hid hB8; clear hB8)))
 all_goals
  go_wp2_with fail
  go_end0
  exact ⟨rfl, by rw [← cells_app]; exact HB8.out, HW7.out.trans hb8⟩
set_option maxHeartbeats 2000000 in
theorem write_parts {B : Nat} {w0 : World} {A : Option Addr} {c : Nat} {l : List Nd} {V : Nd → ByteArray} {wd : Int → ByteArray} (C : WrCtx B w0 A c l V wd) (f : Nat)
    (ih : ∀ (at_ at' : Nat) (bs : List UInt8), at_ < l.length → at' ≤ l.length → wrE V wd f (l.drop at_) = some (bs, l.drop at') → ∀ (b : Nat) (acc : List UInt8) (W : World), IsB B b (Lib.byteCells acc) W → Below B w0 W → acc.length + bs.length ≤ 100000000 →
      Calls Tryz.prog 62 #[.slice A l.length c, .int .i64 (at_ : Int), .pointer (some ⟨b, 0, none⟩)] W (Wrote B b w0 (acc ++ bs)))
    (at_ : Nat) (hat : at_ < l.length) (h2 : 2 ≤ l[at_].op) (h29 : l[at_].op ≤ 29) (q : List UInt8 × List Nd) (hq : wrM (wrE V wd f) (partsL.getD (l[at_].op - 2).toNat 0) (l.drop (at_ + 1)) = some q) (b : Nat) (acc : List UInt8) (W : World)
    (hI : IsB B b (Lib.byteCells acc) W) (hW : Below B w0 W) (hlen : acc.length + (40 :: (wd l[at_].op).data.toList ++ q.1 ++ [41]).length ≤ 100000000) :
    Calls Tryz.prog 62 #[.slice A l.length c, .int .i64 (at_ : Int), .pointer (some ⟨b, 0, none⟩)] W (Wrote B b w0 (acc ++ (40 :: (wd l[at_].op).data.toList ++ q.1 ++ [41]))) := by
  have HE := Lib.hid C.fin
  have HIH := Lib.hid ih
  clear ih
  obtain ⟨z, hz⟩ : ∃ z, z = l[at_] := ⟨_, rfl⟩
  rw [← hz] at h2 h29 hlen hq ⊢
  have hz2 : l[at_]? = some z := by rw [hz]; exact List.getElem?_eq_getElem hat
  have hBW : B ≤ W.heap.size := by have := hW.size; have := C.base; omega
  have hB0 : w0.heap.size = B := C.base.symm
  obtain ⟨bk, o, rfl, hc⟩ := C.at_.below (C.base ▸ hW) (Nat.le_refl _) at_ z hz2
  obtain ⟨k0, k1, k2, k3, k4, k5⟩ := hc
  obtain ⟨op, k, n, t, x, y⟩ := z
  simp only at h2 h29 hlen hq k0 k1 k2 k3 k4 k5
  have hle := C.le
  have HP := Lib.hid (C.word op h2 h29)
  have hxl := C.wlen op
  obtain ⟨X, hX⟩ : ∃ X, X = wd op := ⟨_, rfl⟩
  simp only
  rw [← hX] at hlen HP hxl ⊢
  obtain ⟨kk, hkk⟩ : ∃ kk, kk = partsL.getD (op - 2).toNat 0 := ⟨_, rfl⟩
  rw [← hkk] at hq HP
  have hk3 : kk ≤ 3 := by
    rw [hkk]
    have : ∀ j : Fin 28, partsL.getD j.val 0 ≤ 3 := by decide
    exact this ⟨(op - 2).toNat, by omega⟩
  obtain ⟨qs, qr⟩ := q
  simp only at hlen ⊢
  have hlen' : acc.length + X.size + qs.length + 2 ≤ 100000000 := by
    have : X.data.toList.length = X.size := by simp
    simp only [List.length_append, List.length_cons, List.length_nil] at hlen
    omega
  have hop0 : (op == 0) = false := by rw [beq_eq_false_iff_ne]; omega
  have hop1 : (op == 1) = false := by rw [beq_eq_false_iff_ne]; omega
  have hsz : ¬ (9223372036854775807 < 1 + X.size) := by omega
  have hatw : IntKind.i64.wrap ((at_ : Int) + 1) = ((at_ + 1 : Nat) : Int) := by rw [IntKind.wrap_i64]; omega
  have HQ := Lib.hid hq
  have HI := Lib.hid hI
  have HW := Lib.hid hW
  have hatz : (at_ : Int) < (l.length : Int) := by omega
  obtain ⟨W6, hW6⟩ : ∃ W6, W6 = W.alloc (.cells #[.int .i64 op, .int .i64 k, .int .i64 n, .string t, .int .i64 x, .int .i64 y] 114) := ⟨_, rfl⟩
  have hb6 : Below W.heap.size W W6 := by rw [hW6]; exact (Below.refl _ W).alloc (Nat.le_refl _) _
  have hg6 : W6.heap[W.heap.size]? = some (.cells #[.int .i64 op, .int .i64 k, .int .i64 n, .string t, .int .i64 x, .int .i64 y] 114 (0, 0)) := by rw [hW6]; exact heap_alloc_new W _
  have g0 : W6.cell? ⟨W.heap.size, 0, none⟩ = some (.int .i64 op) := cells_of' hg6 0 _ rfl
  have HB6 := Lib.hid hb6
  clear hX hkk hz hz2 hI hW hg6 hb6 hq h2 h29 hlen
  go_enter Tryz.func62, Tryz.ntmps62
  go_wp2_with (first
    | (rw [← hW6]; clear hW6)
    | (go_at_call 104; ((with_reducible refine (HP.out _).mono ?_); rintro e w7 ⟨rfl, hb7⟩; have HI7 := Lib.hid (isb_below (isb_below HI.out HB6.out) hb7); have HW7 := Lib.hid (HW.out.trans ((HB6.out.trans (hb7.mono HB6.out.size)).mono hBW))))
    | (go_at_call 60; ((with_reducible refine (wstr_any B b _ _ w7 HI7.out ?_ ?_).mono ?_); (rw [Lib.byteCells_length, ByteArray.size_append]; (show _ + (1 + _) ≤ _); omega); (have := HW7.out.size; omega); rintro e w8 ⟨rfl, hB8, hb8⟩; have HB8 := Lib.hid hB8; have HW8 := Lib.hid (HW7.out.trans hb8); clear hB8 hb8)))
  have hB8 : BAt B b (Lib.byteCells (acc ++ (40 :: X.data.toList))) w8 := by
    have e : Lib.byteCells acc ++ Lib.strCells (⟨#[40]⟩ ++ X) = Lib.byteCells (acc ++ (40 :: X.data.toList)) := by rw [cells_app]; simp
    rw [← e]; exact HB8.out
  have HB8' := Lib.hid hB8
  have hXl : X.data.toList.length = X.size := by simp
  have HXL := Lib.hid hXl
  clear hB8 HB8 HI7 HW7 HB6 g0 hXl
  go_loopw [1, 30] (fun s1 s30 wr => ∃ (i at1 : Nat) (dn rs : List UInt8), s1 = .int .i64 (at1 : Int) ∧ s30 = .int .i64 (i : Int) ∧ i ≤ kk ∧ at1 ≤ l.length ∧ Hid (wrM (wrE V wd f) (kk - i) (l.drop at1) = some (rs, qr)) ∧ Hid (dn ++ rs = qs) ∧
      Hid (BAt B b (Lib.byteCells (acc ++ (40 :: X.data.toList ++ dn))) wr) ∧ Hid (Below B w0 wr)) (fun _ s30 _ => kk - (intOf s30).toNat)
  case atStart => exact ⟨0, at_ + 1, [], qs, by go_num, rfl, by omega, by omega, HQ, Lib.hid rfl, Lib.hid (by rw [List.append_nil]; exact HB8'.out), HW8⟩
  case round =>
    obtain ⟨i, at1, dn, rs, rfl, rfl, hi, hat1, HM, HD, HBr, HWr⟩ := hrel
    have hdl : dn.length + rs.length = qs.length := by rw [← HD.out, List.length_append]
    have hxs := HXL.out
    by_cases hlt : i < kk
    · have hltz : (i : Int) < (kk : Int) := by omega
      obtain ⟨p, r1, rs', hg, hm, hrs, hp⟩ : ∃ p at2 rs', wrE V wd f (l.drop at1) = some (p, l.drop at2) ∧ wrM (wrE V wd f) (kk - (i + 1)) (l.drop at2) = some (rs', qr) ∧ rs = 32 :: p ++ rs' ∧ at2 ≤ l.length := by
        have hM := HM.out
        rw [show kk - i = (kk - (i + 1)) + 1 by omega] at hM
        unfold wrM at hM
        cases hg : wrE V wd f (l.drop at1) with
        | none => rw [hg] at hM; cases hM
        | some pr =>
          obtain ⟨p, r⟩ := pr
          rw [hg] at hM
          simp only [Option.bind_some] at hM
          obtain ⟨n, hn1, hn2, hn3⟩ := wrE_drop V wd f _ p r hg
          rw [List.drop_drop] at hn3
          cases hm : wrM (wrE V wd f) (kk - (i + 1)) r with
          | none => rw [hm] at hM; cases hM
          | some q' =>
            obtain ⟨rs', r'⟩ := q'
            rw [hm] at hM
            simp only [Option.map_some, Option.some.injEq, Prod.mk.injEq] at hM
            simp only [List.length_drop] at hn2
            exact ⟨p, at1 + n, rs', by rw [hn3], by rw [← hn3, hm, hM.2], hM.1.symm, by omega⟩
      have hlt1 : at1 < l.length := by
        rcases Nat.lt_or_ge at1 l.length with h | h
        · exact h
        · exfalso
          rw [List.drop_eq_nil_of_le h] at hg
          cases f <;> cases hg
      have hrl : rs.length = p.length + rs'.length + 1 := by rw [hrs]; simp only [List.length_append, List.length_cons]; omega
      have HG := Lib.hid hg
      have HM2 := Lib.hid hm
      have HRS := Lib.hid hrs
      have hfin := Lib.hid (HE.out f at1 p r1 hg hlt1 hp)
      have hih := Lib.hid (HIH.out at1 r1 p hlt1 hp hg b (acc ++ (40 :: X.data.toList ++ dn) ++ [32]))
      clear hg hm hrs
      have hwle := HWr.out.size
      go_wp2_with (first
        | (go_at_call 105; ((with_reducible refine (wbyte_any B b _ 32 wr (bat_is HBr.out) ?_ ?_).mono ?_); (rw [Lib.byteCells_length]; simp only [List.length_append, List.length_cons]; omega); (omega); rintro e w9 ⟨rfl, hB9, hb9⟩; have HB9 : Hid (IsB B b (Lib.byteCells (acc ++ (40 :: X.data.toList ++ dn) ++ [32])) w9) := Lib.hid (bat_is (by rw [← cells_one]; exact hB9)); have HW9 := Lib.hid (HWr.out.trans hb9); clear hB9 hb9))
        | (go_at_call 62; ((with_reducible refine (hih.out w9 HB9.out HW9.out ?_).mono ?_); (simp only [List.length_append, List.length_cons, List.length_nil]; omega); rintro e w10 ⟨rfl, hB10, hb10⟩; have HB10 := Lib.hid hB10; have HW10 := Lib.hid hb10; clear hB10 hb10))
        | (go_at_call 106; ((with_reducible refine (hfin.out w10 HW10.out).mono ?_); rintro e w11 ⟨rfl, hb11⟩; have HB11 := Lib.hid (bat_below HB10.out hb11); have HW11 : Hid (Below B w0 w11) := Lib.hid (HW10.out.trans (hb11.mono (by have := HW10.out.size; omega))); clear hb11)))
      go_roundw
      case rel =>
        refine ⟨i + 1, r1, dn ++ (32 :: p), rs', rfl, by go_num, by omega, hp, HM2, Lib.hid ?_, Lib.hid ?_, HW11⟩
        · rw [← HD.out, HRS.out]; simp
        · have := HB11.out
          simpa [List.append_assoc] using this
      case measure => simp [intOf]; omega
    · have hltz : ¬ (i : Int) < (kk : Int) := by omega
      obtain rfl : i = kk := by omega
      have hrs : rs = [] := by
        have := HM.out
        rw [Nat.sub_self] at this
        unfold wrM at this
        simp only [Option.some.injEq, Prod.mk.injEq] at this
        exact this.1.symm
      have hdn : dn = qs := by rw [← HD.out, hrs, List.append_nil]
      have HDN := Lib.hid hdn
      have hwle := HWr.out.size
      clear hrs hdn
      go_wp2_with (first
        | (go_at_call 105; ((with_reducible refine (wbyte_any B b _ 41 wr (bat_is HBr.out) ?_ ?_).mono ?_); (rw [Lib.byteCells_length]; simp only [List.length_append, List.length_cons]; omega); (omega); rintro e w9 ⟨rfl, hB9, hb9⟩; have HB9 := Lib.hid hB9; have HW9 := Lib.hid (HWr.out.trans hb9); clear hB9 hb9)))
      go_end0
      refine ⟨rfl, ?_, HW9.out⟩
      have e : Lib.byteCells (acc ++ (40 :: X.data.toList ++ dn)) ++ [.int .u8 41] = Lib.byteCells (acc ++ 40 :: (X.data.toList ++ qs ++ [41])) := by rw [HDN.out]; simp [Lib.byteCells]
      rw [← e]
      exact HB9.out
theorem write_any {B : Nat} {w0 : World} {A : Option Addr} {c : Nat} {l : List Nd} {V : Nd → ByteArray} {wd : Int → ByteArray} (C : WrCtx B w0 A c l V wd) : ∀ (f at_ at' : Nat) (bs : List UInt8), at_ < l.length → at' ≤ l.length → wrE V wd f (l.drop at_) = some (bs, l.drop at') →
  ∀ (b : Nat) (acc : List UInt8) (W : World), IsB B b (Lib.byteCells acc) W → Below B w0 W → acc.length + bs.length ≤ 100000000 →
   Calls Tryz.prog 62 #[.slice A l.length c, .int .i64 (at_ : Int), .pointer (some ⟨b, 0, none⟩)] W (Wrote B b w0 (acc ++ bs))
 | 0, _, _, _, _, _, h => by cases h
 | f + 1, at_, at', bs, hat, hat', h => by
  intro b acc W hI hW hlen
  have ih := write_any C f
  rw [List.drop_eq_getElem_cons hat] at h
  unfold wrE at h
  split at h
  ·
   rename_i h0
   simp only [Option.some.injEq, Prod.mk.injEq] at h
   rw [← h.1] at hlen ⊢
   exact write_lit C at_ hat h0 b acc W hI hW (by simpa using hlen)
  split at h
  ·
   rename_i h1
   simp only [Option.some.injEq, Prod.mk.injEq] at h
   rw [← h.1] at hlen ⊢
   exact write_name C at_ hat h1 b acc W hI hW (by omega)
  ·
   rename_i h0 h1
   have ho := (C.ok l[at_] (List.getElem_mem hat)).1
   have h2 : 2 ≤ l[at_].op ∧ l[at_].op ≤ 29 := ho.elim (fun e => absurd e h0) (fun ho => ho.elim (fun e => absurd e h1) id)
   cases hq : wrM (wrE V wd f) (partsL.getD (l[at_].op - 2).toNat 0) (l.drop (at_ + 1)) with
   | none => rw [hq] at h; cases h
   | some q =>
    rw [hq] at h
    simp only [Option.map_some, Option.some.injEq, Prod.mk.injEq] at h
    rw [← h.1] at hlen ⊢
    exact write_parts C f ih at_ hat h2.1 h2.2 q hq b acc W hI hW hlen
end Go.Proofs.YtejbpnhondpnfaaGreat
namespace Go.Proofs.YtejbpnhondpnfaaGreat
def decG : Nat → Nat → List UInt8 → List UInt8
 | 0, _, acc => acc
 | f + 1, n, acc => if n / 10 = 0 then digC (n % 10) :: acc else decG f (n / 10) (digC (n % 10) :: acc)
def decI (n : Int) : List UInt8 := if n < 0 then 45 :: decG 18 n.natAbs [] else decG 18 n.natAbs []
theorem decG_len : ∀ (f n : Nat) (acc : List UInt8), (decG f n acc).length ≤ f + acc.length
 | 0, _, acc => by simp [decG]
 | f + 1, n, acc => by
  unfold decG
  split
  ·
   simp; omega
  ·
   have := decG_len f (n / 10) (digC (n % 10) :: acc)
   simp at this; omega
theorem decI_len (n : Int) : (decI n).length ≤ 19 := by
 unfold decI
 have := decG_len 18 n.natAbs []
 split <;> simp at this ⊢ <;> omega
def valT (z : Nd) : List UInt8 := if qbf z.val = false then [] else if z.k = 0 then decI z.n else if z.k = 1 then quotedL z.t.data.toList else decI z.x ++ 58 :: decI z.y
theorem right_bounds (v : Val) (h : qbf v = true) : (v.k = 0 ∧ -9007199254740992 ≤ v.n ∧ v.n ≤ 9007199254740992) ∨ (v.k = 1 ∧ v.t.size ≤ 4096 ∧ v.n = 0) ∨ (v.k = 2 ∧ -16777216 ≤ v.x ∧ v.x ≤ 16777216 ∧ -16777216 ≤ v.y ∧ v.y ≤ 16777216) := by
 unfold qbf at h
 split at h
 ·
  rename_i h0
  simp only [Bool.and_eq_true, decide_eq_true_eq] at h
  exact .inl ⟨h0, h.1, h.2.1⟩
 split at h
 ·
  rename_i h1
  simp only [Bool.and_eq_true, decide_eq_true_eq, Bool.not_eq_true', bne_eq_false_iff_eq] at h
  exact .inr (.inl ⟨h1, h.1, h.2.1⟩)
 split at h
 ·
  rename_i h2
  unfold ptR at h
  simp only [Bool.and_eq_true, decide_eq_true_eq] at h
  exact .inr (.inr ⟨h2, h.1.1.1, h.1.1.2, h.1.2.1, h.1.2.2⟩)
 ·
  cases h
theorem valT_len (z : Nd) : (valT z).length ≤ 12400 := by
 unfold valT
 cases hr : qbf z.val with
 | false => simp
 | true =>
  rw [if_neg (by decide)]
  have h1 := decI_len z.n
  have h2 := decI_len z.x
  have h3 := decI_len z.y
  split
  ·
   omega
  split
  ·
   rename_i hk1
   rcases right_bounds z.val hr with ⟨h, _⟩ | ⟨_, h, _⟩ | ⟨h, _⟩
   ·
    have : z.k = 0 := h; omega
   ·
    have ht : z.t.size ≤ 4096 := h
    have := quoted_len z.t.data.toList
    have hl : z.t.data.toList.length = z.t.size := by simp
    unfold quotedL
    simp only [List.length_append, List.length_cons, List.length_nil]
    omega
   ·
    have : z.k = 2 := h; omega
  ·
   simp only [List.length_append, List.length_cons]
   omega
def wordsL : List ByteArray := [⟨#[97, 100, 100]⟩, ⟨#[115, 117, 98]⟩, ⟨#[109, 117, 108]⟩, ⟨#[100, 105, 118]⟩, ⟨#[109, 111, 100]⟩, ⟨#[110, 101, 103]⟩, ⟨#[108, 101, 115, 115]⟩, ⟨#[115, 97, 109, 101]⟩, ⟨#[110, 111, 116]⟩, ⟨#[105, 102]⟩, ⟨#[109, 97, 120]⟩, ⟨#[109, 105, 110]⟩, ⟨#[99, 97, 116]⟩, ⟨#[108, 101, 110]⟩, ⟨#[99, 117, 116]⟩, ⟨#[119, 111, 114, 100]⟩, ⟨#[119, 111, 114, 100, 115]⟩, ⟨#[110, 117, 109]⟩, ⟨#[116, 101, 120, 116]⟩, ⟨#[97, 116]⟩, ⟨#[114, 101]⟩, ⟨#[105, 109]⟩, ⟨#[110, 111, 114, 109]⟩, ⟨#[99, 111, 110, 106]⟩, ⟨#[101, 109, 105, 116]⟩, ⟨#[116, 104, 101, 110]⟩, ⟨#[101, 97, 99, 104]⟩, ⟨#[108, 101, 116]⟩]
def wordB (op : Int) : ByteArray := wordsL.getD (op - 2).toNat ⟨#[]⟩
theorem wordB_len (op : Int) : (wordB op).size ≤ 100 := by
 unfold wordB
 rcases Nat.lt_or_ge (op - 2).toNat 28 with hj | hj
 ·
  have : ∀ j : Fin 28, (wordsL.getD j.val ⟨#[]⟩).size ≤ 100 := by decide
  exact this ⟨_, hj⟩
 ·
  have hl : wordsL.length = 28 := rfl
  rw [List.getD_eq_getElem?_getD, List.getElem?_eq_none (by omega)]
  decide
theorem nd_cases {z : Nd} {k : Nat} (h : qba z = some k) : (z.op = 0 ∧ k = 0 ∧ qbf z.val = true) ∨ (z.op = 1 ∧ k = 0) ∨ (2 ≤ z.op ∧ z.op ≤ 29 ∧ k = partsL.getD (z.op - 2).toNat 0) := by
 unfold qba at h
 split at h
 ·
  rename_i ho
  split at h
  ·
   injection h with h
   exact .inr (.inr ⟨ho.1, ho.2, h.symm⟩)
  ·
   cases h
 ·
  split at h
  ·
   rename_i ha
   injection h with h
   unfold aloneB at ha
   split at ha
   ·
    rename_i h1; exact .inr (.inl ⟨h1, h.symm⟩)
   ·
    simp only [Bool.and_eq_true, decide_eq_true_eq] at ha
    exact .inl ⟨ha.1, h.symm, ha.2⟩
  ·
   cases h
theorem wr_of_one (V : Nd → ByteArray) (wd : Int → ByteArray) : ∀ (f w : Nat) (L : List Nd) (R : List (Option Nat)), oneE f w (L.map qba) = some R → ∃ b r, wrE V wd f L = some (b, r) ∧ r.map qba = R
 | 0, _, _, _, h => by cases h
 | f + 1, w, [], R, h => by cases h
 | f + 1, w, z :: L, R, h => by
  unfold oneE at h
  simp only [List.map_cons] at h
  split at h
  ·
   cases h
  ·
   cases hz : qba z with
   | none => rw [hz] at h; cases h
   | some k =>
    rw [hz] at h
    simp only at h
    have key : ∀ (k : Nat) (L : List Nd) (R : List (Option Nat)), manyE (oneE f (w + 1)) k (L.map qba) = some R → ∃ b r, wrM (wrE V wd f) k L = some (b, r) ∧ r.map qba = R := by
     intro k
     induction k with
     | zero => intro L R h; injection h with h; exact ⟨[], L, rfl, h⟩
     | succ k ih =>
      intro L R h
      unfold manyE at h
      cases hg : oneE f (w + 1) (L.map qba) with
      | none => rw [hg] at h; cases h
      | some R1 =>
       rw [hg] at h
       simp only [Option.bind_some] at h
       obtain ⟨b1, r1, h1, h2⟩ := wr_of_one V wd f (w + 1) L R1 hg
       rw [← h2] at h
       obtain ⟨b2, r2, h3, h4⟩ := ih r1 R h
       exact ⟨32 :: b1 ++ b2, r2, by unfold wrM; rw [h1]; simp only [Option.bind_some, h3, Option.map_some], h4⟩
    unfold wrE
    rcases nd_cases hz with ⟨h0, rfl, _⟩ | ⟨h1, rfl⟩ | ⟨h2, h29, rfl⟩
    ·
     rw [if_pos h0]
     injection h with h
     exact ⟨_, _, rfl, h⟩
    ·
     rw [if_neg (by omega), if_pos h1]
     injection h with h
     exact ⟨_, _, rfl, h⟩
    ·
     rw [if_neg (by omega), if_neg (by omega)]
     obtain ⟨b, r, hb, hr⟩ := key _ L R h
     exact ⟨_, _, by rw [hb]; rfl, hr⟩
theorem wr_total (V : Nd → ByteArray) (wd : Int → ByteArray) {l : List Nd} (h : exprR l = true) : ∃ b, wrE V wd 26 l = some (b, []) := by
 unfold exprR at h
 simp only [Bool.and_eq_true] at h
 have h2 := h.2
 rw [stack_right] at h2
 obtain ⟨b, r, h3, h4⟩ := wr_of_one V wd 26 0 l [] (of_decide_eq_true h2)
 have : r = [] := by cases r with | nil => rfl | cons a b => cases h4
 subst this
 exact ⟨b, h3⟩
theorem wr_len (V : Nd → ByteArray) (wd : Int → ByteArray) (hV : ∀ z, (V z).size ≤ 12400) (hw : ∀ op, (wd op).size ≤ 100) : ∀ (f : Nat) (L : List Nd) (b : List UInt8) (r : List Nd), wrE V wd f L = some (b, r) → b.length + 13000 * r.length ≤ 13000 * L.length
 | 0, _, _, _, h => by cases h
 | f + 1, [], _, _, h => by cases h
 | f + 1, z :: L, b, r, h => by
  have hvl : (V z).data.toList.length = (V z).size := by simp
  have hv := hV z
  have hwl : (wd z.op).data.toList.length = (wd z.op).size := by simp
  have hwz := hw z.op
  unfold wrE at h
  split at h
  ·
   simp only [Option.some.injEq, Prod.mk.injEq] at h
   rw [← h.1, ← h.2]
   simp only [List.length_cons]
   omega
  split at h
  ·
   simp only [Option.some.injEq, Prod.mk.injEq] at h
   have hn : (names5.getD z.n.toNat ⟨#[]⟩).data.toList.length ≤ 3 := by
    rcases Nat.lt_or_ge z.n.toNat 5 with hj | hj
    ·
     have : ∀ j : Fin 5, (names5.getD j.val ⟨#[]⟩).data.toList.length ≤ 3 := by decide
     exact this ⟨_, hj⟩
    ·
     have hl : names5.length = 5 := rfl
     rw [List.getD_eq_getElem?_getD, List.getElem?_eq_none (by omega)]
     decide
   rw [← h.1, ← h.2]
   simp only [List.length_cons]
   omega
  have key : ∀ (k : Nat) (L : List Nd) (q : List UInt8 × List Nd), wrM (wrE V wd f) k L = some q → q.1.length + 13000 * q.2.length ≤ 13000 * L.length + k := by
   intro k
   induction k with
   | zero => intro L q h; injection h with h; rw [← h]; simp
   | succ k ih =>
    intro L q h
    unfold wrM at h
    cases hg : wrE V wd f L with
    | none => rw [hg] at h; cases h
    | some p =>
     rw [hg] at h
     simp only [Option.bind_some] at h
     cases hm : wrM (wrE V wd f) k p.2 with
     | none => rw [hm] at h; cases h
     | some q' =>
      rw [hm] at h
      simp only [Option.map_some, Option.some.injEq] at h
      have h1 := wr_len V wd hV hw f L p.1 p.2 (by rw [hg])
      have h2 := ih p.2 q' hm
      rw [← h]
      simp only [List.length_append, List.length_cons]
      omega
  cases hm : wrM (wrE V wd f) (partsL.getD (z.op - 2).toNat 0) L with
  | none => rw [hm] at h; cases h
  | some q =>
   rw [hm] at h
   simp only [Option.map_some, Option.some.injEq, Prod.mk.injEq] at h
   have hk : partsL.getD (z.op - 2).toNat 0 ≤ 3 := by
    rcases Nat.lt_or_ge (z.op - 2).toNat 28 with hj | hj
    ·
     have : ∀ j : Fin 28, partsL.getD j.val 0 ≤ 3 := by decide
     exact this ⟨_, hj⟩
    ·
     have hl : partsL.length = 28 := rfl
     rw [List.getD_eq_getElem?_getD, List.getElem?_eq_none (by omega)]
     decide
   have := key _ _ _ hm
   rw [← h.1, ← h.2]
   simp only [List.length_append, List.length_cons, List.length_nil]
   omega
end Go.Proofs.YtejbpnhondpnfaaGreat
namespace Go.Proofs.YtejbpnhondpnfaaGreat
set_option maxRecDepth 100000
open Go.RowKit
def writeR (r : Bool) (bs : List UInt8) : ByteArray × Int := if r = false then (⟨#[]⟩, 1) else if 4096 < bs.length then (⟨#[]⟩, 3) else (⟨bs.toArray⟩, 0)
set_option maxHeartbeats 2000000 in
theorem exprWrite_any (A : Option Addr) (c : Nat) (l : List Nd) (r : Bool) (V : Nd → ByteArray) (wd : Int → ByteArray) (f : Nat) (bs : List UInt8) (w : World)
    (hr : ∀ W, Below w.heap.size w W → Calls Tryz.prog 34 #[.slice A l.length c] W fun e W' => e = .returned (.bool r) ∧ Below W.heap.size W W')
    (hC : r = true → WrCtx w.heap.size w A c l V wd ∧ 0 < l.length ∧ wrE V wd f l = some (bs, []) ∧ bs.length ≤ 10000000) :
    Calls Tryz.prog 29 #[.slice A l.length c] w fun e w' => e = .returned (.tuple #[.string (writeR r bs).1, .int .i64 (writeR r bs).2]) ∧ Below w.heap.size w w' := by
  have HR := Lib.hid (hr w (Below.refl _ _))
  clear hr
  cases r with
  | false =>
    clear hC
    go_enter Tryz.func29, Tryz.ntmps29
    go_wp2_with (first
      | (go_at_call 34; refine HR.out.mono ?_; rintro e w3 ⟨rfl, hb3⟩))
    go_ret2
    exact ⟨rfl, hb3⟩
  | true =>
    obtain ⟨C, hl, hw, hbl⟩ := hC rfl
    have HC := Lib.hid C
    have HWR : Hid (wrE V wd f (l.drop 0) = some (bs, l.drop l.length)) := Lib.hid (by rw [List.drop_zero, hw]; simp)
    clear C hw hC
    by_cases h4 : 4096 < bs.length
    · have e4 : writeR true bs = (⟨#[]⟩, 3) := by unfold writeR; rw [if_neg (by decide), if_pos h4]
      rw [e4]
      have h4z : (4096 : Int) < ((Lib.byteCells ([] ++ bs)).length : Int) := by rw [Lib.byteCells_length]; simp; omega
      obtain ⟨m, hm⟩ : ∃ m, m = (Lib.byteCells ([] ++ bs)).length := ⟨_, rfl⟩
      rw [← hm] at h4z
      have HM := Lib.hid hm
      clear e4 h4 hm
      go_enter Tryz.func29, Tryz.ntmps29
      go_wp2_with (first
        | (go_at_call 34; refine HR.out.mono ?_; rintro e w3 ⟨rfl, hb3⟩
           have hB4 : IsB w.heap.size w3.heap.size (Lib.byteCells []) (w3.alloc (.cells #[.pointer none, .slice none 0 0] 104)) := .inl ⟨hb3.size, _, heap_alloc_new w3 _, ⟨rfl, .inl ⟨rfl, rfl⟩⟩, by simp [Value.ownBlock]⟩
           have HK := Lib.hid (write_any HC.out f 0 l.length bs hl (Nat.le_refl _) HWR.out w3.heap.size [] _ hB4 (hb3.alloc hb3.size _) (by simp; omega)))
        | (go_at_call 62; refine HK.out.mono ?_; rintro e w5 ⟨rfl, hB5, hb5⟩; have HLn := Lib.hid (Tryz.Builder_Len w.heap.size w3.heap.size _ w5 (bat_is hB5)); rw [← HM.out] at HLn; clear hB5)
        | (go_at_call 63; refine HLn.out.mono ?_; rintro e w6 ⟨rfl, rfl⟩))
      go_ret2
      exact ⟨rfl, hb5⟩
    · have e4 : writeR true bs = (⟨bs.toArray⟩, 0) := by unfold writeR; rw [if_neg (by decide), if_neg h4]
      rw [e4]
      have h4z : ¬ (4096 : Int) < ((Lib.byteCells ([] ++ bs)).length : Int) := by rw [Lib.byteCells_length]; simp; omega
      obtain ⟨m, hm⟩ : ∃ m, m = (Lib.byteCells ([] ++ bs)).length := ⟨_, rfl⟩
      rw [← hm] at h4z
      have HM := Lib.hid hm
      clear e4 h4 hm
      go_enter Tryz.func29, Tryz.ntmps29
      go_wp2_with (first
        | (go_at_call 34; refine HR.out.mono ?_; rintro e w3 ⟨rfl, hb3⟩
           have hB4 : IsB w.heap.size w3.heap.size (Lib.byteCells []) (w3.alloc (.cells #[.pointer none, .slice none 0 0] 104)) := .inl ⟨hb3.size, _, heap_alloc_new w3 _, ⟨rfl, .inl ⟨rfl, rfl⟩⟩, by simp [Value.ownBlock]⟩
           have HK := Lib.hid (write_any HC.out f 0 l.length bs hl (Nat.le_refl _) HWR.out w3.heap.size [] _ hB4 (hb3.alloc hb3.size _) (by simp; omega)))
        | (go_at_call 62; refine HK.out.mono ?_; rintro e w5 ⟨rfl, hB5, hb5⟩; have HLn := Lib.hid (Tryz.Builder_Len w.heap.size w3.heap.size _ w5 (bat_is hB5)); rw [← HM.out] at HLn; have HSt := Lib.hid (Tryz.Builder_String_any w.heap.size w3.heap.size bs w5 (bat_is hB5) hb5.size); clear hB5)
        | (go_at_call 63; refine HLn.out.mono ?_; rintro e w6 ⟨rfl, rfl⟩)
        | (go_at_call 61; refine HSt.out.mono ?_; rintro e w7 ⟨rfl, hb7⟩))
      go_ret2
      exact ⟨rfl, hb5.trans hb7⟩
end Go.Proofs.YtejbpnhondpnfaaGreat
namespace Go.Proofs.YtejbpnhondpnfaaGreat.PJob
open Go.RowKit Go.Proofs.YtejbpnhondpnfaaGreatW.PrintWords Go.Proofs.YtejbpnhondpnfaaGreatW.PrintLast Go.Proofs.YtejbpnhondpnfaaGreatW.PrintMore
attribute [local go_sem] qaz qbe
theorem nd_dec (f : Nat) : ∀ (n : Nat) (acc : ByteArray), n < 10 ^ f → n < 10 ^ 18 → 1 ≤ f → acc.size + f ≤ 1000 → Ev (fun k => raj.l0 k (n : Int) acc) ⟨(decG f n acc.data.toList).toArray⟩ := by
  induction f with
  | zero => intro n acc _ _ h; omega
  | succ f ih =>
    intro n acc hn h18 _ hacc
    have hm : Int.tmod (n : Int) 10 = ((n % 10 : Nat) : Int) := by rw [Int.tmod_eq_emod_of_nonneg (by omega)]; omega
    have hd : Int.tdiv (n : Int) 10 = ((n / 10 : Nat) : Int) := by rw [Int.tdiv_eq_ediv_of_nonneg (by omega)]; omega
    have hw1 : wrap64 (((n % 10 : Nat) : Int) + 1) = ((n % 10 + 1 : Nat) : Int) := by unfold wrap64; omega
    have hw2 : wrap64 ((n / 10 : Nat) : Int) = ((n / 10 : Nat) : Int) := by unfold wrap64; omega
    have hdig : digitsB.extract (n % 10) (n % 10 + 1) = ⟨#[digC (n % 10)]⟩ := dig_at ⟨n % 10, by omega⟩
    have happ : (⟨#[digC (n % 10)]⟩ : ByteArray) ++ acc = ⟨(digC (n % 10) :: acc.data.toList).toArray⟩ := by
      apply ByteArray.ext; simp
    by_cases h0 : n / 10 = 0
    · refine Ev.step (f := fun _ => some ⟨(decG (f + 1) n acc.data.toList).toArray⟩) (fun k => ?_) (Ev.now _)
      simp only [raj.l0]
      rw [hm, hd, hw1, hw2, if_pos (by omega), if_pos (by omega), if_pos (by omega)]
      simp only [Int.toNat_natCast]
      rw [show (⟨#[48, 49, 50, 51, 52, 53, 54, 55, 56, 57, 97, 98, 99, 100, 101, 102]⟩ : ByteArray) = digitsB from rfl, hdig, if_pos (by show 1 + acc.size ≤ _; omega), if_pos (by omega), happ]
      unfold decG
      rw [if_pos h0]
    · have ih' := ih (n / 10) ⟨(digC (n % 10) :: acc.data.toList).toArray⟩ (by rw [Nat.pow_succ] at hn; omega) (by omega) (by
        rcases Nat.eq_zero_or_pos f with rfl | hf
        · exfalso; simp at hn; omega
        · exact hf) (by show (digC (n % 10) :: acc.data.toList).toArray.size + f ≤ 1000; have : acc.data.toList.length = acc.size := (by simp); simp; omega)
      refine Ev.step (fun k => ?_) (r := (⟨(decG (f + 1) n acc.data.toList).toArray⟩ : ByteArray)) (by
        unfold decG
        rw [if_neg h0]
        exact ih')
      simp only [raj.l0]
      rw [hm, hd, hw1, hw2, if_pos (by omega), if_pos (by omega), if_pos (by omega)]
      simp only [Int.toNat_natCast]
      rw [show (⟨#[48, 49, 50, 51, 52, 53, 54, 55, 56, 57, 97, 98, 99, 100, 101, 102]⟩ : ByteArray) = digitsB from rfl, hdig, if_pos (by show 1 + acc.size ≤ _; omega), if_neg (by omega), happ]
theorem nd_decimal (n : Int) (h0 : -(10 ^ 18) < n) (h1 : n < 10 ^ 18) : Ev (fun k => raj.f k n) ⟨(decI n).toArray⟩ := by
  have key : ∀ m : Nat, m < 10 ^ 18 → Ev (fun k => raj.f k (m : Int)) ⟨(decG 18 m []).toArray⟩ := by
    intro m hm
    have := nd_dec 18 m ⟨#[]⟩ hm hm (by omega) (by decide)
    refine Ev.step (fun k => ?_) this
    simp only [raj.f]
    rw [if_neg (by omega)]
  unfold decI
  by_cases hn : n < 0
  · rw [if_pos hn]
    have hk := key n.natAbs (by omega)
    have hw : wrap64 (-n) = (n.natAbs : Int) := by unfold wrap64; omega
    refine Ev.step (f := fun k => (raj.f k (n.natAbs : Int)).bind fun t => if 1 + t.size ≤ 9223372036854775807 then some ((⟨#[45]⟩ : ByteArray) ++ t) else none) (fun k => ?_) ?_
    · simp only [raj.f]
      rw [if_pos hn, hw]
    · refine Ev.bind hk ?_
      refine Ev.congr (f := fun _ => some ⟨(45 :: decG 18 n.natAbs []).toArray⟩) (fun k => ?_) (Ev.now _)
      have hl := decG_len 18 n.natAbs []
      rw [if_pos (by show 1 + (decG 18 n.natAbs []).toArray.size ≤ _; simp at hl ⊢; omega)]
      congr 1
  · rw [if_neg hn]
    have hk := key n.natAbs (by omega)
    rwa [show ((n.natAbs : Nat) : Int) = n by omega] at hk
theorem nd_value (z : Nd) (hr : qbf z.val = true) : Ev (fun k => rbb.f k z.k z.n z.t z.x z.y) ⟨(valT z).toArray⟩ := by
  obtain ⟨op, k, n, t, x, y⟩ := z
  have hr' : qbf ⟨k, n, t, x, y⟩ = true := hr
  have hb := right_bounds _ hr'
  simp only at hb
  unfold rbb.f valT
  simp only [nd_right, hr', Option.bind_some, if_true]
  rw [if_neg (by rw [show (Nd.mk op k n t x y).val = ⟨k, n, t, x, y⟩ from rfl, hr']; decide)]
  by_cases h0 : k = 0
  · rw [if_pos h0]
    refine Ev.congr (fun _ => if_pos h0) ?_
    exact Ev.bind (nd_decimal n (by omega) (by omega)) (Ev.now _)
  · rw [if_neg h0]
    refine Ev.congr (fun _ => if_neg h0) ?_
    by_cases h1 : k = 1
    · rw [if_pos h1]
      refine Ev.congr (fun _ => if_pos h1) ?_
      unfold raz.f
      rw [if_pos (by omega)]
      exact Ev.now _
    · rw [if_neg h1]
      refine Ev.congr (fun _ => if_neg h1) ?_
      have lx := decI_len x
      have ly := decI_len y
      refine Ev.bind (nd_decimal x (by omega) (by omega)) ?_
      refine Ev.congr (fun _ => if_pos (by show (decI x).toArray.size + 1 ≤ _; simp; omega)) ?_
      refine Ev.bind (nd_decimal y (by omega) (by omega)) ?_
      refine Ev.congr (fun _ => if_pos (by rw [ByteArray.size_append]; show ((decI x).toArray.size + 1) + (decI y).toArray.size ≤ _; simp; omega)) ?_
      refine Ev.congr (f := fun _ => some ⟨(decI x ++ 58 :: decI y).toArray⟩) (fun _ => ?_) (Ev.now _)
      congr 1
      apply ByteArray.ext; simp
theorem nd_parts_le3 {z : Nd} {k : Nat} (h : qba z = some k) : k ≤ 3 := by
  unfold qba at h
  split at h
  · split at h
    · injection h with h
      have : ∀ j : Fin 28, partsL.getD j.val 0 ≤ 3 := by decide
      have := this ⟨(z.op - 2).toNat, by omega⟩
      simp only at this
      omega
    · cases h
  · split at h
    · injection h with h; omega
    · cases h
theorem nd_end (l : List S114) (hl : l.length ≤ 1000000) (hall : ∀ z ∈ l, qba (toNd z) ≠ none) (V : Nd → ByteArray) (wd : Int → ByteArray) (r : Int) : ∀ (f a : Nat) (b : List UInt8) (R : List Nd) (left : Nat), wrE V wd f ((l.map toNd).drop a) = some (b, R) → left + 3 * (l.length - a) ≤ 4000000 →
    (∀ a', R = (l.map toNd).drop a' → a < a' → a' ≤ l.length → Ev (fun k => rau.l0 k l (a' : Int) (left : Int)) r) → Ev (fun k => rau.l0 k l (a : Int) ((left + 1 : Nat) : Int)) r := by
  intro f
  induction f with
  | zero => intro a b R left h; cases h
  | succ f ih =>
    intro a b R left h hb hK
    by_cases ha : a < l.length
    · have hd : (l.map toNd).drop a = toNd l[a] :: (l.map toNd).drop (a + 1) := by
        rw [List.drop_eq_getElem_cons (by simpa using ha), List.getElem_map]
      have hrd : qaq l (a : Int) = l[a] := by simp [qaq, ha]
      have hw : wrap64 ((a : Int) + 1) = ((a + 1 : Nat) : Int) := by unfold wrap64; omega
      obtain ⟨z, hz⟩ : ∃ z, z = l[a] := ⟨_, rfl⟩
      rw [← hz] at hrd hd
      have hzm : z ∈ l := hz ▸ List.getElem_mem ha
      rw [hd] at h
      cases hk : qba (toNd z) with
      | none => exact absurd hk (hall z hzm)
      | some k0 =>
        have hp := nd_parts z
        rw [hk] at hp
        have hk3 := nd_parts_le3 hk
        have hw2 : wrap64 (wrap64 (((left + 1 : Nat) : Int) + (k0 : Int)) - 1) = ((left + k0 : Nat) : Int) := by
          have : wrap64 (((left + 1 : Nat) : Int) + (k0 : Int)) = ((left + 1 + k0 : Nat) : Int) := by unfold wrap64; omega
          rw [this]; unfold wrap64; omega
        have step : Ev (fun k => rau.l0 k l ((a + 1 : Nat) : Int) ((left + k0 : Nat) : Int)) r → Ev (fun k => rau.l0 k l (a : Int) ((left + 1 : Nat) : Int)) r := by
          intro h
          refine Ev.step (fun k => ?_) h
          simp only [rau.l0]
          rw [if_pos (by omega), if_pos (by omega), if_pos (by omega), hrd, hp]
          simp only [Option.bind_some]
          rw [hw, hw2]
        apply step
        have many : ∀ (m a1 : Nat) (b : List UInt8) (R1 : List Nd) (left : Nat), wrM (wrE V wd f) m ((l.map toNd).drop a1) = some (b, R1) → a1 ≤ l.length → left + m + 3 * (l.length - a1) ≤ 4000000 →
            (∀ a', R1 = (l.map toNd).drop a' → a1 ≤ a' → a' ≤ l.length → Ev (fun k => rau.l0 k l (a' : Int) (left : Int)) r) → Ev (fun k => rau.l0 k l (a1 : Int) ((left + m : Nat) : Int)) r := by
          intro m
          induction m with
          | zero =>
            intro a1 b R1 left h ha1 hb hK
            injection h with h
            injection h with _ h
            exact hK a1 h.symm (Nat.le_refl _) ha1
          | succ m ihm =>
            intro a1 b R1 left h ha1 hb hK
            unfold wrM at h
            cases hg : wrE V wd f ((l.map toNd).drop a1) with
            | none => rw [hg] at h; cases h
            | some p =>
              rw [hg] at h
              simp only [Option.bind_some] at h
              cases hm : wrM (wrE V wd f) m p.2 with
              | none => rw [hm] at h; cases h
              | some q =>
                rw [hm] at h
                simp only [Option.map_some, Option.some.injEq, Prod.mk.injEq] at h
                by_cases hlt : a1 < l.length
                · refine ih a1 p.1 p.2 (left + m) (by rw [hg]) (by omega) fun a' ha' h1 h2 => ?_
                  rw [ha'] at hm
                  refine ihm a' q.1 q.2 left (by rw [hm]) h2 (by omega) fun a2 ha2 h3 h4 => hK a2 (by rw [← h.2, ha2]) (by omega) h4
                · exfalso
                  rw [List.drop_eq_nil_of_le (by simp; omega)] at hg
                  cases f <;> cases hg
        unfold wrE at h
        rcases nd_cases hk with ⟨h0, rfl, _⟩ | ⟨h1, rfl⟩ | ⟨h2, h29, rfl⟩
        · rw [if_pos h0] at h
          injection h with h
          injection h with _ h
          exact hK (a + 1) h.symm (by omega) (by omega)
        · rw [if_neg (by omega), if_pos h1] at h
          injection h with h
          injection h with _ h
          exact hK (a + 1) h.symm (by omega) (by omega)
        · rw [if_neg (by omega), if_neg (by omega)] at h
          cases hm : wrM (wrE V wd f) (partsL.getD ((toNd z).op - 2).toNat 0) ((l.map toNd).drop (a + 1)) with
          | none => rw [hm] at h; cases h
          | some q =>
            rw [hm] at h
            simp only [Option.map_some, Option.some.injEq, Prod.mk.injEq] at h
            refine many _ (a + 1) q.1 q.2 left (by rw [hm]) (by omega) (by omega) fun a2 ha2 h3 h4 => hK a2 (by rw [← h.2, ha2]) (by omega) h4
    · rw [List.drop_eq_nil_of_le (by simp; omega)] at h
      cases h
theorem nd_word_at : ∀ i : Fin 28, (rd_T196 (rbf.f.getD []) (i.val : Int)).f0 = wordsL.getD i.val ⟨#[]⟩ := by decide
theorem nd_word (op : Int) (h1 : 2 ≤ op) (h2 : op ≤ 29) : rat.f op = some (wordB op, ((partsL.getD (op - 2).toNat 0 : Nat) : Int), true) := by
  obtain ⟨i, rfl⟩ : ∃ i : Nat, op = (i : Int) + 2 := ⟨(op - 2).toNat, by omega⟩
  have hi : i < 28 := by omega
  have hw : wrap64 (wrap64 ((i : Int) + 2 - 1) - 1) = (i : Int) := by unfold wrap64; omega
  unfold rat.f wordB
  rw [if_neg (by omega), if_neg (by omega), hw]
  have e1 := nd_kinds_at ⟨i, hi⟩
  have e2 := nd_word_at ⟨i, hi⟩
  simp only at e1 e2
  rw [show ((i : Int) + 2 - 2).toNat = i by omega, ← e1, ← e2]
  unfold rbf.f
  simp only [Option.bind_some, Option.getD_some]
  rw [if_pos (by omega), if_pos (by simp; omega)]
def wrText (l : List S114) : ByteArray × Int := writeR (exprR (l.map toNd)) ((wrE (fun z => ⟨(valT z).toArray⟩) wordB 26 (l.map toNd)).elim [] (·.1))
def rbl.f (l0 : List S114) : Option (ByteArray × Int) := if l0.length ≤ 1000000 then some (wrText l0) else none
theorem rbl.calls (A0 : Option Addr) (c0 : Nat) (l0 : List S114) (r1 : ByteArray) (r2 : Int) (w : World) (hr0 : Kd.C k114 w A0 l0.length l0) (hc0 : l0.length ≤ c0) (h : rbl.f l0 = some (r1, r2)) :
    Calls Tryz.prog 29 #[.slice A0 l0.length c0] w fun e w' => e = .returned (.tuple #[.string r1, .int .i64 r2]) ∧ Below w.heap.size w w' := by
  -- uses rag rbb rat rau rbg
  unfold rbl.f at h
  split at h
  · rename_i hl
    simp only [Option.some.injEq] at h
    have hR : ∀ W, Below w.heap.size w W → Calls Tryz.prog 34 #[.slice A0 (l0.map toNd).length c0] W fun e W' => e = .returned (.bool (exprR (l0.map toNd))) ∧ Below W.heap.size W W' := by
      intro W hW
      obtain ⟨k, hk⟩ := exprR_val l0 hl
      rw [List.length_map]
      exact rag.calls k A0 c0 l0 _ W (Kd.C_below hr0 hW) hc0 hk
    obtain ⟨rr, hrr⟩ : ∃ b, b = exprR (l0.map toNd) := ⟨_, rfl⟩
    unfold wrText at h
    rw [← hrr] at h hR
    obtain ⟨bs, hbs⟩ : ∃ b, b = (wrE (fun z => ⟨(valT z).toArray⟩) wordB 26 (l0.map toNd)).elim [] (·.1) := ⟨_, rfl⟩
    rw [← hbs] at h
    have key := exprWrite_any A0 c0 (l0.map toNd) rr (fun z => ⟨(valT z).toArray⟩) wordB 26 bs w hR ?_
    · rw [h] at key
      simpa using key
    · intro hrt
      rw [hrt] at hrr
      have hx := hrr.symm
      obtain ⟨b, hb⟩ := wr_total (fun z => ⟨(valT z).toArray⟩) wordB hx
      have hbb : bs = b := by rw [hbs, hb]; rfl
      have h400 : l0.length ≤ 400 ∧ 0 < l0.length := by
        unfold exprR at hx
        simp only [Bool.and_eq_true, decide_eq_true_eq, List.length_map] at hx
        exact ⟨hx.1.2, hx.1.1⟩
      have hall : ∀ z ∈ l0, qba (toNd z) ≠ none := by
        intro z hz
        unfold exprR at hx
        simp only [Bool.and_eq_true] at hx
        exact stack_all _ _ hx.2 _ (List.mem_map_of_mem (List.mem_map_of_mem hz))
      have hlen := wr_len (fun z => ⟨(valT z).toArray⟩) wordB (fun z => by show (valT z).toArray.size ≤ _; simpa using valT_len z) wordB_len 26 _ _ _ hb
      refine ⟨⟨ndsAt_of hr0, by simp; omega, rfl, fun z hz => ⟨?_, exprR_ok hx z hz⟩, fun z hz ho W => ?_, fun op h1 h2 W => ?_, wordB_len, ?_⟩, by simpa using h400.2, by rw [hbb]; exact hb, by simp at hlen; rw [hbb]; omega⟩
      · obtain ⟨y, hy, rfl⟩ := List.mem_map.1 hz
        cases hk : qba (toNd y) with
        | none => exact absurd hk (hall y hy)
        | some k =>
          rcases nd_cases hk with ⟨h0, _⟩ | ⟨h1, _⟩ | ⟨h2, h3, _⟩
          · exact .inl h0
          · exact .inr (.inl h1)
          · exact .inr (.inr ⟨h2, h3⟩)
      · obtain ⟨y, hy, rfl⟩ := List.mem_map.1 hz
        have hv : qbf (toNd y).val = true := by
          cases hk : qba (toNd y) with
          | none => exact absurd hk (hall y hy)
          | some k =>
            rcases nd_cases hk with ⟨_, _, h⟩ | ⟨h1, _⟩ | ⟨h2, h3, _⟩
            · exact h
            · omega
            · omega
        obtain ⟨k, hk⟩ := Ev.rounds (nd_value (toNd y) hv)
        exact rbb.calls k _ _ _ _ _ _ W hk
      · exact rat.calls op _ _ _ W (nd_word op h1 h2)
      · intro f at_ b at' hw h1 h2 W hW
        simp only [List.length_map] at h1 h2 ⊢
        have hev : Ev (fun k => rau.f k l0 (at_ : Int)) (at' : Int) := by
          unfold rau.f
          refine nd_end l0 hl hall _ wordB (at' : Int) f at_ b _ 0 hw (by omega) fun a' ha' h3 h4 => ?_
          have : a' = at' := by
            have := congrArg List.length ha'
            simp at this
            omega
          subst this
          refine Ev.step (f := fun _ => some (a' : Int)) (fun k => ?_) (Ev.now _)
          simp only [rau.l0]
          rw [if_neg (by omega)]
        obtain ⟨k, hk⟩ := Ev.rounds hev
        exact rau.calls k A0 c0 l0 _ _ W (Kd.C_below hr0 hW) hc0 hk
  · cases h
def ram.f : Nat → Int → Option (ByteArray)
 | 0, _ => none
 | k + 1, a0 => if a0 < 0 then ((ram.f k (wrap64 (-a0))).bind fun t201 => (if 1 + t201.size ≤ 9223372036854775807 then (some ((⟨#[45]⟩ : ByteArray) ++ t201)) else (none))) else (if a0 < 10 then (some (strOfNums (([(wrap64 (48 + a0)) % 256] : List Int)))) else ((ram.f k (wrap64 (Int.tdiv a0 10))).bind fun t205 => ((ram.f k (Int.tmod a0 10)).bind fun t206 => (if t205.size + t206.size ≤ 9223372036854775807 then (some (t205 ++ t206)) else (none)))))
set_option maxHeartbeats 8000000 in
set_option maxRecDepth 100000 in
theorem ram.calls (k : Nat) : ∀ (a0 : Int) (r : ByteArray) (w : World) (h : ram.f k a0 = some r),
  Calls Tryz.prog 40 #[.int .i64 a0] w fun e w' => e = .returned (.string r) ∧ Below w.heap.size w w' := by
 induction k using Nat.strongRecOn with
 | _ k ih =>
 intro a0 r w h
 cases k with
 | zero => exact absurd h (by simp [ram.f])
 | succ k =>
 simp only [ram.f] at h
 have HB := Aside0.mk (Below.refl w.heap.size w)
 have H : (if a0 < 0 then ((ram.f k (wrap64 (-a0))).bind fun t201 => (if 1 + t201.size ≤ 9223372036854775807 then (some ((⟨#[45]⟩ : ByteArray) ++ t201)) else (none))) else (if a0 < 10 then (some (strOfNums (([(wrap64 (48 + a0)) % 256] : List Int)))) else ((ram.f k (wrap64 (Int.tdiv a0 10))).bind fun t205 => ((ram.f k (Int.tmod a0 10)).bind fun t206 => (if t205.size + t206.size ≤ 9223372036854775807 then (some (t205 ++ t206)) else (none)))))) = some r := h
 clear h
 by_cases c2 : a0 < 0
 ·
  rw [if_pos c2] at H
  have c2b0 : decide (a0 < 0) = true := decide_eq_true c2
  clear c2
  replace H := Option.bind_eq_some_iff.mp H
  obtain ⟨t201, A30, H⟩ := H
  replace H : (if 1 + t201.size ≤ 9223372036854775807 then (some ((⟨#[45]⟩ : ByteArray) ++ t201)) else (none)) = some r := H
  have A3 := Aside0.mk A30
  clear A30
  by_cases c4 : 1 + t201.size ≤ 9223372036854775807
  ·
   rw [if_pos c4] at H
   have c4b0 := eq_true c4
   have c4b1 : decide (1 + t201.size ≤ 9223372036854775807) = true := decide_eq_true c4
   try have c4b2 : (9223372036854775807 < 1 + t201.size) = False := eq_false (Nat.not_lt.2 c4)
   obtain rfl := Option.some.inj H
   go_enter Tryz.func40, Tryz.ntmps40
   go_wp2_with (first | ((with_reducible refine qat (f := 40) rfl ?_); refine goesL_ (some 7) rfl rfl Tryz.func40 (by kernel_rfl) rfl #[.int .i64 (wrap64 (-a0))] rfl (by (try simp only [List.map_toArray, List.map_cons, List.map_nil]); first | done | rfl | (simp only [List.length_drop, List.length_take]; rfl)) ?_; (with_reducible refine (ih k (by omega) (wrap64 (-a0)) t201 _ A3.out).mono ?_); rintro e w5 ⟨rfl, hb⟩; refine ⟨_, rfl, ?_⟩; have n0_ := Aside0.mk (qah (by repeat (first | (with_reducible first | exact HB.out | apply qad | apply qab | apply qac) | exact HB.out)) hb); clear HB; have HB := n0_; clear n0_; (try clear hb); (try clear hb2); (try clear hk); (try clear hi)))
   go_ret
   exact ⟨by first | rfl | (simp [*] <;> rfl), by repeat (first | (with_reducible first | exact HB.out | apply qad | apply qab | apply qac) | exact HB.out)⟩
  ·
   rw [if_neg c4] at H
   exact absurd H (by simp)
 ·
  rw [if_neg c2] at H
  have c2b0 : decide (a0 < 0) = false := decide_eq_false c2
  clear c2
  by_cases c6 : a0 < 10
  ·
   rw [if_pos c6] at H
   have c6b0 : decide (a0 < 10) = true := decide_eq_true c6
   clear c6
   obtain ⟨y202, hy202⟩ : ∃ y_ : List Int, y_ = (([(wrap64 (48 + a0)) % 256] : List Int)) := ⟨_, rfl⟩
   replace H : (some (strOfNums y202)) = some r := by first | (rw [hy202]; with_reducible exact H) | (have H2_ := (Option.bind_some _ _).symm.trans H; rw [hy202]; with_reducible exact H2_) | (have H2_ := (Option.bind_some _ _).symm.trans H; with_reducible exact H2_) | with_reducible exact H | (rw [hy202]; exact H) | exact H
   have Ny202 := Aside0.mk hy202
   clear hy202
   obtain rfl := Option.some.inj H
   go_enter Tryz.func40, Tryz.ntmps40
   go_wp2_with (first | ((with_reducible refine qav (N := 14) rfl ?_); refine Kd.R_lit (Kd.int .u8) _ 5 ?hg (N := 14) ?hd (xs := ([(wrap64 (48 + a0)) % 256] : List Int)) (inner := [.int .u8 ((wrap64 (48 + a0)) % 256)]) (ok := fun _ => True) (okp := fun _ => True) ?hr ?hp (fun _ hk => hk) trivial (Below.refl _ _) (Nat.le_refl _) (by simp) ?_; (case hd => rfl); (case hg => rfl); (case hr => first | (go_simp; done) | (go_simp; rfl)); (case hp => exact (Reps.one (show Kd.M (Kd.int .u8) _ _ _ ((wrap64 (48 + a0)) % 256) [.int .u8 ((wrap64 (48 + a0)) % 256)] from rfl) (Reps.none _ _))); intro v203 w7 ho8 hb hg_ hnew_; clear hg_ hnew_; (first | rw [← Ny202.out] at ho8 | (simp only [Int.reduceToNat] at ho8; rw [← Ny202.out] at ho8)); have n0_ := Aside0.mk (Kd.R_lower ho8 (qaj (by repeat (first | (with_reducible first | exact HB.out | apply qad | apply qab | apply qac) | exact HB.out)))); have n1_ := Aside0.mk (qah (by repeat (first | (with_reducible first | exact HB.out | apply qad | apply qab | apply qac) | exact HB.out)) hb); clear HB; have HO204 := n0_; have HB := n1_; clear n0_ n1_; clear hb ho8; have hcv9 := own_string (P := Tryz.prog) Tryz.underlying102 Tryz.underlying5 Tryz.underlying9 (Kd.own_of_R HO204.out)))
   go_ret
   exact ⟨by first | rfl | (simp [*] <;> rfl), by repeat (first | (with_reducible first | exact HB.out | apply qad | apply qab | apply qac) | exact HB.out)⟩
  ·
   rw [if_neg c6] at H
   have c6b0 : decide (a0 < 10) = false := decide_eq_false c6
   clear c6
   replace H := Option.bind_eq_some_iff.mp H
   obtain ⟨t205, A100, H⟩ := H
   replace H : ((ram.f k (Int.tmod a0 10)).bind fun t206 => (if t205.size + t206.size ≤ 9223372036854775807 then (some (t205 ++ t206)) else (none))) = some r := H
   have A10 := Aside0.mk A100
   clear A100
   replace H := Option.bind_eq_some_iff.mp H
   obtain ⟨t206, A110, H⟩ := H
   replace H : (if t205.size + t206.size ≤ 9223372036854775807 then (some (t205 ++ t206)) else (none)) = some r := H
   have A11 := Aside0.mk A110
   clear A110
   by_cases c12 : t205.size + t206.size ≤ 9223372036854775807
   ·
    rw [if_pos c12] at H
    have c12b0 := eq_true c12
    have c12b1 : decide (t205.size + t206.size ≤ 9223372036854775807) = true := decide_eq_true c12
    try have c12b2 : (9223372036854775807 < t205.size + t206.size) = False := eq_false (Nat.not_lt.2 c12)
    obtain rfl := Option.some.inj H
    go_enter Tryz.func40, Tryz.ntmps40
    go_wp2_with (first | ((with_reducible refine qat (f := 40) rfl ?_); refine goesL_ (some 18) rfl rfl Tryz.func40 (by kernel_rfl) rfl #[.int .i64 (wrap64 (Int.tdiv a0 10))] rfl (by (try simp only [List.map_toArray, List.map_cons, List.map_nil]); first | done | rfl | (simp only [List.length_drop, List.length_take]; rfl)) ?_; (with_reducible refine (ih k (by omega) (wrap64 (Int.tdiv a0 10)) t205 _ A10.out).mono ?_); rintro e w13 ⟨rfl, hb⟩; refine ⟨_, rfl, ?_⟩; have n0_ := Aside0.mk (qah (by repeat (first | (with_reducible first | exact HB.out | apply qad | apply qab | apply qac) | exact HB.out)) hb); clear HB; have HB := n0_; clear n0_; (try clear hb); (try clear hb2); (try clear hk); (try clear hi)) | ((with_reducible refine qat (f := 40) rfl ?_); refine goesL_ (some 21) rfl rfl Tryz.func40 (by kernel_rfl) rfl #[.int .i64 (Int.tmod a0 10)] rfl (by (try simp only [List.map_toArray, List.map_cons, List.map_nil]); first | done | rfl | (simp only [List.length_drop, List.length_take]; rfl)) ?_; (with_reducible refine (ih k (by omega) (Int.tmod a0 10) t206 _ A11.out).mono ?_); rintro e w14 ⟨rfl, hb⟩; refine ⟨_, rfl, ?_⟩; have n0_ := Aside0.mk (qah (by repeat (first | (with_reducible first | exact HB.out | apply qad | apply qab | apply qac) | exact HB.out)) hb); clear HB; have HB := n0_; clear n0_; (try clear hb); (try clear hb2); (try clear hk); (try clear hi)))
    go_ret
    exact ⟨by first | rfl | (simp [*] <;> rfl), by repeat (first | (with_reducible first | exact HB.out | apply qad | apply qab | apply qac) | exact HB.out)⟩
   ·
    rw [if_neg c12] at H
    exact absurd H (by simp)
def rbd.f (a0 : Int) : Option (Bool) := if a0 ≥ 32 then (if a0 ≤ 126 then (if a0 = 34 then (some false) else (some (a0 != 92))) else (some false)) else (some false)
set_option maxHeartbeats 8000000 in
set_option maxRecDepth 100000 in
theorem rbd.calls (a0 : Int) (r : Bool) (w : World) (h : rbd.f a0 = some r) :
  Calls Tryz.prog 118 #[.int .u8 a0] w fun e w' => e = .returned (.bool r) ∧ Drawn0 w w' := by
 have H : (if a0 ≥ 32 then (if a0 ≤ 126 then (if a0 = 34 then (some false) else (some (a0 != 92))) else (some false)) else (some false)) = some r := h
 clear h
 by_cases c2 : a0 ≥ 32
 ·
  rw [if_pos c2] at H
  have c2b0 : decide (32 ≤ a0) = true := decide_eq_true c2
  clear c2
  by_cases c3 : a0 ≤ 126
  ·
   rw [if_pos c3] at H
   have c3b0 : decide (a0 ≤ 126) = true := decide_eq_true c3
   clear c3
   by_cases c4 : a0 = 34
   ·
    rw [if_pos c4] at H
    have c4b0 : (a0 == 34) = true := beq_iff_eq.mpr c4
    have c4b1 : (a0 != 34) = false := bne_eq_false_iff_eq.mpr c4
    clear c4
    obtain rfl := Option.some.inj H
    go_enter Tryz.func118, Tryz.ntmps118
    go_wp2
    go_ret
    exact ⟨by first | rfl | (simp; done) | (simp [*]; done), by repeat (first | exact Drawn0.refl _ | apply Drawn0.step)⟩
   ·
    rw [if_neg c4] at H
    have c4b0 : (a0 == 34) = false := beq_eq_false_iff_ne.mpr c4
    have c4b1 : (a0 != 34) = true := bne_iff_ne.mpr c4
    obtain rfl := Option.some.inj H
    go_enter Tryz.func118, Tryz.ntmps118
    go_wp2
    go_ret
    exact ⟨by first | rfl | (simp; done) | (simp [*]; done), by repeat (first | exact Drawn0.refl _ | apply Drawn0.step)⟩
  ·
   rw [if_neg c3] at H
   have c3b0 : decide (a0 ≤ 126) = false := decide_eq_false c3
   clear c3
   obtain rfl := Option.some.inj H
   go_enter Tryz.func118, Tryz.ntmps118
   go_wp2
   go_ret
   exact ⟨by first | rfl | (simp; done) | (simp [*]; done), by repeat (first | exact Drawn0.refl _ | apply Drawn0.step)⟩
 ·
  rw [if_neg c2] at H
  have c2b0 : decide (32 ≤ a0) = false := decide_eq_false c2
  clear c2
  obtain rfl := Option.some.inj H
  go_enter Tryz.func118, Tryz.ntmps118
  go_wp2
  go_ret
  exact ⟨by first | rfl | (simp; done) | (simp [*]; done), by repeat (first | exact Drawn0.refl _ | apply Drawn0.step)⟩
def rar.f (a0 : Int) : Option (ByteArray) := if a0 < 10 then (some (strOfNums (([(wrap64 (48 + a0)) % 256] : List Int)))) else (some (strOfNums (([(wrap64 ((wrap64 (97 + a0)) - 10)) % 256] : List Int))))
set_option maxHeartbeats 8000000 in
set_option maxRecDepth 100000 in
theorem rar.calls (a0 : Int) (r : ByteArray) (w : World) (h : rar.f a0 = some r) :
  Calls Tryz.prog 119 #[.int .i64 a0] w fun e w' => e = .returned (.string r) ∧ Below w.heap.size w w' := by
 have HB := Aside0.mk (Below.refl w.heap.size w)
 have H : (if a0 < 10 then (some (strOfNums (([(wrap64 (48 + a0)) % 256] : List Int)))) else (some (strOfNums (([(wrap64 ((wrap64 (97 + a0)) - 10)) % 256] : List Int))))) = some r := h
 clear h
 by_cases c2 : a0 < 10
 ·
  rw [if_pos c2] at H
  have c2b0 : decide (a0 < 10) = true := decide_eq_true c2
  clear c2
  obtain ⟨y207, hy207⟩ : ∃ y_ : List Int, y_ = (([(wrap64 (48 + a0)) % 256] : List Int)) := ⟨_, rfl⟩
  replace H : (some (strOfNums y207)) = some r := by first | (rw [hy207]; with_reducible exact H) | (have H2_ := (Option.bind_some _ _).symm.trans H; rw [hy207]; with_reducible exact H2_) | (have H2_ := (Option.bind_some _ _).symm.trans H; with_reducible exact H2_) | with_reducible exact H | (rw [hy207]; exact H) | exact H
  have Ny207 := Aside0.mk hy207
  clear hy207
  obtain rfl := Option.some.inj H
  go_enter Tryz.func119, Tryz.ntmps119
  go_wp2_with (first | ((with_reducible refine qav (N := 8) rfl ?_); refine Kd.R_lit (Kd.int .u8) _ 5 ?hg (N := 8) ?hd (xs := ([(wrap64 (48 + a0)) % 256] : List Int)) (inner := [.int .u8 ((wrap64 (48 + a0)) % 256)]) (ok := fun _ => True) (okp := fun _ => True) ?hr ?hp (fun _ hk => hk) trivial (Below.refl _ _) (Nat.le_refl _) (by simp) ?_; (case hd => rfl); (case hg => rfl); (case hr => first | (go_simp; done) | (go_simp; rfl)); (case hp => exact (Reps.one (show Kd.M (Kd.int .u8) _ _ _ ((wrap64 (48 + a0)) % 256) [.int .u8 ((wrap64 (48 + a0)) % 256)] from rfl) (Reps.none _ _))); intro v208 w3 ho4 hb hg_ hnew_; clear hg_ hnew_; (first | rw [← Ny207.out] at ho4 | (simp only [Int.reduceToNat] at ho4; rw [← Ny207.out] at ho4)); have n0_ := Aside0.mk (Kd.R_lower ho4 (qaj (by repeat (first | (with_reducible first | exact HB.out | apply qad | apply qab | apply qac) | exact HB.out)))); have n1_ := Aside0.mk (qah (by repeat (first | (with_reducible first | exact HB.out | apply qad | apply qab | apply qac) | exact HB.out)) hb); clear HB; have HO209 := n0_; have HB := n1_; clear n0_ n1_; clear hb ho4; have hcv5 := own_string (P := Tryz.prog) Tryz.underlying102 Tryz.underlying5 Tryz.underlying9 (Kd.own_of_R HO209.out)))
  go_ret
  exact ⟨by first | rfl | (simp [*] <;> rfl), by repeat (first | (with_reducible first | exact HB.out | apply qad | apply qab | apply qac) | exact HB.out)⟩
 ·
  rw [if_neg c2] at H
  have c2b0 : decide (a0 < 10) = false := decide_eq_false c2
  clear c2
  obtain ⟨y210, hy210⟩ : ∃ y_ : List Int, y_ = (([(wrap64 ((wrap64 (97 + a0)) - 10)) % 256] : List Int)) := ⟨_, rfl⟩
  replace H : (some (strOfNums y210)) = some r := by first | (rw [hy210]; with_reducible exact H) | (have H2_ := (Option.bind_some _ _).symm.trans H; rw [hy210]; with_reducible exact H2_) | (have H2_ := (Option.bind_some _ _).symm.trans H; with_reducible exact H2_) | with_reducible exact H | (rw [hy210]; exact H) | exact H
  have Ny210 := Aside0.mk hy210
  clear hy210
  obtain rfl := Option.some.inj H
  go_enter Tryz.func119, Tryz.ntmps119
  go_wp2_with (first | ((with_reducible refine qav (N := 14) rfl ?_); refine Kd.R_lit (Kd.int .u8) _ 5 ?hg (N := 14) ?hd (xs := ([(wrap64 ((wrap64 (97 + a0)) - 10)) % 256] : List Int)) (inner := [.int .u8 ((wrap64 ((wrap64 (97 + a0)) - 10)) % 256)]) (ok := fun _ => True) (okp := fun _ => True) ?hr ?hp (fun _ hk => hk) trivial (Below.refl _ _) (Nat.le_refl _) (by simp) ?_; (case hd => rfl); (case hg => rfl); (case hr => first | (go_simp; done) | (go_simp; rfl)); (case hp => exact (Reps.one (show Kd.M (Kd.int .u8) _ _ _ ((wrap64 ((wrap64 (97 + a0)) - 10)) % 256) [.int .u8 ((wrap64 ((wrap64 (97 + a0)) - 10)) % 256)] from rfl) (Reps.none _ _))); intro v211 w6 ho7 hb hg_ hnew_; clear hg_ hnew_; (first | rw [← Ny210.out] at ho7 | (simp only [Int.reduceToNat] at ho7; rw [← Ny210.out] at ho7)); have n0_ := Aside0.mk (Kd.R_lower ho7 (qaj (by repeat (first | (with_reducible first | exact HB.out | apply qad | apply qab | apply qac) | exact HB.out)))); have n1_ := Aside0.mk (qah (by repeat (first | (with_reducible first | exact HB.out | apply qad | apply qab | apply qac) | exact HB.out)) hb); clear HB; have HO212 := n0_; have HB := n1_; clear n0_ n1_; clear hb ho7; have hcv8 := own_string (P := Tryz.prog) Tryz.underlying102 Tryz.underlying5 Tryz.underlying9 (Kd.own_of_R HO212.out)))
  go_ret
  exact ⟨by first | rfl | (simp [*] <;> rfl), by repeat (first | (with_reducible first | exact HB.out | apply qad | apply qab | apply qac) | exact HB.out)⟩
def rah.l0 : Nat → ByteArray → Int → Int → Int → ByteArray → Int → Int → Option (ByteArray)
 | 0, _, _, _, _, _, _, _ => none
 | k + 1, x3, x4, z0, z1, z2, z3, z4 => if x4 < (z2.size : Int) then (if 0 ≤ x4 then ((rbd.f (bt z2 x4)).bind fun t217 => (if t217 = true then (if x4 ≤ (wrap64 (x4 + 1)) then (if (wrap64 (x4 + 1)) ≤ (z2.size : Int) then (if x3.size + (z2.extract (x4 : Int).toNat ((wrap64 (x4 + 1)) : Int).toNat).size ≤ 9223372036854775807 then (rah.l0 k (x3 ++ (z2.extract (x4 : Int).toNat ((wrap64 (x4 + 1)) : Int).toNat)) (wrap64 (x4 + 1)) z0 z1 z2 z3 z4) else (none)) else (none)) else (none)) else (if x3.size + 1 ≤ 9223372036854775807 then ((rar.f (wrap64 (Int.tdiv (wrap64 (bt z2 x4)) 16))).bind fun t218 => (if (x3 ++ (⟨#[92]⟩ : ByteArray)).size + t218.size ≤ 9223372036854775807 then ((rar.f (Int.tmod (wrap64 (bt z2 x4)) 16)).bind fun t219 => (if ((x3 ++ (⟨#[92]⟩ : ByteArray)) ++ t218).size + t219.size ≤ 9223372036854775807 then (rah.l0 k (((x3 ++ (⟨#[92]⟩ : ByteArray)) ++ t218) ++ t219) (wrap64 (x4 + 1)) z0 z1 z2 z3 z4) else (none))) else (none))) else (none)))) else (none)) else (if x3.size + 1 ≤ 9223372036854775807 then (some (x3 ++ (⟨#[34]⟩ : ByteArray))) else (none))
def rah.f (k : Nat) (a0_0 : Int) (a0_1 : Int) (a0_2 : ByteArray) (a0_3 : Int) (a0_4 : Int) : Option (ByteArray) := if a0_0 = 0 then ((ram.f k a0_1).bind fun t214 => (some t214)) else (if a0_0 = 2 then ((ram.f k a0_3).bind fun t215 => (if t215.size + 1 ≤ 9223372036854775807 then ((ram.f k a0_4).bind fun t216 => (if (t215 ++ (⟨#[58]⟩ : ByteArray)).size + t216.size ≤ 9223372036854775807 then (some ((t215 ++ (⟨#[58]⟩ : ByteArray)) ++ t216)) else (none))) else (none))) else (rah.l0 k (⟨#[34]⟩ : ByteArray) 0 a0_0 a0_1 a0_2 a0_3 a0_4))
def rah.T5 : Bool × List (List Nat × List Nat) := (true, [([], []), ([0], [0]), ([1], [1]), ([2], [2]), ([3], [3]), ([], []), ([5], [5]), ([6], [6]), ([7, 3], [7]), ([4, 8], [4, 8]), ([9, 8, 0, 1, 2, 3, 4, 5, 6, 7, 8, 9], [9])])
def rah.B5 : List Nat := [0, 1, 3, 7, 15, 0, 32, 96, 239, 511, 1023]
theorem rah.tab5 : rtab .any (opsOf Tryz.f73 5) = rah.T5 := by kernel_rfl
theorem rah.bits5 : waitsOk rah.T5.2 rah.B5 = true := by kernel_rfl
def rah.T12 : Bool × List (List Nat × List Nat) := (true, [([], []), ([0], [0]), ([], []), ([2], [2]), ([], []), ([3, 4], [3, 4]), ([5], [5]), ([6], [6]), ([7], [7]), ([1, 8], [1, 8]), ([], []), ([10], [10]), ([], []), ([11, 12], [11, 12]), ([13], [13]), ([14], [14]), ([15, 8], [15]), ([9, 16], [9, 16]), ([17, 16, 0, 1, 2, 3, 4, 5, 6, 7, 8, 9, 10, 11, 12, 13, 14, 15, 16, 17], [0, 17])])
def rah.B12 : List Nat := [0, 1, 0, 4, 0, 28, 60, 124, 252, 511, 0, 1024, 0, 7168, 15360, 31744, 65020, 131071, 262143]
theorem rah.tab12 : rtab .any (opsOf Tryz.f73 12) = rah.T12 := by kernel_rfl
theorem rah.bits12 : waitsOk rah.T12.2 rah.B12 = true := by kernel_rfl
set_option maxHeartbeats 8000000 in
set_option maxRecDepth 100000 in
theorem rah.calls (k : Nat) (a0_0 : Int) (a0_1 : Int) (a0_2 : ByteArray) (a0_3 : Int) (a0_4 : Int) (r : ByteArray) (w : World) (h : rah.f k a0_0 a0_1 a0_2 a0_3 a0_4 = some r) :
  Calls Tryz.prog 73 #[.agg #[.int .i64 a0_0, .int .i64 a0_1, .string a0_2, .int .i64 a0_3, .int .i64 a0_4]] w fun e w' => e = .returned (.string r) ∧ Below w.heap.size w w' := by
 have hu45 := Tryz.underlying45
 have HB := Aside0.mk (Below.refl w.heap.size w)
 have H : (if a0_0 = 0 then ((ram.f k a0_1).bind fun t214 => (some t214)) else (if a0_0 = 2 then ((ram.f k a0_3).bind fun t215 => (if t215.size + 1 ≤ 9223372036854775807 then ((ram.f k a0_4).bind fun t216 => (if (t215 ++ (⟨#[58]⟩ : ByteArray)).size + t216.size ≤ 9223372036854775807 then (some ((t215 ++ (⟨#[58]⟩ : ByteArray)) ++ t216)) else (none))) else (none))) else (rah.l0 k (⟨#[34]⟩ : ByteArray) 0 a0_0 a0_1 a0_2 a0_3 a0_4))) = some r := h
 clear h
 by_cases c2 : a0_0 = 0
 ·
  rw [if_pos c2] at H
  have c2b0 : (a0_0 == 0) = true := beq_iff_eq.mpr c2
  have c2b1 : (a0_0 != 0) = false := bne_eq_false_iff_eq.mpr c2
  clear c2
  replace H := Option.bind_eq_some_iff.mp H
  obtain ⟨t214, A30, H⟩ := H
  replace H : (some t214) = some r := H
  have A3 := Aside0.mk A30
  clear A30
  obtain rfl := Option.some.inj H
  go_enter Tryz.func73, Tryz.ntmps73
  go_wp2_with (first | ((with_reducible refine qav (N := 1) rfl ?_); refine qau ?hg (N := 1) ?hd (cs := #[.int .i64 a0_0, .int .i64 a0_1, .string a0_2, .int .i64 a0_3, .int .i64 a0_4]) (t := 45) ?hr ?_; (case hd => rfl); (case hg => rfl); (case hr => first | (go_simp; done) | (go_simp; rfl)); intro gb213 hg w4 hbox hb; have n0_ := Aside0.mk (qah (by repeat (first | (with_reducible first | exact HB.out | apply qad | apply qab | apply qac) | exact HB.out)) hb); have n1_ := Aside0.mk (hbox); have n2_ := Aside0.mk ((by rw [hg]; exact (qaj (by repeat (first | (with_reducible first | exact HB.out | apply qad | apply qab | apply qac) | exact HB.out))) : w.heap.size ≤ gb213)); have n3_ := Aside0.mk ((by rw [hg]; exact (qaj (by repeat (first | (with_reducible first | exact HB.out | apply qad | apply qab | apply qac) | exact HB.out))) : w.heap.size ≤ gb213)); clear HB; have HB := n0_; have BK213 := n1_; have GW213 := n2_; have GE213 := n3_; clear n0_ n1_ n2_ n3_; clear hb hbox hg; obtain ⟨G5_0, G5_1, G5_2, G5_3, G5_4, F5_0, F5_1, F5_2, F5_3, F5_4⟩ := shr5 BK213.out) | ((with_reducible refine qat (f := 40) rfl ?_); refine goesL_ (some 11) rfl rfl Tryz.func40 (by kernel_rfl) rfl #[.int .i64 a0_1] rfl (by (try simp only [List.map_toArray, List.map_cons, List.map_nil]); first | done | rfl | (simp only [List.length_drop, List.length_take]; rfl)) ?_; (with_reducible refine (ram.calls k a0_1 t214 _ A3.out).mono ?_); rintro e w6 ⟨rfl, hb⟩; refine ⟨_, rfl, ?_⟩; have n0_ := Aside0.mk (qan (g := gb213) (o := .cells #[.int .i64 a0_0, .int .i64 a0_1, .string a0_2, .int .i64 a0_3, .int .i64 a0_4] 45 (0, 0)) (by (with_reducible repeat (first | refine qag ?_ _ | refine qai ?_ | refine blk_alloc ?_ _)); exact BK213.out) hb); have n1_ := Aside0.mk (qah (by repeat (first | (with_reducible first | exact HB.out | apply qad | apply qab | apply qac | refine qaf ?_ GE213.out) | exact HB.out)) hb); clear BK213; clear HB; have BK213 := n0_; have HB := n1_; clear n0_ n1_; (try clear hb); (try clear hb2); (try clear hk); (try clear hi)))
  go_ret
  exact ⟨by first | rfl | (simp [*] <;> rfl), by repeat (first | (with_reducible first | exact HB.out | apply qad | apply qab | apply qac | refine qaf ?_ GE213.out) | exact HB.out)⟩
 ·
  rw [if_neg c2] at H
  have c2b0 : (a0_0 == 0) = false := beq_eq_false_iff_ne.mpr c2
  have c2b1 : (a0_0 != 0) = true := bne_iff_ne.mpr c2
  by_cases c7 : a0_0 = 2
  ·
   rw [if_pos c7] at H
   have c7b0 : (a0_0 == 2) = true := beq_iff_eq.mpr c7
   have c7b1 : (a0_0 != 2) = false := bne_eq_false_iff_eq.mpr c7
   clear c7
   replace H := Option.bind_eq_some_iff.mp H
   obtain ⟨t215, A80, H⟩ := H
   replace H : (if t215.size + 1 ≤ 9223372036854775807 then ((ram.f k a0_4).bind fun t216 => (if (t215 ++ (⟨#[58]⟩ : ByteArray)).size + t216.size ≤ 9223372036854775807 then (some ((t215 ++ (⟨#[58]⟩ : ByteArray)) ++ t216)) else (none))) else (none)) = some r := H
   have A8 := Aside0.mk A80
   clear A80
   by_cases c9 : t215.size + 1 ≤ 9223372036854775807
   ·
    rw [if_pos c9] at H
    have c9b0 := eq_true c9
    have c9b1 : decide (t215.size + 1 ≤ 9223372036854775807) = true := decide_eq_true c9
    try have c9b2 : (9223372036854775807 < t215.size + 1) = False := eq_false (Nat.not_lt.2 c9)
    replace H := Option.bind_eq_some_iff.mp H
    obtain ⟨t216, A100, H⟩ := H
    replace H : (if (t215 ++ (⟨#[58]⟩ : ByteArray)).size + t216.size ≤ 9223372036854775807 then (some ((t215 ++ (⟨#[58]⟩ : ByteArray)) ++ t216)) else (none)) = some r := H
    have A10 := Aside0.mk A100
    clear A100
    by_cases c11 : (t215 ++ (⟨#[58]⟩ : ByteArray)).size + t216.size ≤ 9223372036854775807
    ·
     rw [if_pos c11] at H
     have c11b0 := eq_true c11
     have c11b1 : decide ((t215 ++ (⟨#[58]⟩ : ByteArray)).size + t216.size ≤ 9223372036854775807) = true := decide_eq_true c11
     try have c11b2 : (9223372036854775807 < (t215 ++ (⟨#[58]⟩ : ByteArray)).size + t216.size) = False := eq_false (Nat.not_lt.2 c11)
     try have c11b3 := c11b2
     try simp only [ByteArray.size_append, show (ByteArray.mk #[58]).size = 1 from rfl] at c11b3
     obtain rfl := Option.some.inj H
     go_enter Tryz.func73, Tryz.ntmps73
     try go_wp2_with (first | ((with_reducible refine qav (N := 1) rfl ?_); refine qau ?hg (N := 1) ?hd (cs := #[.int .i64 a0_0, .int .i64 a0_1, .string a0_2, .int .i64 a0_3, .int .i64 a0_4]) (t := 45) ?hr ?_; (case hd => rfl); (case hg => rfl); (case hr => first | (go_simp; done) | (go_simp; rfl)); intro gb213 hg w12 hbox hb; have n0_ := Aside0.mk (qah (by repeat (first | (with_reducible first | exact HB.out | apply qad | apply qab | apply qac) | exact HB.out)) hb); have n1_ := Aside0.mk (hbox); have n2_ := Aside0.mk ((by rw [hg]; exact (qaj (by repeat (first | (with_reducible first | exact HB.out | apply qad | apply qab | apply qac) | exact HB.out))) : w.heap.size ≤ gb213)); have n3_ := Aside0.mk ((by rw [hg]; exact (qaj (by repeat (first | (with_reducible first | exact HB.out | apply qad | apply qab | apply qac) | exact HB.out))) : w.heap.size ≤ gb213)); clear HB; have HB := n0_; have BK213 := n1_; have GW213 := n2_; have GE213 := n3_; clear n0_ n1_ n2_ n3_; clear hb hbox hg; obtain ⟨G13_0, G13_1, G13_2, G13_3, G13_4, F13_0, F13_1, F13_2, F13_3, F13_4⟩ := shr5 BK213.out))
     have n0_ := Aside0.mk (qai BK213.out)
     have n1_ := Aside0.mk (qac HB.out)
     clear BK213
     clear HB
     have BK213 := n0_
     have HB := n1_
     clear n0_ n1_
     refine start_ (n := 11) (S := fun w' => w'.cell? ⟨gb213, 0, none⟩ = some (.int .i64 a0_0) ∧ w'.cell? ⟨gb213, 1, none⟩ = some (.int .i64 a0_1) ∧ w'.cell? ⟨gb213, 2, none⟩ = some (.string a0_2) ∧ w'.cell? ⟨gb213, 3, none⟩ = some (.int .i64 a0_3) ∧ w'.cell? ⟨gb213, 4, none⟩ = some (.int .i64 a0_4)) (ds := []) #[false, false, false, false, false, false, false, false, false, false, false] (by kernel_rfl) rfl rfl ⟨(qak BK213.out 0).trans rfl, (qak BK213.out 1).trans rfl, (qak BK213.out 2).trans rfl, (qak BK213.out 3).trans rfl, (qak BK213.out 4).trans rfl⟩ (fun hHeld => ?_); refine with_tabW rah.tab5 rah.bits5 (fun HT_ HW_ => ?_)
     generalize w12.drew = w14 at BK213 HB hHeld ⊢
     refine qax (i := 0) (N := some 14) (v := ?_) (a' := ?_) #[true, false, false, false, false, false, false, false, false, false, false] rfl rfl (qar HT_.out (by kernel_rfl)) (fun _ _ _ h => h) (Or.inl ⟨by rfl, ?_⟩) ?_ ?_
     rotate_left
     ·
      intro w'
      go_simp
      with_reducible rfl
     rotate_left
     ·
      simp only [Act.put, sIa, sIz, sIs, qap, i32_w]
      rfl
     refine qax (i := 1) (N := some 15) (v := ?_) (a' := ?_) #[true, true, false, false, false, false, false, false, false, false, false] rfl rfl (qar HT_.out (by kernel_rfl)) (fun _ _ _ h => h) (Or.inl ⟨by rfl, ?_⟩) ?_ ?_
     rotate_left
     ·
      intro w'
      go_simp
      with_reducible rfl
     rotate_left
     ·
      simp only [Act.put, sIa, sIz, sIs, qap, i32_w]
      rfl
     refine qax (i := 5) (N := some 19) (v := ?_) (a' := ?_) #[true, true, false, false, false, true, false, false, false, false, false] rfl rfl (qar HT_.out (by kernel_rfl)) (fun _ _ _ h => h) (Or.inl ⟨by rfl, ?_⟩) ?_ ?_
     rotate_left
     ·
      intro w'
      go_simp
      with_reducible rfl
     rotate_left
     ·
      simp only [Act.put, sIa, sIz, sIs, qap, i32_w]
      rfl
     refine qax (i := 6) (N := some 20) (v := ?_) (a' := ?_) #[true, true, false, false, false, true, true, false, false, false, false] rfl rfl (qar HT_.out (by kernel_rfl)) (fun _ _ _ h => h) (Or.inl ⟨by rfl, ?_⟩) ?_ ?_
     rotate_left
     ·
      intro w'
      go_simp
      with_reducible rfl
     rotate_left
     ·
      simp only [Act.put, sIa, sIz, sIs, qap, i32_w]
      rfl
     refine take_ (i := 2) (N := some 16) (v := ?_) (a' := ?_) #[true, true, true, false, false, true, true, false, false, false, false] rfl rfl (qbg HT_.out HW_.out (by kernel_rfl)) (fun _ _ _ h => h) (Or.inl ⟨by rfl, ?_⟩) hHeld ?_ ?_
     rotate_left
     ·
      rintro w' ⟨s0, s1, s2, s3, s4⟩
      go_simp
      with_reducible rfl
     rotate_left
     ·
      simp only [Act.put, sIa, sIz, sIs, qap, i32_w]
      rfl
     refine take_ (i := 7) (N := some 21) (v := ?_) (a' := ?_) #[true, true, true, false, false, true, true, true, false, false, false] rfl rfl (qbg HT_.out HW_.out (by kernel_rfl)) (fun _ _ _ h => h) (Or.inl ⟨by rfl, ?_⟩) hHeld ?_ ?_
     rotate_left
     ·
      rintro w' ⟨s0, s1, s2, s3, s4⟩
      go_simp
      with_reducible rfl
     rotate_left
     ·
      simp only [Act.put, sIa, sIz, sIs, qap, i32_w]
      rfl
     refine one_ (i := 3) (N := some 17) #[true, true, true, true, false, true, true, true, false, false, false] rfl rfl (one_of HT_.out (by kernel_rfl)) (by decide) (fun K hK => ?_)
     refine goes_ Tryz.func40 (by kernel_rfl) rfl #[.int .i64 a0_3] (by rfl) rfl rfl (by (try simp only [List.map_toArray, List.map_cons, List.map_nil]); first | done | rfl | (simp only [List.length_drop, List.length_take]; rfl)) ?_
     with_reducible refine (ram.calls k a0_3 t215 _ A8.out).mono ?_
     rintro e w15 ⟨rfl, hb⟩
     refine ⟨_, rfl, ?_⟩
     have n0_ := Aside0.mk (qan (g := gb213) (o := .cells #[.int .i64 a0_0, .int .i64 a0_1, .string a0_2, .int .i64 a0_3, .int .i64 a0_4] 45 (0, 0)) (by (with_reducible repeat (first | refine qag ?_ _ | refine qai ?_ | refine blk_alloc ?_ _)); exact BK213.out) hb)
     have n1_ := Aside0.mk (qah (by repeat (first | (with_reducible first | exact HB.out | apply qad | apply qab | apply qac | refine qaf ?_ GE213.out) | exact HB.out)) hb)
     clear BK213
     clear HB
     have BK213 := n0_
     have HB := n1_
     clear n0_ n1_
     (try clear hb)
     (try clear hb2)
     (try clear hk)
     (try clear hi)
     refine hK.out _ _ ⟨(qak BK213.out 0).trans rfl, (qak BK213.out 1).trans rfl, (qak BK213.out 2).trans rfl, (qak BK213.out 3).trans rfl, (qak BK213.out 4).trans rfl⟩ (fun hHeld => ?_)
     clear hK K
     refine norm_ (a' := ?_) ?_ ?_
     rotate_left
     ·
      show Act.put _ (some 17) _ = _
      simp only [Act.put, sIa, sIz, sIs, qap, i32_w]
      rfl
     refine qax (i := 4) (N := some 18) (v := ?_) (a' := ?_) #[true, true, true, true, true, true, true, true, false, false, false] rfl rfl (qar HT_.out (by kernel_rfl)) (fun _ _ _ h => h) (Or.inl ⟨by rfl, ?_⟩) ?_ ?_
     rotate_left
     ·
      intro w'
      go_simp
      with_reducible rfl
     rotate_left
     ·
      simp only [Act.put, sIa, sIz, sIs, qap, i32_w]
      rfl
     refine one_ (i := 8) (N := some 22) #[true, true, true, true, true, true, true, true, true, false, false] rfl rfl (one_of HT_.out (by kernel_rfl)) (by decide) (fun K hK => ?_)
     refine goes_ Tryz.func40 (by kernel_rfl) rfl #[.int .i64 a0_4] (by rfl) rfl rfl (by (try simp only [List.map_toArray, List.map_cons, List.map_nil]); first | done | rfl | (simp only [List.length_drop, List.length_take]; rfl)) ?_
     with_reducible refine (ram.calls k a0_4 t216 _ A10.out).mono ?_
     rintro e w16 ⟨rfl, hb⟩
     refine ⟨_, rfl, ?_⟩
     have n0_ := Aside0.mk (qan (g := gb213) (o := .cells #[.int .i64 a0_0, .int .i64 a0_1, .string a0_2, .int .i64 a0_3, .int .i64 a0_4] 45 (0, 0)) (by (with_reducible repeat (first | refine qag ?_ _ | refine qai ?_ | refine blk_alloc ?_ _)); exact BK213.out) hb)
     have n1_ := Aside0.mk (qah (by repeat (first | (with_reducible first | exact HB.out | apply qad | apply qab | apply qac | refine qaf ?_ GE213.out) | exact HB.out)) hb)
     clear BK213
     clear HB
     have BK213 := n0_
     have HB := n1_
     clear n0_ n1_
     (try clear hb)
     (try clear hb2)
     (try clear hk)
     (try clear hi)
     refine hK.out _ _ ⟨(qak BK213.out 0).trans rfl, (qak BK213.out 1).trans rfl, (qak BK213.out 2).trans rfl, (qak BK213.out 3).trans rfl, (qak BK213.out 4).trans rfl⟩ (fun hHeld => ?_)
     clear hK K
     refine norm_ (a' := ?_) ?_ ?_
     rotate_left
     ·
      show Act.put _ (some 22) _ = _
      simp only [Act.put, sIa, sIz, sIs, qap, i32_w]
      rfl
     refine qax (i := 9) (N := some 23) (v := ?_) (a' := ?_) #[true, true, true, true, true, true, true, true, true, true, false] rfl rfl (qar HT_.out (by kernel_rfl)) (fun _ _ _ h => h) (Or.inl ⟨by rfl, ?_⟩) ?_ ?_
     rotate_left
     ·
      intro w'
      go_simp
      with_reducible rfl
     rotate_left
     ·
      simp only [Act.put, sIa, sIz, sIs, qap, i32_w]
      rfl
     refine qax (i := 10) (N := some 2) (v := ?_) (a' := ?_) #[true, true, true, true, true, true, true, true, true, true, true] rfl rfl (qar HT_.out (by kernel_rfl)) (fun _ _ _ h => h) (Or.inl ⟨by rfl, ?_⟩) ?_ ?_
     rotate_left
     ·
      intro w'
      go_simp
      with_reducible rfl
     rotate_left
     ·
      simp only [Act.put, sIa, sIz, sIs, qap, i32_w]
      rfl
     refine done_ (done_of HT_.out (by kernel_rfl)) ?_
     try go_wp2
     go_ret
     exact ⟨by first | rfl | (simp [*] <;> rfl), by repeat (first | (with_reducible first | exact HB.out | apply qad | apply qab | apply qac | refine qaf ?_ GE213.out) | exact HB.out)⟩
    ·
     rw [if_neg c11] at H
     exact absurd H (by simp)
   ·
    rw [if_neg c9] at H
    exact absurd H (by simp)
  ·
   rw [if_neg c7] at H
   have c7b0 : (a0_0 == 2) = false := beq_eq_false_iff_ne.mpr c7
   have c7b1 : (a0_0 != 2) = true := bne_iff_ne.mpr c7
   have H' := Aside0.mk H
   clear H
   go_enter Tryz.func73, Tryz.ntmps73
   go_wp2_with (first | ((with_reducible refine qav (N := 1) rfl ?_); refine qau ?hg (N := 1) ?hd (cs := #[.int .i64 a0_0, .int .i64 a0_1, .string a0_2, .int .i64 a0_3, .int .i64 a0_4]) (t := 45) ?hr ?_; (case hd => rfl); (case hg => rfl); (case hr => first | (go_simp; done) | (go_simp; rfl)); intro gb213 hg w17 hbox hb; have n0_ := Aside0.mk (qah (by repeat (first | (with_reducible first | exact HB.out | apply qad | apply qab | apply qac) | exact HB.out)) hb); have n1_ := Aside0.mk (hbox); have n2_ := Aside0.mk ((by rw [hg]; exact (qaj (by repeat (first | (with_reducible first | exact HB.out | apply qad | apply qab | apply qac) | exact HB.out))) : w.heap.size ≤ gb213)); have n3_ := Aside0.mk ((by rw [hg]; exact (qaj (by repeat (first | (with_reducible first | exact HB.out | apply qad | apply qab | apply qac) | exact HB.out))) : w.heap.size ≤ gb213)); clear HB; have HB := n0_; have BK213 := n1_; have GW213 := n2_; have GE213 := n3_; clear n0_ n1_ n2_ n3_; clear hb hbox hg; obtain ⟨G18_0, G18_1, G18_2, G18_3, G18_4, F18_0, F18_1, F18_2, F18_3, F18_4⟩ := shr5 BK213.out))
   go_loopg [3, 4] k (fun kq v3 v4 w' => ∃ (x3_1 : ByteArray) (x4_1 : Int), v3 = .string x3_1 ∧ v4 = .int .i64 x4_1 ∧ Aside0 (rah.l0 kq x3_1 x4_1 a0_0 a0_1 a0_2 a0_3 a0_4 = some r) ∧ Aside0 (kq ≤ k) ∧ Aside0 (w'.heap[gb213]? = some (.cells #[.int .i64 a0_0, .int .i64 a0_1, .string a0_2, .int .i64 a0_3, .int .i64 a0_4] 45 (0, 0))) ∧ Aside0 (Below w.heap.size w w'))
   case atStart => exact ⟨((⟨#[34]⟩ : ByteArray)), (0), (by first | rfl | (simp; done) | (simp [*]; done)), (by first | rfl | (simp; done) | (simp [*]; done)), H', ⟨Nat.le_refl _⟩, ⟨by (with_reducible repeat (first | refine qag ?_ _ | refine qai ?_ | refine blk_alloc ?_ _)); exact BK213.out⟩, ⟨by repeat (first | (with_reducible first | exact HB.out | apply qad | apply qab | apply qac | refine qaf ?_ GE213.out) | exact HB.out)⟩⟩
   case round =>
    clear H'
    try clear c1
    try clear c2
    try clear c2b0
    try clear c2b1
    try clear p2
    try clear c4
    try clear c7
    try clear c7b0
    try clear c7b1
    try clear c9
    try clear c9b0
    try clear c9b1
    try clear c9b2
    try clear c11
    try clear c11b0
    try clear c11b1
    try clear c11b2
    try clear G13_0 G13_1 G13_2 G13_3 G13_4 F13_0 F13_1 F13_2 F13_3 F13_4
    try clear G18_0 G18_1 G18_2 G18_3 G18_4 F18_0 F18_1 F18_2 F18_3 F18_4
    try clear G5_0 G5_1 G5_2 G5_3 G5_4 F5_0 F5_1 F5_2 F5_3 F5_4
    obtain ⟨x3_1, x4_1, rfl, rfl, HA, HK1, BK213, HB⟩ := hrel
    cases gk with
    | zero => exact absurd HA.out (by simp [rah.l0])
    | succ k1 =>
     have H := HA.out
     clear HA
     simp only [rah.l0] at H
     by_cases c19 : x4_1 < (a0_2.size : Int)
     ·
      rw [if_pos c19] at H
      have c19b0 : decide (x4_1 < (a0_2.size : Int)) = true := decide_eq_true c19
      clear c19
      by_cases c20 : 0 ≤ x4_1
      ·
       rw [if_pos c20] at H
       have c20b0 : decide (0 ≤ x4_1) = true := decide_eq_true c20
       clear c20
       replace H := Option.bind_eq_some_iff.mp H
       obtain ⟨t217, A220, H⟩ := H
       replace H : (if t217 = true then (if x4_1 ≤ (wrap64 (x4_1 + 1)) then (if (wrap64 (x4_1 + 1)) ≤ (a0_2.size : Int) then (if x3_1.size + (a0_2.extract (x4_1 : Int).toNat ((wrap64 (x4_1 + 1)) : Int).toNat).size ≤ 9223372036854775807 then (rah.l0 k1 (x3_1 ++ (a0_2.extract (x4_1 : Int).toNat ((wrap64 (x4_1 + 1)) : Int).toNat)) (wrap64 (x4_1 + 1)) a0_0 a0_1 a0_2 a0_3 a0_4) else (none)) else (none)) else (none)) else (if x3_1.size + 1 ≤ 9223372036854775807 then ((rar.f (wrap64 (Int.tdiv (wrap64 (bt a0_2 x4_1)) 16))).bind fun t218 => (if (x3_1 ++ (⟨#[92]⟩ : ByteArray)).size + t218.size ≤ 9223372036854775807 then ((rar.f (Int.tmod (wrap64 (bt a0_2 x4_1)) 16)).bind fun t219 => (if ((x3_1 ++ (⟨#[92]⟩ : ByteArray)) ++ t218).size + t219.size ≤ 9223372036854775807 then (rah.l0 k1 (((x3_1 ++ (⟨#[92]⟩ : ByteArray)) ++ t218) ++ t219) (wrap64 (x4_1 + 1)) a0_0 a0_1 a0_2 a0_3 a0_4) else (none))) else (none))) else (none))) = some r := H
       have A22 := Aside0.mk A220
       clear A220
       by_cases c23 : t217 = true
       ·
        subst c23
        have H1 : (if x4_1 ≤ (wrap64 (x4_1 + 1)) then (if (wrap64 (x4_1 + 1)) ≤ (a0_2.size : Int) then (if x3_1.size + (a0_2.extract (x4_1 : Int).toNat ((wrap64 (x4_1 + 1)) : Int).toNat).size ≤ 9223372036854775807 then (rah.l0 k1 (x3_1 ++ (a0_2.extract (x4_1 : Int).toNat ((wrap64 (x4_1 + 1)) : Int).toNat)) (wrap64 (x4_1 + 1)) a0_0 a0_1 a0_2 a0_3 a0_4) else (none)) else (none)) else (none)) = some r := by rw [if_pos rfl] at H; exact H
        clear H
        have H := H1
        clear H1
        have c24b0 := eq_true (of_decide_eq_true (by first | (with_reducible assumption) | assumption) : 0 ≤ x4_1)
        by_cases c25 : x4_1 ≤ (wrap64 (x4_1 + 1))
        ·
         rw [if_pos c25] at H
         have c25b0 := eq_true c25
         have c25b1 : decide (x4_1 ≤ (wrap64 (x4_1 + 1))) = true := decide_eq_true c25
         by_cases c26 : (wrap64 (x4_1 + 1)) ≤ (a0_2.size : Int)
         ·
          rw [if_pos c26] at H
          have c26b0 := eq_true c26
          have c26b1 : decide ((wrap64 (x4_1 + 1)) ≤ (a0_2.size : Int)) = true := decide_eq_true c26
          by_cases c27 : x3_1.size + (a0_2.extract (x4_1 : Int).toNat ((wrap64 (x4_1 + 1)) : Int).toNat).size ≤ 9223372036854775807
          ·
           rw [if_pos c27] at H
           have c27b0 := eq_true c27
           have c27b1 : decide (x3_1.size + (a0_2.extract (x4_1 : Int).toNat ((wrap64 (x4_1 + 1)) : Int).toNat).size ≤ 9223372036854775807) = true := decide_eq_true c27
           try have c27b2 : (9223372036854775807 < x3_1.size + (a0_2.extract (x4_1 : Int).toNat ((wrap64 (x4_1 + 1)) : Int).toNat).size) = False := eq_false (Nat.not_lt.2 c27)
           have H' := Aside0.mk H
           clear H
           obtain ⟨G28_0, G28_1, G28_2, G28_3, G28_4, F28_0, F28_1, F28_2, F28_3, F28_4⟩ := shr5 BK213.out
           have p21 : 0 ≤ (x4_1 : Int) := of_decide_eq_true (by first | (with_reducible assumption) | assumption)
           have q21 : x4_1 < (a0_2.size : Int) := of_decide_eq_true (by first | (with_reducible assumption) | assumption)
           have hx21 := bt_at a0_2 x4_1
           replace p21 := eq_true p21
           replace q21 := eq_true q21
           go_wp2_with (first | ((with_reducible refine qat (f := 118) rfl ?_); refine goesL_ (some 35) rfl rfl Tryz.func118 (by kernel_rfl) rfl #[.int .u8 (bt a0_2 x4_1)] rfl (by (try simp only [List.map_toArray, List.map_cons, List.map_nil]); first | done | rfl | (simp only [List.length_drop, List.length_take]; rfl)) ?_; (with_reducible refine (rbd.calls (bt a0_2 x4_1) true _ A22.out).mono ?_); rintro e w' ⟨rfl, ⟨nd, rfl⟩⟩; refine ⟨_, rfl, ?_⟩))
           go_roundg k1
           case measure => have := HK1.out; omega
           case rel => exact ⟨(x3_1 ++ (a0_2.extract (x4_1 : Int).toNat ((wrap64 (x4_1 + 1)) : Int).toNat)), (wrap64 (x4_1 + 1)), (by first | rfl | (simp; done) | (simp [*]; done)), (by first | rfl | (simp; done) | (simp [*]; done)), H', ⟨by have := HK1.out; omega⟩, ⟨by (with_reducible repeat (first | refine qag ?_ _ | refine qai ?_ | refine blk_alloc ?_ _)); exact BK213.out⟩, ⟨by repeat (first | (with_reducible first | exact HB.out | apply qad | apply qab | apply qac | refine qaf ?_ GE213.out) | exact HB.out)⟩⟩
          ·
           rw [if_neg c27] at H
           exact absurd H (by simp)
         ·
          rw [if_neg c26] at H
          exact absurd H (by simp)
        ·
         rw [if_neg c25] at H
         exact absurd H (by simp)
       ·
        replace c23 := Bool.eq_false_iff.mpr c23
        subst c23
        have H1 : (if x3_1.size + 1 ≤ 9223372036854775807 then ((rar.f (wrap64 (Int.tdiv (wrap64 (bt a0_2 x4_1)) 16))).bind fun t218 => (if (x3_1 ++ (⟨#[92]⟩ : ByteArray)).size + t218.size ≤ 9223372036854775807 then ((rar.f (Int.tmod (wrap64 (bt a0_2 x4_1)) 16)).bind fun t219 => (if ((x3_1 ++ (⟨#[92]⟩ : ByteArray)) ++ t218).size + t219.size ≤ 9223372036854775807 then (rah.l0 k1 (((x3_1 ++ (⟨#[92]⟩ : ByteArray)) ++ t218) ++ t219) (wrap64 (x4_1 + 1)) a0_0 a0_1 a0_2 a0_3 a0_4) else (none))) else (none))) else (none)) = some r := by rw [if_neg (show ¬ (false = true) by decide)] at H; exact H
        clear H
        have H := H1
        clear H1
        by_cases c29 : x3_1.size + 1 ≤ 9223372036854775807
        ·
         rw [if_pos c29] at H
         have c29b0 := eq_true c29
         have c29b1 : decide (x3_1.size + 1 ≤ 9223372036854775807) = true := decide_eq_true c29
         try have c29b2 : (9223372036854775807 < x3_1.size + 1) = False := eq_false (Nat.not_lt.2 c29)
         replace H := Option.bind_eq_some_iff.mp H
         obtain ⟨t218, A310, H⟩ := H
         replace H : (if (x3_1 ++ (⟨#[92]⟩ : ByteArray)).size + t218.size ≤ 9223372036854775807 then ((rar.f (Int.tmod (wrap64 (bt a0_2 x4_1)) 16)).bind fun t219 => (if ((x3_1 ++ (⟨#[92]⟩ : ByteArray)) ++ t218).size + t219.size ≤ 9223372036854775807 then (rah.l0 k1 (((x3_1 ++ (⟨#[92]⟩ : ByteArray)) ++ t218) ++ t219) (wrap64 (x4_1 + 1)) a0_0 a0_1 a0_2 a0_3 a0_4) else (none))) else (none)) = some r := H
         have A31 := Aside0.mk A310
         clear A310
         by_cases c32 : (x3_1 ++ (⟨#[92]⟩ : ByteArray)).size + t218.size ≤ 9223372036854775807
         ·
          rw [if_pos c32] at H
          have c32b0 := eq_true c32
          have c32b1 : decide ((x3_1 ++ (⟨#[92]⟩ : ByteArray)).size + t218.size ≤ 9223372036854775807) = true := decide_eq_true c32
          try have c32b2 : (9223372036854775807 < (x3_1 ++ (⟨#[92]⟩ : ByteArray)).size + t218.size) = False := eq_false (Nat.not_lt.2 c32)
          try have c32b3 := c32b2
          try simp only [ByteArray.size_append, show (ByteArray.mk #[92]).size = 1 from rfl] at c32b3
          replace H := Option.bind_eq_some_iff.mp H
          obtain ⟨t219, A340, H⟩ := H
          replace H : (if ((x3_1 ++ (⟨#[92]⟩ : ByteArray)) ++ t218).size + t219.size ≤ 9223372036854775807 then (rah.l0 k1 (((x3_1 ++ (⟨#[92]⟩ : ByteArray)) ++ t218) ++ t219) (wrap64 (x4_1 + 1)) a0_0 a0_1 a0_2 a0_3 a0_4) else (none)) = some r := H
          have A34 := Aside0.mk A340
          clear A340
          by_cases c35 : ((x3_1 ++ (⟨#[92]⟩ : ByteArray)) ++ t218).size + t219.size ≤ 9223372036854775807
          ·
           rw [if_pos c35] at H
           have c35b0 := eq_true c35
           have c35b1 : decide (((x3_1 ++ (⟨#[92]⟩ : ByteArray)) ++ t218).size + t219.size ≤ 9223372036854775807) = true := decide_eq_true c35
           try have c35b2 : (9223372036854775807 < ((x3_1 ++ (⟨#[92]⟩ : ByteArray)) ++ t218).size + t219.size) = False := eq_false (Nat.not_lt.2 c35)
           try have c35b3 := c35b2
           try simp only [ByteArray.size_append, show (ByteArray.mk #[92]).size = 1 from rfl] at c35b3
           have H' := Aside0.mk H
           clear H
           obtain ⟨G36_0, G36_1, G36_2, G36_3, G36_4, F36_0, F36_1, F36_2, F36_3, F36_4⟩ := shr5 BK213.out
           have p21 : 0 ≤ (x4_1 : Int) := of_decide_eq_true (by first | (with_reducible assumption) | assumption)
           have q21 : x4_1 < (a0_2.size : Int) := of_decide_eq_true (by first | (with_reducible assumption) | assumption)
           have hx21 := bt_at a0_2 x4_1
           replace p21 := eq_true p21
           replace q21 := eq_true q21
           try go_wp2_with (first | ((with_reducible refine qat (f := 118) rfl ?_); refine goesL_ (some 35) rfl rfl Tryz.func118 (by kernel_rfl) rfl #[.int .u8 (bt a0_2 x4_1)] rfl (by (try simp only [List.map_toArray, List.map_cons, List.map_nil]); first | done | rfl | (simp only [List.length_drop, List.length_take]; rfl)) ?_; (with_reducible refine (rbd.calls (bt a0_2 x4_1) false _ A22.out).mono ?_); rintro e w' ⟨rfl, ⟨nd, rfl⟩⟩; refine ⟨_, rfl, ?_⟩))
           (try (rw [drewN_self wr]; generalize hq_ : World.drewN wr _ = wr; have n0_ : Aside0 (wr.heap[gb213]? = some (.cells #[.int .i64 a0_0, .int .i64 a0_1, .string a0_2, .int .i64 a0_3, .int .i64 a0_4] 45 (0, 0))) := ⟨by rw [← hq_]; exact (by (with_reducible repeat (first | refine qag ?_ _ | refine qai ?_ | refine blk_alloc ?_ _)); exact BK213.out)⟩; have n1_ : Aside0 (Below w.heap.size w wr) := ⟨by rw [← hq_]; exact (by repeat (first | (with_reducible first | exact HB.out | apply qad | apply qab | apply qac | refine qaf ?_ GE213.out) | exact HB.out))⟩; clear BK213 HB hq_; have BK213 := n0_; have HB := n1_; clear n0_ n1_))
           have n0_ := Aside0.mk (qai BK213.out)
           have n1_ := Aside0.mk (qac HB.out)
           clear BK213
           clear HB
           have BK213 := n0_
           have HB := n1_
           clear n0_ n1_
           have p30 : 0 ≤ (x4_1 : Int) := of_decide_eq_true (by first | (with_reducible assumption) | assumption)
           have q30 : x4_1 < (a0_2.size : Int) := of_decide_eq_true (by first | (with_reducible assumption) | assumption)
           have hx30 := bt_at a0_2 x4_1
           replace p30 := eq_true p30
           replace q30 := eq_true q30
           have p33 : 0 ≤ (x4_1 : Int) := of_decide_eq_true (by first | (with_reducible assumption) | assumption)
           have q33 : x4_1 < (a0_2.size : Int) := of_decide_eq_true (by first | (with_reducible assumption) | assumption)
           have hx33 := bt_at a0_2 x4_1
           replace p33 := eq_true p33
           replace q33 := eq_true q33
           refine start_ (n := 19) (S := fun w' => w'.cell? ⟨gb213, 0, none⟩ = some (.int .i64 a0_0) ∧ w'.cell? ⟨gb213, 1, none⟩ = some (.int .i64 a0_1) ∧ w'.cell? ⟨gb213, 2, none⟩ = some (.string a0_2) ∧ w'.cell? ⟨gb213, 3, none⟩ = some (.int .i64 a0_3) ∧ w'.cell? ⟨gb213, 4, none⟩ = some (.int .i64 a0_4)) (ds := []) #[false, false, false, false, false, false, false, false, false, false, false, false, false, false, false, false, false, false, false] (by kernel_rfl) rfl rfl ⟨(qak BK213.out 0).trans rfl, (qak BK213.out 1).trans rfl, (qak BK213.out 2).trans rfl, (qak BK213.out 3).trans rfl, (qak BK213.out 4).trans rfl⟩ (fun hHeld => ?_); refine with_tabW rah.tab12 rah.bits12 (fun HT_ HW_ => ?_)
           generalize wr.drew = w37 at BK213 HB hHeld ⊢
           refine qax (i := 0) (N := some 44) (v := ?_) (a' := ?_) #[true, false, false, false, false, false, false, false, false, false, false, false, false, false, false, false, false, false, false] rfl rfl (qar HT_.out (by kernel_rfl)) (fun _ _ _ h => h) (Or.inl ⟨by rfl, ?_⟩) ?_ ?_
           rotate_left
           ·
            intro w'
            go_simp
            with_reducible rfl
           rotate_left
           ·
            simp only [Act.put, sIa, sIz, sIs, qap, i32_w]
            rfl
           refine qax (i := 1) (N := some 45) (v := ?_) (a' := ?_) #[true, true, false, false, false, false, false, false, false, false, false, false, false, false, false, false, false, false, false] rfl rfl (qar HT_.out (by kernel_rfl)) (fun _ _ _ h => h) (Or.inl ⟨by rfl, ?_⟩) ?_ ?_
           rotate_left
           ·
            intro w'
            go_simp
            with_reducible rfl
           rotate_left
           ·
            simp only [Act.put, sIa, sIz, sIs, qap, i32_w]
            rfl
           refine qax (i := 2) (N := some 46) (v := ?_) (a' := ?_) #[true, true, true, false, false, false, false, false, false, false, false, false, false, false, false, false, false, false, false] rfl rfl (qar HT_.out (by kernel_rfl)) (fun _ _ _ h => h) (Or.inl ⟨by rfl, ?_⟩) ?_ ?_
           rotate_left
           ·
            intro w'
            go_simp
            with_reducible rfl
           rotate_left
           ·
            simp only [Act.put, sIa, sIz, sIs, qap, i32_w]
            rfl
           refine qax (i := 4) (N := some 48) (v := ?_) (a' := ?_) #[true, true, true, false, true, false, false, false, false, false, false, false, false, false, false, false, false, false, false] rfl rfl (qar HT_.out (by kernel_rfl)) (fun _ _ _ h => h) (Or.inl ⟨by rfl, ?_⟩) ?_ ?_
           rotate_left
           ·
            intro w'
            go_simp
            with_reducible rfl
           rotate_left
           ·
            simp only [Act.put, sIa, sIz, sIs, qap, i32_w]
            rfl
           refine qax (i := 10) (N := some 54) (v := ?_) (a' := ?_) #[true, true, true, false, true, false, false, false, false, false, true, false, false, false, false, false, false, false, false] rfl rfl (qar HT_.out (by kernel_rfl)) (fun _ _ _ h => h) (Or.inl ⟨by rfl, ?_⟩) ?_ ?_
           rotate_left
           ·
            intro w'
            go_simp
            with_reducible rfl
           rotate_left
           ·
            simp only [Act.put, sIa, sIz, sIs, qap, i32_w]
            rfl
           refine qax (i := 12) (N := some 56) (v := ?_) (a' := ?_) #[true, true, true, false, true, false, false, false, false, false, true, false, true, false, false, false, false, false, false] rfl rfl (qar HT_.out (by kernel_rfl)) (fun _ _ _ h => h) (Or.inl ⟨by rfl, ?_⟩) ?_ ?_
           rotate_left
           ·
            intro w'
            go_simp
            with_reducible rfl
           rotate_left
           ·
            simp only [Act.put, sIa, sIz, sIs, qap, i32_w]
            rfl
           refine take_ (i := 3) (N := some 47) (v := ?_) (a' := ?_) #[true, true, true, true, true, false, false, false, false, false, true, false, true, false, false, false, false, false, false] rfl rfl (qbg HT_.out HW_.out (by kernel_rfl)) (fun _ _ _ h => h) (Or.inl ⟨by rfl, ?_⟩) hHeld ?_ ?_
           rotate_left
           ·
            rintro w' ⟨s0, s1, s2, s3, s4⟩
            go_simp
            with_reducible rfl
           rotate_left
           ·
            simp only [Act.put, sIa, sIz, sIs, qap, i32_w]
            rfl
           refine take_ (i := 5) (N := some 49) (v := ?_) (a' := ?_) #[true, true, true, true, true, true, false, false, false, false, true, false, true, false, false, false, false, false, false] rfl rfl (qbg HT_.out HW_.out (by kernel_rfl)) (fun _ _ _ h => h) (Or.inl ⟨by rfl, ?_⟩) hHeld ?_ ?_
           rotate_left
           ·
            rintro w' ⟨s0, s1, s2, s3, s4⟩
            go_simp
            with_reducible rfl
           rotate_left
           ·
            simp only [Act.put, sIa, sIz, sIs, qap, i32_w]
            rfl
           refine qax (i := 6) (N := some 50) (v := ?_) (a' := ?_) #[true, true, true, true, true, true, true, false, false, false, true, false, true, false, false, false, false, false, false] rfl rfl (qar HT_.out (by kernel_rfl)) (fun _ _ _ h => h) (Or.inl ⟨by rfl, ?_⟩) ?_ ?_
           rotate_left
           ·
            intro w'
            go_simp
            with_reducible rfl
           rotate_left
           ·
            simp only [Act.put, sIa, sIz, sIs, qap, i32_w]
            rfl
           refine qax (i := 7) (N := some 51) (v := ?_) (a' := ?_) #[true, true, true, true, true, true, true, true, false, false, true, false, true, false, false, false, false, false, false] rfl rfl (qar HT_.out (by kernel_rfl)) (fun _ _ _ h => h) (Or.inl ⟨by rfl, ?_⟩) ?_ ?_
           rotate_left
           ·
            intro w'
            go_simp
            with_reducible rfl
           rotate_left
           ·
            simp only [Act.put, sIa, sIz, sIs, qap, i32_w]
            rfl
           refine take_ (i := 11) (N := some 55) (v := ?_) (a' := ?_) #[true, true, true, true, true, true, true, true, false, false, true, true, true, false, false, false, false, false, false] rfl rfl (qbg HT_.out HW_.out (by kernel_rfl)) (fun _ _ _ h => h) (Or.inl ⟨by rfl, ?_⟩) hHeld ?_ ?_
           rotate_left
           ·
            rintro w' ⟨s0, s1, s2, s3, s4⟩
            go_simp
            with_reducible rfl
           rotate_left
           ·
            simp only [Act.put, sIa, sIz, sIs, qap, i32_w]
            rfl
           refine take_ (i := 13) (N := some 57) (v := ?_) (a' := ?_) #[true, true, true, true, true, true, true, true, false, false, true, true, true, true, false, false, false, false, false] rfl rfl (qbg HT_.out HW_.out (by kernel_rfl)) (fun _ _ _ h => h) (Or.inl ⟨by rfl, ?_⟩) hHeld ?_ ?_
           rotate_left
           ·
            rintro w' ⟨s0, s1, s2, s3, s4⟩
            go_simp
            with_reducible rfl
           rotate_left
           ·
            simp only [Act.put, sIa, sIz, sIs, qap, i32_w]
            rfl
           refine qax (i := 14) (N := some 58) (v := ?_) (a' := ?_) #[true, true, true, true, true, true, true, true, false, false, true, true, true, true, true, false, false, false, false] rfl rfl (qar HT_.out (by kernel_rfl)) (fun _ _ _ h => h) (Or.inl ⟨by rfl, ?_⟩) ?_ ?_
           rotate_left
           ·
            intro w'
            go_simp
            with_reducible rfl
           rotate_left
           ·
            simp only [Act.put, sIa, sIz, sIs, qap, i32_w]
            rfl
           refine qax (i := 15) (N := some 59) (v := ?_) (a' := ?_) #[true, true, true, true, true, true, true, true, false, false, true, true, true, true, true, true, false, false, false] rfl rfl (qar HT_.out (by kernel_rfl)) (fun _ _ _ h => h) (Or.inl ⟨by rfl, ?_⟩) ?_ ?_
           rotate_left
           ·
            intro w'
            go_simp
            with_reducible rfl
           rotate_left
           ·
            simp only [Act.put, sIa, sIz, sIs, qap, i32_w]
            rfl
           refine one_ (i := 8) (N := some 52) #[true, true, true, true, true, true, true, true, true, false, true, true, true, true, true, true, false, false, false] rfl rfl (one_of HT_.out (by kernel_rfl)) (by decide) (fun K hK => ?_)
           refine goes_ Tryz.func119 (by kernel_rfl) rfl #[.int .i64 (wrap64 (Int.tdiv (wrap64 (bt a0_2 x4_1)) 16))] (by rfl) rfl rfl (by (try simp only [List.map_toArray, List.map_cons, List.map_nil]); first | done | rfl | (simp only [List.length_drop, List.length_take]; rfl)) ?_
           with_reducible refine (rar.calls (wrap64 (Int.tdiv (wrap64 (bt a0_2 x4_1)) 16)) t218 _ A31.out).mono ?_
           rintro e w38 ⟨rfl, hb⟩
           refine ⟨_, rfl, ?_⟩
           have n0_ := Aside0.mk (qan (g := gb213) (o := .cells #[.int .i64 a0_0, .int .i64 a0_1, .string a0_2, .int .i64 a0_3, .int .i64 a0_4] 45 (0, 0)) (by (with_reducible repeat (first | refine qag ?_ _ | refine qai ?_ | refine blk_alloc ?_ _)); exact BK213.out) hb)
           have n1_ := Aside0.mk (qah (by repeat (first | (with_reducible first | exact HB.out | apply qad | apply qab | apply qac | refine qaf ?_ GE213.out) | exact HB.out)) hb)
           clear BK213
           clear HB
           have BK213 := n0_
           have HB := n1_
           clear n0_ n1_
           (try clear hb)
           (try clear hb2)
           (try clear hk)
           (try clear hi)
           refine hK.out _ _ ⟨(qak BK213.out 0).trans rfl, (qak BK213.out 1).trans rfl, (qak BK213.out 2).trans rfl, (qak BK213.out 3).trans rfl, (qak BK213.out 4).trans rfl⟩ (fun hHeld => ?_)
           clear hK K
           refine norm_ (a' := ?_) ?_ ?_
           rotate_left
           ·
            show Act.put _ (some 52) _ = _
            simp only [Act.put, sIa, sIz, sIs, qap, i32_w]
            rfl
           refine qax (i := 9) (N := some 53) (v := ?_) (a' := ?_) #[true, true, true, true, true, true, true, true, true, true, true, true, true, true, true, true, false, false, false] rfl rfl (qar HT_.out (by kernel_rfl)) (fun _ _ _ h => h) (Or.inl ⟨by rfl, ?_⟩) ?_ ?_
           rotate_left
           ·
            intro w'
            go_simp
            with_reducible rfl
           rotate_left
           ·
            simp only [Act.put, sIa, sIz, sIs, qap, i32_w]
            rfl
           refine one_ (i := 16) (N := some 60) #[true, true, true, true, true, true, true, true, true, true, true, true, true, true, true, true, true, false, false] rfl rfl (one_of HT_.out (by kernel_rfl)) (by decide) (fun K hK => ?_)
           refine goes_ Tryz.func119 (by kernel_rfl) rfl #[.int .i64 (Int.tmod (wrap64 (bt a0_2 x4_1)) 16)] (by rfl) rfl rfl (by (try simp only [List.map_toArray, List.map_cons, List.map_nil]); first | done | rfl | (simp only [List.length_drop, List.length_take]; rfl)) ?_
           with_reducible refine (rar.calls (Int.tmod (wrap64 (bt a0_2 x4_1)) 16) t219 _ A34.out).mono ?_
           rintro e w39 ⟨rfl, hb⟩
           refine ⟨_, rfl, ?_⟩
           have n0_ := Aside0.mk (qan (g := gb213) (o := .cells #[.int .i64 a0_0, .int .i64 a0_1, .string a0_2, .int .i64 a0_3, .int .i64 a0_4] 45 (0, 0)) (by (with_reducible repeat (first | refine qag ?_ _ | refine qai ?_ | refine blk_alloc ?_ _)); exact BK213.out) hb)
           have n1_ := Aside0.mk (qah (by repeat (first | (with_reducible first | exact HB.out | apply qad | apply qab | apply qac | refine qaf ?_ GE213.out) | exact HB.out)) hb)
           clear BK213
           clear HB
           have BK213 := n0_
           have HB := n1_
           clear n0_ n1_
           (try clear hb)
           (try clear hb2)
           (try clear hk)
           (try clear hi)
           refine hK.out _ _ ⟨(qak BK213.out 0).trans rfl, (qak BK213.out 1).trans rfl, (qak BK213.out 2).trans rfl, (qak BK213.out 3).trans rfl, (qak BK213.out 4).trans rfl⟩ (fun hHeld => ?_)
           clear hK K
           refine norm_ (a' := ?_) ?_ ?_
           rotate_left
           ·
            show Act.put _ (some 60) _ = _
            simp only [Act.put, sIa, sIz, sIs, qap, i32_w]
            rfl
           refine qax (i := 17) (N := some 61) (v := ?_) (a' := ?_) #[true, true, true, true, true, true, true, true, true, true, true, true, true, true, true, true, true, true, false] rfl rfl (qar HT_.out (by kernel_rfl)) (fun _ _ _ h => h) (Or.inl ⟨by rfl, ?_⟩) ?_ ?_
           rotate_left
           ·
            intro w'
            go_simp
            with_reducible rfl
           rotate_left
           ·
            simp only [Act.put, sIa, sIz, sIs, qap, i32_w]
            rfl
           refine qax (i := 18) (N := some 3) (v := ?_) (a' := ?_) #[true, true, true, true, true, true, true, true, true, true, true, true, true, true, true, true, true, true, true] rfl rfl (qar HT_.out (by kernel_rfl)) (fun _ _ _ h => h) (Or.inl ⟨by rfl, ?_⟩) ?_ ?_
           rotate_left
           ·
            intro w'
            go_simp
            with_reducible rfl
           rotate_left
           ·
            simp only [Act.put, sIa, sIz, sIs, qap, i32_w]
            rfl
           refine done_ (done_of HT_.out (by kernel_rfl)) ?_
           try go_wp2
           go_roundg k1
           case measure => have := HK1.out; omega
           case rel => exact ⟨(((x3_1 ++ (⟨#[92]⟩ : ByteArray)) ++ t218) ++ t219), (wrap64 (x4_1 + 1)), (by first | rfl | (simp; done) | (simp [*]; done)), (by first | rfl | (simp; done) | (simp [*]; done)), H', ⟨by have := HK1.out; omega⟩, ⟨by (with_reducible repeat (first | refine qag ?_ _ | refine qai ?_ | refine blk_alloc ?_ _)); exact BK213.out⟩, ⟨by repeat (first | (with_reducible first | exact HB.out | apply qad | apply qab | apply qac | refine qaf ?_ GE213.out) | exact HB.out)⟩⟩
          ·
           rw [if_neg c35] at H
           exact absurd H (by simp)
         ·
          rw [if_neg c32] at H
          exact absurd H (by simp)
        ·
         rw [if_neg c29] at H
         exact absurd H (by simp)
      ·
       rw [if_neg c20] at H
       exact absurd H (by simp)
     ·
      rw [if_neg c19] at H
      have c19b0 : decide (x4_1 < (a0_2.size : Int)) = false := decide_eq_false c19
      clear c19
      by_cases c40 : x3_1.size + 1 ≤ 9223372036854775807
      ·
       rw [if_pos c40] at H
       have c40b0 := eq_true c40
       have c40b1 : decide (x3_1.size + 1 ≤ 9223372036854775807) = true := decide_eq_true c40
       try have c40b2 : (9223372036854775807 < x3_1.size + 1) = False := eq_false (Nat.not_lt.2 c40)
       obtain rfl := Option.some.inj H
       obtain ⟨G41_0, G41_1, G41_2, G41_3, G41_4, F41_0, F41_1, F41_2, F41_3, F41_4⟩ := shr5 BK213.out
       go_wp2
       go_ret
       exact ⟨by first | rfl | (simp [*] <;> rfl), by repeat (first | (with_reducible first | exact HB.out | apply qad | apply qab | apply qac | refine qaf ?_ GE213.out) | exact HB.out)⟩
      ·
       rw [if_neg c40] at H
       exact absurd H (by simp)
def rao.f (a0 : Int) : Option (ByteArray) := if a0 < 2 then (some (⟨#[]⟩ : ByteArray)) else (if a0 > 29 then (some (⟨#[]⟩ : ByteArray)) else ((some (([(⟨#[97, 100, 100]⟩ : ByteArray), (⟨#[115, 117, 98]⟩ : ByteArray), (⟨#[109, 117, 108]⟩ : ByteArray), (⟨#[100, 105, 118]⟩ : ByteArray), (⟨#[109, 111, 100]⟩ : ByteArray), (⟨#[110, 101, 103]⟩ : ByteArray), (⟨#[108, 101, 115, 115]⟩ : ByteArray), (⟨#[115, 97, 109, 101]⟩ : ByteArray), (⟨#[110, 111, 116]⟩ : ByteArray), (⟨#[105, 102]⟩ : ByteArray), (⟨#[109, 97, 120]⟩ : ByteArray), (⟨#[109, 105, 110]⟩ : ByteArray), (⟨#[99, 97, 116]⟩ : ByteArray), (⟨#[108, 101, 110]⟩ : ByteArray), (⟨#[99, 117, 116]⟩ : ByteArray), (⟨#[119, 111, 114, 100]⟩ : ByteArray), (⟨#[119, 111, 114, 100, 115]⟩ : ByteArray), (⟨#[110, 117, 109]⟩ : ByteArray), (⟨#[116, 101, 120, 116]⟩ : ByteArray), (⟨#[97, 116]⟩ : ByteArray), (⟨#[114, 101]⟩ : ByteArray), (⟨#[105, 109]⟩ : ByteArray), (⟨#[110, 111, 114, 109]⟩ : ByteArray), (⟨#[99, 111, 110, 106]⟩ : ByteArray), (⟨#[101, 109, 105, 116]⟩ : ByteArray), (⟨#[116, 104, 101, 110]⟩ : ByteArray), (⟨#[101, 97, 99, 104]⟩ : ByteArray), (⟨#[108, 101, 116]⟩ : ByteArray)] : List ByteArray) : List ByteArray)).bind fun y108 => (if 0 ≤ (wrap64 (a0 - 2)) then (if (wrap64 (a0 - 2)) < (y108.length : Int) then (some (rdOf ByteArray.empty y108 (wrap64 (a0 - 2)))) else (none)) else (none))))
set_option maxHeartbeats 8000000 in
set_option maxRecDepth 100000 in
theorem rao.calls (a0 : Int) (r : ByteArray) (w : World) (h : rao.f a0 = some r) :
  Calls Tryz.prog 75 #[.int .i64 a0] w fun e w' => e = .returned (.string r) ∧ Below w.heap.size w w' := by
 have HB := Aside0.mk (Below.refl w.heap.size w)
 have H : (if a0 < 2 then (some (⟨#[]⟩ : ByteArray)) else (if a0 > 29 then (some (⟨#[]⟩ : ByteArray)) else ((some (([(⟨#[97, 100, 100]⟩ : ByteArray), (⟨#[115, 117, 98]⟩ : ByteArray), (⟨#[109, 117, 108]⟩ : ByteArray), (⟨#[100, 105, 118]⟩ : ByteArray), (⟨#[109, 111, 100]⟩ : ByteArray), (⟨#[110, 101, 103]⟩ : ByteArray), (⟨#[108, 101, 115, 115]⟩ : ByteArray), (⟨#[115, 97, 109, 101]⟩ : ByteArray), (⟨#[110, 111, 116]⟩ : ByteArray), (⟨#[105, 102]⟩ : ByteArray), (⟨#[109, 97, 120]⟩ : ByteArray), (⟨#[109, 105, 110]⟩ : ByteArray), (⟨#[99, 97, 116]⟩ : ByteArray), (⟨#[108, 101, 110]⟩ : ByteArray), (⟨#[99, 117, 116]⟩ : ByteArray), (⟨#[119, 111, 114, 100]⟩ : ByteArray), (⟨#[119, 111, 114, 100, 115]⟩ : ByteArray), (⟨#[110, 117, 109]⟩ : ByteArray), (⟨#[116, 101, 120, 116]⟩ : ByteArray), (⟨#[97, 116]⟩ : ByteArray), (⟨#[114, 101]⟩ : ByteArray), (⟨#[105, 109]⟩ : ByteArray), (⟨#[110, 111, 114, 109]⟩ : ByteArray), (⟨#[99, 111, 110, 106]⟩ : ByteArray), (⟨#[101, 109, 105, 116]⟩ : ByteArray), (⟨#[116, 104, 101, 110]⟩ : ByteArray), (⟨#[101, 97, 99, 104]⟩ : ByteArray), (⟨#[108, 101, 116]⟩ : ByteArray)] : List ByteArray) : List ByteArray)).bind fun y108 => (if 0 ≤ (wrap64 (a0 - 2)) then (if (wrap64 (a0 - 2)) < (y108.length : Int) then (some (rdOf ByteArray.empty y108 (wrap64 (a0 - 2)))) else (none)) else (none))))) = some r := h
 clear h
 by_cases c2 : a0 < 2
 ·
  rw [if_pos c2] at H
  have c2b0 : decide (a0 < 2) = true := decide_eq_true c2
  clear c2
  obtain rfl := Option.some.inj H
  go_enter Tryz.func75, Tryz.ntmps75
  go_wp2
  go_ret
  exact ⟨by first | rfl | (simp [*] <;> rfl), by repeat (first | (with_reducible first | exact HB.out | apply qad | apply qab | apply qac) | exact HB.out)⟩
 ·
  rw [if_neg c2] at H
  have c2b0 : decide (a0 < 2) = false := decide_eq_false c2
  clear c2
  by_cases c3 : a0 > 29
  ·
   rw [if_pos c3] at H
   have c3b0 : decide (29 < a0) = true := decide_eq_true c3
   clear c3
   obtain rfl := Option.some.inj H
   go_enter Tryz.func75, Tryz.ntmps75
   go_wp2
   go_ret
   exact ⟨by first | rfl | (simp [*] <;> rfl), by repeat (first | (with_reducible first | exact HB.out | apply qad | apply qab | apply qac) | exact HB.out)⟩
  ·
   rw [if_neg c3] at H
   have c3b0 : decide (29 < a0) = false := decide_eq_false c3
   clear c3
   obtain ⟨y108, hy108⟩ : ∃ y_ : List ByteArray, y_ = (([(⟨#[97, 100, 100]⟩ : ByteArray), (⟨#[115, 117, 98]⟩ : ByteArray), (⟨#[109, 117, 108]⟩ : ByteArray), (⟨#[100, 105, 118]⟩ : ByteArray), (⟨#[109, 111, 100]⟩ : ByteArray), (⟨#[110, 101, 103]⟩ : ByteArray), (⟨#[108, 101, 115, 115]⟩ : ByteArray), (⟨#[115, 97, 109, 101]⟩ : ByteArray), (⟨#[110, 111, 116]⟩ : ByteArray), (⟨#[105, 102]⟩ : ByteArray), (⟨#[109, 97, 120]⟩ : ByteArray), (⟨#[109, 105, 110]⟩ : ByteArray), (⟨#[99, 97, 116]⟩ : ByteArray), (⟨#[108, 101, 110]⟩ : ByteArray), (⟨#[99, 117, 116]⟩ : ByteArray), (⟨#[119, 111, 114, 100]⟩ : ByteArray), (⟨#[119, 111, 114, 100, 115]⟩ : ByteArray), (⟨#[110, 117, 109]⟩ : ByteArray), (⟨#[116, 101, 120, 116]⟩ : ByteArray), (⟨#[97, 116]⟩ : ByteArray), (⟨#[114, 101]⟩ : ByteArray), (⟨#[105, 109]⟩ : ByteArray), (⟨#[110, 111, 114, 109]⟩ : ByteArray), (⟨#[99, 111, 110, 106]⟩ : ByteArray), (⟨#[101, 109, 105, 116]⟩ : ByteArray), (⟨#[116, 104, 101, 110]⟩ : ByteArray), (⟨#[101, 97, 99, 104]⟩ : ByteArray), (⟨#[108, 101, 116]⟩ : ByteArray)] : List ByteArray)) := ⟨_, rfl⟩
   replace H : (if 0 ≤ (wrap64 (a0 - 2)) then (if (wrap64 (a0 - 2)) < (y108.length : Int) then (some (rdOf ByteArray.empty y108 (wrap64 (a0 - 2)))) else (none)) else (none)) = some r := by first | (rw [hy108]; with_reducible exact H) | (have H2_ := (Option.bind_some _ _).symm.trans H; rw [hy108]; with_reducible exact H2_) | (have H2_ := (Option.bind_some _ _).symm.trans H; with_reducible exact H2_) | with_reducible exact H | (rw [hy108]; exact H) | exact H
   have Ny108 := Aside0.mk hy108
   clear hy108
   obtain ⟨ji4, hji4⟩ : ∃ j_ : Int, (wrap64 (a0 - 2)) = j_ := ⟨_, rfl⟩
   replace H : (if 0 ≤ (ji4) then (if (ji4) < (y108.length : Int) then (some (rdOf ByteArray.empty y108 (ji4))) else (none)) else (none)) = some r := by first | (rw [hji4] at H; exact H) | (simp only [hji4] at H ⊢; exact H)
   have hji4w : (IntKind.i64.wrap (a0 - 2)) = ji4 := (qap _).trans hji4
   by_cases c5 : 0 ≤ (ji4)
   ·
    rw [if_pos c5] at H
    have c5b0 : decide (0 ≤ (ji4)) = true := decide_eq_true c5
    clear c5
    by_cases c6 : (ji4) < (y108.length : Int)
    ·
     rw [if_pos c6] at H
     have c6b0 : decide ((ji4) < (y108.length : Int)) = true := decide_eq_true c6
     clear c6
     obtain rfl := Option.some.inj H
     go_enter Tryz.func75, Tryz.ntmps75
     go_wp2_with (first | ((with_reducible refine qav (N := 9) rfl ?_); refine Kd.R_lit Kd.string _ 9 ?hg (N := 9) ?hd (xs := ([(⟨#[97, 100, 100]⟩ : ByteArray), (⟨#[115, 117, 98]⟩ : ByteArray), (⟨#[109, 117, 108]⟩ : ByteArray), (⟨#[100, 105, 118]⟩ : ByteArray), (⟨#[109, 111, 100]⟩ : ByteArray), (⟨#[110, 101, 103]⟩ : ByteArray), (⟨#[108, 101, 115, 115]⟩ : ByteArray), (⟨#[115, 97, 109, 101]⟩ : ByteArray), (⟨#[110, 111, 116]⟩ : ByteArray), (⟨#[105, 102]⟩ : ByteArray), (⟨#[109, 97, 120]⟩ : ByteArray), (⟨#[109, 105, 110]⟩ : ByteArray), (⟨#[99, 97, 116]⟩ : ByteArray), (⟨#[108, 101, 110]⟩ : ByteArray), (⟨#[99, 117, 116]⟩ : ByteArray), (⟨#[119, 111, 114, 100]⟩ : ByteArray), (⟨#[119, 111, 114, 100, 115]⟩ : ByteArray), (⟨#[110, 117, 109]⟩ : ByteArray), (⟨#[116, 101, 120, 116]⟩ : ByteArray), (⟨#[97, 116]⟩ : ByteArray), (⟨#[114, 101]⟩ : ByteArray), (⟨#[105, 109]⟩ : ByteArray), (⟨#[110, 111, 114, 109]⟩ : ByteArray), (⟨#[99, 111, 110, 106]⟩ : ByteArray), (⟨#[101, 109, 105, 116]⟩ : ByteArray), (⟨#[116, 104, 101, 110]⟩ : ByteArray), (⟨#[101, 97, 99, 104]⟩ : ByteArray), (⟨#[108, 101, 116]⟩ : ByteArray)] : List ByteArray)) (inner := [.string (⟨#[97, 100, 100]⟩ : ByteArray), .string (⟨#[115, 117, 98]⟩ : ByteArray), .string (⟨#[109, 117, 108]⟩ : ByteArray), .string (⟨#[100, 105, 118]⟩ : ByteArray), .string (⟨#[109, 111, 100]⟩ : ByteArray), .string (⟨#[110, 101, 103]⟩ : ByteArray), .string (⟨#[108, 101, 115, 115]⟩ : ByteArray), .string (⟨#[115, 97, 109, 101]⟩ : ByteArray), .string (⟨#[110, 111, 116]⟩ : ByteArray), .string (⟨#[105, 102]⟩ : ByteArray), .string (⟨#[109, 97, 120]⟩ : ByteArray), .string (⟨#[109, 105, 110]⟩ : ByteArray), .string (⟨#[99, 97, 116]⟩ : ByteArray), .string (⟨#[108, 101, 110]⟩ : ByteArray), .string (⟨#[99, 117, 116]⟩ : ByteArray), .string (⟨#[119, 111, 114, 100]⟩ : ByteArray), .string (⟨#[119, 111, 114, 100, 115]⟩ : ByteArray), .string (⟨#[110, 117, 109]⟩ : ByteArray), .string (⟨#[116, 101, 120, 116]⟩ : ByteArray), .string (⟨#[97, 116]⟩ : ByteArray), .string (⟨#[114, 101]⟩ : ByteArray), .string (⟨#[105, 109]⟩ : ByteArray), .string (⟨#[110, 111, 114, 109]⟩ : ByteArray), .string (⟨#[99, 111, 110, 106]⟩ : ByteArray), .string (⟨#[101, 109, 105, 116]⟩ : ByteArray), .string (⟨#[116, 104, 101, 110]⟩ : ByteArray), .string (⟨#[101, 97, 99, 104]⟩ : ByteArray), .string (⟨#[108, 101, 116]⟩ : ByteArray)]) (ok := fun _ => True) (okp := fun _ => True) ?hr ?hp (fun _ hk => hk) trivial (Below.refl _ _) (Nat.le_refl _) (by simp) ?_; (case hd => rfl); (case hg => rfl); (case hr => first | (go_simp; done) | (go_simp; rfl)); (case hp => exact (Reps.one (show Kd.M Kd.string _ _ _ (⟨#[97, 100, 100]⟩ : ByteArray) [.string (⟨#[97, 100, 100]⟩ : ByteArray)] from rfl) (Reps.one (show Kd.M Kd.string _ _ _ (⟨#[115, 117, 98]⟩ : ByteArray) [.string (⟨#[115, 117, 98]⟩ : ByteArray)] from rfl) (Reps.one (show Kd.M Kd.string _ _ _ (⟨#[109, 117, 108]⟩ : ByteArray) [.string (⟨#[109, 117, 108]⟩ : ByteArray)] from rfl) (Reps.one (show Kd.M Kd.string _ _ _ (⟨#[100, 105, 118]⟩ : ByteArray) [.string (⟨#[100, 105, 118]⟩ : ByteArray)] from rfl) (Reps.one (show Kd.M Kd.string _ _ _ (⟨#[109, 111, 100]⟩ : ByteArray) [.string (⟨#[109, 111, 100]⟩ : ByteArray)] from rfl) (Reps.one (show Kd.M Kd.string _ _ _ (⟨#[110, 101, 103]⟩ : ByteArray) [.string (⟨#[110, 101, 103]⟩ : ByteArray)] from rfl) (Reps.one (show Kd.M Kd.string _ _ _ (⟨#[108, 101, 115, 115]⟩ : ByteArray) [.string (⟨#[108, 101, 115, 115]⟩ : ByteArray)] from rfl) (Reps.one (show Kd.M Kd.string _ _ _ (⟨#[115, 97, 109, 101]⟩ : ByteArray) [.string (⟨#[115, 97, 109, 101]⟩ : ByteArray)] from rfl) (Reps.one (show Kd.M Kd.string _ _ _ (⟨#[110, 111, 116]⟩ : ByteArray) [.string (⟨#[110, 111, 116]⟩ : ByteArray)] from rfl) (Reps.one (show Kd.M Kd.string _ _ _ (⟨#[105, 102]⟩ : ByteArray) [.string (⟨#[105, 102]⟩ : ByteArray)] from rfl) (Reps.one (show Kd.M Kd.string _ _ _ (⟨#[109, 97, 120]⟩ : ByteArray) [.string (⟨#[109, 97, 120]⟩ : ByteArray)] from rfl) (Reps.one (show Kd.M Kd.string _ _ _ (⟨#[109, 105, 110]⟩ : ByteArray) [.string (⟨#[109, 105, 110]⟩ : ByteArray)] from rfl) (Reps.one (show Kd.M Kd.string _ _ _ (⟨#[99, 97, 116]⟩ : ByteArray) [.string (⟨#[99, 97, 116]⟩ : ByteArray)] from rfl) (Reps.one (show Kd.M Kd.string _ _ _ (⟨#[108, 101, 110]⟩ : ByteArray) [.string (⟨#[108, 101, 110]⟩ : ByteArray)] from rfl) (Reps.one (show Kd.M Kd.string _ _ _ (⟨#[99, 117, 116]⟩ : ByteArray) [.string (⟨#[99, 117, 116]⟩ : ByteArray)] from rfl) (Reps.one (show Kd.M Kd.string _ _ _ (⟨#[119, 111, 114, 100]⟩ : ByteArray) [.string (⟨#[119, 111, 114, 100]⟩ : ByteArray)] from rfl) (Reps.one (show Kd.M Kd.string _ _ _ (⟨#[119, 111, 114, 100, 115]⟩ : ByteArray) [.string (⟨#[119, 111, 114, 100, 115]⟩ : ByteArray)] from rfl) (Reps.one (show Kd.M Kd.string _ _ _ (⟨#[110, 117, 109]⟩ : ByteArray) [.string (⟨#[110, 117, 109]⟩ : ByteArray)] from rfl) (Reps.one (show Kd.M Kd.string _ _ _ (⟨#[116, 101, 120, 116]⟩ : ByteArray) [.string (⟨#[116, 101, 120, 116]⟩ : ByteArray)] from rfl) (Reps.one (show Kd.M Kd.string _ _ _ (⟨#[97, 116]⟩ : ByteArray) [.string (⟨#[97, 116]⟩ : ByteArray)] from rfl) (Reps.one (show Kd.M Kd.string _ _ _ (⟨#[114, 101]⟩ : ByteArray) [.string (⟨#[114, 101]⟩ : ByteArray)] from rfl) (Reps.one (show Kd.M Kd.string _ _ _ (⟨#[105, 109]⟩ : ByteArray) [.string (⟨#[105, 109]⟩ : ByteArray)] from rfl) (Reps.one (show Kd.M Kd.string _ _ _ (⟨#[110, 111, 114, 109]⟩ : ByteArray) [.string (⟨#[110, 111, 114, 109]⟩ : ByteArray)] from rfl) (Reps.one (show Kd.M Kd.string _ _ _ (⟨#[99, 111, 110, 106]⟩ : ByteArray) [.string (⟨#[99, 111, 110, 106]⟩ : ByteArray)] from rfl) (Reps.one (show Kd.M Kd.string _ _ _ (⟨#[101, 109, 105, 116]⟩ : ByteArray) [.string (⟨#[101, 109, 105, 116]⟩ : ByteArray)] from rfl) (Reps.one (show Kd.M Kd.string _ _ _ (⟨#[116, 104, 101, 110]⟩ : ByteArray) [.string (⟨#[116, 104, 101, 110]⟩ : ByteArray)] from rfl) (Reps.one (show Kd.M Kd.string _ _ _ (⟨#[101, 97, 99, 104]⟩ : ByteArray) [.string (⟨#[101, 97, 99, 104]⟩ : ByteArray)] from rfl) (Reps.one (show Kd.M Kd.string _ _ _ (⟨#[108, 101, 116]⟩ : ByteArray) [.string (⟨#[108, 101, 116]⟩ : ByteArray)] from rfl) (Reps.none _ _)))))))))))))))))))))))))))))); intro v109 w7 ho8 hb hg_ hnew_; clear hg_ hnew_; (first | rw [← Ny108.out] at ho8 | (simp only [Int.reduceToNat] at ho8; rw [← Ny108.out] at ho8)); have n0_ := Aside0.mk (Kd.R_lower ho8 (qaj (by repeat (first | (with_reducible first | exact HB.out | apply qad | apply qab | apply qac) | exact HB.out)))); have n1_ := Aside0.mk (qah (by repeat (first | (with_reducible first | exact HB.out | apply qad | apply qab | apply qac) | exact HB.out)) hb); clear HB; have HO110 := n0_; have HB := n1_; clear n0_ n1_; clear hb ho8; obtain ⟨Ao9, co9, eo9⟩ := Kd.R_slice HO110.out; subst eo9; have p111 : 0 ≤ ((ji4) : Int) := of_decide_eq_true (by first | (with_reducible assumption) | assumption); have q111 : (ji4) < (y108.length : Int) := of_decide_eq_true (by first | (with_reducible assumption) | assumption); obtain ⟨ad111, e111, hx111_0⟩ := Kd.at_string (Kd.R_reads' HO110.out).2.2 (ji4) p111 q111; cases e111; replace p111 := eq_true p111; replace q111 := eq_true q111))
     go_ret
     exact ⟨by first | rfl | (simp [errW_none, errW_some] <;> rfl) | (simp only [← hji4]; first | rfl | (simp [errW_none, errW_some] <;> rfl)) | (simp [*, errW_none, errW_some] <;> rfl), by repeat (first | (with_reducible first | exact HB.out | apply qad | apply qab | apply qac) | exact HB.out)⟩
    ·
     rw [if_neg c6] at H
     exact absurd H (by simp)
   ·
    rw [if_neg c5] at H
    exact absurd H (by simp)
def raf.j0 : Nat → ByteArray → Bool → Option (Int)
 | 0, _, _ => none
 | k + 1, x4, x7 => if x7 = true then (some 1) else (if x4.toList = ([105, 102] : List UInt8) then (some 3) else (if x4.toList = ([99, 117, 116] : List UInt8) then (some 3) else (some 2)))
def raf.f (k : Nat) (a0 : Int) : Option (Int) := (rao.f a0).bind fun t112 => (if t112.toList = ([] : List UInt8) then (some 0) else (if t112.toList = ([110, 101, 103] : List UInt8) then (raf.j0 k t112 (t112.toList == ([110, 101, 103] : List UInt8))) else (if t112.toList = ([110, 111, 116] : List UInt8) then (raf.j0 k t112 (t112.toList == ([110, 111, 116] : List UInt8))) else (if t112.toList = ([108, 101, 110] : List UInt8) then (raf.j0 k t112 (t112.toList == ([108, 101, 110] : List UInt8))) else (if t112.toList = ([119, 111, 114, 100, 115] : List UInt8) then (raf.j0 k t112 (t112.toList == ([119, 111, 114, 100, 115] : List UInt8))) else (if t112.toList = ([110, 117, 109] : List UInt8) then (raf.j0 k t112 (t112.toList == ([110, 117, 109] : List UInt8))) else (if t112.toList = ([116, 101, 120, 116] : List UInt8) then (raf.j0 k t112 (t112.toList == ([116, 101, 120, 116] : List UInt8))) else (if t112.toList = ([114, 101] : List UInt8) then (raf.j0 k t112 (t112.toList == ([114, 101] : List UInt8))) else (if t112.toList = ([105, 109] : List UInt8) then (raf.j0 k t112 (t112.toList == ([105, 109] : List UInt8))) else (if t112.toList = ([110, 111, 114, 109] : List UInt8) then (raf.j0 k t112 (t112.toList == ([110, 111, 114, 109] : List UInt8))) else (raf.j0 k t112 (t112.toList == ([99, 111, 110, 106] : List UInt8)))))))))))))
set_option maxHeartbeats 8000000 in
set_option maxRecDepth 100000 in
theorem raf.calls (k : Nat) (a0 : Int) (r : Int) (w : World) (h : raf.f k a0 = some r) :
  Calls Tryz.prog 76 #[.int .i64 a0] w fun e w' => e = .returned (.int .i64 r) ∧ Below w.heap.size w w' := by
 have HB := Aside0.mk (Below.refl w.heap.size w)
 have H : ((rao.f a0).bind fun t112 => (if t112.toList = ([] : List UInt8) then (some 0) else (if t112.toList = ([110, 101, 103] : List UInt8) then (raf.j0 k t112 (t112.toList == ([110, 101, 103] : List UInt8))) else (if t112.toList = ([110, 111, 116] : List UInt8) then (raf.j0 k t112 (t112.toList == ([110, 111, 116] : List UInt8))) else (if t112.toList = ([108, 101, 110] : List UInt8) then (raf.j0 k t112 (t112.toList == ([108, 101, 110] : List UInt8))) else (if t112.toList = ([119, 111, 114, 100, 115] : List UInt8) then (raf.j0 k t112 (t112.toList == ([119, 111, 114, 100, 115] : List UInt8))) else (if t112.toList = ([110, 117, 109] : List UInt8) then (raf.j0 k t112 (t112.toList == ([110, 117, 109] : List UInt8))) else (if t112.toList = ([116, 101, 120, 116] : List UInt8) then (raf.j0 k t112 (t112.toList == ([116, 101, 120, 116] : List UInt8))) else (if t112.toList = ([114, 101] : List UInt8) then (raf.j0 k t112 (t112.toList == ([114, 101] : List UInt8))) else (if t112.toList = ([105, 109] : List UInt8) then (raf.j0 k t112 (t112.toList == ([105, 109] : List UInt8))) else (if t112.toList = ([110, 111, 114, 109] : List UInt8) then (raf.j0 k t112 (t112.toList == ([110, 111, 114, 109] : List UInt8))) else (raf.j0 k t112 (t112.toList == ([99, 111, 110, 106] : List UInt8)))))))))))))) = some r := h
 clear h
 replace H := Option.bind_eq_some_iff.mp H
 obtain ⟨t112, A20, H⟩ := H
 replace H : (if t112.toList = ([] : List UInt8) then (some 0) else (if t112.toList = ([110, 101, 103] : List UInt8) then (raf.j0 k t112 (t112.toList == ([110, 101, 103] : List UInt8))) else (if t112.toList = ([110, 111, 116] : List UInt8) then (raf.j0 k t112 (t112.toList == ([110, 111, 116] : List UInt8))) else (if t112.toList = ([108, 101, 110] : List UInt8) then (raf.j0 k t112 (t112.toList == ([108, 101, 110] : List UInt8))) else (if t112.toList = ([119, 111, 114, 100, 115] : List UInt8) then (raf.j0 k t112 (t112.toList == ([119, 111, 114, 100, 115] : List UInt8))) else (if t112.toList = ([110, 117, 109] : List UInt8) then (raf.j0 k t112 (t112.toList == ([110, 117, 109] : List UInt8))) else (if t112.toList = ([116, 101, 120, 116] : List UInt8) then (raf.j0 k t112 (t112.toList == ([116, 101, 120, 116] : List UInt8))) else (if t112.toList = ([114, 101] : List UInt8) then (raf.j0 k t112 (t112.toList == ([114, 101] : List UInt8))) else (if t112.toList = ([105, 109] : List UInt8) then (raf.j0 k t112 (t112.toList == ([105, 109] : List UInt8))) else (if t112.toList = ([110, 111, 114, 109] : List UInt8) then (raf.j0 k t112 (t112.toList == ([110, 111, 114, 109] : List UInt8))) else (raf.j0 k t112 (t112.toList == ([99, 111, 110, 106] : List UInt8))))))))))))) = some r := H
 have A2 := Aside0.mk A20
 clear A20
 by_cases c3 : t112.toList = ([] : List UInt8)
 ·
  rw [if_pos c3] at H
  have c3b0 : (t112.toList == ([] : List UInt8)) = true := beq_iff_eq.mpr c3
  have c3b1 : (t112.toList != ([] : List UInt8)) = false := bne_eq_false_iff_eq.mpr c3
  clear c3
  obtain rfl := Option.some.inj H
  go_enter Tryz.func76, Tryz.ntmps76
  go_wp2_with (first | ((with_reducible refine qat (f := 75) rfl ?_); refine goesL_ (some 4) rfl rfl Tryz.func75 (by kernel_rfl) rfl #[.int .i64 a0] rfl (by (try simp only [List.map_toArray, List.map_cons, List.map_nil]); first | done | rfl | (simp only [List.length_drop, List.length_take]; rfl)) ?_; (with_reducible refine (rao.calls a0 t112 _ A2.out).mono ?_); rintro e w4 ⟨rfl, hb⟩; refine ⟨_, rfl, ?_⟩; have n0_ := Aside0.mk (qah (by repeat (first | (with_reducible first | exact HB.out | apply qad | apply qab | apply qac) | exact HB.out)) hb); clear HB; have HB := n0_; clear n0_; (try clear hb); (try clear hb2); (try clear hk); (try clear hi)))
  go_ret
  exact ⟨by first | rfl | (simp [*] <;> rfl), by repeat (first | (with_reducible first | exact HB.out | apply qad | apply qab | apply qac) | exact HB.out)⟩
 ·
  rw [if_neg c3] at H
  have c3b0 : (t112.toList == ([] : List UInt8)) = false := beq_eq_false_iff_ne.mpr c3
  have c3b1 : (t112.toList != ([] : List UInt8)) = true := bne_iff_ne.mpr c3
  have HC5 := Aside0.mk H
  clear H
  go_enter Tryz.func76, Tryz.ntmps76
  go_upto_if 7 with (first | ((with_reducible refine qat (f := 75) rfl ?_); refine goesL_ (some 4) rfl rfl Tryz.func75 (by kernel_rfl) rfl #[.int .i64 a0] rfl (by (try simp only [List.map_toArray, List.map_cons, List.map_nil]); first | done | rfl | (simp only [List.length_drop, List.length_take]; rfl)) ?_; (with_reducible refine (rao.calls a0 t112 _ A2.out).mono ?_); rintro e w6 ⟨rfl, hb⟩; refine ⟨_, rfl, ?_⟩; have n0_ := Aside0.mk (qah (by repeat (first | (with_reducible first | exact HB.out | apply qad | apply qab | apply qac) | exact HB.out)) hb); clear HB; have HB := n0_; clear n0_; (try clear hb); (try clear hb2); (try clear hk); (try clear hi)))
  (try simp only [Act.put, sIa, sIz, sIs])
  go_cut [7] (fun v7 wc => ∃ (kq : Nat) (x7_4 : Bool), v7 = .bool x7_4 ∧ Aside0 (raf.j0 kq t112 x7_4 = some r) ∧ Aside0 (kq ≤ k) ∧ Aside0 (Below w.heap.size w wc))
  case first =>
   have H := HC5.out
   clear HC5
   by_cases c7 : t112.toList = ([110, 101, 103] : List UInt8)
   ·
    rw [if_pos c7] at H
    have c7b0 : (t112.toList == ([110, 101, 103] : List UInt8)) = true := beq_iff_eq.mpr c7
    have c7b1 : (t112.toList != ([110, 101, 103] : List UInt8)) = false := bne_eq_false_iff_eq.mpr c7
    clear c7
    (first | rw [c7b0] | (simp only [qap, i32_w]; rw [c7b0]) | skip)
    have H' := Aside0.mk H
    clear H
    go_wp2
    go_meet
    case rel => exact ⟨_, ((t112.toList == ([110, 101, 103] : List UInt8))), (by first | rfl | (simp; done) | (simp [*]; done)), H', ⟨by first | omega | exact Nat.le_refl _⟩, ⟨by repeat (first | (with_reducible first | exact HB.out | apply qad | apply qab | apply qac) | exact HB.out)⟩⟩
   ·
    rw [if_neg c7] at H
    have c7b0 : (t112.toList == ([110, 101, 103] : List UInt8)) = false := beq_eq_false_iff_ne.mpr c7
    have c7b1 : (t112.toList != ([110, 101, 103] : List UInt8)) = true := bne_iff_ne.mpr c7
    (first | rw [c7b0] | (simp only [qap, i32_w]; rw [c7b0]) | skip)
    by_cases c8 : t112.toList = ([110, 111, 116] : List UInt8)
    ·
     rw [if_pos c8] at H
     have c8b0 : (t112.toList == ([110, 111, 116] : List UInt8)) = true := beq_iff_eq.mpr c8
     have c8b1 : (t112.toList != ([110, 111, 116] : List UInt8)) = false := bne_eq_false_iff_eq.mpr c8
     clear c8
     have H' := Aside0.mk H
     clear H
     go_wp2
     go_meet
     case rel => exact ⟨_, ((t112.toList == ([110, 111, 116] : List UInt8))), (by first | rfl | (simp; done) | (simp [*]; done)), H', ⟨by first | omega | exact Nat.le_refl _⟩, ⟨by repeat (first | (with_reducible first | exact HB.out | apply qad | apply qab | apply qac) | exact HB.out)⟩⟩
    ·
     rw [if_neg c8] at H
     have c8b0 : (t112.toList == ([110, 111, 116] : List UInt8)) = false := beq_eq_false_iff_ne.mpr c8
     have c8b1 : (t112.toList != ([110, 111, 116] : List UInt8)) = true := bne_iff_ne.mpr c8
     by_cases c9 : t112.toList = ([108, 101, 110] : List UInt8)
     ·
      rw [if_pos c9] at H
      have c9b0 : (t112.toList == ([108, 101, 110] : List UInt8)) = true := beq_iff_eq.mpr c9
      have c9b1 : (t112.toList != ([108, 101, 110] : List UInt8)) = false := bne_eq_false_iff_eq.mpr c9
      clear c9
      have H' := Aside0.mk H
      clear H
      go_wp2
      go_meet
      case rel => exact ⟨_, ((t112.toList == ([108, 101, 110] : List UInt8))), (by first | rfl | (simp; done) | (simp [*]; done)), H', ⟨by first | omega | exact Nat.le_refl _⟩, ⟨by repeat (first | (with_reducible first | exact HB.out | apply qad | apply qab | apply qac) | exact HB.out)⟩⟩
     ·
      rw [if_neg c9] at H
      have c9b0 : (t112.toList == ([108, 101, 110] : List UInt8)) = false := beq_eq_false_iff_ne.mpr c9
      have c9b1 : (t112.toList != ([108, 101, 110] : List UInt8)) = true := bne_iff_ne.mpr c9
      by_cases c10 : t112.toList = ([119, 111, 114, 100, 115] : List UInt8)
      ·
       rw [if_pos c10] at H
       have c10b0 : (t112.toList == ([119, 111, 114, 100, 115] : List UInt8)) = true := beq_iff_eq.mpr c10
       have c10b1 : (t112.toList != ([119, 111, 114, 100, 115] : List UInt8)) = false := bne_eq_false_iff_eq.mpr c10
       clear c10
       have H' := Aside0.mk H
       clear H
       go_wp2
       go_meet
       case rel => exact ⟨_, ((t112.toList == ([119, 111, 114, 100, 115] : List UInt8))), (by first | rfl | (simp; done) | (simp [*]; done)), H', ⟨by first | omega | exact Nat.le_refl _⟩, ⟨by repeat (first | (with_reducible first | exact HB.out | apply qad | apply qab | apply qac) | exact HB.out)⟩⟩
      ·
       rw [if_neg c10] at H
       have c10b0 : (t112.toList == ([119, 111, 114, 100, 115] : List UInt8)) = false := beq_eq_false_iff_ne.mpr c10
       have c10b1 : (t112.toList != ([119, 111, 114, 100, 115] : List UInt8)) = true := bne_iff_ne.mpr c10
       by_cases c11 : t112.toList = ([110, 117, 109] : List UInt8)
       ·
        rw [if_pos c11] at H
        have c11b0 : (t112.toList == ([110, 117, 109] : List UInt8)) = true := beq_iff_eq.mpr c11
        have c11b1 : (t112.toList != ([110, 117, 109] : List UInt8)) = false := bne_eq_false_iff_eq.mpr c11
        clear c11
        have H' := Aside0.mk H
        clear H
        go_wp2
        go_meet
        case rel => exact ⟨_, ((t112.toList == ([110, 117, 109] : List UInt8))), (by first | rfl | (simp; done) | (simp [*]; done)), H', ⟨by first | omega | exact Nat.le_refl _⟩, ⟨by repeat (first | (with_reducible first | exact HB.out | apply qad | apply qab | apply qac) | exact HB.out)⟩⟩
       ·
        rw [if_neg c11] at H
        have c11b0 : (t112.toList == ([110, 117, 109] : List UInt8)) = false := beq_eq_false_iff_ne.mpr c11
        have c11b1 : (t112.toList != ([110, 117, 109] : List UInt8)) = true := bne_iff_ne.mpr c11
        by_cases c12 : t112.toList = ([116, 101, 120, 116] : List UInt8)
        ·
         rw [if_pos c12] at H
         have c12b0 : (t112.toList == ([116, 101, 120, 116] : List UInt8)) = true := beq_iff_eq.mpr c12
         have c12b1 : (t112.toList != ([116, 101, 120, 116] : List UInt8)) = false := bne_eq_false_iff_eq.mpr c12
         clear c12
         have H' := Aside0.mk H
         clear H
         go_wp2
         go_meet
         case rel => exact ⟨_, ((t112.toList == ([116, 101, 120, 116] : List UInt8))), (by first | rfl | (simp; done) | (simp [*]; done)), H', ⟨by first | omega | exact Nat.le_refl _⟩, ⟨by repeat (first | (with_reducible first | exact HB.out | apply qad | apply qab | apply qac) | exact HB.out)⟩⟩
        ·
         rw [if_neg c12] at H
         have c12b0 : (t112.toList == ([116, 101, 120, 116] : List UInt8)) = false := beq_eq_false_iff_ne.mpr c12
         have c12b1 : (t112.toList != ([116, 101, 120, 116] : List UInt8)) = true := bne_iff_ne.mpr c12
         by_cases c13 : t112.toList = ([114, 101] : List UInt8)
         ·
          rw [if_pos c13] at H
          have c13b0 : (t112.toList == ([114, 101] : List UInt8)) = true := beq_iff_eq.mpr c13
          have c13b1 : (t112.toList != ([114, 101] : List UInt8)) = false := bne_eq_false_iff_eq.mpr c13
          clear c13
          have H' := Aside0.mk H
          clear H
          go_wp2
          go_meet
          case rel => exact ⟨_, ((t112.toList == ([114, 101] : List UInt8))), (by first | rfl | (simp; done) | (simp [*]; done)), H', ⟨by first | omega | exact Nat.le_refl _⟩, ⟨by repeat (first | (with_reducible first | exact HB.out | apply qad | apply qab | apply qac) | exact HB.out)⟩⟩
         ·
          rw [if_neg c13] at H
          have c13b0 : (t112.toList == ([114, 101] : List UInt8)) = false := beq_eq_false_iff_ne.mpr c13
          have c13b1 : (t112.toList != ([114, 101] : List UInt8)) = true := bne_iff_ne.mpr c13
          by_cases c14 : t112.toList = ([105, 109] : List UInt8)
          ·
           rw [if_pos c14] at H
           have c14b0 : (t112.toList == ([105, 109] : List UInt8)) = true := beq_iff_eq.mpr c14
           have c14b1 : (t112.toList != ([105, 109] : List UInt8)) = false := bne_eq_false_iff_eq.mpr c14
           clear c14
           have H' := Aside0.mk H
           clear H
           go_wp2
           go_meet
           case rel => exact ⟨_, ((t112.toList == ([105, 109] : List UInt8))), (by first | rfl | (simp; done) | (simp [*]; done)), H', ⟨by first | omega | exact Nat.le_refl _⟩, ⟨by repeat (first | (with_reducible first | exact HB.out | apply qad | apply qab | apply qac) | exact HB.out)⟩⟩
          ·
           rw [if_neg c14] at H
           have c14b0 : (t112.toList == ([105, 109] : List UInt8)) = false := beq_eq_false_iff_ne.mpr c14
           have c14b1 : (t112.toList != ([105, 109] : List UInt8)) = true := bne_iff_ne.mpr c14
           by_cases c15 : t112.toList = ([110, 111, 114, 109] : List UInt8)
           ·
            rw [if_pos c15] at H
            have c15b0 : (t112.toList == ([110, 111, 114, 109] : List UInt8)) = true := beq_iff_eq.mpr c15
            have c15b1 : (t112.toList != ([110, 111, 114, 109] : List UInt8)) = false := bne_eq_false_iff_eq.mpr c15
            clear c15
            have H' := Aside0.mk H
            clear H
            go_wp2
            go_meet
            case rel => exact ⟨_, ((t112.toList == ([110, 111, 114, 109] : List UInt8))), (by first | rfl | (simp; done) | (simp [*]; done)), H', ⟨by first | omega | exact Nat.le_refl _⟩, ⟨by repeat (first | (with_reducible first | exact HB.out | apply qad | apply qab | apply qac) | exact HB.out)⟩⟩
           ·
            rw [if_neg c15] at H
            have c15b0 : (t112.toList == ([110, 111, 114, 109] : List UInt8)) = false := beq_eq_false_iff_ne.mpr c15
            have c15b1 : (t112.toList != ([110, 111, 114, 109] : List UInt8)) = true := bne_iff_ne.mpr c15
            have H' := Aside0.mk H
            clear H
            go_wp2
            go_meet
            case rel => exact ⟨_, ((t112.toList == ([99, 111, 110, 106] : List UInt8))), (by first | rfl | (simp; done) | (simp [*]; done)), H', ⟨by first | omega | exact Nat.le_refl _⟩, ⟨by repeat (first | (with_reducible first | exact HB.out | apply qad | apply qab | apply qac) | exact HB.out)⟩⟩
  case rest =>
   clear HC5
   try clear c1
   try clear p2
   try clear c3
   try clear c3b0
   try clear c3b1
   try clear c7
   try clear c7b0
   try clear c7b1
   try clear c8
   try clear c8b0
   try clear c8b1
   try clear c9
   try clear c9b0
   try clear c9b1
   try clear c10
   try clear c10b0
   try clear c10b1
   try clear c11
   try clear c11b0
   try clear c11b1
   try clear c12
   try clear c12b0
   try clear c12b1
   try clear c13
   try clear c13b0
   try clear c13b1
   try clear c14
   try clear c14b0
   try clear c14b1
   try clear c15
   try clear c15b0
   try clear c15b1
   obtain ⟨kq, x7_4, rfl, HA, HJ4, HB⟩ := hcut
   cases kq with
   | zero => exact absurd HA.out (by simp [raf.j0])
   | succ kj4 =>
    have H := HA.out
    clear HA
    simp only [raf.j0] at H
    by_cases c16 : x7_4 = true
    ·
     subst c16
     have H1 : (some 1) = some r := by rw [if_pos rfl] at H; exact H
     clear H
     have H := H1
     clear H1
     obtain rfl := Option.some.inj H
     go_wp2
     go_ret
     exact ⟨by first | rfl | (simp [*] <;> rfl), by repeat (first | (with_reducible first | exact HB.out | apply qad | apply qab | apply qac) | exact HB.out)⟩
    ·
     replace c16 := Bool.eq_false_iff.mpr c16
     subst c16
     have H1 : (if t112.toList = ([105, 102] : List UInt8) then (some 3) else (if t112.toList = ([99, 117, 116] : List UInt8) then (some 3) else (some 2))) = some r := by rw [if_neg (show ¬ (false = true) by decide)] at H; exact H
     clear H
     have H := H1
     clear H1
     by_cases c17 : t112.toList = ([105, 102] : List UInt8)
     ·
      rw [if_pos c17] at H
      have c17b0 : (t112.toList == ([105, 102] : List UInt8)) = true := beq_iff_eq.mpr c17
      have c17b1 : (t112.toList != ([105, 102] : List UInt8)) = false := bne_eq_false_iff_eq.mpr c17
      clear c17
      obtain rfl := Option.some.inj H
      go_wp2
      go_ret
      exact ⟨by first | rfl | (simp [*] <;> rfl), by repeat (first | (with_reducible first | exact HB.out | apply qad | apply qab | apply qac) | exact HB.out)⟩
     ·
      rw [if_neg c17] at H
      have c17b0 : (t112.toList == ([105, 102] : List UInt8)) = false := beq_eq_false_iff_ne.mpr c17
      have c17b1 : (t112.toList != ([105, 102] : List UInt8)) = true := bne_iff_ne.mpr c17
      by_cases c18 : t112.toList = ([99, 117, 116] : List UInt8)
      ·
       rw [if_pos c18] at H
       have c18b0 : (t112.toList == ([99, 117, 116] : List UInt8)) = true := beq_iff_eq.mpr c18
       have c18b1 : (t112.toList != ([99, 117, 116] : List UInt8)) = false := bne_eq_false_iff_eq.mpr c18
       clear c18
       obtain rfl := Option.some.inj H
       go_wp2
       go_ret
       exact ⟨by first | rfl | (simp [*] <;> rfl), by repeat (first | (with_reducible first | exact HB.out | apply qad | apply qab | apply qac) | exact HB.out)⟩
      ·
       rw [if_neg c18] at H
       have c18b0 : (t112.toList == ([99, 117, 116] : List UInt8)) = false := beq_eq_false_iff_ne.mpr c18
       have c18b1 : (t112.toList != ([99, 117, 116] : List UInt8)) = true := bne_iff_ne.mpr c18
       obtain rfl := Option.some.inj H
       go_wp2
       go_ret
       exact ⟨by first | rfl | (simp [*] <;> rfl), by repeat (first | (with_reducible first | exact HB.out | apply qad | apply qab | apply qac) | exact HB.out)⟩
def rbe.f (a0 : Int) : Option (ByteArray) := (some (([(⟨#[107, 101, 121]⟩ : ByteArray), (⟨#[118, 97, 108]⟩ : ByteArray), (⟨#[97, 99, 99]⟩ : ByteArray), (⟨#[105]⟩ : ByteArray), (⟨#[105, 116]⟩ : ByteArray)] : List ByteArray) : List ByteArray)).bind fun y220 => (if 0 ≤ a0 then (if a0 < (y220.length : Int) then (some (rdOf ByteArray.empty y220 a0)) else (none)) else (none))
set_option maxHeartbeats 8000000 in
set_option maxRecDepth 100000 in
theorem rbe.calls (a0 : Int) (r : ByteArray) (w : World) (h : rbe.f a0 = some r) :
  Calls Tryz.prog 74 #[.int .i64 a0] w fun e w' => e = .returned (.string r) ∧ Below w.heap.size w w' := by
 have HB := Aside0.mk (Below.refl w.heap.size w)
 have H : ((some (([(⟨#[107, 101, 121]⟩ : ByteArray), (⟨#[118, 97, 108]⟩ : ByteArray), (⟨#[97, 99, 99]⟩ : ByteArray), (⟨#[105]⟩ : ByteArray), (⟨#[105, 116]⟩ : ByteArray)] : List ByteArray) : List ByteArray)).bind fun y220 => (if 0 ≤ a0 then (if a0 < (y220.length : Int) then (some (rdOf ByteArray.empty y220 a0)) else (none)) else (none))) = some r := h
 clear h
 obtain ⟨y220, hy220⟩ : ∃ y_ : List ByteArray, y_ = (([(⟨#[107, 101, 121]⟩ : ByteArray), (⟨#[118, 97, 108]⟩ : ByteArray), (⟨#[97, 99, 99]⟩ : ByteArray), (⟨#[105]⟩ : ByteArray), (⟨#[105, 116]⟩ : ByteArray)] : List ByteArray)) := ⟨_, rfl⟩
 replace H : (if 0 ≤ a0 then (if a0 < (y220.length : Int) then (some (rdOf ByteArray.empty y220 a0)) else (none)) else (none)) = some r := by first | (rw [hy220]; with_reducible exact H) | (have H2_ := (Option.bind_some _ _).symm.trans H; rw [hy220]; with_reducible exact H2_) | (have H2_ := (Option.bind_some _ _).symm.trans H; with_reducible exact H2_) | with_reducible exact H | (rw [hy220]; exact H) | exact H
 have Ny220 := Aside0.mk hy220
 clear hy220
 by_cases c2 : 0 ≤ a0
 ·
  rw [if_pos c2] at H
  have c2b0 : decide (0 ≤ a0) = true := decide_eq_true c2
  clear c2
  by_cases c3 : a0 < (y220.length : Int)
  ·
   rw [if_pos c3] at H
   have c3b0 : decide (a0 < (y220.length : Int)) = true := decide_eq_true c3
   clear c3
   obtain rfl := Option.some.inj H
   go_enter Tryz.func74, Tryz.ntmps74
   go_wp2_with (first | ((with_reducible refine qav (N := 3) rfl ?_); refine Kd.R_lit Kd.string _ 9 ?hg (N := 3) ?hd (xs := ([(⟨#[107, 101, 121]⟩ : ByteArray), (⟨#[118, 97, 108]⟩ : ByteArray), (⟨#[97, 99, 99]⟩ : ByteArray), (⟨#[105]⟩ : ByteArray), (⟨#[105, 116]⟩ : ByteArray)] : List ByteArray)) (inner := [.string (⟨#[107, 101, 121]⟩ : ByteArray), .string (⟨#[118, 97, 108]⟩ : ByteArray), .string (⟨#[97, 99, 99]⟩ : ByteArray), .string (⟨#[105]⟩ : ByteArray), .string (⟨#[105, 116]⟩ : ByteArray)]) (ok := fun _ => True) (okp := fun _ => True) ?hr ?hp (fun _ hk => hk) trivial (Below.refl _ _) (Nat.le_refl _) (by simp) ?_; (case hd => rfl); (case hg => rfl); (case hr => first | (go_simp; done) | (go_simp; rfl)); (case hp => exact (Reps.one (show Kd.M Kd.string _ _ _ (⟨#[107, 101, 121]⟩ : ByteArray) [.string (⟨#[107, 101, 121]⟩ : ByteArray)] from rfl) (Reps.one (show Kd.M Kd.string _ _ _ (⟨#[118, 97, 108]⟩ : ByteArray) [.string (⟨#[118, 97, 108]⟩ : ByteArray)] from rfl) (Reps.one (show Kd.M Kd.string _ _ _ (⟨#[97, 99, 99]⟩ : ByteArray) [.string (⟨#[97, 99, 99]⟩ : ByteArray)] from rfl) (Reps.one (show Kd.M Kd.string _ _ _ (⟨#[105]⟩ : ByteArray) [.string (⟨#[105]⟩ : ByteArray)] from rfl) (Reps.one (show Kd.M Kd.string _ _ _ (⟨#[105, 116]⟩ : ByteArray) [.string (⟨#[105, 116]⟩ : ByteArray)] from rfl) (Reps.none _ _))))))); intro v221 w4 ho5 hb hg_ hnew_; clear hg_ hnew_; (first | rw [← Ny220.out] at ho5 | (simp only [Int.reduceToNat] at ho5; rw [← Ny220.out] at ho5)); have n0_ := Aside0.mk (Kd.R_lower ho5 (qaj (by repeat (first | (with_reducible first | exact HB.out | apply qad | apply qab | apply qac) | exact HB.out)))); have n1_ := Aside0.mk (qah (by repeat (first | (with_reducible first | exact HB.out | apply qad | apply qab | apply qac) | exact HB.out)) hb); clear HB; have HO222 := n0_; have HB := n1_; clear n0_ n1_; clear hb ho5; obtain ⟨Ao6, co6, eo6⟩ := Kd.R_slice HO222.out; subst eo6; have p223 : 0 ≤ (a0 : Int) := of_decide_eq_true (by first | (with_reducible assumption) | assumption); have q223 : a0 < (y220.length : Int) := of_decide_eq_true (by first | (with_reducible assumption) | assumption); obtain ⟨ad223, e223, hx223_0⟩ := Kd.at_string (Kd.R_reads' HO222.out).2.2 a0 p223 q223; cases e223; replace p223 := eq_true p223; replace q223 := eq_true q223))
   go_ret
   exact ⟨by first | rfl | (simp [*] <;> rfl), by repeat (first | (with_reducible first | exact HB.out | apply qad | apply qab | apply qac) | exact HB.out)⟩
  ·
   rw [if_neg c3] at H
   exact absurd H (by simp)
 ·
  rw [if_neg c2] at H
  exact absurd H (by simp)
def rav.f (a0_0 : Int) (a0_1 : Int) : Option (Bool) := if a0_0 ≥ (-16777216) then (if a0_0 ≤ 16777216 then (if a0_1 ≥ (-16777216) then (some (decide (a0_1 ≤ 16777216))) else (some false)) else (some false)) else (some false)
set_option maxHeartbeats 8000000 in
set_option maxRecDepth 100000 in
theorem rav.calls (a0_0 : Int) (a0_1 : Int) (r : Bool) (w : World) (h : rav.f a0_0 a0_1 = some r) :
  Calls Tryz.prog 92 #[.agg #[.int .i64 a0_0, .int .i64 a0_1]] w fun e w' => e = .returned (.bool r) ∧ Below w.heap.size w w' := by
 have hu43 := Tryz.underlying43
 have HB := Aside0.mk (Below.refl w.heap.size w)
 have H : (if a0_0 ≥ (-16777216) then (if a0_0 ≤ 16777216 then (if a0_1 ≥ (-16777216) then (some (decide (a0_1 ≤ 16777216))) else (some false)) else (some false)) else (some false)) = some r := h
 clear h
 by_cases c2 : a0_0 ≥ (-16777216)
 ·
  rw [if_pos c2] at H
  have c2b0 : decide ((-16777216) ≤ a0_0) = true := decide_eq_true c2
  clear c2
  by_cases c3 : a0_0 ≤ 16777216
  ·
   rw [if_pos c3] at H
   have c3b0 : decide (a0_0 ≤ 16777216) = true := decide_eq_true c3
   clear c3
   by_cases c4 : a0_1 ≥ (-16777216)
   ·
    rw [if_pos c4] at H
    have c4b0 : decide ((-16777216) ≤ a0_1) = true := decide_eq_true c4
    clear c4
    obtain rfl := Option.some.inj H
    go_enter Tryz.func92, Tryz.ntmps92
    go_wp2_with (first | ((with_reducible refine qav (N := 1) rfl ?_); refine qau ?hg (N := 1) ?hd (cs := #[.int .i64 a0_0, .int .i64 a0_1]) (t := 43) ?hr ?_; (case hd => rfl); (case hg => rfl); (case hr => first | (go_simp; done) | (go_simp; rfl)); intro gb105 hg w5 hbox hb; have n0_ := Aside0.mk (qah (by repeat (first | (with_reducible first | exact HB.out | apply qad | apply qab | apply qac) | exact HB.out)) hb); have n1_ := Aside0.mk (hbox); have n2_ := Aside0.mk ((by rw [hg]; exact (qaj (by repeat (first | (with_reducible first | exact HB.out | apply qad | apply qab | apply qac) | exact HB.out))) : w.heap.size ≤ gb105)); have n3_ := Aside0.mk ((by rw [hg]; exact (qaj (by repeat (first | (with_reducible first | exact HB.out | apply qad | apply qab | apply qac) | exact HB.out))) : w.heap.size ≤ gb105)); clear HB; have HB := n0_; have BK105 := n1_; have GW105 := n2_; have GE105 := n3_; clear n0_ n1_ n2_ n3_; clear hb hbox hg; obtain ⟨G6_0, G6_1, F6_0, F6_1⟩ := shr2 BK105.out))
    go_ret
    exact ⟨by first | rfl | (simp [*] <;> rfl), by repeat (first | (with_reducible first | exact HB.out | apply qad | apply qab | apply qac | refine qaf ?_ GE105.out) | exact HB.out)⟩
   ·
    rw [if_neg c4] at H
    have c4b0 : decide ((-16777216) ≤ a0_1) = false := decide_eq_false c4
    clear c4
    obtain rfl := Option.some.inj H
    go_enter Tryz.func92, Tryz.ntmps92
    go_wp2_with (first | ((with_reducible refine qav (N := 1) rfl ?_); refine qau ?hg (N := 1) ?hd (cs := #[.int .i64 a0_0, .int .i64 a0_1]) (t := 43) ?hr ?_; (case hd => rfl); (case hg => rfl); (case hr => first | (go_simp; done) | (go_simp; rfl)); intro gb105 hg w7 hbox hb; have n0_ := Aside0.mk (qah (by repeat (first | (with_reducible first | exact HB.out | apply qad | apply qab | apply qac) | exact HB.out)) hb); have n1_ := Aside0.mk (hbox); have n2_ := Aside0.mk ((by rw [hg]; exact (qaj (by repeat (first | (with_reducible first | exact HB.out | apply qad | apply qab | apply qac) | exact HB.out))) : w.heap.size ≤ gb105)); have n3_ := Aside0.mk ((by rw [hg]; exact (qaj (by repeat (first | (with_reducible first | exact HB.out | apply qad | apply qab | apply qac) | exact HB.out))) : w.heap.size ≤ gb105)); clear HB; have HB := n0_; have BK105 := n1_; have GW105 := n2_; have GE105 := n3_; clear n0_ n1_ n2_ n3_; clear hb hbox hg; obtain ⟨G8_0, G8_1, F8_0, F8_1⟩ := shr2 BK105.out))
    go_ret
    exact ⟨by first | rfl | (simp [*] <;> rfl), by repeat (first | (with_reducible first | exact HB.out | apply qad | apply qab | apply qac | refine qaf ?_ GE105.out) | exact HB.out)⟩
  ·
   rw [if_neg c3] at H
   have c3b0 : decide (a0_0 ≤ 16777216) = false := decide_eq_false c3
   clear c3
   obtain rfl := Option.some.inj H
   go_enter Tryz.func92, Tryz.ntmps92
   go_wp2_with (first | ((with_reducible refine qav (N := 1) rfl ?_); refine qau ?hg (N := 1) ?hd (cs := #[.int .i64 a0_0, .int .i64 a0_1]) (t := 43) ?hr ?_; (case hd => rfl); (case hg => rfl); (case hr => first | (go_simp; done) | (go_simp; rfl)); intro gb105 hg w9 hbox hb; have n0_ := Aside0.mk (qah (by repeat (first | (with_reducible first | exact HB.out | apply qad | apply qab | apply qac) | exact HB.out)) hb); have n1_ := Aside0.mk (hbox); have n2_ := Aside0.mk ((by rw [hg]; exact (qaj (by repeat (first | (with_reducible first | exact HB.out | apply qad | apply qab | apply qac) | exact HB.out))) : w.heap.size ≤ gb105)); have n3_ := Aside0.mk ((by rw [hg]; exact (qaj (by repeat (first | (with_reducible first | exact HB.out | apply qad | apply qab | apply qac) | exact HB.out))) : w.heap.size ≤ gb105)); clear HB; have HB := n0_; have BK105 := n1_; have GW105 := n2_; have GE105 := n3_; clear n0_ n1_ n2_ n3_; clear hb hbox hg; obtain ⟨G10_0, G10_1, F10_0, F10_1⟩ := shr2 BK105.out))
   go_ret
   exact ⟨by first | rfl | (simp [*] <;> rfl), by repeat (first | (with_reducible first | exact HB.out | apply qad | apply qab | apply qac | refine qaf ?_ GE105.out) | exact HB.out)⟩
 ·
  rw [if_neg c2] at H
  have c2b0 : decide ((-16777216) ≤ a0_0) = false := decide_eq_false c2
  clear c2
  obtain rfl := Option.some.inj H
  go_enter Tryz.func92, Tryz.ntmps92
  go_wp2_with (first | ((with_reducible refine qav (N := 1) rfl ?_); refine qau ?hg (N := 1) ?hd (cs := #[.int .i64 a0_0, .int .i64 a0_1]) (t := 43) ?hr ?_; (case hd => rfl); (case hg => rfl); (case hr => first | (go_simp; done) | (go_simp; rfl)); intro gb105 hg w11 hbox hb; have n0_ := Aside0.mk (qah (by repeat (first | (with_reducible first | exact HB.out | apply qad | apply qab | apply qac) | exact HB.out)) hb); have n1_ := Aside0.mk (hbox); have n2_ := Aside0.mk ((by rw [hg]; exact (qaj (by repeat (first | (with_reducible first | exact HB.out | apply qad | apply qab | apply qac) | exact HB.out))) : w.heap.size ≤ gb105)); have n3_ := Aside0.mk ((by rw [hg]; exact (qaj (by repeat (first | (with_reducible first | exact HB.out | apply qad | apply qab | apply qac) | exact HB.out))) : w.heap.size ≤ gb105)); clear HB; have HB := n0_; have BK105 := n1_; have GW105 := n2_; have GE105 := n3_; clear n0_ n1_ n2_ n3_; clear hb hbox hg; obtain ⟨G12_0, G12_1, F12_0, F12_1⟩ := shr2 BK105.out))
  go_ret
  exact ⟨by first | rfl | (simp [*] <;> rfl), by repeat (first | (with_reducible first | exact HB.out | apply qad | apply qab | apply qac | refine qaf ?_ GE105.out) | exact HB.out)⟩
end Go.Proofs.YtejbpnhondpnfaaGreat.PJob
namespace Go.Proofs.YtejbpnhondpnfaaGreat.PJob
open Go.RowKit Go.Proofs.YtejbpnhondpnfaaGreatW.PrintWords Go.Proofs.YtejbpnhondpnfaaGreatW.PrintLast Go.Proofs.YtejbpnhondpnfaaGreatW.PrintMore
attribute [local go_sem] qaz qbe
attribute [local go_sem high] eqA43
def raq.f (a0_0 : Int) (a0_1 : Int) (a0_2 : ByteArray) (a0_3 : Int) (a0_4 : Int) : Option (Bool) := if a0_0 = 0 then (if a0_1 ≥ (-9007199254740992) then (if a0_1 ≤ 9007199254740992 then (if a0_2.toList = ([] : List UInt8) then (some (a0_3 == 0 && (a0_4 == 0))) else (some false)) else (some false)) else (some false)) else (if a0_0 = 1 then (if (a0_2.size : Int) ≤ 4096 then (if a0_1 = 0 then (some (a0_3 == 0 && (a0_4 == 0))) else (some false)) else (some false)) else (if a0_0 = 2 then ((rav.f a0_3 a0_4).bind fun t107 => (if t107 = true then (if a0_1 = 0 then (some (a0_2.toList == ([] : List UInt8))) else (some false)) else (some false))) else (some false)))
set_option maxHeartbeats 8000000 in
set_option maxRecDepth 100000 in
theorem raq.calls (a0_0 : Int) (a0_1 : Int) (a0_2 : ByteArray) (a0_3 : Int) (a0_4 : Int) (r : Bool) (w : World) (h : raq.f a0_0 a0_1 a0_2 a0_3 a0_4 = some r) :
  Calls Tryz.prog 49 #[.agg #[.int .i64 a0_0, .int .i64 a0_1, .string a0_2, .int .i64 a0_3, .int .i64 a0_4]] w fun e w' => e = .returned (.bool r) ∧ Below w.heap.size w w' := by
 have hu45 := Tryz.underlying45
 have hu43 := Tryz.underlying43
 have HB := Aside0.mk (Below.refl w.heap.size w)
 have H : (if a0_0 = 0 then (if a0_1 ≥ (-9007199254740992) then (if a0_1 ≤ 9007199254740992 then (if a0_2.toList = ([] : List UInt8) then (some (a0_3 == 0 && (a0_4 == 0))) else (some false)) else (some false)) else (some false)) else (if a0_0 = 1 then (if (a0_2.size : Int) ≤ 4096 then (if a0_1 = 0 then (some (a0_3 == 0 && (a0_4 == 0))) else (some false)) else (some false)) else (if a0_0 = 2 then ((rav.f a0_3 a0_4).bind fun t107 => (if t107 = true then (if a0_1 = 0 then (some (a0_2.toList == ([] : List UInt8))) else (some false)) else (some false))) else (some false)))) = some r := h
 clear h
 by_cases c2 : a0_0 = 0
 ·
  rw [if_pos c2] at H
  have c2b0 : (a0_0 == 0) = true := beq_iff_eq.mpr c2
  have c2b1 : (a0_0 != 0) = false := bne_eq_false_iff_eq.mpr c2
  clear c2
  by_cases c3 : a0_1 ≥ (-9007199254740992)
  ·
   rw [if_pos c3] at H
   have c3b0 : decide ((-9007199254740992) ≤ a0_1) = true := decide_eq_true c3
   clear c3
   by_cases c4 : a0_1 ≤ 9007199254740992
   ·
    rw [if_pos c4] at H
    have c4b0 : decide (a0_1 ≤ 9007199254740992) = true := decide_eq_true c4
    clear c4
    by_cases c5 : a0_2.toList = ([] : List UInt8)
    ·
     rw [if_pos c5] at H
     have c5b0 : (a0_2.toList == ([] : List UInt8)) = true := beq_iff_eq.mpr c5
     have c5b1 : (a0_2.toList != ([] : List UInt8)) = false := bne_eq_false_iff_eq.mpr c5
     clear c5
     obtain rfl := Option.some.inj H
     go_enter Tryz.func49, Tryz.ntmps49
     go_wp2_with (first | ((with_reducible refine qav (N := 1) rfl ?_); refine qau ?hg (N := 1) ?hd (cs := #[.int .i64 a0_0, .int .i64 a0_1, .string a0_2, .int .i64 a0_3, .int .i64 a0_4]) (t := 45) ?hr ?_; (case hd => rfl); (case hg => rfl); (case hr => first | (go_simp; done) | (go_simp; rfl)); intro gb106 hg w6 hbox hb; have n0_ := Aside0.mk (qah (by repeat (first | (with_reducible first | exact HB.out | apply qad | apply qab | apply qac) | exact HB.out)) hb); have n1_ := Aside0.mk (hbox); have n2_ := Aside0.mk ((by rw [hg]; exact (qaj (by repeat (first | (with_reducible first | exact HB.out | apply qad | apply qab | apply qac) | exact HB.out))) : w.heap.size ≤ gb106)); have n3_ := Aside0.mk ((by rw [hg]; exact (qaj (by repeat (first | (with_reducible first | exact HB.out | apply qad | apply qab | apply qac) | exact HB.out))) : w.heap.size ≤ gb106)); clear HB; have HB := n0_; have BK106 := n1_; have GW106 := n2_; have GE106 := n3_; clear n0_ n1_ n2_ n3_; clear hb hbox hg; obtain ⟨G7_0, G7_1, G7_2, G7_3, G7_4, F7_0, F7_1, F7_2, F7_3, F7_4⟩ := shr5 BK106.out))
     go_ret
     exact ⟨by first | rfl | (simp [*] <;> rfl), by repeat (first | (with_reducible first | exact HB.out | apply qad | apply qab | apply qac | refine qaf ?_ GE106.out) | exact HB.out)⟩
    ·
     rw [if_neg c5] at H
     have c5b0 : (a0_2.toList == ([] : List UInt8)) = false := beq_eq_false_iff_ne.mpr c5
     have c5b1 : (a0_2.toList != ([] : List UInt8)) = true := bne_iff_ne.mpr c5
     obtain rfl := Option.some.inj H
     go_enter Tryz.func49, Tryz.ntmps49
     go_wp2_with (first | ((with_reducible refine qav (N := 1) rfl ?_); refine qau ?hg (N := 1) ?hd (cs := #[.int .i64 a0_0, .int .i64 a0_1, .string a0_2, .int .i64 a0_3, .int .i64 a0_4]) (t := 45) ?hr ?_; (case hd => rfl); (case hg => rfl); (case hr => first | (go_simp; done) | (go_simp; rfl)); intro gb106 hg w8 hbox hb; have n0_ := Aside0.mk (qah (by repeat (first | (with_reducible first | exact HB.out | apply qad | apply qab | apply qac) | exact HB.out)) hb); have n1_ := Aside0.mk (hbox); have n2_ := Aside0.mk ((by rw [hg]; exact (qaj (by repeat (first | (with_reducible first | exact HB.out | apply qad | apply qab | apply qac) | exact HB.out))) : w.heap.size ≤ gb106)); have n3_ := Aside0.mk ((by rw [hg]; exact (qaj (by repeat (first | (with_reducible first | exact HB.out | apply qad | apply qab | apply qac) | exact HB.out))) : w.heap.size ≤ gb106)); clear HB; have HB := n0_; have BK106 := n1_; have GW106 := n2_; have GE106 := n3_; clear n0_ n1_ n2_ n3_; clear hb hbox hg; obtain ⟨G9_0, G9_1, G9_2, G9_3, G9_4, F9_0, F9_1, F9_2, F9_3, F9_4⟩ := shr5 BK106.out))
     go_ret
     exact ⟨by first | rfl | (simp [*] <;> rfl), by repeat (first | (with_reducible first | exact HB.out | apply qad | apply qab | apply qac | refine qaf ?_ GE106.out) | exact HB.out)⟩
   ·
    rw [if_neg c4] at H
    have c4b0 : decide (a0_1 ≤ 9007199254740992) = false := decide_eq_false c4
    clear c4
    obtain rfl := Option.some.inj H
    go_enter Tryz.func49, Tryz.ntmps49
    go_wp2_with (first | ((with_reducible refine qav (N := 1) rfl ?_); refine qau ?hg (N := 1) ?hd (cs := #[.int .i64 a0_0, .int .i64 a0_1, .string a0_2, .int .i64 a0_3, .int .i64 a0_4]) (t := 45) ?hr ?_; (case hd => rfl); (case hg => rfl); (case hr => first | (go_simp; done) | (go_simp; rfl)); intro gb106 hg w10 hbox hb; have n0_ := Aside0.mk (qah (by repeat (first | (with_reducible first | exact HB.out | apply qad | apply qab | apply qac) | exact HB.out)) hb); have n1_ := Aside0.mk (hbox); have n2_ := Aside0.mk ((by rw [hg]; exact (qaj (by repeat (first | (with_reducible first | exact HB.out | apply qad | apply qab | apply qac) | exact HB.out))) : w.heap.size ≤ gb106)); have n3_ := Aside0.mk ((by rw [hg]; exact (qaj (by repeat (first | (with_reducible first | exact HB.out | apply qad | apply qab | apply qac) | exact HB.out))) : w.heap.size ≤ gb106)); clear HB; have HB := n0_; have BK106 := n1_; have GW106 := n2_; have GE106 := n3_; clear n0_ n1_ n2_ n3_; clear hb hbox hg; obtain ⟨G11_0, G11_1, G11_2, G11_3, G11_4, F11_0, F11_1, F11_2, F11_3, F11_4⟩ := shr5 BK106.out))
    go_ret
    exact ⟨by first | rfl | (simp [*] <;> rfl), by repeat (first | (with_reducible first | exact HB.out | apply qad | apply qab | apply qac | refine qaf ?_ GE106.out) | exact HB.out)⟩
  ·
   rw [if_neg c3] at H
   have c3b0 : decide ((-9007199254740992) ≤ a0_1) = false := decide_eq_false c3
   clear c3
   obtain rfl := Option.some.inj H
   go_enter Tryz.func49, Tryz.ntmps49
   go_wp2_with (first | ((with_reducible refine qav (N := 1) rfl ?_); refine qau ?hg (N := 1) ?hd (cs := #[.int .i64 a0_0, .int .i64 a0_1, .string a0_2, .int .i64 a0_3, .int .i64 a0_4]) (t := 45) ?hr ?_; (case hd => rfl); (case hg => rfl); (case hr => first | (go_simp; done) | (go_simp; rfl)); intro gb106 hg w12 hbox hb; have n0_ := Aside0.mk (qah (by repeat (first | (with_reducible first | exact HB.out | apply qad | apply qab | apply qac) | exact HB.out)) hb); have n1_ := Aside0.mk (hbox); have n2_ := Aside0.mk ((by rw [hg]; exact (qaj (by repeat (first | (with_reducible first | exact HB.out | apply qad | apply qab | apply qac) | exact HB.out))) : w.heap.size ≤ gb106)); have n3_ := Aside0.mk ((by rw [hg]; exact (qaj (by repeat (first | (with_reducible first | exact HB.out | apply qad | apply qab | apply qac) | exact HB.out))) : w.heap.size ≤ gb106)); clear HB; have HB := n0_; have BK106 := n1_; have GW106 := n2_; have GE106 := n3_; clear n0_ n1_ n2_ n3_; clear hb hbox hg; obtain ⟨G13_0, G13_1, G13_2, G13_3, G13_4, F13_0, F13_1, F13_2, F13_3, F13_4⟩ := shr5 BK106.out))
   go_ret
   exact ⟨by first | rfl | (simp [*] <;> rfl), by repeat (first | (with_reducible first | exact HB.out | apply qad | apply qab | apply qac | refine qaf ?_ GE106.out) | exact HB.out)⟩
 ·
  rw [if_neg c2] at H
  have c2b0 : (a0_0 == 0) = false := beq_eq_false_iff_ne.mpr c2
  have c2b1 : (a0_0 != 0) = true := bne_iff_ne.mpr c2
  by_cases c14 : a0_0 = 1
  ·
   rw [if_pos c14] at H
   have c14b0 : (a0_0 == 1) = true := beq_iff_eq.mpr c14
   have c14b1 : (a0_0 != 1) = false := bne_eq_false_iff_eq.mpr c14
   clear c14
   by_cases c15 : (a0_2.size : Int) ≤ 4096
   ·
    rw [if_pos c15] at H
    have c15b0 : decide ((a0_2.size : Int) ≤ 4096) = true := decide_eq_true c15
    have c15b1 : decide (a0_2.size ≤ 4096) = true := decide_eq_true (by omega)
    clear c15
    by_cases c16 : a0_1 = 0
    ·
     rw [if_pos c16] at H
     have c16b0 : (a0_1 == 0) = true := beq_iff_eq.mpr c16
     have c16b1 : (a0_1 != 0) = false := bne_eq_false_iff_eq.mpr c16
     clear c16
     obtain rfl := Option.some.inj H
     go_enter Tryz.func49, Tryz.ntmps49
     go_wp2_with (first | ((with_reducible refine qav (N := 1) rfl ?_); refine qau ?hg (N := 1) ?hd (cs := #[.int .i64 a0_0, .int .i64 a0_1, .string a0_2, .int .i64 a0_3, .int .i64 a0_4]) (t := 45) ?hr ?_; (case hd => rfl); (case hg => rfl); (case hr => first | (go_simp; done) | (go_simp; rfl)); intro gb106 hg w17 hbox hb; have n0_ := Aside0.mk (qah (by repeat (first | (with_reducible first | exact HB.out | apply qad | apply qab | apply qac) | exact HB.out)) hb); have n1_ := Aside0.mk (hbox); have n2_ := Aside0.mk ((by rw [hg]; exact (qaj (by repeat (first | (with_reducible first | exact HB.out | apply qad | apply qab | apply qac) | exact HB.out))) : w.heap.size ≤ gb106)); have n3_ := Aside0.mk ((by rw [hg]; exact (qaj (by repeat (first | (with_reducible first | exact HB.out | apply qad | apply qab | apply qac) | exact HB.out))) : w.heap.size ≤ gb106)); clear HB; have HB := n0_; have BK106 := n1_; have GW106 := n2_; have GE106 := n3_; clear n0_ n1_ n2_ n3_; clear hb hbox hg; obtain ⟨G18_0, G18_1, G18_2, G18_3, G18_4, F18_0, F18_1, F18_2, F18_3, F18_4⟩ := shr5 BK106.out))
     go_ret
     exact ⟨by first | rfl | (simp [*] <;> rfl), by repeat (first | (with_reducible first | exact HB.out | apply qad | apply qab | apply qac | refine qaf ?_ GE106.out) | exact HB.out)⟩
    ·
     rw [if_neg c16] at H
     have c16b0 : (a0_1 == 0) = false := beq_eq_false_iff_ne.mpr c16
     have c16b1 : (a0_1 != 0) = true := bne_iff_ne.mpr c16
     obtain rfl := Option.some.inj H
     go_enter Tryz.func49, Tryz.ntmps49
     go_wp2_with (first | ((with_reducible refine qav (N := 1) rfl ?_); refine qau ?hg (N := 1) ?hd (cs := #[.int .i64 a0_0, .int .i64 a0_1, .string a0_2, .int .i64 a0_3, .int .i64 a0_4]) (t := 45) ?hr ?_; (case hd => rfl); (case hg => rfl); (case hr => first | (go_simp; done) | (go_simp; rfl)); intro gb106 hg w19 hbox hb; have n0_ := Aside0.mk (qah (by repeat (first | (with_reducible first | exact HB.out | apply qad | apply qab | apply qac) | exact HB.out)) hb); have n1_ := Aside0.mk (hbox); have n2_ := Aside0.mk ((by rw [hg]; exact (qaj (by repeat (first | (with_reducible first | exact HB.out | apply qad | apply qab | apply qac) | exact HB.out))) : w.heap.size ≤ gb106)); have n3_ := Aside0.mk ((by rw [hg]; exact (qaj (by repeat (first | (with_reducible first | exact HB.out | apply qad | apply qab | apply qac) | exact HB.out))) : w.heap.size ≤ gb106)); clear HB; have HB := n0_; have BK106 := n1_; have GW106 := n2_; have GE106 := n3_; clear n0_ n1_ n2_ n3_; clear hb hbox hg; obtain ⟨G20_0, G20_1, G20_2, G20_3, G20_4, F20_0, F20_1, F20_2, F20_3, F20_4⟩ := shr5 BK106.out))
     go_ret
     exact ⟨by first | rfl | (simp [*] <;> rfl), by repeat (first | (with_reducible first | exact HB.out | apply qad | apply qab | apply qac | refine qaf ?_ GE106.out) | exact HB.out)⟩
   ·
    rw [if_neg c15] at H
    have c15b0 : decide ((a0_2.size : Int) ≤ 4096) = false := decide_eq_false c15
    have c15b1 : decide (a0_2.size ≤ 4096) = false := decide_eq_false (by omega)
    clear c15
    obtain rfl := Option.some.inj H
    go_enter Tryz.func49, Tryz.ntmps49
    go_wp2_with (first | ((with_reducible refine qav (N := 1) rfl ?_); refine qau ?hg (N := 1) ?hd (cs := #[.int .i64 a0_0, .int .i64 a0_1, .string a0_2, .int .i64 a0_3, .int .i64 a0_4]) (t := 45) ?hr ?_; (case hd => rfl); (case hg => rfl); (case hr => first | (go_simp; done) | (go_simp; rfl)); intro gb106 hg w21 hbox hb; have n0_ := Aside0.mk (qah (by repeat (first | (with_reducible first | exact HB.out | apply qad | apply qab | apply qac) | exact HB.out)) hb); have n1_ := Aside0.mk (hbox); have n2_ := Aside0.mk ((by rw [hg]; exact (qaj (by repeat (first | (with_reducible first | exact HB.out | apply qad | apply qab | apply qac) | exact HB.out))) : w.heap.size ≤ gb106)); have n3_ := Aside0.mk ((by rw [hg]; exact (qaj (by repeat (first | (with_reducible first | exact HB.out | apply qad | apply qab | apply qac) | exact HB.out))) : w.heap.size ≤ gb106)); clear HB; have HB := n0_; have BK106 := n1_; have GW106 := n2_; have GE106 := n3_; clear n0_ n1_ n2_ n3_; clear hb hbox hg; obtain ⟨G22_0, G22_1, G22_2, G22_3, G22_4, F22_0, F22_1, F22_2, F22_3, F22_4⟩ := shr5 BK106.out))
    go_ret
    exact ⟨by first | rfl | (simp [*] <;> rfl), by repeat (first | (with_reducible first | exact HB.out | apply qad | apply qab | apply qac | refine qaf ?_ GE106.out) | exact HB.out)⟩
  ·
   rw [if_neg c14] at H
   have c14b0 : (a0_0 == 1) = false := beq_eq_false_iff_ne.mpr c14
   have c14b1 : (a0_0 != 1) = true := bne_iff_ne.mpr c14
   by_cases c23 : a0_0 = 2
   ·
    rw [if_pos c23] at H
    have c23b0 : (a0_0 == 2) = true := beq_iff_eq.mpr c23
    have c23b1 : (a0_0 != 2) = false := bne_eq_false_iff_eq.mpr c23
    clear c23
    replace H := Option.bind_eq_some_iff.mp H
    obtain ⟨t107, A240, H⟩ := H
    replace H : (if t107 = true then (if a0_1 = 0 then (some (a0_2.toList == ([] : List UInt8))) else (some false)) else (some false)) = some r := H
    have A24 := Aside0.mk A240
    clear A240
    by_cases c25 : t107 = true
    ·
     subst c25
     have H1 : (if a0_1 = 0 then (some (a0_2.toList == ([] : List UInt8))) else (some false)) = some r := by rw [if_pos rfl] at H; exact H
     clear H
     have H := H1
     clear H1
     by_cases c26 : a0_1 = 0
     ·
      rw [if_pos c26] at H
      have c26b0 : (a0_1 == 0) = true := beq_iff_eq.mpr c26
      have c26b1 : (a0_1 != 0) = false := bne_eq_false_iff_eq.mpr c26
      clear c26
      obtain rfl := Option.some.inj H
      go_enter Tryz.func49, Tryz.ntmps49
      go_wp2_with (first | ((with_reducible refine qav (N := 1) rfl ?_); refine qau ?hg (N := 1) ?hd (cs := #[.int .i64 a0_0, .int .i64 a0_1, .string a0_2, .int .i64 a0_3, .int .i64 a0_4]) (t := 45) ?hr ?_; (case hd => rfl); (case hg => rfl); (case hr => first | (go_simp; done) | (go_simp; rfl)); intro gb106 hg w27 hbox hb; have n0_ := Aside0.mk (qah (by repeat (first | (with_reducible first | exact HB.out | apply qad | apply qab | apply qac) | exact HB.out)) hb); have n1_ := Aside0.mk (hbox); have n2_ := Aside0.mk ((by rw [hg]; exact (qaj (by repeat (first | (with_reducible first | exact HB.out | apply qad | apply qab | apply qac) | exact HB.out))) : w.heap.size ≤ gb106)); have n3_ := Aside0.mk ((by rw [hg]; exact (qaj (by repeat (first | (with_reducible first | exact HB.out | apply qad | apply qab | apply qac) | exact HB.out))) : w.heap.size ≤ gb106)); clear HB; have HB := n0_; have BK106 := n1_; have GW106 := n2_; have GE106 := n3_; clear n0_ n1_ n2_ n3_; clear hb hbox hg; obtain ⟨G28_0, G28_1, G28_2, G28_3, G28_4, F28_0, F28_1, F28_2, F28_3, F28_4⟩ := shr5 BK106.out) | ((with_reducible refine qat (f := 92) rfl ?_); refine goesL_ (some 47) rfl rfl Tryz.func92 (by kernel_rfl) rfl #[.agg #[.int .i64 a0_3, .int .i64 a0_4]] rfl (by (try simp only [List.map_toArray, List.map_cons, List.map_nil]); first | done | rfl | (simp only [List.length_drop, List.length_take]; rfl)) ?_; (with_reducible refine (rav.calls a0_3 a0_4 true _ A24.out).mono ?_); rintro e w29 ⟨rfl, hb⟩; refine ⟨_, rfl, ?_⟩; have n0_ := Aside0.mk (qan (g := gb106) (o := .cells #[.int .i64 a0_0, .int .i64 a0_1, .string a0_2, .int .i64 a0_3, .int .i64 a0_4] 45 (0, 0)) (by (with_reducible repeat (first | refine qag ?_ _ | refine qai ?_ | refine blk_alloc ?_ _)); exact BK106.out) hb); have n1_ := Aside0.mk (qah (by repeat (first | (with_reducible first | exact HB.out | apply qad | apply qab | apply qac | refine qaf ?_ GE106.out) | exact HB.out)) hb); clear BK106; clear HB; have BK106 := n0_; have HB := n1_; clear n0_ n1_; (try clear hb); (try clear hb2); (try clear hk); (try clear hi); obtain ⟨G30_0, G30_1, G30_2, G30_3, G30_4, F30_0, F30_1, F30_2, F30_3, F30_4⟩ := shr5 BK106.out))
      go_ret
      exact ⟨by first | rfl | (simp [*] <;> rfl), by repeat (first | (with_reducible first | exact HB.out | apply qad | apply qab | apply qac | refine qaf ?_ GE106.out) | exact HB.out)⟩
     ·
      rw [if_neg c26] at H
      have c26b0 : (a0_1 == 0) = false := beq_eq_false_iff_ne.mpr c26
      have c26b1 : (a0_1 != 0) = true := bne_iff_ne.mpr c26
      obtain rfl := Option.some.inj H
      go_enter Tryz.func49, Tryz.ntmps49
      go_wp2_with (first | ((with_reducible refine qav (N := 1) rfl ?_); refine qau ?hg (N := 1) ?hd (cs := #[.int .i64 a0_0, .int .i64 a0_1, .string a0_2, .int .i64 a0_3, .int .i64 a0_4]) (t := 45) ?hr ?_; (case hd => rfl); (case hg => rfl); (case hr => first | (go_simp; done) | (go_simp; rfl)); intro gb106 hg w31 hbox hb; have n0_ := Aside0.mk (qah (by repeat (first | (with_reducible first | exact HB.out | apply qad | apply qab | apply qac) | exact HB.out)) hb); have n1_ := Aside0.mk (hbox); have n2_ := Aside0.mk ((by rw [hg]; exact (qaj (by repeat (first | (with_reducible first | exact HB.out | apply qad | apply qab | apply qac) | exact HB.out))) : w.heap.size ≤ gb106)); have n3_ := Aside0.mk ((by rw [hg]; exact (qaj (by repeat (first | (with_reducible first | exact HB.out | apply qad | apply qab | apply qac) | exact HB.out))) : w.heap.size ≤ gb106)); clear HB; have HB := n0_; have BK106 := n1_; have GW106 := n2_; have GE106 := n3_; clear n0_ n1_ n2_ n3_; clear hb hbox hg; obtain ⟨G32_0, G32_1, G32_2, G32_3, G32_4, F32_0, F32_1, F32_2, F32_3, F32_4⟩ := shr5 BK106.out) | ((with_reducible refine qat (f := 92) rfl ?_); refine goesL_ (some 47) rfl rfl Tryz.func92 (by kernel_rfl) rfl #[.agg #[.int .i64 a0_3, .int .i64 a0_4]] rfl (by (try simp only [List.map_toArray, List.map_cons, List.map_nil]); first | done | rfl | (simp only [List.length_drop, List.length_take]; rfl)) ?_; (with_reducible refine (rav.calls a0_3 a0_4 true _ A24.out).mono ?_); rintro e w33 ⟨rfl, hb⟩; refine ⟨_, rfl, ?_⟩; have n0_ := Aside0.mk (qan (g := gb106) (o := .cells #[.int .i64 a0_0, .int .i64 a0_1, .string a0_2, .int .i64 a0_3, .int .i64 a0_4] 45 (0, 0)) (by (with_reducible repeat (first | refine qag ?_ _ | refine qai ?_ | refine blk_alloc ?_ _)); exact BK106.out) hb); have n1_ := Aside0.mk (qah (by repeat (first | (with_reducible first | exact HB.out | apply qad | apply qab | apply qac | refine qaf ?_ GE106.out) | exact HB.out)) hb); clear BK106; clear HB; have BK106 := n0_; have HB := n1_; clear n0_ n1_; (try clear hb); (try clear hb2); (try clear hk); (try clear hi); obtain ⟨G34_0, G34_1, G34_2, G34_3, G34_4, F34_0, F34_1, F34_2, F34_3, F34_4⟩ := shr5 BK106.out))
      go_ret
      exact ⟨by first | rfl | (simp [*] <;> rfl), by repeat (first | (with_reducible first | exact HB.out | apply qad | apply qab | apply qac | refine qaf ?_ GE106.out) | exact HB.out)⟩
    ·
     replace c25 := Bool.eq_false_iff.mpr c25
     subst c25
     have H1 : (some false) = some r := by rw [if_neg (show ¬ (false = true) by decide)] at H; exact H
     clear H
     have H := H1
     clear H1
     obtain rfl := Option.some.inj H
     go_enter Tryz.func49, Tryz.ntmps49
     go_wp2_with (first | ((with_reducible refine qav (N := 1) rfl ?_); refine qau ?hg (N := 1) ?hd (cs := #[.int .i64 a0_0, .int .i64 a0_1, .string a0_2, .int .i64 a0_3, .int .i64 a0_4]) (t := 45) ?hr ?_; (case hd => rfl); (case hg => rfl); (case hr => first | (go_simp; done) | (go_simp; rfl)); intro gb106 hg w35 hbox hb; have n0_ := Aside0.mk (qah (by repeat (first | (with_reducible first | exact HB.out | apply qad | apply qab | apply qac) | exact HB.out)) hb); have n1_ := Aside0.mk (hbox); have n2_ := Aside0.mk ((by rw [hg]; exact (qaj (by repeat (first | (with_reducible first | exact HB.out | apply qad | apply qab | apply qac) | exact HB.out))) : w.heap.size ≤ gb106)); have n3_ := Aside0.mk ((by rw [hg]; exact (qaj (by repeat (first | (with_reducible first | exact HB.out | apply qad | apply qab | apply qac) | exact HB.out))) : w.heap.size ≤ gb106)); clear HB; have HB := n0_; have BK106 := n1_; have GW106 := n2_; have GE106 := n3_; clear n0_ n1_ n2_ n3_; clear hb hbox hg; obtain ⟨G36_0, G36_1, G36_2, G36_3, G36_4, F36_0, F36_1, F36_2, F36_3, F36_4⟩ := shr5 BK106.out) | ((with_reducible refine qat (f := 92) rfl ?_); refine goesL_ (some 47) rfl rfl Tryz.func92 (by kernel_rfl) rfl #[.agg #[.int .i64 a0_3, .int .i64 a0_4]] rfl (by (try simp only [List.map_toArray, List.map_cons, List.map_nil]); first | done | rfl | (simp only [List.length_drop, List.length_take]; rfl)) ?_; (with_reducible refine (rav.calls a0_3 a0_4 false _ A24.out).mono ?_); rintro e w37 ⟨rfl, hb⟩; refine ⟨_, rfl, ?_⟩; have n0_ := Aside0.mk (qan (g := gb106) (o := .cells #[.int .i64 a0_0, .int .i64 a0_1, .string a0_2, .int .i64 a0_3, .int .i64 a0_4] 45 (0, 0)) (by (with_reducible repeat (first | refine qag ?_ _ | refine qai ?_ | refine blk_alloc ?_ _)); exact BK106.out) hb); have n1_ := Aside0.mk (qah (by repeat (first | (with_reducible first | exact HB.out | apply qad | apply qab | apply qac | refine qaf ?_ GE106.out) | exact HB.out)) hb); clear BK106; clear HB; have BK106 := n0_; have HB := n1_; clear n0_ n1_; (try clear hb); (try clear hb2); (try clear hk); (try clear hi)))
     go_ret
     exact ⟨by first | rfl | (simp [*] <;> rfl), by repeat (first | (with_reducible first | exact HB.out | apply qad | apply qab | apply qac | refine qaf ?_ GE106.out) | exact HB.out)⟩
   ·
    rw [if_neg c23] at H
    have c23b0 : (a0_0 == 2) = false := beq_eq_false_iff_ne.mpr c23
    have c23b1 : (a0_0 != 2) = true := bne_iff_ne.mpr c23
    obtain rfl := Option.some.inj H
    go_enter Tryz.func49, Tryz.ntmps49
    go_wp2_with (first | ((with_reducible refine qav (N := 1) rfl ?_); refine qau ?hg (N := 1) ?hd (cs := #[.int .i64 a0_0, .int .i64 a0_1, .string a0_2, .int .i64 a0_3, .int .i64 a0_4]) (t := 45) ?hr ?_; (case hd => rfl); (case hg => rfl); (case hr => first | (go_simp; done) | (go_simp; rfl)); intro gb106 hg w38 hbox hb; have n0_ := Aside0.mk (qah (by repeat (first | (with_reducible first | exact HB.out | apply qad | apply qab | apply qac) | exact HB.out)) hb); have n1_ := Aside0.mk (hbox); have n2_ := Aside0.mk ((by rw [hg]; exact (qaj (by repeat (first | (with_reducible first | exact HB.out | apply qad | apply qab | apply qac) | exact HB.out))) : w.heap.size ≤ gb106)); have n3_ := Aside0.mk ((by rw [hg]; exact (qaj (by repeat (first | (with_reducible first | exact HB.out | apply qad | apply qab | apply qac) | exact HB.out))) : w.heap.size ≤ gb106)); clear HB; have HB := n0_; have BK106 := n1_; have GW106 := n2_; have GE106 := n3_; clear n0_ n1_ n2_ n3_; clear hb hbox hg; obtain ⟨G39_0, G39_1, G39_2, G39_3, G39_4, F39_0, F39_1, F39_2, F39_3, F39_4⟩ := shr5 BK106.out))
    go_ret
    exact ⟨by first | rfl | (simp [*] <;> rfl), by repeat (first | (with_reducible first | exact HB.out | apply qad | apply qab | apply qac | refine qaf ?_ GE106.out) | exact HB.out)⟩
end Go.Proofs.YtejbpnhondpnfaaGreat.PJob
