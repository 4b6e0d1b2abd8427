/- JobPlays: the row and what it needs, part 6. -/
import Derived.Test.YtejbpnhondpnfaaGreatJP2
import Derived.Test.YtejbpnhondpnfaaGreatJP5
import Derived.Test.YtejbpnhondpnfaaGreatJP3
import Derived.Test.YtejbpnhondpnfaaGreatJP4
set_option linter.unusedSimpArgs false
set_option linter.unusedVariables false
namespace Go.Proofs.YtejbpnhondpnfaaGreat.PJob
open Go.RowKit Go.Proofs.YtejbpnhondpnfaaGreatW.PrintWords Go.Proofs.YtejbpnhondpnfaaGreatW.PrintLast Go.Proofs.YtejbpnhondpnfaaGreatW.PrintMore
attribute [local go_sem] qaz qbe
mutual
def rab.j0 : Nat → Bool → ByteArray → Int → Int → Int → Int → Int → List (S57) → List (S57) → List (S57) → ByteArray → Bool → Option (Int)
 | 0, _, _, _, _, _, _, _, _, _, _, _, _ => none
 | k + 1, x14, z0, z1, z2, z3, z4, z5, z6, z7, z8, z9, z10 => if x14 = true then (some 11) else (rab.l0 k 0 z0 z1 z2 z3 z4 z5 z6 z7 z8 z9 z10)
def rab.l0 : Nat → Int → ByteArray → Int → Int → Int → Int → Int → List (S57) → List (S57) → List (S57) → ByteArray → Bool → Option (Int)
 | 0, _, _, _, _, _, _, _, _, _, _, _, _ => none
 | k + 1, x3, z0, z1, z2, z3, z4, z5, z6, z7, z8, z9, z10 => if x3 < (z0.size : Int) then (if 0 ≤ x3 then (if (bt z0 x3) < 97 then (if (bt z0 x3) < 48 then (some 11) else (if (bt z0 x3) > 57 then (some 11) else (rab.l0 k (wrap64 (x3 + 1)) z0 z1 z2 z3 z4 z5 z6 z7 z8 z9 z10))) else (if (bt z0 x3) > 122 then (if (bt z0 x3) < 48 then (some 11) else (if (bt z0 x3) > 57 then (some 11) else (rab.l0 k (wrap64 (x3 + 1)) z0 z1 z2 z3 z4 z5 z6 z7 z8 z9 z10))) else (rab.l0 k (wrap64 (x3 + 1)) z0 z1 z2 z3 z4 z5 z6 z7 z8 z9 z10))) else (none)) else (if z1 < 1 then (rab.j2 k true z0 z1 z2 z3 z4 z5 z6 z7 z8 z9 z10) else (if z1 > 16 then (rab.j2 k true z0 z1 z2 z3 z4 z5 z6 z7 z8 z9 z10) else (if z2 < 1 then (rab.j2 k true z0 z1 z2 z3 z4 z5 z6 z7 z8 z9 z10) else (if z2 > 16 then (rab.j2 k true z0 z1 z2 z3 z4 z5 z6 z7 z8 z9 z10) else (if z3 < 1 then (rab.j2 k true z0 z1 z2 z3 z4 z5 z6 z7 z8 z9 z10) else (if z3 > z4 then (rab.j2 k true z0 z1 z2 z3 z4 z5 z6 z7 z8 z9 z10) else (if z4 > 16 then (rab.j2 k true z0 z1 z2 z3 z4 z5 z6 z7 z8 z9 z10) else (if z5 < 1 then (rab.j2 k true z0 z1 z2 z3 z4 z5 z6 z7 z8 z9 z10) else (rab.j2 k (decide (z5 > 100000)) z0 z1 z2 z3 z4 z5 z6 z7 z8 z9 z10)))))))))
def rab.j2 : Nat → Bool → ByteArray → Int → Int → Int → Int → Int → List (S57) → List (S57) → List (S57) → ByteArray → Bool → Option (Int)
 | 0, _, _, _, _, _, _, _, _, _, _, _, _ => none
 | k + 1, x84, z0, z1, z2, z3, z4, z5, z6, z7, z8, z9, z10 => if x84 = true then (some 14) else ((rai.f k z6).bind fun t124 => (if t124 = true then (if (z7.length : Int) > 0 then ((rai.f k z7).bind fun t125 => (if t125 = true then (if (z8.length : Int) > 0 then ((rai.f k z8).bind fun t126 => (rab.j3 k (!t126) z0 z1 z2 z3 z4 z5 z6 z7 z8 z9 z10)) else (rab.j3 k false z0 z1 z2 z3 z4 z5 z6 z7 z8 z9 z10)) else (rab.j3 k true z0 z1 z2 z3 z4 z5 z6 z7 z8 z9 z10))) else (if (z8.length : Int) > 0 then ((rai.f k z8).bind fun t127 => (rab.j3 k (!t127) z0 z1 z2 z3 z4 z5 z6 z7 z8 z9 z10)) else (rab.j3 k false z0 z1 z2 z3 z4 z5 z6 z7 z8 z9 z10))) else (rab.j3 k true z0 z1 z2 z3 z4 z5 z6 z7 z8 z9 z10)))
def rab.j3 : Nat → Bool → ByteArray → Int → Int → Int → Int → Int → List (S57) → List (S57) → List (S57) → ByteArray → Bool → Option (Int)
 | 0, _, _, _, _, _, _, _, _, _, _, _, _ => none
 | k + 1, x112, z0, z1, z2, z3, z4, z5, z6, z7, z8, z9, z10 => if x112 = true then (some 1) else (if z9.toList = ([] : List UInt8) then (rab.j4 k ((z8.length : Int) == 0) z0 z1 z2 z3 z4 z5 z6 z7 z8 z9 z10) else ((raw.f z9).bind fun t128 => (if t128 = true then (if (z8.length : Int) > 0 then (rab.j4 k true z0 z1 z2 z3 z4 z5 z6 z7 z8 z9 z10) else (rab.j4 k false z0 z1 z2 z3 z4 z5 z6 z7 z8 z9 z10)) else (rab.j4 k true z0 z1 z2 z3 z4 z5 z6 z7 z8 z9 z10))))
def rab.j4 : Nat → Bool → ByteArray → Int → Int → Int → Int → Int → List (S57) → List (S57) → List (S57) → ByteArray → Bool → Option (Int)
 | 0, _, _, _, _, _, _, _, _, _, _, _, _ => none
 | k + 1, x143, z0, z1, z2, z3, z4, z5, z6, z7, z8, z9, z10 => if x143 = true then (some 1) else ((rad.f k z6 1 2).bind fun t129 => (if t129 = true then (rab.j5 k true z0 z1 z2 z3 z4 z5 z6 z7 z8 z9 z10) else ((rad.f k z7 1 1).bind fun t130 => (if t130 = true then (rab.j5 k true z0 z1 z2 z3 z4 z5 z6 z7 z8 z9 z10) else ((rad.f k z7 1 2).bind fun t131 => (if t131 = true then (rab.j5 k true z0 z1 z2 z3 z4 z5 z6 z7 z8 z9 z10) else ((rad.f k z7 1 3).bind fun t132 => (if t132 = true then (rab.j5 k true z0 z1 z2 z3 z4 z5 z6 z7 z8 z9 z10) else ((rad.f k z7 1 4).bind fun t133 => (if t133 = true then (rab.j5 k true z0 z1 z2 z3 z4 z5 z6 z7 z8 z9 z10) else ((rad.f k z7 26 (-1)).bind fun t134 => (if t134 = true then (rab.j5 k true z0 z1 z2 z3 z4 z5 z6 z7 z8 z9 z10) else ((rad.f k z8 26 (-1)).bind fun t135 => (rab.j5 k t135 z0 z1 z2 z3 z4 z5 z6 z7 z8 z9 z10))))))))))))))
def rab.j5 : Nat → Bool → ByteArray → Int → Int → Int → Int → Int → List (S57) → List (S57) → List (S57) → ByteArray → Bool → Option (Int)
 | 0, _, _, _, _, _, _, _, _, _, _, _, _ => none
 | k + 1, x176, z0, z1, z2, z3, z4, z5, z6, z7, z8, z9, z10 => if x176 = true then (some 10) else (if z10 = true then (if z9.toList = ([] : List UInt8) then (some 19) else (some 0)) else (some 0))
end
def rab.f (k : Nat) (a0_0 : ByteArray) (a0_1 : Int) (a0_2 : Int) (a0_3 : Int) (a0_4 : Int) (a0_5 : Int) (l0_6 : List (S57)) (l0_7 : List (S57)) (l0_8 : List (S57)) (a0_9 : ByteArray) (a0_10 : Bool) : Option (Int) := if (a0_0.size : Int) < 1 then (rab.j0 k true a0_0 a0_1 a0_2 a0_3 a0_4 a0_5 l0_6 l0_7 l0_8 a0_9 a0_10) else (rab.j0 k (decide ((a0_0.size : Int) > 16)) a0_0 a0_1 a0_2 a0_3 a0_4 a0_5 l0_6 l0_7 l0_8 a0_9 a0_10)
set_option maxHeartbeats 8000000 in
set_option maxRecDepth 100000 in
theorem rab.calls (k : Nat) (a0_0 : ByteArray) (a0_1 : Int) (a0_2 : Int) (a0_3 : Int) (a0_4 : Int) (a0_5 : Int) (A0_6 : Option Addr) (c0_6 : Nat) (l0_6 : List (S57)) (A0_7 : Option Addr) (c0_7 : Nat) (l0_7 : List (S57)) (A0_8 : Option Addr) (c0_8 : Nat) (l0_8 : List (S57)) (a0_9 : ByteArray) (a0_10 : Bool) (r : Int) (w : World) (hr0_6 : Kd.C k57 w A0_6 l0_6.length l0_6) (hc0_6 : l0_6.length ≤ c0_6) (hr0_7 : Kd.C k57 w A0_7 l0_7.length l0_7) (hc0_7 : l0_7.length ≤ c0_7) (hr0_8 : Kd.C k57 w A0_8 l0_8.length l0_8) (hc0_8 : l0_8.length ≤ c0_8) (h : rab.f k a0_0 a0_1 a0_2 a0_3 a0_4 a0_5 l0_6 l0_7 l0_8 a0_9 a0_10 = some r) :
  Calls Tryz.prog 10 #[.agg #[.string a0_0, .int .i64 a0_1, .int .i64 a0_2, .int .i64 a0_3, .int .i64 a0_4, .int .i64 a0_5, .slice A0_6 l0_6.length c0_6, .slice A0_7 l0_7.length c0_7, .slice A0_8 l0_8.length c0_8, .string a0_9, .bool a0_10]] w fun e w' => e = .returned (.int .i64 r) ∧ Below w.heap.size w w' := by
 have hu24 := Tryz.underlying24
 have HR0_6 := Aside0.mk hr0_6
 have HC0_6 := Aside0.mk hc0_6
 clear hr0_6 hc0_6
 have HR0_7 := Aside0.mk hr0_7
 have HC0_7 := Aside0.mk hc0_7
 clear hr0_7 hc0_7
 have HR0_8 := Aside0.mk hr0_8
 have HC0_8 := Aside0.mk hc0_8
 clear hr0_8 hc0_8
 have HB := Aside0.mk (Below.refl w.heap.size w)
 have H : (if (a0_0.size : Int) < 1 then (rab.j0 k true a0_0 a0_1 a0_2 a0_3 a0_4 a0_5 l0_6 l0_7 l0_8 a0_9 a0_10) else (rab.j0 k (decide ((a0_0.size : Int) > 16)) a0_0 a0_1 a0_2 a0_3 a0_4 a0_5 l0_6 l0_7 l0_8 a0_9 a0_10)) = some r := h
 clear h
 have HC2 := Aside0.mk H
 clear H
 go_enter Tryz.func10, Tryz.ntmps10
 go_upto_region 1 with (first | ((with_reducible refine qav (N := 1) rfl ?_); (try (refine gate_guard (by rfl) ?_; dsimp only)); refine qau ?hg (N := 1) ?hd (cs := #[.string a0_0, .int .i64 a0_1, .int .i64 a0_2, .int .i64 a0_3, .int .i64 a0_4, .int .i64 a0_5, .slice A0_6 l0_6.length c0_6, .slice A0_7 l0_7.length c0_7, .slice A0_8 l0_8.length c0_8, .string a0_9, .bool a0_10]) (t := 24) ?hr ?_; (case hd => rfl); (case hg => rfl); (case hr => first | (go_simp; done) | (go_simp; rfl)); intro gb123 hg w3 hbox hb; have n0_ := Aside0.mk (qah (by repeat (first | (with_reducible first | exact HB.out | apply qad | apply qab | apply qac) | exact HB.out)) hb); have n1_ := Aside0.mk (hbox); have n2_ := Aside0.mk ((by rw [hg]; exact (qaj (by repeat (first | (with_reducible first | exact HB.out | apply qad | apply qab | apply qac) | exact HB.out))) : w.heap.size ≤ gb123)); have n3_ := Aside0.mk ((by rw [hg]; exact (qaj (by repeat (first | (with_reducible first | exact HB.out | apply qad | apply qab | apply qac) | exact HB.out))) : w.heap.size ≤ gb123)); clear HB; have HB := n0_; have BK123 := n1_; have GW123 := n2_; have GE123 := n3_; clear n0_ n1_ n2_ n3_; clear hb hbox hg))
 (try simp only [Act.put, sIa, sIz, sIs])
 go_cut [14] (fun v14 wc => ∃ (kq : Nat) (x14_1 : Bool), v14 = .bool x14_1 ∧ Aside0 (rab.j0 kq x14_1 a0_0 a0_1 a0_2 a0_3 a0_4 a0_5 l0_6 l0_7 l0_8 a0_9 a0_10 = some r) ∧ Aside0 (kq ≤ k) ∧ Aside0 (wc.heap[gb123]? = some (.cells #[.string a0_0, .int .i64 a0_1, .int .i64 a0_2, .int .i64 a0_3, .int .i64 a0_4, .int .i64 a0_5, (.slice A0_6 l0_6.length c0_6), (.slice A0_7 l0_7.length c0_7), (.slice A0_8 l0_8.length c0_8), .string a0_9, .bool a0_10] 24 (0, 0))) ∧ Aside0 (Below w.heap.size w wc))
 case first => as_aux_lemma =>
  have H := HC2.out
  clear HC2
  by_cases c4 : (a0_0.size : Int) < 1
  ·
   rw [if_pos c4] at H
   have c4b0 : decide ((a0_0.size : Int) < 1) = true := decide_eq_true c4
   have c4b1 : decide (a0_0.size < 1) = true := decide_eq_true (by omega)
   clear c4
   (first | rw [c4b0] | (simp only [qap, i32_w]; rw [c4b0]) | skip)
   have H' := Aside0.mk H
   clear H
   obtain ⟨G5_0, G5_1, G5_2, G5_3, G5_4, G5_5, G5_6, G5_7, G5_8, G5_9, G5_10, F5_0, F5_1, F5_2, F5_3, F5_4, F5_5, F5_6, F5_7, F5_8, F5_9, F5_10⟩ := shr11 BK123.out
   go_wp2
   go_meet
   case rel => exact ⟨_, (true), (by first | rfl | (simp; done) | (simp [*]; done)), H', ⟨by first | omega | exact Nat.le_refl _⟩, ⟨by (with_reducible repeat (first | refine qag ?_ _ | refine qai ?_ | refine blk_alloc ?_ _)); exact BK123.out⟩, ⟨by repeat (first | (with_reducible first | exact HB.out | apply qad | apply qab | apply qac | refine qaf ?_ GE123.out) | exact HB.out)⟩⟩
  ·
   rw [if_neg c4] at H
   have c4b0 : decide ((a0_0.size : Int) < 1) = false := decide_eq_false c4
   have c4b1 : decide (a0_0.size < 1) = false := decide_eq_false (by omega)
   clear c4
   (first | rw [c4b0] | (simp only [qap, i32_w]; rw [c4b0]) | skip)
   have H' := Aside0.mk H
   clear H
   obtain ⟨G6_0, G6_1, G6_2, G6_3, G6_4, G6_5, G6_6, G6_7, G6_8, G6_9, G6_10, F6_0, F6_1, F6_2, F6_3, F6_4, F6_5, F6_6, F6_7, F6_8, F6_9, F6_10⟩ := shr11 BK123.out
   go_wp2
   go_meet
   case rel => exact ⟨_, (decide ((a0_0.size : Int) > 16)), (by first | rfl | (simp; done) | (simp [*]; done)), H', ⟨by first | omega | exact Nat.le_refl _⟩, ⟨by (with_reducible repeat (first | refine qag ?_ _ | refine qai ?_ | refine blk_alloc ?_ _)); exact BK123.out⟩, ⟨by repeat (first | (with_reducible first | exact HB.out | apply qad | apply qab | apply qac | refine qaf ?_ GE123.out) | exact HB.out)⟩⟩
 case rest => as_aux_lemma =>
  clear HC2
  try clear c1
  try clear p2
  try clear c4
  try clear c4b0
  try clear c4b1
  try clear G5_0 G5_1 G5_10 G5_2 G5_3 G5_4 G5_5 G5_6 G5_7 G5_8 G5_9 F5_0 F5_1 F5_10 F5_2 F5_3 F5_4 F5_5 F5_6 F5_7 F5_8 F5_9
  try clear G6_0 G6_1 G6_10 G6_2 G6_3 G6_4 G6_5 G6_6 G6_7 G6_8 G6_9 F6_0 F6_1 F6_10 F6_2 F6_3 F6_4 F6_5 F6_6 F6_7 F6_8 F6_9
  obtain ⟨kq, x14_1, rfl, HA, HJ1, BK123, HB⟩ := hcut
  cases kq with
  | zero => exact absurd HA.out (by simp [rab.j0])
  | succ kj1 =>
   have H := HA.out
   clear HA
   simp only [rab.j0] at H
   by_cases c7 : x14_1 = true
   ·
    subst c7
    have H1 : (some 11) = some r := by rw [if_pos rfl] at H; exact H
    clear H
    have H := H1
    clear H1
    obtain rfl := Option.some.inj H
    go_wp2
    go_ret
    exact ⟨by first | rfl | (simp [*] <;> rfl), by repeat (first | (with_reducible first | exact HB.out | apply qad | apply qab | apply qac | refine qaf ?_ GE123.out) | exact HB.out)⟩
   ·
    replace c7 := Bool.eq_false_iff.mpr c7
    subst c7
    have H1 : (rab.l0 kj1 0 a0_0 a0_1 a0_2 a0_3 a0_4 a0_5 l0_6 l0_7 l0_8 a0_9 a0_10) = some r := by rw [if_neg (show ¬ (false = true) by decide)] at H; exact H
    clear H
    have H := H1
    clear H1
    have H' := Aside0.mk H
    clear H
    go_wp2
    go_loopg [3] kj1 (fun kq v3 w' => ∃ (x3_2 : Int), v3 = .int .i64 x3_2 ∧ Aside0 (rab.l0 kq x3_2 a0_0 a0_1 a0_2 a0_3 a0_4 a0_5 l0_6 l0_7 l0_8 a0_9 a0_10 = some r) ∧ Aside0 (kq ≤ kj1) ∧ Aside0 (w'.heap[gb123]? = some (.cells #[.string a0_0, .int .i64 a0_1, .int .i64 a0_2, .int .i64 a0_3, .int .i64 a0_4, .int .i64 a0_5, (.slice A0_6 l0_6.length c0_6), (.slice A0_7 l0_7.length c0_7), (.slice A0_8 l0_8.length c0_8), .string a0_9, .bool a0_10] 24 (0, 0))) ∧ Aside0 (Below w.heap.size w w'))
    case atStart => exact ⟨(0), (by first | rfl | (simp; done) | (simp [*]; done)), H', ⟨Nat.le_refl _⟩, ⟨by (with_reducible repeat (first | refine qag ?_ _ | refine qai ?_ | refine blk_alloc ?_ _)); exact BK123.out⟩, ⟨by repeat (first | (with_reducible first | exact HB.out | apply qad | apply qab | apply qac | refine qaf ?_ GE123.out) | exact HB.out)⟩⟩
    case round => as_aux_lemma =>
     clear H'
     try clear c1
     try clear p2
     try clear c4
     try clear c4b0
     try clear c4b1
     try clear c7
     try clear G5_0 G5_1 G5_10 G5_2 G5_3 G5_4 G5_5 G5_6 G5_7 G5_8 G5_9 F5_0 F5_1 F5_10 F5_2 F5_3 F5_4 F5_5 F5_6 F5_7 F5_8 F5_9
     try clear G6_0 G6_1 G6_10 G6_2 G6_3 G6_4 G6_5 G6_6 G6_7 G6_8 G6_9 F6_0 F6_1 F6_10 F6_2 F6_3 F6_4 F6_5 F6_6 F6_7 F6_8 F6_9
     obtain ⟨x3_2, rfl, HA, HK2, BK123, HB⟩ := hrel
     cases gk with
     | zero => exact absurd HA.out (by simp [rab.l0])
     | succ k2 =>
      have H := HA.out
      clear HA
      simp only [rab.l0] at H
      by_cases c8 : x3_2 < (a0_0.size : Int)
      ·
       rw [if_pos c8] at H
       have c8b0 : decide (x3_2 < (a0_0.size : Int)) = true := decide_eq_true c8
       clear c8
       by_cases c9 : 0 ≤ x3_2
       ·
        rw [if_pos c9] at H
        have c9b0 : decide (0 ≤ x3_2) = true := decide_eq_true c9
        clear c9
        by_cases c11 : (bt a0_0 x3_2) < 97
        ·
         rw [if_pos c11] at H
         have c11b0 : decide ((bt a0_0 x3_2) < 97) = true := decide_eq_true c11
         clear c11
         by_cases c12 : (bt a0_0 x3_2) < 48
         ·
          rw [if_pos c12] at H
          have c12b0 : decide ((bt a0_0 x3_2) < 48) = true := decide_eq_true c12
          clear c12
          obtain rfl := Option.some.inj H
          obtain ⟨G13_0, G13_1, G13_2, G13_3, G13_4, G13_5, G13_6, G13_7, G13_8, G13_9, G13_10, F13_0, F13_1, F13_2, F13_3, F13_4, F13_5, F13_6, F13_7, F13_8, F13_9, F13_10⟩ := shr11 BK123.out
          have p10 : 0 ≤ (x3_2 : Int) := of_decide_eq_true (by first | (with_reducible assumption) | assumption)
          have q10 : x3_2 < (a0_0.size : Int) := of_decide_eq_true (by first | (with_reducible assumption) | assumption)
          have hx10 := bt_at a0_0 x3_2
          replace p10 := eq_true p10
          replace q10 := eq_true q10
          go_wp2
          go_ret
          exact ⟨by first | rfl | (simp [*] <;> rfl), by repeat (first | (with_reducible first | exact HB.out | apply qad | apply qab | apply qac | refine qaf ?_ GE123.out) | exact HB.out)⟩
         ·
          rw [if_neg c12] at H
          have c12b0 : decide ((bt a0_0 x3_2) < 48) = false := decide_eq_false c12
          clear c12
          by_cases c14 : (bt a0_0 x3_2) > 57
          ·
           rw [if_pos c14] at H
           have c14b0 : decide (57 < (bt a0_0 x3_2)) = true := decide_eq_true c14
           clear c14
           obtain rfl := Option.some.inj H
           obtain ⟨G15_0, G15_1, G15_2, G15_3, G15_4, G15_5, G15_6, G15_7, G15_8, G15_9, G15_10, F15_0, F15_1, F15_2, F15_3, F15_4, F15_5, F15_6, F15_7, F15_8, F15_9, F15_10⟩ := shr11 BK123.out
           have p10 : 0 ≤ (x3_2 : Int) := of_decide_eq_true (by first | (with_reducible assumption) | assumption)
           have q10 : x3_2 < (a0_0.size : Int) := of_decide_eq_true (by first | (with_reducible assumption) | assumption)
           have hx10 := bt_at a0_0 x3_2
           replace p10 := eq_true p10
           replace q10 := eq_true q10
           go_wp2
           go_ret
           exact ⟨by first | rfl | (simp [*] <;> rfl), by repeat (first | (with_reducible first | exact HB.out | apply qad | apply qab | apply qac | refine qaf ?_ GE123.out) | exact HB.out)⟩
          ·
           rw [if_neg c14] at H
           have c14b0 : decide (57 < (bt a0_0 x3_2)) = false := decide_eq_false c14
           clear c14
           have H' := Aside0.mk H
           clear H
           obtain ⟨G16_0, G16_1, G16_2, G16_3, G16_4, G16_5, G16_6, G16_7, G16_8, G16_9, G16_10, F16_0, F16_1, F16_2, F16_3, F16_4, F16_5, F16_6, F16_7, F16_8, F16_9, F16_10⟩ := shr11 BK123.out
           have p10 : 0 ≤ (x3_2 : Int) := of_decide_eq_true (by first | (with_reducible assumption) | assumption)
           have q10 : x3_2 < (a0_0.size : Int) := of_decide_eq_true (by first | (with_reducible assumption) | assumption)
           have hx10 := bt_at a0_0 x3_2
           replace p10 := eq_true p10
           replace q10 := eq_true q10
           go_wp2
           go_roundg k2
           case measure => have := HJ1.out; have := HK2.out; omega
           case rel => exact ⟨(wrap64 (x3_2 + 1)), (by first | rfl | (simp; done) | (simp [*]; done)), H', ⟨by have := HJ1.out; have := HK2.out; omega⟩, ⟨by (with_reducible repeat (first | refine qag ?_ _ | refine qai ?_ | refine blk_alloc ?_ _)); exact BK123.out⟩, ⟨by repeat (first | (with_reducible first | exact HB.out | apply qad | apply qab | apply qac | refine qaf ?_ GE123.out) | exact HB.out)⟩⟩
        ·
         rw [if_neg c11] at H
         have c11b0 : decide ((bt a0_0 x3_2) < 97) = false := decide_eq_false c11
         clear c11
         by_cases c17 : (bt a0_0 x3_2) > 122
         ·
          rw [if_pos c17] at H
          have c17b0 : decide (122 < (bt a0_0 x3_2)) = true := decide_eq_true c17
          clear c17
          by_cases c18 : (bt a0_0 x3_2) < 48
          ·
           rw [if_pos c18] at H
           have c18b0 : decide ((bt a0_0 x3_2) < 48) = true := decide_eq_true c18
           clear c18
           obtain rfl := Option.some.inj H
           obtain ⟨G19_0, G19_1, G19_2, G19_3, G19_4, G19_5, G19_6, G19_7, G19_8, G19_9, G19_10, F19_0, F19_1, F19_2, F19_3, F19_4, F19_5, F19_6, F19_7, F19_8, F19_9, F19_10⟩ := shr11 BK123.out
           have p10 : 0 ≤ (x3_2 : Int) := of_decide_eq_true (by first | (with_reducible assumption) | assumption)
           have q10 : x3_2 < (a0_0.size : Int) := of_decide_eq_true (by first | (with_reducible assumption) | assumption)
           have hx10 := bt_at a0_0 x3_2
           replace p10 := eq_true p10
           replace q10 := eq_true q10
           go_wp2
           go_ret
           exact ⟨by first | rfl | (simp [*] <;> rfl), by repeat (first | (with_reducible first | exact HB.out | apply qad | apply qab | apply qac | refine qaf ?_ GE123.out) | exact HB.out)⟩
          ·
           rw [if_neg c18] at H
           have c18b0 : decide ((bt a0_0 x3_2) < 48) = false := decide_eq_false c18
           clear c18
           by_cases c20 : (bt a0_0 x3_2) > 57
           ·
            rw [if_pos c20] at H
            have c20b0 : decide (57 < (bt a0_0 x3_2)) = true := decide_eq_true c20
            clear c20
            obtain rfl := Option.some.inj H
            obtain ⟨G21_0, G21_1, G21_2, G21_3, G21_4, G21_5, G21_6, G21_7, G21_8, G21_9, G21_10, F21_0, F21_1, F21_2, F21_3, F21_4, F21_5, F21_6, F21_7, F21_8, F21_9, F21_10⟩ := shr11 BK123.out
            have p10 : 0 ≤ (x3_2 : Int) := of_decide_eq_true (by first | (with_reducible assumption) | assumption)
            have q10 : x3_2 < (a0_0.size : Int) := of_decide_eq_true (by first | (with_reducible assumption) | assumption)
            have hx10 := bt_at a0_0 x3_2
            replace p10 := eq_true p10
            replace q10 := eq_true q10
            go_wp2
            go_ret
            exact ⟨by first | rfl | (simp [*] <;> rfl), by repeat (first | (with_reducible first | exact HB.out | apply qad | apply qab | apply qac | refine qaf ?_ GE123.out) | exact HB.out)⟩
           ·
            rw [if_neg c20] at H
            have c20b0 : decide (57 < (bt a0_0 x3_2)) = false := decide_eq_false c20
            clear c20
            have H' := Aside0.mk H
            clear H
            obtain ⟨G22_0, G22_1, G22_2, G22_3, G22_4, G22_5, G22_6, G22_7, G22_8, G22_9, G22_10, F22_0, F22_1, F22_2, F22_3, F22_4, F22_5, F22_6, F22_7, F22_8, F22_9, F22_10⟩ := shr11 BK123.out
            have p10 : 0 ≤ (x3_2 : Int) := of_decide_eq_true (by first | (with_reducible assumption) | assumption)
            have q10 : x3_2 < (a0_0.size : Int) := of_decide_eq_true (by first | (with_reducible assumption) | assumption)
            have hx10 := bt_at a0_0 x3_2
            replace p10 := eq_true p10
            replace q10 := eq_true q10
            go_wp2
            go_roundg k2
            case measure => have := HJ1.out; have := HK2.out; omega
            case rel => exact ⟨(wrap64 (x3_2 + 1)), (by first | rfl | (simp; done) | (simp [*]; done)), H', ⟨by have := HJ1.out; have := HK2.out; omega⟩, ⟨by (with_reducible repeat (first | refine qag ?_ _ | refine qai ?_ | refine blk_alloc ?_ _)); exact BK123.out⟩, ⟨by repeat (first | (with_reducible first | exact HB.out | apply qad | apply qab | apply qac | refine qaf ?_ GE123.out) | exact HB.out)⟩⟩
         ·
          rw [if_neg c17] at H
          have c17b0 : decide (122 < (bt a0_0 x3_2)) = false := decide_eq_false c17
          clear c17
          have H' := Aside0.mk H
          clear H
          obtain ⟨G23_0, G23_1, G23_2, G23_3, G23_4, G23_5, G23_6, G23_7, G23_8, G23_9, G23_10, F23_0, F23_1, F23_2, F23_3, F23_4, F23_5, F23_6, F23_7, F23_8, F23_9, F23_10⟩ := shr11 BK123.out
          have p10 : 0 ≤ (x3_2 : Int) := of_decide_eq_true (by first | (with_reducible assumption) | assumption)
          have q10 : x3_2 < (a0_0.size : Int) := of_decide_eq_true (by first | (with_reducible assumption) | assumption)
          have hx10 := bt_at a0_0 x3_2
          replace p10 := eq_true p10
          replace q10 := eq_true q10
          go_wp2
          go_roundg k2
          case measure => have := HJ1.out; have := HK2.out; omega
          case rel => exact ⟨(wrap64 (x3_2 + 1)), (by first | rfl | (simp; done) | (simp [*]; done)), H', ⟨by have := HJ1.out; have := HK2.out; omega⟩, ⟨by (with_reducible repeat (first | refine qag ?_ _ | refine qai ?_ | refine blk_alloc ?_ _)); exact BK123.out⟩, ⟨by repeat (first | (with_reducible first | exact HB.out | apply qad | apply qab | apply qac | refine qaf ?_ GE123.out) | exact HB.out)⟩⟩
       ·
        rw [if_neg c9] at H
        exact absurd H (by simp)
      ·
       rw [if_neg c8] at H
       have c8b0 : decide (x3_2 < (a0_0.size : Int)) = false := decide_eq_false c8
       clear c8
       have HC24 := Aside0.mk H
       clear H
       obtain ⟨G25_0, G25_1, G25_2, G25_3, G25_4, G25_5, G25_6, G25_7, G25_8, G25_9, G25_10, F25_0, F25_1, F25_2, F25_3, F25_4, F25_5, F25_6, F25_7, F25_8, F25_9, F25_10⟩ := shr11 BK123.out
       go_upto_region 9 with (fail)
       go_cut [84] (fun v84 wc => ∃ (kq : Nat) (x84_23 : Bool), v84 = .bool x84_23 ∧ Aside0 (rab.j2 kq x84_23 a0_0 a0_1 a0_2 a0_3 a0_4 a0_5 l0_6 l0_7 l0_8 a0_9 a0_10 = some r) ∧ Aside0 (kq ≤ k2) ∧ Aside0 (wc.heap[gb123]? = some (.cells #[.string a0_0, .int .i64 a0_1, .int .i64 a0_2, .int .i64 a0_3, .int .i64 a0_4, .int .i64 a0_5, (.slice A0_6 l0_6.length c0_6), (.slice A0_7 l0_7.length c0_7), (.slice A0_8 l0_8.length c0_8), .string a0_9, .bool a0_10] 24 (0, 0))) ∧ Aside0 (Below w.heap.size w wc))
       case first => as_aux_lemma =>
        have H := HC24.out
        clear HC24
        by_cases c26 : a0_1 < 1
        ·
         rw [if_pos c26] at H
         have c26b0 : decide (a0_1 < 1) = true := decide_eq_true c26
         clear c26
         (first | rw [c26b0] | (simp only [qap, i32_w]; rw [c26b0]) | skip)
         have H' := Aside0.mk H
         clear H
         obtain ⟨G27_0, G27_1, G27_2, G27_3, G27_4, G27_5, G27_6, G27_7, G27_8, G27_9, G27_10, F27_0, F27_1, F27_2, F27_3, F27_4, F27_5, F27_6, F27_7, F27_8, F27_9, F27_10⟩ := shr11 BK123.out
         go_wp2
         go_meet
         case rel => exact ⟨_, (true), (by first | rfl | (simp; done) | (simp [*]; done)), H', ⟨by have := HJ1.out; have := HK2.out; first | omega | exact Nat.le_refl _⟩, ⟨by (with_reducible repeat (first | refine qag ?_ _ | refine qai ?_ | refine blk_alloc ?_ _)); exact BK123.out⟩, ⟨by repeat (first | (with_reducible first | exact HB.out | apply qad | apply qab | apply qac | refine qaf ?_ GE123.out) | exact HB.out)⟩⟩
        ·
         rw [if_neg c26] at H
         have c26b0 : decide (a0_1 < 1) = false := decide_eq_false c26
         clear c26
         (first | rw [c26b0] | (simp only [qap, i32_w]; rw [c26b0]) | skip)
         by_cases c28 : a0_1 > 16
         ·
          rw [if_pos c28] at H
          have c28b0 : decide (16 < a0_1) = true := decide_eq_true c28
          clear c28
          have H' := Aside0.mk H
          clear H
          obtain ⟨G29_0, G29_1, G29_2, G29_3, G29_4, G29_5, G29_6, G29_7, G29_8, G29_9, G29_10, F29_0, F29_1, F29_2, F29_3, F29_4, F29_5, F29_6, F29_7, F29_8, F29_9, F29_10⟩ := shr11 BK123.out
          go_wp2
          go_meet
          case rel => exact ⟨_, (true), (by first | rfl | (simp; done) | (simp [*]; done)), H', ⟨by have := HJ1.out; have := HK2.out; first | omega | exact Nat.le_refl _⟩, ⟨by (with_reducible repeat (first | refine qag ?_ _ | refine qai ?_ | refine blk_alloc ?_ _)); exact BK123.out⟩, ⟨by repeat (first | (with_reducible first | exact HB.out | apply qad | apply qab | apply qac | refine qaf ?_ GE123.out) | exact HB.out)⟩⟩
         ·
          rw [if_neg c28] at H
          have c28b0 : decide (16 < a0_1) = false := decide_eq_false c28
          clear c28
          by_cases c30 : a0_2 < 1
          ·
           rw [if_pos c30] at H
           have c30b0 : decide (a0_2 < 1) = true := decide_eq_true c30
           clear c30
           have H' := Aside0.mk H
           clear H
           obtain ⟨G31_0, G31_1, G31_2, G31_3, G31_4, G31_5, G31_6, G31_7, G31_8, G31_9, G31_10, F31_0, F31_1, F31_2, F31_3, F31_4, F31_5, F31_6, F31_7, F31_8, F31_9, F31_10⟩ := shr11 BK123.out
           go_wp2
           go_meet
           case rel => exact ⟨_, (true), (by first | rfl | (simp; done) | (simp [*]; done)), H', ⟨by have := HJ1.out; have := HK2.out; first | omega | exact Nat.le_refl _⟩, ⟨by (with_reducible repeat (first | refine qag ?_ _ | refine qai ?_ | refine blk_alloc ?_ _)); exact BK123.out⟩, ⟨by repeat (first | (with_reducible first | exact HB.out | apply qad | apply qab | apply qac | refine qaf ?_ GE123.out) | exact HB.out)⟩⟩
          ·
           rw [if_neg c30] at H
           have c30b0 : decide (a0_2 < 1) = false := decide_eq_false c30
           clear c30
           by_cases c32 : a0_2 > 16
           ·
            rw [if_pos c32] at H
            have c32b0 : decide (16 < a0_2) = true := decide_eq_true c32
            clear c32
            have H' := Aside0.mk H
            clear H
            obtain ⟨G33_0, G33_1, G33_2, G33_3, G33_4, G33_5, G33_6, G33_7, G33_8, G33_9, G33_10, F33_0, F33_1, F33_2, F33_3, F33_4, F33_5, F33_6, F33_7, F33_8, F33_9, F33_10⟩ := shr11 BK123.out
            go_wp2
            go_meet
            case rel => exact ⟨_, (true), (by first | rfl | (simp; done) | (simp [*]; done)), H', ⟨by have := HJ1.out; have := HK2.out; first | omega | exact Nat.le_refl _⟩, ⟨by (with_reducible repeat (first | refine qag ?_ _ | refine qai ?_ | refine blk_alloc ?_ _)); exact BK123.out⟩, ⟨by repeat (first | (with_reducible first | exact HB.out | apply qad | apply qab | apply qac | refine qaf ?_ GE123.out) | exact HB.out)⟩⟩
           ·
            rw [if_neg c32] at H
            have c32b0 : decide (16 < a0_2) = false := decide_eq_false c32
            clear c32
            by_cases c34 : a0_3 < 1
            ·
             rw [if_pos c34] at H
             have c34b0 : decide (a0_3 < 1) = true := decide_eq_true c34
             clear c34
             have H' := Aside0.mk H
             clear H
             obtain ⟨G35_0, G35_1, G35_2, G35_3, G35_4, G35_5, G35_6, G35_7, G35_8, G35_9, G35_10, F35_0, F35_1, F35_2, F35_3, F35_4, F35_5, F35_6, F35_7, F35_8, F35_9, F35_10⟩ := shr11 BK123.out
             go_wp2
             go_meet
             case rel => exact ⟨_, (true), (by first | rfl | (simp; done) | (simp [*]; done)), H', ⟨by have := HJ1.out; have := HK2.out; first | omega | exact Nat.le_refl _⟩, ⟨by (with_reducible repeat (first | refine qag ?_ _ | refine qai ?_ | refine blk_alloc ?_ _)); exact BK123.out⟩, ⟨by repeat (first | (with_reducible first | exact HB.out | apply qad | apply qab | apply qac | refine qaf ?_ GE123.out) | exact HB.out)⟩⟩
            ·
             rw [if_neg c34] at H
             have c34b0 : decide (a0_3 < 1) = false := decide_eq_false c34
             clear c34
             by_cases c36 : a0_3 > a0_4
             ·
              rw [if_pos c36] at H
              have c36b0 : decide (a0_4 < a0_3) = true := decide_eq_true c36
              clear c36
              have H' := Aside0.mk H
              clear H
              obtain ⟨G37_0, G37_1, G37_2, G37_3, G37_4, G37_5, G37_6, G37_7, G37_8, G37_9, G37_10, F37_0, F37_1, F37_2, F37_3, F37_4, F37_5, F37_6, F37_7, F37_8, F37_9, F37_10⟩ := shr11 BK123.out
              go_wp2
              go_meet
              case rel => exact ⟨_, (true), (by first | rfl | (simp; done) | (simp [*]; done)), H', ⟨by have := HJ1.out; have := HK2.out; first | omega | exact Nat.le_refl _⟩, ⟨by (with_reducible repeat (first | refine qag ?_ _ | refine qai ?_ | refine blk_alloc ?_ _)); exact BK123.out⟩, ⟨by repeat (first | (with_reducible first | exact HB.out | apply qad | apply qab | apply qac | refine qaf ?_ GE123.out) | exact HB.out)⟩⟩
             ·
              rw [if_neg c36] at H
              have c36b0 : decide (a0_4 < a0_3) = false := decide_eq_false c36
              clear c36
              by_cases c38 : a0_4 > 16
              ·
               rw [if_pos c38] at H
               have c38b0 : decide (16 < a0_4) = true := decide_eq_true c38
               clear c38
               have H' := Aside0.mk H
               clear H
               obtain ⟨G39_0, G39_1, G39_2, G39_3, G39_4, G39_5, G39_6, G39_7, G39_8, G39_9, G39_10, F39_0, F39_1, F39_2, F39_3, F39_4, F39_5, F39_6, F39_7, F39_8, F39_9, F39_10⟩ := shr11 BK123.out
               go_wp2
               go_meet
               case rel => exact ⟨_, (true), (by first | rfl | (simp; done) | (simp [*]; done)), H', ⟨by have := HJ1.out; have := HK2.out; first | omega | exact Nat.le_refl _⟩, ⟨by (with_reducible repeat (first | refine qag ?_ _ | refine qai ?_ | refine blk_alloc ?_ _)); exact BK123.out⟩, ⟨by repeat (first | (with_reducible first | exact HB.out | apply qad | apply qab | apply qac | refine qaf ?_ GE123.out) | exact HB.out)⟩⟩
              ·
               rw [if_neg c38] at H
               have c38b0 : decide (16 < a0_4) = false := decide_eq_false c38
               clear c38
               by_cases c40 : a0_5 < 1
               ·
                rw [if_pos c40] at H
                have c40b0 : decide (a0_5 < 1) = true := decide_eq_true c40
                clear c40
                have H' := Aside0.mk H
                clear H
                obtain ⟨G41_0, G41_1, G41_2, G41_3, G41_4, G41_5, G41_6, G41_7, G41_8, G41_9, G41_10, F41_0, F41_1, F41_2, F41_3, F41_4, F41_5, F41_6, F41_7, F41_8, F41_9, F41_10⟩ := shr11 BK123.out
                go_wp2
                go_meet
                case rel => exact ⟨_, (true), (by first | rfl | (simp; done) | (simp [*]; done)), H', ⟨by have := HJ1.out; have := HK2.out; first | omega | exact Nat.le_refl _⟩, ⟨by (with_reducible repeat (first | refine qag ?_ _ | refine qai ?_ | refine blk_alloc ?_ _)); exact BK123.out⟩, ⟨by repeat (first | (with_reducible first | exact HB.out | apply qad | apply qab | apply qac | refine qaf ?_ GE123.out) | exact HB.out)⟩⟩
               ·
                rw [if_neg c40] at H
                have c40b0 : decide (a0_5 < 1) = false := decide_eq_false c40
                clear c40
                have H' := Aside0.mk H
                clear H
                obtain ⟨G42_0, G42_1, G42_2, G42_3, G42_4, G42_5, G42_6, G42_7, G42_8, G42_9, G42_10, F42_0, F42_1, F42_2, F42_3, F42_4, F42_5, F42_6, F42_7, F42_8, F42_9, F42_10⟩ := shr11 BK123.out
                go_wp2
                go_meet
                case rel => exact ⟨_, (decide (a0_5 > 100000)), (by first | rfl | (simp; done) | (simp [*]; done)), H', ⟨by have := HJ1.out; have := HK2.out; first | omega | exact Nat.le_refl _⟩, ⟨by (with_reducible repeat (first | refine qag ?_ _ | refine qai ?_ | refine blk_alloc ?_ _)); exact BK123.out⟩, ⟨by repeat (first | (with_reducible first | exact HB.out | apply qad | apply qab | apply qac | refine qaf ?_ GE123.out) | exact HB.out)⟩⟩
       case rest => as_aux_lemma =>
        clear HC24
        try clear c1
        try clear p1
        try clear q1
        try clear hx1
        try clear c2
        try clear p2
        try clear c3
        try clear c4
        try clear p6
        try clear c8
        try clear c8b0
        try clear c9
        try clear p10
        try clear q10
        try clear hx10
        try clear c11
        try clear c11b0
        try clear c12
        try clear c12b0
        try clear c14
        try clear c14b0
        try clear c17
        try clear c17b0
        try clear c18
        try clear c18b0
        try clear c20
        try clear c20b0
        try clear c26
        try clear c26b0
        try clear c28
        try clear c28b0
        try clear c30
        try clear c30b0
        try clear c32
        try clear c32b0
        try clear c34
        try clear c34b0
        try clear c36
        try clear c36b0
        try clear c38
        try clear c38b0
        try clear c40
        try clear c40b0
        try clear G13_0 G13_1 G13_10 G13_2 G13_3 G13_4 G13_5 G13_6 G13_7 G13_8 G13_9 F13_0 F13_1 F13_10 F13_2 F13_3 F13_4 F13_5 F13_6 F13_7 F13_8 F13_9
        try clear G15_0 G15_1 G15_10 G15_2 G15_3 G15_4 G15_5 G15_6 G15_7 G15_8 G15_9 F15_0 F15_1 F15_10 F15_2 F15_3 F15_4 F15_5 F15_6 F15_7 F15_8 F15_9
        try clear G16_0 G16_1 G16_10 G16_2 G16_3 G16_4 G16_5 G16_6 G16_7 G16_8 G16_9 F16_0 F16_1 F16_10 F16_2 F16_3 F16_4 F16_5 F16_6 F16_7 F16_8 F16_9
        try clear G19_0 G19_1 G19_10 G19_2 G19_3 G19_4 G19_5 G19_6 G19_7 G19_8 G19_9 F19_0 F19_1 F19_10 F19_2 F19_3 F19_4 F19_5 F19_6 F19_7 F19_8 F19_9
        try clear G21_0 G21_1 G21_10 G21_2 G21_3 G21_4 G21_5 G21_6 G21_7 G21_8 G21_9 F21_0 F21_1 F21_10 F21_2 F21_3 F21_4 F21_5 F21_6 F21_7 F21_8 F21_9
        try clear G22_0 G22_1 G22_10 G22_2 G22_3 G22_4 G22_5 G22_6 G22_7 G22_8 G22_9 F22_0 F22_1 F22_10 F22_2 F22_3 F22_4 F22_5 F22_6 F22_7 F22_8 F22_9
        try clear G23_0 G23_1 G23_10 G23_2 G23_3 G23_4 G23_5 G23_6 G23_7 G23_8 G23_9 F23_0 F23_1 F23_10 F23_2 F23_3 F23_4 F23_5 F23_6 F23_7 F23_8 F23_9
        try clear G25_0 G25_1 G25_10 G25_2 G25_3 G25_4 G25_5 G25_6 G25_7 G25_8 G25_9 F25_0 F25_1 F25_10 F25_2 F25_3 F25_4 F25_5 F25_6 F25_7 F25_8 F25_9
        try clear G27_0 G27_1 G27_10 G27_2 G27_3 G27_4 G27_5 G27_6 G27_7 G27_8 G27_9 F27_0 F27_1 F27_10 F27_2 F27_3 F27_4 F27_5 F27_6 F27_7 F27_8 F27_9
        try clear G29_0 G29_1 G29_10 G29_2 G29_3 G29_4 G29_5 G29_6 G29_7 G29_8 G29_9 F29_0 F29_1 F29_10 F29_2 F29_3 F29_4 F29_5 F29_6 F29_7 F29_8 F29_9
        try clear G31_0 G31_1 G31_10 G31_2 G31_3 G31_4 G31_5 G31_6 G31_7 G31_8 G31_9 F31_0 F31_1 F31_10 F31_2 F31_3 F31_4 F31_5 F31_6 F31_7 F31_8 F31_9
        try clear G33_0 G33_1 G33_10 G33_2 G33_3 G33_4 G33_5 G33_6 G33_7 G33_8 G33_9 F33_0 F33_1 F33_10 F33_2 F33_3 F33_4 F33_5 F33_6 F33_7 F33_8 F33_9
        try clear G35_0 G35_1 G35_10 G35_2 G35_3 G35_4 G35_5 G35_6 G35_7 G35_8 G35_9 F35_0 F35_1 F35_10 F35_2 F35_3 F35_4 F35_5 F35_6 F35_7 F35_8 F35_9
        try clear G37_0 G37_1 G37_10 G37_2 G37_3 G37_4 G37_5 G37_6 G37_7 G37_8 G37_9 F37_0 F37_1 F37_10 F37_2 F37_3 F37_4 F37_5 F37_6 F37_7 F37_8 F37_9
        try clear G39_0 G39_1 G39_10 G39_2 G39_3 G39_4 G39_5 G39_6 G39_7 G39_8 G39_9 F39_0 F39_1 F39_10 F39_2 F39_3 F39_4 F39_5 F39_6 F39_7 F39_8 F39_9
        try clear G41_0 G41_1 G41_10 G41_2 G41_3 G41_4 G41_5 G41_6 G41_7 G41_8 G41_9 F41_0 F41_1 F41_10 F41_2 F41_3 F41_4 F41_5 F41_6 F41_7 F41_8 F41_9
        try clear G42_0 G42_1 G42_10 G42_2 G42_3 G42_4 G42_5 G42_6 G42_7 G42_8 G42_9 F42_0 F42_1 F42_10 F42_2 F42_3 F42_4 F42_5 F42_6 F42_7 F42_8 F42_9
        obtain ⟨kq, x84_23, rfl, HA, HJ23, BK123, HB⟩ := hcut
        cases kq with
        | zero => exact absurd HA.out (by simp [rab.j2])
        | succ kj23 =>
         have H := HA.out
         clear HA
         simp only [rab.j2] at H
         by_cases c43 : x84_23 = true
         ·
          subst c43
          have H1 : (some 14) = some r := by rw [if_pos rfl] at H; exact H
          clear H
          have H := H1
          clear H1
          obtain rfl := Option.some.inj H
          go_wp2
          go_ret
          exact ⟨by first | rfl | (simp [*] <;> rfl), by repeat (first | (with_reducible first | exact HB.out | apply qad | apply qab | apply qac | refine qaf ?_ GE123.out) | exact HB.out)⟩
         ·
          replace c43 := Bool.eq_false_iff.mpr c43
          subst c43
          have H1 : ((rai.f kj23 l0_6).bind fun t124 => (if t124 = true then (if (l0_7.length : Int) > 0 then ((rai.f kj23 l0_7).bind fun t125 => (if t125 = true then (if (l0_8.length : Int) > 0 then ((rai.f kj23 l0_8).bind fun t126 => (rab.j3 kj23 (!t126) a0_0 a0_1 a0_2 a0_3 a0_4 a0_5 l0_6 l0_7 l0_8 a0_9 a0_10)) else (rab.j3 kj23 false a0_0 a0_1 a0_2 a0_3 a0_4 a0_5 l0_6 l0_7 l0_8 a0_9 a0_10)) else (rab.j3 kj23 true a0_0 a0_1 a0_2 a0_3 a0_4 a0_5 l0_6 l0_7 l0_8 a0_9 a0_10))) else (if (l0_8.length : Int) > 0 then ((rai.f kj23 l0_8).bind fun t127 => (rab.j3 kj23 (!t127) a0_0 a0_1 a0_2 a0_3 a0_4 a0_5 l0_6 l0_7 l0_8 a0_9 a0_10)) else (rab.j3 kj23 false a0_0 a0_1 a0_2 a0_3 a0_4 a0_5 l0_6 l0_7 l0_8 a0_9 a0_10))) else (rab.j3 kj23 true a0_0 a0_1 a0_2 a0_3 a0_4 a0_5 l0_6 l0_7 l0_8 a0_9 a0_10))) = some r := by rw [if_neg (show ¬ (false = true) by decide)] at H; exact H
          clear H
          have H := H1
          clear H1
          have HC44 := Aside0.mk H
          clear H
          go_upto_region 11 with (fail)
          go_cut [112] (fun v112 wc => ∃ (kq : Nat) (x112_43 : Bool), v112 = .bool x112_43 ∧ Aside0 (rab.j3 kq x112_43 a0_0 a0_1 a0_2 a0_3 a0_4 a0_5 l0_6 l0_7 l0_8 a0_9 a0_10 = some r) ∧ Aside0 (kq ≤ kj23) ∧ Aside0 (wc.heap[gb123]? = some (.cells #[.string a0_0, .int .i64 a0_1, .int .i64 a0_2, .int .i64 a0_3, .int .i64 a0_4, .int .i64 a0_5, (.slice A0_6 l0_6.length c0_6), (.slice A0_7 l0_7.length c0_7), (.slice A0_8 l0_8.length c0_8), .string a0_9, .bool a0_10] 24 (0, 0))) ∧ Aside0 (Below w.heap.size w wc))
          case first => as_aux_lemma =>
           have H := HC44.out
           clear HC44
           replace H := Option.bind_eq_some_iff.mp H
           obtain ⟨t124, A450, H⟩ := H
           replace H : (if t124 = true then (if (l0_7.length : Int) > 0 then ((rai.f kj23 l0_7).bind fun t125 => (if t125 = true then (if (l0_8.length : Int) > 0 then ((rai.f kj23 l0_8).bind fun t126 => (rab.j3 kj23 (!t126) a0_0 a0_1 a0_2 a0_3 a0_4 a0_5 l0_6 l0_7 l0_8 a0_9 a0_10)) else (rab.j3 kj23 false a0_0 a0_1 a0_2 a0_3 a0_4 a0_5 l0_6 l0_7 l0_8 a0_9 a0_10)) else (rab.j3 kj23 true a0_0 a0_1 a0_2 a0_3 a0_4 a0_5 l0_6 l0_7 l0_8 a0_9 a0_10))) else (if (l0_8.length : Int) > 0 then ((rai.f kj23 l0_8).bind fun t127 => (rab.j3 kj23 (!t127) a0_0 a0_1 a0_2 a0_3 a0_4 a0_5 l0_6 l0_7 l0_8 a0_9 a0_10)) else (rab.j3 kj23 false a0_0 a0_1 a0_2 a0_3 a0_4 a0_5 l0_6 l0_7 l0_8 a0_9 a0_10))) else (rab.j3 kj23 true a0_0 a0_1 a0_2 a0_3 a0_4 a0_5 l0_6 l0_7 l0_8 a0_9 a0_10)) = some r := H
           have A45 := Aside0.mk A450
           clear A450
           by_cases c46 : t124 = true
           ·
            subst c46
            have H1 : (if (l0_7.length : Int) > 0 then ((rai.f kj23 l0_7).bind fun t125 => (if t125 = true then (if (l0_8.length : Int) > 0 then ((rai.f kj23 l0_8).bind fun t126 => (rab.j3 kj23 (!t126) a0_0 a0_1 a0_2 a0_3 a0_4 a0_5 l0_6 l0_7 l0_8 a0_9 a0_10)) else (rab.j3 kj23 false a0_0 a0_1 a0_2 a0_3 a0_4 a0_5 l0_6 l0_7 l0_8 a0_9 a0_10)) else (rab.j3 kj23 true a0_0 a0_1 a0_2 a0_3 a0_4 a0_5 l0_6 l0_7 l0_8 a0_9 a0_10))) else (if (l0_8.length : Int) > 0 then ((rai.f kj23 l0_8).bind fun t127 => (rab.j3 kj23 (!t127) a0_0 a0_1 a0_2 a0_3 a0_4 a0_5 l0_6 l0_7 l0_8 a0_9 a0_10)) else (rab.j3 kj23 false a0_0 a0_1 a0_2 a0_3 a0_4 a0_5 l0_6 l0_7 l0_8 a0_9 a0_10))) = some r := by rw [if_pos rfl] at H; exact H
            clear H
            have H := H1
            clear H1
            by_cases c47 : (l0_7.length : Int) > 0
            ·
             rw [if_pos c47] at H
             have c47b0 : decide (0 < (l0_7.length : Int)) = true := decide_eq_true c47
             have c47b1 : decide (0 < l0_7.length) = true := decide_eq_true (by omega)
             clear c47
             (first | rw [c47b0] | (simp only [qap, i32_w]; rw [c47b0]) | skip)
             replace H := Option.bind_eq_some_iff.mp H
             obtain ⟨t125, A480, H⟩ := H
             replace H : (if t125 = true then (if (l0_8.length : Int) > 0 then ((rai.f kj23 l0_8).bind fun t126 => (rab.j3 kj23 (!t126) a0_0 a0_1 a0_2 a0_3 a0_4 a0_5 l0_6 l0_7 l0_8 a0_9 a0_10)) else (rab.j3 kj23 false a0_0 a0_1 a0_2 a0_3 a0_4 a0_5 l0_6 l0_7 l0_8 a0_9 a0_10)) else (rab.j3 kj23 true a0_0 a0_1 a0_2 a0_3 a0_4 a0_5 l0_6 l0_7 l0_8 a0_9 a0_10)) = some r := H
             have A48 := Aside0.mk A480
             clear A480
             by_cases c49 : t125 = true
             ·
              subst c49
              have H1 : (if (l0_8.length : Int) > 0 then ((rai.f kj23 l0_8).bind fun t126 => (rab.j3 kj23 (!t126) a0_0 a0_1 a0_2 a0_3 a0_4 a0_5 l0_6 l0_7 l0_8 a0_9 a0_10)) else (rab.j3 kj23 false a0_0 a0_1 a0_2 a0_3 a0_4 a0_5 l0_6 l0_7 l0_8 a0_9 a0_10)) = some r := by rw [if_pos rfl] at H; exact H
              clear H
              have H := H1
              clear H1
              by_cases c50 : (l0_8.length : Int) > 0
              ·
               rw [if_pos c50] at H
               have c50b0 : decide (0 < (l0_8.length : Int)) = true := decide_eq_true c50
               have c50b1 : decide (0 < l0_8.length) = true := decide_eq_true (by omega)
               clear c50
               replace H := Option.bind_eq_some_iff.mp H
               obtain ⟨t126, A510, H⟩ := H
               replace H : (rab.j3 kj23 (!t126) a0_0 a0_1 a0_2 a0_3 a0_4 a0_5 l0_6 l0_7 l0_8 a0_9 a0_10) = some r := H
               have A51 := Aside0.mk A510
               clear A510
               have H' := Aside0.mk H
               clear H
               obtain ⟨G52_0, G52_1, G52_2, G52_3, G52_4, G52_5, G52_6, G52_7, G52_8, G52_9, G52_10, F52_0, F52_1, F52_2, F52_3, F52_4, F52_5, F52_6, F52_7, F52_8, F52_9, F52_10⟩ := shr11 BK123.out
               go_wp2_with (first | ((with_reducible refine qat (f := 23) rfl ?_); refine goesL_ (some 87) rfl rfl Tryz.func23 (by kernel_rfl) rfl #[.slice A0_6 l0_6.length c0_6] rfl (by (try simp only [List.map_toArray, List.map_cons, List.map_nil]); first | done | rfl | (simp only [List.length_drop, List.length_take]; rfl)) ?_; (with_reducible refine (rai.calls kj23 _ _ l0_6 true _ ?side1 ?side2 A45.out).mono ?_); (case side1 => repeat (first | exact (Kd.C_below HR0_6.out HB.out) | (with_reducible refine Kd.C_alloc ?_ _) | (with_reducible refine Kd.C_drewN ?_ _) | (with_reducible refine Kd.C_drew ?_))); (case side2 => exact HC0_6.out); rintro e w53 ⟨rfl, hb⟩; refine ⟨_, rfl, ?_⟩; have n0_ := Aside0.mk (qan (g := gb123) (o := .cells #[.string a0_0, .int .i64 a0_1, .int .i64 a0_2, .int .i64 a0_3, .int .i64 a0_4, .int .i64 a0_5, .slice A0_6 l0_6.length c0_6, .slice A0_7 l0_7.length c0_7, .slice A0_8 l0_8.length c0_8, .string a0_9, .bool a0_10] 24 (0, 0)) (by (with_reducible repeat (first | refine qag ?_ _ | refine qai ?_ | refine blk_alloc ?_ _)); exact BK123.out) hb); have n1_ := Aside0.mk (qah (by repeat (first | (with_reducible first | exact HB.out | apply qad | apply qab | apply qac | refine qaf ?_ GE123.out) | exact HB.out)) hb); clear BK123; clear HB; have BK123 := n0_; have HB := n1_; clear n0_ n1_; (try clear hb); (try clear hb2); (try clear hk); (try clear hi); obtain ⟨G54_0, G54_1, G54_2, G54_3, G54_4, G54_5, G54_6, G54_7, G54_8, G54_9, G54_10, F54_0, F54_1, F54_2, F54_3, F54_4, F54_5, F54_6, F54_7, F54_8, F54_9, F54_10⟩ := shr11 BK123.out) | (go_at_call 23; (with_reducible refine (rai.calls kj23 _ _ l0_7 true _ ?side1 ?side2 A48.out).mono ?_); (case side1 => repeat (first | exact (Kd.C_below HR0_7.out HB.out) | (with_reducible refine Kd.C_alloc ?_ _) | (with_reducible refine Kd.C_drewN ?_ _) | (with_reducible refine Kd.C_drew ?_))); (case side2 => exact HC0_7.out); rintro e w55 ⟨rfl, hb⟩; have n0_ := Aside0.mk (qan (g := gb123) (o := .cells #[.string a0_0, .int .i64 a0_1, .int .i64 a0_2, .int .i64 a0_3, .int .i64 a0_4, .int .i64 a0_5, .slice A0_6 l0_6.length c0_6, .slice A0_7 l0_7.length c0_7, .slice A0_8 l0_8.length c0_8, .string a0_9, .bool a0_10] 24 (0, 0)) (by (with_reducible repeat (first | refine qag ?_ _ | refine qai ?_ | refine blk_alloc ?_ _)); exact BK123.out) hb); have n1_ := Aside0.mk (qah (by repeat (first | (with_reducible first | exact HB.out | apply qad | apply qab | apply qac | refine qaf ?_ GE123.out) | exact HB.out)) hb); clear BK123; clear HB; have BK123 := n0_; have HB := n1_; clear n0_ n1_; (try clear hb); (try clear hb2); (try clear hk); (try clear hi); obtain ⟨G56_0, G56_1, G56_2, G56_3, G56_4, G56_5, G56_6, G56_7, G56_8, G56_9, G56_10, F56_0, F56_1, F56_2, F56_3, F56_4, F56_5, F56_6, F56_7, F56_8, F56_9, F56_10⟩ := shr11 BK123.out) | (go_at_call 23; (with_reducible refine (rai.calls kj23 _ _ l0_8 t126 _ ?side1 ?side2 A51.out).mono ?_); (case side1 => repeat (first | exact (Kd.C_below HR0_8.out HB.out) | (with_reducible refine Kd.C_alloc ?_ _) | (with_reducible refine Kd.C_drewN ?_ _) | (with_reducible refine Kd.C_drew ?_))); (case side2 => exact HC0_8.out); rintro e w57 ⟨rfl, hb⟩; have n0_ := Aside0.mk (qan (g := gb123) (o := .cells #[.string a0_0, .int .i64 a0_1, .int .i64 a0_2, .int .i64 a0_3, .int .i64 a0_4, .int .i64 a0_5, .slice A0_6 l0_6.length c0_6, .slice A0_7 l0_7.length c0_7, .slice A0_8 l0_8.length c0_8, .string a0_9, .bool a0_10] 24 (0, 0)) (by (with_reducible repeat (first | refine qag ?_ _ | refine qai ?_ | refine blk_alloc ?_ _)); exact BK123.out) hb); have n1_ := Aside0.mk (qah (by repeat (first | (with_reducible first | exact HB.out | apply qad | apply qab | apply qac | refine qaf ?_ GE123.out) | exact HB.out)) hb); clear BK123; clear HB; have BK123 := n0_; have HB := n1_; clear n0_ n1_; (try clear hb); (try clear hb2); (try clear hk); (try clear hi)))
               go_meet
               case rel => exact ⟨_, (!t126), (by first | rfl | (simp; done) | (simp [*]; done)), H', ⟨by have := HJ1.out; have := HK2.out; have := HJ23.out; first | omega | exact Nat.le_refl _⟩, ⟨by (with_reducible repeat (first | refine qag ?_ _ | refine qai ?_ | refine blk_alloc ?_ _)); exact BK123.out⟩, ⟨by repeat (first | (with_reducible first | exact HB.out | apply qad | apply qab | apply qac | refine qaf ?_ GE123.out) | exact HB.out)⟩⟩
              ·
               rw [if_neg c50] at H
               have c50b0 : decide (0 < (l0_8.length : Int)) = false := decide_eq_false c50
               have c50b1 : decide (0 < l0_8.length) = false := decide_eq_false (by omega)
               clear c50
               have H' := Aside0.mk H
               clear H
               obtain ⟨G58_0, G58_1, G58_2, G58_3, G58_4, G58_5, G58_6, G58_7, G58_8, G58_9, G58_10, F58_0, F58_1, F58_2, F58_3, F58_4, F58_5, F58_6, F58_7, F58_8, F58_9, F58_10⟩ := shr11 BK123.out
               go_wp2_with (first | ((with_reducible refine qat (f := 23) rfl ?_); refine goesL_ (some 87) rfl rfl Tryz.func23 (by kernel_rfl) rfl #[.slice A0_6 l0_6.length c0_6] rfl (by (try simp only [List.map_toArray, List.map_cons, List.map_nil]); first | done | rfl | (simp only [List.length_drop, List.length_take]; rfl)) ?_; (with_reducible refine (rai.calls kj23 _ _ l0_6 true _ ?side1 ?side2 A45.out).mono ?_); (case side1 => repeat (first | exact (Kd.C_below HR0_6.out HB.out) | (with_reducible refine Kd.C_alloc ?_ _) | (with_reducible refine Kd.C_drewN ?_ _) | (with_reducible refine Kd.C_drew ?_))); (case side2 => exact HC0_6.out); rintro e w59 ⟨rfl, hb⟩; refine ⟨_, rfl, ?_⟩; have n0_ := Aside0.mk (qan (g := gb123) (o := .cells #[.string a0_0, .int .i64 a0_1, .int .i64 a0_2, .int .i64 a0_3, .int .i64 a0_4, .int .i64 a0_5, .slice A0_6 l0_6.length c0_6, .slice A0_7 l0_7.length c0_7, .slice A0_8 l0_8.length c0_8, .string a0_9, .bool a0_10] 24 (0, 0)) (by (with_reducible repeat (first | refine qag ?_ _ | refine qai ?_ | refine blk_alloc ?_ _)); exact BK123.out) hb); have n1_ := Aside0.mk (qah (by repeat (first | (with_reducible first | exact HB.out | apply qad | apply qab | apply qac | refine qaf ?_ GE123.out) | exact HB.out)) hb); clear BK123; clear HB; have BK123 := n0_; have HB := n1_; clear n0_ n1_; (try clear hb); (try clear hb2); (try clear hk); (try clear hi); obtain ⟨G60_0, G60_1, G60_2, G60_3, G60_4, G60_5, G60_6, G60_7, G60_8, G60_9, G60_10, F60_0, F60_1, F60_2, F60_3, F60_4, F60_5, F60_6, F60_7, F60_8, F60_9, F60_10⟩ := shr11 BK123.out) | (go_at_call 23; (with_reducible refine (rai.calls kj23 _ _ l0_7 true _ ?side1 ?side2 A48.out).mono ?_); (case side1 => repeat (first | exact (Kd.C_below HR0_7.out HB.out) | (with_reducible refine Kd.C_alloc ?_ _) | (with_reducible refine Kd.C_drewN ?_ _) | (with_reducible refine Kd.C_drew ?_))); (case side2 => exact HC0_7.out); rintro e w61 ⟨rfl, hb⟩; have n0_ := Aside0.mk (qan (g := gb123) (o := .cells #[.string a0_0, .int .i64 a0_1, .int .i64 a0_2, .int .i64 a0_3, .int .i64 a0_4, .int .i64 a0_5, .slice A0_6 l0_6.length c0_6, .slice A0_7 l0_7.length c0_7, .slice A0_8 l0_8.length c0_8, .string a0_9, .bool a0_10] 24 (0, 0)) (by (with_reducible repeat (first | refine qag ?_ _ | refine qai ?_ | refine blk_alloc ?_ _)); exact BK123.out) hb); have n1_ := Aside0.mk (qah (by repeat (first | (with_reducible first | exact HB.out | apply qad | apply qab | apply qac | refine qaf ?_ GE123.out) | exact HB.out)) hb); clear BK123; clear HB; have BK123 := n0_; have HB := n1_; clear n0_ n1_; (try clear hb); (try clear hb2); (try clear hk); (try clear hi); obtain ⟨G62_0, G62_1, G62_2, G62_3, G62_4, G62_5, G62_6, G62_7, G62_8, G62_9, G62_10, F62_0, F62_1, F62_2, F62_3, F62_4, F62_5, F62_6, F62_7, F62_8, F62_9, F62_10⟩ := shr11 BK123.out))
               go_meet
               case rel => exact ⟨_, (false), (by first | rfl | (simp; done) | (simp [*]; done)), H', ⟨by have := HJ1.out; have := HK2.out; have := HJ23.out; first | omega | exact Nat.le_refl _⟩, ⟨by (with_reducible repeat (first | refine qag ?_ _ | refine qai ?_ | refine blk_alloc ?_ _)); exact BK123.out⟩, ⟨by repeat (first | (with_reducible first | exact HB.out | apply qad | apply qab | apply qac | refine qaf ?_ GE123.out) | exact HB.out)⟩⟩
             ·
              replace c49 := Bool.eq_false_iff.mpr c49
              subst c49
              have H1 : (rab.j3 kj23 true a0_0 a0_1 a0_2 a0_3 a0_4 a0_5 l0_6 l0_7 l0_8 a0_9 a0_10) = some r := by rw [if_neg (show ¬ (false = true) by decide)] at H; exact H
              clear H
              have H := H1
              clear H1
              have H' := Aside0.mk H
              clear H
              obtain ⟨G63_0, G63_1, G63_2, G63_3, G63_4, G63_5, G63_6, G63_7, G63_8, G63_9, G63_10, F63_0, F63_1, F63_2, F63_3, F63_4, F63_5, F63_6, F63_7, F63_8, F63_9, F63_10⟩ := shr11 BK123.out
              go_wp2_with (first | ((with_reducible refine qat (f := 23) rfl ?_); refine goesL_ (some 87) rfl rfl Tryz.func23 (by kernel_rfl) rfl #[.slice A0_6 l0_6.length c0_6] rfl (by (try simp only [List.map_toArray, List.map_cons, List.map_nil]); first | done | rfl | (simp only [List.length_drop, List.length_take]; rfl)) ?_; (with_reducible refine (rai.calls kj23 _ _ l0_6 true _ ?side1 ?side2 A45.out).mono ?_); (case side1 => repeat (first | exact (Kd.C_below HR0_6.out HB.out) | (with_reducible refine Kd.C_alloc ?_ _) | (with_reducible refine Kd.C_drewN ?_ _) | (with_reducible refine Kd.C_drew ?_))); (case side2 => exact HC0_6.out); rintro e w64 ⟨rfl, hb⟩; refine ⟨_, rfl, ?_⟩; have n0_ := Aside0.mk (qan (g := gb123) (o := .cells #[.string a0_0, .int .i64 a0_1, .int .i64 a0_2, .int .i64 a0_3, .int .i64 a0_4, .int .i64 a0_5, .slice A0_6 l0_6.length c0_6, .slice A0_7 l0_7.length c0_7, .slice A0_8 l0_8.length c0_8, .string a0_9, .bool a0_10] 24 (0, 0)) (by (with_reducible repeat (first | refine qag ?_ _ | refine qai ?_ | refine blk_alloc ?_ _)); exact BK123.out) hb); have n1_ := Aside0.mk (qah (by repeat (first | (with_reducible first | exact HB.out | apply qad | apply qab | apply qac | refine qaf ?_ GE123.out) | exact HB.out)) hb); clear BK123; clear HB; have BK123 := n0_; have HB := n1_; clear n0_ n1_; (try clear hb); (try clear hb2); (try clear hk); (try clear hi); obtain ⟨G65_0, G65_1, G65_2, G65_3, G65_4, G65_5, G65_6, G65_7, G65_8, G65_9, G65_10, F65_0, F65_1, F65_2, F65_3, F65_4, F65_5, F65_6, F65_7, F65_8, F65_9, F65_10⟩ := shr11 BK123.out) | (go_at_call 23; (with_reducible refine (rai.calls kj23 _ _ l0_7 false _ ?side1 ?side2 A48.out).mono ?_); (case side1 => repeat (first | exact (Kd.C_below HR0_7.out HB.out) | (with_reducible refine Kd.C_alloc ?_ _) | (with_reducible refine Kd.C_drewN ?_ _) | (with_reducible refine Kd.C_drew ?_))); (case side2 => exact HC0_7.out); rintro e w66 ⟨rfl, hb⟩; have n0_ := Aside0.mk (qan (g := gb123) (o := .cells #[.string a0_0, .int .i64 a0_1, .int .i64 a0_2, .int .i64 a0_3, .int .i64 a0_4, .int .i64 a0_5, .slice A0_6 l0_6.length c0_6, .slice A0_7 l0_7.length c0_7, .slice A0_8 l0_8.length c0_8, .string a0_9, .bool a0_10] 24 (0, 0)) (by (with_reducible repeat (first | refine qag ?_ _ | refine qai ?_ | refine blk_alloc ?_ _)); exact BK123.out) hb); have n1_ := Aside0.mk (qah (by repeat (first | (with_reducible first | exact HB.out | apply qad | apply qab | apply qac | refine qaf ?_ GE123.out) | exact HB.out)) hb); clear BK123; clear HB; have BK123 := n0_; have HB := n1_; clear n0_ n1_; (try clear hb); (try clear hb2); (try clear hk); (try clear hi)))
              go_meet
              case rel => exact ⟨_, (true), (by first | rfl | (simp; done) | (simp [*]; done)), H', ⟨by have := HJ1.out; have := HK2.out; have := HJ23.out; first | omega | exact Nat.le_refl _⟩, ⟨by (with_reducible repeat (first | refine qag ?_ _ | refine qai ?_ | refine blk_alloc ?_ _)); exact BK123.out⟩, ⟨by repeat (first | (with_reducible first | exact HB.out | apply qad | apply qab | apply qac | refine qaf ?_ GE123.out) | exact HB.out)⟩⟩
            ·
             rw [if_neg c47] at H
             have c47b0 : decide (0 < (l0_7.length : Int)) = false := decide_eq_false c47
             have c47b1 : decide (0 < l0_7.length) = false := decide_eq_false (by omega)
             clear c47
             (first | rw [c47b0] | (simp only [qap, i32_w]; rw [c47b0]) | skip)
             by_cases c67 : (l0_8.length : Int) > 0
             ·
              rw [if_pos c67] at H
              have c67b0 : decide (0 < (l0_8.length : Int)) = true := decide_eq_true c67
              have c67b1 : decide (0 < l0_8.length) = true := decide_eq_true (by omega)
              clear c67
              replace H := Option.bind_eq_some_iff.mp H
              obtain ⟨t127, A680, H⟩ := H
              replace H : (rab.j3 kj23 (!t127) a0_0 a0_1 a0_2 a0_3 a0_4 a0_5 l0_6 l0_7 l0_8 a0_9 a0_10) = some r := H
              have A68 := Aside0.mk A680
              clear A680
              have H' := Aside0.mk H
              clear H
              obtain ⟨G69_0, G69_1, G69_2, G69_3, G69_4, G69_5, G69_6, G69_7, G69_8, G69_9, G69_10, F69_0, F69_1, F69_2, F69_3, F69_4, F69_5, F69_6, F69_7, F69_8, F69_9, F69_10⟩ := shr11 BK123.out
              go_wp2_with (first | ((with_reducible refine qat (f := 23) rfl ?_); refine goesL_ (some 87) rfl rfl Tryz.func23 (by kernel_rfl) rfl #[.slice A0_6 l0_6.length c0_6] rfl (by (try simp only [List.map_toArray, List.map_cons, List.map_nil]); first | done | rfl | (simp only [List.length_drop, List.length_take]; rfl)) ?_; (with_reducible refine (rai.calls kj23 _ _ l0_6 true _ ?side1 ?side2 A45.out).mono ?_); (case side1 => repeat (first | exact (Kd.C_below HR0_6.out HB.out) | (with_reducible refine Kd.C_alloc ?_ _) | (with_reducible refine Kd.C_drewN ?_ _) | (with_reducible refine Kd.C_drew ?_))); (case side2 => exact HC0_6.out); rintro e w70 ⟨rfl, hb⟩; refine ⟨_, rfl, ?_⟩; have n0_ := Aside0.mk (qan (g := gb123) (o := .cells #[.string a0_0, .int .i64 a0_1, .int .i64 a0_2, .int .i64 a0_3, .int .i64 a0_4, .int .i64 a0_5, .slice A0_6 l0_6.length c0_6, .slice A0_7 l0_7.length c0_7, .slice A0_8 l0_8.length c0_8, .string a0_9, .bool a0_10] 24 (0, 0)) (by (with_reducible repeat (first | refine qag ?_ _ | refine qai ?_ | refine blk_alloc ?_ _)); exact BK123.out) hb); have n1_ := Aside0.mk (qah (by repeat (first | (with_reducible first | exact HB.out | apply qad | apply qab | apply qac | refine qaf ?_ GE123.out) | exact HB.out)) hb); clear BK123; clear HB; have BK123 := n0_; have HB := n1_; clear n0_ n1_; (try clear hb); (try clear hb2); (try clear hk); (try clear hi); obtain ⟨G71_0, G71_1, G71_2, G71_3, G71_4, G71_5, G71_6, G71_7, G71_8, G71_9, G71_10, F71_0, F71_1, F71_2, F71_3, F71_4, F71_5, F71_6, F71_7, F71_8, F71_9, F71_10⟩ := shr11 BK123.out) | (go_at_call 23; (with_reducible refine (rai.calls kj23 _ _ l0_8 t127 _ ?side1 ?side2 A68.out).mono ?_); (case side1 => repeat (first | exact (Kd.C_below HR0_8.out HB.out) | (with_reducible refine Kd.C_alloc ?_ _) | (with_reducible refine Kd.C_drewN ?_ _) | (with_reducible refine Kd.C_drew ?_))); (case side2 => exact HC0_8.out); rintro e w72 ⟨rfl, hb⟩; have n0_ := Aside0.mk (qan (g := gb123) (o := .cells #[.string a0_0, .int .i64 a0_1, .int .i64 a0_2, .int .i64 a0_3, .int .i64 a0_4, .int .i64 a0_5, .slice A0_6 l0_6.length c0_6, .slice A0_7 l0_7.length c0_7, .slice A0_8 l0_8.length c0_8, .string a0_9, .bool a0_10] 24 (0, 0)) (by (with_reducible repeat (first | refine qag ?_ _ | refine qai ?_ | refine blk_alloc ?_ _)); exact BK123.out) hb); have n1_ := Aside0.mk (qah (by repeat (first | (with_reducible first | exact HB.out | apply qad | apply qab | apply qac | refine qaf ?_ GE123.out) | exact HB.out)) hb); clear BK123; clear HB; have BK123 := n0_; have HB := n1_; clear n0_ n1_; (try clear hb); (try clear hb2); (try clear hk); (try clear hi)))
              go_meet
              case rel => exact ⟨_, (!t127), (by first | rfl | (simp; done) | (simp [*]; done)), H', ⟨by have := HJ1.out; have := HK2.out; have := HJ23.out; first | omega | exact Nat.le_refl _⟩, ⟨by (with_reducible repeat (first | refine qag ?_ _ | refine qai ?_ | refine blk_alloc ?_ _)); exact BK123.out⟩, ⟨by repeat (first | (with_reducible first | exact HB.out | apply qad | apply qab | apply qac | refine qaf ?_ GE123.out) | exact HB.out)⟩⟩
             ·
              rw [if_neg c67] at H
              have c67b0 : decide (0 < (l0_8.length : Int)) = false := decide_eq_false c67
              have c67b1 : decide (0 < l0_8.length) = false := decide_eq_false (by omega)
              clear c67
              have H' := Aside0.mk H
              clear H
              obtain ⟨G73_0, G73_1, G73_2, G73_3, G73_4, G73_5, G73_6, G73_7, G73_8, G73_9, G73_10, F73_0, F73_1, F73_2, F73_3, F73_4, F73_5, F73_6, F73_7, F73_8, F73_9, F73_10⟩ := shr11 BK123.out
              go_wp2_with (first | ((with_reducible refine qat (f := 23) rfl ?_); refine goesL_ (some 87) rfl rfl Tryz.func23 (by kernel_rfl) rfl #[.slice A0_6 l0_6.length c0_6] rfl (by (try simp only [List.map_toArray, List.map_cons, List.map_nil]); first | done | rfl | (simp only [List.length_drop, List.length_take]; rfl)) ?_; (with_reducible refine (rai.calls kj23 _ _ l0_6 true _ ?side1 ?side2 A45.out).mono ?_); (case side1 => repeat (first | exact (Kd.C_below HR0_6.out HB.out) | (with_reducible refine Kd.C_alloc ?_ _) | (with_reducible refine Kd.C_drewN ?_ _) | (with_reducible refine Kd.C_drew ?_))); (case side2 => exact HC0_6.out); rintro e w74 ⟨rfl, hb⟩; refine ⟨_, rfl, ?_⟩; have n0_ := Aside0.mk (qan (g := gb123) (o := .cells #[.string a0_0, .int .i64 a0_1, .int .i64 a0_2, .int .i64 a0_3, .int .i64 a0_4, .int .i64 a0_5, .slice A0_6 l0_6.length c0_6, .slice A0_7 l0_7.length c0_7, .slice A0_8 l0_8.length c0_8, .string a0_9, .bool a0_10] 24 (0, 0)) (by (with_reducible repeat (first | refine qag ?_ _ | refine qai ?_ | refine blk_alloc ?_ _)); exact BK123.out) hb); have n1_ := Aside0.mk (qah (by repeat (first | (with_reducible first | exact HB.out | apply qad | apply qab | apply qac | refine qaf ?_ GE123.out) | exact HB.out)) hb); clear BK123; clear HB; have BK123 := n0_; have HB := n1_; clear n0_ n1_; (try clear hb); (try clear hb2); (try clear hk); (try clear hi); obtain ⟨G75_0, G75_1, G75_2, G75_3, G75_4, G75_5, G75_6, G75_7, G75_8, G75_9, G75_10, F75_0, F75_1, F75_2, F75_3, F75_4, F75_5, F75_6, F75_7, F75_8, F75_9, F75_10⟩ := shr11 BK123.out))
              go_meet
              case rel => exact ⟨_, (false), (by first | rfl | (simp; done) | (simp [*]; done)), H', ⟨by have := HJ1.out; have := HK2.out; have := HJ23.out; first | omega | exact Nat.le_refl _⟩, ⟨by (with_reducible repeat (first | refine qag ?_ _ | refine qai ?_ | refine blk_alloc ?_ _)); exact BK123.out⟩, ⟨by repeat (first | (with_reducible first | exact HB.out | apply qad | apply qab | apply qac | refine qaf ?_ GE123.out) | exact HB.out)⟩⟩
           ·
            replace c46 := Bool.eq_false_iff.mpr c46
            subst c46
            have H1 : (rab.j3 kj23 true a0_0 a0_1 a0_2 a0_3 a0_4 a0_5 l0_6 l0_7 l0_8 a0_9 a0_10) = some r := by rw [if_neg (show ¬ (false = true) by decide)] at H; exact H
            clear H
            have H := H1
            clear H1
            have H' := Aside0.mk H
            clear H
            obtain ⟨G76_0, G76_1, G76_2, G76_3, G76_4, G76_5, G76_6, G76_7, G76_8, G76_9, G76_10, F76_0, F76_1, F76_2, F76_3, F76_4, F76_5, F76_6, F76_7, F76_8, F76_9, F76_10⟩ := shr11 BK123.out
            go_wp2_with (first | ((with_reducible refine qat (f := 23) rfl ?_); refine goesL_ (some 87) rfl rfl Tryz.func23 (by kernel_rfl) rfl #[.slice A0_6 l0_6.length c0_6] rfl (by (try simp only [List.map_toArray, List.map_cons, List.map_nil]); first | done | rfl | (simp only [List.length_drop, List.length_take]; rfl)) ?_; (with_reducible refine (rai.calls kj23 _ _ l0_6 false _ ?side1 ?side2 A45.out).mono ?_); (case side1 => repeat (first | exact (Kd.C_below HR0_6.out HB.out) | (with_reducible refine Kd.C_alloc ?_ _) | (with_reducible refine Kd.C_drewN ?_ _) | (with_reducible refine Kd.C_drew ?_))); (case side2 => exact HC0_6.out); rintro e w77 ⟨rfl, hb⟩; refine ⟨_, rfl, ?_⟩; have n0_ := Aside0.mk (qan (g := gb123) (o := .cells #[.string a0_0, .int .i64 a0_1, .int .i64 a0_2, .int .i64 a0_3, .int .i64 a0_4, .int .i64 a0_5, .slice A0_6 l0_6.length c0_6, .slice A0_7 l0_7.length c0_7, .slice A0_8 l0_8.length c0_8, .string a0_9, .bool a0_10] 24 (0, 0)) (by (with_reducible repeat (first | refine qag ?_ _ | refine qai ?_ | refine blk_alloc ?_ _)); exact BK123.out) hb); have n1_ := Aside0.mk (qah (by repeat (first | (with_reducible first | exact HB.out | apply qad | apply qab | apply qac | refine qaf ?_ GE123.out) | exact HB.out)) hb); clear BK123; clear HB; have BK123 := n0_; have HB := n1_; clear n0_ n1_; (try clear hb); (try clear hb2); (try clear hk); (try clear hi)))
            go_meet
            case rel => exact ⟨_, (true), (by first | rfl | (simp; done) | (simp [*]; done)), H', ⟨by have := HJ1.out; have := HK2.out; have := HJ23.out; first | omega | exact Nat.le_refl _⟩, ⟨by (with_reducible repeat (first | refine qag ?_ _ | refine qai ?_ | refine blk_alloc ?_ _)); exact BK123.out⟩, ⟨by repeat (first | (with_reducible first | exact HB.out | apply qad | apply qab | apply qac | refine qaf ?_ GE123.out) | exact HB.out)⟩⟩
          case rest => as_aux_lemma =>
           clear HC44
           try clear p1
           try clear q1
           try clear c2
           try clear p2
           try clear c4
           try clear c5
           try clear c6
           try clear p10
           try clear q10
           try clear c23
           try clear c43
           try clear c46
           try clear c47
           try clear c47b0
           try clear c47b1
           try clear c49
           try clear c50
           try clear c50b0
           try clear c50b1
           try clear c67
           try clear c67b0
           try clear c67b1
           try clear G19_9 F19_0 F19_1 F19_10 F19_2 F19_3 F19_4 F19_5 F19_6 F19_7 F19_8 F19_9
           try clear G21_0 G21_1 G21_10 G21_2 G21_3 G21_4 G21_5 G21_6 G21_7 G21_8 G21_9 F21_0 F21_1 F21_10 F21_2 F21_3 F21_4 F21_5 F21_6 F21_7 F21_8 F21_9
           try clear G22_0 G22_1 G22_10 G22_2 G22_3 G22_4 G22_5 G22_6 G22_7 G22_8 G22_9 F22_0 F22_1 F22_10 F22_2 F22_3 F22_4 F22_5 F22_6 F22_7 F22_8 F22_9
           try clear G23_0 G23_1 G23_10 G23_2 G23_3 G23_4 G23_5 G23_6 G23_7 G23_8 G23_9 F23_0 F23_1 F23_10 F23_2 F23_3 F23_4 F23_5 F23_6 F23_7 F23_8 F23_9
           try clear G25_0 G25_1 G25_10 G25_2 G25_3 G25_4 G25_5 G25_6 G25_7 G25_8 G25_9 F25_0 F25_1 F25_10 F25_2 F25_3 F25_4 F25_5 F25_6 F25_7 F25_8 F25_9
           try clear G27_0 G27_1 G27_10 G27_2 G27_3 G27_4 G27_5 G27_6 G27_7 G27_8 G27_9 F27_0 F27_1 F27_10 F27_2 F27_3 F27_4 F27_5 F27_6 F27_7 F27_8 F27_9
           try clear G29_0 G29_1 G29_10 G29_2 G29_3 G29_4 G29_5 G29_6 G29_7 G29_8 G29_9 F29_0 F29_1 F29_10 F29_2 F29_3 F29_4 F29_5 F29_6 F29_7 F29_8 F29_9
           try clear G31_0 G31_1 G31_10 G31_2 G31_3 G31_4 G31_5 G31_6 G31_7 G31_8 G31_9 F31_0 F31_1 F31_10 F31_2 F31_3 F31_4 F31_5 F31_6 F31_7 F31_8 F31_9
           try clear G33_0 G33_1 G33_10 G33_2 G33_3 G33_4 G33_5 G33_6 G33_7 G33_8 G33_9 F33_0 F33_1 F33_10 F33_2 F33_3 F33_4 F33_5 F33_6 F33_7 F33_8 F33_9
           try clear G35_0 G35_1 G35_10 G35_2 G35_3 G35_4 G35_5 G35_6 G35_7 G35_8 G35_9 F35_0 F35_1 F35_10 F35_2 F35_3 F35_4 F35_5 F35_6 F35_7 F35_8 F35_9
           try clear G37_0 G37_1 G37_10 G37_2 G37_3 G37_4 G37_5 G37_6 G37_7 G37_8 G37_9 F37_0 F37_1 F37_10 F37_2 F37_3 F37_4 F37_5 F37_6 F37_7 F37_8 F37_9
           try clear G39_0 G39_1 G39_10 G39_2 G39_3 G39_4 G39_5 G39_6 G39_7 G39_8 G39_9 F39_0 F39_1 F39_10 F39_2 F39_3 F39_4 F39_5 F39_6 F39_7 F39_8 F39_9
           try clear G41_0 G41_1 G41_10 G41_2 G41_3 G41_4 G41_5 G41_6 G41_7 G41_8 G41_9 F41_0 F41_1 F41_10 F41_2 F41_3 F41_4 F41_5 F41_6 F41_7 F41_8 F41_9
           try clear G42_0 G42_1 G42_10 G42_2 G42_3 G42_4 G42_5 G42_6 G42_7 G42_8 G42_9 F42_0 F42_1 F42_10 F42_2 F42_3 F42_4 F42_5 F42_6 F42_7 F42_8 F42_9
           try clear G52_0 G52_1 G52_10 G52_2 G52_3 G52_4 G52_5 G52_6 G52_7 G52_8 G52_9 F52_0 F52_1 F52_10 F52_2 F52_3 F52_4 F52_5 F52_6 F52_7 F52_8 F52_9
           try clear G54_0 G54_1 G54_10 G54_2 G54_3 G54_4 G54_5 G54_6 G54_7 G54_8 G54_9 F54_0 F54_1 F54_10 F54_2 F54_3 F54_4 F54_5 F54_6 F54_7 F54_8 F54_9
           try clear G56_0 G56_1 G56_10 G56_2 G56_3 G56_4 G56_5 G56_6 G56_7 G56_8 G56_9 F56_0 F56_1 F56_10 F56_2 F56_3 F56_4 F56_5 F56_6 F56_7 F56_8 F56_9
           try clear G58_0 G58_1 G58_10 G58_2 G58_3 G58_4 G58_5 G58_6 G58_7 G58_8 G58_9 F58_0 F58_1 F58_10 F58_2 F58_3 F58_4 F58_5 F58_6 F58_7 F58_8 F58_9
           try clear G60_0 G60_1 G60_10 G60_2 G60_3 G60_4 G60_5 G60_6 G60_7 G60_8 G60_9 F60_0 F60_1 F60_10 F60_2 F60_3 F60_4 F60_5 F60_6 F60_7 F60_8 F60_9
           try clear G62_0 G62_1 G62_10 G62_2 G62_3 G62_4 G62_5 G62_6 G62_7 G62_8 G62_9 F62_0 F62_1 F62_10 F62_2 F62_3 F62_4 F62_5 F62_6 F62_7 F62_8 F62_9
           try clear G63_0 G63_1 G63_10 G63_2 G63_3 G63_4 G63_5 G63_6 G63_7 G63_8 G63_9 F63_0 F63_1 F63_10 F63_2 F63_3 F63_4 F63_5 F63_6 F63_7 F63_8 F63_9
           try clear G65_0 G65_1 G65_10 G65_2 G65_3 G65_4 G65_5 G65_6 G65_7 G65_8 G65_9 F65_0 F65_1 F65_10 F65_2 F65_3 F65_4 F65_5 F65_6 F65_7 F65_8 F65_9
           try clear G69_0 G69_1 G69_10 G69_2 G69_3 G69_4 G69_5 G69_6 G69_7 G69_8 G69_9 F69_0 F69_1 F69_10 F69_2 F69_3 F69_4 F69_5 F69_6 F69_7 F69_8 F69_9
           try clear G71_0 G71_1 G71_10 G71_2 G71_3 G71_4 G71_5 G71_6 G71_7 G71_8 G71_9 F71_0 F71_1 F71_10 F71_2 F71_3 F71_4 F71_5 F71_6 F71_7 F71_8 F71_9
           try clear G73_0 G73_1 G73_10 G73_2 G73_3 G73_4 G73_5 G73_6 G73_7 G73_8 G73_9 F73_0 F73_1 F73_10 F73_2 F73_3 F73_4 F73_5 F73_6 F73_7 F73_8 F73_9
           try clear G75_0 G75_1 G75_10 G75_2 G75_3 G75_4 G75_5 G75_6 G75_7 G75_8 G75_9 F75_0 F75_1 F75_10 F75_2 F75_3 F75_4 F75_5 F75_6 F75_7 F75_8 F75_9
           try clear G76_0 G76_1 G76_10 G76_2 G76_3 G76_4 G76_5 G76_6 G76_7 G76_8 G76_9 F76_0 F76_1 F76_10 F76_2 F76_3 F76_4 F76_5 F76_6 F76_7 F76_8 F76_9
           try clear F13_0 F13_1 F13_10 F13_2 F13_3 F13_4 F13_5 F13_6 F13_7 F13_8 F13_9
           try clear F15_0 F15_1 F15_10 F15_2 F15_3 F15_4 F15_5 F15_6 F15_7 F15_8 F15_9
           try clear F16_0 F16_1 F16_10 F16_2 F16_3 F16_4 F16_5 F16_6 F16_7 F16_8 F16_9
           obtain ⟨kq, x112_43, rfl, HA, HJ43, BK123, HB⟩ := hcut
           cases kq with
           | zero => exact absurd HA.out (by simp [rab.j3])
           | succ kj43 =>
            have H := HA.out
            clear HA
            simp only [rab.j3] at H
            by_cases c78 : x112_43 = true
            ·
             subst c78
             have H1 : (some 1) = some r := by rw [if_pos rfl] at H; exact H
             clear H
             have H := H1
             clear H1
             obtain rfl := Option.some.inj H
             go_wp2
             go_ret
             exact ⟨by first | rfl | (simp [*] <;> rfl), by repeat (first | (with_reducible first | exact HB.out | apply qad | apply qab | apply qac | refine qaf ?_ GE123.out) | exact HB.out)⟩
            ·
             replace c78 := Bool.eq_false_iff.mpr c78
             subst c78
             have H1 : (if a0_9.toList = ([] : List UInt8) then (rab.j4 kj43 ((l0_8.length : Int) == 0) a0_0 a0_1 a0_2 a0_3 a0_4 a0_5 l0_6 l0_7 l0_8 a0_9 a0_10) else ((raw.f a0_9).bind fun t128 => (if t128 = true then (if (l0_8.length : Int) > 0 then (rab.j4 kj43 true a0_0 a0_1 a0_2 a0_3 a0_4 a0_5 l0_6 l0_7 l0_8 a0_9 a0_10) else (rab.j4 kj43 false a0_0 a0_1 a0_2 a0_3 a0_4 a0_5 l0_6 l0_7 l0_8 a0_9 a0_10)) else (rab.j4 kj43 true a0_0 a0_1 a0_2 a0_3 a0_4 a0_5 l0_6 l0_7 l0_8 a0_9 a0_10)))) = some r := by rw [if_neg (show ¬ (false = true) by decide)] at H; exact H
             clear H
             have H := H1
             clear H1
             have HC79 := Aside0.mk H
             clear H
             go_upto_region 13 with (fail)
             go_cut [143] (fun v143 wc => ∃ (kq : Nat) (x143_78 : Bool), v143 = .bool x143_78 ∧ Aside0 (rab.j4 kq x143_78 a0_0 a0_1 a0_2 a0_3 a0_4 a0_5 l0_6 l0_7 l0_8 a0_9 a0_10 = some r) ∧ Aside0 (kq ≤ kj43) ∧ Aside0 (wc.heap[gb123]? = some (.cells #[.string a0_0, .int .i64 a0_1, .int .i64 a0_2, .int .i64 a0_3, .int .i64 a0_4, .int .i64 a0_5, (.slice A0_6 l0_6.length c0_6), (.slice A0_7 l0_7.length c0_7), (.slice A0_8 l0_8.length c0_8), .string a0_9, .bool a0_10] 24 (0, 0))) ∧ Aside0 (Below w.heap.size w wc))
             case first => as_aux_lemma =>
              have H := HC79.out
              clear HC79
              by_cases c80 : a0_9.toList = ([] : List UInt8)
              ·
               rw [if_pos c80] at H
               have c80b0 : (a0_9.toList == ([] : List UInt8)) = true := beq_iff_eq.mpr c80
               have c80b1 : (a0_9.toList != ([] : List UInt8)) = false := bne_eq_false_iff_eq.mpr c80
               clear c80
               (first | rw [c80b0] | (simp only [qap, i32_w]; rw [c80b0]) | skip)
               have H' := Aside0.mk H
               clear H
               obtain ⟨G81_0, G81_1, G81_2, G81_3, G81_4, G81_5, G81_6, G81_7, G81_8, G81_9, G81_10, F81_0, F81_1, F81_2, F81_3, F81_4, F81_5, F81_6, F81_7, F81_8, F81_9, F81_10⟩ := shr11 BK123.out
               go_wp2
               go_meet
               case rel => exact ⟨_, (((l0_8.length : Int) == 0)), (by first | rfl | (simp; done) | (simp [*]; done)), H', ⟨by have := HJ1.out; have := HK2.out; have := HJ23.out; have := HJ43.out; first | omega | exact Nat.le_refl _⟩, ⟨by (with_reducible repeat (first | refine qag ?_ _ | refine qai ?_ | refine blk_alloc ?_ _)); exact BK123.out⟩, ⟨by repeat (first | (with_reducible first | exact HB.out | apply qad | apply qab | apply qac | refine qaf ?_ GE123.out) | exact HB.out)⟩⟩
              ·
               rw [if_neg c80] at H
               have c80b0 : (a0_9.toList == ([] : List UInt8)) = false := beq_eq_false_iff_ne.mpr c80
               have c80b1 : (a0_9.toList != ([] : List UInt8)) = true := bne_iff_ne.mpr c80
               (first | rw [c80b0] | (simp only [qap, i32_w]; rw [c80b0]) | skip)
               replace H := Option.bind_eq_some_iff.mp H
               obtain ⟨t128, A820, H⟩ := H
               replace H : (if t128 = true then (if (l0_8.length : Int) > 0 then (rab.j4 kj43 true a0_0 a0_1 a0_2 a0_3 a0_4 a0_5 l0_6 l0_7 l0_8 a0_9 a0_10) else (rab.j4 kj43 false a0_0 a0_1 a0_2 a0_3 a0_4 a0_5 l0_6 l0_7 l0_8 a0_9 a0_10)) else (rab.j4 kj43 true a0_0 a0_1 a0_2 a0_3 a0_4 a0_5 l0_6 l0_7 l0_8 a0_9 a0_10)) = some r := H
               have A82 := Aside0.mk A820
               clear A820
               by_cases c83 : t128 = true
               ·
                subst c83
                have H1 : (if (l0_8.length : Int) > 0 then (rab.j4 kj43 true a0_0 a0_1 a0_2 a0_3 a0_4 a0_5 l0_6 l0_7 l0_8 a0_9 a0_10) else (rab.j4 kj43 false a0_0 a0_1 a0_2 a0_3 a0_4 a0_5 l0_6 l0_7 l0_8 a0_9 a0_10)) = some r := by rw [if_pos rfl] at H; exact H
                clear H
                have H := H1
                clear H1
                by_cases c84 : (l0_8.length : Int) > 0
                ·
                 rw [if_pos c84] at H
                 have c84b0 : decide (0 < (l0_8.length : Int)) = true := decide_eq_true c84
                 have c84b1 : decide (0 < l0_8.length) = true := decide_eq_true (by omega)
                 clear c84
                 have H' := Aside0.mk H
                 clear H
                 obtain ⟨G85_0, G85_1, G85_2, G85_3, G85_4, G85_5, G85_6, G85_7, G85_8, G85_9, G85_10, F85_0, F85_1, F85_2, F85_3, F85_4, F85_5, F85_6, F85_7, F85_8, F85_9, F85_10⟩ := shr11 BK123.out
                 go_wp2_with (first | (go_at_call 24; (with_reducible refine (raw.calls a0_9 true _ A82.out).mono ?_); rintro e w' ⟨rfl, ⟨nd, rfl⟩⟩))
                 go_meet
                 case rel => exact ⟨_, (true), (by first | rfl | (simp; done) | (simp [*]; done)), H', ⟨by have := HJ1.out; have := HK2.out; have := HJ23.out; have := HJ43.out; first | omega | exact Nat.le_refl _⟩, ⟨by (with_reducible repeat (first | refine qag ?_ _ | refine qai ?_ | refine blk_alloc ?_ _)); exact BK123.out⟩, ⟨by repeat (first | (with_reducible first | exact HB.out | apply qad | apply qab | apply qac | refine qaf ?_ GE123.out) | exact HB.out)⟩⟩
                ·
                 rw [if_neg c84] at H
                 have c84b0 : decide (0 < (l0_8.length : Int)) = false := decide_eq_false c84
                 have c84b1 : decide (0 < l0_8.length) = false := decide_eq_false (by omega)
                 clear c84
                 have H' := Aside0.mk H
                 clear H
                 obtain ⟨G86_0, G86_1, G86_2, G86_3, G86_4, G86_5, G86_6, G86_7, G86_8, G86_9, G86_10, F86_0, F86_1, F86_2, F86_3, F86_4, F86_5, F86_6, F86_7, F86_8, F86_9, F86_10⟩ := shr11 BK123.out
                 go_wp2_with (first | (go_at_call 24; (with_reducible refine (raw.calls a0_9 true _ A82.out).mono ?_); rintro e w' ⟨rfl, ⟨nd, rfl⟩⟩))
                 go_meet
                 case rel => exact ⟨_, (false), (by first | rfl | (simp; done) | (simp [*]; done)), H', ⟨by have := HJ1.out; have := HK2.out; have := HJ23.out; have := HJ43.out; first | omega | exact Nat.le_refl _⟩, ⟨by (with_reducible repeat (first | refine qag ?_ _ | refine qai ?_ | refine blk_alloc ?_ _)); exact BK123.out⟩, ⟨by repeat (first | (with_reducible first | exact HB.out | apply qad | apply qab | apply qac | refine qaf ?_ GE123.out) | exact HB.out)⟩⟩
               ·
                replace c83 := Bool.eq_false_iff.mpr c83
                subst c83
                have H1 : (rab.j4 kj43 true a0_0 a0_1 a0_2 a0_3 a0_4 a0_5 l0_6 l0_7 l0_8 a0_9 a0_10) = some r := by rw [if_neg (show ¬ (false = true) by decide)] at H; exact H
                clear H
                have H := H1
                clear H1
                have H' := Aside0.mk H
                clear H
                obtain ⟨G87_0, G87_1, G87_2, G87_3, G87_4, G87_5, G87_6, G87_7, G87_8, G87_9, G87_10, F87_0, F87_1, F87_2, F87_3, F87_4, F87_5, F87_6, F87_7, F87_8, F87_9, F87_10⟩ := shr11 BK123.out
                go_wp2_with (first | (go_at_call 24; (with_reducible refine (raw.calls a0_9 false _ A82.out).mono ?_); rintro e w' ⟨rfl, ⟨nd, rfl⟩⟩))
                go_meet
                case rel => exact ⟨_, (true), (by first | rfl | (simp; done) | (simp [*]; done)), H', ⟨by have := HJ1.out; have := HK2.out; have := HJ23.out; have := HJ43.out; first | omega | exact Nat.le_refl _⟩, ⟨by (with_reducible repeat (first | refine qag ?_ _ | refine qai ?_ | refine blk_alloc ?_ _)); exact BK123.out⟩, ⟨by repeat (first | (with_reducible first | exact HB.out | apply qad | apply qab | apply qac | refine qaf ?_ GE123.out) | exact HB.out)⟩⟩
             case rest => as_aux_lemma =>
              clear HC79
              try clear p1
              try clear q1
              try clear p2
              try clear c7
              try clear c8
              try clear p10
              try clear q10
              try clear c78
              try clear c80
              try clear c80b0
              try clear c80b1
              try clear c83
              try clear c84
              try clear c84b0
              try clear c84b1
              try clear G60_6 G60_7 G60_8 G60_9 F60_0 F60_1 F60_10 F60_2 F60_3 F60_4 F60_5 F60_6 F60_7 F60_8 F60_9
              try clear G62_0 G62_1 G62_10 G62_2 G62_3 G62_4 G62_5 G62_6 G62_7 G62_8 G62_9 F62_0 F62_1 F62_10 F62_2 F62_3 F62_4 F62_5 F62_6 F62_7 F62_8 F62_9
              try clear G63_0 G63_1 G63_10 G63_2 G63_3 G63_4 G63_5 G63_6 G63_7 G63_8 G63_9 F63_0 F63_1 F63_10 F63_2 F63_3 F63_4 F63_5 F63_6 F63_7 F63_8 F63_9
              try clear G65_0 G65_1 G65_10 G65_2 G65_3 G65_4 G65_5 G65_6 G65_7 G65_8 G65_9 F65_0 F65_1 F65_10 F65_2 F65_3 F65_4 F65_5 F65_6 F65_7 F65_8 F65_9
              try clear G69_0 G69_1 G69_10 G69_2 G69_3 G69_4 G69_5 G69_6 G69_7 G69_8 G69_9 F69_0 F69_1 F69_10 F69_2 F69_3 F69_4 F69_5 F69_6 F69_7 F69_8 F69_9
              try clear G71_0 G71_1 G71_10 G71_2 G71_3 G71_4 G71_5 G71_6 G71_7 G71_8 G71_9 F71_0 F71_1 F71_10 F71_2 F71_3 F71_4 F71_5 F71_6 F71_7 F71_8 F71_9
              try clear G73_0 G73_1 G73_10 G73_2 G73_3 G73_4 G73_5 G73_6 G73_7 G73_8 G73_9 F73_0 F73_1 F73_10 F73_2 F73_3 F73_4 F73_5 F73_6 F73_7 F73_8 F73_9
              try clear G75_0 G75_1 G75_10 G75_2 G75_3 G75_4 G75_5 G75_6 G75_7 G75_8 G75_9 F75_0 F75_1 F75_10 F75_2 F75_3 F75_4 F75_5 F75_6 F75_7 F75_8 F75_9
              try clear G76_0 G76_1 G76_10 G76_2 G76_3 G76_4 G76_5 G76_6 G76_7 G76_8 G76_9 F76_0 F76_1 F76_10 F76_2 F76_3 F76_4 F76_5 F76_6 F76_7 F76_8 F76_9
              try clear G81_0 G81_1 G81_10 G81_2 G81_3 G81_4 G81_5 G81_6 G81_7 G81_8 G81_9 F81_0 F81_1 F81_10 F81_2 F81_3 F81_4 F81_5 F81_6 F81_7 F81_8 F81_9
              try clear G85_0 G85_1 G85_10 G85_2 G85_3 G85_4 G85_5 G85_6 G85_7 G85_8 G85_9 F85_0 F85_1 F85_10 F85_2 F85_3 F85_4 F85_5 F85_6 F85_7 F85_8 F85_9
              try clear G86_0 G86_1 G86_10 G86_2 G86_3 G86_4 G86_5 G86_6 G86_7 G86_8 G86_9 F86_0 F86_1 F86_10 F86_2 F86_3 F86_4 F86_5 F86_6 F86_7 F86_8 F86_9
              try clear G87_0 G87_1 G87_10 G87_2 G87_3 G87_4 G87_5 G87_6 G87_7 G87_8 G87_9 F87_0 F87_1 F87_10 F87_2 F87_3 F87_4 F87_5 F87_6 F87_7 F87_8 F87_9
              try clear F13_0 F13_1 F13_10 F13_2 F13_3 F13_4 F13_5 F13_6 F13_7 F13_8 F13_9
              try clear F15_0 F15_1 F15_10 F15_2 F15_3 F15_4 F15_5 F15_6 F15_7 F15_8 F15_9
              try clear F16_0 F16_1 F16_10 F16_2 F16_3 F16_4 F16_5 F16_6 F16_7 F16_8 F16_9
              try clear F19_0 F19_1 F19_10 F19_2 F19_3 F19_4 F19_5 F19_6 F19_7 F19_8 F19_9
              try clear F21_0 F21_1 F21_10 F21_2 F21_3 F21_4 F21_5 F21_6 F21_7 F21_8 F21_9
              try clear F22_0 F22_1 F22_10 F22_2 F22_3 F22_4 F22_5 F22_6 F22_7 F22_8 F22_9
              try clear F23_0 F23_1 F23_10 F23_2 F23_3 F23_4 F23_5 F23_6 F23_7 F23_8 F23_9
              try clear F25_0 F25_1 F25_10 F25_2 F25_3 F25_4 F25_5 F25_6 F25_7 F25_8 F25_9
              try clear F27_0 F27_1 F27_10 F27_2 F27_3 F27_4 F27_5 F27_6 F27_7 F27_8 F27_9
              try clear F29_0 F29_1 F29_10 F29_2 F29_3 F29_4 F29_5 F29_6 F29_7 F29_8 F29_9
              try clear F31_0 F31_1 F31_10 F31_2 F31_3 F31_4 F31_5 F31_6 F31_7 F31_8 F31_9
              try clear F33_0 F33_1 F33_10 F33_2 F33_3 F33_4 F33_5 F33_6 F33_7 F33_8 F33_9
              try clear F35_0 F35_1 F35_10 F35_2 F35_3 F35_4 F35_5 F35_6 F35_7 F35_8 F35_9
              try clear F37_0 F37_1 F37_10 F37_2 F37_3 F37_4 F37_5 F37_6 F37_7 F37_8 F37_9
              try clear F39_0 F39_1 F39_10 F39_2 F39_3 F39_4 F39_5 F39_6 F39_7 F39_8 F39_9
              try clear F41_0 F41_1 F41_10 F41_2 F41_3 F41_4 F41_5 F41_6 F41_7 F41_8 F41_9
              try clear F42_0 F42_1 F42_10 F42_2 F42_3 F42_4 F42_5 F42_6 F42_7 F42_8 F42_9
              try clear F52_0 F52_1 F52_10 F52_2 F52_3 F52_4 F52_5 F52_6 F52_7 F52_8 F52_9
              try clear F54_0 F54_1 F54_10 F54_2 F54_3 F54_4 F54_5 F54_6 F54_7 F54_8 F54_9
              try clear F56_0 F56_1 F56_10 F56_2 F56_3 F56_4 F56_5 F56_6 F56_7 F56_8 F56_9
              try clear F58_0 F58_1 F58_10 F58_2 F58_3 F58_4 F58_5 F58_6 F58_7 F58_8 F58_9
              obtain ⟨kq, x143_78, rfl, HA, HJ78, BK123, HB⟩ := hcut
              cases kq with
              | zero => exact absurd HA.out (by simp [rab.j4])
              | succ kj78 =>
               have H := HA.out
               clear HA
               simp only [rab.j4] at H
               by_cases c88 : x143_78 = true
               ·
                subst c88
                have H1 : (some 1) = some r := by rw [if_pos rfl] at H; exact H
                clear H
                have H := H1
                clear H1
                obtain rfl := Option.some.inj H
                go_wp2
                go_ret
                exact ⟨by first | rfl | (simp [*] <;> rfl), by repeat (first | (with_reducible first | exact HB.out | apply qad | apply qab | apply qac | refine qaf ?_ GE123.out) | exact HB.out)⟩
               ·
                replace c88 := Bool.eq_false_iff.mpr c88
                subst c88
                have H1 : ((rad.f kj78 l0_6 1 2).bind fun t129 => (if t129 = true then (rab.j5 kj78 true a0_0 a0_1 a0_2 a0_3 a0_4 a0_5 l0_6 l0_7 l0_8 a0_9 a0_10) else ((rad.f kj78 l0_7 1 1).bind fun t130 => (if t130 = true then (rab.j5 kj78 true a0_0 a0_1 a0_2 a0_3 a0_4 a0_5 l0_6 l0_7 l0_8 a0_9 a0_10) else ((rad.f kj78 l0_7 1 2).bind fun t131 => (if t131 = true then (rab.j5 kj78 true a0_0 a0_1 a0_2 a0_3 a0_4 a0_5 l0_6 l0_7 l0_8 a0_9 a0_10) else ((rad.f kj78 l0_7 1 3).bind fun t132 => (if t132 = true then (rab.j5 kj78 true a0_0 a0_1 a0_2 a0_3 a0_4 a0_5 l0_6 l0_7 l0_8 a0_9 a0_10) else ((rad.f kj78 l0_7 1 4).bind fun t133 => (if t133 = true then (rab.j5 kj78 true a0_0 a0_1 a0_2 a0_3 a0_4 a0_5 l0_6 l0_7 l0_8 a0_9 a0_10) else ((rad.f kj78 l0_7 26 (-1)).bind fun t134 => (if t134 = true then (rab.j5 kj78 true a0_0 a0_1 a0_2 a0_3 a0_4 a0_5 l0_6 l0_7 l0_8 a0_9 a0_10) else ((rad.f kj78 l0_8 26 (-1)).bind fun t135 => (rab.j5 kj78 t135 a0_0 a0_1 a0_2 a0_3 a0_4 a0_5 l0_6 l0_7 l0_8 a0_9 a0_10)))))))))))))) = some r := by rw [if_neg (show ¬ (false = true) by decide)] at H; exact H
                clear H
                have H := H1
                clear H1
                have HC89 := Aside0.mk H
                clear H
                go_upto_region 15 with (fail)
                go_cut [176] (fun v176 wc => ∃ (kq : Nat) (x176_88 : Bool), v176 = .bool x176_88 ∧ Aside0 (rab.j5 kq x176_88 a0_0 a0_1 a0_2 a0_3 a0_4 a0_5 l0_6 l0_7 l0_8 a0_9 a0_10 = some r) ∧ Aside0 (kq ≤ kj78) ∧ Aside0 (wc.heap[gb123]? = some (.cells #[.string a0_0, .int .i64 a0_1, .int .i64 a0_2, .int .i64 a0_3, .int .i64 a0_4, .int .i64 a0_5, (.slice A0_6 l0_6.length c0_6), (.slice A0_7 l0_7.length c0_7), (.slice A0_8 l0_8.length c0_8), .string a0_9, .bool a0_10] 24 (0, 0))) ∧ Aside0 (Below w.heap.size w wc))
                case first => as_aux_lemma =>
                 have H := HC89.out
                 clear HC89
                 replace H := Option.bind_eq_some_iff.mp H
                 obtain ⟨t129, A900, H⟩ := H
                 replace H : (if t129 = true then (rab.j5 kj78 true a0_0 a0_1 a0_2 a0_3 a0_4 a0_5 l0_6 l0_7 l0_8 a0_9 a0_10) else ((rad.f kj78 l0_7 1 1).bind fun t130 => (if t130 = true then (rab.j5 kj78 true a0_0 a0_1 a0_2 a0_3 a0_4 a0_5 l0_6 l0_7 l0_8 a0_9 a0_10) else ((rad.f kj78 l0_7 1 2).bind fun t131 => (if t131 = true then (rab.j5 kj78 true a0_0 a0_1 a0_2 a0_3 a0_4 a0_5 l0_6 l0_7 l0_8 a0_9 a0_10) else ((rad.f kj78 l0_7 1 3).bind fun t132 => (if t132 = true then (rab.j5 kj78 true a0_0 a0_1 a0_2 a0_3 a0_4 a0_5 l0_6 l0_7 l0_8 a0_9 a0_10) else ((rad.f kj78 l0_7 1 4).bind fun t133 => (if t133 = true then (rab.j5 kj78 true a0_0 a0_1 a0_2 a0_3 a0_4 a0_5 l0_6 l0_7 l0_8 a0_9 a0_10) else ((rad.f kj78 l0_7 26 (-1)).bind fun t134 => (if t134 = true then (rab.j5 kj78 true a0_0 a0_1 a0_2 a0_3 a0_4 a0_5 l0_6 l0_7 l0_8 a0_9 a0_10) else ((rad.f kj78 l0_8 26 (-1)).bind fun t135 => (rab.j5 kj78 t135 a0_0 a0_1 a0_2 a0_3 a0_4 a0_5 l0_6 l0_7 l0_8 a0_9 a0_10))))))))))))) = some r := H
                 have A90 := Aside0.mk A900
                 clear A900
                 by_cases c91 : t129 = true
                 ·
                  subst c91
                  have H1 : (rab.j5 kj78 true a0_0 a0_1 a0_2 a0_3 a0_4 a0_5 l0_6 l0_7 l0_8 a0_9 a0_10) = some r := by rw [if_pos rfl] at H; exact H
                  clear H
                  have H := H1
                  clear H1
                  have H' := Aside0.mk H
                  clear H
                  obtain ⟨G92_0, G92_1, G92_2, G92_3, G92_4, G92_5, G92_6, G92_7, G92_8, G92_9, G92_10, F92_0, F92_1, F92_2, F92_3, F92_4, F92_5, F92_6, F92_7, F92_8, F92_9, F92_10⟩ := shr11 BK123.out
                  go_wp2_with (first | ((with_reducible refine qat (f := 25) rfl ?_); refine goesL_ (some 146) rfl rfl Tryz.func25 (by kernel_rfl) rfl #[.slice A0_6 l0_6.length c0_6, .int .i64 1, .int .i64 2] rfl (by (try simp only [List.map_toArray, List.map_cons, List.map_nil]); first | done | rfl | (simp only [List.length_drop, List.length_take]; rfl)) ?_; (with_reducible refine (rad.calls kj78 _ _ l0_6 1 2 true _ ?side1 ?side2 A90.out).mono ?_); (case side1 => repeat (first | exact (Kd.C_below HR0_6.out HB.out) | (with_reducible refine Kd.C_alloc ?_ _) | (with_reducible refine Kd.C_drewN ?_ _) | (with_reducible refine Kd.C_drew ?_))); (case side2 => exact HC0_6.out); rintro e w' ⟨rfl, ⟨nd, rfl⟩⟩; refine ⟨_, rfl, ?_⟩))
                  go_meet
                  case rel => exact ⟨_, (true), (by first | rfl | (simp; done) | (simp [*]; done)), H', ⟨by have := HJ1.out; have := HK2.out; have := HJ23.out; have := HJ43.out; have := HJ78.out; first | omega | exact Nat.le_refl _⟩, ⟨by (with_reducible repeat (first | refine qag ?_ _ | refine qai ?_ | refine blk_alloc ?_ _)); exact BK123.out⟩, ⟨by repeat (first | (with_reducible first | exact HB.out | apply qad | apply qab | apply qac | refine qaf ?_ GE123.out) | exact HB.out)⟩⟩
                 ·
                  replace c91 := Bool.eq_false_iff.mpr c91
                  subst c91
                  have H1 : ((rad.f kj78 l0_7 1 1).bind fun t130 => (if t130 = true then (rab.j5 kj78 true a0_0 a0_1 a0_2 a0_3 a0_4 a0_5 l0_6 l0_7 l0_8 a0_9 a0_10) else ((rad.f kj78 l0_7 1 2).bind fun t131 => (if t131 = true then (rab.j5 kj78 true a0_0 a0_1 a0_2 a0_3 a0_4 a0_5 l0_6 l0_7 l0_8 a0_9 a0_10) else ((rad.f kj78 l0_7 1 3).bind fun t132 => (if t132 = true then (rab.j5 kj78 true a0_0 a0_1 a0_2 a0_3 a0_4 a0_5 l0_6 l0_7 l0_8 a0_9 a0_10) else ((rad.f kj78 l0_7 1 4).bind fun t133 => (if t133 = true then (rab.j5 kj78 true a0_0 a0_1 a0_2 a0_3 a0_4 a0_5 l0_6 l0_7 l0_8 a0_9 a0_10) else ((rad.f kj78 l0_7 26 (-1)).bind fun t134 => (if t134 = true then (rab.j5 kj78 true a0_0 a0_1 a0_2 a0_3 a0_4 a0_5 l0_6 l0_7 l0_8 a0_9 a0_10) else ((rad.f kj78 l0_8 26 (-1)).bind fun t135 => (rab.j5 kj78 t135 a0_0 a0_1 a0_2 a0_3 a0_4 a0_5 l0_6 l0_7 l0_8 a0_9 a0_10)))))))))))) = some r := by rw [if_neg (show ¬ (false = true) by decide)] at H; exact H
                  clear H
                  have H := H1
                  clear H1
                  replace H := Option.bind_eq_some_iff.mp H
                  obtain ⟨t130, A930, H⟩ := H
                  replace H : (if t130 = true then (rab.j5 kj78 true a0_0 a0_1 a0_2 a0_3 a0_4 a0_5 l0_6 l0_7 l0_8 a0_9 a0_10) else ((rad.f kj78 l0_7 1 2).bind fun t131 => (if t131 = true then (rab.j5 kj78 true a0_0 a0_1 a0_2 a0_3 a0_4 a0_5 l0_6 l0_7 l0_8 a0_9 a0_10) else ((rad.f kj78 l0_7 1 3).bind fun t132 => (if t132 = true then (rab.j5 kj78 true a0_0 a0_1 a0_2 a0_3 a0_4 a0_5 l0_6 l0_7 l0_8 a0_9 a0_10) else ((rad.f kj78 l0_7 1 4).bind fun t133 => (if t133 = true then (rab.j5 kj78 true a0_0 a0_1 a0_2 a0_3 a0_4 a0_5 l0_6 l0_7 l0_8 a0_9 a0_10) else ((rad.f kj78 l0_7 26 (-1)).bind fun t134 => (if t134 = true then (rab.j5 kj78 true a0_0 a0_1 a0_2 a0_3 a0_4 a0_5 l0_6 l0_7 l0_8 a0_9 a0_10) else ((rad.f kj78 l0_8 26 (-1)).bind fun t135 => (rab.j5 kj78 t135 a0_0 a0_1 a0_2 a0_3 a0_4 a0_5 l0_6 l0_7 l0_8 a0_9 a0_10))))))))))) = some r := H
                  have A93 := Aside0.mk A930
                  clear A930
                  by_cases c94 : t130 = true
                  ·
                   subst c94
                   have H1 : (rab.j5 kj78 true a0_0 a0_1 a0_2 a0_3 a0_4 a0_5 l0_6 l0_7 l0_8 a0_9 a0_10) = some r := by rw [if_pos rfl] at H; exact H
                   clear H
                   have H := H1
                   clear H1
                   have H' := Aside0.mk H
                   clear H
                   obtain ⟨G95_0, G95_1, G95_2, G95_3, G95_4, G95_5, G95_6, G95_7, G95_8, G95_9, G95_10, F95_0, F95_1, F95_2, F95_3, F95_4, F95_5, F95_6, F95_7, F95_8, F95_9, F95_10⟩ := shr11 BK123.out
                   go_wp2_with (first | ((with_reducible refine qat (f := 25) rfl ?_); refine goesL_ (some 146) rfl rfl Tryz.func25 (by kernel_rfl) rfl #[.slice A0_6 l0_6.length c0_6, .int .i64 1, .int .i64 2] rfl (by (try simp only [List.map_toArray, List.map_cons, List.map_nil]); first | done | rfl | (simp only [List.length_drop, List.length_take]; rfl)) ?_; (with_reducible refine (rad.calls kj78 _ _ l0_6 1 2 false _ ?side1 ?side2 A90.out).mono ?_); (case side1 => repeat (first | exact (Kd.C_below HR0_6.out HB.out) | (with_reducible refine Kd.C_alloc ?_ _) | (with_reducible refine Kd.C_drewN ?_ _) | (with_reducible refine Kd.C_drew ?_))); (case side2 => exact HC0_6.out); rintro e w' ⟨rfl, ⟨nd, rfl⟩⟩; refine ⟨_, rfl, ?_⟩) | (go_at_call 25; (with_reducible refine (rad.calls kj78 _ _ l0_7 1 1 true _ ?side1 ?side2 A93.out).mono ?_); (case side1 => repeat (first | exact (Kd.C_below HR0_7.out (by repeat (first | (with_reducible first | exact HB.out | apply qad | apply qab | apply qac | refine qaf ?_ GE123.out) | exact HB.out))) | (with_reducible refine Kd.C_alloc ?_ _) | (with_reducible refine Kd.C_drewN ?_ _) | (with_reducible refine Kd.C_drew ?_))); (case side2 => exact HC0_7.out); rintro e w' ⟨rfl, ⟨nd, rfl⟩⟩))
                   go_meet
                   case rel => exact ⟨_, (true), (by first | rfl | (simp; done) | (simp [*]; done)), H', ⟨by have := HJ1.out; have := HK2.out; have := HJ23.out; have := HJ43.out; have := HJ78.out; first | omega | exact Nat.le_refl _⟩, ⟨by (with_reducible repeat (first | refine qag ?_ _ | refine qai ?_ | refine blk_alloc ?_ _)); exact BK123.out⟩, ⟨by repeat (first | (with_reducible first | exact HB.out | apply qad | apply qab | apply qac | refine qaf ?_ GE123.out) | exact HB.out)⟩⟩
                  ·
                   replace c94 := Bool.eq_false_iff.mpr c94
                   subst c94
                   have H1 : ((rad.f kj78 l0_7 1 2).bind fun t131 => (if t131 = true then (rab.j5 kj78 true a0_0 a0_1 a0_2 a0_3 a0_4 a0_5 l0_6 l0_7 l0_8 a0_9 a0_10) else ((rad.f kj78 l0_7 1 3).bind fun t132 => (if t132 = true then (rab.j5 kj78 true a0_0 a0_1 a0_2 a0_3 a0_4 a0_5 l0_6 l0_7 l0_8 a0_9 a0_10) else ((rad.f kj78 l0_7 1 4).bind fun t133 => (if t133 = true then (rab.j5 kj78 true a0_0 a0_1 a0_2 a0_3 a0_4 a0_5 l0_6 l0_7 l0_8 a0_9 a0_10) else ((rad.f kj78 l0_7 26 (-1)).bind fun t134 => (if t134 = true then (rab.j5 kj78 true a0_0 a0_1 a0_2 a0_3 a0_4 a0_5 l0_6 l0_7 l0_8 a0_9 a0_10) else ((rad.f kj78 l0_8 26 (-1)).bind fun t135 => (rab.j5 kj78 t135 a0_0 a0_1 a0_2 a0_3 a0_4 a0_5 l0_6 l0_7 l0_8 a0_9 a0_10)))))))))) = some r := by rw [if_neg (show ¬ (false = true) by decide)] at H; exact H
                   clear H
                   have H := H1
                   clear H1
                   replace H := Option.bind_eq_some_iff.mp H
                   obtain ⟨t131, A960, H⟩ := H
                   replace H : (if t131 = true then (rab.j5 kj78 true a0_0 a0_1 a0_2 a0_3 a0_4 a0_5 l0_6 l0_7 l0_8 a0_9 a0_10) else ((rad.f kj78 l0_7 1 3).bind fun t132 => (if t132 = true then (rab.j5 kj78 true a0_0 a0_1 a0_2 a0_3 a0_4 a0_5 l0_6 l0_7 l0_8 a0_9 a0_10) else ((rad.f kj78 l0_7 1 4).bind fun t133 => (if t133 = true then (rab.j5 kj78 true a0_0 a0_1 a0_2 a0_3 a0_4 a0_5 l0_6 l0_7 l0_8 a0_9 a0_10) else ((rad.f kj78 l0_7 26 (-1)).bind fun t134 => (if t134 = true then (rab.j5 kj78 true a0_0 a0_1 a0_2 a0_3 a0_4 a0_5 l0_6 l0_7 l0_8 a0_9 a0_10) else ((rad.f kj78 l0_8 26 (-1)).bind fun t135 => (rab.j5 kj78 t135 a0_0 a0_1 a0_2 a0_3 a0_4 a0_5 l0_6 l0_7 l0_8 a0_9 a0_10))))))))) = some r := H
                   have A96 := Aside0.mk A960
                   clear A960
                   by_cases c97 : t131 = true
                   ·
                    subst c97
                    have H1 : (rab.j5 kj78 true a0_0 a0_1 a0_2 a0_3 a0_4 a0_5 l0_6 l0_7 l0_8 a0_9 a0_10) = some r := by rw [if_pos rfl] at H; exact H
                    clear H
                    have H := H1
                    clear H1
                    have H' := Aside0.mk H
                    clear H
                    obtain ⟨G98_0, G98_1, G98_2, G98_3, G98_4, G98_5, G98_6, G98_7, G98_8, G98_9, G98_10, F98_0, F98_1, F98_2, F98_3, F98_4, F98_5, F98_6, F98_7, F98_8, F98_9, F98_10⟩ := shr11 BK123.out
                    go_wp2_with (first | ((with_reducible refine qat (f := 25) rfl ?_); refine goesL_ (some 146) rfl rfl Tryz.func25 (by kernel_rfl) rfl #[.slice A0_6 l0_6.length c0_6, .int .i64 1, .int .i64 2] rfl (by (try simp only [List.map_toArray, List.map_cons, List.map_nil]); first | done | rfl | (simp only [List.length_drop, List.length_take]; rfl)) ?_; (with_reducible refine (rad.calls kj78 _ _ l0_6 1 2 false _ ?side1 ?side2 A90.out).mono ?_); (case side1 => repeat (first | exact (Kd.C_below HR0_6.out HB.out) | (with_reducible refine Kd.C_alloc ?_ _) | (with_reducible refine Kd.C_drewN ?_ _) | (with_reducible refine Kd.C_drew ?_))); (case side2 => exact HC0_6.out); rintro e w' ⟨rfl, ⟨nd, rfl⟩⟩; refine ⟨_, rfl, ?_⟩) | (go_at_call 25; (with_reducible refine (rad.calls kj78 _ _ l0_7 1 1 false _ ?side1 ?side2 A93.out).mono ?_); (case side1 => repeat (first | exact (Kd.C_below HR0_7.out (by repeat (first | (with_reducible first | exact HB.out | apply qad | apply qab | apply qac | refine qaf ?_ GE123.out) | exact HB.out))) | (with_reducible refine Kd.C_alloc ?_ _) | (with_reducible refine Kd.C_drewN ?_ _) | (with_reducible refine Kd.C_drew ?_))); (case side2 => exact HC0_7.out); rintro e w' ⟨rfl, ⟨nd, rfl⟩⟩) | (go_at_call 25; (with_reducible refine (rad.calls kj78 _ _ l0_7 1 2 true _ ?side1 ?side2 A96.out).mono ?_); (case side1 => repeat (first | exact (Kd.C_below HR0_7.out (by repeat (first | (with_reducible first | exact HB.out | apply qad | apply qab | apply qac | refine qaf ?_ GE123.out) | exact HB.out))) | (with_reducible refine Kd.C_alloc ?_ _) | (with_reducible refine Kd.C_drewN ?_ _) | (with_reducible refine Kd.C_drew ?_))); (case side2 => exact HC0_7.out); rintro e w' ⟨rfl, ⟨nd, rfl⟩⟩))
                    go_meet
                    case rel => exact ⟨_, (true), (by first | rfl | (simp; done) | (simp [*]; done)), H', ⟨by have := HJ1.out; have := HK2.out; have := HJ23.out; have := HJ43.out; have := HJ78.out; first | omega | exact Nat.le_refl _⟩, ⟨by (with_reducible repeat (first | refine qag ?_ _ | refine qai ?_ | refine blk_alloc ?_ _)); exact BK123.out⟩, ⟨by repeat (first | (with_reducible first | exact HB.out | apply qad | apply qab | apply qac | refine qaf ?_ GE123.out) | exact HB.out)⟩⟩
                   ·
                    replace c97 := Bool.eq_false_iff.mpr c97
                    subst c97
                    have H1 : ((rad.f kj78 l0_7 1 3).bind fun t132 => (if t132 = true then (rab.j5 kj78 true a0_0 a0_1 a0_2 a0_3 a0_4 a0_5 l0_6 l0_7 l0_8 a0_9 a0_10) else ((rad.f kj78 l0_7 1 4).bind fun t133 => (if t133 = true then (rab.j5 kj78 true a0_0 a0_1 a0_2 a0_3 a0_4 a0_5 l0_6 l0_7 l0_8 a0_9 a0_10) else ((rad.f kj78 l0_7 26 (-1)).bind fun t134 => (if t134 = true then (rab.j5 kj78 true a0_0 a0_1 a0_2 a0_3 a0_4 a0_5 l0_6 l0_7 l0_8 a0_9 a0_10) else ((rad.f kj78 l0_8 26 (-1)).bind fun t135 => (rab.j5 kj78 t135 a0_0 a0_1 a0_2 a0_3 a0_4 a0_5 l0_6 l0_7 l0_8 a0_9 a0_10)))))))) = some r := by rw [if_neg (show ¬ (false = true) by decide)] at H; exact H
                    clear H
                    have H := H1
                    clear H1
                    replace H := Option.bind_eq_some_iff.mp H
                    obtain ⟨t132, A990, H⟩ := H
                    replace H : (if t132 = true then (rab.j5 kj78 true a0_0 a0_1 a0_2 a0_3 a0_4 a0_5 l0_6 l0_7 l0_8 a0_9 a0_10) else ((rad.f kj78 l0_7 1 4).bind fun t133 => (if t133 = true then (rab.j5 kj78 true a0_0 a0_1 a0_2 a0_3 a0_4 a0_5 l0_6 l0_7 l0_8 a0_9 a0_10) else ((rad.f kj78 l0_7 26 (-1)).bind fun t134 => (if t134 = true then (rab.j5 kj78 true a0_0 a0_1 a0_2 a0_3 a0_4 a0_5 l0_6 l0_7 l0_8 a0_9 a0_10) else ((rad.f kj78 l0_8 26 (-1)).bind fun t135 => (rab.j5 kj78 t135 a0_0 a0_1 a0_2 a0_3 a0_4 a0_5 l0_6 l0_7 l0_8 a0_9 a0_10))))))) = some r := H
                    have A99 := Aside0.mk A990
                    clear A990
                    by_cases c100 : t132 = true
                    ·
                     subst c100
                     have H1 : (rab.j5 kj78 true a0_0 a0_1 a0_2 a0_3 a0_4 a0_5 l0_6 l0_7 l0_8 a0_9 a0_10) = some r := by rw [if_pos rfl] at H; exact H
                     clear H
                     have H := H1
                     clear H1
                     have H' := Aside0.mk H
                     clear H
                     obtain ⟨G101_0, G101_1, G101_2, G101_3, G101_4, G101_5, G101_6, G101_7, G101_8, G101_9, G101_10, F101_0, F101_1, F101_2, F101_3, F101_4, F101_5, F101_6, F101_7, F101_8, F101_9, F101_10⟩ := shr11 BK123.out
                     go_wp2_with (first | ((with_reducible refine qat (f := 25) rfl ?_); refine goesL_ (some 146) rfl rfl Tryz.func25 (by kernel_rfl) rfl #[.slice A0_6 l0_6.length c0_6, .int .i64 1, .int .i64 2] rfl (by (try simp only [List.map_toArray, List.map_cons, List.map_nil]); first | done | rfl | (simp only [List.length_drop, List.length_take]; rfl)) ?_; (with_reducible refine (rad.calls kj78 _ _ l0_6 1 2 false _ ?side1 ?side2 A90.out).mono ?_); (case side1 => repeat (first | exact (Kd.C_below HR0_6.out HB.out) | (with_reducible refine Kd.C_alloc ?_ _) | (with_reducible refine Kd.C_drewN ?_ _) | (with_reducible refine Kd.C_drew ?_))); (case side2 => exact HC0_6.out); rintro e w' ⟨rfl, ⟨nd, rfl⟩⟩; refine ⟨_, rfl, ?_⟩) | (go_at_call 25; (with_reducible refine (rad.calls kj78 _ _ l0_7 1 1 false _ ?side1 ?side2 A93.out).mono ?_); (case side1 => repeat (first | exact (Kd.C_below HR0_7.out (by repeat (first | (with_reducible first | exact HB.out | apply qad | apply qab | apply qac | refine qaf ?_ GE123.out) | exact HB.out))) | (with_reducible refine Kd.C_alloc ?_ _) | (with_reducible refine Kd.C_drewN ?_ _) | (with_reducible refine Kd.C_drew ?_))); (case side2 => exact HC0_7.out); rintro e w' ⟨rfl, ⟨nd, rfl⟩⟩) | (go_at_call 25; (with_reducible refine (rad.calls kj78 _ _ l0_7 1 2 false _ ?side1 ?side2 A96.out).mono ?_); (case side1 => repeat (first | exact (Kd.C_below HR0_7.out (by repeat (first | (with_reducible first | exact HB.out | apply qad | apply qab | apply qac | refine qaf ?_ GE123.out) | exact HB.out))) | (with_reducible refine Kd.C_alloc ?_ _) | (with_reducible refine Kd.C_drewN ?_ _) | (with_reducible refine Kd.C_drew ?_))); (case side2 => exact HC0_7.out); rintro e w' ⟨rfl, ⟨nd, rfl⟩⟩) | (go_at_call 25; (with_reducible refine (rad.calls kj78 _ _ l0_7 1 3 true _ ?side1 ?side2 A99.out).mono ?_); (case side1 => repeat (first | exact (Kd.C_below HR0_7.out (by repeat (first | (with_reducible first | exact HB.out | apply qad | apply qab | apply qac | refine qaf ?_ GE123.out) | exact HB.out))) | (with_reducible refine Kd.C_alloc ?_ _) | (with_reducible refine Kd.C_drewN ?_ _) | (with_reducible refine Kd.C_drew ?_))); (case side2 => exact HC0_7.out); rintro e w' ⟨rfl, ⟨nd, rfl⟩⟩))
                     go_meet
                     case rel => exact ⟨_, (true), (by first | rfl | (simp; done) | (simp [*]; done)), H', ⟨by have := HJ1.out; have := HK2.out; have := HJ23.out; have := HJ43.out; have := HJ78.out; first | omega | exact Nat.le_refl _⟩, ⟨by (with_reducible repeat (first | refine qag ?_ _ | refine qai ?_ | refine blk_alloc ?_ _)); exact BK123.out⟩, ⟨by repeat (first | (with_reducible first | exact HB.out | apply qad | apply qab | apply qac | refine qaf ?_ GE123.out) | exact HB.out)⟩⟩
                    ·
                     replace c100 := Bool.eq_false_iff.mpr c100
                     subst c100
                     have H1 : ((rad.f kj78 l0_7 1 4).bind fun t133 => (if t133 = true then (rab.j5 kj78 true a0_0 a0_1 a0_2 a0_3 a0_4 a0_5 l0_6 l0_7 l0_8 a0_9 a0_10) else ((rad.f kj78 l0_7 26 (-1)).bind fun t134 => (if t134 = true then (rab.j5 kj78 true a0_0 a0_1 a0_2 a0_3 a0_4 a0_5 l0_6 l0_7 l0_8 a0_9 a0_10) else ((rad.f kj78 l0_8 26 (-1)).bind fun t135 => (rab.j5 kj78 t135 a0_0 a0_1 a0_2 a0_3 a0_4 a0_5 l0_6 l0_7 l0_8 a0_9 a0_10)))))) = some r := by rw [if_neg (show ¬ (false = true) by decide)] at H; exact H
                     clear H
                     have H := H1
                     clear H1
                     replace H := Option.bind_eq_some_iff.mp H
                     obtain ⟨t133, A1020, H⟩ := H
                     replace H : (if t133 = true then (rab.j5 kj78 true a0_0 a0_1 a0_2 a0_3 a0_4 a0_5 l0_6 l0_7 l0_8 a0_9 a0_10) else ((rad.f kj78 l0_7 26 (-1)).bind fun t134 => (if t134 = true then (rab.j5 kj78 true a0_0 a0_1 a0_2 a0_3 a0_4 a0_5 l0_6 l0_7 l0_8 a0_9 a0_10) else ((rad.f kj78 l0_8 26 (-1)).bind fun t135 => (rab.j5 kj78 t135 a0_0 a0_1 a0_2 a0_3 a0_4 a0_5 l0_6 l0_7 l0_8 a0_9 a0_10))))) = some r := H
                     have A102 := Aside0.mk A1020
                     clear A1020
                     by_cases c103 : t133 = true
                     ·
                      subst c103
                      have H1 : (rab.j5 kj78 true a0_0 a0_1 a0_2 a0_3 a0_4 a0_5 l0_6 l0_7 l0_8 a0_9 a0_10) = some r := by rw [if_pos rfl] at H; exact H
                      clear H
                      have H := H1
                      clear H1
                      have H' := Aside0.mk H
                      clear H
                      obtain ⟨G104_0, G104_1, G104_2, G104_3, G104_4, G104_5, G104_6, G104_7, G104_8, G104_9, G104_10, F104_0, F104_1, F104_2, F104_3, F104_4, F104_5, F104_6, F104_7, F104_8, F104_9, F104_10⟩ := shr11 BK123.out
                      go_wp2_with (first | ((with_reducible refine qat (f := 25) rfl ?_); refine goesL_ (some 146) rfl rfl Tryz.func25 (by kernel_rfl) rfl #[.slice A0_6 l0_6.length c0_6, .int .i64 1, .int .i64 2] rfl (by (try simp only [List.map_toArray, List.map_cons, List.map_nil]); first | done | rfl | (simp only [List.length_drop, List.length_take]; rfl)) ?_; (with_reducible refine (rad.calls kj78 _ _ l0_6 1 2 false _ ?side1 ?side2 A90.out).mono ?_); (case side1 => repeat (first | exact (Kd.C_below HR0_6.out HB.out) | (with_reducible refine Kd.C_alloc ?_ _) | (with_reducible refine Kd.C_drewN ?_ _) | (with_reducible refine Kd.C_drew ?_))); (case side2 => exact HC0_6.out); rintro e w' ⟨rfl, ⟨nd, rfl⟩⟩; refine ⟨_, rfl, ?_⟩) | (go_at_call 25; (with_reducible refine (rad.calls kj78 _ _ l0_7 1 1 false _ ?side1 ?side2 A93.out).mono ?_); (case side1 => repeat (first | exact (Kd.C_below HR0_7.out (by repeat (first | (with_reducible first | exact HB.out | apply qad | apply qab | apply qac | refine qaf ?_ GE123.out) | exact HB.out))) | (with_reducible refine Kd.C_alloc ?_ _) | (with_reducible refine Kd.C_drewN ?_ _) | (with_reducible refine Kd.C_drew ?_))); (case side2 => exact HC0_7.out); rintro e w' ⟨rfl, ⟨nd, rfl⟩⟩) | (go_at_call 25; (with_reducible refine (rad.calls kj78 _ _ l0_7 1 2 false _ ?side1 ?side2 A96.out).mono ?_); (case side1 => repeat (first | exact (Kd.C_below HR0_7.out (by repeat (first | (with_reducible first | exact HB.out | apply qad | apply qab | apply qac | refine qaf ?_ GE123.out) | exact HB.out))) | (with_reducible refine Kd.C_alloc ?_ _) | (with_reducible refine Kd.C_drewN ?_ _) | (with_reducible refine Kd.C_drew ?_))); (case side2 => exact HC0_7.out); rintro e w' ⟨rfl, ⟨nd, rfl⟩⟩) | (go_at_call 25; (with_reducible refine (rad.calls kj78 _ _ l0_7 1 3 false _ ?side1 ?side2 A99.out).mono ?_); (case side1 => repeat (first | exact (Kd.C_below HR0_7.out (by repeat (first | (with_reducible first | exact HB.out | apply qad | apply qab | apply qac | refine qaf ?_ GE123.out) | exact HB.out))) | (with_reducible refine Kd.C_alloc ?_ _) | (with_reducible refine Kd.C_drewN ?_ _) | (with_reducible refine Kd.C_drew ?_))); (case side2 => exact HC0_7.out); rintro e w' ⟨rfl, ⟨nd, rfl⟩⟩) | (go_at_call 25; (with_reducible refine (rad.calls kj78 _ _ l0_7 1 4 true _ ?side1 ?side2 A102.out).mono ?_); (case side1 => repeat (first | exact (Kd.C_below HR0_7.out (by repeat (first | (with_reducible first | exact HB.out | apply qad | apply qab | apply qac | refine qaf ?_ GE123.out) | exact HB.out))) | (with_reducible refine Kd.C_alloc ?_ _) | (with_reducible refine Kd.C_drewN ?_ _) | (with_reducible refine Kd.C_drew ?_))); (case side2 => exact HC0_7.out); rintro e w' ⟨rfl, ⟨nd, rfl⟩⟩))
                      go_meet
                      case rel => exact ⟨_, (true), (by first | rfl | (simp; done) | (simp [*]; done)), H', ⟨by have := HJ1.out; have := HK2.out; have := HJ23.out; have := HJ43.out; have := HJ78.out; first | omega | exact Nat.le_refl _⟩, ⟨by (with_reducible repeat (first | refine qag ?_ _ | refine qai ?_ | refine blk_alloc ?_ _)); exact BK123.out⟩, ⟨by repeat (first | (with_reducible first | exact HB.out | apply qad | apply qab | apply qac | refine qaf ?_ GE123.out) | exact HB.out)⟩⟩
                     ·
                      replace c103 := Bool.eq_false_iff.mpr c103
                      subst c103
                      have H1 : ((rad.f kj78 l0_7 26 (-1)).bind fun t134 => (if t134 = true then (rab.j5 kj78 true a0_0 a0_1 a0_2 a0_3 a0_4 a0_5 l0_6 l0_7 l0_8 a0_9 a0_10) else ((rad.f kj78 l0_8 26 (-1)).bind fun t135 => (rab.j5 kj78 t135 a0_0 a0_1 a0_2 a0_3 a0_4 a0_5 l0_6 l0_7 l0_8 a0_9 a0_10)))) = some r := by rw [if_neg (show ¬ (false = true) by decide)] at H; exact H
                      clear H
                      have H := H1
                      clear H1
                      replace H := Option.bind_eq_some_iff.mp H
                      obtain ⟨t134, A1050, H⟩ := H
                      replace H : (if t134 = true then (rab.j5 kj78 true a0_0 a0_1 a0_2 a0_3 a0_4 a0_5 l0_6 l0_7 l0_8 a0_9 a0_10) else ((rad.f kj78 l0_8 26 (-1)).bind fun t135 => (rab.j5 kj78 t135 a0_0 a0_1 a0_2 a0_3 a0_4 a0_5 l0_6 l0_7 l0_8 a0_9 a0_10))) = some r := H
                      have A105 := Aside0.mk A1050
                      clear A1050
                      by_cases c106 : t134 = true
                      ·
                       subst c106
                       have H1 : (rab.j5 kj78 true a0_0 a0_1 a0_2 a0_3 a0_4 a0_5 l0_6 l0_7 l0_8 a0_9 a0_10) = some r := by rw [if_pos rfl] at H; exact H
                       clear H
                       have H := H1
                       clear H1
                       have H' := Aside0.mk H
                       clear H
                       obtain ⟨G107_0, G107_1, G107_2, G107_3, G107_4, G107_5, G107_6, G107_7, G107_8, G107_9, G107_10, F107_0, F107_1, F107_2, F107_3, F107_4, F107_5, F107_6, F107_7, F107_8, F107_9, F107_10⟩ := shr11 BK123.out
                       go_wp2_with (first | ((with_reducible refine qat (f := 25) rfl ?_); refine goesL_ (some 146) rfl rfl Tryz.func25 (by kernel_rfl) rfl #[.slice A0_6 l0_6.length c0_6, .int .i64 1, .int .i64 2] rfl (by (try simp only [List.map_toArray, List.map_cons, List.map_nil]); first | done | rfl | (simp only [List.length_drop, List.length_take]; rfl)) ?_; (with_reducible refine (rad.calls kj78 _ _ l0_6 1 2 false _ ?side1 ?side2 A90.out).mono ?_); (case side1 => repeat (first | exact (Kd.C_below HR0_6.out HB.out) | (with_reducible refine Kd.C_alloc ?_ _) | (with_reducible refine Kd.C_drewN ?_ _) | (with_reducible refine Kd.C_drew ?_))); (case side2 => exact HC0_6.out); rintro e w' ⟨rfl, ⟨nd, rfl⟩⟩; refine ⟨_, rfl, ?_⟩) | (go_at_call 25; (with_reducible refine (rad.calls kj78 _ _ l0_7 1 1 false _ ?side1 ?side2 A93.out).mono ?_); (case side1 => repeat (first | exact (Kd.C_below HR0_7.out (by repeat (first | (with_reducible first | exact HB.out | apply qad | apply qab | apply qac | refine qaf ?_ GE123.out) | exact HB.out))) | (with_reducible refine Kd.C_alloc ?_ _) | (with_reducible refine Kd.C_drewN ?_ _) | (with_reducible refine Kd.C_drew ?_))); (case side2 => exact HC0_7.out); rintro e w' ⟨rfl, ⟨nd, rfl⟩⟩) | (go_at_call 25; (with_reducible refine (rad.calls kj78 _ _ l0_7 1 2 false _ ?side1 ?side2 A96.out).mono ?_); (case side1 => repeat (first | exact (Kd.C_below HR0_7.out (by repeat (first | (with_reducible first | exact HB.out | apply qad | apply qab | apply qac | refine qaf ?_ GE123.out) | exact HB.out))) | (with_reducible refine Kd.C_alloc ?_ _) | (with_reducible refine Kd.C_drewN ?_ _) | (with_reducible refine Kd.C_drew ?_))); (case side2 => exact HC0_7.out); rintro e w' ⟨rfl, ⟨nd, rfl⟩⟩) | (go_at_call 25; (with_reducible refine (rad.calls kj78 _ _ l0_7 1 3 false _ ?side1 ?side2 A99.out).mono ?_); (case side1 => repeat (first | exact (Kd.C_below HR0_7.out (by repeat (first | (with_reducible first | exact HB.out | apply qad | apply qab | apply qac | refine qaf ?_ GE123.out) | exact HB.out))) | (with_reducible refine Kd.C_alloc ?_ _) | (with_reducible refine Kd.C_drewN ?_ _) | (with_reducible refine Kd.C_drew ?_))); (case side2 => exact HC0_7.out); rintro e w' ⟨rfl, ⟨nd, rfl⟩⟩) | (go_at_call 25; (with_reducible refine (rad.calls kj78 _ _ l0_7 1 4 false _ ?side1 ?side2 A102.out).mono ?_); (case side1 => repeat (first | exact (Kd.C_below HR0_7.out (by repeat (first | (with_reducible first | exact HB.out | apply qad | apply qab | apply qac | refine qaf ?_ GE123.out) | exact HB.out))) | (with_reducible refine Kd.C_alloc ?_ _) | (with_reducible refine Kd.C_drewN ?_ _) | (with_reducible refine Kd.C_drew ?_))); (case side2 => exact HC0_7.out); rintro e w' ⟨rfl, ⟨nd, rfl⟩⟩) | (go_at_call 25; (with_reducible refine (rad.calls kj78 _ _ l0_7 26 (-1) true _ ?side1 ?side2 A105.out).mono ?_); (case side1 => repeat (first | exact (Kd.C_below HR0_7.out (by repeat (first | (with_reducible first | exact HB.out | apply qad | apply qab | apply qac | refine qaf ?_ GE123.out) | exact HB.out))) | (with_reducible refine Kd.C_alloc ?_ _) | (with_reducible refine Kd.C_drewN ?_ _) | (with_reducible refine Kd.C_drew ?_))); (case side2 => exact HC0_7.out); rintro e w' ⟨rfl, ⟨nd, rfl⟩⟩))
                       go_meet
                       case rel => exact ⟨_, (true), (by first | rfl | (simp; done) | (simp [*]; done)), H', ⟨by have := HJ1.out; have := HK2.out; have := HJ23.out; have := HJ43.out; have := HJ78.out; first | omega | exact Nat.le_refl _⟩, ⟨by (with_reducible repeat (first | refine qag ?_ _ | refine qai ?_ | refine blk_alloc ?_ _)); exact BK123.out⟩, ⟨by repeat (first | (with_reducible first | exact HB.out | apply qad | apply qab | apply qac | refine qaf ?_ GE123.out) | exact HB.out)⟩⟩
                      ·
                       replace c106 := Bool.eq_false_iff.mpr c106
                       subst c106
                       have H1 : ((rad.f kj78 l0_8 26 (-1)).bind fun t135 => (rab.j5 kj78 t135 a0_0 a0_1 a0_2 a0_3 a0_4 a0_5 l0_6 l0_7 l0_8 a0_9 a0_10)) = some r := by rw [if_neg (show ¬ (false = true) by decide)] at H; exact H
                       clear H
                       have H := H1
                       clear H1
                       replace H := Option.bind_eq_some_iff.mp H
                       obtain ⟨t135, A1080, H⟩ := H
                       replace H : (rab.j5 kj78 t135 a0_0 a0_1 a0_2 a0_3 a0_4 a0_5 l0_6 l0_7 l0_8 a0_9 a0_10) = some r := H
                       have A108 := Aside0.mk A1080
                       clear A1080
                       have H' := Aside0.mk H
                       clear H
                       obtain ⟨G109_0, G109_1, G109_2, G109_3, G109_4, G109_5, G109_6, G109_7, G109_8, G109_9, G109_10, F109_0, F109_1, F109_2, F109_3, F109_4, F109_5, F109_6, F109_7, F109_8, F109_9, F109_10⟩ := shr11 BK123.out
                       go_wp2_with (first | ((with_reducible refine qat (f := 25) rfl ?_); refine goesL_ (some 146) rfl rfl Tryz.func25 (by kernel_rfl) rfl #[.slice A0_6 l0_6.length c0_6, .int .i64 1, .int .i64 2] rfl (by (try simp only [List.map_toArray, List.map_cons, List.map_nil]); first | done | rfl | (simp only [List.length_drop, List.length_take]; rfl)) ?_; (with_reducible refine (rad.calls kj78 _ _ l0_6 1 2 false _ ?side1 ?side2 A90.out).mono ?_); (case side1 => repeat (first | exact (Kd.C_below HR0_6.out HB.out) | (with_reducible refine Kd.C_alloc ?_ _) | (with_reducible refine Kd.C_drewN ?_ _) | (with_reducible refine Kd.C_drew ?_))); (case side2 => exact HC0_6.out); rintro e w' ⟨rfl, ⟨nd, rfl⟩⟩; refine ⟨_, rfl, ?_⟩) | (go_at_call 25; (with_reducible refine (rad.calls kj78 _ _ l0_7 1 1 false _ ?side1 ?side2 A93.out).mono ?_); (case side1 => repeat (first | exact (Kd.C_below HR0_7.out (by repeat (first | (with_reducible first | exact HB.out | apply qad | apply qab | apply qac | refine qaf ?_ GE123.out) | exact HB.out))) | (with_reducible refine Kd.C_alloc ?_ _) | (with_reducible refine Kd.C_drewN ?_ _) | (with_reducible refine Kd.C_drew ?_))); (case side2 => exact HC0_7.out); rintro e w' ⟨rfl, ⟨nd, rfl⟩⟩) | (go_at_call 25; (with_reducible refine (rad.calls kj78 _ _ l0_7 1 2 false _ ?side1 ?side2 A96.out).mono ?_); (case side1 => repeat (first | exact (Kd.C_below HR0_7.out (by repeat (first | (with_reducible first | exact HB.out | apply qad | apply qab | apply qac | refine qaf ?_ GE123.out) | exact HB.out))) | (with_reducible refine Kd.C_alloc ?_ _) | (with_reducible refine Kd.C_drewN ?_ _) | (with_reducible refine Kd.C_drew ?_))); (case side2 => exact HC0_7.out); rintro e w' ⟨rfl, ⟨nd, rfl⟩⟩) | (go_at_call 25; (with_reducible refine (rad.calls kj78 _ _ l0_7 1 3 false _ ?side1 ?side2 A99.out).mono ?_); (case side1 => repeat (first | exact (Kd.C_below HR0_7.out (by repeat (first | (with_reducible first | exact HB.out | apply qad | apply qab | apply qac | refine qaf ?_ GE123.out) | exact HB.out))) | (with_reducible refine Kd.C_alloc ?_ _) | (with_reducible refine Kd.C_drewN ?_ _) | (with_reducible refine Kd.C_drew ?_))); (case side2 => exact HC0_7.out); rintro e w' ⟨rfl, ⟨nd, rfl⟩⟩) | (go_at_call 25; (with_reducible refine (rad.calls kj78 _ _ l0_7 1 4 false _ ?side1 ?side2 A102.out).mono ?_); (case side1 => repeat (first | exact (Kd.C_below HR0_7.out (by repeat (first | (with_reducible first | exact HB.out | apply qad | apply qab | apply qac | refine qaf ?_ GE123.out) | exact HB.out))) | (with_reducible refine Kd.C_alloc ?_ _) | (with_reducible refine Kd.C_drewN ?_ _) | (with_reducible refine Kd.C_drew ?_))); (case side2 => exact HC0_7.out); rintro e w' ⟨rfl, ⟨nd, rfl⟩⟩) | (go_at_call 25; (with_reducible refine (rad.calls kj78 _ _ l0_7 26 (-1) false _ ?side1 ?side2 A105.out).mono ?_); (case side1 => repeat (first | exact (Kd.C_below HR0_7.out (by repeat (first | (with_reducible first | exact HB.out | apply qad | apply qab | apply qac | refine qaf ?_ GE123.out) | exact HB.out))) | (with_reducible refine Kd.C_alloc ?_ _) | (with_reducible refine Kd.C_drewN ?_ _) | (with_reducible refine Kd.C_drew ?_))); (case side2 => exact HC0_7.out); rintro e w' ⟨rfl, ⟨nd, rfl⟩⟩) | (go_at_call 25; (with_reducible refine (rad.calls kj78 _ _ l0_8 26 (-1) t135 _ ?side1 ?side2 A108.out).mono ?_); (case side1 => repeat (first | exact (Kd.C_below HR0_8.out (by repeat (first | (with_reducible first | exact HB.out | apply qad | apply qab | apply qac | refine qaf ?_ GE123.out) | exact HB.out))) | (with_reducible refine Kd.C_alloc ?_ _) | (with_reducible refine Kd.C_drewN ?_ _) | (with_reducible refine Kd.C_drew ?_))); (case side2 => exact HC0_8.out); rintro e w' ⟨rfl, ⟨nd, rfl⟩⟩))
                       go_meet
                       case rel => exact ⟨_, (t135), (by first | rfl | (simp; done) | (simp [*]; done)), H', ⟨by have := HJ1.out; have := HK2.out; have := HJ23.out; have := HJ43.out; have := HJ78.out; first | omega | exact Nat.le_refl _⟩, ⟨by (with_reducible repeat (first | refine qag ?_ _ | refine qai ?_ | refine blk_alloc ?_ _)); exact BK123.out⟩, ⟨by repeat (first | (with_reducible first | exact HB.out | apply qad | apply qab | apply qac | refine qaf ?_ GE123.out) | exact HB.out)⟩⟩
                case rest => as_aux_lemma =>
                 clear HC89
                 try clear c1
                 try clear p1
                 try clear q1
                 try clear c2
                 try clear p2
                 try clear c8
                 try clear c9
                 try clear c10
                 try clear p10
                 try clear q10
                 try clear c25
                 try clear c88
                 try clear c91
                 try clear c94
                 try clear c97
                 try clear c100
                 try clear c103
                 try clear c106
                 try clear G101_0 G101_1 G101_10 G101_2 G101_3 G101_4 G101_5 G101_6 G101_7 G101_8 G101_9 F101_0 F101_1 F101_10 F101_2 F101_3 F101_4 F101_5 F101_6 F101_7 F101_8 F101_9
                 try clear G104_0 G104_1 G104_10 G104_2 G104_3 G104_4 G104_5 G104_6 G104_7 G104_8 G104_9 F104_0 F104_1 F104_10 F104_2 F104_3 F104_4 F104_5 F104_6 F104_7 F104_8 F104_9
                 try clear G107_0 G107_1 G107_10 G107_2 G107_3 G107_4 G107_5 G107_6 G107_7 G107_8 G107_9 F107_0 F107_1 F107_10 F107_2 F107_3 F107_4 F107_5 F107_6 F107_7 F107_8 F107_9
                 try clear G109_0 G109_1 G109_10 G109_2 G109_3 G109_4 G109_5 G109_6 G109_7 G109_8 G109_9 F109_0 F109_1 F109_10 F109_2 F109_3 F109_4 F109_5 F109_6 F109_7 F109_8 F109_9
                 try clear G92_0 G92_1 G92_10 G92_2 G92_3 G92_4 G92_5 G92_6 G92_7 G92_8 G92_9 F92_0 F92_1 F92_10 F92_2 F92_3 F92_4 F92_5 F92_6 F92_7 F92_8 F92_9
                 try clear G95_0 G95_1 G95_10 G95_2 G95_3 G95_4 G95_5 G95_6 G95_7 G95_8 G95_9 F95_0 F95_1 F95_10 F95_2 F95_3 F95_4 F95_5 F95_6 F95_7 F95_8 F95_9
                 try clear G98_0 G98_1 G98_10 G98_2 G98_3 G98_4 G98_5 G98_6 G98_7 G98_8 G98_9 F98_0 F98_1 F98_10 F98_2 F98_3 F98_4 F98_5 F98_6 F98_7 F98_8 F98_9
                 try clear F29_4 F29_5 F29_6 F29_7 F29_8 F29_9
                 try clear F31_0 F31_1 F31_10 F31_2 F31_3 F31_4 F31_5 F31_6 F31_7 F31_8 F31_9
                 try clear F33_0 F33_1 F33_10 F33_2 F33_3 F33_4 F33_5 F33_6 F33_7 F33_8 F33_9
                 try clear F35_0 F35_1 F35_10 F35_2 F35_3 F35_4 F35_5 F35_6 F35_7 F35_8 F35_9
                 try clear F37_0 F37_1 F37_10 F37_2 F37_3 F37_4 F37_5 F37_6 F37_7 F37_8 F37_9
                 try clear F39_0 F39_1 F39_10 F39_2 F39_3 F39_4 F39_5 F39_6 F39_7 F39_8 F39_9
                 try clear F41_0 F41_1 F41_10 F41_2 F41_3 F41_4 F41_5 F41_6 F41_7 F41_8 F41_9
                 try clear F42_0 F42_1 F42_10 F42_2 F42_3 F42_4 F42_5 F42_6 F42_7 F42_8 F42_9
                 try clear F52_0 F52_1 F52_10 F52_2 F52_3 F52_4 F52_5 F52_6 F52_7 F52_8 F52_9
                 try clear F54_0 F54_1 F54_10 F54_2 F54_3 F54_4 F54_5 F54_6 F54_7 F54_8 F54_9
                 try clear F56_0 F56_1 F56_10 F56_2 F56_3 F56_4 F56_5 F56_6 F56_7 F56_8 F56_9
                 try clear F58_0 F58_1 F58_10 F58_2 F58_3 F58_4 F58_5 F58_6 F58_7 F58_8 F58_9
                 try clear F60_0 F60_1 F60_10 F60_2 F60_3 F60_4 F60_5 F60_6 F60_7 F60_8 F60_9
                 try clear F62_0 F62_1 F62_10 F62_2 F62_3 F62_4 F62_5 F62_6 F62_7 F62_8 F62_9
                 try clear F63_0 F63_1 F63_10 F63_2 F63_3 F63_4 F63_5 F63_6 F63_7 F63_8 F63_9
                 try clear F65_0 F65_1 F65_10 F65_2 F65_3 F65_4 F65_5 F65_6 F65_7 F65_8 F65_9
                 try clear F69_0 F69_1 F69_10 F69_2 F69_3 F69_4 F69_5 F69_6 F69_7 F69_8 F69_9
                 try clear F71_0 F71_1 F71_10 F71_2 F71_3 F71_4 F71_5 F71_6 F71_7 F71_8 F71_9
                 try clear F73_0 F73_1 F73_10 F73_2 F73_3 F73_4 F73_5 F73_6 F73_7 F73_8 F73_9
                 try clear F75_0 F75_1 F75_10 F75_2 F75_3 F75_4 F75_5 F75_6 F75_7 F75_8 F75_9
                 try clear F76_0 F76_1 F76_10 F76_2 F76_3 F76_4 F76_5 F76_6 F76_7 F76_8 F76_9
                 try clear F81_0 F81_1 F81_10 F81_2 F81_3 F81_4 F81_5 F81_6 F81_7 F81_8 F81_9
                 try clear F85_0 F85_1 F85_10 F85_2 F85_3 F85_4 F85_5 F85_6 F85_7 F85_8 F85_9
                 try clear F86_0 F86_1 F86_10 F86_2 F86_3 F86_4 F86_5 F86_6 F86_7 F86_8 F86_9
                 try clear F87_0 F87_1 F87_10 F87_2 F87_3 F87_4 F87_5 F87_6 F87_7 F87_8 F87_9
                 obtain ⟨kq, x176_88, rfl, HA, HJ88, BK123, HB⟩ := hcut
                 cases kq with
                 | zero => exact absurd HA.out (by simp [rab.j5])
                 | succ kj88 =>
                  have H := HA.out
                  clear HA
                  simp only [rab.j5] at H
                  by_cases c110 : x176_88 = true
                  ·
                   subst c110
                   have H1 : (some 10) = some r := by rw [if_pos rfl] at H; exact H
                   clear H
                   have H := H1
                   clear H1
                   obtain rfl := Option.some.inj H
                   go_wp2
                   go_ret
                   exact ⟨by first | rfl | (simp [*] <;> rfl), by repeat (first | (with_reducible first | exact HB.out | apply qad | apply qab | apply qac | refine qaf ?_ GE123.out) | exact HB.out)⟩
                  ·
                   replace c110 := Bool.eq_false_iff.mpr c110
                   subst c110
                   have H1 : (if a0_10 = true then (if a0_9.toList = ([] : List UInt8) then (some 19) else (some 0)) else (some 0)) = some r := by rw [if_neg (show ¬ (false = true) by decide)] at H; exact H
                   clear H
                   have H := H1
                   clear H1
                   by_cases c111 : a0_10 = true
                   ·
                    subst c111
                    have H1 : (if a0_9.toList = ([] : List UInt8) then (some 19) else (some 0)) = some r := by rw [if_pos rfl] at H; exact H
                    clear H
                    have H := H1
                    clear H1
                    by_cases c112 : a0_9.toList = ([] : List UInt8)
                    ·
                     rw [if_pos c112] at H
                     have c112b0 : (a0_9.toList == ([] : List UInt8)) = true := beq_iff_eq.mpr c112
                     have c112b1 : (a0_9.toList != ([] : List UInt8)) = false := bne_eq_false_iff_eq.mpr c112
                     clear c112
                     obtain rfl := Option.some.inj H
                     obtain ⟨G113_0, G113_1, G113_2, G113_3, G113_4, G113_5, G113_6, G113_7, G113_8, G113_9, G113_10, F113_0, F113_1, F113_2, F113_3, F113_4, F113_5, F113_6, F113_7, F113_8, F113_9, F113_10⟩ := shr11 BK123.out
                     go_wp2
                     go_ret
                     exact ⟨by first | rfl | (simp [*] <;> rfl), by repeat (first | (with_reducible first | exact HB.out | apply qad | apply qab | apply qac | refine qaf ?_ GE123.out) | exact HB.out)⟩
                    ·
                     rw [if_neg c112] at H
                     have c112b0 : (a0_9.toList == ([] : List UInt8)) = false := beq_eq_false_iff_ne.mpr c112
                     have c112b1 : (a0_9.toList != ([] : List UInt8)) = true := bne_iff_ne.mpr c112
                     obtain rfl := Option.some.inj H
                     obtain ⟨G114_0, G114_1, G114_2, G114_3, G114_4, G114_5, G114_6, G114_7, G114_8, G114_9, G114_10, F114_0, F114_1, F114_2, F114_3, F114_4, F114_5, F114_6, F114_7, F114_8, F114_9, F114_10⟩ := shr11 BK123.out
                     go_wp2
                     go_ret
                     exact ⟨by first | rfl | (simp [*] <;> rfl), by repeat (first | (with_reducible first | exact HB.out | apply qad | apply qab | apply qac | refine qaf ?_ GE123.out) | exact HB.out)⟩
                   ·
                    replace c111 := Bool.eq_false_iff.mpr c111
                    subst c111
                    have H1 : (some 0) = some r := by rw [if_neg (show ¬ (false = true) by decide)] at H; exact H
                    clear H
                    have H := H1
                    clear H1
                    obtain rfl := Option.some.inj H
                    obtain ⟨G115_0, G115_1, G115_2, G115_3, G115_4, G115_5, G115_6, G115_7, G115_8, G115_9, G115_10, F115_0, F115_1, F115_2, F115_3, F115_4, F115_5, F115_6, F115_7, F115_8, F115_9, F115_10⟩ := shr11 BK123.out
                    go_wp2
                    go_ret
                    exact ⟨by first | rfl | (simp [*] <;> rfl), by repeat (first | (with_reducible first | exact HB.out | apply qad | apply qab | apply qac | refine qaf ?_ GE123.out) | exact HB.out)⟩
end Go.Proofs.YtejbpnhondpnfaaGreat.PJob
namespace Go.Proofs.YtejbpnhondpnfaaGreat.PJob
open Go.RowKit Go.Proofs.YtejbpnhondpnfaaGreatW.PrintWords Go.Proofs.YtejbpnhondpnfaaGreatW.PrintLast Go.Proofs.YtejbpnhondpnfaaGreatW.PrintMore
set_option maxRecDepth 100000
theorem rf_has (l : List S57) (hl : l.length ≤ 1000000) (a1 a2 : Int) : Ev (fun k => rad.f k l a1 a2) ((l.map qaw).any fun z => decide (z.op = a1) && (decide (a2 < 0) || decide (z.n = a2))) := by
 have loop : ∀ (m i : Nat), i + m = l.length → Ev (fun k => rad.l0 k l a1 a2 (i : Int)) (((l.drop i).map qaw).any fun z => decide (z.op = a1) && (decide (a2 < 0) || decide (z.n = a2))) := by
  intro m
  induction m with
  | zero =>
   intro i hi
   rw [List.drop_eq_nil_of_le (by omega)]
   refine Ev.step (f := fun _ => some false) (fun k => ?_) (Ev.now _)
   simp only [rad.l0]
   rw [if_neg (by omega)]
  | succ m ih =>
   intro i hi
   have hlt : i < l.length := by omega
   have hrd : qae l (i : Int) = l[i] := by simp [qae, hlt]
   have hw : wrap64 ((i : Int) + 1) = ((i + 1 : Nat) : Int) := by unfold wrap64; omega
   have ih := ih (i + 1) (by omega)
   rw [List.drop_eq_getElem_cons hlt, List.map_cons, List.any_cons]
   obtain ⟨z, hz⟩ : ∃ z, z = l[i] := ⟨_, rfl⟩
   rw [← hz] at hrd ⊢
   have e1 : (qaw z).op = z.f0 := rfl
   have e2 : (qaw z).n = z.f1.f1 := rfl
   rw [e1, e2]
   generalize ((List.map qaw (List.drop (i + 1) l)).any fun z => decide (z.op = a1) && (decide (a2 < 0) || decide (z.n = a2))) = T at ih ⊢
   by_cases h1 : z.f0 = a1
   ·
    rw [decide_eq_true h1, Bool.true_and]
    by_cases h2 : a2 < 0
    ·
     rw [decide_eq_true h2, Bool.true_or, Bool.true_or]
     refine Ev.step (f := fun _ => some true) (fun k => ?_) (Ev.now _)
     simp only [rad.l0]
     rw [if_pos (by omega), if_pos (by omega), hrd, if_pos h1, if_pos h2]
    ·
     rw [decide_eq_false h2, Bool.false_or]
     by_cases h3 : z.f1.f1 = a2
     ·
      rw [decide_eq_true h3, Bool.true_or]
      refine Ev.step (f := fun _ => some true) (fun k => ?_) (Ev.now _)
      simp only [rad.l0]
      rw [if_pos (by omega), if_pos (by omega), hrd, if_pos h1, if_neg h2, if_pos h3]
     ·
      rw [decide_eq_false h3, Bool.false_or]
      refine Ev.step (fun k => ?_) ih
      simp only [rad.l0]
      rw [if_pos (by omega), if_pos (by omega), hrd, if_pos h1, if_neg h2, if_neg h3, hw]
   ·
    rw [decide_eq_false h1, Bool.false_and, Bool.false_or]
    refine Ev.step (fun k => ?_) ih
    simp only [rad.l0]
    rw [if_pos (by omega), if_pos (by omega), hrd, if_neg h1, hw]
 have := loop l.length 0 (by omega)
 rw [List.drop_zero] at this
 exact this
theorem rf_hasN (l : List S57) (hl : l.length ≤ 1000000) (i : Int) (hi : 0 ≤ i) : Ev (fun k => rad.f k l 1 i) (hasN (l.map qaw) i) := by
 have := rf_has l hl 1 i
 unfold hasN
 rw [decide_eq_false (show ¬ i < 0 by omega)] at this
 simpa using this
theorem rf_hasE (l : List S57) (hl : l.length ≤ 1000000) : Ev (fun k => rad.f k l 26 (-1)) ((l.map qaw).any fun z => decide (z.op = 26)) := by
 have := rf_has l hl 26 (-1)
 rw [decide_eq_true (show (-1 : Int) < 0 by omega)] at this
 simpa using this
theorem rf_folds (s : ByteArray) : raw.f s = some (Lib.containsS foldsL s) := by
 have key : ∀ b : List UInt8, s.toList = b ↔ s = ⟨b.toArray⟩ := by
  intro b
  rw [ByteArray.toList_eq]
  constructor
  ·
   intro h; apply ByteArray.ext; apply Array.ext'; simp [h]
  ·
   intro h; rw [h]
 unfold raw.f
 by_cases h1 : s.toList = [115, 117, 109]
 ·
  rw [if_pos h1, (Lib.containsS_iff foldsL s).2 (by rw [(key _).1 h1]; exact List.mem_cons_self)]
 rw [if_neg h1]
 by_cases h2 : s.toList = [109, 97, 120]
 ·
  rw [if_pos h2, (Lib.containsS_iff foldsL s).2 (by rw [(key _).1 h2]; exact List.mem_cons_of_mem _ List.mem_cons_self)]
 rw [if_neg h2]
 by_cases h3 : s.toList = [109, 105, 110]
 ·
  rw [if_pos h3, (Lib.containsS_iff foldsL s).2 (by rw [(key _).1 h3]; exact List.mem_cons_of_mem _ (List.mem_cons_of_mem _ List.mem_cons_self))]
 rw [if_neg h3]
 by_cases h4 : s.toList = [103, 99, 100]
 ·
  rw [(Lib.containsS_iff foldsL s).2 (by rw [(key _).1 h4]; exact List.mem_cons_of_mem _ (List.mem_cons_of_mem _ (List.mem_cons_of_mem _ List.mem_cons_self))), h4]
  rfl
 ·
  have : Lib.containsS foldsL s = false := by
   rw [Bool.eq_false_iff]
   intro h
   have hm := (Lib.containsS_iff foldsL s).1 h
   unfold foldsL at hm
   simp only [List.mem_cons, List.not_mem_nil, or_false] at hm
   rcases hm with h | h | h | h
   ·
    exact h1 ((key _).2 h)
   ·
    exact h2 ((key _).2 h)
   ·
    exact h3 ((key _).2 h)
   ·
    exact h4 ((key _).2 h)
  rw [this]
  congr 1
  rw [beq_eq_false_iff_ne]
  exact h4
theorem nm_if {α : Type} (c : Int) (X Y : Option α) : (if c < 97 then (if c < 48 then Y else (if c > 57 then Y else X)) else (if c > 122 then (if c < 48 then Y else (if c > 57 then Y else X)) else X)) = if nameC c = true then X else Y := by
 have nI : nameC c = true ↔ (97 ≤ c ∧ c ≤ 122) ∨ (48 ≤ c ∧ c ≤ 57) := by
  unfold nameC
  simp only [Bool.or_eq_true, Bool.and_eq_true, decide_eq_true_eq]
 by_cases h : (97 ≤ c ∧ c ≤ 122) ∨ (48 ≤ c ∧ c ≤ 57)
 ·
  rw [if_pos (nI.2 h)]
  by_cases c1 : c < 97
  ·
   rw [if_pos c1, if_neg (by omega), if_neg (by omega)]
  ·
   rw [if_neg c1]
   by_cases c2 : c > 122
   ·
    rw [if_pos c2, if_neg (by omega), if_neg (by omega)]
   ·
    rw [if_neg c2]
 ·
  rw [if_neg (fun e => h (nI.1 e))]
  by_cases c1 : c < 97
  ·
   rw [if_pos c1]
   by_cases c2 : c < 48
   ·
    rw [if_pos c2]
   ·
    rw [if_neg c2, if_pos (by omega)]
  ·
   rw [if_neg c1, if_pos (by omega), if_neg (by omega), if_pos (by omega)]
theorem numbersB_iff (j : Jb) : numbersB j = true ↔ (1 ≤ j.k ∧ j.k ≤ j.n ∧ j.n ≤ 16) ∧ (1 ≤ j.tasks ∧ j.tasks ≤ 16) ∧ (1 ≤ j.parts ∧ j.parts ≤ 16) ∧ (1 ≤ j.fuel ∧ j.fuel ≤ 100000) := by
 unfold numbersB codeOk withinB
 simp only [Bool.and_eq_true, decide_eq_true_eq]
 constructor <;> (rintro h; omega)
set_option maxHeartbeats 4000000 in
theorem rf_jobright (nm : ByteArray) (ta pa kk n fu : Int) (l6 l7 l8 : List S57) (fo : ByteArray) (cb : Bool) (h6 : l6.length ≤ 1000000) (h7 : l7.length ≤ 1000000) (h8 : l8.length ≤ 1000000) :
  Ev (fun k => rab.f k nm ta pa kk n fu l6 l7 l8 fo cb) (rightJ ⟨nm, ta, pa, kk, n, fu, fo, cb⟩ (exprR (l6.map qaw)) (exprR (l7.map qaw)) (exprR (l8.map qaw)) (l6.map qaw) (l7.map qaw) (l8.map qaw)) := by
 obtain ⟨RR, hRR⟩ : ∃ R, R = rightJ ⟨nm, ta, pa, kk, n, fu, fo, cb⟩ (exprR (l6.map qaw)) (exprR (l7.map qaw)) (exprR (l8.map qaw)) (l6.map qaw) (l7.map qaw) (l8.map qaw) := ⟨_, rfl⟩
 rw [← hRR]
 unfold rightJ at hRR
 simp only [List.length_map] at hRR
 -- behind the name
 have J5 : ∀ b : Bool, RR = (if b then 10 else if wrong4 cb fo then 19 else 0) → Ev (fun k => rab.j5 k b nm ta pa kk n fu l6 l7 l8 fo cb) RR := by
  intro b hb
  refine Ev.step (f := fun _ => some RR) (fun k => ?_) (Ev.now _)
  simp only [rab.j5]
  rw [hb]
  cases b with
  | true => rfl
  | false =>
   show (if cb = true then (if fo.toList = [] then some 19 else some 0) else some 0) = some (if wrong4 cb fo = true then 19 else 0)
   unfold wrong4
   cases cb with
   | false => rfl
   | true =>
    show (if fo.toList = [] then some 19 else some 0) = some (if fo.toList.isEmpty = true then (19 : Int) else 0)
    by_cases he : fo.toList = []
    ·
     rw [if_pos he, he]; rfl
    ·
     rw [if_neg he, if_neg (by simpa using he)]
 have J4 : namedB nm = true → numbersB ⟨nm, ta, pa, kk, n, fu, fo, cb⟩ = true → wrong1 (exprR (l6.map qaw)) (exprR (l7.map qaw)) (exprR (l8.map qaw)) l7.length l8.length = false → Ev (fun k => rab.j4 k (wrong2 fo l8.length) nm ta pa kk n fu l6 l7 l8 fo cb) RR := by
  intro g1 g2 g3
  rw [if_neg (by rw [g1]; decide), if_neg (by rw [g2]; decide), if_neg (by rw [g3]; decide)] at hRR
  cases hw2 : wrong2 fo l8.length with
  | true =>
   rw [hw2, if_pos rfl] at hRR
   refine Ev.step (f := fun _ => some RR) (fun k => ?_) (Ev.now _)
   simp only [rab.j4]
   rw [if_pos trivial, hRR]
  | false =>
   rw [hw2, if_neg (by decide)] at hRR
   have J5' := J5 (wrong3 (exprR (l6.map qaw)) (exprR (l7.map qaw)) (l6.map qaw) (l7.map qaw) (l8.map qaw)) hRR
   -- the lists are right, or empty
   unfold wrong1 at g3
   simp only [Bool.or_eq_false_iff, Bool.not_eq_false', Bool.and_eq_false_iff, decide_eq_false_iff_not, Nat.not_lt, Nat.le_zero] at g3
   obtain ⟨⟨r6, r7⟩, _⟩ := g3
   have e7 : ∀ i, (exprR (l7.map qaw) && hasN (l7.map qaw) i) = hasN (l7.map qaw) i := by
    intro i
    rcases r7 with h | h
    ·
     rw [List.length_eq_zero_iff.1 h]; rfl
    ·
     rw [h, Bool.true_and]
   unfold wrong3 at J5'
   rw [r6, Bool.true_and, e7, e7, e7, e7] at J5'
   refine Ev.step (f := fun k => (rad.f k l6 1 2).bind fun t143 => (if t143 = true then (rab.j5 k true nm ta pa kk n fu l6 l7 l8 fo cb) else ((rad.f k l7 1 1).bind fun t144 => (if t144 = true then (rab.j5 k true nm ta pa kk n fu l6 l7 l8 fo cb) else ((rad.f k l7 1 2).bind fun t145 => (if t145 = true then (rab.j5 k true nm ta pa kk n fu l6 l7 l8 fo cb) else ((rad.f k l7 1 3).bind fun t146 => (if t146 = true then (rab.j5 k true nm ta pa kk n fu l6 l7 l8 fo cb) else ((rad.f k l7 1 4).bind fun t147 => (if t147 = true then (rab.j5 k true nm ta pa kk n fu l6 l7 l8 fo cb) else ((rad.f k l7 26 (-1)).bind fun t148 => (if t148 = true then (rab.j5 k true nm ta pa kk n fu l6 l7 l8 fo cb) else ((rad.f k l8 26 (-1)).bind fun t149 => (rab.j5 k t149 nm ta pa kk n fu l6 l7 l8 fo cb)))))))))))))) (fun k => ?_) ?_
   ·
    simp only [rab.j4]
    rw [if_neg (by decide)]
   ·
    have pick : ∀ (b : Bool) (g : Nat → Option Int) (r : Int), (b = true → Ev (fun k => rab.j5 k true nm ta pa kk n fu l6 l7 l8 fo cb) r) → (b = false → Ev g r) → Ev (fun k => if b = true then (rab.j5 k true nm ta pa kk n fu l6 l7 l8 fo cb) else g k) r := by
     intro b g r h1 h2
     cases b with
     | true => exact Ev.congr (fun k => if_pos rfl) (h1 rfl)
     | false => exact Ev.congr (fun k => if_neg (by decide)) (h2 rfl)
    refine Ev.bind (rf_hasN l6 h6 2 (by omega)) (pick _ _ _ (fun e => ?_) fun e => ?_)
    ·
     rw [e] at J5'; simpa using J5'
    rw [e, Bool.false_or] at J5'
    refine Ev.bind (rf_hasN l7 h7 1 (by omega)) (pick _ _ _ (fun e => ?_) fun e => ?_)
    ·
     rw [e] at J5'; simpa using J5'
    rw [e, Bool.false_or] at J5'
    refine Ev.bind (rf_hasN l7 h7 2 (by omega)) (pick _ _ _ (fun e => ?_) fun e => ?_)
    ·
     rw [e] at J5'; simpa using J5'
    rw [e, Bool.false_or] at J5'
    refine Ev.bind (rf_hasN l7 h7 3 (by omega)) (pick _ _ _ (fun e => ?_) fun e => ?_)
    ·
     rw [e] at J5'; simpa using J5'
    rw [e, Bool.false_or] at J5'
    refine Ev.bind (rf_hasN l7 h7 4 (by omega)) (pick _ _ _ (fun e => ?_) fun e => ?_)
    ·
     rw [e] at J5'; simpa using J5'
    rw [e, Bool.false_or] at J5'
    refine Ev.bind (rf_hasE l7 h7) (pick _ _ _ (fun e => ?_) fun e => ?_)
    ·
     rw [e] at J5'; simpa using J5'
    rw [e, Bool.false_or] at J5'
    exact Ev.bind (rf_hasE l8 h8) J5'
 have J3 : namedB nm = true → numbersB ⟨nm, ta, pa, kk, n, fu, fo, cb⟩ = true → Ev (fun k => rab.j3 k (wrong1 (exprR (l6.map qaw)) (exprR (l7.map qaw)) (exprR (l8.map qaw)) l7.length l8.length) nm ta pa kk n fu l6 l7 l8 fo cb) RR := by
  intro g1 g2
  cases hw1 : wrong1 (exprR (l6.map qaw)) (exprR (l7.map qaw)) (exprR (l8.map qaw)) l7.length l8.length with
  | true =>
   rw [if_neg (by rw [g1]; decide), if_neg (by rw [g2]; decide), if_pos hw1] at hRR
   refine Ev.step (f := fun _ => some RR) (fun k => ?_) (Ev.now _)
   simp only [rab.j3]
   rw [if_pos trivial, hRR]
  | false =>
   have h4 := J4 g1 g2 hw1
   unfold wrong2 at h4
   by_cases he : fo.toList = []
   ·
    have e1 : fo.toList.isEmpty = true := by rw [he]; rfl
    rw [e1] at h4
    simp only [Bool.not_true, Bool.false_and, Bool.false_or] at h4
    refine Ev.step (fun k => ?_) h4
    simp only [rab.j3]
    rw [if_neg (by decide), if_pos he]
    congr 1
    rw [Bool.eq_iff_iff]
    simp
   ·
    have e1 : fo.toList.isEmpty = false := by simpa using he
    rw [e1] at h4
    simp only [Bool.not_false, Bool.true_and] at h4
    refine Ev.step (fun k => ?_) h4
    simp only [rab.j3]
    rw [if_neg (by decide), if_neg he, rf_folds, Option.bind_some]
    cases Lib.containsS foldsL fo with
    | true =>
     rw [if_pos rfl]
     by_cases h0 : l8.length = 0
     ·
      rw [if_neg (by omega), h0]; rfl
     ·
      rw [if_pos (by omega), decide_eq_false h0]; rfl
    | false => rw [if_neg (by decide)]; rfl
 have J2 : namedB nm = true → Ev (fun k => rab.j2 k (!numbersB ⟨nm, ta, pa, kk, n, fu, fo, cb⟩) nm ta pa kk n fu l6 l7 l8 fo cb) RR := by
  intro g1
  cases hnb : numbersB ⟨nm, ta, pa, kk, n, fu, fo, cb⟩ with
  | false =>
   rw [if_neg (by rw [g1]; decide), if_pos hnb] at hRR
   refine Ev.step (f := fun _ => some RR) (fun k => ?_) (Ev.now _)
   simp only [rab.j2]
   rw [if_pos (by rfl), hRR]
  | true =>
   have h3 := J3 g1 hnb
   unfold wrong1 at h3
   have x6 := rf_exprR l6 h6
   have x7 := rf_exprR l7 h7
   have x8 := rf_exprR l8 h8
   generalize exprR (l6.map qaw) = b6 at h3 x6
   generalize exprR (l7.map qaw) = b7 at h3 x7
   generalize exprR (l8.map qaw) = b8 at h3 x8
   refine Ev.step (f := fun k => (rai.f k l6).bind fun t138 => (if t138 = true then (if (l7.length : Int) > 0 then ((rai.f k l7).bind fun t139 => (if t139 = true then (if (l8.length : Int) > 0 then ((rai.f k l8).bind fun t140 => (rab.j3 k (!t140) nm ta pa kk n fu l6 l7 l8 fo cb)) else (rab.j3 k false nm ta pa kk n fu l6 l7 l8 fo cb)) else (rab.j3 k true nm ta pa kk n fu l6 l7 l8 fo cb))) else (if (l8.length : Int) > 0 then ((rai.f k l8).bind fun t141 => (rab.j3 k (!t141) nm ta pa kk n fu l6 l7 l8 fo cb)) else (rab.j3 k false nm ta pa kk n fu l6 l7 l8 fo cb))) else (rab.j3 k true nm ta pa kk n fu l6 l7 l8 fo cb))) (fun k => ?_) ?_
   ·
    simp only [rab.j2]
    rw [if_neg (by decide)]
   ·
    refine Ev.bind x6 ?_
    cases b6 with
    | false => exact Ev.congr (fun k => if_neg (by decide)) (by simpa using h3)
    | true =>
     refine Ev.congr (fun k => if_pos rfl) ?_
     simp only [Bool.not_true, Bool.false_or] at h3
     by_cases c7 : 0 < l7.length
     ·
      refine Ev.congr (fun k => if_pos (by omega)) (Ev.bind x7 ?_)
      rw [decide_eq_true c7, Bool.true_and] at h3
      cases b7 with
      | false => exact Ev.congr (fun k => if_neg (by decide)) (by simpa using h3)
      | true =>
       refine Ev.congr (fun k => if_pos rfl) ?_
       simp only [Bool.not_true, Bool.false_or] at h3
       by_cases c8 : 0 < l8.length
       ·
        rw [decide_eq_true c8, Bool.true_and] at h3
        exact Ev.congr (fun k => if_pos (by omega)) (Ev.bind x8 h3)
       ·
        rw [decide_eq_false c8, Bool.false_and] at h3
        exact Ev.congr (fun k => if_neg (by omega)) h3
     ·
      refine Ev.congr (fun k => if_neg (by omega)) ?_
      rw [decide_eq_false c7, Bool.false_and, Bool.false_or] at h3
      by_cases c8 : 0 < l8.length
      ·
       rw [decide_eq_true c8, Bool.true_and] at h3
       exact Ev.congr (fun k => if_pos (by omega)) (Ev.bind x8 h3)
      ·
       rw [decide_eq_false c8, Bool.false_and] at h3
       exact Ev.congr (fun k => if_neg (by omega)) h3
 -- the numbers, one by one
 have J1 : namedB nm = true → ∀ k, (if ta < 1 then (rab.j2 k true nm ta pa kk n fu l6 l7 l8 fo cb) else (if ta > 16 then (rab.j2 k true nm ta pa kk n fu l6 l7 l8 fo cb) else (if pa < 1 then (rab.j2 k true nm ta pa kk n fu l6 l7 l8 fo cb) else (if pa > 16 then (rab.j2 k true nm ta pa kk n fu l6 l7 l8 fo cb) else (if kk < 1 then (rab.j2 k true nm ta pa kk n fu l6 l7 l8 fo cb) else (if kk > n then (rab.j2 k true nm ta pa kk n fu l6 l7 l8 fo cb) else (if n > 16 then (rab.j2 k true nm ta pa kk n fu l6 l7 l8 fo cb) else (if fu < 1 then (rab.j2 k true nm ta pa kk n fu l6 l7 l8 fo cb) else (rab.j2 k (decide (fu > 100000)) nm ta pa kk n fu l6 l7 l8 fo cb))))))))) = rab.j2 k (!numbersB ⟨nm, ta, pa, kk, n, fu, fo, cb⟩) nm ta pa kk n fu l6 l7 l8 fo cb := by
  intro _ k
  have hi := numbersB_iff ⟨nm, ta, pa, kk, n, fu, fo, cb⟩
  simp only at hi
  have no : ¬ ((1 ≤ kk ∧ kk ≤ n ∧ n ≤ 16) ∧ (1 ≤ ta ∧ ta ≤ 16) ∧ (1 ≤ pa ∧ pa ≤ 16) ∧ (1 ≤ fu ∧ fu ≤ 100000)) → numbersB ⟨nm, ta, pa, kk, n, fu, fo, cb⟩ = false := by
   intro h
   rw [Bool.eq_false_iff]
   exact fun e => h (hi.1 e)
  by_cases c1 : ta < 1
  ·
   rw [if_pos c1, no (by omega)]; rfl
  rw [if_neg c1]
  by_cases c2 : ta > 16
  ·
   rw [if_pos c2, no (by omega)]; rfl
  rw [if_neg c2]
  by_cases c3 : pa < 1
  ·
   rw [if_pos c3, no (by omega)]; rfl
  rw [if_neg c3]
  by_cases c4 : pa > 16
  ·
   rw [if_pos c4, no (by omega)]; rfl
  rw [if_neg c4]
  by_cases c5 : kk < 1
  ·
   rw [if_pos c5, no (by omega)]; rfl
  rw [if_neg c5]
  by_cases c6 : kk > n
  ·
   rw [if_pos c6, no (by omega)]; rfl
  rw [if_neg c6]
  by_cases c7 : n > 16
  ·
   rw [if_pos c7, no (by omega)]; rfl
  rw [if_neg c7]
  by_cases c8 : fu < 1
  ·
   rw [if_pos c8, no (by omega)]; rfl
  rw [if_neg c8]
  by_cases c9 : fu > 100000
  ·
   rw [decide_eq_true c9, no (by omega)]; rfl
  ·
   rw [decide_eq_false c9, hi.2 (by omega)]; rfl
 -- the name
 have hsl : nm.data.toList.length = nm.size := by simp
 have L0 : 0 < nm.size → nm.size ≤ 16 → ∀ (m i : Nat), i + m = nm.size → (nm.data.toList.take i).all (fun c => nameC (c.toNat : Int)) = true → Ev (fun k => rab.l0 k (i : Int) nm ta pa kk n fu l6 l7 l8 fo cb) RR := by
  intro s1 s2 m
  induction m with
  | zero =>
   intro i hi hall
   rw [List.take_of_length_le (by omega)] at hall
   have g1 : namedB nm = true := by unfold namedB; rw [decide_eq_true s1, decide_eq_true s2, hall]; rfl
   refine Ev.step (fun k => ?_) (J2 g1)
   simp only [rab.l0]
   rw [if_neg (by omega)]
   exact J1 g1 k
  | succ m ih =>
   intro i hi hall
   have hlt : i < nm.data.toList.length := by omega
   have f1 : (i : Int) < (nm.size : Int) := by omega
   have f2 : (0 : Int) ≤ (i : Int) := by omega
   obtain ⟨ch, hch⟩ : ∃ ch, ch = nm.data.toList[i] := ⟨_, rfl⟩
   have hbt : bt nm (i : Int) = (ch.toNat : Int) := by
    unfold bt
    rw [dif_pos (by simp; omega), hch]
    simp [ByteArray.getElem_eq_getElem_data]
   have hw : wrap64 ((i : Int) + 1) = ((i + 1 : Nat) : Int) := by unfold wrap64; omega
   have bad : nameC (ch.toNat : Int) = false → RR = 11 := by
    intro hb
    rw [hRR, if_pos]
    unfold namedB
    rw [Bool.and_eq_false_iff]
    right
    rw [Bool.eq_false_iff]
    intro ha
    have := List.all_eq_true.1 ha ch (by rw [hch]; exact List.getElem_mem hlt)
    rw [hb] at this; cases this
   have good : nameC (ch.toNat : Int) = true → Ev (fun k => rab.l0 k ((i + 1 : Nat) : Int) nm ta pa kk n fu l6 l7 l8 fo cb) RR := by
    intro hg
    refine ih (i + 1) (by omega) ?_
    rw [List.take_succ_eq_append_getElem hlt, List.all_append, hall, ← hch]
    simp [hg]
   cases hc : nameC (ch.toNat : Int) with
   | false =>
    have hbad := bad hc
    refine Ev.step (f := fun _ => some RR) (fun k => ?_) (Ev.now _)
    simp only [rab.l0]
    rw [if_pos f1, if_pos f2, hbt, hbad]
    exact (nm_if _ _ _).trans (if_neg (by rw [hc]; decide))
   | true =>
    refine Ev.step (fun k => ?_) (good hc)
    simp only [rab.l0]
    rw [if_pos f1, if_pos f2, hbt, hw]
    exact (nm_if _ _ _).trans (if_pos hc)
 have bad : ¬ (0 < nm.size ∧ nm.size ≤ 16) → RR = 11 := by
  intro h
  rw [hRR, if_pos]
  unfold namedB
  rw [Bool.and_eq_false_iff, Bool.and_eq_false_iff]
  left
  by_cases h0 : 0 < nm.size
  ·
   right; exact decide_eq_false (fun h1 => h ⟨h0, h1⟩)
  ·
   left; exact decide_eq_false h0
 have J0 : ∀ b : Bool, (b = true → RR = 11) → (b = false → 0 < nm.size ∧ nm.size ≤ 16) → Ev (fun k => rab.j0 k b nm ta pa kk n fu l6 l7 l8 fo cb) RR := by
  intro b h1 h2
  cases b with
  | true =>
   refine Ev.step (f := fun _ => some RR) (fun k => ?_) (Ev.now _)
   simp only [rab.j0]
   rw [if_pos trivial, h1 rfl]
  | false =>
   obtain ⟨s1, s2⟩ := h2 rfl
   refine Ev.step (fun k => ?_) (L0 s1 s2 nm.size 0 (by omega) rfl)
   simp only [rab.j0]
   rw [if_neg (by decide)]
   rfl
 unfold rab.f
 by_cases c0 : (nm.size : Int) < 1
 ·
  exact Ev.congr (fun k => if_pos c0) (J0 true (fun _ => bad (by omega)) (fun h => by cases h))
 ·
  refine Ev.congr (fun k => if_neg c0) (J0 _ (fun h => bad ?_) (fun h => ?_))
  ·
   have := of_decide_eq_true h; omega
  ·
   have := of_decide_eq_false h; omega
end Go.Proofs.YtejbpnhondpnfaaGreat.PJob
namespace Go.Proofs.YtejbpnhondpnfaaGreat
set_option maxRecDepth 100000
theorem right_num {n : Int} (h : -9007199254740992 ≤ n ∧ n ≤ 9007199254740992) : qbf (numV n) = true := by
 unfold qbf numV
 rw [if_pos rfl]
 simp only [Bool.and_eq_true, decide_eq_true_eq]
 exact ⟨h.1, h.2, by rw [ByteArray.toList_eq]; rfl, rfl⟩
def opV (j : Nat) (a b : Val) : Val :=
 if j = 1 then (if 0 < ordV a b then a else b)
 else if j = 2 then (if ordV a b < 0 then a else b)
 else if a.k = 0 then numV (if j = 0 then wrapZ 9007199254740992 (a.n + b.n) else ((Int.gcd a.n b.n : Nat) : Int))
 else pntV (if j = 0 then ⟨wrapZ 16777216 (a.x + b.x), wrapZ 16777216 (a.y + b.y)⟩ else comG ⟨a.x, a.y⟩ ⟨b.x, b.y⟩)
def canV (j : Nat) (k : Int) : Prop := j = 1 ∨ j = 2 ∨ k = 0 ∨ k = 2
theorem fold_can {j : Nat} {a b : Val} (ha : qbf a = true) (hb : qbf b = true) (hk : a.k = b.k) (hc : canV j a.k) : foldV j a b = (opV j a b, 0) := by
 unfold foldV opV
 rw [if_pos ⟨ha, hb⟩, if_pos hk]
 by_cases h1 : j = 1
 ·
  rw [if_pos h1, if_pos h1]
 ·
  rw [if_neg h1, if_neg h1]
  by_cases h2 : j = 2
  ·
   rw [if_pos h2, if_pos h2]
  ·
   rw [if_neg h2, if_neg h2]
   by_cases h3 : a.k = 0
   ·
    rw [if_pos h3, if_pos h3]
   ·
    rw [if_neg h3, if_neg h3]
    have h4 : a.k = 2 := by rcases hc with h | h | h | h; exact absurd h h1; exact absurd h h2; exact absurd h h3; exact h
    rw [if_pos h4]
end Go.Proofs.YtejbpnhondpnfaaGreat
namespace Go.Proofs.YtejbpnhondpnfaaGreat.PJob
open Go.RowKit Go.Proofs.YtejbpnhondpnfaaGreatW.PrintWords Go.Proofs.YtejbpnhondpnfaaGreatW.PrintLast Go.Proofs.YtejbpnhondpnfaaGreatW.PrintMore
attribute [local go_sem] qaz qbe
mutual
def rae.j1 : Nat → Int → ByteArray → Int → Int → Int → Int → Int → List (S57) → List (S57) → List (S57) → ByteArray → Bool → Option (Int)
 | 0, _, _, _, _, _, _, _, _, _, _, _, _ => none
 | k + 1, x3, z0, z1, z2, z3, z4, z5, z6, z7, z8, z9, z10 => rae.l1 k x3 0 z0 z1 z2 z3 z4 z5 z6 z7 z8 z9 z10
def rae.j3 : Nat → Int → ByteArray → Int → Int → Int → Int → Int → List (S57) → List (S57) → List (S57) → ByteArray → Bool → Option (Int)
 | 0, _, _, _, _, _, _, _, _, _, _, _, _ => none
 | k + 1, x3, z0, z1, z2, z3, z4, z5, z6, z7, z8, z9, z10 => rae.l2 k x3 0 z0 z1 z2 z3 z4 z5 z6 z7 z8 z9 z10
def rae.l2 : Nat → Int → Int → ByteArray → Int → Int → Int → Int → Int → List (S57) → List (S57) → List (S57) → ByteArray → Bool → Option (Int)
 | 0, _, _, _, _, _, _, _, _, _, _, _, _, _ => none
 | k + 1, x3, x6, z0, z1, z2, z3, z4, z5, z6, z7, z8, z9, z10 => if x6 < (z8.length : Int) then (if x6 < 200 then (if 0 ≤ x6 then (rae.l2 k (wrap64 (x3 + (mn (((qae z8 x6).f1.f2).size : Int) 10000))) (wrap64 (x6 + 1)) z0 z1 z2 z3 z4 z5 z6 z7 z8 z9 z10) else (none)) else (if x3 > 5500 then (some 0) else (if (z6.length : Int) ≥ 200 then (some 0) else (if (z7.length : Int) ≥ 200 then (some 0) else (if (z8.length : Int) ≥ 200 then (some 0) else (if (z0.size : Int) > 100 then (some 0) else (some 1))))))) else (if x3 > 5500 then (some 0) else (if (z6.length : Int) ≥ 200 then (some 0) else (if (z7.length : Int) ≥ 200 then (some 0) else (if (z8.length : Int) ≥ 200 then (some 0) else (if (z0.size : Int) > 100 then (some 0) else (some 1))))))
def rae.l1 : Nat → Int → Int → ByteArray → Int → Int → Int → Int → Int → List (S57) → List (S57) → List (S57) → ByteArray → Bool → Option (Int)
 | 0, _, _, _, _, _, _, _, _, _, _, _, _, _ => none
 | k + 1, x3, x5, z0, z1, z2, z3, z4, z5, z6, z7, z8, z9, z10 => if x5 < (z7.length : Int) then (if x5 < 200 then (if 0 ≤ x5 then (rae.l1 k (wrap64 (x3 + (mn (((qae z7 x5).f1.f2).size : Int) 10000))) (wrap64 (x5 + 1)) z0 z1 z2 z3 z4 z5 z6 z7 z8 z9 z10) else (none)) else (rae.j3 k x3 z0 z1 z2 z3 z4 z5 z6 z7 z8 z9 z10)) else (rae.j3 k x3 z0 z1 z2 z3 z4 z5 z6 z7 z8 z9 z10)
def rae.l0 : Nat → Int → Int → ByteArray → Int → Int → Int → Int → Int → List (S57) → List (S57) → List (S57) → ByteArray → Bool → Option (Int)
 | 0, _, _, _, _, _, _, _, _, _, _, _, _, _ => none
 | k + 1, x3, x4, z0, z1, z2, z3, z4, z5, z6, z7, z8, z9, z10 => if x4 < (z6.length : Int) then (if x4 < 200 then (if 0 ≤ x4 then (rae.l0 k (wrap64 (x3 + (mn (((qae z6 x4).f1.f2).size : Int) 10000))) (wrap64 (x4 + 1)) z0 z1 z2 z3 z4 z5 z6 z7 z8 z9 z10) else (none)) else (rae.j1 k x3 z0 z1 z2 z3 z4 z5 z6 z7 z8 z9 z10)) else (rae.j1 k x3 z0 z1 z2 z3 z4 z5 z6 z7 z8 z9 z10)
end
def rae.f (k : Nat) (a0_0 : ByteArray) (a0_1 : Int) (a0_2 : Int) (a0_3 : Int) (a0_4 : Int) (a0_5 : Int) (l0_6 : List (S57)) (l0_7 : List (S57)) (l0_8 : List (S57)) (a0_9 : ByteArray) (a0_10 : Bool) : Option (Int) := rae.l0 k (wrap64 ((wrap64 ((l0_6.length : Int) + (l0_7.length : Int))) + (l0_8.length : Int))) 0 a0_0 a0_1 a0_2 a0_3 a0_4 a0_5 l0_6 l0_7 l0_8 a0_9 a0_10
set_option maxHeartbeats 8000000 in
set_option maxRecDepth 100000 in
theorem rae.calls (k : Nat) (a0_0 : ByteArray) (a0_1 : Int) (a0_2 : Int) (a0_3 : Int) (a0_4 : Int) (a0_5 : Int) (A0_6 : Option Addr) (c0_6 : Nat) (l0_6 : List (S57)) (A0_7 : Option Addr) (c0_7 : Nat) (l0_7 : List (S57)) (A0_8 : Option Addr) (c0_8 : Nat) (l0_8 : List (S57)) (a0_9 : ByteArray) (a0_10 : Bool) (r : Int) (w : World) (hr0_6 : Kd.C k57 w A0_6 l0_6.length l0_6) (hc0_6 : l0_6.length ≤ c0_6) (hr0_7 : Kd.C k57 w A0_7 l0_7.length l0_7) (hc0_7 : l0_7.length ≤ c0_7) (hr0_8 : Kd.C k57 w A0_8 l0_8.length l0_8) (hc0_8 : l0_8.length ≤ c0_8) (h : rae.f k a0_0 a0_1 a0_2 a0_3 a0_4 a0_5 l0_6 l0_7 l0_8 a0_9 a0_10 = some r) :
  Calls Tryz.prog 9 #[.agg #[.string a0_0, .int .i64 a0_1, .int .i64 a0_2, .int .i64 a0_3, .int .i64 a0_4, .int .i64 a0_5, .slice A0_6 l0_6.length c0_6, .slice A0_7 l0_7.length c0_7, .slice A0_8 l0_8.length c0_8, .string a0_9, .bool a0_10]] w fun e w' => e = .returned (.int .i64 r) ∧ Below w.heap.size w w' := by
 have hu24 := Tryz.underlying24
 have HR0_6 := Aside0.mk hr0_6
 have HC0_6 := Aside0.mk hc0_6
 clear hr0_6 hc0_6
 have HR0_7 := Aside0.mk hr0_7
 have HC0_7 := Aside0.mk hc0_7
 clear hr0_7 hc0_7
 have HR0_8 := Aside0.mk hr0_8
 have HC0_8 := Aside0.mk hc0_8
 clear hr0_8 hc0_8
 have HB := Aside0.mk (Below.refl w.heap.size w)
 have H : (rae.l0 k (wrap64 ((wrap64 ((l0_6.length : Int) + (l0_7.length : Int))) + (l0_8.length : Int))) 0 a0_0 a0_1 a0_2 a0_3 a0_4 a0_5 l0_6 l0_7 l0_8 a0_9 a0_10) = some r := h
 clear h
 have HC2 := Aside0.mk H
 clear H
 go_enter Tryz.func9, Tryz.ntmps9
 go_upto_block 0 with (first | ((with_reducible refine qav (N := 1) rfl ?_); (try (refine gate_guard (by rfl) ?_; dsimp only)); refine qau ?hg (N := 1) ?hd (cs := #[.string a0_0, .int .i64 a0_1, .int .i64 a0_2, .int .i64 a0_3, .int .i64 a0_4, .int .i64 a0_5, .slice A0_6 l0_6.length c0_6, .slice A0_7 l0_7.length c0_7, .slice A0_8 l0_8.length c0_8, .string a0_9, .bool a0_10]) (t := 24) ?hr ?_; (case hd => rfl); (case hg => rfl); (case hr => first | (go_simp; done) | (go_simp; rfl)); intro gb101 hg w3 hbox hb; have n0_ := Aside0.mk (qah (by repeat (first | (with_reducible first | exact HB.out | apply qad | apply qab | apply qac) | exact HB.out)) hb); have n1_ := Aside0.mk (hbox); have n2_ := Aside0.mk ((by rw [hg]; exact (qaj (by repeat (first | (with_reducible first | exact HB.out | apply qad | apply qab | apply qac) | exact HB.out))) : w.heap.size ≤ gb101)); have n3_ := Aside0.mk ((by rw [hg]; exact (qaj (by repeat (first | (with_reducible first | exact HB.out | apply qad | apply qab | apply qac) | exact HB.out))) : w.heap.size ≤ gb101)); clear HB; have HB := n0_; have BK101 := n1_; have GW101 := n2_; have GE101 := n3_; clear n0_ n1_ n2_ n3_; clear hb hbox hg; obtain ⟨G4_0, G4_1, G4_2, G4_3, G4_4, G4_5, G4_6, G4_7, G4_8, G4_9, G4_10, F4_0, F4_1, F4_2, F4_3, F4_4, F4_5, F4_6, F4_7, F4_8, F4_9, F4_10⟩ := shr11 BK101.out))
 (try simp only [Act.put, sIa, sIz, sIs])
 go_cut [3] (fun v3 wc => ∃ (kq : Nat) (x3_1 : Int), v3 = .int .i64 x3_1 ∧ Aside0 (rae.j1 kq x3_1 a0_0 a0_1 a0_2 a0_3 a0_4 a0_5 l0_6 l0_7 l0_8 a0_9 a0_10 = some r) ∧ Aside0 (kq ≤ k) ∧ Aside0 (wc.heap[gb101]? = some (.cells #[.string a0_0, .int .i64 a0_1, .int .i64 a0_2, .int .i64 a0_3, .int .i64 a0_4, .int .i64 a0_5, (.slice A0_6 l0_6.length c0_6), (.slice A0_7 l0_7.length c0_7), (.slice A0_8 l0_8.length c0_8), .string a0_9, .bool a0_10] 24 (0, 0))) ∧ Aside0 (Below w.heap.size w wc))
 case first =>
  have H := HC2.out
  clear HC2
  have H' := Aside0.mk H
  clear H
  go_wp2
  go_loopg [3, 4] k (fun kq v3 v4 w' => ∃ (x3_1 : Int) (x4_1 : Int), v3 = .int .i64 x3_1 ∧ v4 = .int .i64 x4_1 ∧ Aside0 (rae.l0 kq x3_1 x4_1 a0_0 a0_1 a0_2 a0_3 a0_4 a0_5 l0_6 l0_7 l0_8 a0_9 a0_10 = some r) ∧ Aside0 (kq ≤ k) ∧ Aside0 (w'.heap[gb101]? = some (.cells #[.string a0_0, .int .i64 a0_1, .int .i64 a0_2, .int .i64 a0_3, .int .i64 a0_4, .int .i64 a0_5, (.slice A0_6 l0_6.length c0_6), (.slice A0_7 l0_7.length c0_7), (.slice A0_8 l0_8.length c0_8), .string a0_9, .bool a0_10] 24 (0, 0))) ∧ Aside0 (Below w.heap.size w w'))
  case atStart => exact ⟨(wrap64 ((wrap64 ((l0_6.length : Int) + (l0_7.length : Int))) + (l0_8.length : Int))), (0), (by first | rfl | (simp; done) | (simp [*]; done)), (by first | rfl | (simp; done) | (simp [*]; done)), H', ⟨Nat.le_refl _⟩, ⟨by (with_reducible repeat (first | refine qag ?_ _ | refine qai ?_ | refine blk_alloc ?_ _)); exact BK101.out⟩, ⟨by repeat (first | (with_reducible first | exact HB.out | apply qad | apply qab | apply qac | refine qaf ?_ GE101.out) | exact HB.out)⟩⟩
  case round =>
   clear H'
   try clear p2
   try clear G4_0 G4_1 G4_10 G4_2 G4_3 G4_4 G4_5 G4_6 G4_7 G4_8 G4_9 F4_0 F4_1 F4_10 F4_2 F4_3 F4_4 F4_5 F4_6 F4_7 F4_8 F4_9
   obtain ⟨x3_1, x4_1, rfl, rfl, HA, HK1, BK101, HB⟩ := hrel
   cases gk with
   | zero => exact absurd HA.out (by simp [rae.l0])
   | succ k1 =>
    have H := HA.out
    clear HA
    simp only [rae.l0] at H
    by_cases c5 : x4_1 < (l0_6.length : Int)
    ·
     rw [if_pos c5] at H
     have c5b0 : decide (x4_1 < (l0_6.length : Int)) = true := decide_eq_true c5
     clear c5
     (first | rw [c5b0] | (simp only [qap, i32_w]; rw [c5b0]) | skip)
     by_cases c6 : x4_1 < 200
     ·
      rw [if_pos c6] at H
      have c6b0 : decide (x4_1 < 200) = true := decide_eq_true c6
      clear c6
      by_cases c7 : 0 ≤ x4_1
      ·
       rw [if_pos c7] at H
       have c7b0 : decide (0 ≤ x4_1) = true := decide_eq_true c7
       clear c7
       obtain ⟨ji8, hji8⟩ : ∃ j_ : Int, (mn (((qae l0_6 x4_1).f1.f2).size : Int) 10000) = j_ := ⟨_, rfl⟩
       replace H : (rae.l0 k1 (wrap64 (x3_1 + (ji8))) (wrap64 (x4_1 + 1)) a0_0 a0_1 a0_2 a0_3 a0_4 a0_5 l0_6 l0_7 l0_8 a0_9 a0_10) = some r := by first | (rw [hji8] at H; exact H) | (simp only [hji8] at H ⊢; exact H)
       have hji8_ : (if 10000 < (((qae l0_6 x4_1).f1.f2).size : Int) then 10000 else (((qae l0_6 x4_1).f1.f2).size : Int)) = ji8 := hji8
       have H' := Aside0.mk H
       clear H
       obtain ⟨G9_0, G9_1, G9_2, G9_3, G9_4, G9_5, G9_6, G9_7, G9_8, G9_9, G9_10, F9_0, F9_1, F9_2, F9_3, F9_4, F9_5, F9_6, F9_7, F9_8, F9_9, F9_10⟩ := shr11 BK101.out
       have p102 : 0 ≤ (x4_1 : Int) := of_decide_eq_true (by first | (with_reducible assumption) | assumption)
       have q102 : x4_1 < (l0_6.length : Int) := of_decide_eq_true (by first | (with_reducible assumption) | assumption)
       obtain ⟨ad102, e102, hx102_0, hx102_1, hx102_2, hx102_3, hx102_4, hx102_5⟩ := at_T57 HR0_6.out x4_1 p102 q102
       cases e102
       replace hx102_0 := (HB.out.cell (World.block_lt_of_cell? w _ hx102_0)).trans hx102_0
       replace hx102_1 := (HB.out.cell (World.block_lt_of_cell? w _ hx102_1)).trans hx102_1
       replace hx102_2 := (HB.out.cell (World.block_lt_of_cell? w _ hx102_2)).trans hx102_2
       replace hx102_3 := (HB.out.cell (World.block_lt_of_cell? w _ hx102_3)).trans hx102_3
       replace hx102_4 := (HB.out.cell (World.block_lt_of_cell? w _ hx102_4)).trans hx102_4
       replace hx102_5 := (HB.out.cell (World.block_lt_of_cell? w _ hx102_5)).trans hx102_5
       replace p102 := eq_true p102
       replace q102 := eq_true q102
       go_wp2
       go_roundg k1
       case measure => have := HK1.out; omega
       case rel => exact ⟨(wrap64 (x3_1 + (ji8))), (wrap64 (x4_1 + 1)), (by first | rfl | (simp; done) | (simp only [← hji8] <;> (first | rfl | simp)) | (simp [*]; done)), (by first | rfl | (simp; done) | (simp [*]; done)), H', ⟨by have := HK1.out; omega⟩, ⟨by (with_reducible repeat (first | refine qag ?_ _ | refine qai ?_ | refine blk_alloc ?_ _)); exact BK101.out⟩, ⟨by repeat (first | (with_reducible first | exact HB.out | apply qad | apply qab | apply qac | refine qaf ?_ GE101.out) | exact HB.out)⟩⟩
      ·
       rw [if_neg c7] at H
       exact absurd H (by simp)
     ·
      rw [if_neg c6] at H
      have c6b0 : decide (x4_1 < 200) = false := decide_eq_false c6
      clear c6
      have H' := Aside0.mk H
      clear H
      obtain ⟨G10_0, G10_1, G10_2, G10_3, G10_4, G10_5, G10_6, G10_7, G10_8, G10_9, G10_10, F10_0, F10_1, F10_2, F10_3, F10_4, F10_5, F10_6, F10_7, F10_8, F10_9, F10_10⟩ := shr11 BK101.out
      go_wp2
      go_meet
      case rel => exact ⟨_, (x3_1), (by first | rfl | (simp; done) | (simp [*]; done)), H', ⟨by have := HK1.out; first | omega | exact Nat.le_refl _⟩, ⟨by (with_reducible repeat (first | refine qag ?_ _ | refine qai ?_ | refine blk_alloc ?_ _)); exact BK101.out⟩, ⟨by repeat (first | (with_reducible first | exact HB.out | apply qad | apply qab | apply qac | refine qaf ?_ GE101.out) | exact HB.out)⟩⟩
    ·
     rw [if_neg c5] at H
     have c5b0 : decide (x4_1 < (l0_6.length : Int)) = false := decide_eq_false c5
     clear c5
     (first | rw [c5b0] | (simp only [qap, i32_w]; rw [c5b0]) | skip)
     have H' := Aside0.mk H
     clear H
     obtain ⟨G11_0, G11_1, G11_2, G11_3, G11_4, G11_5, G11_6, G11_7, G11_8, G11_9, G11_10, F11_0, F11_1, F11_2, F11_3, F11_4, F11_5, F11_6, F11_7, F11_8, F11_9, F11_10⟩ := shr11 BK101.out
     go_wp2
     go_meet
     case rel => exact ⟨_, (x3_1), (by first | rfl | (simp; done) | (simp [*]; done)), H', ⟨by have := HK1.out; first | omega | exact Nat.le_refl _⟩, ⟨by (with_reducible repeat (first | refine qag ?_ _ | refine qai ?_ | refine blk_alloc ?_ _)); exact BK101.out⟩, ⟨by repeat (first | (with_reducible first | exact HB.out | apply qad | apply qab | apply qac | refine qaf ?_ GE101.out) | exact HB.out)⟩⟩
 case rest =>
  clear HC2
  try clear p1
  try clear q1
  try clear hx1
  try clear p2
  try clear c5
  try clear c5b0
  try clear c6
  try clear c6b0
  try clear p6
  try clear c7
  try clear c7b0
  try clear c9
  try clear p10
  try clear q10
  try clear hx10
  try clear G10_0 G10_1 G10_10 G10_2 G10_3 G10_4 G10_5 G10_6 G10_7 G10_8 G10_9 F10_0 F10_1 F10_10 F10_2 F10_3 F10_4 F10_5 F10_6 F10_7 F10_8 F10_9
  try clear G11_0 G11_1 G11_10 G11_2 G11_3 G11_4 G11_5 G11_6 G11_7 G11_8 G11_9 F11_0 F11_1 F11_10 F11_2 F11_3 F11_4 F11_5 F11_6 F11_7 F11_8 F11_9
  try clear G4_0 G4_1 G4_10 G4_2 G4_3 G4_4 G4_5 G4_6 G4_7 G4_8 G4_9 F4_0 F4_1 F4_10 F4_2 F4_3 F4_4 F4_5 F4_6 F4_7 F4_8 F4_9
  try clear G9_0 G9_1 G9_10 G9_2 G9_3 G9_4 G9_5 G9_6 G9_7 G9_8 G9_9 F9_0 F9_1 F9_10 F9_2 F9_3 F9_4 F9_5 F9_6 F9_7 F9_8 F9_9
  try clear hx102_0
  try clear hx102_1
  try clear hx102_2
  try clear hx102_3
  try clear hx102_4
  try clear hx102_5
  try clear p102
  try clear q102
  obtain ⟨kq, x3_1, rfl, HA, HJ1, BK101, HB⟩ := hcut
  cases kq with
  | zero => exact absurd HA.out (by simp [rae.j1])
  | succ kj1 =>
   have H := HA.out
   clear HA
   simp only [rae.j1] at H
   have HC12 := Aside0.mk H
   clear H
   go_upto_block 2 with (fail)
   go_cut [3] (fun v3 wc => ∃ (kq : Nat) (x3_11 : Int), v3 = .int .i64 x3_11 ∧ Aside0 (rae.j3 kq x3_11 a0_0 a0_1 a0_2 a0_3 a0_4 a0_5 l0_6 l0_7 l0_8 a0_9 a0_10 = some r) ∧ Aside0 (kq ≤ kj1) ∧ Aside0 (wc.heap[gb101]? = some (.cells #[.string a0_0, .int .i64 a0_1, .int .i64 a0_2, .int .i64 a0_3, .int .i64 a0_4, .int .i64 a0_5, (.slice A0_6 l0_6.length c0_6), (.slice A0_7 l0_7.length c0_7), (.slice A0_8 l0_8.length c0_8), .string a0_9, .bool a0_10] 24 (0, 0))) ∧ Aside0 (Below w.heap.size w wc))
   case first =>
    have H := HC12.out
    clear HC12
    have H' := Aside0.mk H
    clear H
    go_wp2
    go_loopg [3, 5] kj1 (fun kq v3 v5 w' => ∃ (x3_2 : Int) (x5_2 : Int), v3 = .int .i64 x3_2 ∧ v5 = .int .i64 x5_2 ∧ Aside0 (rae.l1 kq x3_2 x5_2 a0_0 a0_1 a0_2 a0_3 a0_4 a0_5 l0_6 l0_7 l0_8 a0_9 a0_10 = some r) ∧ Aside0 (kq ≤ kj1) ∧ Aside0 (w'.heap[gb101]? = some (.cells #[.string a0_0, .int .i64 a0_1, .int .i64 a0_2, .int .i64 a0_3, .int .i64 a0_4, .int .i64 a0_5, (.slice A0_6 l0_6.length c0_6), (.slice A0_7 l0_7.length c0_7), (.slice A0_8 l0_8.length c0_8), .string a0_9, .bool a0_10] 24 (0, 0))) ∧ Aside0 (Below w.heap.size w w'))
    case atStart => exact ⟨(x3_1), (0), (by first | rfl | (simp; done) | (simp [*]; done)), (by first | rfl | (simp; done) | (simp [*]; done)), H', ⟨Nat.le_refl _⟩, ⟨by (with_reducible repeat (first | refine qag ?_ _ | refine qai ?_ | refine blk_alloc ?_ _)); exact BK101.out⟩, ⟨by repeat (first | (with_reducible first | exact HB.out | apply qad | apply qab | apply qac | refine qaf ?_ GE101.out) | exact HB.out)⟩⟩
    case round =>
     clear H'
     try clear p1
     try clear q1
     try clear hx1
     try clear p2
     try clear c5
     try clear c5b0
     try clear c6
     try clear c6b0
     try clear p6
     try clear c7
     try clear c7b0
     try clear c9
     try clear p10
     try clear q10
     try clear hx10
     try clear G10_0 G10_1 G10_10 G10_2 G10_3 G10_4 G10_5 G10_6 G10_7 G10_8 G10_9 F10_0 F10_1 F10_10 F10_2 F10_3 F10_4 F10_5 F10_6 F10_7 F10_8 F10_9
     try clear G11_0 G11_1 G11_10 G11_2 G11_3 G11_4 G11_5 G11_6 G11_7 G11_8 G11_9 F11_0 F11_1 F11_10 F11_2 F11_3 F11_4 F11_5 F11_6 F11_7 F11_8 F11_9
     try clear G4_0 G4_1 G4_10 G4_2 G4_3 G4_4 G4_5 G4_6 G4_7 G4_8 G4_9 F4_0 F4_1 F4_10 F4_2 F4_3 F4_4 F4_5 F4_6 F4_7 F4_8 F4_9
     try clear G9_0 G9_1 G9_10 G9_2 G9_3 G9_4 G9_5 G9_6 G9_7 G9_8 G9_9 F9_0 F9_1 F9_10 F9_2 F9_3 F9_4 F9_5 F9_6 F9_7 F9_8 F9_9
     try clear hx102_0
     try clear hx102_1
     try clear hx102_2
     try clear hx102_3
     try clear hx102_4
     try clear hx102_5
     try clear p102
     try clear q102
     obtain ⟨x3_2, x5_2, rfl, rfl, HA, HK2, BK101, HB⟩ := hrel
     cases gk with
     | zero => exact absurd HA.out (by simp [rae.l1])
     | succ k2 =>
      have H := HA.out
      clear HA
      simp only [rae.l1] at H
      by_cases c13 : x5_2 < (l0_7.length : Int)
      ·
       rw [if_pos c13] at H
       have c13b0 : decide (x5_2 < (l0_7.length : Int)) = true := decide_eq_true c13
       clear c13
       (first | rw [c13b0] | (simp only [qap, i32_w]; rw [c13b0]) | skip)
       by_cases c14 : x5_2 < 200
       ·
        rw [if_pos c14] at H
        have c14b0 : decide (x5_2 < 200) = true := decide_eq_true c14
        clear c14
        by_cases c15 : 0 ≤ x5_2
        ·
         rw [if_pos c15] at H
         have c15b0 : decide (0 ≤ x5_2) = true := decide_eq_true c15
         clear c15
         obtain ⟨ji16, hji16⟩ : ∃ j_ : Int, (mn (((qae l0_7 x5_2).f1.f2).size : Int) 10000) = j_ := ⟨_, rfl⟩
         replace H : (rae.l1 k2 (wrap64 (x3_2 + (ji16))) (wrap64 (x5_2 + 1)) a0_0 a0_1 a0_2 a0_3 a0_4 a0_5 l0_6 l0_7 l0_8 a0_9 a0_10) = some r := by first | (rw [hji16] at H; exact H) | (simp only [hji16] at H ⊢; exact H)
         have hji16_ : (if 10000 < (((qae l0_7 x5_2).f1.f2).size : Int) then 10000 else (((qae l0_7 x5_2).f1.f2).size : Int)) = ji16 := hji16
         have H' := Aside0.mk H
         clear H
         obtain ⟨G17_0, G17_1, G17_2, G17_3, G17_4, G17_5, G17_6, G17_7, G17_8, G17_9, G17_10, F17_0, F17_1, F17_2, F17_3, F17_4, F17_5, F17_6, F17_7, F17_8, F17_9, F17_10⟩ := shr11 BK101.out
         have p103 : 0 ≤ (x5_2 : Int) := of_decide_eq_true (by first | (with_reducible assumption) | assumption)
         have q103 : x5_2 < (l0_7.length : Int) := of_decide_eq_true (by first | (with_reducible assumption) | assumption)
         obtain ⟨ad103, e103, hx103_0, hx103_1, hx103_2, hx103_3, hx103_4, hx103_5⟩ := at_T57 HR0_7.out x5_2 p103 q103
         cases e103
         replace hx103_0 := (HB.out.cell (World.block_lt_of_cell? w _ hx103_0)).trans hx103_0
         replace hx103_1 := (HB.out.cell (World.block_lt_of_cell? w _ hx103_1)).trans hx103_1
         replace hx103_2 := (HB.out.cell (World.block_lt_of_cell? w _ hx103_2)).trans hx103_2
         replace hx103_3 := (HB.out.cell (World.block_lt_of_cell? w _ hx103_3)).trans hx103_3
         replace hx103_4 := (HB.out.cell (World.block_lt_of_cell? w _ hx103_4)).trans hx103_4
         replace hx103_5 := (HB.out.cell (World.block_lt_of_cell? w _ hx103_5)).trans hx103_5
         replace p103 := eq_true p103
         replace q103 := eq_true q103
         go_wp2
         go_roundg k2
         case measure => have := HJ1.out; have := HK2.out; omega
         case rel => exact ⟨(wrap64 (x3_2 + (ji16))), (wrap64 (x5_2 + 1)), (by first | rfl | (simp; done) | (simp only [← hji16] <;> (first | rfl | simp)) | (simp [*]; done)), (by first | rfl | (simp; done) | (simp [*]; done)), H', ⟨by have := HJ1.out; have := HK2.out; omega⟩, ⟨by (with_reducible repeat (first | refine qag ?_ _ | refine qai ?_ | refine blk_alloc ?_ _)); exact BK101.out⟩, ⟨by repeat (first | (with_reducible first | exact HB.out | apply qad | apply qab | apply qac | refine qaf ?_ GE101.out) | exact HB.out)⟩⟩
        ·
         rw [if_neg c15] at H
         exact absurd H (by simp)
       ·
        rw [if_neg c14] at H
        have c14b0 : decide (x5_2 < 200) = false := decide_eq_false c14
        clear c14
        have H' := Aside0.mk H
        clear H
        obtain ⟨G18_0, G18_1, G18_2, G18_3, G18_4, G18_5, G18_6, G18_7, G18_8, G18_9, G18_10, F18_0, F18_1, F18_2, F18_3, F18_4, F18_5, F18_6, F18_7, F18_8, F18_9, F18_10⟩ := shr11 BK101.out
        go_wp2
        go_meet
        case rel => exact ⟨_, (x3_2), (by first | rfl | (simp; done) | (simp [*]; done)), H', ⟨by have := HJ1.out; have := HK2.out; first | omega | exact Nat.le_refl _⟩, ⟨by (with_reducible repeat (first | refine qag ?_ _ | refine qai ?_ | refine blk_alloc ?_ _)); exact BK101.out⟩, ⟨by repeat (first | (with_reducible first | exact HB.out | apply qad | apply qab | apply qac | refine qaf ?_ GE101.out) | exact HB.out)⟩⟩
      ·
       rw [if_neg c13] at H
       have c13b0 : decide (x5_2 < (l0_7.length : Int)) = false := decide_eq_false c13
       clear c13
       (first | rw [c13b0] | (simp only [qap, i32_w]; rw [c13b0]) | skip)
       have H' := Aside0.mk H
       clear H
       obtain ⟨G19_0, G19_1, G19_2, G19_3, G19_4, G19_5, G19_6, G19_7, G19_8, G19_9, G19_10, F19_0, F19_1, F19_2, F19_3, F19_4, F19_5, F19_6, F19_7, F19_8, F19_9, F19_10⟩ := shr11 BK101.out
       go_wp2
       go_meet
       case rel => exact ⟨_, (x3_2), (by first | rfl | (simp; done) | (simp [*]; done)), H', ⟨by have := HJ1.out; have := HK2.out; first | omega | exact Nat.le_refl _⟩, ⟨by (with_reducible repeat (first | refine qag ?_ _ | refine qai ?_ | refine blk_alloc ?_ _)); exact BK101.out⟩, ⟨by repeat (first | (with_reducible first | exact HB.out | apply qad | apply qab | apply qac | refine qaf ?_ GE101.out) | exact HB.out)⟩⟩
   case rest =>
    clear HC12
    try clear c1
    try clear p1
    try clear q1
    try clear hx1
    try clear p2
    try clear c5
    try clear c5b0
    try clear c6
    try clear c6b0
    try clear p6
    try clear c7
    try clear c7b0
    try clear c9
    try clear p10
    try clear q10
    try clear hx10
    try clear c13
    try clear c13b0
    try clear c14
    try clear c14b0
    try clear c15
    try clear c15b0
    try clear G10_0 G10_1 G10_10 G10_2 G10_3 G10_4 G10_5 G10_6 G10_7 G10_8 G10_9 F10_0 F10_1 F10_10 F10_2 F10_3 F10_4 F10_5 F10_6 F10_7 F10_8 F10_9
    try clear G11_0 G11_1 G11_10 G11_2 G11_3 G11_4 G11_5 G11_6 G11_7 G11_8 G11_9 F11_0 F11_1 F11_10 F11_2 F11_3 F11_4 F11_5 F11_6 F11_7 F11_8 F11_9
    try clear G17_0 G17_1 G17_10 G17_2 G17_3 G17_4 G17_5 G17_6 G17_7 G17_8 G17_9 F17_0 F17_1 F17_10 F17_2 F17_3 F17_4 F17_5 F17_6 F17_7 F17_8 F17_9
    try clear G18_0 G18_1 G18_10 G18_2 G18_3 G18_4 G18_5 G18_6 G18_7 G18_8 G18_9 F18_0 F18_1 F18_10 F18_2 F18_3 F18_4 F18_5 F18_6 F18_7 F18_8 F18_9
    try clear G19_0 G19_1 G19_10 G19_2 G19_3 G19_4 G19_5 G19_6 G19_7 G19_8 G19_9 F19_0 F19_1 F19_10 F19_2 F19_3 F19_4 F19_5 F19_6 F19_7 F19_8 F19_9
    try clear G4_0 G4_1 G4_10 G4_2 G4_3 G4_4 G4_5 G4_6 G4_7 G4_8 G4_9 F4_0 F4_1 F4_10 F4_2 F4_3 F4_4 F4_5 F4_6 F4_7 F4_8 F4_9
    try clear G9_0 G9_1 G9_10 G9_2 G9_3 G9_4 G9_5 G9_6 G9_7 G9_8 G9_9 F9_0 F9_1 F9_10 F9_2 F9_3 F9_4 F9_5 F9_6 F9_7 F9_8 F9_9
    try clear hx102_0
    try clear hx102_1
    try clear hx102_2
    try clear hx102_3
    try clear hx102_4
    try clear hx102_5
    try clear hx103_0
    try clear hx103_1
    try clear hx103_2
    try clear hx103_3
    try clear hx103_4
    try clear hx103_5
    try clear p102
    try clear p103
    try clear q102
    try clear q103
    obtain ⟨kq, x3_11, rfl, HA, HJ11, BK101, HB⟩ := hcut
    cases kq with
    | zero => exact absurd HA.out (by simp [rae.j3])
    | succ kj11 =>
     have H := HA.out
     clear HA
     simp only [rae.j3] at H
     have H' := Aside0.mk H
     clear H
     go_wp2
     go_loopg [3, 6] kj11 (fun kq v3 v6 w' => ∃ (x3_3 : Int) (x6_3 : Int), v3 = .int .i64 x3_3 ∧ v6 = .int .i64 x6_3 ∧ Aside0 (rae.l2 kq x3_3 x6_3 a0_0 a0_1 a0_2 a0_3 a0_4 a0_5 l0_6 l0_7 l0_8 a0_9 a0_10 = some r) ∧ Aside0 (kq ≤ kj11) ∧ Aside0 (w'.heap[gb101]? = some (.cells #[.string a0_0, .int .i64 a0_1, .int .i64 a0_2, .int .i64 a0_3, .int .i64 a0_4, .int .i64 a0_5, (.slice A0_6 l0_6.length c0_6), (.slice A0_7 l0_7.length c0_7), (.slice A0_8 l0_8.length c0_8), .string a0_9, .bool a0_10] 24 (0, 0))) ∧ Aside0 (Below w.heap.size w w'))
     case atStart => exact ⟨(x3_11), (0), (by first | rfl | (simp; done) | (simp [*]; done)), (by first | rfl | (simp; done) | (simp [*]; done)), H', ⟨Nat.le_refl _⟩, ⟨by (with_reducible repeat (first | refine qag ?_ _ | refine qai ?_ | refine blk_alloc ?_ _)); exact BK101.out⟩, ⟨by repeat (first | (with_reducible first | exact HB.out | apply qad | apply qab | apply qac | refine qaf ?_ GE101.out) | exact HB.out)⟩⟩
     case round =>
      clear H'
      try clear c1
      try clear p1
      try clear q1
      try clear hx1
      try clear p2
      try clear c5
      try clear c5b0
      try clear c6
      try clear c6b0
      try clear p6
      try clear c7
      try clear c7b0
      try clear c9
      try clear p10
      try clear q10
      try clear hx10
      try clear c13
      try clear c13b0
      try clear c14
      try clear c14b0
      try clear c15
      try clear c15b0
      try clear G10_0 G10_1 G10_10 G10_2 G10_3 G10_4 G10_5 G10_6 G10_7 G10_8 G10_9 F10_0 F10_1 F10_10 F10_2 F10_3 F10_4 F10_5 F10_6 F10_7 F10_8 F10_9
      try clear G11_0 G11_1 G11_10 G11_2 G11_3 G11_4 G11_5 G11_6 G11_7 G11_8 G11_9 F11_0 F11_1 F11_10 F11_2 F11_3 F11_4 F11_5 F11_6 F11_7 F11_8 F11_9
      try clear G17_0 G17_1 G17_10 G17_2 G17_3 G17_4 G17_5 G17_6 G17_7 G17_8 G17_9 F17_0 F17_1 F17_10 F17_2 F17_3 F17_4 F17_5 F17_6 F17_7 F17_8 F17_9
      try clear G18_0 G18_1 G18_10 G18_2 G18_3 G18_4 G18_5 G18_6 G18_7 G18_8 G18_9 F18_0 F18_1 F18_10 F18_2 F18_3 F18_4 F18_5 F18_6 F18_7 F18_8 F18_9
      try clear G19_0 G19_1 G19_10 G19_2 G19_3 G19_4 G19_5 G19_6 G19_7 G19_8 G19_9 F19_0 F19_1 F19_10 F19_2 F19_3 F19_4 F19_5 F19_6 F19_7 F19_8 F19_9
      try clear G4_0 G4_1 G4_10 G4_2 G4_3 G4_4 G4_5 G4_6 G4_7 G4_8 G4_9 F4_0 F4_1 F4_10 F4_2 F4_3 F4_4 F4_5 F4_6 F4_7 F4_8 F4_9
      try clear G9_0 G9_1 G9_10 G9_2 G9_3 G9_4 G9_5 G9_6 G9_7 G9_8 G9_9 F9_0 F9_1 F9_10 F9_2 F9_3 F9_4 F9_5 F9_6 F9_7 F9_8 F9_9
      try clear hx102_0
      try clear hx102_1
      try clear hx102_2
      try clear hx102_3
      try clear hx102_4
      try clear hx102_5
      try clear hx103_0
      try clear hx103_1
      try clear hx103_2
      try clear hx103_3
      try clear hx103_4
      try clear hx103_5
      try clear p102
      try clear p103
      try clear q102
      try clear q103
      obtain ⟨x3_3, x6_3, rfl, rfl, HA, HK3, BK101, HB⟩ := hrel
      cases gk with
      | zero => exact absurd HA.out (by simp [rae.l2])
      | succ k3 =>
       have H := HA.out
       clear HA
       simp only [rae.l2] at H
       by_cases c20 : x6_3 < (l0_8.length : Int)
       ·
        rw [if_pos c20] at H
        have c20b0 : decide (x6_3 < (l0_8.length : Int)) = true := decide_eq_true c20
        clear c20
        by_cases c21 : x6_3 < 200
        ·
         rw [if_pos c21] at H
         have c21b0 : decide (x6_3 < 200) = true := decide_eq_true c21
         clear c21
         by_cases c22 : 0 ≤ x6_3
         ·
          rw [if_pos c22] at H
          have c22b0 : decide (0 ≤ x6_3) = true := decide_eq_true c22
          clear c22
          obtain ⟨ji23, hji23⟩ : ∃ j_ : Int, (mn (((qae l0_8 x6_3).f1.f2).size : Int) 10000) = j_ := ⟨_, rfl⟩
          replace H : (rae.l2 k3 (wrap64 (x3_3 + (ji23))) (wrap64 (x6_3 + 1)) a0_0 a0_1 a0_2 a0_3 a0_4 a0_5 l0_6 l0_7 l0_8 a0_9 a0_10) = some r := by first | (rw [hji23] at H; exact H) | (simp only [hji23] at H ⊢; exact H)
          have hji23_ : (if 10000 < (((qae l0_8 x6_3).f1.f2).size : Int) then 10000 else (((qae l0_8 x6_3).f1.f2).size : Int)) = ji23 := hji23
          have H' := Aside0.mk H
          clear H
          obtain ⟨G24_0, G24_1, G24_2, G24_3, G24_4, G24_5, G24_6, G24_7, G24_8, G24_9, G24_10, F24_0, F24_1, F24_2, F24_3, F24_4, F24_5, F24_6, F24_7, F24_8, F24_9, F24_10⟩ := shr11 BK101.out
          have p104 : 0 ≤ (x6_3 : Int) := of_decide_eq_true (by first | (with_reducible assumption) | assumption)
          have q104 : x6_3 < (l0_8.length : Int) := of_decide_eq_true (by first | (with_reducible assumption) | assumption)
          obtain ⟨ad104, e104, hx104_0, hx104_1, hx104_2, hx104_3, hx104_4, hx104_5⟩ := at_T57 HR0_8.out x6_3 p104 q104
          cases e104
          replace hx104_0 := (HB.out.cell (World.block_lt_of_cell? w _ hx104_0)).trans hx104_0
          replace hx104_1 := (HB.out.cell (World.block_lt_of_cell? w _ hx104_1)).trans hx104_1
          replace hx104_2 := (HB.out.cell (World.block_lt_of_cell? w _ hx104_2)).trans hx104_2
          replace hx104_3 := (HB.out.cell (World.block_lt_of_cell? w _ hx104_3)).trans hx104_3
          replace hx104_4 := (HB.out.cell (World.block_lt_of_cell? w _ hx104_4)).trans hx104_4
          replace hx104_5 := (HB.out.cell (World.block_lt_of_cell? w _ hx104_5)).trans hx104_5
          replace p104 := eq_true p104
          replace q104 := eq_true q104
          go_wp2
          go_roundg k3
          case measure => have := HJ1.out; have := HJ11.out; have := HK3.out; omega
          case rel => exact ⟨(wrap64 (x3_3 + (ji23))), (wrap64 (x6_3 + 1)), (by first | rfl | (simp; done) | (simp only [← hji23] <;> (first | rfl | simp)) | (simp [*]; done)), (by first | rfl | (simp; done) | (simp [*]; done)), H', ⟨by have := HJ1.out; have := HJ11.out; have := HK3.out; omega⟩, ⟨by (with_reducible repeat (first | refine qag ?_ _ | refine qai ?_ | refine blk_alloc ?_ _)); exact BK101.out⟩, ⟨by repeat (first | (with_reducible first | exact HB.out | apply qad | apply qab | apply qac | refine qaf ?_ GE101.out) | exact HB.out)⟩⟩
         ·
          rw [if_neg c22] at H
          exact absurd H (by simp)
        ·
         rw [if_neg c21] at H
         have c21b0 : decide (x6_3 < 200) = false := decide_eq_false c21
         clear c21
         by_cases c25 : x3_3 > 5500
         ·
          rw [if_pos c25] at H
          have c25b0 : decide (5500 < x3_3) = true := decide_eq_true c25
          clear c25
          obtain rfl := Option.some.inj H
          obtain ⟨G26_0, G26_1, G26_2, G26_3, G26_4, G26_5, G26_6, G26_7, G26_8, G26_9, G26_10, F26_0, F26_1, F26_2, F26_3, F26_4, F26_5, F26_6, F26_7, F26_8, F26_9, F26_10⟩ := shr11 BK101.out
          go_wp2
          go_ret
          exact ⟨by first | rfl | (simp [*] <;> rfl), by repeat (first | (with_reducible first | exact HB.out | apply qad | apply qab | apply qac | refine qaf ?_ GE101.out) | exact HB.out)⟩
         ·
          rw [if_neg c25] at H
          have c25b0 : decide (5500 < x3_3) = false := decide_eq_false c25
          clear c25
          by_cases c27 : (l0_6.length : Int) ≥ 200
          ·
           rw [if_pos c27] at H
           have c27b0 : decide (200 ≤ (l0_6.length : Int)) = true := decide_eq_true c27
           have c27b1 : decide (200 ≤ l0_6.length) = true := decide_eq_true (by omega)
           clear c27
           obtain rfl := Option.some.inj H
           obtain ⟨G28_0, G28_1, G28_2, G28_3, G28_4, G28_5, G28_6, G28_7, G28_8, G28_9, G28_10, F28_0, F28_1, F28_2, F28_3, F28_4, F28_5, F28_6, F28_7, F28_8, F28_9, F28_10⟩ := shr11 BK101.out
           go_wp2
           go_ret
           exact ⟨by first | rfl | (simp [*] <;> rfl), by repeat (first | (with_reducible first | exact HB.out | apply qad | apply qab | apply qac | refine qaf ?_ GE101.out) | exact HB.out)⟩
          ·
           rw [if_neg c27] at H
           have c27b0 : decide (200 ≤ (l0_6.length : Int)) = false := decide_eq_false c27
           have c27b1 : decide (200 ≤ l0_6.length) = false := decide_eq_false (by omega)
           clear c27
           by_cases c29 : (l0_7.length : Int) ≥ 200
           ·
            rw [if_pos c29] at H
            have c29b0 : decide (200 ≤ (l0_7.length : Int)) = true := decide_eq_true c29
            have c29b1 : decide (200 ≤ l0_7.length) = true := decide_eq_true (by omega)
            clear c29
            obtain rfl := Option.some.inj H
            obtain ⟨G30_0, G30_1, G30_2, G30_3, G30_4, G30_5, G30_6, G30_7, G30_8, G30_9, G30_10, F30_0, F30_1, F30_2, F30_3, F30_4, F30_5, F30_6, F30_7, F30_8, F30_9, F30_10⟩ := shr11 BK101.out
            go_wp2
            go_ret
            exact ⟨by first | rfl | (simp [*] <;> rfl), by repeat (first | (with_reducible first | exact HB.out | apply qad | apply qab | apply qac | refine qaf ?_ GE101.out) | exact HB.out)⟩
           ·
            rw [if_neg c29] at H
            have c29b0 : decide (200 ≤ (l0_7.length : Int)) = false := decide_eq_false c29
            have c29b1 : decide (200 ≤ l0_7.length) = false := decide_eq_false (by omega)
            clear c29
            by_cases c31 : (l0_8.length : Int) ≥ 200
            ·
             rw [if_pos c31] at H
             have c31b0 : decide (200 ≤ (l0_8.length : Int)) = true := decide_eq_true c31
             have c31b1 : decide (200 ≤ l0_8.length) = true := decide_eq_true (by omega)
             clear c31
             obtain rfl := Option.some.inj H
             obtain ⟨G32_0, G32_1, G32_2, G32_3, G32_4, G32_5, G32_6, G32_7, G32_8, G32_9, G32_10, F32_0, F32_1, F32_2, F32_3, F32_4, F32_5, F32_6, F32_7, F32_8, F32_9, F32_10⟩ := shr11 BK101.out
             go_wp2
             go_ret
             exact ⟨by first | rfl | (simp [*] <;> rfl), by repeat (first | (with_reducible first | exact HB.out | apply qad | apply qab | apply qac | refine qaf ?_ GE101.out) | exact HB.out)⟩
            ·
             rw [if_neg c31] at H
             have c31b0 : decide (200 ≤ (l0_8.length : Int)) = false := decide_eq_false c31
             have c31b1 : decide (200 ≤ l0_8.length) = false := decide_eq_false (by omega)
             clear c31
             by_cases c33 : (a0_0.size : Int) > 100
             ·
              rw [if_pos c33] at H
              have c33b0 : decide (100 < (a0_0.size : Int)) = true := decide_eq_true c33
              have c33b1 : decide (100 < a0_0.size) = true := decide_eq_true (by omega)
              clear c33
              obtain rfl := Option.some.inj H
              obtain ⟨G34_0, G34_1, G34_2, G34_3, G34_4, G34_5, G34_6, G34_7, G34_8, G34_9, G34_10, F34_0, F34_1, F34_2, F34_3, F34_4, F34_5, F34_6, F34_7, F34_8, F34_9, F34_10⟩ := shr11 BK101.out
              go_wp2
              go_ret
              exact ⟨by first | rfl | (simp [*] <;> rfl), by repeat (first | (with_reducible first | exact HB.out | apply qad | apply qab | apply qac | refine qaf ?_ GE101.out) | exact HB.out)⟩
             ·
              rw [if_neg c33] at H
              have c33b0 : decide (100 < (a0_0.size : Int)) = false := decide_eq_false c33
              have c33b1 : decide (100 < a0_0.size) = false := decide_eq_false (by omega)
              clear c33
              obtain rfl := Option.some.inj H
              obtain ⟨G35_0, G35_1, G35_2, G35_3, G35_4, G35_5, G35_6, G35_7, G35_8, G35_9, G35_10, F35_0, F35_1, F35_2, F35_3, F35_4, F35_5, F35_6, F35_7, F35_8, F35_9, F35_10⟩ := shr11 BK101.out
              go_wp2
              go_ret
              exact ⟨by first | rfl | (simp [*] <;> rfl), by repeat (first | (with_reducible first | exact HB.out | apply qad | apply qab | apply qac | refine qaf ?_ GE101.out) | exact HB.out)⟩
       ·
        rw [if_neg c20] at H
        have c20b0 : decide (x6_3 < (l0_8.length : Int)) = false := decide_eq_false c20
        clear c20
        by_cases c36 : x3_3 > 5500
        ·
         rw [if_pos c36] at H
         have c36b0 : decide (5500 < x3_3) = true := decide_eq_true c36
         clear c36
         obtain rfl := Option.some.inj H
         obtain ⟨G37_0, G37_1, G37_2, G37_3, G37_4, G37_5, G37_6, G37_7, G37_8, G37_9, G37_10, F37_0, F37_1, F37_2, F37_3, F37_4, F37_5, F37_6, F37_7, F37_8, F37_9, F37_10⟩ := shr11 BK101.out
         go_wp2
         go_ret
         exact ⟨by first | rfl | (simp [*] <;> rfl), by repeat (first | (with_reducible first | exact HB.out | apply qad | apply qab | apply qac | refine qaf ?_ GE101.out) | exact HB.out)⟩
        ·
         rw [if_neg c36] at H
         have c36b0 : decide (5500 < x3_3) = false := decide_eq_false c36
         clear c36
         by_cases c38 : (l0_6.length : Int) ≥ 200
         ·
          rw [if_pos c38] at H
          have c38b0 : decide (200 ≤ (l0_6.length : Int)) = true := decide_eq_true c38
          have c38b1 : decide (200 ≤ l0_6.length) = true := decide_eq_true (by omega)
          clear c38
          obtain rfl := Option.some.inj H
          obtain ⟨G39_0, G39_1, G39_2, G39_3, G39_4, G39_5, G39_6, G39_7, G39_8, G39_9, G39_10, F39_0, F39_1, F39_2, F39_3, F39_4, F39_5, F39_6, F39_7, F39_8, F39_9, F39_10⟩ := shr11 BK101.out
          go_wp2
          go_ret
          exact ⟨by first | rfl | (simp [*] <;> rfl), by repeat (first | (with_reducible first | exact HB.out | apply qad | apply qab | apply qac | refine qaf ?_ GE101.out) | exact HB.out)⟩
         ·
          rw [if_neg c38] at H
          have c38b0 : decide (200 ≤ (l0_6.length : Int)) = false := decide_eq_false c38
          have c38b1 : decide (200 ≤ l0_6.length) = false := decide_eq_false (by omega)
          clear c38
          by_cases c40 : (l0_7.length : Int) ≥ 200
          ·
           rw [if_pos c40] at H
           have c40b0 : decide (200 ≤ (l0_7.length : Int)) = true := decide_eq_true c40
           have c40b1 : decide (200 ≤ l0_7.length) = true := decide_eq_true (by omega)
           clear c40
           obtain rfl := Option.some.inj H
           obtain ⟨G41_0, G41_1, G41_2, G41_3, G41_4, G41_5, G41_6, G41_7, G41_8, G41_9, G41_10, F41_0, F41_1, F41_2, F41_3, F41_4, F41_5, F41_6, F41_7, F41_8, F41_9, F41_10⟩ := shr11 BK101.out
           go_wp2
           go_ret
           exact ⟨by first | rfl | (simp [*] <;> rfl), by repeat (first | (with_reducible first | exact HB.out | apply qad | apply qab | apply qac | refine qaf ?_ GE101.out) | exact HB.out)⟩
          ·
           rw [if_neg c40] at H
           have c40b0 : decide (200 ≤ (l0_7.length : Int)) = false := decide_eq_false c40
           have c40b1 : decide (200 ≤ l0_7.length) = false := decide_eq_false (by omega)
           clear c40
           by_cases c42 : (l0_8.length : Int) ≥ 200
           ·
            rw [if_pos c42] at H
            have c42b0 : decide (200 ≤ (l0_8.length : Int)) = true := decide_eq_true c42
            have c42b1 : decide (200 ≤ l0_8.length) = true := decide_eq_true (by omega)
            clear c42
            obtain rfl := Option.some.inj H
            obtain ⟨G43_0, G43_1, G43_2, G43_3, G43_4, G43_5, G43_6, G43_7, G43_8, G43_9, G43_10, F43_0, F43_1, F43_2, F43_3, F43_4, F43_5, F43_6, F43_7, F43_8, F43_9, F43_10⟩ := shr11 BK101.out
            go_wp2
            go_ret
            exact ⟨by first | rfl | (simp [*] <;> rfl), by repeat (first | (with_reducible first | exact HB.out | apply qad | apply qab | apply qac | refine qaf ?_ GE101.out) | exact HB.out)⟩
           ·
            rw [if_neg c42] at H
            have c42b0 : decide (200 ≤ (l0_8.length : Int)) = false := decide_eq_false c42
            have c42b1 : decide (200 ≤ l0_8.length) = false := decide_eq_false (by omega)
            clear c42
            by_cases c44 : (a0_0.size : Int) > 100
            ·
             rw [if_pos c44] at H
             have c44b0 : decide (100 < (a0_0.size : Int)) = true := decide_eq_true c44
             have c44b1 : decide (100 < a0_0.size) = true := decide_eq_true (by omega)
             clear c44
             obtain rfl := Option.some.inj H
             obtain ⟨G45_0, G45_1, G45_2, G45_3, G45_4, G45_5, G45_6, G45_7, G45_8, G45_9, G45_10, F45_0, F45_1, F45_2, F45_3, F45_4, F45_5, F45_6, F45_7, F45_8, F45_9, F45_10⟩ := shr11 BK101.out
             go_wp2
             go_ret
             exact ⟨by first | rfl | (simp [*] <;> rfl), by repeat (first | (with_reducible first | exact HB.out | apply qad | apply qab | apply qac | refine qaf ?_ GE101.out) | exact HB.out)⟩
            ·
             rw [if_neg c44] at H
             have c44b0 : decide (100 < (a0_0.size : Int)) = false := decide_eq_false c44
             have c44b1 : decide (100 < a0_0.size) = false := decide_eq_false (by omega)
             clear c44
             obtain rfl := Option.some.inj H
             obtain ⟨G46_0, G46_1, G46_2, G46_3, G46_4, G46_5, G46_6, G46_7, G46_8, G46_9, G46_10, F46_0, F46_1, F46_2, F46_3, F46_4, F46_5, F46_6, F46_7, F46_8, F46_9, F46_10⟩ := shr11 BK101.out
             go_wp2
             go_ret
             exact ⟨by first | rfl | (simp [*] <;> rfl), by repeat (first | (with_reducible first | exact HB.out | apply qad | apply qab | apply qac | refine qaf ?_ GE101.out) | exact HB.out)⟩
end Go.Proofs.YtejbpnhondpnfaaGreat.PJob
namespace Go.Proofs.YtejbpnhondpnfaaGreat
set_option maxRecDepth 100000
open Go.RowKit
set_option maxHeartbeats 4000000 in
theorem fold_no (x : ByteArray) (hx : Lib.containsS foldsL x = false) (a b : Val) (w : World) :
  Calls Tryz.prog 19 #[.string x, valV a, valV b] w fun e w' => e = .returned (.tuple #[valV zeroV, .int .i64 1]) ∧ Below w.heap.size w w' := by
 have hco := Lib.hid (fun g W (hg : W.heap[g]? = some foldsO) => has_is x g W hg)
 rw [hx] at hco
 clear hx
 obtain ⟨W1, hW1⟩ : ∃ W1, W1 = oW a b w := ⟨_, rfl⟩
 have hp1 : PO a b w W1 := hW1 ▸ oW_po a b w
 unfold valV
 unfold oW valB zeroV at hW1
 obtain ⟨w2, hw2⟩ : ∃ w2, w2 = W1.alloc foldsO := ⟨_, rfl⟩
 have hp2 : PO a b w w2 := by rw [hw2]; exact hp1.step ((Below.refl _ W1).alloc (Nat.le_refl _) _)
 have hg2 : w2.heap[W1.heap.size]? = some foldsO := by rw [hw2]; exact heap_alloc_new _ _
 have HC := Lib.hid (hco.out _ _ hg2)
 have HF := Lib.hid (hp2.fin zeroV)
 have HP := Lib.hid hp2
 clear hg2 hp1 hco
 go_enter Tryz.func19, Tryz.ntmps19
 go_wp2_with (first | (rw [← hW1]; clear hW1))
 refine (folds_any W1).mono ?_
 rintro e w3 ⟨rfl, rfl⟩
 rw [← hw2]
 clear hw2
 obtain ⟨k0, k1, k2, k3, k4⟩ := qam hp2.a
 obtain ⟨c0, c1, c2, c3, c4⟩ := qam hp2.c
 have f0 := qao (o := 0) hp2.c
 have f1 := qao (o := 1) hp2.c
 have f2 := qao (o := 2) hp2.c
 have f3 := qao (o := 3) hp2.c
 have f4 := qao (o := 4) hp2.c
 clear hp2
 go_wp2_with fail
 refine HC.out.mono ?_
 rintro e w4 ⟨rfl, rfl⟩
 go_wp2_with fail
 exact bodyPost_ret (qas rfl _ _ (w.heap.size + 1 + 1) 45 #[.int .i64 0, .int .i64 0, .string ⟨#[]⟩, .int .i64 0, .int .i64 0] _ (.int .i64 1) rfl rfl HF.out.1 Tryz.underlying45 rfl (by kernel_rfl)) rfl ⟨rfl, HF.out.2⟩
def foldW (x : ByteArray) (a b : Val) : Val × Int :=
 if x = sumB' then foldV 0 a b else if x = maxB then foldV 1 a b else if x = minB then foldV 2 a b else if x = gcdB then foldV 3 a b else (zeroV, 1)
theorem fold_any (x : ByteArray) (a b : Val) (w : World) :
  Calls Tryz.prog 19 #[.string x, valV a, valV b] w fun e w' => e = .returned (.tuple #[valV (foldW x a b).1, .int .i64 (foldW x a b).2]) ∧ Below w.heap.size w w' := by
 unfold foldW
 by_cases h0 : x = sumB'
 ·
  subst h0; rw [if_pos rfl]; exact fold_sum a b w
 rw [if_neg h0]
 by_cases h1 : x = maxB
 ·
  subst h1; rw [if_pos rfl]; exact fold_max a b w
 rw [if_neg h1]
 by_cases h2 : x = minB
 ·
  subst h2; rw [if_pos rfl]; exact fold_min a b w
 rw [if_neg h2]
 by_cases h3 : x = gcdB
 ·
  subst h3; rw [if_pos rfl]; exact fold_gcd a b w
 rw [if_neg h3]
 refine fold_no x ?_ a b w
 rw [Bool.eq_false_iff]
 intro h
 rw [Lib.containsS_iff] at h
 unfold foldsL at h
 simp [h0, h1, h2, h3] at h
theorem awake_any (w : World) : Calls Tryz.prog 8 #[] w fun e w' => e = .returned (.bool true) ∧ Below w.heap.size w w' := by
 have h1 := fold_any sumB' (numV 9007199254740992) zeroV
 have h2 := fold_any gcdB (numV (-4)) (numV 6)
 have e1 : foldW sumB' (numV 9007199254740992) zeroV = (numV (-9007199254740992), 0) := by
  have h1 : qbf (numV 9007199254740992) = true := right_num (by omega)
  have h2 : qbf zeroV = true := right_num (n := 0) (by omega)
  show foldV 0 (numV 9007199254740992) zeroV = _
  rw [fold_can h1 h2 rfl (.inr (.inr (.inl rfl)))]
  rfl
 have e2 : foldW gcdB (numV (-4)) (numV 6) = (numV 2, 0) := by
  have h1 : qbf (numV (-4)) = true := right_num (by omega)
  have h2 : qbf (numV 6) = true := right_num (by omega)
  show foldV 3 (numV (-4)) (numV 6) = _
  rw [fold_can h1 h2 rfl (.inr (.inr (.inl rfl)))]
  rfl
 rw [e1] at h1
 rw [e2] at h2
 change ∀ w, Calls Tryz.prog 19 #[.string sumB', .agg #[.int .i64 0, .int .i64 9007199254740992, .string ⟨#[]⟩, .int .i64 0, .int .i64 0], .agg #[.int .i64 0, .int .i64 0, .string ⟨#[]⟩, .int .i64 0, .int .i64 0]] w fun e w' => e = .returned (.tuple #[.agg #[.int .i64 0, .int .i64 (-9007199254740992), .string ⟨#[]⟩, .int .i64 0, .int .i64 0], .int .i64 0]) ∧ Below w.heap.size w w' at h1
 change ∀ w, Calls Tryz.prog 19 #[.string gcdB, .agg #[.int .i64 0, .int .i64 (-4), .string ⟨#[]⟩, .int .i64 0, .int .i64 0], .agg #[.int .i64 0, .int .i64 6, .string ⟨#[]⟩, .int .i64 0, .int .i64 0]] w fun e w' => e = .returned (.tuple #[.agg #[.int .i64 0, .int .i64 2, .string ⟨#[]⟩, .int .i64 0, .int .i64 0], .int .i64 0]) ∧ Below w.heap.size w w' at h2
 unfold sumB' at h1
 unfold gcdB at h2
 have H1 := Lib.hid h1
 have H2 := Lib.hid h2
 clear h1 h2
 go_enter Tryz.func8, Tryz.ntmps8
 go_wp2_with fail
 refine (H1.out _).mono ?_
 rintro e w1 ⟨rfl, hb1⟩
 go_wp2_with fail
 refine (H2.out _).mono ?_
 rintro e w2 ⟨rfl, hb2⟩
 have hn := heap_alloc_new w1 (.cells #[.int .i64 0, .int .i64 (-9007199254740992), .string ⟨#[]⟩, .int .i64 0, .int .i64 0] 45)
 have hn2 : (w2.alloc (.cells #[.int .i64 0, .int .i64 2, .string ⟨#[]⟩, .int .i64 0, .int .i64 0] 45)).heap[w1.heap.size]? = some (.cells #[.int .i64 0, .int .i64 (-9007199254740992), .string ⟨#[]⟩, .int .i64 0, .int .i64 0] 45 (0, 0)) := by
  have hlt : w1.heap.size < (w1.alloc (.cells #[.int .i64 0, .int .i64 (-9007199254740992), .string ⟨#[]⟩, .int .i64 0, .int .i64 0] 45)).heap.size := by rw [World.size_alloc]; omega
  rw [heap_alloc_old _ _ (Nat.lt_of_lt_of_le hlt hb2.size), hb2.block _ hlt]
  exact hn
 have hm2 := heap_alloc_new w2 (.cells #[.int .i64 0, .int .i64 2, .string ⟨#[]⟩, .int .i64 0, .int .i64 0] 45)
 have hB : Below w.heap.size w (w2.alloc (.cells #[.int .i64 0, .int .i64 2, .string ⟨#[]⟩, .int .i64 0, .int .i64 0] 45)) := by
  have h3 := (hb1.alloc hb1.size (.cells #[.int .i64 0, .int .i64 (-9007199254740992), .string ⟨#[]⟩, .int .i64 0, .int .i64 0] 45))
  have h4 := h3.trans (hb2.mono h3.size)
  exact h4.alloc h4.size _
 obtain ⟨W, hW⟩ : ∃ W, W = w2.alloc (.cells #[.int .i64 0, .int .i64 2, .string ⟨#[]⟩, .int .i64 0, .int .i64 0] 45) := ⟨_, rfl⟩
 rw [← hW] at hn2 hm2 hB
 obtain ⟨k0, k1, _⟩ := qam hn2
 obtain ⟨l0, l1, _⟩ := qam hm2
 clear hn hn2 hm2 hb1 hb2
 go_wp2_with (first | (rw [← hW]; clear hW))
 go_ret
 exact ⟨rfl, hB⟩
end Go.Proofs.YtejbpnhondpnfaaGreat
namespace Go.Proofs.YtejbpnhondpnfaaGreat.PJob
open Go.RowKit Go.Proofs.YtejbpnhondpnfaaGreatW.PrintWords Go.Proofs.YtejbpnhondpnfaaGreatW.PrintLast Go.Proofs.YtejbpnhondpnfaaGreatW.PrintMore
attribute [local go_sem] qaz qbe
def rbh.f : Option Bool := some true
theorem rbh.calls (r : Bool) (w : World) (h : rbh.f = some r) :
    Calls Tryz.prog 8 #[] w fun e w' => e = .returned (.bool r) ∧ Below w.heap.size w w' := by
  unfold rbh.f at h
  injection h with h
  subst h
  exact awake_any w
def ral.l0 : Nat → List (S57) → List (S114) → Int → Option ((List (S114)))
 | 0, _, _, _ => none
 | k + 1, x0, x3, x4 => if x4 < (x0.length : Int) then (if 0 ≤ x4 then (if x3.length < 2513169434916 then (ral.l0 k x0 (x3 ++ [(⟨(qae x0 x4).f0, (⟨(qae x0 x4).f1.f0, (qae x0 x4).f1.f1, (qae x0 x4).f1.f2, (⟨(qae x0 x4).f1.f3.f0, (qae x0 x4).f1.f3.f1⟩ : S43)⟩ : S45)⟩ : S114)]) (wrap64 (x4 + 1))) else (none)) else (none)) else (some x3)
def ral.f (k : Nat) (l0 : List (S57)) : Option ((List (S114))) := ral.l0 k l0 ([] : List (S114)) 0
def ral.T5 : Bool × List (List Nat × List Nat) := (true, [([], []), ([], []), ([], []), ([1, 2], [1, 2]), ([3], [3]), ([4], [4]), ([], []), ([], []), ([6, 7], [6, 7]), ([8], [8]), ([9], [9]), ([5, 10], [5, 10]), ([11], [11]), ([0, 12], [0, 12]), ([13, 13, 0, 1, 2, 3, 4, 5, 6, 7, 8, 9, 10, 11, 12, 13], [0, 13])])
def ral.B5 : List Nat := [0, 0, 0, 6, 14, 30, 0, 0, 192, 448, 960, 2046, 4094, 8191, 16383]
theorem ral.tab5 : rtab .any (opsOf Tryz.f31 5) = ral.T5 := by kernel_rfl
theorem ral.bits5 : waitsOk ral.T5.2 ral.B5 = true := by kernel_rfl
set_option maxHeartbeats 8000000 in
set_option maxRecDepth 100000 in
theorem ral.calls (k : Nat) (A0 : Option Addr) (c0 : Nat) (l0 : List (S57)) (r : List (S114)) (w : World) (hr0 : Kd.C k57 w A0 l0.length l0) (hc0 : l0.length ≤ c0) (h : ral.f k l0 = some r) :
  Calls Tryz.prog 31 #[.slice A0 l0.length c0] w fun e w' => ∃ v0_ : Value, e = .returned (v0_) ∧ Kd.R k114 114 w' w.heap.size (fun _ => True) v0_ r ∧ Below w.heap.size w w' := by
 have hu45 := Tryz.underlying45
 have hu114 := Tryz.underlying114
 have HR0 := Aside0.mk hr0
 have HC0 := Aside0.mk hc0
 clear hr0 hc0
 have HB := Aside0.mk (Below.refl w.heap.size w)
 have H : (ral.l0 k l0 ([] : List (S114)) 0) = some r := h
 clear h
 have H' := Aside0.mk H
 clear H
 go_enter Tryz.func31, Tryz.ntmps31
 go_wp2
 go_loopg [3, 4] k (fun kq v3 v4 w' => ∃ (x3_1 : List (S114)) (x4_1 : Int), v4 = .int .i64 x4_1 ∧ Aside0 (ral.l0 kq l0 x3_1 x4_1 = some r) ∧ Aside0 (kq ≤ k) ∧ Aside0 (Kd.R k114 114 w' w.heap.size (fun _ => True) v3 x3_1) ∧ Aside0 (Below w.heap.size w w'))
 case atStart => exact ⟨(([] : List (S114))), (0), (by first | rfl | (simp; done) | (simp [*]; done)), H', ⟨Nat.le_refl _⟩, ⟨by first | exact Kd.R_nil _ _ _ _ _ | exact Kd.N_nil _ _ _ _ _ | exact Kd.V_nil _ _ _ _ _ | exact Kd.Q_nil _ _ _ _ _ | exact Kd.S_nil _ _ _ _ _⟩, ⟨by repeat (first | (with_reducible first | exact HB.out | apply qad | apply qab | apply qac) | exact HB.out)⟩⟩
 case round =>
  clear H'
  obtain ⟨x3_1, x4_1, rfl, HA, HK1, HO_3, HB⟩ := hrel
  cases gk with
  | zero => exact absurd HA.out (by simp [ral.l0])
  | succ k1 =>
   have H := HA.out
   clear HA
   simp only [ral.l0] at H
   by_cases c2 : x4_1 < (l0.length : Int)
   ·
    rw [if_pos c2] at H
    have c2b0 : decide (x4_1 < (l0.length : Int)) = true := decide_eq_true c2
    clear c2
    by_cases c3 : 0 ≤ x4_1
    ·
     rw [if_pos c3] at H
     have c3b0 : decide (0 ≤ x4_1) = true := decide_eq_true c3
     clear c3
     by_cases c4 : x3_1.length < 2513169434916
     ·
      rw [if_pos c4] at H
      have LMc4 := Aside0.mk c4
      clear c4
      obtain ⟨y187, hy187⟩ : ∃ y_ : List (S114), y_ = (x3_1 ++ [(⟨(qae l0 x4_1).f0, (⟨(qae l0 x4_1).f1.f0, (qae l0 x4_1).f1.f1, (qae l0 x4_1).f1.f2, (⟨(qae l0 x4_1).f1.f3.f0, (qae l0 x4_1).f1.f3.f1⟩ : S43)⟩ : S45)⟩ : S114)]) := ⟨_, rfl⟩
      replace H : (ral.l0 k1 l0 y187 (wrap64 (x4_1 + 1))) = some r := by first | (rw [hy187]; with_reducible exact H) | (have H2_ := (Option.bind_some _ _).symm.trans H; rw [hy187]; with_reducible exact H2_) | (have H2_ := (Option.bind_some _ _).symm.trans H; with_reducible exact H2_) | with_reducible exact H | (rw [hy187]; exact H) | exact H
      have Ny187 := Aside0.mk hy187
      clear hy187
      have H' := Aside0.mk H
      clear H
      try go_wp2
      have n0_ := Aside0.mk (Kd.R_drew HO_3.out)
      have n1_ := Aside0.mk (qac HB.out)
      clear HO_3
      clear HB
      have HO_3 := n0_
      have HB := n1_
      clear n0_ n1_
      have p185 : 0 ≤ (x4_1 : Int) := of_decide_eq_true (by first | (with_reducible assumption) | assumption)
      have q185 : x4_1 < (l0.length : Int) := of_decide_eq_true (by first | (with_reducible assumption) | assumption)
      obtain ⟨ad185, e185, hx185_0, hx185_1, hx185_2, hx185_3, hx185_4, hx185_5⟩ := at_T57 HR0.out x4_1 p185 q185
      have hw185_5 := hx185_5
      have hw185_4 := hx185_4
      have hw185_3 := hx185_3
      have hw185_2 := hx185_2
      have hw185_1 := hx185_1
      have hw185_0 := hx185_0
      cases e185
      replace hx185_0 := (HB.out.cell (World.block_lt_of_cell? w _ hx185_0)).trans hx185_0
      replace hx185_1 := (HB.out.cell (World.block_lt_of_cell? w _ hx185_1)).trans hx185_1
      replace hx185_2 := (HB.out.cell (World.block_lt_of_cell? w _ hx185_2)).trans hx185_2
      replace hx185_3 := (HB.out.cell (World.block_lt_of_cell? w _ hx185_3)).trans hx185_3
      replace hx185_4 := (HB.out.cell (World.block_lt_of_cell? w _ hx185_4)).trans hx185_4
      replace hx185_5 := (HB.out.cell (World.block_lt_of_cell? w _ hx185_5)).trans hx185_5
      replace p185 := eq_true p185
      replace q185 := eq_true q185
      have p186 : 0 ≤ (x4_1 : Int) := of_decide_eq_true (by first | (with_reducible assumption) | assumption)
      have q186 : x4_1 < (l0.length : Int) := of_decide_eq_true (by first | (with_reducible assumption) | assumption)
      obtain ⟨ad186, e186, hx186_0, hx186_1, hx186_2, hx186_3, hx186_4, hx186_5⟩ := at_T57 HR0.out x4_1 p186 q186
      have hw186_5 := hx186_5
      have hw186_4 := hx186_4
      have hw186_3 := hx186_3
      have hw186_2 := hx186_2
      have hw186_1 := hx186_1
      have hw186_0 := hx186_0
      obtain rfl : ad185 = ad186 := (by injection e186)
      replace hx186_0 := (HB.out.cell (World.block_lt_of_cell? w _ hx186_0)).trans hx186_0
      replace hx186_1 := (HB.out.cell (World.block_lt_of_cell? w _ hx186_1)).trans hx186_1
      replace hx186_2 := (HB.out.cell (World.block_lt_of_cell? w _ hx186_2)).trans hx186_2
      replace hx186_3 := (HB.out.cell (World.block_lt_of_cell? w _ hx186_3)).trans hx186_3
      replace hx186_4 := (HB.out.cell (World.block_lt_of_cell? w _ hx186_4)).trans hx186_4
      replace hx186_5 := (HB.out.cell (World.block_lt_of_cell? w _ hx186_5)).trans hx186_5
      replace p186 := eq_true p186
      replace q186 := eq_true q186
      refine start_ (n := 15) (S := fun w' => w'.cell? (ad185.add ((x4_1).toNat * 6)) = some (.int .i64 ((qae l0 x4_1).f0)) ∧ w'.cell? ⟨(ad185.add ((x4_1).toNat * 6)).block, (ad185.add ((x4_1).toNat * 6)).off + 1, none⟩ = some (.int .i64 ((qae l0 x4_1).f1.f0)) ∧ w'.cell? ⟨(ad185.add ((x4_1).toNat * 6)).block, (ad185.add ((x4_1).toNat * 6)).off + 2, none⟩ = some (.int .i64 ((qae l0 x4_1).f1.f1)) ∧ w'.cell? ⟨(ad185.add ((x4_1).toNat * 6)).block, (ad185.add ((x4_1).toNat * 6)).off + 3, none⟩ = some (.string ((qae l0 x4_1).f1.f2)) ∧ w'.cell? ⟨(ad185.add ((x4_1).toNat * 6)).block, (ad185.add ((x4_1).toNat * 6)).off + 4, none⟩ = some (.int .i64 ((qae l0 x4_1).f1.f3.f0)) ∧ w'.cell? ⟨(ad185.add ((x4_1).toNat * 6)).block, (ad185.add ((x4_1).toNat * 6)).off + 5, none⟩ = some (.int .i64 ((qae l0 x4_1).f1.f3.f1)) ∧ w'.cell? (ad185.add ((x4_1).toNat * 6)) = some (.int .i64 ((qae l0 x4_1).f0)) ∧ w'.cell? ⟨(ad185.add ((x4_1).toNat * 6)).block, (ad185.add ((x4_1).toNat * 6)).off + 1, none⟩ = some (.int .i64 ((qae l0 x4_1).f1.f0)) ∧ w'.cell? ⟨(ad185.add ((x4_1).toNat * 6)).block, (ad185.add ((x4_1).toNat * 6)).off + 2, none⟩ = some (.int .i64 ((qae l0 x4_1).f1.f1)) ∧ w'.cell? ⟨(ad185.add ((x4_1).toNat * 6)).block, (ad185.add ((x4_1).toNat * 6)).off + 3, none⟩ = some (.string ((qae l0 x4_1).f1.f2)) ∧ w'.cell? ⟨(ad185.add ((x4_1).toNat * 6)).block, (ad185.add ((x4_1).toNat * 6)).off + 4, none⟩ = some (.int .i64 ((qae l0 x4_1).f1.f3.f0)) ∧ w'.cell? ⟨(ad185.add ((x4_1).toNat * 6)).block, (ad185.add ((x4_1).toNat * 6)).off + 5, none⟩ = some (.int .i64 ((qae l0 x4_1).f1.f3.f1))) (ds := []) #[false, false, false, false, false, false, false, false, false, false, false, false, false, false, false] (by kernel_rfl) rfl rfl ⟨((HB.out.cell (World.block_lt_of_cell? w _ hw185_0)).trans hw185_0), ((HB.out.cell (World.block_lt_of_cell? w _ hw185_1)).trans hw185_1), ((HB.out.cell (World.block_lt_of_cell? w _ hw185_2)).trans hw185_2), ((HB.out.cell (World.block_lt_of_cell? w _ hw185_3)).trans hw185_3), ((HB.out.cell (World.block_lt_of_cell? w _ hw185_4)).trans hw185_4), ((HB.out.cell (World.block_lt_of_cell? w _ hw185_5)).trans hw185_5), ((HB.out.cell (World.block_lt_of_cell? w _ hw186_0)).trans hw186_0), ((HB.out.cell (World.block_lt_of_cell? w _ hw186_1)).trans hw186_1), ((HB.out.cell (World.block_lt_of_cell? w _ hw186_2)).trans hw186_2), ((HB.out.cell (World.block_lt_of_cell? w _ hw186_3)).trans hw186_3), ((HB.out.cell (World.block_lt_of_cell? w _ hw186_4)).trans hw186_4), ((HB.out.cell (World.block_lt_of_cell? w _ hw186_5)).trans hw186_5)⟩ (fun hHeld => ?_); refine with_tabW ral.tab5 ral.bits5 (fun HT_ HW_ => ?_)
      generalize wr.drew = w5 at HO_3 HB hx185_0 hx185_1 hx185_2 hx185_3 hx185_4 hx185_5 hx186_0 hx186_1 hx186_2 hx186_3 hx186_4 hx186_5 hHeld ⊢
      refine qax (i := 0) (N := some 11) (v := ?_) (a' := ?_) #[true, false, false, false, false, false, false, false, false, false, false, false, false, false, false] rfl rfl (qar HT_.out (by kernel_rfl)) (fun _ _ _ h => h) (Or.inl ⟨by rfl, ?_⟩) ?_ ?_
      rotate_left
      ·
       intro w'
       go_simp
       with_reducible rfl
      rotate_left
      ·
       simp only [Act.put, sIa, sIz, sIs, qap, i32_w]
       rfl
      refine qax (i := 1) (N := some 12) (v := ?_) (a' := ?_) #[true, true, false, false, false, false, false, false, false, false, false, false, false, false, false] rfl rfl (qar HT_.out (by kernel_rfl)) (fun _ _ _ h => h) (Or.inl ⟨by rfl, ?_⟩) ?_ ?_
      rotate_left
      ·
       intro w'
       go_simp
       with_reducible rfl
      rotate_left
      ·
       simp only [Act.put, sIa, sIz, sIs, qap, i32_w]
       rfl
      refine qax (i := 2) (N := some 13) (v := ?_) (a' := ?_) #[true, true, true, false, false, false, false, false, false, false, false, false, false, false, false] rfl rfl (qar HT_.out (by kernel_rfl)) (fun _ _ _ h => h) (Or.inl ⟨by rfl, ?_⟩) ?_ ?_
      rotate_left
      ·
       intro w'
       go_simp
       with_reducible rfl
      rotate_left
      ·
       simp only [Act.put, sIa, sIz, sIs, qap, i32_w]
       rfl
      refine qax (i := 3) (N := some 14) (v := ?_) (a' := ?_) #[true, true, true, true, false, false, false, false, false, false, false, false, false, false, false] rfl rfl (qar HT_.out (by kernel_rfl)) (fun _ _ _ h => h) (Or.inl ⟨by rfl, ?_⟩) ?_ ?_
      rotate_left
      ·
       intro w'
       go_simp
       with_reducible rfl
      rotate_left
      ·
       simp only [Act.put, sIa, sIz, sIs, qap, i32_w]
       rfl
      refine qax (i := 4) (N := some 15) (v := ?_) (a' := ?_) #[true, true, true, true, true, false, false, false, false, false, false, false, false, false, false] rfl rfl (qar HT_.out (by kernel_rfl)) (fun _ _ _ h => h) (Or.inl ⟨by rfl, ?_⟩) ?_ ?_
      rotate_left
      ·
       intro w'
       go_simp
       with_reducible rfl
      rotate_left
      ·
       simp only [Act.put, sIa, sIz, sIs, qap, i32_w]
       rfl
      refine qax (i := 6) (N := some 17) (v := ?_) (a' := ?_) #[true, true, true, true, true, false, true, false, false, false, false, false, false, false, false] rfl rfl (qar HT_.out (by kernel_rfl)) (fun _ _ _ h => h) (Or.inl ⟨by rfl, ?_⟩) ?_ ?_
      rotate_left
      ·
       intro w'
       go_simp
       with_reducible rfl
      rotate_left
      ·
       simp only [Act.put, sIa, sIz, sIs, qap, i32_w]
       rfl
      refine qax (i := 7) (N := some 18) (v := ?_) (a' := ?_) #[true, true, true, true, true, false, true, true, false, false, false, false, false, false, false] rfl rfl (qar HT_.out (by kernel_rfl)) (fun _ _ _ h => h) (Or.inl ⟨by rfl, ?_⟩) ?_ ?_
      rotate_left
      ·
       intro w'
       go_simp
       with_reducible rfl
      rotate_left
      ·
       simp only [Act.put, sIa, sIz, sIs, qap, i32_w]
       rfl
      refine qax (i := 8) (N := some 19) (v := ?_) (a' := ?_) #[true, true, true, true, true, false, true, true, true, false, false, false, false, false, false] rfl rfl (qar HT_.out (by kernel_rfl)) (fun _ _ _ h => h) (Or.inl ⟨by rfl, ?_⟩) ?_ ?_
      rotate_left
      ·
       intro w'
       go_simp
       with_reducible rfl
      rotate_left
      ·
       simp only [Act.put, sIa, sIz, sIs, qap, i32_w]
       rfl
      refine qax (i := 9) (N := some 20) (v := ?_) (a' := ?_) #[true, true, true, true, true, false, true, true, true, true, false, false, false, false, false] rfl rfl (qar HT_.out (by kernel_rfl)) (fun _ _ _ h => h) (Or.inl ⟨by rfl, ?_⟩) ?_ ?_
      rotate_left
      ·
       intro w'
       go_simp
       with_reducible rfl
      rotate_left
      ·
       simp only [Act.put, sIa, sIz, sIs, qap, i32_w]
       rfl
      refine take_ (i := 5) (N := some 16) (v := ?_) (a' := ?_) #[true, true, true, true, true, true, true, true, true, true, false, false, false, false, false] rfl rfl (qbg HT_.out HW_.out (by kernel_rfl)) (fun _ _ _ h => h) (Or.inl ⟨by rfl, ?_⟩) hHeld ?_ ?_
      rotate_left
      ·
       rintro w' ⟨s0, s1, s2, s3, s4, s5, s6, s7, s8, s9, s10, s11⟩
       go_simp
       with_reducible rfl
      rotate_left
      ·
       simp only [Act.put, sIa, sIz, sIs, qap, i32_w]
       rfl
      refine take_ (i := 10) (N := some 21) (v := ?_) (a' := ?_) #[true, true, true, true, true, true, true, true, true, true, true, false, false, false, false] rfl rfl (qbg HT_.out HW_.out (by kernel_rfl)) (fun _ _ _ h => h) (Or.inl ⟨by rfl, ?_⟩) hHeld ?_ ?_
      rotate_left
      ·
       rintro w' ⟨s0, s1, s2, s3, s4, s5, s6, s7, s8, s9, s10, s11⟩
       go_simp
       with_reducible rfl
      rotate_left
      ·
       simp only [Act.put, sIa, sIz, sIs, qap, i32_w]
       rfl
      refine qax (i := 11) (N := some 22) (v := ?_) (a' := ?_) #[true, true, true, true, true, true, true, true, true, true, true, true, false, false, false] rfl rfl (qar HT_.out (by kernel_rfl)) (fun _ _ _ h => h) (Or.inl ⟨by rfl, ?_⟩) ?_ ?_
      rotate_left
      ·
       intro w'
       go_simp
       with_reducible rfl
      rotate_left
      ·
       simp only [Act.put, sIa, sIz, sIs, qap, i32_w]
       rfl
      refine one_ (i := 12) (N := some 23) #[true, true, true, true, true, true, true, true, true, true, true, true, true, false, false] rfl rfl (one_of HT_.out (by kernel_rfl)) (by decide) (fun K hK => ?_)
      refine value_ (w1 := ?_) (v := ?_) (by rfl) rfl ?_ ?_
      rotate_left 2
      ·
       go_simp
       constructor
       ·
        rfl
       ·
        rfl
      refine hK.out _ _ ⟨(World.cell?_alloc_lt _ _ _ (World.block_lt_of_cell? _ _ (((HB.out.cell (World.block_lt_of_cell? w _ hw185_0)).trans hw185_0)))).trans (((HB.out.cell (World.block_lt_of_cell? w _ hw185_0)).trans hw185_0)), (World.cell?_alloc_lt _ _ _ (World.block_lt_of_cell? _ _ (((HB.out.cell (World.block_lt_of_cell? w _ hw185_1)).trans hw185_1)))).trans (((HB.out.cell (World.block_lt_of_cell? w _ hw185_1)).trans hw185_1)), (World.cell?_alloc_lt _ _ _ (World.block_lt_of_cell? _ _ (((HB.out.cell (World.block_lt_of_cell? w _ hw185_2)).trans hw185_2)))).trans (((HB.out.cell (World.block_lt_of_cell? w _ hw185_2)).trans hw185_2)), (World.cell?_alloc_lt _ _ _ (World.block_lt_of_cell? _ _ (((HB.out.cell (World.block_lt_of_cell? w _ hw185_3)).trans hw185_3)))).trans (((HB.out.cell (World.block_lt_of_cell? w _ hw185_3)).trans hw185_3)), (World.cell?_alloc_lt _ _ _ (World.block_lt_of_cell? _ _ (((HB.out.cell (World.block_lt_of_cell? w _ hw185_4)).trans hw185_4)))).trans (((HB.out.cell (World.block_lt_of_cell? w _ hw185_4)).trans hw185_4)), (World.cell?_alloc_lt _ _ _ (World.block_lt_of_cell? _ _ (((HB.out.cell (World.block_lt_of_cell? w _ hw185_5)).trans hw185_5)))).trans (((HB.out.cell (World.block_lt_of_cell? w _ hw185_5)).trans hw185_5)), (World.cell?_alloc_lt _ _ _ (World.block_lt_of_cell? _ _ (((HB.out.cell (World.block_lt_of_cell? w _ hw186_0)).trans hw186_0)))).trans (((HB.out.cell (World.block_lt_of_cell? w _ hw186_0)).trans hw186_0)), (World.cell?_alloc_lt _ _ _ (World.block_lt_of_cell? _ _ (((HB.out.cell (World.block_lt_of_cell? w _ hw186_1)).trans hw186_1)))).trans (((HB.out.cell (World.block_lt_of_cell? w _ hw186_1)).trans hw186_1)), (World.cell?_alloc_lt _ _ _ (World.block_lt_of_cell? _ _ (((HB.out.cell (World.block_lt_of_cell? w _ hw186_2)).trans hw186_2)))).trans (((HB.out.cell (World.block_lt_of_cell? w _ hw186_2)).trans hw186_2)), (World.cell?_alloc_lt _ _ _ (World.block_lt_of_cell? _ _ (((HB.out.cell (World.block_lt_of_cell? w _ hw186_3)).trans hw186_3)))).trans (((HB.out.cell (World.block_lt_of_cell? w _ hw186_3)).trans hw186_3)), (World.cell?_alloc_lt _ _ _ (World.block_lt_of_cell? _ _ (((HB.out.cell (World.block_lt_of_cell? w _ hw186_4)).trans hw186_4)))).trans (((HB.out.cell (World.block_lt_of_cell? w _ hw186_4)).trans hw186_4)), (World.cell?_alloc_lt _ _ _ (World.block_lt_of_cell? _ _ (((HB.out.cell (World.block_lt_of_cell? w _ hw186_5)).trans hw186_5)))).trans (((HB.out.cell (World.block_lt_of_cell? w _ hw186_5)).trans hw186_5))⟩ (fun hHeld => ?_)
      clear hK K
      refine norm_ (a' := ?_) ?_ ?_
      rotate_left
      ·
       show Act.put _ (some 23) _ = _
       simp only [Act.put, sIa, sIz, sIs, qap, i32_w]
       rfl
      refine one_ (i := 13) (N := some 24) #[true, true, true, true, true, true, true, true, true, true, true, true, true, true, false] rfl rfl (one_of HT_.out (by kernel_rfl)) (by decide) (fun K hK => ?_)
      refine Kd.R_append_step k114 (w0 := w) w.heap.size (by rfl) (.tmp 11) (.tmp 23) 30 114 (.agg #[(.int .i64 0), (.int .i64 0), (.int .i64 0), (.string ⟨#[]⟩), (.int .i64 0), (.int .i64 0)]) 56 rfl Tryz.underlying30 info114 rfl (by decide) (by omega) u3 x3_1 (⟨(qae l0 x4_1).f0, (⟨(qae l0 x4_1).f1.f0, (qae l0 x4_1).f1.f1, (qae l0 x4_1).f1.f2, (⟨(qae l0 x4_1).f1.f3.f0, (qae l0 x4_1).f1.f3.f1⟩ : S43)⟩ : S45)⟩ : S114) [.int .i64 ((qae l0 x4_1).f0), .int .i64 ((qae l0 x4_1).f1.f0), .int .i64 ((qae l0 x4_1).f1.f1), .string ((qae l0 x4_1).f1.f2), .int .i64 ((qae l0 x4_1).f1.f3.f0), .int .i64 ((qae l0 x4_1).f1.f3.f1)] (fun _ => True) (fun _ => False) rfl rfl ?aP (fun _ hk => hk.elim) ?aF ?aO ?aB ?aS ?aL ?_
      (case aP => exact k114_mkM _ _ _ (⟨(qae l0 x4_1).f0, (⟨(qae l0 x4_1).f1.f0, (qae l0 x4_1).f1.f1, (qae l0 x4_1).f1.f2, (⟨(qae l0 x4_1).f1.f3.f0, (qae l0 x4_1).f1.f3.f1⟩ : S43)⟩ : S45)⟩ : S114))
      (case aB => exact (by repeat (first | (with_reducible first | exact HB.out | apply qad | apply qab | apply qac) | exact HB.out)))
      (case aF => exact (fun _ _ => trivial))
      (case aO => exact (by (with_reducible repeat (first | apply Kd.R_alloc | apply Kd.R_drewN | apply Kd.R_drew)); exact HO_3.out))
      (case aS => exact (qaj (by repeat (first | (with_reducible first | exact HB.out | apply qad | apply qab | apply qac) | exact HB.out))))
      (case aL => have := LMc4.out; omega)
      intro v188 w6 ho hb hg hat
      rw [← Ny187.out] at ho
      have n0_ := Aside0.mk (hb)
      have n1_ := Aside0.mk (ho)
      clear HB
      clear HO_3
      have HB := n0_
      have HO189 := n1_
      clear n0_ n1_
      clear ho hb hg hat
      refine hK.out _ _ ⟨((HB.out.cell (World.block_lt_of_cell? w _ hw185_0)).trans hw185_0), ((HB.out.cell (World.block_lt_of_cell? w _ hw185_1)).trans hw185_1), ((HB.out.cell (World.block_lt_of_cell? w _ hw185_2)).trans hw185_2), ((HB.out.cell (World.block_lt_of_cell? w _ hw185_3)).trans hw185_3), ((HB.out.cell (World.block_lt_of_cell? w _ hw185_4)).trans hw185_4), ((HB.out.cell (World.block_lt_of_cell? w _ hw185_5)).trans hw185_5), ((HB.out.cell (World.block_lt_of_cell? w _ hw186_0)).trans hw186_0), ((HB.out.cell (World.block_lt_of_cell? w _ hw186_1)).trans hw186_1), ((HB.out.cell (World.block_lt_of_cell? w _ hw186_2)).trans hw186_2), ((HB.out.cell (World.block_lt_of_cell? w _ hw186_3)).trans hw186_3), ((HB.out.cell (World.block_lt_of_cell? w _ hw186_4)).trans hw186_4), ((HB.out.cell (World.block_lt_of_cell? w _ hw186_5)).trans hw186_5)⟩ (fun hHeld => ?_)
      clear hK K
      refine norm_ (a' := ?_) ?_ ?_
      rotate_left
      ·
       show Act.put _ (some 24) _ = _
       simp only [Act.put, sIa, sIz, sIs, qap, i32_w]
       rfl
      refine qax (i := 14) (N := some 3) (v := ?_) (a' := ?_) #[true, true, true, true, true, true, true, true, true, true, true, true, true, true, true] rfl rfl (qar HT_.out (by kernel_rfl)) (fun _ _ _ h => h) (Or.inl ⟨by rfl, ?_⟩) ?_ ?_
      rotate_left
      ·
       intro w'
       go_simp
       with_reducible rfl
      rotate_left
      ·
       simp only [Act.put, sIa, sIz, sIs, qap, i32_w]
       rfl
      refine done_ (done_of HT_.out (by kernel_rfl)) ?_
      try go_wp2
      go_roundg k1
      case measure => have := HK1.out; omega
      case rel => exact ⟨(y187), (wrap64 (x4_1 + 1)), (by first | rfl | (simp; done) | (simp [*]; done)), H', ⟨by have := HK1.out; omega⟩, ⟨by (with_reducible repeat (first | apply Kd.R_alloc | apply Kd.R_drewN | apply Kd.R_drew)); exact HO189.out⟩, ⟨by repeat (first | (with_reducible first | exact HB.out | apply qad | apply qab | apply qac) | exact HB.out)⟩⟩
     ·
      rw [if_neg c4] at H
      exact absurd H (by simp)
    ·
     rw [if_neg c3] at H
     exact absurd H (by simp)
   ·
    rw [if_neg c2] at H
    have c2b0 : decide (x4_1 < (l0.length : Int)) = false := decide_eq_false c2
    clear c2
    obtain rfl := Option.some.inj H
    go_wp2
    go_ret
    exact ⟨_, by first | rfl | (simp [*] <;> rfl), by (with_reducible repeat (first | apply Kd.R_alloc | apply Kd.R_drewN | apply Kd.R_drew)); exact HO_3.out, by repeat (first | (with_reducible first | exact HB.out | apply qad | apply qab | apply qac) | exact HB.out)⟩
def ras.f (k : Nat) (a0_0 : ByteArray) (a0_1 : Int) (a0_2 : Int) (a0_3 : Int) (a0_4 : Int) (a0_5 : Int) (l0_6 : List (S57)) (l0_7 : List (S57)) (l0_8 : List (S57)) (a0_9 : ByteArray) (a0_10 : Bool) : Option (ByteArray × Int × Int × Int × Int × Int × (List (S114)) × (List (S114)) × (List (S114)) × ByteArray × Bool) := (ral.f k l0_6).bind fun t192 => ((ral.f k l0_7).bind fun t195 => ((ral.f k l0_8).bind fun t198 => (some (a0_0, a0_1, a0_2, a0_3, a0_4, a0_5, t192, t195, t198, a0_9, a0_10))))
def ras.T1 : Bool × List (List Nat × List Nat) := (true, [([], []), ([0], [0]), ([], []), ([2], [2]), ([], []), ([4], [4]), ([], []), ([6], [6]), ([], []), ([8], [8]), ([], []), ([10], [10]), ([], []), ([12], [12]), ([13], [13]), ([], []), ([15], [15]), ([16, 14], [16]), ([], []), ([18], [18]), ([19, 17], [19]), ([], []), ([21], [21]), ([], []), ([23], [23]), ([1, 3, 5, 7, 9, 11, 14, 17, 20, 22, 24], [1, 3, 5, 7, 9, 11, 14, 17, 20, 22, 24]), ([25, 20, 0, 1, 2, 3, 4, 5, 6, 7, 8, 9, 10, 11, 12, 13, 14, 15, 16, 17, 18, 19, 20, 21, 22, 23, 24, 25], [25])])
def ras.B1 : List Nat := [0, 1, 0, 4, 0, 16, 0, 64, 0, 256, 0, 1024, 0, 4096, 12288, 0, 32768, 126976, 0, 262144, 1044480, 0, 2097152, 0, 8388608, 33554431, 67108863]
theorem ras.tab1 : rtab .any (opsOf Tryz.f12 1) = ras.T1 := by kernel_rfl
theorem ras.bits1 : waitsOk ras.T1.2 ras.B1 = true := by kernel_rfl
set_option maxHeartbeats 8000000 in
set_option maxRecDepth 100000 in
theorem ras.calls (k : Nat) (a0_0 : ByteArray) (a0_1 : Int) (a0_2 : Int) (a0_3 : Int) (a0_4 : Int) (a0_5 : Int) (A0_6 : Option Addr) (c0_6 : Nat) (l0_6 : List (S57)) (A0_7 : Option Addr) (c0_7 : Nat) (l0_7 : List (S57)) (A0_8 : Option Addr) (c0_8 : Nat) (l0_8 : List (S57)) (a0_9 : ByteArray) (a0_10 : Bool) (r1 : ByteArray) (r2 : Int) (r3 : Int) (r4 : Int) (r5 : Int) (r6 : Int) (r7 : List (S114)) (r8 : List (S114)) (r9 : List (S114)) (r10 : ByteArray) (r11 : Bool) (w : World) (hr0_6 : Kd.C k57 w A0_6 l0_6.length l0_6) (hc0_6 : l0_6.length ≤ c0_6) (hr0_7 : Kd.C k57 w A0_7 l0_7.length l0_7) (hc0_7 : l0_7.length ≤ c0_7) (hr0_8 : Kd.C k57 w A0_8 l0_8.length l0_8) (hc0_8 : l0_8.length ≤ c0_8) (h : ras.f k a0_0 a0_1 a0_2 a0_3 a0_4 a0_5 l0_6 l0_7 l0_8 a0_9 a0_10 = some (r1, r2, r3, r4, r5, r6, r7, r8, r9, r10, r11)) :
  Calls Tryz.prog 12 #[.agg #[.string a0_0, .int .i64 a0_1, .int .i64 a0_2, .int .i64 a0_3, .int .i64 a0_4, .int .i64 a0_5, .slice A0_6 l0_6.length c0_6, .slice A0_7 l0_7.length c0_7, .slice A0_8 l0_8.length c0_8, .string a0_9, .bool a0_10]] w fun e w' => ∃ v6_ v7_ v8_ : Value, e = .returned (.agg #[.string r1, .int .i64 r2, .int .i64 r3, .int .i64 r4, .int .i64 r5, .int .i64 r6, v6_, v7_, v8_, .string r10, .bool r11]) ∧ Kd.R k114 114 w' w.heap.size (fun k_ => some k_ ≠ (v7_ : Value).ownBlock ∧ some k_ ≠ (v8_ : Value).ownBlock) v6_ r7 ∧ Kd.R k114 114 w' w.heap.size (fun k_ => some k_ ≠ (v6_ : Value).ownBlock ∧ some k_ ≠ (v8_ : Value).ownBlock) v7_ r8 ∧ Kd.R k114 114 w' w.heap.size (fun k_ => some k_ ≠ (v6_ : Value).ownBlock ∧ some k_ ≠ (v7_ : Value).ownBlock) v8_ r9 ∧ Below w.heap.size w w' := by
 have hu24 := Tryz.underlying24
 have hu32 := Tryz.underlying32
 have HR0_6 := Aside0.mk hr0_6
 have HC0_6 := Aside0.mk hc0_6
 clear hr0_6 hc0_6
 have HR0_7 := Aside0.mk hr0_7
 have HC0_7 := Aside0.mk hc0_7
 clear hr0_7 hc0_7
 have HR0_8 := Aside0.mk hr0_8
 have HC0_8 := Aside0.mk hc0_8
 clear hr0_8 hc0_8
 have HB := Aside0.mk (Below.refl w.heap.size w)
 have H : ((ral.f k l0_6).bind fun t192 => ((ral.f k l0_7).bind fun t195 => ((ral.f k l0_8).bind fun t198 => (some (a0_0, a0_1, a0_2, a0_3, a0_4, a0_5, t192, t195, t198, a0_9, a0_10))))) = some (r1, r2, r3, r4, r5, r6, r7, r8, r9, r10, r11) := h
 clear h
 replace H := Option.bind_eq_some_iff.mp H
 obtain ⟨t192, A20, H⟩ := H
 replace H : ((ral.f k l0_7).bind fun t195 => ((ral.f k l0_8).bind fun t198 => (some (a0_0, a0_1, a0_2, a0_3, a0_4, a0_5, t192, t195, t198, a0_9, a0_10)))) = some (r1, r2, r3, r4, r5, r6, r7, r8, r9, r10, r11) := H
 have A2 := Aside0.mk A20
 clear A20
 replace H := Option.bind_eq_some_iff.mp H
 obtain ⟨t195, A30, H⟩ := H
 replace H : ((ral.f k l0_8).bind fun t198 => (some (a0_0, a0_1, a0_2, a0_3, a0_4, a0_5, t192, t195, t198, a0_9, a0_10))) = some (r1, r2, r3, r4, r5, r6, r7, r8, r9, r10, r11) := H
 have A3 := Aside0.mk A30
 clear A30
 replace H := Option.bind_eq_some_iff.mp H
 obtain ⟨t198, A40, H⟩ := H
 replace H : (some (a0_0, a0_1, a0_2, a0_3, a0_4, a0_5, t192, t195, t198, a0_9, a0_10)) = some (r1, r2, r3, r4, r5, r6, r7, r8, r9, r10, r11) := H
 have A4 := Aside0.mk A40
 clear A40
 simp only [Option.some.injEq, Prod.mk.injEq] at H
 obtain ⟨rfl, rfl, rfl, rfl, rfl, rfl, rfl, rfl, rfl, rfl, rfl⟩ := H
 go_enter Tryz.func12, Tryz.ntmps12
 try go_wp2_with (first | ((with_reducible refine qav (N := 1) rfl ?_); refine qau ?hg (N := 1) ?hd (cs := #[.string a0_0, .int .i64 a0_1, .int .i64 a0_2, .int .i64 a0_3, .int .i64 a0_4, .int .i64 a0_5, .slice A0_6 l0_6.length c0_6, .slice A0_7 l0_7.length c0_7, .slice A0_8 l0_8.length c0_8, .string a0_9, .bool a0_10]) (t := 24) ?hr ?_; (case hd => rfl); (case hg => rfl); (case hr => first | (go_simp; done) | (go_simp; rfl)); intro gb190 hg w5 hbox hb; have n0_ := Aside0.mk (qah (by repeat (first | (with_reducible first | exact HB.out | apply qad | apply qab | apply qac) | exact HB.out)) hb); have n1_ := Aside0.mk (hbox); have n2_ := Aside0.mk ((by rw [hg]; exact (qaj (by repeat (first | (with_reducible first | exact HB.out | apply qad | apply qab | apply qac) | exact HB.out))) : w.heap.size ≤ gb190)); have n3_ := Aside0.mk ((by rw [hg]; exact (qaj (by repeat (first | (with_reducible first | exact HB.out | apply qad | apply qab | apply qac) | exact HB.out))) : w.heap.size ≤ gb190)); clear HB; have HB := n0_; have BK190 := n1_; have GW190 := n2_; have GE190 := n3_; clear n0_ n1_ n2_ n3_; clear hb hbox hg) | ((with_reducible refine qav (N := 2) rfl ?_); refine qau ?hg (N := 2) ?hd (cs := #[.string (⟨#[]⟩ : ByteArray), .int .i64 0, .int .i64 0, .int .i64 0, .int .i64 0, .int .i64 0, .slice none 0 0, .slice none 0 0, .slice none 0 0, .string (⟨#[]⟩ : ByteArray), .bool false]) (t := 32) ?hr ?_; (case hd => rfl); (case hg => rfl); (case hr => first | (go_simp; done) | (go_simp; rfl)); intro gb191 hg w6 hbox hb; have n0_ := Aside0.mk (qan (g := gb190) (o := .cells #[.string a0_0, .int .i64 a0_1, .int .i64 a0_2, .int .i64 a0_3, .int .i64 a0_4, .int .i64 a0_5, .slice A0_6 l0_6.length c0_6, .slice A0_7 l0_7.length c0_7, .slice A0_8 l0_8.length c0_8, .string a0_9, .bool a0_10] 24 (0, 0)) (by (with_reducible repeat (first | refine qag ?_ _ | refine qai ?_ | refine blk_alloc ?_ _)); exact BK190.out) hb); have n1_ := Aside0.mk (qah (by repeat (first | (with_reducible first | exact HB.out | apply qad | apply qab | apply qac | refine qaf ?_ GE190.out) | exact HB.out)) hb); have n2_ := Aside0.mk (hbox); have n3_ := Aside0.mk ((by rw [hg]; exact (qaj (by repeat (first | (with_reducible first | exact HB.out | apply qad | apply qab | apply qac | refine qaf ?_ GE190.out) | exact HB.out))) : w.heap.size ≤ gb191)); have n4_ := Aside0.mk ((by rw [hg]; exact (qaj (by repeat (first | (with_reducible first | exact HB.out | apply qad | apply qab | apply qac | refine qaf ?_ GE190.out) | exact HB.out))) : w.heap.size ≤ gb191)); have n5_ := Aside0.mk ((by rw [hg]; exact Nat.ne_of_lt (blk_lt (g := gb190) (o := .cells #[.string a0_0, .int .i64 a0_1, .int .i64 a0_2, .int .i64 a0_3, .int .i64 a0_4, .int .i64 a0_5, .slice A0_6 l0_6.length c0_6, .slice A0_7 l0_7.length c0_7, .slice A0_8 l0_8.length c0_8, .string a0_9, .bool a0_10] 24 (0, 0)) (by (with_reducible repeat (first | refine qag ?_ _ | refine qai ?_ | refine blk_alloc ?_ _)); exact BK190.out)) : gb190 ≠ gb191)); have n6_ := Aside0.mk ((by rw [hg]; exact Nat.ne_of_gt (blk_lt (g := gb190) (o := .cells #[.string a0_0, .int .i64 a0_1, .int .i64 a0_2, .int .i64 a0_3, .int .i64 a0_4, .int .i64 a0_5, .slice A0_6 l0_6.length c0_6, .slice A0_7 l0_7.length c0_7, .slice A0_8 l0_8.length c0_8, .string a0_9, .bool a0_10] 24 (0, 0)) (by (with_reducible repeat (first | refine qag ?_ _ | refine qai ?_ | refine blk_alloc ?_ _)); exact BK190.out)) : gb191 ≠ gb190)); clear BK190; clear HB; have BK190 := n0_; have HB := n1_; have BK191 := n2_; have GW191 := n3_; have GE191 := n4_; have NB190_191 := n5_; have NB191_190 := n6_; clear n0_ n1_ n2_ n3_ n4_ n5_ n6_; clear hb hbox hg))
 have n0_ := Aside0.mk (qai BK190.out)
 have n1_ := Aside0.mk (qai BK191.out)
 have n2_ := Aside0.mk (qac HB.out)
 clear BK190
 clear BK191
 clear HB
 have BK190 := n0_
 have BK191 := n1_
 have HB := n2_
 clear n0_ n1_ n2_
 refine start_ (n := 27) (S := fun w' => w'.cell? ⟨gb190, 0, none⟩ = some (.string a0_0) ∧ w'.cell? ⟨gb190, 1, none⟩ = some (.int .i64 a0_1) ∧ w'.cell? ⟨gb190, 2, none⟩ = some (.int .i64 a0_2) ∧ w'.cell? ⟨gb190, 3, none⟩ = some (.int .i64 a0_3) ∧ w'.cell? ⟨gb190, 4, none⟩ = some (.int .i64 a0_4) ∧ w'.cell? ⟨gb190, 5, none⟩ = some (.int .i64 a0_5) ∧ w'.cell? ⟨gb190, 6, none⟩ = some (.slice A0_6 l0_6.length c0_6) ∧ w'.cell? ⟨gb190, 7, none⟩ = some (.slice A0_7 l0_7.length c0_7) ∧ w'.cell? ⟨gb190, 8, none⟩ = some (.slice A0_8 l0_8.length c0_8) ∧ w'.cell? ⟨gb190, 9, none⟩ = some (.string a0_9) ∧ w'.cell? ⟨gb190, 10, none⟩ = some (.bool a0_10)) (ds := []) #[false, false, false, false, false, false, false, false, false, false, false, false, false, false, false, false, false, false, false, false, false, false, false, false, false, false, false] (by kernel_rfl) rfl rfl ⟨(qak BK190.out 0).trans rfl, (qak BK190.out 1).trans rfl, (qak BK190.out 2).trans rfl, (qak BK190.out 3).trans rfl, (qak BK190.out 4).trans rfl, (qak BK190.out 5).trans rfl, (qak BK190.out 6).trans rfl, (qak BK190.out 7).trans rfl, (qak BK190.out 8).trans rfl, (qak BK190.out 9).trans rfl, (qak BK190.out 10).trans rfl⟩ (fun hHeld => ?_); refine with_tabW ras.tab1 ras.bits1 (fun HT_ HW_ => ?_)
 generalize w6.drew = w7 at BK190 BK191 HB hHeld ⊢
 refine qax (i := 0) (N := some 3) (v := ?_) (a' := ?_) #[true, false, false, false, false, false, false, false, false, false, false, false, false, false, false, false, false, false, false, false, false, false, false, false, false, false, false] rfl rfl (qar HT_.out (by kernel_rfl)) (fun _ _ _ h => h) (Or.inl ⟨by rfl, ?_⟩) ?_ ?_
 rotate_left
 ·
  intro w'
  go_simp
  with_reducible rfl
 rotate_left
 ·
  simp only [Act.put, sIa, sIz, sIs, qap, i32_w]
  rfl
 refine qax (i := 2) (N := some 5) (v := ?_) (a' := ?_) #[true, false, true, false, false, false, false, false, false, false, false, false, false, false, false, false, false, false, false, false, false, false, false, false, false, false, false] rfl rfl (qar HT_.out (by kernel_rfl)) (fun _ _ _ h => h) (Or.inl ⟨by rfl, ?_⟩) ?_ ?_
 rotate_left
 ·
  intro w'
  go_simp
  with_reducible rfl
 rotate_left
 ·
  simp only [Act.put, sIa, sIz, sIs, qap, i32_w]
  rfl
 refine qax (i := 4) (N := some 7) (v := ?_) (a' := ?_) #[true, false, true, false, true, false, false, false, false, false, false, false, false, false, false, false, false, false, false, false, false, false, false, false, false, false, false] rfl rfl (qar HT_.out (by kernel_rfl)) (fun _ _ _ h => h) (Or.inl ⟨by rfl, ?_⟩) ?_ ?_
 rotate_left
 ·
  intro w'
  go_simp
  with_reducible rfl
 rotate_left
 ·
  simp only [Act.put, sIa, sIz, sIs, qap, i32_w]
  rfl
 refine qax (i := 6) (N := some 9) (v := ?_) (a' := ?_) #[true, false, true, false, true, false, true, false, false, false, false, false, false, false, false, false, false, false, false, false, false, false, false, false, false, false, false] rfl rfl (qar HT_.out (by kernel_rfl)) (fun _ _ _ h => h) (Or.inl ⟨by rfl, ?_⟩) ?_ ?_
 rotate_left
 ·
  intro w'
  go_simp
  with_reducible rfl
 rotate_left
 ·
  simp only [Act.put, sIa, sIz, sIs, qap, i32_w]
  rfl
 refine qax (i := 8) (N := some 11) (v := ?_) (a' := ?_) #[true, false, true, false, true, false, true, false, true, false, false, false, false, false, false, false, false, false, false, false, false, false, false, false, false, false, false] rfl rfl (qar HT_.out (by kernel_rfl)) (fun _ _ _ h => h) (Or.inl ⟨by rfl, ?_⟩) ?_ ?_
 rotate_left
 ·
  intro w'
  go_simp
  with_reducible rfl
 rotate_left
 ·
  simp only [Act.put, sIa, sIz, sIs, qap, i32_w]
  rfl
 refine qax (i := 10) (N := some 13) (v := ?_) (a' := ?_) #[true, false, true, false, true, false, true, false, true, false, true, false, false, false, false, false, false, false, false, false, false, false, false, false, false, false, false] rfl rfl (qar HT_.out (by kernel_rfl)) (fun _ _ _ h => h) (Or.inl ⟨by rfl, ?_⟩) ?_ ?_
 rotate_left
 ·
  intro w'
  go_simp
  with_reducible rfl
 rotate_left
 ·
  simp only [Act.put, sIa, sIz, sIs, qap, i32_w]
  rfl
 refine qax (i := 12) (N := some 15) (v := ?_) (a' := ?_) #[true, false, true, false, true, false, true, false, true, false, true, false, true, false, false, false, false, false, false, false, false, false, false, false, false, false, false] rfl rfl (qar HT_.out (by kernel_rfl)) (fun _ _ _ h => h) (Or.inl ⟨by rfl, ?_⟩) ?_ ?_
 rotate_left
 ·
  intro w'
  go_simp
  with_reducible rfl
 rotate_left
 ·
  simp only [Act.put, sIa, sIz, sIs, qap, i32_w]
  rfl
 refine qax (i := 15) (N := some 18) (v := ?_) (a' := ?_) #[true, false, true, false, true, false, true, false, true, false, true, false, true, false, false, true, false, false, false, false, false, false, false, false, false, false, false] rfl rfl (qar HT_.out (by kernel_rfl)) (fun _ _ _ h => h) (Or.inl ⟨by rfl, ?_⟩) ?_ ?_
 rotate_left
 ·
  intro w'
  go_simp
  with_reducible rfl
 rotate_left
 ·
  simp only [Act.put, sIa, sIz, sIs, qap, i32_w]
  rfl
 refine qax (i := 18) (N := some 21) (v := ?_) (a' := ?_) #[true, false, true, false, true, false, true, false, true, false, true, false, true, false, false, true, false, false, true, false, false, false, false, false, false, false, false] rfl rfl (qar HT_.out (by kernel_rfl)) (fun _ _ _ h => h) (Or.inl ⟨by rfl, ?_⟩) ?_ ?_
 rotate_left
 ·
  intro w'
  go_simp
  with_reducible rfl
 rotate_left
 ·
  simp only [Act.put, sIa, sIz, sIs, qap, i32_w]
  rfl
 refine qax (i := 21) (N := some 24) (v := ?_) (a' := ?_) #[true, false, true, false, true, false, true, false, true, false, true, false, true, false, false, true, false, false, true, false, false, true, false, false, false, false, false] rfl rfl (qar HT_.out (by kernel_rfl)) (fun _ _ _ h => h) (Or.inl ⟨by rfl, ?_⟩) ?_ ?_
 rotate_left
 ·
  intro w'
  go_simp
  with_reducible rfl
 rotate_left
 ·
  simp only [Act.put, sIa, sIz, sIs, qap, i32_w]
  rfl
 refine qax (i := 23) (N := some 26) (v := ?_) (a' := ?_) #[true, false, true, false, true, false, true, false, true, false, true, false, true, false, false, true, false, false, true, false, false, true, false, true, false, false, false] rfl rfl (qar HT_.out (by kernel_rfl)) (fun _ _ _ h => h) (Or.inl ⟨by rfl, ?_⟩) ?_ ?_
 rotate_left
 ·
  intro w'
  go_simp
  with_reducible rfl
 rotate_left
 ·
  simp only [Act.put, sIa, sIz, sIs, qap, i32_w]
  rfl
 refine take_ (i := 1) (N := some 4) (v := ?_) (a' := ?_) #[true, true, true, false, true, false, true, false, true, false, true, false, true, false, false, true, false, false, true, false, false, true, false, true, false, false, false] rfl rfl (qbg HT_.out HW_.out (by kernel_rfl)) (fun _ _ _ h => h) (Or.inl ⟨by rfl, ?_⟩) hHeld ?_ ?_
 rotate_left
 ·
  rintro w' ⟨s0, s1, s2, s3, s4, s5, s6, s7, s8, s9, s10⟩
  go_simp
  with_reducible rfl
 rotate_left
 ·
  simp only [Act.put, sIa, sIz, sIs, qap, i32_w]
  rfl
 refine take_ (i := 3) (N := some 6) (v := ?_) (a' := ?_) #[true, true, true, true, true, false, true, false, true, false, true, false, true, false, false, true, false, false, true, false, false, true, false, true, false, false, false] rfl rfl (qbg HT_.out HW_.out (by kernel_rfl)) (fun _ _ _ h => h) (Or.inl ⟨by rfl, ?_⟩) hHeld ?_ ?_
 rotate_left
 ·
  rintro w' ⟨s0, s1, s2, s3, s4, s5, s6, s7, s8, s9, s10⟩
  go_simp
  with_reducible rfl
 rotate_left
 ·
  simp only [Act.put, sIa, sIz, sIs, qap, i32_w]
  rfl
 refine take_ (i := 5) (N := some 8) (v := ?_) (a' := ?_) #[true, true, true, true, true, true, true, false, true, false, true, false, true, false, false, true, false, false, true, false, false, true, false, true, false, false, false] rfl rfl (qbg HT_.out HW_.out (by kernel_rfl)) (fun _ _ _ h => h) (Or.inl ⟨by rfl, ?_⟩) hHeld ?_ ?_
 rotate_left
 ·
  rintro w' ⟨s0, s1, s2, s3, s4, s5, s6, s7, s8, s9, s10⟩
  go_simp
  with_reducible rfl
 rotate_left
 ·
  simp only [Act.put, sIa, sIz, sIs, qap, i32_w]
  rfl
 refine take_ (i := 7) (N := some 10) (v := ?_) (a' := ?_) #[true, true, true, true, true, true, true, true, true, false, true, false, true, false, false, true, false, false, true, false, false, true, false, true, false, false, false] rfl rfl (qbg HT_.out HW_.out (by kernel_rfl)) (fun _ _ _ h => h) (Or.inl ⟨by rfl, ?_⟩) hHeld ?_ ?_
 rotate_left
 ·
  rintro w' ⟨s0, s1, s2, s3, s4, s5, s6, s7, s8, s9, s10⟩
  go_simp
  with_reducible rfl
 rotate_left
 ·
  simp only [Act.put, sIa, sIz, sIs, qap, i32_w]
  rfl
 refine take_ (i := 9) (N := some 12) (v := ?_) (a' := ?_) #[true, true, true, true, true, true, true, true, true, true, true, false, true, false, false, true, false, false, true, false, false, true, false, true, false, false, false] rfl rfl (qbg HT_.out HW_.out (by kernel_rfl)) (fun _ _ _ h => h) (Or.inl ⟨by rfl, ?_⟩) hHeld ?_ ?_
 rotate_left
 ·
  rintro w' ⟨s0, s1, s2, s3, s4, s5, s6, s7, s8, s9, s10⟩
  go_simp
  with_reducible rfl
 rotate_left
 ·
  simp only [Act.put, sIa, sIz, sIs, qap, i32_w]
  rfl
 refine take_ (i := 11) (N := some 14) (v := ?_) (a' := ?_) #[true, true, true, true, true, true, true, true, true, true, true, true, true, false, false, true, false, false, true, false, false, true, false, true, false, false, false] rfl rfl (qbg HT_.out HW_.out (by kernel_rfl)) (fun _ _ _ h => h) (Or.inl ⟨by rfl, ?_⟩) hHeld ?_ ?_
 rotate_left
 ·
  rintro w' ⟨s0, s1, s2, s3, s4, s5, s6, s7, s8, s9, s10⟩
  go_simp
  with_reducible rfl
 rotate_left
 ·
  simp only [Act.put, sIa, sIz, sIs, qap, i32_w]
  rfl
 refine take_ (i := 13) (N := some 16) (v := ?_) (a' := ?_) #[true, true, true, true, true, true, true, true, true, true, true, true, true, true, false, true, false, false, true, false, false, true, false, true, false, false, false] rfl rfl (qbg HT_.out HW_.out (by kernel_rfl)) (fun _ _ _ h => h) (Or.inl ⟨by rfl, ?_⟩) hHeld ?_ ?_
 rotate_left
 ·
  rintro w' ⟨s0, s1, s2, s3, s4, s5, s6, s7, s8, s9, s10⟩
  go_simp
  with_reducible rfl
 rotate_left
 ·
  simp only [Act.put, sIa, sIz, sIs, qap, i32_w]
  rfl
 refine take_ (i := 16) (N := some 19) (v := ?_) (a' := ?_) #[true, true, true, true, true, true, true, true, true, true, true, true, true, true, false, true, true, false, true, false, false, true, false, true, false, false, false] rfl rfl (qbg HT_.out HW_.out (by kernel_rfl)) (fun _ _ _ h => h) (Or.inl ⟨by rfl, ?_⟩) hHeld ?_ ?_
 rotate_left
 ·
  rintro w' ⟨s0, s1, s2, s3, s4, s5, s6, s7, s8, s9, s10⟩
  go_simp
  with_reducible rfl
 rotate_left
 ·
  simp only [Act.put, sIa, sIz, sIs, qap, i32_w]
  rfl
 refine take_ (i := 19) (N := some 22) (v := ?_) (a' := ?_) #[true, true, true, true, true, true, true, true, true, true, true, true, true, true, false, true, true, false, true, true, false, true, false, true, false, false, false] rfl rfl (qbg HT_.out HW_.out (by kernel_rfl)) (fun _ _ _ h => h) (Or.inl ⟨by rfl, ?_⟩) hHeld ?_ ?_
 rotate_left
 ·
  rintro w' ⟨s0, s1, s2, s3, s4, s5, s6, s7, s8, s9, s10⟩
  go_simp
  with_reducible rfl
 rotate_left
 ·
  simp only [Act.put, sIa, sIz, sIs, qap, i32_w]
  rfl
 refine take_ (i := 22) (N := some 25) (v := ?_) (a' := ?_) #[true, true, true, true, true, true, true, true, true, true, true, true, true, true, false, true, true, false, true, true, false, true, true, true, false, false, false] rfl rfl (qbg HT_.out HW_.out (by kernel_rfl)) (fun _ _ _ h => h) (Or.inl ⟨by rfl, ?_⟩) hHeld ?_ ?_
 rotate_left
 ·
  rintro w' ⟨s0, s1, s2, s3, s4, s5, s6, s7, s8, s9, s10⟩
  go_simp
  with_reducible rfl
 rotate_left
 ·
  simp only [Act.put, sIa, sIz, sIs, qap, i32_w]
  rfl
 refine take_ (i := 24) (N := some 27) (v := ?_) (a' := ?_) #[true, true, true, true, true, true, true, true, true, true, true, true, true, true, false, true, true, false, true, true, false, true, true, true, true, false, false] rfl rfl (qbg HT_.out HW_.out (by kernel_rfl)) (fun _ _ _ h => h) (Or.inl ⟨by rfl, ?_⟩) hHeld ?_ ?_
 rotate_left
 ·
  rintro w' ⟨s0, s1, s2, s3, s4, s5, s6, s7, s8, s9, s10⟩
  go_simp
  with_reducible rfl
 rotate_left
 ·
  simp only [Act.put, sIa, sIz, sIs, qap, i32_w]
  rfl
 refine one_ (i := 14) (N := some 17) #[true, true, true, true, true, true, true, true, true, true, true, true, true, true, true, true, true, false, true, true, false, true, true, true, true, false, false] rfl rfl (one_of HT_.out (by kernel_rfl)) (by decide) (fun K hK => ?_)
 refine goes_ Tryz.func31 (by kernel_rfl) rfl #[.slice A0_6 l0_6.length c0_6] (by rfl) rfl rfl (by (try simp only [List.map_toArray, List.map_cons, List.map_nil]); first | done | rfl | (simp only [List.length_drop, List.length_take]; rfl)) ?_
 with_reducible refine (ral.calls k _ _ l0_6 t192 _ ?side1 ?side2 A2.out).mono ?_
 (case side1 => repeat (first | exact (Kd.C_below HR0_6.out HB.out) | (with_reducible refine Kd.C_alloc ?_ _) | (with_reducible refine Kd.C_drewN ?_ _) | (with_reducible refine Kd.C_drew ?_)))
 (case side2 => exact HC0_6.out)
 rintro e w8 ⟨v193, rfl, ho0, hb⟩
 refine ⟨_, rfl, ?_⟩
 have n0_ := Aside0.mk (Kd.R_lower ho0 (qaj (by repeat (first | (with_reducible first | exact HB.out | apply qad | apply qab | apply qac | refine qaf ?_ GE190.out | refine qaf ?_ GE191.out) | exact HB.out))))
 have n1_ := Aside0.mk (qan (g := gb190) (o := .cells #[.string a0_0, .int .i64 a0_1, .int .i64 a0_2, .int .i64 a0_3, .int .i64 a0_4, .int .i64 a0_5, .slice A0_6 l0_6.length c0_6, .slice A0_7 l0_7.length c0_7, .slice A0_8 l0_8.length c0_8, .string a0_9, .bool a0_10] 24 (0, 0)) (by (with_reducible repeat (first | refine qag ?_ _ | refine qai ?_ | refine blk_alloc ?_ _)); exact BK190.out) hb)
 have n2_ := Aside0.mk (qan (g := gb191) (o := .cells #[.string (⟨#[]⟩ : ByteArray), .int .i64 0, .int .i64 0, .int .i64 0, .int .i64 0, .int .i64 0, .slice none 0 0, .slice none 0 0, .slice none 0 0, .string (⟨#[]⟩ : ByteArray), .bool false] 32 (0, 0)) (by (with_reducible repeat (first | refine qag ?_ _ | refine qai ?_ | refine blk_alloc ?_ _)); exact BK191.out) hb)
 have n3_ := Aside0.mk (qah (by repeat (first | (with_reducible first | exact HB.out | apply qad | apply qab | apply qac | refine qaf ?_ GE190.out | refine qaf ?_ GE191.out) | exact HB.out)) hb)
 clear BK190
 clear BK191
 clear HB
 have HO194 := n0_
 have BK190 := n1_
 have BK191 := n2_
 have HB := n3_
 clear n0_ n1_ n2_ n3_
 (try clear hb)
 (try clear hb2)
 (try clear hk)
 (try clear hi)
 (try clear ho0)
 refine hK.out _ _ ⟨(qak BK190.out 0).trans rfl, (qak BK190.out 1).trans rfl, (qak BK190.out 2).trans rfl, (qak BK190.out 3).trans rfl, (qak BK190.out 4).trans rfl, (qak BK190.out 5).trans rfl, (qak BK190.out 6).trans rfl, (qak BK190.out 7).trans rfl, (qak BK190.out 8).trans rfl, (qak BK190.out 9).trans rfl, (qak BK190.out 10).trans rfl⟩ (fun hHeld => ?_)
 clear hK K
 refine norm_ (a' := ?_) ?_ ?_
 rotate_left
 ·
  show Act.put _ (some 17) _ = _
  simp only [Act.put, sIa, sIz, sIs, qap, i32_w]
  rfl
 refine one_ (i := 17) (N := some 20) #[true, true, true, true, true, true, true, true, true, true, true, true, true, true, true, true, true, true, true, true, false, true, true, true, true, false, false] rfl rfl (one_of HT_.out (by kernel_rfl)) (by decide) (fun K hK => ?_)
 refine goes_ Tryz.func31 (by kernel_rfl) rfl #[.slice A0_7 l0_7.length c0_7] (by rfl) rfl rfl (by (try simp only [List.map_toArray, List.map_cons, List.map_nil]); first | done | rfl | (simp only [List.length_drop, List.length_take]; rfl)) ?_
 with_reducible refine (ral.calls k _ _ l0_7 t195 _ ?side1 ?side2 A3.out).mono ?_
 (case side1 => repeat (first | exact (Kd.C_below HR0_7.out HB.out) | (with_reducible refine Kd.C_alloc ?_ _) | (with_reducible refine Kd.C_drewN ?_ _) | (with_reducible refine Kd.C_drew ?_)))
 (case side2 => exact HC0_7.out)
 rintro e w9 ⟨v196, rfl, ho0, hb⟩
 refine ⟨_, rfl, ?_⟩
 have n0_ := Aside0.mk (Kd.R_elder' (by (with_reducible repeat (first | apply Kd.R_alloc | apply Kd.R_drewN | apply Kd.R_drew)); exact HO194.out) (Kd.R_base ho0) hb)
 have n1_ := Aside0.mk (Kd.R_lower (Kd.R_new' ho0 (Kd.R_lt (by (with_reducible repeat (first | apply Kd.R_alloc | apply Kd.R_drewN | apply Kd.R_drew)); exact HO194.out))) (qaj (by repeat (first | (with_reducible first | exact HB.out | apply qad | apply qab | apply qac | refine qaf ?_ GE190.out | refine qaf ?_ GE191.out) | exact HB.out))))
 have n2_ := Aside0.mk (qan (g := gb190) (o := .cells #[.string a0_0, .int .i64 a0_1, .int .i64 a0_2, .int .i64 a0_3, .int .i64 a0_4, .int .i64 a0_5, .slice A0_6 l0_6.length c0_6, .slice A0_7 l0_7.length c0_7, .slice A0_8 l0_8.length c0_8, .string a0_9, .bool a0_10] 24 (0, 0)) (by (with_reducible repeat (first | refine qag ?_ _ | refine qai ?_ | refine blk_alloc ?_ _)); exact BK190.out) hb)
 have n3_ := Aside0.mk (qan (g := gb191) (o := .cells #[.string (⟨#[]⟩ : ByteArray), .int .i64 0, .int .i64 0, .int .i64 0, .int .i64 0, .int .i64 0, .slice none 0 0, .slice none 0 0, .slice none 0 0, .string (⟨#[]⟩ : ByteArray), .bool false] 32 (0, 0)) (by (with_reducible repeat (first | refine qag ?_ _ | refine qai ?_ | refine blk_alloc ?_ _)); exact BK191.out) hb)
 have n4_ := Aside0.mk (qah (by repeat (first | (with_reducible first | exact HB.out | apply qad | apply qab | apply qac | refine qaf ?_ GE190.out | refine qaf ?_ GE191.out) | exact HB.out)) hb)
 clear HO194
 clear BK190
 clear BK191
 clear HB
 have HO194 := n0_
 have HO197 := n1_
 have BK190 := n2_
 have BK191 := n3_
 have HB := n4_
 clear n0_ n1_ n2_ n3_ n4_
 (try clear hb)
 (try clear hb2)
 (try clear hk)
 (try clear hi)
 (try clear ho0)
 refine hK.out _ _ ⟨(qak BK190.out 0).trans rfl, (qak BK190.out 1).trans rfl, (qak BK190.out 2).trans rfl, (qak BK190.out 3).trans rfl, (qak BK190.out 4).trans rfl, (qak BK190.out 5).trans rfl, (qak BK190.out 6).trans rfl, (qak BK190.out 7).trans rfl, (qak BK190.out 8).trans rfl, (qak BK190.out 9).trans rfl, (qak BK190.out 10).trans rfl⟩ (fun hHeld => ?_)
 clear hK K
 refine norm_ (a' := ?_) ?_ ?_
 rotate_left
 ·
  show Act.put _ (some 20) _ = _
  simp only [Act.put, sIa, sIz, sIs, qap, i32_w]
  rfl
 refine one_ (i := 20) (N := some 23) #[true, true, true, true, true, true, true, true, true, true, true, true, true, true, true, true, true, true, true, true, true, true, true, true, true, false, false] rfl rfl (one_of HT_.out (by kernel_rfl)) (by decide) (fun K hK => ?_)
 refine goes_ Tryz.func31 (by kernel_rfl) rfl #[.slice A0_8 l0_8.length c0_8] (by rfl) rfl rfl (by (try simp only [List.map_toArray, List.map_cons, List.map_nil]); first | done | rfl | (simp only [List.length_drop, List.length_take]; rfl)) ?_
 with_reducible refine (ral.calls k _ _ l0_8 t198 _ ?side1 ?side2 A4.out).mono ?_
 (case side1 => repeat (first | exact (Kd.C_below HR0_8.out HB.out) | (with_reducible refine Kd.C_alloc ?_ _) | (with_reducible refine Kd.C_drewN ?_ _) | (with_reducible refine Kd.C_drew ?_)))
 (case side2 => exact HC0_8.out)
 rintro e w10 ⟨v199, rfl, ho0, hb⟩
 refine ⟨_, rfl, ?_⟩
 have n0_ := Aside0.mk (Kd.R_elder' (by (with_reducible repeat (first | apply Kd.R_alloc | apply Kd.R_drewN | apply Kd.R_drew)); exact HO194.out) (Kd.R_base ho0) hb)
 have n1_ := Aside0.mk (Kd.R_elder' (by (with_reducible repeat (first | apply Kd.R_alloc | apply Kd.R_drewN | apply Kd.R_drew)); exact HO197.out) (Kd.R_base ho0) hb)
 have n2_ := Aside0.mk (Kd.R_lower (Kd.R_new' (Kd.R_new' ho0 (Kd.R_lt (by (with_reducible repeat (first | apply Kd.R_alloc | apply Kd.R_drewN | apply Kd.R_drew)); exact HO194.out))) (Kd.R_lt (by (with_reducible repeat (first | apply Kd.R_alloc | apply Kd.R_drewN | apply Kd.R_drew)); exact HO197.out))) (qaj (by repeat (first | (with_reducible first | exact HB.out | apply qad | apply qab | apply qac | refine qaf ?_ GE190.out | refine qaf ?_ GE191.out) | exact HB.out))))
 have n3_ := Aside0.mk (qan (g := gb190) (o := .cells #[.string a0_0, .int .i64 a0_1, .int .i64 a0_2, .int .i64 a0_3, .int .i64 a0_4, .int .i64 a0_5, .slice A0_6 l0_6.length c0_6, .slice A0_7 l0_7.length c0_7, .slice A0_8 l0_8.length c0_8, .string a0_9, .bool a0_10] 24 (0, 0)) (by (with_reducible repeat (first | refine qag ?_ _ | refine qai ?_ | refine blk_alloc ?_ _)); exact BK190.out) hb)
 have n4_ := Aside0.mk (qan (g := gb191) (o := .cells #[.string (⟨#[]⟩ : ByteArray), .int .i64 0, .int .i64 0, .int .i64 0, .int .i64 0, .int .i64 0, .slice none 0 0, .slice none 0 0, .slice none 0 0, .string (⟨#[]⟩ : ByteArray), .bool false] 32 (0, 0)) (by (with_reducible repeat (first | refine qag ?_ _ | refine qai ?_ | refine blk_alloc ?_ _)); exact BK191.out) hb)
 have n5_ := Aside0.mk (qah (by repeat (first | (with_reducible first | exact HB.out | apply qad | apply qab | apply qac | refine qaf ?_ GE190.out | refine qaf ?_ GE191.out) | exact HB.out)) hb)
 clear HO194
 clear HO197
 clear BK190
 clear BK191
 clear HB
 have HO194 := n0_
 have HO197 := n1_
 have HO200 := n2_
 have BK190 := n3_
 have BK191 := n4_
 have HB := n5_
 clear n0_ n1_ n2_ n3_ n4_ n5_
 (try clear hb)
 (try clear hb2)
 (try clear hk)
 (try clear hi)
 (try clear ho0)
 obtain ⟨Ao11, co11, eo11⟩ := Kd.R_slice HO200.out
 (first | subst eo11 | (injection eo11 with f1_ f2_ f3_; have f4_ := f1_.symm; have f5_ := f3_.symm; clear f1_ f2_ f3_; subst f4_; subst f5_))
 obtain ⟨Ao12, co12, eo12⟩ := Kd.R_slice HO197.out
 (first | subst eo12 | (injection eo12 with f1_ f2_ f3_; have f4_ := f1_.symm; have f5_ := f3_.symm; clear f1_ f2_ f3_; subst f4_; subst f5_))
 obtain ⟨Ao13, co13, eo13⟩ := Kd.R_slice HO194.out
 (first | subst eo13 | (injection eo13 with f1_ f2_ f3_; have f4_ := f1_.symm; have f5_ := f3_.symm; clear f1_ f2_ f3_; subst f4_; subst f5_))
 refine hK.out _ _ ⟨(qak BK190.out 0).trans rfl, (qak BK190.out 1).trans rfl, (qak BK190.out 2).trans rfl, (qak BK190.out 3).trans rfl, (qak BK190.out 4).trans rfl, (qak BK190.out 5).trans rfl, (qak BK190.out 6).trans rfl, (qak BK190.out 7).trans rfl, (qak BK190.out 8).trans rfl, (qak BK190.out 9).trans rfl, (qak BK190.out 10).trans rfl⟩ (fun hHeld => ?_)
 clear hK K
 refine norm_ (a' := ?_) ?_ ?_
 rotate_left
 ·
  show Act.put _ (some 23) _ = _
  simp only [Act.put, sIa, sIz, sIs, qap, i32_w]
  rfl
 refine qax (i := 25) (N := some 28) (v := ?_) (a' := ?_) #[true, true, true, true, true, true, true, true, true, true, true, true, true, true, true, true, true, true, true, true, true, true, true, true, true, true, false] rfl rfl (qar HT_.out (by kernel_rfl)) (fun _ _ _ h => h) (Or.inl ⟨by rfl, ?_⟩) ?_ ?_
 rotate_left
 ·
  intro w'
  go_simp
  with_reducible rfl
 rotate_left
 ·
  simp only [Act.put, sIa, sIz, sIs, qap, i32_w]
  rfl
 refine one_ (i := 26) (N := none) #[true, true, true, true, true, true, true, true, true, true, true, true, true, true, true, true, true, true, true, true, true, true, true, true, true, true, true] rfl rfl (one_of HT_.out (by kernel_rfl)) (by decide) (fun K hK => ?_)
 have hs14 : w10.cell? ⟨gb191, 0, none⟩ = some (.string (⟨#[]⟩ : ByteArray)) := (qak BK191.out 0).trans rfl
 have hfs14 := qay BK191.out 0
 have hns14_0 := NB190_191.out
 have hms14_0 := NB191_190.out
 have hs15 : w10.cell? ⟨gb191, 1, none⟩ = some (.int .i64 0) := (qak BK191.out 1).trans rfl
 have hfs15 := qay BK191.out 1
 have hns15_0 := NB190_191.out
 have hms15_0 := NB191_190.out
 have hs16 : w10.cell? ⟨gb191, 2, none⟩ = some (.int .i64 0) := (qak BK191.out 2).trans rfl
 have hfs16 := qay BK191.out 2
 have hns16_0 := NB190_191.out
 have hms16_0 := NB191_190.out
 have hs17 : w10.cell? ⟨gb191, 3, none⟩ = some (.int .i64 0) := (qak BK191.out 3).trans rfl
 have hfs17 := qay BK191.out 3
 have hns17_0 := NB190_191.out
 have hms17_0 := NB191_190.out
 have hs18 : w10.cell? ⟨gb191, 4, none⟩ = some (.int .i64 0) := (qak BK191.out 4).trans rfl
 have hfs18 := qay BK191.out 4
 have hns18_0 := NB190_191.out
 have hms18_0 := NB191_190.out
 have hs19 : w10.cell? ⟨gb191, 5, none⟩ = some (.int .i64 0) := (qak BK191.out 5).trans rfl
 have hfs19 := qay BK191.out 5
 have hns19_0 := NB190_191.out
 have hms19_0 := NB191_190.out
 have hs20 : w10.cell? ⟨gb191, 6, none⟩ = some (.slice none 0 0) := (qak BK191.out 6).trans rfl
 have hfs20 := qay BK191.out 6
 have hns20_0 := NB190_191.out
 have hms20_0 := NB191_190.out
 have hs21 : w10.cell? ⟨gb191, 7, none⟩ = some (.slice none 0 0) := (qak BK191.out 7).trans rfl
 have hfs21 := qay BK191.out 7
 have hns21_0 := NB190_191.out
 have hms21_0 := NB191_190.out
 have hs22 : w10.cell? ⟨gb191, 8, none⟩ = some (.slice none 0 0) := (qak BK191.out 8).trans rfl
 have hfs22 := qay BK191.out 8
 have hns22_0 := NB190_191.out
 have hms22_0 := NB191_190.out
 have hs23 : w10.cell? ⟨gb191, 9, none⟩ = some (.string (⟨#[]⟩ : ByteArray)) := (qak BK191.out 9).trans rfl
 have hfs23 := qay BK191.out 9
 have hns23_0 := NB190_191.out
 have hms23_0 := NB191_190.out
 have hs24 : w10.cell? ⟨gb191, 10, none⟩ = some (.bool false) := (qak BK191.out 10).trans rfl
 have hfs24 := qay BK191.out 10
 have hns24_0 := NB190_191.out
 have hms24_0 := NB191_190.out
 refine skip_ (w1 := ?_) (by rfl) rfl ?_ ?_
 rotate_left
 ·
  go_simp
  rfl
 refine hK.out _ _ ⟨((qal (p := ⟨gb191, _, none⟩) NB190_191.out _).trans (((qal (p := ⟨gb191, _, none⟩) NB190_191.out _).trans (((qal (p := ⟨gb191, _, none⟩) NB190_191.out _).trans (((qal (p := ⟨gb191, _, none⟩) NB190_191.out _).trans (((qal (p := ⟨gb191, _, none⟩) NB190_191.out _).trans (((qal (p := ⟨gb191, _, none⟩) NB190_191.out _).trans (((qal (p := ⟨gb191, _, none⟩) NB190_191.out _).trans (((qal (p := ⟨gb191, _, none⟩) NB190_191.out _).trans (((qal (p := ⟨gb191, _, none⟩) NB190_191.out _).trans (((qal (p := ⟨gb191, _, none⟩) NB190_191.out _).trans (((qal (p := ⟨gb191, _, none⟩) NB190_191.out _).trans (hHeld.1)))))))))))))))))))))), ((qal (p := ⟨gb191, _, none⟩) NB190_191.out _).trans (((qal (p := ⟨gb191, _, none⟩) NB190_191.out _).trans (((qal (p := ⟨gb191, _, none⟩) NB190_191.out _).trans (((qal (p := ⟨gb191, _, none⟩) NB190_191.out _).trans (((qal (p := ⟨gb191, _, none⟩) NB190_191.out _).trans (((qal (p := ⟨gb191, _, none⟩) NB190_191.out _).trans (((qal (p := ⟨gb191, _, none⟩) NB190_191.out _).trans (((qal (p := ⟨gb191, _, none⟩) NB190_191.out _).trans (((qal (p := ⟨gb191, _, none⟩) NB190_191.out _).trans (((qal (p := ⟨gb191, _, none⟩) NB190_191.out _).trans (((qal (p := ⟨gb191, _, none⟩) NB190_191.out _).trans (hHeld.2.1)))))))))))))))))))))), ((qal (p := ⟨gb191, _, none⟩) NB190_191.out _).trans (((qal (p := ⟨gb191, _, none⟩) NB190_191.out _).trans (((qal (p := ⟨gb191, _, none⟩) NB190_191.out _).trans (((qal (p := ⟨gb191, _, none⟩) NB190_191.out _).trans (((qal (p := ⟨gb191, _, none⟩) NB190_191.out _).trans (((qal (p := ⟨gb191, _, none⟩) NB190_191.out _).trans (((qal (p := ⟨gb191, _, none⟩) NB190_191.out _).trans (((qal (p := ⟨gb191, _, none⟩) NB190_191.out _).trans (((qal (p := ⟨gb191, _, none⟩) NB190_191.out _).trans (((qal (p := ⟨gb191, _, none⟩) NB190_191.out _).trans (((qal (p := ⟨gb191, _, none⟩) NB190_191.out _).trans (hHeld.2.2.1)))))))))))))))))))))), ((qal (p := ⟨gb191, _, none⟩) NB190_191.out _).trans (((qal (p := ⟨gb191, _, none⟩) NB190_191.out _).trans (((qal (p := ⟨gb191, _, none⟩) NB190_191.out _).trans (((qal (p := ⟨gb191, _, none⟩) NB190_191.out _).trans (((qal (p := ⟨gb191, _, none⟩) NB190_191.out _).trans (((qal (p := ⟨gb191, _, none⟩) NB190_191.out _).trans (((qal (p := ⟨gb191, _, none⟩) NB190_191.out _).trans (((qal (p := ⟨gb191, _, none⟩) NB190_191.out _).trans (((qal (p := ⟨gb191, _, none⟩) NB190_191.out _).trans (((qal (p := ⟨gb191, _, none⟩) NB190_191.out _).trans (((qal (p := ⟨gb191, _, none⟩) NB190_191.out _).trans (hHeld.2.2.2.1)))))))))))))))))))))), ((qal (p := ⟨gb191, _, none⟩) NB190_191.out _).trans (((qal (p := ⟨gb191, _, none⟩) NB190_191.out _).trans (((qal (p := ⟨gb191, _, none⟩) NB190_191.out _).trans (((qal (p := ⟨gb191, _, none⟩) NB190_191.out _).trans (((qal (p := ⟨gb191, _, none⟩) NB190_191.out _).trans (((qal (p := ⟨gb191, _, none⟩) NB190_191.out _).trans (((qal (p := ⟨gb191, _, none⟩) NB190_191.out _).trans (((qal (p := ⟨gb191, _, none⟩) NB190_191.out _).trans (((qal (p := ⟨gb191, _, none⟩) NB190_191.out _).trans (((qal (p := ⟨gb191, _, none⟩) NB190_191.out _).trans (((qal (p := ⟨gb191, _, none⟩) NB190_191.out _).trans (hHeld.2.2.2.2.1)))))))))))))))))))))), ((qal (p := ⟨gb191, _, none⟩) NB190_191.out _).trans (((qal (p := ⟨gb191, _, none⟩) NB190_191.out _).trans (((qal (p := ⟨gb191, _, none⟩) NB190_191.out _).trans (((qal (p := ⟨gb191, _, none⟩) NB190_191.out _).trans (((qal (p := ⟨gb191, _, none⟩) NB190_191.out _).trans (((qal (p := ⟨gb191, _, none⟩) NB190_191.out _).trans (((qal (p := ⟨gb191, _, none⟩) NB190_191.out _).trans (((qal (p := ⟨gb191, _, none⟩) NB190_191.out _).trans (((qal (p := ⟨gb191, _, none⟩) NB190_191.out _).trans (((qal (p := ⟨gb191, _, none⟩) NB190_191.out _).trans (((qal (p := ⟨gb191, _, none⟩) NB190_191.out _).trans (hHeld.2.2.2.2.2.1)))))))))))))))))))))), ((qal (p := ⟨gb191, _, none⟩) NB190_191.out _).trans (((qal (p := ⟨gb191, _, none⟩) NB190_191.out _).trans (((qal (p := ⟨gb191, _, none⟩) NB190_191.out _).trans (((qal (p := ⟨gb191, _, none⟩) NB190_191.out _).trans (((qal (p := ⟨gb191, _, none⟩) NB190_191.out _).trans (((qal (p := ⟨gb191, _, none⟩) NB190_191.out _).trans (((qal (p := ⟨gb191, _, none⟩) NB190_191.out _).trans (((qal (p := ⟨gb191, _, none⟩) NB190_191.out _).trans (((qal (p := ⟨gb191, _, none⟩) NB190_191.out _).trans (((qal (p := ⟨gb191, _, none⟩) NB190_191.out _).trans (((qal (p := ⟨gb191, _, none⟩) NB190_191.out _).trans (hHeld.2.2.2.2.2.2.1)))))))))))))))))))))), ((qal (p := ⟨gb191, _, none⟩) NB190_191.out _).trans (((qal (p := ⟨gb191, _, none⟩) NB190_191.out _).trans (((qal (p := ⟨gb191, _, none⟩) NB190_191.out _).trans (((qal (p := ⟨gb191, _, none⟩) NB190_191.out _).trans (((qal (p := ⟨gb191, _, none⟩) NB190_191.out _).trans (((qal (p := ⟨gb191, _, none⟩) NB190_191.out _).trans (((qal (p := ⟨gb191, _, none⟩) NB190_191.out _).trans (((qal (p := ⟨gb191, _, none⟩) NB190_191.out _).trans (((qal (p := ⟨gb191, _, none⟩) NB190_191.out _).trans (((qal (p := ⟨gb191, _, none⟩) NB190_191.out _).trans (((qal (p := ⟨gb191, _, none⟩) NB190_191.out _).trans (hHeld.2.2.2.2.2.2.2.1)))))))))))))))))))))), ((qal (p := ⟨gb191, _, none⟩) NB190_191.out _).trans (((qal (p := ⟨gb191, _, none⟩) NB190_191.out _).trans (((qal (p := ⟨gb191, _, none⟩) NB190_191.out _).trans (((qal (p := ⟨gb191, _, none⟩) NB190_191.out _).trans (((qal (p := ⟨gb191, _, none⟩) NB190_191.out _).trans (((qal (p := ⟨gb191, _, none⟩) NB190_191.out _).trans (((qal (p := ⟨gb191, _, none⟩) NB190_191.out _).trans (((qal (p := ⟨gb191, _, none⟩) NB190_191.out _).trans (((qal (p := ⟨gb191, _, none⟩) NB190_191.out _).trans (((qal (p := ⟨gb191, _, none⟩) NB190_191.out _).trans (((qal (p := ⟨gb191, _, none⟩) NB190_191.out _).trans (hHeld.2.2.2.2.2.2.2.2.1)))))))))))))))))))))), ((qal (p := ⟨gb191, _, none⟩) NB190_191.out _).trans (((qal (p := ⟨gb191, _, none⟩) NB190_191.out _).trans (((qal (p := ⟨gb191, _, none⟩) NB190_191.out _).trans (((qal (p := ⟨gb191, _, none⟩) NB190_191.out _).trans (((qal (p := ⟨gb191, _, none⟩) NB190_191.out _).trans (((qal (p := ⟨gb191, _, none⟩) NB190_191.out _).trans (((qal (p := ⟨gb191, _, none⟩) NB190_191.out _).trans (((qal (p := ⟨gb191, _, none⟩) NB190_191.out _).trans (((qal (p := ⟨gb191, _, none⟩) NB190_191.out _).trans (((qal (p := ⟨gb191, _, none⟩) NB190_191.out _).trans (((qal (p := ⟨gb191, _, none⟩) NB190_191.out _).trans (hHeld.2.2.2.2.2.2.2.2.2.1)))))))))))))))))))))), ((qal (p := ⟨gb191, _, none⟩) NB190_191.out _).trans (((qal (p := ⟨gb191, _, none⟩) NB190_191.out _).trans (((qal (p := ⟨gb191, _, none⟩) NB190_191.out _).trans (((qal (p := ⟨gb191, _, none⟩) NB190_191.out _).trans (((qal (p := ⟨gb191, _, none⟩) NB190_191.out _).trans (((qal (p := ⟨gb191, _, none⟩) NB190_191.out _).trans (((qal (p := ⟨gb191, _, none⟩) NB190_191.out _).trans (((qal (p := ⟨gb191, _, none⟩) NB190_191.out _).trans (((qal (p := ⟨gb191, _, none⟩) NB190_191.out _).trans (((qal (p := ⟨gb191, _, none⟩) NB190_191.out _).trans (((qal (p := ⟨gb191, _, none⟩) NB190_191.out _).trans (hHeld.2.2.2.2.2.2.2.2.2.2))))))))))))))))))))))⟩ (fun hHeld => ?_)
 clear hK K
 refine done_ (done_of HT_.out (by kernel_rfl)) ?_
 try go_wp2
 refine bodyPost_ret (results_cell_row rfl _ _ gb191 32 #[.string a0_0, .int .i64 a0_1, .int .i64 a0_2, .int .i64 a0_3, .int .i64 a0_4, .int .i64 a0_5, .slice Ao13 t192.length co13, .slice Ao12 t195.length co12, .slice Ao11 t198.length co11, .string a0_9, .bool a0_10] (0, 0) _ rfl (by (with_reducible repeat (first | refine qag ?_ _ | refine qai ?_ | refine blk_alloc ?_ _)); refine qbb (cs := #[.string a0_0, .int .i64 a0_1, .int .i64 a0_2, .int .i64 a0_3, .int .i64 a0_4, .int .i64 a0_5, .slice Ao13 t192.length co13, .slice Ao12 t195.length co12, .slice Ao11 t198.length co11, .string a0_9, .bool false]) ?_ 10 _ rfl; (with_reducible repeat (first | refine qag ?_ _ | refine qai ?_ | refine blk_alloc ?_ _)); refine qbb (cs := #[.string a0_0, .int .i64 a0_1, .int .i64 a0_2, .int .i64 a0_3, .int .i64 a0_4, .int .i64 a0_5, .slice Ao13 t192.length co13, .slice Ao12 t195.length co12, .slice Ao11 t198.length co11, .string (⟨#[]⟩ : ByteArray), .bool false]) ?_ 9 _ rfl; (with_reducible repeat (first | refine qag ?_ _ | refine qai ?_ | refine blk_alloc ?_ _)); refine qbb (cs := #[.string a0_0, .int .i64 a0_1, .int .i64 a0_2, .int .i64 a0_3, .int .i64 a0_4, .int .i64 a0_5, .slice Ao13 t192.length co13, .slice Ao12 t195.length co12, .slice none 0 0, .string (⟨#[]⟩ : ByteArray), .bool false]) ?_ 8 _ rfl; (with_reducible repeat (first | refine qag ?_ _ | refine qai ?_ | refine blk_alloc ?_ _)); refine qbb (cs := #[.string a0_0, .int .i64 a0_1, .int .i64 a0_2, .int .i64 a0_3, .int .i64 a0_4, .int .i64 a0_5, .slice Ao13 t192.length co13, .slice none 0 0, .slice none 0 0, .string (⟨#[]⟩ : ByteArray), .bool false]) ?_ 7 _ rfl; (with_reducible repeat (first | refine qag ?_ _ | refine qai ?_ | refine blk_alloc ?_ _)); refine qbb (cs := #[.string a0_0, .int .i64 a0_1, .int .i64 a0_2, .int .i64 a0_3, .int .i64 a0_4, .int .i64 a0_5, .slice none 0 0, .slice none 0 0, .slice none 0 0, .string (⟨#[]⟩ : ByteArray), .bool false]) ?_ 6 _ rfl; (with_reducible repeat (first | refine qag ?_ _ | refine qai ?_ | refine blk_alloc ?_ _)); refine qbb (cs := #[.string a0_0, .int .i64 a0_1, .int .i64 a0_2, .int .i64 a0_3, .int .i64 a0_4, .int .i64 0, .slice none 0 0, .slice none 0 0, .slice none 0 0, .string (⟨#[]⟩ : ByteArray), .bool false]) ?_ 5 _ rfl; (with_reducible repeat (first | refine qag ?_ _ | refine qai ?_ | refine blk_alloc ?_ _)); refine qbb (cs := #[.string a0_0, .int .i64 a0_1, .int .i64 a0_2, .int .i64 a0_3, .int .i64 0, .int .i64 0, .slice none 0 0, .slice none 0 0, .slice none 0 0, .string (⟨#[]⟩ : ByteArray), .bool false]) ?_ 4 _ rfl; (with_reducible repeat (first | refine qag ?_ _ | refine qai ?_ | refine blk_alloc ?_ _)); refine qbb (cs := #[.string a0_0, .int .i64 a0_1, .int .i64 a0_2, .int .i64 0, .int .i64 0, .int .i64 0, .slice none 0 0, .slice none 0 0, .slice none 0 0, .string (⟨#[]⟩ : ByteArray), .bool false]) ?_ 3 _ rfl; (with_reducible repeat (first | refine qag ?_ _ | refine qai ?_ | refine blk_alloc ?_ _)); refine qbb (cs := #[.string a0_0, .int .i64 a0_1, .int .i64 0, .int .i64 0, .int .i64 0, .int .i64 0, .slice none 0 0, .slice none 0 0, .slice none 0 0, .string (⟨#[]⟩ : ByteArray), .bool false]) ?_ 2 _ rfl; (with_reducible repeat (first | refine qag ?_ _ | refine qai ?_ | refine blk_alloc ?_ _)); refine qbb (cs := #[.string a0_0, .int .i64 0, .int .i64 0, .int .i64 0, .int .i64 0, .int .i64 0, .slice none 0 0, .slice none 0 0, .slice none 0 0, .string (⟨#[]⟩ : ByteArray), .bool false]) ?_ 1 _ rfl; (with_reducible repeat (first | refine qag ?_ _ | refine qai ?_ | refine blk_alloc ?_ _)); refine qbb (cs := #[.string (⟨#[]⟩ : ByteArray), .int .i64 0, .int .i64 0, .int .i64 0, .int .i64 0, .int .i64 0, .slice none 0 0, .slice none 0 0, .slice none 0 0, .string (⟨#[]⟩ : ByteArray), .bool false]) ?_ 0 _ rfl; (with_reducible repeat (first | refine qag ?_ _ | refine qai ?_ | refine blk_alloc ?_ _)); exact BK191.out) Tryz.underlying32 rfl (by kernel_rfl)) rfl ?_
 exact ⟨_, _, _, by first | rfl | (simp [*] <;> rfl), by (with_reducible repeat (first | apply Kd.R_alloc | apply Kd.R_drewN | apply Kd.R_drew)); exact Kd.R_mono (Kd.R_far (p := ⟨gb191, 10, none⟩) (Kd.R_far (p := ⟨gb191, 9, none⟩) (Kd.R_far (p := ⟨gb191, 8, none⟩) (Kd.R_far (p := ⟨gb191, 7, none⟩) (Kd.R_far (p := ⟨gb191, 6, none⟩) (Kd.R_far (p := ⟨gb191, 5, none⟩) (Kd.R_far (p := ⟨gb191, 4, none⟩) (Kd.R_far (p := ⟨gb191, 3, none⟩) (Kd.R_far (p := ⟨gb191, 2, none⟩) (Kd.R_far (p := ⟨gb191, 1, none⟩) (Kd.R_far (p := ⟨gb191, 0, none⟩) (Kd.R_types HO194.out BK191.out (by decide)) (fun _ hk => hk.2) (.string a0_0)) (fun _ hk => hk.2) (.int .i64 a0_1)) (fun _ hk => hk.2) (.int .i64 a0_2)) (fun _ hk => hk.2) (.int .i64 a0_3)) (fun _ hk => hk.2) (.int .i64 a0_4)) (fun _ hk => hk.2) (.int .i64 a0_5)) (fun _ hk => hk.2) (.slice Ao13 t192.length co13)) (fun _ hk => hk.2) (.slice Ao12 t195.length co12)) (fun _ hk => hk.2) (.slice Ao11 t198.length co11)) (fun _ hk => hk.2) (.string a0_9)) (fun _ hk => hk.2) (.bool a0_10)) (fun _ hk => ⟨hk.1.1.2, hk.1.2⟩), by (with_reducible repeat (first | apply Kd.R_alloc | apply Kd.R_drewN | apply Kd.R_drew)); exact Kd.R_mono (Kd.R_far (p := ⟨gb191, 10, none⟩) (Kd.R_far (p := ⟨gb191, 9, none⟩) (Kd.R_far (p := ⟨gb191, 8, none⟩) (Kd.R_far (p := ⟨gb191, 7, none⟩) (Kd.R_far (p := ⟨gb191, 6, none⟩) (Kd.R_far (p := ⟨gb191, 5, none⟩) (Kd.R_far (p := ⟨gb191, 4, none⟩) (Kd.R_far (p := ⟨gb191, 3, none⟩) (Kd.R_far (p := ⟨gb191, 2, none⟩) (Kd.R_far (p := ⟨gb191, 1, none⟩) (Kd.R_far (p := ⟨gb191, 0, none⟩) (Kd.R_types HO197.out BK191.out (by decide)) (fun _ hk => hk.2) (.string a0_0)) (fun _ hk => hk.2) (.int .i64 a0_1)) (fun _ hk => hk.2) (.int .i64 a0_2)) (fun _ hk => hk.2) (.int .i64 a0_3)) (fun _ hk => hk.2) (.int .i64 a0_4)) (fun _ hk => hk.2) (.int .i64 a0_5)) (fun _ hk => hk.2) (.slice Ao13 t192.length co13)) (fun _ hk => hk.2) (.slice Ao12 t195.length co12)) (fun _ hk => hk.2) (.slice Ao11 t198.length co11)) (fun _ hk => hk.2) (.string a0_9)) (fun _ hk => hk.2) (.bool a0_10)) (fun _ hk => ⟨hk.1.1.2, hk.1.2⟩), by (with_reducible repeat (first | apply Kd.R_alloc | apply Kd.R_drewN | apply Kd.R_drew)); exact Kd.R_mono (Kd.R_far (p := ⟨gb191, 10, none⟩) (Kd.R_far (p := ⟨gb191, 9, none⟩) (Kd.R_far (p := ⟨gb191, 8, none⟩) (Kd.R_far (p := ⟨gb191, 7, none⟩) (Kd.R_far (p := ⟨gb191, 6, none⟩) (Kd.R_far (p := ⟨gb191, 5, none⟩) (Kd.R_far (p := ⟨gb191, 4, none⟩) (Kd.R_far (p := ⟨gb191, 3, none⟩) (Kd.R_far (p := ⟨gb191, 2, none⟩) (Kd.R_far (p := ⟨gb191, 1, none⟩) (Kd.R_far (p := ⟨gb191, 0, none⟩) (Kd.R_types HO200.out BK191.out (by decide)) (fun _ hk => hk.2) (.string a0_0)) (fun _ hk => hk.2) (.int .i64 a0_1)) (fun _ hk => hk.2) (.int .i64 a0_2)) (fun _ hk => hk.2) (.int .i64 a0_3)) (fun _ hk => hk.2) (.int .i64 a0_4)) (fun _ hk => hk.2) (.int .i64 a0_5)) (fun _ hk => hk.2) (.slice Ao13 t192.length co13)) (fun _ hk => hk.2) (.slice Ao12 t195.length co12)) (fun _ hk => hk.2) (.slice Ao11 t198.length co11)) (fun _ hk => hk.2) (.string a0_9)) (fun _ hk => hk.2) (.bool a0_10)) (fun _ hk => ⟨hk.1.1.2, hk.1.2⟩), by repeat (first | (with_reducible first | exact HB.out | apply qad | apply qab | apply qac | refine qaf ?_ GE190.out | refine qaf ?_ GE191.out) | exact HB.out)⟩
def rbm.f (k : Nat) (a0 : Int) : Option (ByteArray) := (rbb.f k 0 a0 (⟨#[]⟩ : ByteArray) 0 0).bind fun t184 => (some t184)
set_option maxHeartbeats 8000000 in
set_option maxRecDepth 100000 in
theorem rbm.calls (k : Nat) (a0 : Int) (r : ByteArray) (w : World) (h : rbm.f k a0 = some r) :
  Calls Tryz.prog 30 #[.int .i64 a0] w fun e w' => e = .returned (.string r) ∧ Below w.heap.size w w' := by
 have hu45 := Tryz.underlying45
 have HB := Aside0.mk (Below.refl w.heap.size w)
 have H : ((rbb.f k 0 a0 (⟨#[]⟩ : ByteArray) 0 0).bind fun t184 => (some t184)) = some r := h
 clear h
 replace H := Option.bind_eq_some_iff.mp H
 obtain ⟨t184, A20, H⟩ := H
 replace H : (some t184) = some r := H
 have A2 := Aside0.mk A20
 clear A20
 obtain rfl := Option.some.inj H
 go_enter Tryz.func30, Tryz.ntmps30
 go_wp2_with (first | ((with_reducible refine qat (f := 64) rfl ?_); refine goesL_ (some 5) rfl rfl Tryz.func64 (by kernel_rfl) rfl #[.agg #[.int .i64 0, .int .i64 a0, .string (⟨#[]⟩ : ByteArray), .int .i64 0, .int .i64 0]] rfl (by (try simp only [List.map_toArray, List.map_cons, List.map_nil]); first | done | rfl | (simp only [List.length_drop, List.length_take]; rfl)) ?_; (with_reducible refine (rbb.calls k 0 a0 (⟨#[]⟩ : ByteArray) 0 0 t184 _ A2.out).mono ?_); rintro e w3 ⟨rfl, hb⟩; refine ⟨_, rfl, ?_⟩; have n0_ := Aside0.mk (qah (by repeat (first | (with_reducible first | exact HB.out | apply qad | apply qab | apply qac) | exact HB.out)) hb); clear HB; have HB := n0_; clear n0_; (try clear hb); (try clear hb2); (try clear hk); (try clear hi)))
 go_ret
 exact ⟨by first | rfl | (simp [*] <;> rfl), by repeat (first | (with_reducible first | exact HB.out | apply qad | apply qab | apply qac) | exact HB.out)⟩
theorem nd_value_any (z : Nd) : Ev (fun k => rbb.f k z.k z.n z.t z.x z.y) ⟨(valT z).toArray⟩ := by
  cases hr : qbf z.val with
  | true => exact nd_value z hr
  | false =>
    obtain ⟨op, k, n, t, x, y⟩ := z
    have hr' : qbf ⟨k, n, t, x, y⟩ = false := hr
    have e : (⟨(valT ⟨op, k, n, t, x, y⟩).toArray⟩ : ByteArray) = ⟨#[]⟩ := by unfold valT; rw [if_pos hr]
    rw [e]
    refine Ev.congr (f := fun _ => some (⟨#[]⟩ : ByteArray)) (fun k => ?_) (Ev.now _)
    unfold rbb.f
    simp only [nd_right, hr', Option.bind_some, Bool.false_eq_true, if_false]
theorem wr_text_size (l : List S114) : (wrText l).1.size ≤ 1000000 := by
  unfold wrText writeR
  split
  · decide
  · split
    · decide
    · rename_i h1 h2
      show (List.toArray _).size ≤ _
      simp only [List.size_toArray]
      omega
def rbn.f (a0_0 : ByteArray) (a0_1 : Int) (a0_2 : Int) (a0_3 : Int) (a0_4 : Int) (a0_5 : Int) (l0_6 : List S114) (l0_7 : List S114) (l0_8 : List S114) (a0_9 : ByteArray) (a0_10 : Bool) : Option (ByteArray × Int) :=
  (rbg.f a0_0 a0_1 a0_2 a0_3 a0_4 a0_5 l0_6 l0_7 l0_8 a0_9 a0_10).bind fun r => if r = 0 then some (jwRes ⟨a0_0, a0_1, a0_2, a0_3, a0_4, a0_5, a0_9, a0_10⟩ decV l0_7.length (wrText l0_6) (wrText l0_7) (wrText l0_8)) else some (⟨#[]⟩, r)
theorem rbn.calls (a0_0 : ByteArray) (a0_1 : Int) (a0_2 : Int) (a0_3 : Int) (a0_4 : Int) (a0_5 : Int) (A0_6 : Option Addr) (c0_6 : Nat) (l0_6 : List S114) (A0_7 : Option Addr) (c0_7 : Nat) (l0_7 : List S114) (A0_8 : Option Addr) (c0_8 : Nat) (l0_8 : List S114) (a0_9 : ByteArray) (a0_10 : Bool) (r1 : ByteArray) (r2 : Int) (w : World) (hr0_6 : Kd.C k114 w A0_6 l0_6.length l0_6) (hc0_6 : l0_6.length ≤ c0_6) (hr0_7 : Kd.C k114 w A0_7 l0_7.length l0_7) (hc0_7 : l0_7.length ≤ c0_7) (hr0_8 : Kd.C k114 w A0_8 l0_8.length l0_8) (hc0_8 : l0_8.length ≤ c0_8) (h : rbn.f a0_0 a0_1 a0_2 a0_3 a0_4 a0_5 l0_6 l0_7 l0_8 a0_9 a0_10 = some (r1, r2)) :
    Calls Tryz.prog 11 #[.agg #[.string a0_0, .int .i64 a0_1, .int .i64 a0_2, .int .i64 a0_3, .int .i64 a0_4, .int .i64 a0_5, .slice A0_6 l0_6.length c0_6, .slice A0_7 l0_7.length c0_7, .slice A0_8 l0_8.length c0_8, .string a0_9, .bool a0_10]] w fun e w' => e = .returned (.tuple #[.string r1, .int .i64 r2]) ∧ Below w.heap.size w w' := by
  -- uses rbg rbl rbm rbb
  unfold rbn.f at h
  cases hr : rbg.f a0_0 a0_1 a0_2 a0_3 a0_4 a0_5 l0_6 l0_7 l0_8 a0_9 a0_10 with
  | none => rw [hr] at h; cases h
  | some r =>
    rw [hr] at h
    simp only [Option.bind_some] at h
    have hR : ∀ W, Below w.heap.size w W → Calls Tryz.prog 13 #[.agg (jbA ⟨a0_0, a0_1, a0_2, a0_3, a0_4, a0_5, a0_9, a0_10⟩ A0_6 A0_7 A0_8 l0_6.length c0_6 l0_7.length c0_7 l0_8.length c0_8)] W (RightIs r W.heap.size W) :=
      fun W hW => rbg.calls a0_0 a0_1 a0_2 a0_3 a0_4 a0_5 A0_6 c0_6 l0_6 A0_7 c0_7 l0_7 A0_8 c0_8 l0_8 a0_9 a0_10 r W (Kd.C_below hr0_6 hW) hc0_6 (Kd.C_below hr0_7 hW) hc0_7 (Kd.C_below hr0_8 hW) hc0_8 hr
    by_cases h0 : r = 0
    · rw [if_pos h0] at h
      subst h0
      unfold rbg.f at hr
      split at hr
      · rename_i hl
        injection hr with hr
        obtain ⟨hn, hf⟩ := rightJ_zero hr
        have hf9 : a0_9.size ≤ 1000000 := by
          rcases hf with h9 | h9
          · have : a0_9 = ⟨#[]⟩ := h9
            rw [this]; decide
          · have h9' : a0_9 ∈ foldsL := h9
            have : ∀ x ∈ foldsL, x.size ≤ 1000000 := by decide
            exact this _ h9'
        have X : ∀ (A : Option Addr) (c : Nat) (l : List S114), l.length ≤ 1000000 → Kd.C k114 w A l.length l → l.length ≤ c → ∀ W, Below w.heap.size w W →
            Calls Tryz.prog 29 #[.slice A l.length c] W fun e W' => e = .returned (.tuple #[.string (wrText l).1, .int .i64 (wrText l).2]) ∧ Below W.heap.size W W' := by
          intro A c l hl hr hc W hW
          refine rbl.calls A c l _ _ W (Kd.C_below hr hW) hc ?_
          unfold rbl.f
          rw [if_pos hl]
        have key := jwrite_right ⟨a0_0, a0_1, a0_2, a0_3, a0_4, a0_5, a0_9, a0_10⟩ A0_6 A0_7 A0_8 l0_6.length c0_6 l0_7.length c0_7 l0_8.length c0_8 (wrText l0_6) (wrText l0_7) (wrText l0_8) decV w hR
          (fun n W => by
            obtain ⟨k, hk⟩ := Ev.rounds (nd_value_any ⟨0, 0, n, ⟨#[]⟩, 0, 0⟩)
            refine rbm.calls k n _ W ?_
            unfold rbm.f
            simp only at hk
            rw [hk]
            rfl)
          (X A0_6 c0_6 l0_6 hl.1 hr0_6 hc0_6) (X A0_7 c0_7 l0_7 hl.2.1 hr0_7 hc0_7) (X A0_8 c0_8 l0_8 hl.2.2 hr0_8 hc0_8)
          (by simp only at hn ⊢; omega) (fun n => by have := decV_len n; omega) (wr_text_size _) (wr_text_size _) (wr_text_size _) hf9
        simp only [Option.some.injEq] at h
        rw [h] at key
        exact key
      · cases hr
    · rw [if_neg h0] at h
      simp only [Option.some.injEq, Prod.mk.injEq] at h
      obtain ⟨rfl, rfl⟩ := h
      exact jwrite_no ⟨a0_0, a0_1, a0_2, a0_3, a0_4, a0_5, a0_9, a0_10⟩ A0_6 A0_7 A0_8 l0_6.length c0_6 l0_7.length c0_7 l0_8.length c0_8 _ h0 w hR
def rbk.f (a0 : Bool) : Option (ByteArray) := if a0 = true then (some (⟨#[121, 101, 115]⟩ : ByteArray)) else (some (⟨#[110, 111]⟩ : ByteArray))
set_option maxHeartbeats 8000000 in
set_option maxRecDepth 100000 in
theorem rbk.calls (a0 : Bool) (r : ByteArray) (w : World) (h : rbk.f a0 = some r) :
  Calls Tryz.prog 41 #[.bool a0] w fun e w' => e = .returned (.string r) ∧ Drawn0 w w' := by
 have H : (if a0 = true then (some (⟨#[121, 101, 115]⟩ : ByteArray)) else (some (⟨#[110, 111]⟩ : ByteArray))) = some r := h
 clear h
 by_cases c2 : a0 = true
 ·
  subst c2
  have H1 : (some (⟨#[121, 101, 115]⟩ : ByteArray)) = some r := by rw [if_pos rfl] at H; exact H
  clear H
  have H := H1
  clear H1
  obtain rfl := Option.some.inj H
  go_enter Tryz.func41, Tryz.ntmps41
  go_wp2
  go_ret
  exact ⟨by first | rfl | (simp; done) | (simp [*]; done), by repeat (first | exact Drawn0.refl _ | apply Drawn0.step)⟩
 ·
  replace c2 := Bool.eq_false_iff.mpr c2
  subst c2
  have H1 : (some (⟨#[110, 111]⟩ : ByteArray)) = some r := by rw [if_neg (show ¬ (false = true) by decide)] at H; exact H
  clear H
  have H := H1
  clear H1
  obtain rfl := Option.some.inj H
  go_enter Tryz.func41, Tryz.ntmps41
  go_wp2
  go_ret
  exact ⟨by first | rfl | (simp; done) | (simp [*]; done), by repeat (first | exact Drawn0.refl _ | apply Drawn0.step)⟩
theorem rf_textB_len (l : List S57) (h : l.length = 0 ∨ exprR (l.map qaw) = true) : (textB (l.map qaw)).size ≤ 10000000 := by
  rcases h with h | h
  · rw [List.length_eq_zero_iff.1 h]; decide
  · have h4 : l.length ≤ 400 := by
      unfold exprR at h
      simp only [Bool.and_eq_true, decide_eq_true_eq, List.length_map] at h
      exact h.1.2
    obtain ⟨b, hb⟩ := wr_total VT wordB h
    have hl := wr_len VT wordB VT_len wordB_len 26 _ _ _ hb
    simp only [List.length_map, List.length_nil] at hl
    unfold textB
    rw [hb]
    show b.toArray.size ≤ _
    simp only [List.size_toArray]
    omega
def numOk (n : Int) : Prop := 0 ≤ n ∧ n ≤ 1000000
instance (n : Int) : Decidable (numOk n) := by unfold numOk; infer_instance
theorem rf_decV (n : Int) (h : numOk n) : Ev (fun k => ram.f k n) (decV n) := by
  unfold numOk at h
  have e : decV n = ⟨(decI n).toArray⟩ := by
    unfold decV valT
    have hr : qbf (⟨0, n, ⟨#[]⟩, 0, 0⟩ : Val) = true := by
      unfold qbf
      simp only
      rw [if_pos trivial, decide_eq_true (show -9007199254740992 ≤ n by omega), decide_eq_true (show n ≤ 9007199254740992 by omega)]
      have e1 : (⟨#[]⟩ : ByteArray).toList.isEmpty = true := by rw [ByteArray.toList_eq]; rfl
      have e2 : (!decide (Pt.mk 0 0 ≠ Pt.zero)) = true := by decide
      rw [e1, e2]; rfl
    rw [if_neg (by rw [show (Nd.mk 0 0 n ⟨#[]⟩ 0 0).val = ⟨0, n, ⟨#[]⟩, 0, 0⟩ from rfl, hr]; decide), if_pos rfl]
  rw [e]
  exact rf_decI n (by omega) (by omega)
def rbc.f (a0_0 : ByteArray) (a0_1 : Int) (a0_2 : Int) (a0_3 : Int) (a0_4 : Int) (a0_5 : Int) (l0_6 : List S57) (l0_7 : List S57) (l0_8 : List S57) (a0_9 : ByteArray) (a0_10 : Bool) : Option ByteArray :=
  if exprR (l0_6.map qaw) = true ∧ (l0_7.length = 0 ∨ exprR (l0_7.map qaw) = true) ∧ (l0_8.length = 0 ∨ exprR (l0_8.map qaw) = true) ∧ (l0_8.length = 0 → a0_9 ≠ ⟨#[]⟩) ∧ a0_0.size ≤ 1000000 ∧ a0_9.size ≤ 1000000 ∧ numOk a0_1 ∧ numOk a0_2 ∧ numOk a0_3 ∧ numOk a0_4 ∧ numOk a0_5
  then some (refText ⟨a0_0, a0_1, a0_2, a0_3, a0_4, a0_5, a0_9, a0_10⟩ l0_7.length decV (textB (l0_6.map qaw)) (textB (l0_7.map qaw)) (textB (l0_8.map qaw))) else none
theorem rbc.calls (a0_0 : ByteArray) (a0_1 : Int) (a0_2 : Int) (a0_3 : Int) (a0_4 : Int) (a0_5 : Int) (A0_6 : Option Addr) (c0_6 : Nat) (l0_6 : List S57) (A0_7 : Option Addr) (c0_7 : Nat) (l0_7 : List S57) (A0_8 : Option Addr) (c0_8 : Nat) (l0_8 : List S57) (a0_9 : ByteArray) (a0_10 : Bool) (r : ByteArray) (w : World) (hr0_6 : Kd.C k57 w A0_6 l0_6.length l0_6) (hc0_6 : l0_6.length ≤ c0_6) (hr0_7 : Kd.C k57 w A0_7 l0_7.length l0_7) (hc0_7 : l0_7.length ≤ c0_7) (hr0_8 : Kd.C k57 w A0_8 l0_8.length l0_8) (hc0_8 : l0_8.length ≤ c0_8) (h : rbc.f a0_0 a0_1 a0_2 a0_3 a0_4 a0_5 l0_6 l0_7 l0_8 a0_9 a0_10 = some r) :
    Calls Tryz.prog 15 #[.agg #[.string a0_0, .int .i64 a0_1, .int .i64 a0_2, .int .i64 a0_3, .int .i64 a0_4, .int .i64 a0_5, .slice A0_6 l0_6.length c0_6, .slice A0_7 l0_7.length c0_7, .slice A0_8 l0_8.length c0_8, .string a0_9, .bool a0_10]] w fun e w' => e = .returned (.string r) ∧ Below w.heap.size w w' := by
  -- uses ram rak rbk rai
  unfold rbc.f at h
  split at h
  · rename_i hc
    obtain ⟨h6, h7, h8, h9, hn, hf, n1, n2, n3, n4, n5⟩ := hc
    injection h with h
    subst h
    have X : ∀ (A : Option Addr) (c : Nat) (l : List S57), exprR (l.map qaw) = true → Kd.C k57 w A l.length l → l.length ≤ c → ∀ W, Below w.heap.size w W →
        Calls Tryz.prog 39 #[.slice A l.length c, .int .i64 0] W fun e W' => e = .returned (.string (textB (l.map qaw))) ∧ Below W.heap.size W W' := by
      intro A c l hl hr hc W hW
      obtain ⟨k, hk⟩ := Ev.rounds (rf_textB l hl)
      exact rak.calls k A c l 0 _ W (Kd.C_below hr hW) hc hk
    refine refwrite_any ⟨a0_0, a0_1, a0_2, a0_3, a0_4, a0_5, a0_9, a0_10⟩ A0_6 A0_7 A0_8 l0_6.length c0_6 l0_7.length c0_7 l0_8.length c0_8 _ _ _ decV w (fun n hnn W => ?_) (fun c W => ?_) (X A0_6 c0_6 l0_6 h6 hr0_6 hc0_6) (fun h => X A0_7 c0_7 l0_7 (h7.resolve_left (by omega)) hr0_7 hc0_7) (fun h => X A0_8 c0_8 l0_8 (h8.resolve_left (fun h0 => h9 h0 h)) hr0_8 hc0_8) hn (fun n => by have := decV_len n; omega) (rf_textB_len _ (.inr h6)) (rf_textB_len _ h7) (rf_textB_len _ h8) hf
    · have hok : numOk n := by
        simp only at hnn
        rcases hnn with rfl | rfl | rfl | rfl | rfl <;> assumption
      obtain ⟨k, hk⟩ := Ev.rounds (rf_decV n hok)
      exact ram.calls k n _ W hk
    · refine (rbk.calls c (yesB c) W ?_).mono fun e w' ⟨h1, h2⟩ => ⟨h1, h2.below⟩
      unfold rbk.f yesB
      cases c <;> rfl
  · cases h
end Go.Proofs.YtejbpnhondpnfaaGreat.PJob
namespace Go.Proofs.YtejbpnhondpnfaaGreat.PJob
open Go.RowKit Go.Proofs.YtejbpnhondpnfaaGreatW.PrintWords Go.Proofs.YtejbpnhondpnfaaGreatW.PrintLast Go.Proofs.YtejbpnhondpnfaaGreatW.PrintMore
set_option maxRecDepth 100000
theorem jl_awake : rbh.f = some true := rfl
def SmallP (nm : ByteArray) (l6 l7 l8 : List S57) (s : Int) : Prop := s = 0 ∨ (s = 1 ∧ l6.length < 200 ∧ l7.length < 200 ∧ l8.length < 200 ∧ nm.size ≤ 100)
theorem jl_small (nm : ByteArray) (ta pa kk n fu : Int) (l6 l7 l8 : List S57) (fo : ByteArray) (cb : Bool) : ∃ s, SmallP nm l6 l7 l8 s ∧ Ev (fun k => rae.f k nm ta pa kk n fu l6 l7 l8 fo cb) s := by
 have tail : ∀ x3 : Int, ∃ s, SmallP nm l6 l7 l8 s ∧ (if x3 > 5500 then (some 0) else (if (l6.length : Int) ≥ 200 then (some 0) else (if (l7.length : Int) ≥ 200 then (some 0) else (if (l8.length : Int) ≥ 200 then (some 0) else (if (nm.size : Int) > 100 then (some 0) else (some (1 : Int))))))) = some s := by
  intro x3
  by_cases c1 : x3 > 5500
  ·
   exact ⟨0, .inl rfl, by rw [if_pos c1]⟩
  by_cases c2 : (l6.length : Int) ≥ 200
  ·
   exact ⟨0, .inl rfl, by rw [if_neg c1, if_pos c2]⟩
  by_cases c3 : (l7.length : Int) ≥ 200
  ·
   exact ⟨0, .inl rfl, by rw [if_neg c1, if_neg c2, if_pos c3]⟩
  by_cases c4 : (l8.length : Int) ≥ 200
  ·
   exact ⟨0, .inl rfl, by rw [if_neg c1, if_neg c2, if_neg c3, if_pos c4]⟩
  by_cases c5 : (nm.size : Int) > 100
  ·
   exact ⟨0, .inl rfl, by rw [if_neg c1, if_neg c2, if_neg c3, if_neg c4, if_pos c5]⟩
  ·
   exact ⟨1, .inr ⟨rfl, by omega, by omega, by omega, by omega⟩, by rw [if_neg c1, if_neg c2, if_neg c3, if_neg c4, if_neg c5]⟩
 have wi : ∀ i : Nat, i < 200 → wrap64 ((i : Int) + 1) = ((i + 1 : Nat) : Int) := by intro i hi; unfold wrap64; omega
 have L2 : ∀ (m i : Nat) (x3 : Int), i + m = 200 → ∃ s, SmallP nm l6 l7 l8 s ∧ Ev (fun k => rae.l2 k x3 (i : Int) nm ta pa kk n fu l6 l7 l8 fo cb) s := by
  intro m
  induction m with
  | zero =>
   intro i x3 hi
   obtain ⟨s, hs, ht⟩ := tail x3
   refine ⟨s, hs, Ev.step (f := fun _ => some s) (fun k => ?_) (Ev.now _)⟩
   have f1 : ¬ (i : Int) < 200 := by omega
   simp only [rae.l2]
   by_cases c : (i : Int) < (l8.length : Int)
   ·
    rw [if_pos c, if_neg f1]; exact ht
   ·
    rw [if_neg c]; exact ht
  | succ m ih =>
   intro i x3 hi
   have f1 : (i : Int) < 200 := by omega
   have f2 : 0 ≤ (i : Int) := by omega
   have hw := wi i (by omega)
   by_cases c : (i : Int) < (l8.length : Int)
   ·
    obtain ⟨s, hs, hv⟩ := ih (i + 1) (wrap64 (x3 + (mn (((qae l8 (i : Int)).f1.f2).size : Int) 10000))) (by omega)
    refine ⟨s, hs, Ev.step (fun k => ?_) hv⟩
    simp only [rae.l2]
    rw [if_pos c, if_pos f1, if_pos f2, hw]
   ·
    obtain ⟨s, hs, ht⟩ := tail x3
    refine ⟨s, hs, Ev.step (f := fun _ => some s) (fun k => ?_) (Ev.now _)⟩
    simp only [rae.l2]
    rw [if_neg c]; exact ht
 have J3 : ∀ x3 : Int, ∃ s, SmallP nm l6 l7 l8 s ∧ Ev (fun k => rae.j3 k x3 nm ta pa kk n fu l6 l7 l8 fo cb) s := by
  intro x3
  obtain ⟨s, hs, hv⟩ := L2 200 0 x3 rfl
  exact ⟨s, hs, Ev.step (fun k => by simp only [rae.j3]; rfl) hv⟩
 have L1 : ∀ (m i : Nat) (x3 : Int), i + m = 200 → ∃ s, SmallP nm l6 l7 l8 s ∧ Ev (fun k => rae.l1 k x3 (i : Int) nm ta pa kk n fu l6 l7 l8 fo cb) s := by
  intro m
  induction m with
  | zero =>
   intro i x3 hi
   obtain ⟨s, hs, ht⟩ := J3 x3
   refine ⟨s, hs, Ev.step (fun k => ?_) ht⟩
   have f1 : ¬ (i : Int) < 200 := by omega
   simp only [rae.l1]
   by_cases c : (i : Int) < (l7.length : Int)
   ·
    rw [if_pos c, if_neg f1]
   ·
    rw [if_neg c]
  | succ m ih =>
   intro i x3 hi
   have f1 : (i : Int) < 200 := by omega
   have f2 : 0 ≤ (i : Int) := by omega
   have hw := wi i (by omega)
   by_cases c : (i : Int) < (l7.length : Int)
   ·
    obtain ⟨s, hs, hv⟩ := ih (i + 1) (wrap64 (x3 + (mn (((qae l7 (i : Int)).f1.f2).size : Int) 10000))) (by omega)
    refine ⟨s, hs, Ev.step (fun k => ?_) hv⟩
    simp only [rae.l1]
    rw [if_pos c, if_pos f1, if_pos f2, hw]
   ·
    obtain ⟨s, hs, ht⟩ := J3 x3
    refine ⟨s, hs, Ev.step (fun k => ?_) ht⟩
    simp only [rae.l1]
    rw [if_neg c]
 have J1 : ∀ x3 : Int, ∃ s, SmallP nm l6 l7 l8 s ∧ Ev (fun k => rae.j1 k x3 nm ta pa kk n fu l6 l7 l8 fo cb) s := by
  intro x3
  obtain ⟨s, hs, hv⟩ := L1 200 0 x3 rfl
  exact ⟨s, hs, Ev.step (fun k => by simp only [rae.j1]; rfl) hv⟩
 have L0 : ∀ (m i : Nat) (x3 : Int), i + m = 200 → ∃ s, SmallP nm l6 l7 l8 s ∧ Ev (fun k => rae.l0 k x3 (i : Int) nm ta pa kk n fu l6 l7 l8 fo cb) s := by
  intro m
  induction m with
  | zero =>
   intro i x3 hi
   obtain ⟨s, hs, ht⟩ := J1 x3
   refine ⟨s, hs, Ev.step (fun k => ?_) ht⟩
   have f1 : ¬ (i : Int) < 200 := by omega
   simp only [rae.l0]
   by_cases c : (i : Int) < (l6.length : Int)
   ·
    rw [if_pos c, if_neg f1]
   ·
    rw [if_neg c]
  | succ m ih =>
   intro i x3 hi
   have f1 : (i : Int) < 200 := by omega
   have f2 : 0 ≤ (i : Int) := by omega
   have hw := wi i (by omega)
   by_cases c : (i : Int) < (l6.length : Int)
   ·
    obtain ⟨s, hs, hv⟩ := ih (i + 1) (wrap64 (x3 + (mn (((qae l6 (i : Int)).f1.f2).size : Int) 10000))) (by omega)
    refine ⟨s, hs, Ev.step (fun k => ?_) hv⟩
    simp only [rae.l0]
    rw [if_pos c, if_pos f1, if_pos f2, hw]
   ·
    obtain ⟨s, hs, ht⟩ := J1 x3
    refine ⟨s, hs, Ev.step (fun k => ?_) ht⟩
    simp only [rae.l0]
    rw [if_neg c]
 unfold rae.f
 exact L0 200 0 _ rfl
def convN (x : S57) : S114 := ⟨x.f0, x.f1⟩
theorem convN_nd (l : List S57) : (l.map convN).map toNd = l.map qaw := by
 rw [List.map_map]; rfl
theorem jl_of (l : List S57) (hl : l.length ≤ 1000000) : Ev (fun k => ral.f k l) (l.map convN) := by
 have loop : ∀ (m i : Nat), i + m = l.length → Ev (fun k => ral.l0 k l ((l.take i).map convN) (i : Int)) (l.map convN) := by
  intro m
  induction m with
  | zero =>
   intro i hi
   rw [List.take_of_length_le (by omega)]
   have f1 : ¬ (i : Int) < (l.length : Int) := by omega
   refine Ev.step (f := fun _ => some (l.map convN)) (fun k => ?_) (Ev.now _)
   simp only [ral.l0]
   rw [if_neg f1]
  | succ m ih =>
   intro i hi
   have hlt : i < l.length := by omega
   have f1 : (i : Int) < (l.length : Int) := by omega
   have f2 : 0 ≤ (i : Int) := by omega
   have f3 : ((l.take i).map convN).length < 2513169434916 := by
    rw [List.length_map, List.length_take]
    exact Nat.lt_of_le_of_lt (Nat.min_le_left _ _) (by omega)
   have hrd : qae l (i : Int) = l[i] := by simp [qae, hlt]
   have hw : wrap64 ((i : Int) + 1) = ((i + 1 : Nat) : Int) := by unfold wrap64; omega
   have ih := ih (i + 1) (by omega)
   rw [List.take_succ_eq_append_getElem hlt, List.map_append] at ih
   refine Ev.step (fun k => ?_) ih
   simp only [ral.l0]
   rw [if_pos f1, if_pos f2, if_pos f3, hrd, hw]
   rfl
 unfold ral.f
 exact loop l.length 0 (by omega)
theorem jl_Of (nm : ByteArray) (ta pa kk n fu : Int) (l6 l7 l8 : List S57) (fo : ByteArray) (cb : Bool) (h6 : l6.length ≤ 1000000) (h7 : l7.length ≤ 1000000) (h8 : l8.length ≤ 1000000) :
  Ev (fun k => ras.f k nm ta pa kk n fu l6 l7 l8 fo cb) (nm, ta, pa, kk, n, fu, l6.map convN, l7.map convN, l8.map convN, fo, cb) := by
 unfold ras.f
 exact Ev.bind (jl_of l6 h6) (Ev.bind (jl_of l7 h7) (Ev.bind (jl_of l8 h8) (Ev.now _)))
end Go.Proofs.YtejbpnhondpnfaaGreat.PJob
