/- JobPlays: the row and what it needs, part 5. -/
import Derived.Test.YtejbpnhondpnfaaGreatJP2
import Derived.Test.YtejbpnhondpnfaaGreatJP4
import Derived.Deep.RegionLaw
import Derived.Test.YtejbpnhondpnfaaGreatJP3
import Derived.Test.YtejbpnhondpnfaaGreatProg
import Derived.MapKept
import Derived.BigQuiet
import Derived.Laws.EntriesVeiled
set_option linter.unusedSimpArgs false
set_option linter.unusedVariables false
namespace Go.Proofs.YtejbpnhondpnfaaGreat.PJob
open Go.RowKit Go.Proofs.YtejbpnhondpnfaaGreatW.PrintWords Go.Proofs.YtejbpnhondpnfaaGreatW.PrintLast Go.Proofs.YtejbpnhondpnfaaGreatW.PrintMore
attribute [local go_sem] qaz qbe
attribute [local go_sem high] eqA45
mutual
def rac.j0 : Nat → List (S57) → Int → Int → Bool → Option (Int)
 | 0, _, _, _, _ => none
 | k + 1, x0, x1, x2, x16 => if x16 = true then (some (-1)) else (if 0 ≤ x1 then (if x1 < (x0.length : Int) then (if ((qae x0 x1).f0) = 0 then ((raq.f ((qae x0 x1).f1.f0) ((qae x0 x1).f1.f1) ((qae x0 x1).f1.f2) ((qae x0 x1).f1.f3.f0) ((qae x0 x1).f1.f3.f1)).bind fun t115 => (rac.j1 k x0 x1 x2 t115 ((qae x0 x1).f0) ((qae x0 x1).f1.f0) ((qae x0 x1).f1.f1) ((qae x0 x1).f1.f2) ((qae x0 x1).f1.f3.f0) ((qae x0 x1).f1.f3.f1))) else (rac.j1 k x0 x1 x2 false ((qae x0 x1).f0) ((qae x0 x1).f1.f0) ((qae x0 x1).f1.f1) ((qae x0 x1).f1.f2) ((qae x0 x1).f1.f3.f0) ((qae x0 x1).f1.f3.f1))) else (none)) else (none))
def rac.j1 : Nat → List (S57) → Int → Int → Bool → Int → Int → Int → ByteArray → Int → Int → Option (Int)
 | 0, _, _, _, _, _, _, _, _, _, _ => none
 | k + 1, x0, x1, x2, x28, z0, z1, z2, z3, z4, z5 => if x28 = true then (some (wrap64 (x1 + 1))) else (if z0 = 1 then ((raq.f z1 z2 z3 z4 z5).bind fun t116 => (if t116 = true then (if z1 = 0 then (if z2 ≥ 0 then (rac.j2 k x0 x1 x2 (decide (z2 ≤ 4)) z0 z1 z2 z3 z4 z5) else (rac.j2 k x0 x1 x2 false z0 z1 z2 z3 z4 z5)) else (rac.j2 k x0 x1 x2 false z0 z1 z2 z3 z4 z5)) else (rac.j2 k x0 x1 x2 false z0 z1 z2 z3 z4 z5))) else (rac.j2 k x0 x1 x2 false z0 z1 z2 z3 z4 z5))
def rac.j2 : Nat → List (S57) → Int → Int → Bool → Int → Int → Int → ByteArray → Int → Int → Option (Int)
 | 0, _, _, _, _, _, _, _, _, _, _ => none
 | k + 1, x0, x1, x2, x56, z0, z1, z2, z3, z4, z5 => if x56 = true then (some (wrap64 (x1 + 1))) else ((rao.f z0).bind fun t117 => (if t117.toList = ([] : List UInt8) then (rac.j3 k x0 x1 x2 true z0 z1 z2 z3 z4 z5) else (rac.j3 k x0 x1 x2 (!(z1 == 0) || (!(z2 == 0) || (!(z3.toList == ([] : List UInt8)) || ((!(z4 == 0) || (!(z5 == 0))))))) z0 z1 z2 z3 z4 z5)))
def rac.j3 : Nat → List (S57) → Int → Int → Bool → Int → Int → Int → ByteArray → Int → Int → Option (Int)
 | 0, _, _, _, _, _, _, _, _, _, _ => none
 | k + 1, x0, x1, x2, x68, z0, z1, z2, z3, z4, z5 => if x68 = true then (some (-1)) else (rac.l0 k x0 (wrap64 (x1 + 1)) x2 0 z0 z1 z2 z3 z4 z5)
def rac.l0 : Nat → List (S57) → Int → Int → Int → Int → Int → Int → ByteArray → Int → Int → Option (Int)
 | 0, _, _, _, _, _, _, _, _, _, _ => none
 | k + 1, x0, x1, x2, x8, z0, z1, z2, z3, z4, z5 => (raf.f k z0).bind fun t118 => (if x8 < t118 then ((rac.f k x0 x1 (wrap64 (x2 + 1))).bind fun t119 => (if t119 < 0 then (some (-1)) else (rac.l0 k x0 t119 x2 (wrap64 (x8 + 1)) z0 z1 z2 z3 z4 z5))) else (some x1))
def rac.f : Nat → List (S57) → Int → Int → Option (Int)
 | 0, _, _, _ => none
 | k + 1, l0, a1, a2 => if a1 ≥ (l0.length : Int) then (rac.j0 k l0 a1 a2 true) else (rac.j0 k l0 a1 a2 (decide (a2 > 24)))
end
set_option maxHeartbeats 8000000 in
set_option maxRecDepth 100000 in
theorem rac.calls (k : Nat) : ∀ (A0 : Option Addr) (c0 : Nat) (l0 : List (S57)) (a1 : Int) (a2 : Int) (r : Int) (w : World) (hr0 : Kd.C k57 w A0 l0.length l0) (hc0 : l0.length ≤ c0) (h : rac.f k l0 a1 a2 = some r),
  Calls Tryz.prog 58 #[.slice A0 l0.length c0, .int .i64 a1, .int .i64 a2] w fun e w' => e = .returned (.int .i64 r) ∧ Below w.heap.size w w' := by
 induction k using Nat.strongRecOn with
 | _ k ih =>
 intro A0 c0 l0 a1 a2 r w hr0 hc0 h
 cases k with
 | zero => exact absurd h (by simp [rac.f])
 | succ k =>
 simp only [rac.f] at h
 have hu57 := Tryz.underlying57
 have hu45 := Tryz.underlying45
 have HR0 := Aside0.mk hr0
 have HC0 := Aside0.mk hc0
 clear hr0 hc0
 have HB := Aside0.mk (Below.refl w.heap.size w)
 have H : (if a1 ≥ (l0.length : Int) then (rac.j0 k l0 a1 a2 true) else (rac.j0 k l0 a1 a2 (decide (a2 > 24)))) = some r := h
 clear h
 have HC4 := Aside0.mk H
 clear H
 go_enter Tryz.func58, Tryz.ntmps58
 go_upto_region 1 with (fail)
 go_cut [16] (fun v16 wc => ∃ (kq : Nat) (x16_3 : Bool), v16 = .bool x16_3 ∧ Aside0 (rac.j0 kq l0 a1 a2 x16_3 = some r) ∧ Aside0 (kq ≤ k) ∧ Aside0 (Below w.heap.size w wc))
 case first =>
  have H := HC4.out
  clear HC4
  by_cases c5 : a1 ≥ (l0.length : Int)
  ·
   rw [if_pos c5] at H
   have c5b0 : decide ((l0.length : Int) ≤ a1) = true := decide_eq_true c5
   clear c5
   (first | rw [c5b0] | (simp only [qap, i32_w]; rw [c5b0]) | skip)
   have H' := Aside0.mk H
   clear H
   go_wp2
   go_meet
   case rel => exact ⟨_, (true), (by first | rfl | (simp; done) | (simp [*]; done)), H', ⟨by first | omega | exact Nat.le_refl _⟩, ⟨by repeat (first | (with_reducible first | exact HB.out | apply qad | apply qab | apply qac) | exact HB.out)⟩⟩
  ·
   rw [if_neg c5] at H
   have c5b0 : decide ((l0.length : Int) ≤ a1) = false := decide_eq_false c5
   clear c5
   (first | rw [c5b0] | (simp only [qap, i32_w]; rw [c5b0]) | skip)
   have H' := Aside0.mk H
   clear H
   go_wp2
   go_meet
   case rel => exact ⟨_, (decide (a2 > 24)), (by first | rfl | (simp; done) | (simp [*]; done)), H', ⟨by first | omega | exact Nat.le_refl _⟩, ⟨by repeat (first | (with_reducible first | exact HB.out | apply qad | apply qab | apply qac) | exact HB.out)⟩⟩
 case rest =>
  clear HC4
  try clear p2
  try clear c5
  try clear c5b0
  obtain ⟨kq, x16_3, rfl, HA, HJ3, HB⟩ := hcut
  cases kq with
  | zero => exact absurd HA.out (by simp [rac.j0])
  | succ kj3 =>
   have H := HA.out
   clear HA
   simp only [rac.j0] at H
   by_cases c6 : x16_3 = true
   ·
    subst c6
    have H1 : (some (-1)) = some r := by rw [if_pos rfl] at H; exact H
    clear H
    have H := H1
    clear H1
    obtain rfl := Option.some.inj H
    go_wp2
    go_ret
    exact ⟨by first | rfl | (simp [*] <;> rfl), by repeat (first | (with_reducible first | exact HB.out | apply qad | apply qab | apply qac) | exact HB.out)⟩
   ·
    replace c6 := Bool.eq_false_iff.mpr c6
    subst c6
    have H1 : (if 0 ≤ a1 then (if a1 < (l0.length : Int) then (if ((qae l0 a1).f0) = 0 then ((raq.f ((qae l0 a1).f1.f0) ((qae l0 a1).f1.f1) ((qae l0 a1).f1.f2) ((qae l0 a1).f1.f3.f0) ((qae l0 a1).f1.f3.f1)).bind fun t115 => (rac.j1 kj3 l0 a1 a2 t115 ((qae l0 a1).f0) ((qae l0 a1).f1.f0) ((qae l0 a1).f1.f1) ((qae l0 a1).f1.f2) ((qae l0 a1).f1.f3.f0) ((qae l0 a1).f1.f3.f1))) else (rac.j1 kj3 l0 a1 a2 false ((qae l0 a1).f0) ((qae l0 a1).f1.f0) ((qae l0 a1).f1.f1) ((qae l0 a1).f1.f2) ((qae l0 a1).f1.f3.f0) ((qae l0 a1).f1.f3.f1))) else (none)) else (none)) = some r := by rw [if_neg (show ¬ (false = true) by decide)] at H; exact H
    clear H
    have H := H1
    clear H1
    by_cases c7 : 0 ≤ a1
    ·
     rw [if_pos c7] at H
     have c7b0 : decide (0 ≤ a1) = true := decide_eq_true c7
     clear c7
     by_cases c8 : a1 < (l0.length : Int)
     ·
      rw [if_pos c8] at H
      have c8b0 : decide (a1 < (l0.length : Int)) = true := decide_eq_true c8
      clear c8
      have HC9 := Aside0.mk H
      clear H
      have p113 : 0 ≤ (a1 : Int) := of_decide_eq_true (by first | (with_reducible assumption) | assumption)
      have q113 : a1 < (l0.length : Int) := of_decide_eq_true (by first | (with_reducible assumption) | assumption)
      obtain ⟨ad113, e113, hx113_0, hx113_1, hx113_2, hx113_3, hx113_4, hx113_5⟩ := at_T57 HR0.out a1 p113 q113
      cases e113
      replace hx113_0 := (HB.out.cell (World.block_lt_of_cell? w _ hx113_0)).trans hx113_0
      replace hx113_1 := (HB.out.cell (World.block_lt_of_cell? w _ hx113_1)).trans hx113_1
      replace hx113_2 := (HB.out.cell (World.block_lt_of_cell? w _ hx113_2)).trans hx113_2
      replace hx113_3 := (HB.out.cell (World.block_lt_of_cell? w _ hx113_3)).trans hx113_3
      replace hx113_4 := (HB.out.cell (World.block_lt_of_cell? w _ hx113_4)).trans hx113_4
      replace hx113_5 := (HB.out.cell (World.block_lt_of_cell? w _ hx113_5)).trans hx113_5
      replace p113 := eq_true p113
      replace q113 := eq_true q113
      go_upto_region 4 with (first | ((with_reducible refine qav (N := 7) rfl ?_); refine qau ?hg (N := 7) ?hd (cs := #[.int .i64 0, .int .i64 0, .int .i64 0, .string (⟨#[]⟩ : ByteArray), .int .i64 0, .int .i64 0]) (t := 57) ?hr ?_; (case hd => rfl); (case hg => rfl); (case hr => first | (go_simp; done) | (go_simp; rfl)); intro gb114 hg w10 hbox hb; have n0_ := Aside0.mk (qah (by repeat (first | (with_reducible first | exact HB.out | apply qad | apply qab | apply qac) | exact HB.out)) hb); have n1_ := Aside0.mk (hbox); have n2_ := Aside0.mk ((by rw [hg]; exact (qaj (by repeat (first | (with_reducible first | exact HB.out | apply qad | apply qab | apply qac) | exact HB.out))) : w.heap.size ≤ gb114)); have n3_ := Aside0.mk ((by rw [hg]; exact (qaj (by repeat (first | (with_reducible first | exact HB.out | apply qad | apply qab | apply qac) | exact HB.out))) : w.heap.size ≤ gb114)); clear HB; have HB := n0_; have BK114 := n1_; have GW114 := n2_; have GE114 := n3_; clear n0_ n1_ n2_ n3_; clear hb hbox hg; obtain ⟨G11_0, G11_1, G11_2, G11_3, G11_4, G11_5, F11_0, F11_1, F11_2, F11_3, F11_4, F11_5⟩ := shr6 BK114.out))
      (try simp only [Act.put, sIa, sIz, sIs])
      go_cut [28] (fun v28 wc => ∃ (kq : Nat) (x28_8 : Bool), v28 = .bool x28_8 ∧ Aside0 (rac.j1 kq l0 a1 a2 x28_8 ((qae l0 a1).f0) ((qae l0 a1).f1.f0) ((qae l0 a1).f1.f1) ((qae l0 a1).f1.f2) ((qae l0 a1).f1.f3.f0) ((qae l0 a1).f1.f3.f1) = some r) ∧ Aside0 (kq ≤ kj3) ∧ Aside0 (wc.heap[gb114]? = some (.cells #[.int .i64 ((qae l0 a1).f0), .int .i64 ((qae l0 a1).f1.f0), .int .i64 ((qae l0 a1).f1.f1), .string ((qae l0 a1).f1.f2), .int .i64 ((qae l0 a1).f1.f3.f0), .int .i64 ((qae l0 a1).f1.f3.f1)] 57 (0, 0))) ∧ Aside0 (Below w.heap.size w wc))
      case first =>
       have H := HC9.out
       clear HC9
       by_cases c12 : ((qae l0 a1).f0) = 0
       ·
        rw [if_pos c12] at H
        have c12b0 : (((qae l0 a1).f0) == 0) = true := beq_iff_eq.mpr c12
        have c12b1 : (((qae l0 a1).f0) != 0) = false := bne_eq_false_iff_eq.mpr c12
        clear c12
        (first | rw [c12b0] | (simp only [qap, i32_w]; rw [c12b0]) | skip)
        replace H := Option.bind_eq_some_iff.mp H
        obtain ⟨t115, A130, H⟩ := H
        replace H : (rac.j1 kj3 l0 a1 a2 t115 ((qae l0 a1).f0) ((qae l0 a1).f1.f0) ((qae l0 a1).f1.f1) ((qae l0 a1).f1.f2) ((qae l0 a1).f1.f3.f0) ((qae l0 a1).f1.f3.f1)) = some r := H
        have A13 := Aside0.mk A130
        clear A130
        have H' := Aside0.mk H
        clear H
        obtain ⟨G14_0, G14_1, G14_2, G14_3, G14_4, G14_5, F14_0, F14_1, F14_2, F14_3, F14_4, F14_5⟩ := shr6 BK114.out
        go_wp2_with (first | (go_at_call 49; (with_reducible refine (raq.calls ((qae l0 a1).f1.f0) ((qae l0 a1).f1.f1) ((qae l0 a1).f1.f2) ((qae l0 a1).f1.f3.f0) ((qae l0 a1).f1.f3.f1) t115 _ A13.out).mono ?_); rintro e w15 ⟨rfl, hb⟩; have n0_ := Aside0.mk (qan (g := gb114) (o := .cells #[.int .i64 ((qae l0 a1).f0), .int .i64 ((qae l0 a1).f1.f0), .int .i64 ((qae l0 a1).f1.f1), .string ((qae l0 a1).f1.f2), .int .i64 ((qae l0 a1).f1.f3.f0), .int .i64 ((qae l0 a1).f1.f3.f1)] 57 (0, 0)) (by (with_reducible repeat (first | refine qag ?_ _ | refine qai ?_ | refine blk_alloc ?_ _)); refine qbb (cs := #[.int .i64 ((qae l0 a1).f0), .int .i64 ((qae l0 a1).f1.f0), .int .i64 ((qae l0 a1).f1.f1), .string ((qae l0 a1).f1.f2), .int .i64 ((qae l0 a1).f1.f3.f0), .int .i64 0]) ?_ 5 _ rfl; (with_reducible repeat (first | refine qag ?_ _ | refine qai ?_ | refine blk_alloc ?_ _)); refine qbb (cs := #[.int .i64 ((qae l0 a1).f0), .int .i64 ((qae l0 a1).f1.f0), .int .i64 ((qae l0 a1).f1.f1), .string ((qae l0 a1).f1.f2), .int .i64 0, .int .i64 0]) ?_ 4 _ rfl; (with_reducible repeat (first | refine qag ?_ _ | refine qai ?_ | refine blk_alloc ?_ _)); refine qbb (cs := #[.int .i64 ((qae l0 a1).f0), .int .i64 ((qae l0 a1).f1.f0), .int .i64 ((qae l0 a1).f1.f1), .string (⟨#[]⟩ : ByteArray), .int .i64 0, .int .i64 0]) ?_ 3 _ rfl; (with_reducible repeat (first | refine qag ?_ _ | refine qai ?_ | refine blk_alloc ?_ _)); refine qbb (cs := #[.int .i64 ((qae l0 a1).f0), .int .i64 ((qae l0 a1).f1.f0), .int .i64 0, .string (⟨#[]⟩ : ByteArray), .int .i64 0, .int .i64 0]) ?_ 2 _ rfl; (with_reducible repeat (first | refine qag ?_ _ | refine qai ?_ | refine blk_alloc ?_ _)); refine qbb (cs := #[.int .i64 ((qae l0 a1).f0), .int .i64 0, .int .i64 0, .string (⟨#[]⟩ : ByteArray), .int .i64 0, .int .i64 0]) ?_ 1 _ rfl; (with_reducible repeat (first | refine qag ?_ _ | refine qai ?_ | refine blk_alloc ?_ _)); refine qbb (cs := #[.int .i64 0, .int .i64 0, .int .i64 0, .string (⟨#[]⟩ : ByteArray), .int .i64 0, .int .i64 0]) ?_ 0 _ rfl; (with_reducible repeat (first | refine qag ?_ _ | refine qai ?_ | refine blk_alloc ?_ _)); exact BK114.out) hb); have n1_ := Aside0.mk (qah (by repeat (first | (with_reducible first | exact HB.out | apply qad | apply qab | apply qac | refine qaf ?_ GE114.out) | exact HB.out)) hb); clear BK114; clear HB; have BK114 := n0_; have HB := n1_; clear n0_ n1_; (try clear hb); (try clear hb2); (try clear hk); (try clear hi)))
        go_meet
        case rel => exact ⟨_, (t115), (by first | rfl | (simp; done) | (simp [*]; done)), H', ⟨by have := HJ3.out; first | omega | exact Nat.le_refl _⟩, ⟨by (with_reducible repeat (first | refine qag ?_ _ | refine qai ?_ | refine blk_alloc ?_ _)); exact BK114.out⟩, ⟨by repeat (first | (with_reducible first | exact HB.out | apply qad | apply qab | apply qac | refine qaf ?_ GE114.out) | exact HB.out)⟩⟩
       ·
        rw [if_neg c12] at H
        have c12b0 : (((qae l0 a1).f0) == 0) = false := beq_eq_false_iff_ne.mpr c12
        have c12b1 : (((qae l0 a1).f0) != 0) = true := bne_iff_ne.mpr c12
        (first | rw [c12b0] | (simp only [qap, i32_w]; rw [c12b0]) | skip)
        have H' := Aside0.mk H
        clear H
        obtain ⟨G16_0, G16_1, G16_2, G16_3, G16_4, G16_5, F16_0, F16_1, F16_2, F16_3, F16_4, F16_5⟩ := shr6 BK114.out
        go_wp2
        go_meet
        case rel => exact ⟨_, (false), (by first | rfl | (simp; done) | (simp [*]; done)), H', ⟨by have := HJ3.out; first | omega | exact Nat.le_refl _⟩, ⟨by (with_reducible repeat (first | refine qag ?_ _ | refine qai ?_ | refine blk_alloc ?_ _)); refine qbb (cs := #[.int .i64 ((qae l0 a1).f0), .int .i64 ((qae l0 a1).f1.f0), .int .i64 ((qae l0 a1).f1.f1), .string ((qae l0 a1).f1.f2), .int .i64 ((qae l0 a1).f1.f3.f0), .int .i64 0]) ?_ 5 _ rfl; (with_reducible repeat (first | refine qag ?_ _ | refine qai ?_ | refine blk_alloc ?_ _)); refine qbb (cs := #[.int .i64 ((qae l0 a1).f0), .int .i64 ((qae l0 a1).f1.f0), .int .i64 ((qae l0 a1).f1.f1), .string ((qae l0 a1).f1.f2), .int .i64 0, .int .i64 0]) ?_ 4 _ rfl; (with_reducible repeat (first | refine qag ?_ _ | refine qai ?_ | refine blk_alloc ?_ _)); refine qbb (cs := #[.int .i64 ((qae l0 a1).f0), .int .i64 ((qae l0 a1).f1.f0), .int .i64 ((qae l0 a1).f1.f1), .string (⟨#[]⟩ : ByteArray), .int .i64 0, .int .i64 0]) ?_ 3 _ rfl; (with_reducible repeat (first | refine qag ?_ _ | refine qai ?_ | refine blk_alloc ?_ _)); refine qbb (cs := #[.int .i64 ((qae l0 a1).f0), .int .i64 ((qae l0 a1).f1.f0), .int .i64 0, .string (⟨#[]⟩ : ByteArray), .int .i64 0, .int .i64 0]) ?_ 2 _ rfl; (with_reducible repeat (first | refine qag ?_ _ | refine qai ?_ | refine blk_alloc ?_ _)); refine qbb (cs := #[.int .i64 ((qae l0 a1).f0), .int .i64 0, .int .i64 0, .string (⟨#[]⟩ : ByteArray), .int .i64 0, .int .i64 0]) ?_ 1 _ rfl; (with_reducible repeat (first | refine qag ?_ _ | refine qai ?_ | refine blk_alloc ?_ _)); refine qbb (cs := #[.int .i64 0, .int .i64 0, .int .i64 0, .string (⟨#[]⟩ : ByteArray), .int .i64 0, .int .i64 0]) ?_ 0 _ rfl; (with_reducible repeat (first | refine qag ?_ _ | refine qai ?_ | refine blk_alloc ?_ _)); exact BK114.out⟩, ⟨by repeat (first | (with_reducible first | exact HB.out | apply qad | apply qab | apply qac | refine qaf ?_ GE114.out) | exact HB.out)⟩⟩
      case rest =>
       clear HC9
       try clear c1
       try clear p1
       try clear q1
       try clear hx1
       try clear p2
       try clear c5
       try clear c5b0
       try clear c6
       try clear c7
       try clear c7b0
       try clear c8
       try clear c8b0
       try clear p11
       try clear q11
       try clear hx11
       try clear c12
       try clear c12b0
       try clear c12b1
       try clear G11_0 G11_1 G11_2 G11_3 G11_4 G11_5 F11_0 F11_1 F11_2 F11_3 F11_4 F11_5
       try clear G14_0 G14_1 G14_2 G14_3 G14_4 G14_5 F14_0 F14_1 F14_2 F14_3 F14_4 F14_5
       try clear G16_0 G16_1 G16_2 G16_3 G16_4 G16_5 F16_0 F16_1 F16_2 F16_3 F16_4 F16_5
       try clear hx113_0
       try clear hx113_1
       try clear hx113_2
       try clear hx113_3
       try clear hx113_4
       try clear hx113_5
       try clear p113
       try clear q113
       obtain ⟨kq, x28_8, rfl, HA, HJ8, BK114, HB⟩ := hcut
       cases kq with
       | zero => exact absurd HA.out (by simp [rac.j1])
       | succ kj8 =>
        have H := HA.out
        clear HA
        simp only [rac.j1] at H
        by_cases c17 : x28_8 = true
        ·
         subst c17
         have H1 : (some (wrap64 (a1 + 1))) = some r := by rw [if_pos rfl] at H; exact H
         clear H
         have H := H1
         clear H1
         obtain rfl := Option.some.inj H
         go_wp2
         go_ret
         exact ⟨by first | rfl | (simp [*] <;> rfl), by repeat (first | (with_reducible first | exact HB.out | apply qad | apply qab | apply qac | refine qaf ?_ GE114.out) | exact HB.out)⟩
        ·
         replace c17 := Bool.eq_false_iff.mpr c17
         subst c17
         have H1 : (if ((qae l0 a1).f0) = 1 then ((raq.f ((qae l0 a1).f1.f0) ((qae l0 a1).f1.f1) ((qae l0 a1).f1.f2) ((qae l0 a1).f1.f3.f0) ((qae l0 a1).f1.f3.f1)).bind fun t116 => (if t116 = true then (if ((qae l0 a1).f1.f0) = 0 then (if ((qae l0 a1).f1.f1) ≥ 0 then (rac.j2 kj8 l0 a1 a2 (decide (((qae l0 a1).f1.f1) ≤ 4)) ((qae l0 a1).f0) ((qae l0 a1).f1.f0) ((qae l0 a1).f1.f1) ((qae l0 a1).f1.f2) ((qae l0 a1).f1.f3.f0) ((qae l0 a1).f1.f3.f1)) else (rac.j2 kj8 l0 a1 a2 false ((qae l0 a1).f0) ((qae l0 a1).f1.f0) ((qae l0 a1).f1.f1) ((qae l0 a1).f1.f2) ((qae l0 a1).f1.f3.f0) ((qae l0 a1).f1.f3.f1))) else (rac.j2 kj8 l0 a1 a2 false ((qae l0 a1).f0) ((qae l0 a1).f1.f0) ((qae l0 a1).f1.f1) ((qae l0 a1).f1.f2) ((qae l0 a1).f1.f3.f0) ((qae l0 a1).f1.f3.f1))) else (rac.j2 kj8 l0 a1 a2 false ((qae l0 a1).f0) ((qae l0 a1).f1.f0) ((qae l0 a1).f1.f1) ((qae l0 a1).f1.f2) ((qae l0 a1).f1.f3.f0) ((qae l0 a1).f1.f3.f1)))) else (rac.j2 kj8 l0 a1 a2 false ((qae l0 a1).f0) ((qae l0 a1).f1.f0) ((qae l0 a1).f1.f1) ((qae l0 a1).f1.f2) ((qae l0 a1).f1.f3.f0) ((qae l0 a1).f1.f3.f1))) = some r := by rw [if_neg (show ¬ (false = true) by decide)] at H; exact H
         clear H
         have H := H1
         clear H1
         have HC18 := Aside0.mk H
         clear H
         go_upto_region 6 with (fail)
         go_cut [56] (fun v56 wc => ∃ (kq : Nat) (x56_17 : Bool), v56 = .bool x56_17 ∧ Aside0 (rac.j2 kq l0 a1 a2 x56_17 ((qae l0 a1).f0) ((qae l0 a1).f1.f0) ((qae l0 a1).f1.f1) ((qae l0 a1).f1.f2) ((qae l0 a1).f1.f3.f0) ((qae l0 a1).f1.f3.f1) = some r) ∧ Aside0 (kq ≤ kj8) ∧ Aside0 (wc.heap[gb114]? = some (.cells #[.int .i64 ((qae l0 a1).f0), .int .i64 ((qae l0 a1).f1.f0), .int .i64 ((qae l0 a1).f1.f1), .string ((qae l0 a1).f1.f2), .int .i64 ((qae l0 a1).f1.f3.f0), .int .i64 ((qae l0 a1).f1.f3.f1)] 57 (0, 0))) ∧ Aside0 (Below w.heap.size w wc))
         case first =>
          have H := HC18.out
          clear HC18
          by_cases c19 : ((qae l0 a1).f0) = 1
          ·
           rw [if_pos c19] at H
           have c19b0 : (((qae l0 a1).f0) == 1) = true := beq_iff_eq.mpr c19
           have c19b1 : (((qae l0 a1).f0) != 1) = false := bne_eq_false_iff_eq.mpr c19
           clear c19
           (first | rw [c19b0] | (simp only [qap, i32_w]; rw [c19b0]) | skip)
           replace H := Option.bind_eq_some_iff.mp H
           obtain ⟨t116, A200, H⟩ := H
           replace H : (if t116 = true then (if ((qae l0 a1).f1.f0) = 0 then (if ((qae l0 a1).f1.f1) ≥ 0 then (rac.j2 kj8 l0 a1 a2 (decide (((qae l0 a1).f1.f1) ≤ 4)) ((qae l0 a1).f0) ((qae l0 a1).f1.f0) ((qae l0 a1).f1.f1) ((qae l0 a1).f1.f2) ((qae l0 a1).f1.f3.f0) ((qae l0 a1).f1.f3.f1)) else (rac.j2 kj8 l0 a1 a2 false ((qae l0 a1).f0) ((qae l0 a1).f1.f0) ((qae l0 a1).f1.f1) ((qae l0 a1).f1.f2) ((qae l0 a1).f1.f3.f0) ((qae l0 a1).f1.f3.f1))) else (rac.j2 kj8 l0 a1 a2 false ((qae l0 a1).f0) ((qae l0 a1).f1.f0) ((qae l0 a1).f1.f1) ((qae l0 a1).f1.f2) ((qae l0 a1).f1.f3.f0) ((qae l0 a1).f1.f3.f1))) else (rac.j2 kj8 l0 a1 a2 false ((qae l0 a1).f0) ((qae l0 a1).f1.f0) ((qae l0 a1).f1.f1) ((qae l0 a1).f1.f2) ((qae l0 a1).f1.f3.f0) ((qae l0 a1).f1.f3.f1))) = some r := H
           have A20 := Aside0.mk A200
           clear A200
           by_cases c21 : t116 = true
           ·
            subst c21
            have H1 : (if ((qae l0 a1).f1.f0) = 0 then (if ((qae l0 a1).f1.f1) ≥ 0 then (rac.j2 kj8 l0 a1 a2 (decide (((qae l0 a1).f1.f1) ≤ 4)) ((qae l0 a1).f0) ((qae l0 a1).f1.f0) ((qae l0 a1).f1.f1) ((qae l0 a1).f1.f2) ((qae l0 a1).f1.f3.f0) ((qae l0 a1).f1.f3.f1)) else (rac.j2 kj8 l0 a1 a2 false ((qae l0 a1).f0) ((qae l0 a1).f1.f0) ((qae l0 a1).f1.f1) ((qae l0 a1).f1.f2) ((qae l0 a1).f1.f3.f0) ((qae l0 a1).f1.f3.f1))) else (rac.j2 kj8 l0 a1 a2 false ((qae l0 a1).f0) ((qae l0 a1).f1.f0) ((qae l0 a1).f1.f1) ((qae l0 a1).f1.f2) ((qae l0 a1).f1.f3.f0) ((qae l0 a1).f1.f3.f1))) = some r := by rw [if_pos rfl] at H; exact H
            clear H
            have H := H1
            clear H1
            by_cases c22 : ((qae l0 a1).f1.f0) = 0
            ·
             rw [if_pos c22] at H
             have c22b0 : (((qae l0 a1).f1.f0) == 0) = true := beq_iff_eq.mpr c22
             have c22b1 : (((qae l0 a1).f1.f0) != 0) = false := bne_eq_false_iff_eq.mpr c22
             clear c22
             by_cases c23 : ((qae l0 a1).f1.f1) ≥ 0
             ·
              rw [if_pos c23] at H
              have c23b0 : decide (0 ≤ ((qae l0 a1).f1.f1)) = true := decide_eq_true c23
              clear c23
              have H' := Aside0.mk H
              clear H
              obtain ⟨G24_0, G24_1, G24_2, G24_3, G24_4, G24_5, F24_0, F24_1, F24_2, F24_3, F24_4, F24_5⟩ := shr6 BK114.out
              go_wp2_with (first | (go_at_call 49; (with_reducible refine (raq.calls ((qae l0 a1).f1.f0) ((qae l0 a1).f1.f1) ((qae l0 a1).f1.f2) ((qae l0 a1).f1.f3.f0) ((qae l0 a1).f1.f3.f1) true _ A20.out).mono ?_); rintro e w25 ⟨rfl, hb⟩; have n0_ := Aside0.mk (qan (g := gb114) (o := .cells #[.int .i64 ((qae l0 a1).f0), .int .i64 ((qae l0 a1).f1.f0), .int .i64 ((qae l0 a1).f1.f1), .string ((qae l0 a1).f1.f2), .int .i64 ((qae l0 a1).f1.f3.f0), .int .i64 ((qae l0 a1).f1.f3.f1)] 57 (0, 0)) (by (with_reducible repeat (first | refine qag ?_ _ | refine qai ?_ | refine blk_alloc ?_ _)); exact BK114.out) hb); have n1_ := Aside0.mk (qah (by repeat (first | (with_reducible first | exact HB.out | apply qad | apply qab | apply qac | refine qaf ?_ GE114.out) | exact HB.out)) hb); clear BK114; clear HB; have BK114 := n0_; have HB := n1_; clear n0_ n1_; (try clear hb); (try clear hb2); (try clear hk); (try clear hi); obtain ⟨G26_0, G26_1, G26_2, G26_3, G26_4, G26_5, F26_0, F26_1, F26_2, F26_3, F26_4, F26_5⟩ := shr6 BK114.out))
              go_meet
              case rel => exact ⟨_, (decide (((qae l0 a1).f1.f1) ≤ 4)), (by first | rfl | (simp; done) | (simp [*]; done)), H', ⟨by have := HJ3.out; have := HJ8.out; first | omega | exact Nat.le_refl _⟩, ⟨by (with_reducible repeat (first | refine qag ?_ _ | refine qai ?_ | refine blk_alloc ?_ _)); exact BK114.out⟩, ⟨by repeat (first | (with_reducible first | exact HB.out | apply qad | apply qab | apply qac | refine qaf ?_ GE114.out) | exact HB.out)⟩⟩
             ·
              rw [if_neg c23] at H
              have c23b0 : decide (0 ≤ ((qae l0 a1).f1.f1)) = false := decide_eq_false c23
              clear c23
              have H' := Aside0.mk H
              clear H
              obtain ⟨G27_0, G27_1, G27_2, G27_3, G27_4, G27_5, F27_0, F27_1, F27_2, F27_3, F27_4, F27_5⟩ := shr6 BK114.out
              go_wp2_with (first | (go_at_call 49; (with_reducible refine (raq.calls ((qae l0 a1).f1.f0) ((qae l0 a1).f1.f1) ((qae l0 a1).f1.f2) ((qae l0 a1).f1.f3.f0) ((qae l0 a1).f1.f3.f1) true _ A20.out).mono ?_); rintro e w28 ⟨rfl, hb⟩; have n0_ := Aside0.mk (qan (g := gb114) (o := .cells #[.int .i64 ((qae l0 a1).f0), .int .i64 ((qae l0 a1).f1.f0), .int .i64 ((qae l0 a1).f1.f1), .string ((qae l0 a1).f1.f2), .int .i64 ((qae l0 a1).f1.f3.f0), .int .i64 ((qae l0 a1).f1.f3.f1)] 57 (0, 0)) (by (with_reducible repeat (first | refine qag ?_ _ | refine qai ?_ | refine blk_alloc ?_ _)); exact BK114.out) hb); have n1_ := Aside0.mk (qah (by repeat (first | (with_reducible first | exact HB.out | apply qad | apply qab | apply qac | refine qaf ?_ GE114.out) | exact HB.out)) hb); clear BK114; clear HB; have BK114 := n0_; have HB := n1_; clear n0_ n1_; (try clear hb); (try clear hb2); (try clear hk); (try clear hi); obtain ⟨G29_0, G29_1, G29_2, G29_3, G29_4, G29_5, F29_0, F29_1, F29_2, F29_3, F29_4, F29_5⟩ := shr6 BK114.out))
              go_meet
              case rel => exact ⟨_, (false), (by first | rfl | (simp; done) | (simp [*]; done)), H', ⟨by have := HJ3.out; have := HJ8.out; first | omega | exact Nat.le_refl _⟩, ⟨by (with_reducible repeat (first | refine qag ?_ _ | refine qai ?_ | refine blk_alloc ?_ _)); exact BK114.out⟩, ⟨by repeat (first | (with_reducible first | exact HB.out | apply qad | apply qab | apply qac | refine qaf ?_ GE114.out) | exact HB.out)⟩⟩
            ·
             rw [if_neg c22] at H
             have c22b0 : (((qae l0 a1).f1.f0) == 0) = false := beq_eq_false_iff_ne.mpr c22
             have c22b1 : (((qae l0 a1).f1.f0) != 0) = true := bne_iff_ne.mpr c22
             have H' := Aside0.mk H
             clear H
             obtain ⟨G30_0, G30_1, G30_2, G30_3, G30_4, G30_5, F30_0, F30_1, F30_2, F30_3, F30_4, F30_5⟩ := shr6 BK114.out
             go_wp2_with (first | (go_at_call 49; (with_reducible refine (raq.calls ((qae l0 a1).f1.f0) ((qae l0 a1).f1.f1) ((qae l0 a1).f1.f2) ((qae l0 a1).f1.f3.f0) ((qae l0 a1).f1.f3.f1) true _ A20.out).mono ?_); rintro e w31 ⟨rfl, hb⟩; have n0_ := Aside0.mk (qan (g := gb114) (o := .cells #[.int .i64 ((qae l0 a1).f0), .int .i64 ((qae l0 a1).f1.f0), .int .i64 ((qae l0 a1).f1.f1), .string ((qae l0 a1).f1.f2), .int .i64 ((qae l0 a1).f1.f3.f0), .int .i64 ((qae l0 a1).f1.f3.f1)] 57 (0, 0)) (by (with_reducible repeat (first | refine qag ?_ _ | refine qai ?_ | refine blk_alloc ?_ _)); exact BK114.out) hb); have n1_ := Aside0.mk (qah (by repeat (first | (with_reducible first | exact HB.out | apply qad | apply qab | apply qac | refine qaf ?_ GE114.out) | exact HB.out)) hb); clear BK114; clear HB; have BK114 := n0_; have HB := n1_; clear n0_ n1_; (try clear hb); (try clear hb2); (try clear hk); (try clear hi); obtain ⟨G32_0, G32_1, G32_2, G32_3, G32_4, G32_5, F32_0, F32_1, F32_2, F32_3, F32_4, F32_5⟩ := shr6 BK114.out))
             go_meet
             case rel => exact ⟨_, (false), (by first | rfl | (simp; done) | (simp [*]; done)), H', ⟨by have := HJ3.out; have := HJ8.out; first | omega | exact Nat.le_refl _⟩, ⟨by (with_reducible repeat (first | refine qag ?_ _ | refine qai ?_ | refine blk_alloc ?_ _)); exact BK114.out⟩, ⟨by repeat (first | (with_reducible first | exact HB.out | apply qad | apply qab | apply qac | refine qaf ?_ GE114.out) | exact HB.out)⟩⟩
           ·
            replace c21 := Bool.eq_false_iff.mpr c21
            subst c21
            have H1 : (rac.j2 kj8 l0 a1 a2 false ((qae l0 a1).f0) ((qae l0 a1).f1.f0) ((qae l0 a1).f1.f1) ((qae l0 a1).f1.f2) ((qae l0 a1).f1.f3.f0) ((qae l0 a1).f1.f3.f1)) = some r := by rw [if_neg (show ¬ (false = true) by decide)] at H; exact H
            clear H
            have H := H1
            clear H1
            have H' := Aside0.mk H
            clear H
            obtain ⟨G33_0, G33_1, G33_2, G33_3, G33_4, G33_5, F33_0, F33_1, F33_2, F33_3, F33_4, F33_5⟩ := shr6 BK114.out
            go_wp2_with (first | (go_at_call 49; (with_reducible refine (raq.calls ((qae l0 a1).f1.f0) ((qae l0 a1).f1.f1) ((qae l0 a1).f1.f2) ((qae l0 a1).f1.f3.f0) ((qae l0 a1).f1.f3.f1) false _ A20.out).mono ?_); rintro e w34 ⟨rfl, hb⟩; have n0_ := Aside0.mk (qan (g := gb114) (o := .cells #[.int .i64 ((qae l0 a1).f0), .int .i64 ((qae l0 a1).f1.f0), .int .i64 ((qae l0 a1).f1.f1), .string ((qae l0 a1).f1.f2), .int .i64 ((qae l0 a1).f1.f3.f0), .int .i64 ((qae l0 a1).f1.f3.f1)] 57 (0, 0)) (by (with_reducible repeat (first | refine qag ?_ _ | refine qai ?_ | refine blk_alloc ?_ _)); exact BK114.out) hb); have n1_ := Aside0.mk (qah (by repeat (first | (with_reducible first | exact HB.out | apply qad | apply qab | apply qac | refine qaf ?_ GE114.out) | exact HB.out)) hb); clear BK114; clear HB; have BK114 := n0_; have HB := n1_; clear n0_ n1_; (try clear hb); (try clear hb2); (try clear hk); (try clear hi)))
            go_meet
            case rel => exact ⟨_, (false), (by first | rfl | (simp; done) | (simp [*]; done)), H', ⟨by have := HJ3.out; have := HJ8.out; first | omega | exact Nat.le_refl _⟩, ⟨by (with_reducible repeat (first | refine qag ?_ _ | refine qai ?_ | refine blk_alloc ?_ _)); exact BK114.out⟩, ⟨by repeat (first | (with_reducible first | exact HB.out | apply qad | apply qab | apply qac | refine qaf ?_ GE114.out) | exact HB.out)⟩⟩
          ·
           rw [if_neg c19] at H
           have c19b0 : (((qae l0 a1).f0) == 1) = false := beq_eq_false_iff_ne.mpr c19
           have c19b1 : (((qae l0 a1).f0) != 1) = true := bne_iff_ne.mpr c19
           (first | rw [c19b0] | (simp only [qap, i32_w]; rw [c19b0]) | skip)
           have H' := Aside0.mk H
           clear H
           obtain ⟨G35_0, G35_1, G35_2, G35_3, G35_4, G35_5, F35_0, F35_1, F35_2, F35_3, F35_4, F35_5⟩ := shr6 BK114.out
           go_wp2
           go_meet
           case rel => exact ⟨_, (false), (by first | rfl | (simp; done) | (simp [*]; done)), H', ⟨by have := HJ3.out; have := HJ8.out; first | omega | exact Nat.le_refl _⟩, ⟨by (with_reducible repeat (first | refine qag ?_ _ | refine qai ?_ | refine blk_alloc ?_ _)); exact BK114.out⟩, ⟨by repeat (first | (with_reducible first | exact HB.out | apply qad | apply qab | apply qac | refine qaf ?_ GE114.out) | exact HB.out)⟩⟩
         case rest =>
          clear HC18
          try clear c1
          try clear p1
          try clear q1
          try clear hx1
          try clear c2
          try clear p2
          try clear c5
          try clear c5b0
          try clear c6
          try clear p6
          try clear c7
          try clear c7b0
          try clear c8
          try clear c8b0
          try clear p11
          try clear q11
          try clear hx11
          try clear c12
          try clear c12b0
          try clear c12b1
          try clear c17
          try clear c19
          try clear c19b0
          try clear c19b1
          try clear c21
          try clear c22
          try clear c22b0
          try clear c22b1
          try clear c23
          try clear c23b0
          try clear G11_0 G11_1 G11_2 G11_3 G11_4 G11_5 F11_0 F11_1 F11_2 F11_3 F11_4 F11_5
          try clear G14_0 G14_1 G14_2 G14_3 G14_4 G14_5 F14_0 F14_1 F14_2 F14_3 F14_4 F14_5
          try clear G16_0 G16_1 G16_2 G16_3 G16_4 G16_5 F16_0 F16_1 F16_2 F16_3 F16_4 F16_5
          try clear G24_0 G24_1 G24_2 G24_3 G24_4 G24_5 F24_0 F24_1 F24_2 F24_3 F24_4 F24_5
          try clear G26_0 G26_1 G26_2 G26_3 G26_4 G26_5 F26_0 F26_1 F26_2 F26_3 F26_4 F26_5
          try clear G27_0 G27_1 G27_2 G27_3 G27_4 G27_5 F27_0 F27_1 F27_2 F27_3 F27_4 F27_5
          try clear G29_0 G29_1 G29_2 G29_3 G29_4 G29_5 F29_0 F29_1 F29_2 F29_3 F29_4 F29_5
          try clear G30_0 G30_1 G30_2 G30_3 G30_4 G30_5 F30_0 F30_1 F30_2 F30_3 F30_4 F30_5
          try clear G32_0 G32_1 G32_2 G32_3 G32_4 G32_5 F32_0 F32_1 F32_2 F32_3 F32_4 F32_5
          try clear G33_0 G33_1 G33_2 G33_3 G33_4 G33_5 F33_0 F33_1 F33_2 F33_3 F33_4 F33_5
          try clear G35_0 G35_1 G35_2 G35_3 G35_4 G35_5 F35_0 F35_1 F35_2 F35_3 F35_4 F35_5
          try clear hx113_0
          try clear hx113_1
          try clear hx113_2
          try clear hx113_3
          try clear hx113_4
          try clear hx113_5
          try clear p113
          try clear q113
          obtain ⟨kq, x56_17, rfl, HA, HJ17, BK114, HB⟩ := hcut
          cases kq with
          | zero => exact absurd HA.out (by simp [rac.j2])
          | succ kj17 =>
           have H := HA.out
           clear HA
           simp only [rac.j2] at H
           by_cases c36 : x56_17 = true
           ·
            subst c36
            have H1 : (some (wrap64 (a1 + 1))) = some r := by rw [if_pos rfl] at H; exact H
            clear H
            have H := H1
            clear H1
            obtain rfl := Option.some.inj H
            go_wp2
            go_ret
            exact ⟨by first | rfl | (simp [*] <;> rfl), by repeat (first | (with_reducible first | exact HB.out | apply qad | apply qab | apply qac | refine qaf ?_ GE114.out) | exact HB.out)⟩
           ·
            replace c36 := Bool.eq_false_iff.mpr c36
            subst c36
            have H1 : ((rao.f ((qae l0 a1).f0)).bind fun t117 => (if t117.toList = ([] : List UInt8) then (rac.j3 kj17 l0 a1 a2 true ((qae l0 a1).f0) ((qae l0 a1).f1.f0) ((qae l0 a1).f1.f1) ((qae l0 a1).f1.f2) ((qae l0 a1).f1.f3.f0) ((qae l0 a1).f1.f3.f1)) else (rac.j3 kj17 l0 a1 a2 (!(((qae l0 a1).f1.f0) == 0) || (!(((qae l0 a1).f1.f1) == 0) || (!(((qae l0 a1).f1.f2).toList == ([] : List UInt8)) || ((!(((qae l0 a1).f1.f3.f0) == 0) || (!(((qae l0 a1).f1.f3.f1) == 0))))))) ((qae l0 a1).f0) ((qae l0 a1).f1.f0) ((qae l0 a1).f1.f1) ((qae l0 a1).f1.f2) ((qae l0 a1).f1.f3.f0) ((qae l0 a1).f1.f3.f1)))) = some r := by rw [if_neg (show ¬ (false = true) by decide)] at H; exact H
            clear H
            have H := H1
            clear H1
            have HC37 := Aside0.mk H
            clear H
            go_upto_region 8 with (fail)
            go_cut [68] (fun v68 wc => ∃ (kq : Nat) (x68_36 : Bool), v68 = .bool x68_36 ∧ Aside0 (rac.j3 kq l0 a1 a2 x68_36 ((qae l0 a1).f0) ((qae l0 a1).f1.f0) ((qae l0 a1).f1.f1) ((qae l0 a1).f1.f2) ((qae l0 a1).f1.f3.f0) ((qae l0 a1).f1.f3.f1) = some r) ∧ Aside0 (kq ≤ kj17) ∧ Aside0 (wc.heap[gb114]? = some (.cells #[.int .i64 ((qae l0 a1).f0), .int .i64 ((qae l0 a1).f1.f0), .int .i64 ((qae l0 a1).f1.f1), .string ((qae l0 a1).f1.f2), .int .i64 ((qae l0 a1).f1.f3.f0), .int .i64 ((qae l0 a1).f1.f3.f1)] 57 (0, 0))) ∧ Aside0 (Below w.heap.size w wc))
            case first =>
             have H := HC37.out
             clear HC37
             replace H := Option.bind_eq_some_iff.mp H
             obtain ⟨t117, A380, H⟩ := H
             replace H : (if t117.toList = ([] : List UInt8) then (rac.j3 kj17 l0 a1 a2 true ((qae l0 a1).f0) ((qae l0 a1).f1.f0) ((qae l0 a1).f1.f1) ((qae l0 a1).f1.f2) ((qae l0 a1).f1.f3.f0) ((qae l0 a1).f1.f3.f1)) else (rac.j3 kj17 l0 a1 a2 (!(((qae l0 a1).f1.f0) == 0) || (!(((qae l0 a1).f1.f1) == 0) || (!(((qae l0 a1).f1.f2).toList == ([] : List UInt8)) || ((!(((qae l0 a1).f1.f3.f0) == 0) || (!(((qae l0 a1).f1.f3.f1) == 0))))))) ((qae l0 a1).f0) ((qae l0 a1).f1.f0) ((qae l0 a1).f1.f1) ((qae l0 a1).f1.f2) ((qae l0 a1).f1.f3.f0) ((qae l0 a1).f1.f3.f1))) = some r := H
             have A38 := Aside0.mk A380
             clear A380
             by_cases c39 : t117.toList = ([] : List UInt8)
             ·
              rw [if_pos c39] at H
              have c39b0 : (t117.toList == ([] : List UInt8)) = true := beq_iff_eq.mpr c39
              have c39b1 : (t117.toList != ([] : List UInt8)) = false := bne_eq_false_iff_eq.mpr c39
              clear c39
              (first | rw [c39b0] | (simp only [qap, i32_w]; rw [c39b0]) | skip)
              have H' := Aside0.mk H
              clear H
              obtain ⟨G40_0, G40_1, G40_2, G40_3, G40_4, G40_5, F40_0, F40_1, F40_2, F40_3, F40_4, F40_5⟩ := shr6 BK114.out
              go_wp2_with (first | ((with_reducible refine qat (f := 75) rfl ?_); refine goesL_ (some 61) rfl rfl Tryz.func75 (by kernel_rfl) rfl #[.int .i64 ((qae l0 a1).f0)] rfl (by (try simp only [List.map_toArray, List.map_cons, List.map_nil]); first | done | rfl | (simp only [List.length_drop, List.length_take]; rfl)) ?_; (with_reducible refine (rao.calls ((qae l0 a1).f0) t117 _ A38.out).mono ?_); rintro e w41 ⟨rfl, hb⟩; refine ⟨_, rfl, ?_⟩; have n0_ := Aside0.mk (qan (g := gb114) (o := .cells #[.int .i64 ((qae l0 a1).f0), .int .i64 ((qae l0 a1).f1.f0), .int .i64 ((qae l0 a1).f1.f1), .string ((qae l0 a1).f1.f2), .int .i64 ((qae l0 a1).f1.f3.f0), .int .i64 ((qae l0 a1).f1.f3.f1)] 57 (0, 0)) (by (with_reducible repeat (first | refine qag ?_ _ | refine qai ?_ | refine blk_alloc ?_ _)); exact BK114.out) hb); have n1_ := Aside0.mk (qah (by repeat (first | (with_reducible first | exact HB.out | apply qad | apply qab | apply qac | refine qaf ?_ GE114.out) | exact HB.out)) hb); clear BK114; clear HB; have BK114 := n0_; have HB := n1_; clear n0_ n1_; (try clear hb); (try clear hb2); (try clear hk); (try clear hi)))
              go_meet
              case rel => exact ⟨_, (true), (by first | rfl | (simp; done) | (simp [*]; done)), H', ⟨by have := HJ3.out; have := HJ8.out; have := HJ17.out; first | omega | exact Nat.le_refl _⟩, ⟨by (with_reducible repeat (first | refine qag ?_ _ | refine qai ?_ | refine blk_alloc ?_ _)); exact BK114.out⟩, ⟨by repeat (first | (with_reducible first | exact HB.out | apply qad | apply qab | apply qac | refine qaf ?_ GE114.out) | exact HB.out)⟩⟩
             ·
              rw [if_neg c39] at H
              have c39b0 : (t117.toList == ([] : List UInt8)) = false := beq_eq_false_iff_ne.mpr c39
              have c39b1 : (t117.toList != ([] : List UInt8)) = true := bne_iff_ne.mpr c39
              (first | rw [c39b0] | (simp only [qap, i32_w]; rw [c39b0]) | skip)
              have H' := Aside0.mk H
              clear H
              obtain ⟨G42_0, G42_1, G42_2, G42_3, G42_4, G42_5, F42_0, F42_1, F42_2, F42_3, F42_4, F42_5⟩ := shr6 BK114.out
              go_wp2_with (first | ((with_reducible refine qat (f := 75) rfl ?_); refine goesL_ (some 61) rfl rfl Tryz.func75 (by kernel_rfl) rfl #[.int .i64 ((qae l0 a1).f0)] rfl (by (try simp only [List.map_toArray, List.map_cons, List.map_nil]); first | done | rfl | (simp only [List.length_drop, List.length_take]; rfl)) ?_; (with_reducible refine (rao.calls ((qae l0 a1).f0) t117 _ A38.out).mono ?_); rintro e w43 ⟨rfl, hb⟩; refine ⟨_, rfl, ?_⟩; have n0_ := Aside0.mk (qan (g := gb114) (o := .cells #[.int .i64 ((qae l0 a1).f0), .int .i64 ((qae l0 a1).f1.f0), .int .i64 ((qae l0 a1).f1.f1), .string ((qae l0 a1).f1.f2), .int .i64 ((qae l0 a1).f1.f3.f0), .int .i64 ((qae l0 a1).f1.f3.f1)] 57 (0, 0)) (by (with_reducible repeat (first | refine qag ?_ _ | refine qai ?_ | refine blk_alloc ?_ _)); exact BK114.out) hb); have n1_ := Aside0.mk (qah (by repeat (first | (with_reducible first | exact HB.out | apply qad | apply qab | apply qac | refine qaf ?_ GE114.out) | exact HB.out)) hb); clear BK114; clear HB; have BK114 := n0_; have HB := n1_; clear n0_ n1_; (try clear hb); (try clear hb2); (try clear hk); (try clear hi); obtain ⟨G44_0, G44_1, G44_2, G44_3, G44_4, G44_5, F44_0, F44_1, F44_2, F44_3, F44_4, F44_5⟩ := shr6 BK114.out))
              go_meet
              case rel => exact ⟨_, ((!(((qae l0 a1).f1.f0) == 0) || (!(((qae l0 a1).f1.f1) == 0) || (!(((qae l0 a1).f1.f2).toList == ([] : List UInt8)) || ((!(((qae l0 a1).f1.f3.f0) == 0) || (!(((qae l0 a1).f1.f3.f1) == 0)))))))), (by first | rfl | (simp; done) | (simp [*]; done)), H', ⟨by have := HJ3.out; have := HJ8.out; have := HJ17.out; first | omega | exact Nat.le_refl _⟩, ⟨by (with_reducible repeat (first | refine qag ?_ _ | refine qai ?_ | refine blk_alloc ?_ _)); exact BK114.out⟩, ⟨by repeat (first | (with_reducible first | exact HB.out | apply qad | apply qab | apply qac | refine qaf ?_ GE114.out) | exact HB.out)⟩⟩
            case rest =>
             clear HC37
             try clear c1
             try clear p1
             try clear q1
             try clear hx1
             try clear c2
             try clear p2
             try clear c3
             try clear c5
             try clear c5b0
             try clear c6
             try clear p6
             try clear c7
             try clear c7b0
             try clear c8
             try clear c8b0
             try clear p11
             try clear q11
             try clear hx11
             try clear c12
             try clear c12b0
             try clear c12b1
             try clear c17
             try clear c19
             try clear c19b0
             try clear c19b1
             try clear c21
             try clear c22
             try clear c22b0
             try clear c22b1
             try clear c23
             try clear c23b0
             try clear c36
             try clear c39
             try clear c39b0
             try clear c39b1
             try clear G11_0 G11_1 G11_2 G11_3 G11_4 G11_5 F11_0 F11_1 F11_2 F11_3 F11_4 F11_5
             try clear G14_0 G14_1 G14_2 G14_3 G14_4 G14_5 F14_0 F14_1 F14_2 F14_3 F14_4 F14_5
             try clear G16_0 G16_1 G16_2 G16_3 G16_4 G16_5 F16_0 F16_1 F16_2 F16_3 F16_4 F16_5
             try clear G24_0 G24_1 G24_2 G24_3 G24_4 G24_5 F24_0 F24_1 F24_2 F24_3 F24_4 F24_5
             try clear G26_0 G26_1 G26_2 G26_3 G26_4 G26_5 F26_0 F26_1 F26_2 F26_3 F26_4 F26_5
             try clear G27_0 G27_1 G27_2 G27_3 G27_4 G27_5 F27_0 F27_1 F27_2 F27_3 F27_4 F27_5
             try clear G29_0 G29_1 G29_2 G29_3 G29_4 G29_5 F29_0 F29_1 F29_2 F29_3 F29_4 F29_5
             try clear G30_0 G30_1 G30_2 G30_3 G30_4 G30_5 F30_0 F30_1 F30_2 F30_3 F30_4 F30_5
             try clear G32_0 G32_1 G32_2 G32_3 G32_4 G32_5 F32_0 F32_1 F32_2 F32_3 F32_4 F32_5
             try clear G33_0 G33_1 G33_2 G33_3 G33_4 G33_5 F33_0 F33_1 F33_2 F33_3 F33_4 F33_5
             try clear G35_0 G35_1 G35_2 G35_3 G35_4 G35_5 F35_0 F35_1 F35_2 F35_3 F35_4 F35_5
             try clear G40_0 G40_1 G40_2 G40_3 G40_4 G40_5 F40_0 F40_1 F40_2 F40_3 F40_4 F40_5
             try clear G42_0 G42_1 G42_2 G42_3 G42_4 G42_5 F42_0 F42_1 F42_2 F42_3 F42_4 F42_5
             try clear G44_0 G44_1 G44_2 G44_3 G44_4 G44_5 F44_0 F44_1 F44_2 F44_3 F44_4 F44_5
             try clear hx113_0
             try clear hx113_1
             try clear hx113_2
             try clear hx113_3
             try clear hx113_4
             try clear hx113_5
             try clear p113
             try clear q113
             obtain ⟨kq, x68_36, rfl, HA, HJ36, BK114, HB⟩ := hcut
             cases kq with
             | zero => exact absurd HA.out (by simp [rac.j3])
             | succ kj36 =>
              have H := HA.out
              clear HA
              simp only [rac.j3] at H
              by_cases c45 : x68_36 = true
              ·
               subst c45
               have H1 : (some (-1)) = some r := by rw [if_pos rfl] at H; exact H
               clear H
               have H := H1
               clear H1
               obtain rfl := Option.some.inj H
               go_wp2
               go_ret
               exact ⟨by first | rfl | (simp [*] <;> rfl), by repeat (first | (with_reducible first | exact HB.out | apply qad | apply qab | apply qac | refine qaf ?_ GE114.out) | exact HB.out)⟩
              ·
               replace c45 := Bool.eq_false_iff.mpr c45
               subst c45
               have H1 : (rac.l0 kj36 l0 (wrap64 (a1 + 1)) a2 0 ((qae l0 a1).f0) ((qae l0 a1).f1.f0) ((qae l0 a1).f1.f1) ((qae l0 a1).f1.f2) ((qae l0 a1).f1.f3.f0) ((qae l0 a1).f1.f3.f1)) = some r := by rw [if_neg (show ¬ (false = true) by decide)] at H; exact H
               clear H
               have H := H1
               clear H1
               have H' := Aside0.mk H
               clear H
               go_wp2
               go_loopg [1, 8] kj36 (fun kq v1 v8 w' => ∃ (x1_5 : Int) (x8_5 : Int), v1 = .int .i64 x1_5 ∧ v8 = .int .i64 x8_5 ∧ Aside0 (rac.l0 kq l0 x1_5 a2 x8_5 ((qae l0 a1).f0) ((qae l0 a1).f1.f0) ((qae l0 a1).f1.f1) ((qae l0 a1).f1.f2) ((qae l0 a1).f1.f3.f0) ((qae l0 a1).f1.f3.f1) = some r) ∧ Aside0 (kq ≤ kj36) ∧ Aside0 (w'.heap[gb114]? = some (.cells #[.int .i64 ((qae l0 a1).f0), .int .i64 ((qae l0 a1).f1.f0), .int .i64 ((qae l0 a1).f1.f1), .string ((qae l0 a1).f1.f2), .int .i64 ((qae l0 a1).f1.f3.f0), .int .i64 ((qae l0 a1).f1.f3.f1)] 57 (0, 0))) ∧ Aside0 (Below w.heap.size w w'))
               case atStart => exact ⟨(wrap64 (a1 + 1)), (0), (by first | rfl | (simp; done) | (simp [*]; done)), (by first | rfl | (simp; done) | (simp [*]; done)), H', ⟨Nat.le_refl _⟩, ⟨by (with_reducible repeat (first | refine qag ?_ _ | refine qai ?_ | refine blk_alloc ?_ _)); exact BK114.out⟩, ⟨by repeat (first | (with_reducible first | exact HB.out | apply qad | apply qab | apply qac | refine qaf ?_ GE114.out) | exact HB.out)⟩⟩
               case round =>
                clear H'
                try clear c1
                try clear p1
                try clear q1
                try clear hx1
                try clear c2
                try clear p2
                try clear c3
                try clear c4
                try clear c5
                try clear c5b0
                try clear c6
                try clear p6
                try clear c7
                try clear c7b0
                try clear c8
                try clear c8b0
                try clear p11
                try clear q11
                try clear hx11
                try clear c12
                try clear c12b0
                try clear c12b1
                try clear c17
                try clear c19
                try clear c19b0
                try clear c19b1
                try clear c21
                try clear c22
                try clear c22b0
                try clear c22b1
                try clear c23
                try clear c23b0
                try clear c36
                try clear c39
                try clear c39b0
                try clear c39b1
                try clear c45
                try clear G11_0 G11_1 G11_2 G11_3 G11_4 G11_5 F11_0 F11_1 F11_2 F11_3 F11_4 F11_5
                try clear G14_0 G14_1 G14_2 G14_3 G14_4 G14_5 F14_0 F14_1 F14_2 F14_3 F14_4 F14_5
                try clear G16_0 G16_1 G16_2 G16_3 G16_4 G16_5 F16_0 F16_1 F16_2 F16_3 F16_4 F16_5
                try clear G24_0 G24_1 G24_2 G24_3 G24_4 G24_5 F24_0 F24_1 F24_2 F24_3 F24_4 F24_5
                try clear G26_0 G26_1 G26_2 G26_3 G26_4 G26_5 F26_0 F26_1 F26_2 F26_3 F26_4 F26_5
                try clear G27_0 G27_1 G27_2 G27_3 G27_4 G27_5 F27_0 F27_1 F27_2 F27_3 F27_4 F27_5
                try clear G29_0 G29_1 G29_2 G29_3 G29_4 G29_5 F29_0 F29_1 F29_2 F29_3 F29_4 F29_5
                try clear G30_0 G30_1 G30_2 G30_3 G30_4 G30_5 F30_0 F30_1 F30_2 F30_3 F30_4 F30_5
                try clear G32_0 G32_1 G32_2 G32_3 G32_4 G32_5 F32_0 F32_1 F32_2 F32_3 F32_4 F32_5
                try clear G33_0 G33_1 G33_2 G33_3 G33_4 G33_5 F33_0 F33_1 F33_2 F33_3 F33_4 F33_5
                try clear G35_0 G35_1 G35_2 G35_3 G35_4 G35_5 F35_0 F35_1 F35_2 F35_3 F35_4 F35_5
                try clear G40_0 G40_1 G40_2 G40_3 G40_4 G40_5 F40_0 F40_1 F40_2 F40_3 F40_4 F40_5
                try clear G42_0 G42_1 G42_2 G42_3 G42_4 G42_5 F42_0 F42_1 F42_2 F42_3 F42_4 F42_5
                try clear G44_0 G44_1 G44_2 G44_3 G44_4 G44_5 F44_0 F44_1 F44_2 F44_3 F44_4 F44_5
                try clear hx113_0
                try clear hx113_1
                try clear hx113_2
                try clear hx113_3
                try clear hx113_4
                try clear hx113_5
                try clear p113
                try clear q113
                obtain ⟨x1_5, x8_5, rfl, rfl, HA, HK5, BK114, HB⟩ := hrel
                cases gk with
                | zero => exact absurd HA.out (by simp [rac.l0])
                | succ k5 =>
                 have H := HA.out
                 clear HA
                 simp only [rac.l0] at H
                 replace H := Option.bind_eq_some_iff.mp H
                 obtain ⟨t118, A460, H⟩ := H
                 replace H : (if x8_5 < t118 then ((rac.f k5 l0 x1_5 (wrap64 (a2 + 1))).bind fun t119 => (if t119 < 0 then (some (-1)) else (rac.l0 k5 l0 t119 a2 (wrap64 (x8_5 + 1)) ((qae l0 a1).f0) ((qae l0 a1).f1.f0) ((qae l0 a1).f1.f1) ((qae l0 a1).f1.f2) ((qae l0 a1).f1.f3.f0) ((qae l0 a1).f1.f3.f1)))) else (some x1_5)) = some r := H
                 have A46 := Aside0.mk A460
                 clear A460
                 by_cases c47 : x8_5 < t118
                 ·
                  rw [if_pos c47] at H
                  have c47b0 : decide (x8_5 < t118) = true := decide_eq_true c47
                  clear c47
                  replace H := Option.bind_eq_some_iff.mp H
                  obtain ⟨t119, A480, H⟩ := H
                  replace H : (if t119 < 0 then (some (-1)) else (rac.l0 k5 l0 t119 a2 (wrap64 (x8_5 + 1)) ((qae l0 a1).f0) ((qae l0 a1).f1.f0) ((qae l0 a1).f1.f1) ((qae l0 a1).f1.f2) ((qae l0 a1).f1.f3.f0) ((qae l0 a1).f1.f3.f1))) = some r := H
                  have A48 := Aside0.mk A480
                  clear A480
                  by_cases c49 : t119 < 0
                  ·
                   rw [if_pos c49] at H
                   have c49b0 : decide (t119 < 0) = true := decide_eq_true c49
                   clear c49
                   obtain rfl := Option.some.inj H
                   obtain ⟨G50_0, G50_1, G50_2, G50_3, G50_4, G50_5, F50_0, F50_1, F50_2, F50_3, F50_4, F50_5⟩ := shr6 BK114.out
                   go_wp2_with (first | ((with_reducible refine qat (f := 76) rfl ?_); refine goesL_ (some 74) rfl rfl Tryz.func76 (by kernel_rfl) rfl #[.int .i64 ((qae l0 a1).f0)] rfl (by (try simp only [List.map_toArray, List.map_cons, List.map_nil]); first | done | rfl | (simp only [List.length_drop, List.length_take]; rfl)) ?_; (with_reducible refine (raf.calls k5 ((qae l0 a1).f0) t118 _ A46.out).mono ?_); rintro e w51 ⟨rfl, hb⟩; refine ⟨_, rfl, ?_⟩; have n0_ := Aside0.mk (qan (g := gb114) (o := .cells #[.int .i64 ((qae l0 a1).f0), .int .i64 ((qae l0 a1).f1.f0), .int .i64 ((qae l0 a1).f1.f1), .string ((qae l0 a1).f1.f2), .int .i64 ((qae l0 a1).f1.f3.f0), .int .i64 ((qae l0 a1).f1.f3.f1)] 57 (0, 0)) (by (with_reducible repeat (first | refine qag ?_ _ | refine qai ?_ | refine blk_alloc ?_ _)); exact BK114.out) hb); have n1_ := Aside0.mk (qah (by repeat (first | (with_reducible first | exact HB.out | apply qad | apply qab | apply qac | refine qaf ?_ GE114.out) | exact HB.out)) hb); clear BK114; clear HB; have BK114 := n0_; have HB := n1_; clear n0_ n1_; (try clear hb); (try clear hb2); (try clear hk); (try clear hi)) | ((with_reducible refine qat (f := 58) rfl ?_); refine goesL_ (some 82) rfl rfl Tryz.func58 (by kernel_rfl) rfl #[.slice (some ad113) l0.length c0, .int .i64 x1_5, .int .i64 (wrap64 (a2 + 1))] rfl (by (try simp only [List.map_toArray, List.map_cons, List.map_nil]); first | done | rfl | (simp only [List.length_drop, List.length_take]; rfl)) ?_; (with_reducible refine (ih k5 (by have := HJ3.out; have := HJ8.out; have := HJ17.out; have := HJ36.out; have := HK5.out; omega) _ _ l0 x1_5 (wrap64 (a2 + 1)) t119 _ ?side1 ?side2 A48.out).mono ?_); (case side1 => repeat (first | exact (Kd.C_below HR0.out HB.out) | (with_reducible refine Kd.C_alloc ?_ _) | (with_reducible refine Kd.C_drewN ?_ _) | (with_reducible refine Kd.C_drew ?_))); (case side2 => exact HC0.out); rintro e w52 ⟨rfl, hb⟩; refine ⟨_, rfl, ?_⟩; have n0_ := Aside0.mk (qan (g := gb114) (o := .cells #[.int .i64 ((qae l0 a1).f0), .int .i64 ((qae l0 a1).f1.f0), .int .i64 ((qae l0 a1).f1.f1), .string ((qae l0 a1).f1.f2), .int .i64 ((qae l0 a1).f1.f3.f0), .int .i64 ((qae l0 a1).f1.f3.f1)] 57 (0, 0)) (by (with_reducible repeat (first | refine qag ?_ _ | refine qai ?_ | refine blk_alloc ?_ _)); exact BK114.out) hb); have n1_ := Aside0.mk (qah (by repeat (first | (with_reducible first | exact HB.out | apply qad | apply qab | apply qac | refine qaf ?_ GE114.out) | exact HB.out)) hb); clear BK114; clear HB; have BK114 := n0_; have HB := n1_; clear n0_ n1_; (try clear hb); (try clear hb2); (try clear hk); (try clear hi)))
                   go_ret
                   exact ⟨by first | rfl | (simp [*] <;> rfl), by repeat (first | (with_reducible first | exact HB.out | apply qad | apply qab | apply qac | refine qaf ?_ GE114.out) | exact HB.out)⟩
                  ·
                   rw [if_neg c49] at H
                   have c49b0 : decide (t119 < 0) = false := decide_eq_false c49
                   clear c49
                   have H' := Aside0.mk H
                   clear H
                   obtain ⟨G53_0, G53_1, G53_2, G53_3, G53_4, G53_5, F53_0, F53_1, F53_2, F53_3, F53_4, F53_5⟩ := shr6 BK114.out
                   go_wp2_with (first | ((with_reducible refine qat (f := 76) rfl ?_); refine goesL_ (some 74) rfl rfl Tryz.func76 (by kernel_rfl) rfl #[.int .i64 ((qae l0 a1).f0)] rfl (by (try simp only [List.map_toArray, List.map_cons, List.map_nil]); first | done | rfl | (simp only [List.length_drop, List.length_take]; rfl)) ?_; (with_reducible refine (raf.calls k5 ((qae l0 a1).f0) t118 _ A46.out).mono ?_); rintro e w54 ⟨rfl, hb⟩; refine ⟨_, rfl, ?_⟩; have n0_ := Aside0.mk (qan (g := gb114) (o := .cells #[.int .i64 ((qae l0 a1).f0), .int .i64 ((qae l0 a1).f1.f0), .int .i64 ((qae l0 a1).f1.f1), .string ((qae l0 a1).f1.f2), .int .i64 ((qae l0 a1).f1.f3.f0), .int .i64 ((qae l0 a1).f1.f3.f1)] 57 (0, 0)) (by (with_reducible repeat (first | refine qag ?_ _ | refine qai ?_ | refine blk_alloc ?_ _)); exact BK114.out) hb); have n1_ := Aside0.mk (qah (by repeat (first | (with_reducible first | exact HB.out | apply qad | apply qab | apply qac | refine qaf ?_ GE114.out) | exact HB.out)) hb); clear BK114; clear HB; have BK114 := n0_; have HB := n1_; clear n0_ n1_; (try clear hb); (try clear hb2); (try clear hk); (try clear hi)) | ((with_reducible refine qat (f := 58) rfl ?_); refine goesL_ (some 82) rfl rfl Tryz.func58 (by kernel_rfl) rfl #[.slice (some ad113) l0.length c0, .int .i64 x1_5, .int .i64 (wrap64 (a2 + 1))] rfl (by (try simp only [List.map_toArray, List.map_cons, List.map_nil]); first | done | rfl | (simp only [List.length_drop, List.length_take]; rfl)) ?_; (with_reducible refine (ih k5 (by have := HJ3.out; have := HJ8.out; have := HJ17.out; have := HJ36.out; have := HK5.out; omega) _ _ l0 x1_5 (wrap64 (a2 + 1)) t119 _ ?side1 ?side2 A48.out).mono ?_); (case side1 => repeat (first | exact (Kd.C_below HR0.out HB.out) | (with_reducible refine Kd.C_alloc ?_ _) | (with_reducible refine Kd.C_drewN ?_ _) | (with_reducible refine Kd.C_drew ?_))); (case side2 => exact HC0.out); rintro e w55 ⟨rfl, hb⟩; refine ⟨_, rfl, ?_⟩; have n0_ := Aside0.mk (qan (g := gb114) (o := .cells #[.int .i64 ((qae l0 a1).f0), .int .i64 ((qae l0 a1).f1.f0), .int .i64 ((qae l0 a1).f1.f1), .string ((qae l0 a1).f1.f2), .int .i64 ((qae l0 a1).f1.f3.f0), .int .i64 ((qae l0 a1).f1.f3.f1)] 57 (0, 0)) (by (with_reducible repeat (first | refine qag ?_ _ | refine qai ?_ | refine blk_alloc ?_ _)); exact BK114.out) hb); have n1_ := Aside0.mk (qah (by repeat (first | (with_reducible first | exact HB.out | apply qad | apply qab | apply qac | refine qaf ?_ GE114.out) | exact HB.out)) hb); clear BK114; clear HB; have BK114 := n0_; have HB := n1_; clear n0_ n1_; (try clear hb); (try clear hb2); (try clear hk); (try clear hi)))
                   go_roundg k5
                   case measure => have := HJ3.out; have := HJ8.out; have := HJ17.out; have := HJ36.out; have := HK5.out; omega
                   case rel => exact ⟨(t119), (wrap64 (x8_5 + 1)), (by first | rfl | (simp; done) | (simp [*]; done)), (by first | rfl | (simp; done) | (simp [*]; done)), H', ⟨by have := HJ3.out; have := HJ8.out; have := HJ17.out; have := HJ36.out; have := HK5.out; omega⟩, ⟨by (with_reducible repeat (first | refine qag ?_ _ | refine qai ?_ | refine blk_alloc ?_ _)); exact BK114.out⟩, ⟨by repeat (first | (with_reducible first | exact HB.out | apply qad | apply qab | apply qac | refine qaf ?_ GE114.out) | exact HB.out)⟩⟩
                 ·
                  rw [if_neg c47] at H
                  have c47b0 : decide (x8_5 < t118) = false := decide_eq_false c47
                  clear c47
                  obtain rfl := Option.some.inj H
                  obtain ⟨G56_0, G56_1, G56_2, G56_3, G56_4, G56_5, F56_0, F56_1, F56_2, F56_3, F56_4, F56_5⟩ := shr6 BK114.out
                  go_wp2_with (first | ((with_reducible refine qat (f := 76) rfl ?_); refine goesL_ (some 74) rfl rfl Tryz.func76 (by kernel_rfl) rfl #[.int .i64 ((qae l0 a1).f0)] rfl (by (try simp only [List.map_toArray, List.map_cons, List.map_nil]); first | done | rfl | (simp only [List.length_drop, List.length_take]; rfl)) ?_; (with_reducible refine (raf.calls k5 ((qae l0 a1).f0) t118 _ A46.out).mono ?_); rintro e w57 ⟨rfl, hb⟩; refine ⟨_, rfl, ?_⟩; have n0_ := Aside0.mk (qan (g := gb114) (o := .cells #[.int .i64 ((qae l0 a1).f0), .int .i64 ((qae l0 a1).f1.f0), .int .i64 ((qae l0 a1).f1.f1), .string ((qae l0 a1).f1.f2), .int .i64 ((qae l0 a1).f1.f3.f0), .int .i64 ((qae l0 a1).f1.f3.f1)] 57 (0, 0)) (by (with_reducible repeat (first | refine qag ?_ _ | refine qai ?_ | refine blk_alloc ?_ _)); exact BK114.out) hb); have n1_ := Aside0.mk (qah (by repeat (first | (with_reducible first | exact HB.out | apply qad | apply qab | apply qac | refine qaf ?_ GE114.out) | exact HB.out)) hb); clear BK114; clear HB; have BK114 := n0_; have HB := n1_; clear n0_ n1_; (try clear hb); (try clear hb2); (try clear hk); (try clear hi)))
                  go_ret
                  exact ⟨by first | rfl | (simp [*] <;> rfl), by repeat (first | (with_reducible first | exact HB.out | apply qad | apply qab | apply qac | refine qaf ?_ GE114.out) | exact HB.out)⟩
     ·
      rw [if_neg c8] at H
      exact absurd H (by simp)
    ·
     rw [if_neg c7] at H
     exact absurd H (by simp)
end Go.Proofs.YtejbpnhondpnfaaGreat.PJob
namespace Go.Proofs.YtejbpnhondpnfaaGreat.PJob
open Go.RowKit Go.Proofs.YtejbpnhondpnfaaGreatW.PrintWords Go.Proofs.YtejbpnhondpnfaaGreatW.PrintLast Go.Proofs.YtejbpnhondpnfaaGreatW.PrintMore
attribute [local go_sem] qaz qbe
def rax.f (k : Nat) (l0 : List (S57)) (a1 : Int) : Option (Int) := (rac.f k l0 a1 0).bind fun t224 => (some t224)
set_option maxHeartbeats 8000000 in
set_option maxRecDepth 100000 in
theorem rax.calls (k : Nat) (A0 : Option Addr) (c0 : Nat) (l0 : List (S57)) (a1 : Int) (r : Int) (w : World) (hr0 : Kd.C k57 w A0 l0.length l0) (hc0 : l0.length ≤ c0) (h : rax.f k l0 a1 = some r) :
  Calls Tryz.prog 77 #[.slice A0 l0.length c0, .int .i64 a1] w fun e w' => e = .returned (.int .i64 r) ∧ Below w.heap.size w w' := by
 have HR0 := Aside0.mk hr0
 have HC0 := Aside0.mk hc0
 clear hr0 hc0
 have HB := Aside0.mk (Below.refl w.heap.size w)
 have H : ((rac.f k l0 a1 0).bind fun t224 => (some t224)) = some r := h
 clear h
 replace H := Option.bind_eq_some_iff.mp H
 obtain ⟨t224, A30, H⟩ := H
 replace H : (some t224) = some r := H
 have A3 := Aside0.mk A30
 clear A30
 obtain rfl := Option.some.inj H
 go_enter Tryz.func77, Tryz.ntmps77
 go_wp2_with (first | ((with_reducible refine qat (f := 58) rfl ?_); refine goesL_ (some 7) rfl rfl Tryz.func58 (by kernel_rfl) rfl #[.slice A0 l0.length c0, .int .i64 a1, .int .i64 0] rfl (by (try simp only [List.map_toArray, List.map_cons, List.map_nil]); first | done | rfl | (simp only [List.length_drop, List.length_take]; rfl)) ?_; (with_reducible refine (rac.calls k _ _ l0 a1 0 t224 _ ?side1 ?side2 A3.out).mono ?_); (case side1 => repeat (first | exact HR0.out | (with_reducible refine Kd.C_alloc ?_ _) | (with_reducible refine Kd.C_drewN ?_ _) | (with_reducible refine Kd.C_drew ?_))); (case side2 => exact HC0.out); rintro e w4 ⟨rfl, hb⟩; refine ⟨_, rfl, ?_⟩; have n0_ := Aside0.mk (qah (by repeat (first | (with_reducible first | exact HB.out | apply qad | apply qab | apply qac) | exact HB.out)) hb); clear HB; have HB := n0_; clear n0_; (try clear hb); (try clear hb2); (try clear hk); (try clear hi)))
 go_ret
 exact ⟨by first | rfl | (simp [*] <;> rfl), by repeat (first | (with_reducible first | exact HB.out | apply qad | apply qab | apply qac) | exact HB.out)⟩
mutual
def rak.l0 : Nat → List (S57) → Int → ByteArray → Int → Int → Int → Int → ByteArray → Int → Int → Option (ByteArray)
 | 0, _, _, _, _, _, _, _, _, _, _ => none
 | k + 1, x0, x1, x6, x7, z0, z1, z2, z3, z4, z5 => (raf.f k z0).bind fun t230 => (if x7 < t230 then (if x6.size + 1 ≤ 9223372036854775807 then ((rak.f k x0 x1).bind fun t231 => (if (x6 ++ (⟨#[32]⟩ : ByteArray)).size + t231.size ≤ 9223372036854775807 then ((rax.f k x0 x1).bind fun t232 => (rak.l0 k x0 t232 ((x6 ++ (⟨#[32]⟩ : ByteArray)) ++ t231) (wrap64 (x7 + 1)) z0 z1 z2 z3 z4 z5)) else (none))) else (none)) else (if x6.size + 1 ≤ 9223372036854775807 then (some (x6 ++ (⟨#[41]⟩ : ByteArray))) else (none)))
def rak.f : Nat → List (S57) → Int → Option (ByteArray)
 | 0, _, _ => none
 | k + 1, l0, a1 => if 0 ≤ a1 then (if a1 < (l0.length : Int) then (if ((qae l0 a1).f0) = 0 then ((rah.f k ((qae l0 a1).f1.f0) ((qae l0 a1).f1.f1) ((qae l0 a1).f1.f2) ((qae l0 a1).f1.f3.f0) ((qae l0 a1).f1.f3.f1)).bind fun t227 => (some t227)) else (if ((qae l0 a1).f0) = 1 then ((rbe.f ((qae l0 a1).f1.f1)).bind fun t228 => (some t228)) else ((rao.f ((qae l0 a1).f0)).bind fun t229 => (if 1 + t229.size ≤ 9223372036854775807 then (rak.l0 k l0 (wrap64 (a1 + 1)) ((⟨#[40]⟩ : ByteArray) ++ t229) 0 ((qae l0 a1).f0) ((qae l0 a1).f1.f0) ((qae l0 a1).f1.f1) ((qae l0 a1).f1.f2) ((qae l0 a1).f1.f3.f0) ((qae l0 a1).f1.f3.f1)) else (none))))) else (none)) else (none)
end
set_option maxHeartbeats 8000000 in
set_option maxRecDepth 100000 in
theorem rak.calls (k : Nat) : ∀ (A0 : Option Addr) (c0 : Nat) (l0 : List (S57)) (a1 : Int) (r : ByteArray) (w : World) (hr0 : Kd.C k57 w A0 l0.length l0) (hc0 : l0.length ≤ c0) (h : rak.f k l0 a1 = some r),
  Calls Tryz.prog 39 #[.slice A0 l0.length c0, .int .i64 a1] w fun e w' => e = .returned (.string r) ∧ Below w.heap.size w w' := by
 induction k using Nat.strongRecOn with
 | _ k ih =>
 intro A0 c0 l0 a1 r w hr0 hc0 h
 cases k with
 | zero => exact absurd h (by simp [rak.f])
 | succ k =>
 simp only [rak.f] at h
 have hu57 := Tryz.underlying57
 have hu45 := Tryz.underlying45
 have HR0 := Aside0.mk hr0
 have HC0 := Aside0.mk hc0
 clear hr0 hc0
 have HB := Aside0.mk (Below.refl w.heap.size w)
 have H : (if 0 ≤ a1 then (if a1 < (l0.length : Int) then (if ((qae l0 a1).f0) = 0 then ((rah.f k ((qae l0 a1).f1.f0) ((qae l0 a1).f1.f1) ((qae l0 a1).f1.f2) ((qae l0 a1).f1.f3.f0) ((qae l0 a1).f1.f3.f1)).bind fun t227 => (some t227)) else (if ((qae l0 a1).f0) = 1 then ((rbe.f ((qae l0 a1).f1.f1)).bind fun t228 => (some t228)) else ((rao.f ((qae l0 a1).f0)).bind fun t229 => (if 1 + t229.size ≤ 9223372036854775807 then (rak.l0 k l0 (wrap64 (a1 + 1)) ((⟨#[40]⟩ : ByteArray) ++ t229) 0 ((qae l0 a1).f0) ((qae l0 a1).f1.f0) ((qae l0 a1).f1.f1) ((qae l0 a1).f1.f2) ((qae l0 a1).f1.f3.f0) ((qae l0 a1).f1.f3.f1)) else (none))))) else (none)) else (none)) = some r := h
 clear h
 by_cases c3 : 0 ≤ a1
 ·
  rw [if_pos c3] at H
  have c3b0 : decide (0 ≤ a1) = true := decide_eq_true c3
  clear c3
  by_cases c4 : a1 < (l0.length : Int)
  ·
   rw [if_pos c4] at H
   have c4b0 : decide (a1 < (l0.length : Int)) = true := decide_eq_true c4
   clear c4
   by_cases c5 : ((qae l0 a1).f0) = 0
   ·
    rw [if_pos c5] at H
    have c5b0 : (((qae l0 a1).f0) == 0) = true := beq_iff_eq.mpr c5
    have c5b1 : (((qae l0 a1).f0) != 0) = false := bne_eq_false_iff_eq.mpr c5
    clear c5
    replace H := Option.bind_eq_some_iff.mp H
    obtain ⟨t227, A60, H⟩ := H
    replace H : (some t227) = some r := H
    have A6 := Aside0.mk A60
    clear A60
    obtain rfl := Option.some.inj H
    have p225 : 0 ≤ (a1 : Int) := of_decide_eq_true (by first | (with_reducible assumption) | assumption)
    have q225 : a1 < (l0.length : Int) := of_decide_eq_true (by first | (with_reducible assumption) | assumption)
    obtain ⟨ad225, e225, hx225_0, hx225_1, hx225_2, hx225_3, hx225_4, hx225_5⟩ := at_T57 HR0.out a1 p225 q225
    cases e225
    replace p225 := eq_true p225
    replace q225 := eq_true q225
    go_enter Tryz.func39, Tryz.ntmps39
    go_wp2_with (first | ((with_reducible refine qav (N := 5) rfl ?_); refine qau ?hg (N := 5) ?hd (cs := #[.int .i64 0, .int .i64 0, .int .i64 0, .string (⟨#[]⟩ : ByteArray), .int .i64 0, .int .i64 0]) (t := 57) ?hr ?_; (case hd => rfl); (case hg => rfl); (case hr => first | (go_simp; done) | (go_simp; rfl)); intro gb226 hg w7 hbox hb; have n0_ := Aside0.mk (qah (by repeat (first | (with_reducible first | exact HB.out | apply qad | apply qab | apply qac) | exact HB.out)) hb); have n1_ := Aside0.mk (hbox); have n2_ := Aside0.mk ((by rw [hg]; exact (qaj (by repeat (first | (with_reducible first | exact HB.out | apply qad | apply qab | apply qac) | exact HB.out))) : w.heap.size ≤ gb226)); have n3_ := Aside0.mk ((by rw [hg]; exact (qaj (by repeat (first | (with_reducible first | exact HB.out | apply qad | apply qab | apply qac) | exact HB.out))) : w.heap.size ≤ gb226)); clear HB; have HB := n0_; have BK226 := n1_; have GW226 := n2_; have GE226 := n3_; clear n0_ n1_ n2_ n3_; clear hb hbox hg; obtain ⟨G8_0, G8_1, G8_2, G8_3, G8_4, G8_5, F8_0, F8_1, F8_2, F8_3, F8_4, F8_5⟩ := shr6 BK226.out) | ((with_reducible refine qat (f := 73) rfl ?_); refine goesL_ (some 17) rfl rfl Tryz.func73 (by kernel_rfl) rfl #[.agg #[.int .i64 ((qae l0 a1).f1.f0), .int .i64 ((qae l0 a1).f1.f1), .string ((qae l0 a1).f1.f2), .int .i64 ((qae l0 a1).f1.f3.f0), .int .i64 ((qae l0 a1).f1.f3.f1)]] rfl (by (try simp only [List.map_toArray, List.map_cons, List.map_nil]); first | done | rfl | (simp only [List.length_drop, List.length_take]; rfl)) ?_; (with_reducible refine (rah.calls k ((qae l0 a1).f1.f0) ((qae l0 a1).f1.f1) ((qae l0 a1).f1.f2) ((qae l0 a1).f1.f3.f0) ((qae l0 a1).f1.f3.f1) t227 _ A6.out).mono ?_); rintro e w9 ⟨rfl, hb⟩; refine ⟨_, rfl, ?_⟩; have n0_ := Aside0.mk (qan (g := gb226) (o := .cells #[.int .i64 ((qae l0 a1).f0), .int .i64 ((qae l0 a1).f1.f0), .int .i64 ((qae l0 a1).f1.f1), .string ((qae l0 a1).f1.f2), .int .i64 ((qae l0 a1).f1.f3.f0), .int .i64 ((qae l0 a1).f1.f3.f1)] 57 (0, 0)) (by (with_reducible repeat (first | refine qag ?_ _ | refine qai ?_ | refine blk_alloc ?_ _)); refine qbb (cs := #[.int .i64 ((qae l0 a1).f0), .int .i64 ((qae l0 a1).f1.f0), .int .i64 ((qae l0 a1).f1.f1), .string ((qae l0 a1).f1.f2), .int .i64 ((qae l0 a1).f1.f3.f0), .int .i64 0]) ?_ 5 _ rfl; (with_reducible repeat (first | refine qag ?_ _ | refine qai ?_ | refine blk_alloc ?_ _)); refine qbb (cs := #[.int .i64 ((qae l0 a1).f0), .int .i64 ((qae l0 a1).f1.f0), .int .i64 ((qae l0 a1).f1.f1), .string ((qae l0 a1).f1.f2), .int .i64 0, .int .i64 0]) ?_ 4 _ rfl; (with_reducible repeat (first | refine qag ?_ _ | refine qai ?_ | refine blk_alloc ?_ _)); refine qbb (cs := #[.int .i64 ((qae l0 a1).f0), .int .i64 ((qae l0 a1).f1.f0), .int .i64 ((qae l0 a1).f1.f1), .string (⟨#[]⟩ : ByteArray), .int .i64 0, .int .i64 0]) ?_ 3 _ rfl; (with_reducible repeat (first | refine qag ?_ _ | refine qai ?_ | refine blk_alloc ?_ _)); refine qbb (cs := #[.int .i64 ((qae l0 a1).f0), .int .i64 ((qae l0 a1).f1.f0), .int .i64 0, .string (⟨#[]⟩ : ByteArray), .int .i64 0, .int .i64 0]) ?_ 2 _ rfl; (with_reducible repeat (first | refine qag ?_ _ | refine qai ?_ | refine blk_alloc ?_ _)); refine qbb (cs := #[.int .i64 ((qae l0 a1).f0), .int .i64 0, .int .i64 0, .string (⟨#[]⟩ : ByteArray), .int .i64 0, .int .i64 0]) ?_ 1 _ rfl; (with_reducible repeat (first | refine qag ?_ _ | refine qai ?_ | refine blk_alloc ?_ _)); refine qbb (cs := #[.int .i64 0, .int .i64 0, .int .i64 0, .string (⟨#[]⟩ : ByteArray), .int .i64 0, .int .i64 0]) ?_ 0 _ rfl; (with_reducible repeat (first | refine qag ?_ _ | refine qai ?_ | refine blk_alloc ?_ _)); exact BK226.out) hb); have n1_ := Aside0.mk (qah (by repeat (first | (with_reducible first | exact HB.out | apply qad | apply qab | apply qac | refine qaf ?_ GE226.out) | exact HB.out)) hb); clear BK226; clear HB; have BK226 := n0_; have HB := n1_; clear n0_ n1_; (try clear hb); (try clear hb2); (try clear hk); (try clear hi)))
    go_ret
    exact ⟨by first | rfl | (simp [*] <;> rfl), by repeat (first | (with_reducible first | exact HB.out | apply qad | apply qab | apply qac | refine qaf ?_ GE226.out) | exact HB.out)⟩
   ·
    rw [if_neg c5] at H
    have c5b0 : (((qae l0 a1).f0) == 0) = false := beq_eq_false_iff_ne.mpr c5
    have c5b1 : (((qae l0 a1).f0) != 0) = true := bne_iff_ne.mpr c5
    by_cases c10 : ((qae l0 a1).f0) = 1
    ·
     rw [if_pos c10] at H
     have c10b0 : (((qae l0 a1).f0) == 1) = true := beq_iff_eq.mpr c10
     have c10b1 : (((qae l0 a1).f0) != 1) = false := bne_eq_false_iff_eq.mpr c10
     clear c10
     replace H := Option.bind_eq_some_iff.mp H
     obtain ⟨t228, A110, H⟩ := H
     replace H : (some t228) = some r := H
     have A11 := Aside0.mk A110
     clear A110
     obtain rfl := Option.some.inj H
     have p225 : 0 ≤ (a1 : Int) := of_decide_eq_true (by first | (with_reducible assumption) | assumption)
     have q225 : a1 < (l0.length : Int) := of_decide_eq_true (by first | (with_reducible assumption) | assumption)
     obtain ⟨ad225, e225, hx225_0, hx225_1, hx225_2, hx225_3, hx225_4, hx225_5⟩ := at_T57 HR0.out a1 p225 q225
     cases e225
     replace p225 := eq_true p225
     replace q225 := eq_true q225
     go_enter Tryz.func39, Tryz.ntmps39
     go_wp2_with (first | ((with_reducible refine qav (N := 5) rfl ?_); refine qau ?hg (N := 5) ?hd (cs := #[.int .i64 0, .int .i64 0, .int .i64 0, .string (⟨#[]⟩ : ByteArray), .int .i64 0, .int .i64 0]) (t := 57) ?hr ?_; (case hd => rfl); (case hg => rfl); (case hr => first | (go_simp; done) | (go_simp; rfl)); intro gb226 hg w12 hbox hb; have n0_ := Aside0.mk (qah (by repeat (first | (with_reducible first | exact HB.out | apply qad | apply qab | apply qac) | exact HB.out)) hb); have n1_ := Aside0.mk (hbox); have n2_ := Aside0.mk ((by rw [hg]; exact (qaj (by repeat (first | (with_reducible first | exact HB.out | apply qad | apply qab | apply qac) | exact HB.out))) : w.heap.size ≤ gb226)); have n3_ := Aside0.mk ((by rw [hg]; exact (qaj (by repeat (first | (with_reducible first | exact HB.out | apply qad | apply qab | apply qac) | exact HB.out))) : w.heap.size ≤ gb226)); clear HB; have HB := n0_; have BK226 := n1_; have GW226 := n2_; have GE226 := n3_; clear n0_ n1_ n2_ n3_; clear hb hbox hg; obtain ⟨G13_0, G13_1, G13_2, G13_3, G13_4, G13_5, F13_0, F13_1, F13_2, F13_3, F13_4, F13_5⟩ := shr6 BK226.out) | ((with_reducible refine qat (f := 74) rfl ?_); refine goesL_ (some 24) rfl rfl Tryz.func74 (by kernel_rfl) rfl #[.int .i64 ((qae l0 a1).f1.f1)] rfl (by (try simp only [List.map_toArray, List.map_cons, List.map_nil]); first | done | rfl | (simp only [List.length_drop, List.length_take]; rfl)) ?_; (with_reducible refine (rbe.calls ((qae l0 a1).f1.f1) t228 _ A11.out).mono ?_); rintro e w14 ⟨rfl, hb⟩; refine ⟨_, rfl, ?_⟩; have n0_ := Aside0.mk (qan (g := gb226) (o := .cells #[.int .i64 ((qae l0 a1).f0), .int .i64 ((qae l0 a1).f1.f0), .int .i64 ((qae l0 a1).f1.f1), .string ((qae l0 a1).f1.f2), .int .i64 ((qae l0 a1).f1.f3.f0), .int .i64 ((qae l0 a1).f1.f3.f1)] 57 (0, 0)) (by (with_reducible repeat (first | refine qag ?_ _ | refine qai ?_ | refine blk_alloc ?_ _)); refine qbb (cs := #[.int .i64 ((qae l0 a1).f0), .int .i64 ((qae l0 a1).f1.f0), .int .i64 ((qae l0 a1).f1.f1), .string ((qae l0 a1).f1.f2), .int .i64 ((qae l0 a1).f1.f3.f0), .int .i64 0]) ?_ 5 _ rfl; (with_reducible repeat (first | refine qag ?_ _ | refine qai ?_ | refine blk_alloc ?_ _)); refine qbb (cs := #[.int .i64 ((qae l0 a1).f0), .int .i64 ((qae l0 a1).f1.f0), .int .i64 ((qae l0 a1).f1.f1), .string ((qae l0 a1).f1.f2), .int .i64 0, .int .i64 0]) ?_ 4 _ rfl; (with_reducible repeat (first | refine qag ?_ _ | refine qai ?_ | refine blk_alloc ?_ _)); refine qbb (cs := #[.int .i64 ((qae l0 a1).f0), .int .i64 ((qae l0 a1).f1.f0), .int .i64 ((qae l0 a1).f1.f1), .string (⟨#[]⟩ : ByteArray), .int .i64 0, .int .i64 0]) ?_ 3 _ rfl; (with_reducible repeat (first | refine qag ?_ _ | refine qai ?_ | refine blk_alloc ?_ _)); refine qbb (cs := #[.int .i64 ((qae l0 a1).f0), .int .i64 ((qae l0 a1).f1.f0), .int .i64 0, .string (⟨#[]⟩ : ByteArray), .int .i64 0, .int .i64 0]) ?_ 2 _ rfl; (with_reducible repeat (first | refine qag ?_ _ | refine qai ?_ | refine blk_alloc ?_ _)); refine qbb (cs := #[.int .i64 ((qae l0 a1).f0), .int .i64 0, .int .i64 0, .string (⟨#[]⟩ : ByteArray), .int .i64 0, .int .i64 0]) ?_ 1 _ rfl; (with_reducible repeat (first | refine qag ?_ _ | refine qai ?_ | refine blk_alloc ?_ _)); refine qbb (cs := #[.int .i64 0, .int .i64 0, .int .i64 0, .string (⟨#[]⟩ : ByteArray), .int .i64 0, .int .i64 0]) ?_ 0 _ rfl; (with_reducible repeat (first | refine qag ?_ _ | refine qai ?_ | refine blk_alloc ?_ _)); exact BK226.out) hb); have n1_ := Aside0.mk (qah (by repeat (first | (with_reducible first | exact HB.out | apply qad | apply qab | apply qac | refine qaf ?_ GE226.out) | exact HB.out)) hb); clear BK226; clear HB; have BK226 := n0_; have HB := n1_; clear n0_ n1_; (try clear hb); (try clear hb2); (try clear hk); (try clear hi)))
     go_ret
     exact ⟨by first | rfl | (simp [*] <;> rfl), by repeat (first | (with_reducible first | exact HB.out | apply qad | apply qab | apply qac | refine qaf ?_ GE226.out) | exact HB.out)⟩
    ·
     rw [if_neg c10] at H
     have c10b0 : (((qae l0 a1).f0) == 1) = false := beq_eq_false_iff_ne.mpr c10
     have c10b1 : (((qae l0 a1).f0) != 1) = true := bne_iff_ne.mpr c10
     replace H := Option.bind_eq_some_iff.mp H
     obtain ⟨t229, A150, H⟩ := H
     replace H : (if 1 + t229.size ≤ 9223372036854775807 then (rak.l0 k l0 (wrap64 (a1 + 1)) ((⟨#[40]⟩ : ByteArray) ++ t229) 0 ((qae l0 a1).f0) ((qae l0 a1).f1.f0) ((qae l0 a1).f1.f1) ((qae l0 a1).f1.f2) ((qae l0 a1).f1.f3.f0) ((qae l0 a1).f1.f3.f1)) else (none)) = some r := H
     have A15 := Aside0.mk A150
     clear A150
     by_cases c16 : 1 + t229.size ≤ 9223372036854775807
     ·
      rw [if_pos c16] at H
      have c16b0 := eq_true c16
      have c16b1 : decide (1 + t229.size ≤ 9223372036854775807) = true := decide_eq_true c16
      try have c16b2 : (9223372036854775807 < 1 + t229.size) = False := eq_false (Nat.not_lt.2 c16)
      have H' := Aside0.mk H
      clear H
      have p225 : 0 ≤ (a1 : Int) := of_decide_eq_true (by first | (with_reducible assumption) | assumption)
      have q225 : a1 < (l0.length : Int) := of_decide_eq_true (by first | (with_reducible assumption) | assumption)
      obtain ⟨ad225, e225, hx225_0, hx225_1, hx225_2, hx225_3, hx225_4, hx225_5⟩ := at_T57 HR0.out a1 p225 q225
      cases e225
      replace p225 := eq_true p225
      replace q225 := eq_true q225
      go_enter Tryz.func39, Tryz.ntmps39
      go_wp2_with (first | ((with_reducible refine qav (N := 5) rfl ?_); refine qau ?hg (N := 5) ?hd (cs := #[.int .i64 0, .int .i64 0, .int .i64 0, .string (⟨#[]⟩ : ByteArray), .int .i64 0, .int .i64 0]) (t := 57) ?hr ?_; (case hd => rfl); (case hg => rfl); (case hr => first | (go_simp; done) | (go_simp; rfl)); intro gb226 hg w17 hbox hb; have n0_ := Aside0.mk (qah (by repeat (first | (with_reducible first | exact HB.out | apply qad | apply qab | apply qac) | exact HB.out)) hb); have n1_ := Aside0.mk (hbox); have n2_ := Aside0.mk ((by rw [hg]; exact (qaj (by repeat (first | (with_reducible first | exact HB.out | apply qad | apply qab | apply qac) | exact HB.out))) : w.heap.size ≤ gb226)); have n3_ := Aside0.mk ((by rw [hg]; exact (qaj (by repeat (first | (with_reducible first | exact HB.out | apply qad | apply qab | apply qac) | exact HB.out))) : w.heap.size ≤ gb226)); clear HB; have HB := n0_; have BK226 := n1_; have GW226 := n2_; have GE226 := n3_; clear n0_ n1_ n2_ n3_; clear hb hbox hg; obtain ⟨G18_0, G18_1, G18_2, G18_3, G18_4, G18_5, F18_0, F18_1, F18_2, F18_3, F18_4, F18_5⟩ := shr6 BK226.out) | ((with_reducible refine qat (f := 75) rfl ?_); refine goesL_ (some 27) rfl rfl Tryz.func75 (by kernel_rfl) rfl #[.int .i64 ((qae l0 a1).f0)] rfl (by (try simp only [List.map_toArray, List.map_cons, List.map_nil]); first | done | rfl | (simp only [List.length_drop, List.length_take]; rfl)) ?_; (with_reducible refine (rao.calls ((qae l0 a1).f0) t229 _ A15.out).mono ?_); rintro e w19 ⟨rfl, hb⟩; refine ⟨_, rfl, ?_⟩; have n0_ := Aside0.mk (qan (g := gb226) (o := .cells #[.int .i64 ((qae l0 a1).f0), .int .i64 ((qae l0 a1).f1.f0), .int .i64 ((qae l0 a1).f1.f1), .string ((qae l0 a1).f1.f2), .int .i64 ((qae l0 a1).f1.f3.f0), .int .i64 ((qae l0 a1).f1.f3.f1)] 57 (0, 0)) (by (with_reducible repeat (first | refine qag ?_ _ | refine qai ?_ | refine blk_alloc ?_ _)); refine qbb (cs := #[.int .i64 ((qae l0 a1).f0), .int .i64 ((qae l0 a1).f1.f0), .int .i64 ((qae l0 a1).f1.f1), .string ((qae l0 a1).f1.f2), .int .i64 ((qae l0 a1).f1.f3.f0), .int .i64 0]) ?_ 5 _ rfl; (with_reducible repeat (first | refine qag ?_ _ | refine qai ?_ | refine blk_alloc ?_ _)); refine qbb (cs := #[.int .i64 ((qae l0 a1).f0), .int .i64 ((qae l0 a1).f1.f0), .int .i64 ((qae l0 a1).f1.f1), .string ((qae l0 a1).f1.f2), .int .i64 0, .int .i64 0]) ?_ 4 _ rfl; (with_reducible repeat (first | refine qag ?_ _ | refine qai ?_ | refine blk_alloc ?_ _)); refine qbb (cs := #[.int .i64 ((qae l0 a1).f0), .int .i64 ((qae l0 a1).f1.f0), .int .i64 ((qae l0 a1).f1.f1), .string (⟨#[]⟩ : ByteArray), .int .i64 0, .int .i64 0]) ?_ 3 _ rfl; (with_reducible repeat (first | refine qag ?_ _ | refine qai ?_ | refine blk_alloc ?_ _)); refine qbb (cs := #[.int .i64 ((qae l0 a1).f0), .int .i64 ((qae l0 a1).f1.f0), .int .i64 0, .string (⟨#[]⟩ : ByteArray), .int .i64 0, .int .i64 0]) ?_ 2 _ rfl; (with_reducible repeat (first | refine qag ?_ _ | refine qai ?_ | refine blk_alloc ?_ _)); refine qbb (cs := #[.int .i64 ((qae l0 a1).f0), .int .i64 0, .int .i64 0, .string (⟨#[]⟩ : ByteArray), .int .i64 0, .int .i64 0]) ?_ 1 _ rfl; (with_reducible repeat (first | refine qag ?_ _ | refine qai ?_ | refine blk_alloc ?_ _)); refine qbb (cs := #[.int .i64 0, .int .i64 0, .int .i64 0, .string (⟨#[]⟩ : ByteArray), .int .i64 0, .int .i64 0]) ?_ 0 _ rfl; (with_reducible repeat (first | refine qag ?_ _ | refine qai ?_ | refine blk_alloc ?_ _)); exact BK226.out) hb); have n1_ := Aside0.mk (qah (by repeat (first | (with_reducible first | exact HB.out | apply qad | apply qab | apply qac | refine qaf ?_ GE226.out) | exact HB.out)) hb); clear BK226; clear HB; have BK226 := n0_; have HB := n1_; clear n0_ n1_; (try clear hb); (try clear hb2); (try clear hk); (try clear hi)))
      go_loopg [1, 6, 7] k (fun kq v1 v6 v7 w' => ∃ (x1_1 : Int) (x6_1 : ByteArray) (x7_1 : Int), v1 = .int .i64 x1_1 ∧ v6 = .string x6_1 ∧ v7 = .int .i64 x7_1 ∧ Aside0 (rak.l0 kq l0 x1_1 x6_1 x7_1 ((qae l0 a1).f0) ((qae l0 a1).f1.f0) ((qae l0 a1).f1.f1) ((qae l0 a1).f1.f2) ((qae l0 a1).f1.f3.f0) ((qae l0 a1).f1.f3.f1) = some r) ∧ Aside0 (kq ≤ k) ∧ Aside0 (w'.heap[gb226]? = some (.cells #[.int .i64 ((qae l0 a1).f0), .int .i64 ((qae l0 a1).f1.f0), .int .i64 ((qae l0 a1).f1.f1), .string ((qae l0 a1).f1.f2), .int .i64 ((qae l0 a1).f1.f3.f0), .int .i64 ((qae l0 a1).f1.f3.f1)] 57 (0, 0))) ∧ Aside0 (Below w.heap.size w w'))
      case atStart => exact ⟨(wrap64 (a1 + 1)), ((⟨#[40]⟩ : ByteArray) ++ t229), (0), (by first | rfl | (simp; done) | (simp [*]; done)), (by first | rfl | (simp; done) | (simp [*]; done)), (by first | rfl | (simp; done) | (simp [*]; done)), H', ⟨Nat.le_refl _⟩, ⟨by (with_reducible repeat (first | refine qag ?_ _ | refine qai ?_ | refine blk_alloc ?_ _)); exact BK226.out⟩, ⟨by repeat (first | (with_reducible first | exact HB.out | apply qad | apply qab | apply qac | refine qaf ?_ GE226.out) | exact HB.out)⟩⟩
      case round =>
       clear H'
       try clear c1
       try clear p2
       try clear q2
       try clear hx2
       try clear c3
       try clear c3b0
       try clear c4
       try clear c4b0
       try clear c5
       try clear c5b0
       try clear c5b1
       try clear p6
       try clear c7
       try clear c10
       try clear c10b0
       try clear c10b1
       try clear c16
       try clear c16b0
       try clear c16b1
       try clear c16b2
       try clear G13_0 G13_1 G13_2 G13_3 G13_4 G13_5 F13_0 F13_1 F13_2 F13_3 F13_4 F13_5
       try clear G18_0 G18_1 G18_2 G18_3 G18_4 G18_5 F18_0 F18_1 F18_2 F18_3 F18_4 F18_5
       try clear G8_0 G8_1 G8_2 G8_3 G8_4 G8_5 F8_0 F8_1 F8_2 F8_3 F8_4 F8_5
       try clear hx225_0
       try clear hx225_1
       try clear hx225_2
       try clear hx225_3
       try clear hx225_4
       try clear hx225_5
       try clear p225
       try clear q225
       obtain ⟨x1_1, x6_1, x7_1, rfl, rfl, rfl, HA, HK1, BK226, HB⟩ := hrel
       cases gk with
       | zero => exact absurd HA.out (by simp [rak.l0])
       | succ k1 =>
        have H := HA.out
        clear HA
        simp only [rak.l0] at H
        replace H := Option.bind_eq_some_iff.mp H
        obtain ⟨t230, A200, H⟩ := H
        replace H : (if x7_1 < t230 then (if x6_1.size + 1 ≤ 9223372036854775807 then ((rak.f k1 l0 x1_1).bind fun t231 => (if (x6_1 ++ (⟨#[32]⟩ : ByteArray)).size + t231.size ≤ 9223372036854775807 then ((rax.f k1 l0 x1_1).bind fun t232 => (rak.l0 k1 l0 t232 ((x6_1 ++ (⟨#[32]⟩ : ByteArray)) ++ t231) (wrap64 (x7_1 + 1)) ((qae l0 a1).f0) ((qae l0 a1).f1.f0) ((qae l0 a1).f1.f1) ((qae l0 a1).f1.f2) ((qae l0 a1).f1.f3.f0) ((qae l0 a1).f1.f3.f1))) else (none))) else (none)) else (if x6_1.size + 1 ≤ 9223372036854775807 then (some (x6_1 ++ (⟨#[41]⟩ : ByteArray))) else (none))) = some r := H
        have A20 := Aside0.mk A200
        clear A200
        by_cases c21 : x7_1 < t230
        ·
         rw [if_pos c21] at H
         have c21b0 : decide (x7_1 < t230) = true := decide_eq_true c21
         clear c21
         by_cases c22 : x6_1.size + 1 ≤ 9223372036854775807
         ·
          rw [if_pos c22] at H
          have c22b0 := eq_true c22
          have c22b1 : decide (x6_1.size + 1 ≤ 9223372036854775807) = true := decide_eq_true c22
          try have c22b2 : (9223372036854775807 < x6_1.size + 1) = False := eq_false (Nat.not_lt.2 c22)
          replace H := Option.bind_eq_some_iff.mp H
          obtain ⟨t231, A230, H⟩ := H
          replace H : (if (x6_1 ++ (⟨#[32]⟩ : ByteArray)).size + t231.size ≤ 9223372036854775807 then ((rax.f k1 l0 x1_1).bind fun t232 => (rak.l0 k1 l0 t232 ((x6_1 ++ (⟨#[32]⟩ : ByteArray)) ++ t231) (wrap64 (x7_1 + 1)) ((qae l0 a1).f0) ((qae l0 a1).f1.f0) ((qae l0 a1).f1.f1) ((qae l0 a1).f1.f2) ((qae l0 a1).f1.f3.f0) ((qae l0 a1).f1.f3.f1))) else (none)) = some r := H
          have A23 := Aside0.mk A230
          clear A230
          by_cases c24 : (x6_1 ++ (⟨#[32]⟩ : ByteArray)).size + t231.size ≤ 9223372036854775807
          ·
           rw [if_pos c24] at H
           have c24b0 := eq_true c24
           have c24b1 : decide ((x6_1 ++ (⟨#[32]⟩ : ByteArray)).size + t231.size ≤ 9223372036854775807) = true := decide_eq_true c24
           try have c24b2 : (9223372036854775807 < (x6_1 ++ (⟨#[32]⟩ : ByteArray)).size + t231.size) = False := eq_false (Nat.not_lt.2 c24)
           try have c24b3 := c24b2
           try simp only [ByteArray.size_append, show (ByteArray.mk #[32]).size = 1 from rfl] at c24b3
           replace H := Option.bind_eq_some_iff.mp H
           obtain ⟨t232, A250, H⟩ := H
           replace H : (rak.l0 k1 l0 t232 ((x6_1 ++ (⟨#[32]⟩ : ByteArray)) ++ t231) (wrap64 (x7_1 + 1)) ((qae l0 a1).f0) ((qae l0 a1).f1.f0) ((qae l0 a1).f1.f1) ((qae l0 a1).f1.f2) ((qae l0 a1).f1.f3.f0) ((qae l0 a1).f1.f3.f1)) = some r := H
           have A25 := Aside0.mk A250
           clear A250
           have H' := Aside0.mk H
           clear H
           obtain ⟨G26_0, G26_1, G26_2, G26_3, G26_4, G26_5, F26_0, F26_1, F26_2, F26_3, F26_4, F26_5⟩ := shr6 BK226.out
           go_wp2_with (first | ((with_reducible refine qat (f := 76) rfl ?_); refine goesL_ (some 34) rfl rfl Tryz.func76 (by kernel_rfl) rfl #[.int .i64 ((qae l0 a1).f0)] rfl (by (try simp only [List.map_toArray, List.map_cons, List.map_nil]); first | done | rfl | (simp only [List.length_drop, List.length_take]; rfl)) ?_; (with_reducible refine (raf.calls k1 ((qae l0 a1).f0) t230 _ A20.out).mono ?_); rintro e w27 ⟨rfl, hb⟩; refine ⟨_, rfl, ?_⟩; have n0_ := Aside0.mk (qan (g := gb226) (o := .cells #[.int .i64 ((qae l0 a1).f0), .int .i64 ((qae l0 a1).f1.f0), .int .i64 ((qae l0 a1).f1.f1), .string ((qae l0 a1).f1.f2), .int .i64 ((qae l0 a1).f1.f3.f0), .int .i64 ((qae l0 a1).f1.f3.f1)] 57 (0, 0)) (by (with_reducible repeat (first | refine qag ?_ _ | refine qai ?_ | refine blk_alloc ?_ _)); exact BK226.out) hb); have n1_ := Aside0.mk (qah (by repeat (first | (with_reducible first | exact HB.out | apply qad | apply qab | apply qac | refine qaf ?_ GE226.out) | exact HB.out)) hb); clear BK226; clear HB; have BK226 := n0_; have HB := n1_; clear n0_ n1_; (try clear hb); (try clear hb2); (try clear hk); (try clear hi)) | ((with_reducible refine qat (f := 39) rfl ?_); refine goesL_ (some 42) rfl rfl Tryz.func39 (by kernel_rfl) rfl #[.slice (some ad225) l0.length c0, .int .i64 x1_1] rfl (by (try simp only [List.map_toArray, List.map_cons, List.map_nil]); first | done | rfl | (simp only [List.length_drop, List.length_take]; rfl)) ?_; (with_reducible refine (ih k1 (by have := HK1.out; omega) _ _ l0 x1_1 t231 _ ?side1 ?side2 A23.out).mono ?_); (case side1 => repeat (first | exact (Kd.C_below HR0.out HB.out) | (with_reducible refine Kd.C_alloc ?_ _) | (with_reducible refine Kd.C_drewN ?_ _) | (with_reducible refine Kd.C_drew ?_))); (case side2 => exact HC0.out); rintro e w28 ⟨rfl, hb⟩; refine ⟨_, rfl, ?_⟩; have n0_ := Aside0.mk (qan (g := gb226) (o := .cells #[.int .i64 ((qae l0 a1).f0), .int .i64 ((qae l0 a1).f1.f0), .int .i64 ((qae l0 a1).f1.f1), .string ((qae l0 a1).f1.f2), .int .i64 ((qae l0 a1).f1.f3.f0), .int .i64 ((qae l0 a1).f1.f3.f1)] 57 (0, 0)) (by (with_reducible repeat (first | refine qag ?_ _ | refine qai ?_ | refine blk_alloc ?_ _)); exact BK226.out) hb); have n1_ := Aside0.mk (qah (by repeat (first | (with_reducible first | exact HB.out | apply qad | apply qab | apply qac | refine qaf ?_ GE226.out) | exact HB.out)) hb); clear BK226; clear HB; have BK226 := n0_; have HB := n1_; clear n0_ n1_; (try clear hb); (try clear hb2); (try clear hk); (try clear hi)) | ((with_reducible refine qat (f := 77) rfl ?_); refine goesL_ (some 46) rfl rfl Tryz.func77 (by kernel_rfl) rfl #[.slice (some ad225) l0.length c0, .int .i64 x1_1] rfl (by (try simp only [List.map_toArray, List.map_cons, List.map_nil]); first | done | rfl | (simp only [List.length_drop, List.length_take]; rfl)) ?_; (with_reducible refine (rax.calls k1 _ _ l0 x1_1 t232 _ ?side1 ?side2 A25.out).mono ?_); (case side1 => repeat (first | exact (Kd.C_below HR0.out HB.out) | (with_reducible refine Kd.C_alloc ?_ _) | (with_reducible refine Kd.C_drewN ?_ _) | (with_reducible refine Kd.C_drew ?_))); (case side2 => exact HC0.out); rintro e w29 ⟨rfl, hb⟩; refine ⟨_, rfl, ?_⟩; have n0_ := Aside0.mk (qan (g := gb226) (o := .cells #[.int .i64 ((qae l0 a1).f0), .int .i64 ((qae l0 a1).f1.f0), .int .i64 ((qae l0 a1).f1.f1), .string ((qae l0 a1).f1.f2), .int .i64 ((qae l0 a1).f1.f3.f0), .int .i64 ((qae l0 a1).f1.f3.f1)] 57 (0, 0)) (by (with_reducible repeat (first | refine qag ?_ _ | refine qai ?_ | refine blk_alloc ?_ _)); exact BK226.out) hb); have n1_ := Aside0.mk (qah (by repeat (first | (with_reducible first | exact HB.out | apply qad | apply qab | apply qac | refine qaf ?_ GE226.out) | exact HB.out)) hb); clear BK226; clear HB; have BK226 := n0_; have HB := n1_; clear n0_ n1_; (try clear hb); (try clear hb2); (try clear hk); (try clear hi)))
           go_roundg k1
           case measure => have := HK1.out; omega
           case rel => exact ⟨(t232), ((x6_1 ++ (⟨#[32]⟩ : ByteArray)) ++ t231), (wrap64 (x7_1 + 1)), (by first | rfl | (simp; done) | (simp [*]; done)), (by first | rfl | (simp; done) | (simp [*]; done)), (by first | rfl | (simp; done) | (simp [*]; done)), H', ⟨by have := HK1.out; omega⟩, ⟨by (with_reducible repeat (first | refine qag ?_ _ | refine qai ?_ | refine blk_alloc ?_ _)); exact BK226.out⟩, ⟨by repeat (first | (with_reducible first | exact HB.out | apply qad | apply qab | apply qac | refine qaf ?_ GE226.out) | exact HB.out)⟩⟩
          ·
           rw [if_neg c24] at H
           exact absurd H (by simp)
         ·
          rw [if_neg c22] at H
          exact absurd H (by simp)
        ·
         rw [if_neg c21] at H
         have c21b0 : decide (x7_1 < t230) = false := decide_eq_false c21
         clear c21
         by_cases c30 : x6_1.size + 1 ≤ 9223372036854775807
         ·
          rw [if_pos c30] at H
          have c30b0 := eq_true c30
          have c30b1 : decide (x6_1.size + 1 ≤ 9223372036854775807) = true := decide_eq_true c30
          try have c30b2 : (9223372036854775807 < x6_1.size + 1) = False := eq_false (Nat.not_lt.2 c30)
          obtain rfl := Option.some.inj H
          obtain ⟨G31_0, G31_1, G31_2, G31_3, G31_4, G31_5, F31_0, F31_1, F31_2, F31_3, F31_4, F31_5⟩ := shr6 BK226.out
          go_wp2_with (first | ((with_reducible refine qat (f := 76) rfl ?_); refine goesL_ (some 34) rfl rfl Tryz.func76 (by kernel_rfl) rfl #[.int .i64 ((qae l0 a1).f0)] rfl (by (try simp only [List.map_toArray, List.map_cons, List.map_nil]); first | done | rfl | (simp only [List.length_drop, List.length_take]; rfl)) ?_; (with_reducible refine (raf.calls k1 ((qae l0 a1).f0) t230 _ A20.out).mono ?_); rintro e w32 ⟨rfl, hb⟩; refine ⟨_, rfl, ?_⟩; have n0_ := Aside0.mk (qan (g := gb226) (o := .cells #[.int .i64 ((qae l0 a1).f0), .int .i64 ((qae l0 a1).f1.f0), .int .i64 ((qae l0 a1).f1.f1), .string ((qae l0 a1).f1.f2), .int .i64 ((qae l0 a1).f1.f3.f0), .int .i64 ((qae l0 a1).f1.f3.f1)] 57 (0, 0)) (by (with_reducible repeat (first | refine qag ?_ _ | refine qai ?_ | refine blk_alloc ?_ _)); exact BK226.out) hb); have n1_ := Aside0.mk (qah (by repeat (first | (with_reducible first | exact HB.out | apply qad | apply qab | apply qac | refine qaf ?_ GE226.out) | exact HB.out)) hb); clear BK226; clear HB; have BK226 := n0_; have HB := n1_; clear n0_ n1_; (try clear hb); (try clear hb2); (try clear hk); (try clear hi)))
          go_ret
          exact ⟨by first | rfl | (simp [*] <;> rfl), by repeat (first | (with_reducible first | exact HB.out | apply qad | apply qab | apply qac | refine qaf ?_ GE226.out) | exact HB.out)⟩
         ·
          rw [if_neg c30] at H
          exact absurd H (by simp)
     ·
      rw [if_neg c16] at H
      exact absurd H (by simp)
  ·
   rw [if_neg c4] at H
   exact absurd H (by simp)
 ·
  rw [if_neg c3] at H
  exact absurd H (by simp)
end Go.Proofs.YtejbpnhondpnfaaGreat.PJob
namespace Go.Proofs.YtejbpnhondpnfaaGreat
set_option maxRecDepth 100000
open Go.RowKit
def joinB (ws : List ByteArray) : ByteArray := ⟨(Lib.join (ws.map (·.data.toList)) [32]).toArray⟩
def WordsAt (W : World) (g : Nat) (ws : List ByteArray) : Prop := g < W.heap.size ∧ ∀ (j : Nat) x, ws[j]? = some x → W.cell? ⟨g, j, none⟩ = some (.string x)
def Out (W : World) (g : Nat) (s : ByteArray) : Prop := W.heap[g]? = some (.cells #[.string s] 9 (0, 0))
theorem Out.below {W W' : World} {g : Nat} {s : ByteArray} (h : Out W g s) (hb : Below W.heap.size W W') : Out W' g s := (hb.block _ (Array.getElem?_eq_some_iff.1 h).1).trans h
theorem Out.set {W : World} {g : Nat} {s : ByteArray} (h : Out W g s) (u : ByteArray) : Out (W.setCell ⟨g, 0, none⟩ (.string u)) g u := by
 unfold Out at *; exact one_set h _
def LineP (b5 : Nat) (W : World) (s : ByteArray) (e : Ending) (w' : World) : Prop := e = .returned (.tuple #[]) ∧ Out w' b5 s ∧ Chg (fun k => k = b5) W w'
set_option maxHeartbeats 2000000 in
theorem line_any (b5 g c : Nat) (out : ByteArray) (ws : List ByteArray) (W : World) (hO : Out W b5 out) (hw : WordsAt W g ws) (hc : ws.length ≤ c) (hc2 : ws.length ≤ 1000) (hl : out.size + (joinB ws).size ≤ 1000000000) :
  Calls Tryz.prog 26 (#[.slice (some ⟨g, 0, none⟩) ws.length c] ++ #[.pointer (some ⟨b5, 0, none⟩)]) W (LineP b5 W (out ++ (joinB ws ++ ⟨#[10]⟩))) := by
 obtain ⟨J, hJ⟩ : ∃ J, J = joinB ws := ⟨_, rfl⟩
 have hjl : (Lib.join (ws.map (·.data.toList)) [32]).length = (joinB ws).size := by unfold joinB; simp [ByteArray.size]
 have HJ := Lib.hid (fun W' (hW' : Below W.heap.size W W') => (Tryz.strings_Join g 0 c ws ⟨#[32]⟩ W' (fun j x hx => by rw [Nat.zero_add]; exact (hW'.cell (p := ⟨g, j, none⟩) hw.1).trans (hw.2 j x hx)) (Nat.lt_of_lt_of_le hw.1 hW'.size) (by omega) hc (by show (Lib.join (ws.map (·.data.toList)) [32]).length ≤ _; rw [hjl]; omega)).mono
  (R' := fun e w' => e = .returned (.string J) ∧ Below W.heap.size W w') (fun e w' ⟨h1, h2⟩ => ⟨by rw [h1, hJ]; rfl, hW'.trans (h2.mono hW'.size)⟩))
 rw [← hJ] at hl ⊢
 have c0 := one_cell hO
 have f0 := one_free hO
 have HO := Lib.hid hO
 have hlt := (Array.getElem?_eq_some_iff.1 hO).1
 have HC : Hid (∀ W', Below W.heap.size W W' → W'.cell? ⟨b5, 0, none⟩ = some (.string out) ∧ W'.frozen? ⟨b5, 0, none⟩ = false) := Lib.hid fun W' hW' => ⟨one_cell (hO.below hW'), one_free (hO.below hW')⟩
 have z1 : ¬ (9223372036854775807 < J.size + 1) := by omega
 have z2 : ¬ (9223372036854775807 < out.size + (J.size + 1)) := by omega
 have hb0 := Below.refl W.heap.size W
 have hb1 := hb0.drew
 clear hJ hjl hw hO
 go_enter Tryz.func26, Tryz.ntmps26
 go_wp2_with fail
 go_region_law (first
  | (go_simp; go_at_call 27; ((with_reducible refine (HJ.out _ ?_).mono ?_); (assumption); rintro e w7 ⟨rfl, hp7⟩; obtain ⟨c7, f7⟩ := HC.out _ hp7)))
 all_goals
  go_wp2_with fail
  go_end0
  refine ⟨rfl, ?_, ?_⟩
  ·
   exact Out.set (HO.out.below hp7) _
  ·
   exact Chg.setCell (S := fun k => k = b5) (Chg.mk hp7.os hp7.tape hp7.output hp7.size (fun k hk _ => hp7.block k hk)) (p := ⟨b5, 0, none⟩) (.inl rfl) _
theorem line_new (b5 g : Nat) (out : ByteArray) (ws : List ByteArray) (W0 : World) (vs : Array Value) (hO : Out W0 b5 out) (hg : g = W0.heap.size) (hv : vs = (ws.map Value.string).toArray) (t : TypeId) (hc2 : ws.length ≤ 1000) (hl : out.size + (joinB ws).size ≤ 1000000000) :
  Calls Tryz.prog 26 (#[.slice (some ⟨g, 0, none⟩) ws.length ws.length, .pointer (some ⟨b5, 0, none⟩)]) (W0.alloc (.cells vs t (0, 0)))
   fun e w' => e = .returned (.tuple #[]) ∧ Out w' b5 (out ++ (joinB ws ++ ⟨#[10]⟩)) ∧ Chg (fun k => k = b5) W0 w' := by
 subst hg hv
 have hlt : b5 < W0.heap.size := (Array.getElem?_eq_some_iff.1 hO).1
 have h1 : Below W0.heap.size W0 (W0.alloc (.cells (ws.map Value.string).toArray t (0, 0))) := (Below.refl _ _).alloc (Nat.le_refl _) _
 have hC : Chg (fun k => k = b5) W0 (W0.alloc (.cells (ws.map Value.string).toArray t (0, 0))) := (Chg.refl _ _).alloc _
 refine (line_any b5 W0.heap.size ws.length out ws _ (hO.below h1) ⟨?_, fun j x hx => ?_⟩ (Nat.le_refl _) hc2 hl).mono fun e w' ⟨h1, h2, h3⟩ => ⟨h1, h2, hC.trans h3 fun i hi _ => hi⟩
 ·
  show W0.heap.size < (W0.heap.push _).size
  rw [Array.size_push]; omega
 ·
  have h5 : (W0.alloc (.cells (ws.map Value.string).toArray t (0, 0))).heap[W0.heap.size]? = some (.cells (ws.map Value.string).toArray t (0, 0)) := by
   show (W0.heap.push _)[W0.heap.size]? = _
   rw [Array.getElem?_push_size]
  have h6 : (ws.map Value.string).toArray[j]? = some (.string x) := by rw [List.getElem?_toArray, List.getElem?_map, hx]; rfl
  simp only [World.cell?, h5]
  exact h6
set_option maxHeartbeats 2000000 in
theorem item_any (b5 b6 b7 : Nat) (t6 t7 : TypeId) (out key : ByteArray) (e0 : Int) (A : Option Addr) (n c : Nat) (x : ByteArray × Int) (W : World)
  (hO : Out W b5 out) (hE : W.heap[b6]? = some (.cells #[.int .i64 e0] t6 (0, 0))) (hF : W.heap[b7]? = some (.cells #[.func (.func 26) #[] #[.pointer (some ⟨b5, 0, none⟩)]] t7 (0, 0)))
  (h56 : b5 ≠ b6) (h57 : b5 ≠ b7) (h67 : b6 ≠ b7)
  (hw : ∀ W', Below W.heap.size W W' → Calls Tryz.prog 29 #[.slice A n c] W' fun e w' => e = .returned (.tuple #[.string x.1, .int .i64 x.2]) ∧ Below W.heap.size W w')
  (hl : out.size + (joinB [key, x.1]).size ≤ 1000000000) :
  Calls Tryz.prog 28 (#[.string key, .slice A n c] ++ #[.pointer (some ⟨b6, 0, none⟩), .pointer (some ⟨b7, 0, none⟩)]) W
   fun e w' => e = .returned (.tuple #[]) ∧ Out w' b5 (out ++ (joinB [key, x.1] ++ ⟨#[10]⟩)) ∧ w'.heap[b6]? = some (.cells #[.int .i64 (if e0 = 0 then x.2 else e0)] t6 (0, 0)) ∧ Chg (fun k => k = b5 ∨ k = b6) W w' := by
 obtain ⟨x1, x2⟩ := x
 have HW := Lib.hid hw
 have l6 := (Array.getElem?_eq_some_iff.1 hE).1
 have l7 := (Array.getElem?_eq_some_iff.1 hF).1
 have HE := Lib.hid hE
 have HF := Lib.hid hF
 have HO := Lib.hid hO
 have HL := Lib.hid hl
 have HC6 : Hid (∀ W', Below W.heap.size W W' → W'.cell? ⟨b6, 0, none⟩ = some (.int .i64 e0) ∧ W'.frozen? ⟨b6, 0, none⟩ = false) := Lib.hid fun W' hW' => by
  have h := (hW'.block _ l6).trans hE
  exact ⟨one_cell h, one_free h⟩
 have HC7 : Hid (∀ W', Chg (fun k => k = b5 ∨ k = b6) W W' → W'.cell? ⟨b7, 0, none⟩ = some (.func (.func 26) #[] #[.pointer (some ⟨b5, 0, none⟩)])) := Lib.hid fun W' hW' => by
  have h := (hW'.block _ l7 (by omega)).trans hF
  exact one_cell h
 have hb0 := Below.refl W.heap.size W
 clear hw hE hF hO hl
 go_enter Tryz.func28, Tryz.ntmps28
 go_wp2_with (first
  | (go_at_call 29; refine (HW.out _ (by first | assumption | exact Below.drew (by assumption))).mono ?_; rintro e w3 ⟨rfl, hb3⟩; obtain ⟨c6, f6⟩ := HC6.out _ hb3; have c7 := HC7.out _ (⟨hb3.os, hb3.tape, hb3.output, hb3.size, fun k hk _ => hb3.block k hk⟩))
  | fail)
 ·
  rename_i h0 K hK
  have he0 : e0 = 0 := by simpa using h0
  subst he0
  have hO3 : Out (w3.setCell ⟨b6, 0, none⟩ (.int .i64 x2)) b5 out := by
   have := HO.out.below hb3
   unfold Out at *
   simpa [World.setCell, Array.getElem?_modify, show b6 ≠ b5 by omega] using this
  have hE3 := one_set ((hb3.block _ l6).trans HE.out) (.int .i64 x2)
  have hC3 : Chg (fun k => k = b5 ∨ k = b6) W (w3.setCell ⟨b6, 0, none⟩ (.int .i64 x2)) := Chg.setCell (S := fun k => k = b5 ∨ k = b6) ⟨hb3.os, hb3.tape, hb3.output, hb3.size, fun k hk _ => hb3.block k hk⟩ (p := ⟨b6, 0, none⟩) (.inl (.inr rfl)) _
  refine (line_new b5 _ out [key, x1] _ _ hO3 (by simp [World.setCell]) rfl _ (show 2 ≤ 1000 by decide) HL.out).mono ?_
  rintro e w4 ⟨rfl, hO4, hC4⟩
  have hsz : b6 < (w3.setCell ⟨b6, 0, none⟩ (.int .i64 x2)).heap.size := (Array.getElem?_eq_some_iff.1 hE3).1
  go_wp2_with fail
  go_end0
  exact ⟨rfl, hO4, (hC4.block _ hsz (by omega)).trans hE3, hC3.trans hC4 fun i hi _ => .inl hi⟩
 ·
  rename_i h0 K hK
  have he0 : ¬ e0 = 0 := by simpa using h0
  have hC3 : Chg (fun k => k = b5 ∨ k = b6) W w3 := ⟨hb3.os, hb3.tape, hb3.output, hb3.size, fun k hk _ => hb3.block k hk⟩
  have hE3 := (hb3.block _ l6).trans HE.out
  have hsz : b6 < w3.heap.size := (Array.getElem?_eq_some_iff.1 hE3).1
  refine (line_new b5 _ out [key, x1] _ _ (HO.out.below hb3) rfl rfl _ (show 2 ≤ 1000 by decide) HL.out).mono ?_
  rintro e w4 ⟨rfl, hO4, hC4⟩
  go_wp2_with fail
  go_end0
  exact ⟨rfl, hO4, (hC4.block _ hsz (by omega)).trans hE3, hC3.trans hC4 fun i hi _ => .inl hi⟩
theorem jf_at {t : TypeId} {j : Jb} {A6 A7 A8 : Option Addr} {n6 c6 n7 c7 n8 c8 g : Nat} {W : World} (h : W.heap[g]? = some (.cells (jbA j A6 A7 A8 n6 c6 n7 c7 n8 c8) t (0, 0))) : JF j A6 A7 A8 n6 c6 n7 c7 n8 c8 g W :=
 ⟨cells_of h 0 _ rfl, cells_of h 1 _ rfl, cells_of h 2 _ rfl, cells_of h 3 _ rfl, cells_of h 4 _ rfl, cells_of h 5 _ rfl, cells_of h 6 _ rfl, cells_of h 7 _ rfl, cells_of h 8 _ rfl, cells_of h 9 _ rfl, cells_of h 10 _ rfl⟩
def refHead (j : Jb) (d : Int → ByteArray) (x6 : ByteArray) : ByteArray :=
 (⟨#[106, 111, 98, 32]⟩ : ByteArray) ++ j.name ++ ⟨#[10, 116, 97, 115, 107, 115, 32]⟩ ++ d j.tasks ++ ⟨#[10, 112, 97, 114, 116, 115, 32]⟩ ++ d j.parts ++ ⟨#[10, 99, 111, 100, 101, 32]⟩ ++ d j.k ++ ⟨#[32]⟩ ++ d j.n ++ ⟨#[10, 102, 117, 101, 108, 32]⟩ ++ d j.fuel ++ ⟨#[10, 109, 97, 112, 32]⟩ ++ x6 ++ ⟨#[10]⟩
def refBy (n7 : Nat) (x7 s : ByteArray) : ByteArray := if 0 < n7 then s ++ ⟨#[98, 121, 32]⟩ ++ x7 ++ ⟨#[10]⟩ else s
def refFold (fo x8 s : ByteArray) : ByteArray := if fo = ⟨#[]⟩ then s ++ ⟨#[114, 101, 100, 117, 99, 101, 32]⟩ ++ x8 ++ ⟨#[10]⟩ else s ++ ⟨#[102, 111, 108, 100, 32]⟩ ++ fo ++ ⟨#[10]⟩
def yesB (c : Bool) : ByteArray := if c then ⟨#[121, 101, 115]⟩ else ⟨#[110, 111]⟩
def refText (j : Jb) (n7 : Nat) (d : Int → ByteArray) (x6 x7 x8 : ByteArray) : ByteArray :=
 refFold j.fold x8 (refBy n7 x7 (refHead j d x6)) ++ ⟨#[99, 111, 109, 98, 105, 110, 101, 32]⟩ ++ yesB j.comb ++ ⟨#[10]⟩
set_option maxHeartbeats 16000000 in
theorem refwrite_any (j : Jb) (A6 A7 A8 : Option Addr) (n6 c6 n7 c7 n8 c8 : Nat) (x6 x7 x8 : ByteArray) (d : Int → ByteArray) (w : World)
  (hD : ∀ n, (n = j.tasks ∨ n = j.parts ∨ n = j.k ∨ n = j.n ∨ n = j.fuel) → ∀ W, Calls Tryz.prog 40 #[.int .i64 n] W fun e W' => e = .returned (.string (d n)) ∧ Below W.heap.size W W')
  (hY : ∀ c W, Calls Tryz.prog 41 #[.bool c] W fun e W' => e = .returned (.string (yesB c)) ∧ Below W.heap.size W W')
  (hX6 : ∀ W, Below w.heap.size w W → Calls Tryz.prog 39 #[.slice A6 n6 c6, .int .i64 0] W fun e W' => e = .returned (.string x6) ∧ Below W.heap.size W W')
  (hX7 : 0 < n7 → ∀ W, Below w.heap.size w W → Calls Tryz.prog 39 #[.slice A7 n7 c7, .int .i64 0] W fun e W' => e = .returned (.string x7) ∧ Below W.heap.size W W')
  (hX8 : j.fold = ⟨#[]⟩ → ∀ W, Below w.heap.size w W → Calls Tryz.prog 39 #[.slice A8 n8 c8, .int .i64 0] W fun e W' => e = .returned (.string x8) ∧ Below W.heap.size W W')
  (z0 : j.name.size ≤ 1000000) (zd : ∀ n, (d n).size ≤ 1000000) (z6 : x6.size ≤ 10000000) (z7 : x7.size ≤ 10000000) (z8 : x8.size ≤ 10000000) (z9 : j.fold.size ≤ 1000000) :
  Calls Tryz.prog 15 #[.agg (jbA j A6 A7 A8 n6 c6 n7 c7 n8 c8)] w fun e w' => e = .returned (.string (refText j n7 d x6 x7 x8)) ∧ Below w.heap.size w w' := by
 obtain ⟨W1, hW1⟩ : ∃ W1, W1 = w.alloc (.cells (jbA j A6 A7 A8 n6 c6 n7 c7 n8 c8) 24) := ⟨_, rfl⟩
 have hg : W1.heap[w.heap.size]? = some (.cells (jbA j A6 A7 A8 n6 c6 n7 c7 n8 c8) 24 (0, 0)) := by rw [hW1]; exact heap_alloc_new w _
 have hb1 : Below w.heap.size w W1 := by rw [hW1]; exact (Below.refl _ w).alloc (Nat.le_refl _) _
 have hlt := (Array.getElem?_eq_some_iff.1 hg).1
 have HG : Hid (∀ W, Below W1.heap.size W1 W → JF j A6 A7 A8 n6 c6 n7 c7 n8 c8 w.heap.size W) := Lib.hid fun W hW => jf_at ((hW.block _ hlt).trans hg)
 have HB1 := Lib.hid hb1
 obtain ⟨RES, hRES⟩ : ∃ R, R = refText j n7 d x6 x7 x8 := ⟨_, rfl⟩
 rw [← hRES]
 obtain ⟨nm, ta, pa, k, n, fu, fo, cb⟩ := j
 unfold jbA at hW1 ⊢
 unfold refText refHead at hRES
 simp only at hW1 hX6 hX7 hX8 hRES z0 z9 hD ⊢
 have HX6 : Hid (∀ W, Below W1.heap.size W1 W → Calls Tryz.prog 39 #[.slice A6 n6 c6, .int .i64 0] W fun e W' => e = .returned (.string x6) ∧ Below W.heap.size W W') := Lib.hid fun W hW => hX6 W (hb1.trans (hW.mono hb1.size))
 have HX7 : Hid (0 < n7 → ∀ W, Below W1.heap.size W1 W → Calls Tryz.prog 39 #[.slice A7 n7 c7, .int .i64 0] W fun e W' => e = .returned (.string x7) ∧ Below W.heap.size W W') := Lib.hid fun h W hW => hX7 h W (hb1.trans (hW.mono hb1.size))
 have HX8 : Hid (fo = ⟨#[]⟩ → ∀ W, Below W1.heap.size W1 W → Calls Tryz.prog 39 #[.slice A8 n8 c8, .int .i64 0] W fun e W' => e = .returned (.string x8) ∧ Below W.heap.size W W') := Lib.hid fun h W hW => hX8 h W (hb1.trans (hW.mono hb1.size))
 have HD := Lib.hid hD
 have HY := Lib.hid hY
 have za := zd ta; have zb := zd pa; have zc := zd k; have ze := zd n; have zf := zd fu
 obtain ⟨s6, h6⟩ : ∃ s, s = (⟨#[106, 111, 98, 32]⟩ : ByteArray) ++ nm := ⟨_, rfl⟩
 rw [← h6] at hRES
 have q6 : s6.size = 4 + nm.size := by rw [h6, ByteArray.size_append]; rfl
 obtain ⟨s7, h7⟩ : ∃ s, s = s6 ++ (⟨#[10, 116, 97, 115, 107, 115, 32]⟩ : ByteArray) := ⟨_, rfl⟩
 rw [← h7] at hRES
 have q7 : s7.size = s6.size + 7 := by rw [h7, ByteArray.size_append]; rfl
 obtain ⟨s11, h11⟩ : ∃ s, s = s7 ++ d ta := ⟨_, rfl⟩
 rw [← h11] at hRES
 have q11 : s11.size = s7.size + (d ta).size := by rw [h11, ByteArray.size_append]
 obtain ⟨s12, h12⟩ : ∃ s, s = s11 ++ (⟨#[10, 112, 97, 114, 116, 115, 32]⟩ : ByteArray) := ⟨_, rfl⟩
 rw [← h12] at hRES
 have q12 : s12.size = s11.size + 7 := by rw [h12, ByteArray.size_append]; rfl
 obtain ⟨s16, h16⟩ : ∃ s, s = s12 ++ d pa := ⟨_, rfl⟩
 rw [← h16] at hRES
 have q16 : s16.size = s12.size + (d pa).size := by rw [h16, ByteArray.size_append]
 obtain ⟨s17, h17⟩ : ∃ s, s = s16 ++ (⟨#[10, 99, 111, 100, 101, 32]⟩ : ByteArray) := ⟨_, rfl⟩
 rw [← h17] at hRES
 have q17 : s17.size = s16.size + 6 := by rw [h17, ByteArray.size_append]; rfl
 obtain ⟨s21, h21⟩ : ∃ s, s = s17 ++ d k := ⟨_, rfl⟩
 rw [← h21] at hRES
 have q21 : s21.size = s17.size + (d k).size := by rw [h21, ByteArray.size_append]
 obtain ⟨s22, h22⟩ : ∃ s, s = s21 ++ (⟨#[32]⟩ : ByteArray) := ⟨_, rfl⟩
 rw [← h22] at hRES
 have q22 : s22.size = s21.size + 1 := by rw [h22, ByteArray.size_append]; rfl
 obtain ⟨s26, h26⟩ : ∃ s, s = s22 ++ d n := ⟨_, rfl⟩
 rw [← h26] at hRES
 have q26 : s26.size = s22.size + (d n).size := by rw [h26, ByteArray.size_append]
 obtain ⟨s27, h27⟩ : ∃ s, s = s26 ++ (⟨#[10, 102, 117, 101, 108, 32]⟩ : ByteArray) := ⟨_, rfl⟩
 rw [← h27] at hRES
 have q27 : s27.size = s26.size + 6 := by rw [h27, ByteArray.size_append]; rfl
 obtain ⟨s31, h31⟩ : ∃ s, s = s27 ++ d fu := ⟨_, rfl⟩
 rw [← h31] at hRES
 have q31 : s31.size = s27.size + (d fu).size := by rw [h31, ByteArray.size_append]
 obtain ⟨s32, h32⟩ : ∃ s, s = s31 ++ (⟨#[10, 109, 97, 112, 32]⟩ : ByteArray) := ⟨_, rfl⟩
 rw [← h32] at hRES
 have q32 : s32.size = s31.size + 5 := by rw [h32, ByteArray.size_append]; rfl
 obtain ⟨s36, h36⟩ : ∃ s, s = s32 ++ x6 := ⟨_, rfl⟩
 rw [← h36] at hRES
 have q36 : s36.size = s32.size + x6.size := by rw [h36, ByteArray.size_append]
 obtain ⟨s37, h37⟩ : ∃ s, s = s36 ++ (⟨#[10]⟩ : ByteArray) := ⟨_, rfl⟩
 rw [← h37] at hRES
 have q37 : s37.size = s36.size + 1 := by rw [h37, ByteArray.size_append]; rfl
 have HQ : Hid (s37.size ≤ 20000000) := Lib.hid (by omega)
 have r6 : ¬ (9223372036854775807 < 4 + nm.size) := by omega
 have r7 : ¬ (9223372036854775807 < s6.size + 7) := by omega
 have r11 : ¬ (9223372036854775807 < s7.size + (d ta).size) := by omega
 have r12 : ¬ (9223372036854775807 < s11.size + 7) := by omega
 have r16 : ¬ (9223372036854775807 < s12.size + (d pa).size) := by omega
 have r17 : ¬ (9223372036854775807 < s16.size + 6) := by omega
 have r21 : ¬ (9223372036854775807 < s17.size + (d k).size) := by omega
 have r22 : ¬ (9223372036854775807 < s21.size + 1) := by omega
 have r26 : ¬ (9223372036854775807 < s22.size + (d n).size) := by omega
 have r27 : ¬ (9223372036854775807 < s26.size + 6) := by omega
 have r31 : ¬ (9223372036854775807 < s27.size + (d fu).size) := by omega
 have r32 : ¬ (9223372036854775807 < s31.size + 5) := by omega
 have r36 : ¬ (9223372036854775807 < s32.size + x6.size) := by omega
 have r37 : ¬ (9223372036854775807 < s36.size + 1) := by omega
 have K6 := Lib.hid h6.symm; have K7 := Lib.hid h7.symm; have K11 := Lib.hid h11.symm; have K12 := Lib.hid h12.symm; have K16 := Lib.hid h16.symm; have K17 := Lib.hid h17.symm; have K21 := Lib.hid h21.symm
 have K22 := Lib.hid h22.symm; have K26 := Lib.hid h26.symm; have K27 := Lib.hid h27.symm; have K31 := Lib.hid h31.symm; have K32 := Lib.hid h32.symm; have K36 := Lib.hid h36.symm; have K37 := Lib.hid h37.symm
 have HRES := Lib.hid hRES
 have HZ : Hid (x7.size ≤ 10000000 ∧ x8.size ≤ 10000000 ∧ fo.size ≤ 1000000) := Lib.hid ⟨z7, z8, z9⟩
 clear hD hY hX6 hX7 hX8 zd za zb zc ze zf z0 z6 z7 z8 z9 h6 h7 h11 h12 h16 h17 h21 h22 h26 h27 h31 h32 h36 h37 q6 q7 q11 q12 q16 q17 q21 q22 q26 q27 q31 q32 q36 q37 hRES hg hlt hb1
 go_enter Tryz.func15, Tryz.ntmps15
 go_upto_region 1 with (first | (rw [← hW1]; clear hW1) | fail)
 refine' wp_region_full (by kernel_rfl) (by kernel_rfl) (fun x => [(4, .pointer (some ⟨w.heap.size, 0, none⟩)), (5, .string nm), (6, .string s6), (7, .string s7), (8, .pointer (some ⟨w.heap.size, 1, none⟩)), (9, .int .i64 ta), (10, .string (d ta)), (11, .string s11), (12, .string s12), (13, .pointer (some ⟨w.heap.size, 2, none⟩)), (14, .int .i64 pa), (15, .string (d pa)), (16, .string s16), (17, .string s17), (18, .pointer (some ⟨w.heap.size, 3, none⟩)), (19, .int .i64 k), (20, .string (d k)), (21, .string s21), (22, .string s22), (23, .pointer (some ⟨w.heap.size, 4, none⟩)), (24, .int .i64 n), (25, .string (d n)), (26, .string s26), (27, .string s27), (28, .pointer (some ⟨w.heap.size, 5, none⟩)), (29, .int .i64 fu), (30, .string (d fu)), (31, .string s31), (32, .string s32), (33, .pointer (some ⟨w.heap.size, 6, none⟩)), (34, .slice A6 n6 c6), (35, .string x6), (36, .string s36), (37, .string s37), (3, .string s37)]) ?hk _ ?hF (fun i => false) ?hlate (fun W => Below W1.heap.size W1 W) (fun W W' => Below W.heap.size W W') (fun i v W => True) ?hT ?hS ?hops ?hdone
 case hF => intro x; simp only [putL, List.foldl]; go_simp; rfl
 case hk => intro x p hp; simp only [List.mem_cons, List.not_mem_nil, or_false] at hp; (rcases hp with rfl | rfl | rfl | rfl | rfl | rfl | rfl | rfl | rfl | rfl | rfl | rfl | rfl | rfl | rfl | rfl | rfl | rfl | rfl | rfl | rfl | rfl | rfl | rfl | rfl | rfl | rfl | rfl | rfl | rfl | rfl | rfl | rfl | rfl | rfl <;> rfl)
 case hlate =>
  intro x i v o hl; cases hl
 case hT => intros; trivial
 case hS => exact Below.drew (Below.refl _ _)
 case hops =>
  refine ⟨?o0, ?o1, ?o2, ?o3, ?o4, ?o5, ?o6, ?o7, ?o8, ?o9, ?o10, ?o11, ?o12, ?o13, ?o14, ?o15, ?o16, ?o17, ?o18, ?o19, ?o20, ?o21, ?o22, ?o23, ?o24, ?o25, ?o26, ?o27, ?o28, ?o29, ?o30, ?o31, ?o32, ?o33, ?o34, trivial⟩
  case o0 => intro x; rw [if_pos (by rfl)]; intro W hW hj; go_simp; first | exact Below.refl _ _ | exact ⟨rfl, hW, Below.refl _ _⟩ | exact ⟨hW, Below.refl _ _⟩
  case o1 => intro x; rw [if_pos (by rfl)]; intro W hW hj; obtain ⟨v0, v1, v2, v3, v4, v5, v6, v7, v8, v9, v10⟩ := HG.out _ hW; go_simp; first | exact Below.refl _ _ | exact ⟨rfl, hW, Below.refl _ _⟩ | exact ⟨hW, Below.refl _ _⟩
  case o2 => intro x; rw [if_pos (by rfl)]; intro W hW hj; go_simp; first | exact Below.refl _ _ | exact ⟨by rw [K6.out], Below.refl _ _⟩ | exact ⟨by rw [K6.out], hW, Below.refl _ _⟩
  case o3 => intro x; rw [if_pos (by rfl)]; intro W hW hj; go_simp; first | exact Below.refl _ _ | exact ⟨by rw [K7.out], Below.refl _ _⟩ | exact ⟨by rw [K7.out], hW, Below.refl _ _⟩
  case o4 => intro x; rw [if_pos (by rfl)]; intro W hW hj; go_simp; first | exact Below.refl _ _ | exact ⟨rfl, hW, Below.refl _ _⟩ | exact ⟨hW, Below.refl _ _⟩
  case o5 => intro x; rw [if_pos (by rfl)]; intro W hW hj; obtain ⟨v0, v1, v2, v3, v4, v5, v6, v7, v8, v9, v10⟩ := HG.out _ hW; go_simp; first | exact Below.refl _ _ | exact ⟨rfl, hW, Below.refl _ _⟩ | exact ⟨hW, Below.refl _ _⟩
  case o6 => intro x; rw [if_pos (by rfl)]; intro W hW hj; go_simp; go_at_call 40; refine (HD.out ta (by simp) W).mono ?_; rintro e w7 ⟨rfl, hp7⟩; exact ⟨rfl, hW.trans (hp7.mono hW.size), hp7⟩
  case o7 => intro x; rw [if_pos (by rfl)]; intro W hW hj; go_simp; first | exact Below.refl _ _ | exact ⟨by rw [K11.out], Below.refl _ _⟩ | exact ⟨by rw [K11.out], hW, Below.refl _ _⟩
  case o8 => intro x; rw [if_pos (by rfl)]; intro W hW hj; go_simp; first | exact Below.refl _ _ | exact ⟨by rw [K12.out], Below.refl _ _⟩ | exact ⟨by rw [K12.out], hW, Below.refl _ _⟩
  case o9 => intro x; rw [if_pos (by rfl)]; intro W hW hj; go_simp; first | exact Below.refl _ _ | exact ⟨rfl, hW, Below.refl _ _⟩ | exact ⟨hW, Below.refl _ _⟩
  case o10 => intro x; rw [if_pos (by rfl)]; intro W hW hj; obtain ⟨v0, v1, v2, v3, v4, v5, v6, v7, v8, v9, v10⟩ := HG.out _ hW; go_simp; first | exact Below.refl _ _ | exact ⟨rfl, hW, Below.refl _ _⟩ | exact ⟨hW, Below.refl _ _⟩
  case o11 => intro x; rw [if_pos (by rfl)]; intro W hW hj; go_simp; go_at_call 40; refine (HD.out pa (by simp) W).mono ?_; rintro e w7 ⟨rfl, hp7⟩; exact ⟨rfl, hW.trans (hp7.mono hW.size), hp7⟩
  case o12 => intro x; rw [if_pos (by rfl)]; intro W hW hj; go_simp; first | exact Below.refl _ _ | exact ⟨by rw [K16.out], Below.refl _ _⟩ | exact ⟨by rw [K16.out], hW, Below.refl _ _⟩
  case o13 => intro x; rw [if_pos (by rfl)]; intro W hW hj; go_simp; first | exact Below.refl _ _ | exact ⟨by rw [K17.out], Below.refl _ _⟩ | exact ⟨by rw [K17.out], hW, Below.refl _ _⟩
  case o14 => intro x; rw [if_pos (by rfl)]; intro W hW hj; go_simp; first | exact Below.refl _ _ | exact ⟨rfl, hW, Below.refl _ _⟩ | exact ⟨hW, Below.refl _ _⟩
  case o15 => intro x; rw [if_pos (by rfl)]; intro W hW hj; obtain ⟨v0, v1, v2, v3, v4, v5, v6, v7, v8, v9, v10⟩ := HG.out _ hW; go_simp; first | exact Below.refl _ _ | exact ⟨rfl, hW, Below.refl _ _⟩ | exact ⟨hW, Below.refl _ _⟩
  case o16 => intro x; rw [if_pos (by rfl)]; intro W hW hj; go_simp; go_at_call 40; refine (HD.out k (by simp) W).mono ?_; rintro e w7 ⟨rfl, hp7⟩; exact ⟨rfl, hW.trans (hp7.mono hW.size), hp7⟩
  case o17 => intro x; rw [if_pos (by rfl)]; intro W hW hj; go_simp; first | exact Below.refl _ _ | exact ⟨by rw [K21.out], Below.refl _ _⟩ | exact ⟨by rw [K21.out], hW, Below.refl _ _⟩
  case o18 => intro x; rw [if_pos (by rfl)]; intro W hW hj; go_simp; first | exact Below.refl _ _ | exact ⟨by rw [K22.out], Below.refl _ _⟩ | exact ⟨by rw [K22.out], hW, Below.refl _ _⟩
  case o19 => intro x; rw [if_pos (by rfl)]; intro W hW hj; go_simp; first | exact Below.refl _ _ | exact ⟨rfl, hW, Below.refl _ _⟩ | exact ⟨hW, Below.refl _ _⟩
  case o20 => intro x; rw [if_pos (by rfl)]; intro W hW hj; obtain ⟨v0, v1, v2, v3, v4, v5, v6, v7, v8, v9, v10⟩ := HG.out _ hW; go_simp; first | exact Below.refl _ _ | exact ⟨rfl, hW, Below.refl _ _⟩ | exact ⟨hW, Below.refl _ _⟩
  case o21 => intro x; rw [if_pos (by rfl)]; intro W hW hj; go_simp; go_at_call 40; refine (HD.out n (by simp) W).mono ?_; rintro e w7 ⟨rfl, hp7⟩; exact ⟨rfl, hW.trans (hp7.mono hW.size), hp7⟩
  case o22 => intro x; rw [if_pos (by rfl)]; intro W hW hj; go_simp; first | exact Below.refl _ _ | exact ⟨by rw [K26.out], Below.refl _ _⟩ | exact ⟨by rw [K26.out], hW, Below.refl _ _⟩
  case o23 => intro x; rw [if_pos (by rfl)]; intro W hW hj; go_simp; first | exact Below.refl _ _ | exact ⟨by rw [K27.out], Below.refl _ _⟩ | exact ⟨by rw [K27.out], hW, Below.refl _ _⟩
  case o24 => intro x; rw [if_pos (by rfl)]; intro W hW hj; go_simp; first | exact Below.refl _ _ | exact ⟨rfl, hW, Below.refl _ _⟩ | exact ⟨hW, Below.refl _ _⟩
  case o25 => intro x; rw [if_pos (by rfl)]; intro W hW hj; obtain ⟨v0, v1, v2, v3, v4, v5, v6, v7, v8, v9, v10⟩ := HG.out _ hW; go_simp; first | exact Below.refl _ _ | exact ⟨rfl, hW, Below.refl _ _⟩ | exact ⟨hW, Below.refl _ _⟩
  case o26 => intro x; rw [if_pos (by rfl)]; intro W hW hj; go_simp; go_at_call 40; refine (HD.out fu (by simp) W).mono ?_; rintro e w7 ⟨rfl, hp7⟩; exact ⟨rfl, hW.trans (hp7.mono hW.size), hp7⟩
  case o27 => intro x; rw [if_pos (by rfl)]; intro W hW hj; go_simp; first | exact Below.refl _ _ | exact ⟨by rw [K31.out], Below.refl _ _⟩ | exact ⟨by rw [K31.out], hW, Below.refl _ _⟩
  case o28 => intro x; rw [if_pos (by rfl)]; intro W hW hj; go_simp; first | exact Below.refl _ _ | exact ⟨by rw [K32.out], Below.refl _ _⟩ | exact ⟨by rw [K32.out], hW, Below.refl _ _⟩
  case o29 => intro x; rw [if_pos (by rfl)]; intro W hW hj; go_simp; first | exact Below.refl _ _ | exact ⟨rfl, hW, Below.refl _ _⟩ | exact ⟨hW, Below.refl _ _⟩
  case o30 => intro x; rw [if_pos (by rfl)]; intro W hW hj; obtain ⟨v0, v1, v2, v3, v4, v5, v6, v7, v8, v9, v10⟩ := HG.out _ hW; go_simp; first | exact Below.refl _ _ | exact ⟨rfl, hW, Below.refl _ _⟩ | exact ⟨hW, Below.refl _ _⟩
  case o31 => intro x; rw [if_pos (by rfl)]; intro W hW hj; go_simp; go_at_call 39; refine (HX6.out W hW).mono ?_; rintro e w7 ⟨rfl, hp7⟩; exact ⟨rfl, hW.trans (hp7.mono hW.size), hp7⟩
  case o32 => intro x; rw [if_pos (by rfl)]; intro W hW hj; go_simp; first | exact Below.refl _ _ | exact ⟨by rw [K36.out], Below.refl _ _⟩ | exact ⟨by rw [K36.out], hW, Below.refl _ _⟩
  case o33 => intro x; rw [if_pos (by rfl)]; intro W hW hj; go_simp; first | exact Below.refl _ _ | exact ⟨by rw [K37.out], Below.refl _ _⟩ | exact ⟨by rw [K37.out], hW, Below.refl _ _⟩
  case o34 => intro x; rw [if_pos (by rfl)]; intro W hW hj; go_simp; first | exact Below.refl _ _ | exact ⟨rfl, hW, Below.refl _ _⟩ | exact ⟨hW, Below.refl _ _⟩
 case hdone =>
  intro x w9 hw9 hx
  obtain ⟨z7, z8, z9⟩ := HZ.out
  have q0 := HQ.out
  clear r6 r7 r11 r12 r16 r17 r21 r22 r26 r27 r31 r32 r36 r37 hx
  have HW9 := Lib.hid hw9
  obtain ⟨v0, v1, v2, v3, v4, v5, v6, v7, v8, v9, v10⟩ := HG.out _ hw9
  have yz : (yesB cb).size ≤ 3 := by cases cb <;> decide
  by_cases h7 : 0 < n7
  ·
   have H7 := Lib.hid h7
   have h7a : (0 : Int) < (n7 : Int) := by omega
   clear h7
   by_cases hfo : fo.size = 0
   ·
    have HF : Hid (fo = ⟨#[]⟩) := Lib.hid (ByteArray.size_eq_zero_iff.1 hfo)
    obtain rfl : fo = ⟨#[]⟩ := HF.out
    clear hfo
    have m1 : ¬ (9223372036854775807 < s37.size + 3) := by omega
    have m2 : ¬ (9223372036854775807 < s37.size + 3 + x7.size) := by omega
    have m3 : ¬ (9223372036854775807 < s37.size + 3 + x7.size + 1) := by omega
    have m4 : ¬ (9223372036854775807 < s37.size + 3 + x7.size + 1 + 7) := by omega
    have m5 : ¬ (9223372036854775807 < s37.size + 3 + x7.size + 1 + 7 + x8.size) := by omega
    have m6 : ¬ (9223372036854775807 < s37.size + 3 + x7.size + 1 + 7 + x8.size + 1) := by omega
    have m7 : ¬ (9223372036854775807 < s37.size + 3 + x7.size + 1 + 7 + x8.size + 1 + 8) := by omega
    have m8 : ¬ (9223372036854775807 < s37.size + 3 + x7.size + 1 + 7 + x8.size + 1 + 8 + (yesB cb).size) := by omega
    have m9 : ¬ (9223372036854775807 < s37.size + 3 + x7.size + 1 + 7 + x8.size + 1 + 8 + (yesB cb).size + 1) := by omega
    clear q0 z7 z8 z9 yz hw9
    go_wp2_with (first
     | (go_at_call 39; (with_reducible refine (HX7.out H7.out _ HW9.out).mono ?_); rintro e w10 ⟨rfl, hp⟩; have HW10 := Lib.hid (HW9.out.trans (hp.mono HW9.out.size)); clear hp v0 v1 v2 v3 v4 v5 v6 v7 v8 v9 v10; obtain ⟨v0, v1, v2, v3, v4, v5, v6, v7, v8, v9, v10⟩ := HG.out _ HW10.out)
     | (go_at_call 39; (with_reducible refine (HX8.out HF.out _ HW10.out).mono ?_); rintro e w11 ⟨rfl, hp⟩; have HW11 := Lib.hid (HW10.out.trans (hp.mono HW10.out.size)); clear hp v0 v1 v2 v3 v4 v5 v6 v7 v8 v9 v10; obtain ⟨v0, v1, v2, v3, v4, v5, v6, v7, v8, v9, v10⟩ := HG.out _ HW11.out)
     | (go_at_call 41; refine (HY.out cb _).mono ?_; rintro e w12 ⟨rfl, hp⟩; have HW12 := Lib.hid (HW11.out.trans (hp.mono HW11.out.size)); clear hp)
     | fail)
    go_ret
    refine ⟨?_, HB1.out.trans (HW12.out.mono HB1.out.size)⟩
    rw [HRES.out]
    unfold refFold refBy
    rw [if_pos H7.out, if_pos (rfl : (⟨#[]⟩ : ByteArray) = ⟨#[]⟩)]
    first | done | rfl
   ·
    have u1 : ¬ fo.toList = [] := fun e => hfo (by rw [ByteArray.toList_eq] at e; have := congrArg List.length e; simpa using this)
    have u2 : fo.toList.isEmpty = false := by simpa using u1
    have HF : Hid (¬ fo = ⟨#[]⟩) := Lib.hid fun e => hfo (by rw [e]; rfl)
    clear hfo
    have m1 : ¬ (9223372036854775807 < s37.size + 3) := by omega
    have m2 : ¬ (9223372036854775807 < s37.size + 3 + x7.size) := by omega
    have m3 : ¬ (9223372036854775807 < s37.size + 3 + x7.size + 1) := by omega
    have m4 : ¬ (9223372036854775807 < s37.size + 3 + x7.size + 1 + 5) := by omega
    have m5 : ¬ (9223372036854775807 < s37.size + 3 + x7.size + 1 + 5 + fo.size) := by omega
    have m6 : ¬ (9223372036854775807 < s37.size + 3 + x7.size + 1 + 5 + fo.size + 1) := by omega
    have m7 : ¬ (9223372036854775807 < s37.size + 3 + x7.size + 1 + 5 + fo.size + 1 + 8) := by omega
    have m8 : ¬ (9223372036854775807 < s37.size + 3 + x7.size + 1 + 5 + fo.size + 1 + 8 + (yesB cb).size) := by omega
    have m9 : ¬ (9223372036854775807 < s37.size + 3 + x7.size + 1 + 5 + fo.size + 1 + 8 + (yesB cb).size + 1) := by omega
    clear q0 z7 z8 z9 yz hw9
    go_wp2_with (first
     | (go_at_call 39; (with_reducible refine (HX7.out H7.out _ HW9.out).mono ?_); rintro e w10 ⟨rfl, hp⟩; have HW10 := Lib.hid (HW9.out.trans (hp.mono HW9.out.size)); clear hp v0 v1 v2 v3 v4 v5 v6 v7 v8 v9 v10; obtain ⟨v0, v1, v2, v3, v4, v5, v6, v7, v8, v9, v10⟩ := HG.out _ HW10.out)
     | (go_at_call 41; refine (HY.out cb _).mono ?_; rintro e w12 ⟨rfl, hp⟩; have HW12 := Lib.hid (HW10.out.trans (hp.mono HW10.out.size)); clear hp)
     | fail)
    go_ret
    refine ⟨?_, HB1.out.trans (HW12.out.mono HB1.out.size)⟩
    rw [HRES.out]
    unfold refFold refBy
    rw [if_pos H7.out, if_neg HF.out]
    first | done | rfl
  ·
   have H7 := Lib.hid h7
   have h7a : ¬ (0 : Int) < (n7 : Int) := by omega
   clear h7
   by_cases hfo : fo.size = 0
   ·
    have HF : Hid (fo = ⟨#[]⟩) := Lib.hid (ByteArray.size_eq_zero_iff.1 hfo)
    obtain rfl : fo = ⟨#[]⟩ := HF.out
    clear hfo
    have m4 : ¬ (9223372036854775807 < s37.size + 7) := by omega
    have m5 : ¬ (9223372036854775807 < s37.size + 7 + x8.size) := by omega
    have m6 : ¬ (9223372036854775807 < s37.size + 7 + x8.size + 1) := by omega
    have m7 : ¬ (9223372036854775807 < s37.size + 7 + x8.size + 1 + 8) := by omega
    have m8 : ¬ (9223372036854775807 < s37.size + 7 + x8.size + 1 + 8 + (yesB cb).size) := by omega
    have m9 : ¬ (9223372036854775807 < s37.size + 7 + x8.size + 1 + 8 + (yesB cb).size + 1) := by omega
    clear q0 z7 z8 z9 yz hw9
    go_wp2_with (first
     | (go_at_call 39; (with_reducible refine (HX8.out HF.out _ HW9.out).mono ?_); rintro e w11 ⟨rfl, hp⟩; have HW11 := Lib.hid (HW9.out.trans (hp.mono HW9.out.size)); clear hp v0 v1 v2 v3 v4 v5 v6 v7 v8 v9 v10; obtain ⟨v0, v1, v2, v3, v4, v5, v6, v7, v8, v9, v10⟩ := HG.out _ HW11.out)
     | (go_at_call 41; refine (HY.out cb _).mono ?_; rintro e w12 ⟨rfl, hp⟩; have HW12 := Lib.hid (HW11.out.trans (hp.mono HW11.out.size)); clear hp)
     | fail)
    go_ret
    refine ⟨?_, HB1.out.trans (HW12.out.mono HB1.out.size)⟩
    rw [HRES.out]
    unfold refFold refBy
    rw [if_neg H7.out, if_pos (rfl : (⟨#[]⟩ : ByteArray) = ⟨#[]⟩)]
    first | done | rfl
   ·
    have u1 : ¬ fo.toList = [] := fun e => hfo (by rw [ByteArray.toList_eq] at e; have := congrArg List.length e; simpa using this)
    have u2 : fo.toList.isEmpty = false := by simpa using u1
    have HF : Hid (¬ fo = ⟨#[]⟩) := Lib.hid fun e => hfo (by rw [e]; rfl)
    clear hfo
    have m4 : ¬ (9223372036854775807 < s37.size + 5) := by omega
    have m5 : ¬ (9223372036854775807 < s37.size + 5 + fo.size) := by omega
    have m6 : ¬ (9223372036854775807 < s37.size + 5 + fo.size + 1) := by omega
    have m7 : ¬ (9223372036854775807 < s37.size + 5 + fo.size + 1 + 8) := by omega
    have m8 : ¬ (9223372036854775807 < s37.size + 5 + fo.size + 1 + 8 + (yesB cb).size) := by omega
    have m9 : ¬ (9223372036854775807 < s37.size + 5 + fo.size + 1 + 8 + (yesB cb).size + 1) := by omega
    clear q0 z7 z8 z9 yz hw9
    go_wp2_with (first
     | (go_at_call 41; refine (HY.out cb _).mono ?_; rintro e w12 ⟨rfl, hp⟩; have HW12 := Lib.hid (HW9.out.trans (hp.mono HW9.out.size)); clear hp)
     | fail)
    go_ret
    refine ⟨?_, HB1.out.trans (HW12.out.mono HB1.out.size)⟩
    rw [HRES.out]
    unfold refFold refBy
    rw [if_neg H7.out, if_neg HF.out]
    first | done | rfl
end Go.Proofs.YtejbpnhondpnfaaGreat
namespace Go.Proofs.YtejbpnhondpnfaaGreat
open Go.RowKit
theorem bmap_types : Tryz.prog.underlying 66 = some (.map 4 9) ∧ Tryz.prog.underlying 4 = some .bool := by constructor <;> kernel_rfl
theorem bmap_one {w : World} {b : Nat} (hb : w.heap[b]? = some (.map #[] 0)) (y : ByteArray) :
  (Instr.mapUpdate 66 (.map (some b)) (.bool true) (.string y)).run Tryz.prog w = .ok () { w with heap := w.heap.setIfInBounds b (.map #[⟨.bool true, .string y, 0⟩] 1) } := by
 have h1 : Instr.findNow .bool (.bool true) ([] : List MapEntry) 0 = some none := rfl
 simp [Instr.mapUpdate, run_underlying bmap_types.1, MapKept.run_getObj_map hb, MapKept.run_checkKey bmap_types.2 (show MapKept.IsKey .bool (.bool true) from trivial), MapKept.run_findKey bmap_types.2 h1, MapKept.run_setObj_map _ hb, Result.andThen]
theorem bmap_two {w : World} {b : Nat} (y n : ByteArray) (hb : w.heap[b]? = some (.map #[⟨.bool true, .string y, 0⟩] 1)) :
  (Instr.mapUpdate 66 (.map (some b)) (.bool false) (.string n)).run Tryz.prog w = .ok () { w with heap := w.heap.setIfInBounds b (.map #[⟨.bool true, .string y, 0⟩, ⟨.bool false, .string n, 1⟩] 2) } := by
 have h1 : Instr.findNow .bool (.bool false) [(⟨.bool true, .string y, 0⟩ : MapEntry)] 0 = some none := rfl
 simp [Instr.mapUpdate, run_underlying bmap_types.1, MapKept.run_getObj_map hb, MapKept.run_checkKey bmap_types.2 (show MapKept.IsKey .bool (.bool false) from trivial), MapKept.run_findKey bmap_types.2 h1, MapKept.run_setObj_map _ hb, Result.andThen]
theorem bmap_look {w : World} {b : Nat} (y n : ByteArray) (hb : w.heap[b]? = some (.map #[⟨.bool true, .string y, 0⟩, ⟨.bool false, .string n, 1⟩] 2)) (c : Bool) :
  (Instr.lookup 66 (.map (some b)) (.bool c) false).run Tryz.prog w = .ok (.string (if c then y else n)) w := by
 have h1 : Instr.findNow .bool (.bool c) [(⟨.bool true, .string y, 0⟩ : MapEntry), ⟨.bool false, .string n, 1⟩] 0 = some (some (if c then 0 else 1, .string (if c then y else n))) := by cases c <;> rfl
 simp [Instr.lookup, run_underlying bmap_types.1, MapKept.run_getObj_map hb, MapKept.run_checkKey bmap_types.2 (show MapKept.IsKey .bool (.bool c) from trivial), MapKept.run_findKey bmap_types.2 h1, Result.andThen]
theorem bmap_made (w : World) (y n : ByteArray) (c : Bool) : ∃ w1 w2, (Instr.mapUpdate 66 (.map (some w.heap.size)) (.bool true) (.string y)).run Tryz.prog (w.alloc (.map #[] 0)) = .ok () w1 ∧
  (Instr.mapUpdate 66 (.map (some w.heap.size)) (.bool false) (.string n)).run Tryz.prog w1 = .ok () w2 ∧
  (Instr.lookup 66 (.map (some w.heap.size)) (.bool c) false).run Tryz.prog w2 = .ok (.string (if c then y else n)) w2 ∧ Below w.heap.size w w2 := by
 have h0 : (w.alloc (.map #[] 0)).heap[w.heap.size]? = some (.map #[] 0) := heap_alloc_new w _
 obtain ⟨h2, h3⟩ := MapKept.heap_set (o' := .map #[⟨.bool true, .string y, 0⟩] 1) h0
 obtain ⟨h4, h5⟩ := MapKept.heap_set (w := { (w.alloc (.map #[] 0)) with heap := (w.alloc (.map #[] 0)).heap.setIfInBounds w.heap.size (.map #[⟨.bool true, .string y, 0⟩] 1) }) (o' := .map #[⟨.bool true, .string y, 0⟩, ⟨.bool false, .string n, 1⟩] 2) h2
 refine ⟨_, _, bmap_one h0 y, bmap_two y n h2, bmap_look y n h4 c, ?_⟩
 have hB := (Below.refl _ w).alloc (Nat.le_refl _) (.map #[] 0)
 refine ⟨hB.os, hB.tape, hB.output, ?_, fun k hk => ?_⟩
 ·
  have := hB.size
  simp only [Array.size_setIfInBounds]
  exact this
 ·
  exact (h5 k (by omega)).trans ((h3 k (by omega)).trans (hB.block k hk))
end Go.Proofs.YtejbpnhondpnfaaGreat
namespace Go.Proofs.YtejbpnhondpnfaaGreat
set_option maxRecDepth 100000
open Go.RowKit
structure WSt (j : Jb) (A6 A7 A8 : Option Addr) (n6 c6 n7 c7 n8 c8 g b5 b6 b7 : Nat) (t6 t7 : TypeId) (w : World) (out : ByteArray) (e : Int) (W : World) : Prop where
 jb : W.heap[g]? = some (.cells (jbA j A6 A7 A8 n6 c6 n7 c7 n8 c8) 32 (0, 0))
 out : Out W b5 out
 err : W.heap[b6]? = some (.cells #[.int .i64 e] t6 (0, 0))
 fn : W.heap[b7]? = some (.cells #[.func (.func 26) #[] #[.pointer (some ⟨b5, 0, none⟩)]] t7 (0, 0))
 bel : Below w.heap.size w W
 o1 : w.heap.size ≤ g
 o2 : g < b5
 o3 : b5 < b6
 o4 : b6 < b7
 o5 : b7 < W.heap.size
theorem WSt.line {j A6 A7 A8 n6 c6 n7 c7 n8 c8 g b5 b6 b7 t6 t7 w out e W W'} {out' : ByteArray} {e' : Int} (H : WSt j A6 A7 A8 n6 c6 n7 c7 n8 c8 g b5 b6 b7 t6 t7 w out e W) (hC : Chg (fun k => k = b5 ∨ k = b6) W W') (hO : Out W' b5 out') (hE : W'.heap[b6]? = some (.cells #[.int .i64 e'] t6 (0, 0))) :
  WSt j A6 A7 A8 n6 c6 n7 c7 n8 c8 g b5 b6 b7 t6 t7 w out' e' W' := by
 have h1 := H.o1; have h2 := H.o2; have h3 := H.o3; have h4 := H.o4; have h5 := H.o5; have h6 := hC.size
 exact ⟨(hC.block g (by omega) (by omega)).trans H.jb, hO, hE, (hC.block b7 (by omega) (by omega)).trans H.fn, H.bel.trans (hC.below H.bel.size (by omega)), h1, h2, h3, h4, by omega⟩
theorem WSt.line1 {j A6 A7 A8 n6 c6 n7 c7 n8 c8 g b5 b6 b7 t6 t7 w out e W W'} {out' : ByteArray} (H : WSt j A6 A7 A8 n6 c6 n7 c7 n8 c8 g b5 b6 b7 t6 t7 w out e W) (hC : Chg (fun k => k = b5) W W') (hO : Out W' b5 out') :
  WSt j A6 A7 A8 n6 c6 n7 c7 n8 c8 g b5 b6 b7 t6 t7 w out' e W' := by
 have h3 := H.o3; have h4 := H.o4; have h5 := H.o5
 exact H.line (hC.mono fun i hi => .inl hi) hO ((hC.block b6 (by omega) (by omega)).trans H.err)
theorem WSt.below {j A6 A7 A8 n6 c6 n7 c7 n8 c8 g b5 b6 b7 t6 t7 w out e W W'} (H : WSt j A6 A7 A8 n6 c6 n7 c7 n8 c8 g b5 b6 b7 t6 t7 w out e W) (hB : Below W.heap.size W W') :
  WSt j A6 A7 A8 n6 c6 n7 c7 n8 c8 g b5 b6 b7 t6 t7 w out e W' :=
 H.line1 ⟨hB.os, hB.tape, hB.output, hB.size, fun k hk _ => hB.block k hk⟩ (H.out.below hB)
theorem WSt.jf {j A6 A7 A8 n6 c6 n7 c7 n8 c8 g b5 b6 b7 t6 t7 w out e W} (H : WSt j A6 A7 A8 n6 c6 n7 c7 n8 c8 g b5 b6 b7 t6 t7 w out e W) : JF j A6 A7 A8 n6 c6 n7 c7 n8 c8 g W := jf_of H.jb
theorem WSt.c7 {j A6 A7 A8 n6 c6 n7 c7 n8 c8 g b5 b6 b7 t6 t7 w out e W} (H : WSt j A6 A7 A8 n6 c6 n7 c7 n8 c8 g b5 b6 b7 t6 t7 w out e W) : W.cell? ⟨b7, 0, none⟩ = some (.func (.func 26) #[] #[.pointer (some ⟨b5, 0, none⟩)]) := one_cell H.fn
theorem wst_new {j A6 A7 A8 n6 c6 n7 c7 n8 c8 g} {t5 t6 t7 : TypeId} {w W : World} (h5 : t5 = 9) (hg : W.heap[g]? = some (.cells (jbA j A6 A7 A8 n6 c6 n7 c7 n8 c8) 32 (0, 0))) (hB : Below w.heap.size w W) (h1 : w.heap.size ≤ g) :
  WSt j A6 A7 A8 n6 c6 n7 c7 n8 c8 g W.heap.size (W.heap.size + 1) (W.heap.size + 1 + 1) t6 t7 w ⟨#[]⟩ 0
   (((W.alloc (.cells #[.string ⟨#[]⟩] t5 (0, 0))).alloc (.cells #[.int .i64 0] t6 (0, 0))).alloc (.cells #[.func (.func 26) #[] #[.pointer (some ⟨W.heap.size, 0, none⟩)]] t7 (0, 0))) := by
 subst h5
 have hlt := (Array.getElem?_eq_some_iff.1 hg).1
 have s1 : ∀ (V : World) (o : Obj), (V.alloc o).heap.size = V.heap.size + 1 := fun V o => by simp
 refine ⟨?_, ?_, ?_, ?_, ((hB.alloc hB.size _).alloc (Nat.le_trans hB.size (by rw [s1]; omega)) _).alloc (Nat.le_trans hB.size (by rw [s1, s1]; omega)) _, h1, hlt, by omega, by omega, by rw [s1, s1, s1]; omega⟩
 ·
  exact (Below.heap_alloc _ _ g (by rw [s1, s1]; omega)).trans ((Below.heap_alloc _ _ g (by rw [s1]; omega)).trans ((Below.heap_alloc _ _ g hlt).trans hg))
 ·
  exact (Below.heap_alloc _ _ _ (by rw [s1, s1]; omega)).trans ((Below.heap_alloc _ _ _ (by rw [s1]; omega)).trans (heap_alloc_new W _))
 ·
  refine (Below.heap_alloc _ _ _ (by rw [s1, s1]; omega)).trans ?_
  have := heap_alloc_new (W.alloc (.cells #[.string ⟨#[]⟩] 9 (0, 0))) (.cells #[.int .i64 0] t6 (0, 0))
  rw [s1] at this
  exact this
 ·
  have := heap_alloc_new ((W.alloc (.cells #[.string ⟨#[]⟩] 9 (0, 0))).alloc (.cells #[.int .i64 0] t6 (0, 0))) (.cells #[.func (.func 26) #[] #[.pointer (some ⟨W.heap.size, 0, none⟩)]] t7 (0, 0))
  rw [s1, s1] at this
  exact this
theorem bel_drewN {N : Nat} {w W : World} (h : Below N w W) (n : Nat) : Below N w (W.drewN n) := ⟨h.os, h.tape, h.output, h.size, h.block⟩
theorem on_way {f : Nat} {xs : Array Value} {R : Ending → Prop} {w W : World} (hB : Below w.heap.size w W) (h : ∀ W, Below w.heap.size w W → Calls Tryz.prog f xs W fun e W' => R e ∧ Below W.heap.size W W') :
  ∀ W', Below W.heap.size W W' → Calls Tryz.prog f xs W' fun e w' => R e ∧ Below W.heap.size W w' :=
 fun W' hW' => (h W' (hB.trans (hW'.mono hB.size))).mono fun e w' ⟨h1, h2⟩ => ⟨h1, hW'.trans (h2.mono hW'.size)⟩
def jwEnd (e : Int) (out : ByteArray) : ByteArray × Int := if e = 0 then (if 4096 < out.size then (⟨#[]⟩, 3) else (out, 0)) else (⟨#[]⟩, e)
set_option maxHeartbeats 40000000 in
theorem jwrite_yes (j : Jb) (A6 A7 A8 : Option Addr) (n6 c6 n7 c7 n8 c8 : Nat) (x6 x7 x8 : ByteArray × Int) (d : Int → ByteArray) (o1 o2 o3 o4 o5 o6 o7 o8 o9 : ByteArray) (e7 e8 : Int) (w : World)
    (hR : ∀ W, Below w.heap.size w W → Calls Tryz.prog 13 #[.agg (jbA j A6 A7 A8 n6 c6 n7 c7 n8 c8)] W (RightIs 0 W.heap.size W))
    (hD : ∀ n W, Calls Tryz.prog 30 #[.int .i64 n] W fun e W' => e = .returned (.string (d n)) ∧ Below W.heap.size W W')
    (hw6 : ∀ W, Below w.heap.size w W → Calls Tryz.prog 29 #[.slice A6 n6 c6] W fun e W' => e = .returned (.tuple #[.string x6.1, .int .i64 x6.2]) ∧ Below W.heap.size W W')
    (hw7 : ∀ W, Below w.heap.size w W → Calls Tryz.prog 29 #[.slice A7 n7 c7] W fun e W' => e = .returned (.tuple #[.string x7.1, .int .i64 x7.2]) ∧ Below W.heap.size W W')
    (hw8 : ∀ W, Below w.heap.size w W → Calls Tryz.prog 29 #[.slice A8 n8 c8] W fun e W' => e = .returned (.tuple #[.string x8.1, .int .i64 x8.2]) ∧ Below W.heap.size W W')
    (hE1 : o1 = ⟨#[]⟩ ++ (joinB [⟨#[106, 111, 98]⟩, j.name] ++ ⟨#[10]⟩)) (hL1 : (⟨#[]⟩ : ByteArray).size + (joinB [⟨#[106, 111, 98]⟩, j.name]).size ≤ 1000000000)
    (hE2 : o2 = o1 ++ (joinB [⟨#[116, 97, 115, 107, 115]⟩, d j.tasks] ++ ⟨#[10]⟩)) (hL2 : o1.size + (joinB [⟨#[116, 97, 115, 107, 115]⟩, d j.tasks]).size ≤ 1000000000)
    (hE3 : o3 = o2 ++ (joinB [⟨#[112, 97, 114, 116, 115]⟩, d j.parts] ++ ⟨#[10]⟩)) (hL3 : o2.size + (joinB [⟨#[112, 97, 114, 116, 115]⟩, d j.parts]).size ≤ 1000000000)
    (hE4 : o4 = o3 ++ (joinB [⟨#[99, 111, 100, 101]⟩, d j.k, d j.n] ++ ⟨#[10]⟩)) (hL4 : o3.size + (joinB [⟨#[99, 111, 100, 101]⟩, d j.k, d j.n]).size ≤ 1000000000)
    (hE5 : o5 = o4 ++ (joinB [⟨#[102, 117, 101, 108]⟩, d j.fuel] ++ ⟨#[10]⟩)) (hL5 : o4.size + (joinB [⟨#[102, 117, 101, 108]⟩, d j.fuel]).size ≤ 1000000000)
    (hE6 : o6 = o5 ++ (joinB [⟨#[109, 97, 112]⟩, x6.1] ++ ⟨#[10]⟩)) (hL6 : o5.size + (joinB [⟨#[109, 97, 112]⟩, x6.1]).size ≤ 1000000000)
    (hE7 : o7 = if 0 < n7 then o6 ++ (joinB [⟨#[98, 121]⟩, x7.1] ++ ⟨#[10]⟩) else o6) (hL7 : o6.size + (joinB [⟨#[98, 121]⟩, x7.1]).size ≤ 1000000000) (hF7 : e7 = if 0 < n7 then (if x6.2 = 0 then x7.2 else x6.2) else x6.2)
    (hE8 : o8 = o7 ++ (joinB (if j.fold = ⟨#[]⟩ then [⟨#[114, 101, 100, 117, 99, 101]⟩, x8.1] else [⟨#[102, 111, 108, 100]⟩, j.fold]) ++ ⟨#[10]⟩)) (hL8 : o7.size + (joinB (if j.fold = ⟨#[]⟩ then [⟨#[114, 101, 100, 117, 99, 101]⟩, x8.1] else [⟨#[102, 111, 108, 100]⟩, j.fold])).size ≤ 1000000000) (hF8 : e8 = if j.fold = ⟨#[]⟩ then (if e7 = 0 then x8.2 else e7) else e7)
    (hE9 : o9 = o8 ++ (joinB [⟨#[99, 111, 109, 98, 105, 110, 101]⟩, if j.comb then ⟨#[121, 101, 115]⟩ else ⟨#[110, 111]⟩] ++ ⟨#[10]⟩)) (hL9 : o8.size + (joinB [⟨#[99, 111, 109, 98, 105, 110, 101]⟩, if j.comb then ⟨#[121, 101, 115]⟩ else ⟨#[110, 111]⟩]).size ≤ 1000000000) (hz9 : o9.size ≤ 1000000000) :
    Calls Tryz.prog 11 #[.agg (jbA j A6 A7 A8 n6 c6 n7 c7 n8 c8)] w fun e w' => e = .returned (.tuple #[.string (jwEnd e8 o9).1, .int .i64 (jwEnd e8 o9).2]) ∧ Below w.heap.size w w' := by
  obtain ⟨W1, hW1⟩ : ∃ W1, W1 = w.alloc (.cells (jbA j A6 A7 A8 n6 c6 n7 c7 n8 c8) 32) := ⟨_, rfl⟩
  have hg : W1.heap[w.heap.size]? = some (.cells (jbA j A6 A7 A8 n6 c6 n7 c7 n8 c8) 32 (0, 0)) := by rw [hW1]; exact heap_alloc_new w _
  have hb1 : Below w.heap.size w W1 := by rw [hW1]; exact (Below.refl _ w).alloc (Nat.le_refl _) _
  have hlt := (Array.getElem?_eq_some_iff.1 hg).1
  have HG : Hid (∀ W, Below W1.heap.size W1 W → W.heap[w.heap.size]? = some (.cells (jbA j A6 A7 A8 n6 c6 n7 c7 n8 c8) 32 (0, 0))) := Lib.hid fun W hW => (hW.block _ hlt).trans hg
  obtain ⟨f0, f1, f2, f3, f4, f5, f6, f7, f8, f9, f10⟩ := jf_of hg
  obtain ⟨nm, ta, pa, k, n, fu, fo, cb⟩ := j
  obtain ⟨y6, v6⟩ := x6
  obtain ⟨y7, v7⟩ := x7
  obtain ⟨y8, v8⟩ := x8
  obtain ⟨RES, hRES⟩ : ∃ R, R = jwEnd e8 o9 := ⟨_, rfl⟩
  rw [← hRES]
  unfold jbA at hW1 hR ⊢
  simp only at hW1 hR hw6 hw7 hw8 hE1 hL1 hE2 hL2 hE3 hL3 hE4 hL4 hE5 hL5 hE6 hL6 hE7 hL7 hF7 hE8 hL8 hF8 hE9 hL9 f0 f1 f2 f3 f4 f5 f6 f7 f8 f9 f10 ⊢
  have HR := Lib.hid hR
  have HD := Lib.hid hD
  have HW6 := Lib.hid hw6
  have HW7 := Lib.hid hw7
  have HW8 := Lib.hid hw8
  have HE1 := Lib.hid hE1; have HL1 := Lib.hid hL1
  have HE2 := Lib.hid hE2; have HL2 := Lib.hid hL2
  have HE3 := Lib.hid hE3; have HL3 := Lib.hid hL3
  have HE4 := Lib.hid hE4; have HL4 := Lib.hid hL4
  have HE5 := Lib.hid hE5; have HL5 := Lib.hid hL5
  have HE6 := Lib.hid hE6; have HL6 := Lib.hid hL6
  have HE7 := Lib.hid hE7; have HL7 := Lib.hid hL7; have HF7 := Lib.hid hF7
  have HE8 := Lib.hid hE8; have HL8 := Lib.hid hL8; have HF8 := Lib.hid hF8
  have HE9 := Lib.hid hE9; have HL9 := Lib.hid hL9; have HZ9 := Lib.hid hz9
  have HRES := Lib.hid hRES
  clear hR hD hw6 hw7 hw8 hE1 hL1 hE2 hL2 hE3 hL3 hE4 hL4 hE5 hL5 hE6 hL6 hE7 hL7 hF7 hE8 hL8 hF8 hE9 hL9 hz9 hRES hg hlt
  go_enter Tryz.func11, Tryz.ntmps11
  go_upto_region 8 with (first
    | (rw [← hW1]; clear hW1)
    | (go_at_call 13; refine (HR.out _ hb1).mono ?_; rintro e w2 ⟨rfl, hp2⟩; clear f0 f1 f2 f3 f4 f5 f6 f7 f8 f9 f10; have hJ2 := HG.out _ hp2; have hS := wst_new (t6 := 27) (t7 := 62) rfl hJ2 (hb1.trans (hp2.mono hb1.size)) (Nat.le_refl _); have HS := Lib.hid hS; have f0 := hS.jf.f0; simp only at f0; clear hS hJ2)
    | (go_at_call 26; refine (line_new _ _ _ [⟨#[106, 111, 98]⟩, nm] _ _ HS.out.out (by simp) rfl _ (show 2 ≤ 1000 by decide) HL1.out).mono ?_; rintro e w3 ⟨rfl, hO3, hC3⟩; clear f0; have hS := HS.out.line1 hC3 hO3; rw [← HE1.out] at hS; have HS1 := Lib.hid hS; clear hS)
    | fail)
  go_cut [26] (fun s wc => s = .tuple #[] ∧ WSt ⟨nm, ta, pa, k, n, fu, fo, cb⟩ A6 A7 A8 n6 c6 n7 c7 n8 c8 w.heap.size w2.heap.size (w2.heap.size + 1) (w2.heap.size + 1 + 1) 27 62 w o2 0 wc)
  case first =>
    have c3 := HS1.out.c7
    have g1 := HS1.out.jf.f1
    simp only at g1
    go_region_with (first
      | (go_at_call 30; refine (HD.out _ _).mono ?_; rintro e w4 ⟨rfl, hp4⟩; have HT4 := Lib.hid (HS1.out.below ((Below.refl _ w3).drew.trans hp4)); have c4 := HT4.out.c7; have c4a := (HT4.out.below ((Below.refl _ _).alloc (Nat.le_refl _) (.cells #[.string ⟨#[116, 97, 115, 107, 115]⟩, .string (d ta)] 9 (0, 0)))).c7)
      | (go_at_call 26; refine (line_new _ _ _ [⟨#[116, 97, 115, 107, 115]⟩, d ta] w4 _ HT4.out.out rfl rfl _ (show 2 ≤ 1000 by decide) HL2.out).mono ?_; rintro e w5 ⟨rfl, hO5, hC5⟩; have HT5 := Lib.hid (HT4.out.line1 hC5 hO5))
      | fail)
    all_goals
      go_wp2_with fail
      go_meet
      exact ⟨rfl, by rw [HE2.out]; exact HT5.out⟩
  case rest =>
    obtain ⟨rfl, hS⟩ := hcut
    have HS2 := Lib.hid hS
    clear hS
    go_upto_region 9 with fail
    go_cut [32] (fun s wc => s = .tuple #[] ∧ WSt ⟨nm, ta, pa, k, n, fu, fo, cb⟩ A6 A7 A8 n6 c6 n7 c7 n8 c8 w.heap.size w2.heap.size (w2.heap.size + 1) (w2.heap.size + 1 + 1) 27 62 w o3 0 wc)
    case first =>
      have c3 := HS2.out.c7
      have g1 := HS2.out.jf.f2
      simp only at g1
      go_region_with (first
        | (go_at_call 30; refine (HD.out _ _).mono ?_; rintro e w4 ⟨rfl, hp4⟩; have HT4 := Lib.hid (HS2.out.below ((Below.refl _ wc).drew.trans hp4)); have c4 := HT4.out.c7; have c4a := (HT4.out.below ((Below.refl _ _).alloc (Nat.le_refl _) (.cells #[.string ⟨#[112, 97, 114, 116, 115]⟩, .string (d pa)] 9 (0, 0)))).c7)
        | (go_at_call 26; refine (line_new _ _ _ [⟨#[112, 97, 114, 116, 115]⟩, d pa] w4 _ HT4.out.out rfl rfl _ (show 2 ≤ 1000 by decide) HL3.out).mono ?_; rintro e w5 ⟨rfl, hO5, hC5⟩; have HT5 := Lib.hid (HT4.out.line1 hC5 hO5))
        | fail)
      all_goals
        go_wp2_with fail
        go_meet
        exact ⟨rfl, by rw [HE3.out]; exact HT5.out⟩
    case rest =>
      obtain ⟨rfl, hS⟩ := hcut
      have HS3 := Lib.hid hS
      clear hS
      go_upto_region 10 with fail
      go_cut [41] (fun s wc => s = .tuple #[] ∧ WSt ⟨nm, ta, pa, k, n, fu, fo, cb⟩ A6 A7 A8 n6 c6 n7 c7 n8 c8 w.heap.size w2.heap.size (w2.heap.size + 1) (w2.heap.size + 1 + 1) 27 62 w o4 0 wc)
      case first =>
        have c3 := HS3.out.c7
        have g1 := HS3.out.jf.f3
        have g2 := HS3.out.jf.f4
        simp only at g1 g2
        go_region_with (first
          | (go_at_call 30; first
              | (refine (HD.out _ w4).mono ?_; rintro e w5 ⟨rfl, hp5⟩; have HT5 := Lib.hid (HT4.out.below hp5); have c5 := HT5.out.c7; have c5a := (HT5.out.below ((Below.refl _ _).alloc (Nat.le_refl _) (.cells #[.string ⟨#[99, 111, 100, 101]⟩, .string (d k), .string (d n)] 9 (0, 0)))).c7)
              | (refine (HD.out _ _).mono ?_; rintro e w4 ⟨rfl, hp4⟩; have HT4 := Lib.hid (HS3.out.below ((Below.refl _ wc).drew.trans hp4)); have c4 := HT4.out.c7; have k1 := HT4.out.jf.f3; have k2 := HT4.out.jf.f4; simp only at k1 k2))
          | (go_at_call 26; refine (line_new _ _ _ [⟨#[99, 111, 100, 101]⟩, d k, d n] w5 _ HT5.out.out rfl rfl _ (show 3 ≤ 1000 by decide) HL4.out).mono ?_; rintro e w6 ⟨rfl, hO6, hC6⟩; have HT6 := Lib.hid (HT5.out.line1 hC6 hO6))
          | fail)
        all_goals
          go_wp2_with fail
          go_meet
          exact ⟨rfl, by rw [HE4.out]; exact HT6.out⟩
      case rest =>
        obtain ⟨rfl, hS⟩ := hcut
        have HS4 := Lib.hid hS
        clear hS
        go_upto_region 11 with fail
        go_cut [47] (fun s wc => s = .tuple #[] ∧ WSt ⟨nm, ta, pa, k, n, fu, fo, cb⟩ A6 A7 A8 n6 c6 n7 c7 n8 c8 w.heap.size w2.heap.size (w2.heap.size + 1) (w2.heap.size + 1 + 1) 27 62 w o5 0 wc)
        case first =>
          have c3 := HS4.out.c7
          have g1 := HS4.out.jf.f5
          simp only at g1
          go_region_with (first
            | (go_at_call 30; refine (HD.out _ _).mono ?_; rintro e w4 ⟨rfl, hp4⟩; have HT4 := Lib.hid (HS4.out.below ((Below.refl _ wc).drew.trans hp4)); have c4 := HT4.out.c7; have c4a := (HT4.out.below ((Below.refl _ _).alloc (Nat.le_refl _) (.cells #[.string ⟨#[102, 117, 101, 108]⟩, .string (d fu)] 9 (0, 0)))).c7)
            | (go_at_call 26; refine (line_new _ _ _ [⟨#[102, 117, 101, 108]⟩, d fu] w4 _ HT4.out.out rfl rfl _ (show 2 ≤ 1000 by decide) HL5.out).mono ?_; rintro e w5 ⟨rfl, hO5, hC5⟩; have HT5 := Lib.hid (HT4.out.line1 hC5 hO5))
            | fail)
          all_goals
            go_wp2_with fail
            go_meet
            exact ⟨rfl, by rw [HE5.out]; exact HT5.out⟩
        case rest =>
          obtain ⟨rfl, hS⟩ := hcut
          have HS5 := Lib.hid hS
          clear hS
          have g6 := HS5.out.jf.f6
          try simp only at g6
          go_upto_region 13 with (first
            | (go_at_call 28; refine (item_any _ _ _ 27 62 o5 ⟨#[109, 97, 112]⟩ 0 A6 n6 c6 (y6, v6) _ HS5.out.out HS5.out.err HS5.out.fn (by have := HS5.out.o3; omega) (by have := HS5.out.o3; have := HS5.out.o4; omega) (by have := HS5.out.o4; omega) (on_way HS5.out.bel HW6.out) HL6.out).mono ?_; rintro e w6 ⟨rfl, hO6, hE6, hC6⟩; rw [if_pos rfl] at hE6; have hS := HS5.out.line hC6 hO6 hE6; rw [← HE6.out] at hS; (try simp only at hS); have HS6 := Lib.hid hS; clear hS hO6 hE6 hC6)
            | fail)
          by_cases h7 : 0 < n7
          case' pos =>
            have g7 := HS6.out.jf.f7
            try simp only at g7
            have h7a : (0 : Int) < (n7 : Int) := by omega
            go_upto_region 15 with (first
              | (go_at_call 28; refine (item_any _ _ _ 27 62 o6 ⟨#[98, 121]⟩ v6 A7 n7 c7 (y7, v7) _ HS6.out.out HS6.out.err HS6.out.fn (by have := HS6.out.o3; omega) (by have := HS6.out.o3; have := HS6.out.o4; omega) (by have := HS6.out.o4; omega) (on_way HS6.out.bel HW7.out) HL7.out).mono ?_; rintro e w7 ⟨rfl, hO6, hE6, hC6⟩; have hS := HS6.out.line hC6 hO6 hE6; (try simp only at hS); have q1 := HE7.out; have q2 := HF7.out; rw [if_pos h7] at q1 q2; rw [← q1, ← q2] at hS; have HS7 := Lib.hid hS; clear hS hO6 hE6 hC6 q1 q2 g7)
              | fail)
            clear h7a
          case' neg =>
            have g7 := HS6.out.jf.f7
            try simp only at g7
            have h7a : ¬ (0 : Int) < (n7 : Int) := by omega
            go_upto_region 15 with fail
            have hS := HS6.out
            have q1 := HE7.out
            have q2 := HF7.out
            rw [if_neg h7] at q1 q2
            rw [← q1, ← q2] at hS
            have HS7 := Lib.hid hS
            clear hS q1 q2 g7 h7a
          all_goals
            clear HS5 HS6 h7
            have g9 := HS7.out.jf.f9
            try simp only at g9
            by_cases hfo : fo.size = 0
            case' pos =>
              obtain rfl : fo = ⟨#[]⟩ := ByteArray.size_eq_zero_iff.1 hfo
              clear hfo
              have g8 := HS7.out.jf.f8
              try simp only at g8
              go_upto_region 18 with (first
                | (go_at_call 28; refine (item_any _ _ _ 27 62 o7 ⟨#[114, 101, 100, 117, 99, 101]⟩ e7 A8 n8 c8 (y8, v8) _ HS7.out.out HS7.out.err HS7.out.fn (by have := HS7.out.o3; omega) (by have := HS7.out.o3; have := HS7.out.o4; omega) (by have := HS7.out.o4; omega) (on_way HS7.out.bel HW8.out) (by have := HL8.out; rw [if_pos rfl] at this; exact this)).mono ?_; rintro e w8 ⟨rfl, hO6, hE6, hC6⟩; have hS := HS7.out.line hC6 hO6 hE6; (try simp only at hS); have q1 := HE8.out; have q2 := HF8.out; rw [if_pos rfl] at q1 q2; rw [← q1, ← q2] at hS; have HS8 := Lib.hid hS; clear hS hO6 hE6 hC6 q1 q2 g8 g9 HS7)
                | fail)
            case' neg =>
              have u1 : ¬ fo.toList = [] := fun e => hfo (by rw [ByteArray.toList_eq] at e; have := congrArg List.length e; simpa using this)
              have u2 : fo.toList.isEmpty = false := by simpa using u1
              have HU : Hid (¬ fo = ⟨#[]⟩) := Lib.hid fun e => hfo (by rw [e]; rfl)
              clear hfo
              have c7 := HS7.out.c7
              go_upto_region 18 with (first
                | (go_at_call 26; refine (line_new _ _ _ [⟨#[102, 111, 108, 100]⟩, fo] _ _ HS7.out.out rfl rfl _ (show 2 ≤ 1000 by decide) (by have := HL8.out; rw [if_neg HU.out] at this; exact this)).mono ?_; rintro e w8 ⟨rfl, hO3, hC3⟩; have hS := HS7.out.line1 hC3 hO3; have q1 := HE8.out; have q2 := HF8.out; rw [if_neg HU.out] at q1 q2; rw [← q1, ← q2] at hS; have HS8 := Lib.hid hS; clear hS hO3 hC3 q1 q2 c7 g9 HS7 u1 u2)
                | fail)
          all_goals
            have c8 := HS8.out.c7
            obtain ⟨w10, w11, hm1, hm2, hm3, hb11⟩ := bmap_made w8 ⟨#[121, 101, 115]⟩ ⟨#[110, 111]⟩ cb
            have hmm := @run_makeMap Tryz.prog
            have HS11 := Lib.hid (HS8.out.below hb11)
            have f10 := HS11.out.jf.f10
            try simp only at f10
            obtain ⟨cv, hcv⟩ : ∃ x : ByteArray, x = if cb then ⟨#[121, 101, 115]⟩ else ⟨#[110, 111]⟩ := ⟨_, rfl⟩
            rw [← hcv] at hm3
            have HE9' : Hid (o9 = o8 ++ (joinB [⟨#[99, 111, 109, 98, 105, 110, 101]⟩, cv] ++ ⟨#[10]⟩)) := Lib.hid (by rw [HE9.out, hcv])
            have HL9' : Hid (o8.size + (joinB [⟨#[99, 111, 109, 98, 105, 110, 101]⟩, cv]).size ≤ 1000000000) := Lib.hid (by rw [hcv]; exact HL9.out)
            clear hcv
            by_cases he8 : e8 = 0
            · subst he8
              by_cases hz : 4096 < o9.size
              · have HQ : Hid (RES = (⟨#[]⟩, 3)) := Lib.hid (by rw [HRES.out]; unfold jwEnd; rw [if_pos rfl, if_pos hz])
                have hz1 : (4096 : Int) < (o9.size : Int) := by omega
                go_wp2_with (first
                  | (go_at_call 26; refine (line_new _ _ _ [⟨#[99, 111, 109, 98, 105, 110, 101]⟩, cv] _ _ HS11.out.out rfl rfl _ (show 2 ≤ 1000 by decide) HL9'.out).mono ?_; rintro e w12 ⟨rfl, hO3, hC3⟩; have hS := HS11.out.line1 hC3 hO3; rw [← HE9'.out] at hS; have HS9 := Lib.hid hS; have k6 := one_cell hS.err; have k5 := one_cell hS.out; clear hS hO3 hC3)
                  | fail)
                go_ret2
                exact ⟨by rw [HQ.out]; first | done | rfl, HS9.out.bel⟩
              · have HQ : Hid (RES = (o9, 0)) := Lib.hid (by rw [HRES.out]; unfold jwEnd; rw [if_pos rfl, if_neg hz])
                have hz1 : ¬ (4096 : Int) < (o9.size : Int) := by omega
                go_wp2_with (first
                  | (go_at_call 26; refine (line_new _ _ _ [⟨#[99, 111, 109, 98, 105, 110, 101]⟩, cv] _ _ HS11.out.out rfl rfl _ (show 2 ≤ 1000 by decide) HL9'.out).mono ?_; rintro e w12 ⟨rfl, hO3, hC3⟩; have hS := HS11.out.line1 hC3 hO3; rw [← HE9'.out] at hS; have HS9 := Lib.hid hS; have k6 := one_cell hS.err; have k5 := one_cell hS.out; clear hS hO3 hC3)
                  | fail)
                go_ret2
                exact ⟨by rw [HQ.out]; first | done | rfl, HS9.out.bel⟩
            · have HQ : Hid (RES = (⟨#[]⟩, e8)) := Lib.hid (by rw [HRES.out]; unfold jwEnd; rw [if_neg he8])
              go_upto_region 20 with (first
                  | (go_at_call 26; refine (line_new _ _ _ [⟨#[99, 111, 109, 98, 105, 110, 101]⟩, cv] _ _ HS11.out.out rfl rfl _ (show 2 ≤ 1000 by decide) HL9'.out).mono ?_; rintro e w12 ⟨rfl, hO3, hC3⟩; have hS := HS11.out.line1 hC3 hO3; rw [← HE9'.out] at hS; have HS9 := Lib.hid hS; have k6 := one_cell hS.err; clear hS hO3 hC3)
                  | fail)
              go_quiet (fail)
              go_wp2_with fail
              go_ret2
              exact ⟨by rw [HQ.out]; first | done | rfl, bel_drewN HS9.out.bel _⟩
set_option maxHeartbeats 2000000 in
theorem jwrite_no (j : Jb) (A6 A7 A8 : Option Addr) (n6 c6 n7 c7 n8 c8 : Nat) (r : Int) (hr : r ≠ 0) (w : World)
  (hR : ∀ W, Below w.heap.size w W → Calls Tryz.prog 13 #[.agg (jbA j A6 A7 A8 n6 c6 n7 c7 n8 c8)] W (RightIs r W.heap.size W)) :
  Calls Tryz.prog 11 #[.agg (jbA j A6 A7 A8 n6 c6 n7 c7 n8 c8)] w fun e w' => e = .returned (.tuple #[.string ⟨#[]⟩, .int .i64 r]) ∧ Below w.heap.size w w' := by
 obtain ⟨W1, hW1⟩ : ∃ W1, W1 = w.alloc (.cells (jbA j A6 A7 A8 n6 c6 n7 c7 n8 c8) 32) := ⟨_, rfl⟩
 have hg : W1.heap[w.heap.size]? = some (.cells (jbA j A6 A7 A8 n6 c6 n7 c7 n8 c8) 32 (0, 0)) := by rw [hW1]; exact heap_alloc_new w _
 have hb1 : Below w.heap.size w W1 := by rw [hW1]; exact (Below.refl _ w).alloc (Nat.le_refl _) _
 obtain ⟨f0, f1, f2, f3, f4, f5, f6, f7, f8, f9, f10⟩ := jf_of hg
 obtain ⟨nm, ta, pa, k, n, fu, fo, cb⟩ := j
 unfold jbA at hW1 hR ⊢
 simp only at hW1 hR f0 f1 f2 f3 f4 f5 f6 f7 f8 f9 f10 ⊢
 have HR := Lib.hid hR
 clear hR hg
 go_enter Tryz.func11, Tryz.ntmps11
 go_wp2_with (first
  | (rw [← hW1]; clear hW1)
  | (go_at_call 13; refine (HR.out _ hb1).mono ?_; rintro e w2 ⟨rfl, hp2⟩; clear f0 f1 f2 f3 f4 f5 f6 f7 f8 f9 f10)
  | fail)
 go_ret2
 exact ⟨rfl, hb1.trans (hp2.mono hb1.size)⟩
theorem joinB_two (a b : ByteArray) : joinB [a, b] = a ++ ⟨#[32]⟩ ++ b := by
 unfold joinB
 simp only [List.map_cons, List.map_nil, Lib.join]
 apply ByteArray.ext; simp
theorem joinB_three (a b c : ByteArray) : joinB [a, b, c] = a ++ ⟨#[32]⟩ ++ b ++ ⟨#[32]⟩ ++ c := by
 unfold joinB
 simp only [List.map_cons, List.map_nil, Lib.join]
 apply ByteArray.ext; simp
theorem qbc (a b : ByteArray) : (joinB [a, b]).size = a.size + 1 + b.size := by
 rw [joinB_two, ByteArray.size_append, ByteArray.size_append]; rfl
theorem joinB_three_size (a b c : ByteArray) : (joinB [a, b, c]).size = a.size + 1 + b.size + 1 + c.size := by
 rw [joinB_three, ByteArray.size_append, ByteArray.size_append, ByteArray.size_append, ByteArray.size_append]; rfl
def jw1 (j : Jb) : ByteArray := ⟨#[]⟩ ++ (joinB [⟨#[106, 111, 98]⟩, j.name] ++ ⟨#[10]⟩)
def jw2 (j : Jb) (d : Int → ByteArray) : ByteArray := jw1 j ++ (joinB [⟨#[116, 97, 115, 107, 115]⟩, d j.tasks] ++ ⟨#[10]⟩)
def jw3 (j : Jb) (d : Int → ByteArray) : ByteArray := jw2 j d ++ (joinB [⟨#[112, 97, 114, 116, 115]⟩, d j.parts] ++ ⟨#[10]⟩)
def jw4 (j : Jb) (d : Int → ByteArray) : ByteArray := jw3 j d ++ (joinB [⟨#[99, 111, 100, 101]⟩, d j.k, d j.n] ++ ⟨#[10]⟩)
def jw5 (j : Jb) (d : Int → ByteArray) : ByteArray := jw4 j d ++ (joinB [⟨#[102, 117, 101, 108]⟩, d j.fuel] ++ ⟨#[10]⟩)
def jw6 (j : Jb) (d : Int → ByteArray) (x6 : ByteArray) : ByteArray := jw5 j d ++ (joinB [⟨#[109, 97, 112]⟩, x6] ++ ⟨#[10]⟩)
def jw7 (j : Jb) (d : Int → ByteArray) (n7 : Nat) (x6 x7 : ByteArray) : ByteArray := if 0 < n7 then jw6 j d x6 ++ (joinB [⟨#[98, 121]⟩, x7] ++ ⟨#[10]⟩) else jw6 j d x6
def jw8 (j : Jb) (d : Int → ByteArray) (n7 : Nat) (x6 x7 x8 : ByteArray) : ByteArray := jw7 j d n7 x6 x7 ++ (joinB (if j.fold = ⟨#[]⟩ then [⟨#[114, 101, 100, 117, 99, 101]⟩, x8] else [⟨#[102, 111, 108, 100]⟩, j.fold]) ++ ⟨#[10]⟩)
def jw9 (j : Jb) (d : Int → ByteArray) (n7 : Nat) (x6 x7 x8 : ByteArray) : ByteArray := jw8 j d n7 x6 x7 x8 ++ (joinB [⟨#[99, 111, 109, 98, 105, 110, 101]⟩, if j.comb then ⟨#[121, 101, 115]⟩ else ⟨#[110, 111]⟩] ++ ⟨#[10]⟩)
def je7 (n7 : Nat) (e6 e7 : Int) : Int := if 0 < n7 then (if e6 = 0 then e7 else e6) else e6
def je8 (fo : ByteArray) (n7 : Nat) (e6 e7 e8 : Int) : Int := if fo = ⟨#[]⟩ then (if je7 n7 e6 e7 = 0 then e8 else je7 n7 e6 e7) else je7 n7 e6 e7
def jwRes (j : Jb) (d : Int → ByteArray) (n7 : Nat) (x6 x7 x8 : ByteArray × Int) : ByteArray × Int := jwEnd (je8 j.fold n7 x6.2 x7.2 x8.2) (jw9 j d n7 x6.1 x7.1 x8.1)
theorem jwrite_right (j : Jb) (A6 A7 A8 : Option Addr) (n6 c6 n7 c7 n8 c8 : Nat) (x6 x7 x8 : ByteArray × Int) (d : Int → ByteArray) (w : World)
  (hR : ∀ W, Below w.heap.size w W → Calls Tryz.prog 13 #[.agg (jbA j A6 A7 A8 n6 c6 n7 c7 n8 c8)] W (RightIs 0 W.heap.size W))
  (hD : ∀ n W, Calls Tryz.prog 30 #[.int .i64 n] W fun e W' => e = .returned (.string (d n)) ∧ Below W.heap.size W W')
  (hw6 : ∀ W, Below w.heap.size w W → Calls Tryz.prog 29 #[.slice A6 n6 c6] W fun e W' => e = .returned (.tuple #[.string x6.1, .int .i64 x6.2]) ∧ Below W.heap.size W W')
  (hw7 : ∀ W, Below w.heap.size w W → Calls Tryz.prog 29 #[.slice A7 n7 c7] W fun e W' => e = .returned (.tuple #[.string x7.1, .int .i64 x7.2]) ∧ Below W.heap.size W W')
  (hw8 : ∀ W, Below w.heap.size w W → Calls Tryz.prog 29 #[.slice A8 n8 c8] W fun e W' => e = .returned (.tuple #[.string x8.1, .int .i64 x8.2]) ∧ Below W.heap.size W W')
  (z0 : j.name.size ≤ 1000000) (zd : ∀ n, (d n).size ≤ 1000000) (z6 : x6.1.size ≤ 1000000) (z7 : x7.1.size ≤ 1000000) (z8 : x8.1.size ≤ 1000000) (z9 : j.fold.size ≤ 1000000) :
  Calls Tryz.prog 11 #[.agg (jbA j A6 A7 A8 n6 c6 n7 c7 n8 c8)] w fun e w' => e = .returned (.tuple #[.string (jwRes j d n7 x6 x7 x8).1, .int .i64 (jwRes j d n7 x6 x7 x8).2]) ∧ Below w.heap.size w w' := by
 have za := zd j.tasks; have zb := zd j.parts; have zc := zd j.k; have zn := zd j.n; have zf := zd j.fuel
 have b0 : (⟨#[]⟩ : ByteArray).size = 0 := rfl
 have b1 : (⟨#[10]⟩ : ByteArray).size = 1 := rfl
 have k1 : (⟨#[106, 111, 98]⟩ : ByteArray).size = 3 := rfl
 have k2 : (⟨#[116, 97, 115, 107, 115]⟩ : ByteArray).size = 5 := rfl
 have k3 : (⟨#[112, 97, 114, 116, 115]⟩ : ByteArray).size = 5 := rfl
 have k4 : (⟨#[99, 111, 100, 101]⟩ : ByteArray).size = 4 := rfl
 have k5 : (⟨#[102, 117, 101, 108]⟩ : ByteArray).size = 4 := rfl
 have k6 : (⟨#[109, 97, 112]⟩ : ByteArray).size = 3 := rfl
 have k7 : (⟨#[98, 121]⟩ : ByteArray).size = 2 := rfl
 have k8 : (⟨#[114, 101, 100, 117, 99, 101]⟩ : ByteArray).size = 6 := rfl
 have k9 : (⟨#[102, 111, 108, 100]⟩ : ByteArray).size = 4 := rfl
 have k10 : (⟨#[99, 111, 109, 98, 105, 110, 101]⟩ : ByteArray).size = 7 := rfl
 have ky : (if j.comb then (⟨#[121, 101, 115]⟩ : ByteArray) else ⟨#[110, 111]⟩).size ≤ 3 := by cases j.comb <;> decide
 have s1 : (jw1 j).size ≤ 1000005 := by unfold jw1; rw [ByteArray.size_append, ByteArray.size_append, qbc]; omega
 have s2 : (jw2 j d).size ≤ 2000012 := by unfold jw2; rw [ByteArray.size_append, ByteArray.size_append, qbc]; omega
 have s3 : (jw3 j d).size ≤ 3000019 := by unfold jw3; rw [ByteArray.size_append, ByteArray.size_append, qbc]; omega
 have s4 : (jw4 j d).size ≤ 5000030 := by unfold jw4; rw [ByteArray.size_append, ByteArray.size_append, joinB_three_size]; omega
 have s5 : (jw5 j d).size ≤ 6000040 := by unfold jw5; rw [ByteArray.size_append, ByteArray.size_append, qbc]; omega
 have s6 : (jw6 j d x6.1).size ≤ 7000050 := by unfold jw6; rw [ByteArray.size_append, ByteArray.size_append, qbc]; omega
 have s7 : (jw7 j d n7 x6.1 x7.1).size ≤ 8000060 := by
  unfold jw7
  split
  ·
   rw [ByteArray.size_append, ByteArray.size_append, qbc]; omega
  ·
   omega
 have t8 : (joinB (if j.fold = ⟨#[]⟩ then [⟨#[114, 101, 100, 117, 99, 101]⟩, x8.1] else [⟨#[102, 111, 108, 100]⟩, j.fold])).size ≤ 1000010 := by
  split <;> (rw [qbc]; omega)
 have s8 : (jw8 j d n7 x6.1 x7.1 x8.1).size ≤ 9000090 := by unfold jw8; rw [ByteArray.size_append, ByteArray.size_append]; omega
 have s9 : (jw9 j d n7 x6.1 x7.1 x8.1).size ≤ 9000900 := by unfold jw9; rw [ByteArray.size_append, ByteArray.size_append, qbc]; omega
 exact jwrite_yes j A6 A7 A8 n6 c6 n7 c7 n8 c8 x6 x7 x8 d (jw1 j) (jw2 j d) (jw3 j d) (jw4 j d) (jw5 j d) (jw6 j d x6.1) (jw7 j d n7 x6.1 x7.1) (jw8 j d n7 x6.1 x7.1 x8.1) (jw9 j d n7 x6.1 x7.1 x8.1) (je7 n7 x6.2 x7.2) (je8 j.fold n7 x6.2 x7.2 x8.2) w hR hD hw6 hw7 hw8
  rfl (by rw [qbc]; omega) rfl (by rw [qbc]; omega) rfl (by rw [qbc]; omega) rfl (by rw [joinB_three_size]; omega) rfl (by rw [qbc]; omega) rfl (by rw [qbc]; omega) rfl (by rw [qbc]; omega) rfl rfl (by omega) rfl rfl (by rw [qbc]; omega) (by omega)
def decV (n : Int) : ByteArray := ⟨(valT ⟨0, 0, n, ⟨#[]⟩, 0, 0⟩).toArray⟩
theorem decV_len (n : Int) : (decV n).size ≤ 12400 := by show (valT _).toArray.size ≤ _; simpa using valT_len _
theorem rightJ_zero {j : Jb} {r6 r7 r8 : Bool} {l6 l7 l8 : List Nd} (h : rightJ j r6 r7 r8 l6 l7 l8 = 0) : j.name.size ≤ 16 ∧ (j.fold = ⟨#[]⟩ ∨ j.fold ∈ foldsL) := by
 unfold rightJ at h
 split at h
 ·
  cases h
 rename_i h1
 split at h
 ·
  cases h
 split at h
 ·
  cases h
 split at h
 ·
  cases h
 rename_i h4
 constructor
 ·
  unfold namedB at h1
  simp only [Bool.not_eq_false, Bool.and_eq_true, decide_eq_true_eq] at h1
  exact h1.1.2
 ·
  unfold wrong2 at h4
  simp only [Bool.or_eq_true, not_or] at h4
  have h5 := h4.1
  by_cases he : j.fold.toList = []
  ·
   left
   apply ByteArray.size_eq_zero_iff.1
   rw [ByteArray.toList_eq] at he
   have := congrArg List.length he
   simpa using this
  ·
   right
   have e1 : j.fold.toList.isEmpty = false := by simpa using he
   rw [e1] at h5
   simp at h5
   exact (Lib.containsS_iff _ _).1 h5
end Go.Proofs.YtejbpnhondpnfaaGreat
namespace Go.Proofs.YtejbpnhondpnfaaGreat.PJob
open Go.RowKit Go.Proofs.YtejbpnhondpnfaaGreatW.PrintWords Go.Proofs.YtejbpnhondpnfaaGreatW.PrintLast Go.Proofs.YtejbpnhondpnfaaGreatW.PrintMore
set_option maxRecDepth 100000
def qaw (x : S57) : Nd := ⟨x.f0, x.f1.f0, x.f1.f1, x.f1.f2, x.f1.f3.f0, x.f1.f3.f1⟩
theorem rf_pt (x y : Int) : rav.f x y = some (ptR x y) := by
 unfold rav.f ptR
 by_cases h1 : -16777216 ≤ x <;> by_cases h2 : x ≤ 16777216 <;> by_cases h3 : -16777216 ≤ y <;> simp [h1, h2, h3] <;> omega
theorem rf_right (k n : Int) (t : ByteArray) (x y : Int) : raq.f k n t x y = some (qbf ⟨k, n, t, x, y⟩) := by
 unfold raq.f qbf
 simp only
 have hz : decide (Pt.mk x y ≠ Pt.zero) = (!(x == 0 && (y == 0))) := by
  rw [Bool.eq_iff_iff]
  simp [Pt.zero]
  first | done | omega
 have ht : t.toList.isEmpty = decide (t.toList = []) := by cases t.toList <;> rfl
 rw [hz, ht]
 generalize (x == 0 && (y == 0)) = b
 by_cases h0 : k = 0
 ·
  rw [if_pos h0, if_pos h0]
  by_cases h1 : n ≥ -9007199254740992
  ·
   rw [if_pos h1, decide_eq_true (show -9007199254740992 ≤ n from h1)]
   by_cases h2 : n ≤ 9007199254740992
   ·
    rw [if_pos h2, decide_eq_true h2]
    by_cases h3 : t.toList = []
    ·
     rw [if_pos h3, decide_eq_true h3]; simp
    ·
     rw [if_neg h3, decide_eq_false h3]; simp
   ·
    rw [if_neg h2, decide_eq_false h2]; simp
  ·
   rw [if_neg h1, decide_eq_false (show ¬ -9007199254740992 ≤ n from h1)]; simp
 ·
  rw [if_neg h0, if_neg h0]
  by_cases h1 : k = 1
  ·
   rw [if_pos h1, if_pos h1]
   by_cases h2 : (t.size : Int) ≤ 4096
   ·
    rw [if_pos h2, decide_eq_true (show t.size ≤ 4096 by omega)]
    by_cases h3 : n = 0
    ·
     rw [if_pos h3, h3]; simp
    ·
     rw [if_neg h3]; simp [h3]
   ·
    rw [if_neg h2, decide_eq_false (show ¬ t.size ≤ 4096 by omega)]; simp
  ·
   rw [if_neg h1, if_neg h1]
   by_cases h2 : k = 2
   ·
    rw [if_pos h2, if_pos h2, rf_pt]
    simp only [Option.bind_some]
    by_cases h4 : ptR x y = true
    ·
     rw [if_pos h4, h4]
     by_cases h3 : n = 0
     ·
      rw [if_pos h3, h3]; simp; cases t.toList <;> simp
     ·
      rw [if_neg h3]; simp [h3]
    ·
     rw [if_neg h4]; simp [h4]
   ·
    rw [if_neg h2, if_neg h2]
theorem rf_dig : ∀ d : Fin 10, strOfNums [(wrap64 (48 + (d.val : Int))) % 256] = ⟨#[digC d.val]⟩ := by decide +kernel
theorem decG_acc : ∀ (f n : Nat) (acc : List UInt8), decG f n acc = decG f n [] ++ acc
 | 0, _, _ => rfl
 | f + 1, n, acc => by
  unfold decG
  split
  ·
   rfl
  ·
   rw [decG_acc f, decG_acc f _ [digC (n % 10)]]; simp
theorem rf_dec (f : Nat) : ∀ (n : Nat), n < 10 ^ f → 1 ≤ f → f ≤ 18 → Ev (fun k => ram.f k (n : Int)) ⟨(decG f n []).toArray⟩ := by
 have small : ∀ d : Nat, d < 10 → Ev (fun k => ram.f k (d : Int)) ⟨#[digC d]⟩ := by
  intro d hd
  refine Ev.step (f := fun _ => some ⟨#[digC d]⟩) (fun k => ?_) (Ev.now _)
  simp only [ram.f]
  rw [if_neg (by omega), if_pos (by omega)]
  exact congrArg some (rf_dig ⟨d, hd⟩)
 induction f with
 | zero => intro n _ h; omega
 | succ f ih =>
  intro n hn _ hf
  by_cases h0 : n / 10 = 0
  ·
   unfold decG
   rw [if_pos h0]
   have hm : n % 10 = n := by omega
   rw [hm]
   exact small n (by omega)
  ·
   have ih' := ih (n / 10) (by rw [Nat.pow_succ] at hn; omega) (by
    rcases Nat.eq_zero_or_pos f with rfl | h
    ·
     exfalso; simp at hn; omega
    ·
     exact h) (by omega)
   have hm : Int.tmod (n : Int) 10 = ((n % 10 : Nat) : Int) := by rw [Int.tmod_eq_emod_of_nonneg (by omega)]; omega
   have h18 : n < 10 ^ 18 := Nat.lt_of_lt_of_le hn (Nat.pow_le_pow_right (by omega) hf)
   have hd : wrap64 (Int.tdiv (n : Int) 10) = ((n / 10 : Nat) : Int) := by rw [Int.tdiv_eq_ediv_of_nonneg (by omega)]; unfold wrap64; omega
   have hl := decG_len f (n / 10) []
   refine Ev.step (f := fun k => (ram.f k ((n / 10 : Nat) : Int)).bind fun t1 => (ram.f k ((n % 10 : Nat) : Int)).bind fun t2 => if t1.size + t2.size ≤ 9223372036854775807 then some (t1 ++ t2) else none) (fun k => ?_) ?_
   ·
    simp only [ram.f]
    rw [if_neg (by omega), if_neg (by omega), hd, hm]
   ·
    refine Ev.bind ih' (Ev.bind (small (n % 10) (by omega)) ?_)
    refine Ev.congr (f := fun _ => some (⟨(decG (f + 1) n []).toArray⟩ : ByteArray)) (fun k => ?_) (Ev.now _)
    rw [if_pos (by show (decG f (n / 10) []).toArray.size + 1 ≤ _; simp at hl ⊢; omega)]
    congr 1
    apply ByteArray.ext
    have e : decG (f + 1) n [] = decG f (n / 10) [] ++ [digC (n % 10)] := by
     rw [← decG_acc]
     show (if n / 10 = 0 then _ else _) = _
     rw [if_neg h0]
    rw [e]
    simp
theorem rf_decI (n : Int) (h0 : -(10 ^ 18) < n) (h1 : n < 10 ^ 18) : Ev (fun k => ram.f k n) ⟨(decI n).toArray⟩ := by
 unfold decI
 by_cases hn : n < 0
 ·
  rw [if_pos hn]
  have hk := rf_dec 18 n.natAbs (by omega) (by omega) (by omega)
  have hw : wrap64 (-n) = (n.natAbs : Int) := by unfold wrap64; omega
  have hl := decG_len 18 n.natAbs []
  refine Ev.step (f := fun k => (ram.f k (n.natAbs : Int)).bind fun t => if 1 + t.size ≤ 9223372036854775807 then some ((⟨#[45]⟩ : ByteArray) ++ t) else none) (fun k => ?_) ?_
  ·
   simp only [ram.f]
   rw [if_pos hn, hw]
  ·
   refine Ev.bind hk ?_
   refine Ev.congr (f := fun _ => some (⟨(45 :: decG 18 n.natAbs []).toArray⟩ : ByteArray)) (fun k => ?_) (Ev.now _)
   rw [if_pos (by show 1 + (decG 18 n.natAbs []).toArray.size ≤ _; simp at hl ⊢; omega)]
   congr 1
 ·
  rw [if_neg hn]
  have hk := rf_dec 18 n.natAbs (by omega) (by omega) (by omega)
  rwa [show ((n.natAbs : Nat) : Int) = n by omega] at hk
theorem rf_plain (c : UInt8) : rbd.f (c.toNat : Int) = some (plainI (c.toNat : Int)) := by
 have key : ∀ n : Fin 256, rbd.f (n.val : Int) = some (plainI (n.val : Int)) := by decide +kernel
 exact key ⟨c.toNat, c.toNat_lt⟩
theorem rf_hi (c : UInt8) : rar.f (wrap64 (Int.tdiv (wrap64 (c.toNat : Int)) 16)) = some ⟨#[digC (c.toNat / 16)]⟩ := by
 have key : ∀ n : Fin 256, rar.f (wrap64 (Int.tdiv (wrap64 (n.val : Int)) 16)) = some ⟨#[digC (n.val / 16)]⟩ := by decide +kernel
 exact key ⟨c.toNat, c.toNat_lt⟩
theorem rf_lo (c : UInt8) : rar.f (Int.tmod (wrap64 (c.toNat : Int)) 16) = some ⟨#[digC (c.toNat % 16)]⟩ := by
 have key : ∀ n : Fin 256, rar.f (Int.tmod (wrap64 (n.val : Int)) 16) = some ⟨#[digC (n.val % 16)]⟩ := by decide +kernel
 exact key ⟨c.toNat, c.toNat_lt⟩
theorem rf_ext (s : ByteArray) (i : Nat) (hlt : i < s.data.toList.length) : s.extract i (i + 1) = ⟨#[s.data.toList[i]]⟩ := by
 apply ByteArray.ext
 rw [ByteArray.data_extract]
 apply Array.ext'
 rw [Array.toList_extract, List.extract_eq_take_drop, Nat.add_sub_cancel_left, List.drop_eq_getElem_cons hlt]
 rfl
set_option maxHeartbeats 1000000 in
theorem rf_text (s : ByteArray) (hs : s.size ≤ 1000000) (a b c d : Int) (m : Nat) : ∀ (i : Nat), i + m = s.size →
  Ev (fun k => rah.l0 k ⟨([34] ++ (s.data.toList.take i).flatMap quoteC).toArray⟩ (i : Int) a b s c d) ⟨(quotedL s.data.toList).toArray⟩ := by
 induction m with
 | zero =>
  intro i hi
  have hl := quoted_len (s.data.toList.take i)
  have hsl : s.data.toList.length = s.size := by simp
  have hle : ((s.data.toList.take i).flatMap quoteC).length ≤ 3 * s.size := by
   rw [List.length_take] at hl
   omega
  have hz : (⟨([34] ++ (s.data.toList.take i).flatMap quoteC).toArray⟩ : ByteArray).size ≤ 3000001 := by
   show (List.toArray _).size ≤ _
   rw [List.size_toArray, List.length_append, List.length_cons, List.length_nil]
   omega
  refine Ev.step (f := fun _ => some (⟨(quotedL s.data.toList).toArray⟩ : ByteArray)) (fun k => ?_) (Ev.now _)
  simp only [rah.l0]
  rw [if_neg (by omega), if_pos (by omega)]
  congr 1
  apply ByteArray.ext
  rw [List.take_of_length_le (by omega)]
  unfold quotedL
  simp
 | succ m ih =>
  intro i hi
  have hsl : s.data.toList.length = s.size := by simp
  have hlt : i < s.data.toList.length := by omega
  have hl := quoted_len (s.data.toList.take i)
  have hle : ((s.data.toList.take i).flatMap quoteC).length ≤ 3 * s.size := by
   rw [List.length_take] at hl
   omega
  have hz : (⟨([34] ++ (s.data.toList.take i).flatMap quoteC).toArray⟩ : ByteArray).size ≤ 3000001 := by
   show (List.toArray _).size ≤ _
   rw [List.size_toArray, List.length_append, List.length_cons, List.length_nil]
   omega
  obtain ⟨ch, hch⟩ : ∃ ch, ch = s.data.toList[i] := ⟨_, rfl⟩
  have ht : s.data.toList.take (i + 1) = s.data.toList.take i ++ [ch] := by rw [List.take_succ_eq_append_getElem hlt, hch]
  have hbt : bt s (i : Int) = (ch.toNat : Int) := by
   unfold bt
   rw [dif_pos (by simp; omega), hch]
   simp [ByteArray.getElem_eq_getElem_data]
  have hw : wrap64 ((i : Int) + 1) = ((i + 1 : Nat) : Int) := by unfold wrap64; omega
  replace ih := ih (i + 1) (by omega)
  rw [ht] at ih
  simp only [List.flatMap_append, List.flatMap_cons, List.flatMap_nil, List.append_nil] at ih
  have hpl := rf_plain ch
  cases hp : plainI (ch.toNat : Int) with
  | true =>
   have hq : quoteC ch = [ch] := by unfold quoteC; rw [if_pos hp]
   rw [hq] at ih
   have hx : s.extract i (i + 1) = ⟨#[ch]⟩ := by rw [hch]; exact rf_ext s i hlt
   refine Ev.step (fun k => ?_) ih
   simp only [rah.l0]
   rw [if_pos (by omega), if_pos (by omega), hbt, hpl, hp]
   rw [Option.bind_some, if_pos rfl, hw, if_pos (by omega), if_pos (by omega), Int.toNat_natCast, Int.toNat_natCast]
   have y1 : (⟨#[ch]⟩ : ByteArray).size = 1 := rfl
   have e : (⟨([34] ++ (s.data.toList.take i).flatMap quoteC).toArray⟩ : ByteArray) ++ ⟨#[ch]⟩ = ⟨([34] ++ ((s.data.toList.take i).flatMap quoteC ++ [ch])).toArray⟩ := by
    apply ByteArray.ext; simp
   rw [hx, if_pos (by rw [y1]; omega), e]
  | false =>
   have hq : quoteC ch = [92, digC (ch.toNat / 16), digC (ch.toNat % 16)] := by unfold quoteC; rw [if_neg (by rw [hp]; decide)]
   rw [hq] at ih
   have x1 := rf_hi ch
   have x2 := rf_lo ch
   refine Ev.step (fun k => ?_) ih
   simp only [rah.l0]
   rw [if_pos (by omega), if_pos (by omega), hbt, hpl, hp]
   simp only [Option.bind_some, Bool.false_eq_true, if_false]
   rw [if_pos (by omega), x1]
   simp only [Option.bind_some]
   have y1 : (⟨#[92]⟩ : ByteArray).size = 1 := rfl
   have y2 : (⟨#[digC (ch.toNat / 16)]⟩ : ByteArray).size = 1 := rfl
   have y3 : (⟨#[digC (ch.toNat % 16)]⟩ : ByteArray).size = 1 := rfl
   rw [if_pos (by rw [ByteArray.size_append, y1, y2]; omega), x2]
   simp only [Option.bind_some]
   have e : (⟨([34] ++ (s.data.toList.take i).flatMap quoteC).toArray⟩ : ByteArray) ++ ⟨#[92]⟩ ++ ⟨#[digC (ch.toNat / 16)]⟩ ++ ⟨#[digC (ch.toNat % 16)]⟩ = ⟨([34] ++ ((s.data.toList.take i).flatMap quoteC ++ [92, digC (ch.toNat / 16), digC (ch.toNat % 16)])).toArray⟩ := by
    apply ByteArray.ext; simp
   rw [if_pos (by rw [ByteArray.size_append, ByteArray.size_append, y1, y2, y3]; omega), hw, e]
end Go.Proofs.YtejbpnhondpnfaaGreat.PJob
namespace Go.Proofs.YtejbpnhondpnfaaGreat.PJob
open Go.RowKit Go.Proofs.YtejbpnhondpnfaaGreatW.PrintWords Go.Proofs.YtejbpnhondpnfaaGreatW.PrintLast Go.Proofs.YtejbpnhondpnfaaGreatW.PrintMore
attribute [local go_sem] qaz qbe
def rai.f (k : Nat) (l0 : List (S57)) : Option (Bool) := if (l0.length : Int) ≤ 400 then ((rac.f k l0 0 0).bind fun t120 => (some (t120 == (l0.length : Int)))) else (some false)
set_option maxHeartbeats 8000000 in
set_option maxRecDepth 100000 in
theorem rai.calls (k : Nat) (A0 : Option Addr) (c0 : Nat) (l0 : List (S57)) (r : Bool) (w : World) (hr0 : Kd.C k57 w A0 l0.length l0) (hc0 : l0.length ≤ c0) (h : rai.f k l0 = some r) :
  Calls Tryz.prog 23 #[.slice A0 l0.length c0] w fun e w' => e = .returned (.bool r) ∧ Below w.heap.size w w' := by
 have HR0 := Aside0.mk hr0
 have HC0 := Aside0.mk hc0
 clear hr0 hc0
 have HB := Aside0.mk (Below.refl w.heap.size w)
 have H : (if (l0.length : Int) ≤ 400 then ((rac.f k l0 0 0).bind fun t120 => (some (t120 == (l0.length : Int)))) else (some false)) = some r := h
 clear h
 by_cases c2 : (l0.length : Int) ≤ 400
 ·
  rw [if_pos c2] at H
  have c2b0 : decide ((l0.length : Int) ≤ 400) = true := decide_eq_true c2
  have c2b1 : decide (l0.length ≤ 400) = true := decide_eq_true (by omega)
  clear c2
  replace H := Option.bind_eq_some_iff.mp H
  obtain ⟨t120, A30, H⟩ := H
  replace H : (some (t120 == (l0.length : Int))) = some r := H
  have A3 := Aside0.mk A30
  clear A30
  obtain rfl := Option.some.inj H
  go_enter Tryz.func23, Tryz.ntmps23
  go_wp2_with (first | (go_at_call 58; (with_reducible refine (rac.calls k _ _ l0 0 0 t120 _ ?side1 ?side2 A3.out).mono ?_); (case side1 => repeat (first | exact HR0.out | (with_reducible refine Kd.C_alloc ?_ _) | (with_reducible refine Kd.C_drewN ?_ _) | (with_reducible refine Kd.C_drew ?_))); (case side2 => exact HC0.out); rintro e w4 ⟨rfl, hb⟩; have n0_ := Aside0.mk (qah (by repeat (first | (with_reducible first | exact HB.out | apply qad | apply qab | apply qac) | exact HB.out)) hb); clear HB; have HB := n0_; clear n0_; (try clear hb); (try clear hb2); (try clear hk); (try clear hi)))
  go_ret
  exact ⟨by first | rfl | (simp [*] <;> rfl), by repeat (first | (with_reducible first | exact HB.out | apply qad | apply qab | apply qac) | exact HB.out)⟩
 ·
  rw [if_neg c2] at H
  have c2b0 : decide ((l0.length : Int) ≤ 400) = false := decide_eq_false c2
  have c2b1 : decide (l0.length ≤ 400) = false := decide_eq_false (by omega)
  clear c2
  obtain rfl := Option.some.inj H
  go_enter Tryz.func23, Tryz.ntmps23
  go_wp2
  go_ret
  exact ⟨by first | rfl | (simp [*] <;> rfl), by repeat (first | (with_reducible first | exact HB.out | apply qad | apply qab | apply qac) | exact HB.out)⟩
end Go.Proofs.YtejbpnhondpnfaaGreat.PJob
namespace Go.Proofs.YtejbpnhondpnfaaGreat.PJob
open Go.RowKit Go.Proofs.YtejbpnhondpnfaaGreatW.PrintWords Go.Proofs.YtejbpnhondpnfaaGreatW.PrintLast Go.Proofs.YtejbpnhondpnfaaGreatW.PrintMore
set_option maxRecDepth 100000
theorem rf_value (z : Nd) (hr : qbf z.val = true) : Ev (fun k => rah.f k z.k z.n z.t z.x z.y) ⟨(valT z).toArray⟩ := by
 obtain ⟨op, k, n, t, x, y⟩ := z
 have hr' : qbf ⟨k, n, t, x, y⟩ = true := hr
 have hb := right_bounds _ hr'
 simp only at hb
 unfold rah.f valT
 rw [if_neg (by rw [show (Nd.mk op k n t x y).val = ⟨k, n, t, x, y⟩ from rfl, hr']; decide)]
 by_cases h0 : k = 0
 ·
  rw [if_pos h0]
  refine Ev.congr (fun _ => if_pos h0) ?_
  exact Ev.bind (rf_decI n (by omega) (by omega)) (Ev.now _)
 ·
  rw [if_neg h0]
  refine Ev.congr (fun _ => if_neg h0) ?_
  by_cases h1 : k = 1
  ·
   rw [if_pos h1]
   refine Ev.congr (fun _ => if_neg (show ¬ k = 2 by omega)) ?_
   have := rf_text t (by omega) k n x y t.size 0 (by omega)
   have e : (⟨([34] ++ (t.data.toList.take 0).flatMap quoteC).toArray⟩ : ByteArray) = ⟨#[34]⟩ := by apply ByteArray.ext; simp
   rw [e] at this
   exact this
  ·
   rw [if_neg h1]
   have h2 : k = 2 := by omega
   refine Ev.congr (fun _ => if_pos h2) ?_
   have lx := decI_len x
   have ly := decI_len y
   refine Ev.bind (rf_decI x (by omega) (by omega)) ?_
   refine Ev.congr (fun _ => if_pos (by show (decI x).toArray.size + 1 ≤ _; simp; omega)) ?_
   refine Ev.bind (rf_decI y (by omega) (by omega)) ?_
   refine Ev.congr (fun _ => if_pos (by rw [ByteArray.size_append]; show ((decI x).toArray.size + 1) + (decI y).toArray.size ≤ _; simp; omega)) ?_
   refine Ev.congr (f := fun _ => some ⟨(decI x ++ 58 :: decI y).toArray⟩) (fun _ => ?_) (Ev.now _)
   congr 1
   apply ByteArray.ext; simp
theorem rf_word_at : ∀ i : Fin 28, rao.f ((i.val : Int) + 2) = some (wordsL.getD i.val ⟨#[]⟩) := by decide +kernel
theorem rf_word_yes (op : Int) (h1 : 2 ≤ op) (h2 : op ≤ 29) : rao.f op = some (wordB op) := by
 obtain ⟨i, rfl⟩ : ∃ i : Nat, op = (i : Int) + 2 := ⟨(op - 2).toNat, by omega⟩
 have := rf_word_at ⟨i, by omega⟩
 simp only at this
 rw [this]
 unfold wordB
 rw [show ((i : Int) + 2 - 2).toNat = i by omega]
theorem rf_word_no (op : Int) (h : op < 2 ∨ 29 < op) : rao.f op = some ⟨#[]⟩ := by
 unfold rao.f
 by_cases h1 : op < 2
 ·
  rw [if_pos h1]
 ·
  rw [if_neg h1, if_pos (by omega)]
theorem rf_word_ne : ∀ i : Fin 28, (wordsL.getD i.val ⟨#[]⟩).data.toList ≠ [] := by decide
theorem rf_parts_at (k : Nat) : ∀ i : Fin 28, raf.f (k + 1) ((i.val : Int) + 2) = some ((partsL.getD i.val 0 : Nat) : Int) := by
 intro i
 have hw := rf_word_at i
 unfold raf.f
 rw [hw]
 simp only [Option.bind_some, ByteArray.toList_eq, raf.j0]
 clear hw
 revert i
 decide +kernel
theorem rf_parts_yes (op : Int) (h1 : 2 ≤ op) (h2 : op ≤ 29) : Ev (fun k => raf.f k op) ((partsL.getD (op - 2).toNat 0 : Nat) : Int) := by
 obtain ⟨i, rfl⟩ : ∃ i : Nat, op = (i : Int) + 2 := ⟨(op - 2).toNat, by omega⟩
 rw [show ((i : Int) + 2 - 2).toNat = i by omega]
 exact Ev.step (f := fun _ => some ((partsL.getD i 0 : Nat) : Int)) (fun k => rf_parts_at k ⟨i, by omega⟩) (Ev.now _)
def EndIs (l : List S57) (o : Option (List (Option Nat))) (a : Nat) (g : Nat → Option Int) : Prop :=
 match o with
 | none => Ev g (-1)
 | some R => ∃ a' : Nat, R = ((l.map qaw).drop a').map qba ∧ a ≤ a' ∧ a' ≤ l.length ∧ Ev g (a' : Int)
theorem nd_val_zero (z : S57) : (!(z.f1.f0 == 0) || (!(z.f1.f1 == 0) || (!(z.f1.f2.toList == ([] : List UInt8)) || ((!(z.f1.f3.f0 == 0) || (!(z.f1.f3.f1 == 0))))))) = !(qaw z).val.isZero := by
 unfold Val.isZero qaw Nd.val
 simp only [Bool.not_and]
set_option maxHeartbeats 4000000 in
theorem rf_one (l : List S57) (hl : l.length ≤ 1000000) : ∀ (f w a : Nat), f + w = 26 → a ≤ l.length → EndIs l (oneE f w (((l.map qaw).drop a).map qba)) a (fun k => rac.f k l (a : Int) (w : Int)) := by
 intro f
 induction f with
 | zero =>
  intro w a hw ha
  show Ev _ _
  refine Ev.step (f := fun k => rac.j0 k l a w true) (fun k => ?_) (Ev.step (f := fun _ => some (-1)) (fun k => ?_) (Ev.now _))
  ·
   simp only [rac.f]
   by_cases h : (a : Int) ≥ (l.length : Int)
   ·
    rw [if_pos h]
   ·
    rw [if_neg h, decide_eq_true (by omega)]
  ·
   simp only [rac.j0]
   rw [if_pos trivial]
 | succ f ih =>
  intro w a hw ha
  by_cases hlt : a < l.length
  ·
   obtain ⟨z, hz⟩ : ∃ z, z = l[a] := ⟨_, rfl⟩
   have hd : (l.map qaw).drop a = qaw z :: (l.map qaw).drop (a + 1) := by
    rw [List.drop_eq_getElem_cons (by simpa using hlt), List.getElem_map, hz]
   have hrd : qae l (a : Int) = z := by rw [hz]; simp [qae, hlt]
   have hw1 : wrap64 ((a : Int) + 1) = ((a + 1 : Nat) : Int) := by unfold wrap64; omega
   have hw2 : wrap64 ((w : Int) + 1) = ((w + 1 : Nat) : Int) := by unfold wrap64; omega
   rw [hd, List.map_cons]
   unfold oneE
   by_cases h24 : 24 < w
   ·
    rw [if_pos h24]
    show Ev _ _
    refine Ev.step (f := fun k => rac.j0 k l a w true) (fun k => ?_) (Ev.step (f := fun _ => some (-1)) (fun k => ?_) (Ev.now _))
    ·
     simp only [rac.f]
     rw [if_neg (by omega), decide_eq_true (by omega)]
    ·
     simp only [rac.j0]
     rw [if_pos trivial]
   ·
    rw [if_neg h24]
    have e0 : ∀ {r : Int}, Ev (fun k => if z.f0 = 0 then ((raq.f z.f1.f0 z.f1.f1 z.f1.f2 z.f1.f3.f0 z.f1.f3.f1).bind fun t => rac.j1 k l a w t z.f0 z.f1.f0 z.f1.f1 z.f1.f2 z.f1.f3.f0 z.f1.f3.f1) else rac.j1 k l a w false z.f0 z.f1.f0 z.f1.f1 z.f1.f2 z.f1.f3.f0 z.f1.f3.f1) r → Ev (fun k => rac.f k l a w) r := by
     intro r h
     refine Ev.step (f := fun k => rac.j0 k l a w false) (fun k => ?_) (Ev.step (fun k => ?_) h)
     ·
      simp only [rac.f]
      rw [if_neg (by omega), decide_eq_false (by omega)]
     ·
      simp only [rac.j0]
      rw [if_neg (by decide), if_pos (by omega), if_pos (by omega), hrd]
    have e1 : ∀ {r : Int} {t : Bool}, Ev (fun k => if t = true then some (wrap64 ((a : Int) + 1)) else (if z.f0 = 1 then (if qbf (qaw z).val = true then (if z.f1.f0 = 0 then (if z.f1.f1 ≥ 0 then rac.j2 k l a w (decide (z.f1.f1 ≤ 4)) z.f0 z.f1.f0 z.f1.f1 z.f1.f2 z.f1.f3.f0 z.f1.f3.f1 else rac.j2 k l a w false z.f0 z.f1.f0 z.f1.f1 z.f1.f2 z.f1.f3.f0 z.f1.f3.f1) else rac.j2 k l a w false z.f0 z.f1.f0 z.f1.f1 z.f1.f2 z.f1.f3.f0 z.f1.f3.f1) else rac.j2 k l a w false z.f0 z.f1.f0 z.f1.f1 z.f1.f2 z.f1.f3.f0 z.f1.f3.f1) else rac.j2 k l a w false z.f0 z.f1.f0 z.f1.f1 z.f1.f2 z.f1.f3.f0 z.f1.f3.f1)) r → Ev (fun k => rac.j1 k l a w t z.f0 z.f1.f0 z.f1.f1 z.f1.f2 z.f1.f3.f0 z.f1.f3.f1) r := by
     intro r t h
     refine Ev.step (fun k => ?_) h
     simp only [rac.j1]
     rw [rf_right]
     rfl
    have e2 : ∀ {r : Int}, (2 ≤ z.f0 ∧ z.f0 ≤ 29 → (qaw z).val.isZero = true → Ev (fun k => rac.l0 k l ((a + 1 : Nat) : Int) w 0 z.f0 z.f1.f0 z.f1.f1 z.f1.f2 z.f1.f3.f0 z.f1.f3.f1) r) → (¬ (2 ≤ z.f0 ∧ z.f0 ≤ 29 ∧ (qaw z).val.isZero = true) → r = -1) → Ev (fun k => rac.j2 k l a w false z.f0 z.f1.f0 z.f1.f1 z.f1.f2 z.f1.f3.f0 z.f1.f3.f1) r := by
     intro r h1 h2
     by_cases ho : 2 ≤ z.f0 ∧ z.f0 ≤ 29
     ·
      have hne : ¬ (wordB z.f0).toList = ([] : List UInt8) := by
       rw [ByteArray.toList_eq]
       have := rf_word_ne ⟨(z.f0 - 2).toNat, by omega⟩
       exact this
      cases hz0 : (qaw z).val.isZero with
      | true =>
       refine Ev.step (f := fun k => rac.j3 k l a w false z.f0 z.f1.f0 z.f1.f1 z.f1.f2 z.f1.f3.f0 z.f1.f3.f1) (fun k => ?_) (Ev.step (fun k => ?_) (h1 ho hz0))
       ·
        simp only [rac.j2]
        rw [if_neg (by decide), rf_word_yes _ ho.1 ho.2, Option.bind_some, if_neg hne, nd_val_zero, hz0]
        rfl
       ·
        simp only [rac.j3]
        rw [if_neg (by decide), hw1]
      | false =>
       rw [h2 (by rw [hz0]; rintro ⟨_, _, h⟩; cases h)]
       refine Ev.step (f := fun k => rac.j3 k l a w true z.f0 z.f1.f0 z.f1.f1 z.f1.f2 z.f1.f3.f0 z.f1.f3.f1) (fun k => ?_) (Ev.step (f := fun _ => some (-1)) (fun k => ?_) (Ev.now _))
       ·
        simp only [rac.j2]
        rw [if_neg (by decide), rf_word_yes _ ho.1 ho.2, Option.bind_some, if_neg hne, nd_val_zero, hz0]
        rfl
       ·
        simp only [rac.j3]
        rw [if_pos trivial]
     ·
      rw [h2 (fun h => ho ⟨h.1, h.2.1⟩)]
      refine Ev.step (f := fun k => rac.j3 k l a w true z.f0 z.f1.f0 z.f1.f1 z.f1.f2 z.f1.f3.f0 z.f1.f3.f1) (fun k => ?_) (Ev.step (f := fun _ => some (-1)) (fun k => ?_) (Ev.now _))
      ·
       simp only [rac.j2]
       rw [if_neg (by decide), rf_word_no _ (by omega), Option.bind_some, if_pos (by rw [ByteArray.toList_eq])]
      ·
       simp only [rac.j3]
       rw [if_pos trivial]
    have end1 : EndIs l (some (((l.map qaw).drop (a + 1)).map qba)) a (fun k => rac.f k l (a : Int) (w : Int)) ↔ Ev (fun k => rac.f k l (a : Int) (w : Int)) ((a + 1 : Nat) : Int) ∨ EndIs l (some (((l.map qaw).drop (a + 1)).map qba)) a (fun k => rac.f k l (a : Int) (w : Int)) :=
     ⟨.inr, fun h => h.elim (fun h => ⟨a + 1, rfl, by omega, by omega, h⟩) id⟩
    have hzv : (qaw z).op = z.f0 := rfl
    unfold qba
    rw [hzv]
    by_cases ho : 2 ≤ z.f0 ∧ z.f0 ≤ 29
    ·
     rw [if_pos ho]
     cases hz0 : (qaw z).val.isZero with
     | false =>
      simp only [Bool.false_eq_true, if_false]
      show Ev _ _
      refine e0 ?_
      refine Ev.congr (fun k => if_neg (show ¬ z.f0 = 0 by omega)) (e1 ?_)
      refine Ev.congr (fun k => by rw [if_neg (by decide), if_neg (show ¬ z.f0 = 1 by omega)]) (e2 (fun _ h => ?_) fun _ => rfl)
      rw [hz0] at h; cases h
     | true =>
      rw [if_pos rfl]
      simp only
      have key : ∀ r : Int, Ev (fun k => rac.l0 k l ((a + 1 : Nat) : Int) w 0 z.f0 z.f1.f0 z.f1.f1 z.f1.f2 z.f1.f3.f0 z.f1.f3.f1) r → Ev (fun k => rac.f k l (a : Int) (w : Int)) r := by
       intro r h
       refine e0 ?_
       refine Ev.congr (fun k => if_neg (show ¬ z.f0 = 0 by omega)) (e1 ?_)
       exact Ev.congr (fun k => by rw [if_neg (by decide), if_neg (show ¬ z.f0 = 1 by omega)]) (e2 (fun _ _ => h) fun h => absurd ⟨ho.1, ho.2, hz0⟩ h)
      have hp := rf_parts_yes z.f0 ho.1 ho.2
      obtain ⟨p, hpe⟩ : ∃ p, p = partsL.getD (z.f0 - 2).toNat 0 := ⟨_, rfl⟩
      rw [← hpe] at hp ⊢
      have hp3 : p ≤ 3 := by
       have : ∀ j : Fin 28, partsL.getD j.val 0 ≤ 3 := by decide
       have := this ⟨(z.f0 - 2).toNat, by omega⟩
       simp only at this
       omega
      have loop : ∀ (m i a1 : Nat), i + m = p → a1 ≤ l.length → a ≤ a1 → EndIs l (manyE (oneE f (w + 1)) m (((l.map qaw).drop a1).map qba)) a (fun k => rac.l0 k l (a1 : Int) w (i : Int) z.f0 z.f1.f0 z.f1.f1 z.f1.f2 z.f1.f3.f0 z.f1.f3.f1) := by
       intro m
       induction m with
       | zero =>
        intro i a1 hi h1 h2
        refine ⟨a1, rfl, h2, h1, ?_⟩
        refine Ev.step (fun k => ?_) (Ev.bind hp (f := fun k t132 => if (i : Int) < t132 then ((rac.f k l a1 (wrap64 (w + 1))).bind fun t133 => if t133 < 0 then some (-1) else rac.l0 k l t133 w (wrap64 ((i : Int) + 1)) z.f0 z.f1.f0 z.f1.f1 z.f1.f2 z.f1.f3.f0 z.f1.f3.f1) else some (a1 : Int)) ?_)
        ·
         simp only [rac.l0]
        ·
         exact Ev.congr (fun k => if_neg (by omega)) (Ev.now _)
       | succ m ihm =>
        intro i a1 hi h1 h2
        have hi1 : wrap64 ((i : Int) + 1) = ((i + 1 : Nat) : Int) := by unfold wrap64; omega
        have h := ih (w + 1) a1 (by omega) h1
        have go : ∀ r : Int, Ev (fun k => (rac.f k l a1 ((w + 1 : Nat) : Int)).bind fun t133 => if t133 < 0 then some (-1) else rac.l0 k l t133 w ((i + 1 : Nat) : Int) z.f0 z.f1.f0 z.f1.f1 z.f1.f2 z.f1.f3.f0 z.f1.f3.f1) r →
          Ev (fun k => rac.l0 k l (a1 : Int) w (i : Int) z.f0 z.f1.f0 z.f1.f1 z.f1.f2 z.f1.f3.f0 z.f1.f3.f1) r := by
         intro r h
         refine Ev.step (fun k => ?_) (Ev.bind hp (f := fun k t132 => if (i : Int) < t132 then ((rac.f k l a1 (wrap64 (w + 1))).bind fun t133 => if t133 < 0 then some (-1) else rac.l0 k l t133 w (wrap64 ((i : Int) + 1)) z.f0 z.f1.f0 z.f1.f1 z.f1.f2 z.f1.f3.f0 z.f1.f3.f1) else some (a1 : Int)) ?_)
         ·
          simp only [rac.l0]
         ·
          exact Ev.congr (fun k => by rw [if_pos (by omega), hw2, hi1]) h
        unfold manyE
        cases hg : oneE f (w + 1) (((l.map qaw).drop a1).map qba) with
        | none =>
         rw [hg] at h
         show Ev _ _
         refine go _ (Ev.bind h ?_)
         exact Ev.congr (fun k => if_pos (by decide)) (Ev.now _)
        | some R =>
         rw [hg] at h
         obtain ⟨a', hR, h3, h4, h5⟩ := h
         rw [Option.bind_some, hR]
         have hn := ihm (i + 1) a' (by omega) h4 (by omega)
         cases hm : manyE (oneE f (w + 1)) m (((l.map qaw).drop a').map qba) with
         | none =>
          rw [hm] at hn
          show Ev _ _
          refine go _ (Ev.bind h5 ?_)
          exact Ev.congr (fun k => if_neg (by omega)) hn
         | some R' =>
          rw [hm] at hn
          obtain ⟨a2, hR2, h6, h7, h8⟩ := hn
          refine ⟨a2, hR2, h6, h7, ?_⟩
          refine go _ (Ev.bind h5 ?_)
          exact Ev.congr (fun k => if_neg (by omega)) h8
      have hL := loop p 0 (a + 1) (by omega) (by omega) (by omega)
      have fin : ∀ o, EndIs l o a (fun k => rac.l0 k l ((a + 1 : Nat) : Int) w ((0 : Nat) : Int) z.f0 z.f1.f0 z.f1.f1 z.f1.f2 z.f1.f3.f0 z.f1.f3.f1) → EndIs l o a (fun k => rac.f k l (a : Int) (w : Int)) := by
       intro o ho
       cases o with
       | none => exact key _ ho
       | some R =>
        obtain ⟨a2, hR2, h6, h7, h8⟩ := ho
        exact ⟨a2, hR2, h6, h7, key _ h8⟩
      exact fin _ hL
    ·
     rw [if_neg ho]
     unfold aloneB
     rw [hzv]
     have hk : (qaw z).k = z.f1.f0 := rfl
     have hn : (qaw z).n = z.f1.f1 := rfl
     rw [hk, hn]
     have bad : Ev (fun k => rac.j2 k l a w false z.f0 z.f1.f0 z.f1.f1 z.f1.f2 z.f1.f3.f0 z.f1.f3.f1) (-1) := e2 (fun h => absurd h ho) fun _ => rfl
     have yes1 : Ev (fun _ : Nat => some (wrap64 ((a : Int) + 1))) ((a + 1 : Nat) : Int) := by rw [hw1]; exact Ev.now _
     by_cases h1 : z.f0 = 1
     ·
      rw [if_pos h1]
      have c0 : ∀ {r : Int}, Ev (fun k => if qbf (qaw z).val = true then (if z.f1.f0 = 0 then (if z.f1.f1 ≥ 0 then rac.j2 k l a w (decide (z.f1.f1 ≤ 4)) z.f0 z.f1.f0 z.f1.f1 z.f1.f2 z.f1.f3.f0 z.f1.f3.f1 else rac.j2 k l a w false z.f0 z.f1.f0 z.f1.f1 z.f1.f2 z.f1.f3.f0 z.f1.f3.f1) else rac.j2 k l a w false z.f0 z.f1.f0 z.f1.f1 z.f1.f2 z.f1.f3.f0 z.f1.f3.f1) else rac.j2 k l a w false z.f0 z.f1.f0 z.f1.f1 z.f1.f2 z.f1.f3.f0 z.f1.f3.f1) r → Ev (fun k => rac.f k l (a : Int) (w : Int)) r := by
       intro r h
       refine e0 (Ev.congr (fun k => if_neg (show ¬ z.f0 = 0 by omega)) (e1 ?_))
       exact Ev.congr (fun k => by rw [if_neg (by decide), if_pos h1]) h
      cases hv : qbf (qaw z).val with
      | false =>
       rw [hv] at c0
       rw [Bool.and_false, Bool.false_and, Bool.false_and, if_neg (by decide)]
       show Ev _ _
       exact c0 (Ev.congr (fun k => if_neg (by decide)) bad)
      | true =>
       rw [hv] at c0
       by_cases hk0 : z.f1.f0 = 0
       ·
        by_cases hn0 : z.f1.f1 ≥ 0
        ·
         by_cases hn4 : z.f1.f1 ≤ 4
         ·
          rw [decide_eq_true hk0, decide_eq_true (show 0 ≤ z.f1.f1 from hn0), decide_eq_true (show z.f1.f1 < 5 by omega), Bool.and_self, Bool.and_self, Bool.and_self, if_pos rfl]
          refine end1.2 (.inl (c0 ?_))
          refine Ev.congr (fun k => by rw [if_pos rfl, if_pos hk0, if_pos hn0, decide_eq_true hn4]) (f := fun k => rac.j2 k l a w true z.f0 z.f1.f0 z.f1.f1 z.f1.f2 z.f1.f3.f0 z.f1.f3.f1) ?_
          refine Ev.step (fun k => ?_) yes1
          simp only [rac.j2]
          rw [if_pos trivial]
         ·
          rw [decide_eq_false (show ¬ z.f1.f1 < 5 by omega), Bool.and_false, if_neg (by decide)]
          show Ev _ _
          exact c0 (Ev.congr (fun k => by rw [if_pos rfl, if_pos hk0, if_pos hn0, decide_eq_false hn4]) bad)
        ·
         rw [decide_eq_false (show ¬ 0 ≤ z.f1.f1 from hn0), Bool.and_false, Bool.false_and, if_neg (by decide)]
         show Ev _ _
         exact c0 (Ev.congr (fun k => by rw [if_pos rfl, if_pos hk0, if_neg hn0]) bad)
       ·
        rw [decide_eq_false hk0, Bool.false_and, Bool.false_and, Bool.false_and, if_neg (by decide)]
        show Ev _ _
        exact c0 (Ev.congr (fun k => by rw [if_pos rfl, if_neg hk0]) bad)
     ·
      rw [if_neg h1]
      by_cases h0 : z.f0 = 0
      ·
       rw [decide_eq_true h0, Bool.true_and]
       cases hv : qbf (qaw z).val with
       | true =>
        rw [if_pos rfl]
        refine end1.2 (.inl (e0 ?_))
        refine Ev.congr (fun k => by rw [if_pos h0, rf_right, show (⟨z.f1.f0, z.f1.f1, z.f1.f2, z.f1.f3.f0, z.f1.f3.f1⟩ : Val) = (qaw z).val from rfl, hv, Option.bind_some]) (e1 ?_)
        exact Ev.congr (fun k => if_pos rfl) yes1
       | false =>
        rw [if_neg (by decide)]
        show Ev _ _
        refine e0 (Ev.congr (fun k => by rw [if_pos h0, rf_right, show (⟨z.f1.f0, z.f1.f1, z.f1.f2, z.f1.f3.f0, z.f1.f3.f1⟩ : Val) = (qaw z).val from rfl, hv, Option.bind_some]) (e1 ?_))
        exact Ev.congr (fun k => by rw [if_neg (by decide), if_neg h1]) bad
      ·
       rw [decide_eq_false h0, Bool.false_and, if_neg (by decide)]
       show Ev _ _
       refine e0 (Ev.congr (fun k => if_neg h0) (e1 ?_))
       exact Ev.congr (fun k => by rw [if_neg (by decide), if_neg h1]) bad
  ·
   have hae : a = l.length := by omega
   have hnil : (l.map qaw).drop a = [] := List.drop_eq_nil_of_le (by simp; omega)
   rw [hnil]
   show Ev _ _
   refine Ev.step (f := fun k => rac.j0 k l a w true) (fun k => ?_) (Ev.step (f := fun _ => some (-1)) (fun k => ?_) (Ev.now _))
   ·
    simp only [rac.f]
    rw [if_pos (by omega)]
   ·
    simp only [rac.j0]
    rw [if_pos trivial]
theorem rf_exprR (l : List S57) (hl : l.length ≤ 1000000) : Ev (fun k => rai.f k l) (exprR (l.map qaw)) := by
 unfold rai.f exprR
 rw [List.length_map]
 by_cases h4 : (l.length : Int) ≤ 400
 ·
  refine Ev.congr (fun k => if_pos h4) ?_
  have h := rf_one l hl 26 0 0 rfl (Nat.zero_le _)
  rw [List.drop_zero] at h
  rw [stack_right, decide_eq_true (show l.length ≤ 400 by omega), Bool.and_true]
  have e : ((l.map qaw).map qba).length = l.length := by simp
  cases hg : oneE 26 0 ((l.map qaw).map qba) with
  | none =>
   rw [hg] at h
   refine Ev.bind h (Ev.congr (f := fun _ => some false) (fun k => ?_) ?_)
   ·
    rw [show ((-1 : Int) == (l.length : Int)) = false by rw [beq_eq_false_iff_ne]; omega]
   ·
    simp only [reduceCtorEq, decide_false, Bool.and_false]
    exact Ev.now _
  | some R =>
   rw [hg] at h
   obtain ⟨a', hR, h3, h4', h5⟩ := h
   refine Ev.bind h5 ?_
   have hRl : R.length = l.length - a' := by rw [hR]; simp
   have hpos : 0 < l.length := by
    rcases Nat.eq_zero_or_pos l.length with h0 | h0
    ·
     rw [List.length_eq_zero_iff] at h0
     subst h0
     cases hg
    ·
     exact h0
   refine Ev.congr (f := fun _ => some (decide (0 < l.length) && decide (some R = some []))) (fun k => ?_) (Ev.now _)
   congr 1
   rw [decide_eq_true hpos, Bool.true_and, Bool.eq_iff_iff]
   simp only [beq_iff_eq, Option.some.injEq, decide_eq_true_eq]
   constructor
   ·
    intro h; exact List.length_eq_zero_iff.1 (by omega)
   ·
    intro h; rw [h] at hRl; simp at hRl; omega
 ·
  refine Ev.congr (fun k => if_neg h4) ?_
  rw [decide_eq_false (show ¬ l.length ≤ 400 by omega), Bool.and_false, Bool.false_and]
  exact Ev.now _
theorem rf_name : ∀ i : Fin 5, rbe.f (i.val : Int) = some (names5.getD i.val ⟨#[]⟩) := by decide +kernel
theorem rf_end (l : List S57) (hl : l.length ≤ 1000000) (f w a : Nat) (hf : f + w = 26) (ha : a ≤ l.length) (R : List (Option Nat)) (a' : Nat) (h : oneE f w (((l.map qaw).drop a).map qba) = some R) (hR : R = ((l.map qaw).drop a').map qba) (ha' : a' ≤ l.length) :
  Ev (fun k => rax.f k l (a : Int)) (a' : Int) := by
 have h2 := one_less f w 26 0 _ _ h (Nat.zero_le _) (by omega)
 have h3 := rf_one l hl 26 0 a rfl ha
 rw [h2] at h3
 obtain ⟨a2, hR2, h4, h5, h6⟩ := h3
 have : a2 = a' := by
  have := congrArg List.length (hR.symm.trans hR2)
  simp at this
  omega
 subst this
 unfold rax.f
 exact Ev.bind h6 (Ev.now _)
def VT (z : Nd) : ByteArray := ⟨(valT z).toArray⟩
theorem VT_len (z : Nd) : (VT z).size ≤ 12400 := by show (valT z).toArray.size ≤ _; simpa using valT_len z
theorem rf_acc (acc : ByteArray) (b : List UInt8) (i : Nat) (h : acc.size ≤ 200 + 13000001 * i) (hb : b.length ≤ 13000000) (hi : i ≤ 3) :
  acc.size + 1 ≤ 9223372036854775807 ∧ (acc ++ (⟨#[32]⟩ : ByteArray)).size + (⟨b.toArray⟩ : ByteArray).size ≤ 9223372036854775807 ∧ ((acc ++ (⟨#[32]⟩ : ByteArray)) ++ (⟨b.toArray⟩ : ByteArray)).size ≤ 200 + 13000001 * (i + 1) := by
 have y1 : (⟨b.toArray⟩ : ByteArray).size = b.length := by show b.toArray.size = _; simp
 have y2 : (acc ++ (⟨#[32]⟩ : ByteArray)).size = acc.size + 1 := ByteArray.size_append
 have y3 : ((acc ++ (⟨#[32]⟩ : ByteArray)) ++ (⟨b.toArray⟩ : ByteArray)).size = (acc ++ (⟨#[32]⟩ : ByteArray)).size + (⟨b.toArray⟩ : ByteArray).size := ByteArray.size_append
 rw [y3, y2, y1]
 clear y1 y2 y3
 generalize acc.size = x at *
 generalize b.length = y at *
 exact ⟨by omega, by omega, by omega⟩
set_option maxHeartbeats 4000000 in
theorem rf_wr (l : List S57) (hl : l.length ≤ 1000) : ∀ (f w a : Nat), f + w = 26 → a ≤ l.length → ∀ R, oneE f w (((l.map qaw).drop a).map qba) = some R →
  ∃ (b : List UInt8) (a' : Nat), wrE VT wordB f ((l.map qaw).drop a) = some (b, (l.map qaw).drop a') ∧ a' ≤ l.length ∧ a ≤ a' ∧ R = ((l.map qaw).drop a').map qba ∧ Ev (fun k => rak.f k l (a : Int)) ⟨b.toArray⟩ := by
 intro f
 induction f with
 | zero => intro w a _ _ R h; cases h
 | succ f ih =>
  intro w a hw ha R h
  by_cases hlt : a < l.length
  ·
   obtain ⟨z, hz⟩ : ∃ z, z = l[a] := ⟨_, rfl⟩
   have hd : (l.map qaw).drop a = qaw z :: (l.map qaw).drop (a + 1) := by
    rw [List.drop_eq_getElem_cons (by simpa using hlt), List.getElem_map, hz]
   have hrd : qae l (a : Int) = z := by rw [hz]; simp [qae, hlt]
   have hw1 : wrap64 ((a : Int) + 1) = ((a + 1 : Nat) : Int) := by unfold wrap64; omega
   rw [hd, List.map_cons] at h
   rw [hd]
   unfold oneE at h
   split at h
   ·
    cases h
   ·
    have hzv : (qaw z).op = z.f0 := rfl
    have st : ∀ {r : ByteArray}, Ev (fun k => if z.f0 = 0 then ((rah.f k z.f1.f0 z.f1.f1 z.f1.f2 z.f1.f3.f0 z.f1.f3.f1).bind fun t => some t) else if z.f0 = 1 then ((rbe.f z.f1.f1).bind fun t => some t) else (rao.f z.f0).bind fun t => if 1 + t.size ≤ 9223372036854775807 then rak.l0 k l ((a + 1 : Nat) : Int) ((⟨#[40]⟩ : ByteArray) ++ t) 0 z.f0 z.f1.f0 z.f1.f1 z.f1.f2 z.f1.f3.f0 z.f1.f3.f1 else none) r → Ev (fun k => rak.f k l (a : Int)) r := by
     intro r h
     refine Ev.step (fun k => ?_) h
     simp only [rak.f]
     rw [if_pos (by omega), if_pos (by omega), hrd, hw1]
    cases hk : qba (qaw z) with
    | none => rw [hk] at h; cases h
    | some p =>
     rw [hk] at h
     simp only at h
     unfold wrE
     rcases nd_cases hk with ⟨h0, rfl, hv⟩ | ⟨h1, rfl⟩ | ⟨h2, h29, hp⟩
     ·
      rw [if_pos h0]
      injection h with h
      refine ⟨_, a + 1, rfl, by omega, by omega, h.symm, st ?_⟩
      refine Ev.congr (fun k => if_pos (hzv ▸ h0)) (Ev.bind (rf_value (qaw z) hv) ?_)
      refine Ev.congr (fun k => ?_) (Ev.now _)
      rfl
     ·
      rw [if_neg (by omega), if_pos h1]
      injection h with h
      refine ⟨_, a + 1, rfl, by omega, by omega, h.symm, st ?_⟩
      have hz1 : z.f0 = 1 := hzv ▸ h1
      have hn : 0 ≤ z.f1.f1 ∧ z.f1.f1 < 5 := by
       unfold qba at hk
       rw [if_neg (by omega)] at hk
       unfold aloneB at hk
       rw [if_pos h1] at hk
       by_cases hn : 0 ≤ z.f1.f1 ∧ z.f1.f1 < 5
       ·
        exact hn
       ·
        exfalso
        rw [if_neg] at hk
        ·
         cases hk
        ·
         have e : (qaw z).n = z.f1.f1 := rfl
         rw [e]
         simp
         intros
         omega
      have hnm := rf_name ⟨z.f1.f1.toNat, by omega⟩
      simp only at hnm
      rw [show ((z.f1.f1.toNat : Nat) : Int) = z.f1.f1 by omega] at hnm
      refine Ev.congr (fun k => by rw [if_neg (show ¬ z.f0 = 0 by omega), if_pos hz1, hnm, Option.bind_some]) ?_
      have e : (⟨((names5.getD (qaw z).n.toNat ⟨#[]⟩).data.toList).toArray⟩ : ByteArray) = names5.getD z.f1.f1.toNat ⟨#[]⟩ := rfl
      rw [e]
      exact Ev.now _
     ·
      rw [if_neg (by omega), if_neg (by omega)]
      have hP := rf_parts_yes z.f0 (hzv ▸ h2) (hzv ▸ h29)
      rw [← hzv, ← hp] at hP
      rw [← hp]
      have hp3 : p ≤ 3 := nd_le3 hk
      have loop : ∀ (m i a1 : Nat) (acc : ByteArray) (R : List (Option Nat)), i + m = p → a1 ≤ l.length → acc.size ≤ 200 + 13000001 * i → manyE (oneE f (w + 1)) m (((l.map qaw).drop a1).map qba) = some R →
        ∃ (b : List UInt8) (a' : Nat), wrM (wrE VT wordB f) m ((l.map qaw).drop a1) = some (b, (l.map qaw).drop a') ∧ a' ≤ l.length ∧ a1 ≤ a' ∧ R = ((l.map qaw).drop a').map qba ∧
         Ev (fun k => rak.l0 k l (a1 : Int) acc (i : Int) z.f0 z.f1.f0 z.f1.f1 z.f1.f2 z.f1.f3.f0 z.f1.f3.f1) (acc ++ ⟨(b ++ [41]).toArray⟩) := by
       intro m
       induction m with
       | zero =>
        intro i a1 acc R hi h1 hacc h
        injection h with h
        refine ⟨[], a1, rfl, h1, Nat.le_refl _, h.symm, ?_⟩
        refine Ev.step (fun k => ?_) (Ev.bind hP (f := fun k t248 => if (i : Int) < t248 then (if acc.size + 1 ≤ 9223372036854775807 then ((rak.f k l a1).bind fun t249 => if (acc ++ (⟨#[32]⟩ : ByteArray)).size + t249.size ≤ 9223372036854775807 then ((rax.f k l a1).bind fun t250 => rak.l0 k l t250 ((acc ++ (⟨#[32]⟩ : ByteArray)) ++ t249) (wrap64 ((i : Int) + 1)) z.f0 z.f1.f0 z.f1.f1 z.f1.f2 z.f1.f3.f0 z.f1.f3.f1) else none) else none) else (if acc.size + 1 ≤ 9223372036854775807 then some (acc ++ (⟨#[41]⟩ : ByteArray)) else none)) ?_)
        ·
         simp only [rak.l0]
         rfl
        ·
         refine Ev.congr (fun k => by rw [if_neg (by omega), if_pos (by omega)]) ?_
         exact Ev.now _
       | succ m ihm =>
        intro i a1 acc R hi h1 hacc h
        have hi1 : wrap64 ((i : Int) + 1) = ((i + 1 : Nat) : Int) := by unfold wrap64; omega
        unfold manyE at h
        cases hg : oneE f (w + 1) (((l.map qaw).drop a1).map qba) with
        | none => rw [hg] at h; cases h
        | some R1 =>
         rw [hg, Option.bind_some] at h
         obtain ⟨b1, a2, e1, e2, e3, e4, e5⟩ := ih (w + 1) a1 (by omega) h1 R1 hg
         have hend := rf_end l (by omega) f (w + 1) a1 (by omega) h1 R1 a2 hg e4 e2
         have hb1 := wr_len VT wordB VT_len wordB_len f _ _ _ e1
         have hbl : b1.length ≤ 13000000 := by
          simp only [List.length_drop, List.length_map] at hb1
          omega
         clear hb1
         obtain ⟨q1, q2, hacc2⟩ := rf_acc acc b1 i hacc hbl (Nat.le_trans (hi ▸ Nat.le_add_right i (m + 1)) hp3)
         rw [e4] at h
         obtain ⟨b2, a3, g1, g2, g3, g4, g5⟩ := ihm (i + 1) a2 ((acc ++ (⟨#[32]⟩ : ByteArray)) ++ ⟨b1.toArray⟩) R (by omega) e2 hacc2 h
         refine ⟨32 :: b1 ++ b2, a3, ?_, g2, by omega, g4, ?_⟩
         ·
          unfold wrM
          rw [e1, Option.bind_some]
          simp only
          rw [g1]
          rfl
         ·
          have ee : acc ++ ⟨(32 :: b1 ++ b2 ++ [41]).toArray⟩ = ((acc ++ (⟨#[32]⟩ : ByteArray)) ++ ⟨b1.toArray⟩) ++ ⟨(b2 ++ [41]).toArray⟩ := by
           apply ByteArray.ext; simp
          rw [ee]
          refine Ev.step (fun k => ?_) (Ev.bind hP (f := fun k t248 => if (i : Int) < t248 then (if acc.size + 1 ≤ 9223372036854775807 then ((rak.f k l a1).bind fun t249 => if (acc ++ (⟨#[32]⟩ : ByteArray)).size + t249.size ≤ 9223372036854775807 then ((rax.f k l a1).bind fun t250 => rak.l0 k l t250 ((acc ++ (⟨#[32]⟩ : ByteArray)) ++ t249) (wrap64 ((i : Int) + 1)) z.f0 z.f1.f0 z.f1.f1 z.f1.f2 z.f1.f3.f0 z.f1.f3.f1) else none) else none) else (if acc.size + 1 ≤ 9223372036854775807 then some (acc ++ (⟨#[41]⟩ : ByteArray)) else none)) ?_)
          ·
           simp only [rak.l0]
           rfl
          ·
           refine Ev.congr (fun k => by rw [if_pos (by omega), if_pos q1]) (Ev.bind e5 ?_)
           refine Ev.congr (fun k => if_pos q2) (Ev.bind hend ?_)
           rw [hi1]
           exact g5
      have hwl := wordB_len z.f0
      have y0 : (⟨#[40]⟩ : ByteArray).size = 1 := rfl
      obtain ⟨b, a', g1, g2, g3, g4, g5⟩ := loop p 0 (a + 1) ((⟨#[40]⟩ : ByteArray) ++ wordB z.f0) R (by omega) (by omega) (by rw [ByteArray.size_append, y0]; omega) h
      refine ⟨40 :: (wordB (qaw z).op).data.toList ++ b ++ [41], a', ?_, g2, by omega, g4, st ?_⟩
      ·
       rw [g1]; rfl
      ·
       have ee : (⟨(40 :: (wordB (qaw z).op).data.toList ++ b ++ [41]).toArray⟩ : ByteArray) = ((⟨#[40]⟩ : ByteArray) ++ wordB z.f0) ++ ⟨(b ++ [41]).toArray⟩ := by
        rw [hzv]
        apply ByteArray.ext; simp
       rw [ee]
       refine Ev.congr (fun k => by rw [if_neg (show ¬ z.f0 = 0 by omega), if_neg (show ¬ z.f0 = 1 by omega), rf_word_yes z.f0 (hzv ▸ h2) (hzv ▸ h29), Option.bind_some, if_pos (by omega)]; rfl) g5
  ·
   have hnil : (l.map qaw).drop a = [] := List.drop_eq_nil_of_le (by simp; omega)
   rw [hnil] at h
   cases h
def textB (l : List Nd) : ByteArray := ⟨((wrE VT wordB 26 l).elim [] (·.1)).toArray⟩
theorem rf_textB (l : List S57) (h : exprR (l.map qaw) = true) : Ev (fun k => rak.f k l 0) (textB (l.map qaw)) := by
 have h4 : l.length ≤ 400 := by
  unfold exprR at h
  simp only [Bool.and_eq_true, decide_eq_true_eq, List.length_map] at h
  exact h.1.2
 have h2 := h
 unfold exprR at h2
 simp only [Bool.and_eq_true] at h2
 have h3 := h2.2
 rw [stack_right] at h3
 obtain ⟨b, a', g1, _, _, _, g5⟩ := rf_wr l (by omega) 26 0 0 rfl (Nat.zero_le _) [] (by rw [List.drop_zero]; exact of_decide_eq_true h3)
 rw [List.drop_zero] at g1
 unfold textB
 rw [g1]
 exact g5
end Go.Proofs.YtejbpnhondpnfaaGreat.PJob
namespace Go.Proofs.YtejbpnhondpnfaaGreat.PJob
open Go.RowKit Go.Proofs.YtejbpnhondpnfaaGreatW.PrintWords Go.Proofs.YtejbpnhondpnfaaGreatW.PrintLast Go.Proofs.YtejbpnhondpnfaaGreatW.PrintMore
attribute [local go_sem] qaz qbe
def raw.f (a0 : ByteArray) : Option (Bool) := if a0.toList = ([115, 117, 109] : List UInt8) then (some true) else (if a0.toList = ([109, 97, 120] : List UInt8) then (some true) else (if a0.toList = ([109, 105, 110] : List UInt8) then (some true) else (some (a0.toList == ([103, 99, 100] : List UInt8)))))
set_option maxHeartbeats 8000000 in
set_option maxRecDepth 100000 in
theorem raw.calls (a0 : ByteArray) (r : Bool) (w : World) (h : raw.f a0 = some r) :
  Calls Tryz.prog 24 #[.string a0] w fun e w' => e = .returned (.bool r) ∧ Drawn0 w w' := by
 have H : (if a0.toList = ([115, 117, 109] : List UInt8) then (some true) else (if a0.toList = ([109, 97, 120] : List UInt8) then (some true) else (if a0.toList = ([109, 105, 110] : List UInt8) then (some true) else (some (a0.toList == ([103, 99, 100] : List UInt8)))))) = some r := h
 clear h
 by_cases c2 : a0.toList = ([115, 117, 109] : List UInt8)
 ·
  rw [if_pos c2] at H
  have c2b0 : (a0.toList == ([115, 117, 109] : List UInt8)) = true := beq_iff_eq.mpr c2
  have c2b1 : (a0.toList != ([115, 117, 109] : List UInt8)) = false := bne_eq_false_iff_eq.mpr c2
  clear c2
  obtain rfl := Option.some.inj H
  go_enter Tryz.func24, Tryz.ntmps24
  go_wp2
  go_ret
  exact ⟨by first | rfl | (simp; done) | (simp [*]; done), by repeat (first | exact Drawn0.refl _ | apply Drawn0.step)⟩
 ·
  rw [if_neg c2] at H
  have c2b0 : (a0.toList == ([115, 117, 109] : List UInt8)) = false := beq_eq_false_iff_ne.mpr c2
  have c2b1 : (a0.toList != ([115, 117, 109] : List UInt8)) = true := bne_iff_ne.mpr c2
  by_cases c3 : a0.toList = ([109, 97, 120] : List UInt8)
  ·
   rw [if_pos c3] at H
   have c3b0 : (a0.toList == ([109, 97, 120] : List UInt8)) = true := beq_iff_eq.mpr c3
   have c3b1 : (a0.toList != ([109, 97, 120] : List UInt8)) = false := bne_eq_false_iff_eq.mpr c3
   clear c3
   obtain rfl := Option.some.inj H
   go_enter Tryz.func24, Tryz.ntmps24
   go_wp2
   go_ret
   exact ⟨by first | rfl | (simp; done) | (simp [*]; done), by repeat (first | exact Drawn0.refl _ | apply Drawn0.step)⟩
  ·
   rw [if_neg c3] at H
   have c3b0 : (a0.toList == ([109, 97, 120] : List UInt8)) = false := beq_eq_false_iff_ne.mpr c3
   have c3b1 : (a0.toList != ([109, 97, 120] : List UInt8)) = true := bne_iff_ne.mpr c3
   by_cases c4 : a0.toList = ([109, 105, 110] : List UInt8)
   ·
    rw [if_pos c4] at H
    have c4b0 : (a0.toList == ([109, 105, 110] : List UInt8)) = true := beq_iff_eq.mpr c4
    have c4b1 : (a0.toList != ([109, 105, 110] : List UInt8)) = false := bne_eq_false_iff_eq.mpr c4
    clear c4
    obtain rfl := Option.some.inj H
    go_enter Tryz.func24, Tryz.ntmps24
    go_wp2
    go_ret
    exact ⟨by first | rfl | (simp; done) | (simp [*]; done), by repeat (first | exact Drawn0.refl _ | apply Drawn0.step)⟩
   ·
    rw [if_neg c4] at H
    have c4b0 : (a0.toList == ([109, 105, 110] : List UInt8)) = false := beq_eq_false_iff_ne.mpr c4
    have c4b1 : (a0.toList != ([109, 105, 110] : List UInt8)) = true := bne_iff_ne.mpr c4
    obtain rfl := Option.some.inj H
    go_enter Tryz.func24, Tryz.ntmps24
    go_wp2
    go_ret
    exact ⟨by first | rfl | (simp; done) | (simp [*]; done), by repeat (first | exact Drawn0.refl _ | apply Drawn0.step)⟩
def rad.l0 : Nat → List (S57) → Int → Int → Int → Option (Bool)
 | 0, _, _, _, _ => none
 | k + 1, x0, x1, x2, x7 => if x7 < (x0.length : Int) then (if 0 ≤ x7 then (if ((qae x0 x7).f0) = x1 then (if x2 < 0 then (some true) else (if ((qae x0 x7).f1.f1) = x2 then (some true) else (rad.l0 k x0 x1 x2 (wrap64 (x7 + 1))))) else (rad.l0 k x0 x1 x2 (wrap64 (x7 + 1)))) else (none)) else (some false)
def rad.f (k : Nat) (l0 : List (S57)) (a1 : Int) (a2 : Int) : Option (Bool) := rad.l0 k l0 a1 a2 0
set_option maxHeartbeats 8000000 in
set_option maxRecDepth 100000 in
theorem rad.calls (k : Nat) (A0 : Option Addr) (c0 : Nat) (l0 : List (S57)) (a1 : Int) (a2 : Int) (r : Bool) (w : World) (hr0 : Kd.C k57 w A0 l0.length l0) (hc0 : l0.length ≤ c0) (h : rad.f k l0 a1 a2 = some r) :
  Calls Tryz.prog 25 #[.slice A0 l0.length c0, .int .i64 a1, .int .i64 a2] w fun e w' => e = .returned (.bool r) ∧ Drawn0 w w' := by
 have HR0 := Aside0.mk hr0
 have HC0 := Aside0.mk hc0
 clear hr0 hc0
 have H : (rad.l0 k l0 a1 a2 0) = some r := h
 clear h
 have H' := Aside0.mk H
 clear H
 go_enter Tryz.func25, Tryz.ntmps25
 go_wp2
 go_loopg [7] k (fun kq v7 w' => ∃ (x7_1 : Int), v7 = .int .i64 x7_1 ∧ Aside0 (rad.l0 kq l0 a1 a2 x7_1 = some r) ∧ Aside0 (kq ≤ k) ∧ Drawn0 w w')
 case atStart => exact ⟨(0), (by first | rfl | (simp; done) | (simp [*]; done)), H', ⟨Nat.le_refl _⟩, by repeat (first | exact Drawn0.refl _ | apply Drawn0.step)⟩
 case round =>
  clear H'
  try clear c2
  try clear p2
  obtain ⟨x7_1, rfl, HA, HK1, ⟨m1, rfl⟩⟩ := hrel
  cases gk with
  | zero => exact absurd HA.out (by simp [rad.l0])
  | succ k1 =>
   have H := HA.out
   clear HA
   simp only [rad.l0] at H
   by_cases c4 : x7_1 < (l0.length : Int)
   ·
    rw [if_pos c4] at H
    have c4b0 : decide (x7_1 < (l0.length : Int)) = true := decide_eq_true c4
    clear c4
    by_cases c5 : 0 ≤ x7_1
    ·
     rw [if_pos c5] at H
     have c5b0 : decide (0 ≤ x7_1) = true := decide_eq_true c5
     clear c5
     by_cases c6 : ((qae l0 x7_1).f0) = a1
     ·
      rw [if_pos c6] at H
      have c6b0 : (((qae l0 x7_1).f0) == a1) = true := beq_iff_eq.mpr c6
      have c6b1 : (((qae l0 x7_1).f0) != a1) = false := bne_eq_false_iff_eq.mpr c6
      clear c6
      by_cases c7 : a2 < 0
      ·
       rw [if_pos c7] at H
       have c7b0 : decide (a2 < 0) = true := decide_eq_true c7
       clear c7
       obtain rfl := Option.some.inj H
       have p121 : 0 ≤ (x7_1 : Int) := of_decide_eq_true (by first | (with_reducible assumption) | assumption)
       have q121 : x7_1 < (l0.length : Int) := of_decide_eq_true (by first | (with_reducible assumption) | assumption)
       obtain ⟨ad121, e121, hx121_0, hx121_1, hx121_2, hx121_3, hx121_4, hx121_5⟩ := at_T57 HR0.out x7_1 p121 q121
       cases e121
       replace p121 := eq_true p121
       replace q121 := eq_true q121
       go_wp2
       go_ret
       exact ⟨by first | rfl | (simp; done) | (simp [*]; done), by repeat (first | exact Drawn0.refl _ | apply Drawn0.step)⟩
      ·
       rw [if_neg c7] at H
       have c7b0 : decide (a2 < 0) = false := decide_eq_false c7
       clear c7
       by_cases c8 : ((qae l0 x7_1).f1.f1) = a2
       ·
        rw [if_pos c8] at H
        have c8b0 : (((qae l0 x7_1).f1.f1) == a2) = true := beq_iff_eq.mpr c8
        have c8b1 : (((qae l0 x7_1).f1.f1) != a2) = false := bne_eq_false_iff_eq.mpr c8
        clear c8
        obtain rfl := Option.some.inj H
        have p121 : 0 ≤ (x7_1 : Int) := of_decide_eq_true (by first | (with_reducible assumption) | assumption)
        have q121 : x7_1 < (l0.length : Int) := of_decide_eq_true (by first | (with_reducible assumption) | assumption)
        obtain ⟨ad121, e121, hx121_0, hx121_1, hx121_2, hx121_3, hx121_4, hx121_5⟩ := at_T57 HR0.out x7_1 p121 q121
        cases e121
        replace p121 := eq_true p121
        replace q121 := eq_true q121
        have p122 : 0 ≤ (x7_1 : Int) := of_decide_eq_true (by first | (with_reducible assumption) | assumption)
        have q122 : x7_1 < (l0.length : Int) := of_decide_eq_true (by first | (with_reducible assumption) | assumption)
        obtain ⟨ad122, e122, hx122_0, hx122_1, hx122_2, hx122_3, hx122_4, hx122_5⟩ := at_T57 HR0.out x7_1 p122 q122
        obtain rfl : ad121 = ad122 := (by injection e122)
        replace p122 := eq_true p122
        replace q122 := eq_true q122
        go_wp2
        go_ret
        exact ⟨by first | rfl | (simp; done) | (simp [*]; done), by repeat (first | exact Drawn0.refl _ | apply Drawn0.step)⟩
       ·
        rw [if_neg c8] at H
        have c8b0 : (((qae l0 x7_1).f1.f1) == a2) = false := beq_eq_false_iff_ne.mpr c8
        have c8b1 : (((qae l0 x7_1).f1.f1) != a2) = true := bne_iff_ne.mpr c8
        have H' := Aside0.mk H
        clear H
        have p121 : 0 ≤ (x7_1 : Int) := of_decide_eq_true (by first | (with_reducible assumption) | assumption)
        have q121 : x7_1 < (l0.length : Int) := of_decide_eq_true (by first | (with_reducible assumption) | assumption)
        obtain ⟨ad121, e121, hx121_0, hx121_1, hx121_2, hx121_3, hx121_4, hx121_5⟩ := at_T57 HR0.out x7_1 p121 q121
        cases e121
        replace p121 := eq_true p121
        replace q121 := eq_true q121
        have p122 : 0 ≤ (x7_1 : Int) := of_decide_eq_true (by first | (with_reducible assumption) | assumption)
        have q122 : x7_1 < (l0.length : Int) := of_decide_eq_true (by first | (with_reducible assumption) | assumption)
        obtain ⟨ad122, e122, hx122_0, hx122_1, hx122_2, hx122_3, hx122_4, hx122_5⟩ := at_T57 HR0.out x7_1 p122 q122
        obtain rfl : ad121 = ad122 := (by injection e122)
        replace p122 := eq_true p122
        replace q122 := eq_true q122
        go_wp2
        go_roundg k1
        case measure => have := HK1.out; omega
        case rel => exact ⟨(wrap64 (x7_1 + 1)), (by first | rfl | (simp; done) | (simp [*]; done)), H', ⟨by have := HK1.out; omega⟩, by repeat (first | exact Drawn0.refl _ | apply Drawn0.step)⟩
     ·
      rw [if_neg c6] at H
      have c6b0 : (((qae l0 x7_1).f0) == a1) = false := beq_eq_false_iff_ne.mpr c6
      have c6b1 : (((qae l0 x7_1).f0) != a1) = true := bne_iff_ne.mpr c6
      have H' := Aside0.mk H
      clear H
      have p121 : 0 ≤ (x7_1 : Int) := of_decide_eq_true (by first | (with_reducible assumption) | assumption)
      have q121 : x7_1 < (l0.length : Int) := of_decide_eq_true (by first | (with_reducible assumption) | assumption)
      obtain ⟨ad121, e121, hx121_0, hx121_1, hx121_2, hx121_3, hx121_4, hx121_5⟩ := at_T57 HR0.out x7_1 p121 q121
      cases e121
      replace p121 := eq_true p121
      replace q121 := eq_true q121
      go_wp2
      go_roundg k1
      case measure => have := HK1.out; omega
      case rel => exact ⟨(wrap64 (x7_1 + 1)), (by first | rfl | (simp; done) | (simp [*]; done)), H', ⟨by have := HK1.out; omega⟩, by repeat (first | exact Drawn0.refl _ | apply Drawn0.step)⟩
    ·
     rw [if_neg c5] at H
     exact absurd H (by simp)
   ·
    rw [if_neg c4] at H
    have c4b0 : decide (x7_1 < (l0.length : Int)) = false := decide_eq_false c4
    clear c4
    obtain rfl := Option.some.inj H
    go_wp2
    go_ret
    exact ⟨by first | rfl | (simp; done) | (simp [*]; done), by repeat (first | exact Drawn0.refl _ | apply Drawn0.step)⟩
end Go.Proofs.YtejbpnhondpnfaaGreat.PJob
