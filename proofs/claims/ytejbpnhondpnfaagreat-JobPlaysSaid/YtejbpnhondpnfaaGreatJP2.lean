/- JobPlays: the row and what it needs, part 2. -/
import Derived.Test.YtejbpnhondpnfaaGreatProg
import Derived.Below
import Derived.Deep.Draws
import Derived.Deep.AppendLies
import Derived.Maps.AppendAt
import Derived.OwnWalk
import Derived.Laws.BytesArg
import Derived.Laws.MakeOwn
import Derived.Laws.OwnMore
import Derived.Deep.OwnRows
import Derived.Tactics
import Derived.Lib.ConvBytes
import Derived.Laws.Slices
import Derived.WalkKit
import Derived.KernelRfl
import Derived.RowKit3
import Derived.Deep.LoopGhost
import Derived.Deep.QuietTactic
import Derived.BigQuiet
import Derived.WideLaws
import Derived.Deep.DeepCutAuto
import Derived.Deep.CutBlock
import Derived.Deep.RegionHeld3
import Derived.Laws.Rows
import Derived.Lib.AppendStr
import Derived.ArgAppend
import Derived.Laws.IdiomCopy
import Derived.OrdersHeld
import Derived.Laws.BitsLemmas
import Derived.RowKit
import Derived.Test.YtejbpnhondpnfaaGreatJP1
import Derived.OpenShut
import Derived.ChangeArms
import Derived.Deep.Slices
import Derived.ProofKit
import Derived.WalkSpells
import Derived.WalkLawsBesides
import Derived.Lib.Hide
import Derived.Deep.RegionLaw
import Derived.Deep.AppendSrc
import Derived.Lib.Walk
import Derived.Lib.SliceRun
import Ieee.Arith
import Derived.Laws.ComplexArith
import Derived.Test.YtejbpnhondpnfaaGreatRows
import Derived.Outline
import Derived.Shelf.Strings.Builder1
import Derived.Shelf.Strings.Builder2
import Derived.Shelf.Strings.OnBuilder
import Derived.Shelf.Small.Strs
import Derived.Shelf.Small.Wraps
import Derived.Shelf.Strings.BuilderF
import Derived.Shelf.Strings.BuilderK
import Derived.Shelf.Strings.Builder2Cap
import Derived.Shelf.Strings.Search1
import Derived.Shelf.Strings.Search2
import Derived.Shelf.Strings.Search3
import Derived.Shelf.Strings.Cut
import Derived.Shelf.LaysM
import Derived.Shelf.Strings.Shaped
import Derived.Shelf.GgClosure.StringsIndexFunc
import Derived.Ground.GgwProg
import Derived.Shelf.GgClosure.StringsIndexFuncTop
import Derived.Shelf.GgClosure.StringsRunes
import Derived.Shelf.Strings.FieldsFuncAny
import Derived.Shelf.Strings.FuncGrows
import Derived.Shelf.Strings.FieldsFuncGrows
import Derived.Shelf.Strings.BuilderCap
import Derived.Shelf.Slices.Turned
import Derived.Ground.Names2Prog
import Derived.Shelf.Slices.SearchI
import Derived.ScopeJumps
import Derived.StillTailTactics
set_option linter.unusedSimpArgs false
set_option linter.unusedVariables false
namespace Go.Proofs.YtejbpnhondpnfaaGreat.PJob
open Go.RowKit Go.Proofs.YtejbpnhondpnfaaGreatW.PrintWords Go.Proofs.YtejbpnhondpnfaaGreatW.PrintLast Go.Proofs.YtejbpnhondpnfaaGreatW.PrintMore
attribute [local go_sem] qaz qbe
theorem info3 : (Tryz.prog.info? 3).map (fun i => (i.zero, i.size, i.bytes)) = some (some (.int .i64 0), 1, 8) := by kernel_rfl
theorem info114 : (Tryz.prog.info? 114).map (fun i => (i.zero, i.size, i.bytes)) = some (some (.agg #[(.int .i64 0), (.int .i64 0), (.int .i64 0), (.string ⟨#[]⟩), (.int .i64 0), (.int .i64 0)]), 6, 56) := by kernel_rfl
structure S43 where
 f0 : Int
 f1 : Int
def z43 : S43 := ⟨(0 : Int), (0 : Int)⟩
def k43 : Kd S43 := Kd.iso (Kd.pair (Kd.int .i64) (Kd.int .i64)) (fun x : S43 => (x.f0, x.f1))
theorem k43_open {w : World} {x : S43} {cs : List Value} (h : k43.K w x cs) : cs = [.int .i64 x.f0, .int .i64 x.f1] := by
 obtain ⟨_, _, rfl, rfl, rfl⟩ := h
 exact rfl
theorem k43_mk (w : World) (x : S43)  : k43.K w x [.int .i64 x.f0, .int .i64 x.f1] := ⟨[.int .i64 x.f0], [.int .i64 x.f1], rfl, rfl, rfl⟩
theorem k43_mkM (w : World) (base : Nat) (ok : Nat → Prop) (x : S43)  : k43.M w base ok x [.int .i64 x.f0, .int .i64 x.f1] := ⟨[.int .i64 x.f0], [.int .i64 x.f1], rfl, rfl, rfl⟩
structure S45 where
 f0 : Int
 f1 : Int
 f2 : ByteArray
 f3 : S43
def z45 : S45 := ⟨(0 : Int), (0 : Int), (⟨#[]⟩ : ByteArray), z43⟩
def k45 : Kd S45 := Kd.iso (Kd.pair (Kd.int .i64) (Kd.pair (Kd.int .i64) (Kd.pair Kd.string k43))) (fun x : S45 => (x.f0, x.f1, x.f2, x.f3))
theorem k45_open {w : World} {x : S45} {cs : List Value} (h : k45.K w x cs) : cs = [.int .i64 x.f0, .int .i64 x.f1, .string x.f2, .int .i64 x.f3.f0, .int .i64 x.f3.f1] := by
 obtain ⟨_, _, rfl, rfl, ⟨_, _, rfl, rfl, ⟨_, _, rfl, rfl, s3⟩⟩⟩ := h
 obtain rfl := k43_open s3
 exact rfl
theorem k45_mk (w : World) (x : S45)  : k45.K w x [.int .i64 x.f0, .int .i64 x.f1, .string x.f2, .int .i64 x.f3.f0, .int .i64 x.f3.f1] := ⟨[.int .i64 x.f0], [.int .i64 x.f1, .string x.f2, .int .i64 x.f3.f0, .int .i64 x.f3.f1], rfl, rfl, ⟨[.int .i64 x.f1], [.string x.f2, .int .i64 x.f3.f0, .int .i64 x.f3.f1], rfl, rfl, ⟨[.string x.f2], [.int .i64 x.f3.f0, .int .i64 x.f3.f1], rfl, rfl, (k43_mk w x.f3 )⟩⟩⟩
theorem k45_mkM (w : World) (base : Nat) (ok : Nat → Prop) (x : S45)  : k45.M w base ok x [.int .i64 x.f0, .int .i64 x.f1, .string x.f2, .int .i64 x.f3.f0, .int .i64 x.f3.f1] := ⟨[.int .i64 x.f0], [.int .i64 x.f1, .string x.f2, .int .i64 x.f3.f0, .int .i64 x.f3.f1], rfl, rfl, ⟨[.int .i64 x.f1], [.string x.f2, .int .i64 x.f3.f0, .int .i64 x.f3.f1], rfl, rfl, ⟨[.string x.f2], [.int .i64 x.f3.f0, .int .i64 x.f3.f1], rfl, rfl, (k43_mkM w base ok x.f3 )⟩⟩⟩
structure S57 where
 f0 : Int
 f1 : S45
def z57 : S57 := ⟨(0 : Int), z45⟩
def k57 : Kd S57 := Kd.iso (Kd.pair (Kd.int .i64) k45) (fun x : S57 => (x.f0, x.f1))
theorem k57_open {w : World} {x : S57} {cs : List Value} (h : k57.K w x cs) : cs = [.int .i64 x.f0, .int .i64 x.f1.f0, .int .i64 x.f1.f1, .string x.f1.f2, .int .i64 x.f1.f3.f0, .int .i64 x.f1.f3.f1] := by
 obtain ⟨_, _, rfl, rfl, s1⟩ := h
 obtain rfl := k45_open s1
 exact rfl
theorem k57_mk (w : World) (x : S57)  : k57.K w x [.int .i64 x.f0, .int .i64 x.f1.f0, .int .i64 x.f1.f1, .string x.f1.f2, .int .i64 x.f1.f3.f0, .int .i64 x.f1.f3.f1] := ⟨[.int .i64 x.f0], [.int .i64 x.f1.f0, .int .i64 x.f1.f1, .string x.f1.f2, .int .i64 x.f1.f3.f0, .int .i64 x.f1.f3.f1], rfl, rfl, (k45_mk w x.f1 )⟩
def qae (xs : List S57) (i : Int) : S57 := xs.getD i.toNat z57
theorem at_T57 {w : World} {A : Option Addr} {n : Nat} {xs : List S57} (h : Kd.C k57 w A n xs) (i : Int) (h0 : 0 ≤ i) (h1 : i < n) : ∃ ad , A = some ad ∧ w.cell? (ad.add (i.toNat * 6)) = some (.int .i64 (qae xs i).f0) ∧ w.cell? ⟨(ad.add (i.toNat * 6)).block, (ad.add (i.toNat * 6)).off + 1, none⟩ = some (.int .i64 (qae xs i).f1.f0) ∧ w.cell? ⟨(ad.add (i.toNat * 6)).block, (ad.add (i.toNat * 6)).off + 2, none⟩ = some (.int .i64 (qae xs i).f1.f1) ∧ w.cell? ⟨(ad.add (i.toNat * 6)).block, (ad.add (i.toNat * 6)).off + 3, none⟩ = some (.string (qae xs i).f1.f2) ∧ w.cell? ⟨(ad.add (i.toNat * 6)).block, (ad.add (i.toNat * 6)).off + 4, none⟩ = some (.int .i64 (qae xs i).f1.f3.f0) ∧ w.cell? ⟨(ad.add (i.toNat * 6)).block, (ad.add (i.toNat * 6)).off + 5, none⟩ = some (.int .i64 (qae xs i).f1.f3.f1) := by
 obtain ⟨ad, c, e, _, hK, hc0⟩ := Kd.C_get h z57 i h0 h1
 have hc : ∀ j u, c[j]? = some u → w.cell? (ad.add (i.toNat * 6 + j)) = some u := hc0
 obtain rfl := k57_open hK
 exact ⟨ad, e, hc 0 _ rfl, by rw [← add_field _ _ 1 (by omega)]; exact hc 1 _ rfl, by rw [← add_field _ _ 2 (by omega)]; exact hc 2 _ rfl, by rw [← add_field _ _ 3 (by omega)]; exact hc 3 _ rfl, by rw [← add_field _ _ 4 (by omega)]; exact hc 4 _ rfl, by rw [← add_field _ _ 5 (by omega)]; exact hc 5 _ rfl⟩
structure S196 where
 f0 : ByteArray
 f1 : Int
def z196 : S196 := ⟨(⟨#[]⟩ : ByteArray), (0 : Int)⟩
def k196 : Kd S196 := Kd.iso (Kd.pair Kd.string (Kd.int .i64)) (fun x : S196 => (x.f0, x.f1))
theorem k196_open {w : World} {x : S196} {cs : List Value} (h : k196.K w x cs) : cs = [.string x.f0, .int .i64 x.f1] := by
 obtain ⟨_, _, rfl, rfl, rfl⟩ := h
 exact rfl
theorem k196_mkM (w : World) (base : Nat) (ok : Nat → Prop) (x : S196)  : k196.M w base ok x [.string x.f0, .int .i64 x.f1] := ⟨[.string x.f0], [.int .i64 x.f1], rfl, rfl, rfl⟩
def rd_T196 (xs : List S196) (i : Int) : S196 := xs.getD i.toNat z196
theorem at_T196 {w : World} {A : Option Addr} {n : Nat} {xs : List S196} (h : Kd.C k196 w A n xs) (i : Int) (h0 : 0 ≤ i) (h1 : i < n) : ∃ ad , A = some ad ∧ w.cell? (ad.add (i.toNat * 2)) = some (.string (rd_T196 xs i).f0) ∧ w.cell? ⟨(ad.add (i.toNat * 2)).block, (ad.add (i.toNat * 2)).off + 1, none⟩ = some (.int .i64 (rd_T196 xs i).f1) := by
 obtain ⟨ad, c, e, _, hK, hc0⟩ := Kd.C_get h z196 i h0 h1
 have hc : ∀ j u, c[j]? = some u → w.cell? (ad.add (i.toNat * 2 + j)) = some u := hc0
 obtain rfl := k196_open hK
 exact ⟨ad, e, hc 0 _ rfl, by rw [← add_field _ _ 1 (by omega)]; exact hc 1 _ rfl⟩
structure S114 where
 f0 : Int
 f1 : S45
def z114 : S114 := ⟨(0 : Int), z45⟩
def k114 : Kd S114 := Kd.iso (Kd.pair (Kd.int .i64) k45) (fun x : S114 => (x.f0, x.f1))
theorem k114_open {w : World} {x : S114} {cs : List Value} (h : k114.K w x cs) : cs = [.int .i64 x.f0, .int .i64 x.f1.f0, .int .i64 x.f1.f1, .string x.f1.f2, .int .i64 x.f1.f3.f0, .int .i64 x.f1.f3.f1] := by
 obtain ⟨_, _, rfl, rfl, s1⟩ := h
 obtain rfl := k45_open s1
 exact rfl
theorem k114_mkM (w : World) (base : Nat) (ok : Nat → Prop) (x : S114)  : k114.M w base ok x [.int .i64 x.f0, .int .i64 x.f1.f0, .int .i64 x.f1.f1, .string x.f1.f2, .int .i64 x.f1.f3.f0, .int .i64 x.f1.f3.f1] := ⟨[.int .i64 x.f0], [.int .i64 x.f1.f0, .int .i64 x.f1.f1, .string x.f1.f2, .int .i64 x.f1.f3.f0, .int .i64 x.f1.f3.f1], rfl, rfl, (k45_mkM w base ok x.f1 )⟩
def qaq (xs : List S114) (i : Int) : S114 := xs.getD i.toNat z114
theorem at_T114 {w : World} {A : Option Addr} {n : Nat} {xs : List S114} (h : Kd.C k114 w A n xs) (i : Int) (h0 : 0 ≤ i) (h1 : i < n) : ∃ ad , A = some ad ∧ w.cell? (ad.add (i.toNat * 6)) = some (.int .i64 (qaq xs i).f0) ∧ w.cell? ⟨(ad.add (i.toNat * 6)).block, (ad.add (i.toNat * 6)).off + 1, none⟩ = some (.int .i64 (qaq xs i).f1.f0) ∧ w.cell? ⟨(ad.add (i.toNat * 6)).block, (ad.add (i.toNat * 6)).off + 2, none⟩ = some (.int .i64 (qaq xs i).f1.f1) ∧ w.cell? ⟨(ad.add (i.toNat * 6)).block, (ad.add (i.toNat * 6)).off + 3, none⟩ = some (.string (qaq xs i).f1.f2) ∧ w.cell? ⟨(ad.add (i.toNat * 6)).block, (ad.add (i.toNat * 6)).off + 4, none⟩ = some (.int .i64 (qaq xs i).f1.f3.f0) ∧ w.cell? ⟨(ad.add (i.toNat * 6)).block, (ad.add (i.toNat * 6)).off + 5, none⟩ = some (.int .i64 (qaq xs i).f1.f3.f1) := by
 obtain ⟨ad, c, e, _, hK, hc0⟩ := Kd.C_get h z114 i h0 h1
 have hc : ∀ j u, c[j]? = some u → w.cell? (ad.add (i.toNat * 6 + j)) = some u := hc0
 obtain rfl := k114_open hK
 exact ⟨ad, e, hc 0 _ rfl, by rw [← add_field _ _ 1 (by omega)]; exact hc 1 _ rfl, by rw [← add_field _ _ 2 (by omega)]; exact hc 2 _ rfl, by rw [← add_field _ _ 3 (by omega)]; exact hc 3 _ rfl, by rw [← add_field _ _ 4 (by omega)]; exact hc 4 _ rfl, by rw [← add_field _ _ 5 (by omega)]; exact hc 5 _ rfl⟩
end Go.Proofs.YtejbpnhondpnfaaGreat.PJob
namespace Go.Proofs.YtejbpnhondpnfaaGreat.PJob
open Go.RowKit Go.Deep Go.ChangeShapes Go.WideShapes Go.ChangeAt Go.Proofs.YtejbpnhondpnfaaGreatW.PrintWords Go.Proofs.YtejbpnhondpnfaaGreatW.PrintLast Go.Proofs.YtejbpnhondpnfaaGreatW.PrintMore
set_option maxRecDepth 100000
theorem oj_one {cs : List Value} {i : Nat} {v : Value} (h : (cs.drop i).take 1 = [v]) : cs[i]? = some v := by
 have := congrArg (fun l => l[0]?) h
 simpa [List.getElem?_take] using this
theorem oj_in {cs : List Value} {a n o : Nat} {v : Value} (ho : o < n) (h : ((cs.drop a).take n)[o]? = some v) : cs[a + o]? = some v := by
 rw [List.getElem?_take, if_pos ho, List.getElem?_drop] at h
 exact h
theorem oj_add (a : Addr) (x y : Nat) : (a.add x).add y = a.add (x + y) := by
 unfold Addr.add
 by_cases h1 : x = 0
 ·
  subst h1; simp
 ·
  by_cases h2 : y = 0
  ·
   subst h2; simp
  ·
   rw [if_neg h2, if_neg h1, if_neg (by omega)]
   simp only [Nat.add_assoc]
section
variable {H : Type} {enc : TypeId × Value → H} {w : World} {base : Nat} {spare : Nat → Bool} {held : Bool}
theorem oj_val {n : Nat} {cs : List Value} {x : DataW H × List MemPlace} (h : DataW.trod enc Tryz.prog w base spare held n 45 cs = some x) :
  ∃ z : S45, cs[0]? = some (.int .i64 z.f0) ∧ cs[1]? = some (.int .i64 z.f1) ∧ cs[2]? = some (.string z.f2) ∧ cs[3]? = some (.int .i64 z.f3.f0) ∧ cs[4]? = some (.int .i64 z.f3.f1) := by
 have c23 : Tryz.prog.cellsOf 43 = 2 := by kernel_rfl
 have c3 : Tryz.prog.cellsOf 3 = 1 := by kernel_rfl
 have c9 : Tryz.prog.cellsOf 9 = 1 := by kernel_rfl
 obtain ⟨xs, m, _, _, _, hlen, hg⟩ := DataW.trod_struct Tryz.underlying45 h
 match xs, hlen with
 | [y0, y1, y2, y3], _ =>
  have g0 : DataW.trod enc Tryz.prog w base spare held m 3 ((cs.drop 0).take (Tryz.prog.cellsOf 3)) = some y0 := hg 0 _ rfl
  have g1 : DataW.trod enc Tryz.prog w base spare held m 3 ((cs.drop 1).take (Tryz.prog.cellsOf 3)) = some y1 := hg 1 _ rfl
  have g2 : DataW.trod enc Tryz.prog w base spare held m 9 ((cs.drop 2).take (Tryz.prog.cellsOf 9)) = some y2 := hg 2 _ rfl
  have g3 : DataW.trod enc Tryz.prog w base spare held m 43 ((cs.drop 3).take (Tryz.prog.cellsOf 43)) = some y3 := hg 3 _ rfl
  rw [c3] at g0 g1
  rw [c9] at g2
  rw [c23] at g3
  obtain ⟨n0, e0, _⟩ := DataW.trod_int Tryz.underlying3 g0
  obtain ⟨n1, e1, _⟩ := DataW.trod_int Tryz.underlying3 g1
  obtain ⟨s, e2, _⟩ := DataW.trod_string Tryz.underlying9 g2
  obtain ⟨zs, m2, _, _, _, hlen2, hg2⟩ := DataW.trod_struct Tryz.underlying43 g3
  match zs, hlen2 with
  | [z0, z1], _ =>
   have k0 : DataW.trod enc Tryz.prog w base spare held m2 3 ((((cs.drop 3).take 2).drop 0).take (Tryz.prog.cellsOf 3)) = some z0 := hg2 0 _ rfl
   have k1 : DataW.trod enc Tryz.prog w base spare held m2 3 ((((cs.drop 3).take 2).drop 1).take (Tryz.prog.cellsOf 3)) = some z1 := hg2 1 _ rfl
   rw [c3] at k0 k1
   obtain ⟨n3, e3, _⟩ := DataW.trod_int Tryz.underlying3 k0
   obtain ⟨n4, e4, _⟩ := DataW.trod_int Tryz.underlying3 k1
   exact ⟨⟨n0, n1, s, ⟨n3, n4⟩⟩, oj_one e0, oj_one e1, oj_one e2, oj_in (by decide) (oj_one e3), oj_in (by decide) (oj_one e4)⟩
theorem oj_node {n : Nat} {cs : List Value} {x : DataW H × List MemPlace} (h : DataW.trod enc Tryz.prog w base spare held n 57 cs = some x) :
  ∃ z : S57, cs[0]? = some (.int .i64 z.f0) ∧ cs[1]? = some (.int .i64 z.f1.f0) ∧ cs[2]? = some (.int .i64 z.f1.f1) ∧ cs[3]? = some (.string z.f1.f2) ∧ cs[4]? = some (.int .i64 z.f1.f3.f0) ∧ cs[5]? = some (.int .i64 z.f1.f3.f1) := by
 have c25 : Tryz.prog.cellsOf 45 = 5 := by kernel_rfl
 have c3 : Tryz.prog.cellsOf 3 = 1 := by kernel_rfl
 obtain ⟨xs, m, _, _, _, hlen, hg⟩ := DataW.trod_struct Tryz.underlying57 h
 match xs, hlen with
 | [y0, y1], _ =>
  have g0 : DataW.trod enc Tryz.prog w base spare held m 3 ((cs.drop 0).take (Tryz.prog.cellsOf 3)) = some y0 := hg 0 _ rfl
  have g1 : DataW.trod enc Tryz.prog w base spare held m 45 ((cs.drop 1).take (Tryz.prog.cellsOf 45)) = some y1 := hg 1 _ rfl
  rw [c3] at g0
  rw [c25] at g1
  obtain ⟨n0, e0, _⟩ := DataW.trod_int Tryz.underlying3 g0
  obtain ⟨z, v0, v1, v2, v3, v4⟩ := oj_val g1
  exact ⟨⟨n0, z⟩, oj_one e0, oj_in (by decide) v0, oj_in (by decide) v1, oj_in (by decide) v2, oj_in (by decide) v3, oj_in (by decide) v4⟩
theorem oj_nodes {n : Nat} {cs : List Value} {x : DataW H × List MemPlace} (h : DataW.trod enc Tryz.prog w base spare held n 22 cs = some x) :
  ∃ (A : Option Addr) (l : List S57) (c : Nat), cs = [.slice A l.length c] ∧ Kd.C k57 w A l.length l ∧ l.length ≤ c := by
 have c57 : Tryz.prog.cellsOf 57 = 6 := by kernel_rfl
 rcases open_slice Tryz.underlying22 h with ⟨hcs, _⟩ | ⟨a, len, cap, m, n', D, Pl, hcs, _, hl, hm, hmm, _, hel⟩
 ·
  exact ⟨none, [], 0, hcs, Kd.C_nil k57 w, Nat.le_refl _⟩
 ·
  rw [c57] at hel
  have hlen : len ≤ m := by rw [hmm]; split <;> omega
  have each : ∀ i, i < len → ∃ z : S57, ∀ j u, ([.int .i64 z.f0, .int .i64 z.f1.f0, .int .i64 z.f1.f1, .string z.f1.f2, .int .i64 z.f1.f3.f0, .int .i64 z.f1.f3.f1] : List Value)[j]? = some u → w.cell? (a.add (i * 6 + j)) = some u := by
   intro i hi
   obtain ⟨cs', hc, ht⟩ := hel i (by omega)
   obtain ⟨_, hcl, hat⟩ := World.cells?_some hc
   obtain ⟨z, u0, u1, u2, u3, u4, u5⟩ := oj_node ht
   have adds : ∀ j, (a.add (i * 6)).add j = a.add (i * 6 + j) := fun j => oj_add a (i * 6) j
   refine ⟨z, fun j u hu => ?_⟩
   rw [← adds]
   match j, hu with
   | 0, hu => exact (hat 0 (by omega)).trans (u0.trans hu)
   | 1, hu => exact (hat 1 (by omega)).trans (u1.trans hu)
   | 2, hu => exact (hat 2 (by omega)).trans (u2.trans hu)
   | 3, hu => exact (hat 3 (by omega)).trans (u3.trans hu)
   | 4, hu => exact (hat 4 (by omega)).trans (u4.trans hu)
   | 5, hu => exact (hat 5 (by omega)).trans (u5.trans hu)
  obtain ⟨f, hf⟩ : ∃ f : Nat → S57, ∀ i, i < len → ∀ j u, ([.int .i64 (f i).f0, .int .i64 (f i).f1.f0, .int .i64 (f i).f1.f1, .string (f i).f1.f2, .int .i64 (f i).f1.f3.f0, .int .i64 (f i).f1.f3.f1] : List Value)[j]? = some u → w.cell? (a.add (i * 6 + j)) = some u :=
   ⟨fun i => if hi : i < len then Classical.choose (each i hi) else z57, fun i hi => by
    have := Classical.choose_spec (each i hi)
    simpa [hi] using this⟩
  have hll : ((List.range len).map f).length = len := by simp
  refine ⟨some a, (List.range len).map f, cap, by rw [hll]; exact hcs, ?_, by rw [hll]; exact hl⟩
  refine ⟨rfl, by rw [hll]; unfold maxLen at hm; omega, fun _ => ⟨a, rfl, fun j z hz => ?_⟩⟩
  have hj : j < len := by have := (List.getElem?_eq_some_iff.1 hz).1; simpa using this
  rw [List.getElem?_map, List.getElem?_range hj] at hz
  simp at hz
  subst hz
  exact ⟨_, rfl, k57_mk w (f j), fun i u hu => hf j hj i u hu⟩
theorem oj_job {v : Value} {d : DataW H} {p : List MemPlace} (hv : ∃ cs, v = .agg cs ∧ cs.size = Tryz.prog.cellsOf 24) (h : DataW.Trod enc Tryz.prog w base spare held 24 v d p) :
  ∃ (nm : ByteArray) (ta pa k n fu : Int) (A6 : Option Addr) (l6 : List S57) (c6 : Nat) (A7 : Option Addr) (l7 : List S57) (c7 : Nat) (A8 : Option Addr) (l8 : List S57) (c8 : Nat) (fo : ByteArray) (cb : Bool),
   v = .agg #[.string nm, .int .i64 ta, .int .i64 pa, .int .i64 k, .int .i64 n, .int .i64 fu, .slice A6 l6.length c6, .slice A7 l7.length c7, .slice A8 l8.length c8, .string fo, .bool cb] ∧
   Kd.C k57 w A6 l6.length l6 ∧ l6.length ≤ c6 ∧ Kd.C k57 w A7 l7.length l7 ∧ l7.length ≤ c7 ∧ Kd.C k57 w A8 l8.length l8 ∧ l8.length ≤ c8 := by
 obtain ⟨fuel, hf⟩ := h
 obtain ⟨cs, rfl, hcs⟩ := hv
 have c24 : Tryz.prog.cellsOf 24 = 11 := by kernel_rfl
 have c22 : Tryz.prog.cellsOf 22 = 1 := by kernel_rfl
 have c3 : Tryz.prog.cellsOf 3 = 1 := by kernel_rfl
 have c4 : Tryz.prog.cellsOf 4 = 1 := by kernel_rfl
 have c9 : Tryz.prog.cellsOf 9 = 1 := by kernel_rfl
 rw [c24] at hcs
 obtain ⟨xs, m, _, _, _, hlen, hg⟩ := DataW.trod_struct Tryz.underlying24 hf
 match xs, hlen with
 | [y0, y1, y2, y3, y4, y5, y6, y7, y8, y9, y10], _ =>
  have g0 : DataW.trod enc Tryz.prog w base spare held m 9 ((cs.toList.drop 0).take (Tryz.prog.cellsOf 9)) = some y0 := hg 0 _ rfl
  have g1 : DataW.trod enc Tryz.prog w base spare held m 3 ((cs.toList.drop 1).take (Tryz.prog.cellsOf 3)) = some y1 := hg 1 _ rfl
  have g2 : DataW.trod enc Tryz.prog w base spare held m 3 ((cs.toList.drop 2).take (Tryz.prog.cellsOf 3)) = some y2 := hg 2 _ rfl
  have g3 : DataW.trod enc Tryz.prog w base spare held m 3 ((cs.toList.drop 3).take (Tryz.prog.cellsOf 3)) = some y3 := hg 3 _ rfl
  have g4 : DataW.trod enc Tryz.prog w base spare held m 3 ((cs.toList.drop 4).take (Tryz.prog.cellsOf 3)) = some y4 := hg 4 _ rfl
  have g5 : DataW.trod enc Tryz.prog w base spare held m 3 ((cs.toList.drop 5).take (Tryz.prog.cellsOf 3)) = some y5 := hg 5 _ rfl
  have g6 : DataW.trod enc Tryz.prog w base spare held m 22 ((cs.toList.drop 6).take (Tryz.prog.cellsOf 22)) = some y6 := hg 6 _ rfl
  have g7 : DataW.trod enc Tryz.prog w base spare held m 22 ((cs.toList.drop 7).take (Tryz.prog.cellsOf 22)) = some y7 := hg 7 _ rfl
  have g8 : DataW.trod enc Tryz.prog w base spare held m 22 ((cs.toList.drop 8).take (Tryz.prog.cellsOf 22)) = some y8 := hg 8 _ rfl
  have g9 : DataW.trod enc Tryz.prog w base spare held m 9 ((cs.toList.drop 9).take (Tryz.prog.cellsOf 9)) = some y9 := hg 9 _ rfl
  have g10 : DataW.trod enc Tryz.prog w base spare held m 4 ((cs.toList.drop 10).take (Tryz.prog.cellsOf 4)) = some y10 := hg 10 _ rfl
  rw [c9] at g0 g9
  rw [c3] at g1 g2 g3 g4 g5
  rw [c22] at g6 g7 g8
  rw [c4] at g10
  obtain ⟨nm, e0, _⟩ := DataW.trod_string Tryz.underlying9 g0
  obtain ⟨ta, e1, _⟩ := DataW.trod_int Tryz.underlying3 g1
  obtain ⟨pa, e2, _⟩ := DataW.trod_int Tryz.underlying3 g2
  obtain ⟨k, e3, _⟩ := DataW.trod_int Tryz.underlying3 g3
  obtain ⟨n, e4, _⟩ := DataW.trod_int Tryz.underlying3 g4
  obtain ⟨fu, e5, _⟩ := DataW.trod_int Tryz.underlying3 g5
  obtain ⟨A6, l6, q6, e6, r6, s6⟩ := oj_nodes g6
  obtain ⟨A7, l7, q7, e7, r7, s7⟩ := oj_nodes g7
  obtain ⟨A8, l8, q8, e8, r8, s8⟩ := oj_nodes g8
  obtain ⟨fo, e9, _⟩ := DataW.trod_string Tryz.underlying9 g9
  obtain ⟨cb, e10, _⟩ := DataW.trod_bool Tryz.underlying4 g10
  refine ⟨nm, ta, pa, k, n, fu, A6, l6, q6, A7, l7, q7, A8, l8, q8, fo, cb, congrArg Value.agg ?_, r6, s6, r7, s7, r8, s8⟩
  obtain ⟨cl⟩ := cs
  match cl, hcs with
  | [x0, x1, x2, x3, x4, x5, x6, x7, x8, x9, x10], _ =>
   have h0 := oj_one e0; have h1 := oj_one e1; have h2 := oj_one e2; have h3 := oj_one e3; have h4 := oj_one e4; have h5 := oj_one e5; have h6 := oj_one e6; have h7 := oj_one e7; have h8 := oj_one e8; have h9 := oj_one e9; have h10 := oj_one e10
   simp at h0 h1 h2 h3 h4 h5 h6 h7 h8 h9 h10
   subst h0 h1 h2 h3 h4 h5 h6 h7 h8 h9 h10
   rfl
end
end Go.Proofs.YtejbpnhondpnfaaGreat.PJob
namespace Go.Proofs.YtejbpnhondpnfaaGreat.PJob
open Go.RowKit Go.Proofs.YtejbpnhondpnfaaGreatW.PrintWords Go.Proofs.YtejbpnhondpnfaaGreatW.PrintLast Go.Proofs.YtejbpnhondpnfaaGreatW.PrintMore
attribute [local go_sem] qaz qbe
def rbf.f  : Option ((List (S196))) := some (([(⟨(⟨#[97, 100, 100]⟩ : ByteArray), 2⟩ : S196), (⟨(⟨#[115, 117, 98]⟩ : ByteArray), 2⟩ : S196), (⟨(⟨#[109, 117, 108]⟩ : ByteArray), 2⟩ : S196), (⟨(⟨#[100, 105, 118]⟩ : ByteArray), 2⟩ : S196), (⟨(⟨#[109, 111, 100]⟩ : ByteArray), 2⟩ : S196), (⟨(⟨#[110, 101, 103]⟩ : ByteArray), 1⟩ : S196), (⟨(⟨#[108, 101, 115, 115]⟩ : ByteArray), 2⟩ : S196), (⟨(⟨#[115, 97, 109, 101]⟩ : ByteArray), 2⟩ : S196), (⟨(⟨#[110, 111, 116]⟩ : ByteArray), 1⟩ : S196), (⟨(⟨#[105, 102]⟩ : ByteArray), 3⟩ : S196), (⟨(⟨#[109, 97, 120]⟩ : ByteArray), 2⟩ : S196), (⟨(⟨#[109, 105, 110]⟩ : ByteArray), 2⟩ : S196), (⟨(⟨#[99, 97, 116]⟩ : ByteArray), 2⟩ : S196), (⟨(⟨#[108, 101, 110]⟩ : ByteArray), 1⟩ : S196), (⟨(⟨#[99, 117, 116]⟩ : ByteArray), 3⟩ : S196), (⟨(⟨#[119, 111, 114, 100]⟩ : ByteArray), 2⟩ : S196), (⟨(⟨#[119, 111, 114, 100, 115]⟩ : ByteArray), 1⟩ : S196), (⟨(⟨#[110, 117, 109]⟩ : ByteArray), 1⟩ : S196), (⟨(⟨#[116, 101, 120, 116]⟩ : ByteArray), 1⟩ : S196), (⟨(⟨#[97, 116]⟩ : ByteArray), 2⟩ : S196), (⟨(⟨#[114, 101]⟩ : ByteArray), 1⟩ : S196), (⟨(⟨#[105, 109]⟩ : ByteArray), 1⟩ : S196), (⟨(⟨#[110, 111, 114, 109]⟩ : ByteArray), 1⟩ : S196), (⟨(⟨#[99, 111, 110, 106]⟩ : ByteArray), 1⟩ : S196), (⟨(⟨#[101, 109, 105, 116]⟩ : ByteArray), 2⟩ : S196), (⟨(⟨#[116, 104, 101, 110]⟩ : ByteArray), 2⟩ : S196), (⟨(⟨#[101, 97, 99, 104]⟩ : ByteArray), 2⟩ : S196), (⟨(⟨#[108, 101, 116]⟩ : ByteArray), 2⟩ : S196)] : List (S196)))
set_option maxHeartbeats 8000000 in
set_option maxRecDepth 100000 in
theorem rbf.calls  (r : List (S196)) (w : World) (h : rbf.f  = some r) :
  Calls Tryz.prog 144 #[] w fun e w' => ∃ v0_ : Value, e = .returned (v0_) ∧ Kd.R k196 196 w' w.heap.size (fun _ => True) v0_ r ∧ Below w.heap.size w w' := by
 have hu196 := Tryz.underlying196
 have HB := Aside0.mk (Below.refl w.heap.size w)
 have H : (some (([(⟨(⟨#[97, 100, 100]⟩ : ByteArray), 2⟩ : S196), (⟨(⟨#[115, 117, 98]⟩ : ByteArray), 2⟩ : S196), (⟨(⟨#[109, 117, 108]⟩ : ByteArray), 2⟩ : S196), (⟨(⟨#[100, 105, 118]⟩ : ByteArray), 2⟩ : S196), (⟨(⟨#[109, 111, 100]⟩ : ByteArray), 2⟩ : S196), (⟨(⟨#[110, 101, 103]⟩ : ByteArray), 1⟩ : S196), (⟨(⟨#[108, 101, 115, 115]⟩ : ByteArray), 2⟩ : S196), (⟨(⟨#[115, 97, 109, 101]⟩ : ByteArray), 2⟩ : S196), (⟨(⟨#[110, 111, 116]⟩ : ByteArray), 1⟩ : S196), (⟨(⟨#[105, 102]⟩ : ByteArray), 3⟩ : S196), (⟨(⟨#[109, 97, 120]⟩ : ByteArray), 2⟩ : S196), (⟨(⟨#[109, 105, 110]⟩ : ByteArray), 2⟩ : S196), (⟨(⟨#[99, 97, 116]⟩ : ByteArray), 2⟩ : S196), (⟨(⟨#[108, 101, 110]⟩ : ByteArray), 1⟩ : S196), (⟨(⟨#[99, 117, 116]⟩ : ByteArray), 3⟩ : S196), (⟨(⟨#[119, 111, 114, 100]⟩ : ByteArray), 2⟩ : S196), (⟨(⟨#[119, 111, 114, 100, 115]⟩ : ByteArray), 1⟩ : S196), (⟨(⟨#[110, 117, 109]⟩ : ByteArray), 1⟩ : S196), (⟨(⟨#[116, 101, 120, 116]⟩ : ByteArray), 1⟩ : S196), (⟨(⟨#[97, 116]⟩ : ByteArray), 2⟩ : S196), (⟨(⟨#[114, 101]⟩ : ByteArray), 1⟩ : S196), (⟨(⟨#[105, 109]⟩ : ByteArray), 1⟩ : S196), (⟨(⟨#[110, 111, 114, 109]⟩ : ByteArray), 1⟩ : S196), (⟨(⟨#[99, 111, 110, 106]⟩ : ByteArray), 1⟩ : S196), (⟨(⟨#[101, 109, 105, 116]⟩ : ByteArray), 2⟩ : S196), (⟨(⟨#[116, 104, 101, 110]⟩ : ByteArray), 2⟩ : S196), (⟨(⟨#[101, 97, 99, 104]⟩ : ByteArray), 2⟩ : S196), (⟨(⟨#[108, 101, 116]⟩ : ByteArray), 2⟩ : S196)] : List (S196)))) = some r := h
 clear h
 obtain ⟨y136, hy136⟩ : ∃ y_ : List (S196), y_ = (([(⟨(⟨#[97, 100, 100]⟩ : ByteArray), 2⟩ : S196), (⟨(⟨#[115, 117, 98]⟩ : ByteArray), 2⟩ : S196), (⟨(⟨#[109, 117, 108]⟩ : ByteArray), 2⟩ : S196), (⟨(⟨#[100, 105, 118]⟩ : ByteArray), 2⟩ : S196), (⟨(⟨#[109, 111, 100]⟩ : ByteArray), 2⟩ : S196), (⟨(⟨#[110, 101, 103]⟩ : ByteArray), 1⟩ : S196), (⟨(⟨#[108, 101, 115, 115]⟩ : ByteArray), 2⟩ : S196), (⟨(⟨#[115, 97, 109, 101]⟩ : ByteArray), 2⟩ : S196), (⟨(⟨#[110, 111, 116]⟩ : ByteArray), 1⟩ : S196), (⟨(⟨#[105, 102]⟩ : ByteArray), 3⟩ : S196), (⟨(⟨#[109, 97, 120]⟩ : ByteArray), 2⟩ : S196), (⟨(⟨#[109, 105, 110]⟩ : ByteArray), 2⟩ : S196), (⟨(⟨#[99, 97, 116]⟩ : ByteArray), 2⟩ : S196), (⟨(⟨#[108, 101, 110]⟩ : ByteArray), 1⟩ : S196), (⟨(⟨#[99, 117, 116]⟩ : ByteArray), 3⟩ : S196), (⟨(⟨#[119, 111, 114, 100]⟩ : ByteArray), 2⟩ : S196), (⟨(⟨#[119, 111, 114, 100, 115]⟩ : ByteArray), 1⟩ : S196), (⟨(⟨#[110, 117, 109]⟩ : ByteArray), 1⟩ : S196), (⟨(⟨#[116, 101, 120, 116]⟩ : ByteArray), 1⟩ : S196), (⟨(⟨#[97, 116]⟩ : ByteArray), 2⟩ : S196), (⟨(⟨#[114, 101]⟩ : ByteArray), 1⟩ : S196), (⟨(⟨#[105, 109]⟩ : ByteArray), 1⟩ : S196), (⟨(⟨#[110, 111, 114, 109]⟩ : ByteArray), 1⟩ : S196), (⟨(⟨#[99, 111, 110, 106]⟩ : ByteArray), 1⟩ : S196), (⟨(⟨#[101, 109, 105, 116]⟩ : ByteArray), 2⟩ : S196), (⟨(⟨#[116, 104, 101, 110]⟩ : ByteArray), 2⟩ : S196), (⟨(⟨#[101, 97, 99, 104]⟩ : ByteArray), 2⟩ : S196), (⟨(⟨#[108, 101, 116]⟩ : ByteArray), 2⟩ : S196)] : List (S196))) := ⟨_, rfl⟩
 replace H : (some y136) = some r := by first | (rw [hy136]; with_reducible exact H) | (have H2_ := (Option.bind_some _ _).symm.trans H; rw [hy136]; with_reducible exact H2_) | (have H2_ := (Option.bind_some _ _).symm.trans H; with_reducible exact H2_) | with_reducible exact H | (rw [hy136]; exact H) | exact H
 have Ny136 := Aside0.mk hy136
 clear hy136
 obtain rfl := Option.some.inj H
 go_enter Tryz.func144, Tryz.ntmps144
 go_wp2_with (first | ((with_reducible refine qav (N := 29) rfl ?_); refine Kd.R_lit k196 _ 196 ?hg (N := 29) ?hd (xs := ([(⟨(⟨#[97, 100, 100]⟩ : ByteArray), 2⟩ : S196), (⟨(⟨#[115, 117, 98]⟩ : ByteArray), 2⟩ : S196), (⟨(⟨#[109, 117, 108]⟩ : ByteArray), 2⟩ : S196), (⟨(⟨#[100, 105, 118]⟩ : ByteArray), 2⟩ : S196), (⟨(⟨#[109, 111, 100]⟩ : ByteArray), 2⟩ : S196), (⟨(⟨#[110, 101, 103]⟩ : ByteArray), 1⟩ : S196), (⟨(⟨#[108, 101, 115, 115]⟩ : ByteArray), 2⟩ : S196), (⟨(⟨#[115, 97, 109, 101]⟩ : ByteArray), 2⟩ : S196), (⟨(⟨#[110, 111, 116]⟩ : ByteArray), 1⟩ : S196), (⟨(⟨#[105, 102]⟩ : ByteArray), 3⟩ : S196), (⟨(⟨#[109, 97, 120]⟩ : ByteArray), 2⟩ : S196), (⟨(⟨#[109, 105, 110]⟩ : ByteArray), 2⟩ : S196), (⟨(⟨#[99, 97, 116]⟩ : ByteArray), 2⟩ : S196), (⟨(⟨#[108, 101, 110]⟩ : ByteArray), 1⟩ : S196), (⟨(⟨#[99, 117, 116]⟩ : ByteArray), 3⟩ : S196), (⟨(⟨#[119, 111, 114, 100]⟩ : ByteArray), 2⟩ : S196), (⟨(⟨#[119, 111, 114, 100, 115]⟩ : ByteArray), 1⟩ : S196), (⟨(⟨#[110, 117, 109]⟩ : ByteArray), 1⟩ : S196), (⟨(⟨#[116, 101, 120, 116]⟩ : ByteArray), 1⟩ : S196), (⟨(⟨#[97, 116]⟩ : ByteArray), 2⟩ : S196), (⟨(⟨#[114, 101]⟩ : ByteArray), 1⟩ : S196), (⟨(⟨#[105, 109]⟩ : ByteArray), 1⟩ : S196), (⟨(⟨#[110, 111, 114, 109]⟩ : ByteArray), 1⟩ : S196), (⟨(⟨#[99, 111, 110, 106]⟩ : ByteArray), 1⟩ : S196), (⟨(⟨#[101, 109, 105, 116]⟩ : ByteArray), 2⟩ : S196), (⟨(⟨#[116, 104, 101, 110]⟩ : ByteArray), 2⟩ : S196), (⟨(⟨#[101, 97, 99, 104]⟩ : ByteArray), 2⟩ : S196), (⟨(⟨#[108, 101, 116]⟩ : ByteArray), 2⟩ : S196)] : List (S196))) (inner := [.string (⟨#[97, 100, 100]⟩ : ByteArray), .int .i64 2, .string (⟨#[115, 117, 98]⟩ : ByteArray), .int .i64 2, .string (⟨#[109, 117, 108]⟩ : ByteArray), .int .i64 2, .string (⟨#[100, 105, 118]⟩ : ByteArray), .int .i64 2, .string (⟨#[109, 111, 100]⟩ : ByteArray), .int .i64 2, .string (⟨#[110, 101, 103]⟩ : ByteArray), .int .i64 1, .string (⟨#[108, 101, 115, 115]⟩ : ByteArray), .int .i64 2, .string (⟨#[115, 97, 109, 101]⟩ : ByteArray), .int .i64 2, .string (⟨#[110, 111, 116]⟩ : ByteArray), .int .i64 1, .string (⟨#[105, 102]⟩ : ByteArray), .int .i64 3, .string (⟨#[109, 97, 120]⟩ : ByteArray), .int .i64 2, .string (⟨#[109, 105, 110]⟩ : ByteArray), .int .i64 2, .string (⟨#[99, 97, 116]⟩ : ByteArray), .int .i64 2, .string (⟨#[108, 101, 110]⟩ : ByteArray), .int .i64 1, .string (⟨#[99, 117, 116]⟩ : ByteArray), .int .i64 3, .string (⟨#[119, 111, 114, 100]⟩ : ByteArray), .int .i64 2, .string (⟨#[119, 111, 114, 100, 115]⟩ : ByteArray), .int .i64 1, .string (⟨#[110, 117, 109]⟩ : ByteArray), .int .i64 1, .string (⟨#[116, 101, 120, 116]⟩ : ByteArray), .int .i64 1, .string (⟨#[97, 116]⟩ : ByteArray), .int .i64 2, .string (⟨#[114, 101]⟩ : ByteArray), .int .i64 1, .string (⟨#[105, 109]⟩ : ByteArray), .int .i64 1, .string (⟨#[110, 111, 114, 109]⟩ : ByteArray), .int .i64 1, .string (⟨#[99, 111, 110, 106]⟩ : ByteArray), .int .i64 1, .string (⟨#[101, 109, 105, 116]⟩ : ByteArray), .int .i64 2, .string (⟨#[116, 104, 101, 110]⟩ : ByteArray), .int .i64 2, .string (⟨#[101, 97, 99, 104]⟩ : ByteArray), .int .i64 2, .string (⟨#[108, 101, 116]⟩ : ByteArray), .int .i64 2]) (ok := fun _ => True) (okp := fun _ => True) ?hr ?hp (fun _ hk => hk) trivial (Below.refl _ _) (Nat.le_refl _) (by simp) ?_; (case hd => rfl); (case hg => rfl); (case hr => first | (go_simp; done) | (go_simp; rfl)); (case hp => exact (Reps.c2 (show Kd.M k196 _ _ _ (⟨(⟨#[97, 100, 100]⟩ : ByteArray), 2⟩ : S196) [.string (⟨#[97, 100, 100]⟩ : ByteArray), .int .i64 2] from (k196_mkM _ _ _ (⟨(⟨#[97, 100, 100]⟩ : ByteArray), 2⟩ : S196) )) (Reps.c2 (show Kd.M k196 _ _ _ (⟨(⟨#[115, 117, 98]⟩ : ByteArray), 2⟩ : S196) [.string (⟨#[115, 117, 98]⟩ : ByteArray), .int .i64 2] from (k196_mkM _ _ _ (⟨(⟨#[115, 117, 98]⟩ : ByteArray), 2⟩ : S196) )) (Reps.c2 (show Kd.M k196 _ _ _ (⟨(⟨#[109, 117, 108]⟩ : ByteArray), 2⟩ : S196) [.string (⟨#[109, 117, 108]⟩ : ByteArray), .int .i64 2] from (k196_mkM _ _ _ (⟨(⟨#[109, 117, 108]⟩ : ByteArray), 2⟩ : S196) )) (Reps.c2 (show Kd.M k196 _ _ _ (⟨(⟨#[100, 105, 118]⟩ : ByteArray), 2⟩ : S196) [.string (⟨#[100, 105, 118]⟩ : ByteArray), .int .i64 2] from (k196_mkM _ _ _ (⟨(⟨#[100, 105, 118]⟩ : ByteArray), 2⟩ : S196) )) (Reps.c2 (show Kd.M k196 _ _ _ (⟨(⟨#[109, 111, 100]⟩ : ByteArray), 2⟩ : S196) [.string (⟨#[109, 111, 100]⟩ : ByteArray), .int .i64 2] from (k196_mkM _ _ _ (⟨(⟨#[109, 111, 100]⟩ : ByteArray), 2⟩ : S196) )) (Reps.c2 (show Kd.M k196 _ _ _ (⟨(⟨#[110, 101, 103]⟩ : ByteArray), 1⟩ : S196) [.string (⟨#[110, 101, 103]⟩ : ByteArray), .int .i64 1] from (k196_mkM _ _ _ (⟨(⟨#[110, 101, 103]⟩ : ByteArray), 1⟩ : S196) )) (Reps.c2 (show Kd.M k196 _ _ _ (⟨(⟨#[108, 101, 115, 115]⟩ : ByteArray), 2⟩ : S196) [.string (⟨#[108, 101, 115, 115]⟩ : ByteArray), .int .i64 2] from (k196_mkM _ _ _ (⟨(⟨#[108, 101, 115, 115]⟩ : ByteArray), 2⟩ : S196) )) (Reps.c2 (show Kd.M k196 _ _ _ (⟨(⟨#[115, 97, 109, 101]⟩ : ByteArray), 2⟩ : S196) [.string (⟨#[115, 97, 109, 101]⟩ : ByteArray), .int .i64 2] from (k196_mkM _ _ _ (⟨(⟨#[115, 97, 109, 101]⟩ : ByteArray), 2⟩ : S196) )) (Reps.c2 (show Kd.M k196 _ _ _ (⟨(⟨#[110, 111, 116]⟩ : ByteArray), 1⟩ : S196) [.string (⟨#[110, 111, 116]⟩ : ByteArray), .int .i64 1] from (k196_mkM _ _ _ (⟨(⟨#[110, 111, 116]⟩ : ByteArray), 1⟩ : S196) )) (Reps.c2 (show Kd.M k196 _ _ _ (⟨(⟨#[105, 102]⟩ : ByteArray), 3⟩ : S196) [.string (⟨#[105, 102]⟩ : ByteArray), .int .i64 3] from (k196_mkM _ _ _ (⟨(⟨#[105, 102]⟩ : ByteArray), 3⟩ : S196) )) (Reps.c2 (show Kd.M k196 _ _ _ (⟨(⟨#[109, 97, 120]⟩ : ByteArray), 2⟩ : S196) [.string (⟨#[109, 97, 120]⟩ : ByteArray), .int .i64 2] from (k196_mkM _ _ _ (⟨(⟨#[109, 97, 120]⟩ : ByteArray), 2⟩ : S196) )) (Reps.c2 (show Kd.M k196 _ _ _ (⟨(⟨#[109, 105, 110]⟩ : ByteArray), 2⟩ : S196) [.string (⟨#[109, 105, 110]⟩ : ByteArray), .int .i64 2] from (k196_mkM _ _ _ (⟨(⟨#[109, 105, 110]⟩ : ByteArray), 2⟩ : S196) )) (Reps.c2 (show Kd.M k196 _ _ _ (⟨(⟨#[99, 97, 116]⟩ : ByteArray), 2⟩ : S196) [.string (⟨#[99, 97, 116]⟩ : ByteArray), .int .i64 2] from (k196_mkM _ _ _ (⟨(⟨#[99, 97, 116]⟩ : ByteArray), 2⟩ : S196) )) (Reps.c2 (show Kd.M k196 _ _ _ (⟨(⟨#[108, 101, 110]⟩ : ByteArray), 1⟩ : S196) [.string (⟨#[108, 101, 110]⟩ : ByteArray), .int .i64 1] from (k196_mkM _ _ _ (⟨(⟨#[108, 101, 110]⟩ : ByteArray), 1⟩ : S196) )) (Reps.c2 (show Kd.M k196 _ _ _ (⟨(⟨#[99, 117, 116]⟩ : ByteArray), 3⟩ : S196) [.string (⟨#[99, 117, 116]⟩ : ByteArray), .int .i64 3] from (k196_mkM _ _ _ (⟨(⟨#[99, 117, 116]⟩ : ByteArray), 3⟩ : S196) )) (Reps.c2 (show Kd.M k196 _ _ _ (⟨(⟨#[119, 111, 114, 100]⟩ : ByteArray), 2⟩ : S196) [.string (⟨#[119, 111, 114, 100]⟩ : ByteArray), .int .i64 2] from (k196_mkM _ _ _ (⟨(⟨#[119, 111, 114, 100]⟩ : ByteArray), 2⟩ : S196) )) (Reps.c2 (show Kd.M k196 _ _ _ (⟨(⟨#[119, 111, 114, 100, 115]⟩ : ByteArray), 1⟩ : S196) [.string (⟨#[119, 111, 114, 100, 115]⟩ : ByteArray), .int .i64 1] from (k196_mkM _ _ _ (⟨(⟨#[119, 111, 114, 100, 115]⟩ : ByteArray), 1⟩ : S196) )) (Reps.c2 (show Kd.M k196 _ _ _ (⟨(⟨#[110, 117, 109]⟩ : ByteArray), 1⟩ : S196) [.string (⟨#[110, 117, 109]⟩ : ByteArray), .int .i64 1] from (k196_mkM _ _ _ (⟨(⟨#[110, 117, 109]⟩ : ByteArray), 1⟩ : S196) )) (Reps.c2 (show Kd.M k196 _ _ _ (⟨(⟨#[116, 101, 120, 116]⟩ : ByteArray), 1⟩ : S196) [.string (⟨#[116, 101, 120, 116]⟩ : ByteArray), .int .i64 1] from (k196_mkM _ _ _ (⟨(⟨#[116, 101, 120, 116]⟩ : ByteArray), 1⟩ : S196) )) (Reps.c2 (show Kd.M k196 _ _ _ (⟨(⟨#[97, 116]⟩ : ByteArray), 2⟩ : S196) [.string (⟨#[97, 116]⟩ : ByteArray), .int .i64 2] from (k196_mkM _ _ _ (⟨(⟨#[97, 116]⟩ : ByteArray), 2⟩ : S196) )) (Reps.c2 (show Kd.M k196 _ _ _ (⟨(⟨#[114, 101]⟩ : ByteArray), 1⟩ : S196) [.string (⟨#[114, 101]⟩ : ByteArray), .int .i64 1] from (k196_mkM _ _ _ (⟨(⟨#[114, 101]⟩ : ByteArray), 1⟩ : S196) )) (Reps.c2 (show Kd.M k196 _ _ _ (⟨(⟨#[105, 109]⟩ : ByteArray), 1⟩ : S196) [.string (⟨#[105, 109]⟩ : ByteArray), .int .i64 1] from (k196_mkM _ _ _ (⟨(⟨#[105, 109]⟩ : ByteArray), 1⟩ : S196) )) (Reps.c2 (show Kd.M k196 _ _ _ (⟨(⟨#[110, 111, 114, 109]⟩ : ByteArray), 1⟩ : S196) [.string (⟨#[110, 111, 114, 109]⟩ : ByteArray), .int .i64 1] from (k196_mkM _ _ _ (⟨(⟨#[110, 111, 114, 109]⟩ : ByteArray), 1⟩ : S196) )) (Reps.c2 (show Kd.M k196 _ _ _ (⟨(⟨#[99, 111, 110, 106]⟩ : ByteArray), 1⟩ : S196) [.string (⟨#[99, 111, 110, 106]⟩ : ByteArray), .int .i64 1] from (k196_mkM _ _ _ (⟨(⟨#[99, 111, 110, 106]⟩ : ByteArray), 1⟩ : S196) )) (Reps.c2 (show Kd.M k196 _ _ _ (⟨(⟨#[101, 109, 105, 116]⟩ : ByteArray), 2⟩ : S196) [.string (⟨#[101, 109, 105, 116]⟩ : ByteArray), .int .i64 2] from (k196_mkM _ _ _ (⟨(⟨#[101, 109, 105, 116]⟩ : ByteArray), 2⟩ : S196) )) (Reps.c2 (show Kd.M k196 _ _ _ (⟨(⟨#[116, 104, 101, 110]⟩ : ByteArray), 2⟩ : S196) [.string (⟨#[116, 104, 101, 110]⟩ : ByteArray), .int .i64 2] from (k196_mkM _ _ _ (⟨(⟨#[116, 104, 101, 110]⟩ : ByteArray), 2⟩ : S196) )) (Reps.c2 (show Kd.M k196 _ _ _ (⟨(⟨#[101, 97, 99, 104]⟩ : ByteArray), 2⟩ : S196) [.string (⟨#[101, 97, 99, 104]⟩ : ByteArray), .int .i64 2] from (k196_mkM _ _ _ (⟨(⟨#[101, 97, 99, 104]⟩ : ByteArray), 2⟩ : S196) )) (Reps.c2 (show Kd.M k196 _ _ _ (⟨(⟨#[108, 101, 116]⟩ : ByteArray), 2⟩ : S196) [.string (⟨#[108, 101, 116]⟩ : ByteArray), .int .i64 2] from (k196_mkM _ _ _ (⟨(⟨#[108, 101, 116]⟩ : ByteArray), 2⟩ : S196) )) (Reps.none _ _)))))))))))))))))))))))))))))); intro v137 w1 ho2 hb hg_ hnew_; clear hg_ hnew_; (first | rw [← Ny136.out] at ho2 | (simp only [Int.reduceToNat] at ho2; rw [← Ny136.out] at ho2)); have n0_ := Aside0.mk (Kd.R_lower ho2 (qaj (by repeat (first | (with_reducible first | exact HB.out | apply qad | apply qab | apply qac) | exact HB.out)))); have n1_ := Aside0.mk (qah (by repeat (first | (with_reducible first | exact HB.out | apply qad | apply qab | apply qac) | exact HB.out)) hb); clear HB; have HO138 := n0_; have HB := n1_; clear n0_ n1_; clear hb ho2))
 go_ret
 exact ⟨_, by first | rfl | (simp [*] <;> rfl), by (with_reducible repeat (first | apply Kd.R_alloc | apply Kd.R_drewN | apply Kd.R_drew)); exact HO138.out, by repeat (first | (with_reducible first | exact HB.out | apply qad | apply qab | apply qac) | exact HB.out)⟩
end Go.Proofs.YtejbpnhondpnfaaGreat.PJob
namespace Go.Proofs.YtejbpnhondpnfaaGreat
theorem sIa {α : Type _} (l : List α) (i : Nat) (a : α) : l.toArray.setIfInBounds i a = (l.set i a).toArray := List.setIfInBounds_toArray l i a
theorem sIz {α : Type _} (a b : α) (l : List α) : (a :: l).set 0 b = b :: l := rfl
theorem sIs {α : Type _} (a b : α) (l : List α) (i : Nat) : (a :: l).set (i + 1) b = a :: l.set i b := rfl
open Go.RowKit Go.Proofs.YtejbpnhondpnfaaGreatW.PrintWords
theorem shr2 {w : World} {g : Nat} {t : TypeId} {v0 v1 : Value} (h : w.heap[g]? = some (.cells #[v0, v1] t (0, 0))) :
  w.cell? ⟨g, 0, none⟩ = some v0 ∧ w.cell? ⟨g, 1, none⟩ = some v1 ∧ w.frozen? ⟨g, 0, none⟩ = false ∧ w.frozen? ⟨g, 1, none⟩ = false :=
 ⟨(qak h 0).trans rfl, (qak h 1).trans rfl, qay h 0, qay h 1⟩
theorem shr5 {w : World} {g : Nat} {t : TypeId} {v0 v1 v2 v3 v4 : Value} (h : w.heap[g]? = some (.cells #[v0, v1, v2, v3, v4] t (0, 0))) :
  w.cell? ⟨g, 0, none⟩ = some v0 ∧ w.cell? ⟨g, 1, none⟩ = some v1 ∧ w.cell? ⟨g, 2, none⟩ = some v2 ∧ w.cell? ⟨g, 3, none⟩ = some v3 ∧ w.cell? ⟨g, 4, none⟩ = some v4 ∧ w.frozen? ⟨g, 0, none⟩ = false ∧ w.frozen? ⟨g, 1, none⟩ = false ∧ w.frozen? ⟨g, 2, none⟩ = false ∧ w.frozen? ⟨g, 3, none⟩ = false ∧ w.frozen? ⟨g, 4, none⟩ = false :=
 ⟨(qak h 0).trans rfl, (qak h 1).trans rfl, (qak h 2).trans rfl, (qak h 3).trans rfl, (qak h 4).trans rfl, qay h 0, qay h 1, qay h 2, qay h 3, qay h 4⟩
theorem shr6 {w : World} {g : Nat} {t : TypeId} {v0 v1 v2 v3 v4 v5 : Value} (h : w.heap[g]? = some (.cells #[v0, v1, v2, v3, v4, v5] t (0, 0))) :
  w.cell? ⟨g, 0, none⟩ = some v0 ∧ w.cell? ⟨g, 1, none⟩ = some v1 ∧ w.cell? ⟨g, 2, none⟩ = some v2 ∧ w.cell? ⟨g, 3, none⟩ = some v3 ∧ w.cell? ⟨g, 4, none⟩ = some v4 ∧ w.cell? ⟨g, 5, none⟩ = some v5 ∧ w.frozen? ⟨g, 0, none⟩ = false ∧ w.frozen? ⟨g, 1, none⟩ = false ∧ w.frozen? ⟨g, 2, none⟩ = false ∧ w.frozen? ⟨g, 3, none⟩ = false ∧ w.frozen? ⟨g, 4, none⟩ = false ∧ w.frozen? ⟨g, 5, none⟩ = false :=
 ⟨(qak h 0).trans rfl, (qak h 1).trans rfl, (qak h 2).trans rfl, (qak h 3).trans rfl, (qak h 4).trans rfl, (qak h 5).trans rfl, qay h 0, qay h 1, qay h 2, qay h 3, qay h 4, qay h 5⟩
theorem shr11 {w : World} {g : Nat} {t : TypeId} {v0 v1 v2 v3 v4 v5 v6 v7 v8 v9 v10 : Value} (h : w.heap[g]? = some (.cells #[v0, v1, v2, v3, v4, v5, v6, v7, v8, v9, v10] t (0, 0))) :
  w.cell? ⟨g, 0, none⟩ = some v0 ∧ w.cell? ⟨g, 1, none⟩ = some v1 ∧ w.cell? ⟨g, 2, none⟩ = some v2 ∧ w.cell? ⟨g, 3, none⟩ = some v3 ∧ w.cell? ⟨g, 4, none⟩ = some v4 ∧ w.cell? ⟨g, 5, none⟩ = some v5 ∧ w.cell? ⟨g, 6, none⟩ = some v6 ∧ w.cell? ⟨g, 7, none⟩ = some v7 ∧ w.cell? ⟨g, 8, none⟩ = some v8 ∧ w.cell? ⟨g, 9, none⟩ = some v9 ∧ w.cell? ⟨g, 10, none⟩ = some v10 ∧ w.frozen? ⟨g, 0, none⟩ = false ∧ w.frozen? ⟨g, 1, none⟩ = false ∧ w.frozen? ⟨g, 2, none⟩ = false ∧ w.frozen? ⟨g, 3, none⟩ = false ∧ w.frozen? ⟨g, 4, none⟩ = false ∧ w.frozen? ⟨g, 5, none⟩ = false ∧ w.frozen? ⟨g, 6, none⟩ = false ∧ w.frozen? ⟨g, 7, none⟩ = false ∧ w.frozen? ⟨g, 8, none⟩ = false ∧ w.frozen? ⟨g, 9, none⟩ = false ∧ w.frozen? ⟨g, 10, none⟩ = false :=
 ⟨(qak h 0).trans rfl, (qak h 1).trans rfl, (qak h 2).trans rfl, (qak h 3).trans rfl, (qak h 4).trans rfl, (qak h 5).trans rfl, (qak h 6).trans rfl, (qak h 7).trans rfl, (qak h 8).trans rfl, (qak h 9).trans rfl, (qak h 10).trans rfl, qay h 0, qay h 1, qay h 2, qay h 3, qay h 4, qay h 5, qay h 6, qay h 7, qay h 8, qay h 9, qay h 10⟩
end Go.Proofs.YtejbpnhondpnfaaGreat
namespace Go.Proofs.YtejbpnhondpnfaaGreat.PJob
open Go.RowKit Go.Proofs.YtejbpnhondpnfaaGreatW.PrintWords Go.Proofs.YtejbpnhondpnfaaGreatW.PrintLast Go.Proofs.YtejbpnhondpnfaaGreatW.PrintMore
attribute [local go_sem] qaz qbe
def rat.f (a0 : Int) : Option (ByteArray × Int × Bool) := if a0 ≤ 1 then (some ((⟨#[]⟩ : ByteArray), 0, false)) else (if a0 > 29 then (some ((⟨#[]⟩ : ByteArray), 0, false)) else ((rbf.f).bind fun t139 => (if 0 ≤ (wrap64 ((wrap64 (a0 - 1)) - 1)) then (if (wrap64 ((wrap64 (a0 - 1)) - 1)) < (t139.length : Int) then (some ((rd_T196 t139 (wrap64 ((wrap64 (a0 - 1)) - 1))).f0, (rd_T196 t139 (wrap64 ((wrap64 (a0 - 1)) - 1))).f1, true)) else (none)) else (none))))
set_option maxHeartbeats 8000000 in
set_option maxRecDepth 100000 in
theorem rat.calls (a0 : Int) (r1 : ByteArray) (r2 : Int) (r3 : Bool) (w : World) (h : rat.f a0 = some (r1, r2, r3)) :
  Calls Tryz.prog 104 #[.int .i64 a0] w fun e w' => e = .returned (.tuple #[.string r1, .int .i64 r2, .bool r3]) ∧ Below w.heap.size w w' := by
 have hu196 := Tryz.underlying196
 have HB := Aside0.mk (Below.refl w.heap.size w)
 have H : (if a0 ≤ 1 then (some ((⟨#[]⟩ : ByteArray), 0, false)) else (if a0 > 29 then (some ((⟨#[]⟩ : ByteArray), 0, false)) else ((rbf.f).bind fun t139 => (if 0 ≤ (wrap64 ((wrap64 (a0 - 1)) - 1)) then (if (wrap64 ((wrap64 (a0 - 1)) - 1)) < (t139.length : Int) then (some ((rd_T196 t139 (wrap64 ((wrap64 (a0 - 1)) - 1))).f0, (rd_T196 t139 (wrap64 ((wrap64 (a0 - 1)) - 1))).f1, true)) else (none)) else (none))))) = some (r1, r2, r3) := h
 clear h
 by_cases c2 : a0 ≤ 1
 ·
  rw [if_pos c2] at H
  have c2b0 : decide (a0 ≤ 1) = true := decide_eq_true c2
  clear c2
  simp only [Option.some.injEq, Prod.mk.injEq] at H
  obtain ⟨rfl, rfl, rfl⟩ := H
  go_enter Tryz.func104, Tryz.ntmps104
  go_wp2
  repeat (go_quiet (fail); try go_wp2)
  go_ret3
  exact ⟨by first | rfl | (simp [*] <;> rfl), by repeat (first | (with_reducible first | exact HB.out | apply qad | apply qab | apply qac) | exact HB.out)⟩
 ·
  rw [if_neg c2] at H
  have c2b0 : decide (a0 ≤ 1) = false := decide_eq_false c2
  clear c2
  by_cases c3 : a0 > 29
  ·
   rw [if_pos c3] at H
   have c3b0 : decide (29 < a0) = true := decide_eq_true c3
   clear c3
   simp only [Option.some.injEq, Prod.mk.injEq] at H
   obtain ⟨rfl, rfl, rfl⟩ := H
   go_enter Tryz.func104, Tryz.ntmps104
   go_wp2
   repeat (go_quiet (fail); try go_wp2)
   go_ret3
   exact ⟨by first | rfl | (simp [*] <;> rfl), by repeat (first | (with_reducible first | exact HB.out | apply qad | apply qab | apply qac) | exact HB.out)⟩
  ·
   rw [if_neg c3] at H
   have c3b0 : decide (29 < a0) = false := decide_eq_false c3
   clear c3
   replace H := Option.bind_eq_some_iff.mp H
   obtain ⟨t139, A40, H⟩ := H
   replace H : (if 0 ≤ (wrap64 ((wrap64 (a0 - 1)) - 1)) then (if (wrap64 ((wrap64 (a0 - 1)) - 1)) < (t139.length : Int) then (some ((rd_T196 t139 (wrap64 ((wrap64 (a0 - 1)) - 1))).f0, (rd_T196 t139 (wrap64 ((wrap64 (a0 - 1)) - 1))).f1, true)) else (none)) else (none)) = some (r1, r2, r3) := H
   have A4 := Aside0.mk A40
   clear A40
   obtain ⟨ji5, hji5⟩ : ∃ j_ : Int, (wrap64 ((wrap64 (a0 - 1)) - 1)) = j_ := ⟨_, rfl⟩
   replace H : (if 0 ≤ (ji5) then (if (ji5) < (t139.length : Int) then (some ((rd_T196 t139 (ji5)).f0, (rd_T196 t139 (ji5)).f1, true)) else (none)) else (none)) = some (r1, r2, r3) := by first | (rw [hji5] at H; exact H) | (simp only [hji5] at H ⊢; exact H)
   (try rw [hji5] at A4)
   have hji5w : (IntKind.i64.wrap ((wrap64 (a0 - 1)) - 1)) = ji5 := (qap _).trans hji5
   by_cases c6 : 0 ≤ (ji5)
   ·
    rw [if_pos c6] at H
    have c6b0 : decide (0 ≤ (ji5)) = true := decide_eq_true c6
    clear c6
    by_cases c7 : (ji5) < (t139.length : Int)
    ·
     rw [if_pos c7] at H
     have c7b0 : decide ((ji5) < (t139.length : Int)) = true := decide_eq_true c7
     clear c7
     simp only [Option.some.injEq, Prod.mk.injEq] at H
     obtain ⟨rfl, rfl, rfl⟩ := H
     go_enter Tryz.func104, Tryz.ntmps104
     go_wp2_with (first | (go_at_call 144; (with_reducible refine (rbf.calls  t139 _ A4.out).mono ?_); rintro e w8 ⟨v140, rfl, ho0, hb⟩; have n0_ := Aside0.mk (Kd.R_lower ho0 (qaj (by repeat (first | (with_reducible first | exact HB.out | apply qad | apply qab | apply qac) | exact HB.out)))); have n1_ := Aside0.mk (qah (by repeat (first | (with_reducible first | exact HB.out | apply qad | apply qab | apply qac) | exact HB.out)) hb); clear HB; have HO141 := n0_; have HB := n1_; clear n0_ n1_; (try clear hb); (try clear hb2); (try clear hk); (try clear hi); (try clear ho0); obtain ⟨Ao9, co9, eo9⟩ := Kd.R_slice HO141.out; subst eo9; have p142 : 0 ≤ ((ji5) : Int) := of_decide_eq_true (by first | (with_reducible assumption) | assumption); have q142 : (ji5) < (t139.length : Int) := of_decide_eq_true (by first | (with_reducible assumption) | assumption); obtain ⟨ad142, e142, hx142_0, hx142_1⟩ := at_T196 (Kd.R_reads' HO141.out).2.2 (ji5) p142 q142; cases e142; replace p142 := eq_true p142; replace q142 := eq_true q142) | ((with_reducible refine qav (N := 5) rfl ?_); refine qau ?hg (N := 5) ?hd (cs := #[.string (⟨#[]⟩ : ByteArray), .int .i64 0]) (t := 196) ?hr ?_; (case hd => rfl); (case hg => rfl); (case hr => first | (go_simp; done) | (go_simp; rfl)); intro gb143 hg w10 hbox hb; have n0_ := Aside0.mk (Kd.R_below (Kd.R_elderB (by (with_reducible repeat (first | apply Kd.R_alloc | apply Kd.R_drewN | apply Kd.R_drew)); exact HO141.out) gb143 (Nat.le_of_eq hg.symm)) hb); have n1_ := Aside0.mk (qah (by repeat (first | (with_reducible first | exact HB.out | apply qad | apply qab | apply qac) | exact HB.out)) hb); have n2_ := Aside0.mk (hbox); have n3_ := Aside0.mk ((by rw [hg]; exact (qaj (by repeat (first | (with_reducible first | exact HB.out | apply qad | apply qab | apply qac) | exact HB.out))) : w.heap.size ≤ gb143)); have n4_ := Aside0.mk ((by rw [hg]; exact (qaj (by repeat (first | (with_reducible first | exact HB.out | apply qad | apply qab | apply qac) | exact HB.out))) : w.heap.size ≤ gb143)); clear HO141; clear HB; have HO141 := n0_; have HB := n1_; have BK143 := n2_; have GW143 := n3_; have GE143 := n4_; clear n0_ n1_ n2_ n3_ n4_; clear hb hbox hg; obtain ⟨G11_0, G11_1, F11_0, F11_1⟩ := shr2 BK143.out))
     repeat (go_quiet (first | (go_at_call 144; (with_reducible refine (rbf.calls  t139 _ A4.out).mono ?_); rintro e w8 ⟨v140, rfl, ho0, hb⟩; have n0_ := Aside0.mk (Kd.R_lower ho0 (qaj (by repeat (first | (with_reducible first | exact HB.out | apply qad | apply qab | apply qac) | exact HB.out)))); have n1_ := Aside0.mk (qah (by repeat (first | (with_reducible first | exact HB.out | apply qad | apply qab | apply qac) | exact HB.out)) hb); clear HB; have HO141 := n0_; have HB := n1_; clear n0_ n1_; (try clear hb); (try clear hb2); (try clear hk); (try clear hi); (try clear ho0); obtain ⟨Ao9, co9, eo9⟩ := Kd.R_slice HO141.out; subst eo9; have p142 : 0 ≤ ((ji5) : Int) := of_decide_eq_true (by first | (with_reducible assumption) | assumption); have q142 : (ji5) < (t139.length : Int) := of_decide_eq_true (by first | (with_reducible assumption) | assumption); obtain ⟨ad142, e142, hx142_0, hx142_1⟩ := at_T196 (Kd.R_reads' HO141.out).2.2 (ji5) p142 q142; cases e142; replace p142 := eq_true p142; replace q142 := eq_true q142) | ((with_reducible refine qav (N := 5) rfl ?_); refine qau ?hg (N := 5) ?hd (cs := #[.string (⟨#[]⟩ : ByteArray), .int .i64 0]) (t := 196) ?hr ?_; (case hd => rfl); (case hg => rfl); (case hr => first | (go_simp; done) | (go_simp; rfl)); intro gb143 hg w10 hbox hb; have n0_ := Aside0.mk (Kd.R_below (Kd.R_elderB (by (with_reducible repeat (first | apply Kd.R_alloc | apply Kd.R_drewN | apply Kd.R_drew)); exact HO141.out) gb143 (Nat.le_of_eq hg.symm)) hb); have n1_ := Aside0.mk (qah (by repeat (first | (with_reducible first | exact HB.out | apply qad | apply qab | apply qac) | exact HB.out)) hb); have n2_ := Aside0.mk (hbox); have n3_ := Aside0.mk ((by rw [hg]; exact (qaj (by repeat (first | (with_reducible first | exact HB.out | apply qad | apply qab | apply qac) | exact HB.out))) : w.heap.size ≤ gb143)); have n4_ := Aside0.mk ((by rw [hg]; exact (qaj (by repeat (first | (with_reducible first | exact HB.out | apply qad | apply qab | apply qac) | exact HB.out))) : w.heap.size ≤ gb143)); clear HO141; clear HB; have HO141 := n0_; have HB := n1_; have BK143 := n2_; have GW143 := n3_; have GE143 := n4_; clear n0_ n1_ n2_ n3_ n4_; clear hb hbox hg; obtain ⟨G11_0, G11_1, F11_0, F11_1⟩ := shr2 BK143.out)); try go_wp2_with (first | (go_at_call 144; (with_reducible refine (rbf.calls  t139 _ A4.out).mono ?_); rintro e w8 ⟨v140, rfl, ho0, hb⟩; have n0_ := Aside0.mk (Kd.R_lower ho0 (qaj (by repeat (first | (with_reducible first | exact HB.out | apply qad | apply qab | apply qac) | exact HB.out)))); have n1_ := Aside0.mk (qah (by repeat (first | (with_reducible first | exact HB.out | apply qad | apply qab | apply qac) | exact HB.out)) hb); clear HB; have HO141 := n0_; have HB := n1_; clear n0_ n1_; (try clear hb); (try clear hb2); (try clear hk); (try clear hi); (try clear ho0); obtain ⟨Ao9, co9, eo9⟩ := Kd.R_slice HO141.out; subst eo9; have p142 : 0 ≤ ((ji5) : Int) := of_decide_eq_true (by first | (with_reducible assumption) | assumption); have q142 : (ji5) < (t139.length : Int) := of_decide_eq_true (by first | (with_reducible assumption) | assumption); obtain ⟨ad142, e142, hx142_0, hx142_1⟩ := at_T196 (Kd.R_reads' HO141.out).2.2 (ji5) p142 q142; cases e142; replace p142 := eq_true p142; replace q142 := eq_true q142) | ((with_reducible refine qav (N := 5) rfl ?_); refine qau ?hg (N := 5) ?hd (cs := #[.string (⟨#[]⟩ : ByteArray), .int .i64 0]) (t := 196) ?hr ?_; (case hd => rfl); (case hg => rfl); (case hr => first | (go_simp; done) | (go_simp; rfl)); intro gb143 hg w10 hbox hb; have n0_ := Aside0.mk (Kd.R_below (Kd.R_elderB (by (with_reducible repeat (first | apply Kd.R_alloc | apply Kd.R_drewN | apply Kd.R_drew)); exact HO141.out) gb143 (Nat.le_of_eq hg.symm)) hb); have n1_ := Aside0.mk (qah (by repeat (first | (with_reducible first | exact HB.out | apply qad | apply qab | apply qac) | exact HB.out)) hb); have n2_ := Aside0.mk (hbox); have n3_ := Aside0.mk ((by rw [hg]; exact (qaj (by repeat (first | (with_reducible first | exact HB.out | apply qad | apply qab | apply qac) | exact HB.out))) : w.heap.size ≤ gb143)); have n4_ := Aside0.mk ((by rw [hg]; exact (qaj (by repeat (first | (with_reducible first | exact HB.out | apply qad | apply qab | apply qac) | exact HB.out))) : w.heap.size ≤ gb143)); clear HO141; clear HB; have HO141 := n0_; have HB := n1_; have BK143 := n2_; have GW143 := n3_; have GE143 := n4_; clear n0_ n1_ n2_ n3_ n4_; clear hb hbox hg; obtain ⟨G11_0, G11_1, F11_0, F11_1⟩ := shr2 BK143.out)))
     go_ret3
     exact ⟨by first | rfl | (simp [errW_none, errW_some] <;> rfl) | (simp only [← hji5]; first | rfl | (simp [errW_none, errW_some] <;> rfl)) | (simp [*, errW_none, errW_some] <;> rfl), by repeat (first | (with_reducible first | exact HB.out | apply qad | apply qab | apply qac | refine qaf ?_ GE143.out) | exact HB.out)⟩
    ·
     rw [if_neg c7] at H
     exact absurd H (by simp)
   ·
    rw [if_neg c6] at H
    exact absurd H (by simp)
theorem eqA43 (d : Nat) (w : World) (x0 y0 : Int) (x1 y1 : Int) :
    (Op.equalIn (d + 2) 43 (.agg #[.int .i64 x0, .int .i64 x1]) (.agg #[.int .i64 y0, .int .i64 y1])).run Tryz.prog w = .ok (x0 == y0 && (x1 == y1)) w := by
  refine eqA_of Tryz.underlying43 (by kernel_rfl) ?_
  refine eqf_cons (by rfl) (by go_simp; rfl) (by go_simp; rfl) (by go_simp) ?_
  exact eqf_last (by rfl) (by go_simp; rfl) (by go_simp; rfl) (by go_simp)
theorem eqA45 (d : Nat) (w : World) (x0 y0 : Int) (x1 y1 : Int) (x2 y2 : ByteArray) (x3 y3 : Int) (x4 y4 : Int) :
    (Op.equalIn (d + 3) 45 (.agg #[.int .i64 x0, .int .i64 x1, .string x2, .int .i64 x3, .int .i64 x4]) (.agg #[.int .i64 y0, .int .i64 y1, .string y2, .int .i64 y3, .int .i64 y4])).run Tryz.prog w = .ok (x0 == y0 && (x1 == y1 && (x2.toList == y2.toList && ((x3 == y3 && (x4 == y4)))))) w := by
  refine eqA_of Tryz.underlying45 (by kernel_rfl) ?_
  refine eqf_cons (by rfl) (by go_simp; rfl) (by go_simp; rfl) (by go_simp) ?_
  refine eqf_cons (by rfl) (by go_simp; rfl) (by go_simp; rfl) (by go_simp) ?_
  refine eqf_cons (by rfl) (by go_simp; rfl) (by go_simp; rfl) (by go_simp) ?_
  exact eqf_last (by rfl) (by go_simp) (by go_simp) (eqA43 (d + 0) w _ _ _ _)
end Go.Proofs.YtejbpnhondpnfaaGreat.PJob
namespace Go.Proofs.YtejbpnhondpnfaaGreat
open Go.RowKit
structure Chg (S : Nat → Prop) (w w' : World) : Prop where
 os : w'.os = w.os
 tape : w'.tape = w.tape
 output : w'.output = w.output
 size : w.heap.size ≤ w'.heap.size
 block : ∀ k, k < w.heap.size → ¬ S k → w'.heap[k]? = w.heap[k]?
theorem Chg.refl (S : Nat → Prop) (w : World) : Chg S w w := ⟨rfl, rfl, rfl, Nat.le_refl _, fun _ _ _ => rfl⟩
theorem Chg.trans {S T : Nat → Prop} {a b c : World} (h : Chg S a b) (k : Chg T b c) (hs : ∀ i, T i → i < a.heap.size → S i) : Chg S a c :=
 ⟨k.os.trans h.os, k.tape.trans h.tape, k.output.trans h.output, Nat.le_trans h.size k.size, fun i hi hn =>
  (k.block i (Nat.lt_of_lt_of_le hi h.size) (fun ht => hn (hs i ht hi))).trans (h.block i hi hn)⟩
theorem Chg.mono {S T : Nat → Prop} {a b : World} (h : Chg S a b) (hs : ∀ i, S i → T i) : Chg T a b :=
 ⟨h.os, h.tape, h.output, h.size, fun i hi hn => h.block i hi (fun x => hn (hs i x))⟩
theorem Chg.drew {S : Nat → Prop} {a b : World} (h : Chg S a b) : Chg S a b.drew := ⟨h.os, h.tape, h.output, h.size, h.block⟩
theorem Chg.alloc {S : Nat → Prop} {a b : World} (h : Chg S a b) (o : Obj) : Chg S a (b.alloc o) :=
 ⟨h.os, h.tape, h.output, Nat.le_trans h.size (by simp), fun i hi hn => (Below.heap_alloc b o i (Nat.lt_of_lt_of_le hi h.size)).trans (h.block i hi hn)⟩
theorem Chg.setCell {S : Nat → Prop} {a b : World} (h : Chg S a b) {p : Addr} (hp : S p.block ∨ a.heap.size ≤ p.block) (u : Value) : Chg S a (b.setCell p u) :=
 ⟨h.os, h.tape, h.output, by simpa [World.setCell] using h.size, fun i hi hn => (Below.heap_setCell b p u i (by
  rintro rfl
  rcases hp with hp | hp
  ·
   exact hn hp
  ·
   omega)).trans (h.block i hi hn)⟩
theorem Chg.below {S : Nat → Prop} {a b : World} (h : Chg S a b) {B : Nat} (hB : B ≤ a.heap.size) (hs : ∀ i, S i → B ≤ i) : Below B a b :=
 ⟨h.os, h.tape, h.output, h.size, fun i hi => h.block i (by omega) (fun x => by have := hs i x; omega)⟩
theorem Chg.cell {S : Nat → Prop} {a b : World} (h : Chg S a b) {p : Addr} (hp : p.block < a.heap.size) (hn : ¬ S p.block) : b.cell? p = a.cell? p :=
 World.cell?_of_block (w := a) (h.block p.block hp hn)
theorem one_cell {w : World} {b : Nat} {v : Value} {t : TypeId} (h : w.heap[b]? = some (.cells #[v] t (0, 0))) : w.cell? ⟨b, 0, none⟩ = some v := by
 simp [World.cell?, h]
theorem one_free {w : World} {b : Nat} {v : Value} {t : TypeId} (h : w.heap[b]? = some (.cells #[v] t (0, 0))) : w.frozen? ⟨b, 0, none⟩ = false := by
 simp [World.frozen?, h]
theorem one_set {w : World} {b : Nat} {v : Value} {t : TypeId} (h : w.heap[b]? = some (.cells #[v] t (0, 0))) (u : Value) : (w.setCell ⟨b, 0, none⟩ u).heap[b]? = some (.cells #[u] t (0, 0)) := by
 simp [World.setCell, Array.getElem?_modify, h]
theorem ret_int {k : IntKind} {a b : Int} (h : a = b) : Ending.returned (.int k a) = .returned (.int k b) := by rw [h]
theorem own_val {w : World} {B : Nat} {e : TypeId} {z : Nat} {v : Value} {n : Nat} {xs : List Value} (h : w.ownsRow B e z v n xs) : ∃ a c, v = .slice a n c ∧ n ≤ c ∧ c ≤ maxLen ∧ v.ownBlock = a.map Addr.block := by
 rcases h.2 with ⟨rfl, rfl⟩ | ⟨g, c, _, rfl, _, _, h1, h2, _⟩
 ·
  exact ⟨none, 0, rfl, Nat.le_refl _, by decide, rfl⟩
 ·
  exact ⟨some ⟨g, 0, none⟩, c, rfl, h1, h2, rfl⟩
theorem heap_setCells {g : Nat} {e : TypeId} {fz : Nat × Nat} : ∀ (vs : List Value) (o : Nat) (w : World) (cur : Array Value), w.heap[g]? = some (.cells cur e fz) → o + vs.length ≤ cur.size →
  (w.setCells g o vs).heap[g]? = some (.cells (cur.toList.take o ++ vs ++ cur.toList.drop (o + vs.length)).toArray e fz)
 | [], o, w, cur, h, _ => by simp [World.setCells, h]
 | v :: vs, o, w, cur, h, hl => by
  have h1 : (w.setCell ⟨g, o, none⟩ v).heap[g]? = some (.cells (cur.setIfInBounds o v) e fz) := by
   simp [World.setCell, Array.getElem?_modify, h]
  have h2 := heap_setCells vs (o + 1) _ _ h1 (by simp at hl ⊢; omega)
  simp only [World.setCells]
  rw [h2]
  simp only [List.length_cons] at hl ⊢
  have ho : o < cur.toList.length := by simp; omega
  congr 2
  apply congrArg
  rw [Array.toList_setIfInBounds, List.take_set, List.drop_set_of_lt (by omega)]
  rw [List.take_succ_eq_append_getElem ho, List.set_append]
  simp [Nat.min_eq_left (Nat.le_of_lt (by simpa using ho)), show o + (vs.length + 1) = o + 1 + vs.length by omega]
theorem chg_setCells {g : Nat} : ∀ (vs : List Value) (o : Nat) (w : World), Chg (fun k => k = g) w (w.setCells g o vs)
 | [], _, w => Chg.refl _ w
 | v :: vs, o, w => ((Chg.refl (fun k => k = g) w).setCell (p := ⟨g, o, none⟩) (.inl rfl) v).trans (chg_setCells vs (o + 1) _) (fun _ h _ => h)
theorem own_kept {w w' : World} {B : Nat} {e : TypeId} {z : Nat} {v : Value} {n : Nat} {xs : List Value} {S : Nat → Prop} (h : w.ownsRow B e z v n xs) (hc : Chg S w w') (hn : ∀ g, v.ownBlock = some g → ¬ S g) : w'.ownsRow B e z v n xs := by
 obtain ⟨h1, h2⟩ := h
 refine ⟨h1, ?_⟩
 rcases h2 with h2 | ⟨g, c, cur, rfl, hB, hg, r⟩
 ·
  exact .inl h2
 ·
  exact .inr ⟨g, c, cur, rfl, hB, (hc.block g (Array.getElem?_eq_some_iff.1 hg).1 (hn g rfl)).trans hg, r⟩
theorem own_lt {w : World} {B : Nat} {e : TypeId} {z : Nat} {v : Value} {n : Nat} {xs : List Value} (h : w.ownsRow B e z v n xs) (k : Nat) (hk : some k = v.ownBlock) : B ≤ k ∧ k < w.heap.size := World.ownsRow.lt h k hk.symm
section
variable {P : Program}
theorem run_append_src (w : World) (base : Nat) (t tx ty e : TypeId) (i : TypeInfo) (z : Value) (size bytes : Nat) (ht : P.underlying t = some (.slice e)) (hi : P.info? e = some i) (hz : i.zero = some z)
  (hsize : i.size = size) (hby : i.bytes = bytes) (hzs : z.cells.size = size) (hsz : 0 < size)
  (v : Value) (n : Nat) (xs : List Value) (hown : w.ownsRow base e size v n xs) (x : Value) (m : Nat) (news : List Value) (hs : Src P size tx x m news w)
  (h63 : n + m ≤ maxLen) (hbytes : (n + m) * bytes ≤ 140737488355328) (hbase : base ≤ w.heap.size) :
  ∃ v' w', (Builtin.append_ #[t, tx] ty #[v, x]).run P w = .ok v' w' ∧ w'.ownsRow base e size v' (n + m) (xs ++ news) ∧ Chg (fun k => some k = v.ownBlock) w w' ∧ (v'.ownBlock = v.ownBlock ∨ v'.ownBlock = some w.heap.size) := by
 subst hsize
 subst hby
 have hl := hs.newsLen
 have hlen : (xs ++ news).length = (n + m) * i.size := by rw [List.length_append, hown.1, hl, Nat.add_mul]
 have h63n : n + m ≤ 9223372036854775807 := by unfold maxLen at h63; omega
 have h63' : ((n + m : Nat) : Int) ≤ 9223372036854775807 := by omega
 have grown : ∀ (c : Nat) (row : Option Nat) , n + m ≤ c → c ≤ maxLen →
   (w.drew.alloc (.cells ((xs ++ news).toArray ++ Builtin.zeroCells z.cells (c - (n + m))) e)).ownsRow base e i.size (.slice (some ⟨w.heap.size, 0, none⟩) (n + m) c) (n + m) (xs ++ news) := by
  intro c row h1 h2
  refine ⟨hlen, .inr ⟨w.heap.size, c, _, rfl, hbase, heap_alloc_new w.drew _, h1, h2, ?_, ?_⟩⟩
  ·
   simp only [Array.size_append, List.size_toArray, size_zeroCells, hzs, hlen, ← Nat.add_mul]
   congr 1
   omega
  ·
   simp only [Array.toList_append]
   rw [← hlen]
   exact List.take_left
 rcases hown.2 with ⟨rfl, rfl⟩ | ⟨g, cap, cur, rfl, hbg, hg, hnc, hcm, hcs, htake⟩
 ·
  have hx : xs = [] := List.eq_nil_of_length_eq_zero (by simpa using hown.1)
  subst hx
  by_cases hm : m = 0
  ·
   subst hm
   have hn : news = [] := List.eq_nil_of_length_eq_zero (by simpa using hl)
   subst hn
   refine ⟨.slice none 0 0, w, ?_, World.ownsRow_nil w base e i.size, Chg.refl _ _, .inl rfl⟩
   have hc := hs.cells
   have hlx := hs.len w
   rcases hs.kind with ⟨e', hk⟩ | hk <;> simp [Builtin.append_, run_underlying ht, run_underlying hk, sizeOf, typeInfo, hi, hlx, hc]
  ·
   have hold : (Builtin.firstCells i.size 0 (.slice none 0 0)).run P w.drew = .ok ([] : List Value).toArray w.drew := run_firstCells_none w.drew i.size 0 0 0
   have hfit : Builtin.nextslicecap (0 + m) 0 * i.bytes ≤ 281474976710656 := growslice_fits (by omega) hbytes
   have hr := run_append_grow_src (P := P) w t tx ty e i z ht hi hz none 0 0 [] hold x m news hs (by omega) h63' hfit
   refine ⟨_, _, hr, grown _ none (grownCap_ge ..) (grownCap_le_maxLen _ _ _ _ h63), ((Chg.refl _ w).drew).alloc _, .inr rfl⟩
 ·
  by_cases hroom : n + m ≤ cap
  ·
   have hsize' : n * i.size + news.length ≤ cur.size := by rw [hl, hcs, ← Nat.add_mul]; exact Nat.mul_le_mul_right _ hroom
   have hr := run_append_room_src (P := P) w t tx ty e i ht hi g 0 n cap x m news hs hroom
    (fun j hj => by simp [World.cell?, hg]; omega) (fun j hj => by simp [World.frozen?, hg])
   rw [Nat.zero_add] at hr
   have hg2 := heap_setCells news (n * i.size) w cur hg hsize'
   refine ⟨_, _, hr, ⟨hlen, .inr ⟨g, cap, _, rfl, hbg, hg2, hroom, hcm, ?_, ?_⟩⟩, (chg_setCells _ _ _).mono (fun k hk => by simp [Value.ownBlock, hk]), .inl rfl⟩
   ·
    simp only [List.size_toArray, List.length_append, List.length_take, List.length_drop, Array.length_toList]
    omega
   ·
    rw [htake, ← hlen]
    exact List.take_left
  ·
   have holds : ∀ j u, xs[j]? = some u → w.drew.cell? ((⟨g, 0, none⟩ : Addr).add j) = some u := fun j u hu => hown.cells (g := g) rfl j u hu
   have hold := run_firstCells_some (P := P) w.drew i.size n ⟨g, 0, none⟩ n cap xs hown.1 holds
   have hr := run_append_grow_src (P := P) w t tx ty e i z ht hi hz (some ⟨g, 0, none⟩) n cap xs hold x m news hs (by omega) h63' (growslice_fits (by omega) hbytes)
   exact ⟨_, _, hr, grown _ none (grownCap_ge ..) (grownCap_le_maxLen _ _ _ _ h63), ((Chg.refl _ w).drew).alloc _, .inr rfl⟩
theorem wpList_append_src {ops : Array Oper} {rest : List Oper} {o : Oper} {a : Act} {w : World} {Q : Exit → Act → World → Prop}
  (hg : o.guard = none) (s y : Operand) (t tx : TypeId) (hop : o.op = Op.call { callee := Callee.builtin Builtin.append, args := #[s, y], argTypes := #[t, tx] })
  (base : Nat) (e : TypeId) (i : TypeInfo) (z : Value) (size bytes : Nat) (ht : P.underlying t = some (.slice e)) (hi : P.info? e = some i) (hz : i.zero = some z)
  (hsize : i.size = size) (hby : i.bytes = bytes) (hzs : z.cells.size = size) (hsz : 0 < size)
  (v : Value) (n : Nat) (xs : List Value) (hv : a.eval s = v) (hown : w.ownsRow base e size v n xs) (x : Value) (m : Nat) (news : List Value) (hx : a.eval y = x) (hs : Src P size tx x m news w)
  (h63 : n + m ≤ maxLen) (hbytes : (n + m) * bytes ≤ 140737488355328) (hbase : base ≤ w.heap.size)
  (hK : ∀ v' w', w'.ownsRow base e size v' (n + m) (xs ++ news) → Chg (fun k => some k = v.ownBlock) w w' → (v'.ownBlock = v.ownBlock ∨ v'.ownBlock = some w.heap.size) → wpList P ops Q rest (a.put o.dst v') w') :
  wpList P ops Q (o :: rest) a w := by
 refine wpList_plain hg fun _ hK' => ?_
 obtain ⟨v', w', hr, h2, h3, h4⟩ := run_append_src (P := P) w base t tx o.type e i z size bytes ht hi hz hsize hby hzs hsz v n xs hown x m news hs h63 hbytes hbase
 unfold Oper.wp execOp
 simp only [hop, resolve, invoke, builtin, Sem.run_bind, Sem.run_pure, Result.andThen_ok, List.map_toArray, List.map_cons, List.map_nil, hv, hx, hr]
 exact hK' _ _ (hK v' w' h2 h3 h4)
end
end Go.Proofs.YtejbpnhondpnfaaGreat
namespace Go.Proofs.YtejbpnhondpnfaaGreat
open Ieee
def Is (s : Bool) (m : Nat) (e : Int) (n : Int) : Prop := e ≤ 0 ∧ m = n.natAbs * 2 ^ (-e).toNat ∧ (m ≠ 0 → (s = true ↔ n < 0))
def IsF (b : Nat) (n : Int) : Prop := ∃ s m e, double.read b = .number s m e ∧ Is s m e n
theorem read_word (s : Bool) (rung : Nat) (h : rung < double.infRung) :
  double.read (double.word s rung) = if rung < 2 ^ 52 then .number s rung (-1074) else .number s (2 ^ 52 + rung % 2 ^ 52) (-1074 + (rung / 2 ^ 52 - 1 : Nat)) := by
 have hi : double.infRung = 2047 * 2 ^ 52 := by decide
 have hw : double.signWeight = 2 ^ 63 := by decide
 have hb : double.binade = 2 ^ 52 := by decide
 have hl : double.leastPlace = -1074 := by decide
 rw [hi] at h
 have hr : rung < 2 ^ 63 := by omega
 have e1 : double.word s rung % 2 ^ 63 = rung := by
  unfold Format.word
  rw [hw]
  cases s <;> simp <;> omega
 have e2 : (double.word s rung / 2 ^ 63 % 2 == 1) = s := by
  unfold Format.word
  rw [hw]
  cases s
  ·
   simp; omega
  ·
   simp; omega
 unfold Format.read
 simp only [hw, hb, hl, hi, e1, e2]
 rw [if_pos h]
theorem log2_shift {n k : Nat} (h : n ≠ 0) : (n * 2 ^ k).log2 = n.log2 + k := by
 rw [Nat.log2_eq_iff (by have := Nat.two_pow_pos k; exact Nat.mul_ne_zero h (by omega))]
 have h1 := Nat.log2_self_le h
 have h2 := Nat.lt_log2_self (n := n)
 have hk := Nat.two_pow_pos k
 constructor
 ·
  rw [Nat.pow_add]; exact Nat.mul_le_mul_right _ h1
 ·
  rw [show n.log2 + k + 1 = (n.log2 + 1) + k by omega, Nat.pow_add]
  exact Nat.mul_lt_mul_of_pos_right h2 hk
theorem cut_exact (way : Toward) (s : Bool) (q drop : Nat) (h : q = 0 ∨ drop ≤ (q * 2 ^ drop).log2 + 2) : way.cut s (q * 2 ^ drop) drop = q := by
 unfold Toward.cut
 rcases h with rfl | h
 ·
  simp
  cases way <;> simp [Nat.one_shiftLeft]
 ·
  rw [Nat.min_eq_left h]
  have hg : 1 <<< drop = 2 ^ drop := by rw [Nat.one_shiftLeft]
  have hp := Nat.two_pow_pos drop
  simp only [hg, Nat.mul_div_cancel _ hp, Nat.mul_mod_left]
  cases way <;> simp
  all_goals omega
theorem word_is (s : Bool) {n : Int} {L K : Nat} (hn : n.natAbs ≠ 0) (hs : s = true ↔ n < 0) (hL : L < 53) (hK : K = n.natAbs * 2 ^ (52 - L)) (h1 : 2 ^ 52 ≤ K) (h2 : K < 2 ^ 53) : IsF (double.word s ((L + 1022) * 2 ^ 52 + K)) n := by
 have hi : double.infRung = 2047 * 2 ^ 52 := by decide
 have hlt : (L + 1022) * 2 ^ 52 + K < double.infRung := by rw [hi]; omega
 refine ⟨s, K, (L : Int) - 52, ?_, by omega, ?_, fun _ => hs⟩
 ·
  rw [read_word s _ hlt, if_neg (by omega)]
  have e1 : ((L + 1022) * 2 ^ 52 + K) % 2 ^ 52 = K - 2 ^ 52 := by omega
  have e2 : ((L + 1022) * 2 ^ 52 + K) / 2 ^ 52 = L + 1023 := by omega
  have e3 : 2 ^ 52 + (K - 2 ^ 52) = K := by omega
  have e4 : (-1074 + ((L + 1023 - 1 : Nat) : Int)) = (L : Int) - 52 := by omega
  rw [e1, e2, e3, e4]
 ·
  rw [hK]
  congr 2
  omega
theorem is_zero (s : Bool) {e : Int} (h : e ≤ 0) : Is s 0 e 0 := ⟨h, by rw [Int.natAbs_zero, Nat.zero_mul], fun h => absurd rfl h⟩
theorem write_is {s : Bool} {m : Nat} {e n : Int} (h : Is s m e n) (hn : n.natAbs < 2 ^ 53) : IsF (double.write (.number s m e)) n := by
 obtain ⟨he, hm, hs⟩ := h
 show IsF (double.nearest s m e) n
 have hp := Nat.two_pow_pos (-e).toNat
 by_cases hm0 : m = 0
 ·
  have hn0 : n = 0 := by
   rw [hm0] at hm
   rcases Nat.mul_eq_zero.1 hm.symm with h | h
   ·
    omega
   ·
    omega
  unfold Format.nearest
  rw [if_pos hm0]
  subst hn0
  refine ⟨s, 0, -1074, ?_, is_zero s (by decide)⟩
  rw [read_word s 0 (by decide), if_pos (by decide)]
 ·
  have hna : n.natAbs ≠ 0 := fun h => hm0 (by rw [hm, h, Nat.zero_mul])
  have hL := log2_shift (k := (-e).toNat) hna
  rw [← hm] at hL
  have hL53 : n.natAbs.log2 < 53 := (Nat.log2_lt hna).2 hn
  obtain ⟨L, hLL⟩ : ∃ L, L = n.natAbs.log2 := ⟨_, rfl⟩
  rw [← hLL] at hL hL53
  have hlp : double.leastPlace = -1074 := by decide
  have hfb : double.fractionBits = 52 := by decide
  have hbin : double.binade = 2 ^ 52 := by decide
  have hlast : max (e + (m.log2 : Int) - (52 : Nat)) (-1074) = (L : Int) - 52 := by omega
  have hK1 : 2 ^ 52 ≤ n.natAbs * 2 ^ (52 - L) := by
   have h1 := Nat.log2_self_le hna
   rw [← hLL] at h1
   have := Nat.mul_le_mul_right (2 ^ (52 - L)) h1
   rwa [← Nat.pow_add, show L + (52 - L) = 52 by omega] at this
  have hK2 : n.natAbs * 2 ^ (52 - L) < 2 ^ 53 := by
   have h1 := Nat.lt_log2_self (n := n.natAbs)
   rw [← hLL] at h1
   have := Nat.mul_lt_mul_of_pos_right h1 (Nat.two_pow_pos (52 - L))
   rwa [← Nat.pow_add, show L + 1 + (52 - L) = 53 by omega] at this
  have hw := word_is s hna (hs hm0) hL53 rfl hK1 hK2
  have hkept : Toward.even.cut s (m <<< (e - ((L : Int) - 52)).toNat) (((L : Int) - 52) - e).toNat = n.natAbs * 2 ^ (52 - L) := by
   by_cases hc : (L : Int) - 52 ≤ e
   ·
    have e1 : (((L : Int) - 52) - e).toNat = 0 := by omega
    have e2 : m <<< (e - ((L : Int) - 52)).toNat = n.natAbs * 2 ^ (52 - L) := by
     rw [Nat.shiftLeft_eq, hm, Nat.mul_assoc, ← Nat.pow_add]
     congr 2
     omega
    rw [e1, e2]
    have := cut_exact .even s (n.natAbs * 2 ^ (52 - L)) 0 (.inr (by omega))
    rwa [Nat.pow_zero, Nat.mul_one] at this
   ·
    have e1 : (e - ((L : Int) - 52)).toNat = 0 := by omega
    obtain ⟨d, hd⟩ : ∃ d, d = (((L : Int) - 52) - e).toNat := ⟨_, rfl⟩
    have e2 : m = n.natAbs * 2 ^ (52 - L) * 2 ^ d := by
     rw [hm, Nat.mul_assoc, ← Nat.pow_add]
     congr 2
     omega
    rw [e1, Nat.shiftLeft_zero, ← hd]
    have := cut_exact .even s (n.natAbs * 2 ^ (52 - L)) d (.inr (by rw [← e2]; omega))
    rwa [← e2] at this
  unfold Format.nearest
  rw [if_neg hm0]
  simp only [hfb, hlp, hbin, hlast, hkept]
  have e3 : ((L : Int) - 52 - -1074).toNat = L + 1022 := by omega
  have hi : double.infRung = 2047 * 2 ^ 52 := by decide
  rw [e3, Nat.min_eq_left (by rw [hi]; omega)]
  exact hw
theorem is_int (n : Int) : Is (decide (n < 0)) n.natAbs 0 n := ⟨by omega, by simp, fun _ => by simp⟩
theorem signed_is {s : Bool} {m : Nat} {e n : Int} (h : Is s m e n) (k : Nat) : signed s m k = n * ((2 ^ ((-e).toNat + k) : Nat) : Int) := by
 obtain ⟨he, hm, hs⟩ := h
 unfold signed
 rw [Nat.shiftLeft_eq]
 have e1 : m * 2 ^ k = n.natAbs * 2 ^ ((-e).toNat + k) := by rw [hm, Nat.mul_assoc, ← Nat.pow_add]
 rw [e1]
 obtain ⟨q, hq⟩ : ∃ q, q = 2 ^ ((-e).toNat + k) := ⟨_, rfl⟩
 rw [← hq]
 by_cases hm0 : m = 0
 ·
  have hn0 : n = 0 := by
   rw [hm0] at hm
   have hp := Nat.two_pow_pos (-e).toNat
   rcases Nat.mul_eq_zero.1 hm.symm with h | h
   ·
    omega
   ·
    omega
  subst hn0
  simp
 ·
  have hs := hs hm0
  by_cases hn : n < 0
  ·
   rw [if_pos (hs.2 hn)]
   have : ((n.natAbs : Nat) : Int) = -n := by omega
   push_cast
   rw [this, Int.neg_mul, Int.neg_neg]
  ·
   rw [if_neg (fun h => hn (hs.1 h))]
   have : ((n.natAbs : Nat) : Int) = n := by omega
   push_cast
   rw [this]
theorem sum_is {s t : Bool} {m n : Nat} {i j a b : Int} (h : Is s m i a) (k : Is t n j b) : ∃ u p e, Datum.sum (.number s m i) (.number t n j) = some (.number u p e) ∧ Is u p e (a + b) := by
 have h1 := signed_is h (i - min i j).toNat
 have h2 := signed_is k (j - min i j).toNat
 have hi := h.1
 have hj := k.1
 have e1 : (-i).toNat + (i - min i j).toNat = (-(min i j)).toNat := by omega
 have e2 : (-j).toNat + (j - min i j).toNat = (-(min i j)).toNat := by omega
 rw [e1] at h1
 rw [e2] at h2
 have htot : signed s m (i - min i j).toNat + signed t n (j - min i j).toNat = (a + b) * ((2 ^ (-(min i j)).toNat : Nat) : Int) := by rw [h1, h2, Int.add_mul]
 have hp : 0 < ((2 ^ (-(min i j)).toNat : Nat) : Int) := by have := Nat.two_pow_pos (-(min i j)).toNat; omega
 refine ⟨_, _, _, rfl, by omega, ?_, ?_⟩
 ·
  simp only [htot]
  rw [Int.natAbs_mul, Int.natAbs_natCast]
 ·
  intro hne
  simp only [htot] at hne ⊢
  have hz : ¬ (a + b) * ((2 ^ (-(min i j)).toNat : Nat) : Int) = 0 := by
   intro h
   rw [h] at hne
   simp at hne
  rw [if_neg hz, decide_eq_true_eq]
  constructor
  ·
   intro h
   exact Int.not_le.1 fun hc => by have := Int.mul_nonneg hc (Int.le_of_lt hp); omega
  ·
   intro h
   exact Int.mul_neg_of_neg_of_pos h hp
theorem product_is {s t : Bool} {m n : Nat} {i j a b : Int} (h : Is s m i a) (k : Is t n j b) : ∃ u p e, Datum.product (.number s m i) (.number t n j) = some (.number u p e) ∧ Is u p e (a * b) := by
 obtain ⟨h1, h2, h3⟩ := h
 obtain ⟨k1, k2, k3⟩ := k
 refine ⟨_, _, _, rfl, by omega, ?_, ?_⟩
 ·
  rw [h2, k2, Int.natAbs_mul, show (-(i + j)).toNat = (-i).toNat + (-j).toNat by omega, Nat.pow_add]
  rw [Nat.mul_mul_mul_comm]
 ·
  intro hne
  have hm : m ≠ 0 := fun h => hne (by rw [h, Nat.zero_mul])
  have hn : n ≠ 0 := fun h => hne (by rw [h, Nat.mul_zero])
  have hs := h3 hm
  have ht := k3 hn
  have ha : a ≠ 0 := fun h => hm (by rw [h2, h]; simp)
  have hb : b ≠ 0 := fun h => hn (by rw [k2, h]; simp)
  rcases Int.lt_or_gt_of_ne ha with ha | ha <;> rcases Int.lt_or_gt_of_ne hb with hb | hb
  ·
   have e1 := hs.2 ha
   have e2 := ht.2 hb
   have := Int.mul_pos_of_neg_of_neg ha hb
   simp [e1, e2]; omega
  ·
   have e1 := hs.2 ha
   have e2 : t = false := by cases t with | false => rfl | true => exact absurd (ht.1 rfl) (by omega)
   have := Int.mul_neg_of_neg_of_pos ha hb
   simp [e1, e2]; omega
  ·
   have e1 : s = false := by cases s with | false => rfl | true => exact absurd (hs.1 rfl) (by omega)
   have e2 := ht.2 hb
   have := Int.mul_neg_of_pos_of_neg ha hb
   simp [e1, e2]; omega
  ·
   have e1 : s = false := by cases s with | false => rfl | true => exact absurd (hs.1 rfl) (by omega)
   have e2 : t = false := by cases t with | false => rfl | true => exact absurd (ht.1 rfl) (by omega)
   have := Int.mul_pos ha hb
   simp [e1, e2]; omega
theorem opposite_is {s : Bool} {m : Nat} {e n : Int} (h : Is s m e n) : Is (!s) m e (-n) := by
 obtain ⟨h1, h2, h3⟩ := h
 refine ⟨h1, by rw [Int.natAbs_neg]; exact h2, fun hne => ?_⟩
 have hs := h3 hne
 have hn : n ≠ 0 := fun h => hne (by rw [h2, h]; simp)
 cases s with
 | true => have := hs.1 rfl; simp; omega
 | false =>
  have : ¬ n < 0 := fun h => by have := hs.2 h; cases this
  simp; omega
theorem toInt_is {s : Bool} {m : Nat} {e n : Int} (h : Is s m e n) : (Datum.number s m e).toInt .zero = some n := by
 obtain ⟨he, hm, hs⟩ := h
 have hcut : Toward.zero.cut s (m <<< e.toNat) (-e).toNat = n.natAbs := by
  have e1 : e.toNat = 0 := by omega
  rw [e1, Nat.shiftLeft_zero, hm]
  refine cut_exact .zero s n.natAbs (-e).toNat ?_
  by_cases hn : n.natAbs = 0
  ·
   exact .inl hn
  ·
   refine .inr ?_
   rw [log2_shift hn]; omega
 unfold Datum.toInt Datum.integral
 simp only [hcut]
 unfold signed
 rw [Nat.shiftLeft_zero]
 by_cases hm0 : m = 0
 ·
  have hn0 : n = 0 := by
   rw [hm0] at hm
   have hp := Nat.two_pow_pos (-e).toNat
   rcases Nat.mul_eq_zero.1 hm.symm with h | h
   ·
    omega
   ·
    omega
  subst hn0
  cases s <;> rfl
 ·
  have hs := hs hm0
  by_cases hn : n < 0
  ·
   rw [if_pos (hs.2 hn)]; congr 1; omega
  ·
   rw [if_neg (fun h => hn (hs.1 h))]; congr 1; omega
theorem ofInt_is (n : Int) (hn : n.natAbs < 2 ^ 53) : IsF (FloatKind.nearest .f64 n) n := write_is (is_int n) hn
theorem mul_isF {x y : Nat} {a b : Int} (h : IsF x a) (k : IsF y b) (hn : (a * b).natAbs < 2 ^ 53) : ∃ r, floatBits .mul .f64 x y = some r ∧ IsF r (a * b) := by
 obtain ⟨s, m, e, hr, hi⟩ := h
 obtain ⟨t, n, j, kr, ki⟩ := k
 obtain ⟨u, p, q, hp, hq⟩ := product_is hi ki
 exact ⟨_, by show double.mul x y = _; unfold Format.mul; rw [hr, kr, hp]; rfl, write_is hq hn⟩
theorem add_isF {x y : Nat} {a b : Int} (h : IsF x a) (k : IsF y b) (hn : (a + b).natAbs < 2 ^ 53) : ∃ r, floatBits .add .f64 x y = some r ∧ IsF r (a + b) := by
 obtain ⟨s, m, e, hr, hi⟩ := h
 obtain ⟨t, n, j, kr, ki⟩ := k
 obtain ⟨u, p, q, hp, hq⟩ := sum_is hi ki
 exact ⟨_, by show double.add x y = _; unfold Format.add; rw [hr, kr, hp]; rfl, write_is hq hn⟩
theorem sub_isF {x y : Nat} {a b : Int} (h : IsF x a) (k : IsF y b) (hn : (a - b).natAbs < 2 ^ 53) : ∃ r, floatBits .sub .f64 x y = some r ∧ IsF r (a - b) := by
 obtain ⟨s, m, e, hr, hi⟩ := h
 obtain ⟨t, n, j, kr, ki⟩ := k
 obtain ⟨u, p, q, hp, hq⟩ := sum_is hi (opposite_is ki)
 rw [← Int.sub_eq_add_neg] at hq
 exact ⟨_, by show double.sub x y = _; unfold Format.sub; rw [hr, kr]; show (Datum.sum _ (.number (!t) n j)).map _ = _; rw [hp]; rfl, write_is hq hn⟩
def IsC (x y : Nat) (a b : Int) : Prop := IsF x a ∧ IsF y b
theorem cmul_isC {x y z t : Nat} {a b c d : Int} (h : IsC x y a b) (k : IsC z t c d) (h1 : (a * c).natAbs < 2 ^ 51) (h2 : (b * d).natAbs < 2 ^ 51) (h3 : (a * d).natAbs < 2 ^ 51) (h4 : (b * c).natAbs < 2 ^ 51) :
  ∃ re im, cMulBits x y z t = some (re, im) ∧ IsC re im (a * c - b * d) (a * d + b * c) := by
 obtain ⟨r1, e1, f1⟩ := mul_isF h.1 k.1 (by omega)
 obtain ⟨r2, e2, f2⟩ := mul_isF h.2 k.2 (by omega)
 obtain ⟨r3, e3, f3⟩ := sub_isF f1 f2 (by omega)
 obtain ⟨r4, e4, f4⟩ := mul_isF h.1 k.2 (by omega)
 obtain ⟨r5, e5, f5⟩ := mul_isF h.2 k.1 (by omega)
 obtain ⟨r6, e6, f6⟩ := add_isF f4 f5 (by omega)
 exact ⟨r3, r6, by unfold cMulBits; rw [e1, e2, Option.bind_some, Option.bind_some, e3, Option.bind_some, e4, Option.bind_some, e5, Option.bind_some, e6]; rfl, f3, f6⟩
theorem csub_isC {x y z t : Nat} {a b c d : Int} (h : IsC x y a b) (k : IsC z t c d) (h1 : (a - c).natAbs < 2 ^ 53) (h2 : (b - d).natAbs < 2 ^ 53) :
  ∃ re im, cSumBits .sub .f64 x y z t = some (re, im) ∧ IsC re im (a - c) (b - d) := by
 obtain ⟨r1, e1, f1⟩ := sub_isF h.1 k.1 h1
 obtain ⟨r2, e2, f2⟩ := sub_isF h.2 k.2 h2
 exact ⟨r1, r2, by unfold cSumBits; rw [e1, Option.bind_some, e2]; rfl, f1, f2⟩
theorem toInt_isF {x : Nat} {a : Int} (h : IsF x a) (h1 : -9223372036854775808 ≤ a) (h2 : a ≤ 9223372036854775807) : floatToIntVal .f64 x .i64 = some a := by
 obtain ⟨s, m, e, hr, hi⟩ := h
 have e1 : (FloatKind.decode .f64 x).toInt .zero = some a := by
  show (double.read x).toInt .zero = some a
  rw [hr]
  exact toInt_is hi
 unfold floatToIntVal
 rw [e1]
 exact if_pos ⟨h1, h2⟩
end Go.Proofs.YtejbpnhondpnfaaGreat
namespace Go.Proofs.YtejbpnhondpnfaaGreat
structure Pt where
 x : Int
 y : Int
 deriving DecidableEq
namespace Pt
def mul (a b : Pt) : Pt := ⟨a.x * b.x - a.y * b.y, a.x * b.y + a.y * b.x⟩
def sub (a b : Pt) : Pt := ⟨a.x - b.x, a.y - b.y⟩
def norm (a : Pt) : Int := a.x * a.x + a.y * a.y
def zero : Pt := ⟨0, 0⟩
theorem ext' {a b : Pt} (h : a.x = b.x) (k : a.y = b.y) : a = b := by cases a; cases b; simp at h k; rw [h, k]
theorem norm_nonneg (a : Pt) : 0 ≤ a.norm := by
 unfold norm
 have h1 : 0 ≤ a.x * a.x := by rcases Int.le_total 0 a.x with h | h; exact Int.mul_nonneg h h; exact Int.mul_nonneg_of_nonpos_of_nonpos h h
 have h2 : 0 ≤ a.y * a.y := by rcases Int.le_total 0 a.y with h | h; exact Int.mul_nonneg h h; exact Int.mul_nonneg_of_nonpos_of_nonpos h h
 omega
end Pt
theorem sq_nonneg (x : Int) : 0 ≤ x * x := by rcases Int.le_total 0 x with h | h; exact Int.mul_nonneg h h; exact Int.mul_nonneg_of_nonpos_of_nonpos h h
theorem sq_zero {x : Int} (h : x * x = 0) : x = 0 := by rcases Int.mul_eq_zero.1 h with h | h <;> exact h
theorem Pt.norm_zero {a : Pt} (h : a.norm = 0) : a = Pt.zero := by
 unfold Pt.norm at h
 have h1 := sq_nonneg a.x
 have h2 := sq_nonneg a.y
 exact Pt.ext' (sq_zero (by omega)) (sq_zero (by omega))
theorem Pt.norm_pos {a : Pt} (h : a ≠ Pt.zero) : 0 < a.norm := by
 have := a.norm_nonneg
 rcases Int.lt_or_eq_of_le this with h1 | h1
 ·
  exact h1
 ·
  exact absurd (Pt.norm_zero h1.symm) h
def near (n b : Int) : Int := (2 * n + b) / (2 * b)
theorem near_err (n : Int) {b : Int} (h : 0 < b) : -b ≤ 2 * (n - near n b * b) ∧ 2 * (n - near n b * b) ≤ b := by
 unfold near
 have h1 := Int.emod_nonneg (2 * n + b) (show 2 * b ≠ 0 by omega)
 have h2 := Int.emod_lt_of_pos (2 * n + b) (show 0 < 2 * b by omega)
 have h3 := Int.mul_ediv_add_emod (2 * n + b) (2 * b)
 obtain ⟨q, hq⟩ : ∃ q, q = (2 * n + b) / (2 * b) := ⟨_, rfl⟩
 rw [← hq] at h3 ⊢
 have h4 : 2 * b * q = 2 * (q * b) := by grind
 omega
def conjMul (a b : Pt) : Pt := ⟨a.x * b.x - a.y * (-b.y), a.x * (-b.y) + a.y * b.x⟩
def quoG (a b : Pt) : Pt := ⟨near (conjMul a b).x b.norm, near (conjMul a b).y b.norm⟩
def remG (a b : Pt) : Pt := a.sub ((quoG a b).mul b)
theorem sq_half {e n : Int} (h1 : -n ≤ 2 * e) (h2 : 2 * e ≤ n) (hn : 0 ≤ n) : 4 * (e * e) ≤ n * n := by
 have h3 : 0 ≤ (n - 2 * e) * (n + 2 * e) := Int.mul_nonneg (by omega) (by omega)
 have h4 : (n - 2 * e) * (n + 2 * e) = n * n - 4 * (e * e) := by grind
 omega
theorem rem_norm (a : Pt) {b : Pt} (hb : b ≠ Pt.zero) : 2 * (remG a b).norm ≤ b.norm := by
 have hn := Pt.norm_pos hb
 have e1 := near_err (conjMul a b).x hn
 have e2 := near_err (conjMul a b).y hn
 obtain ⟨n, hnn⟩ : ∃ n, n = b.norm := ⟨_, rfl⟩
 obtain ⟨p, hp⟩ : ∃ p, p = near (conjMul a b).x b.norm := ⟨_, rfl⟩
 obtain ⟨q, hq⟩ : ∃ q, q = near (conjMul a b).y b.norm := ⟨_, rfl⟩
 rw [← hp] at e1
 rw [← hq] at e2
 have f1 := sq_half e1.1 e1.2 (by omega)
 have f2 := sq_half e2.1 e2.2 (by omega)
 have key : (remG a b).norm * b.norm = ((conjMul a b).x - p * b.norm) * ((conjMul a b).x - p * b.norm) + ((conjMul a b).y - q * b.norm) * ((conjMul a b).y - q * b.norm) := by
  unfold remG quoG
  rw [← hp, ← hq]
  unfold Pt.norm Pt.sub Pt.mul conjMul
  grind
 have hn' : 0 < n := by rw [hnn]; exact hn
 rw [← hnn] at key f1 f2 ⊢
 have h5 : 2 * (2 * ((remG a b).norm * n)) ≤ 2 * (n * n) := by omega
 have h6 : (2 * (remG a b).norm) * n ≤ n * n := by
  have : (2 * (remG a b).norm) * n = 2 * ((remG a b).norm * n) := by grind
  omega
 exact Int.le_of_mul_le_mul_right h6 hn'
def gcdG (a b : Pt) : Pt := if h : b = Pt.zero then a else gcdG b (remG a b)
termination_by b.norm.toNat
decreasing_by
 have h1 := rem_norm a h
 have h2 := Pt.norm_pos h
 have h3 := (remG a b).norm_nonneg
 omega
theorem gcdG_step (a : Pt) {b : Pt} (h : b ≠ Pt.zero) : gcdG a b = gcdG b (remG a b) := by rw [gcdG, dif_neg h]
theorem gcdG_end (a : Pt) : gcdG a Pt.zero = a := by rw [gcdG, dif_pos rfl]
def rot (a : Pt) : Pt := ⟨-a.y, a.x⟩
def quad (a : Pt) : Bool := decide (0 < a.x) && decide (0 ≤ a.y)
def nrmF : Nat → Pt → Pt
 | 0, a => a
 | k + 1, a => if a = Pt.zero ∨ quad a = true then a else nrmF k (rot a)
theorem quad_iff (a : Pt) : quad a = true ↔ 0 < a.x ∧ 0 ≤ a.y := by unfold quad; simp
def comG (a b : Pt) : Pt := nrmF 3 (gcdG a b)
def inP (a : Pt) : Prop := (-16777216 ≤ a.x ∧ a.x ≤ 16777216) ∧ (-16777216 ≤ a.y ∧ a.y ≤ 16777216)
theorem small_of_norm {a : Pt} (h : a.norm ≤ 16777216 * 16777216) : inP a := by
 unfold Pt.norm at h
 have h1 := sq_nonneg a.x
 have h2 := sq_nonneg a.y
 have lim : ∀ z : Int, z * z ≤ 16777216 * 16777216 → -16777216 ≤ z ∧ z ≤ 16777216 := by
  intro z hz
  refine ⟨?_, ?_⟩
  ·
   exact Int.not_lt.1 fun hc => by
    have := Int.mul_le_mul (show 16777217 ≤ -z by omega) (show 16777217 ≤ -z by omega) (by omega) (by omega)
    rw [Int.neg_mul_neg] at this; omega
  ·
   exact Int.not_lt.1 fun hc => by
    have := Int.mul_le_mul (show 16777217 ≤ z by omega) (show 16777217 ≤ z by omega) (by omega) (by omega)
    omega
 exact ⟨lim _ (by omega), lim _ (by omega)⟩
theorem norm_of_small {a : Pt} (h : inP a) : a.norm ≤ 2 * (16777216 * 16777216) := by
 have lim : ∀ z : Int, -16777216 ≤ z → z ≤ 16777216 → z * z ≤ 16777216 * 16777216 := by
  intro z h1 h2
  have h3 : 0 ≤ (16777216 - z) * (16777216 + z) := Int.mul_nonneg (by omega) (by omega)
  have h4 : (16777216 - z) * (16777216 + z) = 16777216 * 16777216 - z * z := by grind
  omega
 have h1 := lim a.x h.1.1 h.1.2
 have h2 := lim a.y h.2.1 h.2.2
 unfold Pt.norm
 omega
end Go.Proofs.YtejbpnhondpnfaaGreat
namespace Go.Proofs.YtejbpnhondpnfaaGreat
open Go.RowKit
theorem inside_any (n : Int) (w : World) : Calls Tryz.prog 125 #[.int .i64 n] w fun e w' => e = .returned (.bool (decide (-16777216 ≤ n) && decide (n ≤ 16777216))) ∧ w = w' := by
 go_enter Tryz.func125, Tryz.ntmps125
 by_cases h : -16777216 ≤ n
 ·
  go_wp2
  go_ret
  exact ⟨by simp [h], rfl⟩
 ·
  go_wp2
  go_ret
  exact ⟨by rw [decide_eq_false (show ¬ -16777216 ≤ n by omega)]; rfl, rfl⟩
def ptR (x y : Int) : Bool := (decide (-16777216 ≤ x) && decide (x ≤ 16777216)) && (decide (-16777216 ≤ y) && decide (y ≤ 16777216))
def ptV (x y : Int) : Value := .agg #[.int .i64 x, .int .i64 y]
theorem two_cells {w : World} {g : Nat} {v0 v1 : Value} {t : TypeId} {fz : Nat × Nat} (h : w.heap[g]? = some (.cells #[v0, v1] t fz)) : w.cell? ⟨g, 0, none⟩ = some v0 ∧ w.cell? ⟨g, 1, none⟩ = some v1 := by
 simp [World.cell?, h]
theorem gright_any (x y : Int) (w : World) : Calls Tryz.prog 85 #[ptV x y] w fun e w' => e = .returned (.bool (ptR x y)) ∧ Below w.heap.size w w' := by
 unfold ptV ptR
 have hB : Below w.heap.size w (w.alloc (.cells #[.int .i64 x, .int .i64 y] 43)) := (Below.refl _ w).alloc (Nat.le_refl _) _
 cases h : (decide (-16777216 ≤ x) && decide (x ≤ 16777216)) with
 | true =>
  have h1 := Lib.hid (inside_any x)
  rw [h] at h1
  have h2 := Lib.hid (inside_any y)
  clear h
  go_enter Tryz.func85, Tryz.ntmps85
  go_wp2_with fail
  refine (h1.out _).mono ?_
  rintro e w' ⟨rfl, rfl⟩
  go_wp2_with fail
  refine (h2.out _).mono ?_
  rintro e w' ⟨rfl, rfl⟩
  go_wp2_with fail
  go_ret
  exact ⟨by simp, hB⟩
 | false =>
  have h1 := Lib.hid (inside_any x)
  rw [h] at h1
  clear h
  go_enter Tryz.func85, Tryz.ntmps85
  go_wp2_with fail
  refine (h1.out _).mono ?_
  rintro e w' ⟨rfl, rfl⟩
  go_wp2_with fail
  go_ret
  exact ⟨by simp, hB⟩
theorem number_any (x y : Int) (w : World) : Calls Tryz.prog 165 #[ptV x y] w fun e w' => e = .returned (.complex .f64 (FloatKind.nearest .f64 x) (FloatKind.nearest .f64 y)) ∧ Below w.heap.size w w' := by
 unfold ptV
 have hB : Below w.heap.size w (w.alloc (.cells #[.int .i64 x, .int .i64 y] 43)) := (Below.refl _ w).alloc (Nat.le_refl _) _
 go_enter Tryz.func165, Tryz.ntmps165
 go_wp2_with fail
 go_ret
 exact ⟨rfl, hB⟩
theorem norm_any (x y : Int) (h : ((x * x + y * y : Int)) ≤ 9007199254740991) (w : World) : Calls Tryz.prog 166 #[ptV x y] w fun e w' => e = .returned (.int .i64 (Pt.norm ⟨x, y⟩)) ∧ Below w.heap.size w w' := by
 unfold ptV
 have hB : Below w.heap.size w (w.alloc (.cells #[.int .i64 x, .int .i64 y] 43)) := (Below.refl _ w).alloc (Nat.le_refl _) _
 have h1 := sq_nonneg x
 have h2 := sq_nonneg y
 have e1 : IntKind.i64.wrap (x * x) = x * x := by rw [IntKind.wrap_i64]; omega
 have e2 : IntKind.i64.wrap (y * y) = y * y := by rw [IntKind.wrap_i64]; omega
 have e3 : IntKind.i64.wrap (x * x + y * y) = x * x + y * y := by rw [IntKind.wrap_i64]; omega
 go_enter Tryz.func166, Tryz.ntmps166
 go_wp2_with fail
 go_ret
 exact ⟨rfl, hB⟩
theorem near_parts (q d : Int) (h : 0 < d) : (0 ≤ q.tmod d ∧ q.tdiv d = q / d) ∨ (q.tmod d < 0 ∧ q.tdiv d - 1 = q / d) := by
 have h1 := Int.tmod_add_mul_tdiv q d
 have h2 := Int.tmod_lt_of_pos q h
 have h3 := Int.lt_tmod_of_pos q h
 have h4 := Int.emod_nonneg q (show d ≠ 0 by omega)
 have h5 := Int.emod_lt_of_pos q h
 have h6 := Int.mul_ediv_add_emod q d
 by_cases h7 : 0 ≤ q.tmod d
 ·
  refine .inl ⟨h7, ?_⟩
  have e : d * (q.tdiv d - q / d) = q % d - q.tmod d := by grind
  have : q.tdiv d - q / d = 0 := by
   by_cases c1 : 1 ≤ q.tdiv d - q / d
   ·
    have := Int.mul_le_mul_of_nonneg_left c1 (Int.le_of_lt h); omega
   ·
    by_cases c2 : q.tdiv d - q / d ≤ -1
    ·
     have := Int.mul_le_mul_of_nonneg_left c2 (Int.le_of_lt h); omega
    ·
     omega
  omega
 ·
  refine .inr ⟨by omega, ?_⟩
  have e : d * (q.tdiv d - q / d) = q % d - q.tmod d := by grind
  have : q.tdiv d - q / d = 1 := by
   by_cases c1 : 2 ≤ q.tdiv d - q / d
   ·
    have := Int.mul_le_mul_of_nonneg_left c1 (Int.le_of_lt h); omega
   ·
    by_cases c2 : q.tdiv d - q / d ≤ 0
    ·
     have := Int.mul_le_mul_of_nonneg_left c2 (Int.le_of_lt h); omega
    ·
     omega
  omega
theorem nearest_any (n b : Int) (h0 : 0 < b) (h1 : b ≤ 9007199254740991) (h2 : -9007199254740991 ≤ n) (h3 : n ≤ 9007199254740991) (w : World) :
  Calls Tryz.prog 167 #[.int .i64 n, .int .i64 b] w fun e w' => e = .returned (.int .i64 (near n b)) ∧ w = w' := by
 unfold near
 have hp := near_parts (2 * n + b) (2 * b) (by omega)
 obtain ⟨q, hq⟩ : ∃ q, q = 2 * n + b := ⟨_, rfl⟩
 obtain ⟨d, hd⟩ : ∃ d, d = 2 * b := ⟨_, rfl⟩
 rw [← hq, ← hd] at hp ⊢
 have e1 : IntKind.i64.wrap (2 * n) = 2 * n := by rw [IntKind.wrap_i64]; omega
 have e2 : 2 * n + b = q := hq.symm
 have e3 : IntKind.i64.wrap q = q := by rw [IntKind.wrap_i64]; omega
 have e4 : 2 * b = d := hd.symm
 have e5 : IntKind.i64.wrap d = d := by rw [IntKind.wrap_i64]; omega
 have hd0 : (d == 0) = false := by rw [beq_eq_false_iff_ne]; omega
 have hdm : (d == -1) = false := by rw [beq_eq_false_iff_ne]; omega
 have b1 := Int.natAbs_tdiv_le_natAbs q d
 clear hq hd
 rcases hp with ⟨p1, p2⟩ | ⟨p1, p2⟩
 ·
  rw [← p2]
  have HP := Lib.hid p2
  clear p2
  go_enter Tryz.func167, Tryz.ntmps167
  go_wp2_with fail
  go_ret
  exact ⟨rfl, rfl⟩
 ·
  have e6 : IntKind.i64.wrap (q.tdiv d - 1) = q / d := by rw [IntKind.wrap_i64]; omega
  have e7 : IntKind.i64.wrap (q.tdiv d) = q.tdiv d := by rw [IntKind.wrap_i64]; omega
  have HP := Lib.hid p2
  clear p2 b1
  go_enter Tryz.func167, Tryz.ntmps167
  go_wp2_with fail
  go_ret
  exact ⟨rfl, rfl⟩
theorem near_small {n b C : Int} (h : 0 < b) (h1 : -(C * b) ≤ n) (h2 : n ≤ C * b) : -C ≤ near n b ∧ near n b ≤ C := by
 have he := near_err n h
 generalize near n b = q at he ⊢
 constructor
 ·
  by_cases c : q ≤ -C - 1
  ·
   have := Int.mul_le_mul_of_nonneg_right c (Int.le_of_lt h)
   have e : (-C - 1) * b = -(C * b) - b := by grind
   omega
  ·
   omega
 ·
  by_cases c : C + 1 ≤ q
  ·
   have := Int.mul_le_mul_of_nonneg_right c (Int.le_of_lt h)
   have e : (C + 1) * b = C * b + b := by grind
   omega
  ·
   omega
theorem abs_le_sq (x : Int) : x ≤ x * x ∧ -x ≤ x * x := by
 by_cases h : x = 0
 ·
  subst h; omega
 ·
  by_cases c : 1 ≤ x
  ·
   have := Int.mul_le_mul_of_nonneg_left c (show 0 ≤ x by omega); have := sq_nonneg x; omega
  ·
   have := Int.mul_le_mul_of_nonneg_left (show 1 ≤ -x by omega) (show 0 ≤ -x by omega)
   have e : (-x) * (-x) = x * x := by grind
   omega
theorem mul_bound {x y A B : Int} (h1 : -A ≤ x) (h2 : x ≤ A) (k1 : -B ≤ y) (k2 : y ≤ B) : -(A * B) ≤ x * y ∧ x * y ≤ A * B := by
 have a := Int.mul_nonneg (show 0 ≤ A - x by omega) (show 0 ≤ B - y by omega)
 have b := Int.mul_nonneg (show 0 ≤ A + x by omega) (show 0 ≤ B + y by omega)
 have c := Int.mul_nonneg (show 0 ≤ A - x by omega) (show 0 ≤ B + y by omega)
 have d := Int.mul_nonneg (show 0 ≤ A + x by omega) (show 0 ≤ B - y by omega)
 have e1 : (A - x) * (B - y) = A * B - A * y - x * B + x * y := by grind
 have e2 : (A + x) * (B + y) = A * B + A * y + x * B + x * y := by grind
 have e3 : (A - x) * (B + y) = A * B + A * y - x * B - x * y := by grind
 have e4 : (A + x) * (B - y) = A * B - A * y + x * B - x * y := by grind
 omega
theorem quoG_small {a b : Pt} (ha : inP a) (hb : b ≠ Pt.zero) : (-33554432 ≤ (quoG a b).x ∧ (quoG a b).x ≤ 33554432) ∧ (-33554432 ≤ (quoG a b).y ∧ (quoG a b).y ≤ 33554432) := by
 have hp := Pt.norm_pos hb
 obtain ⟨⟨a1, a2⟩, a3, a4⟩ := ha
 have sx := abs_le_sq b.x
 have sy := abs_le_sq b.y
 have hN : b.norm = b.x * b.x + b.y * b.y := rfl
 have m1 := mul_bound a1 a2 (show -(b.x * b.x) ≤ b.x by omega) (show b.x ≤ b.x * b.x by omega)
 have m2 := mul_bound a3 a4 (show -(b.y * b.y) ≤ b.y by omega) (show b.y ≤ b.y * b.y by omega)
 have m3 := mul_bound a1 a2 (show -(b.y * b.y) ≤ b.y by omega) (show b.y ≤ b.y * b.y by omega)
 have m4 := mul_bound a3 a4 (show -(b.x * b.x) ≤ b.x by omega) (show b.x ≤ b.x * b.x by omega)
 have q1 := sq_nonneg b.x
 have q2 := sq_nonneg b.y
 have e1 : a.y * (-b.y) = -(a.y * b.y) := by grind
 have e2 : a.x * (-b.y) = -(a.x * b.y) := by grind
 unfold quoG conjMul
 exact ⟨near_small hp (by simp only [e1]; omega) (by simp only [e1]; omega), near_small hp (by simp only [e2]; omega) (by simp only [e2]; omega)⟩
theorem abs_of {x A : Int} {N : Nat} (h : -A ≤ x ∧ x ≤ A) (hN : A < N) : x.natAbs < N := by omega
structure PD (a b : Pt) (w W : World) : Prop where
 below : Below w.heap.size w W
 a : W.heap[w.heap.size]? = some (.cells #[.int .i64 a.x, .int .i64 a.y] 43 (0, 0))
 b : W.heap[w.heap.size + 1]? = some (.cells #[.int .i64 b.x, .int .i64 b.y] 43 (0, 0))
 c : W.heap[w.heap.size + 2]? = some (.cells #[.int .i64 0, .int .i64 0] 43 (0, 0))
 d : W.heap[w.heap.size + 3]? = some (.cells #[.int .i64 0, .int .i64 0] 43 (0, 0))
theorem PD.step {a b : Pt} {w W W' : World} (h : PD a b w W) (k : Below W.heap.size W W') : PD a b w W' :=
 ⟨h.below.trans (k.mono h.below.size), (k.block _ (Array.getElem?_eq_some_iff.1 h.a).1).trans h.a, (k.block _ (Array.getElem?_eq_some_iff.1 h.b).1).trans h.b, (k.block _ (Array.getElem?_eq_some_iff.1 h.c).1).trans h.c, (k.block _ (Array.getElem?_eq_some_iff.1 h.d).1).trans h.d⟩
def ptB (x y : Int) : Obj := .cells #[.int .i64 x, .int .i64 y] 43 (0, 0)
def dW (a b : Pt) (w : World) : World := (((w.alloc (ptB a.x a.y)).alloc (ptB b.x b.y)).alloc (ptB 0 0)).alloc (ptB 0 0)
theorem dW_pd (a b : Pt) (w : World) : PD a b w (dW a b w) := by
 have h : (dW a b w).heap = (((w.heap.push (ptB a.x a.y)).push (ptB b.x b.y)).push (ptB 0 0)).push (ptB 0 0) := rfl
 refine ⟨((((Below.refl _ w).alloc (Nat.le_refl _) _).alloc (by rw [World.size_alloc]; omega) _).alloc (by rw [World.size_alloc, World.size_alloc]; omega) _).alloc (by rw [World.size_alloc, World.size_alloc, World.size_alloc]; omega) _, ?_, ?_, ?_, ?_⟩ <;> rw [h]
 ·
  rw [Array.getElem?_push_lt (by rw [Array.size_push, Array.size_push, Array.size_push]; omega), ← Array.getElem?_eq_getElem, Array.getElem?_push_lt (by rw [Array.size_push, Array.size_push]; omega), ← Array.getElem?_eq_getElem, Array.getElem?_push_lt (by rw [Array.size_push]; omega), ← Array.getElem?_eq_getElem, Array.getElem?_push_size]; rfl
 ·
  rw [Array.getElem?_push_lt (by rw [Array.size_push, Array.size_push, Array.size_push]; omega), ← Array.getElem?_eq_getElem, Array.getElem?_push_lt (by rw [Array.size_push, Array.size_push]; omega), ← Array.getElem?_eq_getElem]
  have := Array.getElem?_push_size (xs := w.heap.push (ptB a.x a.y)) (x := ptB b.x b.y)
  rw [Array.size_push] at this; exact this
 ·
  rw [Array.getElem?_push_lt (by simp), ← Array.getElem?_eq_getElem]
  have := Array.getElem?_push_size (xs := (w.heap.push (ptB a.x a.y)).push (ptB b.x b.y)) (x := ptB 0 0)
  rw [Array.size_push, Array.size_push] at this; exact this
 ·
  have := Array.getElem?_push_size (xs := ((w.heap.push (ptB a.x a.y)).push (ptB b.x b.y)).push (ptB 0 0)) (x := ptB 0 0)
  rw [Array.size_push, Array.size_push, Array.size_push] at this; exact this
theorem below_drew (w : World) : Below w.heap.size w w.drew := ⟨rfl, rfl, rfl, Nat.le_refl _, fun _ _ => rfl⟩
theorem PD.cells {a b : Pt} {w W : World} (h : PD a b w W) : (W.cell? ⟨w.heap.size, 0, none⟩ = some (.int .i64 a.x) ∧ W.cell? ⟨w.heap.size, 1, none⟩ = some (.int .i64 a.y)) ∧ (W.cell? ⟨w.heap.size + 1, 0, none⟩ = some (.int .i64 b.x) ∧ W.cell? ⟨w.heap.size + 1, 1, none⟩ = some (.int .i64 b.y)) :=
 ⟨two_cells h.a, two_cells h.b⟩
structure PQ (a b q : Pt) (w : World) (g : Nat) (W : World) : Prop where
 pd : PD a b w W
 q : W.heap[g]? = some (.cells #[.int .i64 q.x, .int .i64 q.y] 43 (0, 0))
theorem PQ.step {a b q : Pt} {w : World} {g : Nat} {W W' : World} (h : PQ a b q w g W) (k : Below W.heap.size W W') : PQ a b q w g W' :=
 ⟨h.pd.step k, (k.block _ (Array.getElem?_eq_some_iff.1 h.q).1).trans h.q⟩
theorem PQ.cells {a b q : Pt} {w W : World} {g : Nat} (h : PQ a b q w g W) : (W.cell? ⟨w.heap.size, 0, none⟩ = some (.int .i64 a.x) ∧ W.cell? ⟨w.heap.size, 1, none⟩ = some (.int .i64 a.y)) ∧ (W.cell? ⟨w.heap.size + 1, 0, none⟩ = some (.int .i64 b.x) ∧ W.cell? ⟨w.heap.size + 1, 1, none⟩ = some (.int .i64 b.y)) ∧ (W.cell? ⟨g, 0, none⟩ = some (.int .i64 q.x) ∧ W.cell? ⟨g, 1, none⟩ = some (.int .i64 q.y)) :=
 ⟨two_cells h.pd.a, two_cells h.pd.b, two_cells h.q⟩
theorem set_two {w : World} {g : Nat} {t : TypeId} {v0 v1 : Value} (u0 u1 : Value) (h : w.heap[g]? = some (.cells #[v0, v1] t (0, 0))) : ((w.setCell ⟨g, 0, none⟩ u0).setCell ⟨g, 1, none⟩ u1).heap[g]? = some (.cells #[u0, u1] t (0, 0)) :=
 heap_setCell_same _ g 1 #[u0, v1] t u1 (heap_setCell_same w g 0 #[v0, v1] t u0 h)
theorem set_two_far {w : World} {g k : Nat} {o : Option Obj} (u0 u1 : Value) (hk : k ≠ g) (h : w.heap[k]? = o) : ((w.setCell ⟨g, 0, none⟩ u0).setCell ⟨g, 1, none⟩ u1).heap[k]? = o :=
 ((Below.heap_setCell _ ⟨g, 1, none⟩ u1 k hk).trans (Below.heap_setCell _ ⟨g, 0, none⟩ u0 k hk)).trans h
theorem results_cell_cell {P : Program} {fn : Func} {p q : Tmp} {ty : TypeId} (h : fn.results = #[.cell p ty, .cell q ty]) (tmps : Array Value) (w : World) (g k : Nat) (t : TypeId) (cs ds : Array Value) (d : TypeDesc)
  (hp : tmps.getD p undef = .pointer (some ⟨g, 0, none⟩)) (hq : tmps.getD q undef = .pointer (some ⟨k, 0, none⟩)) (hg : w.heap[g]? = some (.cells cs t (0, 0))) (hk : w.heap[k]? = some (.cells ds t (0, 0)))
  (hu : P.underlying ty = some d) (hd : (match d with | .struct _ | .array _ _ => true | _ => false) = true) (hi : (P.info? ty).map (·.size) = some cs.size) (hj : (P.info? ty).map (·.size) = some ds.size) :
  (results fn tmps).run P w = .ok (.tuple #[.agg cs, .agg ds]) w := by
 have hp' : tmps[p]?.getD undef = .pointer (some ⟨g, 0, none⟩) := by simpa using hp
 have hq' : tmps[q]?.getD undef = .pointer (some ⟨k, 0, none⟩) := by simpa using hq
 simp [results, h, hp', hq', asAddr, run_loadVar_row w g t ty cs (0, 0) d hg hu hd hi, run_loadVar_row w k t ty ds (0, 0) d hk hu hd hj]
set_option maxHeartbeats 8000000 in
theorem div_any (a b : Pt) (ha : inP a) (hb : inP b) (h0 : b ≠ Pt.zero) (w : World) : Calls Tryz.prog 128 #[ptV a.x a.y, ptV b.x b.y] w fun e w' =>
  e = .returned (.tuple #[ptV (quoG a b).x (quoG a b).y, ptV (remG a b).x (remG a b).y]) ∧ Below w.heap.size w w' := by
 have hpos := Pt.norm_pos h0
 have hnrm := norm_of_small hb
 have hq := quoG_small ha h0
 obtain ⟨⟨a1, a2⟩, a3, a4⟩ := id ha
 obtain ⟨⟨b1, b2⟩, b3, b4⟩ := id hb
 have fax := ofInt_is a.x (by omega)
 have fay := ofInt_is a.y (by omega)
 have fbx := ofInt_is b.x (by omega)
 have fby := ofInt_is b.y (by omega)
 have fbn := ofInt_is (-b.y) (by omega)
 have m1 := mul_bound a1 a2 b1 b2
 have m2 := mul_bound a3 a4 (show -16777216 ≤ -b.y by omega) (show -b.y ≤ 16777216 by omega)
 have m3 := mul_bound a1 a2 (show -16777216 ≤ -b.y by omega) (show -b.y ≤ 16777216 by omega)
 have m4 := mul_bound a3 a4 b1 b2
 obtain ⟨z1, z2, hz, fz1, fz2⟩ := cmul_isC ⟨fax, fay⟩ ⟨fbx, fbn⟩ (abs_of m1 (by decide)) (abs_of m2 (by decide)) (abs_of m3 (by decide)) (abs_of m4 (by decide))
 have t1 := toInt_isF fz1 (by omega) (by omega)
 have t2 := toInt_isF fz2 (by omega) (by omega)
 change floatToIntVal .f64 z1 .i64 = some (conjMul a b).x at t1
 change floatToIntVal .f64 z2 .i64 = some (conjMul a b).y at t2
 have cb1 : -9007199254740991 ≤ (conjMul a b).x ∧ (conjMul a b).x ≤ 9007199254740991 := by unfold conjMul; simp only; omega
 have cb2 : -9007199254740991 ≤ (conjMul a b).y ∧ (conjMul a b).y ≤ 9007199254740991 := by unfold conjMul; simp only; omega
 have hn1 := nearest_any (conjMul a b).x b.norm hpos (by omega) cb1.1 cb1.2
 have hn2 := nearest_any (conjMul a b).y b.norm hpos (by omega) cb2.1 cb2.2
 have fqx := ofInt_is (quoG a b).x (by omega)
 have fqy := ofInt_is (quoG a b).y (by omega)
 have p1 := mul_bound hq.1.1 hq.1.2 b1 b2
 have p2 := mul_bound hq.2.1 hq.2.2 b3 b4
 have p3 := mul_bound hq.1.1 hq.1.2 b3 b4
 have p4 := mul_bound hq.2.1 hq.2.2 b1 b2
 obtain ⟨y1, y2, hy, fy1, fy2⟩ := cmul_isC ⟨fqx, fqy⟩ ⟨fbx, fby⟩ (abs_of p1 (by decide)) (abs_of p2 (by decide)) (abs_of p3 (by decide)) (abs_of p4 (by decide))
 obtain ⟨x1, x2, hx, fx1, fx2⟩ := csub_isC ⟨fax, fay⟩ ⟨fy1, fy2⟩ (by omega) (by omega)
 have u1 := toInt_isF fx1 (by omega) (by omega)
 have u2 := toInt_isF fx2 (by omega) (by omega)
 change floatToIntVal .f64 x1 .i64 = some (remG a b).x at u1
 change floatToIntVal .f64 x2 .i64 = some (remG a b).y at u2
 change ∀ w, Calls Tryz.prog 167 #[.int .i64 (conjMul a b).x, .int .i64 b.norm] w fun e w' => e = .returned (.int .i64 (quoG a b).x) ∧ w = w' at hn1
 change ∀ w, Calls Tryz.prog 167 #[.int .i64 (conjMul a b).y, .int .i64 b.norm] w fun e w' => e = .returned (.int .i64 (quoG a b).y) ∧ w = w' at hn2
 have HNA := Lib.hid (show ∀ x y W, PD a b w W → Calls Tryz.prog 165 #[.agg #[.int .i64 x, .int .i64 y]] W fun e w' => e = .returned (.complex .f64 (FloatKind.nearest .f64 x) (FloatKind.nearest .f64 y)) ∧ PD a b w w' from fun x y W hW =>
  (number_any x y W).mono fun e w' ⟨he, hbl⟩ => ⟨he, hW.step hbl⟩)
 have HQA := Lib.hid (show ∀ q g x y W, PQ a b q w g W → Calls Tryz.prog 165 #[.agg #[.int .i64 x, .int .i64 y]] W fun e w' => e = .returned (.complex .f64 (FloatKind.nearest .f64 x) (FloatKind.nearest .f64 y)) ∧ PQ a b q w g w' from fun q g x y W hW =>
  (number_any x y W).mono fun e w' ⟨he, hbl⟩ => ⟨he, hW.step hbl⟩)
 have hno := norm_any b.x b.y (show b.norm ≤ 9007199254740991 by omega)
 change ∀ w, Calls Tryz.prog 166 #[ptV b.x b.y] w fun e w' => e = .returned (.int .i64 b.norm) ∧ Below w.heap.size w w' at hno
 have hneg : IntKind.i64.wrap (-b.y) = -b.y := by rw [IntKind.wrap_i64]; omega
 have M1 : ∀ W : World, (binOp .mul 219 (.complex .f64 (FloatKind.nearest .f64 a.x) (FloatKind.nearest .f64 a.y)) (.complex .f64 (FloatKind.nearest .f64 b.x) (FloatKind.nearest .f64 (-b.y)))).run Tryz.prog W = .ok (.complex .f64 z1 z2) W := fun W => run_complex_mul W _ _ _ _ _ _ _ hz
 have M2 : ∀ W : World, (binOp .mul 219 (.complex .f64 (FloatKind.nearest .f64 (quoG a b).x) (FloatKind.nearest .f64 (quoG a b).y)) (.complex .f64 (FloatKind.nearest .f64 b.x) (FloatKind.nearest .f64 b.y))).run Tryz.prog W = .ok (.complex .f64 y1 y2) W := fun W => run_complex_mul W _ _ _ _ _ _ _ hy
 have M3 : ∀ W : World, (binOp .sub 219 (.complex .f64 (FloatKind.nearest .f64 a.x) (FloatKind.nearest .f64 a.y)) (.complex .f64 y1 y2)).run Tryz.prog W = .ok (.complex .f64 x1 x2) W := fun W => run_complex_sum W _ (.inr rfl) _ _ _ _ _ _ _ _ hx
 have V1 : ∀ W : World, (convert 221 3 (.float .f64 z1)).run Tryz.prog W = .ok (.int .i64 (conjMul a b).x) W := fun W => run_convert_float_int W _ _ _ _ _ _ (by kernel_rfl) Tryz.underlying3 t1
 have V2 : ∀ W : World, (convert 221 3 (.float .f64 z2)).run Tryz.prog W = .ok (.int .i64 (conjMul a b).y) W := fun W => run_convert_float_int W _ _ _ _ _ _ (by kernel_rfl) Tryz.underlying3 t2
 have V3 : ∀ W : World, (convert 221 3 (.float .f64 x1)).run Tryz.prog W = .ok (.int .i64 (remG a b).x) W := fun W => run_convert_float_int W _ _ _ _ _ _ (by kernel_rfl) Tryz.underlying3 u1
 have V4 : ∀ W : World, (convert 221 3 (.float .f64 x2)).run Tryz.prog W = .ok (.int .i64 (remG a b).y) W := fun W => run_convert_float_int W _ _ _ _ _ _ (by kernel_rfl) Tryz.underlying3 u2
 have HNO := Lib.hid hno
 have HN1 := Lib.hid hn1
 have HN2 := Lib.hid hn2
 obtain ⟨W1, hW1⟩ : ∃ W1, W1 = dW a b w := ⟨_, rfl⟩
 have hpd : PD a b w W1 := hW1 ▸ dW_pd a b w
 have hpdd := hpd.step (below_drew W1)
 unfold dW ptB at hW1
 clear hno hn1 hn2 u1 u2 t1 t2 hx hy hz fx1 fx2 fy1 fy2 fz1 fz2 p1 p2 p3 p4 m1 m2 m3 m4 fqx fqy fax fay fbx fby fbn cb1 cb2 hq ha hb hpos hnrm h0
 generalize quoG a b = q at *
 generalize remG a b = r at *
 generalize conjMul a b = c at *
 generalize b.norm = nm at *
 unfold ptV at *
 go_enter Tryz.func128, Tryz.ntmps128
 go_wp2_with (first | (rw [← hW1]; clear hW1))
 go_region_held3 (fun W' => ((W'.cell? ⟨w.heap.size, 0, none⟩ = some (.int .i64 a.x) ∧ W'.cell? ⟨w.heap.size, 1, none⟩ = some (.int .i64 a.y)) ∧ (W'.cell? ⟨w.heap.size + 1, 0, none⟩ = some (.int .i64 b.x) ∧ W'.cell? ⟨w.heap.size + 1, 1, none⟩ = some (.int .i64 b.y))) ∧ PD a b w W')
  (exact ⟨PD.cells ‹_›, ‹_›⟩)
  ((go_at_call 165; refine (HNA.out _ _ _ ?_).mono ?_; (assumption); rintro e w9 ⟨rfl, hp9⟩))
 all_goals
  clear hpd hpdd
  go_wp2_with fail
  refine (HNO.out _).mono ?_
  rintro e w10 ⟨rfl, hb10⟩
  have hp10 := PD.step ‹PD a b w w9› hb10
  obtain ⟨W2, hW2⟩ : ∃ W2, W2 = w10.alloc (.cells #[.int .i64 q.x, .int .i64 q.y] 43) := ⟨_, rfl⟩
  have hpq : PQ a b q w w10.heap.size W2 := by
   rw [hW2]; exact ⟨hp10.step ((Below.refl _ w10).alloc (Nat.le_refl _) _), heap_alloc_new _ _⟩
  have hpqd := hpq.step (below_drew W2)
  clear hp10 hb10
  go_wp2_with fail
  refine (HN1.out _).mono ?_
  rintro e w11 ⟨rfl, rfl⟩
  go_wp2_with fail
  refine (HN2.out _).mono ?_
  rintro e w11 ⟨rfl, rfl⟩
  go_wp2_with (first | (rw [← hW2]; clear hW2))
  clear HNA HNO HN1 HN2 V1 V2 M1
  go_region_held3 (fun W' => ((W'.cell? ⟨w.heap.size, 0, none⟩ = some (.int .i64 a.x) ∧ W'.cell? ⟨w.heap.size, 1, none⟩ = some (.int .i64 a.y)) ∧ (W'.cell? ⟨w.heap.size + 1, 0, none⟩ = some (.int .i64 b.x) ∧ W'.cell? ⟨w.heap.size + 1, 1, none⟩ = some (.int .i64 b.y)) ∧ (W'.cell? ⟨w10.heap.size, 0, none⟩ = some (.int .i64 q.x) ∧ W'.cell? ⟨w10.heap.size, 1, none⟩ = some (.int .i64 q.y))) ∧ PQ a b q w w10.heap.size W')
   (exact ⟨PQ.cells ‹_›, ‹_›⟩)
   ((go_at_call 165; refine (HQA.out q w10.heap.size _ _ _ ?_).mono ?_; (assumption); rintro e w9 ⟨rfl, hp9⟩))
  all_goals
   have hpq9 : PQ a b q w w10.heap.size w9 := ‹_›
   have hc : w9.heap[w.heap.size + 1 + 1]? = some (.cells #[.int .i64 0, .int .i64 0] 43 (0, 0)) := hpq9.pd.c
   have hd : w9.heap[w.heap.size + 1 + 1 + 1]? = some (.cells #[.int .i64 0, .int .i64 0] 43 (0, 0)) := hpq9.pd.d
   have hq := two_cells hpq9.q
   obtain ⟨q1, q2⟩ := hq
   obtain ⟨c1, c2⟩ := two_cells hc
   obtain ⟨d1, d2⟩ := two_cells hd
   have f1 : w9.frozen? ⟨w.heap.size + 1 + 1, 0, none⟩ = false := by simp [World.frozen?, hc]
   have f2 : w9.frozen? ⟨w.heap.size + 1 + 1, 1, none⟩ = false := by simp [World.frozen?, hc]
   have f3 : w9.frozen? ⟨w.heap.size + 1 + 1 + 1, 0, none⟩ = false := by simp [World.frozen?, hd]
   have f4 : w9.frozen? ⟨w.heap.size + 1 + 1 + 1, 1, none⟩ = false := by simp [World.frozen?, hd]
   have hB := hpq9.pd.below
   clear hpq HQA hpqd hneg M2 M3 hpq9
   go_wp2_with fail
   have hc5 := set_two (.int .i64 q.x) (.int .i64 q.y) hc
   have hd5 := set_two_far (.int .i64 q.x) (.int .i64 q.y) (show w.heap.size + 1 + 1 + 1 ≠ w.heap.size + 1 + 1 by omega) hd
   have hc6 := set_two_far (.int .i64 r.x) (.int .i64 r.y) (show w.heap.size + 1 + 1 ≠ w.heap.size + 1 + 1 + 1 by omega) hc5
   have hd6 := set_two (.int .i64 r.x) (.int .i64 r.y) hd5
   refine bodyPost_ret (results_cell_cell rfl _ _ (w.heap.size + 1 + 1) (w.heap.size + 1 + 1 + 1) 43 #[.int .i64 q.x, .int .i64 q.y] #[.int .i64 r.x, .int .i64 r.y] _ rfl rfl hc6 hd6 Tryz.underlying43 rfl (by kernel_rfl) (by kernel_rfl)) rfl ?_
   exact ⟨rfl, (((hB.setCell (p := ⟨w.heap.size + 1 + 1, 0, none⟩) (Nat.le_trans (Nat.le_succ _) (Nat.le_succ _)) _).setCell (p := ⟨w.heap.size + 1 + 1, 1, none⟩) (Nat.le_trans (Nat.le_succ _) (Nat.le_succ _)) _).setCell (p := ⟨w.heap.size + 1 + 1 + 1, 0, none⟩) (Nat.le_trans (Nat.le_trans (Nat.le_succ _) (Nat.le_succ _)) (Nat.le_succ _)) _).setCell (p := ⟨w.heap.size + 1 + 1 + 1, 1, none⟩) (Nat.le_trans (Nat.le_trans (Nat.le_succ _) (Nat.le_succ _)) (Nat.le_succ _)) _⟩
end Go.Proofs.YtejbpnhondpnfaaGreat
namespace Go.Proofs
open Go.Shelf
def Tryz.lays170_ren : Go.Shelf.Ren := ⟨fun | 170 => 63 | n => n, fun | 70 => 101 | 3 => 3 | 0 => 0 | 72 => 104 | 37 => 102 | 5 => 5 | n => n, fun | n => n⟩
theorem Tryz.lays170 : Go.Proofs.Lays.n170 Tryz.prog Tryz.lays170_ren := {
 mixed := by kernel_rfl
 f170 := Tryz.func63.trans (congrArg some (by kernel_rfl))
 t0 := Tryz.underlying0
 a0 := Tryz.isAgg0
 z0 := Tryz.sizeOf0
 v0 := Tryz.zeroValue0
 t3 := Tryz.underlying3
 a3 := Tryz.isAgg3
 z3 := Tryz.sizeOf3
 v3 := Tryz.zeroValue3
 t37 := Tryz.underlying102
 a37 := Tryz.isAgg102
 z37 := Tryz.sizeOf102
 v37 := Tryz.zeroValue102
 t70 := Tryz.underlying101
 a70 := Tryz.isAgg101
 z70 := Tryz.sizeOf101
 v70 := Tryz.zeroValue101
 t72 := Tryz.underlying104
 a72 := Tryz.isAgg104
 z72 := Tryz.sizeOf104
 v72 := Tryz.zeroValue104 }
open Go.RowKit in
theorem Tryz.Builder_Len (B b : Nat) (bs : List Value) (w : World) (h : Lib.IsBuilder 104 5 B b bs w) :
  Calls Tryz.prog 63 #[.pointer (some ⟨b, 0, none⟩)] w fun e w' => e = .returned (.int .i64 bs.length) ∧ w' = w := Any.Builder_Len Tryz.lays170 B b bs w h
def Tryz.lays169_ren : Go.Shelf.Ren := ⟨fun | 169 => 61 | n => n, fun | 70 => 101 | 9 => 9 | 0 => 0 | 72 => 104 | 37 => 102 | 127 => 153 | 3 => 3 | 5 => 5 | n => n, fun | n => n⟩
theorem Tryz.lays169 : Go.Proofs.Lays.n169 Tryz.prog Tryz.lays169_ren := {
 mixed := by kernel_rfl
 f169 := Tryz.func61.trans (congrArg some (by kernel_rfl))
 t0 := Tryz.underlying0
 a0 := Tryz.isAgg0
 z0 := Tryz.sizeOf0
 v0 := Tryz.zeroValue0
 t3 := Tryz.underlying3
 a3 := Tryz.isAgg3
 z3 := Tryz.sizeOf3
 v3 := Tryz.zeroValue3
 t9 := Tryz.underlying9
 a9 := Tryz.isAgg9
 z9 := Tryz.sizeOf9
 v9 := Tryz.zeroValue9
 t37 := Tryz.underlying102
 a37 := Tryz.isAgg102
 z37 := Tryz.sizeOf102
 v37 := Tryz.zeroValue102
 t70 := Tryz.underlying101
 a70 := Tryz.isAgg101
 z70 := Tryz.sizeOf101
 v70 := Tryz.zeroValue101
 t72 := Tryz.underlying104
 a72 := Tryz.isAgg104
 z72 := Tryz.sizeOf104
 v72 := Tryz.zeroValue104
 t127 := Tryz.underlying153
 a127 := Tryz.isAgg153
 z127 := Tryz.sizeOf153
 v127 := Tryz.zeroValue153 }
theorem Tryz.Builder_Extra_169 : Builder.Extra Tryz.prog Tryz.lays169_ren := {
 sizeBuilder := by kernel_rfl
 liesBuilder := by kernel_rfl
 t5 := Tryz.underlying5
 a5 := Tryz.isAgg5
 z5 := Tryz.sizeOf5
 v5 := Tryz.zeroValue5
 infoByte := by kernel_rfl
 cellsByte := by kernel_rfl
 sizeByte := by kernel_rfl
 neB5 := by decide }
open Go.RowKit in
theorem Tryz.Builder_String_any (B b : Nat) (l : List UInt8) (w : World) (h : Lib.IsBuilder 104 5 B b (Lib.byteCells l) w) (hBw : B ≤ w.heap.size) :
  Calls Tryz.prog 61 #[.pointer (some ⟨b, 0, none⟩)] w fun e w' => e = .returned (.string ⟨l.toArray⟩) ∧ Below B w w' := Any.Builder_String_any Tryz.lays169 Tryz.Builder_Extra_169 B b l w h hBw
def Tryz.lays156_ren : Go.Shelf.Ren := ⟨fun | 156 => 27 | 165 => 59 | 166 => 60 | 169 => 61 | 240 => 101 | 241 => 102 | 276 => 142 | 277 => 143 | n => n, fun | 31 => 60 | 9 => 9 | 3 => 3 | 4 => 4 | 0 => 0 | 20 => 20 | 72 => 104 | 76 => 108 | 70 => 101 | 37 => 102 | 75 => 107 | 127 => 153 | 164 => 192 | 5 => 5 | 80 => 110 | n => n, fun | n => n⟩
theorem Tryz.lays156 : Go.Proofs.Lays.n156 Tryz.prog Tryz.lays156_ren := {
 mixed := by kernel_rfl
 f156 := Tryz.func27.trans (congrArg some (by kernel_rfl))
 f165 := Tryz.func59.trans (congrArg some (by kernel_rfl))
 f166 := Tryz.func60.trans (congrArg some (by kernel_rfl))
 f169 := Tryz.func61.trans (congrArg some (by kernel_rfl))
 f240 := Tryz.func101.trans (congrArg some (by kernel_rfl))
 f241 := Tryz.func102.trans (congrArg some (by kernel_rfl))
 f276 := Tryz.func142.trans (congrArg some (by kernel_rfl))
 f277 := Tryz.func143.trans (congrArg some (by kernel_rfl))
 t0 := Tryz.underlying0
 a0 := Tryz.isAgg0
 z0 := Tryz.sizeOf0
 v0 := Tryz.zeroValue0
 t3 := Tryz.underlying3
 a3 := Tryz.isAgg3
 z3 := Tryz.sizeOf3
 v3 := Tryz.zeroValue3
 t4 := Tryz.underlying4
 a4 := Tryz.isAgg4
 z4 := Tryz.sizeOf4
 v4 := Tryz.zeroValue4
 t9 := Tryz.underlying9
 a9 := Tryz.isAgg9
 z9 := Tryz.sizeOf9
 v9 := Tryz.zeroValue9
 t20 := Tryz.underlying20
 a20 := Tryz.isAgg20
 z20 := Tryz.sizeOf20
 v20 := Tryz.zeroValue20
 t31 := Tryz.underlying60
 a31 := Tryz.isAgg60
 z31 := Tryz.sizeOf60
 v31 := Tryz.zeroValue60
 t37 := Tryz.underlying102
 a37 := Tryz.isAgg102
 z37 := Tryz.sizeOf102
 v37 := Tryz.zeroValue102
 t70 := Tryz.underlying101
 a70 := Tryz.isAgg101
 z70 := Tryz.sizeOf101
 v70 := Tryz.zeroValue101
 t72 := Tryz.underlying104
 a72 := Tryz.isAgg104
 z72 := Tryz.sizeOf104
 v72 := Tryz.zeroValue104
 t75 := Tryz.underlying107
 a75 := Tryz.isAgg107
 z75 := Tryz.sizeOf107
 v75 := Tryz.zeroValue107
 t76 := Tryz.underlying108
 a76 := Tryz.isAgg108
 z76 := Tryz.sizeOf108
 v76 := Tryz.zeroValue108
 t127 := Tryz.underlying153
 a127 := Tryz.isAgg153
 z127 := Tryz.sizeOf153
 v127 := Tryz.zeroValue153
 t164 := Tryz.underlying192
 a164 := Tryz.isAgg192
 z164 := Tryz.sizeOf192
 v164 := Tryz.zeroValue192 }
theorem Tryz.Builder_Extra_156 : Builder.Extra Tryz.prog Tryz.lays156_ren := {
 sizeBuilder := by kernel_rfl
 liesBuilder := by kernel_rfl
 t5 := Tryz.underlying5
 a5 := Tryz.isAgg5
 z5 := Tryz.sizeOf5
 v5 := Tryz.zeroValue5
 infoByte := by kernel_rfl
 cellsByte := by kernel_rfl
 sizeByte := by kernel_rfl
 neB5 := by decide }
open Go.RowKit in
theorem Tryz.strings_Join (bk o c : Nat) (xs : List ByteArray) (sep : ByteArray) (w : World) (hcells : ∀ (j : Nat) x, xs[j]? = some x → w.cell? ⟨bk, o + j, none⟩ = some (.string x)) (hbk : bk < w.heap.size) (hN : xs.length ≤ 140737488355328) (hcap : xs.length ≤ c) (hlen : (Lib.join (xs.map (·.data.toList)) sep.data.toList).length ≤ 140737488355328) :
  Calls Tryz.prog 27 #[.slice (some ⟨bk, o, none⟩) xs.length c, .string sep] w fun e w' => e = .returned (.string ⟨(Lib.join (xs.map (·.data.toList)) sep.data.toList).toArray⟩) ∧ Below w.heap.size w w' := Any.strings_Join Tryz.lays156 Tryz.Builder_Extra_156 bk o c xs sep w hcells hbk hN hcap hlen
def Tryz.lays106_ren : Go.Shelf.Ren := ⟨fun | 106 => 88 | 213 => 127 | 265 => 164 | n => n, fun | 9 => 9 | 3 => 3 | n => n, fun | n => n⟩
theorem Tryz.lays106 : Go.Proofs.Lays.n106 Tryz.prog Tryz.lays106_ren := {
 mixed := by kernel_rfl
 f106 := Tryz.func88.trans (congrArg some (by kernel_rfl))
 f213 := Tryz.func127.trans (congrArg some (by kernel_rfl))
 f265 := Tryz.func164.trans (congrArg some (by kernel_rfl))
 t3 := Tryz.underlying3
 a3 := Tryz.isAgg3
 z3 := Tryz.sizeOf3
 v3 := Tryz.zeroValue3
 t9 := Tryz.underlying9
 a9 := Tryz.isAgg9
 z9 := Tryz.sizeOf9
 v9 := Tryz.zeroValue9 }
open Go.RowKit in
theorem Tryz.strings_Compare (a b : ByteArray) (w : World) :
  Calls Tryz.prog 88 #[.string a, .string b] w fun e w' => e = .returned (.int .i64 (Lib.compareBytes a.data.toList b.data.toList)) ∧ w' = w := Any.strings_Compare Tryz.lays106 a b w
def Tryz.lays122_ren : Go.Shelf.Ren := ⟨fun | 122 => 87 | 215 => 126 | n => n, fun | 3 => 3 | 4 => 4 | n => n, fun | n => n⟩
theorem Tryz.lays122 : Go.Proofs.Lays.n122 Tryz.prog Tryz.lays122_ren := {
 mixed := by kernel_rfl
 f122 := Tryz.func87.trans (congrArg some (by kernel_rfl))
 f215 := Tryz.func126.trans (congrArg some (by kernel_rfl))
 t3 := Tryz.underlying3
 a3 := Tryz.isAgg3
 z3 := Tryz.sizeOf3
 v3 := Tryz.zeroValue3
 t4 := Tryz.underlying4
 a4 := Tryz.isAgg4
 z4 := Tryz.sizeOf4
 v4 := Tryz.zeroValue4 }
open Go.RowKit in
theorem Tryz.cmp_Compare_int (x y : Int) (w : World) :
  Calls Tryz.prog 87 #[.int .i64 x, .int .i64 y] w fun e w' => e = .returned (.int .i64 (Lib.compareInt x y)) ∧ w' = w := Any.cmp_Compare_int Tryz.lays122 x y w
def Tryz.laysGw17_ren : Go.Shelf.Ren := ⟨fun | 17 => 65 | 15 => 109 | 20 => 146 | n => n, fun | 9 => 9 | 23 => 116 | 4 => 4 | 3 => 3 | 0 => 0 | 21 => 21 | n => n, fun | n => n⟩
theorem Tryz.laysGw17 : Go.Proofs.LaysGw.n17 Tryz.prog Tryz.laysGw17_ren := {
 mixed := by kernel_rfl
 f15 := Tryz.func109.trans (congrArg some (by kernel_rfl))
 f17 := Tryz.func65.trans (congrArg some (by kernel_rfl))
 f20 := Tryz.func146.trans (congrArg some (by kernel_rfl))
 t0 := Tryz.underlying0
 a0 := Tryz.isAgg0
 z0 := Tryz.sizeOf0
 v0 := Tryz.zeroValue0
 i0 := by kernel_rfl
 t3 := Tryz.underlying3
 a3 := Tryz.isAgg3
 z3 := Tryz.sizeOf3
 v3 := Tryz.zeroValue3
 i3 := by kernel_rfl
 t4 := Tryz.underlying4
 a4 := Tryz.isAgg4
 z4 := Tryz.sizeOf4
 v4 := Tryz.zeroValue4
 i4 := by kernel_rfl
 t9 := Tryz.underlying9
 a9 := Tryz.isAgg9
 z9 := Tryz.sizeOf9
 v9 := Tryz.zeroValue9
 i9 := by kernel_rfl
 t21 := Tryz.underlying21
 a21 := Tryz.isAgg21
 z21 := Tryz.sizeOf21
 v21 := Tryz.zeroValue21
 i21 := by kernel_rfl
 t23 := Tryz.underlying116
 a23 := Tryz.isAgg116
 z23 := Tryz.sizeOf116
 v23 := Tryz.zeroValue116
 i23 := by kernel_rfl }
open Go.RowKit Go.Lib in
theorem Tryz.strings_ContainsFunc_grows (g : Nat) (lb : Array Value) (eg : ∀ args w, (callFunc g args).run Tryz.prog w = .ok (.enter g args) w) (p : Nat → Bool) (s : ByteArray) (w : World) (hp : PredGrows Tryz.prog g lb p w) :
  Calls Tryz.prog 65 #[.string s, .func (.func g) #[] lb] w fun e w' => e = .returned (.bool (decide (0 ≤ Lib.idxFunc p true s))) ∧ Below w.heap.size w w' := Any.strings_ContainsFunc_grows Tryz.laysGw17 g lb eg p s w hp
def Tryz.lays110_ren : Go.Shelf.Ren := ⟨fun | 110 => 35 | 109 => 70 | n => n, fun | 31 => 60 | 9 => 9 | 4 => 4 | 3 => 3 | 0 => 0 | n => n, fun | n => n⟩
theorem Tryz.lays110 : Go.Proofs.Lays.n110 Tryz.prog Tryz.lays110_ren := {
 mixed := by kernel_rfl
 f109 := Tryz.func70.trans (congrArg some (by kernel_rfl))
 f110 := Tryz.func35.trans (congrArg some (by kernel_rfl))
 t0 := Tryz.underlying0
 a0 := Tryz.isAgg0
 z0 := Tryz.sizeOf0
 v0 := Tryz.zeroValue0
 t3 := Tryz.underlying3
 a3 := Tryz.isAgg3
 z3 := Tryz.sizeOf3
 v3 := Tryz.zeroValue3
 t4 := Tryz.underlying4
 a4 := Tryz.isAgg4
 z4 := Tryz.sizeOf4
 v4 := Tryz.zeroValue4
 t9 := Tryz.underlying9
 a9 := Tryz.isAgg9
 z9 := Tryz.sizeOf9
 v9 := Tryz.zeroValue9
 t31 := Tryz.underlying60
 a31 := Tryz.isAgg60
 z31 := Tryz.sizeOf60
 v31 := Tryz.zeroValue60 }
open Go.Lib in
theorem Tryz.slices_Contains_string (b off n c : Nat) (zs : List ByteArray) (x : ByteArray) (w : World) (hz : n ≤ zs.length) (hbig : n ≤ 9223372036854775807) (hc : ∀ j, j < zs.length → w.cell? ⟨b, off + j, none⟩ = some (.string (zs.getD j ByteArray.empty))) :
  Calls Tryz.prog 35 #[.slice (some ⟨b, off, none⟩) n c, .string x] w fun e w' => e = .returned (.bool (Lib.containsS (zs.take n) x)) ∧ w' = w := Any.slices_Contains_string Tryz.lays110 b off n c zs x w hz hbig hc
end Go.Proofs
namespace Go.Proofs.YtejbpnhondpnfaaGreat
open Go.RowKit
def wrapZ (L n : Int) : Int := if n < -L then n + 2 * L else if L ≤ n then n - 2 * L else n
theorem wrapped_any (n L : Int) (h0 : 0 < L) (h1 : L ≤ 9007199254740992) (h2 : -72057594037927936 ≤ n) (h3 : n ≤ 72057594037927936) (w : World) :
  Calls Tryz.prog 89 #[.int .i64 n, .int .i64 L] w fun e w' => e = .returned (.int .i64 (wrapZ L n)) ∧ w = w' := by
 by_cases c1 : n < -L
 ·
  have e : wrapZ L n = n + 2 * L := by unfold wrapZ; rw [if_pos c1]
  rw [e]
  clear e
  go_enter Tryz.func89, Tryz.ntmps89
  go_wp2_with fail
  go_ret
  exact ⟨rfl, rfl⟩
 ·
  by_cases c2 : L ≤ n
  ·
   have e : wrapZ L n = n - 2 * L := by unfold wrapZ; rw [if_neg c1, if_pos c2]
   rw [e]
   clear e
   go_enter Tryz.func89, Tryz.ntmps89
   go_wp2_with fail
   go_ret
   exact ⟨rfl, rfl⟩
  ·
   have e : wrapZ L n = n := by unfold wrapZ; rw [if_neg c1, if_neg c2]
   rw [e]
   clear e
   go_enter Tryz.func89, Tryz.ntmps89
   go_wp2_with fail
   go_ret
   exact ⟨rfl, rfl⟩
theorem goto_scope {P : Program} {c K : Code} {a : Act} {w : World} {Q : Exit → Act → World → Prop} (l : Nat) (J : Act → World → Prop) (μ : Act → World → Nat) (hf : findLabel c l = some (.seq .skip K))
  (pass : ∀ a w, J a w → K.wp P (Exit.jump l (fun a' w' => J a' w' ∧ μ a' w' < μ a w) Q) a w)
  (first : (∀ a w, J a w → K.wp P (Exit.jump l J Q) a w) → c.wp P (Exit.jump l J Q) a w) : (Code.scope c).wp P Q a w := by
 refine wp_scope_jumps l J μ hf (first fun a w h => ?_) (fun a w h => wp_seq (wp_skip (pass a w h)))
 intro b k cs
 obtain ⟨e, a₁, w₁, hq, harr⟩ := pass a w h b k cs
 refine ⟨e, a₁, w₁, ?_, harr⟩
 cases e with
 | goto l' =>
  simp only [Exit.jump] at hq ⊢
  exact ⟨hq.1, hq.2.1⟩
 | normal => exact hq
 | exit _ => exact hq
 | ret => exact hq
 | panic _ => exact hq
 | outgrown => exact hq
def GcA (x y : Int) (a : Act) : Prop := ∃ u2 u3 u4 u5 u6 u7 u8 u9 u10 u11 u12 u13 u14 : Value, a = ⟨#[.int .i64 x, .int .i64 y, u2, u3, u4, u5, u6, u7, u8, u9, u10, u11, u12, u13, u14], []⟩
theorem gcd_step (x y : Int) : Int.gcd y (x.tmod y) = Int.gcd x y := by
 unfold Int.gcd
 rw [Int.natAbs_tmod, Nat.gcd_comm x.natAbs, Nat.gcd_rec y.natAbs x.natAbs, Nat.gcd_comm]
theorem gcd_end (x : Int) : Int.gcd x 0 = x.natAbs := by unfold Int.gcd; simp
theorem jcommon_any (a b : Int) (ha : -9007199254740992 ≤ a ∧ a ≤ 9007199254740992) (hb : -9007199254740992 ≤ b ∧ b ≤ 9007199254740992) (w : World) :
  Calls Tryz.prog 90 #[.int .i64 a, .int .i64 b] w fun e w' => e = .returned (.int .i64 (Int.gcd a b : Nat)) ∧ Below w.heap.size w w' := by
 go_enter Tryz.func90, Tryz.ntmps90
 go_wp2_with fail
 refine goto_scope 0 (fun a' w' => ∃ x y, GcA x y a' ∧ Below w.heap.size w w' ∧ Int.gcd x y = Int.gcd a b ∧ (-9007199254740992 ≤ x ∧ x ≤ 9007199254740992) ∧ (-9007199254740992 ≤ y ∧ y ≤ 9007199254740992)) (fun a' _ => (intOf (a'.tmps.getD 1 undef)).natAbs) rfl ?_ ?_
 ·
  rintro a' w' ⟨x, y, hA, hw, hg, hx, hy⟩
  unfold GcA at hA
  obtain ⟨u2, u3, u4, u5, u6, u7, u8, u9, u10, u11, u12, u13, u14, rfl⟩ := hA
  by_cases h0 : y = 0
  ·
   subst h0
   rw [gcd_end] at hg
   have hm : ∀ W : World, (Builtin.max_ #[3, 3] 3 #[.int .i64 x, .int .i64 (-x)]).run Tryz.prog W = .ok (.int .i64 (Int.gcd a b : Nat)) W := fun W => by
    rw [run_max_int2]
    have e : (if -x > x then -x else x) = (Int.gcd a b : Nat) := by
     rw [← hg]
     split <;> omega
    rw [e]
   have HG := Lib.hid hg
   clear hg
   go_wp2_with fail
   simp only [Exit.jump]
   go_ret
   exact ⟨rfl, hw⟩
  ·
   have hg2 := (gcd_step x y).trans hg
   have hlt : (x.tmod y).natAbs < y.natAbs := by rw [Int.natAbs_tmod]; exact Nat.mod_lt _ (by omega)
   have hbd : -9007199254740992 ≤ x.tmod y ∧ x.tmod y ≤ 9007199254740992 := by omega
   have hd0 : (y == 0) = false := by rw [beq_eq_false_iff_ne]; omega
   have hwr : IntKind.i64.wrap (x.tmod y) = x.tmod y := by rw [IntKind.wrap_i64]; omega
   have HG := Lib.hid hg2
   have HL := Lib.hid hlt
   have HB := Lib.hid hbd
   clear hg hg2 hlt hbd
   go_wp2_with fail
   go_quiet (fail)
   all_goals
    go_wp2_with fail
    go_step3
    have hl := HL.out
    have hbd := HB.out
    refine ⟨rfl, ⟨y, x.tmod y, ?fr, ?j⟩, ?_⟩
    case fr => unfold GcA; (repeat apply Exists.intro); rfl
    case j => exact ⟨⟨hw.1, hw.2, hw.3, hw.4, hw.5⟩, HG.out, hy, hbd⟩
    ·
     simpa [intOf] using hl
 ·
  intro HP
  go_wp2_with fail
  go_step3
  rename_i hKK
  refine hKK _ _ (HP _ _ ?_)
  refine ⟨a, b, ?fr, Below.refl _ _, rfl, ha, hb⟩
  case fr => unfold GcA; (repeat apply Exists.intro); rfl
def rotM (z : Pt) : Nat := if quad z = true then 0 else if quad (rot z) = true then 1 else if quad (rot (rot z)) = true then 2 else 3
theorem rot_zero {z : Pt} (h : z ≠ Pt.zero) : rot z ≠ Pt.zero := fun e => h (by
 have e1 : -z.y = 0 := congrArg Pt.x e
 have e2 : z.x = 0 := congrArg Pt.y e
 exact Pt.ext' e2 (by show z.y = 0; omega))
theorem rot_some {z : Pt} (h : z ≠ Pt.zero) (hq : ¬ quad z = true) : quad (rot z) = true ∨ quad (rot (rot z)) = true ∨ quad (rot (rot (rot z))) = true := by
 have hz : ¬ (z.x = 0 ∧ z.y = 0) := fun e => h (Pt.ext' e.1 e.2)
 rw [quad_iff] at hq
 rw [quad_iff, quad_iff, quad_iff]
 simp only [rot]
 omega
theorem rot_step {z : Pt} (h : z ≠ Pt.zero) (hq : ¬ quad z = true) : nrmF 3 (rot z) = nrmF 3 z ∧ rotM (rot z) < rotM z := by
 have h1 := rot_zero h
 have h2 := rot_zero h1
 have h3 := rot_zero h2
 have hs := rot_some h hq
 unfold rotM
 simp only [nrmF, h, h1, h2, h3, hq, false_or, if_false, Bool.false_eq_true]
 by_cases c1 : quad (rot z) = true
 ·
  simp [c1]
 ·
  by_cases c2 : quad (rot (rot z)) = true
  ·
   simp [c1, c2]
  ·
   have c3 : quad (rot (rot (rot z))) = true := by rcases hs with e | e | e; exact absurd e c1; exact absurd e c2; exact e
   simp [c1, c2, c3]
theorem nrm_stop {z : Pt} (h : z = Pt.zero ∨ quad z = true) : nrmF 3 z = z := by simp [nrmF, h]
def ptAt (g : Nat) (W : World) : Pt := match W.heap[g]? with
 | some (.cells cs _ _) => ⟨intOf (cs.getD 0 undef), intOf (cs.getD 1 undef)⟩
 | _ => Pt.zero
theorem ptAt_of {g : Nat} {W : World} {x y : Int} {t : TypeId} {fz : Nat × Nat} (h : W.heap[g]? = some (.cells #[.int .i64 x, .int .i64 y] t fz)) : ptAt g W = ⟨x, y⟩ := by
 unfold ptAt; rw [h]; rfl
structure PC (a b : Pt) (w W : World) : Prop where
 below : Below w.heap.size w W
 a : W.heap[w.heap.size]? = some (.cells #[.int .i64 a.x, .int .i64 a.y] 43 (0, 0))
 b : W.heap[w.heap.size + 1]? = some (.cells #[.int .i64 b.x, .int .i64 b.y] 43 (0, 0))
 c : W.heap[w.heap.size + 2]? = some (.cells #[.int .i64 0, .int .i64 0] 43 (0, 0))
theorem PC.step {a b : Pt} {w W W' : World} (h : PC a b w W) (k : Below W.heap.size W W') : PC a b w W' :=
 ⟨h.below.trans (k.mono h.below.size), (k.block _ (Array.getElem?_eq_some_iff.1 h.a).1).trans h.a, (k.block _ (Array.getElem?_eq_some_iff.1 h.b).1).trans h.b, (k.block _ (Array.getElem?_eq_some_iff.1 h.c).1).trans h.c⟩
def cW (a b : Pt) (w : World) : World := ((w.alloc (ptB a.x a.y)).alloc (ptB b.x b.y)).alloc (ptB 0 0)
theorem cW_pc (a b : Pt) (w : World) : PC a b w (cW a b w) := by
 have h : (cW a b w).heap = ((w.heap.push (ptB a.x a.y)).push (ptB b.x b.y)).push (ptB 0 0) := rfl
 refine ⟨(((Below.refl _ w).alloc (Nat.le_refl _) _).alloc (by rw [World.size_alloc]; omega) _).alloc (by rw [World.size_alloc, World.size_alloc]; omega) _, ?_, ?_, ?_⟩ <;> rw [h]
 ·
  rw [Array.getElem?_push_lt (by rw [Array.size_push, Array.size_push]; omega), ← Array.getElem?_eq_getElem, Array.getElem?_push_lt (by rw [Array.size_push]; omega), ← Array.getElem?_eq_getElem, Array.getElem?_push_size]; rfl
 ·
  rw [Array.getElem?_push_lt (by rw [Array.size_push, Array.size_push]; omega), ← Array.getElem?_eq_getElem]
  have := Array.getElem?_push_size (xs := w.heap.push (ptB a.x a.y)) (x := ptB b.x b.y)
  rw [Array.size_push] at this; exact this
 ·
  have := Array.getElem?_push_size (xs := (w.heap.push (ptB a.x a.y)).push (ptB b.x b.y)) (x := ptB 0 0)
  rw [Array.size_push, Array.size_push] at this; exact this
theorem ptR_in {a : Pt} : ptR a.x a.y = true ↔ inP a := by unfold ptR inP; simp
theorem neq_spot (x y : Int) (W : World) : (binOp .neq 43 (.agg #[.int .i64 x, .int .i64 y]) (.agg #[.int .i64 0, .int .i64 0])).run Tryz.prog W = .ok (.bool (decide (Pt.mk x y ≠ Pt.zero))) W := by
 by_cases hx : x = 0
 ·
  subst hx
  by_cases hy : y = 0
  ·
   subst hy
   have e : (decide (Pt.mk 0 0 ≠ Pt.zero)) = false := by decide
   rw [e]
   go_simp
  ·
   have e : (decide (Pt.mk 0 y ≠ Pt.zero)) = true := decide_eq_true (fun h => hy (congrArg Pt.y h))
   rw [e]
   go_simp
 ·
  have e : (decide (Pt.mk x y ≠ Pt.zero)) = true := decide_eq_true (fun h => hx (congrArg Pt.x h))
  rw [e]
  go_simp
theorem neq_yes {p : Pt} (h : p ≠ Pt.zero) (W : World) : (binOp .neq 43 (.agg #[.int .i64 p.x, .int .i64 p.y]) (.agg #[.int .i64 0, .int .i64 0])).run Tryz.prog W = .ok (.bool true) W := by
 have := neq_spot p.x p.y W
 rw [decide_eq_true (show Pt.mk p.x p.y ≠ Pt.zero from h)] at this
 exact this
theorem PC.turn {x y : Pt} {w W : World} (h : PC x y w W) (r : Pt) : PC y r w ((((W.setCell ⟨w.heap.size, 0, none⟩ (.int .i64 y.x)).setCell ⟨w.heap.size, 1, none⟩ (.int .i64 y.y)).setCell ⟨w.heap.size + 1, 0, none⟩ (.int .i64 r.x)).setCell ⟨w.heap.size + 1, 1, none⟩ (.int .i64 r.y)).drew where
 below := ((((h.below.setCell (p := ⟨w.heap.size, 0, none⟩) (Nat.le_refl _) _).setCell (p := ⟨w.heap.size, 1, none⟩) (Nat.le_refl _) _).setCell (p := ⟨w.heap.size + 1, 0, none⟩) (Nat.le_succ _) _).setCell (p := ⟨w.heap.size + 1, 1, none⟩) (Nat.le_succ _) _).drew
 a := set_two_far _ _ (by omega) (set_two _ _ h.a)
 b := set_two _ _ (set_two_far _ _ (by omega) h.b)
 c := set_two_far _ _ (by omega) (set_two_far _ _ (by omega) h.c)
theorem PC.spin {x y : Pt} {w W : World} (h : PC x y w W) (z : Pt) : PC z y w ((W.setCell ⟨w.heap.size, 0, none⟩ (.int .i64 z.x)).setCell ⟨w.heap.size, 1, none⟩ (.int .i64 z.y)) where
 below := (h.below.setCell (p := ⟨w.heap.size, 0, none⟩) (Nat.le_refl _) _).setCell (p := ⟨w.heap.size, 1, none⟩) (Nat.le_refl _) _
 a := set_two _ _ h.a
 b := set_two_far _ _ (by omega) h.b
 c := set_two_far _ _ (by omega) h.c
theorem qas {P : Program} {fn : Func} {p q : Tmp} {ty : TypeId} (h : fn.results = #[.cell p ty, .tmp q]) (tmps : Array Value) (w : World) (g : Nat) (t : TypeId) (cs : Array Value) (d : TypeDesc) (v : Value)
  (hp : tmps.getD p undef = .pointer (some ⟨g, 0, none⟩)) (hq : tmps.getD q undef = v) (hg : w.heap[g]? = some (.cells cs t (0, 0)))
  (hu : P.underlying ty = some d) (hd : (match d with | .struct _ | .array _ _ => true | _ => false) = true) (hi : (P.info? ty).map (·.size) = some cs.size) :
  (results fn tmps).run P w = .ok (.tuple #[.agg cs, v]) w := by
 have hp' : tmps[p]?.getD undef = .pointer (some ⟨g, 0, none⟩) := by simpa using hp
 have hq' : tmps[q]?.getD undef = v := by simpa using hq
 simp [results, h, hp', hq', asAddr, run_loadVar_row w g t ty cs (0, 0) d hg hu hd hi]
theorem PC.fin {x y : Pt} {w W : World} (h : PC x y w W) (z : Pt) : ((W.setCell ⟨w.heap.size + 1 + 1, 0, none⟩ (.int .i64 z.x)).setCell ⟨w.heap.size + 1 + 1, 1, none⟩ (.int .i64 z.y)).heap[w.heap.size + 1 + 1]? = some (.cells #[.int .i64 z.x, .int .i64 z.y] 43 (0, 0)) ∧
  Below w.heap.size w ((W.setCell ⟨w.heap.size + 1 + 1, 0, none⟩ (.int .i64 z.x)).setCell ⟨w.heap.size + 1 + 1, 1, none⟩ (.int .i64 z.y)) :=
 ⟨set_two _ _ h.c, (h.below.setCell (p := ⟨w.heap.size + 1 + 1, 0, none⟩) (Nat.le_trans (Nat.le_succ _) (Nat.le_succ _)) _).setCell (p := ⟨w.heap.size + 1 + 1, 1, none⟩) (Nat.le_trans (Nat.le_succ _) (Nat.le_succ _)) _⟩
def CoA (w : World) (a : Act) : Prop := ∃ u0 u1 u6 u7 u8 u9 u10 u11 u12 u13 u14 u15 u16 u17 u18 u19 u20 u21 u22 u23 u24 u25 u26 u27 u28 u29 u30 u31 u32 u33 u34 u35 u36 u37 u38 u39 u40 u41 u42 u43 u44 u45 u46 u47 : Value,
 a = ⟨#[u0, u1, .pointer (some ⟨w.heap.size, 0, none⟩), .pointer (some ⟨w.heap.size + 1, 0, none⟩), .pointer (some ⟨w.heap.size + 1 + 1, 0, none⟩), .int .i64 0, u6, u7, u8, u9, u10, u11, u12, u13, u14, u15, u16, u17, u18, u19, u20, u21, u22, u23, u24, u25, u26, u27, u28, u29, u30, u31, u32, u33, u34, u35, u36, u37, u38, u39, u40, u41, u42, u43, u44, u45, u46, u47], []⟩
theorem common_any (a b : Pt) (ha : inP a) (hb : inP b) (w : World) : Calls Tryz.prog 91 #[ptV a.x a.y, ptV b.x b.y] w fun e w' =>
  e = .returned (.tuple #[ptV (comG a b).x (comG a b).y, .int .i64 0]) ∧ Below w.heap.size w w' := by
 have hra := gright_any a.x a.y
 have hrb := gright_any b.x b.y
 rw [ptR_in.2 ha] at hra
 rw [ptR_in.2 hb] at hrb
 unfold ptV at *
 have HRA := Lib.hid hra
 have HRB := Lib.hid hrb
 clear hra hrb
 obtain ⟨W1, hW1⟩ : ∃ W1, W1 = cW a b w := ⟨_, rfl⟩
 have hpc : PC a b w W1 := hW1 ▸ cW_pc a b w
 unfold cW ptB at hW1
 obtain ⟨cg, hcg⟩ : ∃ c, c = comG a b := ⟨_, rfl⟩
 rw [← hcg]
 have HCG := Lib.hid hcg
 clear hcg
 go_enter Tryz.func91, Tryz.ntmps91
 go_wp2_with (first | (rw [← hW1]; clear hW1))
 refine goto_scope 0 (fun a' w' => ∃ x y, CoA w a' ∧ PC x y w w' ∧ gcdG x y = gcdG a b ∧ inP x ∧ inP y) (fun _ w' => (ptAt (w.heap.size + 1) w').norm.toNat) rfl ?_ ?_
 ·
  rintro a' w' ⟨x, y, hA, hP, hg, hx, hy⟩
  unfold CoA at hA
  obtain ⟨u0, u1, u6, u7, u8, u9, u10, u11, u12, u13, u14, u15, u16, u17, u18, u19, u20, u21, u22, u23, u24, u25, u26, u27, u28, u29, u30, u31, u32, u33, u34, u35, u36, u37, u38, u39, u40, u41, u42, u43, u44, u45, u46, u47, rfl⟩ := hA
  obtain ⟨c1, c2⟩ := two_cells hP.a
  obtain ⟨d1, d2⟩ := two_cells hP.b
  rw [ptAt_of hP.b]
  clear hpc HRA HRB
  by_cases h0 : y = Pt.zero
  ·
   have hgx : gcdG a b = x := by rw [← hg, h0, gcdG_end]
   have d1' : w'.cell? ⟨w.heap.size + 1, 0, none⟩ = some (.int .i64 0) := by rw [d1, h0]; rfl
   have d2' : w'.cell? ⟨w.heap.size + 1, 1, none⟩ = some (.int .i64 0) := by rw [d2, h0]; rfl
   have hcg : cg = nrmF 3 x := by rw [HCG.out]; unfold comG; rw [hgx]
   have HC := Lib.hid hcg
   clear hgx hg hcg HCG d1 d2
   go_wp2_with fail
   go_loopw [40] (fun _ wr => ∃ z, PC z y w wr ∧ inP z ∧ nrmF 3 z = cg) (fun _ wr => rotM (ptAt w.heap.size wr))
   case atStart => exact ⟨x, hP, hx, HC.out.symm⟩
   case round =>
    clear c1 c2 d1' d2'
    obtain ⟨z, hz, hiz, hnz⟩ := hrel
    obtain ⟨⟨i1, i2⟩, i3, i4⟩ := id hiz
    obtain ⟨k1, k2⟩ := two_cells hz.a
    obtain ⟨m1, m2⟩ := two_cells (show wr.heap[w.heap.size + 1 + 1]? = _ from hz.c)
    have f1 : wr.frozen? ⟨w.heap.size, 0, none⟩ = false := by simp [World.frozen?, hz.a]
    have f2 : wr.frozen? ⟨w.heap.size, 1, none⟩ = false := by simp [World.frozen?, hz.a]
    have f3 : wr.frozen? ⟨w.heap.size + 1 + 1, 0, none⟩ = false := by simp [World.frozen?, show wr.heap[w.heap.size + 1 + 1]? = _ from hz.c]
    have f4 : wr.frozen? ⟨w.heap.size + 1 + 1, 1, none⟩ = false := by simp [World.frozen?, show wr.heap[w.heap.size + 1 + 1]? = _ from hz.c]
    by_cases hz0 : z = Pt.zero
    ·
     have hzz : cg = Pt.zero := (hnz.symm.trans (nrm_stop (.inl hz0))).trans hz0
     have HZ := Lib.hid hzz
     rw [hz0] at k1 k2
     change _ = some (Value.int .i64 0) at k1
     change _ = some (Value.int .i64 0) at k2
     clear hz0 hzz hnz
     go_wp2_with fail
     simp only [Exit.jump, Exit.then]
     obtain ⟨hr, hB⟩ := hz.fin Pt.zero
     refine bodyPost_ret (qas rfl _ _ (w.heap.size + 1 + 1) 43 #[.int .i64 0, .int .i64 0] _ (.int .i64 0) rfl rfl hr Tryz.underlying43 rfl (by kernel_rfl)) rfl ?_
     exact ⟨by rw [HZ.out]; rfl, hB⟩
    ·
     have hne := neq_yes hz0
     by_cases hq : quad z = true
     ·
      have hzz : cg = z := hnz.symm.trans (nrm_stop (.inr hq))
      have HZ := Lib.hid hzz
      have hqq := (quad_iff z).1 hq
      obtain ⟨q1, q2⟩ := hqq
      clear hz0 hq hzz hnz
      go_wp2_with fail
      simp only [Exit.jump, Exit.then]
      obtain ⟨hr, hB⟩ := hz.fin z
      refine bodyPost_ret (qas rfl _ _ (w.heap.size + 1 + 1) 43 #[.int .i64 z.x, .int .i64 z.y] _ (.int .i64 0) rfl rfl hr Tryz.underlying43 rfl (by kernel_rfl)) rfl ?_
      exact ⟨by rw [HZ.out], hB⟩
     ·
      obtain ⟨hst1, hst2⟩ := rot_step hz0 hq
      have hsp := hz.spin (rot z)
      have hm : rotM (ptAt w.heap.size ((wr.setCell ⟨w.heap.size, 0, none⟩ (.int .i64 (rot z).x)).setCell ⟨w.heap.size, 1, none⟩ (.int .i64 (rot z).y))) < rotM (ptAt w.heap.size wr) := by
       rw [ptAt_of hsp.a, ptAt_of hz.a]; exact hst2
      have hneg : IntKind.i64.wrap (-z.y) = -z.y := by rw [IntKind.wrap_i64]; omega
      have hrel := Lib.hid (show PC (rot z) y w _ ∧ inP (rot z) ∧ nrmF 3 (rot z) = cg from ⟨hsp, ⟨⟨by show _ ≤ -z.y; omega, by show -z.y ≤ _; omega⟩, i1, i2⟩, hst1.trans hnz⟩)
      have HM := Lib.hid hm
      rw [quad_iff] at hq
      clear hz0 hsp hst1 hst2 hm hnz
      by_cases hx0 : z.x ≤ 0
      ·
       clear hq
       go_wp2_with fail
       go_roundw
       case rel => exact ⟨rot z, hrel.out⟩
       case measure => exact HM.out
      ·
       have hy0 : z.y < 0 := by omega
       clear hq
       go_wp2_with fail
       go_roundw
       case rel => exact ⟨rot z, hrel.out⟩
       case measure => exact HM.out
  ·
   have hne := neq_yes h0
   have hdv := Lib.hid (div_any x y hx hy h0)
   unfold ptV at hdv
   go_wp2_with fail
   refine (hdv.out _).mono ?_
   rintro e w2 ⟨rfl, hb2⟩
   have hP2 := hP.step hb2
   have hr := rem_norm x h0
   have hyp := Pt.norm_pos h0
   have hri : inP (remG x y) := small_of_norm (by have := norm_of_small hy; omega)
   have hrg : gcdG y (remG x y) = gcdG a b := (gcdG_step x h0).symm.trans hg
   have hrn : (remG x y).norm.toNat < y.norm.toNat := by have := (remG x y).norm_nonneg; omega
   generalize quoG x y = q at *
   generalize remG x y = r at *
   have HR := Lib.hid hrg
   have HN := Lib.hid hrn
   clear hr hyp hrg hrn hdv hne h0 hb2
   obtain ⟨W3, hW3⟩ : ∃ W3, W3 = (w2.alloc (.cells #[.int .i64 q.x, .int .i64 q.y] 43)).alloc (.cells #[.int .i64 r.x, .int .i64 r.y] 43) := ⟨_, rfl⟩
   have hP3 : PC x y w W3 := by
    rw [hW3]; exact hP2.step (((Below.refl _ w2).alloc (Nat.le_refl _) _).alloc (by simp) _)
   have hr3 : W3.heap[w2.heap.size + 1]? = some (.cells #[.int .i64 r.x, .int .i64 r.y] 43 (0, 0)) := by
    have := heap_alloc_new (w2.alloc (.cells #[.int .i64 q.x, .int .i64 q.y] 43)) (.cells #[.int .i64 r.x, .int .i64 r.y] 43)
    rw [World.size_alloc] at this
    rw [hW3]; exact this
   obtain ⟨e1, e2⟩ := two_cells hr3
   obtain ⟨g1, g2⟩ := two_cells hP3.b
   have hs : w.heap.size + 3 ≤ w2.heap.size := by have := (Array.getElem?_eq_some_iff.1 hP2.c).1; omega
   have f1 : W3.frozen? ⟨w.heap.size, 0, none⟩ = false := by simp [World.frozen?, hP3.a]
   have f2 : W3.frozen? ⟨w.heap.size, 1, none⟩ = false := by simp [World.frozen?, hP3.a]
   have f3 : W3.frozen? ⟨w.heap.size + 1, 0, none⟩ = false := by simp [World.frozen?, hP3.b]
   have f4 : W3.frozen? ⟨w.heap.size + 1, 1, none⟩ = false := by simp [World.frozen?, hP3.b]
   obtain ⟨k1, k2⟩ := two_cells hP3.a
   clear hP2 hr3 c1 c2 d1 d2 hP
   go_wp2_with (first | (rw [← hW3]; clear hW3))
   go_region
   all_goals
    go_wp2_with fail
    go_step3
    have hP5 := hP3.turn r
    have hN := HN.out
    refine ⟨rfl, ⟨y, r, ?fr, hP5, HR.out, hy, hri⟩, ?_⟩
    case fr => unfold CoA; (repeat apply Exists.intro); rfl
    ·
     rw [ptAt_of hP5.b]; exact hN
 ·
  intro HP
  obtain ⟨c1, c2⟩ := two_cells hpc.a
  obtain ⟨d1, d2⟩ := two_cells hpc.b
  go_wp2_with fail
  refine (HRA.out _).mono ?_
  rintro e w2 ⟨rfl, hb2⟩
  have hpc2 := hpc.step hb2
  obtain ⟨e1, e2⟩ := two_cells hpc2.b
  go_wp2_with fail
  refine (HRB.out _).mono ?_
  rintro e w3 ⟨rfl, hb3⟩
  have hpc3 := hpc2.step hb3
  go_wp2_with fail
  go_step3
  rename_i hKK
  refine hKK _ _ (HP _ _ ?_)
  refine ⟨a, b, ?fr, hpc3, rfl, ha, hb⟩
  case fr => unfold CoA; (repeat apply Exists.intro); rfl
end Go.Proofs.YtejbpnhondpnfaaGreat
namespace Go.Proofs.YtejbpnhondpnfaaGreat
set_option maxRecDepth 100000
open Go.RowKit
structure Val where
 k : Int
 n : Int
 t : ByteArray
 x : Int
 y : Int
def valV (v : Val) : Value := .agg #[.int .i64 v.k, .int .i64 v.n, .string v.t, .int .i64 v.x, .int .i64 v.y]
def valB (v : Val) : Obj := .cells #[.int .i64 v.k, .int .i64 v.n, .string v.t, .int .i64 v.x, .int .i64 v.y] 45 (0, 0)
def qbf (v : Val) : Bool :=
 if v.k = 0 then decide (-9007199254740992 ≤ v.n) && (decide (v.n ≤ 9007199254740992) && (v.t.toList.isEmpty && !(decide (Pt.mk v.x v.y ≠ Pt.zero))))
 else if v.k = 1 then decide (v.t.size ≤ 4096) && (!(v.n != 0) && !(decide (Pt.mk v.x v.y ≠ Pt.zero)))
 else if v.k = 2 then ptR v.x v.y && (!(v.n != 0) && v.t.toList.isEmpty)
 else false
theorem qam {W : World} {g : Nat} {a0 a1 a2 a3 a4 : Value} {t : TypeId} (h : W.heap[g]? = some (.cells #[a0, a1, a2, a3, a4] t (0, 0))) :
  W.cell? ⟨g, 0, none⟩ = some a0 ∧ W.cell? ⟨g, 1, none⟩ = some a1 ∧ W.cell? ⟨g, 2, none⟩ = some a2 ∧ W.cell? ⟨g, 3, none⟩ = some a3 ∧ W.cell? ⟨g, 4, none⟩ = some a4 := by
 simp [World.cell?, h]
set_option maxHeartbeats 4000000 in
theorem vright_any (v : Val) (w : World) : Calls Tryz.prog 45 #[valV v] w fun e w' => e = .returned (.bool (qbf v)) ∧ Below w.heap.size w w' := by
 obtain ⟨k, n, t, x, y⟩ := v
 obtain ⟨W1, hW1⟩ : ∃ W1, W1 = w.alloc (valB ⟨k, n, t, x, y⟩) := ⟨_, rfl⟩
 have hB : Below w.heap.size w W1 := by rw [hW1]; exact (Below.refl _ w).alloc (Nat.le_refl _) _
 have hg : W1.heap[w.heap.size]? = some (valB ⟨k, n, t, x, y⟩) := by rw [hW1]; exact heap_alloc_new w _
 obtain ⟨k0, k1, k2, k3, k4⟩ := qam hg
 have hP := neq_spot x y
 obtain ⟨b, hb⟩ : ∃ b, b = qbf ⟨k, n, t, x, y⟩ := ⟨_, rfl⟩
 rw [← hb]
 have HB := Lib.hid hb
 have HBel := Lib.hid hB
 unfold valB at hW1
 unfold valV
 simp only at hW1 ⊢
 clear hb hg hB
 obtain ⟨pz, hpz⟩ : ∃ pz, pz = decide (Pt.mk x y ≠ Pt.zero) := ⟨_, rfl⟩
 rw [← hpz] at hP
 have HPZ := Lib.hid hpz
 clear hpz
 have hsz : Below w.heap.size w W1 := HBel.out
 have hle : w.heap.size ≤ W1.heap.size := hsz.size
 clear hsz
 by_cases c0 : k = 0
 ·
  subst c0
  go_enter Tryz.func45, Tryz.ntmps45
  go_wp2_with (first | (rw [← hW1]; clear hW1))
  go_still (by kernel_rfl)
  go_wp2_with fail
  all_goals
   go_ret
   exact ⟨by rw [HB.out]; unfold qbf; rw [← HPZ.out]; simp [*] <;> omega, HBel.out.drew⟩
 by_cases c1 : k = 1
 ·
  subst c1
  go_enter Tryz.func45, Tryz.ntmps45
  go_wp2_with (first | (rw [← hW1]; clear hW1))
  go_still (by kernel_rfl)
  go_wp2_with fail
  all_goals
   go_ret
   exact ⟨by rw [HB.out]; unfold qbf; rw [← HPZ.out]; simp [*] <;> omega, HBel.out.drew⟩
 by_cases c2 : k = 2
 ·
  subst c2
  have hr := Lib.hid (gright_any x y)
  unfold ptV at hr
  obtain ⟨pr, hpr⟩ : ∃ pr, pr = ptR x y := ⟨_, rfl⟩
  rw [← hpr] at hr
  have HPR := Lib.hid hpr
  clear hpr
  go_enter Tryz.func45, Tryz.ntmps45
  go_wp2_with (first | (rw [← hW1]; clear hW1))
  go_still (by kernel_rfl)
  go_wp2_with fail
  refine (hr.out _).mono ?_
  rintro e w2 ⟨rfl, hb2⟩
  have HB2 := Lib.hid (HBel.out.drew.trans (hb2.mono hle))
  clear hb2
  cases pr
  all_goals
   go_wp2_with fail
   all_goals
    go_ret
    exact ⟨by rw [HB.out]; unfold qbf; rw [← HPR.out]; simp [*], HB2.out⟩
 ·
  go_enter Tryz.func45, Tryz.ntmps45
  go_wp2_with (first | (rw [← hW1]; clear hW1))
  go_still (by kernel_rfl)
  go_wp2_with fail
  all_goals
   go_ret
   exact ⟨by rw [HB.out]; unfold qbf; simp [*], HBel.out.drew⟩
end Go.Proofs.YtejbpnhondpnfaaGreat
namespace Go.Proofs.YtejbpnhondpnfaaGreat.PJob
open Go.RowKit Go.Proofs.YtejbpnhondpnfaaGreatW.PrintWords Go.Proofs.YtejbpnhondpnfaaGreatW.PrintLast Go.Proofs.YtejbpnhondpnfaaGreatW.PrintMore
attribute [local go_sem] qaz qbe
def ran.f (a0_0 : Int) (a0_1 : Int) (a0_2 : ByteArray) (a0_3 : Int) (a0_4 : Int) : Option Bool := some (qbf ⟨a0_0, a0_1, a0_2, a0_3, a0_4⟩)
theorem ran.calls (a0_0 : Int) (a0_1 : Int) (a0_2 : ByteArray) (a0_3 : Int) (a0_4 : Int) (r : Bool) (w : World) (h : ran.f a0_0 a0_1 a0_2 a0_3 a0_4 = some r) :
    Calls Tryz.prog 45 #[.agg #[.int .i64 a0_0, .int .i64 a0_1, .string a0_2, .int .i64 a0_3, .int .i64 a0_4]] w fun e w' => e = .returned (.bool r) ∧ Below w.heap.size w w' := by
  unfold ran.f at h
  injection h with h
  subst h
  exact vright_any ⟨a0_0, a0_1, a0_2, a0_3, a0_4⟩ w
def rbi.f  : Option (List ByteArray) := some (([(⟨#[107, 101, 121]⟩ : ByteArray), (⟨#[118, 97, 108]⟩ : ByteArray), (⟨#[97, 99, 99]⟩ : ByteArray), (⟨#[105]⟩ : ByteArray), (⟨#[105, 116]⟩ : ByteArray)] : List ByteArray))
set_option maxHeartbeats 8000000 in
set_option maxRecDepth 100000 in
theorem rbi.calls  (r : List ByteArray) (w : World) (h : rbi.f  = some r) :
  Calls Tryz.prog 103 #[] w fun e w' => ∃ v0_ : Value, e = .returned (v0_) ∧ Kd.R Kd.string 9 w' w.heap.size (fun _ => True) v0_ r ∧ Below w.heap.size w w' := by
 have HB := Aside0.mk (Below.refl w.heap.size w)
 have H : (some (([(⟨#[107, 101, 121]⟩ : ByteArray), (⟨#[118, 97, 108]⟩ : ByteArray), (⟨#[97, 99, 99]⟩ : ByteArray), (⟨#[105]⟩ : ByteArray), (⟨#[105, 116]⟩ : ByteArray)] : List ByteArray))) = some r := h
 clear h
 obtain ⟨y144, hy144⟩ : ∃ y_ : List ByteArray, y_ = (([(⟨#[107, 101, 121]⟩ : ByteArray), (⟨#[118, 97, 108]⟩ : ByteArray), (⟨#[97, 99, 99]⟩ : ByteArray), (⟨#[105]⟩ : ByteArray), (⟨#[105, 116]⟩ : ByteArray)] : List ByteArray)) := ⟨_, rfl⟩
 replace H : (some y144) = some r := by first | (rw [hy144]; with_reducible exact H) | (have H2_ := (Option.bind_some _ _).symm.trans H; rw [hy144]; with_reducible exact H2_) | (have H2_ := (Option.bind_some _ _).symm.trans H; with_reducible exact H2_) | with_reducible exact H | (rw [hy144]; exact H) | exact H
 have Ny144 := Aside0.mk hy144
 clear hy144
 obtain rfl := Option.some.inj H
 go_enter Tryz.func103, Tryz.ntmps103
 go_wp2_with (first | ((with_reducible refine qav (N := 1) rfl ?_); refine Kd.R_lit Kd.string _ 9 ?hg (N := 1) ?hd (xs := ([(⟨#[107, 101, 121]⟩ : ByteArray), (⟨#[118, 97, 108]⟩ : ByteArray), (⟨#[97, 99, 99]⟩ : ByteArray), (⟨#[105]⟩ : ByteArray), (⟨#[105, 116]⟩ : ByteArray)] : List ByteArray)) (inner := [.string (⟨#[107, 101, 121]⟩ : ByteArray), .string (⟨#[118, 97, 108]⟩ : ByteArray), .string (⟨#[97, 99, 99]⟩ : ByteArray), .string (⟨#[105]⟩ : ByteArray), .string (⟨#[105, 116]⟩ : ByteArray)]) (ok := fun _ => True) (okp := fun _ => True) ?hr ?hp (fun _ hk => hk) trivial (Below.refl _ _) (Nat.le_refl _) (by simp) ?_; (case hd => rfl); (case hg => rfl); (case hr => first | (go_simp; done) | (go_simp; rfl)); (case hp => exact (Reps.one (show Kd.M Kd.string _ _ _ (⟨#[107, 101, 121]⟩ : ByteArray) [.string (⟨#[107, 101, 121]⟩ : ByteArray)] from rfl) (Reps.one (show Kd.M Kd.string _ _ _ (⟨#[118, 97, 108]⟩ : ByteArray) [.string (⟨#[118, 97, 108]⟩ : ByteArray)] from rfl) (Reps.one (show Kd.M Kd.string _ _ _ (⟨#[97, 99, 99]⟩ : ByteArray) [.string (⟨#[97, 99, 99]⟩ : ByteArray)] from rfl) (Reps.one (show Kd.M Kd.string _ _ _ (⟨#[105]⟩ : ByteArray) [.string (⟨#[105]⟩ : ByteArray)] from rfl) (Reps.one (show Kd.M Kd.string _ _ _ (⟨#[105, 116]⟩ : ByteArray) [.string (⟨#[105, 116]⟩ : ByteArray)] from rfl) (Reps.none _ _))))))); intro v145 w1 ho2 hb hg_ hnew_; clear hg_ hnew_; (first | rw [← Ny144.out] at ho2 | (simp only [Int.reduceToNat] at ho2; rw [← Ny144.out] at ho2)); have n0_ := Aside0.mk (Kd.R_lower ho2 (qaj (by repeat (first | (with_reducible first | exact HB.out | apply qad | apply qab | apply qac) | exact HB.out)))); have n1_ := Aside0.mk (qah (by repeat (first | (with_reducible first | exact HB.out | apply qad | apply qab | apply qac) | exact HB.out)) hb); clear HB; have HO146 := n0_; have HB := n1_; clear n0_ n1_; clear hb ho2))
 go_ret
 exact ⟨_, by first | rfl | (simp [*] <;> rfl), by (with_reducible repeat (first | apply Kd.R_alloc | apply Kd.R_drewN | apply Kd.R_drew)); exact HO146.out, by repeat (first | (with_reducible first | exact HB.out | apply qad | apply qab | apply qac) | exact HB.out)⟩
def rap.f (a0_0 : Int) (a0_1 : Int) (a0_2 : Int) (a0_3 : ByteArray) (a0_4 : Int) (a0_5 : Int) : Option (Bool) := if a0_0 = 1 then (if a0_1 = 0 then ((ran.f a0_1 a0_2 a0_3 a0_4 a0_5).bind fun t148 => (if t148 = true then (if a0_2 ≥ 0 then ((rbi.f).bind fun t149 => (some (decide (a0_2 < (t149.length : Int))))) else (some false)) else (some false))) else (some false)) else (if a0_0 = 0 then ((ran.f a0_1 a0_2 a0_3 a0_4 a0_5).bind fun t152 => (some t152)) else (some false))
def rap.T2 : Bool × List (List Nat × List Nat) := (true, [([], []), ([0], [0]), ([1], [1]), ([2], [2]), ([3], [3]), ([4], [4]), ([5, 4], [4, 5]), ([6, 4, 4], [4, 6]), ([4, 7], [4, 7]), ([8, 7], [8]), ([9], [9]), ([10, 9], [9, 10]), ([11, 9], [9, 11]), ([12, 9], [9, 12]), ([9, 13], [9, 13]), ([14, 9], [14]), ([15], [15]), ([16, 15], [15, 16]), ([17, 15], [15, 17]), ([15, 15], [15]), ([19, 15], [15, 19]), ([18, 20, 15], [15, 18, 20]), ([15, 21], [15, 21]), ([22, 19, 0, 1, 2, 3, 4, 5, 6, 7, 8, 9, 10, 11, 12, 13, 14, 15, 16, 17, 18, 19, 20, 21, 22], [22])])
def rap.B2 : List Nat := [0, 1, 3, 7, 15, 31, 63, 127, 255, 511, 1023, 2047, 4095, 8191, 16383, 32767, 65535, 131071, 262143, 65535, 589823, 2097151, 4194303, 8388607]
theorem rap.tab2 : rtab .any (opsOf Tryz.f116 2) = rap.T2 := by kernel_rfl
theorem rap.bits2 : waitsOk rap.T2.2 rap.B2 = true := by kernel_rfl
set_option maxHeartbeats 8000000 in
set_option maxRecDepth 100000 in
theorem rap.calls (a0_0 : Int) (a0_1 : Int) (a0_2 : Int) (a0_3 : ByteArray) (a0_4 : Int) (a0_5 : Int) (r : Bool) (w : World) (h : rap.f a0_0 a0_1 a0_2 a0_3 a0_4 a0_5 = some r) :
  Calls Tryz.prog 116 #[.agg #[.int .i64 a0_0, .int .i64 a0_1, .int .i64 a0_2, .string a0_3, .int .i64 a0_4, .int .i64 a0_5]] w fun e w' => e = .returned (.bool r) ∧ Below w.heap.size w w' := by
 have hu114 := Tryz.underlying114
 have hu45 := Tryz.underlying45
 have HB := Aside0.mk (Below.refl w.heap.size w)
 have H : (if a0_0 = 1 then (if a0_1 = 0 then ((ran.f a0_1 a0_2 a0_3 a0_4 a0_5).bind fun t148 => (if t148 = true then (if a0_2 ≥ 0 then ((rbi.f).bind fun t149 => (some (decide (a0_2 < (t149.length : Int))))) else (some false)) else (some false))) else (some false)) else (if a0_0 = 0 then ((ran.f a0_1 a0_2 a0_3 a0_4 a0_5).bind fun t152 => (some t152)) else (some false))) = some r := h
 clear h
 by_cases c2 : a0_0 = 1
 ·
  rw [if_pos c2] at H
  have c2b0 : (a0_0 == 1) = true := beq_iff_eq.mpr c2
  have c2b1 : (a0_0 != 1) = false := bne_eq_false_iff_eq.mpr c2
  clear c2
  by_cases c3 : a0_1 = 0
  ·
   rw [if_pos c3] at H
   have c3b0 : (a0_1 == 0) = true := beq_iff_eq.mpr c3
   have c3b1 : (a0_1 != 0) = false := bne_eq_false_iff_eq.mpr c3
   clear c3
   replace H := Option.bind_eq_some_iff.mp H
   obtain ⟨t148, A40, H⟩ := H
   replace H : (if t148 = true then (if a0_2 ≥ 0 then ((rbi.f).bind fun t149 => (some (decide (a0_2 < (t149.length : Int))))) else (some false)) else (some false)) = some r := H
   have A4 := Aside0.mk A40
   clear A40
   by_cases c5 : t148 = true
   ·
    subst c5
    have H1 : (if a0_2 ≥ 0 then ((rbi.f).bind fun t149 => (some (decide (a0_2 < (t149.length : Int))))) else (some false)) = some r := by rw [if_pos rfl] at H; exact H
    clear H
    have H := H1
    clear H1
    by_cases c6 : a0_2 ≥ 0
    ·
     rw [if_pos c6] at H
     have c6b0 : decide (0 ≤ a0_2) = true := decide_eq_true c6
     clear c6
     replace H := Option.bind_eq_some_iff.mp H
     obtain ⟨t149, A70, H⟩ := H
     replace H : (some (decide (a0_2 < (t149.length : Int)))) = some r := H
     have A7 := Aside0.mk A70
     clear A70
     obtain rfl := Option.some.inj H
     go_enter Tryz.func116, Tryz.ntmps116
     try go_wp2_with (first | ((with_reducible refine qav (N := 1) rfl ?_); (try (refine gate_guard (by rfl) ?_; dsimp only)); refine qau ?hg (N := 1) ?hd (cs := #[.int .i64 a0_0, .int .i64 a0_1, .int .i64 a0_2, .string a0_3, .int .i64 a0_4, .int .i64 a0_5]) (t := 114) ?hr ?_; (case hd => rfl); (case hg => rfl); (case hr => first | (go_simp; done) | (go_simp; rfl)); intro gb147 hg w8 hbox hb; have n0_ := Aside0.mk (qah (by repeat (first | (with_reducible first | exact HB.out | apply qad | apply qab | apply qac) | exact HB.out)) hb); have n1_ := Aside0.mk (hbox); have n2_ := Aside0.mk ((by rw [hg]; exact (qaj (by repeat (first | (with_reducible first | exact HB.out | apply qad | apply qab | apply qac) | exact HB.out))) : w.heap.size ≤ gb147)); have n3_ := Aside0.mk ((by rw [hg]; exact (qaj (by repeat (first | (with_reducible first | exact HB.out | apply qad | apply qab | apply qac) | exact HB.out))) : w.heap.size ≤ gb147)); clear HB; have HB := n0_; have BK147 := n1_; have GW147 := n2_; have GE147 := n3_; clear n0_ n1_ n2_ n3_; clear hb hbox hg; obtain ⟨G9_0, G9_1, G9_2, G9_3, G9_4, G9_5, F9_0, F9_1, F9_2, F9_3, F9_4, F9_5⟩ := shr6 BK147.out))
     have n0_ := Aside0.mk (qai BK147.out)
     have n1_ := Aside0.mk (qac HB.out)
     clear BK147
     clear HB
     have BK147 := n0_
     have HB := n1_
     clear n0_ n1_
     refine start_ (n := 24) (S := fun w' => w'.cell? ⟨gb147, 0, none⟩ = some (.int .i64 a0_0) ∧ w'.cell? ⟨gb147, 1, none⟩ = some (.int .i64 a0_1) ∧ w'.cell? ⟨gb147, 2, none⟩ = some (.int .i64 a0_2) ∧ w'.cell? ⟨gb147, 3, none⟩ = some (.string a0_3) ∧ w'.cell? ⟨gb147, 4, none⟩ = some (.int .i64 a0_4) ∧ w'.cell? ⟨gb147, 5, none⟩ = some (.int .i64 a0_5)) (ds := []) #[false, false, false, false, false, false, false, false, false, false, false, false, false, false, false, false, false, false, false, false, false, false, false, false] (by kernel_rfl) rfl rfl ⟨(qak BK147.out 0).trans rfl, (qak BK147.out 1).trans rfl, (qak BK147.out 2).trans rfl, (qak BK147.out 3).trans rfl, (qak BK147.out 4).trans rfl, (qak BK147.out 5).trans rfl⟩ (fun hHeld => ?_); refine with_tabW rap.tab2 rap.bits2 (fun HT_ HW_ => ?_)
     generalize w8.drew = w10 at BK147 HB hHeld ⊢
     refine qax (i := 0) (N := some 6) (v := ?_) (a' := ?_) #[true, false, false, false, false, false, false, false, false, false, false, false, false, false, false, false, false, false, false, false, false, false, false, false] rfl rfl (qar HT_.out (by kernel_rfl)) (fun _ _ _ h => h) (Or.inl ⟨by rfl, ?_⟩) ?_ ?_
     rotate_left
     ·
      intro w'
      go_simp
      with_reducible rfl
     rotate_left
     ·
      simp only [Act.put, sIa, sIz, sIs, qap, i32_w]
      rfl
     refine qax (i := 1) (N := some 7) (v := ?_) (a' := ?_) #[true, true, false, false, false, false, false, false, false, false, false, false, false, false, false, false, false, false, false, false, false, false, false, false] rfl rfl (qar HT_.out (by kernel_rfl)) (fun _ _ _ h => h) (Or.inl ⟨by rfl, ?_⟩) ?_ ?_
     rotate_left
     ·
      intro w'
      go_simp
      with_reducible rfl
     rotate_left
     ·
      simp only [Act.put, sIa, sIz, sIs, qap, i32_w]
      rfl
     refine take_ (i := 2) (N := some 8) (v := ?_) (a' := ?_) #[true, true, true, false, false, false, false, false, false, false, false, false, false, false, false, false, false, false, false, false, false, false, false, false] rfl rfl (qbg HT_.out HW_.out (by kernel_rfl)) (fun _ _ _ h => h) (Or.inl ⟨by rfl, ?_⟩) hHeld ?_ ?_
     rotate_left
     ·
      rintro w' ⟨s0, s1, s2, s3, s4, s5⟩
      go_simp
      with_reducible rfl
     rotate_left
     ·
      simp only [Act.put, sIa, sIz, sIs, qap, i32_w]
      rfl
     refine qax (i := 3) (N := some 9) (v := ?_) (a' := ?_) #[true, true, true, true, false, false, false, false, false, false, false, false, false, false, false, false, false, false, false, false, false, false, false, false] rfl rfl (qar HT_.out (by kernel_rfl)) (fun _ _ _ h => h) (Or.inl ⟨by rfl, ?_⟩) ?_ ?_
     rotate_left
     ·
      intro w'
      go_simp
      with_reducible rfl
     rotate_left
     ·
      simp only [Act.put, sIa, sIz, sIs, qap, i32_w]
      rfl
     refine qax (i := 4) (N := some 10) (v := ?_) (a' := ?_) #[true, true, true, true, true, false, false, false, false, false, false, false, false, false, false, false, false, false, false, false, false, false, false, false] rfl rfl (qar HT_.out (by kernel_rfl)) (fun _ _ _ h => h) (Or.inl ⟨by rfl, ?_⟩) ?_ ?_
     rotate_left
     ·
      intro w'
      go_simp
      with_reducible rfl
     rotate_left
     ·
      simp only [Act.put, sIa, sIz, sIs, qap, i32_w]
      rfl
     refine qax (i := 5) (N := some 11) (v := ?_) (a' := ?_) #[true, true, true, true, true, true, false, false, false, false, false, false, false, false, false, false, false, false, false, false, false, false, false, false] rfl rfl (qar HT_.out (by kernel_rfl)) (fun _ _ _ h => h) (Or.inl ⟨by rfl, ?_⟩) ?_ ?_
     rotate_left
     ·
      intro w'
      go_simp
      with_reducible rfl
     rotate_left
     ·
      simp only [Act.put, sIa, sIz, sIs, qap, i32_w]
      rfl
     refine take_ (i := 6) (N := some 12) (v := ?_) (a' := ?_) #[true, true, true, true, true, true, true, false, false, false, false, false, false, false, false, false, false, false, false, false, false, false, false, false] rfl rfl (qbg HT_.out HW_.out (by kernel_rfl)) (fun _ _ _ h => h) (Or.inl ⟨by rfl, ?_⟩) hHeld ?_ ?_
     rotate_left
     ·
      rintro w' ⟨s0, s1, s2, s3, s4, s5⟩
      go_simp
      with_reducible rfl
     rotate_left
     ·
      simp only [Act.put, sIa, sIz, sIs, qap, i32_w]
      rfl
     refine one_ (i := 7) (N := some 13) #[true, true, true, true, true, true, true, true, false, false, false, false, false, false, false, false, false, false, false, false, false, false, false, false] rfl rfl (one_of HT_.out (by kernel_rfl)) (by decide) (fun K hK => ?_)
     refine goes_ Tryz.func45 (by kernel_rfl) rfl #[.agg #[.int .i64 a0_1, .int .i64 a0_2, .string a0_3, .int .i64 a0_4, .int .i64 a0_5]] (by rfl) rfl rfl (by (try simp only [List.map_toArray, List.map_cons, List.map_nil]); first | done | rfl | (simp only [List.length_drop, List.length_take]; rfl)) ?_
     with_reducible refine (ran.calls a0_1 a0_2 a0_3 a0_4 a0_5 true _ A4.out).mono ?_
     rintro e w11 ⟨rfl, hb⟩
     refine ⟨_, rfl, ?_⟩
     have n0_ := Aside0.mk (qan (g := gb147) (o := .cells #[.int .i64 a0_0, .int .i64 a0_1, .int .i64 a0_2, .string a0_3, .int .i64 a0_4, .int .i64 a0_5] 114 (0, 0)) (by (with_reducible repeat (first | refine qag ?_ _ | refine qai ?_ | refine blk_alloc ?_ _)); exact BK147.out) hb)
     have n1_ := Aside0.mk (qah (by repeat (first | (with_reducible first | exact HB.out | apply qad | apply qab | apply qac | refine qaf ?_ GE147.out) | exact HB.out)) hb)
     clear BK147
     clear HB
     have BK147 := n0_
     have HB := n1_
     clear n0_ n1_
     (try clear hb)
     (try clear hb2)
     (try clear hk)
     (try clear hi)
     refine hK.out _ _ ⟨(qak BK147.out 0).trans rfl, (qak BK147.out 1).trans rfl, (qak BK147.out 2).trans rfl, (qak BK147.out 3).trans rfl, (qak BK147.out 4).trans rfl, (qak BK147.out 5).trans rfl⟩ (fun hHeld => ?_)
     clear hK K
     refine norm_ (a' := ?_) ?_ ?_
     rotate_left
     ·
      show Act.put _ (some 13) _ = _
      simp only [Act.put, sIa, sIz, sIs, qap, i32_w]
      rfl
     refine qax (i := 8) (N := some 14) (v := ?_) (a' := ?_) #[true, true, true, true, true, true, true, true, true, false, false, false, false, false, false, false, false, false, false, false, false, false, false, false] rfl rfl (qar HT_.out (by kernel_rfl)) (fun _ _ _ h => h) (Or.inl ⟨by rfl, ?_⟩) ?_ ?_
     rotate_left
     ·
      intro w'
      go_simp
      with_reducible rfl
     rotate_left
     ·
      simp only [Act.put, sIa, sIz, sIs, qap, i32_w]
      rfl
     refine qax (i := 9) (N := some 15) (v := ?_) (a' := ?_) #[true, true, true, true, true, true, true, true, true, true, false, false, false, false, false, false, false, false, false, false, false, false, false, false] rfl rfl (qar HT_.out (by kernel_rfl)) (fun _ _ _ h => h) (Or.inl ⟨by rfl, ?_⟩) ?_ ?_
     rotate_left
     ·
      intro w'
      go_simp
      with_reducible rfl
     rotate_left
     ·
      simp only [Act.put, sIa, sIz, sIs, qap, i32_w]
      rfl
     refine qax (i := 10) (N := some 16) (v := ?_) (a' := ?_) #[true, true, true, true, true, true, true, true, true, true, true, false, false, false, false, false, false, false, false, false, false, false, false, false] rfl rfl (qar HT_.out (by kernel_rfl)) (fun _ _ _ h => h) (Or.inl ⟨by rfl, ?_⟩) ?_ ?_
     rotate_left
     ·
      intro w'
      go_simp
      with_reducible rfl
     rotate_left
     ·
      simp only [Act.put, sIa, sIz, sIs, qap, i32_w]
      rfl
     refine qax (i := 11) (N := some 17) (v := ?_) (a' := ?_) #[true, true, true, true, true, true, true, true, true, true, true, true, false, false, false, false, false, false, false, false, false, false, false, false] rfl rfl (qar HT_.out (by kernel_rfl)) (fun _ _ _ h => h) (Or.inl ⟨by rfl, ?_⟩) ?_ ?_
     rotate_left
     ·
      intro w'
      go_simp
      with_reducible rfl
     rotate_left
     ·
      simp only [Act.put, sIa, sIz, sIs, qap, i32_w]
      rfl
     refine take_ (i := 12) (N := some 18) (v := ?_) (a' := ?_) #[true, true, true, true, true, true, true, true, true, true, true, true, true, false, false, false, false, false, false, false, false, false, false, false] rfl rfl (qbg HT_.out HW_.out (by kernel_rfl)) (fun _ _ _ h => h) (Or.inl ⟨by rfl, ?_⟩) hHeld ?_ ?_
     rotate_left
     ·
      rintro w' ⟨s0, s1, s2, s3, s4, s5⟩
      go_simp
      with_reducible rfl
     rotate_left
     ·
      simp only [Act.put, sIa, sIz, sIs, qap, i32_w]
      rfl
     refine qax (i := 13) (N := some 19) (v := ?_) (a' := ?_) #[true, true, true, true, true, true, true, true, true, true, true, true, true, true, false, false, false, false, false, false, false, false, false, false] rfl rfl (qar HT_.out (by kernel_rfl)) (fun _ _ _ h => h) (Or.inl ⟨by rfl, ?_⟩) ?_ ?_
     rotate_left
     ·
      intro w'
      go_simp
      with_reducible rfl
     rotate_left
     ·
      simp only [Act.put, sIa, sIz, sIs, qap, i32_w]
      rfl
     refine qax (i := 14) (N := some 20) (v := ?_) (a' := ?_) #[true, true, true, true, true, true, true, true, true, true, true, true, true, true, true, false, false, false, false, false, false, false, false, false] rfl rfl (qar HT_.out (by kernel_rfl)) (fun _ _ _ h => h) (Or.inl ⟨by rfl, ?_⟩) ?_ ?_
     rotate_left
     ·
      intro w'
      go_simp
      with_reducible rfl
     rotate_left
     ·
      simp only [Act.put, sIa, sIz, sIs, qap, i32_w]
      rfl
     refine qax (i := 15) (N := some 21) (v := ?_) (a' := ?_) #[true, true, true, true, true, true, true, true, true, true, true, true, true, true, true, true, false, false, false, false, false, false, false, false] rfl rfl (qar HT_.out (by kernel_rfl)) (fun _ _ _ h => h) (Or.inl ⟨by rfl, ?_⟩) ?_ ?_
     rotate_left
     ·
      intro w'
      go_simp
      with_reducible rfl
     rotate_left
     ·
      simp only [Act.put, sIa, sIz, sIs, qap, i32_w]
      rfl
     refine qax (i := 16) (N := some 22) (v := ?_) (a' := ?_) #[true, true, true, true, true, true, true, true, true, true, true, true, true, true, true, true, true, false, false, false, false, false, false, false] rfl rfl (qar HT_.out (by kernel_rfl)) (fun _ _ _ h => h) (Or.inl ⟨by rfl, ?_⟩) ?_ ?_
     rotate_left
     ·
      intro w'
      go_simp
      with_reducible rfl
     rotate_left
     ·
      simp only [Act.put, sIa, sIz, sIs, qap, i32_w]
      rfl
     refine qax (i := 17) (N := some 23) (v := ?_) (a' := ?_) #[true, true, true, true, true, true, true, true, true, true, true, true, true, true, true, true, true, true, false, false, false, false, false, false] rfl rfl (qar HT_.out (by kernel_rfl)) (fun _ _ _ h => h) (Or.inl ⟨by rfl, ?_⟩) ?_ ?_
     rotate_left
     ·
      intro w'
      go_simp
      with_reducible rfl
     rotate_left
     ·
      simp only [Act.put, sIa, sIz, sIs, qap, i32_w]
      rfl
     refine take_ (i := 18) (N := some 24) (v := ?_) (a' := ?_) #[true, true, true, true, true, true, true, true, true, true, true, true, true, true, true, true, true, true, true, false, false, false, false, false] rfl rfl (qbg HT_.out HW_.out (by kernel_rfl)) (fun _ _ _ h => h) (Or.inl ⟨by rfl, ?_⟩) hHeld ?_ ?_
     rotate_left
     ·
      rintro w' ⟨s0, s1, s2, s3, s4, s5⟩
      go_simp
      with_reducible rfl
     rotate_left
     ·
      simp only [Act.put, sIa, sIz, sIs, qap, i32_w]
      rfl
     refine one_ (i := 19) (N := some 25) #[true, true, true, true, true, true, true, true, true, true, true, true, true, true, true, true, true, true, true, true, false, false, false, false] rfl rfl (one_of HT_.out (by kernel_rfl)) (by decide) (fun K hK => ?_)
     refine goes_ Tryz.func103 (by kernel_rfl) rfl #[] (by rfl) rfl rfl (by (try simp only [List.map_toArray, List.map_cons, List.map_nil]); first | done | rfl | (simp only [List.length_drop, List.length_take]; rfl)) ?_
     with_reducible refine (rbi.calls  t149 _ A7.out).mono ?_
     rintro e w12 ⟨v150, rfl, ho0, hb⟩
     refine ⟨_, rfl, ?_⟩
     have n0_ := Aside0.mk (Kd.R_lower ho0 (qaj (by repeat (first | (with_reducible first | exact HB.out | apply qad | apply qab | apply qac | refine qaf ?_ GE147.out) | exact HB.out))))
     have n1_ := Aside0.mk (qan (g := gb147) (o := .cells #[.int .i64 a0_0, .int .i64 a0_1, .int .i64 a0_2, .string a0_3, .int .i64 a0_4, .int .i64 a0_5] 114 (0, 0)) (by (with_reducible repeat (first | refine qag ?_ _ | refine qai ?_ | refine blk_alloc ?_ _)); exact BK147.out) hb)
     have n2_ := Aside0.mk (qah (by repeat (first | (with_reducible first | exact HB.out | apply qad | apply qab | apply qac | refine qaf ?_ GE147.out) | exact HB.out)) hb)
     clear BK147
     clear HB
     have HO151 := n0_
     have BK147 := n1_
     have HB := n2_
     clear n0_ n1_ n2_
     (try clear hb)
     (try clear hb2)
     (try clear hk)
     (try clear hi)
     (try clear ho0)
     obtain ⟨Ao13, co13, eo13⟩ := Kd.R_slice HO151.out
     (first | subst eo13 | (injection eo13 with f1_ f2_ f3_; have f4_ := f1_.symm; have f5_ := f3_.symm; clear f1_ f2_ f3_; subst f4_; subst f5_))
     refine hK.out _ _ ⟨(qak BK147.out 0).trans rfl, (qak BK147.out 1).trans rfl, (qak BK147.out 2).trans rfl, (qak BK147.out 3).trans rfl, (qak BK147.out 4).trans rfl, (qak BK147.out 5).trans rfl⟩ (fun hHeld => ?_)
     clear hK K
     refine norm_ (a' := ?_) ?_ ?_
     rotate_left
     ·
      show Act.put _ (some 25) _ = _
      simp only [Act.put, sIa, sIz, sIs, qap, i32_w]
      rfl
     refine qax (i := 20) (N := some 26) (v := ?_) (a' := ?_) #[true, true, true, true, true, true, true, true, true, true, true, true, true, true, true, true, true, true, true, true, true, false, false, false] rfl rfl (qar HT_.out (by kernel_rfl)) (fun _ _ _ h => h) (Or.inl ⟨by rfl, ?_⟩) ?_ ?_
     rotate_left
     ·
      intro w'
      go_simp
      with_reducible rfl
     rotate_left
     ·
      simp only [Act.put, sIa, sIz, sIs, qap, i32_w]
      rfl
     refine qax (i := 21) (N := some 27) (v := ?_) (a' := ?_) #[true, true, true, true, true, true, true, true, true, true, true, true, true, true, true, true, true, true, true, true, true, true, false, false] rfl rfl (qar HT_.out (by kernel_rfl)) (fun _ _ _ h => h) (Or.inl ⟨by rfl, ?_⟩) ?_ ?_
     rotate_left
     ·
      intro w'
      go_simp
      with_reducible rfl
     rotate_left
     ·
      simp only [Act.put, sIa, sIz, sIs, qap, i32_w]
      rfl
     refine qax (i := 22) (N := some 28) (v := ?_) (a' := ?_) #[true, true, true, true, true, true, true, true, true, true, true, true, true, true, true, true, true, true, true, true, true, true, true, false] rfl rfl (qar HT_.out (by kernel_rfl)) (fun _ _ _ h => h) (Or.inl ⟨by rfl, ?_⟩) ?_ ?_
     rotate_left
     ·
      intro w'
      go_simp
      with_reducible rfl
     rotate_left
     ·
      simp only [Act.put, sIa, sIz, sIs, qap, i32_w]
      rfl
     refine qax (i := 23) (N := some 2) (v := ?_) (a' := ?_) #[true, true, true, true, true, true, true, true, true, true, true, true, true, true, true, true, true, true, true, true, true, true, true, true] rfl rfl (qar HT_.out (by kernel_rfl)) (fun _ _ _ h => h) (Or.inl ⟨by rfl, ?_⟩) ?_ ?_
     rotate_left
     ·
      intro w'
      go_simp
      with_reducible rfl
     rotate_left
     ·
      simp only [Act.put, sIa, sIz, sIs, qap, i32_w]
      rfl
     refine done_ (done_of HT_.out (by kernel_rfl)) ?_
     try go_wp2
     go_ret
     exact ⟨by first | rfl | (simp [*] <;> rfl), by repeat (first | (with_reducible first | exact HB.out | apply qad | apply qab | apply qac | refine qaf ?_ GE147.out) | exact HB.out)⟩
    ·
     rw [if_neg c6] at H
     have c6b0 : decide (0 ≤ a0_2) = false := decide_eq_false c6
     clear c6
     obtain rfl := Option.some.inj H
     go_enter Tryz.func116, Tryz.ntmps116
     try go_wp2_with (first | ((with_reducible refine qav (N := 1) rfl ?_); (try (refine gate_guard (by rfl) ?_; dsimp only)); refine qau ?hg (N := 1) ?hd (cs := #[.int .i64 a0_0, .int .i64 a0_1, .int .i64 a0_2, .string a0_3, .int .i64 a0_4, .int .i64 a0_5]) (t := 114) ?hr ?_; (case hd => rfl); (case hg => rfl); (case hr => first | (go_simp; done) | (go_simp; rfl)); intro gb147 hg w14 hbox hb; have n0_ := Aside0.mk (qah (by repeat (first | (with_reducible first | exact HB.out | apply qad | apply qab | apply qac) | exact HB.out)) hb); have n1_ := Aside0.mk (hbox); have n2_ := Aside0.mk ((by rw [hg]; exact (qaj (by repeat (first | (with_reducible first | exact HB.out | apply qad | apply qab | apply qac) | exact HB.out))) : w.heap.size ≤ gb147)); have n3_ := Aside0.mk ((by rw [hg]; exact (qaj (by repeat (first | (with_reducible first | exact HB.out | apply qad | apply qab | apply qac) | exact HB.out))) : w.heap.size ≤ gb147)); clear HB; have HB := n0_; have BK147 := n1_; have GW147 := n2_; have GE147 := n3_; clear n0_ n1_ n2_ n3_; clear hb hbox hg; obtain ⟨G15_0, G15_1, G15_2, G15_3, G15_4, G15_5, F15_0, F15_1, F15_2, F15_3, F15_4, F15_5⟩ := shr6 BK147.out))
     have n0_ := Aside0.mk (qai BK147.out)
     have n1_ := Aside0.mk (qac HB.out)
     clear BK147
     clear HB
     have BK147 := n0_
     have HB := n1_
     clear n0_ n1_
     refine start_ (n := 24) (S := fun w' => w'.cell? ⟨gb147, 0, none⟩ = some (.int .i64 a0_0) ∧ w'.cell? ⟨gb147, 1, none⟩ = some (.int .i64 a0_1) ∧ w'.cell? ⟨gb147, 2, none⟩ = some (.int .i64 a0_2) ∧ w'.cell? ⟨gb147, 3, none⟩ = some (.string a0_3) ∧ w'.cell? ⟨gb147, 4, none⟩ = some (.int .i64 a0_4) ∧ w'.cell? ⟨gb147, 5, none⟩ = some (.int .i64 a0_5)) (ds := []) #[false, false, false, false, false, false, false, false, false, false, false, false, false, false, false, false, false, false, false, false, false, false, false, false] (by kernel_rfl) rfl rfl ⟨(qak BK147.out 0).trans rfl, (qak BK147.out 1).trans rfl, (qak BK147.out 2).trans rfl, (qak BK147.out 3).trans rfl, (qak BK147.out 4).trans rfl, (qak BK147.out 5).trans rfl⟩ (fun hHeld => ?_); refine with_tabW rap.tab2 rap.bits2 (fun HT_ HW_ => ?_)
     generalize w14.drew = w16 at BK147 HB hHeld ⊢
     refine qax (i := 0) (N := some 6) (v := ?_) (a' := ?_) #[true, false, false, false, false, false, false, false, false, false, false, false, false, false, false, false, false, false, false, false, false, false, false, false] rfl rfl (qar HT_.out (by kernel_rfl)) (fun _ _ _ h => h) (Or.inl ⟨by rfl, ?_⟩) ?_ ?_
     rotate_left
     ·
      intro w'
      go_simp
      with_reducible rfl
     rotate_left
     ·
      simp only [Act.put, sIa, sIz, sIs, qap, i32_w]
      rfl
     refine qax (i := 1) (N := some 7) (v := ?_) (a' := ?_) #[true, true, false, false, false, false, false, false, false, false, false, false, false, false, false, false, false, false, false, false, false, false, false, false] rfl rfl (qar HT_.out (by kernel_rfl)) (fun _ _ _ h => h) (Or.inl ⟨by rfl, ?_⟩) ?_ ?_
     rotate_left
     ·
      intro w'
      go_simp
      with_reducible rfl
     rotate_left
     ·
      simp only [Act.put, sIa, sIz, sIs, qap, i32_w]
      rfl
     refine take_ (i := 2) (N := some 8) (v := ?_) (a' := ?_) #[true, true, true, false, false, false, false, false, false, false, false, false, false, false, false, false, false, false, false, false, false, false, false, false] rfl rfl (qbg HT_.out HW_.out (by kernel_rfl)) (fun _ _ _ h => h) (Or.inl ⟨by rfl, ?_⟩) hHeld ?_ ?_
     rotate_left
     ·
      rintro w' ⟨s0, s1, s2, s3, s4, s5⟩
      go_simp
      with_reducible rfl
     rotate_left
     ·
      simp only [Act.put, sIa, sIz, sIs, qap, i32_w]
      rfl
     refine qax (i := 3) (N := some 9) (v := ?_) (a' := ?_) #[true, true, true, true, false, false, false, false, false, false, false, false, false, false, false, false, false, false, false, false, false, false, false, false] rfl rfl (qar HT_.out (by kernel_rfl)) (fun _ _ _ h => h) (Or.inl ⟨by rfl, ?_⟩) ?_ ?_
     rotate_left
     ·
      intro w'
      go_simp
      with_reducible rfl
     rotate_left
     ·
      simp only [Act.put, sIa, sIz, sIs, qap, i32_w]
      rfl
     refine qax (i := 4) (N := some 10) (v := ?_) (a' := ?_) #[true, true, true, true, true, false, false, false, false, false, false, false, false, false, false, false, false, false, false, false, false, false, false, false] rfl rfl (qar HT_.out (by kernel_rfl)) (fun _ _ _ h => h) (Or.inl ⟨by rfl, ?_⟩) ?_ ?_
     rotate_left
     ·
      intro w'
      go_simp
      with_reducible rfl
     rotate_left
     ·
      simp only [Act.put, sIa, sIz, sIs, qap, i32_w]
      rfl
     refine qax (i := 5) (N := some 11) (v := ?_) (a' := ?_) #[true, true, true, true, true, true, false, false, false, false, false, false, false, false, false, false, false, false, false, false, false, false, false, false] rfl rfl (qar HT_.out (by kernel_rfl)) (fun _ _ _ h => h) (Or.inl ⟨by rfl, ?_⟩) ?_ ?_
     rotate_left
     ·
      intro w'
      go_simp
      with_reducible rfl
     rotate_left
     ·
      simp only [Act.put, sIa, sIz, sIs, qap, i32_w]
      rfl
     refine take_ (i := 6) (N := some 12) (v := ?_) (a' := ?_) #[true, true, true, true, true, true, true, false, false, false, false, false, false, false, false, false, false, false, false, false, false, false, false, false] rfl rfl (qbg HT_.out HW_.out (by kernel_rfl)) (fun _ _ _ h => h) (Or.inl ⟨by rfl, ?_⟩) hHeld ?_ ?_
     rotate_left
     ·
      rintro w' ⟨s0, s1, s2, s3, s4, s5⟩
      go_simp
      with_reducible rfl
     rotate_left
     ·
      simp only [Act.put, sIa, sIz, sIs, qap, i32_w]
      rfl
     refine one_ (i := 7) (N := some 13) #[true, true, true, true, true, true, true, true, false, false, false, false, false, false, false, false, false, false, false, false, false, false, false, false] rfl rfl (one_of HT_.out (by kernel_rfl)) (by decide) (fun K hK => ?_)
     refine goes_ Tryz.func45 (by kernel_rfl) rfl #[.agg #[.int .i64 a0_1, .int .i64 a0_2, .string a0_3, .int .i64 a0_4, .int .i64 a0_5]] (by rfl) rfl rfl (by (try simp only [List.map_toArray, List.map_cons, List.map_nil]); first | done | rfl | (simp only [List.length_drop, List.length_take]; rfl)) ?_
     with_reducible refine (ran.calls a0_1 a0_2 a0_3 a0_4 a0_5 true _ A4.out).mono ?_
     rintro e w17 ⟨rfl, hb⟩
     refine ⟨_, rfl, ?_⟩
     have n0_ := Aside0.mk (qan (g := gb147) (o := .cells #[.int .i64 a0_0, .int .i64 a0_1, .int .i64 a0_2, .string a0_3, .int .i64 a0_4, .int .i64 a0_5] 114 (0, 0)) (by (with_reducible repeat (first | refine qag ?_ _ | refine qai ?_ | refine blk_alloc ?_ _)); exact BK147.out) hb)
     have n1_ := Aside0.mk (qah (by repeat (first | (with_reducible first | exact HB.out | apply qad | apply qab | apply qac | refine qaf ?_ GE147.out) | exact HB.out)) hb)
     clear BK147
     clear HB
     have BK147 := n0_
     have HB := n1_
     clear n0_ n1_
     (try clear hb)
     (try clear hb2)
     (try clear hk)
     (try clear hi)
     refine hK.out _ _ ⟨(qak BK147.out 0).trans rfl, (qak BK147.out 1).trans rfl, (qak BK147.out 2).trans rfl, (qak BK147.out 3).trans rfl, (qak BK147.out 4).trans rfl, (qak BK147.out 5).trans rfl⟩ (fun hHeld => ?_)
     clear hK K
     refine norm_ (a' := ?_) ?_ ?_
     rotate_left
     ·
      show Act.put _ (some 13) _ = _
      simp only [Act.put, sIa, sIz, sIs, qap, i32_w]
      rfl
     refine qax (i := 8) (N := some 14) (v := ?_) (a' := ?_) #[true, true, true, true, true, true, true, true, true, false, false, false, false, false, false, false, false, false, false, false, false, false, false, false] rfl rfl (qar HT_.out (by kernel_rfl)) (fun _ _ _ h => h) (Or.inl ⟨by rfl, ?_⟩) ?_ ?_
     rotate_left
     ·
      intro w'
      go_simp
      with_reducible rfl
     rotate_left
     ·
      simp only [Act.put, sIa, sIz, sIs, qap, i32_w]
      rfl
     refine qax (i := 9) (N := some 15) (v := ?_) (a' := ?_) #[true, true, true, true, true, true, true, true, true, true, false, false, false, false, false, false, false, false, false, false, false, false, false, false] rfl rfl (qar HT_.out (by kernel_rfl)) (fun _ _ _ h => h) (Or.inl ⟨by rfl, ?_⟩) ?_ ?_
     rotate_left
     ·
      intro w'
      go_simp
      with_reducible rfl
     rotate_left
     ·
      simp only [Act.put, sIa, sIz, sIs, qap, i32_w]
      rfl
     refine qax (i := 10) (N := some 16) (v := ?_) (a' := ?_) #[true, true, true, true, true, true, true, true, true, true, true, false, false, false, false, false, false, false, false, false, false, false, false, false] rfl rfl (qar HT_.out (by kernel_rfl)) (fun _ _ _ h => h) (Or.inl ⟨by rfl, ?_⟩) ?_ ?_
     rotate_left
     ·
      intro w'
      go_simp
      with_reducible rfl
     rotate_left
     ·
      simp only [Act.put, sIa, sIz, sIs, qap, i32_w]
      rfl
     refine qax (i := 11) (N := some 17) (v := ?_) (a' := ?_) #[true, true, true, true, true, true, true, true, true, true, true, true, false, false, false, false, false, false, false, false, false, false, false, false] rfl rfl (qar HT_.out (by kernel_rfl)) (fun _ _ _ h => h) (Or.inl ⟨by rfl, ?_⟩) ?_ ?_
     rotate_left
     ·
      intro w'
      go_simp
      with_reducible rfl
     rotate_left
     ·
      simp only [Act.put, sIa, sIz, sIs, qap, i32_w]
      rfl
     refine take_ (i := 12) (N := some 18) (v := ?_) (a' := ?_) #[true, true, true, true, true, true, true, true, true, true, true, true, true, false, false, false, false, false, false, false, false, false, false, false] rfl rfl (qbg HT_.out HW_.out (by kernel_rfl)) (fun _ _ _ h => h) (Or.inl ⟨by rfl, ?_⟩) hHeld ?_ ?_
     rotate_left
     ·
      rintro w' ⟨s0, s1, s2, s3, s4, s5⟩
      go_simp
      with_reducible rfl
     rotate_left
     ·
      simp only [Act.put, sIa, sIz, sIs, qap, i32_w]
      rfl
     refine qax (i := 13) (N := some 19) (v := ?_) (a' := ?_) #[true, true, true, true, true, true, true, true, true, true, true, true, true, true, false, false, false, false, false, false, false, false, false, false] rfl rfl (qar HT_.out (by kernel_rfl)) (fun _ _ _ h => h) (Or.inl ⟨by rfl, ?_⟩) ?_ ?_
     rotate_left
     ·
      intro w'
      go_simp
      with_reducible rfl
     rotate_left
     ·
      simp only [Act.put, sIa, sIz, sIs, qap, i32_w]
      rfl
     refine qax (i := 14) (N := some 20) (v := ?_) (a' := ?_) #[true, true, true, true, true, true, true, true, true, true, true, true, true, true, true, false, false, false, false, false, false, false, false, false] rfl rfl (qar HT_.out (by kernel_rfl)) (fun _ _ _ h => h) (Or.inl ⟨by rfl, ?_⟩) ?_ ?_
     rotate_left
     ·
      intro w'
      go_simp
      with_reducible rfl
     rotate_left
     ·
      simp only [Act.put, sIa, sIz, sIs, qap, i32_w]
      rfl
     refine qax (i := 15) (N := some 21) (v := ?_) (a' := ?_) #[true, true, true, true, true, true, true, true, true, true, true, true, true, true, true, true, false, false, false, false, false, false, false, false] rfl rfl (qar HT_.out (by kernel_rfl)) (fun _ _ _ h => h) (Or.inl ⟨by rfl, ?_⟩) ?_ ?_
     rotate_left
     ·
      intro w'
      go_simp
      with_reducible rfl
     rotate_left
     ·
      simp only [Act.put, sIa, sIz, sIs, qap, i32_w]
      rfl
     refine qax (i := 16) (N := some 22) (v := undef) (a' := ?_) #[true, true, true, true, true, true, true, true, true, true, true, true, true, true, true, true, true, false, false, false, false, false, false, false] rfl rfl (qar HT_.out (by kernel_rfl)) (fun _ _ _ h => h) (Or.inr ⟨by rfl, rfl⟩) ?_ ?_
     rotate_left
     ·
      simp only [Act.put, sIa, sIz, sIs, qap, i32_w]
      rfl
     refine qax (i := 17) (N := some 23) (v := undef) (a' := ?_) #[true, true, true, true, true, true, true, true, true, true, true, true, true, true, true, true, true, true, false, false, false, false, false, false] rfl rfl (qar HT_.out (by kernel_rfl)) (fun _ _ _ h => h) (Or.inr ⟨by rfl, rfl⟩) ?_ ?_
     rotate_left
     ·
      simp only [Act.put, sIa, sIz, sIs, qap, i32_w]
      rfl
     refine qax (i := 18) (N := some 24) (v := undef) (a' := ?_) #[true, true, true, true, true, true, true, true, true, true, true, true, true, true, true, true, true, true, true, false, false, false, false, false] rfl rfl (qar HT_.out (by kernel_rfl)) (fun _ _ _ h => h) (Or.inr ⟨by rfl, rfl⟩) ?_ ?_
     rotate_left
     ·
      simp only [Act.put, sIa, sIz, sIs, qap, i32_w]
      rfl
     refine qax (i := 19) (N := some 25) (v := undef) (a' := ?_) #[true, true, true, true, true, true, true, true, true, true, true, true, true, true, true, true, true, true, true, true, false, false, false, false] rfl rfl (qar HT_.out (by kernel_rfl)) (fun _ _ _ h => h) (Or.inr ⟨by rfl, rfl⟩) ?_ ?_
     rotate_left
     ·
      simp only [Act.put, sIa, sIz, sIs, qap, i32_w]
      rfl
     refine qax (i := 20) (N := some 26) (v := undef) (a' := ?_) #[true, true, true, true, true, true, true, true, true, true, true, true, true, true, true, true, true, true, true, true, true, false, false, false] rfl rfl (qar HT_.out (by kernel_rfl)) (fun _ _ _ h => h) (Or.inr ⟨by rfl, rfl⟩) ?_ ?_
     rotate_left
     ·
      simp only [Act.put, sIa, sIz, sIs, qap, i32_w]
      rfl
     refine qax (i := 21) (N := some 27) (v := undef) (a' := ?_) #[true, true, true, true, true, true, true, true, true, true, true, true, true, true, true, true, true, true, true, true, true, true, false, false] rfl rfl (qar HT_.out (by kernel_rfl)) (fun _ _ _ h => h) (Or.inr ⟨by rfl, rfl⟩) ?_ ?_
     rotate_left
     ·
      simp only [Act.put, sIa, sIz, sIs, qap, i32_w]
      rfl
     refine qax (i := 22) (N := some 28) (v := ?_) (a' := ?_) #[true, true, true, true, true, true, true, true, true, true, true, true, true, true, true, true, true, true, true, true, true, true, true, false] rfl rfl (qar HT_.out (by kernel_rfl)) (fun _ _ _ h => h) (Or.inl ⟨by rfl, ?_⟩) ?_ ?_
     rotate_left
     ·
      intro w'
      go_simp
      with_reducible rfl
     rotate_left
     ·
      simp only [Act.put, sIa, sIz, sIs, qap, i32_w]
      rfl
     refine qax (i := 23) (N := some 2) (v := ?_) (a' := ?_) #[true, true, true, true, true, true, true, true, true, true, true, true, true, true, true, true, true, true, true, true, true, true, true, true] rfl rfl (qar HT_.out (by kernel_rfl)) (fun _ _ _ h => h) (Or.inl ⟨by rfl, ?_⟩) ?_ ?_
     rotate_left
     ·
      intro w'
      go_simp
      with_reducible rfl
     rotate_left
     ·
      simp only [Act.put, sIa, sIz, sIs, qap, i32_w]
      rfl
     refine done_ (done_of HT_.out (by kernel_rfl)) ?_
     try go_wp2
     go_ret
     exact ⟨by first | rfl | (simp [*] <;> rfl), by repeat (first | (with_reducible first | exact HB.out | apply qad | apply qab | apply qac | refine qaf ?_ GE147.out) | exact HB.out)⟩
   ·
    replace c5 := Bool.eq_false_iff.mpr c5
    subst c5
    have H1 : (some false) = some r := by rw [if_neg (show ¬ (false = true) by decide)] at H; exact H
    clear H
    have H := H1
    clear H1
    obtain rfl := Option.some.inj H
    go_enter Tryz.func116, Tryz.ntmps116
    try go_wp2_with (first | ((with_reducible refine qav (N := 1) rfl ?_); (try (refine gate_guard (by rfl) ?_; dsimp only)); refine qau ?hg (N := 1) ?hd (cs := #[.int .i64 a0_0, .int .i64 a0_1, .int .i64 a0_2, .string a0_3, .int .i64 a0_4, .int .i64 a0_5]) (t := 114) ?hr ?_; (case hd => rfl); (case hg => rfl); (case hr => first | (go_simp; done) | (go_simp; rfl)); intro gb147 hg w18 hbox hb; have n0_ := Aside0.mk (qah (by repeat (first | (with_reducible first | exact HB.out | apply qad | apply qab | apply qac) | exact HB.out)) hb); have n1_ := Aside0.mk (hbox); have n2_ := Aside0.mk ((by rw [hg]; exact (qaj (by repeat (first | (with_reducible first | exact HB.out | apply qad | apply qab | apply qac) | exact HB.out))) : w.heap.size ≤ gb147)); have n3_ := Aside0.mk ((by rw [hg]; exact (qaj (by repeat (first | (with_reducible first | exact HB.out | apply qad | apply qab | apply qac) | exact HB.out))) : w.heap.size ≤ gb147)); clear HB; have HB := n0_; have BK147 := n1_; have GW147 := n2_; have GE147 := n3_; clear n0_ n1_ n2_ n3_; clear hb hbox hg; obtain ⟨G19_0, G19_1, G19_2, G19_3, G19_4, G19_5, F19_0, F19_1, F19_2, F19_3, F19_4, F19_5⟩ := shr6 BK147.out))
    have n0_ := Aside0.mk (qai BK147.out)
    have n1_ := Aside0.mk (qac HB.out)
    clear BK147
    clear HB
    have BK147 := n0_
    have HB := n1_
    clear n0_ n1_
    refine start_ (n := 24) (S := fun w' => w'.cell? ⟨gb147, 0, none⟩ = some (.int .i64 a0_0) ∧ w'.cell? ⟨gb147, 1, none⟩ = some (.int .i64 a0_1) ∧ w'.cell? ⟨gb147, 2, none⟩ = some (.int .i64 a0_2) ∧ w'.cell? ⟨gb147, 3, none⟩ = some (.string a0_3) ∧ w'.cell? ⟨gb147, 4, none⟩ = some (.int .i64 a0_4) ∧ w'.cell? ⟨gb147, 5, none⟩ = some (.int .i64 a0_5)) (ds := []) #[false, false, false, false, false, false, false, false, false, false, false, false, false, false, false, false, false, false, false, false, false, false, false, false] (by kernel_rfl) rfl rfl ⟨(qak BK147.out 0).trans rfl, (qak BK147.out 1).trans rfl, (qak BK147.out 2).trans rfl, (qak BK147.out 3).trans rfl, (qak BK147.out 4).trans rfl, (qak BK147.out 5).trans rfl⟩ (fun hHeld => ?_); refine with_tabW rap.tab2 rap.bits2 (fun HT_ HW_ => ?_)
    generalize w18.drew = w20 at BK147 HB hHeld ⊢
    refine qax (i := 0) (N := some 6) (v := ?_) (a' := ?_) #[true, false, false, false, false, false, false, false, false, false, false, false, false, false, false, false, false, false, false, false, false, false, false, false] rfl rfl (qar HT_.out (by kernel_rfl)) (fun _ _ _ h => h) (Or.inl ⟨by rfl, ?_⟩) ?_ ?_
    rotate_left
    ·
     intro w'
     go_simp
     with_reducible rfl
    rotate_left
    ·
     simp only [Act.put, sIa, sIz, sIs, qap, i32_w]
     rfl
    refine qax (i := 1) (N := some 7) (v := ?_) (a' := ?_) #[true, true, false, false, false, false, false, false, false, false, false, false, false, false, false, false, false, false, false, false, false, false, false, false] rfl rfl (qar HT_.out (by kernel_rfl)) (fun _ _ _ h => h) (Or.inl ⟨by rfl, ?_⟩) ?_ ?_
    rotate_left
    ·
     intro w'
     go_simp
     with_reducible rfl
    rotate_left
    ·
     simp only [Act.put, sIa, sIz, sIs, qap, i32_w]
     rfl
    refine take_ (i := 2) (N := some 8) (v := ?_) (a' := ?_) #[true, true, true, false, false, false, false, false, false, false, false, false, false, false, false, false, false, false, false, false, false, false, false, false] rfl rfl (qbg HT_.out HW_.out (by kernel_rfl)) (fun _ _ _ h => h) (Or.inl ⟨by rfl, ?_⟩) hHeld ?_ ?_
    rotate_left
    ·
     rintro w' ⟨s0, s1, s2, s3, s4, s5⟩
     go_simp
     with_reducible rfl
    rotate_left
    ·
     simp only [Act.put, sIa, sIz, sIs, qap, i32_w]
     rfl
    refine qax (i := 3) (N := some 9) (v := ?_) (a' := ?_) #[true, true, true, true, false, false, false, false, false, false, false, false, false, false, false, false, false, false, false, false, false, false, false, false] rfl rfl (qar HT_.out (by kernel_rfl)) (fun _ _ _ h => h) (Or.inl ⟨by rfl, ?_⟩) ?_ ?_
    rotate_left
    ·
     intro w'
     go_simp
     with_reducible rfl
    rotate_left
    ·
     simp only [Act.put, sIa, sIz, sIs, qap, i32_w]
     rfl
    refine qax (i := 4) (N := some 10) (v := ?_) (a' := ?_) #[true, true, true, true, true, false, false, false, false, false, false, false, false, false, false, false, false, false, false, false, false, false, false, false] rfl rfl (qar HT_.out (by kernel_rfl)) (fun _ _ _ h => h) (Or.inl ⟨by rfl, ?_⟩) ?_ ?_
    rotate_left
    ·
     intro w'
     go_simp
     with_reducible rfl
    rotate_left
    ·
     simp only [Act.put, sIa, sIz, sIs, qap, i32_w]
     rfl
    refine qax (i := 5) (N := some 11) (v := ?_) (a' := ?_) #[true, true, true, true, true, true, false, false, false, false, false, false, false, false, false, false, false, false, false, false, false, false, false, false] rfl rfl (qar HT_.out (by kernel_rfl)) (fun _ _ _ h => h) (Or.inl ⟨by rfl, ?_⟩) ?_ ?_
    rotate_left
    ·
     intro w'
     go_simp
     with_reducible rfl
    rotate_left
    ·
     simp only [Act.put, sIa, sIz, sIs, qap, i32_w]
     rfl
    refine take_ (i := 6) (N := some 12) (v := ?_) (a' := ?_) #[true, true, true, true, true, true, true, false, false, false, false, false, false, false, false, false, false, false, false, false, false, false, false, false] rfl rfl (qbg HT_.out HW_.out (by kernel_rfl)) (fun _ _ _ h => h) (Or.inl ⟨by rfl, ?_⟩) hHeld ?_ ?_
    rotate_left
    ·
     rintro w' ⟨s0, s1, s2, s3, s4, s5⟩
     go_simp
     with_reducible rfl
    rotate_left
    ·
     simp only [Act.put, sIa, sIz, sIs, qap, i32_w]
     rfl
    refine one_ (i := 7) (N := some 13) #[true, true, true, true, true, true, true, true, false, false, false, false, false, false, false, false, false, false, false, false, false, false, false, false] rfl rfl (one_of HT_.out (by kernel_rfl)) (by decide) (fun K hK => ?_)
    refine goes_ Tryz.func45 (by kernel_rfl) rfl #[.agg #[.int .i64 a0_1, .int .i64 a0_2, .string a0_3, .int .i64 a0_4, .int .i64 a0_5]] (by rfl) rfl rfl (by (try simp only [List.map_toArray, List.map_cons, List.map_nil]); first | done | rfl | (simp only [List.length_drop, List.length_take]; rfl)) ?_
    with_reducible refine (ran.calls a0_1 a0_2 a0_3 a0_4 a0_5 false _ A4.out).mono ?_
    rintro e w21 ⟨rfl, hb⟩
    refine ⟨_, rfl, ?_⟩
    have n0_ := Aside0.mk (qan (g := gb147) (o := .cells #[.int .i64 a0_0, .int .i64 a0_1, .int .i64 a0_2, .string a0_3, .int .i64 a0_4, .int .i64 a0_5] 114 (0, 0)) (by (with_reducible repeat (first | refine qag ?_ _ | refine qai ?_ | refine blk_alloc ?_ _)); exact BK147.out) hb)
    have n1_ := Aside0.mk (qah (by repeat (first | (with_reducible first | exact HB.out | apply qad | apply qab | apply qac | refine qaf ?_ GE147.out) | exact HB.out)) hb)
    clear BK147
    clear HB
    have BK147 := n0_
    have HB := n1_
    clear n0_ n1_
    (try clear hb)
    (try clear hb2)
    (try clear hk)
    (try clear hi)
    refine hK.out _ _ ⟨(qak BK147.out 0).trans rfl, (qak BK147.out 1).trans rfl, (qak BK147.out 2).trans rfl, (qak BK147.out 3).trans rfl, (qak BK147.out 4).trans rfl, (qak BK147.out 5).trans rfl⟩ (fun hHeld => ?_)
    clear hK K
    refine norm_ (a' := ?_) ?_ ?_
    rotate_left
    ·
     show Act.put _ (some 13) _ = _
     simp only [Act.put, sIa, sIz, sIs, qap, i32_w]
     rfl
    refine qax (i := 8) (N := some 14) (v := ?_) (a' := ?_) #[true, true, true, true, true, true, true, true, true, false, false, false, false, false, false, false, false, false, false, false, false, false, false, false] rfl rfl (qar HT_.out (by kernel_rfl)) (fun _ _ _ h => h) (Or.inl ⟨by rfl, ?_⟩) ?_ ?_
    rotate_left
    ·
     intro w'
     go_simp
     with_reducible rfl
    rotate_left
    ·
     simp only [Act.put, sIa, sIz, sIs, qap, i32_w]
     rfl
    refine qax (i := 9) (N := some 15) (v := ?_) (a' := ?_) #[true, true, true, true, true, true, true, true, true, true, false, false, false, false, false, false, false, false, false, false, false, false, false, false] rfl rfl (qar HT_.out (by kernel_rfl)) (fun _ _ _ h => h) (Or.inl ⟨by rfl, ?_⟩) ?_ ?_
    rotate_left
    ·
     intro w'
     go_simp
     with_reducible rfl
    rotate_left
    ·
     simp only [Act.put, sIa, sIz, sIs, qap, i32_w]
     rfl
    refine qax (i := 10) (N := some 16) (v := undef) (a' := ?_) #[true, true, true, true, true, true, true, true, true, true, true, false, false, false, false, false, false, false, false, false, false, false, false, false] rfl rfl (qar HT_.out (by kernel_rfl)) (fun _ _ _ h => h) (Or.inr ⟨by rfl, rfl⟩) ?_ ?_
    rotate_left
    ·
     simp only [Act.put, sIa, sIz, sIs, qap, i32_w]
     rfl
    refine qax (i := 11) (N := some 17) (v := undef) (a' := ?_) #[true, true, true, true, true, true, true, true, true, true, true, true, false, false, false, false, false, false, false, false, false, false, false, false] rfl rfl (qar HT_.out (by kernel_rfl)) (fun _ _ _ h => h) (Or.inr ⟨by rfl, rfl⟩) ?_ ?_
    rotate_left
    ·
     simp only [Act.put, sIa, sIz, sIs, qap, i32_w]
     rfl
    refine qax (i := 12) (N := some 18) (v := undef) (a' := ?_) #[true, true, true, true, true, true, true, true, true, true, true, true, true, false, false, false, false, false, false, false, false, false, false, false] rfl rfl (qar HT_.out (by kernel_rfl)) (fun _ _ _ h => h) (Or.inr ⟨by rfl, rfl⟩) ?_ ?_
    rotate_left
    ·
     simp only [Act.put, sIa, sIz, sIs, qap, i32_w]
     rfl
    refine qax (i := 13) (N := some 19) (v := undef) (a' := ?_) #[true, true, true, true, true, true, true, true, true, true, true, true, true, true, false, false, false, false, false, false, false, false, false, false] rfl rfl (qar HT_.out (by kernel_rfl)) (fun _ _ _ h => h) (Or.inr ⟨by rfl, rfl⟩) ?_ ?_
    rotate_left
    ·
     simp only [Act.put, sIa, sIz, sIs, qap, i32_w]
     rfl
    refine qax (i := 14) (N := some 20) (v := ?_) (a' := ?_) #[true, true, true, true, true, true, true, true, true, true, true, true, true, true, true, false, false, false, false, false, false, false, false, false] rfl rfl (qar HT_.out (by kernel_rfl)) (fun _ _ _ h => h) (Or.inl ⟨by rfl, ?_⟩) ?_ ?_
    rotate_left
    ·
     intro w'
     go_simp
     with_reducible rfl
    rotate_left
    ·
     simp only [Act.put, sIa, sIz, sIs, qap, i32_w]
     rfl
    refine qax (i := 15) (N := some 21) (v := ?_) (a' := ?_) #[true, true, true, true, true, true, true, true, true, true, true, true, true, true, true, true, false, false, false, false, false, false, false, false] rfl rfl (qar HT_.out (by kernel_rfl)) (fun _ _ _ h => h) (Or.inl ⟨by rfl, ?_⟩) ?_ ?_
    rotate_left
    ·
     intro w'
     go_simp
     with_reducible rfl
    rotate_left
    ·
     simp only [Act.put, sIa, sIz, sIs, qap, i32_w]
     rfl
    refine qax (i := 16) (N := some 22) (v := undef) (a' := ?_) #[true, true, true, true, true, true, true, true, true, true, true, true, true, true, true, true, true, false, false, false, false, false, false, false] rfl rfl (qar HT_.out (by kernel_rfl)) (fun _ _ _ h => h) (Or.inr ⟨by rfl, rfl⟩) ?_ ?_
    rotate_left
    ·
     simp only [Act.put, sIa, sIz, sIs, qap, i32_w]
     rfl
    refine qax (i := 17) (N := some 23) (v := undef) (a' := ?_) #[true, true, true, true, true, true, true, true, true, true, true, true, true, true, true, true, true, true, false, false, false, false, false, false] rfl rfl (qar HT_.out (by kernel_rfl)) (fun _ _ _ h => h) (Or.inr ⟨by rfl, rfl⟩) ?_ ?_
    rotate_left
    ·
     simp only [Act.put, sIa, sIz, sIs, qap, i32_w]
     rfl
    refine qax (i := 18) (N := some 24) (v := undef) (a' := ?_) #[true, true, true, true, true, true, true, true, true, true, true, true, true, true, true, true, true, true, true, false, false, false, false, false] rfl rfl (qar HT_.out (by kernel_rfl)) (fun _ _ _ h => h) (Or.inr ⟨by rfl, rfl⟩) ?_ ?_
    rotate_left
    ·
     simp only [Act.put, sIa, sIz, sIs, qap, i32_w]
     rfl
    refine qax (i := 19) (N := some 25) (v := undef) (a' := ?_) #[true, true, true, true, true, true, true, true, true, true, true, true, true, true, true, true, true, true, true, true, false, false, false, false] rfl rfl (qar HT_.out (by kernel_rfl)) (fun _ _ _ h => h) (Or.inr ⟨by rfl, rfl⟩) ?_ ?_
    rotate_left
    ·
     simp only [Act.put, sIa, sIz, sIs, qap, i32_w]
     rfl
    refine qax (i := 20) (N := some 26) (v := undef) (a' := ?_) #[true, true, true, true, true, true, true, true, true, true, true, true, true, true, true, true, true, true, true, true, true, false, false, false] rfl rfl (qar HT_.out (by kernel_rfl)) (fun _ _ _ h => h) (Or.inr ⟨by rfl, rfl⟩) ?_ ?_
    rotate_left
    ·
     simp only [Act.put, sIa, sIz, sIs, qap, i32_w]
     rfl
    refine qax (i := 21) (N := some 27) (v := undef) (a' := ?_) #[true, true, true, true, true, true, true, true, true, true, true, true, true, true, true, true, true, true, true, true, true, true, false, false] rfl rfl (qar HT_.out (by kernel_rfl)) (fun _ _ _ h => h) (Or.inr ⟨by rfl, rfl⟩) ?_ ?_
    rotate_left
    ·
     simp only [Act.put, sIa, sIz, sIs, qap, i32_w]
     rfl
    refine qax (i := 22) (N := some 28) (v := ?_) (a' := ?_) #[true, true, true, true, true, true, true, true, true, true, true, true, true, true, true, true, true, true, true, true, true, true, true, false] rfl rfl (qar HT_.out (by kernel_rfl)) (fun _ _ _ h => h) (Or.inl ⟨by rfl, ?_⟩) ?_ ?_
    rotate_left
    ·
     intro w'
     go_simp
     with_reducible rfl
    rotate_left
    ·
     simp only [Act.put, sIa, sIz, sIs, qap, i32_w]
     rfl
    refine qax (i := 23) (N := some 2) (v := ?_) (a' := ?_) #[true, true, true, true, true, true, true, true, true, true, true, true, true, true, true, true, true, true, true, true, true, true, true, true] rfl rfl (qar HT_.out (by kernel_rfl)) (fun _ _ _ h => h) (Or.inl ⟨by rfl, ?_⟩) ?_ ?_
    rotate_left
    ·
     intro w'
     go_simp
     with_reducible rfl
    rotate_left
    ·
     simp only [Act.put, sIa, sIz, sIs, qap, i32_w]
     rfl
    refine done_ (done_of HT_.out (by kernel_rfl)) ?_
    try go_wp2
    go_ret
    exact ⟨by first | rfl | (simp [*] <;> rfl), by repeat (first | (with_reducible first | exact HB.out | apply qad | apply qab | apply qac | refine qaf ?_ GE147.out) | exact HB.out)⟩
  ·
   rw [if_neg c3] at H
   have c3b0 : (a0_1 == 0) = false := beq_eq_false_iff_ne.mpr c3
   have c3b1 : (a0_1 != 0) = true := bne_iff_ne.mpr c3
   obtain rfl := Option.some.inj H
   go_enter Tryz.func116, Tryz.ntmps116
   try go_wp2_with (first | ((with_reducible refine qav (N := 1) rfl ?_); (try (refine gate_guard (by rfl) ?_; dsimp only)); refine qau ?hg (N := 1) ?hd (cs := #[.int .i64 a0_0, .int .i64 a0_1, .int .i64 a0_2, .string a0_3, .int .i64 a0_4, .int .i64 a0_5]) (t := 114) ?hr ?_; (case hd => rfl); (case hg => rfl); (case hr => first | (go_simp; done) | (go_simp; rfl)); intro gb147 hg w22 hbox hb; have n0_ := Aside0.mk (qah (by repeat (first | (with_reducible first | exact HB.out | apply qad | apply qab | apply qac) | exact HB.out)) hb); have n1_ := Aside0.mk (hbox); have n2_ := Aside0.mk ((by rw [hg]; exact (qaj (by repeat (first | (with_reducible first | exact HB.out | apply qad | apply qab | apply qac) | exact HB.out))) : w.heap.size ≤ gb147)); have n3_ := Aside0.mk ((by rw [hg]; exact (qaj (by repeat (first | (with_reducible first | exact HB.out | apply qad | apply qab | apply qac) | exact HB.out))) : w.heap.size ≤ gb147)); clear HB; have HB := n0_; have BK147 := n1_; have GW147 := n2_; have GE147 := n3_; clear n0_ n1_ n2_ n3_; clear hb hbox hg; obtain ⟨G23_0, G23_1, G23_2, G23_3, G23_4, G23_5, F23_0, F23_1, F23_2, F23_3, F23_4, F23_5⟩ := shr6 BK147.out))
   have n0_ := Aside0.mk (qai BK147.out)
   have n1_ := Aside0.mk (qac HB.out)
   clear BK147
   clear HB
   have BK147 := n0_
   have HB := n1_
   clear n0_ n1_
   refine start_ (n := 24) (S := fun w' => w'.cell? ⟨gb147, 0, none⟩ = some (.int .i64 a0_0) ∧ w'.cell? ⟨gb147, 1, none⟩ = some (.int .i64 a0_1) ∧ w'.cell? ⟨gb147, 2, none⟩ = some (.int .i64 a0_2) ∧ w'.cell? ⟨gb147, 3, none⟩ = some (.string a0_3) ∧ w'.cell? ⟨gb147, 4, none⟩ = some (.int .i64 a0_4) ∧ w'.cell? ⟨gb147, 5, none⟩ = some (.int .i64 a0_5)) (ds := []) #[false, false, false, false, false, false, false, false, false, false, false, false, false, false, false, false, false, false, false, false, false, false, false, false] (by kernel_rfl) rfl rfl ⟨(qak BK147.out 0).trans rfl, (qak BK147.out 1).trans rfl, (qak BK147.out 2).trans rfl, (qak BK147.out 3).trans rfl, (qak BK147.out 4).trans rfl, (qak BK147.out 5).trans rfl⟩ (fun hHeld => ?_); refine with_tabW rap.tab2 rap.bits2 (fun HT_ HW_ => ?_)
   generalize w22.drew = w24 at BK147 HB hHeld ⊢
   refine qax (i := 0) (N := some 6) (v := ?_) (a' := ?_) #[true, false, false, false, false, false, false, false, false, false, false, false, false, false, false, false, false, false, false, false, false, false, false, false] rfl rfl (qar HT_.out (by kernel_rfl)) (fun _ _ _ h => h) (Or.inl ⟨by rfl, ?_⟩) ?_ ?_
   rotate_left
   ·
    intro w'
    go_simp
    with_reducible rfl
   rotate_left
   ·
    simp only [Act.put, sIa, sIz, sIs, qap, i32_w]
    rfl
   refine qax (i := 1) (N := some 7) (v := ?_) (a' := ?_) #[true, true, false, false, false, false, false, false, false, false, false, false, false, false, false, false, false, false, false, false, false, false, false, false] rfl rfl (qar HT_.out (by kernel_rfl)) (fun _ _ _ h => h) (Or.inl ⟨by rfl, ?_⟩) ?_ ?_
   rotate_left
   ·
    intro w'
    go_simp
    with_reducible rfl
   rotate_left
   ·
    simp only [Act.put, sIa, sIz, sIs, qap, i32_w]
    rfl
   refine take_ (i := 2) (N := some 8) (v := ?_) (a' := ?_) #[true, true, true, false, false, false, false, false, false, false, false, false, false, false, false, false, false, false, false, false, false, false, false, false] rfl rfl (qbg HT_.out HW_.out (by kernel_rfl)) (fun _ _ _ h => h) (Or.inl ⟨by rfl, ?_⟩) hHeld ?_ ?_
   rotate_left
   ·
    rintro w' ⟨s0, s1, s2, s3, s4, s5⟩
    go_simp
    with_reducible rfl
   rotate_left
   ·
    simp only [Act.put, sIa, sIz, sIs, qap, i32_w]
    rfl
   refine qax (i := 3) (N := some 9) (v := ?_) (a' := ?_) #[true, true, true, true, false, false, false, false, false, false, false, false, false, false, false, false, false, false, false, false, false, false, false, false] rfl rfl (qar HT_.out (by kernel_rfl)) (fun _ _ _ h => h) (Or.inl ⟨by rfl, ?_⟩) ?_ ?_
   rotate_left
   ·
    intro w'
    go_simp
    with_reducible rfl
   rotate_left
   ·
    simp only [Act.put, sIa, sIz, sIs, qap, i32_w]
    rfl
   refine qax (i := 4) (N := some 10) (v := ?_) (a' := ?_) #[true, true, true, true, true, false, false, false, false, false, false, false, false, false, false, false, false, false, false, false, false, false, false, false] rfl rfl (qar HT_.out (by kernel_rfl)) (fun _ _ _ h => h) (Or.inl ⟨by rfl, ?_⟩) ?_ ?_
   rotate_left
   ·
    intro w'
    go_simp
    with_reducible rfl
   rotate_left
   ·
    simp only [Act.put, sIa, sIz, sIs, qap, i32_w]
    rfl
   refine qax (i := 5) (N := some 11) (v := undef) (a' := ?_) #[true, true, true, true, true, true, false, false, false, false, false, false, false, false, false, false, false, false, false, false, false, false, false, false] rfl rfl (qar HT_.out (by kernel_rfl)) (fun _ _ _ h => h) (Or.inr ⟨by rfl, rfl⟩) ?_ ?_
   rotate_left
   ·
    simp only [Act.put, sIa, sIz, sIs, qap, i32_w]
    rfl
   refine qax (i := 6) (N := some 12) (v := undef) (a' := ?_) #[true, true, true, true, true, true, true, false, false, false, false, false, false, false, false, false, false, false, false, false, false, false, false, false] rfl rfl (qar HT_.out (by kernel_rfl)) (fun _ _ _ h => h) (Or.inr ⟨by rfl, rfl⟩) ?_ ?_
   rotate_left
   ·
    simp only [Act.put, sIa, sIz, sIs, qap, i32_w]
    rfl
   refine qax (i := 7) (N := some 13) (v := undef) (a' := ?_) #[true, true, true, true, true, true, true, true, false, false, false, false, false, false, false, false, false, false, false, false, false, false, false, false] rfl rfl (qar HT_.out (by kernel_rfl)) (fun _ _ _ h => h) (Or.inr ⟨by rfl, rfl⟩) ?_ ?_
   rotate_left
   ·
    simp only [Act.put, sIa, sIz, sIs, qap, i32_w]
    rfl
   refine qax (i := 8) (N := some 14) (v := ?_) (a' := ?_) #[true, true, true, true, true, true, true, true, true, false, false, false, false, false, false, false, false, false, false, false, false, false, false, false] rfl rfl (qar HT_.out (by kernel_rfl)) (fun _ _ _ h => h) (Or.inl ⟨by rfl, ?_⟩) ?_ ?_
   rotate_left
   ·
    intro w'
    go_simp
    with_reducible rfl
   rotate_left
   ·
    simp only [Act.put, sIa, sIz, sIs, qap, i32_w]
    rfl
   refine qax (i := 9) (N := some 15) (v := ?_) (a' := ?_) #[true, true, true, true, true, true, true, true, true, true, false, false, false, false, false, false, false, false, false, false, false, false, false, false] rfl rfl (qar HT_.out (by kernel_rfl)) (fun _ _ _ h => h) (Or.inl ⟨by rfl, ?_⟩) ?_ ?_
   rotate_left
   ·
    intro w'
    go_simp
    with_reducible rfl
   rotate_left
   ·
    simp only [Act.put, sIa, sIz, sIs, qap, i32_w]
    rfl
   refine qax (i := 10) (N := some 16) (v := undef) (a' := ?_) #[true, true, true, true, true, true, true, true, true, true, true, false, false, false, false, false, false, false, false, false, false, false, false, false] rfl rfl (qar HT_.out (by kernel_rfl)) (fun _ _ _ h => h) (Or.inr ⟨by rfl, rfl⟩) ?_ ?_
   rotate_left
   ·
    simp only [Act.put, sIa, sIz, sIs, qap, i32_w]
    rfl
   refine qax (i := 11) (N := some 17) (v := undef) (a' := ?_) #[true, true, true, true, true, true, true, true, true, true, true, true, false, false, false, false, false, false, false, false, false, false, false, false] rfl rfl (qar HT_.out (by kernel_rfl)) (fun _ _ _ h => h) (Or.inr ⟨by rfl, rfl⟩) ?_ ?_
   rotate_left
   ·
    simp only [Act.put, sIa, sIz, sIs, qap, i32_w]
    rfl
   refine qax (i := 12) (N := some 18) (v := undef) (a' := ?_) #[true, true, true, true, true, true, true, true, true, true, true, true, true, false, false, false, false, false, false, false, false, false, false, false] rfl rfl (qar HT_.out (by kernel_rfl)) (fun _ _ _ h => h) (Or.inr ⟨by rfl, rfl⟩) ?_ ?_
   rotate_left
   ·
    simp only [Act.put, sIa, sIz, sIs, qap, i32_w]
    rfl
   refine qax (i := 13) (N := some 19) (v := undef) (a' := ?_) #[true, true, true, true, true, true, true, true, true, true, true, true, true, true, false, false, false, false, false, false, false, false, false, false] rfl rfl (qar HT_.out (by kernel_rfl)) (fun _ _ _ h => h) (Or.inr ⟨by rfl, rfl⟩) ?_ ?_
   rotate_left
   ·
    simp only [Act.put, sIa, sIz, sIs, qap, i32_w]
    rfl
   refine qax (i := 14) (N := some 20) (v := ?_) (a' := ?_) #[true, true, true, true, true, true, true, true, true, true, true, true, true, true, true, false, false, false, false, false, false, false, false, false] rfl rfl (qar HT_.out (by kernel_rfl)) (fun _ _ _ h => h) (Or.inl ⟨by rfl, ?_⟩) ?_ ?_
   rotate_left
   ·
    intro w'
    go_simp
    with_reducible rfl
   rotate_left
   ·
    simp only [Act.put, sIa, sIz, sIs, qap, i32_w]
    rfl
   refine qax (i := 15) (N := some 21) (v := ?_) (a' := ?_) #[true, true, true, true, true, true, true, true, true, true, true, true, true, true, true, true, false, false, false, false, false, false, false, false] rfl rfl (qar HT_.out (by kernel_rfl)) (fun _ _ _ h => h) (Or.inl ⟨by rfl, ?_⟩) ?_ ?_
   rotate_left
   ·
    intro w'
    go_simp
    with_reducible rfl
   rotate_left
   ·
    simp only [Act.put, sIa, sIz, sIs, qap, i32_w]
    rfl
   refine qax (i := 16) (N := some 22) (v := undef) (a' := ?_) #[true, true, true, true, true, true, true, true, true, true, true, true, true, true, true, true, true, false, false, false, false, false, false, false] rfl rfl (qar HT_.out (by kernel_rfl)) (fun _ _ _ h => h) (Or.inr ⟨by rfl, rfl⟩) ?_ ?_
   rotate_left
   ·
    simp only [Act.put, sIa, sIz, sIs, qap, i32_w]
    rfl
   refine qax (i := 17) (N := some 23) (v := undef) (a' := ?_) #[true, true, true, true, true, true, true, true, true, true, true, true, true, true, true, true, true, true, false, false, false, false, false, false] rfl rfl (qar HT_.out (by kernel_rfl)) (fun _ _ _ h => h) (Or.inr ⟨by rfl, rfl⟩) ?_ ?_
   rotate_left
   ·
    simp only [Act.put, sIa, sIz, sIs, qap, i32_w]
    rfl
   refine qax (i := 18) (N := some 24) (v := undef) (a' := ?_) #[true, true, true, true, true, true, true, true, true, true, true, true, true, true, true, true, true, true, true, false, false, false, false, false] rfl rfl (qar HT_.out (by kernel_rfl)) (fun _ _ _ h => h) (Or.inr ⟨by rfl, rfl⟩) ?_ ?_
   rotate_left
   ·
    simp only [Act.put, sIa, sIz, sIs, qap, i32_w]
    rfl
   refine qax (i := 19) (N := some 25) (v := undef) (a' := ?_) #[true, true, true, true, true, true, true, true, true, true, true, true, true, true, true, true, true, true, true, true, false, false, false, false] rfl rfl (qar HT_.out (by kernel_rfl)) (fun _ _ _ h => h) (Or.inr ⟨by rfl, rfl⟩) ?_ ?_
   rotate_left
   ·
    simp only [Act.put, sIa, sIz, sIs, qap, i32_w]
    rfl
   refine qax (i := 20) (N := some 26) (v := undef) (a' := ?_) #[true, true, true, true, true, true, true, true, true, true, true, true, true, true, true, true, true, true, true, true, true, false, false, false] rfl rfl (qar HT_.out (by kernel_rfl)) (fun _ _ _ h => h) (Or.inr ⟨by rfl, rfl⟩) ?_ ?_
   rotate_left
   ·
    simp only [Act.put, sIa, sIz, sIs, qap, i32_w]
    rfl
   refine qax (i := 21) (N := some 27) (v := undef) (a' := ?_) #[true, true, true, true, true, true, true, true, true, true, true, true, true, true, true, true, true, true, true, true, true, true, false, false] rfl rfl (qar HT_.out (by kernel_rfl)) (fun _ _ _ h => h) (Or.inr ⟨by rfl, rfl⟩) ?_ ?_
   rotate_left
   ·
    simp only [Act.put, sIa, sIz, sIs, qap, i32_w]
    rfl
   refine qax (i := 22) (N := some 28) (v := ?_) (a' := ?_) #[true, true, true, true, true, true, true, true, true, true, true, true, true, true, true, true, true, true, true, true, true, true, true, false] rfl rfl (qar HT_.out (by kernel_rfl)) (fun _ _ _ h => h) (Or.inl ⟨by rfl, ?_⟩) ?_ ?_
   rotate_left
   ·
    intro w'
    go_simp
    with_reducible rfl
   rotate_left
   ·
    simp only [Act.put, sIa, sIz, sIs, qap, i32_w]
    rfl
   refine qax (i := 23) (N := some 2) (v := ?_) (a' := ?_) #[true, true, true, true, true, true, true, true, true, true, true, true, true, true, true, true, true, true, true, true, true, true, true, true] rfl rfl (qar HT_.out (by kernel_rfl)) (fun _ _ _ h => h) (Or.inl ⟨by rfl, ?_⟩) ?_ ?_
   rotate_left
   ·
    intro w'
    go_simp
    with_reducible rfl
   rotate_left
   ·
    simp only [Act.put, sIa, sIz, sIs, qap, i32_w]
    rfl
   refine done_ (done_of HT_.out (by kernel_rfl)) ?_
   try go_wp2
   go_ret
   exact ⟨by first | rfl | (simp [*] <;> rfl), by repeat (first | (with_reducible first | exact HB.out | apply qad | apply qab | apply qac | refine qaf ?_ GE147.out) | exact HB.out)⟩
 ·
  rw [if_neg c2] at H
  have c2b0 : (a0_0 == 1) = false := beq_eq_false_iff_ne.mpr c2
  have c2b1 : (a0_0 != 1) = true := bne_iff_ne.mpr c2
  by_cases c25 : a0_0 = 0
  ·
   rw [if_pos c25] at H
   have c25b0 : (a0_0 == 0) = true := beq_iff_eq.mpr c25
   have c25b1 : (a0_0 != 0) = false := bne_eq_false_iff_eq.mpr c25
   clear c25
   replace H := Option.bind_eq_some_iff.mp H
   obtain ⟨t152, A260, H⟩ := H
   replace H : (some t152) = some r := H
   have A26 := Aside0.mk A260
   clear A260
   obtain rfl := Option.some.inj H
   go_enter Tryz.func116, Tryz.ntmps116
   go_wp2_with (first | ((with_reducible refine qav (N := 1) rfl ?_); (try (refine gate_guard (by rfl) ?_; dsimp only)); refine qau ?hg (N := 1) ?hd (cs := #[.int .i64 a0_0, .int .i64 a0_1, .int .i64 a0_2, .string a0_3, .int .i64 a0_4, .int .i64 a0_5]) (t := 114) ?hr ?_; (case hd => rfl); (case hg => rfl); (case hr => first | (go_simp; done) | (go_simp; rfl)); intro gb147 hg w27 hbox hb; have n0_ := Aside0.mk (qah (by repeat (first | (with_reducible first | exact HB.out | apply qad | apply qab | apply qac) | exact HB.out)) hb); have n1_ := Aside0.mk (hbox); have n2_ := Aside0.mk ((by rw [hg]; exact (qaj (by repeat (first | (with_reducible first | exact HB.out | apply qad | apply qab | apply qac) | exact HB.out))) : w.heap.size ≤ gb147)); have n3_ := Aside0.mk ((by rw [hg]; exact (qaj (by repeat (first | (with_reducible first | exact HB.out | apply qad | apply qab | apply qac) | exact HB.out))) : w.heap.size ≤ gb147)); clear HB; have HB := n0_; have BK147 := n1_; have GW147 := n2_; have GE147 := n3_; clear n0_ n1_ n2_ n3_; clear hb hbox hg; obtain ⟨G28_0, G28_1, G28_2, G28_3, G28_4, G28_5, F28_0, F28_1, F28_2, F28_3, F28_4, F28_5⟩ := shr6 BK147.out) | (go_at_call 45; (with_reducible refine (ran.calls a0_1 a0_2 a0_3 a0_4 a0_5 t152 _ A26.out).mono ?_); rintro e w29 ⟨rfl, hb⟩; have n0_ := Aside0.mk (qan (g := gb147) (o := .cells #[.int .i64 a0_0, .int .i64 a0_1, .int .i64 a0_2, .string a0_3, .int .i64 a0_4, .int .i64 a0_5] 114 (0, 0)) (by (with_reducible repeat (first | refine qag ?_ _ | refine qai ?_ | refine blk_alloc ?_ _)); exact BK147.out) hb); have n1_ := Aside0.mk (qah (by repeat (first | (with_reducible first | exact HB.out | apply qad | apply qab | apply qac | refine qaf ?_ GE147.out) | exact HB.out)) hb); clear BK147; clear HB; have BK147 := n0_; have HB := n1_; clear n0_ n1_; (try clear hb); (try clear hb2); (try clear hk); (try clear hi)))
   go_ret
   exact ⟨by first | rfl | (simp [*] <;> rfl), by repeat (first | (with_reducible first | exact HB.out | apply qad | apply qab | apply qac | refine qaf ?_ GE147.out) | exact HB.out)⟩
  ·
   rw [if_neg c25] at H
   have c25b0 : (a0_0 == 0) = false := beq_eq_false_iff_ne.mpr c25
   have c25b1 : (a0_0 != 0) = true := bne_iff_ne.mpr c25
   obtain rfl := Option.some.inj H
   go_enter Tryz.func116, Tryz.ntmps116
   go_wp2_with (first | ((with_reducible refine qav (N := 1) rfl ?_); (try (refine gate_guard (by rfl) ?_; dsimp only)); refine qau ?hg (N := 1) ?hd (cs := #[.int .i64 a0_0, .int .i64 a0_1, .int .i64 a0_2, .string a0_3, .int .i64 a0_4, .int .i64 a0_5]) (t := 114) ?hr ?_; (case hd => rfl); (case hg => rfl); (case hr => first | (go_simp; done) | (go_simp; rfl)); intro gb147 hg w30 hbox hb; have n0_ := Aside0.mk (qah (by repeat (first | (with_reducible first | exact HB.out | apply qad | apply qab | apply qac) | exact HB.out)) hb); have n1_ := Aside0.mk (hbox); have n2_ := Aside0.mk ((by rw [hg]; exact (qaj (by repeat (first | (with_reducible first | exact HB.out | apply qad | apply qab | apply qac) | exact HB.out))) : w.heap.size ≤ gb147)); have n3_ := Aside0.mk ((by rw [hg]; exact (qaj (by repeat (first | (with_reducible first | exact HB.out | apply qad | apply qab | apply qac) | exact HB.out))) : w.heap.size ≤ gb147)); clear HB; have HB := n0_; have BK147 := n1_; have GW147 := n2_; have GE147 := n3_; clear n0_ n1_ n2_ n3_; clear hb hbox hg; obtain ⟨G31_0, G31_1, G31_2, G31_3, G31_4, G31_5, F31_0, F31_1, F31_2, F31_3, F31_4, F31_5⟩ := shr6 BK147.out))
   go_ret
   exact ⟨by first | rfl | (simp [*] <;> rfl), by repeat (first | (with_reducible first | exact HB.out | apply qad | apply qab | apply qac | refine qaf ?_ GE147.out) | exact HB.out)⟩
end Go.Proofs.YtejbpnhondpnfaaGreat.PJob
namespace Go.Proofs.YtejbpnhondpnfaaGreat.PJob
open Go.RowKit Go.Proofs.YtejbpnhondpnfaaGreatW.PrintWords Go.Proofs.YtejbpnhondpnfaaGreatW.PrintLast Go.Proofs.YtejbpnhondpnfaaGreatW.PrintMore
attribute [local go_sem] qaz qbe
attribute [local go_sem high] eqA45
def rbj.f (a0_0 : Int) (a0_1 : Int) (a0_2 : Int) (a0_3 : ByteArray) (a0_4 : Int) (a0_5 : Int) : Option (Int × Bool) := (rat.f a0_0).bind fun bt154 => (if bt154.2.2 = true then (some (bt154.2.1, (a0_1 == 0 && (a0_2 == 0 && (a0_3.toList == ([] : List UInt8) && ((a0_4 == 0 && (a0_5 == 0)))))))) else ((rap.f a0_0 a0_1 a0_2 a0_3 a0_4 a0_5).bind fun t157 => (some (0, t157))))
set_option maxHeartbeats 8000000 in
set_option maxRecDepth 100000 in
theorem rbj.calls (a0_0 : Int) (a0_1 : Int) (a0_2 : Int) (a0_3 : ByteArray) (a0_4 : Int) (a0_5 : Int) (r1 : Int) (r2 : Bool) (w : World) (h : rbj.f a0_0 a0_1 a0_2 a0_3 a0_4 a0_5 = some (r1, r2)) :
  Calls Tryz.prog 69 #[.agg #[.int .i64 a0_0, .int .i64 a0_1, .int .i64 a0_2, .string a0_3, .int .i64 a0_4, .int .i64 a0_5]] w fun e w' => e = .returned (.tuple #[.int .i64 r1, .bool r2]) ∧ Below w.heap.size w w' := by
 have hu114 := Tryz.underlying114
 have hu45 := Tryz.underlying45
 have HB := Aside0.mk (Below.refl w.heap.size w)
 have H : ((rat.f a0_0).bind fun bt154 => (if bt154.2.2 = true then (some (bt154.2.1, (a0_1 == 0 && (a0_2 == 0 && (a0_3.toList == ([] : List UInt8) && ((a0_4 == 0 && (a0_5 == 0)))))))) else ((rap.f a0_0 a0_1 a0_2 a0_3 a0_4 a0_5).bind fun t157 => (some (0, t157))))) = some (r1, r2) := h
 clear h
 replace H := Option.bind_eq_some_iff.mp H
 obtain ⟨⟨t154, t155, t156⟩, A20, H⟩ := H
 replace H : (if t156 = true then (some (t155, (a0_1 == 0 && (a0_2 == 0 && (a0_3.toList == ([] : List UInt8) && ((a0_4 == 0 && (a0_5 == 0)))))))) else ((rap.f a0_0 a0_1 a0_2 a0_3 a0_4 a0_5).bind fun t157 => (some (0, t157)))) = some (r1, r2) := H
 have A2 := Aside0.mk A20
 clear A20
 by_cases c3 : t156 = true
 ·
  subst c3
  have H1 : (some (t155, (a0_1 == 0 && (a0_2 == 0 && (a0_3.toList == ([] : List UInt8) && ((a0_4 == 0 && (a0_5 == 0)))))))) = some (r1, r2) := by rw [if_pos rfl] at H; exact H
  clear H
  have H := H1
  clear H1
  simp only [Option.some.injEq, Prod.mk.injEq] at H
  obtain ⟨rfl, rfl⟩ := H
  go_enter Tryz.func69, Tryz.ntmps69
  go_wp2_with (first | ((with_reducible refine qav (N := 1) rfl ?_); refine qau ?hg (N := 1) ?hd (cs := #[.int .i64 a0_0, .int .i64 a0_1, .int .i64 a0_2, .string a0_3, .int .i64 a0_4, .int .i64 a0_5]) (t := 114) ?hr ?_; (case hd => rfl); (case hg => rfl); (case hr => first | (go_simp; done) | (go_simp; rfl)); intro gb153 hg w4 hbox hb; have n0_ := Aside0.mk (qah (by repeat (first | (with_reducible first | exact HB.out | apply qad | apply qab | apply qac) | exact HB.out)) hb); have n1_ := Aside0.mk (hbox); have n2_ := Aside0.mk ((by rw [hg]; exact (qaj (by repeat (first | (with_reducible first | exact HB.out | apply qad | apply qab | apply qac) | exact HB.out))) : w.heap.size ≤ gb153)); have n3_ := Aside0.mk ((by rw [hg]; exact (qaj (by repeat (first | (with_reducible first | exact HB.out | apply qad | apply qab | apply qac) | exact HB.out))) : w.heap.size ≤ gb153)); clear HB; have HB := n0_; have BK153 := n1_; have GW153 := n2_; have GE153 := n3_; clear n0_ n1_ n2_ n3_; clear hb hbox hg; obtain ⟨G5_0, G5_1, G5_2, G5_3, G5_4, G5_5, F5_0, F5_1, F5_2, F5_3, F5_4, F5_5⟩ := shr6 BK153.out) | (go_at_call 104; (with_reducible refine (rat.calls a0_0 t154 t155 true _ A2.out).mono ?_); rintro e w6 ⟨rfl, hb⟩; have n0_ := Aside0.mk (qan (g := gb153) (o := .cells #[.int .i64 a0_0, .int .i64 a0_1, .int .i64 a0_2, .string a0_3, .int .i64 a0_4, .int .i64 a0_5] 114 (0, 0)) (by (with_reducible repeat (first | refine qag ?_ _ | refine qai ?_ | refine blk_alloc ?_ _)); exact BK153.out) hb); have n1_ := Aside0.mk (qah (by repeat (first | (with_reducible first | exact HB.out | apply qad | apply qab | apply qac | refine qaf ?_ GE153.out) | exact HB.out)) hb); clear BK153; clear HB; have BK153 := n0_; have HB := n1_; clear n0_ n1_; (try clear hb); (try clear hb2); (try clear hk); (try clear hi); obtain ⟨G7_0, G7_1, G7_2, G7_3, G7_4, G7_5, F7_0, F7_1, F7_2, F7_3, F7_4, F7_5⟩ := shr6 BK153.out))
  repeat (go_quiet (first | ((with_reducible refine qav (N := 1) rfl ?_); refine qau ?hg (N := 1) ?hd (cs := #[.int .i64 a0_0, .int .i64 a0_1, .int .i64 a0_2, .string a0_3, .int .i64 a0_4, .int .i64 a0_5]) (t := 114) ?hr ?_; (case hd => rfl); (case hg => rfl); (case hr => first | (go_simp; done) | (go_simp; rfl)); intro gb153 hg w4 hbox hb; have n0_ := Aside0.mk (qah (by repeat (first | (with_reducible first | exact HB.out | apply qad | apply qab | apply qac) | exact HB.out)) hb); have n1_ := Aside0.mk (hbox); have n2_ := Aside0.mk ((by rw [hg]; exact (qaj (by repeat (first | (with_reducible first | exact HB.out | apply qad | apply qab | apply qac) | exact HB.out))) : w.heap.size ≤ gb153)); have n3_ := Aside0.mk ((by rw [hg]; exact (qaj (by repeat (first | (with_reducible first | exact HB.out | apply qad | apply qab | apply qac) | exact HB.out))) : w.heap.size ≤ gb153)); clear HB; have HB := n0_; have BK153 := n1_; have GW153 := n2_; have GE153 := n3_; clear n0_ n1_ n2_ n3_; clear hb hbox hg; obtain ⟨G5_0, G5_1, G5_2, G5_3, G5_4, G5_5, F5_0, F5_1, F5_2, F5_3, F5_4, F5_5⟩ := shr6 BK153.out) | (go_at_call 104; (with_reducible refine (rat.calls a0_0 t154 t155 true _ A2.out).mono ?_); rintro e w6 ⟨rfl, hb⟩; have n0_ := Aside0.mk (qan (g := gb153) (o := .cells #[.int .i64 a0_0, .int .i64 a0_1, .int .i64 a0_2, .string a0_3, .int .i64 a0_4, .int .i64 a0_5] 114 (0, 0)) (by (with_reducible repeat (first | refine qag ?_ _ | refine qai ?_ | refine blk_alloc ?_ _)); exact BK153.out) hb); have n1_ := Aside0.mk (qah (by repeat (first | (with_reducible first | exact HB.out | apply qad | apply qab | apply qac | refine qaf ?_ GE153.out) | exact HB.out)) hb); clear BK153; clear HB; have BK153 := n0_; have HB := n1_; clear n0_ n1_; (try clear hb); (try clear hb2); (try clear hk); (try clear hi); obtain ⟨G7_0, G7_1, G7_2, G7_3, G7_4, G7_5, F7_0, F7_1, F7_2, F7_3, F7_4, F7_5⟩ := shr6 BK153.out)); try go_wp2_with (first | ((with_reducible refine qav (N := 1) rfl ?_); refine qau ?hg (N := 1) ?hd (cs := #[.int .i64 a0_0, .int .i64 a0_1, .int .i64 a0_2, .string a0_3, .int .i64 a0_4, .int .i64 a0_5]) (t := 114) ?hr ?_; (case hd => rfl); (case hg => rfl); (case hr => first | (go_simp; done) | (go_simp; rfl)); intro gb153 hg w4 hbox hb; have n0_ := Aside0.mk (qah (by repeat (first | (with_reducible first | exact HB.out | apply qad | apply qab | apply qac) | exact HB.out)) hb); have n1_ := Aside0.mk (hbox); have n2_ := Aside0.mk ((by rw [hg]; exact (qaj (by repeat (first | (with_reducible first | exact HB.out | apply qad | apply qab | apply qac) | exact HB.out))) : w.heap.size ≤ gb153)); have n3_ := Aside0.mk ((by rw [hg]; exact (qaj (by repeat (first | (with_reducible first | exact HB.out | apply qad | apply qab | apply qac) | exact HB.out))) : w.heap.size ≤ gb153)); clear HB; have HB := n0_; have BK153 := n1_; have GW153 := n2_; have GE153 := n3_; clear n0_ n1_ n2_ n3_; clear hb hbox hg; obtain ⟨G5_0, G5_1, G5_2, G5_3, G5_4, G5_5, F5_0, F5_1, F5_2, F5_3, F5_4, F5_5⟩ := shr6 BK153.out) | (go_at_call 104; (with_reducible refine (rat.calls a0_0 t154 t155 true _ A2.out).mono ?_); rintro e w6 ⟨rfl, hb⟩; have n0_ := Aside0.mk (qan (g := gb153) (o := .cells #[.int .i64 a0_0, .int .i64 a0_1, .int .i64 a0_2, .string a0_3, .int .i64 a0_4, .int .i64 a0_5] 114 (0, 0)) (by (with_reducible repeat (first | refine qag ?_ _ | refine qai ?_ | refine blk_alloc ?_ _)); exact BK153.out) hb); have n1_ := Aside0.mk (qah (by repeat (first | (with_reducible first | exact HB.out | apply qad | apply qab | apply qac | refine qaf ?_ GE153.out) | exact HB.out)) hb); clear BK153; clear HB; have BK153 := n0_; have HB := n1_; clear n0_ n1_; (try clear hb); (try clear hb2); (try clear hk); (try clear hi); obtain ⟨G7_0, G7_1, G7_2, G7_3, G7_4, G7_5, F7_0, F7_1, F7_2, F7_3, F7_4, F7_5⟩ := shr6 BK153.out)))
  go_ret2
  exact ⟨by first | rfl | (simp [*] <;> rfl), by repeat (first | (with_reducible first | exact HB.out | apply qad | apply qab | apply qac | refine qaf ?_ GE153.out) | exact HB.out)⟩
 ·
  replace c3 := Bool.eq_false_iff.mpr c3
  subst c3
  have H1 : ((rap.f a0_0 a0_1 a0_2 a0_3 a0_4 a0_5).bind fun t157 => (some (0, t157))) = some (r1, r2) := by rw [if_neg (show ¬ (false = true) by decide)] at H; exact H
  clear H
  have H := H1
  clear H1
  replace H := Option.bind_eq_some_iff.mp H
  obtain ⟨t157, A80, H⟩ := H
  replace H : (some (0, t157)) = some (r1, r2) := H
  have A8 := Aside0.mk A80
  clear A80
  simp only [Option.some.injEq, Prod.mk.injEq] at H
  obtain ⟨rfl, rfl⟩ := H
  go_enter Tryz.func69, Tryz.ntmps69
  go_wp2_with (first | ((with_reducible refine qav (N := 1) rfl ?_); refine qau ?hg (N := 1) ?hd (cs := #[.int .i64 a0_0, .int .i64 a0_1, .int .i64 a0_2, .string a0_3, .int .i64 a0_4, .int .i64 a0_5]) (t := 114) ?hr ?_; (case hd => rfl); (case hg => rfl); (case hr => first | (go_simp; done) | (go_simp; rfl)); intro gb153 hg w9 hbox hb; have n0_ := Aside0.mk (qah (by repeat (first | (with_reducible first | exact HB.out | apply qad | apply qab | apply qac) | exact HB.out)) hb); have n1_ := Aside0.mk (hbox); have n2_ := Aside0.mk ((by rw [hg]; exact (qaj (by repeat (first | (with_reducible first | exact HB.out | apply qad | apply qab | apply qac) | exact HB.out))) : w.heap.size ≤ gb153)); have n3_ := Aside0.mk ((by rw [hg]; exact (qaj (by repeat (first | (with_reducible first | exact HB.out | apply qad | apply qab | apply qac) | exact HB.out))) : w.heap.size ≤ gb153)); clear HB; have HB := n0_; have BK153 := n1_; have GW153 := n2_; have GE153 := n3_; clear n0_ n1_ n2_ n3_; clear hb hbox hg; obtain ⟨G10_0, G10_1, G10_2, G10_3, G10_4, G10_5, F10_0, F10_1, F10_2, F10_3, F10_4, F10_5⟩ := shr6 BK153.out) | (go_at_call 104; (with_reducible refine (rat.calls a0_0 t154 t155 false _ A2.out).mono ?_); rintro e w11 ⟨rfl, hb⟩; have n0_ := Aside0.mk (qan (g := gb153) (o := .cells #[.int .i64 a0_0, .int .i64 a0_1, .int .i64 a0_2, .string a0_3, .int .i64 a0_4, .int .i64 a0_5] 114 (0, 0)) (by (with_reducible repeat (first | refine qag ?_ _ | refine qai ?_ | refine blk_alloc ?_ _)); exact BK153.out) hb); have n1_ := Aside0.mk (qah (by repeat (first | (with_reducible first | exact HB.out | apply qad | apply qab | apply qac | refine qaf ?_ GE153.out) | exact HB.out)) hb); clear BK153; clear HB; have BK153 := n0_; have HB := n1_; clear n0_ n1_; (try clear hb); (try clear hb2); (try clear hk); (try clear hi); obtain ⟨G12_0, G12_1, G12_2, G12_3, G12_4, G12_5, F12_0, F12_1, F12_2, F12_3, F12_4, F12_5⟩ := shr6 BK153.out) | (go_at_call 116; (with_reducible refine (rap.calls a0_0 a0_1 a0_2 a0_3 a0_4 a0_5 t157 _ A8.out).mono ?_); rintro e w13 ⟨rfl, hb⟩; have n0_ := Aside0.mk (qan (g := gb153) (o := .cells #[.int .i64 a0_0, .int .i64 a0_1, .int .i64 a0_2, .string a0_3, .int .i64 a0_4, .int .i64 a0_5] 114 (0, 0)) (by (with_reducible repeat (first | refine qag ?_ _ | refine qai ?_ | refine blk_alloc ?_ _)); exact BK153.out) hb); have n1_ := Aside0.mk (qah (by repeat (first | (with_reducible first | exact HB.out | apply qad | apply qab | apply qac | refine qaf ?_ GE153.out) | exact HB.out)) hb); clear BK153; clear HB; have BK153 := n0_; have HB := n1_; clear n0_ n1_; (try clear hb); (try clear hb2); (try clear hk); (try clear hi)))
  repeat (go_quiet (first | ((with_reducible refine qav (N := 1) rfl ?_); refine qau ?hg (N := 1) ?hd (cs := #[.int .i64 a0_0, .int .i64 a0_1, .int .i64 a0_2, .string a0_3, .int .i64 a0_4, .int .i64 a0_5]) (t := 114) ?hr ?_; (case hd => rfl); (case hg => rfl); (case hr => first | (go_simp; done) | (go_simp; rfl)); intro gb153 hg w9 hbox hb; have n0_ := Aside0.mk (qah (by repeat (first | (with_reducible first | exact HB.out | apply qad | apply qab | apply qac) | exact HB.out)) hb); have n1_ := Aside0.mk (hbox); have n2_ := Aside0.mk ((by rw [hg]; exact (qaj (by repeat (first | (with_reducible first | exact HB.out | apply qad | apply qab | apply qac) | exact HB.out))) : w.heap.size ≤ gb153)); have n3_ := Aside0.mk ((by rw [hg]; exact (qaj (by repeat (first | (with_reducible first | exact HB.out | apply qad | apply qab | apply qac) | exact HB.out))) : w.heap.size ≤ gb153)); clear HB; have HB := n0_; have BK153 := n1_; have GW153 := n2_; have GE153 := n3_; clear n0_ n1_ n2_ n3_; clear hb hbox hg; obtain ⟨G10_0, G10_1, G10_2, G10_3, G10_4, G10_5, F10_0, F10_1, F10_2, F10_3, F10_4, F10_5⟩ := shr6 BK153.out) | (go_at_call 104; (with_reducible refine (rat.calls a0_0 t154 t155 false _ A2.out).mono ?_); rintro e w11 ⟨rfl, hb⟩; have n0_ := Aside0.mk (qan (g := gb153) (o := .cells #[.int .i64 a0_0, .int .i64 a0_1, .int .i64 a0_2, .string a0_3, .int .i64 a0_4, .int .i64 a0_5] 114 (0, 0)) (by (with_reducible repeat (first | refine qag ?_ _ | refine qai ?_ | refine blk_alloc ?_ _)); exact BK153.out) hb); have n1_ := Aside0.mk (qah (by repeat (first | (with_reducible first | exact HB.out | apply qad | apply qab | apply qac | refine qaf ?_ GE153.out) | exact HB.out)) hb); clear BK153; clear HB; have BK153 := n0_; have HB := n1_; clear n0_ n1_; (try clear hb); (try clear hb2); (try clear hk); (try clear hi); obtain ⟨G12_0, G12_1, G12_2, G12_3, G12_4, G12_5, F12_0, F12_1, F12_2, F12_3, F12_4, F12_5⟩ := shr6 BK153.out) | (go_at_call 116; (with_reducible refine (rap.calls a0_0 a0_1 a0_2 a0_3 a0_4 a0_5 t157 _ A8.out).mono ?_); rintro e w13 ⟨rfl, hb⟩; have n0_ := Aside0.mk (qan (g := gb153) (o := .cells #[.int .i64 a0_0, .int .i64 a0_1, .int .i64 a0_2, .string a0_3, .int .i64 a0_4, .int .i64 a0_5] 114 (0, 0)) (by (with_reducible repeat (first | refine qag ?_ _ | refine qai ?_ | refine blk_alloc ?_ _)); exact BK153.out) hb); have n1_ := Aside0.mk (qah (by repeat (first | (with_reducible first | exact HB.out | apply qad | apply qab | apply qac | refine qaf ?_ GE153.out) | exact HB.out)) hb); clear BK153; clear HB; have BK153 := n0_; have HB := n1_; clear n0_ n1_; (try clear hb); (try clear hb2); (try clear hk); (try clear hi))); try go_wp2_with (first | ((with_reducible refine qav (N := 1) rfl ?_); refine qau ?hg (N := 1) ?hd (cs := #[.int .i64 a0_0, .int .i64 a0_1, .int .i64 a0_2, .string a0_3, .int .i64 a0_4, .int .i64 a0_5]) (t := 114) ?hr ?_; (case hd => rfl); (case hg => rfl); (case hr => first | (go_simp; done) | (go_simp; rfl)); intro gb153 hg w9 hbox hb; have n0_ := Aside0.mk (qah (by repeat (first | (with_reducible first | exact HB.out | apply qad | apply qab | apply qac) | exact HB.out)) hb); have n1_ := Aside0.mk (hbox); have n2_ := Aside0.mk ((by rw [hg]; exact (qaj (by repeat (first | (with_reducible first | exact HB.out | apply qad | apply qab | apply qac) | exact HB.out))) : w.heap.size ≤ gb153)); have n3_ := Aside0.mk ((by rw [hg]; exact (qaj (by repeat (first | (with_reducible first | exact HB.out | apply qad | apply qab | apply qac) | exact HB.out))) : w.heap.size ≤ gb153)); clear HB; have HB := n0_; have BK153 := n1_; have GW153 := n2_; have GE153 := n3_; clear n0_ n1_ n2_ n3_; clear hb hbox hg; obtain ⟨G10_0, G10_1, G10_2, G10_3, G10_4, G10_5, F10_0, F10_1, F10_2, F10_3, F10_4, F10_5⟩ := shr6 BK153.out) | (go_at_call 104; (with_reducible refine (rat.calls a0_0 t154 t155 false _ A2.out).mono ?_); rintro e w11 ⟨rfl, hb⟩; have n0_ := Aside0.mk (qan (g := gb153) (o := .cells #[.int .i64 a0_0, .int .i64 a0_1, .int .i64 a0_2, .string a0_3, .int .i64 a0_4, .int .i64 a0_5] 114 (0, 0)) (by (with_reducible repeat (first | refine qag ?_ _ | refine qai ?_ | refine blk_alloc ?_ _)); exact BK153.out) hb); have n1_ := Aside0.mk (qah (by repeat (first | (with_reducible first | exact HB.out | apply qad | apply qab | apply qac | refine qaf ?_ GE153.out) | exact HB.out)) hb); clear BK153; clear HB; have BK153 := n0_; have HB := n1_; clear n0_ n1_; (try clear hb); (try clear hb2); (try clear hk); (try clear hi); obtain ⟨G12_0, G12_1, G12_2, G12_3, G12_4, G12_5, F12_0, F12_1, F12_2, F12_3, F12_4, F12_5⟩ := shr6 BK153.out) | (go_at_call 116; (with_reducible refine (rap.calls a0_0 a0_1 a0_2 a0_3 a0_4 a0_5 t157 _ A8.out).mono ?_); rintro e w13 ⟨rfl, hb⟩; have n0_ := Aside0.mk (qan (g := gb153) (o := .cells #[.int .i64 a0_0, .int .i64 a0_1, .int .i64 a0_2, .string a0_3, .int .i64 a0_4, .int .i64 a0_5] 114 (0, 0)) (by (with_reducible repeat (first | refine qag ?_ _ | refine qai ?_ | refine blk_alloc ?_ _)); exact BK153.out) hb); have n1_ := Aside0.mk (qah (by repeat (first | (with_reducible first | exact HB.out | apply qad | apply qab | apply qac | refine qaf ?_ GE153.out) | exact HB.out)) hb); clear BK153; clear HB; have BK153 := n0_; have HB := n1_; clear n0_ n1_; (try clear hb); (try clear hb2); (try clear hk); (try clear hi))))
  go_ret2
  exact ⟨by first | rfl | (simp [*] <;> rfl), by repeat (first | (with_reducible first | exact HB.out | apply qad | apply qab | apply qac | refine qaf ?_ GE153.out) | exact HB.out)⟩
end Go.Proofs.YtejbpnhondpnfaaGreat.PJob
namespace Go.Proofs.YtejbpnhondpnfaaGreat.PJob
open Go.RowKit Go.Proofs.YtejbpnhondpnfaaGreatW.PrintWords Go.Proofs.YtejbpnhondpnfaaGreatW.PrintLast Go.Proofs.YtejbpnhondpnfaaGreatW.PrintMore
attribute [local go_sem] qaz qbe
mutual
def rag.j0 : Nat → List (S114) → Bool → Option (Bool)
 | 0, _, _ => none
 | k + 1, x0, x15 => if x15 = true then (some false) else (rag.l0 k (([1] : List Int)) x0 (x0.length : Int) 0)
def rag.l0 : Nat → List Int → List (S114) → Int → Int → Option (Bool)
 | 0, _, _, _, _ => none
 | k + 1, x3, x17, x18, x19 => if x19 < x18 then (if 0 ≤ x19 then (if x19 < (x17.length : Int) then ((rbj.f ((qaq x17 x19).f0) ((qaq x17 x19).f1.f0) ((qaq x17 x19).f1.f1) ((qaq x17 x19).f1.f2) ((qaq x17 x19).f1.f3.f0) ((qaq x17 x19).f1.f3.f1)).bind fun bt163 => (if bt163.2 = true then (if (x3.length : Int) = 0 then (rag.j2 k x3 bt163.1 x17 x18 x19 true) else (rag.j2 k x3 bt163.1 x17 x18 x19 (decide ((wrap64 ((x3.length : Int) - 1)) > 24)))) else (rag.j2 k x3 bt163.1 x17 x18 x19 true))) else (none)) else (none)) else (some ((x3.length : Int) == 0))
def rag.j2 : Nat → List Int → Int → List (S114) → Int → Int → Bool → Option (Bool)
 | 0, _, _, _, _, _, _ => none
 | k + 1, x3, x6, x17, x18, x19, x40 => if x40 = true then (some false) else (if 0 ≤ (wrap64 ((x3.length : Int) - 1)) then (if (wrap64 ((x3.length : Int) - 1)) < (x3.length : Int) then ((some (x3.set ((wrap64 ((x3.length : Int) - 1)) : Int).toNat (wrap64 ((rd x3 (wrap64 ((x3.length : Int) - 1))) - 1)) : List Int)).bind fun y166 => (if y166.length < 17592186044416 then (rag.l1 k (y166 ++ [x6]) x17 x18 x19) else (none))) else (none)) else (none))
def rag.l1 : Nat → List Int → List (S114) → Int → Int → Option (Bool)
 | 0, _, _, _, _ => none
 | k + 1, x3, x17, x18, x19 => if (x3.length : Int) > 0 then (if 0 ≤ (wrap64 ((x3.length : Int) - 1)) then (if (wrap64 ((x3.length : Int) - 1)) < (x3.length : Int) then (if (rd x3 (wrap64 ((x3.length : Int) - 1))) = 0 then (if (wrap64 ((x3.length : Int) - 1)) ≤ (x3.length : Int) then (rag.l1 k (x3.take ((wrap64 ((x3.length : Int) - 1)) : Int).toNat) x17 x18 x19) else (none)) else (rag.l0 k x3 x17 x18 (wrap64 (x19 + 1)))) else (none)) else (none)) else (rag.l0 k x3 x17 x18 (wrap64 (x19 + 1)))
end
def rag.f (k : Nat) (l0 : List (S114)) : Option (Bool) := if (l0.length : Int) = 0 then (rag.j0 k l0 true) else (rag.j0 k l0 (decide ((l0.length : Int) > 400)))
set_option maxHeartbeats 8000000 in
set_option maxRecDepth 100000 in
theorem rag.calls (k : Nat) (A0 : Option Addr) (c0 : Nat) (l0 : List (S114)) (r : Bool) (w : World) (hr0 : Kd.C k114 w A0 l0.length l0) (hc0 : l0.length ≤ c0) (h : rag.f k l0 = some r) :
  Calls Tryz.prog 34 #[.slice A0 l0.length c0] w fun e w' => e = .returned (.bool r) ∧ Below w.heap.size w w' := by
 have hu114 := Tryz.underlying114
 have HR0 := Aside0.mk hr0
 have HC0 := Aside0.mk hc0
 clear hr0 hc0
 have HB := Aside0.mk (Below.refl w.heap.size w)
 have H : (if (l0.length : Int) = 0 then (rag.j0 k l0 true) else (rag.j0 k l0 (decide ((l0.length : Int) > 400)))) = some r := h
 clear h
 have HC2 := Aside0.mk H
 clear H
 go_enter Tryz.func34, Tryz.ntmps34
 go_upto_region 1 with (fail)
 go_cut [15] (fun v15 wc => ∃ (kq : Nat) (x15_1 : Bool), v15 = .bool x15_1 ∧ Aside0 (rag.j0 kq l0 x15_1 = some r) ∧ Aside0 (kq ≤ k) ∧ Aside0 (Below w.heap.size w wc))
 case first =>
  have H := HC2.out
  clear HC2
  by_cases c3 : (l0.length : Int) = 0
  ·
   rw [if_pos c3] at H
   have c3b0 : ((l0.length : Int) == 0) = true := beq_iff_eq.mpr c3
   have c3b1 : ((l0.length : Int) != 0) = false := bne_eq_false_iff_eq.mpr c3
   clear c3
   (first | rw [c3b0] | (simp only [qap, i32_w]; rw [c3b0]) | skip)
   have H' := Aside0.mk H
   clear H
   go_wp2
   go_meet
   case rel => exact ⟨_, (true), (by first | rfl | (simp; done) | (simp [*]; done)), H', ⟨by first | omega | exact Nat.le_refl _⟩, ⟨by repeat (first | (with_reducible first | exact HB.out | apply qad | apply qab | apply qac) | exact HB.out)⟩⟩
  ·
   rw [if_neg c3] at H
   have c3b0 : ((l0.length : Int) == 0) = false := beq_eq_false_iff_ne.mpr c3
   have c3b1 : ((l0.length : Int) != 0) = true := bne_iff_ne.mpr c3
   have c3b2 : ¬ (l0 = []) := fun h_ => c3 (by rw [h_]; rfl)
   (first | rw [c3b0] | (simp only [qap, i32_w]; rw [c3b0]) | skip)
   have H' := Aside0.mk H
   clear H
   go_wp2
   go_meet
   case rel => exact ⟨_, (decide ((l0.length : Int) > 400)), (by first | rfl | (simp; done) | (simp [*]; done)), H', ⟨by first | omega | exact Nat.le_refl _⟩, ⟨by repeat (first | (with_reducible first | exact HB.out | apply qad | apply qab | apply qac) | exact HB.out)⟩⟩
 case rest =>
  clear HC2
  try clear p2
  try clear c3
  try clear c3b0
  try clear c3b1
  try clear c3b2
  obtain ⟨kq, x15_1, rfl, HA, HJ1, HB⟩ := hcut
  cases kq with
  | zero => exact absurd HA.out (by simp [rag.j0])
  | succ kj1 =>
   have H := HA.out
   clear HA
   simp only [rag.j0] at H
   by_cases c4 : x15_1 = true
   ·
    subst c4
    have H1 : (some false) = some r := by rw [if_pos rfl] at H; exact H
    clear H
    have H := H1
    clear H1
    obtain rfl := Option.some.inj H
    go_wp2
    go_ret
    exact ⟨by first | rfl | (simp [*] <;> rfl), by repeat (first | (with_reducible first | exact HB.out | apply qad | apply qab | apply qac) | exact HB.out)⟩
   ·
    replace c4 := Bool.eq_false_iff.mpr c4
    subst c4
    have H1 : (rag.l0 kj1 (([1] : List Int)) l0 (l0.length : Int) 0) = some r := by rw [if_neg (show ¬ (false = true) by decide)] at H; exact H
    clear H
    have H := H1
    clear H1
    obtain ⟨y158, hy158⟩ : ∃ y_ : List Int, y_ = (([1] : List Int)) := ⟨_, rfl⟩
    replace H : (rag.l0 kj1 y158 l0 (l0.length : Int) 0) = some r := by first | (rw [hy158]; with_reducible exact H) | (have H2_ := (Option.bind_some _ _).symm.trans H; rw [hy158]; with_reducible exact H2_) | (have H2_ := (Option.bind_some _ _).symm.trans H; with_reducible exact H2_) | with_reducible exact H | (rw [hy158]; exact H) | exact H
    have Ny158 := Aside0.mk hy158
    clear hy158
    have H' := Aside0.mk H
    clear H
    go_wp2_with (first | ((with_reducible refine qav (N := 16) rfl ?_); (try (refine gate_guard (by rfl) ?_; dsimp only)); refine Kd.R_lit (Kd.int .i64) _ 3 ?hg (N := 16) ?hd (xs := ([1] : List Int)) (inner := [.int .i64 1]) (ok := fun _ => True) (okp := fun _ => True) ?hr ?hp (fun _ hk => hk) trivial (Below.refl _ _) (Nat.le_refl _) (by simp) ?_; (case hd => rfl); (case hg => rfl); (case hr => first | (go_simp; done) | (go_simp; rfl)); (case hp => exact (Reps.one (show Kd.M (Kd.int .i64) _ _ _ 1 [.int .i64 1] from rfl) (Reps.none _ _))); intro v159 w5 ho6 hb hg_ hnew_; clear hg_ hnew_; (first | rw [← Ny158.out] at ho6 | (simp only [Int.reduceToNat] at ho6; rw [← Ny158.out] at ho6)); have n0_ := Aside0.mk (Kd.R_lower ho6 (qaj (by repeat (first | (with_reducible first | exact HB.out | apply qad | apply qab | apply qac) | exact HB.out)))); have n1_ := Aside0.mk (qah (by repeat (first | (with_reducible first | exact HB.out | apply qad | apply qab | apply qac) | exact HB.out)) hb); clear HB; have HO160 := n0_; have HB := n1_; clear n0_ n1_; clear hb ho6))
    go_loopg [3, 19] kj1 (fun kq v3 v19 w' => ∃ (x3_2 : List Int) (x19_2 : Int), v19 = .int .i64 x19_2 ∧ Aside0 (rag.l0 kq x3_2 l0 (l0.length : Int) x19_2 = some r) ∧ Aside0 (kq ≤ kj1) ∧ Aside0 (Kd.R (Kd.int .i64) 3 w' w.heap.size (fun _ => True) v3 x3_2) ∧ Aside0 (Below w.heap.size w w'))
    case atStart => exact ⟨(y158), (0), (by first | rfl | (simp; done) | (simp [*]; done)), H', ⟨Nat.le_refl _⟩, ⟨by (with_reducible repeat (first | apply Kd.R_alloc | apply Kd.R_drewN | apply Kd.R_drew)); exact HO160.out⟩, ⟨by repeat (first | (with_reducible first | exact HB.out | apply qad | apply qab | apply qac) | exact HB.out)⟩⟩
    case round =>
     clear H'
     try clear p2
     try clear c3
     try clear c3b0
     try clear c3b1
     try clear c3b2
     try clear c4
     obtain ⟨x3_2, x19_2, rfl, HA, HK2, HO_3, HB⟩ := hrel
     cases gk with
     | zero => exact absurd HA.out (by simp [rag.l0])
     | succ k2 =>
      have H := HA.out
      clear HA
      simp only [rag.l0] at H
      by_cases c7 : x19_2 < (l0.length : Int)
      ·
       rw [if_pos c7] at H
       have c7b0 : decide (x19_2 < (l0.length : Int)) = true := decide_eq_true c7
       clear c7
       by_cases c8 : 0 ≤ x19_2
       ·
        rw [if_pos c8] at H
        have c8b0 : decide (0 ≤ x19_2) = true := decide_eq_true c8
        clear c8
        by_cases c9 : x19_2 < (l0.length : Int)
        ·
         rw [if_pos c9] at H
         have c9b0 : decide (x19_2 < (l0.length : Int)) = true := decide_eq_true c9
         clear c9
         replace H := Option.bind_eq_some_iff.mp H
         obtain ⟨⟨t163, t164⟩, A100, H⟩ := H
         replace H : (if t164 = true then (if (x3_2.length : Int) = 0 then (rag.j2 k2 x3_2 t163 l0 (l0.length : Int) x19_2 true) else (rag.j2 k2 x3_2 t163 l0 (l0.length : Int) x19_2 (decide ((wrap64 ((x3_2.length : Int) - 1)) > 24)))) else (rag.j2 k2 x3_2 t163 l0 (l0.length : Int) x19_2 true)) = some r := H
         have A10 := Aside0.mk A100
         clear A100
         have HC11 := Aside0.mk H
         clear H
         have p161 : 0 ≤ (x19_2 : Int) := of_decide_eq_true (by first | (with_reducible assumption) | assumption)
         have q161 : x19_2 < (l0.length : Int) := of_decide_eq_true (by first | (with_reducible assumption) | assumption)
         obtain ⟨ad161, e161, hx161_0, hx161_1, hx161_2, hx161_3, hx161_4, hx161_5⟩ := at_T114 HR0.out x19_2 p161 q161
         cases e161
         replace hx161_0 := (HB.out.cell (World.block_lt_of_cell? w _ hx161_0)).trans hx161_0
         replace hx161_1 := (HB.out.cell (World.block_lt_of_cell? w _ hx161_1)).trans hx161_1
         replace hx161_2 := (HB.out.cell (World.block_lt_of_cell? w _ hx161_2)).trans hx161_2
         replace hx161_3 := (HB.out.cell (World.block_lt_of_cell? w _ hx161_3)).trans hx161_3
         replace hx161_4 := (HB.out.cell (World.block_lt_of_cell? w _ hx161_4)).trans hx161_4
         replace hx161_5 := (HB.out.cell (World.block_lt_of_cell? w _ hx161_5)).trans hx161_5
         replace p161 := eq_true p161
         replace q161 := eq_true q161
         go_upto_region 8 with (first | ((with_reducible refine qav (N := 5) rfl ?_); (try (refine gate_guard (by rfl) ?_; dsimp only)); refine qau ?hg (N := 5) ?hd (cs := #[.int .i64 0, .int .i64 0, .int .i64 0, .string (⟨#[]⟩ : ByteArray), .int .i64 0, .int .i64 0]) (t := 114) ?hr ?_; (case hd => rfl); (case hg => rfl); (case hr => first | (go_simp; done) | (go_simp; rfl)); intro gb162 hg w12 hbox hb; have n0_ := Aside0.mk (Kd.R_below (by (with_reducible repeat (first | apply Kd.R_alloc | apply Kd.R_drewN | apply Kd.R_drew)); exact HO_3.out) hb); have n1_ := Aside0.mk (qah (by repeat (first | (with_reducible first | exact HB.out | apply qad | apply qab | apply qac) | exact HB.out)) hb); have n2_ := Aside0.mk (hbox); have n3_ := Aside0.mk ((by rw [hg]; exact (qaj (by repeat (first | (with_reducible first | exact HB.out | apply qad | apply qab | apply qac) | exact HB.out))) : w.heap.size ≤ gb162)); have n4_ := Aside0.mk ((by rw [hg]; exact (qaj (by repeat (first | (with_reducible first | exact HB.out | apply qad | apply qab | apply qac) | exact HB.out))) : w.heap.size ≤ gb162)); clear HO_3; clear HB; have HO_3 := n0_; have HB := n1_; have BK162 := n2_; have GW162 := n3_; have GE162 := n4_; clear n0_ n1_ n2_ n3_ n4_; clear hb hbox hg; obtain ⟨G13_0, G13_1, G13_2, G13_3, G13_4, G13_5, F13_0, F13_1, F13_2, F13_3, F13_4, F13_5⟩ := shr6 BK162.out) | ((with_reducible refine qat (f := 69) rfl ?_); refine goesL_ (some 25) rfl rfl Tryz.func69 (by kernel_rfl) rfl #[.agg #[.int .i64 ((qaq l0 x19_2).f0), .int .i64 ((qaq l0 x19_2).f1.f0), .int .i64 ((qaq l0 x19_2).f1.f1), .string ((qaq l0 x19_2).f1.f2), .int .i64 ((qaq l0 x19_2).f1.f3.f0), .int .i64 ((qaq l0 x19_2).f1.f3.f1)]] rfl (by (try simp only [List.map_toArray, List.map_cons, List.map_nil]); first | done | rfl | (simp only [List.length_drop, List.length_take]; rfl)) ?_; (with_reducible refine (rbj.calls ((qaq l0 x19_2).f0) ((qaq l0 x19_2).f1.f0) ((qaq l0 x19_2).f1.f1) ((qaq l0 x19_2).f1.f2) ((qaq l0 x19_2).f1.f3.f0) ((qaq l0 x19_2).f1.f3.f1) t163 t164 _ A10.out).mono ?_); rintro e w14 ⟨rfl, hb⟩; refine ⟨_, rfl, ?_⟩; have n0_ := Aside0.mk (Kd.R_below (by (with_reducible repeat (first | apply Kd.R_alloc | apply Kd.R_drewN | apply Kd.R_drew)); exact (Kd.R_mono (Kd.R_far (p := ⟨gb162, 5, none⟩) (Kd.R_far (p := ⟨gb162, 4, none⟩) (Kd.R_far (p := ⟨gb162, 3, none⟩) (Kd.R_far (p := ⟨gb162, 2, none⟩) (Kd.R_far (p := ⟨gb162, 1, none⟩) (Kd.R_far (p := ⟨gb162, 0, none⟩) (Kd.R_types HO_3.out BK162.out (by decide)) (fun _ hk => hk.2) (.int .i64 ((qaq l0 x19_2).f0))) (fun _ hk => hk.2) (.int .i64 ((qaq l0 x19_2).f1.f0))) (fun _ hk => hk.2) (.int .i64 ((qaq l0 x19_2).f1.f1))) (fun _ hk => hk.2) (.string ((qaq l0 x19_2).f1.f2))) (fun _ hk => hk.2) (.int .i64 ((qaq l0 x19_2).f1.f3.f0))) (fun _ hk => hk.2) (.int .i64 ((qaq l0 x19_2).f1.f3.f1))) (fun _ h_ => h_.1))) hb); have n1_ := Aside0.mk (qan (g := gb162) (o := .cells #[.int .i64 ((qaq l0 x19_2).f0), .int .i64 ((qaq l0 x19_2).f1.f0), .int .i64 ((qaq l0 x19_2).f1.f1), .string ((qaq l0 x19_2).f1.f2), .int .i64 ((qaq l0 x19_2).f1.f3.f0), .int .i64 ((qaq l0 x19_2).f1.f3.f1)] 114 (0, 0)) (by (with_reducible repeat (first | refine qag ?_ _ | refine qai ?_ | refine blk_alloc ?_ _)); refine qbb (cs := #[.int .i64 ((qaq l0 x19_2).f0), .int .i64 ((qaq l0 x19_2).f1.f0), .int .i64 ((qaq l0 x19_2).f1.f1), .string ((qaq l0 x19_2).f1.f2), .int .i64 ((qaq l0 x19_2).f1.f3.f0), .int .i64 0]) ?_ 5 _ rfl; (with_reducible repeat (first | refine qag ?_ _ | refine qai ?_ | refine blk_alloc ?_ _)); refine qbb (cs := #[.int .i64 ((qaq l0 x19_2).f0), .int .i64 ((qaq l0 x19_2).f1.f0), .int .i64 ((qaq l0 x19_2).f1.f1), .string ((qaq l0 x19_2).f1.f2), .int .i64 0, .int .i64 0]) ?_ 4 _ rfl; (with_reducible repeat (first | refine qag ?_ _ | refine qai ?_ | refine blk_alloc ?_ _)); refine qbb (cs := #[.int .i64 ((qaq l0 x19_2).f0), .int .i64 ((qaq l0 x19_2).f1.f0), .int .i64 ((qaq l0 x19_2).f1.f1), .string (⟨#[]⟩ : ByteArray), .int .i64 0, .int .i64 0]) ?_ 3 _ rfl; (with_reducible repeat (first | refine qag ?_ _ | refine qai ?_ | refine blk_alloc ?_ _)); refine qbb (cs := #[.int .i64 ((qaq l0 x19_2).f0), .int .i64 ((qaq l0 x19_2).f1.f0), .int .i64 0, .string (⟨#[]⟩ : ByteArray), .int .i64 0, .int .i64 0]) ?_ 2 _ rfl; (with_reducible repeat (first | refine qag ?_ _ | refine qai ?_ | refine blk_alloc ?_ _)); refine qbb (cs := #[.int .i64 ((qaq l0 x19_2).f0), .int .i64 0, .int .i64 0, .string (⟨#[]⟩ : ByteArray), .int .i64 0, .int .i64 0]) ?_ 1 _ rfl; (with_reducible repeat (first | refine qag ?_ _ | refine qai ?_ | refine blk_alloc ?_ _)); refine qbb (cs := #[.int .i64 0, .int .i64 0, .int .i64 0, .string (⟨#[]⟩ : ByteArray), .int .i64 0, .int .i64 0]) ?_ 0 _ rfl; (with_reducible repeat (first | refine qag ?_ _ | refine qai ?_ | refine blk_alloc ?_ _)); exact BK162.out) hb); have n2_ := Aside0.mk (qah (by repeat (first | (with_reducible first | exact HB.out | apply qad | apply qab | apply qac | refine qaf ?_ GE162.out) | exact HB.out)) hb); clear HO_3; clear BK162; clear HB; have HO_3 := n0_; have BK162 := n1_; have HB := n2_; clear n0_ n1_ n2_; (try clear hb); (try clear hb2); (try clear hk); (try clear hi)))
         (try simp only [Act.put, sIa, sIz, sIs])
         go_cut [40] (fun v40 wc => ∃ (kq : Nat) (x40_10 : Bool), v40 = .bool x40_10 ∧ Aside0 (rag.j2 kq x3_2 t163 l0 (l0.length : Int) x19_2 x40_10 = some r) ∧ Aside0 (kq ≤ k2) ∧ Aside0 (Kd.R (Kd.int .i64) 3 wc w.heap.size (fun _ => True) u3 x3_2) ∧ Aside0 (wc.heap[gb162]? = some (.cells #[.int .i64 ((qaq l0 x19_2).f0), .int .i64 ((qaq l0 x19_2).f1.f0), .int .i64 ((qaq l0 x19_2).f1.f1), .string ((qaq l0 x19_2).f1.f2), .int .i64 ((qaq l0 x19_2).f1.f3.f0), .int .i64 ((qaq l0 x19_2).f1.f3.f1)] 114 (0, 0))) ∧ Aside0 (Below w.heap.size w wc))
         case first =>
          have H := HC11.out
          clear HC11
          by_cases c15 : t164 = true
          ·
           subst c15
           have H1 : (if (x3_2.length : Int) = 0 then (rag.j2 k2 x3_2 t163 l0 (l0.length : Int) x19_2 true) else (rag.j2 k2 x3_2 t163 l0 (l0.length : Int) x19_2 (decide ((wrap64 ((x3_2.length : Int) - 1)) > 24)))) = some r := by rw [if_pos rfl] at H; exact H
           clear H
           have H := H1
           clear H1
           by_cases c16 : (x3_2.length : Int) = 0
           ·
            rw [if_pos c16] at H
            have c16b0 : ((x3_2.length : Int) == 0) = true := beq_iff_eq.mpr c16
            have c16b1 : ((x3_2.length : Int) != 0) = false := bne_eq_false_iff_eq.mpr c16
            clear c16
            (first | rw [c16b0] | (simp only [qap, i32_w]; rw [c16b0]) | skip)
            have H' := Aside0.mk H
            clear H
            obtain ⟨Ao17, co17, eo17⟩ := Kd.R_slice HO_3.out
            subst eo17
            go_wp2
            go_meet
            case rel => exact ⟨_, (true), (by first | rfl | (simp; done) | (simp [*]; done)), H', ⟨by have := HJ1.out; have := HK2.out; first | omega | exact Nat.le_refl _⟩, ⟨by (with_reducible repeat (first | apply Kd.R_alloc | apply Kd.R_drewN | apply Kd.R_drew)); exact HO_3.out⟩, ⟨by (with_reducible repeat (first | refine qag ?_ _ | refine qai ?_ | refine blk_alloc ?_ _)); exact BK162.out⟩, ⟨by repeat (first | (with_reducible first | exact HB.out | apply qad | apply qab | apply qac | refine qaf ?_ GE162.out) | exact HB.out)⟩⟩
           ·
            rw [if_neg c16] at H
            have c16b0 : ((x3_2.length : Int) == 0) = false := beq_eq_false_iff_ne.mpr c16
            have c16b1 : ((x3_2.length : Int) != 0) = true := bne_iff_ne.mpr c16
            have c16b2 : ¬ (x3_2 = []) := fun h_ => c16 (by rw [h_]; rfl)
            (first | rw [c16b0] | (simp only [qap, i32_w]; rw [c16b0]) | skip)
            have H' := Aside0.mk H
            clear H
            obtain ⟨Ao18, co18, eo18⟩ := Kd.R_slice HO_3.out
            subst eo18
            go_wp2
            go_meet
            case rel => exact ⟨_, (decide ((wrap64 ((x3_2.length : Int) - 1)) > 24)), (by first | rfl | (simp; done) | (simp [*]; done)), H', ⟨by have := HJ1.out; have := HK2.out; first | omega | exact Nat.le_refl _⟩, ⟨by (with_reducible repeat (first | apply Kd.R_alloc | apply Kd.R_drewN | apply Kd.R_drew)); exact HO_3.out⟩, ⟨by (with_reducible repeat (first | refine qag ?_ _ | refine qai ?_ | refine blk_alloc ?_ _)); exact BK162.out⟩, ⟨by repeat (first | (with_reducible first | exact HB.out | apply qad | apply qab | apply qac | refine qaf ?_ GE162.out) | exact HB.out)⟩⟩
          ·
           replace c15 := Bool.eq_false_iff.mpr c15
           subst c15
           have H1 : (rag.j2 k2 x3_2 t163 l0 (l0.length : Int) x19_2 true) = some r := by rw [if_neg (show ¬ (false = true) by decide)] at H; exact H
           clear H
           have H := H1
           clear H1
           have H' := Aside0.mk H
           clear H
           go_wp2
           go_meet
           case rel => exact ⟨_, (true), (by first | rfl | (simp; done) | (simp [*]; done)), H', ⟨by have := HJ1.out; have := HK2.out; first | omega | exact Nat.le_refl _⟩, ⟨by (with_reducible repeat (first | apply Kd.R_alloc | apply Kd.R_drewN | apply Kd.R_drew)); exact HO_3.out⟩, ⟨by (with_reducible repeat (first | refine qag ?_ _ | refine qai ?_ | refine blk_alloc ?_ _)); exact BK162.out⟩, ⟨by repeat (first | (with_reducible first | exact HB.out | apply qad | apply qab | apply qac | refine qaf ?_ GE162.out) | exact HB.out)⟩⟩
         case rest =>
          clear HC11
          try clear c1
          try clear p1
          try clear q1
          try clear hx1
          try clear p2
          try clear c3
          try clear c3b0
          try clear c3b1
          try clear c3b2
          try clear c4
          try clear c6
          try clear p6
          try clear c7
          try clear c7b0
          try clear c8
          try clear c8b0
          try clear c9
          try clear c9b0
          try clear c15
          try clear c16
          try clear c16b0
          try clear c16b1
          try clear c16b2
          try clear p16
          try clear q16
          try clear hx16
          try clear G13_0 G13_1 G13_2 G13_3 G13_4 G13_5 F13_0 F13_1 F13_2 F13_3 F13_4 F13_5
          try clear hx161_0
          try clear hx161_1
          try clear hx161_2
          try clear hx161_3
          try clear hx161_4
          try clear hx161_5
          try clear p161
          try clear q161
          obtain ⟨kq, x40_10, rfl, HA, HJ10, HO_3, BK162, HB⟩ := hcut
          cases kq with
          | zero => exact absurd HA.out (by simp [rag.j2])
          | succ kj10 =>
           have H := HA.out
           clear HA
           simp only [rag.j2] at H
           by_cases c19 : x40_10 = true
           ·
            subst c19
            have H1 : (some false) = some r := by rw [if_pos rfl] at H; exact H
            clear H
            have H := H1
            clear H1
            obtain rfl := Option.some.inj H
            go_wp2
            go_ret
            exact ⟨by first | rfl | (simp [*] <;> rfl), by repeat (first | (with_reducible first | exact HB.out | apply qad | apply qab | apply qac | refine qaf ?_ GE162.out) | exact HB.out)⟩
           ·
            replace c19 := Bool.eq_false_iff.mpr c19
            subst c19
            have H1 : (if 0 ≤ (wrap64 ((x3_2.length : Int) - 1)) then (if (wrap64 ((x3_2.length : Int) - 1)) < (x3_2.length : Int) then ((some (x3_2.set ((wrap64 ((x3_2.length : Int) - 1)) : Int).toNat (wrap64 ((rd x3_2 (wrap64 ((x3_2.length : Int) - 1))) - 1)) : List Int)).bind fun y166 => (if y166.length < 17592186044416 then (rag.l1 kj10 (y166 ++ [t163]) l0 (l0.length : Int) x19_2) else (none))) else (none)) else (none)) = some r := by rw [if_neg (show ¬ (false = true) by decide)] at H; exact H
            clear H
            have H := H1
            clear H1
            obtain ⟨ji20, hji20⟩ : ∃ j_ : Int, (wrap64 ((x3_2.length : Int) - 1)) = j_ := ⟨_, rfl⟩
            replace H : (if 0 ≤ (ji20) then (if (ji20) < (x3_2.length : Int) then ((some (x3_2.set ((ji20) : Int).toNat (wrap64 ((rd x3_2 (ji20)) - 1)) : List Int)).bind fun y166 => (if y166.length < 17592186044416 then (rag.l1 kj10 (y166 ++ [t163]) l0 (l0.length : Int) x19_2) else (none))) else (none)) else (none)) = some r := by first | (rw [hji20] at H; exact H) | (simp only [hji20] at H ⊢; exact H)
            have hji20w : (IntKind.i64.wrap ((x3_2.length : Int) - 1)) = ji20 := (qap _).trans hji20
            by_cases c21 : 0 ≤ (ji20)
            ·
             rw [if_pos c21] at H
             have c21b0 : decide (0 ≤ (ji20)) = true := decide_eq_true c21
             clear c21
             by_cases c22 : (ji20) < (x3_2.length : Int)
             ·
              rw [if_pos c22] at H
              have c22b0 : decide ((ji20) < (x3_2.length : Int)) = true := decide_eq_true c22
              clear c22
              obtain ⟨y166, hy166⟩ : ∃ y_ : List Int, y_ = (x3_2.set ((ji20) : Int).toNat (wrap64 ((rd x3_2 (ji20)) - 1))) := ⟨_, rfl⟩
              replace H : (if y166.length < 17592186044416 then (rag.l1 kj10 (y166 ++ [t163]) l0 (l0.length : Int) x19_2) else (none)) = some r := by first | (rw [hy166]; with_reducible exact H) | (have H2_ := (Option.bind_some _ _).symm.trans H; rw [hy166]; with_reducible exact H2_) | (have H2_ := (Option.bind_some _ _).symm.trans H; with_reducible exact H2_) | with_reducible exact H | (rw [hy166]; exact H) | exact H
              have Ny166 := Aside0.mk hy166
              clear hy166
              by_cases c24 : y166.length < 17592186044416
              ·
               rw [if_pos c24] at H
               have LMc24 := Aside0.mk c24
               clear c24
               obtain ⟨y167, hy167⟩ : ∃ y_ : List Int, y_ = (y166 ++ [t163]) := ⟨_, rfl⟩
               replace H : (rag.l1 kj10 y167 l0 (l0.length : Int) x19_2) = some r := by first | (rw [hy167]; with_reducible exact H) | (have H2_ := (Option.bind_some _ _).symm.trans H; rw [hy167]; with_reducible exact H2_) | (have H2_ := (Option.bind_some _ _).symm.trans H; with_reducible exact H2_) | with_reducible exact H | (rw [hy167]; exact H) | exact H
               have Ny167 := Aside0.mk hy167
               clear hy167
               have H' := Aside0.mk H
               clear H
               obtain ⟨Ao25, co25, eo25⟩ := Kd.R_slice HO_3.out
               subst eo25
               have p165 : 0 ≤ ((ji20) : Int) := of_decide_eq_true (by first | (with_reducible assumption) | assumption)
               have q165 : (ji20) < (x3_2.length : Int) := of_decide_eq_true (by first | (with_reducible assumption) | assumption)
               obtain ⟨ad165, e165, hx165_0⟩ := Kd.at_int (Kd.R_reads' HO_3.out).2.2 (ji20) p165 q165
               cases e165
               replace p165 := eq_true p165
               replace q165 := eq_true q165
               have p23 : 0 ≤ ((ji20) : Int) := of_decide_eq_true (by first | (with_reducible assumption) | assumption)
               have q23 : ((ji20) : Int) < ((x3_2.length : Int) : Int) := of_decide_eq_true (by first | (with_reducible assumption) | assumption)
               obtain ⟨go23, co23, eo23, gb23, gl23, cl23, HG23⟩ := Kd.R_form HO_3.out (by omega)
               (first | cases eo23 | (injection eo23 with ea_ en_ ec_; (first | subst ea_ | (injection ea_ with ea_; subst ea_)); subst ec_; clear en_))
               have GB23 := Aside0.mk gb23
               have GG23 := Aside0.mk HG23
               clear gb23 gl23 HG23
               (first | simp only [add_plain] at hx165_0 | skip)
               obtain ⟨hx23_0, hf23_0⟩ := Kd.R_celln 0 HO_3.out ((ji20) : Int) p23 q23
               replace p23 := eq_true p23
               replace q23 := eq_true q23
               have HP26 := Kd.R_putg HO_3.out ((ji20) : Int) (wrap64 ((rd x3_2 (ji20)) - 1))
               go_wp2_with (first | ((with_reducible refine gate_store (t := 3) (p := 48) rfl ?_); refine store_event (t := 3) (p := 48) (v := ?vo_w27) (w1 := (wc.setCell ⟨go23, ((ji20) : Int).toNat, none⟩ (.int .i64 (wrap64 ((rd x3_2 (ji20)) - 1))))) ?hg ?ho ?hn ?hr ?_; (case ho => rfl); (case hg => rfl); (case hn => rfl); (case hr => first | (go_simp; done) | (go_simp; rfl)); intro w27 hw; have hg : wc.grownBy w27 (some go23) := (by rw [hw]; exact HP26.2); have hp_ : Kd.R (Kd.int .i64) 3 w27 w.heap.size (fun _ => True) (.slice (some ⟨go23, 0, none⟩) x3_2.length co25) y166 := (by rw [hw, Ny166.out]; exact HP26.1); clear HP26; have n0_ := Aside0.mk (hp_); have n1_ := Aside0.mk (blk_grown (g := gb162) (o := .cells #[.int .i64 ((qaq l0 x19_2).f0), .int .i64 ((qaq l0 x19_2).f1.f0), .int .i64 ((qaq l0 x19_2).f1.f1), .string ((qaq l0 x19_2).f1.f2), .int .i64 ((qaq l0 x19_2).f1.f3.f0), .int .i64 ((qaq l0 x19_2).f1.f3.f1)] 114 (0, 0)) (by (with_reducible repeat (first | refine qag ?_ _ | refine qai ?_ | refine blk_alloc ?_ _)); exact BK162.out) hg (Kd.R_ne HO_3.out BK162.out (by decide))); have n2_ := Aside0.mk ((by rw [hw]; exact qaf (HB.out) GB23.out : Below w.heap.size w w27)); clear HO_3; clear BK162; clear HB; have HO_3 := n0_; have BK162 := n1_; have HB := n2_; clear n0_ n1_ n2_; clear hg hw hp_) | ((with_reducible refine gate_builtin (b := .append) (xs := #[.tmp 49, .tmp 51]) rfl ?_); (try (refine gate_guard (by rfl) ?_; dsimp only)); at_builtin; refine Kd.R_append (Kd.int .i64) (w0 := w) w.heap.size rfl (.tmp 49) (.tmp 51) 121 3 (.int .i64 0) 8 rfl Tryz.underlying121 info3 rfl (by decide) (by omega) (.slice (some ⟨go23, 0, none⟩) x3_2.length co25) y166 t163 [.int .i64 t163] (fun _ => True) (fun _ => False) rfl rfl ?aP (fun _ hk => hk.elim) ?aF ?aO ?aB ?aS ?aL ?_; (case aP => exact rfl); (case aB => exact (by repeat (first | (with_reducible first | exact HB.out | apply qad | apply qab | apply qac | refine qaf ?_ GE162.out) | exact HB.out))); (case aF => exact (fun _ _ => trivial)); (case aO => exact (by (with_reducible repeat (first | apply Kd.R_alloc | apply Kd.R_drewN | apply Kd.R_drew)); exact HO_3.out)); (case aS => exact (qaj (by repeat (first | (with_reducible first | exact HB.out | apply qad | apply qab | apply qac | refine qaf ?_ GE162.out) | exact HB.out)))); (case aL => have := LMc24.out; omega); intro v168 w28 ho hb hg hat; rw [← Ny167.out] at ho; have n0_ := Aside0.mk (blk_grown (g := gb162) (o := .cells #[.int .i64 ((qaq l0 x19_2).f0), .int .i64 ((qaq l0 x19_2).f1.f0), .int .i64 ((qaq l0 x19_2).f1.f1), .string ((qaq l0 x19_2).f1.f2), .int .i64 ((qaq l0 x19_2).f1.f3.f0), .int .i64 ((qaq l0 x19_2).f1.f3.f1)] 114 (0, 0)) (by (with_reducible repeat (first | refine qag ?_ _ | refine qai ?_ | refine blk_alloc ?_ _)); exact BK162.out) hg (Kd.R_ne HO_3.out BK162.out (by decide))); have n1_ := Aside0.mk (hb); have n2_ := Aside0.mk (ho); clear BK162; clear HB; clear HO_3; have BK162 := n0_; have HB := n1_; have HO169 := n2_; clear n0_ n1_ n2_; clear ho hb hg hat))
               go_loopg [3] kj10 (fun kq v3 w' => ∃ (x3_4 : List Int), Aside0 (rag.l1 kq x3_4 l0 (l0.length : Int) x19_2 = some r) ∧ Aside0 (kq ≤ kj10) ∧ Aside0 (Kd.R (Kd.int .i64) 3 w' w.heap.size (fun _ => True) v3 x3_4) ∧ Aside0 (w'.heap[gb162]? = some (.cells #[.int .i64 ((qaq l0 x19_2).f0), .int .i64 ((qaq l0 x19_2).f1.f0), .int .i64 ((qaq l0 x19_2).f1.f1), .string ((qaq l0 x19_2).f1.f2), .int .i64 ((qaq l0 x19_2).f1.f3.f0), .int .i64 ((qaq l0 x19_2).f1.f3.f1)] 114 (0, 0))) ∧ Aside0 (Below w.heap.size w w'))
               case atStart => exact ⟨(y167), H', ⟨Nat.le_refl _⟩, ⟨by (with_reducible repeat (first | apply Kd.R_alloc | apply Kd.R_drewN | apply Kd.R_drew)); exact HO169.out⟩, ⟨by (with_reducible repeat (first | refine qag ?_ _ | refine qai ?_ | refine blk_alloc ?_ _)); exact BK162.out⟩, ⟨by repeat (first | (with_reducible first | exact HB.out | apply qad | apply qab | apply qac | refine qaf ?_ GE162.out) | exact HB.out)⟩⟩
               case round =>
                clear H'
                try clear c1
                try clear p1
                try clear q1
                try clear hx1
                try clear c2
                try clear p2
                try clear q2
                try clear hx2
                try clear hf2
                try clear c3
                try clear c3b0
                try clear c3b1
                try clear c3b2
                try clear c4
                try clear c6
                try clear p6
                try clear c7
                try clear c7b0
                try clear c8
                try clear c8b0
                try clear c9
                try clear c9b0
                try clear c15
                try clear c16
                try clear c16b0
                try clear c16b1
                try clear c16b2
                try clear p16
                try clear q16
                try clear hx16
                try clear c19
                try clear c21
                try clear c21b0
                try clear c22
                try clear c22b0
                try clear p23
                try clear q23
                try clear hx23
                try clear hf23
                try clear c24
                try clear G13_0 G13_1 G13_2 G13_3 G13_4 G13_5 F13_0 F13_1 F13_2 F13_3 F13_4 F13_5
                try clear hx161_0
                try clear hx161_1
                try clear hx161_2
                try clear hx161_3
                try clear hx161_4
                try clear hx161_5
                try clear hx165_0
                try clear hx23_0
                try clear p161
                try clear p165
                try clear q161
                try clear q165
                obtain ⟨x3_4, HA, HK4, HO_3, BK162, HB⟩ := hrel
                cases gk with
                | zero => exact absurd HA.out (by simp [rag.l1])
                | succ k4 =>
                 have H := HA.out
                 clear HA
                 simp only [rag.l1] at H
                 by_cases c29 : (x3_4.length : Int) > 0
                 ·
                  rw [if_pos c29] at H
                  have c29b0 : decide (0 < (x3_4.length : Int)) = true := decide_eq_true c29
                  have c29b1 : decide (0 < x3_4.length) = true := decide_eq_true (by omega)
                  clear c29
                  obtain ⟨ji30, hji30⟩ : ∃ j_ : Int, (wrap64 ((x3_4.length : Int) - 1)) = j_ := ⟨_, rfl⟩
                  replace H : (if 0 ≤ (ji30) then (if (ji30) < (x3_4.length : Int) then (if (rd x3_4 (ji30)) = 0 then (if (ji30) ≤ (x3_4.length : Int) then (rag.l1 k4 (x3_4.take ((ji30) : Int).toNat) l0 (l0.length : Int) x19_2) else (none)) else (rag.l0 k4 x3_4 l0 (l0.length : Int) (wrap64 (x19_2 + 1)))) else (none)) else (none)) = some r := by first | (rw [hji30] at H; exact H) | (simp only [hji30] at H ⊢; exact H)
                  have hji30w : (IntKind.i64.wrap ((x3_4.length : Int) - 1)) = ji30 := (qap _).trans hji30
                  by_cases c31 : 0 ≤ (ji30)
                  ·
                   rw [if_pos c31] at H
                   have c31b0 : decide (0 ≤ (ji30)) = true := decide_eq_true c31
                   clear c31
                   by_cases c32 : (ji30) < (x3_4.length : Int)
                   ·
                    rw [if_pos c32] at H
                    have c32b0 : decide ((ji30) < (x3_4.length : Int)) = true := decide_eq_true c32
                    clear c32
                    by_cases c33 : (rd x3_4 (ji30)) = 0
                    ·
                     rw [if_pos c33] at H
                     have c33b0 : ((rd x3_4 (ji30)) == 0) = true := beq_iff_eq.mpr c33
                     have c33b1 : ((rd x3_4 (ji30)) != 0) = false := bne_eq_false_iff_eq.mpr c33
                     clear c33
                     by_cases c34 : (ji30) ≤ (x3_4.length : Int)
                     ·
                      rw [if_pos c34] at H
                      have c34b0 := eq_true c34
                      have c34b1 : decide ((ji30) ≤ (x3_4.length : Int)) = true := decide_eq_true c34
                      clear c34
                      obtain ⟨y171, hy171⟩ : ∃ y_ : List Int, y_ = (x3_4.take ((ji30) : Int).toNat) := ⟨_, rfl⟩
                      replace H : (rag.l1 k4 y171 l0 (l0.length : Int) x19_2) = some r := by first | (rw [hy171]; with_reducible exact H) | (have H2_ := (Option.bind_some _ _).symm.trans H; rw [hy171]; with_reducible exact H2_) | (have H2_ := (Option.bind_some _ _).symm.trans H; with_reducible exact H2_) | with_reducible exact H | (rw [hy171]; exact H) | exact H
                      have Ny171 := Aside0.mk hy171
                      clear hy171
                      have H' := Aside0.mk H
                      clear H
                      obtain ⟨Ao35, co35, eo35⟩ := Kd.R_slice HO_3.out
                      subst eo35
                      have p170 : 0 ≤ ((ji30) : Int) := of_decide_eq_true (by first | (with_reducible assumption) | assumption)
                      have q170 : (ji30) < (x3_4.length : Int) := of_decide_eq_true (by first | (with_reducible assumption) | assumption)
                      obtain ⟨ad170, e170, hx170_0⟩ := Kd.at_int (Kd.R_reads' HO_3.out).2.2 (ji30) p170 q170
                      cases e170
                      replace p170 := eq_true p170
                      replace q170 := eq_true q170
                      have q36 : ((ji30) : Int) ≤ ((x3_4.length : Int) : Int) := of_decide_eq_true (by first | (with_reducible assumption) | assumption)
                      obtain ⟨i036, hi036, _, hsz36, _⟩ := info_parts info3
                      have hcut36 := cut_to (P := Tryz.prog) 121 3 .i64 Tryz.underlying121 hi036 (some ad170) x3_4.length co35 (ji30) (of_decide_eq_true (by first | (with_reducible assumption) | assumption)) q36 (Kd.R_reads' HO_3.out).2.1
                      have hr36 := Kd.R_take (m := ((ji30) : Int).toNat) HO_3.out (by omega)
                      have hy36 : y171.length = ((ji30) : Int).toNat := (by rw [Ny171.out, List.length_take]; omega)
                      rw [← Ny171.out] at hr36
                      rw [← hy36] at hr36 hcut36
                      clear hy36 hi036 hsz36 HO_3
                      have HO173 := Aside0.mk hr36
                      clear hr36
                      replace q36 := eq_true q36
                      go_wp2
                      go_roundg k4
                      case measure => have := HJ1.out; have := HK2.out; have := HJ10.out; have := HK4.out; omega
                      case rel => exact ⟨(y171), H', ⟨by have := HJ1.out; have := HK2.out; have := HJ10.out; have := HK4.out; omega⟩, ⟨by (with_reducible repeat (first | apply Kd.R_alloc | apply Kd.R_drewN | apply Kd.R_drew)); exact HO173.out⟩, ⟨by (with_reducible repeat (first | refine qag ?_ _ | refine qai ?_ | refine blk_alloc ?_ _)); exact BK162.out⟩, ⟨by repeat (first | (with_reducible first | exact HB.out | apply qad | apply qab | apply qac | refine qaf ?_ GE162.out) | exact HB.out)⟩⟩
                     ·
                      rw [if_neg c34] at H
                      exact absurd H (by simp)
                    ·
                     rw [if_neg c33] at H
                     have c33b0 : ((rd x3_4 (ji30)) == 0) = false := beq_eq_false_iff_ne.mpr c33
                     have c33b1 : ((rd x3_4 (ji30)) != 0) = true := bne_iff_ne.mpr c33
                     have H' := Aside0.mk H
                     clear H
                     obtain ⟨Ao37, co37, eo37⟩ := Kd.R_slice HO_3.out
                     subst eo37
                     have p170 : 0 ≤ ((ji30) : Int) := of_decide_eq_true (by first | (with_reducible assumption) | assumption)
                     have q170 : (ji30) < (x3_4.length : Int) := of_decide_eq_true (by first | (with_reducible assumption) | assumption)
                     obtain ⟨ad170, e170, hx170_0⟩ := Kd.at_int (Kd.R_reads' HO_3.out).2.2 (ji30) p170 q170
                     cases e170
                     replace p170 := eq_true p170
                     replace q170 := eq_true q170
                     go_wp2
                     go_roundg k4
                     case measure => have := HJ1.out; have := HK2.out; have := HJ10.out; have := HK4.out; omega
                     case rel => exact ⟨(x3_4), (wrap64 (x19_2 + 1)), (by first | rfl | (simp; done) | (simp [*]; done)), H', ⟨by have := HJ1.out; have := HK2.out; have := HJ10.out; have := HK4.out; omega⟩, ⟨by (with_reducible repeat (first | apply Kd.R_alloc | apply Kd.R_drewN | apply Kd.R_drew)); exact HO_3.out⟩, ⟨by repeat (first | (with_reducible first | exact HB.out | apply qad | apply qab | apply qac | refine qaf ?_ GE162.out) | exact HB.out)⟩⟩
                   ·
                    rw [if_neg c32] at H
                    exact absurd H (by simp)
                  ·
                   rw [if_neg c31] at H
                   exact absurd H (by simp)
                 ·
                  rw [if_neg c29] at H
                  have c29b0 : decide (0 < (x3_4.length : Int)) = false := decide_eq_false c29
                  have c29b1 : decide (0 < x3_4.length) = false := decide_eq_false (by omega)
                  clear c29
                  have H' := Aside0.mk H
                  clear H
                  obtain ⟨Ao38, co38, eo38⟩ := Kd.R_slice HO_3.out
                  subst eo38
                  go_wp2
                  go_roundg k4
                  case measure => have := HJ1.out; have := HK2.out; have := HJ10.out; have := HK4.out; omega
                  case rel => exact ⟨(x3_4), (wrap64 (x19_2 + 1)), (by first | rfl | (simp; done) | (simp [*]; done)), H', ⟨by have := HJ1.out; have := HK2.out; have := HJ10.out; have := HK4.out; omega⟩, ⟨by (with_reducible repeat (first | apply Kd.R_alloc | apply Kd.R_drewN | apply Kd.R_drew)); exact HO_3.out⟩, ⟨by repeat (first | (with_reducible first | exact HB.out | apply qad | apply qab | apply qac | refine qaf ?_ GE162.out) | exact HB.out)⟩⟩
              ·
               rw [if_neg c24] at H
               exact absurd H (by simp)
             ·
              rw [if_neg c22] at H
              exact absurd H (by simp)
            ·
             rw [if_neg c21] at H
             exact absurd H (by simp)
        ·
         rw [if_neg c9] at H
         exact absurd H (by simp)
       ·
        rw [if_neg c8] at H
        exact absurd H (by simp)
      ·
       rw [if_neg c7] at H
       have c7b0 : decide (x19_2 < (l0.length : Int)) = false := decide_eq_false c7
       clear c7
       obtain rfl := Option.some.inj H
       obtain ⟨Ao39, co39, eo39⟩ := Kd.R_slice HO_3.out
       subst eo39
       go_wp2
       go_ret
       exact ⟨by first | rfl | (simp [*] <;> rfl), by repeat (first | (with_reducible first | exact HB.out | apply qad | apply qab | apply qac) | exact HB.out)⟩
end Go.Proofs.YtejbpnhondpnfaaGreat.PJob
namespace Go.Proofs.YtejbpnhondpnfaaGreat
def pops : List Nat → List Nat
 | [] => []
 | 0 :: b => pops b
 | (t + 1) :: b => (t + 1) :: b
def decTop : List Nat → List Nat
 | [] => []
 | t :: b => (t - 1) :: b
def stackRun : List Nat → List (Option Nat) → Bool
 | op, [] => op.isEmpty
 | _, none :: _ => false
 | op, some k :: r => if op = [] ∨ 24 < op.length - 1 then false else stackRun (pops (k :: decTop op)) r
def manyE (g : List (Option Nat) → Option (List (Option Nat))) : Nat → List (Option Nat) → Option (List (Option Nat))
 | 0, L => some L
 | k + 1, L => (g L).bind (manyE g k)
def oneE : Nat → Nat → List (Option Nat) → Option (List (Option Nat))
 | 0, _, _ => none
 | _ + 1, _, [] => none
 | f + 1, w, n :: r => if 24 < w then none else match n with
  | none => none
  | some k => manyE (oneE f (w + 1)) k r
theorem stack_one : ∀ (f w t : Nat) (b : List Nat) (L : List (Option Nat)), b.length = w → f = 26 - w →
  stackRun ((t + 1) :: b) L = match oneE f w L with | none => false | some L' => stackRun (pops (t :: b)) L'
 | f, w, t, b, [], _, _ => by cases f <;> rfl
 | f, w, t, b, none :: r, _, _ => by
  cases f with
  | zero => rfl
  | succ f =>
   unfold oneE
   split <;> rename_i h <;> split at h <;> first | rfl | cases h
 | 0, w, t, b, some k :: r, hb, hf => by
  show (if _ then false else _) = false
  rw [if_pos (.inr (by simp; omega))]
 | f + 1, w, t, b, some k :: r, hb, hf => by
  unfold oneE
  by_cases hw : 24 < w
  ·
   rw [if_pos hw]
   show (if _ then false else _) = false
   rw [if_pos (.inr (by simp; omega))]
  ·
   rw [if_neg hw]
   show (if _ then false else stackRun (pops (k :: t :: b)) r) = _
   rw [if_neg (by simp; omega)]
   have key : ∀ (k : Nat) (r : List (Option Nat)), stackRun (pops (k :: t :: b)) r = match manyE (oneE f (w + 1)) k r with | none => false | some L' => stackRun (pops (t :: b)) L' := by
    intro k
    induction k with
    | zero => intro r; rfl
    | succ k ih =>
     intro r
     show stackRun ((k + 1) :: t :: b) r = match (oneE f (w + 1) r).bind (manyE (oneE f (w + 1)) k) with | none => false | some L' => stackRun (pops (t :: b)) L'
     rw [stack_one f (w + 1) k (t :: b) r (by simp [hb]) (by omega)]
     cases h : oneE f (w + 1) r with
     | none => rfl
     | some L1 =>
      show stackRun (pops (k :: t :: b)) L1 = _
      rw [ih L1]
      rfl
   exact key k r
theorem stack_right (L : List (Option Nat)) : stackRun [1] L = decide (oneE 26 0 L = some []) := by
 rw [stack_one 26 0 0 [] L rfl rfl]
 cases h : oneE 26 0 L with
 | none => simp
 | some L' =>
  show stackRun [] L' = _
  match L' with
  | [] => simp [stackRun]
  | none :: r => simp [stackRun]
  | some k :: r => simp [stackRun]
theorem one_less : ∀ (f w f' w' : Nat) (L L' : List (Option Nat)), oneE f w L = some L' → w' ≤ w → f ≤ f' → oneE f' w' L = some L'
 | 0, _, _, _, _, _, h, _, _ => by cases h
 | f + 1, _, 0, _, _, _, _, _, hf => by omega
 | f + 1, w, f' + 1, w', [], L', h, _, _ => by cases h
 | f + 1, w, f' + 1, w', none :: r, L', h, _, _ => by
  unfold oneE at h
  split at h <;> cases h
 | f + 1, w, f' + 1, w', some k :: r, L', h, hw, hf => by
  unfold oneE at h ⊢
  split at h
  ·
   cases h
  ·
   rename_i h24
   rw [if_neg (by omega)]
   simp only at h ⊢
   have key : ∀ (k : Nat) (r L' : List (Option Nat)), manyE (oneE f (w + 1)) k r = some L' → manyE (oneE f' (w' + 1)) k r = some L' := by
    intro k
    induction k with
    | zero => intro r L' h; exact h
    | succ k ih =>
     intro r L' h
     unfold manyE at h ⊢
     cases hg : oneE f (w + 1) r with
     | none => rw [hg] at h; cases h
     | some L1 =>
      rw [hg] at h
      rw [one_less f (w + 1) f' (w' + 1) r L1 hg (by omega) (by omega)]
      exact ih L1 L' h
   exact key k r L' h
end Go.Proofs.YtejbpnhondpnfaaGreat
namespace Go.Proofs.YtejbpnhondpnfaaGreat
set_option maxRecDepth 100000
open Go.RowKit
def Blk (w : World) (g : Nat) (t : TypeId) : Prop := ∃ cs, w.heap[g]? = some (.cells cs t (0, 0))
theorem Blk.lt {w : World} {g : Nat} {t : TypeId} (h : Blk w g t) : g < w.heap.size := (Array.getElem?_eq_some_iff.1 h.choose_spec).1
theorem Blk.frozen {w : World} {g : Nat} {t : TypeId} (h : Blk w g t) (k : Nat) : w.frozen? ⟨g, k, none⟩ = false := by
 obtain ⟨cs, hb⟩ := h
 simp [World.frozen?, hb]
theorem Blk.tag {w : World} {g : Nat} {t t' : TypeId} (h : Blk w g t) (k : Blk w g t') : t = t' := by
 obtain ⟨cs, h⟩ := h
 obtain ⟨cs', k⟩ := k
 rw [h] at k
 injection k with k
 injection k
theorem blk_setCell {w : World} {g : Nat} {t : TypeId} (h : Blk w g t) (k : Nat) (v : Value) : Blk (w.setCell ⟨g, k, none⟩ v) g t := by
 obtain ⟨cs, h⟩ := h
 exact ⟨cs.setIfInBounds k v, by simp [World.setCell, Array.getElem?_modify, h]⟩
theorem cell_setCell_ne {w : World} {g : Nat} {t : TypeId} (h : Blk w g t) {j k : Nat} (hne : j ≠ k) (v : Value) : (w.setCell ⟨g, k, none⟩ v).cell? ⟨g, j, none⟩ = w.cell? ⟨g, j, none⟩ := by
 obtain ⟨cs, h⟩ := h
 simp [World.setCell, World.cell?, Array.getElem?_modify, h, Ne.symm hne]
theorem cell_setCell_eq {w : World} {g : Nat} {t : TypeId} (h : Blk w g t) {k : Nat} {u : Value} (hc : w.cell? ⟨g, k, none⟩ = some u) (v : Value) : (w.setCell ⟨g, k, none⟩ v).cell? ⟨g, k, none⟩ = some v := by
 obtain ⟨cs, h⟩ := h
 have hk : k < cs.size := by
  simp only [World.cell?, h, Option.isSome_none, Bool.false_eq_true, if_false] at hc
  exact (Array.getElem?_eq_some_iff.1 hc).1
 simp [World.setCell, World.cell?, Array.getElem?_modify, h, hk]
structure FieldAt (w : World) (g : Nat) : Prop where
 blk : Blk w g 213
 exp : ∀ i, i < 510 → ∃ x : Int, w.cell? ⟨g, i, none⟩ = some (.int .u8 x) ∧ 0 ≤ x ∧ x ≤ 255
 log : ∀ i, i < 256 → ∃ y : Int, w.cell? ⟨g, 510 + i, none⟩ = some (.int .i64 y) ∧ 0 ≤ y ∧ y ≤ 254
theorem FieldAt.lt {w : World} {g : Nat} (h : FieldAt w g) : g < w.heap.size := h.blk.lt
theorem FieldAt.frozen {w : World} {g : Nat} (h : FieldAt w g) (k : Nat) : w.frozen? ⟨g, k, none⟩ = false := h.blk.frozen k
theorem FieldAt.chg {S : Nat → Prop} {w w' : World} {g : Nat} (h : FieldAt w g) (hc : Chg S w w') (hn : ¬ S g) : FieldAt w' g := by
 have hlt := h.lt
 obtain ⟨cs, hb⟩ := h.blk
 refine ⟨⟨cs, (hc.block g hlt hn).trans hb⟩, fun i hi => ?_, fun i hi => ?_⟩
 ·
  obtain ⟨x, hx, r⟩ := h.exp i hi
  exact ⟨x, (hc.cell (p := ⟨g, i, none⟩) hlt hn).trans hx, r⟩
 ·
  obtain ⟨x, hx, r⟩ := h.log i hi
  exact ⟨x, (hc.cell (p := ⟨g, 510 + i, none⟩) hlt hn).trans hx, r⟩
theorem FieldAt.setExp {w : World} {g k : Nat} (h : FieldAt w g) (hk : k < 510) {x : Int} (h0 : 0 ≤ x) (h1 : x ≤ 255) : FieldAt (w.setCell ⟨g, k, none⟩ (.int .u8 x)) g := by
 refine ⟨blk_setCell h.blk _ _, fun i hi => ?_, fun i hi => ?_⟩
 ·
  obtain ⟨y, hy, r⟩ := h.exp i hi
  by_cases e : i = k
  ·
   subst e; exact ⟨x, cell_setCell_eq h.blk hy _, h0, h1⟩
  ·
   exact ⟨y, (cell_setCell_ne h.blk e _).trans hy, r⟩
 ·
  obtain ⟨y, hy, r⟩ := h.log i hi
  exact ⟨y, (cell_setCell_ne h.blk (by omega) _).trans hy, r⟩
theorem FieldAt.setLog {w : World} {g k : Nat} (h : FieldAt w g) (hk : k < 256) {x : Int} (h0 : 0 ≤ x) (h1 : x ≤ 254) : FieldAt (w.setCell ⟨g, 510 + k, none⟩ (.int .i64 x)) g := by
 refine ⟨blk_setCell h.blk _ _, fun i hi => ?_, fun i hi => ?_⟩
 ·
  obtain ⟨y, hy, r⟩ := h.exp i hi
  exact ⟨y, (cell_setCell_ne h.blk (by omega) _).trans hy, r⟩
 ·
  obtain ⟨y, hy, r⟩ := h.log i hi
  by_cases e : i = k
  ·
   subst e; exact ⟨x, cell_setCell_eq h.blk hy _, h0, h1⟩
  ·
   exact ⟨y, (cell_setCell_ne h.blk (by omega) _).trans hy, r⟩
def ZF : Array Value := Array.replicate 510 (Value.int .u8 0) ++ Array.replicate 256 (Value.int .i64 0)
theorem field_new {w : World} {g : Nat} (h : w.heap[g]? = some (.cells ZF 213 (0, 0))) : FieldAt w g := by
 refine ⟨⟨_, h⟩, fun i hi => ⟨0, ?_, by omega, by omega⟩, fun i hi => ⟨0, ?_, by omega, by omega⟩⟩
 ·
  simp only [World.cell?, h, Option.isSome_none, Bool.false_eq_true, if_false]
  unfold ZF
  rw [Array.getElem?_append_left (by simp; omega), Array.getElem?_replicate, if_pos hi]
 ·
  simp only [World.cell?, h, Option.isSome_none, Bool.false_eq_true, if_false]
  unfold ZF
  rw [Array.getElem?_append_right (by simp), Array.getElem?_replicate, if_pos (by simp; omega)]
theorem dbl_le : ∀ x : Fin 256, 1 ≤ x.val → (if 255 < 2 * x.val then (2 * x.val) ^^^ 285 else 2 * x.val) ≤ 255 ∧ 1 ≤ (if 255 < 2 * x.val then (2 * x.val) ^^^ 285 else 2 * x.val) := by decide +kernel
def orZ : List Int → Int
 | [] => 0
 | a :: l => if a = 0 then orZ l else a
theorem orZ_drop {vs : List Int} {i : Nat} {a : Int} (h : vs[i]? = some a) : orZ (vs.drop i) = if a = 0 then orZ (vs.drop (i + 1)) else a := by
 obtain ⟨hlt, rfl⟩ := List.getElem?_eq_some_iff.1 h
 rw [List.drop_eq_getElem_cons hlt]
 rfl
theorem or_any (g : Nat) (vs : List Int) (t : TypeId) (W : World) (h : W.heap[g]? = some (.cells (vs.map (Value.int .i64)).toArray t (0, 0))) (hn : vs.length ≤ 1000) :
  Calls Tryz.prog 86 #[.slice (some ⟨g, 0, none⟩) vs.length vs.length] W fun e w' => e = .returned (.int .i64 (orZ vs)) ∧ w' = W := by
 have hcell : ∀ i a, vs[i]? = some a → W.cell? ⟨g, i, none⟩ = some (.int .i64 a) := fun i a hi => by
  obtain ⟨hlt, rfl⟩ := List.getElem?_eq_some_iff.1 hi
  simp [World.cell?, h, hlt]
 obtain ⟨o, ho⟩ : ∃ o, orZ vs = o := ⟨_, rfl⟩
 rw [ho]
 have hstart : orZ (vs.drop 0) = o := ho
 have HC := Lib.hid hcell
 clear hcell h ho
 go_enter Tryz.func86, Tryz.ntmps86
 go_wp2_with fail
 go_loop [8] (fun i => ∃ n : Nat, n ≤ vs.length ∧ i = .int .i64 n ∧ orZ (vs.drop n) = o) (fun i => vs.length - (intOf i).toNat)
 case atStart => exact ⟨0, by omega, rfl, hstart⟩
 case round =>
  obtain ⟨n, hle, rfl, hr⟩ := hrel
  clear hstart
  by_cases hlt : n < vs.length
  ·
   obtain ⟨a, ha⟩ : ∃ a, vs[n]? = some a := ⟨_, List.getElem?_eq_getElem hlt⟩
   have hd := orZ_drop ha
   rw [hr] at hd
   have hc := HC.out n a ha
   clear hr
   by_cases ha0 : a = 0
   ·
    rw [if_pos ha0] at hd
    rw [ha0] at hc
    have HD := Lib.hid hd
    clear hd ha0 ha
    go_wp2_with fail
    go_round
    case rel => exact ⟨n + 1, by omega, by go_num, HD.out.symm⟩
    case measure => simp [intOf]; omega
   ·
    rw [if_neg ha0] at hd
    have hq : (a != 0) = true := by simp [ha0]
    have HD := Lib.hid hd
    clear hd ha
    go_wp2_with fail
    go_ret
    exact ⟨ret_int HD.out.symm, rfl⟩
  ·
   obtain rfl : n = vs.length := by omega
   rw [List.drop_length] at hr
   have HD := Lib.hid (show 0 = o from hr)
   clear hr
   go_wp2_with fail
   go_ret
   exact ⟨ret_int HD.out, rfl⟩
def ordV (a b : Val) : Int := orZ [Lib.compareInt a.k b.k, Lib.compareInt a.n b.n, Lib.compareBytes a.t.data.toList b.t.data.toList, Lib.compareInt a.x b.x, Lib.compareInt a.y b.y]
set_option maxHeartbeats 4000000 in
theorem order_any (a b : Val) (w : World) : Calls Tryz.prog 46 #[valV a, valV b] w fun e w' => e = .returned (.int .i64 (ordV a b)) ∧ Below w.heap.size w w' := by
 obtain ⟨W1, hW1⟩ : ∃ W1, W1 = (w.alloc (valB a)).alloc (valB b) := ⟨_, rfl⟩
 have hB : Below w.heap.size w W1 := by rw [hW1]; exact ((Below.refl _ w).alloc (Nat.le_refl _) _).alloc (by simp) _
 have hga : W1.heap[w.heap.size]? = some (valB a) := by rw [hW1, heap_alloc_old _ _ (by simp)]; exact heap_alloc_new w _
 have hgb : W1.heap[w.heap.size + 1]? = some (valB b) := by
  have := heap_alloc_new (w.alloc (valB a)) (valB b)
  rw [World.size_alloc] at this
  rw [hW1]; exact this
 obtain ⟨k0, k1, k2, k3, k4⟩ := qam hga
 obtain ⟨l0, l1, l2, l3, l4⟩ := qam hgb
 have HC : ∀ x y W, Calls Tryz.prog 87 #[.int .i64 x, .int .i64 y] W fun e w' => e = .returned (.int .i64 (Lib.compareInt x y)) ∧ w' = W := Tryz.cmp_Compare_int
 have HS : ∀ x y W, Calls Tryz.prog 88 #[.string x, .string y] W fun e w' => e = .returned (.int .i64 (Lib.compareBytes x.data.toList y.data.toList)) ∧ w' = W := Tryz.strings_Compare
 have HB := Lib.hid hB
 have hsz := hB.size
 clear hga hgb hB
 unfold valB at hW1
 unfold valV
 go_enter Tryz.func46, Tryz.ntmps46
 go_wp2_with (first | (rw [← hW1]; clear hW1))
 go_still_tail 29, (by kernel_rfl)
 still_call (HC _ _ _)
 repeat still_step
 still_call (HC _ _ _)
 repeat still_step
 still_call (HS _ _ _)
 repeat still_step
 still_call (HC _ _ _)
 repeat still_step
 still_call (HC _ _ _)
 refine wpStill_nil ?_
 change wpList _ _ _ _ _ W1.drew
 obtain ⟨w2, hW⟩ : ∃ w2, w2 = W1.drew := ⟨_, rfl⟩
 have hB2 : Below w.heap.size w w2 := by rw [hW]; exact HB.out.drew
 rw [← hW]
 have HB2 := Lib.hid hB2
 have hs2 := hB2.size
 clear hW hB2
 obtain ⟨o, ho⟩ : ∃ o, o = ordV a b := ⟨_, rfl⟩
 have HO := Lib.hid (or_any w2.heap.size [Lib.compareInt a.k b.k, Lib.compareInt a.n b.n, Lib.compareBytes a.t.data.toList b.t.data.toList, Lib.compareInt a.x b.x, Lib.compareInt a.y b.y] 3 (w2.alloc (.cells #[.int .i64 (Lib.compareInt a.k b.k), .int .i64 (Lib.compareInt a.n b.n), .int .i64 (Lib.compareBytes a.t.data.toList b.t.data.toList), .int .i64 (Lib.compareInt a.x b.x), .int .i64 (Lib.compareInt a.y b.y)] 3)) (heap_alloc_new _ _) (by simp))
 go_wp2_with fail
 refine HO.out.mono ?_
 rintro e w3 ⟨rfl, rfl⟩
 go_wp2_with fail
 go_ret
 exact ⟨rfl, HB2.out.alloc HB2.out.size _⟩
end Go.Proofs.YtejbpnhondpnfaaGreat
