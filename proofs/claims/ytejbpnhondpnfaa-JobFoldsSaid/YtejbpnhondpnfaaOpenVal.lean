/- A value that came in, taken apart. -/
import Derived.Test.YtejbpnhondpnfaaFoldM
import Derived.OpenShut
import Derived.ChangeArms
import Derived.ProofKit
namespace Go.Proofs.Ytejbpnhondpnfaa
open Go.RowKit Go.ChangeShapes Go.WideShapes Go.ChangeAt

theorem one_at {cs : List Value} {i : Nat} {v : Value} (h : (cs.drop i).take 1 = [v]) : cs[i]? = some v := by
  have := congrArg (fun l => l[0]?) h
  simpa [List.getElem?_take] using this
theorem two_at {cs : List Value} {i o : Nat} {v : Value} (ho : o < 2) (h : (((cs.drop i).take 2).drop o).take 1 = [v]) : cs[i + o]? = some v := by
  have := congrArg (fun l => l[0]?) h
  simpa [List.getElem?_take, ho] using this
theorem five_of {cs : Array Value} {a b c d e : Value} (hs : cs.size = 5) (h0 : cs.toList[0]? = some a) (h1 : cs.toList[1]? = some b) (h2 : cs.toList[2]? = some c) (h3 : cs.toList[3]? = some d) (h4 : cs.toList[4]? = some e) : cs = #[a, b, c, d, e] := by
  obtain ⟨l⟩ := cs
  match l, hs with
  | [x, y, z, t, u], _ =>
    simp at h0 h1 h2 h3 h4
    subst h0 h1 h2 h3 h4
    rfl

section
variable {H : Type} {enc : TypeId × Value → H} {w : World} {base : Nat} {spare : Nat → Bool} {held : Bool}
theorem open_val {v : Value} {d : DataW H} {p : List MemPlace} (hv : ∃ cs, v = .agg cs ∧ cs.size = Try.prog.cellsOf 25) (h : DataW.Trod enc Try.prog w base spare held 25 v d p) :
    ∃ u : Val, v = valV u := by
  obtain ⟨fuel, hf⟩ := h
  obtain ⟨cs, rfl, hcs⟩ := hv
  have c25 : Try.prog.cellsOf 25 = 5 := by kernel_rfl
  have c23 : Try.prog.cellsOf 23 = 2 := by kernel_rfl
  have c3 : Try.prog.cellsOf 3 = 1 := by kernel_rfl
  have c9 : Try.prog.cellsOf 9 = 1 := by kernel_rfl
  rw [c25] at hcs
  obtain ⟨xs, m, _, _, _, hlen, hg⟩ := DataW.trod_struct Try.underlying25 hf
  match xs, hlen with
  | [y0, y1, y2, y3], _ =>
    have g0 : DataW.trod enc Try.prog w base spare held m 3 ((cs.toList.drop 0).take (Try.prog.cellsOf 3)) = some y0 := hg 0 _ rfl
    have g1 : DataW.trod enc Try.prog w base spare held m 3 ((cs.toList.drop 1).take (Try.prog.cellsOf 3)) = some y1 := hg 1 _ rfl
    have g2 : DataW.trod enc Try.prog w base spare held m 9 ((cs.toList.drop 2).take (Try.prog.cellsOf 9)) = some y2 := hg 2 _ rfl
    have g3 : DataW.trod enc Try.prog w base spare held m 23 ((cs.toList.drop 3).take (Try.prog.cellsOf 23)) = some y3 := hg 3 _ rfl
    rw [c3] at g0 g1
    rw [c9] at g2
    rw [c23] at g3
    obtain ⟨n0, e0, _⟩ := DataW.trod_int Try.underlying3 g0
    obtain ⟨n1, e1, _⟩ := DataW.trod_int Try.underlying3 g1
    obtain ⟨s, e2, _⟩ := DataW.trod_string Try.underlying9 g2
    obtain ⟨zs, m2, _, _, _, hlen2, hg2⟩ := DataW.trod_struct Try.underlying23 g3
    match zs, hlen2 with
    | [z0, z1], _ =>
      have k0 : DataW.trod enc Try.prog w base spare held m2 3 ((((cs.toList.drop 3).take 2).drop 0).take (Try.prog.cellsOf 3)) = some z0 := hg2 0 _ rfl
      have k1 : DataW.trod enc Try.prog w base spare held m2 3 ((((cs.toList.drop 3).take 2).drop 1).take (Try.prog.cellsOf 3)) = some z1 := hg2 1 _ rfl
      rw [c3] at k0 k1
      obtain ⟨n3, e3, _⟩ := DataW.trod_int Try.underlying3 k0
      obtain ⟨n4, e4, _⟩ := DataW.trod_int Try.underlying3 k1
      exact ⟨⟨n0, n1, s, n3, n4⟩, congrArg Value.agg (five_of hcs (one_at e0) (one_at e1) (one_at e2) (two_at (i := 3) (o := 0) (by decide) e3) (two_at (i := 3) (o := 1) (by decide) e4))⟩
end

theorem folds_row {k : Int} {w : World} (h : (Lit.int .u8 k).wf = true) (a b c : Val) : Calls Try.prog 3 #[.int .u8 k, valV a, valV b, valV c] w fun e w' => e = .returned (.bool true) ∧ Below w.heap.size w w' := by
  have h0 : 0 ≤ k := by
    simp only [Lit.wf, Bool.and_eq_true, decide_eq_true_eq] at h
    exact h.1
  obtain ⟨n, rfl⟩ : ∃ n : Nat, k = n := ⟨k.toNat, by omega⟩
  exact law_walk n a b c w
end Go.Proofs.Ytejbpnhondpnfaa
