/- How an id reads at the call's begin; the walk of FragNames as its row wants it. -/
import Derived.Test.YtkldkaahpicnmaaRows
import Derived.Test.YtkldkaahpicnmaaFragK
import Derived.ProofKit
import Derived.OpenShut
import Derived.ShutString
import Derived.WideShapes
namespace Go.Proofs.Ytkldkaahpicnmaa
open Go.ChangeShapes Go.WideShapes Go.Deep Go.RowKit

theorem one_of {cs : List Value} {i : Nat} {v : Value} (h : (cs.drop i).take 1 = [v]) : cs[i]? = some v := by
  have := congrArg (fun l => l[0]?) h
  simpa [List.getElem?_take] using this

theorem four_of {cs : Array Value} {a b c d : Value} (hs : cs.size = 4) (h0 : cs.toList[0]? = some a) (h1 : cs.toList[1]? = some b) (h2 : cs.toList[2]? = some c) (h3 : cs.toList[3]? = some d) : cs = #[a, b, c, d] := by
  obtain ⟨l⟩ := cs
  match l, hs with
  | [x, y, z, t], _ =>
    simp at h0 h1 h2 h3
    subst h0 h1 h2 h3
    rfl

section
variable {H : Type} {enc : TypeId × Value → H} {w : World} {base : Nat} {spare : Nat → Bool} {held : Bool}

theorem open_id {v : Value} {d : DataW H} {p : List MemPlace} (hv : ∃ cs, v = .agg cs ∧ cs.size = Try.prog.cellsOf 23) (h : DataW.Trod enc Try.prog w base spare held 23 v d p) :
    ∃ a b c e : Int, v = .agg #[.int .i64 a, .int .i64 b, .int .i64 c, .int .i64 e] := by
  obtain ⟨fuel, hf⟩ := h
  obtain ⟨cs, rfl, hcs⟩ := hv
  have c23 : Try.prog.cellsOf 23 = 4 := by kernel_rfl
  have c3 : Try.prog.cellsOf 3 = 1 := by kernel_rfl
  rw [c23] at hcs
  obtain ⟨xs, m, _, _, _, hlen, hg⟩ := DataW.trod_struct Try.underlying23 hf
  match xs, hlen with
  | [y0, y1, y2, y3], _ =>
    have g0 : DataW.trod enc Try.prog w base spare held m 3 ((cs.toList.drop 0).take (Try.prog.cellsOf 3)) = some y0 := hg 0 _ rfl
    have g1 : DataW.trod enc Try.prog w base spare held m 3 ((cs.toList.drop 1).take (Try.prog.cellsOf 3)) = some y1 := hg 1 _ rfl
    have g2 : DataW.trod enc Try.prog w base spare held m 3 ((cs.toList.drop 2).take (Try.prog.cellsOf 3)) = some y2 := hg 2 _ rfl
    have g3 : DataW.trod enc Try.prog w base spare held m 3 ((cs.toList.drop 3).take (Try.prog.cellsOf 3)) = some y3 := hg 3 _ rfl
    rw [c3] at g0 g1 g2 g3
    obtain ⟨n0, e0, _⟩ := DataW.trod_int Try.underlying3 g0
    obtain ⟨n1, e1, _⟩ := DataW.trod_int Try.underlying3 g1
    obtain ⟨n2, e2, _⟩ := DataW.trod_int Try.underlying3 g2
    obtain ⟨n3, e3, _⟩ := DataW.trod_int Try.underlying3 g3
    exact ⟨n0, n1, n2, n3, congrArg Value.agg (four_of hcs (one_of e0) (one_of e1) (one_of e2) (one_of e3))⟩
end

theorem names_walk {a b c d a' b' c' d' : Int} {s : ByteArray} {w : World} (_ : s.size ≤ 140737488351232) :
    Calls Try.prog 3 #[.agg #[.int .i64 a, .int .i64 b, .int .i64 c, .int .i64 d], .agg #[.int .i64 a', .int .i64 b', .int .i64 c', .int .i64 d'], .string s] w fun e w' => e = .returned (.bool true) ∧ Below w.heap.size w w' :=
  names_any a b c d a' b' c' d' s w

end Go.Proofs.Ytkldkaahpicnmaa
