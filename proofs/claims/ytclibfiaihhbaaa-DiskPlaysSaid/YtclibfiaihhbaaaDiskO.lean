/- How the laws' calls (a slice of structs) read at the call's begin. -/
import Derived.Test.YtclibfiaihhbaaaOpen
import Derived.Test.YtclibfiaihhbaaaDiskE
namespace Go.Proofs.Ytclibfiaihhbaaa
open Go.ChangeShapes Go.WideShapes Go.Deep Go.RowKit

section
variable {H : Type} {enc : TypeId × Value → H} {w : World} {base : Nat} {spare : Nat → Bool} {held : Bool}

theorem Try.cells33 : Try.prog.cellsOf 33 = 5 := by kernel_rfl

theorem one_of {cs : List Value} {i : Nat} {v : Value} (h : (cs.drop i).take 1 = [v]) : cs[i]? = some v := by
  have := congrArg (fun l => l[0]?) h
  simpa [List.getElem?_take] using this

theorem open_act {n : Nat} {cs : List Value} {x : DataW H × List MemPlace} (h : DataW.trod enc Try.prog w base spare held n 33 cs = some x) :
    ∃ u : ActV, cs[0]? = some (.int .u8 u.d) ∧ cs[1]? = some (.string u.k) ∧ cs[2]? = some (.string u.s) ∧ cs[3]? = some (.int .i64 u.at_) ∧ cs[4]? = some (.int .u8 u.by_) ∧
      0 ≤ u.d ∧ u.d ≤ 255 ∧ 0 ≤ u.by_ ∧ u.by_ ≤ 255 ∧ u.s.size ≤ maxLen ∧ u.k.size ≤ maxLen := by
  obtain ⟨xs, m, _, _, _, hlen, hf⟩ := DataW.trod_struct Try.underlying33 h
  have c5 : Try.prog.cellsOf 5 = 1 := by kernel_rfl
  have c9 : Try.prog.cellsOf 9 = 1 := by kernel_rfl
  have c3 : Try.prog.cellsOf 3 = 1 := by kernel_rfl
  match xs, hlen with
  | [y0, y1, y2, y3, y4], _ =>
    have g0 : DataW.trod enc Try.prog w base spare held m 5 ((cs.drop 0).take (Try.prog.cellsOf 5)) = some y0 := hf 0 _ rfl
    have g1 : DataW.trod enc Try.prog w base spare held m 9 ((cs.drop 1).take (Try.prog.cellsOf 9)) = some y1 := hf 1 _ rfl
    have g2 : DataW.trod enc Try.prog w base spare held m 9 ((cs.drop 2).take (Try.prog.cellsOf 9)) = some y2 := hf 2 _ rfl
    have g3 : DataW.trod enc Try.prog w base spare held m 3 ((cs.drop 3).take (Try.prog.cellsOf 3)) = some y3 := hf 3 _ rfl
    have g4 : DataW.trod enc Try.prog w base spare held m 5 ((cs.drop 4).take (Try.prog.cellsOf 5)) = some y4 := hf 4 _ rfl
    rw [c5] at g0 g4
    rw [c9] at g1 g2
    rw [c3] at g3
    obtain ⟨n0, e0, _, b0⟩ := DataW.trod_int Try.underlying5 g0
    obtain ⟨n1, e1, _, b1⟩ := DataW.trod_string Try.underlying9 g1
    obtain ⟨n2, e2, _, b2⟩ := DataW.trod_string Try.underlying9 g2
    obtain ⟨n3, e3, _, b3⟩ := DataW.trod_int Try.underlying3 g3
    obtain ⟨n4, e4, _, b4⟩ := DataW.trod_int Try.underlying5 g4
    obtain ⟨p0, q0⟩ := bounds_u8 b0
    obtain ⟨p4, q4⟩ := bounds_u8 b4
    exact ⟨⟨n0, n1, n2, n3, n4⟩, one_of e0, one_of e1, one_of e2, one_of e3, one_of e4, p0, q0, p4, q4, b2, b1⟩

theorem open_actsAt {a : Option Addr} {len cap : Nat} {d : DataW H} {p : List MemPlace} (h : DataW.Trod enc Try.prog w base spare held 22 (.slice a len cap) d p) : ∃ l, ActsAt w (.slice a len cap) l := by
  obtain ⟨fuel, hf⟩ := h
  rcases open_slice Try.underlying22 hf with ⟨hcs, _⟩ | ⟨x, len', cap', m, n, D, Pl, hcs, _, hl, hm, hmm, _, hel⟩
  · simp [Value.cells] at hcs
    obtain ⟨rfl, rfl, rfl⟩ := hcs
    exact ⟨[], none, 0, rfl, by simp, by decide, fun j s hs => by simp at hs⟩
  · simp [Value.cells] at hcs
    obtain ⟨rfl, rfl, rfl⟩ := hcs
    rw [Try.cells33] at hel
    have hlen : len ≤ m := by rw [hmm]; split <;> omega
    have each : ∀ i, i < len → ∃ u, ∃ b off, x = ⟨b, off, none⟩ ∧ ActCells w b (off + i * 5) u := by
      intro i hi
      obtain ⟨cs', hc, ht⟩ := hel i (by omega)
      obtain ⟨_, hcl, hat⟩ := World.cells?_some hc
      obtain ⟨u, u0, u1, u2, u3, u4, r⟩ := open_act ht
      have k0 := (hat 0 (by omega)).trans u0
      obtain ⟨b, off, spot⟩ := x
      have hspot : spot = none := by
        obtain ⟨cs0, hc0, ht0⟩ := hel 0 (by omega)
        obtain ⟨_, _, hat0⟩ := World.cells?_some hc0
        obtain ⟨u', u0', _⟩ := open_act ht0
        have := (hat0 0 (by omega)).trans u0'
        simpa [Addr.add] using World.cell?_spot this
      subst hspot
      refine ⟨u, b, off, rfl, ?_⟩
      have adds : ∀ j, ((⟨b, off, none⟩ : Addr).add (i * 5)).add j = ⟨b, off + i * 5 + j, none⟩ := fun j => by rw [Addr.add_lit, Addr.add_lit]
      rw [adds] at k0
      exact ⟨k0, by have := (hat 1 (by omega)).trans u1; rwa [adds] at this, by have := (hat 2 (by omega)).trans u2; rwa [adds] at this, by have := (hat 3 (by omega)).trans u3; rwa [adds] at this,
        by have := (hat 4 (by omega)).trans u4; rwa [adds] at this, r⟩
    obtain ⟨f, hfu⟩ : ∃ f : Nat → ActV, ∀ i, i < len → ∃ b off, x = ⟨b, off, none⟩ ∧ ActCells w b (off + i * 5) (f i) :=
      ⟨fun i => if hi : i < len then Classical.choose (each i hi) else ⟨0, ByteArray.empty, ByteArray.empty, 0, 0⟩, fun i hi => by
        have := Classical.choose_spec (each i hi)
        simpa [hi] using this⟩
    refine ⟨(List.range len).map f, some x, cap, by simp, by simpa using hl, hm, fun j u hu => ?_⟩
    have hj : j < len := by have := (List.getElem?_eq_some_iff.1 hu).1; simpa using this
    rw [List.getElem?_map, List.getElem?_range hj] at hu
    simp at hu
    subst hu
    obtain ⟨b, off, e, hc⟩ := hfu j hj
    exact ⟨b, off, by rw [e], hc⟩
end

end Go.Proofs.Ytclibfiaihhbaaa
