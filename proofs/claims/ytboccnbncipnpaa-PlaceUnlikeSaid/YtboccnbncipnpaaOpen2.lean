/- How arguments that are slices of one-cell elements read at the call's begin: whole numbers, bools. -/
import Derived.Test.YtboccnbncipnpaaOpen
namespace Go.Proofs.Ytboccnbncipnpaa
open Go.ChangeShapes Go.WideShapes Go.Deep Go.RowKit

/-- A slice whose elements can be read. -/
def RowAt {α : Type} (en : α → Value) (w : World) (x : Value) (l : List α) : Prop :=
  ∃ a c, x = .slice a l.length c ∧ l.length ≤ c ∧ c ≤ maxLen ∧ (0 < l.length → ∃ ad, a = some ad ∧ ∀ j p, l[j]? = some p → w.cell? (ad.add j) = some (en p))

section
variable {H : Type} {enc : TypeId × Value → H} {P : Program} {w : World} {base : Nat} {spare : Nat → Bool} {held : Bool} {α : Type} [Inhabited α]

theorem open_rowAt (en : α → Value) {t e : TypeId} {a : Option Addr} {len cap : Nat} {d : DataW H} {p : List MemPlace} (ht : P.underlying t = some (.slice e)) (hc : P.cellsOf e = 1)
    (hd : ∀ n cs x, DataW.trod enc P w base spare held n e cs = some x → ∃ b, cs = [en b])
    (h : DataW.Trod enc P w base spare held t (.slice a len cap) d p) : ∃ l, RowAt en w (.slice a len cap) l := by
  obtain ⟨fuel, hf⟩ := h
  rcases open_slice1 ht hc hf with ⟨hcs, _⟩ | ⟨x, len', cap', m, n, V, D, Pl, hcs, _, hl, hm, hz, _, hx⟩
  · simp [Value.cells] at hcs
    obtain ⟨rfl, rfl, rfl⟩ := hcs
    exact ⟨[], none, 0, rfl, by simp, by decide, fun h => by simp at h⟩
  · simp [Value.cells] at hcs
    obtain ⟨rfl, rfl, rfl⟩ := hcs
    have hlm : len ≤ m := by rw [hz]; split <;> omega
    obtain ⟨B, hB⟩ : ∃ B : Nat → α, ∀ i, i < m → V i = en (B i) := by
      refine ⟨fun i => if h : i < m then Classical.choose (hd n _ _ (hx i h).2) else default, fun i hi => ?_⟩
      have := Classical.choose_spec (hd n _ _ (hx i hi).2)
      simp only [hi, dif_pos]
      simpa using this
    refine ⟨(List.range len).map B, some x, cap, by simp, by simpa using hl, hm, fun _ => ⟨x, rfl, fun j q hj => ?_⟩⟩
    obtain ⟨hlt, rfl⟩ := List.getElem?_eq_some_iff.1 hj
    have hlt' : j < len := by simpa using hlt
    rw [(hx j (by omega)).1, hB j (by omega)]
    simp

theorem open_ints_at {t e : TypeId} {k : IntKind} {a : Option Addr} {len cap : Nat} {d : DataW H} {p : List MemPlace} (ht : P.underlying t = some (.slice e)) (he : P.underlying e = some (.int k)) (hc : P.cellsOf e = 1)
    (h : DataW.Trod enc P w base spare held t (.slice a len cap) d p) : ∃ l, RowAt (Value.int k) w (.slice a len cap) l :=
  open_rowAt (Value.int k) ht hc (fun _ _ _ h => by obtain ⟨b, h1, _⟩ := DataW.trod_int he h; exact ⟨b, h1⟩) h
theorem open_bools_at {t e : TypeId} {a : Option Addr} {len cap : Nat} {d : DataW H} {p : List MemPlace} (ht : P.underlying t = some (.slice e)) (he : P.underlying e = some .bool) (hc : P.cellsOf e = 1)
    (h : DataW.Trod enc P w base spare held t (.slice a len cap) d p) : ∃ l, RowAt Value.bool w (.slice a len cap) l :=
  open_rowAt Value.bool ht hc (fun _ _ _ h => by obtain ⟨b, h1, _⟩ := DataW.trod_bool he h; exact ⟨b, h1⟩) h
end
end Go.Proofs.Ytboccnbncipnpaa
