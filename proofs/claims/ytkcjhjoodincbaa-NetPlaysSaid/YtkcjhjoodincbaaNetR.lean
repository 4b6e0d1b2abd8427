/- Marks of loops over a function that are behind: what a function that returns leaves behind. -/
import Derived.Test.YtkcjhjoodincbaaNetQ
namespace Go.Proofs.Ytkcjhjoodincbaa
open Go.RowKit

def mark (D : Nat) : Deferred := { target := .collected D, args := #[] }

structure Marks (B : Nat) (W : World) (Ds : List Nat) : Prop where
  nodup : Ds.Nodup
  at_ : ∀ D, D ∈ Ds → B ≤ D ∧ W.heap[D]? = some (.deferred (some []))

theorem Marks.lt {B : Nat} {W : World} {Ds : List Nat} (h : Marks B W Ds) (D : Nat) (hD : D ∈ Ds) : D < W.heap.size := (Array.getElem?_eq_some_iff.1 (h.at_ D hD).2).1
theorem Marks.cons {B : Nat} {W : World} {Ds : List Nat} (h : Marks B W Ds) {n D : Nat} (hn : ∀ E, E ∈ Ds → E < n) (hB : B ≤ n) (hD : n ≤ D) (hK : W.heap[D]? = some (.deferred (some []))) : Marks B W (D :: Ds) :=
  ⟨List.nodup_cons.2 ⟨fun hm => by have := hn D hm; omega, h.nodup⟩, fun E hE => by
    rcases List.mem_cons.1 hE with rfl | hE
    · exact ⟨by omega, hK⟩
    · exact h.at_ E hE⟩
theorem Marks.keeps {B : Nat} {W W' : World} {Ds : List Nat} (h : Marks B W Ds) (hk : KeepsOthers W W') : Marks B W' Ds :=
  ⟨h.nodup, fun D hD => ⟨(h.at_ D hD).1, hk.same D _ (h.at_ D hD).2 rfl⟩⟩
theorem Marks.below {B : Nat} {W W' : World} {Ds : List Nat} (h : Marks B W Ds) (hk : Below W.heap.size W W') : Marks B W' Ds :=
  ⟨h.nodup, fun D hD => ⟨(h.at_ D hD).1, (hk.block D (h.lt D hD)).trans (h.at_ D hD).2⟩⟩
theorem Marks.same {B : Nat} {W W' : World} {Ds : List Nat} (h : Marks B W Ds) (hk : ∀ (D : Nat) (o : Obj), W.heap[D]? = some o → o.isCells = false → W'.heap[D]? = some o) : Marks B W' Ds :=
  ⟨h.nodup, fun D hD => ⟨(h.at_ D hD).1, hk D _ (h.at_ D hD).2 rfl⟩⟩

theorem leaves_marks {F : Fence} {n : Nat} {P : Program} {fn : Func} {tmps : Array Value} {R : Ending → World → Prop} {B : Nat} : ∀ (Ds : List Nat) (W : World), Marks B W Ds →
    (∀ W', Below B W W' → LeavesInM F n P fn tmps R [] .returning W') → LeavesInM F n P fn tmps R (Ds.map mark) .returning W
  | [], W, _, h => h W (Below.refl _ _)
  | D :: Ds, W, hm, h => by
    have hK := (hm.at_ D (by simp)).2
    have hB := (hm.at_ D (by simp)).1
    have hl := hm.lt D (by simp)
    have hput : Below B W (W.putObj D (.deferred none)) := (Below.refl B W).grown (grownBy_putObj' W D _) (by omega) (fun k e => by cases e; omega)
    refine ⟨by simp, .inl ⟨D, _, rfl, run_takeDeferred hK, leaves_marks Ds _ ⟨(List.nodup_cons.1 hm.nodup).2, fun E hE => ?_⟩ (fun W' hW' => h W' (hput.trans hW'))⟩⟩
    have hne : E ≠ D := fun e => (List.nodup_cons.1 hm.nodup).1 (e ▸ hE)
    exact ⟨(hm.at_ E (by simp [hE])).1, (World.putObj_heap_other (by omega)).trans (hm.at_ E (by simp [hE])).2⟩

theorem own_ne_obj {W : World} {B b : Nat} {v : Value} {n : Nat} {xs : List Value} {o : Obj} (h : W.ownsRow B 9 1 v n xs) (hb : W.heap[b]? = some o) (ho : ∀ c z, o ≠ .cells c 9 z) : v.ownBlock ≠ some b := by
  intro e
  rcases h.2 with ⟨rfl, _⟩ | ⟨g, c, cur, rfl, _, hg, _⟩
  · simp [Value.ownBlock] at e
  · simp [Value.ownBlock] at e
    subst e
    rw [hg] at hb
    injection hb with hb
    exact ho _ _ hb.symm

theorem cells_ne {c : Array Value} {t : Nat} {z : Nat × Nat} (ht : t ≠ 9) : ∀ c' z', Obj.cells c t z ≠ .cells c' 9 z' := by
  intro c' z' e
  injection e with _ h2 _
  exact ht h2

/-- What holds between two rounds: the net has mn, the law's own list is mm; Ex are other blocks that stay. -/
structure St (w : World) (R p M : Nat) (Ds : List Nat) (Ex : List (Nat × Obj)) (W : World) (v : Value) (mn : List ByteArray) (vm : Value) (mm : List ByteArray) : Prop where
  rp : R < p
  pm : p < M
  wr : w.heap.size ≤ R
  net : NetAt W p v mn
  box : W.heap[M]? = some (.cells #[vm] 27 (0, 0))
  row : W.ownsRow (M + 1) 9 1 vm mm.length (mm.map Value.string)
  res : W.heap[R]? = some (.cells #[.bool false] 4 (0, 0))
  apart : ∀ g, vm.ownBlock = some g → v.ownBlock ≠ some g
  bel : Below w.heap.size w W
  marks : Marks (R + 1) W Ds
  ex : ∀ b o, (b, o) ∈ Ex → W.heap[b]? = some o ∧ b ≠ p ∧ b ≠ M ∧ ∀ c z, o ≠ .cells c 9 z

section
variable {w : World} {R p M : Nat} {Ds : List Nat} {Ex : List (Nat × Obj)} {W : World} {v : Value} {mn : List ByteArray} {vm : Value} {mm : List ByteArray}

theorem St.ml (h : St w R p M Ds Ex W v mn vm mm) : M < W.heap.size := (Array.getElem?_eq_some_iff.1 h.box).1

theorem St.add (h : St w R p M Ds Ex W v mn vm mm) (b : Nat) (o : Obj) (hb : W.heap[b]? = some o) (hp : b ≠ p) (hM : b ≠ M) (ho : ∀ c z, o ≠ .cells c 9 z) : St w R p M Ds ((b, o) :: Ex) W v mn vm mm :=
  ⟨h.rp, h.pm, h.wr, h.net, h.box, h.row, h.res, h.apart, h.bel, h.marks, fun b' o' hm => by
    rcases List.mem_cons.1 hm with e | hm
    · injection e with e1 e2
      subst e1 e2
      exact ⟨hb, hp, hM, ho⟩
    · exact h.ex b' o' hm⟩

theorem St.less (h : St w R p M Ds Ex W v mn vm mm) : St w R p M Ds [] W v mn vm mm :=
  ⟨h.rp, h.pm, h.wr, h.net, h.box, h.row, h.res, h.apart, h.bel, h.marks, fun _ _ hm => by cases hm⟩

theorem St.step (h : St w R p M Ds Ex W v mn vm mm) {W' : World} {v' : Value} {mn' : List ByteArray} (hs : NetStep p v W W' v' mn') : St w R p M Ds Ex W' v' mn' vm mm := by
  have hrp := h.rp
  have hpm := h.pm
  have hwr := h.wr
  have hml := h.ml
  have e1 := own_ne_obj h.net.own h.box (cells_ne (by decide))
  have e2 := own_ne_obj h.net.own h.res (cells_ne (by decide))
  refine ⟨h.rp, h.pm, h.wr, hs.at_, ?_, ?_, ?_, ?_, ?_, ?_, ?_⟩
  · refine (hs.chg.block M hml ?_).trans h.box
    rintro (q | q)
    · omega
    · exact e1 q.symm
  · refine own_kept h.row hs.chg (fun g hg hS => ?_)
    have := own_lt h.row g hg.symm
    rcases hS with q | q
    · omega
    · exact h.apart g hg q.symm
  · refine (hs.chg.block R (by omega) ?_).trans h.res
    rintro (q | q)
    · omega
    · exact e2 q.symm
  · intro g hg hv
    have := own_lt h.row g hg.symm
    rcases hs.new g hv with q | q
    · exact h.apart g hg q
    · omega
  · exact h.bel.trans (hs.below h.net (by omega))
  · exact h.marks.same (fun D o hK ho => step_deferred hs h.net hK ho)
  · intro b o hm
    obtain ⟨q1, q2, q3, q4⟩ := h.ex b o hm
    refine ⟨(hs.chg.block b (Array.getElem?_eq_some_iff.1 q1).1 ?_).trans q1, q2, q3, q4⟩
    rintro (q | q)
    · omega
    · exact own_ne_obj h.net.own q1 q4 q.symm

theorem St.below (h : St w R p M Ds Ex W v mn vm mm) {W' : World} (hb : Below W.heap.size W W') : St w R p M Ds Ex W' v mn vm mm := by
  have hrp := h.rp
  have hpm := h.pm
  have hwr := h.wr
  have hml := h.ml
  refine ⟨h.rp, h.pm, h.wr, h.net.below hb (by omega) (fun g hg => (own_lt h.net.own g hg.symm).2), (hb.block M hml).trans h.box, ?_, (hb.block R (by omega)).trans h.res, h.apart, h.bel.trans (hb.mono (by omega)), h.marks.below hb, ?_⟩
  · refine own_kept h.row (S := fun _ => False) ⟨hb.os, hb.tape, hb.output, hb.size, fun k hk _ => hb.block k hk⟩ (fun _ _ q => q)
  · intro b o hm
    obtain ⟨q1, q2, q3, q4⟩ := h.ex b o hm
    exact ⟨(hb.block b (Array.getElem?_eq_some_iff.1 q1).1).trans q1, q2, q3, q4⟩

theorem St.put (h : St w R p M Ds Ex W v mn vm mm) {W1 : World} (hch : Chg (fun k => some k = vm.ownBlock) W W1) {v' : Value} {mm' : List ByteArray}
    (ho : W1.ownsRow (M + 1) 9 1 v' mm'.length (mm'.map Value.string)) (hnew : v'.ownBlock = vm.ownBlock ∨ ∀ g, v'.ownBlock = some g → W.heap.size ≤ g) :
    St w R p M Ds Ex (W1.setCell ⟨M, 0, none⟩ v') v mn v' mm' := by
  have hrp := h.rp
  have hpm := h.pm
  have hwr := h.wr
  have hml := h.ml
  have hv : ∀ k, some k = vm.ownBlock → M + 1 ≤ k := fun k hk => (own_lt h.row k hk).1
  have hb1 : Below (M + 1) W W1 := hch.below (by omega) hv
  have hall : Chg (fun k => k = M ∨ some k = vm.ownBlock) W (W1.setCell ⟨M, 0, none⟩ v') := (hch.mono (fun _ q => .inr q)).setCell (.inl (.inl rfl)) _
  have hbox : W1.heap[M]? = some (.cells #[vm] 27 (0, 0)) := (hb1.block M (by omega)).trans h.box
  have en := own_ne_obj h.net.own h.box (cells_ne (by decide))
  have hpl := (Array.getElem?_eq_some_iff.1 h.net.at_).1
  refine ⟨h.rp, h.pm, h.wr, ⟨?_, ?_, h.net.few⟩, one_set hbox v', own_set ho v', ?_, ?_, ?_, ?_, ?_⟩
  · refine (hall.block p hpl ?_).trans h.net.at_
    rintro (q | q)
    · omega
    · have := hv p q; omega
  · refine own_kept h.net.own hall (fun g hg hS => ?_)
    rcases hS with q | q
    · exact en (q ▸ hg)
    · exact h.apart g q.symm hg
  · refine (hall.block R (by omega) ?_).trans h.res
    rintro (q | q)
    · omega
    · have := hv R q; omega
  · intro g hg hvg
    rcases hnew with q | q
    · exact h.apart g (q ▸ hg) hvg
    · have := q g hg
      have := own_lt h.net.own g hvg.symm
      omega
  · refine h.bel.trans (hall.below (by have := h.bel.size; omega) ?_)
    rintro k (q | q)
    · omega
    · have := hv k q; omega
  · refine h.marks.same (fun D o hK ho' => (hall.block D (Array.getElem?_eq_some_iff.1 hK).1 ?_).trans hK)
    rintro (q | q)
    · subst q
      rw [h.box] at hK
      injection hK with hK
      subst hK
      cases ho'
    · exact own_ne_obj h.row hK (by rintro c z rfl; cases ho') q.symm
  · intro b o hm
    obtain ⟨q1, q2, q3, q4⟩ := h.ex b o hm
    refine ⟨(hall.block b (Array.getElem?_eq_some_iff.1 q1).1 ?_).trans q1, q2, q3, q4⟩
    rintro (q | q)
    · exact q3 q
    · exact own_ne_obj h.row q1 q4 q.symm

theorem St.new (h : St w R p M Ds Ex W v mn vm mm) {W1 : World} (hb : Below W.heap.size W W1) {v' : Value} {mm' : List ByteArray}
    (ho : W1.ownsRow W.heap.size 9 1 v' mm'.length (mm'.map Value.string)) : St w R p M Ds Ex (W1.setCell ⟨M, 0, none⟩ v') v mn v' mm' :=
  h.put (W1 := W1) ⟨hb.os, hb.tape, hb.output, hb.size, fun k hk _ => hb.block k hk⟩ (own_base ho (by have := h.ml; omega)) (.inr fun g hg => (own_lt ho g hg.symm).1)

theorem St.drew (h : St w R p M Ds Ex W v mn vm mm) (n : Nat) : St w R p M Ds Ex (W.drewN n) v mn vm mm :=
  h.below ⟨rfl, rfl, rfl, Nat.le_refl _, fun _ _ => rfl⟩
theorem St.drew1 (h : St w R p M Ds Ex W v mn vm mm) : St w R p M Ds Ex W.drew v mn vm mm :=
  h.below ⟨rfl, rfl, rfl, Nat.le_refl _, fun _ _ => rfl⟩
end

/-- The variable x of a round. -/
def xobj (a : ActV) : Obj := .cells #[.int .u8 a.d, .string a.s, .int .i64 a.at_, .int .i64 a.to_, .int .u8 a.by_] 42 (0, 0)

theorem xcells {W : World} {b : Nat} {a : ActV} (h : W.heap[b]? = some (xobj a)) :
    W.cell? ⟨b, 0, none⟩ = some (.int .u8 a.d) ∧ W.cell? ⟨b, 1, none⟩ = some (.string a.s) ∧ W.cell? ⟨b, 2, none⟩ = some (.int .i64 a.at_) ∧ W.cell? ⟨b, 3, none⟩ = some (.int .i64 a.to_) ∧ W.cell? ⟨b, 4, none⟩ = some (.int .u8 a.by_) := by
  simp [World.cell?, h, xobj]

/-- true for a short list of short texts alone. -/
def FewPost2 (l : List ActV) (w : World) (e : Ending) (w' : World) : Prop := ∃ q : Bool, e = .returned (.bool q) ∧ (q = true → l.length ≤ 100 ∧ ∀ (j : Nat) u, l[j]? = some u → u.s.size ≤ 10000) ∧ w = w'

set_option maxHeartbeats 1000000 in
theorem few_any2 (x : Value) (l : List ActV) (w : World) (h : ActsAt w x l) :
    Calls Try.prog 16 #[x] w (FewPost2 l w) := by
  obtain ⟨a, c, rfl, h1, h2⟩ := h.val
  unfold maxLen at h2
  go_enter Try.func16, Try.ntmps16
  go_wp2
  go_loop [3, 4] (fun n i => ∃ (k : Nat) (m : Int), k ≤ l.length ∧ k ≤ 101 ∧ i = .int .i64 k ∧ n = .int .i64 m ∧ 0 ≤ m ∧ m ≤ k * 100000 ∧ Hid (∀ (j : Nat) u, j < k → l[j]? = some u → min (u.s.size : Int) 100000 ≤ m)) (fun _ i => 102 - (intOf i).toNat)
  case atStart => exact ⟨0, 0, by omega, by omega, rfl, rfl, by omega, by omega, Lib.hid (fun j u hj => by omega)⟩
  case round =>
    obtain ⟨k, m, hk, hk2, rfl, rfl, hm1, hm2, HM⟩ := hrel
    by_cases hlt : k < l.length
    · obtain ⟨b, off, rfl, _, hc1, _⟩ := acts_cell h k l[k] (List.getElem?_eq_getElem hlt)
      obtain ⟨z, hz⟩ : ∃ z : Nat, l[k].s.size = z := ⟨_, rfl⟩
      go_wp2
      · go_round
        case rel => exact ⟨k + 1, m + min (l[k].s.size : Int) 100000, by omega, by omega, by go_num, by go_num, by omega, by omega, Lib.hid (fun j u hj hu => by
          by_cases e : j = k
          · subst e
            rw [List.getElem?_eq_getElem hlt] at hu
            injection hu with hu
            subst hu
            omega
          · have := HM.out j u (by omega) hu
            omega)⟩
        case measure => simp [intOf]; omega
      · go_ret
        exact ⟨_, rfl, (fun hq => by cases hq), rfl⟩
    · obtain rfl : k = l.length := by omega
      go_wp2
      · go_ret
        refine ⟨_, rfl, fun hq => ⟨by omega, fun j u hu => ?_⟩, rfl⟩
        have := HM.out j u (List.getElem?_eq_some_iff.1 hu).1 hu
        simp at hq
        omega
      · go_ret
        exact ⟨_, rfl, (fun hq => by cases hq), rfl⟩

theorem with_own (B : Nat) (v : Value) (l : List ByteArray) (i : Nat) (s : ByteArray) (w : World) (h : w.ownsRow B 9 1 v l.length (l.map Value.string)) (hl : l.length ≤ 100000) (hi : i ≤ l.length) :
    Calls Try.prog 22 #[v, .int .i64 i, .string s] w (NewStrs (l.take i ++ s :: l.drop i) w) := by
  rcases h.2 with ⟨rfl, h0⟩ | ⟨g, c, cur, rfl, _⟩
  · obtain rfl : l = [] := List.length_eq_zero_iff.1 h0
    obtain rfl : i = 0 := by simpa using hi
    exact with_nil s w
  · exact with_some g 0 c l i s w (own_strs h) hl hi

theorem rest_nat (n : Int) (k : Nat) (h : 0 < k) : ∃ i : Nat, (i : Int) = n % (k : Int) ∧ i < k := by
  have h1 := Int.emod_nonneg n (show (k : Int) ≠ 0 by omega)
  have h2 := Int.emod_lt_of_pos n (show (0 : Int) < (k : Int) by omega)
  exact ⟨(n % (k : Int)).toNat, by omega, by omega⟩

theorem but_is (l : List ByteArray) (i : Nat) : butAt l (i : Int) = l.take i ++ l.drop (i + 1) := by
  rw [butAt_nat, List.eraseIdx_eq_take_drop_succ]

theorem without_nat (x : Value) (l : List ByteArray) (i : Nat) (w : World) (h : StrsAt w x l) (hl : l.length ≤ 100000) :
    Calls Try.prog 18 #[x, .int .i64 i] w (NewStrs (l.take i ++ l.drop (i + 1)) w) := by
  have := without_any x l (i : Int) w h hl
  rwa [but_is] at this

end Go.Proofs.Ytkcjhjoodincbaa
