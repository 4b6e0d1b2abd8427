/- The iterator over the texts of a net that is not nil. -/
import Derived.Test.YtkcjhjoodincbaaNetI
namespace Go.Proofs.Ytkcjhjoodincbaa
open Go.RowKit Go.Shelf
attribute [local go_sem] Oper.semAt_some

theorem grown_of_below' {w w' : World} (h : Below w.heap.size w w') : w.grownBy w' none := ⟨h.os, h.tape, h.output, h.size, fun k hk _ => h.block k hk⟩

theorem own_KpR {own : World → Nat → Prop} {w w' : World} {B : Nat} {e : TypeId} {z : Nat} {v : Value} {n : Nat} {xs : List Value} (h : w.ownsRow B e z v n xs) (hk : KpR own w w') (hn : ∀ g, v.ownBlock = some g → ¬ own w g) :
    w'.ownsRow B e z v n xs ∧ ∀ g, v.ownBlock = some g → ¬ own w' g := by
  obtain ⟨h1, h2⟩ := h
  rcases h2 with ⟨rfl, h0⟩ | ⟨g, c, cur, rfl, hB, hg, r⟩
  · exact ⟨⟨h1, .inl ⟨rfl, h0⟩⟩, fun g hg => by simp [Value.ownBlock] at hg⟩
  · obtain ⟨k1, k2⟩ := hk.2 g _ hg rfl (hn g rfl)
    exact ⟨⟨h1, .inr ⟨g, c, cur, rfl, hB, k1, r⟩⟩, fun g' hg' => by simp [Value.ownBlock] at hg'; subst hg'; exact k2⟩

set_option maxRecDepth 100000 in
set_option maxHeartbeats 4000000 in
theorem all1_in (n : Nat) (hn : 1 ≤ n) (lp Bn p : Nat) (v : Value) (l : List ByteArray) (n₀ : Nat) (w : World) (own : World → Nat → Prop) (hO : OwnOk n₀ w own) (J Jx : List ByteArray → World → Prop) (W : World)
    (hJ : AbidesFrom W.heap.size J) (hwW : Below w.heap.size w W) (hBn : W.cell? ⟨Bn, 0, none⟩ = some (.pointer (some ⟨p, 0, none⟩))) (hnet : NetAt W p v l)
    (hY : ∀ pre x W, J pre W → pre.length < l.length → YieldAt Fence.wide (n - 1) Try.prog lp #[.string x] W fun e W' =>
      (e = .returned (.bool true) ∧ J (pre ++ [x]) W' ∧ KpR own W W') ∨ (e = .returned (.bool false) ∧ Jx (pre ++ [x]) W')) (h0 : J [] W) :
    CallsIn Fence.wide n Try.prog 24 #[.func (.yield lp) #[] #[], .pointer (some ⟨Bn, 0, none⟩)] W fun e W' => (∃ v, e = .returned v) ∧
      ((∃ ys, ys = l ∧ J ys W') ∨ (∃ pre, pre <+: l ∧ Jx pre W')) := by
  have hc := one_cell hnet.at_
  have hfew := hnet.few
  have hcl := clone_any v l W (own_strs hnet.own) (by omega)
  have HC := Lib.hid hcl
  have HY := Lib.hid hY
  have HJ := Lib.hid hJ
  clear hcl hY hJ
  refine callsIn_of_wp Try.func24 rfl trivial ?_ rfl
  simp only [Try.ntmps24, List.size_toArray, List.length_cons, List.length_nil, Nat.reduceAdd, Nat.reduceSub, Array.replicate_succ, Array.replicate_zero, List.push_toArray, List.append_toArray, List.nil_append, List.cons_append]
  gi_wp2_with (first
    | (refine ⟨trivial, ?_⟩; gi_at_call 25; refine (callsIn_wide.2 HC.out).mono ?_; rintro e w1 ⟨v1, rfl, hown1, hb1⟩; obtain ⟨a1, c1, rfl, hl1, hm1, _⟩ := own_val hown1))
  have hJ1 : J [] w1 := HJ.out [] W w1 none h0 (grown_of_below' hb1) (fun r e => by cases e)
  have hno : ∀ g, (Value.slice a1 l.length c1).ownBlock = some g → ¬ own w1 g := by
    intro g hg ho
    have h1 := hO.start w1 g (hwW.trans (hb1.mono hwW.size)) ho
    have h2 := own_lt hown1 g hg.symm
    have h3 := hwW.size
    omega
  clear h0
  gi_loopw [13] (fun i wr => ∃ k : Nat, k ≤ l.length ∧ i = .int .i64 k ∧ wr.ownsRow W.heap.size 9 1 (.slice a1 l.length c1) l.length (l.map Value.string) ∧ (∀ g, (Value.slice a1 l.length c1).ownBlock = some g → ¬ own wr g) ∧ J (l.take k) wr) (fun i _ => l.length - (intOf i).toNat)
  case atStart => exact ⟨0, by omega, rfl, hown1, hno, hJ1⟩
  case round =>
    obtain ⟨k, hk, rfl, ho, hno, hJk⟩ := hrel
    have HN := Lib.hid hno
    clear hno
    by_cases hlt : k < l.length
    · obtain ⟨fn, tmps, assign, body, hy, hR⟩ := HY.out (l.take k) l[k] wr hJk (by simp; omega)
      obtain ⟨g, off, rfl, hcell⟩ := strs_cell (own_strs ho) k l[k] (List.getElem?_eq_getElem hlt)
      gi_wp2
      refine hR.mono ?_
      rintro e W3 (⟨rfl, hJ3, hk3⟩ | ⟨rfl, hJx3⟩)
      · have hto := own_KpR ho hk3 HN.out
        rw [← List.take_succ_eq_append_getElem hlt] at hJ3
        gi_wp2
        go_roundw
        case rel => exact ⟨k + 1, by omega, by go_num, hto.1, hto.2, hJ3⟩
        case measure => simp [intOf]; omega
      · gi_wp2
        refine bodyPost_ret (results_none rfl _ _ _) rfl ?_
        rw [← List.take_succ_eq_append_getElem hlt] at hJx3
        exact ⟨⟨_, rfl⟩, .inr ⟨l.take (k + 1), List.take_prefix _ _, hJx3⟩⟩
    · obtain rfl : k = l.length := by omega
      rw [List.take_length] at hJk
      gi_wp2
      go_end0
      exact ⟨⟨_, rfl⟩, .inl ⟨l, rfl, hJk⟩⟩

theorem all_stops (n : Nat) (hn : 1 ≤ n) (Bn p : Nat) (v : Value) (l : List ByteArray) (n₀ : Nat) (own : World → Nat → Prop) (w : World) (hO : OwnOk n₀ w own) (hBn : Bn < w.heap.size)
    (hc : w.cell? ⟨Bn, 0, none⟩ = some (.pointer (some ⟨p, 0, none⟩))) (hnet : NetAt w p v l) :
    SeqStopsK Fence.wide n Try.prog 24 #[.pointer (some ⟨Bn, 0, none⟩)] (fun x : ByteArray => #[Value.string x]) (KpR own) (fun ys => ys = l) (fun pre => pre <+: l) l.length w := fun lp J Jx W hW hJ _ hY h0 =>
  all1_in n hn lp Bn p v l n₀ w own hO J Jx W hJ hW ((hW.cell (p := ⟨Bn, 0, none⟩) hBn).trans hc)
    (hnet.below hW (Array.getElem?_eq_some_iff.1 hnet.at_).1 (fun g hg => (own_lt hnet.own g hg.symm).2)) hY h0

end Go.Proofs.Ytkcjhjoodincbaa
