/- A disk: New, takes, Read, Room. -/
import Derived.Test.YtclibfiaihhbaaaDiskA
namespace Go.Proofs.Ytclibfiaihhbaaa
open Go.RowKit Go.ChangeMaps

/-- A disk's block p holds its size and a map's block b, which reads as l; all that is held fits. -/
structure DiskAt (w : World) (p b : Nat) (size : Nat) (l : List KV) : Prop where
  at_ : w.heap[p]? = some (.cells #[.int .i64 size, .map (some b)] 53 (0, 0))
  own : MapAt w b l
  ne : p ≠ b
  fits : tot l ≤ size
  small : size ≤ 4194304

theorem DiskAt.chg {S : Nat → Prop} {w w' : World} {p b size : Nat} {l : List KV} (h : DiskAt w p b size l) (hc : Chg S w w') (hp : ¬ S p) (hb : ¬ S b) : DiskAt w' p b size l :=
  ⟨(hc.block p (Array.getElem?_eq_some_iff.1 h.at_).1 hp).trans h.at_, h.own.chg hc hb, h.ne, h.fits, h.small⟩
theorem DiskAt.cell0 {w : World} {p b size : Nat} {l : List KV} (h : DiskAt w p b size l) : w.cell? ⟨p, 0, none⟩ = some (.int .i64 size) := by
  simp [World.cell?, h.at_]
theorem DiskAt.cell1 {w : World} {p b size : Nat} {l : List KV} (h : DiskAt w p b size l) : w.cell? ⟨p, 1, none⟩ = some (.map (some b)) := by
  simp [World.cell?, h.at_]

theorem takes_any (a b : ByteArray) (w : World) (ha : a.size ≤ 140737488351232) (hb : b.size ≤ 140737488351232) :
    Calls Try.prog 20 #[.string a, .string b] w fun e w' => e = .returned (.int .i64 ((a.size + b.size + 16 : Nat) : Int)) ∧ w = w' := by
  have e1 : wrap64 (wrap64 ((a.size : Int) + (b.size : Int)) + 16) = ((a.size + b.size + 16 : Nat) : Int) := by unfold wrap64; omega
  have E := Lib.hid e1
  clear e1
  go_enter Try.func20, Try.ntmps20
  go_wp2
  go_ret
  exact ⟨ret_int (by omega), rfl⟩

theorem new_bad (n : Int) (w : World) (h : n < 0 ∨ 4194304 < n) :
    Calls Try.prog 9 #[.int .i64 n] w fun e w' => e = .returned (.tuple #[.pointer none, .int .i64 1]) ∧ w = w' := by
  go_enter Try.func9, Try.ntmps9
  go_wp2
  all_goals go_ret2
  all_goals exact ⟨rfl, rfl⟩

theorem new_any (n : Nat) (w : World) (h : n ≤ 4194304) :
    Calls Try.prog 9 #[.int .i64 (n : Int)] w fun e w' => ∃ p b, e = .returned (.tuple #[.pointer (some ⟨p, 0, none⟩), .int .i64 0]) ∧ DiskAt w' p b n [] ∧ Below w.heap.size w w' ∧ w.heap.size ≤ p ∧ w.heap.size ≤ b := by
  have h1 : ¬ ((n : Int) < 0) := by omega
  have h2 : ¬ ((4194304 : Int) < (n : Int)) := by omega
  have hmm := @run_makeMap Try.prog
  go_enter Try.func9, Try.ntmps9
  go_wp2
  go_ret2
  have hm : (w.alloc (.map #[] 0)).ownsMap Try.prog 9 (plainElem Try.prog 9) w.heap.size 0 (MD []) := World.ownsMap_made w _ _ _
  have e : w.heap.size + 1 = (w.alloc (.map #[] 0)).heap.size := by simp
  rw [e]
  exact ⟨_, rfl, _, ⟨heap_alloc_new _ _, hm.alloc _, by simp, by simp [tot], h⟩, ((Below.refl _ w).alloc (Nat.le_refl _) _).alloc (by simp) _, by simp, Nat.le_refl _⟩

theorem MapAt.look_run {w : World} {b : Nat} {l : List KV} (h : MapAt w b l) (k : ByteArray) (hk : k.size ≤ maxLen) :
    (Instr.lookup 51 (.map (some b)) (.string k) true).run Try.prog w = .ok (.tuple #[.string ((look l k).getD ByteArray.empty), .bool (look l k).isSome]) w := by
  obtain ⟨v, ps, hr, hv⟩ := World.ownsMap.look_ok h Try.keyed9 Try.underlying51 (z := .string ByteArray.empty) (by kernel_rfl) (zd := .lit (.string [])) (zp := []) (plainElem_string (s := ByteArray.empty) Try.underlying9 (by decide)) (WideMaps.keyOf_string_mk Try.underlying9 hk)
  rw [md_atKey] at hv
  obtain ⟨s, rfl, hz, _⟩ := plainElem_string_inv Try.underlying9 hv
  rw [hr, md_has]
  congr 5
  cases hl : look l k with
  | none =>
    rw [hl] at hz
    simp only [Prod.mk.injEq, DataW.lit.injEq, Lit.string.injEq] at hz
    exact dl_inj (by rw [← hz.1]; rfl)
  | some u =>
    rw [hl] at hz
    simp only [Prod.mk.injEq, DataW.lit.injEq, Lit.string.injEq] at hz
    exact dl_inj hz.1.symm

/-- What Read answers: the code. -/
def readE (l : List KV) (k : ByteArray) : Int := if (look l k).isSome then 0 else 8

theorem read_any (p b size : Nat) (l : List KV) (k : ByteArray) (w : World) (h : DiskAt w p b size l) (hk : k.size ≤ maxLen) :
    Calls Try.prog 11 #[.pointer (some ⟨p, 0, none⟩), .string k] w fun e w' => e = .returned (.tuple #[.string ((look l k).getD ByteArray.empty), .int .i64 (readE l k)]) ∧ w = w' := by
  have c1 := h.cell1
  have hl := h.own.look_run k hk
  unfold readE
  cases hk : look l k with
  | none =>
    rw [hk] at hl
    simp only [Option.getD_none, Option.isSome_none] at hl
    go_enter Try.func11, Try.ntmps11
    go_wp2
    go_ret2
    exact ⟨rfl, rfl⟩
  | some v =>
    rw [hk] at hl
    simp only [Option.getD_some, Option.isSome_some] at hl
    go_enter Try.func11, Try.ntmps11
    go_wp2
    go_ret2
    exact ⟨rfl, rfl⟩


theorem keyOf_string_inv {key : Value} {kl : Lit} (h : keyOf Try.prog 9 key = some kl) : ∃ x, key = Value.string x := by
  obtain ⟨s, rfl, _⟩ := WideMaps.string_of_keyOf Try.underlying9 h
  exact ⟨s, rfl⟩

/-- The range's step, names and bytes. -/
theorem next_ss (w : World) {ops : Array Oper} {rest : List Oper} {o : Oper} {a : Act} {Q : Exit → Act → World → Prop}
    (hg : o.guard = none) (it : Operand) (hop : o.op = Op.next it false) (b r n : Nat) (l : List KV) (left : Lit → Bool) (cnt : Nat) (hit : a.eval it = .pointer (some ⟨r, 0, none⟩)) (h : w.ranges Try.prog 9 (plainElem Try.prog 9) b r n (MD l) left cnt)
    (hDone : cnt = 0 → (∀ kl, left kl = false) → wpList Try.prog ops Q rest (a.put o.dst (.tuple #[.bool false])) w)
    (hMore : ∀ (x c : ByteArray) (w' : World) (cnt' : Nat), left (.string x.data.toList) = true → look l x = some c → w'.ranges Try.prog 9 (plainElem Try.prog 9) b r n (MD l) (fun z => left z && !z.sameKey (.string x.data.toList)) cnt' → cnt' < cnt →
      w.grownBy w' (some r) → w'.heap.size = w.heap.size → (Instr.entry (.pointer (some ⟨r, 0, none⟩))).run Try.prog w' = .ok (.tuple #[.string x, .string c]) w' → wpList Try.prog ops Q rest (a.put o.dst (.tuple #[.bool true, .string x, .string c])) w') :
    wpList Try.prog ops Q (o :: rest) a w :=
  wpList_next_ranges w hg it hop 9 Try.keyed9 (plainElem Try.prog 9) Value.string Value.string (fun key kl hkey => keyOf_string_inv hkey) (fun v y hv => by obtain ⟨c, rfl, _⟩ := plainElem_string_inv Try.underlying9 hv; exact ⟨c, rfl⟩)
    b r n (MD l) left cnt hit h hDone (fun x c kl y w' cnt' hkey hlk hv hat hrg hlt hgr hsz hen => by
      obtain ⟨x', ex, rfl, _⟩ := WideMaps.string_of_keyOf Try.underlying9 hkey
      cases ex
      obtain ⟨c', ec, rfl, _⟩ := plainElem_string_inv Try.underlying9 hv
      cases ec
      refine hMore x c w' cnt' hlk ?_ hrg hlt hgr hsz hen
      have e := hat .nil
      rw [md_atKey] at e
      cases hl : look l x with
      | none => rw [hl] at e; cases e
      | some u =>
        rw [hl] at e
        simp only [DataW.lit.injEq, Lit.string.injEq] at e
        rw [dl_inj e])

theorem grown_below {a b : World} {row : Option Nat} (h : a.grownBy b row) (hr : ∀ k, row = some k → a.heap.size ≤ k) : Below a.heap.size a b :=
  (Chg.grown h).below (Nat.le_refl _) fun i hi => hr i hi.symm

theorem _root_.Go.RowKit.Below.trans_row {w a b : World} (h : Below w.heap.size w a) (hg : a.grownBy b (some w.heap.size)) : Below w.heap.size w b :=
  h.trans ((Chg.grown hg).below h.size fun i hi => by injection hi with hi; omega)

set_option maxHeartbeats 1000000 in
theorem room_any (p b size : Nat) (l : List KV) (w : World) (h : DiskAt w p b size l) :
    Calls Try.prog 13 #[.pointer (some ⟨p, 0, none⟩)] w fun e w' => e = .returned (.int .i64 ((size : Int) - (tot l : Int))) ∧ Below w.heap.size w w' := by
  have c0 := h.cell0
  have c1 := h.cell1
  have own := h.own
  have hap := h.own.apart
  have hfits := h.fits
  have hsmall := h.small
  go_enter Try.func13, Try.ntmps13
  go_wp2_with (first | (at_range; refine wpList_range_own _ rfl _ 51 rfl 9 9 Try.keyed9 Try.underlying51 _ b l.length (MD l) rfl own ?_; intro w0 hrg0 hg0 hs0) | go_in); go_frame
  go_loopw [3] (fun o wr => ∃ left cnt, wr.ranges Try.prog 9 (plainElem Try.prog 9) b w.heap.size l.length (MD l) left cnt ∧ o = .int .i64 ((size : Int) - (tot l : Int) + (totLeft left l : Int)) ∧ Below w.heap.size w wr ∧ totLeft left l ≤ tot l) (fun _ wr => wr.rangeLeft b w.heap.size)
  case atStart => exact ⟨_, _, hrg0, by rw [totLeft_has]; congr 1; omega, grown_below hg0 (by simp), by rw [totLeft_has]; exact Nat.le_refl _⟩
  case round =>
    obtain ⟨left, cnt, hrg, rfl, hb, htl⟩ := hrel
    go_wp2_with (first
      | (at_next; refine next_ss _ rfl _ rfl b w.heap.size l.length l left cnt rfl hrg (fun hc0 hl0 => ?_) (fun x c w1 cnt1 hlx hlk hrg1 hlt hg1 hs1 hen => ?_))
      | (go_at_call 20; refine (takes_any _ _ _ (by have := look_size hlk; omega) (by have := look_size hlk; omega)).mono ?_; rintro e w' ⟨rfl, rfl⟩))
    · go_ret
      rw [totLeft_none hl0]
      exact ⟨ret_int (by omega), hb⟩
    · have hst := totLeft_step hap hlx hlk
      refine ⟨⟨_, cnt1, hrg1, ?_, hb.trans_row hg1, by omega⟩, by rw [hrg1.left_eq, hrg.left_eq]; exact hlt⟩
      congr 1
      unfold wrap64
      omega

end Go.Proofs.Ytclibfiaihhbaaa
