/- The statement DiskCopies, walked. -/
import Derived.Test.YtclibfiaihhbaaaDiskH
namespace Go.Proofs.Ytclibfiaihhbaaa
open Go.RowKit Go.ChangeMaps Go.MapKept

/-- What is held behind so many calls. -/
def runS (size : Nat) (L : List KV) (acts : List ActV) : List KV := acts.foldl (doneS size) L
theorem runS_next (size : Nat) (L : List KV) {l : List ActV} {k : Nat} {u : ActV} (hu : l[k]? = some u) : runS size L (l.take (k + 1)) = doneS size (runS size L (l.take k)) u := by
  unfold runS
  rw [List.take_add_one, hu]
  simp
theorem runS_all (size : Nat) (L : List KV) (l : List ActV) : runS size L (l.take l.length) = runS size L l := by rw [List.take_length]

theorem len_put (k v : ByteArray) (L : List KV) : (putKV k v L).length ≤ L.length + 1 := by
  unfold putKV
  rw [len_ins]
  have := len_del_le k L
  omega
theorem len_done (size : Nat) (L : List KV) (u : ActV) : (doneS size L u).length ≤ L.length + 1 := by
  unfold doneS
  split
  · omega
  · split
    · have := len_del_le u.k L; omega
    · split
      · unfold spoilS
        split
        · split
          · omega
          · exact len_put _ _ _
        · omega
      · split
        · simp
        · unfold writeS
          split
          · omega
          · split
            · omega
            · exact len_put _ _ _
theorem len_run (size : Nat) : ∀ (acts : List ActV) (L : List KV), (runS size L acts).length ≤ L.length + acts.length
  | [], L => by simp [runS]
  | u :: r, L => by
    have h1 := len_run size r (doneS size L u)
    have h2 := len_done size L u
    show (runS size (doneS size L u) r).length ≤ _
    simp only [List.length_cons]
    omega

/-- A call's cells, in every world that is as the first one was. -/
theorem acts_keep {x : Value} {l : List ActV} {w : World} (h : ActsAt w x l) {k : Nat} {u : ActV} (hu : l[k]? = some u) : ∃ b off, (∃ n c, x = .slice (some ⟨b, off, none⟩) n c) ∧ ∀ W, Below w.heap.size w W → ActCells W b (off + k * 5) u := by
  obtain ⟨a, c, rfl, _⟩ := h.val
  obtain ⟨b, off, rfl, hc⟩ := acts_cell h k u hu
  refine ⟨b, off, ⟨_, _, rfl⟩, fun W hb => ?_⟩
  obtain ⟨b', off', e, hc'⟩ := acts_cell (h.below hb (Nat.le_refl _)) k u hu
  injection e with e; injection e with e1 e2
  subst e1 e2
  exact hc'

/-- All the calls of a list are of numbers and sizes that are looked at. -/
def AllOk (l : List ActV) : Prop := l.length ≤ 100 ∧ ∀ a ∈ l, a.s.size ≤ 20000 ∧ a.k.size ≤ 20000

theorem ok_of {l : List ActV} (h : AllOk l) {k : Nat} {u : ActV} (hu : l[k]? = some u) {W : World} {b o : Nat} (hc : ActCells W b o u) : ActOk u := by
  obtain ⟨_, _, _, _, _, r0, r1, r2, r3, _⟩ := hc
  have := h.2 u (List.mem_of_getElem? hu)
  exact ⟨r0, r1, r2, r3, this.1, this.2⟩

set_option maxHeartbeats 4000000 in
set_option maxRecDepth 100000 in
theorem copies_walk {x y : Value} {l m : List ActV} {w : World} (hx : ActsAt w x l) (hy : ActsAt w y m) :
    Calls Try.prog 6 #[x, y] w fun e w' => e = .returned (.bool true) ∧ Below w.heap.size w w' := by
  obtain ⟨xa, xc, rfl, hxc, hxm⟩ := hx.val
  obtain ⟨ya, yc, rfl, hyc, hym⟩ := hy.val
  unfold maxLen at hxm hym
  go_enter Try.func6, Try.ntmps6
  go_wp2_with fail
  refine (awake_any _).mono ?_
  rintro e w1 ⟨rfl, hb1⟩
  have hx1 := hx.below hb1 (Nat.le_refl _)
  go_wp2_with fail
  refine (few_any _ l w1 hx1).mono ?_
  rintro e w2 ⟨q, rfl, hq, n2, hw2⟩
  have hb2 : Below w.heap.size w w2 := by rw [hw2]; exact ⟨hb1.os, hb1.tape, hb1.output, hb1.size, hb1.block⟩
  clear hw2 hb1 hx1
  cases q with
  | false =>
    clear hq
    go_wp2_with fail
    refine (awake_any _).mono ?_
    rintro e w3 ⟨rfl, hb3⟩
    go_wp2_with fail
    go_ret
    exact ⟨rfl, hb2.trans (hb3.mono hb2.size)⟩
  | true =>
  have hokl : AllOk l := hq rfl
  clear hq
  have hy2 := hy.below hb2 (Nat.le_refl _)
  go_wp2_with fail
  refine (few_any _ m w2 hy2).mono ?_
  rintro e w3 ⟨q, rfl, hq, n3, hw3⟩
  have hb3 : Below w.heap.size w w3 := by rw [hw3]; exact ⟨hb2.os, hb2.tape, hb2.output, hb2.size, hb2.block⟩
  clear hw3 hb2 hy2
  cases q with
  | false =>
    clear hq
    go_wp2_with fail
    refine (awake_any _).mono ?_
    rintro e w4 ⟨rfl, hb4⟩
    go_wp2_with fail
    go_ret
    exact ⟨rfl, hb3.trans (hb4.mono hb3.size)⟩
  | true =>
  have hokm : AllOk m := hq rfl
  clear hq
  go_wp2_with fail
  refine (new_any 5000 _ (by omega)).mono ?_
  rintro e w4 ⟨p, b, rfl, hd4, hb4, hp4, hq4⟩
  have hpw : w.heap.size ≤ p := Nat.le_trans hb3.size hp4
  have hbw : w.heap.size ≤ b := Nat.le_trans hb3.size hq4
  have hb4' := hb3.trans (hb4.mono hb3.size)
  clear hp4 hq4 hb4 hb3
  go_wp2_with fail
  go_loopw [7] (fun i wr => ∃ k : Nat, k ≤ l.length ∧ i = .int .i64 k ∧ DiskAt wr p b 5000 (runS 5000 [] (l.take k)) ∧ Below w.heap.size w wr) (fun i _ => l.length - (intOf i).toNat)
  case atStart => exact ⟨0, by omega, rfl, hd4, hb4'⟩
  case round =>
    obtain ⟨k, hk, rfl, hd, hb⟩ := hrel
    clear hd4 hb4'
    by_cases hlt : k < l.length
    · obtain ⟨u, hu⟩ : ∃ u, l[k]? = some u := ⟨_, List.getElem?_eq_getElem hlt⟩
      obtain ⟨bx, ox, ⟨nx, cx, ex⟩, hcx⟩ := acts_keep hx hu
      injection ex with ex1 ex2 ex3
      subst ex1
      have hc := hcx wr hb
      have hdn := done_any p b 5000 _ u wr hd (ok_of hokl hu hc)
      rw [← runS_next 5000 [] hu] at hdn
      unfold ActV.val at hdn
      obtain ⟨c0, c1, c2, c3, c4, _⟩ := hc
      clear hcx ex2 ex3
      go_wp2_with fail
      refine hdn.mono ?_
      rintro e w5 ⟨rfl, hd5, hc5⟩
      go_wp2_with fail
      go_roundw
      case rel => exact ⟨k + 1, by omega, by go_num, hd5, hb.trans (hc5.below hb.size (fun i hi => by omega))⟩
      case measure => simp [intOf]; omega
    · obtain rfl : k = l.length := by omega
      rw [runS_all] at hd
      obtain ⟨L, hL⟩ : ∃ L, L = runS 5000 [] l := ⟨_, rfl⟩
      rw [← hL] at hd
      have hlen : L.length ≤ 100 := by
        have := len_run 5000 l []
        rw [← hL] at this
        have := hokl.1
        simp at *
        omega
      clear hL
      go_wp2_with fail
      refine (copy_any p b 5000 L wr hd).mono ?_
      rintro e w5 ⟨pc, bc, rfl, hc5, hb5, hpc, hbc⟩
      have hd5 := hd.below hb5 hd.lt.1 hd.lt.2
      have n1 : p ≠ bc := by have := hd.lt; omega
      have n2 : b ≠ pc := by have := hd.lt; omega
      have n3 : b ≠ bc := by have := hd.lt; omega
      have n4 : w.heap.size ≤ pc := by have := hb.size; omega
      have n5 : w.heap.size ≤ bc := by have := hb.size; omega
      have hb5' := hb.trans (hb5.mono hb.size)
      clear hd hb hb5 hpc hbc
      go_wp2_with fail
      refine (names_any p b 5000 L w5 hd5).mono ?_
      rintro e w6 ⟨v, rfl, hown, hb6⟩
      obtain ⟨na, nc, rfl, _⟩ := own_val hown
      have hd6 := hd5.below hb6 hd5.lt.1 hd5.lt.2
      have hc6 := hc5.below hb6 hc5.lt.1 hc5.lt.2
      have hb6' := hb5'.trans (hb6.mono hb5'.size)
      clear hown hb6 hd5 hc5 hb5'
      go_wp2_with fail
      refine (room_any p b 5000 L w6 hd6).mono ?_
      rintro e w7 ⟨rfl, hb7⟩
      have hd7 := hd6.below hb7 hd6.lt.1 hd6.lt.2
      have hc7 := hc6.below hb7 hc6.lt.1 hc6.lt.2
      have hb7' := hb6'.trans (hb7.mono hb6'.size)
      clear hb7 hd6 hc6 hb6'
      have hroom : (0 : Int) ≤ ((5000 : Nat) : Int) - (tot L : Int) := by have := hd7.fits; omega
      obtain ⟨R, hR⟩ : ∃ R : Int, R = ((5000 : Nat) : Int) - (tot L : Int) := ⟨_, rfl⟩
      rw [← hR] at hroom ⊢
      clear hR
      go_wp2_with fail
      go_loopw [11] (fun i wr => ∃ k : Nat, k ≤ m.length ∧ i = .int .i64 k ∧ DiskAt wr p b 5000 L ∧ DiskAt wr pc bc 5000 (runS 5000 L (m.take k)) ∧ Below w.heap.size w wr) (fun i _ => m.length - (intOf i).toNat)
      case atStart => exact ⟨0, by omega, rfl, hd7, hc7, hb7'⟩
      case round =>
        obtain ⟨k, hk, rfl, hd, hc, hb⟩ := hrel
        clear hd7 hc7 hb7'
        by_cases hlt2 : k < m.length
        · obtain ⟨u, hu⟩ : ∃ u, m[k]? = some u := ⟨_, List.getElem?_eq_getElem hlt2⟩
          obtain ⟨bx, ox, ⟨nx, cx, ex⟩, hcx⟩ := acts_keep hy hu
          injection ex with ex1 ex2 ex3
          subst ex1
          have hcl := hcx wr hb
          have hdn := done_any pc bc 5000 _ u wr hc (ok_of hokm hu hcl)
          rw [← runS_next 5000 L hu] at hdn
          unfold ActV.val at hdn
          obtain ⟨c0, c1, c2, c3, c4, _⟩ := hcl
          clear hcx ex2 ex3
          go_wp2_with fail
          refine hdn.mono ?_
          rintro e w8 ⟨rfl, hc8, hg8⟩
          go_wp2_with fail
          go_roundw
          case rel => exact ⟨k + 1, by omega, by go_num, hd.chg hg8 n1 n3, hc8, hb.trans (hg8.below hb.size (fun i hi => by omega))⟩
          case measure => simp [intOf]; omega
        · obtain rfl : k = m.length := by omega
          rw [runS_all] at hc
          go_wp2_with fail
          refine (copy_any p b 5000 L _ hd).mono ?_
          rintro e w8 ⟨pe, be, rfl, he8, hb8, hpe, hbe⟩
          have hd8 := hd.below hb8 hd.lt.1 hd.lt.2
          have hc8 := hc.below hb8 hc.lt.1 hc.lt.2
          have m1 : p ≠ be ∧ b ≠ be ∧ pc ≠ be ∧ bc ≠ be := by have := hd.lt; have := hc.lt; omega
          have m2 : p ≠ pe ∧ b ≠ pe ∧ pc ≠ pe ∧ bc ≠ pe := by have := hd.lt; have := hc.lt; omega
          have m3 : w.heap.size ≤ pe ∧ w.heap.size ≤ be := by have := hb.size; omega
          have hb8' := hb.trans (hb8.mono hb.size)
          clear hd hc hb hb8 hpe hbe
          go_wp2_with fail
          go_loopw [13] (fun i wr => ∃ k : Nat, k ≤ m.length ∧ i = .int .i64 k ∧ DiskAt wr p b 5000 (runS 5000 L (m.take k)) ∧ DiskAt wr pe be 5000 (runS 5000 L (m.take k)) ∧ DiskAt wr pc bc 5000 (runS 5000 L m) ∧ Below w.heap.size w wr) (fun i _ => m.length - (intOf i).toNat)
          case atStart => exact ⟨0, by omega, rfl, hd8, he8, hc8, hb8'⟩
          case round =>
            clear hd8 hc8 he8 hb8'
            obtain ⟨k, hk, rfl, hd, he, hc, hb⟩ := hrel
            by_cases hlt3 : k < m.length
            · obtain ⟨u, hu⟩ : ∃ u, m[k]? = some u := ⟨_, List.getElem?_eq_getElem hlt3⟩
              obtain ⟨bx, ox, ⟨nx, cx, ex⟩, hcx⟩ := acts_keep hy hu
              injection ex with ex1 ex2 ex3
              subst ex1
              have HX := Lib.hid hcx
              have hcl := hcx wr hb
              have hok := ok_of hokm hu hcl
              have hdn := done_any p b 5000 _ u wr hd hok
              rw [← runS_next 5000 L hu] at hdn
              unfold ActV.val at hdn
              obtain ⟨c0, c1, c2, c3, c4, _⟩ := hcl
              clear hcx ex2 ex3
              go_wp2_with fail
              refine hdn.mono ?_
              rintro e w9 ⟨rfl, hd9, hg9⟩
              have he9 := he.chg hg9 (Ne.symm m2.2.1) (Ne.symm m1.2.1)
              have hc9 := hc.chg hg9 (Ne.symm n2) (Ne.symm n3)
              have hb9 := hb.trans (hg9.below hb.size (fun i hi => by omega))
              have hdn2 := done_any pe be 5000 _ u w9 he9 hok
              rw [← runS_next 5000 L hu] at hdn2
              unfold ActV.val at hdn2
              have hcl := HX.out w9 hb9
              clear c0 c1 c2 c3 c4 hdn hd he hc hb hg9
              obtain ⟨c0, c1, c2, c3, c4, _⟩ := hcl
              obtain ⟨T, hT⟩ : ∃ T, T = doneT (runS 5000 L (m.take k)) u := ⟨_, rfl⟩
              obtain ⟨E, hE⟩ : ∃ E, E = doneE 5000 (runS 5000 L (m.take k)) u := ⟨_, rfl⟩
              rw [← hT, ← hE] at hdn2 ⊢
              clear hT hE
              have hss : (T.toList == T.toList) = true := by simp
              go_wp2_with fail
              refine hdn2.mono ?_
              rintro e w10 ⟨rfl, he10, hg10⟩
              have hd10 := hd9.chg hg10 m1.1 m1.2.1
              have hc10 := hc9.chg hg10 m1.2.2.1 m1.2.2.2
              have hb10 := hb9.trans (hg10.below hb9.size (fun i hi => by omega))
              clear hdn2 hd9 he9 hc9 hg10 hb9 c0 c1 c2 c3 c4
              go_wp2_with fail
              go_roundw
              case rel => exact ⟨k + 1, by omega, by go_num, hd10, he10, hc10, hb10⟩
              case measure => simp [intOf]; omega
            · obtain rfl : k = m.length := by omega
              rw [runS_all] at hd he
              clear he
              obtain ⟨M, hM⟩ : ∃ M, M = runS 5000 L m := ⟨_, rfl⟩
              rw [← hM] at hd hc
              clear hM
              go_wp2_with fail
              refine (names_any pc bc 5000 M _ hc).mono ?_
              rintro e w9 ⟨v1, rfl, ho1, hb9⟩
              have hd9 := hd.below hb9 hd.lt.1 hd.lt.2
              have hc9 := hc.below hb9 hc.lt.1 hc.lt.2
              have hb9' := hb.trans (hb9.mono hb.size)
              have hs1 := own_strs (l := M.map fun p => p.1) (by rw [List.length_map]; exact ho1)
              clear hd hc hb hb9 ho1
              go_wp2_with fail
              refine (names_any p b 5000 M _ hd9).mono ?_
              rintro e w10 ⟨v2, rfl, ho2, hb10⟩
              have hd10 := hd9.below hb10 hd9.lt.1 hd9.lt.2
              have hc10 := hc9.below hb10 hc9.lt.1 hc9.lt.2
              have hb10' := hb9'.trans (hb10.mono hb9'.size)
              have hs2 := own_strs (l := M.map fun p => p.1) (by rw [List.length_map]; exact ho2)
              have hs1' := hs1.below hb10 (Nat.le_refl _)
              clear hd9 hc9 hb9' hb10 ho2 hs1
              go_wp2_with fail
              refine (same_texts hs1' hs2).mono ?_
              rintro e w11 ⟨rfl, n11, hw11⟩
              have hd11 : DiskAt w11 p b 5000 M := by rw [hw11]; exact hd10.chg ((Chg.refl (fun _ => False) w10).drewN n11) (by simp) (by simp)
              have hc11 : DiskAt w11 pc bc 5000 M := by rw [hw11]; exact hc10.chg ((Chg.refl (fun _ => False) w10).drewN n11) (by simp) (by simp)
              have hb11 : Below w.heap.size w w11 := by rw [hw11]; exact ⟨hb10'.os, hb10'.tape, hb10'.output, hb10'.size, hb10'.block⟩
              clear hw11 hd10 hc10 hb10' hs2 hs1'
              go_wp2_with fail
              refine (room_any pc bc 5000 M _ hc11).mono ?_
              rintro e w12 ⟨rfl, hb12⟩
              have hd12 := hd11.below hb12 hd11.lt.1 hd11.lt.2
              have hb12' := hb11.trans (hb12.mono hb11.size)
              obtain ⟨S, hS⟩ : ∃ S : Int, S = ((5000 : Nat) : Int) - (tot M : Int) := ⟨_, rfl⟩
              have hro := room_any p b 5000 M _ hd12
              rw [← hS] at hro ⊢
              clear hS hd11 hc11 hb11 hb12
              have hlen' : ((L.length : Nat) : Int) ≤ 100 := by omega
              go_wp2_with fail
              refine hro.mono ?_
              rintro e w13 ⟨rfl, hb13⟩
              go_wp2_with fail
              go_ret
              exact ⟨rfl, hb12'.trans (hb13.mono hb12'.size)⟩

end Go.Proofs.Ytclibfiaihhbaaa
