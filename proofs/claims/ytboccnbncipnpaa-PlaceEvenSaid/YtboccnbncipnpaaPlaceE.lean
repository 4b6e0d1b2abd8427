/- place.All: choices for parts. -/
import Derived.Test.YtboccnbncipnpaaPlaceD
import Derived.Outline
import Derived.WalkMore
namespace Go.Proofs.Ytboccnbncipnpaa
open Go.RowKit Go.Sort

def bump (L : List Int) (s : Nat) : List Int := L.set s (L.getD s 0 + 1)
def bumpAll (L : List Int) (S : List Nat) : List Int := S.foldl bump L
/-- The workers chosen for a part, from the loads ahead of it. -/
def pickP (L : List Int) (live : List Bool) (n : Nat) (t : Int) (p : Nat) : List Nat := (sortedW L live (t + p)).take n
/-- The loads behind p parts. -/
def allL (L : List Int) (live : List Bool) (n : Nat) (t : Int) : Nat → List Int
  | 0 => L
  | p + 1 => bumpAll (allL L live n t p) (pickP (allL L live n t p) live n t p)

/-- Every load lies between -b and b. -/
def Bnd (L : List Int) (b : Nat) : Prop := ∀ i, -(b : Int) ≤ L.getD i 0 ∧ L.getD i 0 ≤ b

theorem bump_length (L : List Int) (s : Nat) : (bump L s).length = L.length := by simp [bump]
theorem bumpAll_length (S : List Nat) : ∀ L : List Int, (bumpAll L S).length = L.length := by
  induction S with
  | nil => intro L; rfl
  | cons s S ih => intro L; rw [bumpAll, List.foldl_cons]; exact (ih _).trans (bump_length L s)
theorem allL_length (L : List Int) (live : List Bool) (n : Nat) (t : Int) : ∀ p, (allL L live n t p).length = L.length
  | 0 => rfl
  | p + 1 => by rw [allL, bumpAll_length, allL_length L live n t p]
theorem bump_bnd {L : List Int} {b : Nat} (h : Bnd L b) (s : Nat) : Bnd (bump L s) (b + 1) := by
  intro i
  have h1 := h i
  have h2 := h s
  unfold bump
  rw [List.getD_eq_getElem?_getD] at *
  rw [List.getElem?_set]
  split
  · split
    · simp only [Option.getD_some]
      rw [List.getD_eq_getElem?_getD] at *
      omega
    · simp; omega
  · omega
theorem bumpAll_bnd (S : List Nat) : ∀ (L : List Int) (b : Nat), Bnd L b → Bnd (bumpAll L S) (b + S.length) := by
  induction S with
  | nil => intro L b h; exact h
  | cons s S ih =>
    intro L b h
    have := ih _ _ (bump_bnd h s)
    rw [bumpAll, List.foldl_cons, List.length_cons, show b + (S.length + 1) = b + 1 + S.length by omega]
    exact this
theorem allL_bnd {L : List Int} {live : List Bool} {n : Nat} {t : Int} {b : Nat} (h : Bnd L b) : ∀ p, Bnd (allL L live n t p) (b + p * n)
  | 0 => by rw [Nat.zero_mul]; exact h
  | p + 1 => by
    have h1 := bumpAll_bnd (pickP (allL L live n t p) live n t p) _ _ (allL_bnd (live := live) (n := n) (t := t) h p)
    have h2 : (pickP (allL L live n t p) live n t p).length ≤ n := by unfold pickP; rw [List.length_take]; omega
    intro i
    have := h1 i
    rw [allL]
    have e : (p + 1) * n = p * n + n := by rw [Nat.add_mul, Nat.one_mul]
    omega

/-- Behind q of a part's workers. -/
structure BumpJ (w6 : World) (base g c : Nat) (L : List Int) (S : List Nat) (q : Nat) (w' : World) : Prop where
  hq : q ≤ S.length
  own : w'.ownsRow base 3 1 (.slice (some ⟨g, 0, none⟩) L.length c) L.length ((bumpAll L (S.take q)).map (Value.int .i64))
  chg : Chg (fun k => k = g) w6 w'

theorem BumpJ.next {w6 : World} {base g c : Nat} {L : List Int} {S : List Nat} {q : Nat} {w' : World} (h : BumpJ w6 base g c L S q w') (s : Nat) (hs : S[q]? = some s) (hsl : s < L.length) :
    BumpJ w6 base g c L S (q + 1) (w'.setCell ⟨g, s, none⟩ (.int .i64 ((bumpAll L (S.take q)).getD s 0 + 1))) := by
  have hlt := (List.getElem?_eq_some_iff.1 hs).1
  refine ⟨hlt, ?_, h.chg.setCell (p := ⟨g, s, none⟩) (.inl rfl) _⟩
  have := h.own.stored s (.int .i64 ((bumpAll L (S.take q)).getD s 0 + 1))
  rw [List.take_add_one, hs]
  simp only [Option.toList_some, bumpAll, List.foldl_append, List.foldl_cons, List.foldl_nil]
  rw [show bump (List.foldl bump L (S.take q)) s = (bumpAll L (S.take q)).set s ((bumpAll L (S.take q)).getD s 0 + 1) from rfl, List.map_set]
  exact this.1

theorem info22 : (Try.prog.info? 22).map (fun i => (i.zero, i.size, i.bytes)) = some (some (.slice none 0 0), 1, 24) := by kernel_rfl

theorem src_one_row (w : World) (vb : Nat) (v : Value) (h1 : v.oneCell' = true) (hs : w.heap[vb]? = some (.cells #[v] 22 (0, 0))) : Src Try.prog 1 32 (.slice (some ⟨vb, 0, none⟩) 1 1) 1 [v] w :=
  Src.ofSlice w Try.underlying32 _ 1 1 _ (by simp) (fun j u hu => by
    have hj := (List.getElem?_eq_some_iff.1 hu).1
    obtain rfl : j = 0 := by simpa using hj
    simp at hu
    subst hu
    rw [Addr.add_lit]
    simp [World.cell?, hs]) (by simpa using h1)

/-- Behind p parts: the loads' row, the row of choices. -/
structure AllJ (w2 : World) (base g c : Nat) (L : List Int) (live : List Bool) (n : Nat) (t : Int) (p : Nat) (vo : Value) (w' : World) : Prop where
  own : w'.ownsRow base 3 1 (.slice (some ⟨g, 0, none⟩) L.length c) L.length ((allL L live n t p).map (Value.int .i64))
  out : ∃ vs, w'.ownsRow w2.heap.size 22 1 vo p vs ∧ ∀ (i : Nat) v, vs[i]? = some v → v.ownBlock ≠ some g ∧ w'.ownsRow base 3 1 v n ((pickP (allL L live n t i) live n t i).map fun (i : Nat) => Value.int .i64 ((i : Int) + 1))
  chg : Chg (fun k => k = g) w2 w'

theorem own_ne_type {w : World} {B B' : Nat} {e e' : TypeId} {z z' : Nat} {v v' : Value} {n n' : Nat} {xs xs' : List Value} (h : w.ownsRow B e z v n xs) (h' : w.ownsRow B' e' z' v' n' xs') (he : e ≠ e') (k : Nat) (hk : v.ownBlock = some k) : v'.ownBlock ≠ some k := by
  intro hk'
  rcases h.2 with ⟨rfl, _⟩ | ⟨g, c, cur, rfl, _, hg, _⟩
  · cases hk
  · rcases h'.2 with ⟨rfl, _⟩ | ⟨g', c', cur', rfl, _, hg', _⟩
    · cases hk'
    · have e1 : g = k := Option.some.inj hk
      have e2 : g' = k := Option.some.inj hk'
      subst e1
      subst e2
      rw [hg] at hg'
      injection hg' with hg'
      injection hg' with _ h2 _
      exact he h2

theorem chg_below {w w' : World} (h : Below w.heap.size w w') : Chg (fun _ => False) w w' := ⟨h.os, h.tape, h.output, h.size, fun k hk _ => h.block k hk⟩

theorem AllJ.row {w2 : World} {base g c : Nat} {L : List Int} {live : List Bool} {n : Nat} {t : Int} {p : Nat} {vo : Value} {wo w6 wr : World} {S : List Nat} {q : Nat} {L' : List Int} (h : AllJ w2 base g c L live n t p vo wo) (hbl : Below wo.heap.size wo w6)
    (hbj : BumpJ w6 base g c L' S q wr) {vs : List Value} (hout : wo.ownsRow w2.heap.size 22 1 vo p vs) : wr.ownsRow w2.heap.size 22 1 vo p vs :=
  own_kept (own_kept hout (chg_below hbl) (fun _ _ h => h)) hbj.chg (fun k hk e => own_ne_type hout h.own (by decide) k hk (by rw [e]; rfl))

theorem AllJ.next {w2 : World} {base g c : Nat} {L : List Int} {live : List Bool} {n : Nat} {t : Int} {p : Nat} {vo vo' : Value} {wo w6 wr w9 : World} {S : List Nat} {gl cl : Nat} (h : AllJ w2 base g c L live n t p vo wo) (hbl : Below wo.heap.size wo w6)
    (hbase : base ≤ wo.heap.size) (hg : g < wo.heap.size) (hgl : wo.heap.size ≤ gl) (hS : S = pickP (allL L live n t p) live n t p) (hSl : S.length = n)
    (hl : w6.ownsRow wo.heap.size 3 1 (.slice (some ⟨gl, 0, none⟩) n cl) n (S.map fun (i : Nat) => Value.int .i64 ((i : Int) + 1)))
    (hbj : BumpJ w6 base g c (allL L live n t p) S n wr) (o : Obj) {vs : List Value} (hout : wo.ownsRow w2.heap.size 22 1 vo p vs)
    (hin : ∀ (i : Nat) v, vs[i]? = some v → v.ownBlock ≠ some g ∧ wo.ownsRow base 3 1 v n ((pickP (allL L live n t i) live n t i).map fun (i : Nat) => Value.int .i64 ((i : Int) + 1)))
    (ho : w9.ownsRow w2.heap.size 22 1 vo' (p + 1) (vs ++ [.slice (some ⟨gl, 0, none⟩) n cl])) (hc : Chg (fun k => some k = vo.ownBlock) (wr.alloc o) w9) : AllJ w2 base g c L live n t (p + 1) vo' w9 := by
  subst hS
  have hr := h.row hbl hbj hout
  have hvs : vs.length = p := by simpa using hout.1
  have hLl := allL_length L live n t p
  have key : ∀ {v : Value} {m : Nat} {xs : List Value}, wr.ownsRow base 3 1 v m xs → w9.ownsRow base 3 1 v m xs := fun hx =>
    own_kept (hx.alloc o) hc (fun k hk e => own_ne_type hr hx (by decide) k e.symm hk)
  refine ⟨?_, ⟨vs ++ [.slice (some ⟨gl, 0, none⟩) n cl], ho, ?_⟩, ?_⟩
  · have := key hbj.own
    rw [hLl, List.take_of_length_le (Nat.le_of_eq hSl)] at this
    exact this
  · intro i v hv
    by_cases hi : i < p
    · rw [List.getElem?_append_left (by omega)] at hv
      obtain ⟨h1, h2⟩ := hin i v hv
      refine ⟨h1, key (own_kept (own_kept h2 (chg_below hbl) (fun _ _ h => h)) hbj.chg (fun k hk e => h1 (by rw [hk, e])))⟩
    · rw [List.getElem?_append_right (by omega)] at hv
      have hi2 := (List.getElem?_eq_some_iff.1 hv).1
      obtain rfl : i = p := by simp at hi2; omega
      rw [hvs, Nat.sub_self] at hv
      simp at hv
      subst hv
      refine ⟨fun e => ?_, key (own_base (own_kept hl hbj.chg (fun k hk e => ?_)) hbase)⟩
      · have : gl = g := Option.some.inj e
        omega
      · have : gl = k := Option.some.inj hk
        omega
  · refine ((((h.chg.trans (chg_below hbl) (fun _ h _ => h.elim)).trans hbj.chg (fun k hk _ => hk)).alloc o).trans hc (fun k hk hlt => ?_))
    have := own_lt hr k hk
    omega

set_option maxHeartbeats 2000000 in
theorem all_any (ab ao : Nat) (B : Addr) (c0 c1 : Nat) (loads : List Int) (live : List Bool) (n : Nat) (turn : Int) (parts : Nat) (w : World) (hA : ∀ (j : Nat) v, loads[j]? = some v → w.cell? ⟨ab, ao + j, none⟩ = some (.int .i64 v)) (hB : ∀ (j : Nat) v, live[j]? = some v → w.cell? (B.add j) = some (.bool v)) (hlen : loads.length = live.length) (h0 : 0 < live.length) (h1 : live.length ≤ 16) (hk : 1 ≤ n) (hku : n ≤ (upto live live.length).length) (hp : parts ≤ 1000) (hb : Bnd loads 1000000)
    (hmay : Calls Try.prog 11 #[.slice (some ⟨ab, ao, none⟩) loads.length c0, .slice (some B) live.length c1, .int .i64 n] w fun e w' => e = .returned (.int .i64 0) ∧ Chg (fun _ => False) w w') :
    Calls Try.prog 10 #[.slice (some ⟨ab, ao, none⟩) loads.length c0, .slice (some B) live.length c1, .int .i64 n, .int .i64 turn, .int .i64 parts] w fun e w' => ∃ vo g c vs, e = .returned (.tuple #[vo, .slice (some ⟨g, 0, none⟩) loads.length c, .int .i64 0]) ∧
      w'.ownsRow w.heap.size 3 1 (.slice (some ⟨g, 0, none⟩) loads.length c) loads.length ((allL loads live n (turn.tmod live.length) parts).map (Value.int .i64)) ∧
      w'.ownsRow w.heap.size 22 1 vo parts vs ∧ (∀ (i : Nat) v, vs[i]? = some v → v.ownBlock ≠ some g ∧ w'.ownsRow w.heap.size 3 1 v n ((pickP (allL loads live n (turn.tmod live.length) i) live n (turn.tmod live.length) i).map fun (i : Nat) => Value.int .i64 ((i : Int) + 1))) ∧ Below w.heap.size w w' := by
  have ht0 := Int.tmod_lt_of_pos turn (show (0 : Int) < live.length by omega)
  have ht1 := Int.lt_tmod_of_pos turn (show (0 : Int) < live.length by omega)
  have HA := Lib.hid hA
  have HB := Lib.hid hB
  have HM := Lib.hid hmay
  have HLEN := Lib.hid hlen
  have HBD := Lib.hid hb
  have hpos : 0 < loads.length := by omega
  have hll : loads.length ≤ 16 := by omega
  have hBlt : B.block < w.heap.size := by
    have := World.block_lt_of_cell? w _ (hB 0 _ (List.getElem?_eq_getElem h0))
    rwa [addr_add_block] at this
  have hn0 : (live.length : Int) ≠ 0 := by omega
  clear hA hB hmay hlen hb
  go_enter Try.func10, Try.ntmps10
  go_wp2_with (first
    | (go_at_call 11; refine HM.out.mono ?_; rintro e w1 ⟨rfl, hw1⟩)
    | (go_at_call 13; refine (Try.slices_Clone_int ab ao loads.length c0 loads w1 (Nat.le_refl _) (by omega) (fun j hj => by
          have := HA.out j _ (List.getElem?_eq_getElem hj)
          rw [← hw1.cell (World.block_lt_of_cell? w _ this) id] at this
          rw [this, List.getD_eq_getElem?_getD, List.getElem?_eq_getElem hj]; rfl)).mono ?_; rintro e w2 ⟨v', rfl, ho, _, hb2⟩; rw [List.take_length] at ho; obtain ⟨g, c, rfl, hc1, hc2, hg1⟩ := own_some ho hpos))
  have hsz1 := hw1.size
  have hsz2 := hb2.size
  have ho' := own_base ho hsz1
  have hgb : w.heap.size ≤ g := by omega
  have hg2 : g < w2.heap.size := (own_lt ho' g rfl).2
  have hC2 : Chg (fun _ => False) w w2 := hw1.trans ⟨hb2.os, hb2.tape, hb2.output, hb2.size, fun k hk _ => hb2.block k hk⟩ (fun _ h _ => h)
  clear HM HA hw1 hb2 ho
  obtain ⟨t, ht⟩ : ∃ t, t = turn.tmod (live.length : Int) := ⟨_, rfl⟩
  rw [← ht] at ht0 ht1
  have HO' := Lib.hid ho'
  clear ho'
  go_loopw [14, 35] (fun vo j wr => ∃ p : Nat, p ≤ parts ∧ j = .int .i64 p ∧ AllJ w2 w.heap.size g c loads live n t p vo wr) (fun _ j _ => parts - (intOf j).toNat)
  case atStart => exact ⟨0, by omega, rfl, HO'.out, ⟨[], own_nil _ _ _ _, fun i v h => by simp at h⟩, Chg.refl _ _⟩
  case round =>
    obtain ⟨p, hpp, rfl, hJ⟩ := hrel
    obtain ⟨wo, hwo⟩ : ∃ wo, wo = wr := ⟨_, rfl⟩
    subst hwo
    have HJ := Lib.hid hJ
    by_cases hlt : p < parts
    · have hzr := hJ.chg.size
      have hcellL : ∀ (j : Nat) v, (allL loads live n t p)[j]? = some v → wo.cell? ((⟨g, 0, none⟩ : Addr).add j) = some (.int .i64 v) := fun j v hv =>
        hJ.own.cells (g := g) rfl j (.int .i64 v) (by rw [List.getElem?_map, hv]; rfl)
      have hcellB : ∀ (j : Nat) v, live[j]? = some v → wo.cell? (B.add j) = some (.bool v) := fun j v hv => by
        have h := HB.out j v hv
        refine (hJ.chg.cell (p := B.add j) ?_ ?_).trans ((hC2.cell (World.block_lt_of_cell? w _ h) id).trans h)
        · rw [addr_add_block]; omega
        · rw [addr_add_block]; omega
      have hLl := allL_length loads live n t p
      have hch := choose_any ⟨g, 0, none⟩ B c c1 (allL loads live n t p) live n (t + p) wo hcellL hcellB (by show g < _; omega) (by rw [hLl]; exact HLEN.out) h0 h1 hk hku
      rw [hLl] at hch
      have HCH := Lib.hid hch
      have hbnd := allL_bnd (live := live) (n := n) (t := t) HBD.out p
      have hn16 : n ≤ 16 := by have := upto_length live live.length; omega
      have hpn : p * n ≤ 16000 := by
        have : p * n ≤ 1000 * 16 := Nat.mul_le_mul (by omega) hn16
        omega
      have HBN := Lib.hid hbnd
      clear hJ hcellL hcellB hch hbnd
      go_wp2_with (go_at_call 12; rw [← ht]; refine HCH.out.mono ?_; rintro e w6 ⟨vl, rfl, ⟨ys, hyp, hys, hownl⟩, hbl⟩; obtain ⟨gl, cl, rfl, hcl, hcl2, hgl⟩ := own_some hownl (by omega))
      have hyS := sortedW_only _ live (t + p) ys hyp hys
      obtain ⟨S, hS⟩ : ∃ S, S = pickP (allL loads live n t p) live n t p := ⟨_, rfl⟩
      have hSys : ys.take n = S := by rw [hS, pickP, hyS]
      rw [hSys] at hownl
      have hSl : S.length = n := by
        have := hyp.length_eq
        rw [← hSys, List.length_take]; omega
      have hSm : Hid (∀ s ∈ S, s < loads.length) := Lib.hid fun x hx => by
        rw [← hSys] at hx
        have := upto_lt (hyp.mem_iff.1 (List.mem_of_mem_take hx))
        rw [HLEN.out]; exact this
      have HSE := Lib.hid hS
      clear hyp hys hyS hSys hS
      have hzl := hbl.size
      have hgl6 : gl < w6.heap.size := (own_lt hownl gl rfl).2
      have hbj : BumpJ w6 w.heap.size g c (allL loads live n t p) S 0 w6 := by
        refine ⟨Nat.zero_le _, ?_, Chg.refl _ _⟩
        rw [hLl]
        have := own_kept HJ.out.own (S := fun _ => False) (w' := w6) ⟨hbl.os, hbl.tape, hbl.output, hbl.size, fun k hk _ => hbl.block k hk⟩ (fun _ _ h => h)
        exact this
      have HOL := Lib.hid hownl
      have HBL := Lib.hid hbl
      clear hownl hbl HCH
      go_loopw [50] (fun j wr => ∃ q : Nat, j = .int .i64 q ∧ BumpJ w6 w.heap.size g c (allL loads live n t p) S q wr) (fun j _ => n - (intOf j).toNat)
      case atStart => exact ⟨0, rfl, hbj⟩
      case round =>
        clear hbj
        obtain ⟨q, rfl, hQ⟩ := hrel
        have HQ := Lib.hid hQ
        have hqS := hQ.hq
        by_cases hlq : q < n
        · obtain ⟨x, hx⟩ : ∃ x, S[q]? = some x := ⟨_, List.getElem?_eq_getElem (by omega)⟩
          have hxl := hSm.out x (List.mem_of_getElem? hx)
          have hcx : wr.cell? ⟨gl, q, none⟩ = some (.int .i64 ((x : Int) + 1)) := by
            refine (hQ.chg.cell (p := ⟨gl, q, none⟩) hgl6 (fun h => ?_)).trans (own_cell (f := fun (i : Nat) => Value.int .i64 ((i : Int) + 1)) HOL.out q x hx)
            have : gl = g := h
            omega
          obtain ⟨y, hy⟩ : ∃ y, y = (bumpAll (allL loads live n t p) (S.take q)).getD x 0 := ⟨_, rfl⟩
          have hyb := bumpAll_bnd (S.take q) _ _ HBN.out x
          rw [← hy, List.length_take] at hyb
          have hyb2 : -2000000 ≤ y ∧ y ≤ 2000000 := by omega
          have hcy : wr.cell? ⟨g, x, none⟩ = some (.int .i64 y) := by
            have hlb := bumpAll_length (S.take q) (allL loads live n t p)
            have := hQ.own.cells (g := g) rfl x (.int .i64 y) (by
              rw [List.getElem?_map, List.getElem?_eq_getElem (by omega), hy, List.getD_eq_getElem?_getD, List.getElem?_eq_getElem (by omega)]; rfl)
            rwa [Addr.add_lit, Nat.zero_add] at this
          have hfy : wr.frozen? ⟨g, x, none⟩ = false := hQ.own.frozenAt x
          have hnx := hQ.next x hx (by omega)
          rw [← hy] at hnx
          have HNX := Lib.hid hnx
          clear hQ hx hyb hy hnx
          go_wp2
          go_roundw
          case rel => exact ⟨q + 1, by go_num, HNX.out⟩
          case measure => simp [intOf]; omega
        · obtain rfl : n = q := by omega
          obtain ⟨vs, hvs, hin⟩ := HJ.out.out
          have hvw := HJ.out.row HBL.out hQ hvs
          obtain ⟨ao, co, rfl, hco, hco2, _⟩ := own_val hvw
          have HIN := Lib.hid hin
          have HVS := Lib.hid hvs
          have hzc := hQ.chg.size
          clear hQ hin hvs
          obtain ⟨i0, hi0, hz0, hz1, hz2⟩ := info_parts info22
          go_wp2_with (at_builtin; refine wpList_append_src rfl _ _ 32 32 rfl w2.heap.size 22 i0 _ 1 24 Try.underlying32 hi0 hz0 hz1 hz2 rfl (by decide) _ _ _ rfl (hvw.alloc _) _ 1 _ rfl (src_one_row _ _ _ rfl (heap_alloc_new _ _)) (by unfold maxLen; omega) (by omega) (by simp; omega) ?_; intro v9 w9 ho hch hnew)
          have hJn := HJ.out.next HBL.out (by omega) (by omega) hgl HSE.out hSl HOL.out HQ.out _ HVS.out HIN.out ho hch
          go_roundw
          case rel => exact ⟨p + 1, by omega, by go_num, hJn⟩
          case measure => simp [intOf]; omega
    · obtain rfl : p = parts := by omega
      clear hJ
      go_wp2
      go_ret3
      obtain ⟨vs, h1, h2⟩ := HJ.out.out
      rw [ht] at h2
      have h3 := HJ.out.own
      rw [ht] at h3
      exact ⟨_, _, _, vs, rfl, h3, own_base h1 (by omega), h2, (hC2.trans HJ.out.chg (fun k hk hlt => by
        have : k = g := hk
        omega)).below (Nat.le_refl _) (fun _ h => h.elim)⟩
end Go.Proofs.Ytboccnbncipnpaa
