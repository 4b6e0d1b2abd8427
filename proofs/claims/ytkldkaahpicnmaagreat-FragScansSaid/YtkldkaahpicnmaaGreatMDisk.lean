/- Small laws on worlds and rows that serve every seat: what changed, append from whatever source. -/
import Derived.WalkKit
import Derived.WalkSpells
import Derived.WalkLawsBesides
import Derived.Lib.Hide
import Derived.Deep.RegionLaw
import Derived.Deep.AppendSrc
import Derived.Lib.Walk
import Derived.Lib.SliceRun
import Derived.Test.YtkldkaahpicnmaaGreatRows
import Derived.Maps.StringElems
import Derived.StringKeys
import Derived.Maps.Ext
import Derived.Lib.ConvBytes
import Derived.Laws.IdiomStrings
import Derived.Laws.BitsAllLaws
import Derived.Shelf.SlGeneric
import Derived.Shelf.SlIter.Nil
import Derived.Shelf.SortM.Plain
import Derived.Shelf.SortM.SortNone
import Derived.Ground.GgzProg
import Derived.Ground.SlgmProg
import Derived.Shelf.SlSortCmp.WholeK
import Derived.Ground.SlsfProg
import Derived.Test.YtkldkaahpicnmaaGreatProg
import Derived.StillTailTactics
import Derived.Sort.KeysCollected
import Derived.Deep.RegionHeld3
namespace Go.Proofs.YtkldkaahpicnmaaGreat
open Go.RowKit

/-- Of the blocks that were, only those of S may have turned. -/
structure Chg (S : Nat → Prop) (w w' : World) : Prop where
  os : w'.os = w.os
  tape : w'.tape = w.tape
  output : w'.output = w.output
  size : w.heap.size ≤ w'.heap.size
  block : ∀ k, k < w.heap.size → ¬ S k → w'.heap[k]? = w.heap[k]?

theorem Chg.refl (S : Nat → Prop) (w : World) : Chg S w w := ⟨rfl, rfl, rfl, Nat.le_refl _, fun _ _ _ => rfl⟩
theorem Chg.trans {S T : Nat → Prop} {a b c : World} (h : Chg S a b) (k : Chg T b c) (hs : ∀ i, T i → i < a.heap.size → S i) : Chg S a c :=
  ⟨k.os.trans h.os, k.tape.trans h.tape, k.output.trans h.output, Nat.le_trans h.size k.size, fun i hi hn =>
    (k.block i (Nat.lt_of_lt_of_le hi h.size) (fun ht => hn (hs i ht hi))).trans (h.block i hi hn)⟩
theorem Chg.mono {S T : Nat → Prop} {a b : World} (h : Chg S a b) (hs : ∀ i, S i → T i) : Chg T a b :=
  ⟨h.os, h.tape, h.output, h.size, fun i hi hn => h.block i hi (fun x => hn (hs i x))⟩
theorem Chg.drew {S : Nat → Prop} {a b : World} (h : Chg S a b) : Chg S a b.drew := ⟨h.os, h.tape, h.output, h.size, h.block⟩
theorem Chg.drewN {S : Nat → Prop} {a b : World} (h : Chg S a b) (n : Nat) : Chg S a (b.drewN n) := ⟨h.os, h.tape, h.output, h.size, h.block⟩
theorem Chg.of_drew {S : Nat → Prop} {a b : World} (h : Chg S a.drew b) : Chg S a b := ⟨h.os, h.tape, h.output, h.size, h.block⟩
theorem Chg.alloc {S : Nat → Prop} {a b : World} (h : Chg S a b) (o : Obj) : Chg S a (b.alloc o) :=
  ⟨h.os, h.tape, h.output, Nat.le_trans h.size (by simp), fun i hi hn => (Below.heap_alloc b o i (Nat.lt_of_lt_of_le hi h.size)).trans (h.block i hi hn)⟩
theorem Chg.setCell {S : Nat → Prop} {a b : World} (h : Chg S a b) {p : Addr} (hp : S p.block ∨ a.heap.size ≤ p.block) (u : Value) : Chg S a (b.setCell p u) :=
  ⟨h.os, h.tape, h.output, by simpa [World.setCell] using h.size, fun i hi hn => (Below.heap_setCell b p u i (by
    rintro rfl
    rcases hp with hp | hp
    · exact hn hp
    · omega)).trans (h.block i hi hn)⟩
theorem Chg.grown {a b : World} {row : Option Nat} (h : a.grownBy b row) : Chg (fun k => some k = row) a b :=
  ⟨h.os, h.tape, h.output, h.size, fun i hi hn => h.block i hi hn⟩
theorem Chg.below {S : Nat → Prop} {a b : World} (h : Chg S a b) {B : Nat} (hB : B ≤ a.heap.size) (hs : ∀ i, S i → B ≤ i) : Below B a b :=
  ⟨h.os, h.tape, h.output, h.size, fun i hi => h.block i (by omega) (fun x => by have := hs i x; omega)⟩
theorem Chg.cell {S : Nat → Prop} {a b : World} (h : Chg S a b) {p : Addr} (hp : p.block < a.heap.size) (hn : ¬ S p.block) : b.cell? p = a.cell? p :=
  World.cell?_of_block (w := a) (h.block p.block hp hn)
theorem Chg.frozen {S : Nat → Prop} {a b : World} (h : Chg S a b) {p : Addr} (hp : p.block < a.heap.size) (hn : ¬ S p.block) : b.frozen? p = a.frozen? p :=
  World.frozen?_of_block (w := a) (h.block p.block hp hn)

/-- A block of one cell: what is read of it, and that it is free. -/
theorem one_cell {w : World} {b : Nat} {v : Value} {t : TypeId} (h : w.heap[b]? = some (.cells #[v] t (0, 0))) : w.cell? ⟨b, 0, none⟩ = some v := by
  simp [World.cell?, h]
theorem one_free {w : World} {b : Nat} {v : Value} {t : TypeId} (h : w.heap[b]? = some (.cells #[v] t (0, 0))) : w.frozen? ⟨b, 0, none⟩ = false := by
  simp [World.frozen?, h]
theorem one_set {w : World} {b : Nat} {v : Value} {t : TypeId} (h : w.heap[b]? = some (.cells #[v] t (0, 0))) (u : Value) : (w.setCell ⟨b, 0, none⟩ u).heap[b]? = some (.cells #[u] t (0, 0)) := by
  simp [World.setCell, Array.getElem?_modify, h]

theorem ret_int {k : IntKind} {a b : Int} (h : a = b) : Ending.returned (.int k a) = .returned (.int k b) := by rw [h]

theorem own_val {w : World} {B : Nat} {e : TypeId} {z : Nat} {v : Value} {n : Nat} {xs : List Value} (h : w.ownsRow B e z v n xs) : ∃ a c, v = .slice a n c ∧ n ≤ c ∧ c ≤ maxLen ∧ v.ownBlock = a.map Addr.block := by
  rcases h.2 with ⟨rfl, rfl⟩ | ⟨g, c, _, rfl, _, _, h1, h2, _⟩
  · exact ⟨none, 0, rfl, Nat.le_refl _, by decide, rfl⟩
  · exact ⟨some ⟨g, 0, none⟩, c, rfl, h1, h2, rfl⟩

theorem rest_num (n b : Int) (h : 0 < b) (hb : b ≤ 1000000000) : (wrap64 (n.tmod b + b)).tmod b = n % b := by
  have h1 := Int.tmod_lt_of_pos n h
  have h2 : -b < n.tmod b := by have := Int.lt_tmod_of_pos n h; omega
  have e : wrap64 (n.tmod b + b) = n.tmod b + b := by unfold wrap64; omega
  rw [e, Int.tmod_eq_emod_of_nonneg (by omega), Int.add_emod_right, Int.tmod_eq_emod]
  split
  · simp
  · rw [show ((b.natAbs : Int)) = b by omega]; simp

theorem heap_setCells {g : Nat} {e : TypeId} {fz : Nat × Nat} : ∀ (vs : List Value) (o : Nat) (w : World) (cur : Array Value), w.heap[g]? = some (.cells cur e fz) → o + vs.length ≤ cur.size →
    (w.setCells g o vs).heap[g]? = some (.cells (cur.toList.take o ++ vs ++ cur.toList.drop (o + vs.length)).toArray e fz)
  | [], o, w, cur, h, _ => by simp [World.setCells, h]
  | v :: vs, o, w, cur, h, hl => by
    have h1 : (w.setCell ⟨g, o, none⟩ v).heap[g]? = some (.cells (cur.setIfInBounds o v) e fz) := by
      simp [World.setCell, Array.getElem?_modify, h]
    have h2 := heap_setCells vs (o + 1) _ _ h1 (by simp at hl ⊢; omega)
    simp only [World.setCells]
    rw [h2]
    simp only [List.length_cons] at hl ⊢
    have ho : o < cur.toList.length := by simp; omega
    congr 2
    apply congrArg
    rw [Array.toList_setIfInBounds, List.take_set, List.drop_set_of_lt (by omega)]
    rw [List.take_succ_eq_append_getElem ho, List.set_append]
    simp [Nat.min_eq_left (Nat.le_of_lt (by simpa using ho)), show o + (vs.length + 1) = o + 1 + vs.length by omega]

theorem chg_setCells {g : Nat} : ∀ (vs : List Value) (o : Nat) (w : World), Chg (fun k => k = g) w (w.setCells g o vs)
  | [], _, w => Chg.refl _ w
  | v :: vs, o, w => ((Chg.refl (fun k => k = g) w).setCell (p := ⟨g, o, none⟩) (.inl rfl) v).trans (chg_setCells vs (o + 1) _) (fun _ h _ => h)


/-- A slice of strings that can be read. -/
def StrsAt (w : World) (x : Value) (l : List ByteArray) : Prop :=
  ∃ a c, x = .slice a l.length c ∧ l.length ≤ c ∧ c ≤ maxLen ∧ ∀ (j : Nat) s, l[j]? = some s → ∃ b off, a = some ⟨b, off, none⟩ ∧ w.cell? ⟨b, off + j, none⟩ = some (.string s)

theorem StrsAt.val {w : World} {x : Value} {l : List ByteArray} (h : StrsAt w x l) : ∃ a c, x = .slice a l.length c ∧ l.length ≤ c ∧ c ≤ maxLen := by
  obtain ⟨a, c, rfl, h1, h2, _⟩ := h
  exact ⟨a, c, rfl, h1, h2⟩

theorem StrsAt.mk {w : World} {b off c : Nat} {l : List ByteArray} (n : Nat) (hn : n = l.length) (h1 : l.length ≤ c) (h2 : c ≤ maxLen) (h : ∀ (j : Nat) s, l[j]? = some s → w.cell? ⟨b, off + j, none⟩ = some (.string s)) : StrsAt w (.slice (some ⟨b, off, none⟩) n c) l :=
  ⟨_, c, by rw [hn], h1, h2, fun j s hs => ⟨b, off, rfl, h j s hs⟩⟩

theorem StrsAt.below {w w' : World} {x : Value} {l : List ByteArray} (h : StrsAt w x l) {B : Nat} (hb : Below B w w') (hB : w.heap.size ≤ B) : StrsAt w' x l := by
  obtain ⟨a, c, rfl, h1, h2, h3⟩ := h
  refine ⟨a, c, rfl, h1, h2, fun j s hs => ?_⟩
  obtain ⟨b, off, e, hc⟩ := h3 j s hs
  have := World.block_lt_of_cell? w _ hc
  exact ⟨b, off, e, (hb.cell (p := ⟨b, _, none⟩) (by show b < B; simp at this; omega)).trans hc⟩

theorem strs_cell {w : World} {a : Option Addr} {n c : Nat} {l : List ByteArray} (h : StrsAt w (.slice a n c) l) (j : Nat) (s : ByteArray) (hs : l[j]? = some s) : ∃ b off, a = some ⟨b, off, none⟩ ∧ w.cell? ⟨b, off + j, none⟩ = some (.string s) := by
  obtain ⟨a', c', hx, _, _, h3⟩ := h
  simp only [Value.slice.injEq] at hx
  obtain ⟨rfl, _, _⟩ := hx
  exact h3 j s hs

theorem strs_src {P : Program} {te : TypeId} {w : World} {t : TypeId} (hk : P.underlying t = some (.slice te)) {a : Option Addr} {n c : Nat} {l : List ByteArray} (h : StrsAt w (.slice a n c) l) (k : Nat) (hkl : k ≤ l.length) :
    Src P 1 t (.slice a k c) k ((l.take k).map Value.string) w := by
  cases a with
  | none =>
    have h0 : l = [] := by
      match l, h with
      | [], _ => rfl
      | s :: r, h =>
        obtain ⟨b, off, e, _⟩ := strs_cell h 0 s rfl
        cases e
    subst h0
    obtain rfl : k = 0 := by simpa using hkl
    exact Src.ofNil w hk c
  | some ad =>
    refine Src.ofSlice w hk ad k _ _ (by simp; omega) (fun j u hu => ?_) (fun u hu => ?_)
    · rw [List.getElem?_map, List.getElem?_take] at hu
      split at hu
      · obtain ⟨s, hs, rfl⟩ := Option.map_eq_some_iff.1 hu
        obtain ⟨b, off, e, hc⟩ := strs_cell h j s hs
        injection e with e
        subst e
        rw [Addr.add_lit]
        exact hc
      · simp at hu
    · obtain ⟨s, _, rfl⟩ := List.mem_map.1 hu
      rfl

theorem own_strs {w : World} {B : Nat} {e : TypeId} {v : Value} {l : List ByteArray} (h : w.ownsRow B e 1 v l.length (l.map Value.string)) : StrsAt w v l := by
  rcases h.2 with ⟨rfl, h0⟩ | ⟨g, c, cur, rfl, _, _, h1, h2, _⟩
  · have : l = [] := List.length_eq_zero_iff.1 h0
    subst this
    exact ⟨none, 0, rfl, by simp, by decide, fun j s hs => by simp at hs⟩
  · refine .mk _ rfl h1 h2 fun j s hs => ?_
    have := h.cells (g := g) rfl j (.string s) (by rw [List.getElem?_map, hs]; rfl)
    rwa [Addr.add_lit] at this

theorem str_eq (a b : ByteArray) (h : (a.toList == b.toList) = true) : a = b := by
  have h1 : a.toList = b.toList := by simpa using h
  rw [ByteArray.toList_eq, ByteArray.toList_eq] at h1
  exact ByteArray.ext (Array.toList_inj.1 h1)

theorem own_kept {w w' : World} {B : Nat} {e : TypeId} {z : Nat} {v : Value} {n : Nat} {xs : List Value} {S : Nat → Prop} (h : w.ownsRow B e z v n xs) (hc : Chg S w w') (hn : ∀ g, v.ownBlock = some g → ¬ S g) : w'.ownsRow B e z v n xs := by
  obtain ⟨h1, h2⟩ := h
  refine ⟨h1, ?_⟩
  rcases h2 with h2 | ⟨g, c, cur, rfl, hB, hg, r⟩
  · exact .inl h2
  · exact .inr ⟨g, c, cur, rfl, hB, (hc.block g (Array.getElem?_eq_some_iff.1 hg).1 (hn g rfl)).trans hg, r⟩

theorem own_base {w : World} {B B' : Nat} {e : TypeId} {z : Nat} {v : Value} {n : Nat} {xs : List Value} (h : w.ownsRow B e z v n xs) (hB : B' ≤ B) : w.ownsRow B' e z v n xs := by
  obtain ⟨h1, h2⟩ := h
  refine ⟨h1, ?_⟩
  rcases h2 with h2 | ⟨g, c, cur, rfl, hg, r⟩
  · exact .inl h2
  · exact .inr ⟨g, c, cur, rfl, by omega, r⟩

theorem own_lt {w : World} {B : Nat} {e : TypeId} {z : Nat} {v : Value} {n : Nat} {xs : List Value} (h : w.ownsRow B e z v n xs) (k : Nat) (hk : some k = v.ownBlock) : B ≤ k ∧ k < w.heap.size := World.ownsRow.lt h k hk.symm

section
variable {P : Program}
/-- append, from whatever source, onto a row that the call owns: both arms. -/
theorem run_append_src (w : World) (base : Nat) (t tx ty e : TypeId) (i : TypeInfo) (z : Value) (size bytes : Nat) (ht : P.underlying t = some (.slice e)) (hi : P.info? e = some i) (hz : i.zero = some z)
    (hsize : i.size = size) (hby : i.bytes = bytes) (hzs : z.cells.size = size) (hsz : 0 < size)
    (v : Value) (n : Nat) (xs : List Value) (hown : w.ownsRow base e size v n xs) (x : Value) (m : Nat) (news : List Value) (hs : Src P size tx x m news w)
    (h63 : n + m ≤ maxLen) (hbytes : (n + m) * bytes ≤ 140737488355328) (hbase : base ≤ w.heap.size) :
    ∃ v' w', (Builtin.append_ #[t, tx] ty #[v, x]).run P w = .ok v' w' ∧ w'.ownsRow base e size v' (n + m) (xs ++ news) ∧ Chg (fun k => some k = v.ownBlock) w w' ∧ (v'.ownBlock = v.ownBlock ∨ v'.ownBlock = some w.heap.size) := by
  subst hsize
  subst hby
  have hl := hs.newsLen
  have hlen : (xs ++ news).length = (n + m) * i.size := by rw [List.length_append, hown.1, hl, Nat.add_mul]
  have h63n : n + m ≤ 9223372036854775807 := by unfold maxLen at h63; omega
  have h63' : ((n + m : Nat) : Int) ≤ 9223372036854775807 := by omega
  have grown : ∀ (c : Nat) (row : Option Nat) , n + m ≤ c → c ≤ maxLen →
      (w.drew.alloc (.cells ((xs ++ news).toArray ++ Builtin.zeroCells z.cells (c - (n + m))) e)).ownsRow base e i.size (.slice (some ⟨w.heap.size, 0, none⟩) (n + m) c) (n + m) (xs ++ news) := by
    intro c row h1 h2
    refine ⟨hlen, .inr ⟨w.heap.size, c, _, rfl, hbase, heap_alloc_new w.drew _, h1, h2, ?_, ?_⟩⟩
    · simp only [Array.size_append, List.size_toArray, size_zeroCells, hzs, hlen, ← Nat.add_mul]
      congr 1
      omega
    · simp only [Array.toList_append]
      rw [← hlen]
      exact List.take_left
  rcases hown.2 with ⟨rfl, rfl⟩ | ⟨g, cap, cur, rfl, hbg, hg, hnc, hcm, hcs, htake⟩
  · have hx : xs = [] := List.eq_nil_of_length_eq_zero (by simpa using hown.1)
    subst hx
    by_cases hm : m = 0
    · subst hm
      have hn : news = [] := List.eq_nil_of_length_eq_zero (by simpa using hl)
      subst hn
      refine ⟨.slice none 0 0, w, ?_, World.ownsRow_nil w base e i.size, Chg.refl _ _, .inl rfl⟩
      have hc := hs.cells
      have hlx := hs.len w
      rcases hs.kind with ⟨e', hk⟩ | hk <;> simp [Builtin.append_, run_underlying ht, run_underlying hk, sizeOf, typeInfo, hi, hlx, hc]
    · have hold : (Builtin.firstCells i.size 0 (.slice none 0 0)).run P w.drew = .ok ([] : List Value).toArray w.drew := run_firstCells_none w.drew i.size 0 0 0
      have hfit : Builtin.nextslicecap (0 + m) 0 * i.bytes ≤ 281474976710656 := growslice_fits (by omega) hbytes
      have hr := run_append_grow_src (P := P) w t tx ty e i z ht hi hz none 0 0 [] hold x m news hs (by omega) h63' hfit
      refine ⟨_, _, hr, grown _ none (grownCap_ge ..) (grownCap_le_maxLen _ _ _ _ h63), ((Chg.refl _ w).drew).alloc _, .inr rfl⟩
  · by_cases hroom : n + m ≤ cap
    · have hsize' : n * i.size + news.length ≤ cur.size := by rw [hl, hcs, ← Nat.add_mul]; exact Nat.mul_le_mul_right _ hroom
      have hr := run_append_room_src (P := P) w t tx ty e i ht hi g 0 n cap x m news hs hroom
        (fun j hj => by simp [World.cell?, hg]; omega) (fun j hj => by simp [World.frozen?, hg])
      rw [Nat.zero_add] at hr
      have hg2 := heap_setCells news (n * i.size) w cur hg hsize'
      refine ⟨_, _, hr, ⟨hlen, .inr ⟨g, cap, _, rfl, hbg, hg2, hroom, hcm, ?_, ?_⟩⟩, (chg_setCells _ _ _).mono (fun k hk => by simp [Value.ownBlock, hk]), .inl rfl⟩
      · simp only [List.size_toArray, List.length_append, List.length_take, List.length_drop, Array.length_toList]
        omega
      · rw [htake, ← hlen]
        exact List.take_left
    · have holds : ∀ j u, xs[j]? = some u → w.drew.cell? ((⟨g, 0, none⟩ : Addr).add j) = some u := fun j u hu => hown.cells (g := g) rfl j u hu
      have hold := run_firstCells_some (P := P) w.drew i.size n ⟨g, 0, none⟩ n cap xs hown.1 holds
      have hr := run_append_grow_src (P := P) w t tx ty e i z ht hi hz (some ⟨g, 0, none⟩) n cap xs hold x m news hs (by omega) h63' (growslice_fits (by omega) hbytes)
      exact ⟨_, _, hr, grown _ none (grownCap_ge ..) (grownCap_le_maxLen _ _ _ _ h63), ((Chg.refl _ w).drew).alloc _, .inr rfl⟩

/-- The same, for the walk. -/
theorem wpList_append_src {ops : Array Oper} {rest : List Oper} {o : Oper} {a : Act} {w : World} {Q : Exit → Act → World → Prop}
    (hg : o.guard = none) (s y : Operand) (t tx : TypeId) (hop : o.op = Op.call { callee := Callee.builtin Builtin.append, args := #[s, y], argTypes := #[t, tx] })
    (base : Nat) (e : TypeId) (i : TypeInfo) (z : Value) (size bytes : Nat) (ht : P.underlying t = some (.slice e)) (hi : P.info? e = some i) (hz : i.zero = some z)
    (hsize : i.size = size) (hby : i.bytes = bytes) (hzs : z.cells.size = size) (hsz : 0 < size)
    (v : Value) (n : Nat) (xs : List Value) (hv : a.eval s = v) (hown : w.ownsRow base e size v n xs) (x : Value) (m : Nat) (news : List Value) (hx : a.eval y = x) (hs : Src P size tx x m news w)
    (h63 : n + m ≤ maxLen) (hbytes : (n + m) * bytes ≤ 140737488355328) (hbase : base ≤ w.heap.size)
    (hK : ∀ v' w', w'.ownsRow base e size v' (n + m) (xs ++ news) → Chg (fun k => some k = v.ownBlock) w w' → (v'.ownBlock = v.ownBlock ∨ v'.ownBlock = some w.heap.size) → wpList P ops Q rest (a.put o.dst v') w') :
    wpList P ops Q (o :: rest) a w := by
  refine wpList_plain hg fun _ hK' => ?_
  obtain ⟨v', w', hr, h2, h3, h4⟩ := run_append_src (P := P) w base t tx o.type e i z size bytes ht hi hz hsize hby hzs hsz v n xs hown x m news hs h63 hbytes hbase
  unfold Oper.wp execOp
  simp only [hop, resolve, invoke, builtin, Sem.run_bind, Sem.run_pure, Result.andThen_ok, List.map_toArray, List.map_cons, List.map_nil, hv, hx, hr]
  exact hK' _ _ (hK v' w' h2 h3 h4)

/-- The same, as one step of a region that draws. -/
theorem step_append_src {ops : Array Oper} {o : Oper} {a : Act} {w : World} {K : Act → World → Prop} {Q : Exit → Act → World → Prop} {E : Prop}
    (hg : o.guard = none) (s y : Operand) (t tx : TypeId) (hop : o.op = Op.call { callee := Callee.builtin Builtin.append, args := #[s, y], argTypes := #[t, tx] })
    (base : Nat) (e : TypeId) (i : TypeInfo) (z : Value) (size bytes : Nat) (ht : P.underlying t = some (.slice e)) (hi : P.info? e = some i) (hz : i.zero = some z)
    (hsize : i.size = size) (hby : i.bytes = bytes) (hzs : z.cells.size = size) (hsz : 0 < size)
    (v : Value) (n : Nat) (xs : List Value) (hv : a.eval s = v) (hown : w.ownsRow base e size v n xs) (x : Value) (m : Nat) (news : List Value) (hx : a.eval y = x) (hs : Src P size tx x m news w)
    (h63 : n + m ≤ maxLen) (hbytes : (n + m) * bytes ≤ 140737488355328) (hbase : base ≤ w.heap.size)
    (hK : ∀ v' w', w'.ownsRow base e size v' (n + m) (xs ++ news) → Chg (fun k => some k = v.ownBlock) w w' → (v'.ownBlock = v.ownBlock ∨ v'.ownBlock = some w.heap.size) → K (a.put o.dst v') w') :
    if Region.wanted o (yielded ops a.tmps) = true then Oper.wp P o a w K Q else E := by
  have hw : Region.wanted o (yielded ops a.tmps) = true := by simp [Region.wanted, hg]
  rw [if_pos hw]
  obtain ⟨v', w', hr, h2, h3, h4⟩ := run_append_src (P := P) w base t tx o.type e i z size bytes ht hi hz hsize hby hzs hsz v n xs hown x m news hs h63 hbytes hbase
  unfold Oper.wp
  simp [execOp, hop, resolve, invoke, builtin, hv, hx, hr, Result.andThen]
  exact hK v' w' h2 h3 h4
end

end Go.Proofs.YtkldkaahpicnmaaGreat
/- A disk's map as a list of names and bytes, in order: its readings, its room. -/
namespace Go.Proofs.YtkldkaahpicnmaaGreat
open Go.RowKit Go.ChangeMaps

/-- A name and its bytes. -/
abbrev KV := ByteArray × ByteArray
def kvLit (p : KV) : Lit × DataW Unit := (.string p.1.data.toList, .lit (.string p.2.data.toList))
def MD (l : List KV) : DataW Unit := .map (l.map kvLit)

theorem dl_inj {a b : ByteArray} (h : a.data.toList = b.data.toList) : a = b := ByteArray.ext (Array.toList_inj.1 h)
theorem key_inj {a b : ByteArray} (h : Lit.string a.data.toList = Lit.string b.data.toList) : a = b := by
  injection h with h; exact dl_inj h
theorem same_key (a b : ByteArray) : (Lit.string a.data.toList).sameKey (Lit.string b.data.toList) = decide (a = b) := by
  by_cases h : a = b
  · subst h; simp [Lit.sameKey]
  · have : a.data.toList ≠ b.data.toList := fun e => h (dl_inj e)
    simp [Lit.sameKey, h]
    intro e; exact this (by rw [e])

/-- What is held at a name. -/
def look (l : List KV) (k : ByteArray) : Option ByteArray := (l.find? fun p => decide (p.1 = k)).map (·.2)
def insKV (x : KV) : List KV → List KV
  | [] => [x]
  | y :: r => if (Lit.string x.1.data.toList).before (.string y.1.data.toList) then x :: y :: r else y :: insKV x r
def delKV (k : ByteArray) (l : List KV) : List KV := l.filter fun p => !decide (p.1 = k)
def putKV (k v : ByteArray) (l : List KV) : List KV := insKV (k, v) (delKV k l)

theorem md_find (l : List KV) (k : ByteArray) : (l.map kvLit).find? (fun p => p.1.sameKey (.string k.data.toList)) = (l.find? fun p => decide (p.1 = k)).map kvLit := by
  induction l with
  | nil => rfl
  | cons y r ih =>
    simp only [List.map_cons, List.find?_cons]
    rw [show (kvLit y).1.sameKey (.string k.data.toList) = decide (y.1 = k) from same_key y.1 k]
    cases decide (y.1 = k)
    · exact ih
    · rfl
theorem md_atKey (l : List KV) (k : ByteArray) (z : DataW Unit) : (MD l).atKey (.string k.data.toList) z = match look l k with | some v => .lit (.string v.data.toList) | none => z := by
  simp only [MD, DataW.atKey, md_find, look]
  cases l.find? fun p => decide (p.1 = k) <;> rfl
theorem md_has (l : List KV) (k : ByteArray) : Maps.has (MD l) (.string k.data.toList) = (look l k).isSome := by
  have e : Maps.has (MD l) (.string k.data.toList) = ((l.map kvLit).find? (fun p => p.1.sameKey (.string k.data.toList))).isSome := by
    rw [MD, Maps.has_eq, List.isSome_find?]
  rw [e, md_find, look]
  cases l.find? fun p => decide (p.1 = k) <;> rfl
theorem md_size (l : List KV) : Maps.size (MD l) = l.length := by rw [MD, Maps.size_eq, List.length_map]
theorem md_filter (l : List KV) (k : ByteArray) : (l.map kvLit).filter (fun p => !p.1.sameKey (.string k.data.toList)) = (delKV k l).map kvLit := by
  unfold delKV
  rw [List.filter_map]
  congr 1
  apply List.filter_congr
  intro p _
  rw [Function.comp_apply, show (kvLit p).1.sameKey (.string k.data.toList) = decide (p.1 = k) from same_key p.1 k]
theorem md_ins (x : KV) : ∀ l : List KV, DataW.insert (kvLit x) (l.map kvLit) = (insKV x l).map kvLit
  | [] => rfl
  | y :: r => by
    simp only [List.map_cons, DataW.insert, insKV, md_ins x r]
    show (if (Lit.string x.1.data.toList).before (.string y.1.data.toList) = true then _ else _) = _
    split <;> rfl
theorem md_put (l : List KV) (k v : ByteArray) : (MD l).put (.string k.data.toList) (.lit (.string v.data.toList)) = MD (putKV k v l) := by
  show DataW.map (DataW.insert (kvLit (k, v)) ((l.map kvLit).filter (fun p => !p.1.sameKey (.string k.data.toList)))) = _
  rw [md_filter, md_ins]
  rfl
theorem md_del (l : List KV) (k : ByteArray) : (MD l).del (.string k.data.toList) = MD (delKV k l) := by
  show DataW.map ((l.map kvLit).filter (fun p => !p.1.sameKey (.string k.data.toList))) = _
  rw [md_filter]
  rfl

/-- What all the names take. -/
def takesKV (p : KV) : Nat := p.1.size + p.2.size + 16
def tot : List KV → Nat
  | [] => 0
  | p :: r => takesKV p + tot r
def heldTakes (l : List KV) (k : ByteArray) : Nat := match look l k with | some v => k.size + v.size + 16 | none => 0

theorem tot_ins (x : KV) : ∀ l : List KV, tot (insKV x l) = takesKV x + tot l
  | [] => rfl
  | y :: r => by
    unfold insKV
    split
    · rfl
    · simp only [tot, tot_ins x r]; omega
theorem len_ins (x : KV) : ∀ l : List KV, (insKV x l).length = l.length + 1
  | [] => rfl
  | y :: r => by
    unfold insKV
    split
    · rfl
    · simp only [List.length_cons, len_ins x r]
theorem mem_ins (x z : KV) : ∀ l : List KV, z ∈ insKV x l ↔ z = x ∨ z ∈ l
  | [] => by simp [insKV]
  | y :: r => by
    unfold insKV
    split
    · simp
    · simp only [List.mem_cons, mem_ins x z r]
      constructor
      · rintro (h | h | h) <;> simp [h]
      · rintro (h | h | h) <;> simp [h]
/-- No name twice. -/
def Apartn (l : List KV) : Prop := l.Pairwise (fun p q => p.1 ≠ q.1)
theorem look_nil (k : ByteArray) : look [] k = none := rfl
theorem look_cons (p : KV) (l : List KV) (k : ByteArray) : look (p :: l) k = if p.1 = k then some p.2 else look l k := by
  unfold look
  rw [List.find?_cons]
  by_cases h : p.1 = k <;> simp [h]
theorem look_none {l : List KV} {k : ByteArray} (h : ∀ p ∈ l, p.1 ≠ k) : look l k = none := by
  induction l with
  | nil => rfl
  | cons y r ih => rw [look_cons, if_neg (h y (by simp)), ih (fun p hp => h p (by simp [hp]))]
theorem look_mem {l : List KV} {k v : ByteArray} (h : look l k = some v) : (k, v) ∈ l := by
  induction l with
  | nil => cases h
  | cons y r ih =>
    rw [look_cons] at h
    split at h
    · rename_i e; cases h; simp [← e]
    · simp [ih h]
theorem mem_look {l : List KV} (ha : Apartn l) {p : KV} (h : p ∈ l) : look l p.1 = some p.2 := by
  induction l with
  | nil => cases h
  | cons y r ih =>
    rw [look_cons]
    obtain ⟨h1, h2⟩ := List.pairwise_cons.1 ha
    rcases List.mem_cons.1 h with rfl | hr
    · simp
    · rw [if_neg (h1 p hr), ih h2 hr]
theorem delKV_cons (k : ByteArray) (p : KV) (l : List KV) : delKV k (p :: l) = if p.1 = k then delKV k l else p :: delKV k l := by
  unfold delKV
  rw [List.filter_cons]
  by_cases h : p.1 = k <;> simp [h]
theorem delKV_none {l : List KV} {k : ByteArray} (h : ∀ p ∈ l, p.1 ≠ k) : delKV k l = l := by
  unfold delKV
  rw [List.filter_eq_self]
  intro p hp
  simp [h p hp]
theorem mem_del {l : List KV} {k : ByteArray} {p : KV} : p ∈ delKV k l ↔ p ∈ l ∧ p.1 ≠ k := by
  unfold delKV
  simp
theorem tot_del {l : List KV} (ha : Apartn l) (k : ByteArray) : tot (delKV k l) + heldTakes l k = tot l := by
  induction l with
  | nil => rfl
  | cons y r ih =>
    obtain ⟨h1, h2⟩ := List.pairwise_cons.1 ha
    have ih := ih h2
    rw [delKV_cons]
    unfold heldTakes at ih ⊢
    rw [look_cons]
    by_cases h : y.1 = k
    · rw [if_pos h, if_pos h, delKV_none (fun p hp => by rw [← h]; exact Ne.symm (h1 p hp))]
      simp only [tot, takesKV, ← h]; omega
    · rw [if_neg h, if_neg h]
      simp only [tot]; omega
theorem len_del_le (k : ByteArray) (l : List KV) : (delKV k l).length ≤ l.length := List.length_filter_le _ _
theorem look_del_same (k : ByteArray) (l : List KV) : look (delKV k l) k = none := look_none fun p hp => (mem_del.1 hp).2
theorem look_del_other {k k' : ByteArray} (h : k' ≠ k) (l : List KV) : look (delKV k l) k' = look l k' := by
  induction l with
  | nil => rfl
  | cons y r ih =>
    rw [delKV_cons, look_cons]
    split
    · rename_i e; rw [if_neg (by rw [e]; exact fun e => h e.symm), ih]
    · rw [look_cons, ih]
theorem look_ins_same (x : KV) : ∀ l : List KV, (∀ p ∈ l, p.1 ≠ x.1) → look (insKV x l) x.1 = some x.2
  | [], _ => by simp [insKV, look_cons]
  | y :: r, h => by
    unfold insKV
    split
    · simp [look_cons]
    · rw [look_cons, if_neg (h y (by simp)), look_ins_same x r (fun p hp => h p (by simp [hp]))]
theorem look_ins_other (x : KV) (k : ByteArray) (hk : x.1 ≠ k) : ∀ l : List KV, look (insKV x l) k = look l k
  | [] => by simp [insKV, look_cons, hk, look_nil]
  | y :: r => by
    unfold insKV
    split
    · rw [look_cons, if_neg hk]
    · rw [look_cons, look_cons, look_ins_other x k hk r]
theorem look_put_same (k v : ByteArray) (l : List KV) : look (putKV k v l) k = some v := look_ins_same (k, v) _ fun p hp => (mem_del.1 hp).2
theorem look_put_other {k k' : ByteArray} (h : k' ≠ k) (v : ByteArray) (l : List KV) : look (putKV k v l) k' = look l k' := by
  unfold putKV
  rw [look_ins_other _ _ (fun e => h e.symm), look_del_other h]
theorem apart_del {l : List KV} (h : Apartn l) (k : ByteArray) : Apartn (delKV k l) := List.Pairwise.filter _ h
theorem apart_ins (x : KV) : ∀ l : List KV, Apartn l → (∀ p ∈ l, p.1 ≠ x.1) → Apartn (insKV x l)
  | [], _, _ => by simp [insKV, Apartn]
  | y :: r, h, hx => by
    unfold insKV
    split
    · exact List.pairwise_cons.2 ⟨fun p hp => Ne.symm (hx p hp), h⟩
    · obtain ⟨h1, h2⟩ := List.pairwise_cons.1 h
      refine List.pairwise_cons.2 ⟨fun p hp => ?_, apart_ins x r h2 fun p hp => hx p (by simp [hp])⟩
      rcases (mem_ins _ _ _).1 hp with rfl | hp
      · exact hx y (by simp)
      · exact h1 p hp
theorem apart_put {l : List KV} (h : Apartn l) (k v : ByteArray) : Apartn (putKV k v l) := apart_ins _ _ (apart_del h k) fun _ hp => (mem_del.1 hp).2
theorem tot_put {l : List KV} (h : Apartn l) (k v : ByteArray) : tot (putKV k v l) + heldTakes l k = tot l + (k.size + v.size + 16) := by
  unfold putKV
  rw [tot_ins]
  have := tot_del h k
  simp only [takesKV]; omega
theorem len_tot : ∀ l : List KV, 16 * l.length ≤ tot l
  | [] => by simp
  | p :: r => by have := len_tot r; simp only [List.length_cons, tot, takesKV]; omega
theorem mem_tot {p : KV} : ∀ {l : List KV}, p ∈ l → takesKV p ≤ tot l
  | y :: r, h => by
    rcases List.mem_cons.1 h with rfl | h
    · simp only [tot]; omega
    · have := mem_tot h; simp only [tot]; omega
theorem look_size {l : List KV} {k v : ByteArray} (h : look l k = some v) : k.size + v.size + 16 ≤ tot l := mem_tot (look_mem h)

/-- What is still to come takes. -/
def totLeft (left : Lit → Bool) (l : List KV) : Nat := tot (l.filter fun p => left (.string p.1.data.toList))
theorem totLeft_all {l : List KV} (left : Lit → Bool) (h : ∀ p ∈ l, left (.string p.1.data.toList) = true) : totLeft left l = tot l := by
  unfold totLeft
  rw [List.filter_eq_self.2 h]
theorem totLeft_has (l : List KV) : totLeft (Maps.has (MD l)) l = tot l := totLeft_all _ fun p hp => by
  rw [md_has]
  cases h : look l p.1
  · unfold look at h
    simp only [Option.map_eq_none_iff, List.find?_eq_none] at h
    exact absurd (h p hp) (by simp)
  · rfl
theorem totLeft_none {l : List KV} {left : Lit → Bool} (h : ∀ k, left k = false) : totLeft left l = 0 := by
  unfold totLeft
  rw [List.filter_eq_nil_iff.2 (fun p _ => by simp [h])]
  rfl
theorem totLeft_step {l : List KV} (ha : Apartn l) {left : Lit → Bool} {k v : ByteArray} (hk : left (.string k.data.toList) = true) (hv : look l k = some v) :
    totLeft left l = totLeft (fun z => left z && !z.sameKey (.string k.data.toList)) l + (k.size + v.size + 16) := by
  have e : (l.filter fun p => (left (.string p.1.data.toList) && !(Lit.string p.1.data.toList).sameKey (.string k.data.toList))) = delKV k (l.filter fun p => left (.string p.1.data.toList)) := by
    unfold delKV
    rw [List.filter_filter]
    apply List.filter_congr
    intro p _
    rw [same_key, Bool.and_comm]
  unfold totLeft
  rw [e]
  have h1 := tot_del (l := l.filter fun p => left (.string p.1.data.toList)) (List.Pairwise.filter _ ha) k
  have h2 : look (l.filter fun p => left (.string p.1.data.toList)) k = some v := by
    have := mem_look (l := l.filter fun p => left (.string p.1.data.toList)) (List.Pairwise.filter _ ha) (p := (k, v)) (List.mem_filter.2 ⟨look_mem hv, hk⟩)
    exact this
  rw [← h1]
  unfold heldTakes
  rw [h2]

/-- The map's block reads as the list. -/
abbrev MapAt (w : World) (b : Nat) (l : List KV) : Prop := w.ownsMap Tryz.prog 9 (plainElem Tryz.prog 9) b l.length (MD l)
theorem Tryz.keyed9 : Maps.Keyed Tryz.prog 9 := Maps.string_keyed Tryz.underlying9
theorem own_exact {w : World} {b n : Nat} {l : List KV} (h : w.ownsMap Tryz.prog 9 (plainElem Tryz.prog 9) b n (MD l)) : MapAt w b l := by
  have hd := h
  obtain ⟨es, clock, hb, F, hs, hD⟩ := h
  refine ⟨es, clock, hb, F, ?_, hD⟩
  have := congrArg Maps.size hD
  rw [md_size, Maps.size_eq, length_read] at this
  omega
theorem MapAt.apart {w : World} {b : Nat} {l : List KV} (h : MapAt w b l) : Apartn l := by
  obtain ⟨es, he, hp, _⟩ := World.ownsMap.entries h Tryz.keyed9
  have : l.map kvLit = es := by
    unfold MD at he; injection he
  subst this
  rw [List.pairwise_map] at hp
  exact hp.imp fun {p q} hne e => hne (by unfold kvLit; rw [e])
theorem MapAt.chg {S : Nat → Prop} {w w' : World} {b : Nat} {l : List KV} (h : MapAt w b l) (hc : Chg S w w') (hn : ¬ S b) : MapAt w' b l := by
  obtain ⟨es, clock, hb, r⟩ := h
  exact ⟨es, clock, (hc.block b (Array.getElem?_eq_some_iff.1 hb).1 hn).trans hb, r⟩
theorem turned_chg {w w' : World} {b : Nat} (h : w.mapTurned w' b) : Chg (fun k => k = b) w w' :=
  (Chg.grown h.grown).mono fun i hi => by injection hi
theorem MapAt.key_le {w : World} {b : Nat} {l : List KV} (h : MapAt w b l) : ∀ p ∈ l, p.1.size ≤ tot l ∧ p.2.size ≤ tot l := fun p hp => by
  have := mem_tot hp
  unfold takesKV at this; omega
end Go.Proofs.YtkldkaahpicnmaaGreat
/- A disk: New, takes, Read, Room. -/
namespace Go.Proofs.YtkldkaahpicnmaaGreat
open Go.RowKit Go.ChangeMaps

/-- A disk's block p holds its size and a map's block b, which reads as l; all that is held fits. -/
structure DiskAt (w : World) (p b : Nat) (size : Nat) (l : List KV) : Prop where
  at_ : w.heap[p]? = some (.cells #[.int .i64 size, .map (some b)] 56 (0, 0))
  own : MapAt w b l
  ne : p ≠ b
  fits : tot l ≤ size
  small : size ≤ 4194304

theorem DiskAt.chg {S : Nat → Prop} {w w' : World} {p b size : Nat} {l : List KV} (h : DiskAt w p b size l) (hc : Chg S w w') (hp : ¬ S p) (hb : ¬ S b) : DiskAt w' p b size l :=
  ⟨(hc.block p (Array.getElem?_eq_some_iff.1 h.at_).1 hp).trans h.at_, h.own.chg hc hb, h.ne, h.fits, h.small⟩
theorem DiskAt.cell0 {w : World} {p b size : Nat} {l : List KV} (h : DiskAt w p b size l) : w.cell? ⟨p, 0, none⟩ = some (.int .i64 size) := by
  simp [World.cell?, h.at_]
theorem DiskAt.cell1 {w : World} {p b size : Nat} {l : List KV} (h : DiskAt w p b size l) : w.cell? ⟨p, 1, none⟩ = some (.map (some b)) := by
  simp [World.cell?, h.at_]

theorem takes_any (a b : ByteArray) (w : World) (ha : a.size ≤ 140737488351232) (hb : b.size ≤ 140737488351232) :
    Calls Tryz.prog 37 #[.string a, .string b] w fun e w' => e = .returned (.int .i64 ((a.size + b.size + 16 : Nat) : Int)) ∧ w = w' := by
  have e1 : wrap64 (wrap64 ((a.size : Int) + (b.size : Int)) + 16) = ((a.size + b.size + 16 : Nat) : Int) := by unfold wrap64; omega
  have E := Lib.hid e1
  clear e1
  go_enter Tryz.func37, Tryz.ntmps37
  go_wp2
  go_ret
  exact ⟨ret_int (by omega), rfl⟩

theorem new_bad (n : Int) (w : World) (h : n < 0 ∨ 4194304 < n) :
    Calls Tryz.prog 8 #[.int .i64 n] w fun e w' => e = .returned (.tuple #[.pointer none, .int .i64 1]) ∧ w = w' := by
  go_enter Tryz.func8, Tryz.ntmps8
  go_wp2
  all_goals go_ret2
  all_goals exact ⟨rfl, rfl⟩

theorem new_any (n : Nat) (w : World) (h : n ≤ 4194304) :
    Calls Tryz.prog 8 #[.int .i64 (n : Int)] w fun e w' => ∃ p b, e = .returned (.tuple #[.pointer (some ⟨p, 0, none⟩), .int .i64 0]) ∧ DiskAt w' p b n [] ∧ Below w.heap.size w w' ∧ w.heap.size ≤ p ∧ w.heap.size ≤ b := by
  have h1 : ¬ ((n : Int) < 0) := by omega
  have h2 : ¬ ((4194304 : Int) < (n : Int)) := by omega
  have hmm := @run_makeMap Tryz.prog
  go_enter Tryz.func8, Tryz.ntmps8
  go_wp2
  go_ret2
  have hm : (w.alloc (.map #[] 0)).ownsMap Tryz.prog 9 (plainElem Tryz.prog 9) w.heap.size 0 (MD []) := World.ownsMap_made w _ _ _
  have e : w.heap.size + 1 = (w.alloc (.map #[] 0)).heap.size := by simp
  rw [e]
  exact ⟨_, rfl, _, ⟨heap_alloc_new _ _, hm.alloc _, by simp, by simp [tot], h⟩, ((Below.refl _ w).alloc (Nat.le_refl _) _).alloc (by simp) _, by simp, Nat.le_refl _⟩

set_option maxRecDepth 100000 in
theorem MapAt.look_run {w : World} {b : Nat} {l : List KV} (h : MapAt w b l) (k : ByteArray) (hk : k.size ≤ maxLen) :
    (Instr.lookup 54 (.map (some b)) (.string k) true).run Tryz.prog w = .ok (.tuple #[.string ((look l k).getD ByteArray.empty), .bool (look l k).isSome]) w := by
  obtain ⟨v, ps, hr, hv⟩ := World.ownsMap.look_ok h Tryz.keyed9 Tryz.underlying54 (z := .string ByteArray.empty) (by kernel_rfl) (zd := .lit (.string [])) (zp := []) (plainElem_string (s := ByteArray.empty) Tryz.underlying9 (by decide)) (WideMaps.keyOf_string_mk Tryz.underlying9 hk)
  rw [md_atKey] at hv
  obtain ⟨s, rfl, hz, _⟩ := plainElem_string_inv Tryz.underlying9 hv
  rw [hr, md_has]
  congr 5
  cases hl : look l k with
  | none =>
    rw [hl] at hz
    simp only [Prod.mk.injEq, DataW.lit.injEq, Lit.string.injEq] at hz
    exact dl_inj (by rw [← hz.1]; rfl)
  | some u =>
    rw [hl] at hz
    simp only [Prod.mk.injEq, DataW.lit.injEq, Lit.string.injEq] at hz
    exact dl_inj hz.1.symm

/-- What Read answers: the code. -/
def readE (l : List KV) (k : ByteArray) : Int := if (look l k).isSome then 0 else 8

set_option maxRecDepth 100000 in
theorem read_any (p b size : Nat) (l : List KV) (k : ByteArray) (w : World) (h : DiskAt w p b size l) (hk : k.size ≤ maxLen) :
    Calls Tryz.prog 24 #[.pointer (some ⟨p, 0, none⟩), .string k] w fun e w' => e = .returned (.tuple #[.string ((look l k).getD ByteArray.empty), .int .i64 (readE l k)]) ∧ w = w' := by
  have c1 := h.cell1
  have hl := h.own.look_run k hk
  unfold readE
  cases hk : look l k with
  | none =>
    rw [hk] at hl
    simp only [Option.getD_none, Option.isSome_none] at hl
    go_enter Tryz.func24, Tryz.ntmps24
    go_wp2
    go_ret2
    exact ⟨rfl, rfl⟩
  | some v =>
    rw [hk] at hl
    simp only [Option.getD_some, Option.isSome_some] at hl
    go_enter Tryz.func24, Tryz.ntmps24
    go_wp2
    go_ret2
    exact ⟨rfl, rfl⟩


theorem keyOf_string_inv {key : Value} {kl : Lit} (h : keyOf Tryz.prog 9 key = some kl) : ∃ x, key = Value.string x := by
  obtain ⟨s, rfl, _⟩ := WideMaps.string_of_keyOf Tryz.underlying9 h
  exact ⟨s, rfl⟩

/-- The range's step, names and bytes. -/
theorem next_ss (w : World) {ops : Array Oper} {rest : List Oper} {o : Oper} {a : Act} {Q : Exit → Act → World → Prop}
    (hg : o.guard = none) (it : Operand) (hop : o.op = Op.next it false) (b r n : Nat) (l : List KV) (left : Lit → Bool) (cnt : Nat) (hit : a.eval it = .pointer (some ⟨r, 0, none⟩)) (h : w.ranges Tryz.prog 9 (plainElem Tryz.prog 9) b r n (MD l) left cnt)
    (hDone : cnt = 0 → (∀ kl, left kl = false) → wpList Tryz.prog ops Q rest (a.put o.dst (.tuple #[.bool false])) w)
    (hMore : ∀ (x c : ByteArray) (w' : World) (cnt' : Nat), left (.string x.data.toList) = true → look l x = some c → w'.ranges Tryz.prog 9 (plainElem Tryz.prog 9) b r n (MD l) (fun z => left z && !z.sameKey (.string x.data.toList)) cnt' → cnt' < cnt →
      w.grownBy w' (some r) → w'.heap.size = w.heap.size → (Instr.entry (.pointer (some ⟨r, 0, none⟩))).run Tryz.prog w' = .ok (.tuple #[.string x, .string c]) w' → wpList Tryz.prog ops Q rest (a.put o.dst (.tuple #[.bool true, .string x, .string c])) w') :
    wpList Tryz.prog ops Q (o :: rest) a w :=
  wpList_next_ranges w hg it hop 9 Tryz.keyed9 (plainElem Tryz.prog 9) Value.string Value.string (fun key kl hkey => keyOf_string_inv hkey) (fun v y hv => by obtain ⟨c, rfl, _⟩ := plainElem_string_inv Tryz.underlying9 hv; exact ⟨c, rfl⟩)
    b r n (MD l) left cnt hit h hDone (fun x c kl y w' cnt' hkey hlk hv hat hrg hlt hgr hsz hen => by
      obtain ⟨x', ex, rfl, _⟩ := WideMaps.string_of_keyOf Tryz.underlying9 hkey
      cases ex
      obtain ⟨c', ec, rfl, _⟩ := plainElem_string_inv Tryz.underlying9 hv
      cases ec
      refine hMore x c w' cnt' hlk ?_ hrg hlt hgr hsz hen
      have e := hat .nil
      rw [md_atKey] at e
      cases hl : look l x with
      | none => rw [hl] at e; cases e
      | some u =>
        rw [hl] at e
        simp only [DataW.lit.injEq, Lit.string.injEq] at e
        rw [dl_inj e])

theorem grown_below {a b : World} {row : Option Nat} (h : a.grownBy b row) (hr : ∀ k, row = some k → a.heap.size ≤ k) : Below a.heap.size a b :=
  (Chg.grown h).below (Nat.le_refl _) fun i hi => hr i hi.symm

theorem _root_.Go.RowKit.Below.trans_row {w a b : World} (h : Below w.heap.size w a) (hg : a.grownBy b (some w.heap.size)) : Below w.heap.size w b :=
  h.trans ((Chg.grown hg).below h.size fun i hi => by injection hi with hi; omega)

set_option maxHeartbeats 1000000 in
theorem room_any (p b size : Nat) (l : List KV) (w : World) (h : DiskAt w p b size l) :
    Calls Tryz.prog 36 #[.pointer (some ⟨p, 0, none⟩)] w fun e w' => e = .returned (.int .i64 ((size : Int) - (tot l : Int))) ∧ Below w.heap.size w w' := by
  have c0 := h.cell0
  have c1 := h.cell1
  have own := h.own
  have hap := h.own.apart
  have hfits := h.fits
  have hsmall := h.small
  go_enter Tryz.func36, Tryz.ntmps36
  go_wp2_with (first | (at_range; refine wpList_range_own _ rfl _ 54 rfl 9 9 Tryz.keyed9 Tryz.underlying54 _ b l.length (MD l) rfl own ?_; intro w0 hrg0 hg0 hs0) | go_in); go_frame
  go_loopw [3] (fun o wr => ∃ left cnt, wr.ranges Tryz.prog 9 (plainElem Tryz.prog 9) b w.heap.size l.length (MD l) left cnt ∧ o = .int .i64 ((size : Int) - (tot l : Int) + (totLeft left l : Int)) ∧ Below w.heap.size w wr ∧ totLeft left l ≤ tot l) (fun _ wr => wr.rangeLeft b w.heap.size)
  case atStart => exact ⟨_, _, hrg0, by rw [totLeft_has]; congr 1; omega, grown_below hg0 (by simp), by rw [totLeft_has]; exact Nat.le_refl _⟩
  case round =>
    obtain ⟨left, cnt, hrg, rfl, hb, htl⟩ := hrel
    go_wp2_with (first
      | (at_next; refine next_ss _ rfl _ rfl b w.heap.size l.length l left cnt rfl hrg (fun hc0 hl0 => ?_) (fun x c w1 cnt1 hlx hlk hrg1 hlt hg1 hs1 hen => ?_))
      | (go_at_call 37; refine (takes_any _ _ _ (by have := look_size hlk; omega) (by have := look_size hlk; omega)).mono ?_; rintro e w' ⟨rfl, rfl⟩))
    · go_ret
      rw [totLeft_none hl0]
      exact ⟨ret_int (by omega), hb⟩
    · have hst := totLeft_step hap hlx hlk
      refine ⟨⟨_, cnt1, hrg1, ?_, hb.trans_row hg1, by omega⟩, by rw [hrg1.left_eq, hrg.left_eq]; exact hlt⟩
      congr 1
      unfold wrap64
      omega

end Go.Proofs.YtkldkaahpicnmaaGreat
/- A disk: Write, Delete, Spoil, Lose. -/
namespace Go.Proofs.YtkldkaahpicnmaaGreat
set_option maxRecDepth 100000
open Go.RowKit Go.ChangeMaps Go.MapKept

/-- What Write answers, and what is held behind it. -/
def writeE (size : Nat) (l : List KV) (k v : ByteArray) : Int := if k.size = 0 ∨ 64 < k.size then 1 else if size + heldTakes l k < tot l + (k.size + v.size + 16) then 9 else 0
def writeS (size : Nat) (l : List KV) (k v : ByteArray) : List KV := if k.size = 0 ∨ 64 < k.size then l else if size + heldTakes l k < tot l + (k.size + v.size + 16) then l else putKV k v l

theorem MapAt.store_run {w : World} {b : Nat} {l : List KV} (h : MapAt w b l) (k v : ByteArray) (hk : k.size ≤ maxLen) (hv : v.size ≤ maxLen) (hl : l.length < maxLen) :
    ∃ w', (Instr.mapUpdate 54 (.map (some b)) (.string k) (.string v)).run Tryz.prog w = .ok () w' ∧ MapAt w' b (putKV k v l) ∧ Chg (fun i => i = b) w w' := by
  obtain ⟨w', hr, h1, h2⟩ := World.ownsMap.store h Tryz.keyed9 Tryz.underlying54 hl (WideMaps.keyOf_string_mk Tryz.underlying9 hk) (plainElem_string Tryz.underlying9 hv)
  rw [md_put] at h1
  exact ⟨w', hr, own_exact h1, turned_chg h2⟩
theorem MapAt.drop_run {w : World} {b : Nat} {l : List KV} (h : MapAt w b l) (k : ByteArray) (hk : k.size ≤ maxLen) (ty : TypeId) :
    ∃ w', (Builtin.delete_ #[54, 9] ty #[.map (some b), .string k]).run Tryz.prog w = .ok (.tuple #[]) w' ∧ MapAt w' b (delKV k l) ∧ Chg (fun i => i = b) w w' := by
  obtain ⟨w', hr, h1, h2⟩ := World.ownsMap.drop h Tryz.keyed9 Tryz.underlying54 (WideMaps.keyOf_string_mk Tryz.underlying9 hk) ty
  rw [md_del] at h1
  exact ⟨w', hr, own_exact h1, turned_chg h2⟩
theorem MapAt.clear_run {w : World} {b : Nat} {l : List KV} (h : MapAt w b l) (ty : TypeId) :
    ∃ w', (Builtin.clear_ #[54] ty #[.map (some b)]).run Tryz.prog w = .ok (.tuple #[]) w' ∧ MapAt w' b [] ∧ Chg (fun i => i = b) w w' := by
  obtain ⟨es, clock, hb, F, hs, hD⟩ := h
  refine ⟨setBlock w b (.map #[] clock), ?_, ⟨#[], clock, heap_setBlock_same hb _, ?_, by simp, rfl⟩, ?_⟩
  · simp [Builtin.clear_, run_underlying Tryz.underlying54, MapKept.run_getObj_map hb, MapKept.run_setObj_map _ hb, Result.andThen]
    rfl
  · exact ⟨by simp, stamped_empty clock, by simp⟩
  · exact ⟨rfl, rfl, rfl, by simp [setBlock], fun i _ hi => heap_setBlock_other hb _ (fun e => hi e)⟩

theorem DiskAt.below {w w' : World} {p b size : Nat} {l : List KV} (h : DiskAt w p b size l) {B : Nat} (hb : Below B w w') (hp : p < B) (hq : b < B) : DiskAt w' p b size l :=
  ⟨(hb.block p hp).trans h.at_, (by
    obtain ⟨es, clock, hb', r⟩ := h.own
    exact ⟨es, clock, (hb.block b hq).trans hb', r⟩), h.ne, h.fits, h.small⟩
theorem DiskAt.lt {w : World} {p b size : Nat} {l : List KV} (h : DiskAt w p b size l) : p < w.heap.size ∧ b < w.heap.size := by
  obtain ⟨es, clock, hb', r⟩ := h.own
  exact ⟨(Array.getElem?_eq_some_iff.1 h.at_).1, (Array.getElem?_eq_some_iff.1 hb').1⟩
theorem isEmpty_iff (k : ByteArray) : k.toList.isEmpty = decide (k.size = 0) := by
  rw [ByteArray.toList_eq, ByteArray.size, ← Array.length_toList]
  cases k.data.toList <;> simp

theorem write_bad (p b size : Nat) (l : List KV) (k v : ByteArray) (w : World) (hk : k.size = 0 ∨ 64 < k.size) :
    Calls Tryz.prog 17 #[.pointer (some ⟨p, 0, none⟩), .string k, .string v] w fun e w' => e = .returned (.int .i64 1) ∧ w = w' := by
  have h0 := isEmpty_iff k
  by_cases h1 : k.size = 0
  · rw [decide_eq_true h1] at h0
    go_enter Tryz.func17, Tryz.ntmps17
    go_wp2
    go_ret
    exact ⟨rfl, rfl⟩
  · rw [decide_eq_false h1] at h0
    have h2 : (64 : Int) < (k.size : Int) := by omega
    go_enter Tryz.func17, Tryz.ntmps17
    go_wp2
    go_ret
    exact ⟨rfl, rfl⟩

set_option maxHeartbeats 1000000 in
theorem write_full (p b size : Nat) (l : List KV) (k v : ByteArray) (w : World) (h : DiskAt w p b size l) (hk : ¬ (k.size = 0 ∨ 64 < k.size)) (hv : v.size ≤ 140737488351232) (hf : size + heldTakes l k < tot l + (k.size + v.size + 16)) :
    Calls Tryz.prog 17 #[.pointer (some ⟨p, 0, none⟩), .string k, .string v] w fun e w' => e = .returned (.int .i64 9) ∧ Below w.heap.size w w' := by
  have hro := room_any p b size l w h
  have h0 := isEmpty_iff k
  rw [decide_eq_false (by omega)] at h0
  have h2 : ¬ ((64 : Int) < (k.size : Int)) := by omega
  have hks : k.size ≤ maxLen := by unfold maxLen; omega
  have hfits := h.fits
  have hsmall := h.small
  cases hlk : look l k with
  | none =>
    have e : heldTakes l k = 0 := by unfold heldTakes; rw [hlk]
    have hc : (size : Int) - (tot l : Int) < (k.size : Int) + (v.size : Int) + 16 := by omega
    go_enter Tryz.func17, Tryz.ntmps17
    go_wp2_with (first
      | (go_at_call 36; refine hro.mono ?_; rintro e w1 ⟨rfl, hb1⟩; have hd1 := h.below hb1 h.lt.1 h.lt.2; have c1 := hd1.cell1; have hl := hd1.own.look_run k hks; rw [hlk] at hl; simp only [Option.getD_none, Option.isSome_none] at hl)
      | (go_at_call 37; refine (takes_any _ _ _ (by omega) (by omega)).mono ?_; rintro e w' ⟨rfl, rfl⟩))
    all_goals (go_ret; exact ⟨rfl, hb1⟩)
  | some u =>
    have e : heldTakes l k = k.size + u.size + 16 := by unfold heldTakes; rw [hlk]
    have hus := look_size hlk
    have hc : (size : Int) - (tot l : Int) + ((k.size : Int) + (u.size : Int) + 16) < (k.size : Int) + (v.size : Int) + 16 := by omega
    go_enter Tryz.func17, Tryz.ntmps17
    go_wp2_with (first
      | (go_at_call 36; refine hro.mono ?_; rintro e w1 ⟨rfl, hb1⟩; have hd1 := h.below hb1 h.lt.1 h.lt.2; have c1 := hd1.cell1; have hl := hd1.own.look_run k hks; rw [hlk] at hl; simp only [Option.getD_some, Option.isSome_some] at hl)
      | (go_at_call 37; refine (takes_any _ _ _ (by omega) (by omega)).mono ?_; rintro e w' ⟨rfl, rfl⟩))
    all_goals (go_ret; exact ⟨rfl, hb1⟩)

theorem write_step {w w1 w2 : World} {p b size : Nat} {l : List KV} {k v : ByteArray} (h : DiskAt w p b size l) (hb : Below w.heap.size w w1) (hd : DiskAt w1 p b size l) (hm : MapAt w2 b (putKV k v l)) (hc : Chg (fun i => i = b) w1 w2)
    (hf : tot l + (k.size + v.size + 16) ≤ size + heldTakes l k) : DiskAt w2 p b size (putKV k v l) ∧ Chg (fun i => i = b) w w2 := by
  have ht := tot_put h.own.apart k v
  exact ⟨⟨(hc.block p hd.lt.1 h.ne).trans hd.at_, hm, h.ne, by omega, h.small⟩, ⟨hc.os.trans hb.os, hc.tape.trans hb.tape, hc.output.trans hb.output, Nat.le_trans hb.size hc.size, fun i hi hn => (hc.block i (Nat.lt_of_lt_of_le hi hb.size) hn).trans (hb.block i hi)⟩⟩

set_option maxHeartbeats 1000000 in
set_option maxRecDepth 100000 in
theorem write_ok (p b size : Nat) (l : List KV) (k v : ByteArray) (w : World) (h : DiskAt w p b size l) (hk : ¬ (k.size = 0 ∨ 64 < k.size)) (hf : tot l + (k.size + v.size + 16) ≤ size + heldTakes l k) :
    Calls Tryz.prog 17 #[.pointer (some ⟨p, 0, none⟩), .string k, .string v] w fun e w' => e = .returned (.int .i64 0) ∧ DiskAt w' p b size (putKV k v l) ∧ Chg (fun i => i = b) w w' := by
  have hro := room_any p b size l w h
  have h0 := isEmpty_iff k
  rw [decide_eq_false (by omega)] at h0
  have h2 : ¬ ((64 : Int) < (k.size : Int)) := by omega
  have hks : k.size ≤ maxLen := by unfold maxLen; omega
  have hfits := h.fits
  have hsmall := h.small
  have hld := tot_del h.own.apart k
  have hvs : v.size ≤ maxLen := by unfold maxLen; omega
  have hll : l.length < maxLen := by have := len_tot l; unfold maxLen; omega
  cases hlk : look l k with
  | none =>
    have e : heldTakes l k = 0 := by unfold heldTakes; rw [hlk]
    have hc : ¬ ((size : Int) - (tot l : Int) < (k.size : Int) + (v.size : Int) + 16) := by omega
    go_enter Tryz.func17, Tryz.ntmps17
    go_wp2_with (first
      | (go_at_call 36; refine hro.mono ?_; rintro e w1 ⟨rfl, hb1⟩; have hd1 := h.below hb1 h.lt.1 h.lt.2; have c1 := hd1.cell1; have hl := hd1.own.look_run k hks; rw [hlk] at hl; simp only [Option.getD_none, Option.isSome_none] at hl; obtain ⟨w2, hst, hm2, hch2⟩ := hd1.own.store_run k v hks hvs hll)
      | (go_at_call 37; refine (takes_any _ _ _ (by omega) (by omega)).mono ?_; rintro e w' ⟨rfl, rfl⟩))
    all_goals (go_ret; exact ⟨rfl, write_step h hb1 hd1 hm2 hch2 hf⟩)
  | some u =>
    have e : heldTakes l k = k.size + u.size + 16 := by unfold heldTakes; rw [hlk]
    have hus := look_size hlk
    have hc : ¬ ((size : Int) - (tot l : Int) + ((k.size : Int) + (u.size : Int) + 16) < (k.size : Int) + (v.size : Int) + 16) := by omega
    go_enter Tryz.func17, Tryz.ntmps17
    go_wp2_with (first
      | (go_at_call 36; refine hro.mono ?_; rintro e w1 ⟨rfl, hb1⟩; have hd1 := h.below hb1 h.lt.1 h.lt.2; have c1 := hd1.cell1; have hl := hd1.own.look_run k hks; rw [hlk] at hl; simp only [Option.getD_some, Option.isSome_some] at hl; obtain ⟨w2, hst, hm2, hch2⟩ := hd1.own.store_run k v hks hvs hll)
      | (go_at_call 37; refine (takes_any _ _ _ (by omega) (by omega)).mono ?_; rintro e w' ⟨rfl, rfl⟩))
    all_goals (go_ret; exact ⟨rfl, write_step h hb1 hd1 hm2 hch2 hf⟩)

theorem below_chg {S : Nat → Prop} {w w' : World} (h : Below w.heap.size w w') : Chg S w w' := ⟨h.os, h.tape, h.output, h.size, fun i hi _ => h.block i hi⟩

/-- Write, whatever comes. -/
theorem write_any (p b size : Nat) (l : List KV) (k v : ByteArray) (w : World) (h : DiskAt w p b size l) (hv : v.size ≤ 140737488351232) :
    Calls Tryz.prog 17 #[.pointer (some ⟨p, 0, none⟩), .string k, .string v] w fun e w' => e = .returned (.int .i64 (writeE size l k v)) ∧ DiskAt w' p b size (writeS size l k v) ∧ Chg (fun i => i = b) w w' := by
  unfold writeE writeS
  by_cases hk : k.size = 0 ∨ 64 < k.size
  · rw [if_pos hk, if_pos hk]
    refine (write_bad p b size l k v w hk).mono ?_
    rintro e w' ⟨rfl, rfl⟩
    exact ⟨rfl, h, Chg.refl _ _⟩
  · rw [if_neg hk, if_neg hk]
    by_cases hf : size + heldTakes l k < tot l + (k.size + v.size + 16)
    · rw [if_pos hf, if_pos hf]
      refine (write_full p b size l k v w h hk hv hf).mono ?_
      rintro e w' ⟨rfl, hb⟩
      exact ⟨rfl, h.below hb h.lt.1 h.lt.2, below_chg hb⟩
    · rw [if_neg hf, if_neg hf]
      exact write_ok p b size l k v w h hk (by omega)

/-- Delete. -/
def delS (l : List KV) (k : ByteArray) : List KV := delKV k l

theorem delete_any (p b size : Nat) (l : List KV) (k : ByteArray) (w : World) (h : DiskAt w p b size l) (hk : k.size ≤ maxLen) :
    Calls Tryz.prog 38 #[.pointer (some ⟨p, 0, none⟩), .string k] w fun e w' => e = .returned (.int .i64 (readE l k)) ∧ DiskAt w' p b size (delKV k l) ∧ Chg (fun i => i = b) w w' := by
  have hrd := read_any p b size l k w h hk
  unfold readE at hrd ⊢
  have c1 := h.cell1
  cases hlk : look l k with
  | none =>
    simp only [hlk, Option.getD_none, Option.isSome_none, Bool.false_eq_true, if_false] at hrd ⊢
    go_enter Tryz.func38, Tryz.ntmps38
    go_wp2_with (go_at_call 24; refine hrd.mono ?_; rintro e w1 ⟨rfl, rfl⟩)
    go_ret
    have e : delKV k l = l := by
      refine delKV_none fun q hq e => ?_
      have := mem_look h.own.apart hq
      rw [e, hlk] at this
      cases this
    rw [e]
    exact ⟨rfl, h, Chg.refl _ _⟩
  | some u =>
    simp only [hlk, Option.getD_some, Option.isSome_some, if_true] at hrd ⊢
    obtain ⟨w2, hst, hm2, hch2⟩ := h.own.drop_run k hk 0
    have ht := tot_del h.own.apart k
    have hf := h.fits
    go_enter Tryz.func38, Tryz.ntmps38
    go_wp2_with (go_at_call 24; refine hrd.mono ?_; rintro e w1 ⟨rfl, rfl⟩)
    go_ret
    exact ⟨rfl, ⟨(hch2.block p h.lt.1 h.ne).trans h.at_, hm2, h.ne, by omega, h.small⟩, hch2⟩
end Go.Proofs.YtkldkaahpicnmaaGreat
/- A disk: Spoil. -/
namespace Go.Proofs.YtkldkaahpicnmaaGreat
set_option maxRecDepth 100000
open Go.RowKit Go.ChangeMaps Go.MapKept

set_option maxRecDepth 100000 in
theorem spoil_no (p b size : Nat) (l : List KV) (k : ByteArray) (at_ y : Int) (w : World) (h : DiskAt w p b size l) (hk : k.size ≤ maxLen) (hno : look l k = none ∨ look l k = some ByteArray.empty ∨ y = 0) :
    Calls Tryz.prog 12 #[.pointer (some ⟨p, 0, none⟩), .string k, .int .i64 at_, .int .u8 y] w fun e w' => e = .returned (.bool false) ∧ w = w' := by
  have hrd := read_any p b size l k w h hk
  unfold readE at hrd
  cases hlk : look l k with
  | none =>
    simp only [hlk, Option.getD_none, Option.isSome_none, Bool.false_eq_true, if_false] at hrd
    go_enter Tryz.func12, Tryz.ntmps12
    go_wp2_with (go_at_call 24; refine hrd.mono ?_; rintro e w1 ⟨rfl, rfl⟩)
    go_ret
    exact ⟨rfl, rfl⟩
  | some u =>
    simp only [hlk, Option.getD_some, Option.isSome_some, if_true] at hrd
    rw [hlk] at hno
    rcases hno with hno | hno | rfl
    · cases hno
    · injection hno with hno
      subst hno
      have he : ByteArray.empty.toList.isEmpty = true := by rw [isEmpty_iff]; rfl
      go_enter Tryz.func12, Tryz.ntmps12
      go_wp2_with (go_at_call 24; refine hrd.mono ?_; rintro e w1 ⟨rfl, rfl⟩)
      all_goals go_ret
      all_goals exact ⟨rfl, rfl⟩
    · go_enter Tryz.func12, Tryz.ntmps12
      go_wp2_with (go_at_call 24; refine hrd.mono ?_; rintro e w1 ⟨rfl, rfl⟩)
      all_goals go_ret
      all_goals exact ⟨rfl, rfl⟩

/-- The bytes with one of them turned. -/
def spoL (l : List UInt8) (i : Nat) (y : Int) : List UInt8 := l.set i (UInt8.ofNat ((l.getD i 0).toNat ^^^ y.toNat))
def spo (u : ByteArray) (at_ y : Int) : ByteArray := ⟨(spoL u.data.toList (at_ % (u.size : Int)).toNat y).toArray⟩
theorem spo_size (u : ByteArray) (at_ y : Int) : (spo u at_ y).size = u.size := by
  unfold spo spoL
  rw [← ByteArray.size_data, ← Array.length_toList, List.length_set, Array.length_toList, ByteArray.size_data]

set_option maxHeartbeats 1000000 in
set_option maxRecDepth 100000 in
theorem spoil_yes (p b size : Nat) (l : List KV) (k : ByteArray) (at_ y : Int) (w : World) (h : DiskAt w p b size l) (hk : k.size ≤ maxLen) (u : ByteArray) (hlk : look l k = some u) (hu : u.size ≠ 0) (hy : 0 < y) (hy2 : y ≤ 255) :
    Calls Tryz.prog 12 #[.pointer (some ⟨p, 0, none⟩), .string k, .int .i64 at_, .int .u8 y] w fun e w' => e = .returned (.bool true) ∧ DiskAt w' p b size (putKV k (spo u at_ y) l) ∧ Chg (fun i => i = b) w w' := by
  have hrd := read_any p b size l k w h hk
  unfold readE at hrd
  simp only [hlk, Option.getD_some, Option.isSome_some, if_true] at hrd
  have h0 := isEmpty_iff u
  rw [decide_eq_false hu] at h0
  have hus := look_size hlk
  have hfits := h.fits
  have hsmall := h.small
  have hcv := Lib.run_convert_string_bytes (P := Tryz.prog) w 9 66 5 u Tryz.underlying9 Tryz.underlying66 Tryz.underlying5
  obtain ⟨C, hC⟩ : ∃ C, C = grownCap w u.size 0 5 := ⟨_, rfl⟩
  obtain ⟨W1, hW1⟩ : ∃ W1, W1 = Lib.bytesWorld w 5 u := ⟨_, rfl⟩
  have hn := Int.emod_nonneg at_ (show (u.size : Int) ≠ 0 by omega)
  have hn2 := Int.emod_lt_of_pos at_ (show (0 : Int) < (u.size : Int) by omega)
  obtain ⟨i, hi⟩ : ∃ i : Nat, (i : Int) = at_ % (u.size : Int) := ⟨(at_ % (u.size : Int)).toNat, by omega⟩
  have hrest := rest_num at_ (u.size : Int) (by omega) (by omega)
  rw [← hi] at hrest
  rw [← hC, ← hW1] at hcv
  have hiu : i < u.size := by omega
  have hcell : W1.cell? ⟨w.heap.size, i, none⟩ = some (.int .u8 ((u.data.toList.getD i 0).toNat : Int)) := by rw [hW1]; exact Lib.bytesWorld_cell w 5 u i hiu
  have hblk := Lib.bytesWorld_at_new w 5 u
  rw [← hW1] at hblk
  have hCs : u.size ≤ C := by rw [hC]; exact grownCap_ge ..
  have hbs : (Lib.bytesCells w 5 u).size = C := by unfold Lib.bytesCells; rw [← hC]; simp only [Array.size_append, Array.size_map, Array.size_replicate, ByteArray.size_data]; omega
  have hfrz : W1.frozen? ⟨w.heap.size, i, none⟩ = false := by
    simp [World.frozen?, hblk, hbs]; omega
  have hx0 : bits .xor .u8 ((u.data.toList.getD i 0).toNat : Int) y = (((u.data.toList.getD i 0).toNat ^^^ y.toNat : Nat) : Int) := by
    have := u8_xor ((u.data.toList.getD i 0).toNat : Int) y (by omega) (by have := (u.data.toList.getD i 0).toNat_lt; omega) (by omega) (by omega)
    simpa using this
  obtain ⟨X, hX⟩ : ∃ X : Nat, X = (u.data.toList.getD i 0).toNat ^^^ y.toNat := ⟨_, rfl⟩
  rw [← hX] at hx0
  obtain ⟨x0, hx00⟩ : ∃ x0 : Nat, x0 = (u.data.toList.getD i 0).toNat := ⟨_, rfl⟩
  rw [← hx00] at hx0 hcell
  have hXlt : X < 256 := by rw [hX]; exact Nat.xor_lt_two_pow (n := 8) (u.data.toList.getD i 0).toNat_lt (by omega)
  have hch1 : Chg (fun _ => False) w W1 := by
    rw [hW1]
    refine ⟨?_, ?_, ?_, by rw [Lib.bytesWorld_size]; omega, fun j hj _ => Lib.bytesWorld_at_old w 5 u j hj⟩ <;> rfl
  obtain ⟨W2, hW2⟩ : ∃ W2, W2 = W1.setCell ⟨w.heap.size, i, none⟩ (.int .u8 (X : Int)) := ⟨_, rfl⟩
  have hch2 : Chg (fun _ => False) w W2 := by rw [hW2]; exact hch1.setCell (.inr (Nat.le_refl _)) _
  have hback : (convert 66 9 (.slice (some ⟨w.heap.size, 0, none⟩) u.size C)).run Tryz.prog W2.drew = .ok (.string (spo u at_ y)) W2.drew := by
    have hl : (spoL u.data.toList i y).length = u.size := by unfold spoL; rw [List.length_set, Array.length_toList, ByteArray.size_data]
    have hc : ∀ j (hj : j < (spoL u.data.toList i y).length), W2.drew.cell? ((⟨w.heap.size, 0, none⟩ : Addr).add j) = some (.int .u8 ((spoL u.data.toList i y)[j].toNat : Int)) := by
      intro j hj
      show W2.cell? _ = _
      rw [Addr.add_lit, hW2]
      by_cases e : j = i
      · subst e
        have : (World.setCell W1 ⟨w.heap.size, j, none⟩ (.int .u8 (X : Int))).cell? ⟨w.heap.size, j, none⟩ = some (.int .u8 (X : Int)) := by
          simp [World.setCell, World.cell?, Array.getElem?_modify, hblk, Array.getElem?_setIfInBounds]; omega
        rw [Nat.zero_add, this]
        simp only [spoL, List.getElem_set_self]
        rw [← hX]
        have e8 : (UInt8.ofNat X).toNat = X := by rw [UInt8.toNat_ofNat']; omega
        rw [e8]
      · have : (World.setCell W1 ⟨w.heap.size, i, none⟩ (.int .u8 (X : Int))).cell? ⟨w.heap.size, j, none⟩ = W1.cell? ⟨w.heap.size, j, none⟩ := by
          simp [World.setCell, World.cell?, Array.getElem?_modify, hblk, Array.getElem?_setIfInBounds, Ne.symm e]
        rw [Nat.zero_add, this, hW1, Lib.bytesWorld_cell w 5 u j (by omega)]
        have hj2 : j < u.data.toList.length := by simp [spoL] at hj; simpa using hj
        simp only [spoL, List.getElem_set_ne (Ne.symm e), List.getD, List.getElem?_eq_getElem hj2, Option.getD_some]
    have := run_convert_bytes_back W2.drew 66 9 5 ⟨w.heap.size, 0, none⟩ C (spoL u.data.toList i y) Tryz.underlying66 Tryz.underlying5 Tryz.underlying9 hc
    rw [hl] at this
    rw [this]
    unfold spo
    rw [← hi, Int.toNat_natCast]
  have hd2 : DiskAt W2.drew p b size l := h.chg hch2.drew (by simp) (by simp)
  have c1 := hd2.cell1
  obtain ⟨w3, hst, hm3, hch3⟩ := hd2.own.store_run k (spo u at_ y) hk (by rw [spo_size]; unfold maxLen; omega) (by have := len_tot l; unfold maxLen; omega)
  have ht := tot_put h.own.apart k (spo u at_ y)
  rw [spo_size] at ht
  have hht : heldTakes l k = k.size + u.size + 16 := by unfold heldTakes; rw [hlk]
  have hfin : DiskAt w3 p b size (putKV k (spo u at_ y) l) ∧ Chg (fun i => i = b) w w3 :=
    ⟨⟨(hch3.block p hd2.lt.1 h.ne).trans hd2.at_, hm3, h.ne, by omega, h.small⟩, (hch2.drew.mono (T := fun i => i = b) (fun _ x => x.elim)).trans hch3 (fun i hi _ => hi)⟩
  have HF := Lib.hid hfin
  have hy3 : (y == 0) = false := by simp; omega
  clear hx00 hfin hht ht hm3 hch3 hd2 hch2 hch1 hXlt hX hbs hblk hC hW1 hn hn2
  have HI := Lib.hid hi
  clear hi
  go_enter Tryz.func12, Tryz.ntmps12
  go_wp2_with (go_at_call 24; refine hrd.mono ?_; rintro e w1 ⟨rfl, rfl⟩)
  rw [← hW2]
  clear hW2
  have c1' : W2.cell? ⟨p, 1, none⟩ = some (.map (some b)) := c1
  go_region_law (fail)
  all_goals (go_wp2; go_ret; exact ⟨rfl, HF.out⟩)


/-- What Spoil answers, and what is held behind it. -/
def spoilE (l : List KV) (k : ByteArray) (y : Int) : Bool := match look l k with | some u => !decide (u.size = 0) && !decide (y = 0) | none => false
def spoilS (l : List KV) (k : ByteArray) (at_ y : Int) : List KV := match look l k with | some u => if u.size = 0 ∨ y = 0 then l else putKV k (spo u at_ y) l | none => l

theorem spoil_any (p b size : Nat) (l : List KV) (k : ByteArray) (at_ y : Int) (w : World) (h : DiskAt w p b size l) (hk : k.size ≤ maxLen) (hy : 0 ≤ y) (hy2 : y ≤ 255) :
    Calls Tryz.prog 12 #[.pointer (some ⟨p, 0, none⟩), .string k, .int .i64 at_, .int .u8 y] w fun e w' => e = .returned (.bool (spoilE l k y)) ∧ DiskAt w' p b size (spoilS l k at_ y) ∧ Chg (fun i => i = b) w w' := by
  unfold spoilE spoilS
  cases hlk : look l k with
  | none =>
    refine (spoil_no p b size l k at_ y w h hk (.inl hlk)).mono ?_
    rintro e w' ⟨rfl, rfl⟩
    exact ⟨rfl, h, Chg.refl _ _⟩
  | some u =>
    by_cases hu : u.size = 0
    · refine (spoil_no p b size l k at_ y w h hk (.inr (.inl ?_))).mono ?_
      · rw [hlk]
        have : u = ByteArray.empty := by
          apply ByteArray.ext
          apply Array.eq_empty_of_size_eq_zero
          rw [ByteArray.size_data]; exact hu
        rw [this]
      · rintro e w' ⟨rfl, rfl⟩
        simp only [hu, true_or, if_true, decide_true, Bool.not_true, Bool.false_and]
        exact ⟨trivial, h, Chg.refl _ _⟩
    · by_cases hy0 : y = 0
      · refine (spoil_no p b size l k at_ y w h hk (.inr (.inr hy0))).mono ?_
        rintro e w' ⟨rfl, rfl⟩
        simp only [hy0, or_true, if_true, decide_true, Bool.not_true, Bool.and_false]
        exact ⟨trivial, h, Chg.refl _ _⟩
      · refine (spoil_yes p b size l k at_ y w h hk u hlk hu (by omega) hy2).mono ?_
        rintro e w' ⟨rfl, h1, h2⟩
        simp only [hu, hy0, or_self, if_false, decide_false, Bool.not_false, Bool.and_self]
        exact ⟨trivial, h1, h2⟩

end Go.Proofs.YtkldkaahpicnmaaGreat
/-
  DERIVED: THE SHELF's CONTRACTS AT THIS DUMP, IN PLAIN WORDS (tools/lay-plain.mjs out of 'TryzShelf.lean', which tools/lay-shelf.mjs wrote): THE SAME DECLARATIONS UNDER THE SAME NAMES: 'import', 'namespace', 'open', 'def', 'theorem' AND NOTHING ELSE: no command of the shelf's: FOR A HAND-IN. Each laying: the table of numbers ('.._ren') and one theorem, a field a fact of the dump's own or the kernel's comparison; each contract: ONE APPLICATION.
-/
namespace Go.Proofs
open Go.Shelf
def Tryz.keys24_ren : Go.Shelf.Ren := ⟨fun | 7 => 64 | 10 => 84 | n => n, fun | 23 => 54 | 26 => 9 | 3 => 9 | 28 => 106 | 0 => 0 | 27 => 105 | 33 => 135 | 4 => 4 | n => n, fun | n => n⟩
theorem Tryz.keys24 : Go.Proofs.SlLaysZ.n7 Tryz.prog Tryz.keys24_ren := {
  mixed := by kernel_rfl
  f7 := ⟨Tryz.f64.name, by decide, Tryz.func64.trans (congrArg some (by kernel_rfl))⟩
  f10 := ⟨Tryz.f84.name, by decide, Tryz.func84.trans (congrArg some (by kernel_rfl))⟩
  t0 := Tryz.underlying0
  a0 := Tryz.isAgg0
  z0 := Tryz.sizeOf0
  v0 := Tryz.zeroValue0
  t4 := Tryz.underlying4
  a4 := Tryz.isAgg4
  z4 := Tryz.sizeOf4
  v4 := Tryz.zeroValue4
  t23 := Tryz.underlying54
  a23 := Tryz.isAgg54
  z23 := Tryz.sizeOf54
  v23 := Tryz.zeroValue54
  t26 := Tryz.underlying9
  a26 := Tryz.isAgg9
  z26 := Tryz.sizeOf9
  v26 := Tryz.zeroValue9
  t27 := Tryz.underlying105
  a27 := Tryz.isAgg105
  z27 := Tryz.sizeOf105
  v27 := Tryz.zeroValue105
  t28 := Tryz.underlying106
  a28 := Tryz.isAgg106
  z28 := Tryz.sizeOf106
  v28 := Tryz.zeroValue106
  t33 := Tryz.underlying135
  a33 := Tryz.isAgg135
  z33 := Tryz.sizeOf135
  v33 := Tryz.zeroValue135 }
def Tryz.sorted23_ren : Go.Shelf.Ren := ⟨fun | 6 => 63 | 8 => 82 | 9 => 83 | 11 => 94 | 13 => 52 | 12 => 95 | 23 => 74 | 24 => 75 | 14 => 101 | 15 => 102 | 16 => 103 | 17 => 104 | 18 => 105 | 19 => 106 | 20 => 107 | 21 => 108 | 22 => 109 | 25 => 112 | 26 => 87 | 27 => 88 | 28 => 113 | 29 => 114 | 30 => 115 | 31 => 117 | n => n, fun | 26 => 9 | 28 => 106 | 24 => 41 | 0 => 0 | 3 => 3 | 37 => 93 | 48 => 96 | 50 => 121 | 4 => 4 | 40 => 113 | 39 => 112 | 45 => 117 | 5 => 5 | 9 => 9 | 51 => 138 | 55 => 142 | 57 => 149 | 58 => 72 | 33 => 135 | n => n, fun | n => n⟩
theorem Tryz.sorted23 : Go.Proofs.SlLaysZ.n6 Tryz.prog Tryz.sorted23_ren := {
  mixed := by kernel_rfl
  f6 := ⟨Tryz.f63.name, by decide, Tryz.func63.trans (congrArg some (by kernel_rfl))⟩
  f8 := ⟨Tryz.f82.name, by decide, Tryz.func82.trans (congrArg some (by kernel_rfl))⟩
  f11 := ⟨Tryz.f94.name, by decide, Tryz.func94.trans (congrArg some (by kernel_rfl))⟩
  t0 := Tryz.underlying0
  a0 := Tryz.isAgg0
  z0 := Tryz.sizeOf0
  v0 := Tryz.zeroValue0
  t24 := Tryz.underlying41
  a24 := Tryz.isAgg41
  z24 := Tryz.sizeOf41
  v24 := Tryz.zeroValue41
  t26 := Tryz.underlying9
  a26 := Tryz.isAgg9
  z26 := Tryz.sizeOf9
  v26 := Tryz.zeroValue9
  t28 := Tryz.underlying106
  a28 := Tryz.isAgg106
  z28 := Tryz.sizeOf106
  v28 := Tryz.zeroValue106
  i26 := by kernel_rfl }
def Tryz.sort30_ren : Go.Shelf.Ren := ⟨fun | 6 => 83 | 8 => 52 | 9 => 95 | 19 => 74 | 20 => 75 | 21 => 101 | 22 => 102 | 23 => 103 | 24 => 104 | 25 => 105 | 26 => 106 | 27 => 107 | 28 => 108 | 29 => 109 | 36 => 112 | 31 => 87 | 32 => 88 | 37 => 113 | 38 => 114 | 39 => 115 | 41 => 117 | n => n, fun | 27 => 41 | 29 => 9 | 3 => 3 | 32 => 93 | 26 => 41 | 0 => 0 | 44 => 96 | 46 => 121 | 4 => 4 | 36 => 113 | 35 => 112 | 41 => 117 | 5 => 5 | 9 => 9 | 53 => 138 | 57 => 142 | 63 => 149 | 64 => 72 | n => n, fun | n => n⟩
theorem Tryz.sort30 : Go.Proofs.SlLaysM.n6 Tryz.prog Tryz.sort30_ren := {
  mixed := by kernel_rfl
  f6 := ⟨Tryz.f83.name, by decide, Tryz.func83.trans (congrArg some (by kernel_rfl))⟩
  f8 := Tryz.func52.trans (congrArg some (by kernel_rfl))
  f9 := ⟨Tryz.f95.name, by decide, Tryz.func95.trans (congrArg some (by kernel_rfl))⟩
  f19 := Tryz.func74.trans (congrArg some (by kernel_rfl))
  f20 := Tryz.func75.trans (congrArg some (by kernel_rfl))
  f21 := ⟨Tryz.f101.name, by decide, Tryz.func101.trans (congrArg some (by kernel_rfl))⟩
  f22 := ⟨Tryz.f102.name, by decide, Tryz.func102.trans (congrArg some (by kernel_rfl))⟩
  f23 := ⟨Tryz.f103.name, by decide, Tryz.func103.trans (congrArg some (by kernel_rfl))⟩
  f24 := ⟨Tryz.f104.name, by decide, Tryz.func104.trans (congrArg some (by kernel_rfl))⟩
  f25 := ⟨Tryz.f105.name, by decide, Tryz.func105.trans (congrArg some (by kernel_rfl))⟩
  f26 := ⟨Tryz.f106.name, by decide, Tryz.func106.trans (congrArg some (by kernel_rfl))⟩
  f27 := ⟨Tryz.f107.name, by decide, Tryz.func107.trans (congrArg some (by kernel_rfl))⟩
  f28 := ⟨Tryz.f108.name, by decide, Tryz.func108.trans (congrArg some (by kernel_rfl))⟩
  f29 := ⟨Tryz.f109.name, by decide, Tryz.func109.trans (congrArg some (by kernel_rfl))⟩
  f31 := Tryz.func87.trans (congrArg some (by kernel_rfl))
  f32 := Tryz.func88.trans (congrArg some (by kernel_rfl))
  f36 := ⟨Tryz.f112.name, by decide, Tryz.func112.trans (congrArg some (by kernel_rfl))⟩
  f37 := ⟨Tryz.f113.name, by decide, Tryz.func113.trans (congrArg some (by kernel_rfl))⟩
  f38 := ⟨Tryz.f114.name, by decide, Tryz.func114.trans (congrArg some (by kernel_rfl))⟩
  f39 := ⟨Tryz.f115.name, by decide, Tryz.func115.trans (congrArg some (by kernel_rfl))⟩
  f41 := ⟨Tryz.f117.name, by decide, Tryz.func117.trans (congrArg some (by kernel_rfl))⟩
  t0 := Tryz.underlying0
  a0 := Tryz.isAgg0
  z0 := Tryz.sizeOf0
  v0 := Tryz.zeroValue0
  t3 := Tryz.underlying3
  a3 := Tryz.isAgg3
  z3 := Tryz.sizeOf3
  v3 := Tryz.zeroValue3
  t4 := Tryz.underlying4
  a4 := Tryz.isAgg4
  z4 := Tryz.sizeOf4
  v4 := Tryz.zeroValue4
  t5 := Tryz.underlying5
  a5 := Tryz.isAgg5
  z5 := Tryz.sizeOf5
  v5 := Tryz.zeroValue5
  t9 := Tryz.underlying9
  a9 := Tryz.isAgg9
  z9 := Tryz.sizeOf9
  v9 := Tryz.zeroValue9
  t26 := Tryz.underlying41
  a26 := Tryz.isAgg41
  z26 := Tryz.sizeOf41
  v26 := Tryz.zeroValue41
  t27 := Tryz.underlying41
  a27 := Tryz.isAgg41
  z27 := Tryz.sizeOf41
  v27 := Tryz.zeroValue41
  t29 := Tryz.underlying9
  a29 := Tryz.isAgg9
  z29 := Tryz.sizeOf9
  v29 := Tryz.zeroValue9
  t32 := Tryz.underlying93
  a32 := Tryz.isAgg93
  z32 := Tryz.sizeOf93
  v32 := Tryz.zeroValue93
  t35 := Tryz.underlying112
  a35 := Tryz.isAgg112
  z35 := Tryz.sizeOf112
  v35 := Tryz.zeroValue112
  t36 := Tryz.underlying113
  a36 := Tryz.isAgg113
  z36 := Tryz.sizeOf113
  v36 := Tryz.zeroValue113
  t41 := Tryz.underlying117
  a41 := Tryz.isAgg117
  z41 := Tryz.sizeOf117
  v41 := Tryz.zeroValue117
  t44 := Tryz.underlying96
  a44 := Tryz.isAgg96
  z44 := Tryz.sizeOf96
  v44 := Tryz.zeroValue96
  t46 := Tryz.underlying121
  a46 := Tryz.isAgg121
  z46 := Tryz.sizeOf121
  v46 := Tryz.zeroValue121
  t53 := Tryz.underlying138
  a53 := Tryz.isAgg138
  z53 := Tryz.sizeOf138
  v53 := Tryz.zeroValue138
  t57 := Tryz.underlying142
  a57 := Tryz.isAgg142
  z57 := Tryz.sizeOf142
  v57 := Tryz.zeroValue142
  t63 := Tryz.underlying149
  a63 := Tryz.isAgg149
  z63 := Tryz.sizeOf149
  v63 := Tryz.zeroValue149
  t64 := Tryz.underlying72
  a64 := Tryz.isAgg72
  z64 := Tryz.sizeOf72
  v64 := Tryz.zeroValue72 }
def Tryz.sortIds_ren : Go.Shelf.Ren := ⟨fun | 6 => 29 | 15 => 52 | 14 => 51 | 28 => 74 | 29 => 75 | 20 => 66 | 21 => 67 | 22 => 68 | 23 => 69 | 24 => 70 | 25 => 71 | 26 => 72 | 27 => 73 | 46 => 86 | 47 => 87 | 48 => 88 | 49 => 89 | 50 => 90 | 57 => 99 | n => n, fun | 22 => 35 | 24 => 26 | 25 => 65 | 3 => 3 | 39 => 93 | 0 => 0 | 53 => 96 | 55 => 121 | 4 => 4 | 46 => 113 | 45 => 112 | 50 => 117 | 5 => 5 | 9 => 9 | 66 => 138 | 70 => 142 | 76 => 149 | 77 => 72 | n => n, fun | n => n⟩
theorem Tryz.sortIds : Go.Proofs.SlLaysF0.n6 Tryz.prog Tryz.sortIds_ren := {
  mixed := by kernel_rfl
  f6 := ⟨Tryz.f29.name, by decide, Tryz.func29.trans (congrArg some (by kernel_rfl))⟩
  f14 := ⟨Tryz.f51.name, by decide, Tryz.func51.trans (congrArg some (by kernel_rfl))⟩
  f15 := Tryz.func52.trans (congrArg some (by kernel_rfl))
  f20 := ⟨Tryz.f66.name, by decide, Tryz.func66.trans (congrArg some (by kernel_rfl))⟩
  f21 := ⟨Tryz.f67.name, by decide, Tryz.func67.trans (congrArg some (by kernel_rfl))⟩
  f22 := ⟨Tryz.f68.name, by decide, Tryz.func68.trans (congrArg some (by kernel_rfl))⟩
  f23 := ⟨Tryz.f69.name, by decide, Tryz.func69.trans (congrArg some (by kernel_rfl))⟩
  f24 := ⟨Tryz.f70.name, by decide, Tryz.func70.trans (congrArg some (by kernel_rfl))⟩
  f25 := ⟨Tryz.f71.name, by decide, Tryz.func71.trans (congrArg some (by kernel_rfl))⟩
  f26 := ⟨Tryz.f72.name, by decide, Tryz.func72.trans (congrArg some (by kernel_rfl))⟩
  f27 := ⟨Tryz.f73.name, by decide, Tryz.func73.trans (congrArg some (by kernel_rfl))⟩
  f28 := Tryz.func74.trans (congrArg some (by kernel_rfl))
  f29 := Tryz.func75.trans (congrArg some (by kernel_rfl))
  f46 := ⟨Tryz.f86.name, by decide, Tryz.func86.trans (congrArg some (by kernel_rfl))⟩
  f47 := Tryz.func87.trans (congrArg some (by kernel_rfl))
  f48 := Tryz.func88.trans (congrArg some (by kernel_rfl))
  f49 := ⟨Tryz.f89.name, by decide, Tryz.func89.trans (congrArg some (by kernel_rfl))⟩
  f50 := ⟨Tryz.f90.name, by decide, Tryz.func90.trans (congrArg some (by kernel_rfl))⟩
  f57 := ⟨Tryz.f99.name, by decide, Tryz.func99.trans (congrArg some (by kernel_rfl))⟩
  t0 := Tryz.underlying0
  a0 := Tryz.isAgg0
  z0 := Tryz.sizeOf0
  v0 := Tryz.zeroValue0
  t3 := Tryz.underlying3
  a3 := Tryz.isAgg3
  z3 := Tryz.sizeOf3
  v3 := Tryz.zeroValue3
  t4 := Tryz.underlying4
  a4 := Tryz.isAgg4
  z4 := Tryz.sizeOf4
  v4 := Tryz.zeroValue4
  t5 := Tryz.underlying5
  a5 := Tryz.isAgg5
  z5 := Tryz.sizeOf5
  v5 := Tryz.zeroValue5
  t9 := Tryz.underlying9
  a9 := Tryz.isAgg9
  z9 := Tryz.sizeOf9
  v9 := Tryz.zeroValue9
  t22 := Tryz.underlying35
  a22 := Tryz.isAgg35
  z22 := Tryz.sizeOf35
  v22 := Tryz.zeroValue35
  t25 := Tryz.underlying65
  a25 := Tryz.isAgg65
  z25 := Tryz.sizeOf65
  v25 := Tryz.zeroValue65
  t39 := Tryz.underlying93
  a39 := Tryz.isAgg93
  z39 := Tryz.sizeOf93
  v39 := Tryz.zeroValue93
  t45 := Tryz.underlying112
  a45 := Tryz.isAgg112
  z45 := Tryz.sizeOf112
  v45 := Tryz.zeroValue112
  t46 := Tryz.underlying113
  a46 := Tryz.isAgg113
  z46 := Tryz.sizeOf113
  v46 := Tryz.zeroValue113
  t50 := Tryz.underlying117
  a50 := Tryz.isAgg117
  z50 := Tryz.sizeOf117
  v50 := Tryz.zeroValue117
  t53 := Tryz.underlying96
  a53 := Tryz.isAgg96
  z53 := Tryz.sizeOf96
  v53 := Tryz.zeroValue96
  t55 := Tryz.underlying121
  a55 := Tryz.isAgg121
  z55 := Tryz.sizeOf121
  v55 := Tryz.zeroValue121
  t66 := Tryz.underlying138
  a66 := Tryz.isAgg138
  z66 := Tryz.sizeOf138
  v66 := Tryz.zeroValue138
  t70 := Tryz.underlying142
  a70 := Tryz.isAgg142
  z70 := Tryz.sizeOf142
  v70 := Tryz.zeroValue142
  t76 := Tryz.underlying149
  a76 := Tryz.isAgg149
  z76 := Tryz.sizeOf149
  v76 := Tryz.zeroValue149
  t77 := Tryz.underlying72
  a77 := Tryz.isAgg72
  z77 := Tryz.sizeOf72
  v77 := Tryz.zeroValue72 }
end Go.Proofs
/- A disk's names, in order: the keys as the map reads. -/
namespace Go.Proofs.YtkldkaahpicnmaaGreat
set_option maxRecDepth 100000
open Go.RowKit Go.ChangeMaps Go.MapKept Go.Maps Go.Sort Go.Shelf

def keysL (l : List KV) : List (List UInt8) := l.map fun p => p.1.data.toList

theorem strKeys_md (l : List KV) : strKeys (MD l) = keysL l := by
  unfold MD strKeys keysL
  show (l.map kvLit).map _ = _
  rw [List.map_map]
  rfl

theorem before_lt : ∀ (a b : List UInt8), bytesBefore a b = true ↔ a < b
  | [], [] => by simp [bytesBefore]
  | [], b :: s => by simp [bytesBefore]
  | a :: r, [] => by simp [bytesBefore]
  | a :: r, b :: s => by
    rw [List.cons_lt_cons_iff, ← before_lt r s]
    simp [bytesBefore]

/-- In order. -/
def Rising (l : List KV) : Prop := l.Pairwise (fun p q => p.1.data.toList < q.1.data.toList)
theorem MapAt.rising {w : World} {b : Nat} {l : List KV} (h : MapAt w b l) : Rising l := by
  obtain ⟨es, he, hp, _⟩ := World.ownsMap.canon h Tryz.keyed9
  have : l.map kvLit = es := by
    unfold MD at he; injection he
  subst this
  rw [List.pairwise_map] at hp
  exact hp.imp fun {p q} hlt => (before_lt _ _).1 hlt

theorem rising_sorted {l : List KV} (h : Rising l) : (keysL l).mergeSort (fun x y => decide (x ≤ y)) = keysL l := by
  apply List.mergeSort_of_pairwise
  unfold keysL
  rw [List.pairwise_map]
  exact h.imp fun {p q} hlt => by simp only [decide_eq_true_eq]; exact List.le_of_lt hlt

theorem keys_enc (l : List KV) : (keysL l).map encStr = (l.map fun p => p.1).map Value.string := by
  unfold keysL
  rw [List.map_map, List.map_map]
  rfl

theorem sorts23 (m : Nat) : AnyZ.SortsIn Tryz.prog Tryz.sorted23_ren Fence.wide m :=
  ⟨fun blk off cap ss W hH hblk hsz => callsIn_wide.2 (AnyM.slices_Sort_string Tryz.sort30 blk off cap ss W hH hblk hsz),
   fun p cap W => callsIn_wide.2 (AnyM.slices_Sort_string_none Tryz.sort30 p cap W)⟩

set_option maxHeartbeats 1000000 in
/-- Names: a new slice of the names, in order. -/
theorem names_any (p b size : Nat) (l : List KV) (w : World) (h : DiskAt w p b size l) :
    Calls Tryz.prog 49 #[.pointer (some ⟨p, 0, none⟩)] w fun e w' => ∃ v, e = .returned v ∧ w'.ownsRow w.heap.size 9 1 v l.length ((l.map fun p => p.1).map Value.string) ∧ Below w.heap.size w w' := by
  refine (callsIn_wide (n := 6)).1 ?_
  have c1 := h.cell1
  have hown := h.own
  have hbl := hown.lt
  have hris := hown.rising
  have hlt := len_tot l
  have hf := h.fits
  have hsm := h.small
  have hmax : Maps.size (MD l) ≤ maxLen := by rw [md_size]; unfold maxLen; omega
  have hbytes : Maps.size (MD l) * 16 ≤ 140737488355328 := by rw [md_size]; omega
  have hseq : SeqGives Fence.wide 2 Tryz.prog 84 #[.pointer (some ⟨w.heap.size, 0, none⟩)] encStr (fun ss => ss.Perm (strKeys (MD l))) (Maps.size (MD l)) (w.alloc (.cells #[.map (some b)] 54)) :=
    AnyZ.keys_gives (ρ := Tryz.keys24_ren) { Tryz.keys24 with } Fence.wide _ trivial rfl (by omega) w.heap.size b l.length (MD l) _ (by simp) (by simp) (by
      obtain ⟨es, clock, hb, Ft, hs, hD⟩ := hown
      exact ⟨es, clock, (Below.heap_alloc _ _ b hbl).trans hb, Ft, hs, hD⟩)
  have cK : ∀ mb W, CallsIn Fence.wide 5 Tryz.prog 64 #[.map mb] W fun e w' => e = .returned (.func (.func 84) #[] #[.pointer (some ⟨W.heap.size, 0, none⟩)]) ∧ w' = W.alloc (.cells #[.map mb] 54) := fun mb W => AnyZ.keys_in Tryz.keys24 Fence.wide 5 trivial rfl mb W
  have cS := AnyZ.sorted_in Tryz.sorted23 Fence.wide 5 trivial trivial trivial trivial rfl (by omega) (sorts23 _) (enters_of Tryz.func83 (by kernel_rfl) rfl) 84 #[.pointer (some ⟨w.heap.size, 0, none⟩)] trivial (enters_of Tryz.func84 (by kernel_rfl) rfl) _ _ hmax hbytes _ hseq
  change CallsIn _ _ Tryz.prog 63 _ _ _ at cS
  have hfK : Fence.wide.fn 64 := trivial
  have hfS : Fence.wide.fn 63 := trivial
  clear hseq
  refine callsIn_of_wp Tryz.func49 rfl trivial ?_ rfl
  simp only [Tryz.ntmps49, List.size_toArray, List.length_cons, List.length_nil, Nat.reduceAdd, Nat.reduceSub, Array.replicate_succ, Array.replicate_zero, List.push_toArray, List.append_toArray, List.nil_append, List.cons_append]
  gi_wp2_with (first
    | (gi_at_call 64; refine (cK _ _).mono ?_; rintro e w' ⟨rfl, rfl⟩)
    | (gi_at_call 63; refine cS.mono ?_; rintro e w' ⟨v, ss, rfl, hS, hrow, hnil, hb⟩))
  go_ret
  have hmm : ss.mergeSort (fun x y => decide (x ≤ y)) = keysL l := by
    rw [strKeys_md] at hS
    have e1 : (ss.mergeSort (fun x y => decide (x ≤ y))).Perm (keysL l) := (List.mergeSort_perm ss _).trans hS
    have tr : ∀ x y z : List UInt8, decide (x ≤ y) = true → decide (y ≤ z) = true → decide (x ≤ z) = true := fun x y z h1 h2 => by
      simp only [decide_eq_true_eq] at *; exact List.le_trans h1 h2
    have to : ∀ x y : List UInt8, (decide (x ≤ y) || decide (y ≤ x)) = true := fun x y => by
      simp only [Bool.or_eq_true, decide_eq_true_eq]; exact List.le_total x y
    refine List.Perm.eq_of_pairwise (le := fun x y => decide (x ≤ y) = true) ?_ (List.pairwise_mergeSort tr to _) ?_ e1
    · intro x y _ _ h1 h2
      simp only [decide_eq_true_eq] at h1 h2
      exact List.le_antisymm h1 h2
    · rw [← rising_sorted hris]
      exact List.pairwise_mergeSort tr to _
  have hll : ss.length = l.length := by
    have := hS.length_eq
    rw [strKeys_md] at this
    simpa [keysL] using this
  rw [hmm, keys_enc, hll] at hrow
  exact ⟨v, rfl, ownsRow_base_a hrow (by simp), ((Below.refl _ w).alloc (Nat.le_refl _) _).trans (hb.mono (by simp))⟩
end Go.Proofs.YtkldkaahpicnmaaGreat
