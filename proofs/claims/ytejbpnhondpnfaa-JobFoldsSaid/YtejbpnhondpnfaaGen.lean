/- Small laws on worlds and rows that serve every seat: what changed, append from whatever source. -/
import Derived.WalkKit
import Derived.WalkSpells
import Derived.WalkLawsBesides
import Derived.Lib.Hide
import Derived.Deep.RegionLaw
import Derived.Deep.AppendSrc
import Derived.Lib.Walk
import Derived.Lib.SliceRun
namespace Go.Proofs.Ytejbpnhondpnfaa
open Go.RowKit

/-- Of the blocks that were, only those of S may have turned. -/
structure Chg (S : Nat → Prop) (w w' : World) : Prop where
  os : w'.os = w.os
  tape : w'.tape = w.tape
  output : w'.output = w.output
  size : w.heap.size ≤ w'.heap.size
  block : ∀ k, k < w.heap.size → ¬ S k → w'.heap[k]? = w.heap[k]?

theorem Chg.refl (S : Nat → Prop) (w : World) : Chg S w w := ⟨rfl, rfl, rfl, Nat.le_refl _, fun _ _ _ => rfl⟩
theorem Chg.trans {S T : Nat → Prop} {a b c : World} (h : Chg S a b) (k : Chg T b c) (hs : ∀ i, T i → i < a.heap.size → S i) : Chg S a c :=
  ⟨k.os.trans h.os, k.tape.trans h.tape, k.output.trans h.output, Nat.le_trans h.size k.size, fun i hi hn =>
    (k.block i (Nat.lt_of_lt_of_le hi h.size) (fun ht => hn (hs i ht hi))).trans (h.block i hi hn)⟩
theorem Chg.mono {S T : Nat → Prop} {a b : World} (h : Chg S a b) (hs : ∀ i, S i → T i) : Chg T a b :=
  ⟨h.os, h.tape, h.output, h.size, fun i hi hn => h.block i hi (fun x => hn (hs i x))⟩
theorem Chg.drew {S : Nat → Prop} {a b : World} (h : Chg S a b) : Chg S a b.drew := ⟨h.os, h.tape, h.output, h.size, h.block⟩
theorem Chg.drewN {S : Nat → Prop} {a b : World} (h : Chg S a b) (n : Nat) : Chg S a (b.drewN n) := ⟨h.os, h.tape, h.output, h.size, h.block⟩
theorem Chg.of_drew {S : Nat → Prop} {a b : World} (h : Chg S a.drew b) : Chg S a b := ⟨h.os, h.tape, h.output, h.size, h.block⟩
theorem Chg.alloc {S : Nat → Prop} {a b : World} (h : Chg S a b) (o : Obj) : Chg S a (b.alloc o) :=
  ⟨h.os, h.tape, h.output, Nat.le_trans h.size (by simp), fun i hi hn => (Below.heap_alloc b o i (Nat.lt_of_lt_of_le hi h.size)).trans (h.block i hi hn)⟩
theorem Chg.setCell {S : Nat → Prop} {a b : World} (h : Chg S a b) {p : Addr} (hp : S p.block ∨ a.heap.size ≤ p.block) (u : Value) : Chg S a (b.setCell p u) :=
  ⟨h.os, h.tape, h.output, by simpa [World.setCell] using h.size, fun i hi hn => (Below.heap_setCell b p u i (by
    rintro rfl
    rcases hp with hp | hp
    · exact hn hp
    · omega)).trans (h.block i hi hn)⟩
theorem Chg.grown {a b : World} {row : Option Nat} (h : a.grownBy b row) : Chg (fun k => some k = row) a b :=
  ⟨h.os, h.tape, h.output, h.size, fun i hi hn => h.block i hi hn⟩
theorem Chg.below {S : Nat → Prop} {a b : World} (h : Chg S a b) {B : Nat} (hB : B ≤ a.heap.size) (hs : ∀ i, S i → B ≤ i) : Below B a b :=
  ⟨h.os, h.tape, h.output, h.size, fun i hi => h.block i (by omega) (fun x => by have := hs i x; omega)⟩
theorem Chg.cell {S : Nat → Prop} {a b : World} (h : Chg S a b) {p : Addr} (hp : p.block < a.heap.size) (hn : ¬ S p.block) : b.cell? p = a.cell? p :=
  World.cell?_of_block (w := a) (h.block p.block hp hn)
theorem Chg.frozen {S : Nat → Prop} {a b : World} (h : Chg S a b) {p : Addr} (hp : p.block < a.heap.size) (hn : ¬ S p.block) : b.frozen? p = a.frozen? p :=
  World.frozen?_of_block (w := a) (h.block p.block hp hn)

/-- A block of one cell: what is read of it, and that it is free. -/
theorem one_cell {w : World} {b : Nat} {v : Value} {t : TypeId} (h : w.heap[b]? = some (.cells #[v] t (0, 0))) : w.cell? ⟨b, 0, none⟩ = some v := by
  simp [World.cell?, h]
theorem one_free {w : World} {b : Nat} {v : Value} {t : TypeId} (h : w.heap[b]? = some (.cells #[v] t (0, 0))) : w.frozen? ⟨b, 0, none⟩ = false := by
  simp [World.frozen?, h]
theorem one_set {w : World} {b : Nat} {v : Value} {t : TypeId} (h : w.heap[b]? = some (.cells #[v] t (0, 0))) (u : Value) : (w.setCell ⟨b, 0, none⟩ u).heap[b]? = some (.cells #[u] t (0, 0)) := by
  simp [World.setCell, Array.getElem?_modify, h]

theorem ret_int {k : IntKind} {a b : Int} (h : a = b) : Ending.returned (.int k a) = .returned (.int k b) := by rw [h]

theorem own_val {w : World} {B : Nat} {e : TypeId} {z : Nat} {v : Value} {n : Nat} {xs : List Value} (h : w.ownsRow B e z v n xs) : ∃ a c, v = .slice a n c ∧ n ≤ c ∧ c ≤ maxLen ∧ v.ownBlock = a.map Addr.block := by
  rcases h.2 with ⟨rfl, rfl⟩ | ⟨g, c, _, rfl, _, _, h1, h2, _⟩
  · exact ⟨none, 0, rfl, Nat.le_refl _, by decide, rfl⟩
  · exact ⟨some ⟨g, 0, none⟩, c, rfl, h1, h2, rfl⟩

theorem rest_num (n b : Int) (h : 0 < b) (hb : b ≤ 1000000000) : (wrap64 (n.tmod b + b)).tmod b = n % b := by
  have h1 := Int.tmod_lt_of_pos n h
  have h2 : -b < n.tmod b := by have := Int.lt_tmod_of_pos n h; omega
  have e : wrap64 (n.tmod b + b) = n.tmod b + b := by unfold wrap64; omega
  rw [e, Int.tmod_eq_emod_of_nonneg (by omega), Int.add_emod_right, Int.tmod_eq_emod]
  split
  · simp
  · rw [show ((b.natAbs : Int)) = b by omega]; simp

theorem heap_setCells {g : Nat} {e : TypeId} {fz : Nat × Nat} : ∀ (vs : List Value) (o : Nat) (w : World) (cur : Array Value), w.heap[g]? = some (.cells cur e fz) → o + vs.length ≤ cur.size →
    (w.setCells g o vs).heap[g]? = some (.cells (cur.toList.take o ++ vs ++ cur.toList.drop (o + vs.length)).toArray e fz)
  | [], o, w, cur, h, _ => by simp [World.setCells, h]
  | v :: vs, o, w, cur, h, hl => by
    have h1 : (w.setCell ⟨g, o, none⟩ v).heap[g]? = some (.cells (cur.setIfInBounds o v) e fz) := by
      simp [World.setCell, Array.getElem?_modify, h]
    have h2 := heap_setCells vs (o + 1) _ _ h1 (by simp at hl ⊢; omega)
    simp only [World.setCells]
    rw [h2]
    simp only [List.length_cons] at hl ⊢
    have ho : o < cur.toList.length := by simp; omega
    congr 2
    apply congrArg
    rw [Array.toList_setIfInBounds, List.take_set, List.drop_set_of_lt (by omega)]
    rw [List.take_succ_eq_append_getElem ho, List.set_append]
    simp [Nat.min_eq_left (Nat.le_of_lt (by simpa using ho)), show o + (vs.length + 1) = o + 1 + vs.length by omega]

theorem chg_setCells {g : Nat} : ∀ (vs : List Value) (o : Nat) (w : World), Chg (fun k => k = g) w (w.setCells g o vs)
  | [], _, w => Chg.refl _ w
  | v :: vs, o, w => ((Chg.refl (fun k => k = g) w).setCell (p := ⟨g, o, none⟩) (.inl rfl) v).trans (chg_setCells vs (o + 1) _) (fun _ h _ => h)


/-- A slice of strings that can be read. -/
def StrsAt (w : World) (x : Value) (l : List ByteArray) : Prop :=
  ∃ a c, x = .slice a l.length c ∧ l.length ≤ c ∧ c ≤ maxLen ∧ ∀ (j : Nat) s, l[j]? = some s → ∃ b off, a = some ⟨b, off, none⟩ ∧ w.cell? ⟨b, off + j, none⟩ = some (.string s)

theorem StrsAt.val {w : World} {x : Value} {l : List ByteArray} (h : StrsAt w x l) : ∃ a c, x = .slice a l.length c ∧ l.length ≤ c ∧ c ≤ maxLen := by
  obtain ⟨a, c, rfl, h1, h2, _⟩ := h
  exact ⟨a, c, rfl, h1, h2⟩

theorem StrsAt.mk {w : World} {b off c : Nat} {l : List ByteArray} (n : Nat) (hn : n = l.length) (h1 : l.length ≤ c) (h2 : c ≤ maxLen) (h : ∀ (j : Nat) s, l[j]? = some s → w.cell? ⟨b, off + j, none⟩ = some (.string s)) : StrsAt w (.slice (some ⟨b, off, none⟩) n c) l :=
  ⟨_, c, by rw [hn], h1, h2, fun j s hs => ⟨b, off, rfl, h j s hs⟩⟩

theorem StrsAt.below {w w' : World} {x : Value} {l : List ByteArray} (h : StrsAt w x l) {B : Nat} (hb : Below B w w') (hB : w.heap.size ≤ B) : StrsAt w' x l := by
  obtain ⟨a, c, rfl, h1, h2, h3⟩ := h
  refine ⟨a, c, rfl, h1, h2, fun j s hs => ?_⟩
  obtain ⟨b, off, e, hc⟩ := h3 j s hs
  have := World.block_lt_of_cell? w _ hc
  exact ⟨b, off, e, (hb.cell (p := ⟨b, _, none⟩) (by show b < B; simp at this; omega)).trans hc⟩

theorem strs_cell {w : World} {a : Option Addr} {n c : Nat} {l : List ByteArray} (h : StrsAt w (.slice a n c) l) (j : Nat) (s : ByteArray) (hs : l[j]? = some s) : ∃ b off, a = some ⟨b, off, none⟩ ∧ w.cell? ⟨b, off + j, none⟩ = some (.string s) := by
  obtain ⟨a', c', hx, _, _, h3⟩ := h
  simp only [Value.slice.injEq] at hx
  obtain ⟨rfl, _, _⟩ := hx
  exact h3 j s hs

theorem strs_src {P : Program} {te : TypeId} {w : World} {t : TypeId} (hk : P.underlying t = some (.slice te)) {a : Option Addr} {n c : Nat} {l : List ByteArray} (h : StrsAt w (.slice a n c) l) (k : Nat) (hkl : k ≤ l.length) :
    Src P 1 t (.slice a k c) k ((l.take k).map Value.string) w := by
  cases a with
  | none =>
    have h0 : l = [] := by
      match l, h with
      | [], _ => rfl
      | s :: r, h =>
        obtain ⟨b, off, e, _⟩ := strs_cell h 0 s rfl
        cases e
    subst h0
    obtain rfl : k = 0 := by simpa using hkl
    exact Src.ofNil w hk c
  | some ad =>
    refine Src.ofSlice w hk ad k _ _ (by simp; omega) (fun j u hu => ?_) (fun u hu => ?_)
    · rw [List.getElem?_map, List.getElem?_take] at hu
      split at hu
      · obtain ⟨s, hs, rfl⟩ := Option.map_eq_some_iff.1 hu
        obtain ⟨b, off, e, hc⟩ := strs_cell h j s hs
        injection e with e
        subst e
        rw [Addr.add_lit]
        exact hc
      · simp at hu
    · obtain ⟨s, _, rfl⟩ := List.mem_map.1 hu
      rfl

theorem own_strs {w : World} {B : Nat} {e : TypeId} {v : Value} {l : List ByteArray} (h : w.ownsRow B e 1 v l.length (l.map Value.string)) : StrsAt w v l := by
  rcases h.2 with ⟨rfl, h0⟩ | ⟨g, c, cur, rfl, _, _, h1, h2, _⟩
  · have : l = [] := List.length_eq_zero_iff.1 h0
    subst this
    exact ⟨none, 0, rfl, by simp, by decide, fun j s hs => by simp at hs⟩
  · refine .mk _ rfl h1 h2 fun j s hs => ?_
    have := h.cells (g := g) rfl j (.string s) (by rw [List.getElem?_map, hs]; rfl)
    rwa [Addr.add_lit] at this

theorem str_eq (a b : ByteArray) (h : (a.toList == b.toList) = true) : a = b := by
  have h1 : a.toList = b.toList := by simpa using h
  rw [ByteArray.toList_eq, ByteArray.toList_eq] at h1
  exact ByteArray.ext (Array.toList_inj.1 h1)

theorem own_kept {w w' : World} {B : Nat} {e : TypeId} {z : Nat} {v : Value} {n : Nat} {xs : List Value} {S : Nat → Prop} (h : w.ownsRow B e z v n xs) (hc : Chg S w w') (hn : ∀ g, v.ownBlock = some g → ¬ S g) : w'.ownsRow B e z v n xs := by
  obtain ⟨h1, h2⟩ := h
  refine ⟨h1, ?_⟩
  rcases h2 with h2 | ⟨g, c, cur, rfl, hB, hg, r⟩
  · exact .inl h2
  · exact .inr ⟨g, c, cur, rfl, hB, (hc.block g (Array.getElem?_eq_some_iff.1 hg).1 (hn g rfl)).trans hg, r⟩

theorem own_base {w : World} {B B' : Nat} {e : TypeId} {z : Nat} {v : Value} {n : Nat} {xs : List Value} (h : w.ownsRow B e z v n xs) (hB : B' ≤ B) : w.ownsRow B' e z v n xs := by
  obtain ⟨h1, h2⟩ := h
  refine ⟨h1, ?_⟩
  rcases h2 with h2 | ⟨g, c, cur, rfl, hg, r⟩
  · exact .inl h2
  · exact .inr ⟨g, c, cur, rfl, by omega, r⟩

theorem own_lt {w : World} {B : Nat} {e : TypeId} {z : Nat} {v : Value} {n : Nat} {xs : List Value} (h : w.ownsRow B e z v n xs) (k : Nat) (hk : some k = v.ownBlock) : B ≤ k ∧ k < w.heap.size := World.ownsRow.lt h k hk.symm

section
variable {P : Program}
/-- append, from whatever source, onto a row that the call owns: both arms. -/
theorem run_append_src (w : World) (base : Nat) (t tx ty e : TypeId) (i : TypeInfo) (z : Value) (size bytes : Nat) (ht : P.underlying t = some (.slice e)) (hi : P.info? e = some i) (hz : i.zero = some z)
    (hsize : i.size = size) (hby : i.bytes = bytes) (hzs : z.cells.size = size) (hsz : 0 < size)
    (v : Value) (n : Nat) (xs : List Value) (hown : w.ownsRow base e size v n xs) (x : Value) (m : Nat) (news : List Value) (hs : Src P size tx x m news w)
    (h63 : n + m ≤ maxLen) (hbytes : (n + m) * bytes ≤ 140737488355328) (hbase : base ≤ w.heap.size) :
    ∃ v' w', (Builtin.append_ #[t, tx] ty #[v, x]).run P w = .ok v' w' ∧ w'.ownsRow base e size v' (n + m) (xs ++ news) ∧ Chg (fun k => some k = v.ownBlock) w w' ∧ (v'.ownBlock = v.ownBlock ∨ v'.ownBlock = some w.heap.size) := by
  subst hsize
  subst hby
  have hl := hs.newsLen
  have hlen : (xs ++ news).length = (n + m) * i.size := by rw [List.length_append, hown.1, hl, Nat.add_mul]
  have h63n : n + m ≤ 9223372036854775807 := by unfold maxLen at h63; omega
  have h63' : ((n + m : Nat) : Int) ≤ 9223372036854775807 := by omega
  have grown : ∀ (c : Nat) (row : Option Nat) , n + m ≤ c → c ≤ maxLen →
      (w.drew.alloc (.cells ((xs ++ news).toArray ++ Builtin.zeroCells z.cells (c - (n + m))) e)).ownsRow base e i.size (.slice (some ⟨w.heap.size, 0, none⟩) (n + m) c) (n + m) (xs ++ news) := by
    intro c row h1 h2
    refine ⟨hlen, .inr ⟨w.heap.size, c, _, rfl, hbase, heap_alloc_new w.drew _, h1, h2, ?_, ?_⟩⟩
    · simp only [Array.size_append, List.size_toArray, size_zeroCells, hzs, hlen, ← Nat.add_mul]
      congr 1
      omega
    · simp only [Array.toList_append]
      rw [← hlen]
      exact List.take_left
  rcases hown.2 with ⟨rfl, rfl⟩ | ⟨g, cap, cur, rfl, hbg, hg, hnc, hcm, hcs, htake⟩
  · have hx : xs = [] := List.eq_nil_of_length_eq_zero (by simpa using hown.1)
    subst hx
    by_cases hm : m = 0
    · subst hm
      have hn : news = [] := List.eq_nil_of_length_eq_zero (by simpa using hl)
      subst hn
      refine ⟨.slice none 0 0, w, ?_, World.ownsRow_nil w base e i.size, Chg.refl _ _, .inl rfl⟩
      have hc := hs.cells
      have hlx := hs.len w
      rcases hs.kind with ⟨e', hk⟩ | hk <;> simp [Builtin.append_, run_underlying ht, run_underlying hk, sizeOf, typeInfo, hi, hlx, hc]
    · have hold : (Builtin.firstCells i.size 0 (.slice none 0 0)).run P w.drew = .ok ([] : List Value).toArray w.drew := run_firstCells_none w.drew i.size 0 0 0
      have hfit : Builtin.nextslicecap (0 + m) 0 * i.bytes ≤ 281474976710656 := growslice_fits (by omega) hbytes
      have hr := run_append_grow_src (P := P) w t tx ty e i z ht hi hz none 0 0 [] hold x m news hs (by omega) h63' hfit
      refine ⟨_, _, hr, grown _ none (grownCap_ge ..) (grownCap_le_maxLen _ _ _ _ h63), ((Chg.refl _ w).drew).alloc _, .inr rfl⟩
  · by_cases hroom : n + m ≤ cap
    · have hsize' : n * i.size + news.length ≤ cur.size := by rw [hl, hcs, ← Nat.add_mul]; exact Nat.mul_le_mul_right _ hroom
      have hr := run_append_room_src (P := P) w t tx ty e i ht hi g 0 n cap x m news hs hroom
        (fun j hj => by simp [World.cell?, hg]; omega) (fun j hj => by simp [World.frozen?, hg])
      rw [Nat.zero_add] at hr
      have hg2 := heap_setCells news (n * i.size) w cur hg hsize'
      refine ⟨_, _, hr, ⟨hlen, .inr ⟨g, cap, _, rfl, hbg, hg2, hroom, hcm, ?_, ?_⟩⟩, (chg_setCells _ _ _).mono (fun k hk => by simp [Value.ownBlock, hk]), .inl rfl⟩
      · simp only [List.size_toArray, List.length_append, List.length_take, List.length_drop, Array.length_toList]
        omega
      · rw [htake, ← hlen]
        exact List.take_left
    · have holds : ∀ j u, xs[j]? = some u → w.drew.cell? ((⟨g, 0, none⟩ : Addr).add j) = some u := fun j u hu => hown.cells (g := g) rfl j u hu
      have hold := run_firstCells_some (P := P) w.drew i.size n ⟨g, 0, none⟩ n cap xs hown.1 holds
      have hr := run_append_grow_src (P := P) w t tx ty e i z ht hi hz (some ⟨g, 0, none⟩) n cap xs hold x m news hs (by omega) h63' (growslice_fits (by omega) hbytes)
      exact ⟨_, _, hr, grown _ none (grownCap_ge ..) (grownCap_le_maxLen _ _ _ _ h63), ((Chg.refl _ w).drew).alloc _, .inr rfl⟩

/-- The same, for the walk. -/
theorem wpList_append_src {ops : Array Oper} {rest : List Oper} {o : Oper} {a : Act} {w : World} {Q : Exit → Act → World → Prop}
    (hg : o.guard = none) (s y : Operand) (t tx : TypeId) (hop : o.op = Op.call { callee := Callee.builtin Builtin.append, args := #[s, y], argTypes := #[t, tx] })
    (base : Nat) (e : TypeId) (i : TypeInfo) (z : Value) (size bytes : Nat) (ht : P.underlying t = some (.slice e)) (hi : P.info? e = some i) (hz : i.zero = some z)
    (hsize : i.size = size) (hby : i.bytes = bytes) (hzs : z.cells.size = size) (hsz : 0 < size)
    (v : Value) (n : Nat) (xs : List Value) (hv : a.eval s = v) (hown : w.ownsRow base e size v n xs) (x : Value) (m : Nat) (news : List Value) (hx : a.eval y = x) (hs : Src P size tx x m news w)
    (h63 : n + m ≤ maxLen) (hbytes : (n + m) * bytes ≤ 140737488355328) (hbase : base ≤ w.heap.size)
    (hK : ∀ v' w', w'.ownsRow base e size v' (n + m) (xs ++ news) → Chg (fun k => some k = v.ownBlock) w w' → (v'.ownBlock = v.ownBlock ∨ v'.ownBlock = some w.heap.size) → wpList P ops Q rest (a.put o.dst v') w') :
    wpList P ops Q (o :: rest) a w := by
  refine wpList_plain hg fun _ hK' => ?_
  obtain ⟨v', w', hr, h2, h3, h4⟩ := run_append_src (P := P) w base t tx o.type e i z size bytes ht hi hz hsize hby hzs hsz v n xs hown x m news hs h63 hbytes hbase
  unfold Oper.wp execOp
  simp only [hop, resolve, invoke, builtin, Sem.run_bind, Sem.run_pure, Result.andThen_ok, List.map_toArray, List.map_cons, List.map_nil, hv, hx, hr]
  exact hK' _ _ (hK v' w' h2 h3 h4)

/-- The same, as one step of a region that draws. -/
theorem step_append_src {ops : Array Oper} {o : Oper} {a : Act} {w : World} {K : Act → World → Prop} {Q : Exit → Act → World → Prop} {E : Prop}
    (hg : o.guard = none) (s y : Operand) (t tx : TypeId) (hop : o.op = Op.call { callee := Callee.builtin Builtin.append, args := #[s, y], argTypes := #[t, tx] })
    (base : Nat) (e : TypeId) (i : TypeInfo) (z : Value) (size bytes : Nat) (ht : P.underlying t = some (.slice e)) (hi : P.info? e = some i) (hz : i.zero = some z)
    (hsize : i.size = size) (hby : i.bytes = bytes) (hzs : z.cells.size = size) (hsz : 0 < size)
    (v : Value) (n : Nat) (xs : List Value) (hv : a.eval s = v) (hown : w.ownsRow base e size v n xs) (x : Value) (m : Nat) (news : List Value) (hx : a.eval y = x) (hs : Src P size tx x m news w)
    (h63 : n + m ≤ maxLen) (hbytes : (n + m) * bytes ≤ 140737488355328) (hbase : base ≤ w.heap.size)
    (hK : ∀ v' w', w'.ownsRow base e size v' (n + m) (xs ++ news) → Chg (fun k => some k = v.ownBlock) w w' → (v'.ownBlock = v.ownBlock ∨ v'.ownBlock = some w.heap.size) → K (a.put o.dst v') w') :
    if Region.wanted o (yielded ops a.tmps) = true then Oper.wp P o a w K Q else E := by
  have hw : Region.wanted o (yielded ops a.tmps) = true := by simp [Region.wanted, hg]
  rw [if_pos hw]
  obtain ⟨v', w', hr, h2, h3, h4⟩ := run_append_src (P := P) w base t tx o.type e i z size bytes ht hi hz hsize hby hzs hsz v n xs hown x m news hs h63 hbytes hbase
  unfold Oper.wp
  simp [execOp, hop, resolve, invoke, builtin, hv, hx, hr, Result.andThen]
  exact hK v' w' h2 h3 h4
end

end Go.Proofs.Ytejbpnhondpnfaa
