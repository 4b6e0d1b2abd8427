/- The fragments that are held, in order; what lies on the disk besides. -/
import Derived.Test.YtkldkaahpicnmaaGreatMScA
import Derived.Deep.RegionHeld3
import Derived.Deep.RegionLaw
import Derived.BigQuiet
import Derived.Test.YtkldkaahpicnmaaGreatMDisk
import Derived.ProofKit
import Derived.SliceStrings
import Derived.Deep.Slices
import Derived.Deep.Fields
import Derived.ChangeSame
import Derived.OpenShut
import Derived.ShutString
import Derived.ChangeOld
import Derived.SizedLaws
import Derived.Test.YtkldkaahpicnmaaGreatMSpB
namespace Go.Proofs.YtkldkaahpicnmaaGreat
set_option maxRecDepth 100000
open Go.RowKit PFragNames

def pieceT : ByteArray := ⟨#[112, 105, 101, 99, 101]⟩
def kvI (i : I4) : KV := (nameI i, frameI i pieceT)
theorem kvI_takes {i : I4} (h : okI i = true) : takesKV (kvI i) ≤ 109 := by
  have h1 := (nameI_size h).2
  have h2 := (frameI_size h pieceT (by decide)).2
  have h3 : pieceT.size = 5 := rfl
  show (nameI i).size + (frameI i pieceT).size + 16 ≤ 109
  omega

theorem less_trans {x y z : I4} (h1 : LessI x y) (h2 : LessI y z) : LessI x z := by unfold LessI at *; omega
theorem less_irrefl (x : I4) : ¬ LessI x x := by unfold LessI; omega
theorem less_tri (x y : I4) : LessI x y ∨ x = y ∨ LessI y x := by
  obtain ⟨a, b, c, d⟩ := x
  obtain ⟨a', b', c', d'⟩ := y
  unfold LessI
  simp only [Prod.mk.injEq]
  omega

/-- In order, each once. -/
def Rises (H : List I4) : Prop := H.Pairwise LessI
theorem Rises.nodup {H : List I4} (h : Rises H) : H.Nodup := h.imp fun {x y} hlt e => by subst e; exact less_irrefl _ hlt

/-- What is held lies on the disk, and besides nothing that is an id's. -/
structure Mixed (H : List I4) (L : List KV) : Prop where
  ok : ∀ h ∈ H, okI h = true
  ord : Rises H
  of : ∀ x ∈ L, (∃ h ∈ H, x = kvI h) ∨ ∀ i, okI i = true → nameI i ≠ x.1
  has : ∀ h ∈ H, kvI h ∈ L

theorem mixed_nil : Mixed [] [] := ⟨(fun _ h => by cases h), List.Pairwise.nil, (fun _ h => by cases h), (fun _ h => by cases h)⟩

/-- Of which of the held ids a name is. -/
def fH (H : List I4) (s : ByteArray) : Option I4 := H.find? fun h => decide (nameI h = s)
theorem fH_some {H : List I4} {s : ByteArray} {i : I4} (h : fH H s = some i) : i ∈ H ∧ nameI i = s := by
  unfold fH at h
  exact ⟨List.mem_of_find?_eq_some h, by simpa using List.find?_some h⟩
theorem fH_none {H : List I4} {s : ByteArray} (h : fH H s = none) : ∀ i ∈ H, nameI i ≠ s := by
  unfold fH at h
  rw [List.find?_eq_none] at h
  intro i hi
  simpa using h i hi

section
variable {H : List I4} {L : List KV}
theorem Mixed.names (h : Mixed H L) : ∀ x ∈ L, NamesOk (fH H) x.1 := by
  intro x hx
  refine ⟨fun i hi => ⟨h.ok i (fH_some hi).1, (fH_some hi).2⟩, fun hn i hi => ?_⟩
  rcases h.of x hx with ⟨g, hg, rfl⟩ | hno
  · exact absurd rfl (fH_none hn g hg)
  · exact hno i hi
theorem Mixed.at (h : Mixed H L) {x : KV} (hx : x ∈ L) {i : I4} (hi : fH H x.1 = some i) : x = kvI i := by
  obtain ⟨h1, h2⟩ := fH_some hi
  rcases h.of x hx with ⟨g, hg, rfl⟩ | hno
  · have : g = i := nameI_inj (h.ok g hg) (h.ok i h1) (by rw [h2]; rfl)
    rw [this]
  · exact absurd h2 (hno i (h.ok i h1))
theorem Mixed.held (h : Mixed H L) : HeldOk (fH H) (fun _ => true) L := by
  intro x hx i hi
  exact .inl ⟨rfl, pieceT, by decide, by rw [h.at hx hi]; rfl⟩
theorem fH_mem (h : ∀ g ∈ H, okI g = true) {i : I4} (hi : i ∈ H) : fH H (nameI i) = some i := by
  cases hf : fH H (nameI i) with
  | none => exact absurd rfl (fH_none hf i hi)
  | some j =>
    obtain ⟨h1, h2⟩ := fH_some hf
    rw [nameI_inj (h j h1) (h i hi) h2]
theorem Mixed.ids (h : Mixed H L) (ha : Apartn L) : (idsOf (fH H) L).Perm H := by
  rw [List.perm_ext_iff_of_nodup (ids_nodup h.names ha) h.ord.nodup]
  intro i
  unfold idsOf
  rw [List.mem_filterMap]
  constructor
  · rintro ⟨x, hx, hi⟩
    exact (fH_some hi).1
  · intro hi
    exact ⟨kvI i, h.has i hi, fH_mem h.ok hi⟩

/-- What is put again changes nothing. -/
theorem Mixed.again (h : Mixed H L) (ha : Apartn L) {i : I4} (hi : i ∈ H) : Mixed H (putKV (nameI i) (frameI i pieceT) L) := by
  refine ⟨h.ok, h.ord, fun x hx => ?_, fun g hg => ?_⟩
  · rcases List.mem_cons.1 ((put_perm _ _ _).mem_iff.1 hx) with rfl | hx
    · exact .inl ⟨i, hi, rfl⟩
    · exact h.of x (mem_del.1 hx).1
  · refine (put_perm _ _ _).mem_iff.2 ?_
    by_cases e : nameI g = nameI i
    · have : g = i := nameI_inj (h.ok g hg) (h.ok i hi) e
      rw [this]; exact List.mem_cons_self ..
    · exact List.mem_cons_of_mem _ (mem_del.2 ⟨h.has g hg, e⟩)
/-- A new one, in its place. -/
theorem Mixed.put (h : Mixed H L) {i : I4} (hok : okI i = true) {k : Nat} (hk : k ≤ H.length) (hup : ∀ j g, k ≤ j → H[j]? = some g → LessI i g) (hdn : ∀ g, 0 < k → H[k - 1]? = some g → LessI g i) :
    Mixed (H.take k ++ i :: H.drop k) (putKV (nameI i) (frameI i pieceT) L) := by
  have hlow : ∀ g ∈ H.take k, LessI g i := by
    intro g hg
    obtain ⟨j, hj⟩ := List.mem_iff_getElem?.1 hg
    have hjk : j < k := by have := (List.getElem?_eq_some_iff.1 hj).1; rw [List.length_take] at this; omega
    rw [List.getElem?_take_of_lt hjk] at hj
    obtain ⟨t, ht⟩ : ∃ t, H[k - 1]? = some t := ⟨_, List.getElem?_eq_getElem (by omega)⟩
    have h2 := hdn t (by omega) ht
    by_cases e : j = k - 1
    · subst e
      rw [ht] at hj; injection hj with hj; rw [← hj]; exact h2
    · have hp := List.pairwise_iff_getElem.1 h.ord
      obtain ⟨l1, e1⟩ := List.getElem?_eq_some_iff.1 hj
      obtain ⟨l2, e2⟩ := List.getElem?_eq_some_iff.1 ht
      have := hp j (k - 1) l1 l2 (by omega)
      rw [e1, e2] at this
      exact less_trans this h2
  have hhigh : ∀ g ∈ H.drop k, LessI i g := by
    intro g hg
    obtain ⟨j, hj⟩ := List.mem_iff_getElem?.1 hg
    rw [List.getElem?_drop] at hj
    exact hup (k + j) g (by omega) hj
  have hmem : ∀ g, g ∈ H.take k ++ i :: H.drop k ↔ g = i ∨ g ∈ H := by
    intro g
    rw [List.mem_append, List.mem_cons]
    conv => rhs; rw [← List.take_append_drop k H, List.mem_append]
    constructor
    · rintro (h | h | h) <;> simp [h]
    · rintro (h | h | h) <;> simp [h]
  have hni : i ∉ H := fun hi => by
    rw [← List.take_append_drop k H, List.mem_append] at hi
    rcases hi with hi | hi
    · exact less_irrefl _ (hlow i hi)
    · exact less_irrefl _ (hhigh i hi)
  refine ⟨fun g hg => ?_, ?_, fun x hx => ?_, fun g hg => ?_⟩
  · rcases (hmem g).1 hg with rfl | hg
    · exact hok
    · exact h.ok g hg
  · have hs := h.ord
    unfold Rises at hs ⊢
    rw [← List.take_append_drop k H, List.pairwise_append] at hs
    rw [List.pairwise_append]
    refine ⟨hs.1, List.pairwise_cons.2 ⟨hhigh, hs.2.1⟩, fun a ha b hb => ?_⟩
    rcases List.mem_cons.1 hb with rfl | hb
    · exact hlow a ha
    · exact hs.2.2 a ha b hb
  · rcases List.mem_cons.1 ((put_perm _ _ _).mem_iff.1 hx) with rfl | hx
    · exact .inl ⟨i, (hmem i).2 (.inl rfl), rfl⟩
    · rcases h.of x (mem_del.1 hx).1 with ⟨g, hg, rfl⟩ | hno
      · exact .inl ⟨g, (hmem g).2 (.inr hg), rfl⟩
      · exact .inr hno
  · refine (put_perm _ _ _).mem_iff.2 ?_
    rcases (hmem g).1 hg with rfl | hg
    · exact List.mem_cons_self ..
    · refine List.mem_cons_of_mem _ (mem_del.2 ⟨h.has g hg, fun e => hni ?_⟩)
      rw [← nameI_inj (h.ok g hg) hok e]; exact hg
/-- Another name. -/
theorem Mixed.other (h : Mixed H L) {k v : ByteArray} (hk : ∀ i, okI i = true → nameI i ≠ k) : Mixed H (putKV k v L) := by
  refine ⟨h.ok, h.ord, fun x hx => ?_, fun g hg => ?_⟩
  · rcases List.mem_cons.1 ((put_perm _ _ _).mem_iff.1 hx) with rfl | hx
    · exact .inr hk
    · exact h.of x (mem_del.1 hx).1
  · exact (put_perm _ _ _).mem_iff.2 (List.mem_cons_of_mem _ (mem_del.2 ⟨h.has g hg, hk g (h.ok g hg)⟩))
theorem Mixed.written (h : Mixed H L) {k v : ByteArray} (size : Nat) (hk : ∀ i, okI i = true → nameI i ≠ k) : Mixed H (writeS size L k v) := by
  unfold writeS
  split
  · exact h
  · split
    · exact h
    · exact h.other hk

/-- What is scanned is what is held. -/
theorem Mixed.scan (h : Mixed H L) (ha : Apartn L) {ys : List I4} (hp : ys.Perm ((idsOf (fH H) L).filter fun _ => true)) (hs : ys.Pairwise fun x y => ¬ LessI y x) : ys = H := by
  rw [List.filter_eq_self.2 (fun _ _ => rfl)] at hp
  have hp2 := hp.trans (h.ids ha)
  refine List.Perm.eq_of_pairwise (le := fun x y => ¬ LessI y x) ?_ hs ?_ hp2
  · intro x y _ _ h1 h2
    rcases less_tri x y with h | h | h
    · exact absurd h h2
    · exact h
    · exact absurd h h1
  · exact h.ord.imp fun {x y} hlt hgt => less_irrefl _ (less_trans hlt hgt)
end
end Go.Proofs.YtkldkaahpicnmaaGreat
/- What FragScans keeps: the ids that are held, in order, in a row of their own; how it grows. -/
namespace Go.Proofs.YtkldkaahpicnmaaGreat
set_option maxRecDepth 100000
open Go.RowKit PFragNames
open Go.Proofs.YtkldkaahpicnmaaGreatW.PrintWords

/-- A slice of ids that can be read. -/
def IdsAt (w : World) (x : Value) (l : List I4) : Prop :=
  ∃ a c, x = .slice a l.length c ∧ l.length ≤ c ∧ c ≤ maxLen ∧ ∀ (j : Nat) u, l[j]? = some u → ∃ b off, a = some ⟨b, off, none⟩ ∧ IdCells w b (off + j * 4) u
theorem IdsAt.val {w : World} {x : Value} {l : List I4} (h : IdsAt w x l) : ∃ a c, x = .slice a l.length c ∧ l.length ≤ c ∧ c ≤ maxLen := by
  obtain ⟨a, c, rfl, h1, h2, _⟩ := h
  exact ⟨a, c, rfl, h1, h2⟩
theorem IdsAt.below {w w' : World} {x : Value} {l : List I4} (h : IdsAt w x l) {B : Nat} (hb : Below B w w') (hB : w.heap.size ≤ B) : IdsAt w' x l := by
  obtain ⟨a, c, rfl, h1, h2, h3⟩ := h
  refine ⟨a, c, rfl, h1, h2, fun j u hu => ?_⟩
  obtain ⟨b, off, e, p1, p2, p3, p4⟩ := h3 j u hu
  have hlt : b < B := by have := World.block_lt_of_cell? w _ p1; simp at this; omega
  exact ⟨b, off, e, (hb.cell (p := ⟨b, _, none⟩) hlt).trans p1, (hb.cell (p := ⟨b, _, none⟩) hlt).trans p2, (hb.cell (p := ⟨b, _, none⟩) hlt).trans p3, (hb.cell (p := ⟨b, _, none⟩) hlt).trans p4⟩
theorem ids_cell {w : World} {a : Option Addr} {n c : Nat} {l : List I4} (h : IdsAt w (.slice a n c) l) (j : Nat) (u : I4) (hu : l[j]? = some u) : ∃ b off, a = some ⟨b, off, none⟩ ∧ IdCells w b (off + j * 4) u := by
  obtain ⟨a', c', hx, _, _, h3⟩ := h
  simp only [Value.slice.injEq] at hx
  obtain ⟨rfl, _, _⟩ := hx
  exact h3 j u hu

theorem put_wrong (p : Nat) (i : I4) (piece : ByteArray) (w : World) (hok : okI i = false) :
    Calls Tryz.prog 9 #[.pointer (some ⟨p, 0, none⟩), valI i, .string piece] w fun e w' => e = .returned (.int .i64 1) ∧ Below w.heap.size w w' := by
  obtain ⟨x0, x1, x2, x3⟩ := i
  have HF := Lib.hid (fun W => frame_wrong x0 x1 x2 x3 piece hok W)
  unfold idV at HF
  unfold valI
  simp only
  go_enter Tryz.func9, Tryz.ntmps9
  go_wp2_with fail
  refine (HF.out _).mono ?_
  rintro e w1 ⟨rfl, hb1⟩
  have hb2 : Below w.heap.size w w1 := ((Below.refl _ w).alloc (Nat.le_refl _) _).trans (hb1.mono (by simp))
  go_wp2_with fail
  go_ret
  exact ⟨rfl, hb2⟩

section
variable {P : Program}
/-- append where there is no room: a new row. -/
theorem run_append_cut (w : World) (t tx ty e : TypeId) (i : TypeInfo) (z : Value) (size bytes : Nat) (ht : P.underlying t = some (.slice e)) (hi : P.info? e = some i) (hz : i.zero = some z)
    (hsize : i.size = size) (hby : i.bytes = bytes) (hzs : z.cells.size = size) (hsz : 0 < size)
    (a : Option Addr) (n cap : Nat) (xs : List Value) (hxl : xs.length = n * size) (hold : (Builtin.firstCells size n (.slice a n cap)).run P w.drew = .ok xs.toArray w.drew) (hcap : n ≤ cap) (x : Value) (m : Nat) (news : List Value) (hs : Src P size tx x m news w)
    (hgrow : cap < n + m) (h63 : n + m ≤ maxLen) (hbytes : (n + m) * bytes ≤ 140737488355328) (hcb : cap * bytes ≤ 140737488355328) :
    ∃ v' w', (Builtin.append_ #[t, tx] ty #[.slice a n cap, x]).run P w = .ok v' w' ∧ w'.ownsRow w.heap.size e size v' (n + m) (xs ++ news) ∧ Chg (fun _ => False) w w' := by
  subst hsize
  subst hby
  have hl := hs.newsLen
  have hlen : (xs ++ news).length = (n + m) * i.size := by rw [List.length_append, hxl, hl, Nat.add_mul]
  have h63' : ((n + m : Nat) : Int) ≤ 9223372036854775807 := by unfold maxLen at h63; omega
  have grown : ∀ (c : Nat), n + m ≤ c → c ≤ maxLen →
      (w.drew.alloc (.cells ((xs ++ news).toArray ++ Builtin.zeroCells z.cells (c - (n + m))) e)).ownsRow w.heap.size e i.size (.slice (some ⟨w.heap.size, 0, none⟩) (n + m) c) (n + m) (xs ++ news) := by
    intro c h1 h2
    refine ⟨hlen, .inr ⟨w.heap.size, c, _, rfl, Nat.le_refl _, heap_alloc_new w.drew _, h1, h2, ?_, ?_⟩⟩
    · simp only [Array.size_append, List.size_toArray, size_zeroCells, hzs, hlen, ← Nat.add_mul]
      congr 1
      omega
    · simp only [Array.toList_append]
      rw [← hlen]
      exact List.take_left
  have hr := run_append_grow_src (P := P) w t tx ty e i z ht hi hz a n cap xs hold x m news hs (by omega) h63' (growslice_fits (by omega) hbytes)
  exact ⟨_, _, hr, grown _ (grownCap_ge ..) (grownCap_le_maxLen _ _ _ _ h63), ((Chg.refl _ w).drew).alloc _⟩

/-- The same, as one step of a region that draws. -/
theorem step_append_cut {ops : Array Oper} {o : Oper} {a : Act} {w : World} {K : Act → World → Prop} {Q : Exit → Act → World → Prop} {E : Prop}
    (hg : o.guard = none) (s y : Operand) (t tx : TypeId) (hop : o.op = Op.call { callee := Callee.builtin Builtin.append, args := #[s, y], argTypes := #[t, tx] })
    (e : TypeId) (i : TypeInfo) (z : Value) (size bytes : Nat) (ht : P.underlying t = some (.slice e)) (hi : P.info? e = some i) (hz : i.zero = some z)
    (hsize : i.size = size) (hby : i.bytes = bytes) (hzs : z.cells.size = size) (hsz : 0 < size)
    (ad : Option Addr) (n cap : Nat) (xs : List Value) (hv : a.eval s = .slice ad n cap) (hxl : xs.length = n * size) (hold : (Builtin.firstCells size n (.slice ad n cap)).run P w.drew = .ok xs.toArray w.drew) (hcap : n ≤ cap) (x : Value) (m : Nat) (news : List Value) (hx : a.eval y = x) (hs : Src P size tx x m news w)
    (hgrow : cap < n + m) (h63 : n + m ≤ maxLen) (hbytes : (n + m) * bytes ≤ 140737488355328) (hcb : cap * bytes ≤ 140737488355328)
    (hK : ∀ v' w', w'.ownsRow w.heap.size e size v' (n + m) (xs ++ news) → Chg (fun _ => False) w w' → K (a.put o.dst v') w') :
    if Region.wanted o (yielded ops a.tmps) = true then Oper.wp P o a w K Q else E := by
  have hw : Region.wanted o (yielded ops a.tmps) = true := by simp [Region.wanted, hg]
  rw [if_pos hw]
  obtain ⟨v', w', hr, h2, h3⟩ := run_append_cut (P := P) w t tx o.type e i z size bytes ht hi hz hsize hby hzs hsz ad n cap xs hxl hold hcap x m news hs hgrow h63 hbytes hcb
  unfold Oper.wp
  simp [execOp, hop, resolve, invoke, builtin, hv, hx, hr, Result.andThen]
  exact hK v' w' h2 h3
end

theorem flat_drop : ∀ (H : List I4) (k : Nat), (H.drop k).flatMap cellsI = (H.flatMap cellsI).drop (k * 4)
  | H, 0 => by simp
  | [], k + 1 => by simp
  | x :: r, k + 1 => by
    rw [List.drop_succ_cons, flat_drop r k, List.flatMap_cons, show (k + 1) * 4 = 4 + k * 4 by omega, ← List.drop_drop]
    rfl
theorem flat_take : ∀ (H : List I4) (k : Nat), (H.take k).flatMap cellsI = (H.flatMap cellsI).take (k * 4)
  | H, 0 => by simp
  | [], k + 1 => by simp
  | x :: r, k + 1 => by
    rw [List.take_succ_cons, List.flatMap_cons, flat_take r k, List.flatMap_cons, show (k + 1) * 4 = (cellsI x).length + k * 4 by show _ = 4 + k * 4; omega, List.take_length_add_append]

/-- A row of ids, of whatever type, that the call has made, as a block of ids. -/
theorem own_idsT {e : TypeId} {w : World} {B : Nat} {v : Value} {L : List I4} (h : w.ownsRow B e 4 v L.length (L.flatMap cellsI)) :
    (v = .slice none 0 0 ∧ L = []) ∨ ∃ g c, v = .slice (some ⟨g, 0, none⟩) L.length c ∧ B ≤ g ∧ L.length ≤ c ∧ c ≤ maxLen ∧ IdBlk w g 0 L ∧ ∀ (j : Nat) u, (L.flatMap cellsI)[j]? = some u → w.cell? ⟨g, j, none⟩ = some u := by
  rcases h.2 with ⟨rfl, h0⟩ | ⟨g, c, cur, rfl, hg, hb, h1, h2, h3, h4⟩
  · exact .inl ⟨rfl, List.length_eq_zero_iff.1 h0⟩
  · have hc : ∀ (j : Nat) u, (L.flatMap cellsI)[j]? = some u → w.cell? ⟨g, j, none⟩ = some u := fun j u hu => by
      have := h.cells (g := g) rfl j u hu
      rwa [Addr.add_lit, Nat.zero_add] at this
    refine .inr ⟨g, c, rfl, hg, h1, h2, ⟨⟨cur, _, hb⟩, fun j i hi => ?_⟩, hc⟩
    have hf : ∀ q u, (cellsI i)[q]? = some u → (L.flatMap cellsI)[j * 4 + q]? = some u := by
      intro q u hu
      have h5 : (L.drop j).flatMap cellsI = cellsI i ++ (L.drop (j + 1)).flatMap cellsI := by
        obtain ⟨hlt, e⟩ := List.getElem?_eq_some_iff.1 hi
        rw [List.drop_eq_getElem_cons hlt, e, List.flatMap_cons]
      have hq : q < (cellsI i).length := (List.getElem?_eq_some_iff.1 hu).1
      have h6 := congrArg (fun l : List Value => l[q]?) h5
      rw [List.getElem?_append_left hq, hu, flat_drop, List.getElem?_drop] at h6
      exact h6
    rw [Nat.zero_add]
    exact ⟨hc _ _ (hf 0 _ rfl), hc _ _ (hf 1 _ rfl), hc _ _ (hf 2 _ rfl), hc _ _ (hf 3 _ rfl)⟩

/-- What is kept from round to round. -/
structure SJ (w : World) (p b B : Nat) (H : List I4) (L : List KV) (vH : Value) (W : World) : Prop where
  disk : DiskAt W p b 65536 L
  row : W.ownsRow B 23 4 vH H.length (H.flatMap cellsI)
  below : Below w.heap.size w W
  base : B ≤ W.heap.size
  lo : w.heap.size ≤ p ∧ w.heap.size ≤ b ∧ p < B ∧ b < B
section
variable {w : World} {p b B : Nat} {H : List I4} {L : List KV} {vH : Value} {W W' : World}
theorem SJ.keep (h : SJ w p b B H L vH W) (hb : Below W.heap.size W W') : SJ w p b B H L vH W' :=
  ⟨h.disk.under hb (Array.getElem?_eq_some_iff.1 h.disk.at_).1 h.disk.own.lt, own_kept h.row (S := fun _ => False) ⟨hb.os, hb.tape, hb.output, hb.size, fun k hk _ => hb.block k hk⟩ (fun _ _ h => h), h.below.trans (hb.mono h.below.size), Nat.le_trans h.base hb.size, h.lo⟩
theorem SJ.turn (h : SJ w p b B H L vH W) {L' : List KV} (hd : DiskAt W' p b 65536 L') (hc : Chg (fun k => k = b) W W') : SJ w p b B H L' vH W' :=
  ⟨hd, own_kept h.row hc (fun g hg e => by have := own_lt h.row g hg.symm; have := h.lo; omega), h.below.trans (hc.below h.below.size (fun k hk => by have := h.lo; omega)), Nat.le_trans h.base hc.size, h.lo⟩
theorem SJ.grown (h : SJ w p b B H L vH W) {H' : List I4} {v' : Value} (hc : Chg (fun _ => False) W W') (hr : W'.ownsRow B 23 4 v' H'.length (H'.flatMap cellsI)) : SJ w p b B H' L v' W' :=
  ⟨h.disk.chg hc (fun h => h) (fun h => h), hr, h.below.trans (hc.below h.below.size (fun _ h => h.elim)), Nat.le_trans h.base hc.size, h.lo⟩
end
/-- The held ids, read. -/
theorem SJ.cells {w : World} {p b B : Nat} {H : List I4} {L : List KV} {ah : Option Addr} {n ch : Nat} {W : World} (h : SJ w p b B H L (.slice ah n ch) W) {m : Nat} {g : I4} (hm : H[m]? = some g) : ∃ g0, ah = some ⟨g0, 0, none⟩ ∧ IdCells W g0 (m * 4) g := by
  rcases own_idsT h.row with ⟨_, h0⟩ | ⟨g0, c, hv, _, _, _, hI, _⟩
  · rw [h0] at hm; simp at hm
  · simp only [Value.slice.injEq] at hv
    obtain ⟨rfl, _, _⟩ := hv
    have := hI.cell m g hm
    rw [Nat.zero_add] at this
    exact ⟨g0, rfl, this⟩

theorem infoRef : (Tryz.prog.info? 23).map (fun i => (i.zero, i.size, i.bytes)) = some (some (.agg #[.int .i64 0, .int .i64 0, .int .i64 0, .int .i64 0]), 4, 32) := by kernel_rfl

theorem own_one (W : World) (x0 x1 x2 x3 : Int) : (W.alloc (.cells #[.int .i64 x0, .int .i64 x1, .int .i64 x2, .int .i64 x3] 23)).ownsRow W.heap.size 23 4 (.slice (some ⟨W.heap.size, 0, none⟩) 1 1) 1 (cellsI (x0, x1, x2, x3)) :=
  ⟨rfl, .inr ⟨W.heap.size, 1, _, rfl, Nat.le_refl _, heap_alloc_new W _, Nat.le_refl _, by decide, rfl, rfl⟩⟩

theorem ids_one (L : List I4) : ∀ u ∈ L.flatMap cellsI, u.oneCell' = true := by
  intro u hu
  obtain ⟨i, _, hu⟩ := List.mem_flatMap.1 hu
  simp [cellsI] at hu
  rcases hu with rfl | rfl | rfl | rfl <;> rfl

theorem flat_len (L : List I4) : (L.flatMap cellsI).length = L.length * 4 := by
  induction L with
  | nil => rfl
  | cons x r ih =>
    rw [List.flatMap_cons, List.length_append, ih, List.length_cons]
    show 4 + _ = _
    omega

/-- The held ids behind a place, as what is appended. -/
theorem src_if {W : World} {g0 : Nat} {H : List I4} (hc : ∀ (j : Nat) u, (H.flatMap cellsI)[j]? = some u → W.cell? ⟨g0, j, none⟩ = some u) (k c : Nat) (hk : H.length ≤ c) :
    Src Tryz.prog 4 40 (.slice (if c = k then some ⟨g0, 0, none⟩ else some ⟨g0, k * 4, none⟩) (H.length - k) (c - k)) (H.length - k) ((H.drop k).flatMap cellsI) W := by
  split
  · rename_i e
    rw [List.drop_eq_nil_of_le (by omega), show H.length - k = 0 by omega]
    exact Src.ofSlice W Tryz.underlying40 ⟨g0, 0, none⟩ 0 _ [] rfl (fun j u hu => by simp at hu) (fun u hu => by cases hu)
  · exact Src.ofSlice W Tryz.underlying40 ⟨g0, k * 4, none⟩ _ _ _ (by rw [flat_len]; simp) (fun j u hu => by
      rw [flat_drop, List.getElem?_drop] at hu
      rw [Addr.add_lit]
      exact hc _ _ hu) (ids_one _)
theorem src_own {W : World} {B : Nat} {v : Value} {L : List I4} {n : Nat} (hn : n = L.length) (h : W.ownsRow B 23 4 v n (L.flatMap cellsI)) : Src Tryz.prog 4 40 v n (L.flatMap cellsI) W := by
  subst hn
  rcases own_idsT h with ⟨rfl, h0⟩ | ⟨g, c, rfl, _, _, _, _, hc⟩
  · rw [h0]; exact Src.ofNil W Tryz.underlying40 0
  · exact Src.ofSlice W Tryz.underlying40 ⟨g, 0, none⟩ _ c _ (flat_len L) (fun j u hu => by
      rw [Addr.add_lit, Nat.zero_add]; exact hc _ _ hu) (ids_one _)
theorem hold_take {W : World} {g0 : Nat} {H : List I4} (hc : ∀ (j : Nat) u, (H.flatMap cellsI)[j]? = some u → W.cell? ⟨g0, j, none⟩ = some u) (k c : Nat) (hk : k ≤ H.length) : (Builtin.firstCells 4 k (.slice (some ⟨g0, 0, none⟩) k c)).run Tryz.prog W = .ok ((H.take k).flatMap cellsI).toArray W :=
  run_firstCells_some W 4 k ⟨g0, 0, none⟩ k c _ (by rw [flat_len, List.length_take]; omega) (fun j u hu => by
    rw [flat_take, List.getElem?_take] at hu
    split at hu
    · rw [Addr.add_lit, Nat.zero_add]; exact hc _ _ hu
    · cases hu)
/-- How many of an attempt are held; how many are left. -/
theorem Mixed.count {H : List I4} {L : List KV} (h : Mixed H L) (ha : Apartn L) (t a : Int) : countUpto t a (idsOf (fH H) L) (idsOf (fH H) L).length = countUpto t a H H.length := by
  unfold countUpto
  rw [List.take_length, List.take_length]
  exact ((h.ids ha).filter _).length_eq
theorem filter_split (q : I4 → Bool) : ∀ l : List I4, (l.filter fun i => !q i).length + (l.filter q).length = l.length
  | [] => rfl
  | x :: r => by
    have ih := filter_split q r
    rw [List.filter_cons, List.filter_cons]
    cases hx : q x <;> simp <;> omega
theorem Mixed.left {H : List I4} {L : List KV} (h : Mixed H L) (ha : Apartn L) (t a : Int) :
    ((idsOf (fH H) (delAll (goneUpto t a (idsOf (fH H) L) (idsOf (fH H) L).length) L)).filter fun _ => true).length = H.length - countUpto t a H H.length := by
  rw [List.filter_eq_self.2 (fun _ _ => rfl), ids_delAll h.names]
  have h1 := filter_split (ofAt t a) (idsOf (fH H) L)
  have h2 := h.count ha t a
  have h3 := (h.ids ha).length_eq
  unfold countUpto at h2 ⊢
  rw [List.take_length] at h2
  rw [List.take_length] at h2 ⊢
  omega
theorem Mixed.none {H : List I4} {L : List KV} (h : Mixed H L) (t a : Int) :
    countUpto t a (idsOf (fH H) (delAll (goneUpto t a (idsOf (fH H) L) (idsOf (fH H) L).length) L)) (idsOf (fH H) (delAll (goneUpto t a (idsOf (fH H) L) (idsOf (fH H) L).length) L)).length = 0 := by
  unfold countUpto
  rw [List.take_length, ids_delAll h.names, List.filter_filter]
  rw [List.filter_eq_nil_iff.2 (fun x _ => by cases ofAt t a x <;> simp)]
  rfl
theorem mem_delAll {ns : List ByteArray} {l : List KV} {x : KV} (h : x ∈ delAll ns l) : x ∈ l := (List.mem_filter.1 h).1

/-- A row of ids, nil if there are none: its cells. -/
theorem RowI.cells {w : World} {v : Value} {L : List I4} (h : RowI w v L) : ∃ a c, v = .slice a L.length c ∧ ∀ (m : Nat) g, L[m]? = some g → ∃ g0, a = some ⟨g0, 0, none⟩ ∧ IdBlk w g0 0 L := by
  rcases h with ⟨rfl, rfl⟩ | ⟨g, c, rfl, hI⟩
  · exact ⟨none, 0, rfl, fun m g hg => by simp at hg⟩
  · exact ⟨_, c, rfl, fun m g' _ => ⟨g, rfl, hI⟩⟩
/-- The same, and what was scanned is as it was. -/
structure XJ (w : World) (p b B : Nat) (H : List I4) (L : List KV) (vH : Value) (w5 W : World) : Prop where
  old : Below w5.heap.size w5 W
  sj : SJ w p b B H L vH W
theorem XJ.keep {w : World} {p b B : Nat} {H : List I4} {L : List KV} {vH : Value} {w5 W W' : World} (h : XJ w p b B H L vH w5 W) (hb : Below W.heap.size W W') : XJ w p b B H L vH w5 W' :=
  ⟨h.old.trans (hb.mono h.old.size), h.sj.keep hb⟩
end Go.Proofs.YtkldkaahpicnmaaGreat
/- FragScans, walked. -/
namespace Go.Proofs.YtkldkaahpicnmaaGreat
set_option maxRecDepth 100000
open Go.RowKit PFragNames
open Go.Proofs.YtkldkaahpicnmaaGreatW.PrintWords Go.Proofs.YtkldkaahpicnmaaGreatW.PrintLast Go.Proofs.YtkldkaahpicnmaaGreatW.PrintMore

section
attribute [local go_sem high] eqId eqRef

set_option maxHeartbeats 8000000 in
theorem scans_main (l : List I4) (v1 : Value) (names : List ByteArray) (v2 : Value) (t a : Int) (w : World) (h1 : IdsAt w v1 l) (h2 : StrsAt w v2 names) (hns : ∀ s ∈ names, s.size ≤ 140737488355328) (hl : l.length ≤ 30) (hn : names.length ≤ 30) :
    Calls Tryz.prog 4 #[v1, v2, .int .i64 t, .int .i64 a] w fun e w' => e = .returned (.bool true) ∧ Below w.heap.size w w' := by
  obtain ⟨a1, c1, rfl, _, _⟩ := h1.val
  obtain ⟨a2, c2, rfl, _, _⟩ := h2.val
  have HL := Lib.hid h1
  have HN := Lib.hid h2
  have HNS := Lib.hid hns
  have hq1 : ¬ ((30 : Int) < (l.length : Int)) := by omega
  have hq2 : ¬ ((30 : Int) < (names.length : Int)) := by omega
  clear h1 h2 hns
  go_enter Tryz.func4, Tryz.ntmps4
  go_wp2_with fail
  refine (awake_any _).mono ?_
  rintro e w1 ⟨rfl, hb1⟩
  go_wp2_with fail
  refine (new_any 65536 w1 (by omega)).mono ?_
  rintro e w2 ⟨p, b, rfl, hd2, hb2, hp, hb⟩
  have hs1 := hb1.size
  have hpl := (Array.getElem?_eq_some_iff.1 hd2.at_).1
  have hbl := hd2.own.lt
  have hS2 : SJ w p b w2.heap.size [] [] (.slice none 0 0) w2 := ⟨hd2, ⟨rfl, .inl ⟨rfl, rfl⟩⟩, hb1.trans (hb2.mono hs1), Nat.le_refl _, by omega, by omega, by omega, by omega⟩
  clear hb1 hb2 hd2 hp hb hs1
  go_wp2_with fail
  go_loopw [11, 12] (fun s11 s12 wr => ∃ (i : Nat) (H : List I4) (L : List KV) (vH : Value), s11 = vH ∧ s12 = .int .i64 (i : Int) ∧ i ≤ l.length ∧ H.length ≤ i ∧ tot L ≤ 109 * i ∧ Hid (Mixed H L) ∧ SJ w p b w2.heap.size H L vH wr) (fun _ s12 _ => l.length - (intOf s12).toNat)
  case atStart => exact ⟨0, [], [], _, rfl, rfl, by omega, by simp, by simp [tot], Lib.hid mixed_nil, hS2⟩
  case round =>
    obtain ⟨i, H, L, vH, rfl, rfl, hi, hHl, htot, HM, hS⟩ := hrel
    clear hS2
    by_cases hlt : i < l.length
    · have hltz : (i : Int) < (l.length : Int) := by omega
      obtain ⟨u, hu⟩ : ∃ u, l[i]? = some u := ⟨_, List.getElem?_eq_getElem hlt⟩
      obtain ⟨bk, off, rfl, _⟩ := ids_cell HL.out i u hu
      have HC : Hid (∀ W, Below w.heap.size w W → IdCells W bk (off + i * 4) u) := Lib.hid fun W hW => by
        obtain ⟨bk', off', e, hc⟩ := ids_cell (HL.out.below hW (Nat.le_refl _)) i u hu
        injection e with e
        injection e with e1 e2
        subst e1 e2
        exact hc
      obtain ⟨x0, x1, x2, x3⟩ := u
      obtain ⟨q0, q1, q2, q3⟩ := HC.out _ hS.below
      simp only at q0 q1 q2 q3
      clear hu
      go_wp2_with fail
      refine (of_any _ _ _ _ _).mono ?_
      rintro e w3 ⟨rfl, hb3⟩
      have hS3 := hS.keep hb3
      clear q0 q1 q2 q3 hS hb3
      have HRR := Lib.hid (fun W => refRight_any x0 x1 x2 x3 W)
      cases hok : okI (x0, x1, x2, x3) with
      | false =>
        have hok2 : okId x0 x1 x2 x3 = false := hok
        rw [hok2] at HRR
        have HP := Lib.hid (put_wrong p (x0, x1, x2, x3) pieceT w3 hok)
        have hxx : pieceT = ⟨#[112, 105, 101, 99, 101]⟩ := rfl
        rw [hxx] at HP
        unfold valI at HP
        simp only at HP
        clear hok hok2 hxx
        go_wp2_with fail
        refine HP.out.mono ?_
        rintro e w4 ⟨rfl, hb4⟩
        have hS4 := hS3.keep hb4
        obtain ⟨q0, q1, q2, q3⟩ := HC.out _ hS4.below
        simp only at q0 q1 q2 q3
        clear hS3 hb4 HP
        go_wp2_with fail
        refine (HRR.out _).mono ?_
        rintro e w5 ⟨rfl, hb5⟩
        have hS5 := hS4.keep hb5
        clear hS4 hb5 q0 q1 q2 q3
        go_wp2_with fail
        go_roundw
        case rel => exact ⟨i + 1, H, L, _, rfl, by go_num, hlt, by omega, by omega, HM, hS5⟩
        case measure => simp [intOf]; omega
      | true =>
        have hok2 : okId x0 x1 x2 x3 = true := hok
        rw [hok2] at HRR
        have n1 := nameI_size hok
        have n2 := frameI_size hok pieceT (by decide)
        have n3 : pieceT.size = 5 := rfl
        obtain ⟨f1, f2⟩ := write_fits 65536 L (nameI (x0, x1, x2, x3)) (frameI (x0, x1, x2, x3) pieceT) n1.1 (by omega) (by omega)
        have hpt := put_any p b 65536 L (x0, x1, x2, x3) pieceT w3 hS3.disk hok (by decide)
        rw [f1, f2] at hpt
        have HP := Lib.hid hpt
        have hxx : pieceT = ⟨#[112, 105, 101, 99, 101]⟩ := rfl
        unfold valI at HP
        simp only at HP
        have htp := tot_put hS3.disk.own.apart (nameI (x0, x1, x2, x3)) (frameI (x0, x1, x2, x3) pieceT)
        have htot2 : tot (putKV (nameI (x0, x1, x2, x3)) (frameI (x0, x1, x2, x3) pieceT) L) ≤ 109 * (i + 1) := by omega
        obtain ⟨L2, hL2⟩ : ∃ L2, L2 = putKV (nameI (x0, x1, x2, x3)) (frameI (x0, x1, x2, x3) pieceT) L := ⟨_, rfl⟩
        rw [← hL2] at HP htot2
        rw [hxx] at HP
        have HL2 := Lib.hid hL2
        have HAP := Lib.hid hS3.disk.own.apart
        have HOK := Lib.hid hok
        clear hok hok2 hxx hpt n1 n2 n3 f1 f2 htp hL2
        go_wp2_with fail
        refine HP.out.mono ?_
        rintro e w4 ⟨rfl, hd4, hc4⟩
        have hS4 := hS3.turn hd4 hc4
        obtain ⟨q0, q1, q2, q3⟩ := HC.out _ hS4.below
        simp only at q0 q1 q2 q3
        clear hS3 hd4 hc4 HP
        go_wp2_with fail
        refine (HRR.out _).mono ?_
        rintro e w5 ⟨rfl, hb5⟩
        have hS5 := hS4.keep hb5
        clear hS4 hb5 q0 q1 q2 q3
        obtain ⟨ah, ch, rfl, hchn, hchm, _⟩ := own_val hS5.row
        unfold maxLen at hchm
        go_wp2_with fail
        go_loopw [14] (fun s14 wr => ∃ k : Nat, s14 = .int .i64 (k : Int) ∧ k ≤ H.length ∧ Hid (∀ (j : Nat) g, k ≤ j → H[j]? = some g → LessI (x0, x1, x2, x3) g) ∧ SJ w p b w2.heap.size H L2 (.slice ah H.length ch) wr) (fun s14 _ => (intOf s14).toNat)
        case atStart => exact ⟨H.length, rfl, Nat.le_refl _, Lib.hid (fun j g hj hg => by have := (List.getElem?_eq_some_iff.1 hg).1; omega), hS5⟩
        case round =>
          obtain ⟨k, rfl, hk, HUP, hS6⟩ := hrel
          clear hS5
          have hkz1 : (k : Int) ≤ (H.length : Int) := by omega
          have hkz2 : (k : Int) ≤ (ch : Int) := by omega
          have hcz : (H.length : Int) ≤ (ch : Int) := by omega
          obtain ⟨i0, hi0, hz0, hz1, hz2⟩ := info_parts infoRef
          have hS6d : SJ w p b w2.heap.size H L2 (.slice ah H.length ch) wr.drew := hS6.keep ⟨rfl, rfl, rfl, Nat.le_refl _, fun _ _ => rfl⟩
          by_cases hk0 : k = 0
          · have hkn : decide ((0 : Int) < (k : Int)) = false := decide_eq_false (by omega)
            have hkn2 : decide (0 < k) = false := decide_eq_false (by omega)
            have HK0 := Lib.hid hk0
            clear hk0
            go_wp2_with fail
            go_quiet (fail)
            go_wp2_with fail
            go_quiet (fail)
            go_wp2_with fail
            generalize hw9 : (World.drewN (World.drewN wr _) _) = w9
            have hS9 : SJ w p b w2.heap.size H L2 (.slice ah H.length ch) w9 := by rw [← hw9]; exact hS6.keep ⟨rfl, rfl, rfl, Nat.le_refl _, fun _ _ => rfl⟩
            have hS9d : SJ w p b w2.heap.size H L2 (.slice ah H.length ch) w9.drew := hS9.keep ⟨rfl, rfl, rfl, Nat.le_refl _, fun _ _ => rfl⟩
            clear hw9 hS6 hS6d
            rcases own_idsT hS9d.row with ⟨hv, h0⟩ | ⟨g0, c, hv, hgB, hlc, hcm, hI, hc⟩
            · simp only [Value.slice.injEq] at hv
              obtain ⟨rfl, _, rfl⟩ := hv
              obtain rfl : k = 0 := HK0.out
              subst h0
              obtain ⟨q0, q1, q2, q3⟩ := HC.out _ hS9d.below
              simp only at q0 q1 q2 q3
              have hownA := own_one w9.drew x0 x1 x2 x3
              have hsrcA : Src Tryz.prog 4 40 (.slice none 0 0) 0 [] (w9.drew.alloc (.cells #[.int .i64 x0, .int .i64 x1, .int .i64 x2, .int .i64 x3] 23)) := Src.ofNil _ Tryz.underlying40 0
              go_region_law (first
                | (refine step_append_src rfl (.tmp 99) (.tmp 102) 40 40 rfl w9.drew.heap.size 23 i0 _ 4 32 Tryz.underlying40 hi0 hz0 hz1 hz2 rfl (by decide) _ 1 (cellsI (x0, x1, x2, x3)) (by simp [Act.eval, Act.put]) hownA _ 0 _ (by simp [Act.eval, Act.put]) hsrcA (by unfold maxLen; omega) (by omega) (by simp) ?_; intro v3 W3 hown3 hch3 hnew3
                   have hold3 := run_firstCells_none (P := Tryz.prog) W3.drew 4 0 0 0
                   have hsrc3 : Src Tryz.prog 4 40 v3 (1 + 0) ([((x0, x1, x2, x3) : I4)].flatMap cellsI) W3 := src_own (B := w9.drew.heap.size) rfl hown3)
                | (refine step_append_cut rfl (.tmp 94) (.tmp 103) 40 40 rfl 23 i0 _ 4 32 Tryz.underlying40 hi0 hz0 hz1 hz2 rfl (by decide) none 0 0 [] (by simp [Act.eval, Act.put]) rfl hold3 (Nat.le_refl _) _ (1 + 0) _ (by simp [Act.eval, Act.put]) hsrc3 (by omega) (by unfold maxLen; omega) (by omega) (by omega) ?_; intro v4 W4 ho4 hc4))
              go_wp2_with fail
              have hcAll : Chg (fun _ => False) w9 W4 := (((((Chg.refl (fun _ => False) w9).drew).alloc _).trans hch3 (fun q hq hlt => by simp [Value.ownBlock] at hq; omega)).trans hc4 (fun _ h _ => h))
              have hbase := hS9.base
              have hsz3 := hch3.size
              refine ⟨⟨i + 1, [] ++ (x0, x1, x2, x3) :: [], L2, v4, rfl, by go_num, hlt, by simp, htot2, Lib.hid (by rw [HL2.out]; exact HM.out.put (k := 0) HOK.out hk HUP.out (fun g h => by omega)), hS9.grown hcAll ?_⟩, by simp [intOf]; omega⟩
              exact own_base ho4 (by simp at hsz3; omega)
            · simp only [Value.slice.injEq] at hv
              obtain ⟨rfl, _, rfl⟩ := hv
              have hIl := hI.lt
              have hIl9 : g0 < w9.heap.size := hIl
              clear hI
              obtain ⟨q0, q1, q2, q3⟩ := HC.out _ hS9d.below
              simp only at q0 q1 q2 q3
              have hownA := own_one w9.drew x0 x1 x2 x3
              have hcA : ∀ (j : Nat) u, (H.flatMap cellsI)[j]? = some u → (w9.drew.alloc (.cells #[.int .i64 x0, .int .i64 x1, .int .i64 x2, .int .i64 x3] 23)).cell? ⟨g0, j, none⟩ = some u := fun j u hu => by
                have hbA : Below w9.drew.heap.size w9.drew (w9.drew.alloc (.cells #[.int .i64 x0, .int .i64 x1, .int .i64 x2, .int .i64 x3] 23)) := (Below.refl _ _).alloc (Nat.le_refl _) _
                exact (hbA.cell (p := ⟨g0, j, none⟩) hIl).trans (hc j u hu)
              have hsrcA := src_if hcA (k) ch hchn
              have HHC := Lib.hid hc
              have HHA := Lib.hid hcA
              clear hcA hc
              go_region_law (first
                | (refine step_append_src rfl (.tmp 99) (.tmp 102) 40 40 rfl w9.drew.heap.size 23 i0 _ 4 32 Tryz.underlying40 hi0 hz0 hz1 hz2 rfl (by decide) _ 1 (cellsI (x0, x1, x2, x3)) (by simp [Act.eval, Act.put]) hownA _ (H.length - (k)) _ (by simp [Act.eval, Act.put]) hsrcA (by unfold maxLen; omega) (by omega) (by simp) ?_; intro v3 W3 hown3 hch3 hnew3
                   have hc3 : ∀ (j : Nat) u, (H.flatMap cellsI)[j]? = some u → W3.drew.cell? ⟨g0, j, none⟩ = some u := fun j u hu => (hch3.cell (p := ⟨g0, j, none⟩) (by show g0 < _; simp; omega) (by show ¬ some g0 = some _; simp; omega)).trans (HHA.out j u hu)
                   have hold3 := hold_take hc3 (k) (k) (by omega)
                   have hsrc3 : Src Tryz.prog 4 40 v3 (1 + (H.length - (k))) (((x0, x1, x2, x3) :: H.drop (k)).flatMap cellsI) W3 := src_own (B := w9.drew.heap.size) (by simp; omega) (by rw [List.flatMap_cons]; exact hown3)
                   clear hc3)
                | (refine step_append_cut rfl (.tmp 94) (.tmp 103) 40 40 rfl 23 i0 _ 4 32 Tryz.underlying40 hi0 hz0 hz1 hz2 rfl (by decide) (some ⟨g0, 0, none⟩) (k) (k) ((H.take (k)).flatMap cellsI) (by simp [Act.eval, Act.put]) (by rw [flat_len, List.length_take]; omega) hold3 (Nat.le_refl _) _ (1 + (H.length - (k))) _ (by simp [Act.eval, Act.put]) hsrc3 (by omega) (by unfold maxLen; omega) (by omega) (by omega) ?_; intro v4 W4 ho4 hc4))
              go_wp2_with fail
              have hcAll : Chg (fun _ => False) w9 W4 := (((((Chg.refl (fun _ => False) w9).drew).alloc _).trans hch3 (fun q hq hlt => by simp [Value.ownBlock] at hq; omega)).trans hc4 (fun _ h _ => h))
              have hbase := hS9.base
              have hsz3 := hch3.size
              have e1 : (H.take (k) ++ (x0, x1, x2, x3) :: H.drop (k)).length = k + (1 + (H.length - (k))) := by simp; omega
              refine ⟨⟨i + 1, H.take (k) ++ (x0, x1, x2, x3) :: H.drop (k), L2, v4, rfl, by go_num, hlt, by rw [e1]; omega, htot2, Lib.hid (by rw [HL2.out]; exact HM.out.put HOK.out hk HUP.out (fun g h => by have := HK0.out; omega)), hS9.grown hcAll ?_⟩, by simp [intOf]; omega⟩
              rw [e1, List.flatMap_append]
              exact own_base ho4 (by simp at hsz3; omega)
          · obtain ⟨m, rfl⟩ : ∃ m, k = m + 1 := ⟨k - 1, by omega⟩
            obtain ⟨g, hg⟩ : ∃ g, H[m]? = some g := ⟨_, List.getElem?_eq_getElem (by omega)⟩
            obtain ⟨g0, rfl, r0, r1, r2, r3⟩ := hS6d.cells hg
            obtain ⟨y0, y1, y2, y3⟩ := g
            simp only at r0 r1 r2 r3
            obtain ⟨q0, q1, q2, q3⟩ := HC.out _ hS6d.below
            simp only at q0 q1 q2 q3
            have hm0 : (0 : Int) < (m : Int) + 1 := by omega
            have hm1 : (m : Int) < (H.length : Int) := by omega
            have hm2 : (0 : Int) ≤ (m : Int) := by omega
            have hmw : IntKind.i64.wrap ((m : Int) + 1 - 1) = (m : Int) := by rw [IntKind.wrap_i64]; omega
            have hmw2 : IntKind.i64.wrap (m : Int) = (m : Int) := by rw [IntKind.wrap_i64]; omega
            have HLS : Hid (∀ W, SJ w p b w2.heap.size H L2 (.slice (some ⟨g0, 0, none⟩) H.length ch) W → Calls Tryz.prog 15 #[.agg #[.int .i64 x0, .int .i64 x1, .int .i64 x2, .int .i64 x3], .agg #[.int .i64 y0, .int .i64 y1, .int .i64 y2, .int .i64 y3]] W fun e w' => e = .returned (.bool (lessB (x0, x1, x2, x3) (y0, y1, y2, y3))) ∧ SJ w p b w2.heap.size H L2 (.slice (some ⟨g0, 0, none⟩) H.length ch) w') := Lib.hid fun W h => (less_any x0 x1 x2 x3 y0 y1 y2 y3 W).mono fun e w' ⟨he, hb⟩ => ⟨he, h.keep hb⟩
            have HGG : Hid (∀ W, SJ w p b w2.heap.size H L2 (.slice (some ⟨g0, 0, none⟩) H.length ch) W → (W.cell? ⟨bk, off + i * 4, none⟩ = some (.int .i64 x0) ∧ W.cell? ⟨bk, off + i * 4 + 1, none⟩ = some (.int .i64 x1) ∧ W.cell? ⟨bk, off + i * 4 + 2, none⟩ = some (.int .i64 x2) ∧ W.cell? ⟨bk, off + i * 4 + 3, none⟩ = some (.int .i64 x3)) ∧
                (W.cell? ⟨g0, m * 4, none⟩ = some (.int .i64 y0) ∧ W.cell? ⟨g0, m * 4 + 1, none⟩ = some (.int .i64 y1) ∧ W.cell? ⟨g0, m * 4 + 2, none⟩ = some (.int .i64 y2) ∧ W.cell? ⟨g0, m * 4 + 3, none⟩ = some (.int .i64 y3)) ∧ SJ w p b w2.heap.size H L2 (.slice (some ⟨g0, 0, none⟩) H.length ch) W) := Lib.hid fun W h => by
              obtain ⟨g0', e, hc⟩ := h.cells hg
              injection e with e
              injection e with e1
              subst e1
              exact ⟨HC.out W h.below, hc, h⟩
            have HGM := Lib.hid hg
            cases hless : lessB (x0, x1, x2, x3) (y0, y1, y2, y3) with
            | true =>
              rw [hless] at HLS
              clear hg
              go_wp2_with fail
              go_region_held3 (fun W' => (W'.cell? ⟨bk, off + i * 4, none⟩ = some (.int .i64 x0) ∧ W'.cell? ⟨bk, off + i * 4 + 1, none⟩ = some (.int .i64 x1) ∧ W'.cell? ⟨bk, off + i * 4 + 2, none⟩ = some (.int .i64 x2) ∧ W'.cell? ⟨bk, off + i * 4 + 3, none⟩ = some (.int .i64 x3)) ∧
                (W'.cell? ⟨g0, m * 4, none⟩ = some (.int .i64 y0) ∧ W'.cell? ⟨g0, m * 4 + 1, none⟩ = some (.int .i64 y1) ∧ W'.cell? ⟨g0, m * 4 + 2, none⟩ = some (.int .i64 y2) ∧ W'.cell? ⟨g0, m * 4 + 3, none⟩ = some (.int .i64 y3)) ∧ SJ w p b w2.heap.size H L2 (.slice (some ⟨g0, 0, none⟩) H.length ch) W')
                (exact HGG.out _ ‹_›)
                (first
                  | (go_at_call 15; refine (HLS.out _ ?_).mono ?_; (assumption); rintro e w9 ⟨rfl, hp9⟩))
              all_goals
                go_wp2_with fail
                refine ⟨⟨m, rfl, by omega, Lib.hid fun j g' hj hg' => ?_, hp9⟩, by simp [intOf]⟩
                by_cases e : j = m
                · subst e
                  rw [HGM.out] at hg'
                  injection hg' with hg'
                  rw [← hg']
                  exact (lessB_iff _ _).1 hless
                · exact HUP.out j g' (by omega) hg'
            | false =>
              rw [hless] at HLS
              clear hg
              have HNL : Hid (¬ LessI (x0, x1, x2, x3) (y0, y1, y2, y3)) := Lib.hid fun h => by rw [(lessB_iff _ _).2 h] at hless; cases hless
              clear hless
              have hkz3 : (m : Int) + 1 ≤ (H.length : Int) := by omega
              have hkz4 : (m : Int) + 1 ≤ (ch : Int) := by omega
              have hkz5 : (0 : Int) ≤ (m : Int) + 1 := by omega
              have hkz6 : (m : Int) < (ch : Int) := by omega
              have hkz7 : m < ch := by omega
              have hkz8 : m + 1 ≤ ch := by omega
              have hkz9 : m < H.length := by omega
              have hkza : m + 1 ≤ H.length := by omega
              cases heq : (y0 == x0 && (y1 == x1 && (y2 == x2 && (y3 == x3)))) with
              | true =>
                have HMEM : Hid ((x0, x1, x2, x3) ∈ H) := Lib.hid (by
                  simp only [Bool.and_eq_true, beq_iff_eq] at heq
                  obtain ⟨e0, e1, e2, e3⟩ := heq
                  have := List.mem_of_getElem? HGM.out
                  rw [e0, e1, e2, e3] at this
                  exact this)
                go_wp2_with fail
                go_region_held3 (fun W' => (W'.cell? ⟨bk, off + i * 4, none⟩ = some (.int .i64 x0) ∧ W'.cell? ⟨bk, off + i * 4 + 1, none⟩ = some (.int .i64 x1) ∧ W'.cell? ⟨bk, off + i * 4 + 2, none⟩ = some (.int .i64 x2) ∧ W'.cell? ⟨bk, off + i * 4 + 3, none⟩ = some (.int .i64 x3)) ∧
                        (W'.cell? ⟨g0, m * 4, none⟩ = some (.int .i64 y0) ∧ W'.cell? ⟨g0, m * 4 + 1, none⟩ = some (.int .i64 y1) ∧ W'.cell? ⟨g0, m * 4 + 2, none⟩ = some (.int .i64 y2) ∧ W'.cell? ⟨g0, m * 4 + 3, none⟩ = some (.int .i64 y3)) ∧ SJ w p b w2.heap.size H L2 (.slice (some ⟨g0, 0, none⟩) H.length ch) W')
                      (exact HGG.out _ ‹_›)
                      (first
                        | (go_at_call 15; refine (HLS.out _ ?_).mono ?_; (assumption); rintro e w8 ⟨rfl, hp9⟩))
                all_goals
                  obtain ⟨⟨q0', q1', q2', q3'⟩, ⟨r0', r1', r2', r3'⟩, _⟩ := HGG.out _ hp9
                  go_wp2_with fail
                  go_quiet (fail)
                  go_wp2_with fail
                  exact ⟨⟨i + 1, H, L2, _, rfl, by go_num, hlt, by omega, htot2, Lib.hid (by rw [HL2.out]; exact HM.out.again HAP.out HMEM.out), hp9.keep ⟨rfl, rfl, rfl, Nat.le_refl _, fun _ _ => rfl⟩⟩, by simp [intOf]; omega⟩
              | false =>
                have HLT : Hid (LessI (y0, y1, y2, y3) (x0, x1, x2, x3)) := Lib.hid (by
                  rcases less_tri (x0, x1, x2, x3) (y0, y1, y2, y3) with h | h | h
                  · exact absurd h HNL.out
                  · simp only [Prod.mk.injEq] at h
                    obtain ⟨rfl, rfl, rfl, rfl⟩ := h
                    simp at heq
                  · exact h)
                go_wp2_with fail
                go_region_held3 (fun W' => (W'.cell? ⟨bk, off + i * 4, none⟩ = some (.int .i64 x0) ∧ W'.cell? ⟨bk, off + i * 4 + 1, none⟩ = some (.int .i64 x1) ∧ W'.cell? ⟨bk, off + i * 4 + 2, none⟩ = some (.int .i64 x2) ∧ W'.cell? ⟨bk, off + i * 4 + 3, none⟩ = some (.int .i64 x3)) ∧
                        (W'.cell? ⟨g0, m * 4, none⟩ = some (.int .i64 y0) ∧ W'.cell? ⟨g0, m * 4 + 1, none⟩ = some (.int .i64 y1) ∧ W'.cell? ⟨g0, m * 4 + 2, none⟩ = some (.int .i64 y2) ∧ W'.cell? ⟨g0, m * 4 + 3, none⟩ = some (.int .i64 y3)) ∧ SJ w p b w2.heap.size H L2 (.slice (some ⟨g0, 0, none⟩) H.length ch) W')
                      (exact HGG.out _ ‹_›)
                      (first
                        | (go_at_call 15; refine (HLS.out _ ?_).mono ?_; (assumption); rintro e w8 ⟨rfl, hp9⟩))
                all_goals
                  obtain ⟨⟨q0', q1', q2', q3'⟩, ⟨r0', r1', r2', r3'⟩, _⟩ := HGG.out _ hp9
                  go_wp2_with fail
                  go_quiet (fail)
                  go_wp2_with fail
                  generalize hw9 : (World.drewN w8 _) = w9
                  have hS9 : SJ w p b w2.heap.size H L2 (.slice (some ⟨g0, 0, none⟩) H.length ch) w9 := by rw [← hw9]; exact hp9.keep ⟨rfl, rfl, rfl, Nat.le_refl _, fun _ _ => rfl⟩
                  have hS9d : SJ w p b w2.heap.size H L2 (.slice (some ⟨g0, 0, none⟩) H.length ch) w9.drew := hS9.keep ⟨rfl, rfl, rfl, Nat.le_refl _, fun _ _ => rfl⟩
                  clear hw9 hS6 hS6d q0' q1' q2' q3' r0' r1' r2' r3' q0 q1 q2 q3 r0 r1 r2 r3 hp9
                  rcases own_idsT hS9d.row with ⟨hv, _⟩ | ⟨g0', c, hv, hgB, hlc, hcm, hI, hc⟩
                  · simp only [Value.slice.injEq] at hv
                    cases hv.1
                  · simp only [Value.slice.injEq] at hv
                    obtain ⟨hv1, _, rfl⟩ := hv
                    injection hv1 with hv1
                    injection hv1 with hv1
                    subst hv1
                    have hIl := hI.lt
                    have hIl9 : g0 < w9.heap.size := hIl
                    clear hI
                    obtain ⟨q0, q1, q2, q3⟩ := HC.out _ hS9d.below
                    simp only at q0 q1 q2 q3
                    have hownA := own_one w9.drew x0 x1 x2 x3
                    have hcA : ∀ (j : Nat) u, (H.flatMap cellsI)[j]? = some u → (w9.drew.alloc (.cells #[.int .i64 x0, .int .i64 x1, .int .i64 x2, .int .i64 x3] 23)).cell? ⟨g0, j, none⟩ = some u := fun j u hu => by
                      have hbA : Below w9.drew.heap.size w9.drew (w9.drew.alloc (.cells #[.int .i64 x0, .int .i64 x1, .int .i64 x2, .int .i64 x3] 23)) := (Below.refl _ _).alloc (Nat.le_refl _) _
                      exact (hbA.cell (p := ⟨g0, j, none⟩) hIl).trans (hc j u hu)
                    have hsrcA := src_if hcA (m + 1) ch hchn
                    have HHC := Lib.hid hc
                    have HHA := Lib.hid hcA
                    clear hcA hc
                    go_region_law (first
                      | (refine step_append_src rfl (.tmp 99) (.tmp 102) 40 40 rfl w9.drew.heap.size 23 i0 _ 4 32 Tryz.underlying40 hi0 hz0 hz1 hz2 rfl (by decide) _ 1 (cellsI (x0, x1, x2, x3)) (by simp [Act.eval, Act.put]) hownA _ (H.length - (m + 1)) _ (by simp [Act.eval, Act.put]) hsrcA (by unfold maxLen; omega) (by omega) (by simp) ?_; intro v3 W3 hown3 hch3 hnew3
                         have hc3 : ∀ (j : Nat) u, (H.flatMap cellsI)[j]? = some u → W3.drew.cell? ⟨g0, j, none⟩ = some u := fun j u hu => (hch3.cell (p := ⟨g0, j, none⟩) (by show g0 < _; simp; omega) (by show ¬ some g0 = some _; simp; omega)).trans (HHA.out j u hu)
                         have hold3 := hold_take hc3 (m + 1) (m + 1) (by omega)
                         have hsrc3 : Src Tryz.prog 4 40 v3 (1 + (H.length - (m + 1))) (((x0, x1, x2, x3) :: H.drop (m + 1)).flatMap cellsI) W3 := src_own (B := w9.drew.heap.size) (by simp; omega) (by rw [List.flatMap_cons]; exact hown3)
                         clear hc3)
                      | (refine step_append_cut rfl (.tmp 94) (.tmp 103) 40 40 rfl 23 i0 _ 4 32 Tryz.underlying40 hi0 hz0 hz1 hz2 rfl (by decide) (some ⟨g0, 0, none⟩) (m + 1) (m + 1) ((H.take (m + 1)).flatMap cellsI) (by simp [Act.eval, Act.put]) (by rw [flat_len, List.length_take]; omega) hold3 (Nat.le_refl _) _ (1 + (H.length - (m + 1))) _ (by simp [Act.eval, Act.put]) hsrc3 (by omega) (by unfold maxLen; omega) (by omega) (by omega) ?_; intro v4 W4 ho4 hc4))
                    go_wp2_with fail
                    have hcAll : Chg (fun _ => False) w9 W4 := (((((Chg.refl (fun _ => False) w9).drew).alloc _).trans hch3 (fun q hq hlt => by simp [Value.ownBlock] at hq; omega)).trans hc4 (fun _ h _ => h))
                    have hbase := hS9.base
                    have hsz3 := hch3.size
                    have e1 : (H.take (m + 1) ++ (x0, x1, x2, x3) :: H.drop (m + 1)).length = m + 1 + (1 + (H.length - (m + 1))) := by simp; omega
                    refine ⟨⟨i + 1, H.take (m + 1) ++ (x0, x1, x2, x3) :: H.drop (m + 1), L2, v4, rfl, by go_num, hlt, by rw [e1]; omega, htot2, Lib.hid (by rw [HL2.out]; exact HM.out.put HOK.out hk HUP.out (fun g' _ hg' => by rw [show m + 1 - 1 = m by omega, HGM.out] at hg'; injection hg' with hg'; rw [← hg']; exact HLT.out)), hS9.grown hcAll ?_⟩, by simp [intOf]; omega⟩
                    rw [e1, List.flatMap_append]
                    exact own_base ho4 (by simp at hsz3; omega)
    · obtain rfl : i = l.length := by omega
      have hltz : ¬ (l.length : Int) < (l.length : Int) := by omega
      obtain ⟨ah, ch, rfl, hchn, hchm, _⟩ := own_val hS.row
      clear hlt htot hi
      go_wp2_with fail
      go_loopw [15] (fun s15 wr => ∃ (j : Nat) (L' : List KV), s15 = .int .i64 (j : Int) ∧ j ≤ names.length ∧ Hid (Mixed H L') ∧ SJ w p b w2.heap.size H L' (.slice ah H.length ch) wr) (fun s15 _ => names.length - (intOf s15).toNat)
      case atStart => exact ⟨0, L, rfl, by omega, HM, hS⟩
      case round =>
        obtain ⟨j, L', rfl, hj, HM2, hS2⟩ := hrel
        clear hS HM
        by_cases hlt : j < names.length
        · have hltz2 : (j : Int) < (names.length : Int) := by omega
          obtain ⟨s, hs⟩ : ∃ s, names[j]? = some s := ⟨_, List.getElem?_eq_getElem hlt⟩
          have hsz := HNS.out s (List.mem_of_getElem? hs)
          obtain ⟨bn, on, rfl, hc0⟩ := strs_cell (HN.out.below hS2.below (Nat.le_refl _)) j s hs
          have HCN : Hid (∀ W, Below w.heap.size w W → W.cell? ⟨bn, on + j, none⟩ = some (.string s)) := Lib.hid fun W hW => by
            obtain ⟨b', o', e, hc⟩ := strs_cell (HN.out.below hW (Nat.le_refl _)) j s hs
            injection e with e
            injection e with e1 e2
            subst e1 e2
            exact hc
          clear hs
          go_wp2_with fail
          refine (refNamed_any s hsz _).mono ?_
          rintro e w3 ⟨⟨z0, z1, z2, z3, q, rfl, hq⟩, hb3⟩
          have hS3 := hS2.keep hb3
          clear hS2 hb3 hc0
          obtain ⟨W4, hW4⟩ : ∃ W4, W4 = w3.alloc (.cells #[.int .i64 z0, .int .i64 z1, .int .i64 z2, .int .i64 z3] 23) := ⟨_, rfl⟩
          have hS4 : SJ w p b w2.heap.size H L' (.slice ah H.length ch) W4 := by rw [hW4]; exact hS3.keep ((Below.refl _ _).alloc (Nat.le_refl _) _)
          have hc4 := HCN.out _ hS4.below
          clear hS3
          cases q with
          | true =>
            clear hq
            go_wp2_with (first | (rw [← hW4]; clear hW4))
            go_roundw
            case rel => exact ⟨j + 1, L', by go_num, hlt, HM2, hS4⟩
            case measure => simp [intOf]; omega
          | false =>
            have HNO : Hid (∀ i, okI i = true → nameI i ≠ s) := Lib.hid fun i hi e => by have := hq ⟨i, hi, e⟩; cases this
            clear hq
            by_cases h64 : s.size ≤ 64
            · have h64z : (s.size : Int) ≤ 64 := by omega
              have HWR := Lib.hid (write_any p b 65536 L' s ⟨#[111, 116, 104, 101, 114]⟩ W4 hS4.disk (by decide))
              go_wp2_with (first | (rw [← hW4]; clear hW4))
              refine HWR.out.mono ?_
              rintro e w5 ⟨rfl, hd5, hc5⟩
              have hS5 := hS4.turn hd5 hc5
              have HM3 := Lib.hid (HM2.out.written (v := ⟨#[111, 116, 104, 101, 114]⟩) 65536 HNO.out)
              clear hd5 hc5 hS4 HWR
              go_wp2_with fail
              go_roundw
              case rel => exact ⟨j + 1, _, by go_num, hlt, HM3, hS5⟩
              case measure => simp [intOf]; omega
            · have h64z : ¬ (s.size : Int) ≤ 64 := by omega
              go_wp2_with (first | (rw [← hW4]; clear hW4))
              go_roundw
              case rel => exact ⟨j + 1, L', by go_num, hlt, HM2, hS4⟩
              case measure => simp [intOf]; omega
        · obtain rfl : j = names.length := by omega
          have hltz2 : ¬ (names.length : Int) < (names.length : Int) := by omega
          have hap := hS2.disk.own.apart
          have HSC := Lib.hid (fun W (hW : SJ w p b w2.heap.size H L' (.slice ah H.length ch) W) => scan_all (fH H) (fun _ => true) p b 65536 L' W hW.disk HM2.out.names (by omega) HM2.out.held)
          have HAP := Lib.hid hap
          clear hap hlt hj
          go_wp2_with fail
          refine (HSC.out _ hS2).mono ?_
          rintro e w5 ⟨ys, v, rfl, hperm, hpw, hrow, hb5⟩
          have hS5 := hS2.keep hb5
          obtain rfl : ys = H := HM2.out.scan HAP.out hperm hpw
          obtain ⟨ax, cx, rfl, hxc⟩ := hrow.cells
          have HXC := Lib.hid hxc
          clear hxc hperm hpw hb5 hS2 hrow HSC
          go_wp2_with fail
          have hX5 : XJ w p b w2.heap.size ys L' (.slice ah ys.length ch) w5 w5 := ⟨Below.refl _ _, hS5⟩
          go_loopw [19, 20] (fun s19 s20 wr => ∃ m : Nat, s19 = .int .i64 ((countUpto t a ys m : Nat) : Int) ∧ s20 = .int .i64 (m : Int) ∧ m ≤ ys.length ∧ XJ w p b w2.heap.size ys L' (.slice ah ys.length ch) w5 wr) (fun _ s20 _ => ys.length - (intOf s20).toNat)
          case atStart => exact ⟨0, rfl, rfl, by omega, hX5⟩
          case round =>
            obtain ⟨m, rfl, rfl, hm, hX⟩ := hrel
            clear hS5 hX5
            have hcle := count_le t a ys m
            by_cases hlt : m < ys.length
            · have hltz3 : (m : Int) < (ys.length : Int) := by omega
              obtain ⟨g, hg⟩ : ∃ g, ys[m]? = some g := ⟨_, List.getElem?_eq_getElem hlt⟩
              obtain ⟨gx, rfl, hIx⟩ := HXC.out m g hg
              obtain ⟨gh, rfl, _⟩ := hX.sj.cells hg
              obtain ⟨y0, y1, y2, y3⟩ := g
              have hXd : XJ w p b w2.heap.size ys L' (.slice (some ⟨gh, 0, none⟩) ys.length ch) w5 wr.drew := hX.keep ⟨rfl, rfl, rfl, Nat.le_refl _, fun _ _ => rfl⟩
              have HGG : Hid (∀ W, XJ w p b w2.heap.size ys L' (.slice (some ⟨gh, 0, none⟩) ys.length ch) w5 W → (W.cell? ⟨gx, m * 4, none⟩ = some (.int .i64 y0) ∧ W.cell? ⟨gx, m * 4 + 1, none⟩ = some (.int .i64 y1) ∧ W.cell? ⟨gx, m * 4 + 2, none⟩ = some (.int .i64 y2) ∧ W.cell? ⟨gx, m * 4 + 3, none⟩ = some (.int .i64 y3)) ∧
                  (W.cell? ⟨gh, m * 4, none⟩ = some (.int .i64 y0) ∧ W.cell? ⟨gh, m * 4 + 1, none⟩ = some (.int .i64 y1) ∧ W.cell? ⟨gh, m * 4 + 2, none⟩ = some (.int .i64 y2) ∧ W.cell? ⟨gh, m * 4 + 3, none⟩ = some (.int .i64 y3)) ∧ XJ w p b w2.heap.size ys L' (.slice (some ⟨gh, 0, none⟩) ys.length ch) w5 W) := Lib.hid fun W h => by
                obtain ⟨gh', e, hc⟩ := h.sj.cells hg
                injection e with e
                injection e with e1
                subst e1
                have hx := (hIx.below h.old hIx.lt).cell m _ hg
                rw [Nat.zero_add] at hx
                exact ⟨hx, hc, h⟩
              have HPL : Hid (∀ W, XJ w p b w2.heap.size ys L' (.slice (some ⟨gh, 0, none⟩) ys.length ch) w5 W → Calls Tryz.prog 18 #[.agg #[.int .i64 y0, .int .i64 y1, .int .i64 y2, .int .i64 y3]] W fun e w' => e = .returned (.agg #[.int .i64 y0, .int .i64 y1, .int .i64 y2, .int .i64 y3]) ∧ XJ w p b w2.heap.size ys L' (.slice (some ⟨gh, 0, none⟩) ys.length ch) w5 w') := Lib.hid fun W h => (plainId_any y0 y1 y2 y3 W).mono fun e w' ⟨he, hb⟩ => ⟨he, h.keep hb⟩
              have HCS := Lib.hid (count_step (t := t) (a := a) hg)
              clear hg hIx
              by_cases hm : y0 = t ∧ y1 = a
              · have HOFA : Hid (ofAt t a (y0, y1, y2, y3) = true) := Lib.hid (ofAt_yes hm.1 hm.2)
                have b0 : (y0 == t) = true := by rw [hm.1]; simp
                have b1 : (y1 == a) = true := by rw [hm.2]; simp
                clear hm
                go_wp2_with fail
                go_region_held3 (fun W' => (W'.cell? ⟨gx, m * 4, none⟩ = some (.int .i64 y0) ∧ W'.cell? ⟨gx, m * 4 + 1, none⟩ = some (.int .i64 y1) ∧ W'.cell? ⟨gx, m * 4 + 2, none⟩ = some (.int .i64 y2) ∧ W'.cell? ⟨gx, m * 4 + 3, none⟩ = some (.int .i64 y3)) ∧
                    (W'.cell? ⟨gh, m * 4, none⟩ = some (.int .i64 y0) ∧ W'.cell? ⟨gh, m * 4 + 1, none⟩ = some (.int .i64 y1) ∧ W'.cell? ⟨gh, m * 4 + 2, none⟩ = some (.int .i64 y2) ∧ W'.cell? ⟨gh, m * 4 + 3, none⟩ = some (.int .i64 y3)) ∧ XJ w p b w2.heap.size ys L' (.slice (some ⟨gh, 0, none⟩) ys.length ch) w5 W')
                  (exact HGG.out _ ‹_›)
                  (first
                    | (go_at_call 18; refine (HPL.out _ ?_).mono ?_; (assumption); rintro e w8 ⟨rfl, hp8⟩))
                all_goals
                  obtain ⟨_, ⟨r0', r1', r2', r3'⟩, _⟩ := HGG.out _ hp8
                  go_wp2_with fail
                  go_roundw
                  case rel =>
                    refine ⟨m + 1, ?_, by go_num, hlt, hp8⟩
                    rw [HCS.out, HOFA.out]
                    simp only [↓reduceIte]
                    go_num
                  case measure => simp [intOf]; omega
              · have HOFA : Hid (ofAt t a (y0, y1, y2, y3) = false) := Lib.hid (ofAt_no hm)
                by_cases h0 : y0 = t
                · have b0 : (y0 == t) = true := by rw [h0]; simp
                  have b1 : (y1 == a) = false := by rw [beq_eq_false_iff_ne]; exact fun h => hm ⟨h0, h⟩
                  clear hm h0
                  go_wp2_with fail
                  go_region_held3 (fun W' => (W'.cell? ⟨gx, m * 4, none⟩ = some (.int .i64 y0) ∧ W'.cell? ⟨gx, m * 4 + 1, none⟩ = some (.int .i64 y1) ∧ W'.cell? ⟨gx, m * 4 + 2, none⟩ = some (.int .i64 y2) ∧ W'.cell? ⟨gx, m * 4 + 3, none⟩ = some (.int .i64 y3)) ∧
                      (W'.cell? ⟨gh, m * 4, none⟩ = some (.int .i64 y0) ∧ W'.cell? ⟨gh, m * 4 + 1, none⟩ = some (.int .i64 y1) ∧ W'.cell? ⟨gh, m * 4 + 2, none⟩ = some (.int .i64 y2) ∧ W'.cell? ⟨gh, m * 4 + 3, none⟩ = some (.int .i64 y3)) ∧ XJ w p b w2.heap.size ys L' (.slice (some ⟨gh, 0, none⟩) ys.length ch) w5 W')
                    (exact HGG.out _ ‹_›)
                    (first
                      | (go_at_call 18; refine (HPL.out _ ?_).mono ?_; (assumption); rintro e w8 ⟨rfl, hp8⟩))
                  all_goals
                    obtain ⟨_, ⟨r0', r1', r2', r3'⟩, _⟩ := HGG.out _ hp8
                    go_wp2_with fail
                    go_roundw
                    case rel =>
                      refine ⟨m + 1, ?_, by go_num, hlt, hp8⟩
                      rw [HCS.out, HOFA.out]
                      simp only [Bool.false_eq_true, ↓reduceIte]
                      rfl
                    case measure => simp [intOf]; omega
                · have b0 : (y0 == t) = false := by rw [beq_eq_false_iff_ne]; exact h0
                  clear hm h0
                  go_wp2_with fail
                  go_region_held3 (fun W' => (W'.cell? ⟨gx, m * 4, none⟩ = some (.int .i64 y0) ∧ W'.cell? ⟨gx, m * 4 + 1, none⟩ = some (.int .i64 y1) ∧ W'.cell? ⟨gx, m * 4 + 2, none⟩ = some (.int .i64 y2) ∧ W'.cell? ⟨gx, m * 4 + 3, none⟩ = some (.int .i64 y3)) ∧
                      (W'.cell? ⟨gh, m * 4, none⟩ = some (.int .i64 y0) ∧ W'.cell? ⟨gh, m * 4 + 1, none⟩ = some (.int .i64 y1) ∧ W'.cell? ⟨gh, m * 4 + 2, none⟩ = some (.int .i64 y2) ∧ W'.cell? ⟨gh, m * 4 + 3, none⟩ = some (.int .i64 y3)) ∧ XJ w p b w2.heap.size ys L' (.slice (some ⟨gh, 0, none⟩) ys.length ch) w5 W')
                    (exact HGG.out _ ‹_›)
                    (first
                      | (go_at_call 18; refine (HPL.out _ ?_).mono ?_; (assumption); rintro e w8 ⟨rfl, hp8⟩))
                  all_goals
                    obtain ⟨_, ⟨r0', r1', r2', r3'⟩, _⟩ := HGG.out _ hp8
                    go_wp2_with fail
                    go_roundw
                    case rel =>
                      refine ⟨m + 1, ?_, by go_num, hlt, hp8⟩
                      rw [HCS.out, HOFA.out]
                      simp only [Bool.false_eq_true, ↓reduceIte]
                      rfl
                    case measure => simp [intOf]; omega
            · obtain rfl : m = ys.length := by omega
              have hltz3 : ¬ (ys.length : Int) < (ys.length : Int) := by omega
              have hS6 := hX.sj
              have hap := hS6.disk.own.apart
              obtain ⟨N, hN⟩ : ∃ N, N = countUpto t a ys ys.length := ⟨_, rfl⟩
              obtain ⟨L3, hL3⟩ : ∃ L3, L3 = delAll (goneUpto t a (idsOf (fH ys) L') (idsOf (fH ys) L').length) L' := ⟨_, rfl⟩
              have hln := HM2.out.left hap t a
              have hnn := HM2.out.none t a
              have hcc := HM2.out.count hap t a
              rw [← hL3] at hln hnn
              rw [← hN] at hln hcle hcc
              have HDR : Hid (∀ W, SJ w p b w2.heap.size ys L' (.slice ah ys.length ch) W → Calls Tryz.prog 19 #[.pointer (some ⟨p, 0, none⟩), .int .i64 t, .int .i64 a] W fun e w' => e = .returned (.int .i64 (N : Int)) ∧ DiskAt w' p b 65536 L3 ∧ Chg (fun k => k = b) W w') := Lib.hid fun W hW => by
                have := drop_any (fH ys) p b 65536 L' t a W hW.disk HM2.out.names (by omega)
                rw [hcc, ← hL3] at this
                exact this
              have hnm3 : ∀ x ∈ L3, NamesOk (fH ys) x.1 := fun x hx => HM2.out.names x (by rw [hL3] at hx; exact mem_delAll hx)
              have hhd3 : HeldOk (fH ys) (fun _ => true) L3 := fun x hx => HM2.out.held x (by rw [hL3] at hx; exact mem_delAll hx)
              obtain ⟨M, hM⟩ : ∃ M, M = ys.length - N := ⟨_, rfl⟩
              rw [← hM] at hln
              have HS3 : Hid (∀ W, DiskAt W p b 65536 L3 → Calls Tryz.prog 11 #[.pointer (some ⟨p, 0, none⟩)] W fun e w' => ∃ az cz, e = .returned (.slice az M cz) ∧ Below W.heap.size W w') := Lib.hid fun W hW => by
                refine (scan_all (fH ys) (fun _ => true) p b 65536 L3 W hW hnm3 (by omega) hhd3).mono ?_
                rintro e w' ⟨zs, v, rfl, hperm, _, hrow, hb⟩
                obtain ⟨az, cz, rfl, _⟩ := hrow.cells
                rw [hperm.length_eq, hln]
                exact ⟨az, cz, rfl, hb⟩
              have HD2 : Hid (∀ W, DiskAt W p b 65536 L3 → Calls Tryz.prog 19 #[.pointer (some ⟨p, 0, none⟩), .int .i64 t, .int .i64 a] W fun e w' => e = .returned (.int .i64 0) ∧ Chg (fun k => k = b) W w') := Lib.hid fun W hW => by
                have := drop_any (fH ys) p b 65536 L3 t a W hW hnm3 (by omega)
                rw [hnn] at this
                exact this.mono fun e w' ⟨he, _, hc⟩ => ⟨he, hc⟩
              have hME : ((M : Int) == (ys.length : Int) - (N : Int)) = true := by simp; omega
              have hlo := hS6.lo
              rw [← hN]
              clear hnm3 hhd3 hln hnn hcc hL3 hN hM hap hX hlt hm
              go_wp2_with fail
              refine (HDR.out _ hS6).mono ?_
              rintro e w7 ⟨rfl, hd7, hc7⟩
              have hB7 := hS6.below.trans (hc7.below hS6.below.size (fun k hk => by omega))
              have HX2 := Lib.hid (HS3.out w7 hd7)
              clear hc7 hS6
              go_wp2_with fail
              refine HX2.out.mono ?_
              rintro e w8 ⟨az, cz, rfl, hb8⟩
              have hd8 := hd7.under hb8 (Array.getElem?_eq_some_iff.1 hd7.at_).1 hd7.own.lt
              have hB8 := hB7.trans (hb8.mono hB7.size)
              have HX3 := Lib.hid (HD2.out w8 hd8)
              clear hd7 hb8 HX2
              go_wp2_with fail
              refine HX3.out.mono ?_
              rintro e w9 ⟨rfl, hc9⟩
              go_wp2_with fail
              go_ret
              exact ⟨rfl, hB8.trans (hc9.below hB8.size (fun k hk => by omega))⟩
end
end Go.Proofs.YtkldkaahpicnmaaGreat
/- How arguments that are slices of strings, or of structs, read at the call's begin. -/
namespace Go.Proofs.YtkldkaahpicnmaaGreat
open Go.ChangeShapes Go.WideShapes Go.Deep Go.RowKit
open Go.ChangeMaps (open_string shut_string)

section
variable {H : Type} {enc : TypeId × Value → H} {P : Program} {w : World} {base : Nat} {spare : Nat → Bool} {held : Bool}

theorem open_strsAt {t e : TypeId} {a : Option Addr} {len cap : Nat} {d : DataW H} {p : List MemPlace} (ht : P.underlying t = some (.slice e)) (he : P.underlying e = some .string) (hc : P.cellsOf e = 1)
    (h : DataW.Trod enc P w base spare held t (.slice a len cap) d p) : ∃ l, StrsAt w (.slice a len cap) l ∧ ∀ s ∈ l, s.size ≤ maxLen := by
  obtain ⟨fuel, hf⟩ := h
  rcases open_strings ht he hc hf with ⟨hcs, _⟩ | ⟨x, len', cap', ss, hcs, _, hl, hm, hz, _, hcell, hws⟩
  · simp [Value.cells] at hcs
    obtain ⟨rfl, rfl, rfl⟩ := hcs
    exact ⟨[], ⟨none, 0, rfl, by simp, by decide, fun j s hs => by simp at hs⟩, by simp⟩
  · simp [Value.cells] at hcs
    obtain ⟨rfl, rfl, rfl⟩ := hcs
    have hlen : len ≤ ss.length := by rw [hz]; split <;> omega
    have htl : (ss.take len).length = len := by simp; omega
    refine ⟨ss.take len, ⟨some x, cap, by rw [htl], by rw [htl]; exact hl, hm, fun j s hj => ?_⟩, fun s hs => hws s (List.mem_of_mem_take hs)⟩
    have hjl := (List.getElem?_eq_some_iff.1 hj).1
    rw [htl] at hjl
    have hc := hcell j (by omega)
    obtain ⟨b, off, spot⟩ := x
    have hspot : spot = none := by
      have := hcell 0 (by omega)
      simpa [Addr.add] using World.cell?_spot this
    subst hspot
    refine ⟨b, off, rfl, ?_⟩
    rw [Addr.add_lit] at hc
    rw [hc]
    rw [List.getElem?_take, if_pos hjl] at hj
    rw [List.getD_eq_getElem?_getD, hj]
    rfl

end

end Go.Proofs.YtkldkaahpicnmaaGreat
/- How a slice of ids reads at the call's begin; the walk of FragScans as its row wants it. -/
namespace Go.Proofs.YtkldkaahpicnmaaGreat
set_option maxRecDepth 100000
open Go.ChangeShapes Go.WideShapes Go.Deep Go.RowKit

section
variable {H : Type} {enc : TypeId × Value → H} {w : World} {base : Nat} {spare : Nat → Bool} {held : Bool}

theorem open_idc {n : Nat} {cs : List Value} {x : DataW H × List MemPlace} (h : DataW.trod enc Tryz.prog w base spare held n 23 cs = some x) :
    ∃ u : I4, cs[0]? = some (.int .i64 u.1) ∧ cs[1]? = some (.int .i64 u.2.1) ∧ cs[2]? = some (.int .i64 u.2.2.1) ∧ cs[3]? = some (.int .i64 u.2.2.2) := by
  have c3 : Tryz.prog.cellsOf 3 = 1 := by kernel_rfl
  obtain ⟨xs, m, _, _, _, hlen, hg⟩ := DataW.trod_struct Tryz.underlying23 h
  match xs, hlen with
  | [y0, y1, y2, y3], _ =>
    have g0 : DataW.trod enc Tryz.prog w base spare held m 3 ((cs.drop 0).take (Tryz.prog.cellsOf 3)) = some y0 := hg 0 _ rfl
    have g1 : DataW.trod enc Tryz.prog w base spare held m 3 ((cs.drop 1).take (Tryz.prog.cellsOf 3)) = some y1 := hg 1 _ rfl
    have g2 : DataW.trod enc Tryz.prog w base spare held m 3 ((cs.drop 2).take (Tryz.prog.cellsOf 3)) = some y2 := hg 2 _ rfl
    have g3 : DataW.trod enc Tryz.prog w base spare held m 3 ((cs.drop 3).take (Tryz.prog.cellsOf 3)) = some y3 := hg 3 _ rfl
    rw [c3] at g0 g1 g2 g3
    obtain ⟨n0, e0, _⟩ := DataW.trod_int Tryz.underlying3 g0
    obtain ⟨n1, e1, _⟩ := DataW.trod_int Tryz.underlying3 g1
    obtain ⟨n2, e2, _⟩ := DataW.trod_int Tryz.underlying3 g2
    obtain ⟨n3, e3, _⟩ := DataW.trod_int Tryz.underlying3 g3
    exact ⟨(n0, n1, n2, n3), one_of e0, one_of e1, one_of e2, one_of e3⟩

theorem open_idsAt {a : Option Addr} {len cap : Nat} {d : DataW H} {p : List MemPlace} (h : DataW.Trod enc Tryz.prog w base spare held 40 (.slice a len cap) d p) : ∃ l, IdsAt w (.slice a len cap) l := by
  obtain ⟨fuel, hf⟩ := h
  rcases open_slice Tryz.underlying40 hf with ⟨hcs, _⟩ | ⟨x, len', cap', m, n, D, Pl, hcs, _, hl, hm, hmm, _, hel⟩
  · simp [Value.cells] at hcs
    obtain ⟨rfl, rfl, rfl⟩ := hcs
    exact ⟨[], none, 0, rfl, by simp, by decide, fun j s hs => by simp at hs⟩
  · simp [Value.cells] at hcs
    obtain ⟨rfl, rfl, rfl⟩ := hcs
    have c23 : Tryz.prog.cellsOf 23 = 4 := by kernel_rfl
    rw [c23] at hel
    have hlen : len ≤ m := by rw [hmm]; split <;> omega
    have each : ∀ i, i < len → ∃ u, ∃ b off, x = ⟨b, off, none⟩ ∧ IdCells w b (off + i * 4) u := by
      intro i hi
      obtain ⟨cs', hc, ht⟩ := hel i (by omega)
      obtain ⟨_, hcl, hat⟩ := World.cells?_some hc
      obtain ⟨u, u0, u1, u2, u3⟩ := open_idc ht
      have k0 := (hat 0 (by omega)).trans u0
      obtain ⟨b, off, spot⟩ := x
      have hspot : spot = none := by
        obtain ⟨cs0, hc0, ht0⟩ := hel 0 (by omega)
        obtain ⟨_, _, hat0⟩ := World.cells?_some hc0
        obtain ⟨u', u0', _⟩ := open_idc ht0
        have := (hat0 0 (by omega)).trans u0'
        simpa [Addr.add] using World.cell?_spot this
      subst hspot
      refine ⟨u, b, off, rfl, ?_⟩
      have adds : ∀ j, ((⟨b, off, none⟩ : Addr).add (i * 4)).add j = ⟨b, off + i * 4 + j, none⟩ := fun j => by rw [Addr.add_lit, Addr.add_lit]
      rw [adds] at k0
      exact ⟨k0, by have := (hat 1 (by omega)).trans u1; rwa [adds] at this, by have := (hat 2 (by omega)).trans u2; rwa [adds] at this, by have := (hat 3 (by omega)).trans u3; rwa [adds] at this⟩
    obtain ⟨f, hfu⟩ : ∃ f : Nat → I4, ∀ i, i < len → ∃ b off, x = ⟨b, off, none⟩ ∧ IdCells w b (off + i * 4) (f i) :=
      ⟨fun i => if hi : i < len then Classical.choose (each i hi) else (0, 0, 0, 0), fun i hi => by
        have := Classical.choose_spec (each i hi)
        simpa [hi] using this⟩
    refine ⟨(List.range len).map f, some x, cap, by simp, by simpa using hl, hm, fun j u hu => ?_⟩
    have hj : j < len := by have := (List.getElem?_eq_some_iff.1 hu).1; simpa using this
    rw [List.getElem?_map, List.getElem?_range hj] at hu
    simp at hu
    subst hu
    obtain ⟨b, off, e, hc⟩ := hfu j hj
    exact ⟨b, off, by rw [e], hc⟩
theorem weights_str {P : Program} {e : TypeId} : ∀ {l : List ByteArray} {s : ByteArray}, s ∈ l → s.size ∈ DataW.weightsAll P e (Go.ChangeShapes.strs (H := H) l)
  | x :: r, s, h => by
    show s.size ∈ DataW.weights P e (.lit (.string x.data.toList)) ++ DataW.weightsAll P e (Go.ChangeShapes.strs r)
    rw [List.mem_append]
    rcases List.mem_cons.1 h with rfl | h
    · left
      simp [DataW.weights]
    · exact .inr (weights_str h)

/-- A slice of strings at the call's begin, and how long each can be. -/
theorem strs_sized {P : Program} {t e : TypeId} {a : Option Addr} {len cap : Nat} {d : DataW H} {p : List MemPlace} (ht : P.underlying t = some (.slice e)) (he : P.underlying e = some .string) (hc : P.cellsOf e = 1)
    (h : DataW.Trod enc P w base spare held t (.slice a len cap) d p) {ts : List TypeId} {ds : List (DataW H)} {j : Nat} (hts : ts[j]? = some t) (hds : ds[j]? = some d) (hsz : (DataW.weightsEach P ts ds).all (· ≤ reachBytes) = true) : ∃ l, StrsAt w (.slice a len cap) l ∧ ∀ s ∈ l, s.size ≤ 140737488355328 := by
  obtain ⟨fuel, hf⟩ := h
  rcases open_strings ht he hc hf with ⟨hcs, _⟩ | ⟨x, len', cap', ss, hcs, _, hl, hm, hz, hx, hcell, hws⟩
  · simp [Value.cells] at hcs
    obtain ⟨rfl, rfl, rfl⟩ := hcs
    exact ⟨[], ⟨none, 0, rfl, by simp, by decide, fun j s hs => by simp at hs⟩, by simp⟩
  · simp [Value.cells] at hcs
    obtain ⟨rfl, rfl, rfl⟩ := hcs
    have hd : d = .slice (Go.ChangeShapes.strs (ss.take len)) (Go.ChangeShapes.strs (ss.drop len)) := congrArg Prod.fst hx
    have hlen : len ≤ ss.length := by rw [hz]; split <;> omega
    have htl : (ss.take len).length = len := by simp; omega
    refine ⟨ss.take len, ⟨some x, cap, by rw [htl], by rw [htl]; exact hl, hm, fun j s hj => ?_⟩, fun s hs => ?_⟩
    · have hjl := (List.getElem?_eq_some_iff.1 hj).1
      rw [htl] at hjl
      have hc := hcell j (by omega)
      obtain ⟨b, off, spot⟩ := x
      have hspot : spot = none := by
        have := hcell 0 (by omega)
        simpa [Addr.add] using World.cell?_spot this
      subst hspot
      refine ⟨b, off, rfl, ?_⟩
      rw [Addr.add_lit] at hc
      rw [hc]
      rw [List.getElem?_take, if_pos hjl] at hj
      rw [List.getD_eq_getElem?_getD, hj]
      rfl
    · have hmem : s.size ∈ d.weights P t := by
        rw [hd]
        simp only [DataW.weights, ht]
        exact List.mem_cons_of_mem _ (List.mem_append_left _ (weights_str hs))
      have := List.all_eq_true.1 hsz _ (DataW.weights_mem_each hts hds _ hmem)
      have h2 := reachBytes_lt
      simp at this
      omega
end

theorem scans_exit (l : List I4) (v1 : Value) (names : List ByteArray) (v2 : Value) (t a : Int) (w : World) (h1 : IdsAt w v1 l) (h2 : StrsAt w v2 names) (h : 30 < l.length ∨ 30 < names.length) :
    Calls Tryz.prog 4 #[v1, v2, .int .i64 t, .int .i64 a] w fun e w' => e = .returned (.bool true) ∧ Below w.heap.size w w' := by
  obtain ⟨a1, c1, rfl, _, _⟩ := h1.val
  obtain ⟨a2, c2, rfl, _, _⟩ := h2.val
  clear h1 h2
  by_cases hl : 30 < l.length
  · have hq1 : (30 : Int) < (l.length : Int) := by omega
    clear h
    go_enter Tryz.func4, Tryz.ntmps4
    go_wp2_with fail
    refine (awake_any _).mono ?_
    rintro e w1 ⟨rfl, hb1⟩
    go_wp2_with fail
    refine (awake_any _).mono ?_
    rintro e w2 ⟨rfl, hb2⟩
    go_wp2_with fail
    go_ret
    exact ⟨rfl, hb1.trans (hb2.mono hb1.size)⟩
  · have hq1 : ¬ ((30 : Int) < (l.length : Int)) := by omega
    have hn : (30 : Int) < (names.length : Int) := by omega
    clear h
    go_enter Tryz.func4, Tryz.ntmps4
    go_wp2_with fail
    refine (awake_any _).mono ?_
    rintro e w1 ⟨rfl, hb1⟩
    go_wp2_with fail
    refine (awake_any _).mono ?_
    rintro e w2 ⟨rfl, hb2⟩
    go_wp2_with fail
    go_ret
    exact ⟨rfl, hb1.trans (hb2.mono hb1.size)⟩

theorem scans_walk {v1 v2 : Value} {l : List I4} {names : List ByteArray} {t a : Int} {w : World} (h1 : IdsAt w v1 l) (h2 : StrsAt w v2 names) (hns : ∀ s ∈ names, s.size ≤ 140737488355328) (_ : (Lit.int .i64 t).wf = true) (_ : (Lit.int .i64 a).wf = true) :
    Calls Tryz.prog 4 #[v1, v2, .int .i64 t, .int .i64 a] w fun e w' => e = .returned (.bool true) ∧ Below w.heap.size w w' := by
  by_cases hl : 30 < l.length
  · exact scans_exit l v1 names v2 t a w h1 h2 (.inl hl)
  · by_cases hn : 30 < names.length
    · exact scans_exit l v1 names v2 t a w h1 h2 (.inr hn)
    · exact scans_main l v1 names v2 t a w h1 h2 hns (by omega) (by omega)
end Go.Proofs.YtkldkaahpicnmaaGreat
