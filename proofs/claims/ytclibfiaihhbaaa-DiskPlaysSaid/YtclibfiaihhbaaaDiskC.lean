/- A disk: Write, Delete, Spoil, Lose. -/
import Derived.Test.YtclibfiaihhbaaaDiskB
namespace Go.Proofs.Ytclibfiaihhbaaa
open Go.RowKit Go.ChangeMaps Go.MapKept

/-- What Write answers, and what is held behind it. -/
def writeE (size : Nat) (l : List KV) (k v : ByteArray) : Int := if k.size = 0 ∨ 64 < k.size then 1 else if size + heldTakes l k < tot l + (k.size + v.size + 16) then 9 else 0
def writeS (size : Nat) (l : List KV) (k v : ByteArray) : List KV := if k.size = 0 ∨ 64 < k.size then l else if size + heldTakes l k < tot l + (k.size + v.size + 16) then l else putKV k v l

theorem MapAt.store_run {w : World} {b : Nat} {l : List KV} (h : MapAt w b l) (k v : ByteArray) (hk : k.size ≤ maxLen) (hv : v.size ≤ maxLen) (hl : l.length < maxLen) :
    ∃ w', (Instr.mapUpdate 51 (.map (some b)) (.string k) (.string v)).run Try.prog w = .ok () w' ∧ MapAt w' b (putKV k v l) ∧ Chg (fun i => i = b) w w' := by
  obtain ⟨w', hr, h1, h2⟩ := World.ownsMap.store h Try.keyed9 Try.underlying51 hl (WideMaps.keyOf_string_mk Try.underlying9 hk) (plainElem_string Try.underlying9 hv)
  rw [md_put] at h1
  exact ⟨w', hr, own_exact h1, turned_chg h2⟩
theorem MapAt.drop_run {w : World} {b : Nat} {l : List KV} (h : MapAt w b l) (k : ByteArray) (hk : k.size ≤ maxLen) (ty : TypeId) :
    ∃ w', (Builtin.delete_ #[51, 9] ty #[.map (some b), .string k]).run Try.prog w = .ok (.tuple #[]) w' ∧ MapAt w' b (delKV k l) ∧ Chg (fun i => i = b) w w' := by
  obtain ⟨w', hr, h1, h2⟩ := World.ownsMap.drop h Try.keyed9 Try.underlying51 (WideMaps.keyOf_string_mk Try.underlying9 hk) ty
  rw [md_del] at h1
  exact ⟨w', hr, own_exact h1, turned_chg h2⟩
theorem MapAt.clear_run {w : World} {b : Nat} {l : List KV} (h : MapAt w b l) (ty : TypeId) :
    ∃ w', (Builtin.clear_ #[51] ty #[.map (some b)]).run Try.prog w = .ok (.tuple #[]) w' ∧ MapAt w' b [] ∧ Chg (fun i => i = b) w w' := by
  obtain ⟨es, clock, hb, F, hs, hD⟩ := h
  refine ⟨setBlock w b (.map #[] clock), ?_, ⟨#[], clock, heap_setBlock_same hb _, ?_, by simp, rfl⟩, ?_⟩
  · simp [Builtin.clear_, run_underlying Try.underlying51, MapKept.run_getObj_map hb, MapKept.run_setObj_map _ hb, Result.andThen]
    rfl
  · exact ⟨by simp, stamped_empty clock, by simp⟩
  · exact ⟨rfl, rfl, rfl, by simp [setBlock], fun i _ hi => heap_setBlock_other hb _ (fun e => hi e)⟩

theorem DiskAt.below {w w' : World} {p b size : Nat} {l : List KV} (h : DiskAt w p b size l) {B : Nat} (hb : Below B w w') (hp : p < B) (hq : b < B) : DiskAt w' p b size l :=
  ⟨(hb.block p hp).trans h.at_, (by
    obtain ⟨es, clock, hb', r⟩ := h.own
    exact ⟨es, clock, (hb.block b hq).trans hb', r⟩), h.ne, h.fits, h.small⟩
theorem DiskAt.lt {w : World} {p b size : Nat} {l : List KV} (h : DiskAt w p b size l) : p < w.heap.size ∧ b < w.heap.size := by
  obtain ⟨es, clock, hb', r⟩ := h.own
  exact ⟨(Array.getElem?_eq_some_iff.1 h.at_).1, (Array.getElem?_eq_some_iff.1 hb').1⟩
theorem isEmpty_iff (k : ByteArray) : k.toList.isEmpty = decide (k.size = 0) := by
  rw [ByteArray.toList_eq, ByteArray.size, ← Array.length_toList]
  cases k.data.toList <;> simp

theorem write_bad (p b size : Nat) (l : List KV) (k v : ByteArray) (w : World) (hk : k.size = 0 ∨ 64 < k.size) :
    Calls Try.prog 10 #[.pointer (some ⟨p, 0, none⟩), .string k, .string v] w fun e w' => e = .returned (.int .i64 1) ∧ w = w' := by
  have h0 := isEmpty_iff k
  by_cases h1 : k.size = 0
  · rw [decide_eq_true h1] at h0
    go_enter Try.func10, Try.ntmps10
    go_wp2
    go_ret
    exact ⟨rfl, rfl⟩
  · rw [decide_eq_false h1] at h0
    have h2 : (64 : Int) < (k.size : Int) := by omega
    go_enter Try.func10, Try.ntmps10
    go_wp2
    go_ret
    exact ⟨rfl, rfl⟩

set_option maxHeartbeats 1000000 in
theorem write_full (p b size : Nat) (l : List KV) (k v : ByteArray) (w : World) (h : DiskAt w p b size l) (hk : ¬ (k.size = 0 ∨ 64 < k.size)) (hv : v.size ≤ 140737488351232) (hf : size + heldTakes l k < tot l + (k.size + v.size + 16)) :
    Calls Try.prog 10 #[.pointer (some ⟨p, 0, none⟩), .string k, .string v] w fun e w' => e = .returned (.int .i64 9) ∧ Below w.heap.size w w' := by
  have hro := room_any p b size l w h
  have h0 := isEmpty_iff k
  rw [decide_eq_false (by omega)] at h0
  have h2 : ¬ ((64 : Int) < (k.size : Int)) := by omega
  have hks : k.size ≤ maxLen := by unfold maxLen; omega
  have hfits := h.fits
  have hsmall := h.small
  cases hlk : look l k with
  | none =>
    have e : heldTakes l k = 0 := by unfold heldTakes; rw [hlk]
    have hc : (size : Int) - (tot l : Int) < (k.size : Int) + (v.size : Int) + 16 := by omega
    go_enter Try.func10, Try.ntmps10
    go_wp2_with (first
      | (go_at_call 13; refine hro.mono ?_; rintro e w1 ⟨rfl, hb1⟩; have hd1 := h.below hb1 h.lt.1 h.lt.2; have c1 := hd1.cell1; have hl := hd1.own.look_run k hks; rw [hlk] at hl; simp only [Option.getD_none, Option.isSome_none] at hl)
      | (go_at_call 20; refine (takes_any _ _ _ (by omega) (by omega)).mono ?_; rintro e w' ⟨rfl, rfl⟩))
    all_goals (go_ret; exact ⟨rfl, hb1⟩)
  | some u =>
    have e : heldTakes l k = k.size + u.size + 16 := by unfold heldTakes; rw [hlk]
    have hus := look_size hlk
    have hc : (size : Int) - (tot l : Int) + ((k.size : Int) + (u.size : Int) + 16) < (k.size : Int) + (v.size : Int) + 16 := by omega
    go_enter Try.func10, Try.ntmps10
    go_wp2_with (first
      | (go_at_call 13; refine hro.mono ?_; rintro e w1 ⟨rfl, hb1⟩; have hd1 := h.below hb1 h.lt.1 h.lt.2; have c1 := hd1.cell1; have hl := hd1.own.look_run k hks; rw [hlk] at hl; simp only [Option.getD_some, Option.isSome_some] at hl)
      | (go_at_call 20; refine (takes_any _ _ _ (by omega) (by omega)).mono ?_; rintro e w' ⟨rfl, rfl⟩))
    all_goals (go_ret; exact ⟨rfl, hb1⟩)

theorem write_step {w w1 w2 : World} {p b size : Nat} {l : List KV} {k v : ByteArray} (h : DiskAt w p b size l) (hb : Below w.heap.size w w1) (hd : DiskAt w1 p b size l) (hm : MapAt w2 b (putKV k v l)) (hc : Chg (fun i => i = b) w1 w2)
    (hf : tot l + (k.size + v.size + 16) ≤ size + heldTakes l k) : DiskAt w2 p b size (putKV k v l) ∧ Chg (fun i => i = b) w w2 := by
  have ht := tot_put h.own.apart k v
  exact ⟨⟨(hc.block p hd.lt.1 h.ne).trans hd.at_, hm, h.ne, by omega, h.small⟩, ⟨hc.os.trans hb.os, hc.tape.trans hb.tape, hc.output.trans hb.output, Nat.le_trans hb.size hc.size, fun i hi hn => (hc.block i (Nat.lt_of_lt_of_le hi hb.size) hn).trans (hb.block i hi)⟩⟩

set_option maxHeartbeats 1000000 in
theorem write_ok (p b size : Nat) (l : List KV) (k v : ByteArray) (w : World) (h : DiskAt w p b size l) (hk : ¬ (k.size = 0 ∨ 64 < k.size)) (hf : tot l + (k.size + v.size + 16) ≤ size + heldTakes l k) :
    Calls Try.prog 10 #[.pointer (some ⟨p, 0, none⟩), .string k, .string v] w fun e w' => e = .returned (.int .i64 0) ∧ DiskAt w' p b size (putKV k v l) ∧ Chg (fun i => i = b) w w' := by
  have hro := room_any p b size l w h
  have h0 := isEmpty_iff k
  rw [decide_eq_false (by omega)] at h0
  have h2 : ¬ ((64 : Int) < (k.size : Int)) := by omega
  have hks : k.size ≤ maxLen := by unfold maxLen; omega
  have hfits := h.fits
  have hsmall := h.small
  have hld := tot_del h.own.apart k
  have hvs : v.size ≤ maxLen := by unfold maxLen; omega
  have hll : l.length < maxLen := by have := len_tot l; unfold maxLen; omega
  cases hlk : look l k with
  | none =>
    have e : heldTakes l k = 0 := by unfold heldTakes; rw [hlk]
    have hc : ¬ ((size : Int) - (tot l : Int) < (k.size : Int) + (v.size : Int) + 16) := by omega
    go_enter Try.func10, Try.ntmps10
    go_wp2_with (first
      | (go_at_call 13; refine hro.mono ?_; rintro e w1 ⟨rfl, hb1⟩; have hd1 := h.below hb1 h.lt.1 h.lt.2; have c1 := hd1.cell1; have hl := hd1.own.look_run k hks; rw [hlk] at hl; simp only [Option.getD_none, Option.isSome_none] at hl; obtain ⟨w2, hst, hm2, hch2⟩ := hd1.own.store_run k v hks hvs hll)
      | (go_at_call 20; refine (takes_any _ _ _ (by omega) (by omega)).mono ?_; rintro e w' ⟨rfl, rfl⟩))
    all_goals (go_ret; exact ⟨rfl, write_step h hb1 hd1 hm2 hch2 hf⟩)
  | some u =>
    have e : heldTakes l k = k.size + u.size + 16 := by unfold heldTakes; rw [hlk]
    have hus := look_size hlk
    have hc : ¬ ((size : Int) - (tot l : Int) + ((k.size : Int) + (u.size : Int) + 16) < (k.size : Int) + (v.size : Int) + 16) := by omega
    go_enter Try.func10, Try.ntmps10
    go_wp2_with (first
      | (go_at_call 13; refine hro.mono ?_; rintro e w1 ⟨rfl, hb1⟩; have hd1 := h.below hb1 h.lt.1 h.lt.2; have c1 := hd1.cell1; have hl := hd1.own.look_run k hks; rw [hlk] at hl; simp only [Option.getD_some, Option.isSome_some] at hl; obtain ⟨w2, hst, hm2, hch2⟩ := hd1.own.store_run k v hks hvs hll)
      | (go_at_call 20; refine (takes_any _ _ _ (by omega) (by omega)).mono ?_; rintro e w' ⟨rfl, rfl⟩))
    all_goals (go_ret; exact ⟨rfl, write_step h hb1 hd1 hm2 hch2 hf⟩)

theorem below_chg {S : Nat → Prop} {w w' : World} (h : Below w.heap.size w w') : Chg S w w' := ⟨h.os, h.tape, h.output, h.size, fun i hi _ => h.block i hi⟩

/-- Write, whatever comes. -/
theorem write_any (p b size : Nat) (l : List KV) (k v : ByteArray) (w : World) (h : DiskAt w p b size l) (hv : v.size ≤ 140737488351232) :
    Calls Try.prog 10 #[.pointer (some ⟨p, 0, none⟩), .string k, .string v] w fun e w' => e = .returned (.int .i64 (writeE size l k v)) ∧ DiskAt w' p b size (writeS size l k v) ∧ Chg (fun i => i = b) w w' := by
  unfold writeE writeS
  by_cases hk : k.size = 0 ∨ 64 < k.size
  · rw [if_pos hk, if_pos hk]
    refine (write_bad p b size l k v w hk).mono ?_
    rintro e w' ⟨rfl, rfl⟩
    exact ⟨rfl, h, Chg.refl _ _⟩
  · rw [if_neg hk, if_neg hk]
    by_cases hf : size + heldTakes l k < tot l + (k.size + v.size + 16)
    · rw [if_pos hf, if_pos hf]
      refine (write_full p b size l k v w h hk hv hf).mono ?_
      rintro e w' ⟨rfl, hb⟩
      exact ⟨rfl, h.below hb h.lt.1 h.lt.2, below_chg hb⟩
    · rw [if_neg hf, if_neg hf]
      exact write_ok p b size l k v w h hk (by omega)

/-- Delete. -/
def delS (l : List KV) (k : ByteArray) : List KV := delKV k l

theorem delete_any (p b size : Nat) (l : List KV) (k : ByteArray) (w : World) (h : DiskAt w p b size l) (hk : k.size ≤ maxLen) :
    Calls Try.prog 14 #[.pointer (some ⟨p, 0, none⟩), .string k] w fun e w' => e = .returned (.int .i64 (readE l k)) ∧ DiskAt w' p b size (delKV k l) ∧ Chg (fun i => i = b) w w' := by
  have hrd := read_any p b size l k w h hk
  unfold readE at hrd ⊢
  have c1 := h.cell1
  cases hlk : look l k with
  | none =>
    simp only [hlk, Option.getD_none, Option.isSome_none, Bool.false_eq_true, if_false] at hrd ⊢
    go_enter Try.func14, Try.ntmps14
    go_wp2_with (go_at_call 11; refine hrd.mono ?_; rintro e w1 ⟨rfl, rfl⟩)
    go_ret
    have e : delKV k l = l := by
      refine delKV_none fun q hq e => ?_
      have := mem_look h.own.apart hq
      rw [e, hlk] at this
      cases this
    rw [e]
    exact ⟨rfl, h, Chg.refl _ _⟩
  | some u =>
    simp only [hlk, Option.getD_some, Option.isSome_some, if_true] at hrd ⊢
    obtain ⟨w2, hst, hm2, hch2⟩ := h.own.drop_run k hk 0
    have ht := tot_del h.own.apart k
    have hf := h.fits
    go_enter Try.func14, Try.ntmps14
    go_wp2_with (go_at_call 11; refine hrd.mono ?_; rintro e w1 ⟨rfl, rfl⟩)
    go_ret
    exact ⟨rfl, ⟨(hch2.block p h.lt.1 h.ne).trans h.at_, hm2, h.ne, by omega, h.small⟩, hch2⟩

/-- Lose. -/
theorem lose_any (p b size : Nat) (l : List KV) (w : World) (h : DiskAt w p b size l) :
    Calls Try.prog 22 #[.pointer (some ⟨p, 0, none⟩)] w fun e w' => e = .returned (.int .i64 (l.length : Int)) ∧ DiskAt w' p b size [] ∧ Chg (fun i => i = b) w w' := by
  have c1 := h.cell1
  obtain ⟨w2, hst, hm2, hch2⟩ := h.own.clear_run 0
  have hlen := World.ownsMap.len h.own Try.underlying51
  rw [md_size] at hlen
  go_enter Try.func22, Try.ntmps22
  go_wp2
  go_ret
  exact ⟨rfl, ⟨(hch2.block p h.lt.1 h.ne).trans h.at_, hm2, h.ne, by simp [tot], h.small⟩, hch2⟩
end Go.Proofs.Ytclibfiaihhbaaa
