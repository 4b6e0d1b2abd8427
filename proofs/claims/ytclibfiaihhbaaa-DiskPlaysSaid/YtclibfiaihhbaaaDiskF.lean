/- A disk's calls, done; the document's example. -/
import Derived.Test.YtclibfiaihhbaaaDiskE
namespace Go.Proofs.Ytclibfiaihhbaaa
open Go.RowKit Go.ChangeMaps Go.MapKept

/-- What a call answers, and what is held behind it. -/
def doneT (l : List KV) (a : ActV) : ByteArray := if a.d % 8 = 4 then (look l a.k).getD ByteArray.empty else ByteArray.empty
def doneE (size : Nat) (l : List KV) (a : ActV) : Int :=
  if a.d % 8 = 4 then readE l a.k else if a.d % 8 = 5 then readE l a.k else if a.d % 8 = 6 then (if spoilE l a.k a.by_ then 1 else 0) else if a.d % 8 = 7 then (l.length : Int) else writeE size l a.k a.s
def doneS (size : Nat) (l : List KV) (a : ActV) : List KV :=
  if a.d % 8 = 4 then l else if a.d % 8 = 5 then delKV a.k l else if a.d % 8 = 6 then spoilS l a.k a.at_ a.by_ else if a.d % 8 = 7 then [] else writeS size l a.k a.s

/-- A call's numbers and texts are what they can be. -/
structure ActOk (a : ActV) : Prop where
  d0 : 0 ≤ a.d
  d1 : a.d ≤ 255
  b0 : 0 ≤ a.by_
  b1 : a.by_ ≤ 255
  s : a.s.size ≤ 20000
  k : a.k.size ≤ 20000

theorem act_cells {w : World} {g : Nat} {v0 v1 v2 v3 v4 : Value} {t : TypeId} {fz : Nat × Nat} (h : w.heap[g]? = some (.cells #[v0, v1, v2, v3, v4] t fz)) :
    w.cell? ⟨g, 0, none⟩ = some v0 ∧ w.cell? ⟨g, 1, none⟩ = some v1 ∧ w.cell? ⟨g, 2, none⟩ = some v2 ∧ w.cell? ⟨g, 3, none⟩ = some v3 ∧ w.cell? ⟨g, 4, none⟩ = some v4 := by
  simp [World.cell?, h]

set_option maxHeartbeats 2000000 in
set_option maxRecDepth 100000 in
theorem done_any (p b size : Nat) (l : List KV) (a : ActV) (w : World) (h : DiskAt w p b size l) (ha : ActOk a) :
    Calls Try.prog 12 #[.pointer (some ⟨p, 0, none⟩), a.val] w fun e w' => e = .returned (.tuple #[.string (doneT l a), .int .i64 (doneE size l a)]) ∧ DiskAt w' p b size (doneS size l a) ∧ Chg (fun i => i = b) w w' := by
  obtain ⟨d, k, s, at_, y⟩ := a
  obtain ⟨d0, d1, b0, b1, hs, hk⟩ := ha
  simp only at d0 d1 b0 b1 hs hk
  have hk' : k.size ≤ maxLen := by unfold maxLen; omega
  obtain ⟨W1, hW1⟩ : ∃ W1, W1 = w.alloc (.cells #[.int .u8 d, .string k, .string s, .int .i64 at_, .int .u8 y] 33) := ⟨_, rfl⟩
  obtain ⟨k0, k1, k2, k3, k4⟩ := act_cells (w := W1) (by rw [hW1]; exact heap_alloc_new w _)
  have hC1 : Chg (fun i => i = b) w W1 := by rw [hW1]; exact (Chg.refl _ w).alloc _
  have hA : DiskAt W1 p b size l := by rw [hW1]; exact h.chg ((Chg.refl (fun _ => False) w).alloc _) (by simp) (by simp)
  unfold doneT doneE doneS ActV.val
  simp only
  by_cases e4 : d % 8 = 4
  · rw [if_pos e4, if_pos e4, if_pos e4]
    have hr := read_any p b size l k W1 hA hk'
    go_enter Try.func12, Try.ntmps12
    go_wp2_with (first | (rw [← hW1]; clear hW1) | (go_at_call 11; refine hr.mono ?_; rintro e w1 ⟨rfl, rfl⟩))
    go_ret2
    exact ⟨rfl, hA, hC1⟩
  rw [if_neg e4, if_neg e4, if_neg e4]
  by_cases e5 : d % 8 = 5
  · rw [if_pos e5, if_pos e5]
    have hr := delete_any p b size l k W1 hA hk'
    go_enter Try.func12, Try.ntmps12
    go_wp2_with (first | (rw [← hW1]; clear hW1) | (go_at_call 14; refine hr.mono ?_; rintro e w1 ⟨rfl, hd, hc⟩))
    go_ret2
    exact ⟨rfl, hd, hC1.trans hc (fun _ x _ => x)⟩
  rw [if_neg e5, if_neg e5]
  by_cases e6 : d % 8 = 6
  · rw [if_pos e6, if_pos e6]
    have hr := spoil_any p b size l k at_ y W1 hA hk' b0 b1
    cases hq : spoilE l k y with
    | true =>
      rw [hq] at hr
      go_enter Try.func12, Try.ntmps12
      go_wp2_with (first | (rw [← hW1]; clear hW1) | (go_at_call 21; refine hr.mono ?_; rintro e w1 ⟨rfl, hd, hc⟩))
      go_ret2
      exact ⟨rfl, hd, hC1.trans hc (fun _ x _ => x)⟩
    | false =>
      rw [hq] at hr
      go_enter Try.func12, Try.ntmps12
      go_wp2_with (first | (rw [← hW1]; clear hW1) | (go_at_call 21; refine hr.mono ?_; rintro e w1 ⟨rfl, hd, hc⟩))
      go_ret2
      exact ⟨rfl, hd, hC1.trans hc (fun _ x _ => x)⟩
  rw [if_neg e6, if_neg e6]
  by_cases e7 : d % 8 = 7
  · rw [if_pos e7, if_pos e7]
    have hr := lose_any p b size l W1 hA
    go_enter Try.func12, Try.ntmps12
    go_wp2_with (first | (rw [← hW1]; clear hW1) | (go_at_call 22; refine hr.mono ?_; rintro e w1 ⟨rfl, hd, hc⟩))
    go_ret2
    exact ⟨rfl, hd, hC1.trans hc (fun _ x _ => x)⟩
  rw [if_neg e7, if_neg e7]
  have hr := write_any p b size l k s W1 hA (by omega)
  go_enter Try.func12, Try.ntmps12
  go_wp2_with (first | (rw [← hW1]; clear hW1) | (go_at_call 10; refine hr.mono ?_; rintro e w1 ⟨rfl, hd, hc⟩))
  go_ret2
  exact ⟨rfl, hd, hC1.trans hc (fun _ x _ => x)⟩

def aB : ByteArray := ⟨#[97]⟩
def xyzB : ByteArray := ⟨#[120, 121, 122]⟩
def bB : ByteArray := ⟨#[98]⟩

theorem aw1 : writeE 20 [] aB xyzB = 0 := by rfl
theorem aw2 : writeS 20 [] aB xyzB = [(aB, xyzB)] := by rfl
theorem aw3 : writeE 20 [(aB, xyzB)] bB ByteArray.empty = 9 := by rfl

set_option maxHeartbeats 1000000 in
theorem awake_any (w : World) : Calls Try.prog 7 #[] w fun e w' => e = .returned (.bool true) ∧ Below w.heap.size w w' := by
  have hn := new_any 20 w (by decide)
  go_enter Try.func7, Try.ntmps7
  go_wp2_with (first
    | (go_at_call 9; refine hn.mono ?_; rintro e w1 ⟨p, b, rfl, hd, hb, hp, hq⟩)
    | fail)
  have h1 := write_any p b 20 [] aB xyzB w1 hd (by decide)
  rw [aw1, aw2] at h1
  refine h1.mono ?_
  rintro e w2 ⟨rfl, hd2, hc2⟩
  have h2 := room_any p b 20 _ w2 hd2
  have ht : tot [(aB, xyzB)] = 20 := rfl
  rw [ht] at h2
  go_wp2_with fail
  refine h2.mono ?_
  rintro e w3 ⟨rfl, hb3⟩
  have hd3 := hd2.below hb3 hd2.lt.1 hd2.lt.2
  have h3 := write_any p b 20 _ bB ByteArray.empty w3 hd3 (by decide)
  rw [aw3] at h3
  go_wp2_with fail
  refine h3.mono ?_
  rintro e w4 ⟨rfl, hd4, hc4⟩
  go_wp2_with fail
  go_ret
  refine ⟨rfl, ?_⟩
  have e2 : Below w.heap.size w w2 := hb.trans (hc2.below hb.size (fun i hi => by omega))
  have e3 := e2.trans (hb3.mono e2.size)
  exact e3.trans (hc4.below e3.size (fun i hi => by omega))

end Go.Proofs.Ytclibfiaihhbaaa
