/- A piece put on a disk, and got: what was put whole is got, what is spoilt isn't. -/
import Derived.Test.YtkldkaahpicnmaaGreatMFragB
import Derived.Test.YtkldkaahpicnmaaGreatMSpA
import Derived.Deep.RegionHeld3
import Derived.ProofKit
import Derived.OpenShut
import Derived.ShutString
import Derived.WideShapes
import Derived.Test.YtkldkaahpicnmaaGreatMDisk
namespace Go.Proofs.YtkldkaahpicnmaaGreat
set_option maxRecDepth 100000
open Go.RowKit PFragNames
open Go.Proofs.YtkldkaahpicnmaaGreatW.PrintWords Go.Proofs.YtkldkaahpicnmaaGreatW.PrintLast Go.Proofs.YtkldkaahpicnmaaGreatW.PrintMore

def okI (i : I4) : Bool := okId i.1 i.2.1 i.2.2.1 i.2.2.2
def nameI (i : I4) : ByteArray := nameUpto [i.1, i.2.1, i.2.2.1, i.2.2.2] 4
/-- A piece in its frame, and the sum behind it. -/
def frameI (i : I4) (piece : ByteArray) : ByteArray := sealB ⟨(bodyL i.1.toNat i.2.1.toNat i.2.2.1.toNat i.2.2.2.toNat piece).toArray⟩
def natsI (a b c d : Nat) : I4 := ((a : Int), (b : Int), (c : Int), (d : Int))

theorem okI_nats {i : I4} (h : okI i = true) : ∃ a b c d : Nat, i = natsI a b c d := by
  obtain ⟨a, b, c, d⟩ := i
  have h0 := okId_all h 0 _ rfl
  have h1 := okId_all h 1 _ rfl
  have h2 := okId_all h 2 _ rfl
  have h3 := okId_all h 3 _ rfl
  refine ⟨a.toNat, b.toNat, c.toNat, d.toNat, ?_⟩
  unfold natsI
  rw [Int.toNat_of_nonneg h0.1, Int.toNat_of_nonneg h1.1, Int.toNat_of_nonneg h2.1, Int.toNat_of_nonneg h3.1]

theorem okI_le {i : I4} (h : okI i = true) : ∀ n ∈ [i.1, i.2.1, i.2.2.1, i.2.2.2], 0 ≤ n ∧ n ≤ 2147483647 := fun n hn => by
  obtain ⟨k, hk⟩ := List.mem_iff_getElem?.1 hn
  exact okId_all h k n hk

theorem nameUpto_le (l : List Int) (h : ∀ n ∈ l, 0 ≤ n ∧ n ≤ 2147483647) : ∀ k, k ≤ 4 → (nameUpto l k).size ≤ k * 11
  | 0, _ => Nat.le_refl _
  | k + 1, hk => by
    have h1 := nameUpto_le l h k (by omega)
    have h2 := letterB_size k (by omega)
    have h3 : (decB (l.getD k 0).toNat).size ≤ 10 := decB_size 9 _ (by
      have : 0 ≤ l.getD k 0 ∧ l.getD k 0 ≤ 2147483647 := by
        rw [List.getD_eq_getElem?_getD]
        cases hq : l[k]? with
        | none => simp
        | some n => exact h n (List.mem_of_getElem? hq)
      omega)
    show (nameUpto l k ++ (letterB k ++ decB (l.getD k 0).toNat)).size ≤ _
    rw [ByteArray.size_append, ByteArray.size_append]
    omega
theorem nameI_size {i : I4} (h : okI i = true) : 0 < (nameI i).size ∧ (nameI i).size ≤ 44 :=
  ⟨name_pos _, nameUpto_le _ (okI_le h) 4 (Nat.le_refl _)⟩

theorem frameI_size {i : I4} (h : okI i = true) (piece : ByteArray) (hp : piece.size ≤ 2000) : 4 ≤ (frameI i piece).size ∧ (frameI i piece).size ≤ piece.size + 44 := by
  obtain ⟨a, b, c, d, rfl⟩ := okI_nats h
  have hall : ∀ n ∈ [a, b, c, d], n ≤ 9007199254740991 := by
    have := okI_le h
    intro n hn
    simp only [natsI, List.mem_cons, List.not_mem_nil, or_false] at this hn
    have := this (n : Int) (by omega)
    omega
  have h1 := numsL_len [a, b, c, d] hall
  have h2 := numL_len 7 piece.data.toList.length (by rw [← size_len]; omega)
  unfold frameI
  rw [sealB_size, size_len]
  show 4 ≤ (bodyL a b c d piece).length + 4 ∧ (bodyL a b c d piece).length + 4 ≤ _
  unfold bodyL
  rw [List.length_append, List.length_append]
  rw [← size_len] at *
  simp only [List.length_cons, List.length_nil] at h1
  omega

theorem frame_put (i : I4) (piece : ByteArray) (hok : okI i = true) (hp : piece.size ≤ 2000) (w : World) :
    Calls Tryz.prog 23 #[valI i, .string piece] w fun e w' => e = .returned (.tuple #[.string (frameI i piece), .int .i64 0]) ∧ Below w.heap.size w w' := by
  obtain ⟨a, b, c, d, rfl⟩ := okI_nats hok
  refine (frame_right a b c d piece hok hp w).mono ?_
  rintro e w' ⟨⟨body, rfl, hb⟩, hw⟩
  refine ⟨?_, hw⟩
  have : body = ⟨(bodyL a b c d piece).toArray⟩ := by
    rw [← hb]
  rw [this]
  rfl

theorem fopen_put (i : I4) (piece : ByteArray) (hok : okI i = true) (hp : piece.size ≤ 2000) (w : World) :
    Calls Tryz.prog 25 #[.string (frameI i piece)] w fun e w' => e = .returned (.tuple #[valI i, .string piece, .int .i64 0]) ∧ Below w.heap.size w w' := by
  obtain ⟨a, b, c, d, rfl⟩ := okI_nats hok
  exact fopen_right a b c d piece _ hok hp rfl w

theorem frame_opens (i : I4) (piece : ByteArray) : openE (frameI i piece) = 0 := (open_seal _).1

set_option maxHeartbeats 1000000 in
theorem fopen_bad (s : ByteArray) (hs : s.size ≤ 1000000) (hq : openE s = 7) (w : World) :
    Calls Tryz.prog 25 #[.string s] w fun e w' => e = .returned (.tuple #[.agg #[.int .i64 0, .int .i64 0, .int .i64 0, .int .i64 0], .string ⟨#[]⟩, .int .i64 7]) ∧ Below w.heap.size w w' := by
  have HO := Lib.hid (fun W => open_any s (by omega) W)
  rw [hq] at HO
  clear hq
  go_enter Tryz.func25, Tryz.ntmps25
  go_wp2_with fail
  refine (HO.out _).mono ?_
  rintro e w1 ⟨rfl, hb1⟩
  have x1 := (hb1.block _ (by simp)).trans (heap_alloc_new w (.cells #[.int .i64 0, .int .i64 0, .int .i64 0, .int .i64 0] 26))
  have hB1 : Below w.heap.size w w1 := ((Below.refl _ w).alloc (Nat.le_refl _) _).trans (hb1.mono (by simp))
  obtain ⟨⟨c0, c1, c2, c3⟩, f0, f1, f2, f3⟩ := ifacts x1
  go_wp2_with fail
  obtain ⟨hr9, hc9⟩ := res_four (.int .i64 0) (.int .i64 0) (.int .i64 0) (.int .i64 0) x1
  obtain ⟨s0, s1, s2, s3⟩ := four_cells hr9
  exact bodyPost_ret (v := .tuple #[.agg #[.int .i64 0, .int .i64 0, .int .i64 0, .int .i64 0], .string ⟨#[]⟩, .int .i64 7]) (by simp [results, Tryz.results25, go_sem, s0, s1, s2, s3]) rfl ⟨rfl, hB1.trans (hc9.below hB1.size (fun i hi => by omega))⟩
end Go.Proofs.YtkldkaahpicnmaaGreat
/- A piece put on a disk, and got, walked. -/
namespace Go.Proofs.YtkldkaahpicnmaaGreat
set_option maxRecDepth 100000
open Go.RowKit PFragNames
open Go.Proofs.YtkldkaahpicnmaaGreatW.PrintWords Go.Proofs.YtkldkaahpicnmaaGreatW.PrintLast Go.Proofs.YtkldkaahpicnmaaGreatW.PrintMore

theorem eqId (d : Nat) (w : World) (x0 y0 x1 y1 x2 y2 x3 y3 : Int) :
    (Op.equalIn (d + 2) 26 (.agg #[.int .i64 x0, .int .i64 x1, .int .i64 x2, .int .i64 x3]) (.agg #[.int .i64 y0, .int .i64 y1, .int .i64 y2, .int .i64 y3])).run Tryz.prog w = .ok (x0 == y0 && (x1 == y1 && (x2 == y2 && (x3 == y3)))) w := by
  refine eqA_of Tryz.underlying26 (by kernel_rfl) ?_
  refine eqf_cons (by rfl) (by go_simp; rfl) (by go_simp; rfl) (by go_simp) ?_
  refine eqf_cons (by rfl) (by go_simp; rfl) (by go_simp; rfl) (by go_simp) ?_
  refine eqf_cons (by rfl) (by go_simp; rfl) (by go_simp; rfl) (by go_simp) ?_
  exact eqf_last (by rfl) (by go_simp; rfl) (by go_simp; rfl) (by go_simp)

theorem nm_any (i : I4) (hok : okI i = true) (w : World) : Calls Tryz.prog 13 #[valI i] w fun e w' => e = .returned (.string (nameI i)) ∧ Below w.heap.size w w' := name_right _ _ _ _ hok w
theorem rt_any (i : I4) (w : World) : Calls Tryz.prog 6 #[valI i] w fun e w' => e = .returned (.bool (okI i)) ∧ Below w.heap.size w w' := right_any _ _ _ _ w

set_option maxHeartbeats 1000000 in
theorem put_any (p b size : Nat) (l : List KV) (i : I4) (piece : ByteArray) (w : World) (hd : DiskAt w p b size l) (hok : okI i = true) (hp : piece.size ≤ 2000) :
    Calls Tryz.prog 9 #[.pointer (some ⟨p, 0, none⟩), valI i, .string piece] w fun e w' => e = .returned (.int .i64 (writeE size l (nameI i) (frameI i piece))) ∧ DiskAt w' p b size (writeS size l (nameI i) (frameI i piece)) ∧ Chg (fun k => k = b) w w' := by
  have HF := Lib.hid (fun W => frame_put i piece hok hp W)
  have HN := Lib.hid (fun W => nm_any i hok W)
  have hfs : (frameI i piece).size ≤ 140737488351232 := by have := (frameI_size hok piece hp).2; omega
  have HD := Lib.hid hd
  have hlt := (Array.getElem?_eq_some_iff.1 hd.at_).1
  have hlb := hd.own.lt
  obtain ⟨F, hF⟩ : ∃ F, F = frameI i piece := ⟨_, rfl⟩
  obtain ⟨nm, hnm⟩ : ∃ nm, nm = nameI i := ⟨_, rfl⟩
  rw [← hF] at hfs HF ⊢
  rw [← hnm] at HN ⊢
  obtain ⟨x0, x1, x2, x3⟩ := i
  unfold valI at *
  simp only at HF HN ⊢
  clear hF hnm hd hok
  go_enter Tryz.func9, Tryz.ntmps9
  go_wp2_with fail
  refine (HF.out _).mono ?_
  rintro e w1 ⟨rfl, hb1⟩
  have hb2 : Below w.heap.size w w1 := ((Below.refl _ w).alloc (Nat.le_refl _) _).trans (hb1.mono (by simp))
  have hbx := (hb1.block w.heap.size (by simp)).trans (heap_alloc_new w _)
  obtain ⟨k0, k1, k2, k3⟩ := icells hbx
  go_wp2_with fail
  refine (HN.out _).mono ?_
  rintro e w2 ⟨rfl, hb3⟩
  have hb4 := hb2.trans (hb3.mono hb2.size)
  have hC : Chg (fun k => k = b) w w2 := ⟨hb4.os, hb4.tape, hb4.output, hb4.size, fun k hk _ => hb4.block k hk⟩
  have hd2 : DiskAt w2 p b size l := HD.out.chg (S := fun k => k = w2.heap.size) ⟨hb4.os, hb4.tape, hb4.output, hb4.size, fun k hk _ => hb4.block k hk⟩ (by have := hb4.size; omega) (by have := hb4.size; omega)
  have HW := Lib.hid (write_any p b size l nm F w2 hd2 hfs)
  clear hd2
  go_wp2_with fail
  refine HW.out.mono ?_
  rintro e w3 ⟨rfl, hd3, hc3⟩
  go_wp2_with fail
  go_ret
  exact ⟨rfl, hd3, hC.trans hc3 (fun _ h _ => h)⟩

section
attribute [local go_sem high] eqId

set_option maxHeartbeats 2000000 in
theorem get_good (p b size : Nat) (l : List KV) (i : I4) (piece : ByteArray) (w : World) (hd : DiskAt w p b size l) (hok : okI i = true) (hp : piece.size ≤ 2000) (hl : look l (nameI i) = some (frameI i piece)) :
    Calls Tryz.prog 10 #[.pointer (some ⟨p, 0, none⟩), valI i] w fun e w' => e = .returned (.tuple #[.string piece, .int .i64 0]) ∧ Below w.heap.size w w' := by
  have HO := Lib.hid (fun W => fopen_put i piece hok hp W)
  have HN := Lib.hid (fun W => nm_any i hok W)
  have HR := Lib.hid (fun W => rt_any i W)
  rw [hok] at HR
  have hns : (nameI i).size ≤ maxLen := by have := (nameI_size hok).2; unfold maxLen; omega
  have HD := Lib.hid hd
  have hlt := (Array.getElem?_eq_some_iff.1 hd.at_).1
  have hlb := hd.own.lt
  obtain ⟨F, hF⟩ : ∃ F, F = frameI i piece := ⟨_, rfl⟩
  obtain ⟨nm, hnm⟩ : ∃ nm, nm = nameI i := ⟨_, rfl⟩
  rw [← hF] at hl HO
  rw [← hnm] at HN hns hl
  have HL := Lib.hid hl
  obtain ⟨x0, x1, x2, x3⟩ := i
  unfold valI at *
  simp only at HO HN HR ⊢
  clear hF hnm hd hok hl
  go_enter Tryz.func10, Tryz.ntmps10
  go_wp2_with fail
  refine (HR.out _).mono ?_
  rintro e w1 ⟨rfl, hb1⟩
  have hB1 : Below w.heap.size w w1 := ((Below.refl _ w).alloc (Nat.le_refl _) _).trans (hb1.mono (by simp))
  have hx1 := (hb1.block w.heap.size (by simp)).trans (heap_alloc_new w _)
  obtain ⟨k0, k1, k2, k3⟩ := icells hx1
  go_wp2_with fail
  refine (HN.out _).mono ?_
  rintro e w2 ⟨rfl, hb2⟩
  have hB2 := hB1.trans (hb2.mono hB1.size)
  have hx2 := (hb2.block _ (Array.getElem?_eq_some_iff.1 hx1).1).trans hx1
  have hrd := read_any p b size l nm w2 (HD.out.chg (S := fun k => k = w2.heap.size) ⟨hB2.os, hB2.tape, hB2.output, hB2.size, fun k hk _ => hB2.block k hk⟩ (by have := hB2.size; omega) (by have := hB2.size; omega)) hns
  unfold readE at hrd
  rw [HL.out, Option.getD_some, Option.isSome_some, if_pos rfl] at hrd
  have HRD := Lib.hid hrd
  clear hrd k0 k1 k2 k3 hb1 hb2 hx1
  go_wp2_with fail
  refine HRD.out.mono ?_
  rintro e w3 ⟨rfl, rfl⟩
  go_wp2_with fail
  refine (HO.out _).mono ?_
  rintro e w4 ⟨rfl, hb4⟩
  have hB4 := hB2.trans (hb4.mono hB2.size)
  have hx4 := (hb4.block _ (Array.getElem?_eq_some_iff.1 hx2).1).trans hx2
  obtain ⟨W5, hW5⟩ : ∃ W5, W5 = w4.alloc (.cells #[.int .i64 x0, .int .i64 x1, .int .i64 x2, .int .i64 x3] 26) := ⟨_, rfl⟩
  have y5 : W5.heap[w4.heap.size]? = some (.cells #[.int .i64 x0, .int .i64 x1, .int .i64 x2, .int .i64 x3] 26 (0, 0)) := by rw [hW5]; exact heap_alloc_new w4 _
  have hb5 : Below w4.heap.size w4 W5 := by rw [hW5]; exact (Below.refl _ _).alloc (Nat.le_refl _) _
  have hB5 := hB4.trans (hb5.mono hB4.size)
  have hx5 := (hb5.block _ (Array.getElem?_eq_some_iff.1 hx4).1).trans hx4
  obtain ⟨k0, k1, k2, k3⟩ := icells hx5
  obtain ⟨m0, m1, m2, m3⟩ := icells y5
  clear hb4 hb5 hx2 hx4
  go_wp2_with (first | (rw [← hW5]; clear hW5))
  go_ret2
  exact ⟨rfl, hB5⟩
end

set_option maxHeartbeats 2000000 in
theorem get_bad (p b size : Nat) (l : List KV) (i : I4) (F : ByteArray) (w : World) (hd : DiskAt w p b size l) (hok : okI i = true) (hF : F.size ≤ 1000000) (hq : openE F = 7) (hl : look l (nameI i) = some F) :
    Calls Tryz.prog 10 #[.pointer (some ⟨p, 0, none⟩), valI i] w fun e w' => e = .returned (.tuple #[.string ⟨#[]⟩, .int .i64 7]) ∧ Below w.heap.size w w' := by
  have HO := Lib.hid (fun W => fopen_bad F hF hq W)
  have HN := Lib.hid (fun W => nm_any i hok W)
  have HR := Lib.hid (fun W => rt_any i W)
  rw [hok] at HR
  have hns : (nameI i).size ≤ maxLen := by have := (nameI_size hok).2; unfold maxLen; omega
  have HD := Lib.hid hd
  have hlt := (Array.getElem?_eq_some_iff.1 hd.at_).1
  have hlb := hd.own.lt
  obtain ⟨nm, hnm⟩ : ∃ nm, nm = nameI i := ⟨_, rfl⟩
  rw [← hnm] at HN hns hl
  have HL := Lib.hid hl
  obtain ⟨x0, x1, x2, x3⟩ := i
  unfold valI at *
  simp only at HN HR ⊢
  clear hnm hd hok hl hq
  go_enter Tryz.func10, Tryz.ntmps10
  go_wp2_with fail
  refine (HR.out _).mono ?_
  rintro e w1 ⟨rfl, hb1⟩
  have hB1 : Below w.heap.size w w1 := ((Below.refl _ w).alloc (Nat.le_refl _) _).trans (hb1.mono (by simp))
  have hx1 := (hb1.block w.heap.size (by simp)).trans (heap_alloc_new w _)
  obtain ⟨k0, k1, k2, k3⟩ := icells hx1
  go_wp2_with fail
  refine (HN.out _).mono ?_
  rintro e w2 ⟨rfl, hb2⟩
  have hB2 := hB1.trans (hb2.mono hB1.size)
  have hrd := read_any p b size l nm w2 (HD.out.chg (S := fun k => k = w2.heap.size) ⟨hB2.os, hB2.tape, hB2.output, hB2.size, fun k hk _ => hB2.block k hk⟩ (by have := hB2.size; omega) (by have := hB2.size; omega)) hns
  unfold readE at hrd
  rw [HL.out, Option.getD_some, Option.isSome_some, if_pos rfl] at hrd
  have HRD := Lib.hid hrd
  clear hrd k0 k1 k2 k3 hb1 hb2 hx1
  go_wp2_with fail
  refine HRD.out.mono ?_
  rintro e w3 ⟨rfl, rfl⟩
  go_wp2_with fail
  refine (HO.out _).mono ?_
  rintro e w4 ⟨rfl, hb4⟩
  have hB4 := hB2.trans (hb4.mono hB2.size)
  go_wp2_with fail
  go_ret2
  exact ⟨rfl, hB4.alloc hB4.size _⟩
end Go.Proofs.YtkldkaahpicnmaaGreat
/- The ids of a disk's names. -/
namespace Go.Proofs.YtkldkaahpicnmaaGreat
set_option maxRecDepth 100000
open Go.RowKit PFragNames

/-- f tells which names are ids' names, and of which. -/
def NamesOk (f : ByteArray → Option I4) (s : ByteArray) : Prop := (∀ i, f s = some i → okI i = true ∧ nameI i = s) ∧ (f s = none → ∀ i, okI i = true → nameI i ≠ s)

theorem named_of (f : ByteArray → Option I4) (s : ByteArray) (h : NamesOk f s) (hs : s.size ≤ 1000000) (w : World) :
    Calls Tryz.prog 50 #[.string s] w fun e w' => e = .returned (.tuple #[valI ((f s).getD (0, 0, 0, 0)), .bool (f s).isSome]) ∧ Below w.heap.size w w' := by
  cases hf : f s with
  | some i =>
    obtain ⟨hok, rfl⟩ := h.1 i hf
    exact named_ex _ _ _ _ hok w
  | none =>
    refine (named_any s hs w).mono ?_
    rintro e w' ⟨⟨a, b, c, d, q, rfl, hq0, hq1⟩, hb⟩
    cases q with
    | true =>
      obtain ⟨h1, h2⟩ := hq1 rfl
      exact absurd h2 (h.2 hf (a, b, c, d) h1)
    | false =>
      obtain ⟨rfl, rfl, rfl, rfl⟩ := hq0 rfl
      exact ⟨rfl, hb⟩

theorem infoId : (Tryz.prog.info? 26).map (fun i => (i.zero, i.size, i.bytes)) = some (some (.agg #[.int .i64 0, .int .i64 0, .int .i64 0, .int .i64 0]), 4, 32) := by kernel_rfl

theorem src_one_id (w : World) (vb : Nat) (i : I4) (hs : w.heap[vb]? = some (.cells #[.int .i64 i.1, .int .i64 i.2.1, .int .i64 i.2.2.1, .int .i64 i.2.2.2] 26 (0, 0))) : Src Tryz.prog 4 35 (.slice (some ⟨vb, 0, none⟩) 1 1) 1 (cellsI i) w :=
  Src.ofSlice w Tryz.underlying35 ⟨vb, 0, none⟩ 1 1 (cellsI i) rfl (fun j u hu => by
    rw [Addr.add_lit, Nat.zero_add]
    simp only [World.cell?, hs]
    unfold cellsI at hu
    simpa using hu) (fun u hu => by simp [cellsI] at hu; rcases hu with rfl | rfl | rfl | rfl <;> rfl)

/-- A row of ids that the call has made, as a block of ids. -/
theorem own_ids {w : World} {B : Nat} {v : Value} {L : List I4} (h : w.ownsRow B 26 4 v L.length (L.flatMap cellsI)) :
    (v = .slice none 0 0 ∧ L = []) ∨ ∃ g c, v = .slice (some ⟨g, 0, none⟩) L.length c ∧ B ≤ g ∧ L.length ≤ c ∧ c ≤ maxLen ∧ IdBlk w g 0 L := by
  rcases h.2 with ⟨rfl, h0⟩ | ⟨g, c, cur, rfl, hg, hb, h1, h2, h3, h4⟩
  · exact .inl ⟨rfl, List.length_eq_zero_iff.1 h0⟩
  · refine .inr ⟨g, c, rfl, hg, h1, h2, ⟨cur, _, hb⟩, fun j i hi => ?_⟩
    have hf : ∀ (L : List I4) (j : Nat) (i : I4), L[j]? = some i → ∀ q u, (cellsI i)[q]? = some u → (L.flatMap cellsI)[j * 4 + q]? = some u := by
      intro L
      induction L with
      | nil => intro j i hi; simp at hi
      | cons x r ih =>
        intro j i hi q u hu
        have hq : q < 4 := by have := (List.getElem?_eq_some_iff.1 hu).1; simpa [cellsI] using this
        rw [List.flatMap_cons]
        match j, hi with
        | 0, hi =>
          injection hi with hi
          subst hi
          rw [List.getElem?_append_left (by show 0 * 4 + q < 4; omega), Nat.zero_mul, Nat.zero_add]
          exact hu
        | j + 1, hi =>
          rw [List.getElem?_append_right (by show 4 ≤ _; omega)]
          show (r.flatMap cellsI)[(j + 1) * 4 + q - 4]? = _
          rw [show (j + 1) * 4 + q - 4 = j * 4 + q by omega]
          exact ih j i (by simpa using hi) q u hu
    have hc := fun q u (hu : (cellsI i)[q]? = some u) => h.cells (g := g) rfl (j * 4 + q) u (hf L j i hi q u hu)
    have h0 := hc 0 _ rfl
    have h1 := hc 1 _ rfl
    have h2 := hc 2 _ rfl
    have h3 := hc 3 _ rfl
    rw [Addr.add_lit] at h0 h1 h2 h3
    exact ⟨h0, h1, h2, h3⟩

/-- The ids of the first k names. -/
def idsUpto (f : ByteArray → Option I4) (l : List KV) (k : Nat) : List I4 := ((l.map fun p => p.1).take k).filterMap f
theorem idsUpto_step {f : ByteArray → Option I4} {l : List KV} {k : Nat} {s : ByteArray} (hs : (l.map fun p => p.1)[k]? = some s) : idsUpto f l (k + 1) = idsUpto f l k ++ (f s).toList := by
  unfold idsUpto
  rw [List.take_add_one, hs, List.filterMap_append]
  congr 1
theorem idsUpto_len (f : ByteArray → Option I4) (l : List KV) (k : Nat) : (idsUpto f l k).length ≤ l.length := by
  unfold idsUpto
  refine Nat.le_trans (List.length_filterMap_le _ _) ?_
  rw [List.length_take, List.length_map]
  omega
def idsOf (f : ByteArray → Option I4) (l : List KV) : List I4 := l.filterMap fun p => f p.1
theorem idsUpto_all (f : ByteArray → Option I4) (l : List KV) : idsUpto f l l.length = idsOf f l := by
  unfold idsUpto idsOf
  rw [List.take_of_length_le (by simp), List.filterMap_map]
  rfl

set_option maxHeartbeats 4000000 in
theorem ids_any (f : ByteArray → Option I4) (p b size : Nat) (l : List KV) (w : World) (h : DiskAt w p b size l) (hf : ∀ x ∈ l, NamesOk f x.1) (hsz : size ≤ 900000) :
    Calls Tryz.prog 27 #[.pointer (some ⟨p, 0, none⟩)] w fun e w' => ∃ v, e = .returned v ∧ w'.ownsRow w.heap.size 26 4 v (idsOf f l).length ((idsOf f l).flatMap cellsI) ∧ Below w.heap.size w w' := by
  have HN := Lib.hid (names_any p b size l w h)
  have hlt := len_tot l
  have hfit := h.fits
  have hsm := h.small
  have HK := Lib.hid h.own.key_le
  have HF := Lib.hid hf
  clear hf
  obtain ⟨i0, hi0, hz0, hz1, hz2⟩ := info_parts infoId
  go_enter Tryz.func27, Tryz.ntmps27
  go_wp2_with fail
  refine HN.out.mono ?_
  rintro e w1 ⟨v, rfl, hown, hb1⟩
  have hstr : StrsAt w1 v (l.map fun p => p.1) := own_strs (by rw [List.length_map]; exact hown)
  obtain ⟨av, cv, rfl, _, _⟩ := hstr.val
  have HS := Lib.hid hstr
  rw [List.length_map] at *
  clear hown hstr
  go_wp2_with fail
  go_loopw [3, 11] (fun s3 s11 wr => ∃ (k : Nat) (vr : Value), s3 = vr ∧ s11 = .int .i64 k ∧ k ≤ l.length ∧ wr.ownsRow w1.heap.size 26 4 vr (idsUpto f l k).length ((idsUpto f l k).flatMap cellsI) ∧ Below w1.heap.size w1 wr) (fun _ s11 _ => l.length - (intOf s11).toNat)
  case atStart => exact ⟨0, .slice none 0 0, rfl, rfl, by omega, ⟨by simp [idsUpto], .inl ⟨rfl, by simp [idsUpto]⟩⟩, Below.refl _ _⟩
  case round =>
    obtain ⟨k, vr, rfl, rfl, hk, hrow, hb⟩ := hrel
    have hilen := idsUpto_len f l k
    by_cases hlt : k < l.length
    · have hltz : (k : Int) < (l.length : Int) := by omega
      obtain ⟨x, hx⟩ : ∃ x, l[k]? = some x := ⟨_, List.getElem?_eq_getElem hlt⟩
      have hxs : (l.map fun p => p.1)[k]? = some x.1 := by rw [List.getElem?_map, hx]; rfl
      have hst := idsUpto_step (f := f) hxs
      obtain ⟨bx, ox, rfl, hcx⟩ := strs_cell (HS.out.below hb (Nat.le_refl _)) k x.1 hxs
      have hns := HF.out x (List.mem_of_getElem? hx)
      have hsx : x.1.size ≤ 1000000 := by have := (HK.out x (List.mem_of_getElem? hx)).1; omega
      have hnm := fun W => named_of f x.1 hns hsx W
      obtain ⟨s, hs⟩ : ∃ s, s = x.1 := ⟨_, rfl⟩
      rw [← hs] at hcx hnm hst
      clear hs hns hx hxs
      obtain ⟨av', cv', rfl, hcv, hcv2, _⟩ := own_val hrow
      cases hfs : f s with
      | none =>
        rw [hfs] at hnm hst
        have HST := Lib.hid hst
        have HNM := Lib.hid hnm
        unfold valI at HNM
        simp only [Option.getD_none, Option.isSome_none] at HNM
        clear hst hnm hfs
        go_wp2_with (go_at_call 50; refine (HNM.out _).mono ?_; rintro e w5 ⟨rfl, hb5⟩)
        go_roundw
        case rel =>
          have hb6 : Below w1.heap.size w1 (w5.alloc (.cells #[.int .i64 0, .int .i64 0, .int .i64 0, .int .i64 0] 26)) := (hb.trans (hb5.mono hb.size)).alloc (Nat.le_trans hb.size hb5.size) _
          have hc6 : Chg (fun _ => False) wr (w5.alloc (.cells #[.int .i64 0, .int .i64 0, .int .i64 0, .int .i64 0] 26)) := (Chg.mk hb5.os hb5.tape hb5.output hb5.size (fun q hq _ => hb5.block q hq)).alloc _
          refine ⟨k + 1, _, rfl, by go_num, hlt, ?_, hb6⟩
          rw [HST.out]
          simp only [Option.toList, List.append_nil]
          exact own_kept hrow hc6 (fun _ _ h => h)
        case measure => simp [intOf]; omega
      | some i =>
        rw [hfs] at hnm hst
        have HST := Lib.hid hst
        have HNM := Lib.hid hnm
        obtain ⟨x0, x1, x2, x3⟩ := i
        unfold valI at HNM
        simp only [Option.getD_some, Option.isSome_some] at HNM
        clear hst hnm hfs
        go_wp2_with (first
          | (go_at_call 50; refine (HNM.out _).mono ?_; rintro e w5 ⟨rfl, hb5⟩
             obtain ⟨W6, hW6⟩ : ∃ W6, W6 = w5.alloc (.cells #[.int .i64 x0, .int .i64 x1, .int .i64 x2, .int .i64 x3] 26) := ⟨_, rfl⟩
             have y6 : W6.heap[w5.heap.size]? = some (.cells #[.int .i64 x0, .int .i64 x1, .int .i64 x2, .int .i64 x3] 26 (0, 0)) := by rw [hW6]; exact heap_alloc_new w5 _
             have hc6 : Chg (fun _ => False) wr W6 := by rw [hW6]; exact (Chg.mk hb5.os hb5.tape hb5.output hb5.size (fun q hq _ => hb5.block q hq)).alloc _
             obtain ⟨k0, k1, k2, k3⟩ := icells y6
             have hrow6 := own_kept hrow hc6 (fun _ _ h => h))
          | (rw [← hW6]; clear hW6)
          | (at_builtin; refine wpList_append_src rfl _ _ 35 35 rfl w1.heap.size 26 i0 _ 4 32 Tryz.underlying35 hi0 hz0 hz1 hz2 rfl (by decide) _ _ _ rfl (hrow6.alloc _) _ 1 _ rfl (src_one_id _ W6.heap.size (x0, x1, x2, x3) (heap_alloc_new W6 _)) (by unfold maxLen; omega) (by omega) (by simp; have := hc6.size; have := hb.size; omega) ?_; intro v2 w2 ho hch hnew))
        go_roundw
        case rel =>
          refine ⟨k + 1, v2, rfl, by go_num, hlt, ?_, ?_⟩
          · rw [HST.out, List.length_append, List.flatMap_append]
            exact ho
          · have hc7 := ((hc6.mono (fun _ h => h.elim)).alloc _).trans hch (fun _ h _ => h)
            exact hb.trans (hc7.below hb.size (fun q hq => (own_lt hrow q hq).1))
        case measure => simp [intOf]; omega
    · obtain rfl : k = l.length := by omega
      have hltz : ¬ (l.length : Int) < (l.length : Int) := by omega
      obtain ⟨av', cv', rfl, hcv, hcv2, _⟩ := own_val hrow
      go_wp2
      go_ret
      rw [idsUpto_all] at hrow
      rw [idsUpto_all]
      exact ⟨_, rfl, own_base hrow hb1.size, hb1.trans (hb.mono hb1.size)⟩
end Go.Proofs.YtkldkaahpicnmaaGreat
/- The ids of all fragments that can be got: Scan. -/
namespace Go.Proofs.YtkldkaahpicnmaaGreat
set_option maxRecDepth 100000
open Go.RowKit

/-- What lies at each id's name: a frame of the id, or a spoilt one. -/
def HeldOk (f : ByteArray → Option I4) (good : I4 → Bool) (l : List KV) : Prop :=
  ∀ x ∈ l, ∀ i, f x.1 = some i → (good i = true ∧ ∃ piece : ByteArray, piece.size ≤ 2000 ∧ x.2 = frameI i piece) ∨ (good i = false ∧ x.2.size ≤ 1000000 ∧ openE x.2 = 7)

theorem DiskAt.under {w w' : World} {p b size B : Nat} {l : List KV} (h : DiskAt w p b size l) (hb : Below B w w') (hp : p < B) (hq : b < B) : DiskAt w' p b size l := by
  obtain ⟨es, clock, hB, r⟩ := h.own
  exact ⟨(hb.block p hp).trans h.at_, ⟨es, clock, (hb.block b hq).trans hB, r⟩, h.ne, h.fits, h.small⟩

/-- The closure: is one not got? -/
theorem bad_any (f : ByteArray → Option I4) (good : I4 → Bool) (p b size : Nat) (l : List KV) (bx : Nat) (w : World) (h : DiskAt w p b size l) (hf : ∀ x ∈ l, NamesOk f x.1) (hg : HeldOk f good l) (hbx : w.cell? ⟨bx, 0, none⟩ = some (.pointer (some ⟨p, 0, none⟩))) (i : I4) (hi : i ∈ idsOf f l) :
    Calls Tryz.prog 28 #[valI i, .pointer (some ⟨bx, 0, none⟩)] w fun e w' => e = .returned (.bool (!good i)) ∧ Below w.heap.size w w' := by
  unfold idsOf at hi
  obtain ⟨x, hx, hfx⟩ := List.mem_filterMap.1 hi
  obtain ⟨hok, hn⟩ := (hf x hx).1 i hfx
  have hl : look l (nameI i) = some x.2 := by rw [hn]; exact mem_look h.own.apart hx
  obtain ⟨W1, hW1⟩ : ∃ W1, W1 = w.alloc (.cells #[.int .i64 i.1, .int .i64 i.2.1, .int .i64 i.2.2.1, .int .i64 i.2.2.2] 26) := ⟨_, rfl⟩
  have y1 : W1.heap[w.heap.size]? = some (.cells #[.int .i64 i.1, .int .i64 i.2.1, .int .i64 i.2.2.1, .int .i64 i.2.2.2] 26 (0, 0)) := by rw [hW1]; exact heap_alloc_new w _
  have hb1 : Below w.heap.size w W1 := by rw [hW1]; exact (Below.refl _ _).alloc (Nat.le_refl _) _
  have hd1 : DiskAt W1 p b size l := h.under hb1 (Array.getElem?_eq_some_iff.1 h.at_).1 h.own.lt
  have hbx1 : W1.cell? ⟨bx, 0, none⟩ = some (.pointer (some ⟨p, 0, none⟩)) := (hb1.cell (p := ⟨bx, 0, none⟩) (World.block_lt_of_cell? w _ hbx)).trans hbx
  have hget : ∃ (s : ByteArray) (n : Int), (n != 0) = !good i ∧ Calls Tryz.prog 10 #[.pointer (some ⟨p, 0, none⟩), valI i] W1 fun e w' => e = .returned (.tuple #[.string s, .int .i64 n]) ∧ Below W1.heap.size W1 w' := by
    rcases hg x hx i hfx with ⟨h1, piece, h2, h3⟩ | ⟨h1, h2, h3⟩
    · exact ⟨piece, 0, by rw [h1]; rfl, get_good p b size l i piece W1 hd1 hok h2 (by rw [hl, h3])⟩
    · exact ⟨⟨#[]⟩, 7, by rw [h1]; rfl, get_bad p b size l i x.2 W1 hd1 hok h2 h3 hl⟩
  obtain ⟨s, n, hn0, hget⟩ := hget
  have HG := Lib.hid hget
  rw [← hn0]
  obtain ⟨x0, x1, x2, x3⟩ := i
  unfold valI at *
  simp only at HG y1 hW1 ⊢
  obtain ⟨k0, k1, k2, k3⟩ := icells y1
  clear hget hd1 y1 hl hn hok hfx hx hi hg hf h hn0
  go_enter Tryz.func28, Tryz.ntmps28
  go_wp2_with (first | (rw [← hW1]; clear hW1) | (go_at_call 10; refine HG.out.mono ?_; rintro e w2 ⟨rfl, hb2⟩))
  go_ret
  exact ⟨rfl, hb1.trans (hb2.mono hb1.size)⟩

set_option maxHeartbeats 2000000 in
theorem scan_any (f : ByteArray → Option I4) (good : I4 → Bool) (p b size : Nat) (l : List KV) (w : World) (h : DiskAt w p b size l) (hf : ∀ x ∈ l, NamesOk f x.1) (hsz : size ≤ 900000) (hg : HeldOk f good l) (hne : idsOf f l ≠ []) :
    Calls Tryz.prog 11 #[.pointer (some ⟨p, 0, none⟩)] w fun e w' => ∃ (ys : List I4) (g c : Nat), e = .returned (.slice (some ⟨g, 0, none⟩) ys.length c) ∧ ys.Perm ((idsOf f l).filter good) ∧ ys.Pairwise (fun x y => ¬ LessI y x) ∧ IdBlk w' g 0 ys ∧ Below w.heap.size w w' := by
  obtain ⟨W1, hW1⟩ : ∃ W1, W1 = w.alloc (.cells #[.pointer (some ⟨p, 0, none⟩)] 28) := ⟨_, rfl⟩
  have y1 : W1.heap[w.heap.size]? = some (.cells #[.pointer (some ⟨p, 0, none⟩)] 28 (0, 0)) := by rw [hW1]; exact heap_alloc_new w _
  have hs1 : W1.heap.size = w.heap.size + 1 := by rw [hW1]; simp
  have hb1 : Below w.heap.size w W1 := by rw [hW1]; exact (Below.refl _ _).alloc (Nat.le_refl _) _
  have hpl := (Array.getElem?_eq_some_iff.1 h.at_).1
  have hbl := h.own.lt
  have hd1 : DiskAt W1 p b size l := h.under hb1 hpl hbl
  have c1 : W1.cell? ⟨w.heap.size, 0, none⟩ = some (.pointer (some ⟨p, 0, none⟩)) := by simp [World.cell?, y1]
  have HI := Lib.hid (ids_any f p b size l W1 hd1 hf hsz)
  have HD1 := Lib.hid hd1
  have HF := Lib.hid hf
  have HG := Lib.hid hg
  have HC1 := Lib.hid c1
  have hln : (idsOf f l).length ≤ 1000000 := by
    have h1 : (idsOf f l).length ≤ l.length := List.length_filterMap_le _ _
    have h2 := len_tot l
    have h3 := h.fits
    omega
  clear hd1 hf hg y1 h
  have eg : ∀ args w, (callFunc 28 args).run Tryz.prog w = .ok (.enter 28 args) w := enters_of Tryz.func28 (by kernel_rfl) rfl
  go_enter Tryz.func11, Tryz.ntmps11
  go_wp2_with (first | (rw [← hW1]; clear hW1) | fail)
  refine HI.out.mono ?_
  rintro e w2 ⟨v, rfl, hown, hb2⟩
  rcases own_ids hown with ⟨_, h0⟩ | ⟨g, c, rfl, hgB, hlc, hcm, hI⟩
  · exact absurd h0 hne
  have hT : Tells 28 #[.pointer (some ⟨w.heap.size, 0, none⟩)] (fun i => !good i) W1.heap.size w2 (idsOf f l) := by
    intro W hb hszW i hi
    have hbW : Below W1.heap.size W1 W := hb2.trans hb
    exact bad_any f good p b size l w.heap.size W (HD1.out.under hbW (by omega) (by omega)) HF.out HG.out ((hbW.cell (p := ⟨w.heap.size, 0, none⟩) (by show w.heap.size < W1.heap.size; omega)).trans HC1.out) i hi
  have HDL := Lib.hid (del_any g c 0 (idsOf f l) 28 #[.pointer (some ⟨w.heap.size, 0, none⟩)] (fun i => !good i) w2 W1.heap.size eg hI hgB hT hln hlc hcm)
  clear hT hown hI c1
  go_wp2_with fail
  refine HDL.out.mono ?_
  rintro e w3 ⟨rfl, hI3, hb3⟩
  have hk3 : (keepI (fun i => !good i) (idsOf f l)).length ≤ 1000000 := Nat.le_trans (List.length_filter_le _ _) hln
  have HSO := Lib.hid (sort_any g c 0 (keepI (fun i => !good i) (idsOf f l)) w3 W1.heap.size hI3 hgB hk3)
  have HKP : Hid (keepI (fun i => !good i) (idsOf f l) = (idsOf f l).filter good) := Lib.hid (by unfold keepI; simp)
  clear hI3
  go_wp2_with fail
  refine HSO.out.mono ?_
  rintro e w4 ⟨rfl, ys, hperm, hpw, hI4, hb4⟩
  have hyl := hperm.length_eq
  go_wp2_with fail
  go_ret
  rw [← hyl]
  rw [HKP.out] at hperm
  exact ⟨ys, g, c, rfl, hperm, hpw, hI4, hb1.trans (((hb2.trans hb3).trans hb4).mono (by omega))⟩
end Go.Proofs.YtkldkaahpicnmaaGreat
/- Unlike ids have unlike names; two fragments on a disk: their names, their ids. -/
namespace Go.Proofs.YtkldkaahpicnmaaGreat
set_option maxRecDepth 100000
open Go.RowKit PFragNames

theorem split_at (x : UInt8) (hx : 57 < x.toNat) : ∀ (l l' r r' : List UInt8), (∀ b ∈ l, b.toNat ≤ 57) → (∀ b ∈ l', b.toNat ≤ 57) → l ++ x :: r = l' ++ x :: r' → l = l' ∧ r = r'
  | [], [], r, r', _, _, h => by simpa using h
  | [], b :: l', r, r', _, h2, h => by
    simp at h
    have := h2 b (by simp)
    rw [← h.1] at this
    omega
  | b :: l, [], r, r', h1, _, h => by
    simp at h
    have := h1 b (by simp)
    rw [h.1] at this
    omega
  | b :: l, c :: l', r, r', h1, h2, h => by
    simp at h
    obtain ⟨e1, e2⟩ := split_at x hx l l' r r' (fun u hu => h1 u (by simp [hu])) (fun u hu => h2 u (by simp [hu])) h.2
    exact ⟨by rw [h.1, e1], e2⟩

theorem name_list (a b c d : Int) : (nameUpto [a, b, c, d] 4).data.toList = 116 :: (decL a.toNat ++ 97 :: (decL b.toNat ++ 112 :: (decL c.toNat ++ 102 :: decL d.toNat))) := by
  have l0 : (letterB 0).data.toList = [116] := rfl
  have l1 : (letterB 1).data.toList = [97] := rfl
  have l2 : (letterB 2).data.toList = [112] := rfl
  have l3 : (letterB 3).data.toList = [102] := rfl
  show ((((⟨#[]⟩ ++ (letterB 0 ++ decB a.toNat)) ++ (letterB 1 ++ decB b.toNat)) ++ (letterB 2 ++ decB c.toNat)) ++ (letterB 3 ++ decB d.toNat)).data.toList = _
  simp only [ByteArray.data_append, Array.toList_append, l0, l1, l2, l3]
  simp [decL]

theorem dec_inj {m n : Nat} (h : decL m = decL n) : m = n := by
  rw [← decL_val m, h, decL_val]

theorem name_inj {a b c d a' b' c' d' : Int} (h1 : okId a b c d = true) (h2 : okId a' b' c' d' = true) (h : nameUpto [a, b, c, d] 4 = nameUpto [a', b', c', d'] 4) : a = a' ∧ b = b' ∧ c = c' ∧ d = d' := by
  have h3 : (nameUpto [a, b, c, d] 4).data.toList = (nameUpto [a', b', c', d'] 4).data.toList := by rw [h]
  rw [name_list, name_list] at h3
  injection h3 with _ h3
  have dg : ∀ n : Nat, ∀ b ∈ decL n, b.toNat ≤ 57 := fun n b hb => (decL_digits n b hb).2
  obtain ⟨e1, h3⟩ := split_at 97 (by decide) _ _ _ _ (dg _) (dg _) h3
  obtain ⟨e2, h3⟩ := split_at 112 (by decide) _ _ _ _ (dg _) (dg _) h3
  obtain ⟨e3, e4⟩ := split_at 102 (by decide) _ _ _ _ (dg _) (dg _) h3
  have f1 := dec_inj e1
  have f2 := dec_inj e2
  have f3 := dec_inj e3
  have f4 := dec_inj e4
  have ha := okId_all h1
  have hb := okId_all h2
  have := ha 0 a rfl
  have := ha 1 b rfl
  have := ha 2 c rfl
  have := ha 3 d rfl
  have := hb 0 a' rfl
  have := hb 1 b' rfl
  have := hb 2 c' rfl
  have := hb 3 d' rfl
  omega

theorem nameI_inj {i j : I4} (hi : okI i = true) (hj : okI j = true) (h : nameI i = nameI j) : i = j := by
  obtain ⟨a, b, c, d⟩ := i
  obtain ⟨a', b', c', d'⟩ := j
  obtain ⟨rfl, rfl, rfl, rfl⟩ := name_inj hi hj h
  rfl

theorem name_awake : nameUpto [1, 20, 3, 0] 4 = ⟨#[116, 49, 97, 50, 48, 112, 51, 102, 48]⟩ := by
  apply ByteArray.ext
  apply Array.toList_inj.1
  rw [nameUpto_list, restL_step _ 0 (by omega), restL_step _ 1 (by omega), restL_step _ 2 (by omega), restL_step _ 3 (by omega), restL_four]
  show _ :: (decL 1 ++ (_ :: (decL 20 ++ (_ :: (decL 3 ++ (_ :: (decL 0 ++ []))))))) = _
  rw [decL_small (n := 1) (by omega), decL_big (n := 20) (by omega), decL_small (n := 20 / 10) (by omega), decL_small (n := 3) (by omega), decL_small (n := 0) (by omega)]
  rfl

theorem awake_any (w : World) : Calls Tryz.prog 5 #[] w fun e w' => e = .returned (.bool true) ∧ Below w.heap.size w w' := by
  have HN := Lib.hid (name_right 1 20 3 0 (by decide))
  go_enter Tryz.func5, Tryz.ntmps5
  go_wp2_with fail
  refine (HN.out _).mono ?_
  rintro e w1 ⟨rfl, hb1⟩
  rw [name_awake]
  go_wp2_with fail
  go_ret
  exact ⟨by simp, hb1⟩

/-! Two names on a disk. -/
theorem ins_perm (x : KV) : ∀ l : List KV, (insKV x l).Perm (x :: l)
  | [] => .refl _
  | y :: r => by
    unfold insKV
    split
    · exact .refl _
    · exact ((ins_perm x r).cons y).trans (.swap x y r)
theorem put_perm (k v : ByteArray) (l : List KV) : (putKV k v l).Perm ((k, v) :: delKV k l) := ins_perm _ _

/-- Two names hold two texts, and no other one does. -/
def Two (l : List KV) (a u b v : ByteArray) : Prop := l.Perm [(a, u), (b, v)]
theorem two_put {a u b v : ByteArray} (hab : a ≠ b) : Two (putKV b v (putKV a u [])) a u b v := by
  have h1 : putKV a u [] = [(a, u)] := rfl
  refine (put_perm b v _).trans ?_
  rw [h1, delKV_cons, if_neg hab]
  exact .swap _ _ _
theorem two_turn {l : List KV} {a u b v : ByteArray} (h : Two l a u b v) (hab : a ≠ b) (u' : ByteArray) : Two (putKV a u' l) a u' b v := by
  refine (put_perm a u' _).trans ?_
  have h2 : (delKV a l).Perm (delKV a [(a, u), (b, v)]) := List.Perm.filter _ h
  rw [delKV_cons, if_pos rfl, delKV_cons, if_neg (Ne.symm hab)] at h2
  exact h2.cons _
theorem two_mem {l : List KV} {a u b v : ByteArray} (h : Two l a u b v) {x : KV} (hx : x ∈ l) : x = (a, u) ∨ x = (b, v) := by
  have := h.mem_iff.1 hx
  simpa using this

/-- Of which id a name is. -/
def nameFn (i j : I4) (s : ByteArray) : Option I4 := if s = nameI i then some i else if s = nameI j then some j else none
theorem nameFn_i (i j : I4) : nameFn i j (nameI i) = some i := if_pos rfl
theorem nameFn_j {i j : I4} (h : nameI i ≠ nameI j) : nameFn i j (nameI j) = some j := by
  unfold nameFn
  rw [if_neg (Ne.symm h), if_pos rfl]

section
variable {i j : I4} {u v : ByteArray} {l : List KV}
theorem two_names (hi : okI i = true) (hj : okI j = true) (hn : nameI i ≠ nameI j) (h : Two l (nameI i) u (nameI j) v) : ∀ x ∈ l, NamesOk (nameFn i j) x.1 := by
  intro x hx
  rcases two_mem h hx with rfl | rfl
  · refine ⟨fun q hq => ?_, fun hq => ?_⟩
    · rw [nameFn_i] at hq; injection hq with hq; subst hq; exact ⟨hi, rfl⟩
    · rw [nameFn_i] at hq; cases hq
  · refine ⟨fun q hq => ?_, fun hq => ?_⟩
    · rw [nameFn_j hn] at hq; injection hq with hq; subst hq; exact ⟨hj, rfl⟩
    · rw [nameFn_j hn] at hq; cases hq
theorem two_ids (hn : nameI i ≠ nameI j) (h : Two l (nameI i) u (nameI j) v) : (idsOf (nameFn i j) l).Perm [i, j] := by
  refine (List.Perm.filterMap _ h).trans ?_
  simp only [List.filterMap_cons, List.filterMap_nil, nameFn_i, nameFn_j hn]
  exact .refl _
theorem two_ne (hn : nameI i ≠ nameI j) (h : Two l (nameI i) u (nameI j) v) : idsOf (nameFn i j) l ≠ [] := fun e => by
  have := (two_ids hn h).length_eq
  rw [e] at this
  cases this
theorem two_held (hn : nameI i ≠ nameI j) (h : Two l (nameI i) u (nameI j) v) (good : I4 → Bool)
    (hu : (good i = true ∧ ∃ piece : ByteArray, piece.size ≤ 2000 ∧ u = frameI i piece) ∨ (good i = false ∧ u.size ≤ 1000000 ∧ openE u = 7))
    (hv : (good j = true ∧ ∃ piece : ByteArray, piece.size ≤ 2000 ∧ v = frameI j piece) ∨ (good j = false ∧ v.size ≤ 1000000 ∧ openE v = 7)) : HeldOk (nameFn i j) good l := by
  intro x hx q hq
  rcases two_mem h hx with rfl | rfl
  · rw [nameFn_i] at hq; injection hq with hq; subst hq; exact hu
  · rw [nameFn_j hn] at hq; injection hq with hq; subst hq; exact hv
end
end Go.Proofs.YtkldkaahpicnmaaGreat
/- The calls of FragSpoilt, each in its place. -/
namespace Go.Proofs.YtkldkaahpicnmaaGreat
set_option maxRecDepth 100000
open Go.RowKit PFragNames

theorem write_fits (size : Nat) (l : List KV) (k v : ByteArray) (h0 : 0 < k.size) (h1 : k.size ≤ 64) (hf : tot l + (k.size + v.size + 16) ≤ size) : writeE size l k v = 0 ∧ writeS size l k v = putKV k v l := by
  unfold writeE writeS
  rw [if_neg (by omega), if_neg (by omega), if_neg (by omega), if_neg (by omega)]
  exact ⟨rfl, rfl⟩

def theX : ByteArray := ⟨#[120]⟩

/-- Two fragments that are put on a disk. -/
structure Pair (i j : I4) (piece : ByteArray) : Prop where
  oki : okI i = true
  okj : okI j = true
  ne : i ≠ j
  small : piece.size ≤ 2000

/-- What lies on the disk, with the second one's text u. -/
def heldT (i j : I4) (u : ByteArray) (l : List KV) : Prop := Two l (nameI i) u (nameI j) (frameI j theX)

section
variable {i j : I4} {piece : ByteArray}
theorem Pair.names (h : Pair i j piece) : nameI i ≠ nameI j := fun e => h.ne (nameI_inj h.oki h.okj e)
theorem Pair.look_i (h : Pair i j piece) {u : ByteArray} {l : List KV} (ht : heldT i j u l) (ha : Apartn l) : look l (nameI i) = some u := mem_look (p := (nameI i, u)) ha (ht.mem_iff.2 (by simp))
theorem Pair.look_j (h : Pair i j piece) {u : ByteArray} {l : List KV} (ht : heldT i j u l) (ha : Apartn l) : look l (nameI j) = some (frameI j theX) := mem_look (p := (nameI j, frameI j theX)) ha (ht.mem_iff.2 (by simp))

theorem Pair.put1 (h : Pair i j piece) (p b : Nat) (W : World) (hd : DiskAt W p b 10000 []) :
    Calls Tryz.prog 9 #[.pointer (some ⟨p, 0, none⟩), valI i, .string piece] W fun e w' => e = .returned (.int .i64 0) ∧ DiskAt w' p b 10000 (putKV (nameI i) (frameI i piece) []) ∧ Chg (fun k => k = b) W w' := by
  have h1 := nameI_size h.oki
  have h2 := frameI_size h.oki piece h.small
  have h3 := h.small
  obtain ⟨e1, e2⟩ := write_fits 10000 [] (nameI i) (frameI i piece) h1.1 (by omega) (by simp only [tot]; omega)
  have := put_any p b 10000 [] i piece W hd h.oki h.small
  rw [e1, e2] at this
  exact this

theorem Pair.put2 (h : Pair i j piece) (p b : Nat) (W : World) (hd : DiskAt W p b 10000 (putKV (nameI i) (frameI i piece) [])) :
    Calls Tryz.prog 9 #[.pointer (some ⟨p, 0, none⟩), valI j, .string theX] W fun e w' => e = .returned (.int .i64 0) ∧ (∃ l, DiskAt w' p b 10000 l ∧ heldT i j (frameI i piece) l) ∧ Chg (fun k => k = b) W w' := by
  have h1 := nameI_size h.oki
  have h2 := frameI_size h.oki piece h.small
  have h3 := h.small
  have g1 := nameI_size h.okj
  have g2 := frameI_size h.okj theX (by decide)
  have g3 : theX.size = 1 := rfl
  obtain ⟨e1, e2⟩ := write_fits 10000 (putKV (nameI i) (frameI i piece) []) (nameI j) (frameI j theX) g1.1 (by omega) (by
    show tot [(nameI i, frameI i piece)] + _ ≤ _
    simp only [tot, takesKV]; omega)
  have := put_any p b 10000 _ j theX W hd h.okj (by decide)
  rw [e1, e2] at this
  exact this.mono fun e w' ⟨he, hd', hc⟩ => ⟨he, ⟨_, hd', two_put h.names⟩, hc⟩

theorem Pair.get1 (h : Pair i j piece) (p b : Nat) (l : List KV) (ht : heldT i j (frameI i piece) l) (W : World) (hd : DiskAt W p b 10000 l) :
    Calls Tryz.prog 10 #[.pointer (some ⟨p, 0, none⟩), valI i] W fun e w' => e = .returned (.tuple #[.string piece, .int .i64 0]) ∧ Below W.heap.size W w' :=
  get_good p b 10000 l i piece W hd h.oki h.small (h.look_i ht hd.own.apart)

theorem Pair.getx (h : Pair i j piece) (p b : Nat) (u : ByteArray) (l : List KV) (ht : heldT i j u l) (W : World) (hd : DiskAt W p b 10000 l) :
    Calls Tryz.prog 10 #[.pointer (some ⟨p, 0, none⟩), valI j] W fun e w' => e = .returned (.tuple #[.string theX, .int .i64 0]) ∧ Below W.heap.size W w' :=
  get_good p b 10000 l j theX W hd h.okj (by decide) (h.look_j ht hd.own.apart)

theorem Pair.get2 (h : Pair i j piece) (p b : Nat) (u : ByteArray) (hu : u.size ≤ 1000000) (hq : openE u = 7) (l : List KV) (ht : heldT i j u l) (W : World) (hd : DiskAt W p b 10000 l) :
    Calls Tryz.prog 10 #[.pointer (some ⟨p, 0, none⟩), valI i] W fun e w' => e = .returned (.tuple #[.string ⟨#[]⟩, .int .i64 7]) ∧ Below W.heap.size W w' :=
  get_bad p b 10000 l i u W hd h.oki hu hq (h.look_i ht hd.own.apart)

theorem Pair.scan1 (h : Pair i j piece) (p b : Nat) (l : List KV) (ht : heldT i j (frameI i piece) l) (W : World) (hd : DiskAt W p b 10000 l) :
    Calls Tryz.prog 11 #[.pointer (some ⟨p, 0, none⟩)] W fun e w' => ∃ (g c : Nat), e = .returned (.slice (some ⟨g, 0, none⟩) 2 c) ∧ Below W.heap.size W w' := by
  refine (scan_any (nameFn i j) (fun _ => true) p b 10000 l W hd (two_names h.oki h.okj h.names ht) (by omega) (two_held h.names ht _ (.inl ⟨rfl, piece, h.small, rfl⟩) (.inl ⟨rfl, theX, by decide, rfl⟩)) (two_ne h.names ht)).mono ?_
  rintro e w' ⟨ys, g, c, rfl, hp, _, _, hb⟩
  have h1 : ys.length = 2 := by
    rw [hp.length_eq]
    have := (two_ids h.names ht).length_eq
    rw [List.filter_eq_self.2 (fun _ _ => rfl)]
    exact this
  rw [h1]
  exact ⟨g, c, rfl, hb⟩

theorem Pair.scan2 (h : Pair i j piece) (p b : Nat) (u : ByteArray) (hu : u.size ≤ 1000000) (hq : openE u = 7) (l : List KV) (ht : heldT i j u l) (W : World) (hd : DiskAt W p b 10000 l) :
    Calls Tryz.prog 11 #[.pointer (some ⟨p, 0, none⟩)] W fun e w' => ∃ (g c : Nat), e = .returned (.slice (some ⟨g, 0, none⟩) 1 c) ∧ IdBlk w' g 0 [j] ∧ Below W.heap.size W w' := by
  refine (scan_any (nameFn i j) (fun x => decide (x = j)) p b 10000 l W hd (two_names h.oki h.okj h.names ht) (by omega) (two_held h.names ht _ (.inr ⟨decide_eq_false h.ne, hu, hq⟩) (.inl ⟨decide_eq_true rfl, theX, by decide, rfl⟩)) (two_ne h.names ht)).mono ?_
  rintro e w' ⟨ys, g, c, rfl, hp, _, hI, hb⟩
  have h1 : ys = [j] := by
    have h2 := hp.trans (List.Perm.filter _ (two_ids h.names ht))
    rw [List.filter_cons, if_neg (by simpa using h.ne), List.filter_cons, if_pos (by simp)] at h2
    exact List.perm_singleton.1 h2
  subst h1
  exact ⟨g, c, rfl, hI, hb⟩

/-- Spoil: a byte is changed, or by is 0. -/
theorem Pair.spoil (h : Pair i j piece) (p b : Nat) (at_ y : Int) (h0 : 0 ≤ y) (h1 : y ≤ 255) (l : List KV) (ht : heldT i j (frameI i piece) l) (W : World) (hd : DiskAt W p b 10000 l) :
    Calls Tryz.prog 12 #[.pointer (some ⟨p, 0, none⟩), .string (nameI i), .int .i64 at_, .int .u8 y] W fun e w' => e = .returned (.bool (!decide (y = 0))) ∧
      (y ≠ 0 → ∃ l' u, DiskAt w' p b 10000 l' ∧ heldT i j u l' ∧ u.size ≤ 1000000 ∧ openE u = 7) ∧ Chg (fun k => k = b) W w' := by
  have hs := frameI_size h.oki piece h.small
  have hsm := h.small
  have hl := h.look_i ht hd.own.apart
  refine (spoil_any p b 10000 l (nameI i) at_ y W hd (by have := (nameI_size h.oki).2; unfold maxLen; omega) h0 h1).mono ?_
  rintro e w' ⟨rfl, hd', hc⟩
  unfold spoilE
  unfold spoilS at hd'
  rw [hl] at hd' ⊢
  simp only at hd' ⊢
  refine ⟨by rw [decide_eq_false (by omega : ¬ (frameI i piece).size = 0)]; rfl, fun hy => ?_, hc⟩
  rw [if_neg (by omega)] at hd'
  exact ⟨_, _, hd', two_turn ht h.names _, by rw [spo_size]; omega, open_spo _ at_ y hs.1 (frame_opens i piece) (by omega) h1⟩
end
end Go.Proofs.YtkldkaahpicnmaaGreat
/- FragSpoilt, walked. -/
namespace Go.Proofs.YtkldkaahpicnmaaGreat
set_option maxRecDepth 100000
open Go.RowKit PFragNames
open Go.Proofs.YtkldkaahpicnmaaGreatW.PrintWords Go.Proofs.YtkldkaahpicnmaaGreatW.PrintLast Go.Proofs.YtkldkaahpicnmaaGreatW.PrintMore

theorem eqRef (d : Nat) (w : World) (x0 y0 x1 y1 x2 y2 x3 y3 : Int) :
    (Op.equalIn (d + 2) 23 (.agg #[.int .i64 x0, .int .i64 x1, .int .i64 x2, .int .i64 x3]) (.agg #[.int .i64 y0, .int .i64 y1, .int .i64 y2, .int .i64 y3])).run Tryz.prog w = .ok (x0 == y0 && (x1 == y1 && (x2 == y2 && (x3 == y3)))) w := by
  refine eqA_of Tryz.underlying23 (by kernel_rfl) ?_
  refine eqf_cons (by rfl) (by go_simp; rfl) (by go_simp; rfl) (by go_simp) ?_
  refine eqf_cons (by rfl) (by go_simp; rfl) (by go_simp; rfl) (by go_simp) ?_
  refine eqf_cons (by rfl) (by go_simp; rfl) (by go_simp; rfl) (by go_simp) ?_
  exact eqf_last (by rfl) (by go_simp; rfl) (by go_simp; rfl) (by go_simp)

theorem of_any (a b c d : Int) (w : World) : Calls Tryz.prog 7 #[.agg #[.int .i64 a, .int .i64 b, .int .i64 c, .int .i64 d]] w fun e w' => e = .returned (.agg #[.int .i64 a, .int .i64 b, .int .i64 c, .int .i64 d]) ∧ Below w.heap.size w w' :=
  stooklaw15_Of.calls a b c d a b c d w rfl

/-- Both ids lie in memory as they came. -/
structure TwoAt (w : World) (x0 x1 x2 x3 y0 y1 y2 y3 : Int) (W : World) : Prop where
  one : W.heap[w.heap.size]? = some (.cells #[.int .i64 x0, .int .i64 x1, .int .i64 x2, .int .i64 x3] 23 (0, 0))
  two : W.heap[w.heap.size + 1]? = some (.cells #[.int .i64 y0, .int .i64 y1, .int .i64 y2, .int .i64 y3] 23 (0, 0))
  below : Below w.heap.size w W

theorem TwoAt.start (w : World) (x0 x1 x2 x3 y0 y1 y2 y3 : Int) : TwoAt w x0 x1 x2 x3 y0 y1 y2 y3 ((w.alloc (.cells #[.int .i64 x0, .int .i64 x1, .int .i64 x2, .int .i64 x3] 23)).alloc (.cells #[.int .i64 y0, .int .i64 y1, .int .i64 y2, .int .i64 y3] 23)) := by
  refine ⟨(Below.heap_alloc _ _ _ (by simp)).trans (heap_alloc_new w _), ?_, ((Below.refl _ _).alloc (Nat.le_refl _) _).alloc (by simp) _⟩
  have := heap_alloc_new (w.alloc (.cells #[.int .i64 x0, .int .i64 x1, .int .i64 x2, .int .i64 x3] 23)) (.cells #[.int .i64 y0, .int .i64 y1, .int .i64 y2, .int .i64 y3] 23)
  simpa using this
theorem TwoAt.keep {w W W' : World} {x0 x1 x2 x3 y0 y1 y2 y3 : Int} (h : TwoAt w x0 x1 x2 x3 y0 y1 y2 y3 W) (hb : Below W.heap.size W W') : TwoAt w x0 x1 x2 x3 y0 y1 y2 y3 W' :=
  ⟨(hb.block _ (Array.getElem?_eq_some_iff.1 h.one).1).trans h.one, (hb.block _ (Array.getElem?_eq_some_iff.1 h.two).1).trans h.two, h.below.trans (hb.mono h.below.size)⟩
theorem TwoAt.chg {w W W' : World} {x0 x1 x2 x3 y0 y1 y2 y3 : Int} (h : TwoAt w x0 x1 x2 x3 y0 y1 y2 y3 W) {b : Nat} (hc : Chg (fun k => k = b) W W') (hb : w.heap.size + 2 ≤ b) : TwoAt w x0 x1 x2 x3 y0 y1 y2 y3 W' :=
  ⟨(hc.block _ (Array.getElem?_eq_some_iff.1 h.one).1 (by omega)).trans h.one, (hc.block _ (Array.getElem?_eq_some_iff.1 h.two).1 (by omega)).trans h.two, h.below.trans (hc.below h.below.size (fun k hk => by omega))⟩

section
attribute [local go_sem high] eqId eqRef

/-- The statement's guard: it's awake, and nothing more is asked. -/
theorem spoilt_exit (x0 x1 x2 x3 y0 y1 y2 y3 : Int) (piece : ByteArray) (at_ y : Int) (w : World) (hp : piece.size ≤ 140737488351232)
    (h : 2000 < piece.size ∨ okI (x0, x1, x2, x3) = false ∨ okI (y0, y1, y2, y3) = false ∨ (x0 == y0 && (x1 == y1 && (x2 == y2 && (x3 == y3)))) = true) :
    Calls Tryz.prog 3 #[.agg #[.int .i64 x0, .int .i64 x1, .int .i64 x2, .int .i64 x3], .agg #[.int .i64 y0, .int .i64 y1, .int .i64 y2, .int .i64 y3], .string piece, .int .i64 at_, .int .u8 y] w fun e w' => e = .returned (.bool true) ∧ Below w.heap.size w w' := by
  have hT := TwoAt.start w x0 x1 x2 x3 y0 y1 y2 y3
  have HRi := Lib.hid (fun W => rt_any (x0, x1, x2, x3) W)
  have HRj := Lib.hid (fun W => rt_any (y0, y1, y2, y3) W)
  unfold valI at HRi HRj
  simp only at HRi HRj
  by_cases hlong : 2000 < piece.size
  · have hq : (2000 : Int) < (piece.size : Int) := by omega
    clear h
    go_enter Tryz.func3, Tryz.ntmps3
    go_wp2_with fail
    refine (awake_any _).mono ?_
    rintro e w1 ⟨rfl, hb1⟩
    have hT1 := hT.keep hb1
    clear hT hb1
    go_wp2_with fail
    refine (awake_any _).mono ?_
    rintro e w2 ⟨rfl, hb2⟩
    have hT2 := hT1.keep hb2
    go_wp2_with fail
    go_ret
    exact ⟨rfl, hT2.below⟩
  have hq : ¬ ((2000 : Int) < (piece.size : Int)) := by omega
  have h' := h.resolve_left hlong
  clear h
  cases hi : okI (x0, x1, x2, x3) with
  | false =>
    rw [hi] at HRi
    clear h' HRj
    go_enter Tryz.func3, Tryz.ntmps3
    go_wp2_with fail
    refine (awake_any _).mono ?_
    rintro e w1 ⟨rfl, hb1⟩
    have hT1 := hT.keep hb1
    obtain ⟨k0, k1, k2, k3⟩ := four_cells hT1.one
    clear hT hb1
    go_wp2_with fail
    refine (of_any _ _ _ _ _).mono ?_
    rintro e w2 ⟨rfl, hb2⟩
    have hT2 := hT1.keep hb2
    clear k0 k1 k2 k3 hT1 hb2
    go_wp2_with fail
    refine (HRi.out _).mono ?_
    rintro e w3 ⟨rfl, hb3⟩
    have hT3 := hT2.keep hb3
    clear hT2 hb3
    go_wp2_with fail
    refine (awake_any _).mono ?_
    rintro e w4 ⟨rfl, hb4⟩
    have hT4 := hT3.keep hb4
    go_wp2_with fail
    go_ret
    exact ⟨rfl, hT4.below⟩
  | true =>
    rw [hi] at HRi h'
    have h'' := h'.resolve_left (by simp)
    clear h'
    cases hj : okI (y0, y1, y2, y3) with
    | false =>
      rw [hj] at HRj
      clear h''
      go_enter Tryz.func3, Tryz.ntmps3
      go_wp2_with fail
      refine (awake_any _).mono ?_
      rintro e w1 ⟨rfl, hb1⟩
      have hT1 := hT.keep hb1
      obtain ⟨k0, k1, k2, k3⟩ := four_cells hT1.one
      clear hT hb1
      go_wp2_with fail
      refine (of_any _ _ _ _ _).mono ?_
      rintro e w2 ⟨rfl, hb2⟩
      have hT2 := hT1.keep hb2
      clear k0 k1 k2 k3 hT1 hb2
      go_wp2_with fail
      refine (HRi.out _).mono ?_
      rintro e w3 ⟨rfl, hb3⟩
      have hT3 := hT2.keep hb3
      obtain ⟨k0, k1, k2, k3⟩ := four_cells hT3.two
      clear hT2 hb3
      go_wp2_with fail
      refine (of_any _ _ _ _ _).mono ?_
      rintro e w4 ⟨rfl, hb4⟩
      have hT4 := hT3.keep hb4
      clear k0 k1 k2 k3 hT3 hb4
      go_wp2_with fail
      refine (HRj.out _).mono ?_
      rintro e w5 ⟨rfl, hb5⟩
      have hT5 := hT4.keep hb5
      clear hT4 hb5
      go_wp2_with fail
      refine (awake_any _).mono ?_
      rintro e w6 ⟨rfl, hb6⟩
      have hT6 := hT5.keep hb6
      go_wp2_with fail
      go_ret
      exact ⟨rfl, hT6.below⟩
    | true =>
      rw [hj] at HRj h''
      have heq := h''.resolve_left (by simp)
      clear h''
      go_enter Tryz.func3, Tryz.ntmps3
      go_wp2_with fail
      refine (awake_any _).mono ?_
      rintro e w1 ⟨rfl, hb1⟩
      have hT1 := hT.keep hb1
      obtain ⟨k0, k1, k2, k3⟩ := four_cells hT1.one
      clear hT hb1
      go_wp2_with fail
      refine (of_any _ _ _ _ _).mono ?_
      rintro e w2 ⟨rfl, hb2⟩
      have hT2 := hT1.keep hb2
      clear k0 k1 k2 k3 hT1 hb2
      go_wp2_with fail
      refine (HRi.out _).mono ?_
      rintro e w3 ⟨rfl, hb3⟩
      have hT3 := hT2.keep hb3
      obtain ⟨k0, k1, k2, k3⟩ := four_cells hT3.two
      clear hT2 hb3
      go_wp2_with fail
      refine (of_any _ _ _ _ _).mono ?_
      rintro e w4 ⟨rfl, hb4⟩
      have hT4 := hT3.keep hb4
      clear k0 k1 k2 k3 hT3 hb4
      go_wp2_with fail
      refine (HRj.out _).mono ?_
      rintro e w5 ⟨rfl, hb5⟩
      have hT5 := hT4.keep hb5
      obtain ⟨k0, k1, k2, k3⟩ := four_cells hT5.one
      obtain ⟨m0, m1, m2, m3⟩ := four_cells hT5.two
      clear hT4 hb5
      go_wp2_with fail
      refine (awake_any _).mono ?_
      rintro e w6 ⟨rfl, hb6⟩
      have hT6 := hT5.keep hb6
      go_wp2_with fail
      go_ret
      exact ⟨rfl, hT6.below⟩
end
end Go.Proofs.YtkldkaahpicnmaaGreat
/- FragSpoilt, walked: what is put is got, and once spoilt it is not. -/
namespace Go.Proofs.YtkldkaahpicnmaaGreat
set_option maxRecDepth 100000
open Go.RowKit PFragNames
open Go.Proofs.YtkldkaahpicnmaaGreatW.PrintWords Go.Proofs.YtkldkaahpicnmaaGreatW.PrintLast Go.Proofs.YtkldkaahpicnmaaGreatW.PrintMore

/-- At the end: both ids, and the row of the one that is left. -/
structure EndAt (w : World) (x0 x1 x2 x3 y0 y1 y2 y3 : Int) (g : Nat) (W : World) : Prop where
  two : TwoAt w x0 x1 x2 x3 y0 y1 y2 y3 W
  row : IdBlk W g 0 [(y0, y1, y2, y3)]
theorem EndAt.keep {w W W' : World} {x0 x1 x2 x3 y0 y1 y2 y3 : Int} {g : Nat} (h : EndAt w x0 x1 x2 x3 y0 y1 y2 y3 g W) (hb : Below W.heap.size W W') : EndAt w x0 x1 x2 x3 y0 y1 y2 y3 g W' :=
  ⟨h.two.keep hb, h.row.below hb h.row.lt⟩
theorem EndAt.cells {w W : World} {x0 x1 x2 x3 y0 y1 y2 y3 : Int} {g : Nat} (h : EndAt w x0 x1 x2 x3 y0 y1 y2 y3 g W) :
    W.cell? ⟨g, 0, none⟩ = some (.int .i64 y0) ∧ W.cell? ⟨g, 1, none⟩ = some (.int .i64 y1) ∧ W.cell? ⟨g, 2, none⟩ = some (.int .i64 y2) ∧ W.cell? ⟨g, 3, none⟩ = some (.int .i64 y3) := h.row.cell 0 _ rfl

section
attribute [local go_sem high] eqId eqRef

set_option maxHeartbeats 8000000 in
theorem spoilt_main (x0 x1 x2 x3 y0 y1 y2 y3 : Int) (piece : ByteArray) (at_ y : Int) (w : World) (hP : Pair (x0, x1, x2, x3) (y0, y1, y2, y3) piece) (hne : (x0 == y0 && (x1 == y1 && (x2 == y2 && (x3 == y3)))) = false) (h0 : 0 ≤ y) (h1 : y ≤ 255) :
    Calls Tryz.prog 3 #[.agg #[.int .i64 x0, .int .i64 x1, .int .i64 x2, .int .i64 x3], .agg #[.int .i64 y0, .int .i64 y1, .int .i64 y2, .int .i64 y3], .string piece, .int .i64 at_, .int .u8 y] w fun e w' => e = .returned (.bool true) ∧ Below w.heap.size w w' := by
  have hT := TwoAt.start w x0 x1 x2 x3 y0 y1 y2 y3
  have HRi := Lib.hid (fun W => rt_any (x0, x1, x2, x3) W)
  have HRj := Lib.hid (fun W => rt_any (y0, y1, y2, y3) W)
  have e1 : okI (x0, x1, x2, x3) = true := hP.oki
  have e2 : okI (y0, y1, y2, y3) = true := hP.okj
  rw [e1] at HRi
  rw [e2] at HRj
  have HN := Lib.hid (fun W => nm_any (x0, x1, x2, x3) hP.oki W)
  have HP := Lib.hid hP
  have HP1 := Lib.hid hP.put1
  have HP2 := Lib.hid hP.put2
  have HG1 := Lib.hid hP.get1
  have HS1 := Lib.hid hP.scan1
  have HSP := Lib.hid (fun p b l ht W hd => hP.spoil p b at_ y h0 h1 l ht W hd)
  have HG2 := Lib.hid hP.get2
  have HS2 := Lib.hid hP.scan2
  have HGX := Lib.hid hP.getx
  have hq : ¬ ((2000 : Int) < (piece.size : Int)) := by have := hP.small; omega
  have hss : (piece.toList == piece.toList) = true := by simp
  have hxx : theX = ⟨#[120]⟩ := rfl
  obtain ⟨nm, hnm⟩ : ∃ nm, nm = nameI (x0, x1, x2, x3) := ⟨_, rfl⟩
  rw [hxx] at HP2 HGX
  rw [← hnm] at HN HSP
  unfold valI at HRi HRj HN HP1 HP2 HG1 HG2 HGX
  simp only at HRi HRj HN HP1 HP2 HG1 HG2 HGX
  clear hP e1 e2 hnm hxx h0 h1
  go_enter Tryz.func3, Tryz.ntmps3
  go_wp2_with fail
  refine (awake_any _).mono ?_
  rintro e w1 ⟨rfl, hb1⟩
  have hT1 := hT.keep hb1
  obtain ⟨k0, k1, k2, k3⟩ := four_cells hT1.one
  clear hT hb1
  go_wp2_with fail
  refine (of_any _ _ _ _ _).mono ?_
  rintro e w2 ⟨rfl, hb2⟩
  have hT2 := hT1.keep hb2
  clear k0 k1 k2 k3 hT1 hb2
  go_wp2_with fail
  refine (HRi.out _).mono ?_
  rintro e w3 ⟨rfl, hb3⟩
  have hT3 := hT2.keep hb3
  obtain ⟨k0, k1, k2, k3⟩ := four_cells hT3.two
  clear hT2 hb3
  go_wp2_with fail
  refine (of_any _ _ _ _ _).mono ?_
  rintro e w4 ⟨rfl, hb4⟩
  have hT4 := hT3.keep hb4
  clear k0 k1 k2 k3 hT3 hb4
  go_wp2_with fail
  refine (HRj.out _).mono ?_
  rintro e w5 ⟨rfl, hb5⟩
  have hT5 := hT4.keep hb5
  obtain ⟨k0, k1, k2, k3⟩ := four_cells hT5.one
  obtain ⟨m0, m1, m2, m3⟩ := four_cells hT5.two
  have hnew := new_any 10000 w5 (by omega)
  clear hT4 hb5
  go_wp2_with fail
  refine hnew.mono ?_
  rintro e w6 ⟨p, b, rfl, hd6, hb6, hp, hbb⟩
  have hT6 := hT5.keep hb6
  have hpb : w.heap.size + 2 ≤ b := by have := (Array.getElem?_eq_some_iff.1 hT5.two).1; omega
  clear k0 k1 k2 k3 m0 m1 m2 m3 hT5 hb6 hnew hp hbb
  obtain ⟨k0, k1, k2, k3⟩ := four_cells hT6.one
  go_wp2_with fail
  refine (of_any _ _ _ _ _).mono ?_
  rintro e w7 ⟨rfl, hb7⟩
  have hT7 := hT6.keep hb7
  have hd7 := hd6.under hb7 (Array.getElem?_eq_some_iff.1 hd6.at_).1 hd6.own.lt
  have HC := Lib.hid (HP1.out p b w7 hd7)
  clear k0 k1 k2 k3 hT6 hb7 hd6 hd7
  go_wp2_with fail
  refine HC.out.mono ?_
  rintro e w8 ⟨rfl, hd8, hc8⟩
  have hT8 := hT7.chg hc8 hpb
  obtain ⟨m0, m1, m2, m3⟩ := four_cells hT8.two
  clear hT7 hc8 HC
  go_wp2_with fail
  refine (of_any _ _ _ _ _).mono ?_
  rintro e w9 ⟨rfl, hb9⟩
  have hT9 := hT8.keep hb9
  have hd9 := hd8.under hb9 (Array.getElem?_eq_some_iff.1 hd8.at_).1 hd8.own.lt
  have HC := Lib.hid (HP2.out p b w9 hd9)
  clear m0 m1 m2 m3 hT8 hb9 hd8 hd9
  go_wp2_with fail
  refine HC.out.mono ?_
  rintro e w10 ⟨rfl, ⟨l, hd10, ht⟩, hc10⟩
  have hT10 := hT9.chg hc10 hpb
  obtain ⟨k0, k1, k2, k3⟩ := four_cells hT10.one
  clear hT9 hc10 HC
  go_wp2_with fail
  refine (of_any _ _ _ _ _).mono ?_
  rintro e w11 ⟨rfl, hb11⟩
  have hT11 := hT10.keep hb11
  have hd11 := hd10.under hb11 (Array.getElem?_eq_some_iff.1 hd10.at_).1 hd10.own.lt
  have HC := Lib.hid (HG1.out p b l ht w11 hd11)
  clear k0 k1 k2 k3 hT10 hb11 hd10
  go_wp2_with fail
  refine HC.out.mono ?_
  rintro e w12 ⟨rfl, hb12⟩
  have hT12 := hT11.keep hb12
  have hd12 := hd11.under hb12 (Array.getElem?_eq_some_iff.1 hd11.at_).1 hd11.own.lt
  clear hT11 hb12 hd11 HC
  have HC := Lib.hid (HS1.out p b l ht w12 hd12)
  go_wp2_with fail
  refine HC.out.mono ?_
  rintro e w13 ⟨g1, c1, rfl, hb13⟩
  have hT13 := hT12.keep hb13
  have hd13 := hd12.under hb13 (Array.getElem?_eq_some_iff.1 hd12.at_).1 hd12.own.lt
  obtain ⟨k0, k1, k2, k3⟩ := four_cells hT13.one
  clear hT12 hb13 hd12 HC
  go_wp2_with fail
  refine (of_any _ _ _ _ _).mono ?_
  rintro e w14 ⟨rfl, hb14⟩
  have hT14 := hT13.keep hb14
  have hd14 := hd13.under hb14 (Array.getElem?_eq_some_iff.1 hd13.at_).1 hd13.own.lt
  clear k0 k1 k2 k3 hT13 hb14 hd13
  go_wp2_with fail
  refine (HN.out _).mono ?_
  rintro e w15 ⟨rfl, hb15⟩
  have hT15 := hT14.keep hb15
  have hd15 := hd14.under hb15 (Array.getElem?_eq_some_iff.1 hd14.at_).1 hd14.own.lt
  have HC := Lib.hid (HSP.out p b l ht w15 hd15)
  clear hT14 hb15 hd14 hd15
  go_wp2_with fail
  refine HC.out.mono ?_
  rintro e w16 ⟨rfl, hsp, hc16⟩
  have hT16 := hT15.chg hc16 hpb
  clear hT15 hc16 HC ht
  by_cases hy : y = 0
  · subst hy
    clear hsp
    go_wp2_with fail
    go_ret
    exact ⟨rfl, hT16.below⟩
  obtain ⟨l', u, hd16, ht', hu, hou⟩ := hsp hy
  obtain ⟨k0, k1, k2, k3⟩ := four_cells hT16.one
  clear hsp
  go_wp2_with fail
  refine (of_any _ _ _ _ _).mono ?_
  rintro e w17 ⟨rfl, hb17⟩
  have hT17 := hT16.keep hb17
  have hd17 := hd16.under hb17 (Array.getElem?_eq_some_iff.1 hd16.at_).1 hd16.own.lt
  have HC := Lib.hid (HG2.out p b u hu hou l' ht' w17 hd17)
  clear k0 k1 k2 k3 hT16 hb17 hd16
  go_wp2_with fail
  refine HC.out.mono ?_
  rintro e w18 ⟨rfl, hb18⟩
  have hT18 := hT17.keep hb18
  have hd18 := hd17.under hb18 (Array.getElem?_eq_some_iff.1 hd17.at_).1 hd17.own.lt
  clear hT17 hb18 hd17 HC
  have HC := Lib.hid (HS2.out p b u hu hou l' ht' w18 hd18)
  go_wp2_with fail
  refine HC.out.mono ?_
  rintro e w19 ⟨g, c, rfl, hI19, hb19⟩
  have hE19 : EndAt w x0 x1 x2 x3 y0 y1 y2 y3 g w19 := ⟨hT18.keep hb19, hI19⟩
  have hd19 := hd18.under hb19 (Array.getElem?_eq_some_iff.1 hd18.at_).1 hd18.own.lt
  obtain ⟨m0, m1, m2, m3⟩ := four_cells hE19.two.two
  clear hT18 hb19 hd18 HC hI19
  go_wp2_with fail
  refine (of_any _ _ _ _ _).mono ?_
  rintro e w20 ⟨rfl, hb20⟩
  have hE20 := hE19.keep hb20
  have hd20 := hd19.under hb20 (Array.getElem?_eq_some_iff.1 hd19.at_).1 hd19.own.lt
  have HC := Lib.hid (HGX.out p b u l' ht' w20 hd20)
  clear m0 m1 m2 m3 hE19 hb20 hd19 hu hou ht'
  go_wp2_with fail
  refine HC.out.mono ?_
  rintro e w21 ⟨rfl, hb21⟩
  have hE21 := hE20.keep hb21
  have hE22 : EndAt w x0 x1 x2 x3 y0 y1 y2 y3 g w21.drew := hE21.keep ⟨rfl, rfl, rfl, Nat.le_refl _, fun _ _ => rfl⟩
  have hof : ∀ W, EndAt w x0 x1 x2 x3 y0 y1 y2 y3 g W → Calls Tryz.prog 7 #[.agg #[.int .i64 y0, .int .i64 y1, .int .i64 y2, .int .i64 y3]] W fun e w' => e = .returned (.agg #[.int .i64 y0, .int .i64 y1, .int .i64 y2, .int .i64 y3]) ∧ EndAt w x0 x1 x2 x3 y0 y1 y2 y3 g w' := fun W h => (of_any y0 y1 y2 y3 W).mono fun e w' ⟨he, hb⟩ => ⟨he, h.keep hb⟩
  have HOF := Lib.hid hof
  clear hof hE20 hd20 hb21 HC
  go_wp2_with fail
  go_region_held3 (fun W' => (W'.cell? ⟨w.heap.size + 1, 0, none⟩ = some (.int .i64 y0) ∧ W'.cell? ⟨w.heap.size + 1, 1, none⟩ = some (.int .i64 y1) ∧ W'.cell? ⟨w.heap.size + 1, 2, none⟩ = some (.int .i64 y2) ∧ W'.cell? ⟨w.heap.size + 1, 3, none⟩ = some (.int .i64 y3)) ∧
      (W'.cell? ⟨g, 0, none⟩ = some (.int .i64 y0) ∧ W'.cell? ⟨g, 1, none⟩ = some (.int .i64 y1) ∧ W'.cell? ⟨g, 2, none⟩ = some (.int .i64 y2) ∧ W'.cell? ⟨g, 3, none⟩ = some (.int .i64 y3)) ∧ EndAt w x0 x1 x2 x3 y0 y1 y2 y3 g W')
    (exact ⟨four_cells (EndAt.two ‹_›).two, EndAt.cells ‹_›, ‹_›⟩)
    (first
      | (go_at_call 7; refine (HOF.out _ ?_).mono ?_; (assumption); rintro e w23 ⟨rfl, hp23⟩))
  all_goals
    go_wp2_with fail
    go_ret
    exact ⟨by simp, hp23.two.below⟩
end

theorem spoilt_walk {a b c d a' b' c' d' : Int} {piece : ByteArray} {at_ y : Int} {w : World} (hp : piece.size ≤ 140737488351232) (_ : (Lit.int .i64 at_).wf = true) (hy : (Lit.int .u8 y).wf = true) :
    Calls Tryz.prog 3 #[.agg #[.int .i64 a, .int .i64 b, .int .i64 c, .int .i64 d], .agg #[.int .i64 a', .int .i64 b', .int .i64 c', .int .i64 d'], .string piece, .int .i64 at_, .int .u8 y] w fun e w' => e = .returned (.bool true) ∧ Below w.heap.size w w' := by
  have hy2 : 0 ≤ y ∧ y ≤ 255 := by
    simp only [Lit.wf, Bool.and_eq_true, decide_eq_true_eq] at hy
    simp [IntKind.min, IntKind.max, IntKind.bits, IntKind.signed] at hy
    omega
  by_cases h1 : 2000 < piece.size
  · exact spoilt_exit a b c d a' b' c' d' piece at_ y w hp (.inl h1)
  cases h2 : okI (a, b, c, d) with
  | false => exact spoilt_exit a b c d a' b' c' d' piece at_ y w hp (.inr (.inl h2))
  | true =>
    cases h3 : okI (a', b', c', d') with
    | false => exact spoilt_exit a b c d a' b' c' d' piece at_ y w hp (.inr (.inr (.inl h3)))
    | true =>
      cases h4 : (a == a' && (b == b' && (c == c' && (d == d')))) with
      | true => exact spoilt_exit a b c d a' b' c' d' piece at_ y w hp (.inr (.inr (.inr h4)))
      | false =>
        have hne : (a, b, c, d) ≠ (a', b', c', d') := fun e => by
          injection e with e1 e
          injection e with e2 e
          injection e with e3 e4
          subst e1 e2 e3 e4
          simp at h4
        exact spoilt_main a b c d a' b' c' d' piece at_ y w ⟨h2, h3, hne, by omega⟩ h4 hy2.1 hy2.2
end Go.Proofs.YtkldkaahpicnmaaGreat
/- How an id reads at the call's begin. -/
namespace Go.Proofs.YtkldkaahpicnmaaGreat
set_option maxRecDepth 100000
open Go.ChangeShapes Go.WideShapes Go.Deep Go.RowKit

theorem one_of {cs : List Value} {i : Nat} {v : Value} (h : (cs.drop i).take 1 = [v]) : cs[i]? = some v := by
  have := congrArg (fun l => l[0]?) h
  simpa [List.getElem?_take] using this

theorem four_of {cs : Array Value} {a b c d : Value} (hs : cs.size = 4) (h0 : cs.toList[0]? = some a) (h1 : cs.toList[1]? = some b) (h2 : cs.toList[2]? = some c) (h3 : cs.toList[3]? = some d) : cs = #[a, b, c, d] := by
  obtain ⟨l⟩ := cs
  match l, hs with
  | [x, y, z, t], _ =>
    simp at h0 h1 h2 h3
    subst h0 h1 h2 h3
    rfl

section
variable {H : Type} {enc : TypeId × Value → H} {w : World} {base : Nat} {spare : Nat → Bool} {held : Bool}

theorem open_id {v : Value} {d : DataW H} {p : List MemPlace} (hv : ∃ cs, v = .agg cs ∧ cs.size = Tryz.prog.cellsOf 23) (h : DataW.Trod enc Tryz.prog w base spare held 23 v d p) :
    ∃ a b c e : Int, v = .agg #[.int .i64 a, .int .i64 b, .int .i64 c, .int .i64 e] := by
  obtain ⟨fuel, hf⟩ := h
  obtain ⟨cs, rfl, hcs⟩ := hv
  have c23 : Tryz.prog.cellsOf 23 = 4 := by kernel_rfl
  have c3 : Tryz.prog.cellsOf 3 = 1 := by kernel_rfl
  rw [c23] at hcs
  obtain ⟨xs, m, _, _, _, hlen, hg⟩ := DataW.trod_struct Tryz.underlying23 hf
  match xs, hlen with
  | [y0, y1, y2, y3], _ =>
    have g0 : DataW.trod enc Tryz.prog w base spare held m 3 ((cs.toList.drop 0).take (Tryz.prog.cellsOf 3)) = some y0 := hg 0 _ rfl
    have g1 : DataW.trod enc Tryz.prog w base spare held m 3 ((cs.toList.drop 1).take (Tryz.prog.cellsOf 3)) = some y1 := hg 1 _ rfl
    have g2 : DataW.trod enc Tryz.prog w base spare held m 3 ((cs.toList.drop 2).take (Tryz.prog.cellsOf 3)) = some y2 := hg 2 _ rfl
    have g3 : DataW.trod enc Tryz.prog w base spare held m 3 ((cs.toList.drop 3).take (Tryz.prog.cellsOf 3)) = some y3 := hg 3 _ rfl
    rw [c3] at g0 g1 g2 g3
    obtain ⟨n0, e0, _⟩ := DataW.trod_int Tryz.underlying3 g0
    obtain ⟨n1, e1, _⟩ := DataW.trod_int Tryz.underlying3 g1
    obtain ⟨n2, e2, _⟩ := DataW.trod_int Tryz.underlying3 g2
    obtain ⟨n3, e3, _⟩ := DataW.trod_int Tryz.underlying3 g3
    exact ⟨n0, n1, n2, n3, congrArg Value.agg (four_of hcs (one_of e0) (one_of e1) (one_of e2) (one_of e3))⟩
end
end Go.Proofs.YtkldkaahpicnmaaGreat
