/- The statement NetPlays: the switch at 5. -/
import Derived.Test.YtkcjhjoodincbaaNetS
import Derived.StillTailTactics
namespace Go.Proofs.Ytkcjhjoodincbaa
open Go.RowKit Go.Shelf

set_option maxRecDepth 100000 in
set_option maxHeartbeats 1000000 in
theorem plays_arm5 (w : World) (l0 : Value) (R p M k xb i : Nat) (Ds : List Nat) (W : World) (v vm : Value) (mm : List ByteArray) (act : ActV)
    (h : St w R p M Ds [(xb, xobj act)] W v mm vm mm) (hmm : mm.length ≤ k) (hk : k ≤ 99) (hsz : ∀ s ∈ mm, s.size ≤ 10000) (has : act.s.size ≤ 10000) (hby : 0 ≤ act.by_ ∧ act.by_ ≤ 255)
    (hi0 : mm.length = 0 → i = 0) (hi1 : 0 < mm.length → (i : Int) = act.at_ % (mm.length : Int) ∧ i < mm.length)
    (K : Act → World → Prop) (hK : ∀ a' W', PR w l0 R p M k (k + 1) Ds a' W' → K a' W')
    (u1 u12 u13 u14 u15 u16 u17 u18 u19 u20 u21 u22 u23 u24 u25 u26 u27 u28 u29 u30 u31 u32 u33 u34 u35 u36 u37 u38 u39 u40 u41 u42 u43 u44 u45 u46 u47 u49 u50 u51 u52 u53 u54 u55 u56 u57 u58 u59 u60 u61 u62 u63 u64 u65 u66 u67 u68 u69 u70 u71 u72 u73 u74 u75 u76 u77 u78 u79 u80 u81 u82 u83 u84 u85 u86 u87 u88 u89 u90 u91 u92 u93 u94 u95 u96 u97 u98 u99 u100 u101 u102 u103 u104 u105 u106 u107 u108 u109 u110 u111 u112 u113 u114 u115 u116 u117 u118 u119 u120 u121 u122 u123 u124 u125 u126 u127 u128 u129 u130 u131 u132 u133 u134 u135 u136 u137 u138 u139 u140 u141 u142 u143 u144 u145 u146 u147 u148 u149 u150 u151 u152 u153 u154 u155 u156 u157 u158 u159 u160 u161 u162 u163 u164 u165 u166 u167 u168 u169 u170 u171 u172 u173 u174 u175 u176 u177 u178 u179 u180 u181 u182 u183 u184 u185 u186 u187 u188 u189 u190 u191 u192 u193 u194 u195 u196 u197 u198 u199 u200 u201 u202 : Value) : playsSwitch.wpIn Fence.wide 7 Try.prog (Exit.then K (fun _ _ _ => False)) ⟨#[l0, u1, .pointer (some ⟨R, 0, none⟩), .pointer (some ⟨p, 0, none⟩), .pointer (some ⟨M, 0, none⟩), .int .i64 k, .pointer (some ⟨xb, 0, none⟩), .int .i64 i, .bool false, .bool (decide ((0 : Int) < (mm.length : Int))), .string ⟨#[]⟩, .string ⟨#[]⟩, u12, u13, u14, u15, u16, u17, u18, u19, u20, u21, u22, u23, u24, u25, u26, u27, u28, u29, u30, u31, u32, u33, u34, u35, u36, u37, u38, u39, u40, u41, u42, u43, u44, u45, u46, u47, .int .u8 5, u49, u50, u51, u52, u53, u54, u55, u56, u57, u58, u59, u60, u61, u62, u63, u64, u65, u66, u67, u68, u69, u70, u71, u72, u73, u74, u75, u76, u77, u78, u79, u80, u81, u82, u83, u84, u85, u86, u87, u88, u89, u90, u91, u92, u93, u94, u95, u96, u97, u98, u99, u100, u101, u102, u103, u104, u105, u106, u107, u108, u109, u110, u111, u112, u113, u114, u115, u116, u117, u118, u119, u120, u121, u122, u123, u124, u125, u126, u127, u128, u129, u130, u131, u132, u133, u134, u135, u136, u137, u138, u139, u140, u141, u142, u143, u144, u145, u146, u147, u148, u149, u150, u151, u152, u153, u154, u155, u156, u157, u158, u159, u160, u161, u162, u163, u164, u165, u166, u167, u168, u169, u170, u171, u172, u173, u174, u175, u176, u177, u178, u179, u180, u181, u182, u183, u184, u185, u186, u187, u188, u189, u190, u191, u192, u193, u194, u195, u196, u197, u198, u199, u200, u201, u202], Ds.map mark⟩ W := by
  refine wpIn_wide.2 ?_
  conv => arg 2; whnf
  obtain ⟨i0, hiz, hz0, hz1, hz2⟩ := info_parts Try.info9
  have hcM := one_cell h.box
  have hfM := one_free h.box
  obtain ⟨hx0, hx1, hx2, hx3, hx4⟩ := xcells h.ex1
  obtain ⟨va, vc, rfl, hvc, hvm, _⟩ := own_val h.row
  unfold maxLen at hvm
  have hsz := Lib.hid hsz
  by_cases hl : 0 < mm.length
  · obtain ⟨hi, hil⟩ := hi1 hl
    have hdl : decide ((0 : Int) < (mm.length : Int)) = true := decide_eq_true (by omega)
    obtain ⟨m2, hm2⟩ : ∃ m2, mm.take i ++ mm.drop (i + 1) = m2 := ⟨_, rfl⟩
    have hl2 : m2.length + 1 ≤ k := by rw [← hm2]; simp; omega
    have hi2 : i ≤ m2.length := by rw [← hm2]; simp; omega
    have hs2 : Hid (∀ s ∈ m2, s.size ≤ 10000) := Lib.hid (fun s hs => (List.mem_append.1 (hm2 ▸ hs)).elim (fun q => hsz.out s (List.mem_of_mem_take q)) (fun q => hsz.out s (List.mem_of_mem_drop q)))
    have hm2 := Lib.hid hm2
    obtain ⟨s, hs⟩ : ∃ s, mm[i]? = some s := ⟨_, List.getElem?_eq_getElem hil⟩
    have hss : s.size ≤ 10000 := hsz.out s (List.mem_of_getElem? hs)
    by_cases hs0 : s.size = 0
    · obtain rfl : s = ByteArray.empty := by
        obtain ⟨⟨l⟩⟩ := s
        obtain rfl : l = [] := List.length_eq_zero_iff.1 hs0
        rfl
      have HT := Lib.hid (spoil_empty p v mm act.at_ act.to_ act.by_ W h.net i hi hs)
      obtain ⟨g, rfl, hg⟩ := rowCell h.row i _ hs
      clear hi hi0 hi1 hs
      rw [hdl]
      go_wp2_with fail
      refine HT.out.mono ?_
      rintro e W1 ⟨rfl, rfl⟩
      go_wp2_with fail
      unfold PR FR
      refine ⟨_, _, _, ?q1, ?z1, h.less, by omega, hsz.out, ?fr⟩
      case fr => (repeat apply Exists.intro); rfl
    · have hT := spoil_some p v mm act.at_ act.to_ act.by_ W h.net i hi s hs (by omega) (by omega)
      obtain ⟨r, hr, hrl⟩ := rest_nat act.to_ s.size (by omega)
      rw [← hr, Int.toNat_natCast] at hT
      obtain ⟨sp, hsp⟩ : ∃ sp, spoilt s r act.by_ = sp := ⟨_, rfl⟩
      have hspz : sp.size = s.size := by rw [← hsp]; show ((s.data.toList.set r _).toArray).size = s.data.size; rw [List.size_toArray, List.length_set, Array.length_toList]
      rw [hsp] at hT
      obtain ⟨m3, hm3⟩ : ∃ m3, mm.set i sp = m3 := ⟨_, rfl⟩
      have hm4 : m2.take i ++ sp :: m2.drop i = m3 := by
        have e1 : (mm.take i).length = i := by simp; omega
        rw [← hm3, ← hm2.out, List.set_eq_take_append_cons_drop, if_pos hil]
        congr 1
        · rw [List.take_append_of_le_length (by omega), List.take_of_length_le (by omega)]
        · rw [List.drop_append_of_le_length (by omega), List.drop_of_length_le (by omega), List.nil_append]
      rw [hm3] at hT
      have HT := Lib.hid hT
      have HL3 : Hid (m3.length ≤ k) := Lib.hid (by rw [← hm3]; simpa using hmm)
      have hs3 : Hid (∀ s ∈ m3, s.size ≤ 10000) := Lib.hid (fun u hu => by
        rw [← hm3] at hu
        rcases List.mem_or_eq_of_mem_set hu with q | q
        · exact hsz.out u q
        · rw [q]; omega)
      have hm4 := Lib.hid hm4
      have HSP := Lib.hid hsp
      have HRR := Lib.hid hr
      have hse : s.toList.isEmpty = false := by
        rw [ByteArray.toList_eq, List.isEmpty_eq_false_iff]
        intro e
        have : s.data.toList.length = 0 := by rw [e]; rfl
        have h2 : s.size = s.data.toList.length := rfl
        omega
      have HS := Lib.hid hs
      clear hT hi hi0 hi1 hm3 hsp hspz hr hs
      rw [hdl]
      go_wp2_with fail
      refine HT.out.mono ?_
      rintro e W1 ⟨rfl, v1, hst⟩
      have h1 := h.step hst
      have hcM1 := one_cell h1.box
      have hfM1 := one_free h1.box
      obtain ⟨g, rfl, hg⟩ := rowCell h1.row i s HS.out
      have hcv := fun w => run_bytes_of_string (P := Try.prog) w 9 47 5 s Try.underlying9 Try.underlying47 Try.underlying5
      have hrd : r < s.data.size := hrl
      go_wp2_with fail
      obtain ⟨W2, hW2⟩ : ∃ W2, W2 = (W1.alloc (Obj.cells (bytesRow s (grownCap W1 s.size 0 5)) 5 ((bytesRow s (grownCap W1 s.size 0 5)).size, (bytesRow s (grownCap W1 s.size 0 5)).size + 1))).drew := ⟨_, rfl⟩
      rw [← hW2]
      have h2 : St w R p M Ds [(xb, xobj act)] W2 v1 m3 (.slice (some ⟨g, 0, none⟩) mm.length vc) mm := by rw [hW2]; exact (h1.below ((Below.refl _ W1).alloc (Nat.le_refl _) _)).drew1
      have hb2 : W2.heap[W1.heap.size]? = some (.cells (bytesRow s (grownCap W1 s.size 0 5)) 5 ((bytesRow s (grownCap W1 s.size 0 5)).size, (bytesRow s (grownCap W1 s.size 0 5)).size + 1)) := by rw [hW2]; exact heap_alloc_new W1 _
      have hc2 : W2.cell? ⟨W1.heap.size, r, none⟩ = some (.int .u8 (s.data[r].toNat : Int)) := by simp only [World.cell?, hb2]; exact bytesRow_at s _ r hrd
      have hf2 : W2.frozen? ⟨W1.heap.size, r, none⟩ = false := by
        have hz := (Array.getElem?_eq_some_iff.1 (bytesRow_at s (grownCap W1 s.size 0 5) r hrd)).1
        simp only [World.frozen?, hb2]; simp; omega
      obtain ⟨k0, k1, k2, k3, k4⟩ := xcells h2.ex1
      have hR := refrest_any act.to_ (s.size : Int) W2.drew (by omega) (by omega)
      rw [← HRR.out] at hR
      have hR2 : Calls Try.prog 19 #[.int .i64 act.to_, .int .i64 (s.size : Int)] W2.drew fun e w' => e = .returned (.int .i64 (r : Int)) ∧ w' = W2.drew := hR.mono fun _ _ ⟨e1, e2⟩ => ⟨e1, e2.symm⟩
      have HR2 := Lib.hid hR2
      have hb1 : Below W1.heap.size W1 W2 := by rw [hW2]; exact ((Below.refl _ W1).alloc (Nat.le_refl _) _).drew
      clear hR hR2 hcv hW2
      have HB2 := Lib.hid hb2
      clear hb2
      go_still_tail 12, (by kernel_rfl)
      still_call HR2.out
      repeat still_step
      refine wpStill_nil ?_
      change wpList _ _ _ _ _ W2.drew
      go_wp2_with fail
      obtain ⟨W4, hW4⟩ : ∃ W4, W4 = (W2.setCell ⟨W1.heap.size, r, none⟩ (.int .u8 (bits BinOp.xor .u8 (s.data[r].toNat : Int) act.by_))).drew := ⟨_, rfl⟩
      rw [← hW4]
      have hbel : Below W1.heap.size W1 W4 := by rw [hW4]; exact (hb1.setCell (p := ⟨W1.heap.size, r, none⟩) (Nat.le_refl _) _).drew
      have h4 := h1.below hbel
      have hb4 : W4.heap[W1.heap.size]? = some (.cells ((bytesRow s (grownCap W1 s.size 0 5)).setIfInBounds r (.int .u8 (bits BinOp.xor .u8 (s.data[r].toNat : Int) act.by_))) 5 ((bytesRow s (grownCap W1 s.size 0 5)).size, (bytesRow s (grownCap W1 s.size 0 5)).size + 1)) := by
        rw [hW4]
        show (W2.setCell ⟨W1.heap.size, r, none⟩ _).heap[W1.heap.size]? = _
        simp [World.setCell, Array.getElem?_modify, HB2.out]
      have hT : ∀ W : World, W.heap[W1.heap.size]? = W4.heap[W1.heap.size]? → (convert 47 9 (.slice (some ⟨W1.heap.size, 0, none⟩) s.size (grownCap W1 s.size 0 5))).run Try.prog W = .ok (.string sp) W := by
        intro W hW
        rw [← hW] at hb4
        have hlen : (s.data.toList.set r (spoilByte (s.data.toList.getD r 0) act.by_)).length = s.size := by simp
        have := run_convert_bytes_back (P := Try.prog) W 47 9 5 ⟨W1.heap.size, 0, none⟩ (grownCap W1 s.size 0 5) (s.data.toList.set r (spoilByte (s.data.toList.getD r 0) act.by_)) Try.underlying47 Try.underlying5 Try.underlying9 (fun j hj => by
          rw [Addr.add_lit, Nat.zero_add]
          have hj' : j < s.data.size := by simpa using hj
          have hbr := bytesRow_at s (grownCap W1 s.size 0 5) j hj'
          simp only [World.cell?, hb4, Option.isSome_none, Bool.false_eq_true, if_false]
          rw [Array.getElem?_setIfInBounds]
          by_cases e : r = j
          · subst e
            rw [if_pos rfl, if_pos (Array.getElem?_eq_some_iff.1 hbr).1, ← spoilByte_nat]
            simp [List.getD_eq_getElem?_getD, hj']
            rw [Array.getElem?_eq_getElem hj']; rfl
          · rw [if_neg e, hbr]
            simp [e])
        rw [hlen] at this
        rw [← HSP.out]
        exact this
      have hT1 := hT W4.drew rfl
      have hcM4 := one_cell h4.box
      have hW := without_nat _ mm i W4.drew (own_strs h4.drew1.row) (by omega)
      rw [hm2.out] at hW
      have HW := Lib.hid hW
      have HT5 := Lib.hid hT
      have hbb : W1.heap.size < W4.heap.size := (Array.getElem?_eq_some_iff.1 hb4).1
      have HB4 := Lib.hid hb4
      clear hW hT hb4 hW4 hc2 hf2 k0 k1 k2 k3 k4 hse
      go_region_law (first
        | (go_simp; go_at_call 18; refine HW.out.mono ?_; rintro e W5 ⟨v5, rfl, ho5, hb5⟩; obtain ⟨a5, c5, rfl, _⟩ := own_val ho5; have hT5 := HT5.out W5 (hb5.block _ hbb); have hQ := with_own _ _ m2 i sp W5 ho5 (by omega) (by omega); rw [hm4.out] at hQ; have HQ := Lib.hid hQ; clear hQ)
        | (go_simp; go_at_call 22; refine HQ.out.mono ?_; rintro e W6 ⟨v6, rfl, ho6, hb6⟩; obtain ⟨a6, c6, rfl, _⟩ := own_val ho6; have hcM6 := one_cell (((h4.drew1.below hb5).below hb6).box); have hfM6 := one_free (((h4.drew1.below hb5).below hb6).box)))
      all_goals
        have h5 := ((h4.drew1.below hb5).new hb6 ho6).less
        go_wp2_with fail
        unfold PR FR
        refine ⟨_, _, _, ?q2, ?z2, h5, by have := HL3.out; omega, hs3.out, ?fr⟩
        case fr => (repeat apply Exists.intro); rfl
  · have hdl : decide ((0 : Int) < (mm.length : Int)) = false := decide_eq_false (by omega)
    obtain rfl : mm = [] := List.length_eq_zero_iff.1 (by omega)
    obtain rfl := hi0 rfl
    rw [hdl]
    go_wp2_with fail
    refine (spoil_none p v act.at_ act.to_ act.by_ W h.net).mono ?_
    rintro e W1 ⟨rfl, rfl⟩
    go_wp2_with fail
    unfold PR FR
    refine ⟨_, _, _, ?q3, ?z3, h.less, by simp, hsz.out, ?fr⟩
    case fr => (repeat apply Exists.intro); rfl

end Go.Proofs.Ytkcjhjoodincbaa
