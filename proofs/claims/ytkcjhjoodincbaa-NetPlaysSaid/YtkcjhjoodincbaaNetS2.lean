/- The statement NetPlays: the switch at 2. -/
import Derived.Test.YtkcjhjoodincbaaNetS
namespace Go.Proofs.Ytkcjhjoodincbaa
open Go.RowKit Go.Shelf

set_option maxRecDepth 100000 in
set_option maxHeartbeats 4000000 in
theorem plays_arm2 (w : World) (l0 : Value) (R p M k xb i : Nat) (Ds : List Nat) (W : World) (v vm : Value) (mm : List ByteArray) (act : ActV)
    (h : St w R p M Ds [(xb, xobj act)] W v mm vm mm) (hmm : mm.length ≤ k) (hk : k ≤ 99) (hsz : ∀ s ∈ mm, s.size ≤ 10000) (has : act.s.size ≤ 10000) (hby : 0 ≤ act.by_ ∧ act.by_ ≤ 255)
    (hi0 : mm.length = 0 → i = 0) (hi1 : 0 < mm.length → (i : Int) = act.at_ % (mm.length : Int) ∧ i < mm.length)
    (K : Act → World → Prop) (hK : ∀ a' W', PR w l0 R p M k (k + 1) Ds a' W' → K a' W')
    (u1 u12 u13 u14 u15 u16 u17 u18 u19 u20 u21 u22 u23 u24 u25 u26 u27 u28 u29 u30 u31 u32 u33 u34 u35 u36 u37 u38 u39 u40 u41 u42 u43 u44 u45 u46 u47 u49 u50 u51 u52 u53 u54 u55 u56 u57 u58 u59 u60 u61 u62 u63 u64 u65 u66 u67 u68 u69 u70 u71 u72 u73 u74 u75 u76 u77 u78 u79 u80 u81 u82 u83 u84 u85 u86 u87 u88 u89 u90 u91 u92 u93 u94 u95 u96 u97 u98 u99 u100 u101 u102 u103 u104 u105 u106 u107 u108 u109 u110 u111 u112 u113 u114 u115 u116 u117 u118 u119 u120 u121 u122 u123 u124 u125 u126 u127 u128 u129 u130 u131 u132 u133 u134 u135 u136 u137 u138 u139 u140 u141 u142 u143 u144 u145 u146 u147 u148 u149 u150 u151 u152 u153 u154 u155 u156 u157 u158 u159 u160 u161 u162 u163 u164 u165 u166 u167 u168 u169 u170 u171 u172 u173 u174 u175 u176 u177 u178 u179 u180 u181 u182 u183 u184 u185 u186 u187 u188 u189 u190 u191 u192 u193 u194 u195 u196 u197 u198 u199 u200 u201 u202 : Value) : playsSwitch.wpIn Fence.wide 7 Try.prog (Exit.then K (fun _ _ _ => False)) ⟨#[l0, u1, .pointer (some ⟨R, 0, none⟩), .pointer (some ⟨p, 0, none⟩), .pointer (some ⟨M, 0, none⟩), .int .i64 k, .pointer (some ⟨xb, 0, none⟩), .int .i64 i, .bool false, .bool (decide ((0 : Int) < (mm.length : Int))), .string ⟨#[]⟩, .string ⟨#[]⟩, u12, u13, u14, u15, u16, u17, u18, u19, u20, u21, u22, u23, u24, u25, u26, u27, u28, u29, u30, u31, u32, u33, u34, u35, u36, u37, u38, u39, u40, u41, u42, u43, u44, u45, u46, u47, .int .u8 2, u49, u50, u51, u52, u53, u54, u55, u56, u57, u58, u59, u60, u61, u62, u63, u64, u65, u66, u67, u68, u69, u70, u71, u72, u73, u74, u75, u76, u77, u78, u79, u80, u81, u82, u83, u84, u85, u86, u87, u88, u89, u90, u91, u92, u93, u94, u95, u96, u97, u98, u99, u100, u101, u102, u103, u104, u105, u106, u107, u108, u109, u110, u111, u112, u113, u114, u115, u116, u117, u118, u119, u120, u121, u122, u123, u124, u125, u126, u127, u128, u129, u130, u131, u132, u133, u134, u135, u136, u137, u138, u139, u140, u141, u142, u143, u144, u145, u146, u147, u148, u149, u150, u151, u152, u153, u154, u155, u156, u157, u158, u159, u160, u161, u162, u163, u164, u165, u166, u167, u168, u169, u170, u171, u172, u173, u174, u175, u176, u177, u178, u179, u180, u181, u182, u183, u184, u185, u186, u187, u188, u189, u190, u191, u192, u193, u194, u195, u196, u197, u198, u199, u200, u201, u202], Ds.map mark⟩ W := by
  refine wpIn_wide.2 ?_
  conv => arg 2; whnf
  obtain ⟨i0, hiz, hz0, hz1, hz2⟩ := info_parts Try.info9
  have hcM := one_cell h.box
  have hfM := one_free h.box
  obtain ⟨hx0, hx1, hx2, hx3, hx4⟩ := xcells h.ex1
  obtain ⟨va, vc, rfl, hvc, hvm, _⟩ := own_val h.row
  unfold maxLen at hvm
  have hsz := Lib.hid hsz
  by_cases hl : 0 < mm.length
  · obtain ⟨hi, hil⟩ := hi1 hl
    have hdl : decide ((0 : Int) < (mm.length : Int)) = true := decide_eq_true (by omega)
    obtain ⟨m2, hm2⟩ : ∃ m2, mm.take i ++ mm.drop (i + 1) = m2 := ⟨_, rfl⟩
    have hl2 : m2.length + 1 ≤ k := by rw [← hm2]; simp; omega
    have hs2 : Hid (∀ s ∈ m2, s.size ≤ 10000) := Lib.hid (fun s hs => (List.mem_append.1 (hm2 ▸ hs)).elim (fun q => hsz.out s (List.mem_of_mem_take q)) (fun q => hsz.out s (List.mem_of_mem_drop q)))
    have hm2 := Lib.hid hm2
    have hT := take_any p v mm act.at_ W h.net i hi mm[i] (List.getElem?_eq_getElem hil)
    rw [hm2.out] at hT
    have HT := Lib.hid hT
    clear hT
    clear hi hi0 hi1
    rw [hdl]
    go_wp2_with fail
    refine HT.out.mono ?_
    rintro e W1 ⟨rfl, v1, hs⟩
    have h1 := h.step hs
    have hcM1 := one_cell h1.box
    have hfM1 := one_free h1.box
    obtain ⟨g, rfl, hg⟩ := rowCell h1.row i mm[i] (List.getElem?_eq_getElem hil)
    have hW := without_nat _ mm i W1 (own_strs h1.row) (by omega)
    rw [hm2.out] at hW
    have HW := Lib.hid hW
    clear hW
    go_wp2_with fail
    refine HW.out.mono ?_
    rintro e W2 ⟨v2, rfl, ho2, hb2⟩
    obtain ⟨a2, c2, rfl, _⟩ := own_val ho2
    have h2 := (h1.new hb2 ho2).less
    have hcM2 := one_cell ((h1.below hb2).box)
    have hfM2 := one_free ((h1.below hb2).box)
    go_wp2_with fail
    unfold PR FR
    refine ⟨_, _, _, ?q1, ?z1, h2, by omega, hs2.out, ?fr⟩
    case fr => (repeat apply Exists.intro); rfl
  · have hdl : decide ((0 : Int) < (mm.length : Int)) = false := decide_eq_false (by omega)
    obtain rfl : mm = [] := List.length_eq_zero_iff.1 (by omega)
    obtain rfl := hi0 rfl
    rw [hdl]
    go_wp2_with fail
    refine (take_none p v act.at_ W h.net).mono ?_
    rintro e W1 ⟨rfl, rfl⟩
    go_wp2_with fail
    unfold PR FR
    refine ⟨_, _, _, ?q2, ?z2, h.less, by simp, hsz.out, ?fr⟩
    case fr => (repeat apply Exists.intro); rfl

end Go.Proofs.Ytkcjhjoodincbaa
