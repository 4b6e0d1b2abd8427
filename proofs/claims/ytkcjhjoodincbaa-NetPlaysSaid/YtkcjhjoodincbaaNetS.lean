/- The statement NetPlays: the code's pieces, and what its frame is. -/
import Derived.Test.YtkcjhjoodincbaaNetR
import Derived.Sort.CutIn
namespace Go.Proofs.Ytkcjhjoodincbaa
open Go.RowKit Go.Shelf

set_option maxRecDepth 100000 in
/-- A frame between two statements. -/
def FR (l0 : Value) (R p M : Nat) (v5 v8 v9 v10 v11 : Value) (ds : List Deferred) (a : Act) : Prop :=
  ∃ u1 u6 u7 u12 u13 u14 u15 u16 u17 u18 u19 u20 u21 u22 u23 u24 u25 u26 u27 u28 u29 u30 u31 u32 u33 u34 u35 u36 u37 u38 u39 u40 u41 u42 u43 u44 u45 u46 u47 u48 u49 u50 u51 u52 u53 u54 u55 u56 u57 u58 u59 u60 u61 u62 u63 u64 u65 u66 u67 u68 u69 u70 u71 u72 u73 u74 u75 u76 u77 u78 u79 u80 u81 u82 u83 u84 u85 u86 u87 u88 u89 u90 u91 u92 u93 u94 u95 u96 u97 u98 u99 u100 u101 u102 u103 u104 u105 u106 u107 u108 u109 u110 u111 u112 u113 u114 u115 u116 u117 u118 u119 u120 u121 u122 u123 u124 u125 u126 u127 u128 u129 u130 u131 u132 u133 u134 u135 u136 u137 u138 u139 u140 u141 u142 u143 u144 u145 u146 u147 u148 u149 u150 u151 u152 u153 u154 u155 u156 u157 u158 u159 u160 u161 u162 u163 u164 u165 u166 u167 u168 u169 u170 u171 u172 u173 u174 u175 u176 u177 u178 u179 u180 u181 u182 u183 u184 u185 u186 u187 u188 u189 u190 u191 u192 u193 u194 u195 u196 u197 u198 u199 u200 u201 u202 : Value, a = ⟨#[l0, u1, .pointer (some ⟨R, 0, none⟩), .pointer (some ⟨p, 0, none⟩), .pointer (some ⟨M, 0, none⟩), v5, u6, u7, v8, v9, v10, v11, u12, u13, u14, u15, u16, u17, u18, u19, u20, u21, u22, u23, u24, u25, u26, u27, u28, u29, u30, u31, u32, u33, u34, u35, u36, u37, u38, u39, u40, u41, u42, u43, u44, u45, u46, u47, u48, u49, u50, u51, u52, u53, u54, u55, u56, u57, u58, u59, u60, u61, u62, u63, u64, u65, u66, u67, u68, u69, u70, u71, u72, u73, u74, u75, u76, u77, u78, u79, u80, u81, u82, u83, u84, u85, u86, u87, u88, u89, u90, u91, u92, u93, u94, u95, u96, u97, u98, u99, u100, u101, u102, u103, u104, u105, u106, u107, u108, u109, u110, u111, u112, u113, u114, u115, u116, u117, u118, u119, u120, u121, u122, u123, u124, u125, u126, u127, u128, u129, u130, u131, u132, u133, u134, u135, u136, u137, u138, u139, u140, u141, u142, u143, u144, u145, u146, u147, u148, u149, u150, u151, u152, u153, u154, u155, u156, u157, u158, u159, u160, u161, u162, u163, u164, u165, u166, u167, u168, u169, u170, u171, u172, u173, u174, u175, u176, u177, u178, u179, u180, u181, u182, u183, u184, u185, u186, u187, u188, u189, u190, u191, u192, u193, u194, u195, u196, u197, u198, u199, u200, u201, u202], ds⟩

def firstLoop : Code → Option Code
  | .loop c => some c
  | .seq a b => match firstLoop a with
    | some c => some c
    | none => firstLoop b
  | .block _ c => firstLoop c
  | .scope c => firstLoop c
  | .cond _ a b => match firstLoop a with
    | some c => some c
    | none => firstLoop b
  | _ => none
def seqL : Code → Code
  | .seq a _ => a
  | c => c
def seqR : Code → Code
  | .seq _ b => b
  | c => c
def inBlk : Code → Code
  | .block _ c => c
  | c => c
noncomputable def playsBody : Code := ((Try.f6.body.bind firstLoop).getD .skip)
/-- What follows the place in a round: the switch and all behind it. -/
noncomputable def playsRound : Code := inBlk (seqL (seqR playsBody))
noncomputable def playsFromSwitch : Code := seqR (seqR (seqR (seqR playsRound)))
noncomputable def playsSwitch : Code := seqR (seqL playsFromSwitch)
noncomputable def playsTail : Code := seqR playsFromSwitch

/-- Behind the switch: what the net and the law answered is the same, and they have the same texts. -/
def PR (w : World) (l0 : Value) (R p M k n : Nat) (Ds : List Nat) (a : Act) (W : World) : Prop :=
  ∃ v vm mm q z, St w R p M Ds [] W v mm vm mm ∧ mm.length ≤ n ∧ (∀ s ∈ mm, s.size ≤ 10000) ∧ FR l0 R p M (.int .i64 k) (.bool q) (.bool q) (.string z) (.string z) (Ds.map mark) a

theorem St.kept {w : World} {R p M : Nat} {Ds : List Nat} {Ex : List (Nat × Obj)} {W : World} {v : Value} {mn : List ByteArray} {vm : Value} {mm : List ByteArray} (h : St w R p M Ds Ex W v mn vm mm)
    {W1 : World} (hch : Chg (fun k => some k = vm.ownBlock) W W1) : W1.heap[M]? = some (.cells #[vm] 27 (0, 0)) :=
  (hch.block M h.ml (fun hk => by have := own_lt h.row M hk; omega)).trans h.box
theorem St.ex1 {w : World} {R p M : Nat} {Ds : List Nat} {Ex : List (Nat × Obj)} {W : World} {v : Value} {mn : List ByteArray} {vm : Value} {mm : List ByteArray} {b : Nat} {o : Obj} (h : St w R p M Ds ((b, o) :: Ex) W v mn vm mm) : W.heap[b]? = some o :=
  (h.ex b o (by simp)).1
theorem rowCell {W : World} {B : Nat} {a : Option Addr} {n c : Nat} {l : List ByteArray} (h : W.ownsRow B 9 1 (.slice a n c) l.length (l.map Value.string)) (i : Nat) (s : ByteArray) (hs : l[i]? = some s) :
    ∃ g, a = some ⟨g, 0, none⟩ ∧ W.cell? ⟨g, i, none⟩ = some (.string s) := own_cellAt h rfl i (.string s) (by rw [List.getElem?_map, hs]; rfl)

end Go.Proofs.Ytkcjhjoodincbaa
