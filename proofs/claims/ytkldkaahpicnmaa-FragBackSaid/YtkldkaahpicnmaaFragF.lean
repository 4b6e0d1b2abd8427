/- A text in quotes, read. -/
import Derived.Test.YtkldkaahpicnmaaFragE
import Derived.Laws.IdiomStrings
import Derived.Laws.BytesArg
namespace Go.Proofs.Ytkldkaahpicnmaa
open Go.RowKit PFragNames
open Go.Proofs.YtkldkaahpicnmaaW.PrintWords

theorem info5 : (Try.prog.info? 5).map (fun i => (i.zero, i.size, i.bytes)) = some (some (.int .u8 0), 1, 1) := by kernel_rfl

theorem src_one_u8 (w : World) (vb : Nat) (c : Int) (hs : w.heap[vb]? = some (.cells #[.int .u8 c] 5 (0, 0))) : Src Try.prog 1 62 (.slice (some ⟨vb, 0, none⟩) 1 1) 1 [.int .u8 c] w :=
  Src.ofSlice w Try.underlying62 ⟨vb, 0, none⟩ 1 1 [.int .u8 c] rfl (fun j u hu => by
    obtain rfl : j = 0 := by have := (List.getElem?_eq_some_iff.1 hu).1; simpa using this
    rw [Addr.add_lit]
    simp at hu
    subst hu
    simp [World.cell?, hs]) (fun u hu => by simp at hu; subst hu; rfl)

theorem conv_own {W : World} {B : Nat} {v : Value} {l : List UInt8} (h : W.ownsRow B 5 1 v l.length (l.map fun b => Value.int .u8 (b.toNat : Int))) : (convert 62 9 v).run Try.prog W = .ok (.string ⟨l.toArray⟩) W := by
  rcases h.2 with ⟨rfl, h0⟩ | ⟨g, c, cur, rfl, _⟩
  · obtain rfl : l = [] := List.length_eq_zero_iff.1 h0
    exact run_convert_bytes_nil W 62 5 Try.underlying62 Try.underlying5 0 0 9 Try.underlying9
  · refine run_convert_bytes_back W 62 9 5 ⟨g, 0, none⟩ c l Try.underlying62 Try.underlying5 Try.underlying9 (fun j hj => ?_)
    exact h.cells (g := g) rfl j _ (by rw [List.getElem?_map, List.getElem?_eq_getElem hj]; rfl)

theorem set5 {W : World} {g : Nat} {a0 a1 a2 a3 a4 : Value} (h : W.heap[g]? = some (.cells #[a0, a1, a2, a3, a4] 46 (0, 0))) (b0 b1 b2 b3 b4 : Value) :
    (((((W.setCell ⟨g, 0, none⟩ b0).setCell ⟨g, 1, none⟩ b1).setCell ⟨g, 2, none⟩ b2).setCell ⟨g, 3, none⟩ b3).setCell ⟨g, 4, none⟩ b4).heap[g]? = some (.cells #[b0, b1, b2, b3, b4] 46 (0, 0)) := by
  simp [World.setCell, Array.getElem?_modify, h]

theorem below5 {B : Nat} {w W : World} {g : Nat} (h : Below B w W) (hg : B ≤ g) (b0 b1 b2 b3 b4 : Value) :
    Below B w (((((W.setCell ⟨g, 0, none⟩ b0).setCell ⟨g, 1, none⟩ b1).setCell ⟨g, 2, none⟩ b2).setCell ⟨g, 3, none⟩ b3).setCell ⟨g, 4, none⟩ b4) :=
  ((((h.setCell (p := ⟨g, 0, none⟩) hg _).setCell (p := ⟨g, 1, none⟩) hg _).setCell (p := ⟨g, 2, none⟩) hg _).setCell (p := ⟨g, 3, none⟩) hg _).setCell (p := ⟨g, 4, none⟩) hg _

/-- A value, the place behind it, an error come back. -/
def ValEnd (s : ByteArray) (w : World) (e : Ending) (w' : World) : Prop :=
  (∃ (kd n : Int) (o : ByteArray) (x y : Int) (i : Nat) (er : Int), e = .returned (.tuple #[.agg #[.int .i64 kd, .int .i64 n, .string o, .int .i64 x, .int .i64 y], .int .i64 (i : Int), .int .i64 er]) ∧ i ≤ s.size) ∧ Below w.heap.size w w'

def TextA (s : ByteArray) (g i : Nat) (vo : Value) (a : Act) : Prop :=
  ∃ u1 u3 u4 u7 u8 u9 u10 u11 u12 u13 u14 u15 u16 u17 u18 u19 u20 u21 u22 u23 u24 u25 u26 u27 u28 u29 u30 u31 u32 u33 u34 u35 u36 u37 u38 u39 u40 u41 u42 u43 u44 u45 u46 u47 u48 u49 u50 u51 u52 u53 u54 u55 u56 u57 u58 u59 u60 u61 u62 u63 u64 u65 : Value, a = ⟨#[.string s, u1, .pointer (some ⟨g, 0, none⟩), u3, u4, vo, .int .i64 (i : Nat), u7, u8, u9, u10, u11, u12, u13, u14, u15, u16, u17, u18, u19, u20, u21, u22, u23, u24, u25, u26, u27, u28, u29, u30, u31, u32, u33, u34, u35, u36, u37, u38, u39, u40, u41, u42, u43, u44, u45, u46, u47, u48, u49, u50, u51, u52, u53, u54, u55, u56, u57, u58, u59, u60, u61, u62, u63, u64, u65], []⟩

structure TextJ (s : ByteArray) (g i : Nat) (vo : Value) (l : List UInt8) (w w' : World) : Prop where
  ii : i ≤ s.size + 3
  li : l.length ≤ i
  gg : g = w.heap.size
  box : w'.heap[g]? = some (.cells #[.int .i64 0, .int .i64 0, .string ⟨#[]⟩, .int .i64 0, .int .i64 0] 46 (0, 0))
  row : w'.ownsRow (w.heap.size + 1) 5 1 vo l.length (l.map fun b => Value.int .u8 (b.toNat : Int))
  bel : Below w.heap.size w w'

set_option maxHeartbeats 4000000 in
theorem text_any (s : ByteArray) (hs : s.size ≤ 1000000) (w : World) : Calls Try.prog 40 #[.string s] w (ValEnd s w) := by
  go_enter Try.func40, Try.ntmps40
  go_wp2_with fail
  refine wp_scope_label 0 (fun a' w' => ∃ g i vo l, TextA s g i vo a' ∧ TextJ s g i vo l w w') (fun a' _ => s.size + 4 - (intOf (a'.tmps.getD 6 undef)).toNat) rfl ?_ ?_
  · rintro a' w' ⟨g, i, vo, l, hA, hJ⟩
    unfold TextA at hA
    obtain ⟨u1, hA⟩ := hA
    obtain ⟨u3, hA⟩ := hA
    obtain ⟨u4, hA⟩ := hA
    obtain ⟨u7, hA⟩ := hA
    obtain ⟨u8, hA⟩ := hA
    obtain ⟨u9, hA⟩ := hA
    obtain ⟨u10, hA⟩ := hA
    obtain ⟨u11, hA⟩ := hA
    obtain ⟨u12, hA⟩ := hA
    obtain ⟨u13, hA⟩ := hA
    obtain ⟨u14, hA⟩ := hA
    obtain ⟨u15, hA⟩ := hA
    obtain ⟨u16, hA⟩ := hA
    obtain ⟨u17, hA⟩ := hA
    obtain ⟨u18, hA⟩ := hA
    obtain ⟨u19, hA⟩ := hA
    obtain ⟨u20, hA⟩ := hA
    obtain ⟨u21, hA⟩ := hA
    obtain ⟨u22, hA⟩ := hA
    obtain ⟨u23, hA⟩ := hA
    obtain ⟨u24, hA⟩ := hA
    obtain ⟨u25, hA⟩ := hA
    obtain ⟨u26, hA⟩ := hA
    obtain ⟨u27, hA⟩ := hA
    obtain ⟨u28, hA⟩ := hA
    obtain ⟨u29, hA⟩ := hA
    obtain ⟨u30, hA⟩ := hA
    obtain ⟨u31, hA⟩ := hA
    obtain ⟨u32, hA⟩ := hA
    obtain ⟨u33, hA⟩ := hA
    obtain ⟨u34, hA⟩ := hA
    obtain ⟨u35, hA⟩ := hA
    obtain ⟨u36, hA⟩ := hA
    obtain ⟨u37, hA⟩ := hA
    obtain ⟨u38, hA⟩ := hA
    obtain ⟨u39, hA⟩ := hA
    obtain ⟨u40, hA⟩ := hA
    obtain ⟨u41, hA⟩ := hA
    obtain ⟨u42, hA⟩ := hA
    obtain ⟨u43, hA⟩ := hA
    obtain ⟨u44, hA⟩ := hA
    obtain ⟨u45, hA⟩ := hA
    obtain ⟨u46, hA⟩ := hA
    obtain ⟨u47, hA⟩ := hA
    obtain ⟨u48, hA⟩ := hA
    obtain ⟨u49, hA⟩ := hA
    obtain ⟨u50, hA⟩ := hA
    obtain ⟨u51, hA⟩ := hA
    obtain ⟨u52, hA⟩ := hA
    obtain ⟨u53, hA⟩ := hA
    obtain ⟨u54, hA⟩ := hA
    obtain ⟨u55, hA⟩ := hA
    obtain ⟨u56, hA⟩ := hA
    obtain ⟨u57, hA⟩ := hA
    obtain ⟨u58, hA⟩ := hA
    obtain ⟨u59, hA⟩ := hA
    obtain ⟨u60, hA⟩ := hA
    obtain ⟨u61, hA⟩ := hA
    obtain ⟨u62, hA⟩ := hA
    obtain ⟨u63, hA⟩ := hA
    obtain ⟨u64, hA⟩ := hA
    obtain ⟨u65, hA⟩ := hA
    subst hA
    obtain ⟨j1, j2, rfl, j4, j5, j6⟩ := hJ
    have hs1 := j6.size
    obtain ⟨va, vc, rfl, hvc, hvm, _⟩ := own_val j5
    unfold maxLen at hvm
    obtain ⟨k0, k1, k2, k3, k4⟩ := vcells j4
    have hf : ∀ o, w'.frozen? ⟨w.heap.size, o, none⟩ = false := fun o => by simp [World.frozen?, j4]
    have f0 := hf 0
    have f1 := hf 1
    have f2 := hf 2
    have f3 := hf 3
    have f4 := hf 4
    clear hf
    have hT := conv_own j5
    obtain ⟨i0, hiz, hz0, hz1, hz2⟩ := info_parts info5
    have hbl : w.heap.size < w'.heap.size := (Array.getElem?_eq_some_iff.1 j4).1
    by_cases hlt : i < s.size
    · by_cases hq : ((s[i].toNat : Nat) : Int) = 34
      · go_wp2_with fail
        all_goals first
          | (simp only [Exit.jump]
             refine bodyPost_ret (results_ctt rfl _ _ w.heap.size 46 _ (0, 0) _ rfl (set5 j4 _ _ _ _ _) Try.underlying46 rfl (by kernel_rfl)) rfl ?_
             exact ⟨⟨_, _, _, _, _, 0, _, rfl, by omega⟩, below5 j6 (Nat.le_refl _) _ _ _ _ _⟩)
          | (simp only [Exit.jump]
             refine bodyPost_ret (results_ctt rfl _ _ w.heap.size 46 _ (0, 0) _ rfl (set5 j4 _ _ _ _ _) Try.underlying46 rfl (by kernel_rfl)) rfl ?_
             exact ⟨⟨_, _, _, _, _, i + 1, _, rfl, by omega⟩, below5 j6 (Nat.le_refl _) _ _ _ _ _⟩)
      · by_cases hq2 : ((s[i].toNat : Nat) : Int) = 92
        · have HE := Lib.hid (escaped_any s (i + 1) hs (by omega) w')
          go_wp2_with fail
          refine HE.out.mono ?_
          rintro e w1 ⟨⟨b, er, rfl⟩, hb1⟩
          have e4 := (hb1.block _ hbl).trans j4
          have e6 := j6.trans (hb1.mono hs1)
          have e5 := own_kept (S := fun _ => False) j5 ⟨hb1.os, hb1.tape, hb1.output, hb1.size, fun k hk _ => hb1.block k hk⟩ (fun _ _ q => q)
          have hs2 := hb1.size
          obtain ⟨p0, p1, p2, p3, p4⟩ := vcells e4
          have hf : ∀ o, w1.frozen? ⟨w.heap.size, o, none⟩ = false := fun o => by simp [World.frozen?, e4]
          have g0 := hf 0
          have g1 := hf 1
          have g2 := hf 2
          have g3 := hf 3
          have g4 := hf 4
          clear hf
          have hbl1 : w.heap.size < w1.heap.size := (Array.getElem?_eq_some_iff.1 e4).1
          by_cases her : er = 0
          · subst her
            go_wp2_with (at_builtin; refine wpList_append_src rfl _ _ 62 62 rfl (w.heap.size + 1) 5 i0 _ 1 1 Try.underlying62 hiz hz0 hz1 hz2 rfl (by decide) (.slice va _ vc) _ _ rfl (e5.alloc _) _ 1 [.int .u8 (b.toNat : Int)] rfl (src_one_u8 _ w1.heap.size _ (heap_alloc_new w1 _)) (by unfold maxLen; omega) (by omega) (by simp; omega) ?_; intro v5 W5 ho5 hch5 hnew5; obtain ⟨a5, c5, rfl, _⟩ := own_val ho5)
            go_step3
            refine ⟨rfl, ⟨w.heap.size, i + 3, _, l ++ [b], ?fr, ⟨by omega, by simp; omega, rfl, ?_, by simpa using ho5, ?_⟩⟩, ?_⟩
            case fr => unfold TextA; (repeat apply Exists.intro); rfl
            · exact (hch5.block _ (by simp; omega) (fun hk => by have := own_lt e5 _ hk; omega)).trans ((Below.heap_alloc _ _ _ (by omega)).trans e4)
            · exact (e6.alloc (by omega) _).trans (hch5.below (by simp; omega) (fun k hk => by have := own_lt e5 k hk; omega))
            · simp [intOf]; omega
          · go_wp2_with fail
            simp only [Exit.jump]
            refine bodyPost_ret (results_ctt rfl _ _ w.heap.size 46 _ (0, 0) _ rfl (set5 e4 _ _ _ _ _) Try.underlying46 rfl (by kernel_rfl)) rfl ?_
            exact ⟨⟨_, _, _, _, _, 0, _, rfl, by omega⟩, below5 e6 (Nat.le_refl _) _ _ _ _ _⟩
        · go_wp2_with fail
          refine (plain_any _ _).mono ?_
          rintro e w1 ⟨⟨q, rfl⟩, hb1⟩
          have e4 := (hb1.block _ hbl).trans j4
          have e6 := j6.trans (hb1.mono hs1)
          have e5 := own_kept (S := fun _ => False) j5 ⟨hb1.os, hb1.tape, hb1.output, hb1.size, fun k hk _ => hb1.block k hk⟩ (fun _ _ q => q)
          have hs2 := hb1.size
          obtain ⟨p0, p1, p2, p3, p4⟩ := vcells e4
          have hf : ∀ o, w1.frozen? ⟨w.heap.size, o, none⟩ = false := fun o => by simp [World.frozen?, e4]
          have g0 := hf 0
          have g1 := hf 1
          have g2 := hf 2
          have g3 := hf 3
          have g4 := hf 4
          clear hf
          have hbl1 : w.heap.size < w1.heap.size := (Array.getElem?_eq_some_iff.1 e4).1
          cases q
          · go_wp2_with fail
            simp only [Exit.jump]
            refine bodyPost_ret (results_ctt rfl _ _ w.heap.size 46 _ (0, 0) _ rfl (set5 e4 _ _ _ _ _) Try.underlying46 rfl (by kernel_rfl)) rfl ?_
            exact ⟨⟨_, _, _, _, _, 0, _, rfl, by omega⟩, below5 e6 (Nat.le_refl _) _ _ _ _ _⟩
          · go_wp2_with (at_builtin; refine wpList_append_src rfl _ _ 62 62 rfl (w.heap.size + 1) 5 i0 _ 1 1 Try.underlying62 hiz hz0 hz1 hz2 rfl (by decide) (.slice va _ vc) _ _ rfl (e5.alloc _) _ 1 [.int .u8 (s[i].toNat : Int)] rfl (src_one_u8 _ w1.heap.size _ (heap_alloc_new w1 _)) (by unfold maxLen; omega) (by omega) (by simp; omega) ?_; intro v5 W5 ho5 hch5 hnew5; obtain ⟨a5, c5, rfl, _⟩ := own_val ho5)
            go_step3
            refine ⟨rfl, ⟨w.heap.size, i + 1, _, l ++ [s[i]], ?fr, ⟨by omega, by simp; omega, rfl, ?_, by simpa using ho5, ?_⟩⟩, ?_⟩
            case fr => unfold TextA; (repeat apply Exists.intro); rfl
            · exact (hch5.block _ (by simp; omega) (fun hk => by have := own_lt e5 _ hk; omega)).trans ((Below.heap_alloc _ _ _ (by omega)).trans e4)
            · exact (e6.alloc (by omega) _).trans (hch5.below (by simp; omega) (fun k hk => by have := own_lt e5 k hk; omega))
            · simp [intOf]; omega
    · go_wp2_with fail
      simp only [Exit.jump]
      refine bodyPost_ret (results_ctt rfl _ _ w.heap.size 46 _ (0, 0) _ rfl (set5 j4 _ _ _ _ _) Try.underlying46 rfl (by kernel_rfl)) rfl ?_
      exact ⟨⟨_, _, _, _, _, 0, _, rfl, by omega⟩, below5 j6 (Nat.le_refl _) _ _ _ _ _⟩
  · intro HP
    go_wp2_with fail
    go_step3
    rename_i hKK
    refine hKK _ _ (HP _ _ ?_)
    refine ⟨w.heap.size, 1, .slice none 0 0, [], ?fr, ⟨by omega, by simp, rfl, heap_alloc_new w _, World.ownsRow_nil _ _ _ _, (Below.refl _ w).alloc (Nat.le_refl _) _⟩⟩
    case fr => unfold TextA; (repeat apply Exists.intro); rfl

end Go.Proofs.Ytkldkaahpicnmaa
