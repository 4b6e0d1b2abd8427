/- The statement NetPlays: the loop, and the law. -/
import Derived.Test.YtkcjhjoodincbaaNetV
namespace Go.Proofs.Ytkcjhjoodincbaa
open Go.RowKit Go.Shelf
attribute [local go_sem] Oper.semAt_some

set_option maxRecDepth 100000 in
set_option maxHeartbeats 1000000 in
theorem plays_stop (w : World) (R p M : Nat) (x1 : Value) (acts : List ActV) (hacts : ActsAt w x1 acts)
    (a : Act) (W : World) (h : LI w x1 R p M acts.length acts.length a W)
    (K : Act → World → Prop) (Q : Exit → Act → World → Prop) (hQ : ∀ a' W', LI w x1 R p M acts.length acts.length a' W' → Q (.exit 0) a' W') : playsBody.wpIn Fence.wide 7 Try.prog (Exit.then K Q) a W := by
  obtain ⟨Ds, v, vm, mm, v8, v9, v10, v11, h, hmm, hsz, hF⟩ := h
  unfold FR at hF
  obtain ⟨u1, hF⟩ := hF
  obtain ⟨u6, hF⟩ := hF
  obtain ⟨u7, hF⟩ := hF
  obtain ⟨u12, hF⟩ := hF
  obtain ⟨u13, hF⟩ := hF
  obtain ⟨u14, hF⟩ := hF
  obtain ⟨u15, hF⟩ := hF
  obtain ⟨u16, hF⟩ := hF
  obtain ⟨u17, hF⟩ := hF
  obtain ⟨u18, hF⟩ := hF
  obtain ⟨u19, hF⟩ := hF
  obtain ⟨u20, hF⟩ := hF
  obtain ⟨u21, hF⟩ := hF
  obtain ⟨u22, hF⟩ := hF
  obtain ⟨u23, hF⟩ := hF
  obtain ⟨u24, hF⟩ := hF
  obtain ⟨u25, hF⟩ := hF
  obtain ⟨u26, hF⟩ := hF
  obtain ⟨u27, hF⟩ := hF
  obtain ⟨u28, hF⟩ := hF
  obtain ⟨u29, hF⟩ := hF
  obtain ⟨u30, hF⟩ := hF
  obtain ⟨u31, hF⟩ := hF
  obtain ⟨u32, hF⟩ := hF
  obtain ⟨u33, hF⟩ := hF
  obtain ⟨u34, hF⟩ := hF
  obtain ⟨u35, hF⟩ := hF
  obtain ⟨u36, hF⟩ := hF
  obtain ⟨u37, hF⟩ := hF
  obtain ⟨u38, hF⟩ := hF
  obtain ⟨u39, hF⟩ := hF
  obtain ⟨u40, hF⟩ := hF
  obtain ⟨u41, hF⟩ := hF
  obtain ⟨u42, hF⟩ := hF
  obtain ⟨u43, hF⟩ := hF
  obtain ⟨u44, hF⟩ := hF
  obtain ⟨u45, hF⟩ := hF
  obtain ⟨u46, hF⟩ := hF
  obtain ⟨u47, hF⟩ := hF
  obtain ⟨u48, hF⟩ := hF
  obtain ⟨u49, hF⟩ := hF
  obtain ⟨u50, hF⟩ := hF
  obtain ⟨u51, hF⟩ := hF
  obtain ⟨u52, hF⟩ := hF
  obtain ⟨u53, hF⟩ := hF
  obtain ⟨u54, hF⟩ := hF
  obtain ⟨u55, hF⟩ := hF
  obtain ⟨u56, hF⟩ := hF
  obtain ⟨u57, hF⟩ := hF
  obtain ⟨u58, hF⟩ := hF
  obtain ⟨u59, hF⟩ := hF
  obtain ⟨u60, hF⟩ := hF
  obtain ⟨u61, hF⟩ := hF
  obtain ⟨u62, hF⟩ := hF
  obtain ⟨u63, hF⟩ := hF
  obtain ⟨u64, hF⟩ := hF
  obtain ⟨u65, hF⟩ := hF
  obtain ⟨u66, hF⟩ := hF
  obtain ⟨u67, hF⟩ := hF
  obtain ⟨u68, hF⟩ := hF
  obtain ⟨u69, hF⟩ := hF
  obtain ⟨u70, hF⟩ := hF
  obtain ⟨u71, hF⟩ := hF
  obtain ⟨u72, hF⟩ := hF
  obtain ⟨u73, hF⟩ := hF
  obtain ⟨u74, hF⟩ := hF
  obtain ⟨u75, hF⟩ := hF
  obtain ⟨u76, hF⟩ := hF
  obtain ⟨u77, hF⟩ := hF
  obtain ⟨u78, hF⟩ := hF
  obtain ⟨u79, hF⟩ := hF
  obtain ⟨u80, hF⟩ := hF
  obtain ⟨u81, hF⟩ := hF
  obtain ⟨u82, hF⟩ := hF
  obtain ⟨u83, hF⟩ := hF
  obtain ⟨u84, hF⟩ := hF
  obtain ⟨u85, hF⟩ := hF
  obtain ⟨u86, hF⟩ := hF
  obtain ⟨u87, hF⟩ := hF
  obtain ⟨u88, hF⟩ := hF
  obtain ⟨u89, hF⟩ := hF
  obtain ⟨u90, hF⟩ := hF
  obtain ⟨u91, hF⟩ := hF
  obtain ⟨u92, hF⟩ := hF
  obtain ⟨u93, hF⟩ := hF
  obtain ⟨u94, hF⟩ := hF
  obtain ⟨u95, hF⟩ := hF
  obtain ⟨u96, hF⟩ := hF
  obtain ⟨u97, hF⟩ := hF
  obtain ⟨u98, hF⟩ := hF
  obtain ⟨u99, hF⟩ := hF
  obtain ⟨u100, hF⟩ := hF
  obtain ⟨u101, hF⟩ := hF
  obtain ⟨u102, hF⟩ := hF
  obtain ⟨u103, hF⟩ := hF
  obtain ⟨u104, hF⟩ := hF
  obtain ⟨u105, hF⟩ := hF
  obtain ⟨u106, hF⟩ := hF
  obtain ⟨u107, hF⟩ := hF
  obtain ⟨u108, hF⟩ := hF
  obtain ⟨u109, hF⟩ := hF
  obtain ⟨u110, hF⟩ := hF
  obtain ⟨u111, hF⟩ := hF
  obtain ⟨u112, hF⟩ := hF
  obtain ⟨u113, hF⟩ := hF
  obtain ⟨u114, hF⟩ := hF
  obtain ⟨u115, hF⟩ := hF
  obtain ⟨u116, hF⟩ := hF
  obtain ⟨u117, hF⟩ := hF
  obtain ⟨u118, hF⟩ := hF
  obtain ⟨u119, hF⟩ := hF
  obtain ⟨u120, hF⟩ := hF
  obtain ⟨u121, hF⟩ := hF
  obtain ⟨u122, hF⟩ := hF
  obtain ⟨u123, hF⟩ := hF
  obtain ⟨u124, hF⟩ := hF
  obtain ⟨u125, hF⟩ := hF
  obtain ⟨u126, hF⟩ := hF
  obtain ⟨u127, hF⟩ := hF
  obtain ⟨u128, hF⟩ := hF
  obtain ⟨u129, hF⟩ := hF
  obtain ⟨u130, hF⟩ := hF
  obtain ⟨u131, hF⟩ := hF
  obtain ⟨u132, hF⟩ := hF
  obtain ⟨u133, hF⟩ := hF
  obtain ⟨u134, hF⟩ := hF
  obtain ⟨u135, hF⟩ := hF
  obtain ⟨u136, hF⟩ := hF
  obtain ⟨u137, hF⟩ := hF
  obtain ⟨u138, hF⟩ := hF
  obtain ⟨u139, hF⟩ := hF
  obtain ⟨u140, hF⟩ := hF
  obtain ⟨u141, hF⟩ := hF
  obtain ⟨u142, hF⟩ := hF
  obtain ⟨u143, hF⟩ := hF
  obtain ⟨u144, hF⟩ := hF
  obtain ⟨u145, hF⟩ := hF
  obtain ⟨u146, hF⟩ := hF
  obtain ⟨u147, hF⟩ := hF
  obtain ⟨u148, hF⟩ := hF
  obtain ⟨u149, hF⟩ := hF
  obtain ⟨u150, hF⟩ := hF
  obtain ⟨u151, hF⟩ := hF
  obtain ⟨u152, hF⟩ := hF
  obtain ⟨u153, hF⟩ := hF
  obtain ⟨u154, hF⟩ := hF
  obtain ⟨u155, hF⟩ := hF
  obtain ⟨u156, hF⟩ := hF
  obtain ⟨u157, hF⟩ := hF
  obtain ⟨u158, hF⟩ := hF
  obtain ⟨u159, hF⟩ := hF
  obtain ⟨u160, hF⟩ := hF
  obtain ⟨u161, hF⟩ := hF
  obtain ⟨u162, hF⟩ := hF
  obtain ⟨u163, hF⟩ := hF
  obtain ⟨u164, hF⟩ := hF
  obtain ⟨u165, hF⟩ := hF
  obtain ⟨u166, hF⟩ := hF
  obtain ⟨u167, hF⟩ := hF
  obtain ⟨u168, hF⟩ := hF
  obtain ⟨u169, hF⟩ := hF
  obtain ⟨u170, hF⟩ := hF
  obtain ⟨u171, hF⟩ := hF
  obtain ⟨u172, hF⟩ := hF
  obtain ⟨u173, hF⟩ := hF
  obtain ⟨u174, hF⟩ := hF
  obtain ⟨u175, hF⟩ := hF
  obtain ⟨u176, hF⟩ := hF
  obtain ⟨u177, hF⟩ := hF
  obtain ⟨u178, hF⟩ := hF
  obtain ⟨u179, hF⟩ := hF
  obtain ⟨u180, hF⟩ := hF
  obtain ⟨u181, hF⟩ := hF
  obtain ⟨u182, hF⟩ := hF
  obtain ⟨u183, hF⟩ := hF
  obtain ⟨u184, hF⟩ := hF
  obtain ⟨u185, hF⟩ := hF
  obtain ⟨u186, hF⟩ := hF
  obtain ⟨u187, hF⟩ := hF
  obtain ⟨u188, hF⟩ := hF
  obtain ⟨u189, hF⟩ := hF
  obtain ⟨u190, hF⟩ := hF
  obtain ⟨u191, hF⟩ := hF
  obtain ⟨u192, hF⟩ := hF
  obtain ⟨u193, hF⟩ := hF
  obtain ⟨u194, hF⟩ := hF
  obtain ⟨u195, hF⟩ := hF
  obtain ⟨u196, hF⟩ := hF
  obtain ⟨u197, hF⟩ := hF
  obtain ⟨u198, hF⟩ := hF
  obtain ⟨u199, hF⟩ := hF
  obtain ⟨u200, hF⟩ := hF
  obtain ⟨u201, hF⟩ := hF
  obtain ⟨u202, hF⟩ := hF
  subst hF
  conv => arg 4; whnf
  obtain ⟨a0, c0, rfl, hlc, hcm⟩ := hacts.val
  unfold maxLen at hcm
  have hsz := Lib.hid hsz
  gi_wp2_with fail
  refine ⟨Ds, v, vm, mm, v8, v9, v10, v11, h, hmm, hsz.out, ?_⟩
  unfold FR
  (repeat apply Exists.intro); rfl

theorem plays_loop (w : World) (R p M : Nat) (x1 : Value) (acts : List ActV) (hacts : ActsAt w x1 acts) (hlen : acts.length ≤ 100) (hsmall : ∀ (j : Nat) u, acts[j]? = some u → u.s.size ≤ 10000)
    (a : Act) (W : World) (Qg : Exit → Act → World → Prop) (h : LI w x1 R p M 0 0 a W ∧ ∀ a' W', LI w x1 R p M acts.length acts.length a' W' → Qg (.exit 0) a' W') :
    (Code.loop playsBody).wpIn Fence.wide 7 Try.prog Qg a W := by
  obtain ⟨h, hQ⟩ := h
  refine wpIn_loop_ghost (fun n a W => ∃ k, k + n = acts.length ∧ LI w x1 R p M k k a W) acts.length ⟨0, by omega, h⟩ ?_
  rintro n a W ⟨k, hk, hL⟩
  cases n with
  | zero =>
    obtain rfl : k = acts.length := by omega
    exact plays_stop w R p M x1 acts hacts a W hL _ Qg hQ
  | succ n => exact plays_round w R p M k x1 acts hacts hlen hsmall (by omega) a W hL _ Qg (fun a' W' hL' => ⟨n, by omega, k + 1, by omega, hL'⟩)

set_option maxRecDepth 100000 in
set_option maxHeartbeats 4000000 in
theorem plays_in (x1 : Value) (acts : List ActV) (w : World) (h1 : ActsAt w x1 acts) :
    CallsIn Fence.wide 7 Try.prog 6 #[x1] w fun e w' => e = .returned (.bool true) ∧ Below w.heap.size w w' := by
  obtain ⟨a0, c0, rfl, hlc0, hcm0⟩ := h1.val
  unfold maxLen at hcm0
  refine callsIn_of_wp_marks Try.func6 rfl trivial ?_ rfl
  simp only [Try.ntmps6, List.size_toArray, List.length_cons, List.length_nil, Nat.reduceAdd, Nat.reduceSub, Array.replicate_succ, Array.replicate_zero, List.push_toArray, List.append_toArray, List.nil_append, List.cons_append]
  gi_wp2_with fail
  refine ⟨trivial, (callsIn_wide.2 (awake_any _)).mono ?_⟩
  rintro e w1 ⟨rfl, hb1⟩
  have hbA : Below w.heap.size w w1 := ((Below.refl _ w).alloc (Nat.le_refl _) _).trans (hb1.mono (by simp))
  gi_wp2_with fail
  refine ⟨trivial, (callsIn_wide.2 (few_any2 _ acts w1 (h1.below hbA (Nat.le_refl _)))).mono ?_⟩
  rintro e w2 ⟨q, rfl, hq, rfl⟩
  have hres1 : w1.heap[w.heap.size]? = some (.cells #[.bool false] 4 (0, 0)) := (hb1.block _ (by simp)).trans (heap_alloc_new w _)
  cases q with
  | false =>
    clear hq
    gi_wp2_with fail
    refine ⟨trivial, (callsIn_wide.2 (awake_any _)).mono ?_⟩
    rintro e w2 ⟨rfl, hb2⟩
    have hres2 : w2.heap[w.heap.size]? = some (.cells #[.bool false] 4 (0, 0)) := (hb2.block _ (Array.getElem?_eq_some_iff.1 hres1).1).trans hres1
    have hc0 := one_cell hres2
    have hf0 := one_free hres2
    have hset := one_set hres2 (.bool true)
    have hb3 : Below w.heap.size w (w2.setCell ⟨w.heap.size, 0, none⟩ (.bool true)) := (hbA.trans (hb2.mono hbA.size)).setCell (p := ⟨w.heap.size, 0, none⟩) (Nat.le_refl _) _
    gi_wp2_with fail
    refine ⟨.bool true, ?_, rfl, hb3⟩
    have hc5 := one_cell hset
    simp [results, Try.f6, go_sem, hc5]
  | true =>
    obtain ⟨hal, has⟩ := hq rfl
    clear hq
    have HAS := Lib.hid has
    clear has
    gi_wp2_with fail
    refine ⟨trivial, (callsIn_wide.2 (new_any _)).mono ?_⟩
    rintro e w2 ⟨rfl, hn, hc⟩
    gi_wp2_with fail
    have hb2 : Below w1.heap.size w1 w2 := hc.below (Nat.le_refl _) (fun i hi => hi.elim)
    have hR1 : w.heap.size < w1.heap.size := (Array.getElem?_eq_some_iff.1 hres1).1
    have hp2 : w1.heap.size < w2.heap.size := (Array.getElem?_eq_some_iff.1 hn.at_).1
    refine plays_loop w w.heap.size w1.heap.size w2.heap.size (.slice a0 acts.length c0) acts h1 hal HAS.out _ _ _ ⟨?_, ?_⟩
    · unfold LI FR
      refine ⟨[], .slice none 0 0, .slice none 0 0, [], undef, undef, undef, undef, ⟨hR1, hp2, Nat.le_refl _, hn.alloc _, heap_alloc_new w2 _, World.ownsRow_nil _ _ _ _, ?_, ?_, ?_, ⟨List.nodup_nil, fun D hD => by cases hD⟩, fun _ _ hm => by cases hm⟩, by simp, by simp, ?fr⟩
      case fr => (repeat apply Exists.intro); rfl
      · exact (Below.heap_alloc w2 _ _ (by omega)).trans ((hb2.block _ hR1).trans hres1)
      · intro g hg; cases hg
      · exact (hbA.trans (hb2.mono (by omega))).alloc (by omega) _
    · rintro a' W' ⟨Ds, v, vm, mm, v8, v9, v10, v11, h, hmm, hsz, hF⟩
      unfold FR at hF
      obtain ⟨u1, hF⟩ := hF
      obtain ⟨u6, hF⟩ := hF
      obtain ⟨u7, hF⟩ := hF
      obtain ⟨u12, hF⟩ := hF
      obtain ⟨u13, hF⟩ := hF
      obtain ⟨u14, hF⟩ := hF
      obtain ⟨u15, hF⟩ := hF
      obtain ⟨u16, hF⟩ := hF
      obtain ⟨u17, hF⟩ := hF
      obtain ⟨u18, hF⟩ := hF
      obtain ⟨u19, hF⟩ := hF
      obtain ⟨u20, hF⟩ := hF
      obtain ⟨u21, hF⟩ := hF
      obtain ⟨u22, hF⟩ := hF
      obtain ⟨u23, hF⟩ := hF
      obtain ⟨u24, hF⟩ := hF
      obtain ⟨u25, hF⟩ := hF
      obtain ⟨u26, hF⟩ := hF
      obtain ⟨u27, hF⟩ := hF
      obtain ⟨u28, hF⟩ := hF
      obtain ⟨u29, hF⟩ := hF
      obtain ⟨u30, hF⟩ := hF
      obtain ⟨u31, hF⟩ := hF
      obtain ⟨u32, hF⟩ := hF
      obtain ⟨u33, hF⟩ := hF
      obtain ⟨u34, hF⟩ := hF
      obtain ⟨u35, hF⟩ := hF
      obtain ⟨u36, hF⟩ := hF
      obtain ⟨u37, hF⟩ := hF
      obtain ⟨u38, hF⟩ := hF
      obtain ⟨u39, hF⟩ := hF
      obtain ⟨u40, hF⟩ := hF
      obtain ⟨u41, hF⟩ := hF
      obtain ⟨u42, hF⟩ := hF
      obtain ⟨u43, hF⟩ := hF
      obtain ⟨u44, hF⟩ := hF
      obtain ⟨u45, hF⟩ := hF
      obtain ⟨u46, hF⟩ := hF
      obtain ⟨u47, hF⟩ := hF
      obtain ⟨u48, hF⟩ := hF
      obtain ⟨u49, hF⟩ := hF
      obtain ⟨u50, hF⟩ := hF
      obtain ⟨u51, hF⟩ := hF
      obtain ⟨u52, hF⟩ := hF
      obtain ⟨u53, hF⟩ := hF
      obtain ⟨u54, hF⟩ := hF
      obtain ⟨u55, hF⟩ := hF
      obtain ⟨u56, hF⟩ := hF
      obtain ⟨u57, hF⟩ := hF
      obtain ⟨u58, hF⟩ := hF
      obtain ⟨u59, hF⟩ := hF
      obtain ⟨u60, hF⟩ := hF
      obtain ⟨u61, hF⟩ := hF
      obtain ⟨u62, hF⟩ := hF
      obtain ⟨u63, hF⟩ := hF
      obtain ⟨u64, hF⟩ := hF
      obtain ⟨u65, hF⟩ := hF
      obtain ⟨u66, hF⟩ := hF
      obtain ⟨u67, hF⟩ := hF
      obtain ⟨u68, hF⟩ := hF
      obtain ⟨u69, hF⟩ := hF
      obtain ⟨u70, hF⟩ := hF
      obtain ⟨u71, hF⟩ := hF
      obtain ⟨u72, hF⟩ := hF
      obtain ⟨u73, hF⟩ := hF
      obtain ⟨u74, hF⟩ := hF
      obtain ⟨u75, hF⟩ := hF
      obtain ⟨u76, hF⟩ := hF
      obtain ⟨u77, hF⟩ := hF
      obtain ⟨u78, hF⟩ := hF
      obtain ⟨u79, hF⟩ := hF
      obtain ⟨u80, hF⟩ := hF
      obtain ⟨u81, hF⟩ := hF
      obtain ⟨u82, hF⟩ := hF
      obtain ⟨u83, hF⟩ := hF
      obtain ⟨u84, hF⟩ := hF
      obtain ⟨u85, hF⟩ := hF
      obtain ⟨u86, hF⟩ := hF
      obtain ⟨u87, hF⟩ := hF
      obtain ⟨u88, hF⟩ := hF
      obtain ⟨u89, hF⟩ := hF
      obtain ⟨u90, hF⟩ := hF
      obtain ⟨u91, hF⟩ := hF
      obtain ⟨u92, hF⟩ := hF
      obtain ⟨u93, hF⟩ := hF
      obtain ⟨u94, hF⟩ := hF
      obtain ⟨u95, hF⟩ := hF
      obtain ⟨u96, hF⟩ := hF
      obtain ⟨u97, hF⟩ := hF
      obtain ⟨u98, hF⟩ := hF
      obtain ⟨u99, hF⟩ := hF
      obtain ⟨u100, hF⟩ := hF
      obtain ⟨u101, hF⟩ := hF
      obtain ⟨u102, hF⟩ := hF
      obtain ⟨u103, hF⟩ := hF
      obtain ⟨u104, hF⟩ := hF
      obtain ⟨u105, hF⟩ := hF
      obtain ⟨u106, hF⟩ := hF
      obtain ⟨u107, hF⟩ := hF
      obtain ⟨u108, hF⟩ := hF
      obtain ⟨u109, hF⟩ := hF
      obtain ⟨u110, hF⟩ := hF
      obtain ⟨u111, hF⟩ := hF
      obtain ⟨u112, hF⟩ := hF
      obtain ⟨u113, hF⟩ := hF
      obtain ⟨u114, hF⟩ := hF
      obtain ⟨u115, hF⟩ := hF
      obtain ⟨u116, hF⟩ := hF
      obtain ⟨u117, hF⟩ := hF
      obtain ⟨u118, hF⟩ := hF
      obtain ⟨u119, hF⟩ := hF
      obtain ⟨u120, hF⟩ := hF
      obtain ⟨u121, hF⟩ := hF
      obtain ⟨u122, hF⟩ := hF
      obtain ⟨u123, hF⟩ := hF
      obtain ⟨u124, hF⟩ := hF
      obtain ⟨u125, hF⟩ := hF
      obtain ⟨u126, hF⟩ := hF
      obtain ⟨u127, hF⟩ := hF
      obtain ⟨u128, hF⟩ := hF
      obtain ⟨u129, hF⟩ := hF
      obtain ⟨u130, hF⟩ := hF
      obtain ⟨u131, hF⟩ := hF
      obtain ⟨u132, hF⟩ := hF
      obtain ⟨u133, hF⟩ := hF
      obtain ⟨u134, hF⟩ := hF
      obtain ⟨u135, hF⟩ := hF
      obtain ⟨u136, hF⟩ := hF
      obtain ⟨u137, hF⟩ := hF
      obtain ⟨u138, hF⟩ := hF
      obtain ⟨u139, hF⟩ := hF
      obtain ⟨u140, hF⟩ := hF
      obtain ⟨u141, hF⟩ := hF
      obtain ⟨u142, hF⟩ := hF
      obtain ⟨u143, hF⟩ := hF
      obtain ⟨u144, hF⟩ := hF
      obtain ⟨u145, hF⟩ := hF
      obtain ⟨u146, hF⟩ := hF
      obtain ⟨u147, hF⟩ := hF
      obtain ⟨u148, hF⟩ := hF
      obtain ⟨u149, hF⟩ := hF
      obtain ⟨u150, hF⟩ := hF
      obtain ⟨u151, hF⟩ := hF
      obtain ⟨u152, hF⟩ := hF
      obtain ⟨u153, hF⟩ := hF
      obtain ⟨u154, hF⟩ := hF
      obtain ⟨u155, hF⟩ := hF
      obtain ⟨u156, hF⟩ := hF
      obtain ⟨u157, hF⟩ := hF
      obtain ⟨u158, hF⟩ := hF
      obtain ⟨u159, hF⟩ := hF
      obtain ⟨u160, hF⟩ := hF
      obtain ⟨u161, hF⟩ := hF
      obtain ⟨u162, hF⟩ := hF
      obtain ⟨u163, hF⟩ := hF
      obtain ⟨u164, hF⟩ := hF
      obtain ⟨u165, hF⟩ := hF
      obtain ⟨u166, hF⟩ := hF
      obtain ⟨u167, hF⟩ := hF
      obtain ⟨u168, hF⟩ := hF
      obtain ⟨u169, hF⟩ := hF
      obtain ⟨u170, hF⟩ := hF
      obtain ⟨u171, hF⟩ := hF
      obtain ⟨u172, hF⟩ := hF
      obtain ⟨u173, hF⟩ := hF
      obtain ⟨u174, hF⟩ := hF
      obtain ⟨u175, hF⟩ := hF
      obtain ⟨u176, hF⟩ := hF
      obtain ⟨u177, hF⟩ := hF
      obtain ⟨u178, hF⟩ := hF
      obtain ⟨u179, hF⟩ := hF
      obtain ⟨u180, hF⟩ := hF
      obtain ⟨u181, hF⟩ := hF
      obtain ⟨u182, hF⟩ := hF
      obtain ⟨u183, hF⟩ := hF
      obtain ⟨u184, hF⟩ := hF
      obtain ⟨u185, hF⟩ := hF
      obtain ⟨u186, hF⟩ := hF
      obtain ⟨u187, hF⟩ := hF
      obtain ⟨u188, hF⟩ := hF
      obtain ⟨u189, hF⟩ := hF
      obtain ⟨u190, hF⟩ := hF
      obtain ⟨u191, hF⟩ := hF
      obtain ⟨u192, hF⟩ := hF
      obtain ⟨u193, hF⟩ := hF
      obtain ⟨u194, hF⟩ := hF
      obtain ⟨u195, hF⟩ := hF
      obtain ⟨u196, hF⟩ := hF
      obtain ⟨u197, hF⟩ := hF
      obtain ⟨u198, hF⟩ := hF
      obtain ⟨u199, hF⟩ := hF
      obtain ⟨u200, hF⟩ := hF
      obtain ⟨u201, hF⟩ := hF
      obtain ⟨u202, hF⟩ := hF
      subst hF
      have hc0 := one_cell h.res
      have hf0 := one_free h.res
      have hset := one_set h.res (.bool true)
      have hsz := Lib.hid hsz
      gi_wp2_with fail
      refine leaves_marks (B := w.heap.size + 1) Ds _ (h.marks.keeps (KeepsOthers.setCell _ _ _)) (fun W2 hW2 => ?_)
      have hc5 : W2.cell? ⟨w.heap.size, 0, none⟩ = some (.bool true) := (hW2.cell (p := ⟨w.heap.size, 0, none⟩) (Nat.lt_succ_self _)).trans (one_cell hset)
      refine ⟨.bool true, ?_, rfl, (h.bel.setCell (p := ⟨w.heap.size, 0, none⟩) (Nat.le_refl _) _).trans (hW2.mono (Nat.le_succ _))⟩
      simp [results, Try.f6, go_sem, hc5]

theorem plays_walk {x1 : Value} {acts : List ActV} {w : World} (h1 : ActsAt w x1 acts) :
    Calls Try.prog 6 #[x1] w fun e w' => e = .returned (.bool true) ∧ Below w.heap.size w w' := callsIn_wide.1 (plays_in x1 acts w h1)

end Go.Proofs.Ytkcjhjoodincbaa
