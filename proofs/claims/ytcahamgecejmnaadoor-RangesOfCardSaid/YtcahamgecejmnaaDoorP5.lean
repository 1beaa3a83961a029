/-
  Plain functions: mandolineref02_Near, ranges_Set_Same, mandolinelaw02_RangesNear. Its conditions: none.
-/
import Derived.Test.YtcahamgecejmnaaDoorP4
namespace Go.Proofs.YtcahamgecejmnaaDoor
open Go Go.Den
set_option maxRecDepth 100000
set_option linter.unusedSimpArgs false
set_option linter.unusedVariables false
inductive mandolineref02_Near.l0X where
  | x0 (o21_5 : List api_Span)
noncomputable def mandolineref02_Near.l0B (a0 : (List api_Span)) (a1 : Int) (o12_5 : List api_Span) (v12_6 : Int) : Option (Step ((List api_Span) × Int) mandolineref02_Near.l0X) :=
  bif (decide ((IntKind.i64.wrap (v12_6 + 1)) < (a0.length : Int))) then
    (idx a0 (IntKind.i64.wrap (v12_6 + 1))).bind fun x24 =>
    (idx a0 v12_6).bind fun x26 =>
    bif (decide ((IntKind.i64.wrap (x24.From - x26.To)) ≤ a1)) then
      if (o12_5.length + 1) * 16 ≤ room then
        some (.next ((o12_5 ++ ([(api_Span.mk x26.To x24.From)] : List api_Span)), (IntKind.i64.wrap (v12_6 + 1))))
      else none
    else
      some (.next (o12_5, (IntKind.i64.wrap (v12_6 + 1))))
  else
    some (.done (.x0 o12_5))
set_option maxHeartbeats 4000000 in
theorem mandolineref02_Near.l0_ok {α : Type} {F : Env → Heap → Option α} {K : List Fr} (fin : mandolineref02_Near.l0X → Option α) (a0 : (List api_Span)) (a1 : Int)
    (hx0 : ∀ (o21_5 : List api_Span) (y21_5 : AV) (e : Env) (H : Heap), e 5 = y21_5 → Buf [[7], [9], [45]] 2 y21_5 H (encL api_Span.enc o21_5) → outL X [] F K e H 0 = fin (.x0 o21_5)) (o12_5 : List api_Span) (v12_6 : Int) (y12_5 : AV) (e : Env) (H : Heap) (g0_12 : e 0 = (.sl (encL api_Span.enc a0))) (g1_12 : e 1 = (.int .i64 a1)) (g5_12 : e 5 = y12_5) (g6_12 : e 6 = (.int .i64 v12_6)) (by12_5 : Buf [[7], [9], [45]] 2 y12_5 H (encL api_Span.enc o12_5)) :
    runL X [] F (.c (.loop c29_l0) :: K) e H = (loopL (fun (s : (List api_Span) × Int) => mandolineref02_Near.l0B a0 a1 s.1 s.2) (o12_5, v12_6)).bind fin := by
  refine loop_of (R := fun (s : (List api_Span) × Int) (e : Env) (H : Heap) => (fun (o12_5 : List api_Span) (v12_6 : Int) => ∃ y12_5 : AV, e 0 = (.sl (encL api_Span.enc a0)) ∧ e 1 = (.int .i64 a1) ∧ e 5 = y12_5 ∧ e 6 = (.int .i64 v12_6) ∧ Buf [[7], [9], [45]] 2 y12_5 H (encL api_Span.enc o12_5)) s.1 s.2) fin ?_ ⟨y12_5, g0_12, g1_12, g5_12, g6_12, by12_5⟩
  clear by12_5 g6_12 g5_12 g1_12 g0_12 e H y12_5 v12_6 o12_5
  intro n G hn hd s e H hR
  obtain ⟨o12_5, v12_6⟩ := s
  obtain ⟨y12_5, g0_12, g1_12, g5_12, g6_12, by12_5⟩ := hR
  have s12_5 : ∀ HH : Heap, HH [7] = H [7] → HH [9] = H [9] → HH [45] = H [45] → snap HH y12_5 = some (.sl (encL api_Span.enc o12_5)) := fun HH q0 q1 q2 => (by12_5.frame (H' := HH) (by intro k hk; simp only [List.mem_cons, List.not_mem_nil, or_false] at hk; rcases hk with rfl | rfl | rfl <;> assumption)).snap
  have t12_5 : ∀ HH : Heap, HH [7] = H [7] → HH [9] = H [9] → HH [45] = H [45] → elems HH 2 y12_5 = some (encL api_Span.enc o12_5) := fun HH q0 q1 q2 => (by12_5.frame (H' := HH) (by intro k hk; simp only [List.mem_cons, List.not_mem_nil, or_false] at hk; rcases hk with rfl | rfl | rfl <;> assumption)).elems
  simp only [D, DT, all_logA, Bool.or_true, reduceIte, reduceCtorEq, Nat.reduceEqDiff, Nat.reduceAdd, Nat.reduceLT, Nat.reduceLeDiff, Nat.reduceBEq, Int.reduceLE, Int.reduceLT, Int.reduceEq, Int.reduceNeg, mandolineref02_Near.l0B, g0_12, g1_12, g5_12, g6_12, s12_5, t12_5, by12_5.len, by12_5.cells, by12_5.solid, by12_5.like, c29_l0]
  cases h22 : (decide ((IntKind.i64.wrap (v12_6 + 1)) < (a0.length : Int)))
  · simp only [D, DT, all_logA, Bool.or_true, reduceIte, reduceCtorEq, Nat.reduceEqDiff, Nat.reduceAdd, Nat.reduceLT, Nat.reduceLeDiff, Nat.reduceBEq, Int.reduceLE, Int.reduceLT, Int.reduceEq, Int.reduceNeg, g0_12, g1_12, g5_12, g6_12, s12_5, t12_5, by12_5.len, by12_5.cells, by12_5.solid, by12_5.like, c29_l0, h22]
    exact (hx0 o12_5 _ _ _ rfl (by first | exact ((by12_5.frame (by first | (intro k _; rfl) | (intro k hk; simp only [List.mem_cons, List.not_mem_nil, or_false] at hk; rcases hk with rfl | rfl | rfl <;> simp only [D, DT, all_logA, Bool.or_true, reduceIte, reduceCtorEq, Nat.reduceEqDiff, Nat.reduceAdd, Nat.reduceLT, Nat.reduceLeDiff, Nat.reduceBEq, Int.reduceLE, Int.reduceLT, Int.reduceEq, Int.reduceNeg, g0_12, g1_12, g5_12, g6_12, s12_5, t12_5, by12_5.len, by12_5.cells, by12_5.solid, by12_5.like, c29_l0, h22]))).more (by simp)) | (simp only [D, DT, all_logA, Bool.or_true, reduceIte, reduceCtorEq, Nat.reduceEqDiff, Nat.reduceAdd, Nat.reduceLT, Nat.reduceLeDiff, Nat.reduceBEq, Int.reduceLE, Int.reduceLT, Int.reduceEq, Int.reduceNeg, g0_12, g1_12, g5_12, g6_12, s12_5, t12_5, by12_5.len, by12_5.cells, by12_5.solid, by12_5.like, c29_l0, h22]; exact ((by12_5.frame (by first | (intro k _; rfl) | (intro k hk; simp only [List.mem_cons, List.not_mem_nil, or_false] at hk; rcases hk with rfl | rfl | rfl <;> simp only [D, DT, all_logA, Bool.or_true, reduceIte, reduceCtorEq, Nat.reduceEqDiff, Nat.reduceAdd, Nat.reduceLT, Nat.reduceLeDiff, Nat.reduceBEq, Int.reduceLE, Int.reduceLT, Int.reduceEq, Int.reduceNeg, g0_12, g1_12, g5_12, g6_12, s12_5, t12_5, by12_5.len, by12_5.cells, by12_5.solid, by12_5.like, c29_l0, h22]))).more (by simp))))).trans (hd _).symm
  · simp only [D, DT, all_logA, Bool.or_true, reduceIte, reduceCtorEq, Nat.reduceEqDiff, Nat.reduceAdd, Nat.reduceLT, Nat.reduceLeDiff, Nat.reduceBEq, Int.reduceLE, Int.reduceLT, Int.reduceEq, Int.reduceNeg, g0_12, g1_12, g5_12, g6_12, s12_5, t12_5, by12_5.len, by12_5.cells, by12_5.solid, by12_5.like, c29_l0, h22]
    rcases h23 : idx a0 (IntKind.i64.wrap (v12_6 + 1)) with _ | x24
    · simp only [D, DT, all_logA, Bool.or_true, reduceIte, reduceCtorEq, Nat.reduceEqDiff, Nat.reduceAdd, Nat.reduceLT, Nat.reduceLeDiff, Nat.reduceBEq, Int.reduceLE, Int.reduceLT, Int.reduceEq, Int.reduceNeg, g0_12, g1_12, g5_12, g6_12, s12_5, t12_5, by12_5.len, by12_5.cells, by12_5.solid, by12_5.like, c29_l0, h22, h23]
    · simp only [D, DT, all_logA, Bool.or_true, reduceIte, reduceCtorEq, Nat.reduceEqDiff, Nat.reduceAdd, Nat.reduceLT, Nat.reduceLeDiff, Nat.reduceBEq, Int.reduceLE, Int.reduceLT, Int.reduceEq, Int.reduceNeg, g0_12, g1_12, g5_12, g6_12, s12_5, t12_5, by12_5.len, by12_5.cells, by12_5.solid, by12_5.like, c29_l0, h22, h23]
      rcases h25 : idx a0 v12_6 with _ | x26
      · simp only [D, DT, all_logA, Bool.or_true, reduceIte, reduceCtorEq, Nat.reduceEqDiff, Nat.reduceAdd, Nat.reduceLT, Nat.reduceLeDiff, Nat.reduceBEq, Int.reduceLE, Int.reduceLT, Int.reduceEq, Int.reduceNeg, g0_12, g1_12, g5_12, g6_12, s12_5, t12_5, by12_5.len, by12_5.cells, by12_5.solid, by12_5.like, c29_l0, h22, h23, h25]
      · simp only [D, DT, all_logA, Bool.or_true, reduceIte, reduceCtorEq, Nat.reduceEqDiff, Nat.reduceAdd, Nat.reduceLT, Nat.reduceLeDiff, Nat.reduceBEq, Int.reduceLE, Int.reduceLT, Int.reduceEq, Int.reduceNeg, g0_12, g1_12, g5_12, g6_12, s12_5, t12_5, by12_5.len, by12_5.cells, by12_5.solid, by12_5.like, c29_l0, h22, h23, h25]
        cases h27 : (decide ((IntKind.i64.wrap (x24.From - x26.To)) ≤ a1))
        · simp only [D, DT, all_logA, Bool.or_true, reduceIte, reduceCtorEq, Nat.reduceEqDiff, Nat.reduceAdd, Nat.reduceLT, Nat.reduceLeDiff, Nat.reduceBEq, Int.reduceLE, Int.reduceLT, Int.reduceEq, Int.reduceNeg, g0_12, g1_12, g5_12, g6_12, s12_5, t12_5, by12_5.len, by12_5.cells, by12_5.solid, by12_5.like, c29_l0, h22, h23, h25, h27]
          exact hn _ _ _ ⟨_, (by first | (simp only [D, DT, all_logA, Bool.or_true, reduceIte, reduceCtorEq, Nat.reduceEqDiff, Nat.reduceAdd, Nat.reduceLT, Nat.reduceLeDiff, Nat.reduceBEq, Int.reduceLE, Int.reduceLT, Int.reduceEq, Int.reduceNeg, g0_12, g1_12, g5_12, g6_12, s12_5, t12_5, by12_5.len, by12_5.cells, by12_5.solid, by12_5.like, c29_l0, h22, h23, h25, h27] <;> rfl) | rfl), (by first | (simp only [D, DT, all_logA, Bool.or_true, reduceIte, reduceCtorEq, Nat.reduceEqDiff, Nat.reduceAdd, Nat.reduceLT, Nat.reduceLeDiff, Nat.reduceBEq, Int.reduceLE, Int.reduceLT, Int.reduceEq, Int.reduceNeg, g0_12, g1_12, g5_12, g6_12, s12_5, t12_5, by12_5.len, by12_5.cells, by12_5.solid, by12_5.like, c29_l0, h22, h23, h25, h27] <;> rfl) | rfl), rfl, (by first | (simp only [D, DT, all_logA, Bool.or_true, reduceIte, reduceCtorEq, Nat.reduceEqDiff, Nat.reduceAdd, Nat.reduceLT, Nat.reduceLeDiff, Nat.reduceBEq, Int.reduceLE, Int.reduceLT, Int.reduceEq, Int.reduceNeg, g0_12, g1_12, g5_12, g6_12, s12_5, t12_5, by12_5.len, by12_5.cells, by12_5.solid, by12_5.like, c29_l0, h22, h23, h25, h27] <;> rfl) | rfl), (by first | exact ((by12_5.frame (by first | (intro k _; rfl) | (intro k hk; simp only [List.mem_cons, List.not_mem_nil, or_false] at hk; rcases hk with rfl | rfl | rfl <;> simp only [D, DT, all_logA, Bool.or_true, reduceIte, reduceCtorEq, Nat.reduceEqDiff, Nat.reduceAdd, Nat.reduceLT, Nat.reduceLeDiff, Nat.reduceBEq, Int.reduceLE, Int.reduceLT, Int.reduceEq, Int.reduceNeg, g0_12, g1_12, g5_12, g6_12, s12_5, t12_5, by12_5.len, by12_5.cells, by12_5.solid, by12_5.like, c29_l0, h22, h23, h25, h27]))).more (by simp)) | (simp only [D, DT, all_logA, Bool.or_true, reduceIte, reduceCtorEq, Nat.reduceEqDiff, Nat.reduceAdd, Nat.reduceLT, Nat.reduceLeDiff, Nat.reduceBEq, Int.reduceLE, Int.reduceLT, Int.reduceEq, Int.reduceNeg, g0_12, g1_12, g5_12, g6_12, s12_5, t12_5, by12_5.len, by12_5.cells, by12_5.solid, by12_5.like, c29_l0, h22, h23, h25, h27]; exact ((by12_5.frame (by first | (intro k _; rfl) | (intro k hk; simp only [List.mem_cons, List.not_mem_nil, or_false] at hk; rcases hk with rfl | rfl | rfl <;> simp only [D, DT, all_logA, Bool.or_true, reduceIte, reduceCtorEq, Nat.reduceEqDiff, Nat.reduceAdd, Nat.reduceLT, Nat.reduceLeDiff, Nat.reduceBEq, Int.reduceLE, Int.reduceLT, Int.reduceEq, Int.reduceNeg, g0_12, g1_12, g5_12, g6_12, s12_5, t12_5, by12_5.len, by12_5.cells, by12_5.solid, by12_5.like, c29_l0, h22, h23, h25, h27]))).more (by simp))))⟩
        · simp only [D, DT, all_logA, Bool.or_true, reduceIte, reduceCtorEq, Nat.reduceEqDiff, Nat.reduceAdd, Nat.reduceLT, Nat.reduceLeDiff, Nat.reduceBEq, Int.reduceLE, Int.reduceLT, Int.reduceEq, Int.reduceNeg, g0_12, g1_12, g5_12, g6_12, s12_5, t12_5, by12_5.len, by12_5.cells, by12_5.solid, by12_5.like, c29_l0, h22, h23, h25, h27]
          by_cases h28 : (o12_5.length + 1) * 16 ≤ room
          · refine step_push (f := api_Span.enc) (out := o12_5) (ys := ([(api_Span.mk x26.To x24.From)] : List api_Span)) by12_5 (by first | (intro k _; rfl) | (intro k hk; simp only [List.mem_cons, List.not_mem_nil, or_false] at hk; rcases hk with rfl | rfl | rfl <;> simp only [D, DT, all_logA, Bool.or_true, reduceIte, reduceCtorEq, Nat.reduceEqDiff, Nat.reduceAdd, Nat.reduceLT, Nat.reduceLeDiff, Nat.reduceBEq, Int.reduceLE, Int.reduceLT, Int.reduceEq, Int.reduceNeg, g0_12, g1_12, g5_12, g6_12, s12_5, t12_5, by12_5.len, by12_5.cells, by12_5.solid, by12_5.like, c29_l0, h22, h23, h25, h27])) (by first | (simp only [D, DT, all_logA, Bool.or_true, reduceIte, reduceCtorEq, Nat.reduceEqDiff, Nat.reduceAdd, Nat.reduceLT, Nat.reduceLeDiff, Nat.reduceBEq, Int.reduceLE, Int.reduceLT, Int.reduceEq, Int.reduceNeg, g0_12, g1_12, g5_12, g6_12, s12_5, t12_5, by12_5.len, by12_5.cells, by12_5.solid, by12_5.like, c29_l0, h22, h23, h25, h27] <;> rfl) | rfl) h28 (by simp) ?_
            intro y29 H29 b29 fr29
            have s29 : ∀ HH : Heap, HH [7] = H29 [7] → HH [9] = H29 [9] → HH [45] = H29 [45] → snap HH y29 = some (.sl (encL api_Span.enc (o12_5 ++ ([(api_Span.mk x26.To x24.From)] : List api_Span)))) := fun HH q0 q1 q2 => (b29.frame (H' := HH) (by intro k hk; simp only [List.mem_cons, List.not_mem_nil, or_false] at hk; rcases hk with rfl | rfl | rfl <;> assumption)).snap
            have t29 : ∀ HH : Heap, HH [7] = H29 [7] → HH [9] = H29 [9] → HH [45] = H29 [45] → elems HH 2 y29 = some (encL api_Span.enc (o12_5 ++ ([(api_Span.mk x26.To x24.From)] : List api_Span))) := fun HH q0 q1 q2 => (b29.frame (H' := HH) (by intro k hk; simp only [List.mem_cons, List.not_mem_nil, or_false] at hk; rcases hk with rfl | rfl | rfl <;> assumption)).elems
            simp only [D, DT, all_logA, Bool.or_true, reduceIte, reduceCtorEq, Nat.reduceEqDiff, Nat.reduceAdd, Nat.reduceLT, Nat.reduceLeDiff, Nat.reduceBEq, Int.reduceLE, Int.reduceLT, Int.reduceEq, Int.reduceNeg, g0_12, g1_12, g5_12, g6_12, s12_5, t12_5, by12_5.len, by12_5.cells, by12_5.solid, by12_5.like, c29_l0, h22, h23, h25, h27, h28, s29, t29, b29.len, b29.cells, b29.solid, b29.like]
            exact hn _ _ _ ⟨_, (by first | (simp only [D, DT, all_logA, Bool.or_true, reduceIte, reduceCtorEq, Nat.reduceEqDiff, Nat.reduceAdd, Nat.reduceLT, Nat.reduceLeDiff, Nat.reduceBEq, Int.reduceLE, Int.reduceLT, Int.reduceEq, Int.reduceNeg, g0_12, g1_12, g5_12, g6_12, s12_5, t12_5, by12_5.len, by12_5.cells, by12_5.solid, by12_5.like, c29_l0, h22, h23, h25, h27, h28, s29, t29, b29.len, b29.cells, b29.solid, b29.like] <;> rfl) | rfl), (by first | (simp only [D, DT, all_logA, Bool.or_true, reduceIte, reduceCtorEq, Nat.reduceEqDiff, Nat.reduceAdd, Nat.reduceLT, Nat.reduceLeDiff, Nat.reduceBEq, Int.reduceLE, Int.reduceLT, Int.reduceEq, Int.reduceNeg, g0_12, g1_12, g5_12, g6_12, s12_5, t12_5, by12_5.len, by12_5.cells, by12_5.solid, by12_5.like, c29_l0, h22, h23, h25, h27, h28, s29, t29, b29.len, b29.cells, b29.solid, b29.like] <;> rfl) | rfl), rfl, (by first | (simp only [D, DT, all_logA, Bool.or_true, reduceIte, reduceCtorEq, Nat.reduceEqDiff, Nat.reduceAdd, Nat.reduceLT, Nat.reduceLeDiff, Nat.reduceBEq, Int.reduceLE, Int.reduceLT, Int.reduceEq, Int.reduceNeg, g0_12, g1_12, g5_12, g6_12, s12_5, t12_5, by12_5.len, by12_5.cells, by12_5.solid, by12_5.like, c29_l0, h22, h23, h25, h27, h28, s29, t29, b29.len, b29.cells, b29.solid, b29.like] <;> rfl) | rfl), (by first | exact ((b29.frame (by first | (intro k _; rfl) | (intro k hk; simp only [List.mem_cons, List.not_mem_nil, or_false] at hk; rcases hk with rfl | rfl | rfl <;> simp only [D, DT, all_logA, Bool.or_true, reduceIte, reduceCtorEq, Nat.reduceEqDiff, Nat.reduceAdd, Nat.reduceLT, Nat.reduceLeDiff, Nat.reduceBEq, Int.reduceLE, Int.reduceLT, Int.reduceEq, Int.reduceNeg, g0_12, g1_12, g5_12, g6_12, s12_5, t12_5, by12_5.len, by12_5.cells, by12_5.solid, by12_5.like, c29_l0, h22, h23, h25, h27, h28, s29, t29, b29.len, b29.cells, b29.solid, b29.like]))).more (by simp)) | (simp only [D, DT, all_logA, Bool.or_true, reduceIte, reduceCtorEq, Nat.reduceEqDiff, Nat.reduceAdd, Nat.reduceLT, Nat.reduceLeDiff, Nat.reduceBEq, Int.reduceLE, Int.reduceLT, Int.reduceEq, Int.reduceNeg, g0_12, g1_12, g5_12, g6_12, s12_5, t12_5, by12_5.len, by12_5.cells, by12_5.solid, by12_5.like, c29_l0, h22, h23, h25, h27, h28, s29, t29, b29.len, b29.cells, b29.solid, b29.like]; exact ((b29.frame (by first | (intro k _; rfl) | (intro k hk; simp only [List.mem_cons, List.not_mem_nil, or_false] at hk; rcases hk with rfl | rfl | rfl <;> simp only [D, DT, all_logA, Bool.or_true, reduceIte, reduceCtorEq, Nat.reduceEqDiff, Nat.reduceAdd, Nat.reduceLT, Nat.reduceLeDiff, Nat.reduceBEq, Int.reduceLE, Int.reduceLT, Int.reduceEq, Int.reduceNeg, g0_12, g1_12, g5_12, g6_12, s12_5, t12_5, by12_5.len, by12_5.cells, by12_5.solid, by12_5.like, c29_l0, h22, h23, h25, h27, h28, s29, t29, b29.len, b29.cells, b29.solid, b29.like]))).more (by simp))))⟩
          · refine (step_push_no (f := api_Span.enc) (out := o12_5) (ys := ([(api_Span.mk x26.To x24.From)] : List api_Span)) by12_5 (by first | (intro k _; rfl) | (intro k hk; simp only [List.mem_cons, List.not_mem_nil, or_false] at hk; rcases hk with rfl | rfl | rfl <;> simp only [D, DT, all_logA, Bool.or_true, reduceIte, reduceCtorEq, Nat.reduceEqDiff, Nat.reduceAdd, Nat.reduceLT, Nat.reduceLeDiff, Nat.reduceBEq, Int.reduceLE, Int.reduceLT, Int.reduceEq, Int.reduceNeg, g0_12, g1_12, g5_12, g6_12, s12_5, t12_5, by12_5.len, by12_5.cells, by12_5.solid, by12_5.like, c29_l0, h22, h23, h25, h27])) (by first | (simp only [D, DT, all_logA, Bool.or_true, reduceIte, reduceCtorEq, Nat.reduceEqDiff, Nat.reduceAdd, Nat.reduceLT, Nat.reduceLeDiff, Nat.reduceBEq, Int.reduceLE, Int.reduceLT, Int.reduceEq, Int.reduceNeg, g0_12, g1_12, g5_12, g6_12, s12_5, t12_5, by12_5.len, by12_5.cells, by12_5.solid, by12_5.like, c29_l0, h22, h23, h25, h27] <;> rfl) | rfl) h28).trans ?_
            simp only [D, DT, all_logA, Bool.or_true, reduceIte, reduceCtorEq, Nat.reduceEqDiff, Nat.reduceAdd, Nat.reduceLT, Nat.reduceLeDiff, Nat.reduceBEq, Int.reduceLE, Int.reduceLT, Int.reduceEq, Int.reduceNeg, h28, g0_12, g1_12, g5_12, g6_12, s12_5, t12_5, by12_5.len, by12_5.cells, by12_5.solid, by12_5.like, c29_l0, h22, h23, h25, h27]
noncomputable def mandolineref02_Near.a0 : mandolineref02_Near.l0X → Option (List api_Span)
  | .x0 o21_5 =>
    (mandolineref02_Of.f o21_5).bind fun x33 =>
    some x33
noncomputable def mandolineref02_Near.f (a0 : (List api_Span)) (a1 : Int) : Option (List api_Span) :=
  if a0.length * 16 ≤ room then
    (loopL (fun (s : (List api_Span) × Int) => mandolineref02_Near.l0B a0 a1 s.1 s.2) (a0, 0)).bind (mandolineref02_Near.a0)
  else none
set_option maxHeartbeats 4000000 in
theorem mandolineref02_Near.ok (a0 : (List api_Span)) (a1 : Int) : ansL X 29 [(.sl (encL api_Span.enc a0)), (.int .i64 a1)] = Option.map encS_api_Span (mandolineref02_Near.f a0 a1) := by
  rw [ansL_run (fd := c29) rfl rfl]
  simp only [D, DT, all_logA, Bool.or_true, reduceIte, reduceCtorEq, Nat.reduceEqDiff, Nat.reduceAdd, Nat.reduceLT, Nat.reduceLeDiff, Nat.reduceBEq, Int.reduceLE, Int.reduceLT, Int.reduceEq, Int.reduceNeg, c29, mandolineref02_Near.f]
  by_cases h1 : a0.length * 16 ≤ room
  · refine step_push (f := api_Span.enc) (out := ([] : List api_Span)) (ys := a0) (Buf.own (ks := [[7], [9], [45]]) (es := encL api_Span.enc ([] : List api_Span)) (by simp) (by simp [encL_length]) (by first | (simp only [D, DT, all_logA, Bool.or_true, reduceIte, reduceCtorEq, Nat.reduceEqDiff, Nat.reduceAdd, Nat.reduceLT, Nat.reduceLeDiff, Nat.reduceBEq, Int.reduceLE, Int.reduceLT, Int.reduceEq, Int.reduceNeg] <;> rfl) | rfl)) (fun _ _ => rfl) (by first | (simp only [D, DT, all_logA, Bool.or_true, reduceIte, reduceCtorEq, Nat.reduceEqDiff, Nat.reduceAdd, Nat.reduceLT, Nat.reduceLeDiff, Nat.reduceBEq, Int.reduceLE, Int.reduceLT, Int.reduceEq, Int.reduceNeg] <;> rfl) | rfl) (by simpa using h1) (by simp) ?_
    intro y2 H2 b2 fr2
    have s2 : ∀ HH : Heap, HH [7] = H2 [7] → HH [9] = H2 [9] → HH [45] = H2 [45] → snap HH y2 = some (.sl (encL api_Span.enc a0)) := fun HH q0 q1 q2 => (b2.frame (H' := HH) (by intro k hk; simp only [List.mem_cons, List.not_mem_nil, or_false] at hk; rcases hk with rfl | rfl | rfl <;> assumption)).snap
    have t2 : ∀ HH : Heap, HH [7] = H2 [7] → HH [9] = H2 [9] → HH [45] = H2 [45] → elems HH 2 y2 = some (encL api_Span.enc a0) := fun HH q0 q1 q2 => (b2.frame (H' := HH) (by intro k hk; simp only [List.mem_cons, List.not_mem_nil, or_false] at hk; rcases hk with rfl | rfl | rfl <;> assumption)).elems
    simp only [D, DT, all_logA, Bool.or_true, reduceIte, reduceCtorEq, Nat.reduceEqDiff, Nat.reduceAdd, Nat.reduceLT, Nat.reduceLeDiff, Nat.reduceBEq, Int.reduceLE, Int.reduceLT, Int.reduceEq, Int.reduceNeg, h1, s2, t2, b2.len, b2.cells, b2.solid, b2.like]
    refine Eq.trans (mandolineref02_Near.l0_ok (fun x => Option.map encS_api_Span (mandolineref02_Near.a0 x)) a0 a1 ?_ a0 0 _ _ _ (by first | (simp only [D, DT, all_logA, Bool.or_true, reduceIte, reduceCtorEq, Nat.reduceEqDiff, Nat.reduceAdd, Nat.reduceLT, Nat.reduceLeDiff, Nat.reduceBEq, Int.reduceLE, Int.reduceLT, Int.reduceEq, Int.reduceNeg, h1, s2, t2, b2.len, b2.cells, b2.solid, b2.like] <;> rfl) | rfl) (by first | (simp only [D, DT, all_logA, Bool.or_true, reduceIte, reduceCtorEq, Nat.reduceEqDiff, Nat.reduceAdd, Nat.reduceLT, Nat.reduceLeDiff, Nat.reduceBEq, Int.reduceLE, Int.reduceLT, Int.reduceEq, Int.reduceNeg, h1, s2, t2, b2.len, b2.cells, b2.solid, b2.like] <;> rfl) | rfl) rfl (by first | (simp only [D, DT, all_logA, Bool.or_true, reduceIte, reduceCtorEq, Nat.reduceEqDiff, Nat.reduceAdd, Nat.reduceLT, Nat.reduceLeDiff, Nat.reduceBEq, Int.reduceLE, Int.reduceLT, Int.reduceEq, Int.reduceNeg, h1, s2, t2, b2.len, b2.cells, b2.solid, b2.like] <;> rfl) | rfl) (by first | exact ((b2.frame (by first | (intro k _; rfl) | (intro k hk; simp only [List.mem_cons, List.not_mem_nil, or_false] at hk; rcases hk with rfl | rfl | rfl <;> simp only [D, DT, all_logA, Bool.or_true, reduceIte, reduceCtorEq, Nat.reduceEqDiff, Nat.reduceAdd, Nat.reduceLT, Nat.reduceLeDiff, Nat.reduceBEq, Int.reduceLE, Int.reduceLT, Int.reduceEq, Int.reduceNeg, h1, s2, t2, b2.len, b2.cells, b2.solid, b2.like]))).more (by simp)) | (simp only [D, DT, all_logA, Bool.or_true, reduceIte, reduceCtorEq, Nat.reduceEqDiff, Nat.reduceAdd, Nat.reduceLT, Nat.reduceLeDiff, Nat.reduceBEq, Int.reduceLE, Int.reduceLT, Int.reduceEq, Int.reduceNeg, h1, s2, t2, b2.len, b2.cells, b2.solid, b2.like]; exact ((b2.frame (by first | (intro k _; rfl) | (intro k hk; simp only [List.mem_cons, List.not_mem_nil, or_false] at hk; rcases hk with rfl | rfl | rfl <;> simp only [D, DT, all_logA, Bool.or_true, reduceIte, reduceCtorEq, Nat.reduceEqDiff, Nat.reduceAdd, Nat.reduceLT, Nat.reduceLeDiff, Nat.reduceBEq, Int.reduceLE, Int.reduceLT, Int.reduceEq, Int.reduceNeg, h1, s2, t2, b2.len, b2.cells, b2.solid, b2.like]))).more (by simp))))) ?_
    · intro o21_5 y21_5 e_30 H_30 g5_21_30 by21_5_30
      have s21_5 : ∀ HH : Heap, HH [7] = H_30 [7] → HH [9] = H_30 [9] → HH [45] = H_30 [45] → snap HH y21_5 = some (.sl (encL api_Span.enc o21_5)) := fun HH q0 q1 q2 => (by21_5_30.frame (H' := HH) (by intro k hk; simp only [List.mem_cons, List.not_mem_nil, or_false] at hk; rcases hk with rfl | rfl | rfl <;> assumption)).snap
      have t21_5 : ∀ HH : Heap, HH [7] = H_30 [7] → HH [9] = H_30 [9] → HH [45] = H_30 [45] → elems HH 2 y21_5 = some (encL api_Span.enc o21_5) := fun HH q0 q1 q2 => (by21_5_30.frame (H' := HH) (by intro k hk; simp only [List.mem_cons, List.not_mem_nil, or_false] at hk; rcases hk with rfl | rfl | rfl <;> assumption)).elems
      simp only [D, DT, all_logA, Bool.or_true, reduceIte, reduceCtorEq, Nat.reduceEqDiff, Nat.reduceAdd, Nat.reduceLT, Nat.reduceLeDiff, Nat.reduceBEq, Int.reduceLE, Int.reduceLT, Int.reduceEq, Int.reduceNeg, mandolineref02_Near.a0, h1, s2, t2, b2.len, b2.cells, b2.solid, b2.like, g5_21_30, s21_5, t21_5, by21_5_30.len, by21_5_30.cells, by21_5_30.solid, by21_5_30.like]
      have c31 : ansL X 16 [(.sl (encL api_Span.enc o21_5))] = Option.map encS_api_Span (mandolineref02_Of.f o21_5) := mandolineref02_Of.ok o21_5
      rcases h32 : mandolineref02_Of.f o21_5 with _ | x33
      · simp only [D, DT, all_logA, Bool.or_true, reduceIte, reduceCtorEq, Nat.reduceEqDiff, Nat.reduceAdd, Nat.reduceLT, Nat.reduceLeDiff, Nat.reduceBEq, Int.reduceLE, Int.reduceLT, Int.reduceEq, Int.reduceNeg, h1, s2, t2, b2.len, b2.cells, b2.solid, b2.like, g5_21_30, s21_5, t21_5, by21_5_30.len, by21_5_30.cells, by21_5_30.solid, by21_5_30.like, c31, h32]
      · refine step_ans_kill (r := (.sl (encL api_Span.enc x33))) (by rw [c31, h32]; rfl) (by first | rfl | simp only [D, DT]) by21_5_30 (by first | (intro k _; rfl) | (intro k hk; simp only [List.mem_cons, List.not_mem_nil, or_false] at hk; rcases hk with rfl | rfl | rfl <;> simp only [D, DT, all_logA, Bool.or_true, reduceIte, reduceCtorEq, Nat.reduceEqDiff, Nat.reduceAdd, Nat.reduceLT, Nat.reduceLeDiff, Nat.reduceBEq, Int.reduceLE, Int.reduceLT, Int.reduceEq, Int.reduceNeg, h1, s2, t2, b2.len, b2.cells, b2.solid, b2.like, g5_21_30, s21_5, t21_5, by21_5_30.len, by21_5_30.cells, by21_5_30.solid, by21_5_30.like])) ?_
        intro H34 fr34
        simp only [D, DT, all_logA, Bool.or_true, reduceIte, reduceCtorEq, Nat.reduceEqDiff, Nat.reduceAdd, Nat.reduceLT, Nat.reduceLeDiff, Nat.reduceBEq, Int.reduceLE, Int.reduceLT, Int.reduceEq, Int.reduceNeg, h1, s2, t2, b2.len, b2.cells, b2.solid, b2.like, g5_21_30, c31, h32]
        try rfl
    exact mb _ _ _
  · refine (step_push_no (f := api_Span.enc) (out := ([] : List api_Span)) (ys := a0) (Buf.own (ks := [[7], [9], [45]]) (es := encL api_Span.enc ([] : List api_Span)) (by simp) (by simp [encL_length]) (by first | (simp only [D, DT, all_logA, Bool.or_true, reduceIte, reduceCtorEq, Nat.reduceEqDiff, Nat.reduceAdd, Nat.reduceLT, Nat.reduceLeDiff, Nat.reduceBEq, Int.reduceLE, Int.reduceLT, Int.reduceEq, Int.reduceNeg] <;> rfl) | rfl)) (fun _ _ => rfl) (by first | (simp only [D, DT, all_logA, Bool.or_true, reduceIte, reduceCtorEq, Nat.reduceEqDiff, Nat.reduceAdd, Nat.reduceLT, Nat.reduceLeDiff, Nat.reduceBEq, Int.reduceLE, Int.reduceLT, Int.reduceEq, Int.reduceNeg] <;> rfl) | rfl) (by simpa using h1)).trans ?_
    simp only [D, DT, all_logA, Bool.or_true, reduceIte, reduceCtorEq, Nat.reduceEqDiff, Nat.reduceAdd, Nat.reduceLT, Nat.reduceLeDiff, Nat.reduceBEq, Int.reduceLE, Int.reduceLT, Int.reduceEq, Int.reduceNeg, h1]
inductive ranges_Set_Same.l0X where
  | x0
  | ret
noncomputable def ranges_Set_Same.l0B (a0 : ranges_Set) (a1 : ranges_Set) (v9_13 : Int) : Option (Step (Int) ranges_Set_Same.l0X) :=
  bif (decide (v9_13 < (a0.l_.length : Int))) then
    (idx a0.l_ v9_13).bind fun x20 =>
    (idx a1.l_ v9_13).bind fun x22 =>
    bif ((decide (x20.From = x22.From)) && (decide (x20.To = x22.To))) then
      some (.next (IntKind.i64.wrap (v9_13 + 1)))
    else
      some (.done (.ret))
  else
    some (.done (.x0))
set_option maxHeartbeats 4000000 in
theorem ranges_Set_Same.l0_ok {α : Type} {F : Env → Heap → Option α} {K : List Fr} (fin : ranges_Set_Same.l0X → Option α) (a0 : ranges_Set) (a1 : ranges_Set)
    (hx0 : ∀ (e : Env) (H : Heap), outL X [] F K e H 0 = fin (.x0))
    (hret : ∀ (e : Env) (H : Heap), e 4 = (.bool false) → F e H = fin (.ret)) (v9_13 : Int) (e : Env) (H : Heap) (g0_9 : e 0 = (.sl (encL api_Span.enc a0.l_))) (g1_9 : e 1 = (.sl (encL api_Span.enc a1.l_))) (g12_9 : e 12 = (.int .i64 (a0.l_.length : Int))) (g13_9 : e 13 = (.int .i64 v9_13)) :
    runL X [] F (.c (.loop c50_l0) :: K) e H = (loopL (ranges_Set_Same.l0B a0 a1) v9_13).bind fin := by
  refine loop_of (R := fun (v9_13 : Int) (e : Env) (H : Heap) => e 0 = (.sl (encL api_Span.enc a0.l_)) ∧ e 1 = (.sl (encL api_Span.enc a1.l_)) ∧ e 12 = (.int .i64 (a0.l_.length : Int)) ∧ e 13 = (.int .i64 v9_13)) fin ?_ ⟨g0_9, g1_9, g12_9, g13_9⟩
  clear g13_9 g12_9 g1_9 g0_9 e H v9_13
  intro n G hn hd s e H hR
  revert hR; revert s; intro v9_13 hR
  obtain ⟨g0_9, g1_9, g12_9, g13_9⟩ := hR
  simp only [D, DT, all_logA, Bool.or_true, reduceIte, reduceCtorEq, Nat.reduceEqDiff, Nat.reduceAdd, Nat.reduceLT, Nat.reduceLeDiff, Nat.reduceBEq, Int.reduceLE, Int.reduceLT, Int.reduceEq, Int.reduceNeg, ranges_Set_Same.l0B, g0_9, g1_9, g12_9, g13_9, c50_l0]
  cases h18 : (decide (v9_13 < (a0.l_.length : Int)))
  · simp only [D, DT, all_logA, Bool.or_true, reduceIte, reduceCtorEq, Nat.reduceEqDiff, Nat.reduceAdd, Nat.reduceLT, Nat.reduceLeDiff, Nat.reduceBEq, Int.reduceLE, Int.reduceLT, Int.reduceEq, Int.reduceNeg, g0_9, g1_9, g12_9, g13_9, c50_l0, h18]
    exact (hx0 _ _).trans (hd _).symm
  · simp only [D, DT, all_logA, Bool.or_true, reduceIte, reduceCtorEq, Nat.reduceEqDiff, Nat.reduceAdd, Nat.reduceLT, Nat.reduceLeDiff, Nat.reduceBEq, Int.reduceLE, Int.reduceLT, Int.reduceEq, Int.reduceNeg, g0_9, g1_9, g12_9, g13_9, c50_l0, h18]
    rcases h19 : idx a0.l_ v9_13 with _ | x20
    · simp only [D, DT, all_logA, Bool.or_true, reduceIte, reduceCtorEq, Nat.reduceEqDiff, Nat.reduceAdd, Nat.reduceLT, Nat.reduceLeDiff, Nat.reduceBEq, Int.reduceLE, Int.reduceLT, Int.reduceEq, Int.reduceNeg, g0_9, g1_9, g12_9, g13_9, c50_l0, h18, h19]
    · simp only [D, DT, all_logA, Bool.or_true, reduceIte, reduceCtorEq, Nat.reduceEqDiff, Nat.reduceAdd, Nat.reduceLT, Nat.reduceLeDiff, Nat.reduceBEq, Int.reduceLE, Int.reduceLT, Int.reduceEq, Int.reduceNeg, g0_9, g1_9, g12_9, g13_9, c50_l0, h18, h19]
      rcases h21 : idx a1.l_ v9_13 with _ | x22
      · simp only [D, DT, all_logA, Bool.or_true, reduceIte, reduceCtorEq, Nat.reduceEqDiff, Nat.reduceAdd, Nat.reduceLT, Nat.reduceLeDiff, Nat.reduceBEq, Int.reduceLE, Int.reduceLT, Int.reduceEq, Int.reduceNeg, g0_9, g1_9, g12_9, g13_9, c50_l0, h18, h19, h21]
      · simp only [D, DT, all_logA, Bool.or_true, reduceIte, reduceCtorEq, Nat.reduceEqDiff, Nat.reduceAdd, Nat.reduceLT, Nat.reduceLeDiff, Nat.reduceBEq, Int.reduceLE, Int.reduceLT, Int.reduceEq, Int.reduceNeg, g0_9, g1_9, g12_9, g13_9, c50_l0, h18, h19, h21]
        cases h23 : ((decide (x20.From = x22.From)) && (decide (x20.To = x22.To)))
        · simp only [D, DT, all_logA, Bool.or_true, reduceIte, reduceCtorEq, Nat.reduceEqDiff, Nat.reduceAdd, Nat.reduceLT, Nat.reduceLeDiff, Nat.reduceBEq, Int.reduceLE, Int.reduceLT, Int.reduceEq, Int.reduceNeg, g0_9, g1_9, g12_9, g13_9, c50_l0, h18, h19, h21, h23]
          exact (hret _ _ (by first | (simp only [D, DT, all_logA, Bool.or_true, reduceIte, reduceCtorEq, Nat.reduceEqDiff, Nat.reduceAdd, Nat.reduceLT, Nat.reduceLeDiff, Nat.reduceBEq, Int.reduceLE, Int.reduceLT, Int.reduceEq, Int.reduceNeg, g0_9, g1_9, g12_9, g13_9, c50_l0, h18, h19, h21, h23] <;> rfl) | rfl)).trans (hd _).symm
        · simp only [D, DT, all_logA, Bool.or_true, reduceIte, reduceCtorEq, Nat.reduceEqDiff, Nat.reduceAdd, Nat.reduceLT, Nat.reduceLeDiff, Nat.reduceBEq, Int.reduceLE, Int.reduceLT, Int.reduceEq, Int.reduceNeg, g0_9, g1_9, g12_9, g13_9, c50_l0, h18, h19, h21, h23]
          exact hn _ _ _ ⟨(by first | (simp only [D, DT, all_logA, Bool.or_true, reduceIte, reduceCtorEq, Nat.reduceEqDiff, Nat.reduceAdd, Nat.reduceLT, Nat.reduceLeDiff, Nat.reduceBEq, Int.reduceLE, Int.reduceLT, Int.reduceEq, Int.reduceNeg, g0_9, g1_9, g12_9, g13_9, c50_l0, h18, h19, h21, h23] <;> rfl) | rfl), (by first | (simp only [D, DT, all_logA, Bool.or_true, reduceIte, reduceCtorEq, Nat.reduceEqDiff, Nat.reduceAdd, Nat.reduceLT, Nat.reduceLeDiff, Nat.reduceBEq, Int.reduceLE, Int.reduceLT, Int.reduceEq, Int.reduceNeg, g0_9, g1_9, g12_9, g13_9, c50_l0, h18, h19, h21, h23] <;> rfl) | rfl), (by first | (simp only [D, DT, all_logA, Bool.or_true, reduceIte, reduceCtorEq, Nat.reduceEqDiff, Nat.reduceAdd, Nat.reduceLT, Nat.reduceLeDiff, Nat.reduceBEq, Int.reduceLE, Int.reduceLT, Int.reduceEq, Int.reduceNeg, g0_9, g1_9, g12_9, g13_9, c50_l0, h18, h19, h21, h23] <;> rfl) | rfl), (by first | (simp only [D, DT, all_logA, Bool.or_true, reduceIte, reduceCtorEq, Nat.reduceEqDiff, Nat.reduceAdd, Nat.reduceLT, Nat.reduceLeDiff, Nat.reduceBEq, Int.reduceLE, Int.reduceLT, Int.reduceEq, Int.reduceNeg, g0_9, g1_9, g12_9, g13_9, c50_l0, h18, h19, h21, h23] <;> rfl) | rfl)⟩
noncomputable def ranges_Set_Same.a0 : ranges_Set_Same.l0X → Option Bool
  | .x0 =>
    some true
  | .ret =>
    some false
noncomputable def ranges_Set_Same.f (a0 : ranges_Set) (a1 : ranges_Set) : Option Bool :=
  bif (decide ((a0.l_.length : Int) = (a1.l_.length : Int))) then
    (loopL (ranges_Set_Same.l0B a0 a1) 0).bind (ranges_Set_Same.a0)
  else
    some false
set_option maxHeartbeats 4000000 in
theorem ranges_Set_Same.ok (a0 : ranges_Set) (a1 : ranges_Set) : ansL X 30 [(.agg [(.sl (encL api_Span.enc a0.l_))]), (.agg [(.sl (encL api_Span.enc a1.l_))])] = Option.map AV.bool (ranges_Set_Same.f a0 a1) := by
  rw [ansL_run (fd := c30) rfl rfl]
  simp only [D, DT, all_logA, Bool.or_true, reduceIte, reduceCtorEq, Nat.reduceEqDiff, Nat.reduceAdd, Nat.reduceLT, Nat.reduceLeDiff, Nat.reduceBEq, Int.reduceLE, Int.reduceLT, Int.reduceEq, Int.reduceNeg, c30, ranges_Set_Same.f]
  rw [ans_in (fd := c50) rfl rfl]
  simp only [D, DT, all_logA, Bool.or_true, reduceIte, reduceCtorEq, Nat.reduceEqDiff, Nat.reduceAdd, Nat.reduceLT, Nat.reduceLeDiff, Nat.reduceBEq, Int.reduceLE, Int.reduceLT, Int.reduceEq, Int.reduceNeg, c50]
  cases h1 : (decide ((a0.l_.length : Int) = (a1.l_.length : Int)))
  · simp only [D, DT, all_logA, Bool.or_true, reduceIte, reduceCtorEq, Nat.reduceEqDiff, Nat.reduceAdd, Nat.reduceLT, Nat.reduceLeDiff, Nat.reduceBEq, Int.reduceLE, Int.reduceLT, Int.reduceEq, Int.reduceNeg, h1]
    try rfl
  · simp only [D, DT, all_logA, Bool.or_true, reduceIte, reduceCtorEq, Nat.reduceEqDiff, Nat.reduceAdd, Nat.reduceLT, Nat.reduceLeDiff, Nat.reduceBEq, Int.reduceLE, Int.reduceLT, Int.reduceEq, Int.reduceNeg, h1]
    refine Eq.trans (ranges_Set_Same.l0_ok (fun x => Option.map AV.bool (ranges_Set_Same.a0 x)) a0 a1 ?_ ?_ 0 _ _ (by first | (simp only [D, DT, all_logA, Bool.or_true, reduceIte, reduceCtorEq, Nat.reduceEqDiff, Nat.reduceAdd, Nat.reduceLT, Nat.reduceLeDiff, Nat.reduceBEq, Int.reduceLE, Int.reduceLT, Int.reduceEq, Int.reduceNeg, h1] <;> rfl) | rfl) (by first | (simp only [D, DT, all_logA, Bool.or_true, reduceIte, reduceCtorEq, Nat.reduceEqDiff, Nat.reduceAdd, Nat.reduceLT, Nat.reduceLeDiff, Nat.reduceBEq, Int.reduceLE, Int.reduceLT, Int.reduceEq, Int.reduceNeg, h1] <;> rfl) | rfl) (by first | (simp only [D, DT, all_logA, Bool.or_true, reduceIte, reduceCtorEq, Nat.reduceEqDiff, Nat.reduceAdd, Nat.reduceLT, Nat.reduceLeDiff, Nat.reduceBEq, Int.reduceLE, Int.reduceLT, Int.reduceEq, Int.reduceNeg, h1] <;> rfl) | rfl) (by first | (simp only [D, DT, all_logA, Bool.or_true, reduceIte, reduceCtorEq, Nat.reduceEqDiff, Nat.reduceAdd, Nat.reduceLT, Nat.reduceLeDiff, Nat.reduceBEq, Int.reduceLE, Int.reduceLT, Int.reduceEq, Int.reduceNeg, h1] <;> rfl) | rfl)) ?_
    · intro e_24 H_24
      simp only [D, DT, all_logA, Bool.or_true, reduceIte, reduceCtorEq, Nat.reduceEqDiff, Nat.reduceAdd, Nat.reduceLT, Nat.reduceLeDiff, Nat.reduceBEq, Int.reduceLE, Int.reduceLT, Int.reduceEq, Int.reduceNeg, ranges_Set_Same.a0, h1]
      try rfl
    · intro e_25 H_25 g4_17_25
      simp only [D, DT, all_logA, Bool.or_true, reduceIte, reduceCtorEq, Nat.reduceEqDiff, Nat.reduceAdd, Nat.reduceLT, Nat.reduceLeDiff, Nat.reduceBEq, Int.reduceLE, Int.reduceLT, Int.reduceEq, Int.reduceNeg, ranges_Set_Same.a0, h1, g4_17_25]
      try rfl
    exact mb _ _ _
noncomputable def mandolinelaw02_RangesNear.f (a0 : (List api_Span)) (a1 : Int) : Option Bool :=
  (mandolinelaw02_wakes.f).bind fun x3 =>
  bif x3 then
    (mandolinelaw02_great.f [a0]).bind fun x7 =>
    bif x7 then
      some true
    else
      (ranges_Of.f a0).bind fun x11 =>
      (ranges_Set_Near.f x11 a1).bind fun x14 =>
      (ranges_Set_Spans.f x14).bind fun x17 =>
      (mandolineref02_Of.f a0).bind fun x20 =>
      (mandolineref02_Near.f x20 a1).bind fun x23 =>
      (mandolineref02_List.f x17 x23).bind fun x26 =>
      bif x26 then
        (ranges_Set_Near.f x14 a1).bind fun x30 =>
        (ranges_Set_Same.f x30 x14).bind fun x33 =>
        some x33
      else
        some false
  else
    some false
set_option maxHeartbeats 4000000 in
theorem mandolinelaw02_RangesNear.ok (a0 : (List api_Span)) (a1 : Int) : ansL X 7 [(.sl (encL api_Span.enc a0)), (.int .i64 a1)] = Option.map AV.bool (mandolinelaw02_RangesNear.f a0 a1) := by
  rw [ansL_run (fd := c7) rfl rfl]
  simp only [D, DT, all_logA, Bool.or_true, reduceIte, reduceCtorEq, Nat.reduceEqDiff, Nat.reduceAdd, Nat.reduceLT, Nat.reduceLeDiff, Nat.reduceBEq, Int.reduceLE, Int.reduceLT, Int.reduceEq, Int.reduceNeg, c7, mandolinelaw02_RangesNear.f]
  have c1 : ansL X 11 [] = Option.map AV.bool (mandolinelaw02_wakes.f) := mandolinelaw02_wakes.ok
  rcases h2 : mandolinelaw02_wakes.f with _ | x3
  · simp only [D, DT, all_logA, Bool.or_true, reduceIte, reduceCtorEq, Nat.reduceEqDiff, Nat.reduceAdd, Nat.reduceLT, Nat.reduceLeDiff, Nat.reduceBEq, Int.reduceLE, Int.reduceLT, Int.reduceEq, Int.reduceNeg, c1, h2]
  · simp only [D, DT, all_logA, Bool.or_true, reduceIte, reduceCtorEq, Nat.reduceEqDiff, Nat.reduceAdd, Nat.reduceLT, Nat.reduceLeDiff, Nat.reduceBEq, Int.reduceLE, Int.reduceLT, Int.reduceEq, Int.reduceNeg, c1, h2]
    cases h4 : x3
    · simp only [D, DT, all_logA, Bool.or_true, reduceIte, reduceCtorEq, Nat.reduceEqDiff, Nat.reduceAdd, Nat.reduceLT, Nat.reduceLeDiff, Nat.reduceBEq, Int.reduceLE, Int.reduceLT, Int.reduceEq, Int.reduceNeg, c1, h2, h4]
      try rfl
    · simp only [D, DT, all_logA, Bool.or_true, reduceIte, reduceCtorEq, Nat.reduceEqDiff, Nat.reduceAdd, Nat.reduceLT, Nat.reduceLeDiff, Nat.reduceBEq, Int.reduceLE, Int.reduceLT, Int.reduceEq, Int.reduceNeg, c1, h2, h4]
      have c5 : ansL X 12 [(.sl [(.sl (encL api_Span.enc a0))])] = Option.map AV.bool (mandolinelaw02_great.f [a0]) := mandolinelaw02_great.ok [a0]
      rcases h6 : mandolinelaw02_great.f [a0] with _ | x7
      · simp only [D, DT, all_logA, Bool.or_true, reduceIte, reduceCtorEq, Nat.reduceEqDiff, Nat.reduceAdd, Nat.reduceLT, Nat.reduceLeDiff, Nat.reduceBEq, Int.reduceLE, Int.reduceLT, Int.reduceEq, Int.reduceNeg, c1, h2, h4, c5, h6]
      · simp only [D, DT, all_logA, Bool.or_true, reduceIte, reduceCtorEq, Nat.reduceEqDiff, Nat.reduceAdd, Nat.reduceLT, Nat.reduceLeDiff, Nat.reduceBEq, Int.reduceLE, Int.reduceLT, Int.reduceEq, Int.reduceNeg, c1, h2, h4, c5, h6]
        cases h8 : x7
        · simp only [D, DT, all_logA, Bool.or_true, reduceIte, reduceCtorEq, Nat.reduceEqDiff, Nat.reduceAdd, Nat.reduceLT, Nat.reduceLeDiff, Nat.reduceBEq, Int.reduceLE, Int.reduceLT, Int.reduceEq, Int.reduceNeg, c1, h2, h4, c5, h6, h8]
          have c9 : ansL X 13 [(.sl (encL api_Span.enc a0))] = Option.map ranges_Set.enc (ranges_Of.f a0) := ranges_Of.ok a0
          rcases h10 : ranges_Of.f a0 with _ | x11
          · simp only [D, DT, all_logA, Bool.or_true, reduceIte, reduceCtorEq, Nat.reduceEqDiff, Nat.reduceAdd, Nat.reduceLT, Nat.reduceLeDiff, Nat.reduceBEq, Int.reduceLE, Int.reduceLT, Int.reduceEq, Int.reduceNeg, c1, h2, h4, c5, h6, h8, c9, h10]
          · simp only [D, DT, all_logA, Bool.or_true, reduceIte, reduceCtorEq, Nat.reduceEqDiff, Nat.reduceAdd, Nat.reduceLT, Nat.reduceLeDiff, Nat.reduceBEq, Int.reduceLE, Int.reduceLT, Int.reduceEq, Int.reduceNeg, c1, h2, h4, c5, h6, h8, c9, h10]
            have c12 : ansL X 28 [(.agg [(.sl (encL api_Span.enc x11.l_))]), (.int .i64 a1)] = Option.map ranges_Set.enc (ranges_Set_Near.f x11 a1) := ranges_Set_Near.ok x11 a1
            rcases h13 : ranges_Set_Near.f x11 a1 with _ | x14
            · simp only [D, DT, all_logA, Bool.or_true, reduceIte, reduceCtorEq, Nat.reduceEqDiff, Nat.reduceAdd, Nat.reduceLT, Nat.reduceLeDiff, Nat.reduceBEq, Int.reduceLE, Int.reduceLT, Int.reduceEq, Int.reduceNeg, c1, h2, h4, c5, h6, h8, c9, h10, c12, h13]
            · simp only [D, DT, all_logA, Bool.or_true, reduceIte, reduceCtorEq, Nat.reduceEqDiff, Nat.reduceAdd, Nat.reduceLT, Nat.reduceLeDiff, Nat.reduceBEq, Int.reduceLE, Int.reduceLT, Int.reduceEq, Int.reduceNeg, c1, h2, h4, c5, h6, h8, c9, h10, c12, h13]
              have c15 : ansL X 25 [(.agg [(.sl (encL api_Span.enc x14.l_))])] = Option.map encS_api_Span (ranges_Set_Spans.f x14) := ranges_Set_Spans.ok x14
              rcases h16 : ranges_Set_Spans.f x14 with _ | x17
              · simp only [D, DT, all_logA, Bool.or_true, reduceIte, reduceCtorEq, Nat.reduceEqDiff, Nat.reduceAdd, Nat.reduceLT, Nat.reduceLeDiff, Nat.reduceBEq, Int.reduceLE, Int.reduceLT, Int.reduceEq, Int.reduceNeg, c1, h2, h4, c5, h6, h8, c9, h10, c12, h13, c15, h16]
              · simp only [D, DT, all_logA, Bool.or_true, reduceIte, reduceCtorEq, Nat.reduceEqDiff, Nat.reduceAdd, Nat.reduceLT, Nat.reduceLeDiff, Nat.reduceBEq, Int.reduceLE, Int.reduceLT, Int.reduceEq, Int.reduceNeg, c1, h2, h4, c5, h6, h8, c9, h10, c12, h13, c15, h16]
                have c18 : ansL X 16 [(.sl (encL api_Span.enc a0))] = Option.map encS_api_Span (mandolineref02_Of.f a0) := mandolineref02_Of.ok a0
                rcases h19 : mandolineref02_Of.f a0 with _ | x20
                · simp only [D, DT, all_logA, Bool.or_true, reduceIte, reduceCtorEq, Nat.reduceEqDiff, Nat.reduceAdd, Nat.reduceLT, Nat.reduceLeDiff, Nat.reduceBEq, Int.reduceLE, Int.reduceLT, Int.reduceEq, Int.reduceNeg, c1, h2, h4, c5, h6, h8, c9, h10, c12, h13, c15, h16, c18, h19]
                · simp only [D, DT, all_logA, Bool.or_true, reduceIte, reduceCtorEq, Nat.reduceEqDiff, Nat.reduceAdd, Nat.reduceLT, Nat.reduceLeDiff, Nat.reduceBEq, Int.reduceLE, Int.reduceLT, Int.reduceEq, Int.reduceNeg, c1, h2, h4, c5, h6, h8, c9, h10, c12, h13, c15, h16, c18, h19]
                  have c21 : ansL X 29 [(.sl (encL api_Span.enc x20)), (.int .i64 a1)] = Option.map encS_api_Span (mandolineref02_Near.f x20 a1) := mandolineref02_Near.ok x20 a1
                  rcases h22 : mandolineref02_Near.f x20 a1 with _ | x23
                  · simp only [D, DT, all_logA, Bool.or_true, reduceIte, reduceCtorEq, Nat.reduceEqDiff, Nat.reduceAdd, Nat.reduceLT, Nat.reduceLeDiff, Nat.reduceBEq, Int.reduceLE, Int.reduceLT, Int.reduceEq, Int.reduceNeg, c1, h2, h4, c5, h6, h8, c9, h10, c12, h13, c15, h16, c18, h19, c21, h22]
                  · simp only [D, DT, all_logA, Bool.or_true, reduceIte, reduceCtorEq, Nat.reduceEqDiff, Nat.reduceAdd, Nat.reduceLT, Nat.reduceLeDiff, Nat.reduceBEq, Int.reduceLE, Int.reduceLT, Int.reduceEq, Int.reduceNeg, c1, h2, h4, c5, h6, h8, c9, h10, c12, h13, c15, h16, c18, h19, c21, h22]
                    have c24 : ansL X 24 [(.sl (encL api_Span.enc x17)), (.sl (encL api_Span.enc x23))] = Option.map AV.bool (mandolineref02_List.f x17 x23) := mandolineref02_List.ok x17 x23
                    rcases h25 : mandolineref02_List.f x17 x23 with _ | x26
                    · simp only [D, DT, all_logA, Bool.or_true, reduceIte, reduceCtorEq, Nat.reduceEqDiff, Nat.reduceAdd, Nat.reduceLT, Nat.reduceLeDiff, Nat.reduceBEq, Int.reduceLE, Int.reduceLT, Int.reduceEq, Int.reduceNeg, c1, h2, h4, c5, h6, h8, c9, h10, c12, h13, c15, h16, c18, h19, c21, h22, c24, h25]
                    · simp only [D, DT, all_logA, Bool.or_true, reduceIte, reduceCtorEq, Nat.reduceEqDiff, Nat.reduceAdd, Nat.reduceLT, Nat.reduceLeDiff, Nat.reduceBEq, Int.reduceLE, Int.reduceLT, Int.reduceEq, Int.reduceNeg, c1, h2, h4, c5, h6, h8, c9, h10, c12, h13, c15, h16, c18, h19, c21, h22, c24, h25]
                      cases h27 : x26
                      · simp only [D, DT, all_logA, Bool.or_true, reduceIte, reduceCtorEq, Nat.reduceEqDiff, Nat.reduceAdd, Nat.reduceLT, Nat.reduceLeDiff, Nat.reduceBEq, Int.reduceLE, Int.reduceLT, Int.reduceEq, Int.reduceNeg, c1, h2, h4, c5, h6, h8, c9, h10, c12, h13, c15, h16, c18, h19, c21, h22, c24, h25, h27]
                        try rfl
                      · simp only [D, DT, all_logA, Bool.or_true, reduceIte, reduceCtorEq, Nat.reduceEqDiff, Nat.reduceAdd, Nat.reduceLT, Nat.reduceLeDiff, Nat.reduceBEq, Int.reduceLE, Int.reduceLT, Int.reduceEq, Int.reduceNeg, c1, h2, h4, c5, h6, h8, c9, h10, c12, h13, c15, h16, c18, h19, c21, h22, c24, h25, h27]
                        have c28 : ansL X 28 [(.agg [(.sl (encL api_Span.enc x14.l_))]), (.int .i64 a1)] = Option.map ranges_Set.enc (ranges_Set_Near.f x14 a1) := ranges_Set_Near.ok x14 a1
                        rcases h29 : ranges_Set_Near.f x14 a1 with _ | x30
                        · simp only [D, DT, all_logA, Bool.or_true, reduceIte, reduceCtorEq, Nat.reduceEqDiff, Nat.reduceAdd, Nat.reduceLT, Nat.reduceLeDiff, Nat.reduceBEq, Int.reduceLE, Int.reduceLT, Int.reduceEq, Int.reduceNeg, c1, h2, h4, c5, h6, h8, c9, h10, c12, h13, c15, h16, c18, h19, c21, h22, c24, h25, h27, c28, h29]
                        · simp only [D, DT, all_logA, Bool.or_true, reduceIte, reduceCtorEq, Nat.reduceEqDiff, Nat.reduceAdd, Nat.reduceLT, Nat.reduceLeDiff, Nat.reduceBEq, Int.reduceLE, Int.reduceLT, Int.reduceEq, Int.reduceNeg, c1, h2, h4, c5, h6, h8, c9, h10, c12, h13, c15, h16, c18, h19, c21, h22, c24, h25, h27, c28, h29]
                          have c31 : ansL X 30 [(.agg [(.sl (encL api_Span.enc x30.l_))]), (.agg [(.sl (encL api_Span.enc x14.l_))])] = Option.map AV.bool (ranges_Set_Same.f x30 x14) := ranges_Set_Same.ok x30 x14
                          rcases h32 : ranges_Set_Same.f x30 x14 with _ | x33
                          · simp only [D, DT, all_logA, Bool.or_true, reduceIte, reduceCtorEq, Nat.reduceEqDiff, Nat.reduceAdd, Nat.reduceLT, Nat.reduceLeDiff, Nat.reduceBEq, Int.reduceLE, Int.reduceLT, Int.reduceEq, Int.reduceNeg, c1, h2, h4, c5, h6, h8, c9, h10, c12, h13, c15, h16, c18, h19, c21, h22, c24, h25, h27, c28, h29, c31, h32]
                          · simp only [D, DT, all_logA, Bool.or_true, reduceIte, reduceCtorEq, Nat.reduceEqDiff, Nat.reduceAdd, Nat.reduceLT, Nat.reduceLeDiff, Nat.reduceBEq, Int.reduceLE, Int.reduceLT, Int.reduceEq, Int.reduceNeg, c1, h2, h4, c5, h6, h8, c9, h10, c12, h13, c15, h16, c18, h19, c21, h22, c24, h25, h27, c28, h29, c31, h32]
                            try rfl
        · simp only [D, DT, all_logA, Bool.or_true, reduceIte, reduceCtorEq, Nat.reduceEqDiff, Nat.reduceAdd, Nat.reduceLT, Nat.reduceLeDiff, Nat.reduceBEq, Int.reduceLE, Int.reduceLT, Int.reduceEq, Int.reduceNeg, c1, h2, h4, c5, h6, h8]
          try rfl
end Go.Proofs.YtcahamgecejmnaaDoor
