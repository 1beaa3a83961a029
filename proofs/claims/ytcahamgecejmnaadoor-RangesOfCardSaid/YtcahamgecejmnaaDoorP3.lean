/-
  Plain functions: mandolineref02_First, mandolinelaw02_great, mandolineref02_List, ranges_Set_Spans, span_Text, ranges_Set_Text, mandolinelaw02_wakes, mandolinelaw02_RangesAt, mandolinelaw02_RangesStops, span_Within, ranges_Set_Holds, mandolineref02_Less, mandolineref02_Holds, mandolinelaw02_RangesHolds. Its conditions: none.
-/
import Derived.Test.YtcahamgecejmnaaDoorP2
namespace Go.Proofs.YtcahamgecejmnaaDoor
open Go Go.Den
set_option maxRecDepth 100000
set_option linter.unusedSimpArgs false
set_option linter.unusedVariables false
inductive mandolineref02_First.l0X where
  | x0
  | ret (v14_h4_0_0 : Int) (v14_h4_0_1 : Int)
noncomputable def mandolineref02_First.l0B (a0 : (List api_Span)) (a1 : Int) (v7_6 : Int) : Option (Step (Int) mandolineref02_First.l0X) :=
  bif (decide (v7_6 < (a0.length : Int))) then
    (idx a0 v7_6).bind fun x17 =>
    bif (decide (a1 < x17.To)) then
      bif (decide (x17.From < a1)) then
        some (.done (.ret a1 x17.To))
      else
        some (.done (.ret x17.From x17.To))
    else
      some (.next (IntKind.i64.wrap (v7_6 + 1)))
  else
    some (.done (.x0))
set_option maxHeartbeats 4000000 in
theorem mandolineref02_First.l0_ok {α : Type} {F : Env → Heap → Option α} {K : List Fr} (fin : mandolineref02_First.l0X → Option α) (a0 : (List api_Span)) (a1 : Int)
    (hx0 : ∀ (e : Env) (H : Heap), e 4 = (.ptr [4] 1 0 0) → H [4] = (1, some ⟨false, false, 2, [(.agg [(.int .i64 0), (.int .i64 0)])]⟩) → outL X [] F K e H 0 = fin (.x0))
    (hret : ∀ (v14_h4_0_0 : Int) (v14_h4_0_1 : Int) (e : Env) (H : Heap), e 4 = (.ptr [4] 1 0 0) → e 5 = (.bool true) → H [4] = (1, some ⟨false, false, 2, [(.agg [(.int .i64 v14_h4_0_0), (.int .i64 v14_h4_0_1)])]⟩) → F e H = fin (.ret v14_h4_0_0 v14_h4_0_1)) (v7_6 : Int) (e : Env) (H : Heap) (g0_7 : e 0 = (.sl (encL api_Span.enc a0))) (g1_7 : e 1 = (.int .i64 a1)) (g4_7 : e 4 = (.ptr [4] 1 0 0)) (g6_7 : e 6 = (.int .i64 v7_6)) (k4_7 : H [4] = (1, some ⟨false, false, 2, [(.agg [(.int .i64 0), (.int .i64 0)])]⟩)) :
    runL X [] F (.c (.loop c15_l0) :: K) e H = (loopL (mandolineref02_First.l0B a0 a1) v7_6).bind fin := by
  refine loop_of (R := fun (v7_6 : Int) (e : Env) (H : Heap) => e 0 = (.sl (encL api_Span.enc a0)) ∧ e 1 = (.int .i64 a1) ∧ e 4 = (.ptr [4] 1 0 0) ∧ e 6 = (.int .i64 v7_6) ∧ H [4] = (1, some ⟨false, false, 2, [(.agg [(.int .i64 0), (.int .i64 0)])]⟩)) fin ?_ ⟨g0_7, g1_7, g4_7, g6_7, k4_7⟩
  clear k4_7 g6_7 g4_7 g1_7 g0_7 e H v7_6
  intro n G hn hd s e H hR
  revert hR; revert s; intro v7_6 hR
  obtain ⟨g0_7, g1_7, g4_7, g6_7, k4_7⟩ := hR
  simp only [D, DT, reduceIte, reduceCtorEq, Nat.reduceEqDiff, Nat.reduceAdd, Nat.reduceLT, Nat.reduceLeDiff, Nat.reduceBEq, Int.reduceLE, Int.reduceLT, Int.reduceEq, Int.reduceNeg, mandolineref02_First.l0B, g0_7, g1_7, g4_7, g6_7, k4_7, c15_l0]
  cases h15 : (decide (v7_6 < (a0.length : Int)))
  · simp only [D, DT, reduceIte, reduceCtorEq, Nat.reduceEqDiff, Nat.reduceAdd, Nat.reduceLT, Nat.reduceLeDiff, Nat.reduceBEq, Int.reduceLE, Int.reduceLT, Int.reduceEq, Int.reduceNeg, g0_7, g1_7, g4_7, g6_7, k4_7, c15_l0, h15]
    exact (hx0 _ _ (by first | (simp only [D, DT, reduceIte, reduceCtorEq, Nat.reduceEqDiff, Nat.reduceAdd, Nat.reduceLT, Nat.reduceLeDiff, Nat.reduceBEq, Int.reduceLE, Int.reduceLT, Int.reduceEq, Int.reduceNeg, g0_7, g1_7, g4_7, g6_7, k4_7, c15_l0, h15] <;> rfl) | rfl) (by first | (simp only [D, DT, reduceIte, reduceCtorEq, Nat.reduceEqDiff, Nat.reduceAdd, Nat.reduceLT, Nat.reduceLeDiff, Nat.reduceBEq, Int.reduceLE, Int.reduceLT, Int.reduceEq, Int.reduceNeg, g0_7, g1_7, g4_7, g6_7, k4_7, c15_l0, h15] <;> rfl) | rfl)).trans (hd _).symm
  · simp only [D, DT, reduceIte, reduceCtorEq, Nat.reduceEqDiff, Nat.reduceAdd, Nat.reduceLT, Nat.reduceLeDiff, Nat.reduceBEq, Int.reduceLE, Int.reduceLT, Int.reduceEq, Int.reduceNeg, g0_7, g1_7, g4_7, g6_7, k4_7, c15_l0, h15]
    rcases h16 : idx a0 v7_6 with _ | x17
    · simp only [D, DT, reduceIte, reduceCtorEq, Nat.reduceEqDiff, Nat.reduceAdd, Nat.reduceLT, Nat.reduceLeDiff, Nat.reduceBEq, Int.reduceLE, Int.reduceLT, Int.reduceEq, Int.reduceNeg, g0_7, g1_7, g4_7, g6_7, k4_7, c15_l0, h15, h16]
    · simp only [D, DT, reduceIte, reduceCtorEq, Nat.reduceEqDiff, Nat.reduceAdd, Nat.reduceLT, Nat.reduceLeDiff, Nat.reduceBEq, Int.reduceLE, Int.reduceLT, Int.reduceEq, Int.reduceNeg, g0_7, g1_7, g4_7, g6_7, k4_7, c15_l0, h15, h16]
      cases h18 : (decide (a1 < x17.To))
      · simp only [D, DT, reduceIte, reduceCtorEq, Nat.reduceEqDiff, Nat.reduceAdd, Nat.reduceLT, Nat.reduceLeDiff, Nat.reduceBEq, Int.reduceLE, Int.reduceLT, Int.reduceEq, Int.reduceNeg, g0_7, g1_7, g4_7, g6_7, k4_7, c15_l0, h15, h16, h18]
        exact hn _ _ _ ⟨(by first | (simp only [D, DT, reduceIte, reduceCtorEq, Nat.reduceEqDiff, Nat.reduceAdd, Nat.reduceLT, Nat.reduceLeDiff, Nat.reduceBEq, Int.reduceLE, Int.reduceLT, Int.reduceEq, Int.reduceNeg, g0_7, g1_7, g4_7, g6_7, k4_7, c15_l0, h15, h16, h18] <;> rfl) | rfl), (by first | (simp only [D, DT, reduceIte, reduceCtorEq, Nat.reduceEqDiff, Nat.reduceAdd, Nat.reduceLT, Nat.reduceLeDiff, Nat.reduceBEq, Int.reduceLE, Int.reduceLT, Int.reduceEq, Int.reduceNeg, g0_7, g1_7, g4_7, g6_7, k4_7, c15_l0, h15, h16, h18] <;> rfl) | rfl), (by first | (simp only [D, DT, reduceIte, reduceCtorEq, Nat.reduceEqDiff, Nat.reduceAdd, Nat.reduceLT, Nat.reduceLeDiff, Nat.reduceBEq, Int.reduceLE, Int.reduceLT, Int.reduceEq, Int.reduceNeg, g0_7, g1_7, g4_7, g6_7, k4_7, c15_l0, h15, h16, h18] <;> rfl) | rfl), (by first | (simp only [D, DT, reduceIte, reduceCtorEq, Nat.reduceEqDiff, Nat.reduceAdd, Nat.reduceLT, Nat.reduceLeDiff, Nat.reduceBEq, Int.reduceLE, Int.reduceLT, Int.reduceEq, Int.reduceNeg, g0_7, g1_7, g4_7, g6_7, k4_7, c15_l0, h15, h16, h18] <;> rfl) | rfl), (by first | (simp only [D, DT, reduceIte, reduceCtorEq, Nat.reduceEqDiff, Nat.reduceAdd, Nat.reduceLT, Nat.reduceLeDiff, Nat.reduceBEq, Int.reduceLE, Int.reduceLT, Int.reduceEq, Int.reduceNeg, g0_7, g1_7, g4_7, g6_7, k4_7, c15_l0, h15, h16, h18] <;> rfl) | rfl)⟩
      · simp only [D, DT, reduceIte, reduceCtorEq, Nat.reduceEqDiff, Nat.reduceAdd, Nat.reduceLT, Nat.reduceLeDiff, Nat.reduceBEq, Int.reduceLE, Int.reduceLT, Int.reduceEq, Int.reduceNeg, g0_7, g1_7, g4_7, g6_7, k4_7, c15_l0, h15, h16, h18]
        cases h19 : (decide (x17.From < a1))
        · simp only [D, DT, reduceIte, reduceCtorEq, Nat.reduceEqDiff, Nat.reduceAdd, Nat.reduceLT, Nat.reduceLeDiff, Nat.reduceBEq, Int.reduceLE, Int.reduceLT, Int.reduceEq, Int.reduceNeg, g0_7, g1_7, g4_7, g6_7, k4_7, c15_l0, h15, h16, h18, h19]
          exact (hret x17.From x17.To _ _ (by first | (simp only [D, DT, reduceIte, reduceCtorEq, Nat.reduceEqDiff, Nat.reduceAdd, Nat.reduceLT, Nat.reduceLeDiff, Nat.reduceBEq, Int.reduceLE, Int.reduceLT, Int.reduceEq, Int.reduceNeg, g0_7, g1_7, g4_7, g6_7, k4_7, c15_l0, h15, h16, h18, h19] <;> rfl) | rfl) (by first | (simp only [D, DT, reduceIte, reduceCtorEq, Nat.reduceEqDiff, Nat.reduceAdd, Nat.reduceLT, Nat.reduceLeDiff, Nat.reduceBEq, Int.reduceLE, Int.reduceLT, Int.reduceEq, Int.reduceNeg, g0_7, g1_7, g4_7, g6_7, k4_7, c15_l0, h15, h16, h18, h19] <;> rfl) | rfl) (by first | (simp only [D, DT, reduceIte, reduceCtorEq, Nat.reduceEqDiff, Nat.reduceAdd, Nat.reduceLT, Nat.reduceLeDiff, Nat.reduceBEq, Int.reduceLE, Int.reduceLT, Int.reduceEq, Int.reduceNeg, g0_7, g1_7, g4_7, g6_7, k4_7, c15_l0, h15, h16, h18, h19] <;> rfl) | rfl)).trans (hd _).symm
        · simp only [D, DT, reduceIte, reduceCtorEq, Nat.reduceEqDiff, Nat.reduceAdd, Nat.reduceLT, Nat.reduceLeDiff, Nat.reduceBEq, Int.reduceLE, Int.reduceLT, Int.reduceEq, Int.reduceNeg, g0_7, g1_7, g4_7, g6_7, k4_7, c15_l0, h15, h16, h18, h19]
          exact (hret a1 x17.To _ _ (by first | (simp only [D, DT, reduceIte, reduceCtorEq, Nat.reduceEqDiff, Nat.reduceAdd, Nat.reduceLT, Nat.reduceLeDiff, Nat.reduceBEq, Int.reduceLE, Int.reduceLT, Int.reduceEq, Int.reduceNeg, g0_7, g1_7, g4_7, g6_7, k4_7, c15_l0, h15, h16, h18, h19] <;> rfl) | rfl) (by first | (simp only [D, DT, reduceIte, reduceCtorEq, Nat.reduceEqDiff, Nat.reduceAdd, Nat.reduceLT, Nat.reduceLeDiff, Nat.reduceBEq, Int.reduceLE, Int.reduceLT, Int.reduceEq, Int.reduceNeg, g0_7, g1_7, g4_7, g6_7, k4_7, c15_l0, h15, h16, h18, h19] <;> rfl) | rfl) (by first | (simp only [D, DT, reduceIte, reduceCtorEq, Nat.reduceEqDiff, Nat.reduceAdd, Nat.reduceLT, Nat.reduceLeDiff, Nat.reduceBEq, Int.reduceLE, Int.reduceLT, Int.reduceEq, Int.reduceNeg, g0_7, g1_7, g4_7, g6_7, k4_7, c15_l0, h15, h16, h18, h19] <;> rfl) | rfl)).trans (hd _).symm
noncomputable def mandolineref02_First.a0 : mandolineref02_First.l0X → Option (api_Span × Bool)
  | .x0 =>
    some ((api_Span.mk 0 0), false)
  | .ret v14_h4_0_0 v14_h4_0_1 =>
    some ((api_Span.mk v14_h4_0_0 v14_h4_0_1), true)
noncomputable def mandolineref02_First.f (a0 : (List api_Span)) (a1 : Int) : Option (api_Span × Bool) :=
  (loopL (mandolineref02_First.l0B a0 a1) 0).bind (mandolineref02_First.a0)
set_option maxHeartbeats 4000000 in
theorem mandolineref02_First.ok (a0 : (List api_Span)) (a1 : Int) : ansL X 15 [(.sl (encL api_Span.enc a0)), (.int .i64 a1)] = Option.map (fun r : (api_Span × Bool) => AV.tup [(.agg [(.int .i64 r.1.From), (.int .i64 r.1.To)]), (.bool r.2)]) (mandolineref02_First.f a0 a1) := by
  rw [ansL_run (fd := c15) rfl rfl]
  simp only [D, DT, reduceIte, reduceCtorEq, Nat.reduceEqDiff, Nat.reduceAdd, Nat.reduceLT, Nat.reduceLeDiff, Nat.reduceBEq, Int.reduceLE, Int.reduceLT, Int.reduceEq, Int.reduceNeg, c15, mandolineref02_First.f]
  refine Eq.trans (mandolineref02_First.l0_ok (fun x => Option.map (fun r : (api_Span × Bool) => AV.tup [(.agg [(.int .i64 r.1.From), (.int .i64 r.1.To)]), (.bool r.2)]) (mandolineref02_First.a0 x)) a0 a1 ?_ ?_ 0 _ _ (by first | (simp only [D, DT, reduceIte, reduceCtorEq, Nat.reduceEqDiff, Nat.reduceAdd, Nat.reduceLT, Nat.reduceLeDiff, Nat.reduceBEq, Int.reduceLE, Int.reduceLT, Int.reduceEq, Int.reduceNeg] <;> rfl) | rfl) (by first | (simp only [D, DT, reduceIte, reduceCtorEq, Nat.reduceEqDiff, Nat.reduceAdd, Nat.reduceLT, Nat.reduceLeDiff, Nat.reduceBEq, Int.reduceLE, Int.reduceLT, Int.reduceEq, Int.reduceNeg] <;> rfl) | rfl) (by first | (simp only [D, DT, reduceIte, reduceCtorEq, Nat.reduceEqDiff, Nat.reduceAdd, Nat.reduceLT, Nat.reduceLeDiff, Nat.reduceBEq, Int.reduceLE, Int.reduceLT, Int.reduceEq, Int.reduceNeg] <;> rfl) | rfl) (by first | (simp only [D, DT, reduceIte, reduceCtorEq, Nat.reduceEqDiff, Nat.reduceAdd, Nat.reduceLT, Nat.reduceLeDiff, Nat.reduceBEq, Int.reduceLE, Int.reduceLT, Int.reduceEq, Int.reduceNeg] <;> rfl) | rfl) (by first | (simp only [D, DT, reduceIte, reduceCtorEq, Nat.reduceEqDiff, Nat.reduceAdd, Nat.reduceLT, Nat.reduceLeDiff, Nat.reduceBEq, Int.reduceLE, Int.reduceLT, Int.reduceEq, Int.reduceNeg] <;> rfl) | rfl)) ?_
  · intro e_20 H_20 g4_13_20 k4_13_20
    simp only [D, DT, reduceIte, reduceCtorEq, Nat.reduceEqDiff, Nat.reduceAdd, Nat.reduceLT, Nat.reduceLeDiff, Nat.reduceBEq, Int.reduceLE, Int.reduceLT, Int.reduceEq, Int.reduceNeg, mandolineref02_First.a0, g4_13_20, k4_13_20]
    try rfl
  · intro v14_h4_0_0 v14_h4_0_1 e_21 H_21 g4_14_21 g5_14_21 k4_14_21
    simp only [D, DT, reduceIte, reduceCtorEq, Nat.reduceEqDiff, Nat.reduceAdd, Nat.reduceLT, Nat.reduceLeDiff, Nat.reduceBEq, Int.reduceLE, Int.reduceLT, Int.reduceEq, Int.reduceNeg, mandolineref02_First.a0, g4_14_21, g5_14_21, k4_14_21]
    try rfl
  exact mb _ _ _
inductive mandolinelaw02_great.l0X where
  | x0
  | ret
noncomputable def mandolinelaw02_great.l0B (a0 : (List (List api_Span))) (v6_7 : Int) : Option (Step (Int) mandolinelaw02_great.l0X) :=
  bif (decide (v6_7 < (a0.length : Int))) then
    (idx a0 v6_7).bind fun x15 =>
    bif (decide ((20 : Int) < (x15.length : Int))) then
      some (.done (.ret))
    else
      some (.next (IntKind.i64.wrap (v6_7 + 1)))
  else
    some (.done (.x0))
set_option maxHeartbeats 4000000 in
theorem mandolinelaw02_great.l0_ok {α : Type} {F : Env → Heap → Option α} {K : List Fr} (fin : mandolinelaw02_great.l0X → Option α) (a0 : (List (List api_Span)))
    (hx0 : ∀ (e : Env) (H : Heap), outL X [] F K e H 0 = fin (.x0))
    (hret : ∀ (e : Env) (H : Heap), e 2 = (.bool true) → F e H = fin (.ret)) (v6_7 : Int) (e : Env) (H : Heap) (g5_6 : e 5 = (.sl (encL encS_api_Span a0))) (g6_6 : e 6 = (.int .i64 (a0.length : Int))) (g7_6 : e 7 = (.int .i64 v6_7)) :
    runL X [] F (.c (.loop c12_l0) :: K) e H = (loopL (mandolinelaw02_great.l0B a0) v6_7).bind fin := by
  refine loop_of (R := fun (v6_7 : Int) (e : Env) (H : Heap) => e 5 = (.sl (encL encS_api_Span a0)) ∧ e 6 = (.int .i64 (a0.length : Int)) ∧ e 7 = (.int .i64 v6_7)) fin ?_ ⟨g5_6, g6_6, g7_6⟩
  clear g7_6 g6_6 g5_6 e H v6_7
  intro n G hn hd s e H hR
  revert hR; revert s; intro v6_7 hR
  obtain ⟨g5_6, g6_6, g7_6⟩ := hR
  simp only [D, DT, reduceIte, reduceCtorEq, Nat.reduceEqDiff, Nat.reduceAdd, Nat.reduceLT, Nat.reduceLeDiff, Nat.reduceBEq, Int.reduceLE, Int.reduceLT, Int.reduceEq, Int.reduceNeg, mandolinelaw02_great.l0B, g5_6, g6_6, g7_6, c12_l0]
  cases h13 : (decide (v6_7 < (a0.length : Int)))
  · simp only [D, DT, reduceIte, reduceCtorEq, Nat.reduceEqDiff, Nat.reduceAdd, Nat.reduceLT, Nat.reduceLeDiff, Nat.reduceBEq, Int.reduceLE, Int.reduceLT, Int.reduceEq, Int.reduceNeg, g5_6, g6_6, g7_6, c12_l0, h13]
    exact (hx0 _ _).trans (hd _).symm
  · simp only [D, DT, reduceIte, reduceCtorEq, Nat.reduceEqDiff, Nat.reduceAdd, Nat.reduceLT, Nat.reduceLeDiff, Nat.reduceBEq, Int.reduceLE, Int.reduceLT, Int.reduceEq, Int.reduceNeg, g5_6, g6_6, g7_6, c12_l0, h13]
    rcases h14 : idx a0 v6_7 with _ | x15
    · simp only [D, DT, reduceIte, reduceCtorEq, Nat.reduceEqDiff, Nat.reduceAdd, Nat.reduceLT, Nat.reduceLeDiff, Nat.reduceBEq, Int.reduceLE, Int.reduceLT, Int.reduceEq, Int.reduceNeg, g5_6, g6_6, g7_6, c12_l0, h13, h14]
    · simp only [D, DT, reduceIte, reduceCtorEq, Nat.reduceEqDiff, Nat.reduceAdd, Nat.reduceLT, Nat.reduceLeDiff, Nat.reduceBEq, Int.reduceLE, Int.reduceLT, Int.reduceEq, Int.reduceNeg, g5_6, g6_6, g7_6, c12_l0, h13, h14]
      cases h16 : (decide ((20 : Int) < (x15.length : Int)))
      · simp only [D, DT, reduceIte, reduceCtorEq, Nat.reduceEqDiff, Nat.reduceAdd, Nat.reduceLT, Nat.reduceLeDiff, Nat.reduceBEq, Int.reduceLE, Int.reduceLT, Int.reduceEq, Int.reduceNeg, g5_6, g6_6, g7_6, c12_l0, h13, h14, h16]
        exact hn _ _ _ ⟨(by first | (simp only [D, DT, reduceIte, reduceCtorEq, Nat.reduceEqDiff, Nat.reduceAdd, Nat.reduceLT, Nat.reduceLeDiff, Nat.reduceBEq, Int.reduceLE, Int.reduceLT, Int.reduceEq, Int.reduceNeg, g5_6, g6_6, g7_6, c12_l0, h13, h14, h16] <;> rfl) | rfl), (by first | (simp only [D, DT, reduceIte, reduceCtorEq, Nat.reduceEqDiff, Nat.reduceAdd, Nat.reduceLT, Nat.reduceLeDiff, Nat.reduceBEq, Int.reduceLE, Int.reduceLT, Int.reduceEq, Int.reduceNeg, g5_6, g6_6, g7_6, c12_l0, h13, h14, h16] <;> rfl) | rfl), (by first | (simp only [D, DT, reduceIte, reduceCtorEq, Nat.reduceEqDiff, Nat.reduceAdd, Nat.reduceLT, Nat.reduceLeDiff, Nat.reduceBEq, Int.reduceLE, Int.reduceLT, Int.reduceEq, Int.reduceNeg, g5_6, g6_6, g7_6, c12_l0, h13, h14, h16] <;> rfl) | rfl)⟩
      · simp only [D, DT, reduceIte, reduceCtorEq, Nat.reduceEqDiff, Nat.reduceAdd, Nat.reduceLT, Nat.reduceLeDiff, Nat.reduceBEq, Int.reduceLE, Int.reduceLT, Int.reduceEq, Int.reduceNeg, g5_6, g6_6, g7_6, c12_l0, h13, h14, h16]
        exact (hret _ _ (by first | (simp only [D, DT, reduceIte, reduceCtorEq, Nat.reduceEqDiff, Nat.reduceAdd, Nat.reduceLT, Nat.reduceLeDiff, Nat.reduceBEq, Int.reduceLE, Int.reduceLT, Int.reduceEq, Int.reduceNeg, g5_6, g6_6, g7_6, c12_l0, h13, h14, h16] <;> rfl) | rfl)).trans (hd _).symm
noncomputable def mandolinelaw02_great.a0 : mandolinelaw02_great.l0X → Option Bool
  | .x0 =>
    some false
  | .ret =>
    some true
noncomputable def mandolinelaw02_great.f (a0 : (List (List api_Span))) : Option Bool :=
  (loopL (mandolinelaw02_great.l0B a0) 0).bind (mandolinelaw02_great.a0)
set_option maxHeartbeats 4000000 in
theorem mandolinelaw02_great.ok (a0 : (List (List api_Span))) : ansL X 12 [(.sl (encL encS_api_Span a0))] = Option.map AV.bool (mandolinelaw02_great.f a0) := by
  rw [ansL_run (fd := c12) rfl rfl]
  simp only [D, DT, reduceIte, reduceCtorEq, Nat.reduceEqDiff, Nat.reduceAdd, Nat.reduceLT, Nat.reduceLeDiff, Nat.reduceBEq, Int.reduceLE, Int.reduceLT, Int.reduceEq, Int.reduceNeg, c12, mandolinelaw02_great.f]
  refine Eq.trans (mandolinelaw02_great.l0_ok (fun x => Option.map AV.bool (mandolinelaw02_great.a0 x)) a0 ?_ ?_ 0 _ _ (by first | (simp only [D, DT, reduceIte, reduceCtorEq, Nat.reduceEqDiff, Nat.reduceAdd, Nat.reduceLT, Nat.reduceLeDiff, Nat.reduceBEq, Int.reduceLE, Int.reduceLT, Int.reduceEq, Int.reduceNeg] <;> rfl) | rfl) (by first | (simp only [D, DT, reduceIte, reduceCtorEq, Nat.reduceEqDiff, Nat.reduceAdd, Nat.reduceLT, Nat.reduceLeDiff, Nat.reduceBEq, Int.reduceLE, Int.reduceLT, Int.reduceEq, Int.reduceNeg] <;> rfl) | rfl) (by first | (simp only [D, DT, reduceIte, reduceCtorEq, Nat.reduceEqDiff, Nat.reduceAdd, Nat.reduceLT, Nat.reduceLeDiff, Nat.reduceBEq, Int.reduceLE, Int.reduceLT, Int.reduceEq, Int.reduceNeg] <;> rfl) | rfl)) ?_
  · intro e_17 H_17
    simp only [D, DT, reduceIte, reduceCtorEq, Nat.reduceEqDiff, Nat.reduceAdd, Nat.reduceLT, Nat.reduceLeDiff, Nat.reduceBEq, Int.reduceLE, Int.reduceLT, Int.reduceEq, Int.reduceNeg, mandolinelaw02_great.a0]
    try rfl
  · intro e_18 H_18 g2_12_18
    simp only [D, DT, reduceIte, reduceCtorEq, Nat.reduceEqDiff, Nat.reduceAdd, Nat.reduceLT, Nat.reduceLeDiff, Nat.reduceBEq, Int.reduceLE, Int.reduceLT, Int.reduceEq, Int.reduceNeg, mandolinelaw02_great.a0, g2_12_18]
    try rfl
  exact mb _ _ _
inductive mandolineref02_List.l0X where
  | x0
  | ret
noncomputable def mandolineref02_List.l0B (a0 : (List api_Span)) (a1 : (List api_Span)) (v9_5 : Int) : Option (Step (Int) mandolineref02_List.l0X) :=
  bif (decide (v9_5 < (a0.length : Int))) then
    (idx a0 v9_5).bind fun x20 =>
    (idx a1 v9_5).bind fun x22 =>
    bif ((decide (x20.From = x22.From)) && (decide (x20.To = x22.To))) then
      some (.next (IntKind.i64.wrap (v9_5 + 1)))
    else
      some (.done (.ret))
  else
    some (.done (.x0))
set_option maxHeartbeats 4000000 in
theorem mandolineref02_List.l0_ok {α : Type} {F : Env → Heap → Option α} {K : List Fr} (fin : mandolineref02_List.l0X → Option α) (a0 : (List api_Span)) (a1 : (List api_Span))
    (hx0 : ∀ (e : Env) (H : Heap), outL X [] F K e H 0 = fin (.x0))
    (hret : ∀ (e : Env) (H : Heap), e 4 = (.bool false) → F e H = fin (.ret)) (v9_5 : Int) (e : Env) (H : Heap) (g0_9 : e 0 = (.sl (encL api_Span.enc a0))) (g1_9 : e 1 = (.sl (encL api_Span.enc a1))) (g5_9 : e 5 = (.int .i64 v9_5)) :
    runL X [] F (.c (.loop c24_l0) :: K) e H = (loopL (mandolineref02_List.l0B a0 a1) v9_5).bind fin := by
  refine loop_of (R := fun (v9_5 : Int) (e : Env) (H : Heap) => e 0 = (.sl (encL api_Span.enc a0)) ∧ e 1 = (.sl (encL api_Span.enc a1)) ∧ e 5 = (.int .i64 v9_5)) fin ?_ ⟨g0_9, g1_9, g5_9⟩
  clear g5_9 g1_9 g0_9 e H v9_5
  intro n G hn hd s e H hR
  revert hR; revert s; intro v9_5 hR
  obtain ⟨g0_9, g1_9, g5_9⟩ := hR
  simp only [D, DT, reduceIte, reduceCtorEq, Nat.reduceEqDiff, Nat.reduceAdd, Nat.reduceLT, Nat.reduceLeDiff, Nat.reduceBEq, Int.reduceLE, Int.reduceLT, Int.reduceEq, Int.reduceNeg, mandolineref02_List.l0B, g0_9, g1_9, g5_9, c24_l0]
  cases h18 : (decide (v9_5 < (a0.length : Int)))
  · simp only [D, DT, reduceIte, reduceCtorEq, Nat.reduceEqDiff, Nat.reduceAdd, Nat.reduceLT, Nat.reduceLeDiff, Nat.reduceBEq, Int.reduceLE, Int.reduceLT, Int.reduceEq, Int.reduceNeg, g0_9, g1_9, g5_9, c24_l0, h18]
    exact (hx0 _ _).trans (hd _).symm
  · simp only [D, DT, reduceIte, reduceCtorEq, Nat.reduceEqDiff, Nat.reduceAdd, Nat.reduceLT, Nat.reduceLeDiff, Nat.reduceBEq, Int.reduceLE, Int.reduceLT, Int.reduceEq, Int.reduceNeg, g0_9, g1_9, g5_9, c24_l0, h18]
    rcases h19 : idx a0 v9_5 with _ | x20
    · simp only [D, DT, reduceIte, reduceCtorEq, Nat.reduceEqDiff, Nat.reduceAdd, Nat.reduceLT, Nat.reduceLeDiff, Nat.reduceBEq, Int.reduceLE, Int.reduceLT, Int.reduceEq, Int.reduceNeg, g0_9, g1_9, g5_9, c24_l0, h18, h19]
    · simp only [D, DT, reduceIte, reduceCtorEq, Nat.reduceEqDiff, Nat.reduceAdd, Nat.reduceLT, Nat.reduceLeDiff, Nat.reduceBEq, Int.reduceLE, Int.reduceLT, Int.reduceEq, Int.reduceNeg, g0_9, g1_9, g5_9, c24_l0, h18, h19]
      rcases h21 : idx a1 v9_5 with _ | x22
      · simp only [D, DT, reduceIte, reduceCtorEq, Nat.reduceEqDiff, Nat.reduceAdd, Nat.reduceLT, Nat.reduceLeDiff, Nat.reduceBEq, Int.reduceLE, Int.reduceLT, Int.reduceEq, Int.reduceNeg, g0_9, g1_9, g5_9, c24_l0, h18, h19, h21]
      · simp only [D, DT, reduceIte, reduceCtorEq, Nat.reduceEqDiff, Nat.reduceAdd, Nat.reduceLT, Nat.reduceLeDiff, Nat.reduceBEq, Int.reduceLE, Int.reduceLT, Int.reduceEq, Int.reduceNeg, g0_9, g1_9, g5_9, c24_l0, h18, h19, h21]
        cases h23 : ((decide (x20.From = x22.From)) && (decide (x20.To = x22.To)))
        · simp only [D, DT, reduceIte, reduceCtorEq, Nat.reduceEqDiff, Nat.reduceAdd, Nat.reduceLT, Nat.reduceLeDiff, Nat.reduceBEq, Int.reduceLE, Int.reduceLT, Int.reduceEq, Int.reduceNeg, g0_9, g1_9, g5_9, c24_l0, h18, h19, h21, h23]
          exact (hret _ _ (by first | (simp only [D, DT, reduceIte, reduceCtorEq, Nat.reduceEqDiff, Nat.reduceAdd, Nat.reduceLT, Nat.reduceLeDiff, Nat.reduceBEq, Int.reduceLE, Int.reduceLT, Int.reduceEq, Int.reduceNeg, g0_9, g1_9, g5_9, c24_l0, h18, h19, h21, h23] <;> rfl) | rfl)).trans (hd _).symm
        · simp only [D, DT, reduceIte, reduceCtorEq, Nat.reduceEqDiff, Nat.reduceAdd, Nat.reduceLT, Nat.reduceLeDiff, Nat.reduceBEq, Int.reduceLE, Int.reduceLT, Int.reduceEq, Int.reduceNeg, g0_9, g1_9, g5_9, c24_l0, h18, h19, h21, h23]
          exact hn _ _ _ ⟨(by first | (simp only [D, DT, reduceIte, reduceCtorEq, Nat.reduceEqDiff, Nat.reduceAdd, Nat.reduceLT, Nat.reduceLeDiff, Nat.reduceBEq, Int.reduceLE, Int.reduceLT, Int.reduceEq, Int.reduceNeg, g0_9, g1_9, g5_9, c24_l0, h18, h19, h21, h23] <;> rfl) | rfl), (by first | (simp only [D, DT, reduceIte, reduceCtorEq, Nat.reduceEqDiff, Nat.reduceAdd, Nat.reduceLT, Nat.reduceLeDiff, Nat.reduceBEq, Int.reduceLE, Int.reduceLT, Int.reduceEq, Int.reduceNeg, g0_9, g1_9, g5_9, c24_l0, h18, h19, h21, h23] <;> rfl) | rfl), (by first | (simp only [D, DT, reduceIte, reduceCtorEq, Nat.reduceEqDiff, Nat.reduceAdd, Nat.reduceLT, Nat.reduceLeDiff, Nat.reduceBEq, Int.reduceLE, Int.reduceLT, Int.reduceEq, Int.reduceNeg, g0_9, g1_9, g5_9, c24_l0, h18, h19, h21, h23] <;> rfl) | rfl)⟩
noncomputable def mandolineref02_List.a0 : mandolineref02_List.l0X → Option Bool
  | .x0 =>
    some true
  | .ret =>
    some false
noncomputable def mandolineref02_List.f (a0 : (List api_Span)) (a1 : (List api_Span)) : Option Bool :=
  bif (decide ((a0.length : Int) = (a1.length : Int))) then
    (loopL (mandolineref02_List.l0B a0 a1) 0).bind (mandolineref02_List.a0)
  else
    some false
set_option maxHeartbeats 4000000 in
theorem mandolineref02_List.ok (a0 : (List api_Span)) (a1 : (List api_Span)) : ansL X 24 [(.sl (encL api_Span.enc a0)), (.sl (encL api_Span.enc a1))] = Option.map AV.bool (mandolineref02_List.f a0 a1) := by
  rw [ansL_run (fd := c24) rfl rfl]
  simp only [D, DT, reduceIte, reduceCtorEq, Nat.reduceEqDiff, Nat.reduceAdd, Nat.reduceLT, Nat.reduceLeDiff, Nat.reduceBEq, Int.reduceLE, Int.reduceLT, Int.reduceEq, Int.reduceNeg, c24, mandolineref02_List.f]
  cases h1 : (decide ((a0.length : Int) = (a1.length : Int)))
  · simp only [D, DT, reduceIte, reduceCtorEq, Nat.reduceEqDiff, Nat.reduceAdd, Nat.reduceLT, Nat.reduceLeDiff, Nat.reduceBEq, Int.reduceLE, Int.reduceLT, Int.reduceEq, Int.reduceNeg, h1]
    try rfl
  · simp only [D, DT, reduceIte, reduceCtorEq, Nat.reduceEqDiff, Nat.reduceAdd, Nat.reduceLT, Nat.reduceLeDiff, Nat.reduceBEq, Int.reduceLE, Int.reduceLT, Int.reduceEq, Int.reduceNeg, h1]
    refine Eq.trans (mandolineref02_List.l0_ok (fun x => Option.map AV.bool (mandolineref02_List.a0 x)) a0 a1 ?_ ?_ 0 _ _ (by first | (simp only [D, DT, reduceIte, reduceCtorEq, Nat.reduceEqDiff, Nat.reduceAdd, Nat.reduceLT, Nat.reduceLeDiff, Nat.reduceBEq, Int.reduceLE, Int.reduceLT, Int.reduceEq, Int.reduceNeg, h1] <;> rfl) | rfl) (by first | (simp only [D, DT, reduceIte, reduceCtorEq, Nat.reduceEqDiff, Nat.reduceAdd, Nat.reduceLT, Nat.reduceLeDiff, Nat.reduceBEq, Int.reduceLE, Int.reduceLT, Int.reduceEq, Int.reduceNeg, h1] <;> rfl) | rfl) (by first | (simp only [D, DT, reduceIte, reduceCtorEq, Nat.reduceEqDiff, Nat.reduceAdd, Nat.reduceLT, Nat.reduceLeDiff, Nat.reduceBEq, Int.reduceLE, Int.reduceLT, Int.reduceEq, Int.reduceNeg, h1] <;> rfl) | rfl)) ?_
    · intro e_24 H_24
      simp only [D, DT, reduceIte, reduceCtorEq, Nat.reduceEqDiff, Nat.reduceAdd, Nat.reduceLT, Nat.reduceLeDiff, Nat.reduceBEq, Int.reduceLE, Int.reduceLT, Int.reduceEq, Int.reduceNeg, mandolineref02_List.a0, h1]
      try rfl
    · intro e_25 H_25 g4_17_25
      simp only [D, DT, reduceIte, reduceCtorEq, Nat.reduceEqDiff, Nat.reduceAdd, Nat.reduceLT, Nat.reduceLeDiff, Nat.reduceBEq, Int.reduceLE, Int.reduceLT, Int.reduceEq, Int.reduceNeg, mandolineref02_List.a0, h1, g4_17_25]
      try rfl
    exact mb _ _ _
noncomputable def ranges_Set_Spans.f (a0 : ranges_Set) : Option (List api_Span) :=
  (slices_Clone_api_Span.f a0.l_).bind fun x3 =>
  some x3
set_option maxHeartbeats 4000000 in
theorem ranges_Set_Spans.ok (a0 : ranges_Set) : ansL X 25 [(.agg [(.sl (encL api_Span.enc a0.l_))])] = Option.map encS_api_Span (ranges_Set_Spans.f a0) := by
  rw [ansL_run (fd := c25) rfl rfl]
  simp only [D, DT, reduceIte, reduceCtorEq, Nat.reduceEqDiff, Nat.reduceAdd, Nat.reduceLT, Nat.reduceLeDiff, Nat.reduceBEq, Int.reduceLE, Int.reduceLT, Int.reduceEq, Int.reduceNeg, c25, ranges_Set_Spans.f]
  have c1 : ansL X 49 [(.sl (encL api_Span.enc a0.l_))] = Option.map encS_api_Span (slices_Clone_api_Span.f a0.l_) := slices_Clone_api_Span.ok a0.l_
  rcases h2 : slices_Clone_api_Span.f a0.l_ with _ | x3
  · simp only [D, DT, reduceIte, reduceCtorEq, Nat.reduceEqDiff, Nat.reduceAdd, Nat.reduceLT, Nat.reduceLeDiff, Nat.reduceBEq, Int.reduceLE, Int.reduceLT, Int.reduceEq, Int.reduceNeg, c1, h2]
  · simp only [D, DT, reduceIte, reduceCtorEq, Nat.reduceEqDiff, Nat.reduceAdd, Nat.reduceLT, Nat.reduceLeDiff, Nat.reduceBEq, Int.reduceLE, Int.reduceLT, Int.reduceEq, Int.reduceNeg, c1, h2]
    try rfl
noncomputable def span_Text.f (a0 : api_Span) : Option (List UInt8) :=
  (span_Right.f a0).bind fun x3 =>
  bif x3 then
    (span_open.f a0).bind fun x7 =>
    bif x7 then
      (strconv_FormatInt.f a0.From 10).bind fun x19 =>
      if x19.length + 1 < 2 ^ 63 then
        some (x19 ++ [45])
      else none
    else
      (strconv_FormatInt.f a0.From 10).bind fun x11 =>
      if x11.length + 1 < 2 ^ 63 then
        (strconv_FormatInt.f a0.To 10).bind fun x15 =>
        if (x11 ++ [45]).length + x15.length < 2 ^ 63 then
          some ((x11 ++ [45]) ++ x15)
        else none
      else none
  else
    some []
set_option maxHeartbeats 4000000 in
theorem span_Text.ok (a0 : api_Span) : ansL X 53 [(.agg [(.int .i64 a0.From), (.int .i64 a0.To)])] = Option.map AV.str (span_Text.f a0) := by
  rw [ansL_run (fd := c53) rfl rfl]
  simp only [D, DT, reduceIte, reduceCtorEq, Nat.reduceEqDiff, Nat.reduceAdd, Nat.reduceLT, Nat.reduceLeDiff, Nat.reduceBEq, Int.reduceLE, Int.reduceLT, Int.reduceEq, Int.reduceNeg, c53, span_Text.f]
  have c1 : ansL X 39 [(.agg [(.int .i64 a0.From), (.int .i64 a0.To)])] = Option.map AV.bool (span_Right.f a0) := span_Right.ok a0
  rcases h2 : span_Right.f a0 with _ | x3
  · simp only [D, DT, reduceIte, reduceCtorEq, Nat.reduceEqDiff, Nat.reduceAdd, Nat.reduceLT, Nat.reduceLeDiff, Nat.reduceBEq, Int.reduceLE, Int.reduceLT, Int.reduceEq, Int.reduceNeg, c1, h2]
  · simp only [D, DT, reduceIte, reduceCtorEq, Nat.reduceEqDiff, Nat.reduceAdd, Nat.reduceLT, Nat.reduceLeDiff, Nat.reduceBEq, Int.reduceLE, Int.reduceLT, Int.reduceEq, Int.reduceNeg, c1, h2]
    cases h4 : x3
    · simp only [D, DT, reduceIte, reduceCtorEq, Nat.reduceEqDiff, Nat.reduceAdd, Nat.reduceLT, Nat.reduceLeDiff, Nat.reduceBEq, Int.reduceLE, Int.reduceLT, Int.reduceEq, Int.reduceNeg, c1, h2, h4]
      try rfl
    · simp only [D, DT, reduceIte, reduceCtorEq, Nat.reduceEqDiff, Nat.reduceAdd, Nat.reduceLT, Nat.reduceLeDiff, Nat.reduceBEq, Int.reduceLE, Int.reduceLT, Int.reduceEq, Int.reduceNeg, c1, h2, h4]
      have c5 : ansL X 64 [(.agg [(.int .i64 a0.From), (.int .i64 a0.To)])] = Option.map AV.bool (span_open.f a0) := span_open.ok a0
      rcases h6 : span_open.f a0 with _ | x7
      · simp only [D, DT, reduceIte, reduceCtorEq, Nat.reduceEqDiff, Nat.reduceAdd, Nat.reduceLT, Nat.reduceLeDiff, Nat.reduceBEq, Int.reduceLE, Int.reduceLT, Int.reduceEq, Int.reduceNeg, c1, h2, h4, c5, h6]
      · simp only [D, DT, reduceIte, reduceCtorEq, Nat.reduceEqDiff, Nat.reduceAdd, Nat.reduceLT, Nat.reduceLeDiff, Nat.reduceBEq, Int.reduceLE, Int.reduceLT, Int.reduceEq, Int.reduceNeg, c1, h2, h4, c5, h6]
        cases h8 : x7
        · simp only [D, DT, reduceIte, reduceCtorEq, Nat.reduceEqDiff, Nat.reduceAdd, Nat.reduceLT, Nat.reduceLeDiff, Nat.reduceBEq, Int.reduceLE, Int.reduceLT, Int.reduceEq, Int.reduceNeg, c1, h2, h4, c5, h6, h8]
          have c9 : ansL X 65 [(.int .i64 a0.From), (.int .i64 10)] = Option.map AV.str (strconv_FormatInt.f a0.From 10) := strconv_FormatInt.ok a0.From 10
          rcases h10 : strconv_FormatInt.f a0.From 10 with _ | x11
          · simp only [D, DT, reduceIte, reduceCtorEq, Nat.reduceEqDiff, Nat.reduceAdd, Nat.reduceLT, Nat.reduceLeDiff, Nat.reduceBEq, Int.reduceLE, Int.reduceLT, Int.reduceEq, Int.reduceNeg, c1, h2, h4, c5, h6, h8, c9, h10]
          · simp only [D, DT, reduceIte, reduceCtorEq, Nat.reduceEqDiff, Nat.reduceAdd, Nat.reduceLT, Nat.reduceLeDiff, Nat.reduceBEq, Int.reduceLE, Int.reduceLT, Int.reduceEq, Int.reduceNeg, c1, h2, h4, c5, h6, h8, c9, h10]
            by_cases h12 : x11.length + 1 < 2 ^ 63
            · simp only [D, DT, reduceIte, reduceCtorEq, Nat.reduceEqDiff, Nat.reduceAdd, Nat.reduceLT, Nat.reduceLeDiff, Nat.reduceBEq, Int.reduceLE, Int.reduceLT, Int.reduceEq, Int.reduceNeg, c1, h2, h4, c5, h6, h8, c9, h10, h12]
              have c13 : ansL X 65 [(.int .i64 a0.To), (.int .i64 10)] = Option.map AV.str (strconv_FormatInt.f a0.To 10) := strconv_FormatInt.ok a0.To 10
              rcases h14 : strconv_FormatInt.f a0.To 10 with _ | x15
              · simp only [D, DT, reduceIte, reduceCtorEq, Nat.reduceEqDiff, Nat.reduceAdd, Nat.reduceLT, Nat.reduceLeDiff, Nat.reduceBEq, Int.reduceLE, Int.reduceLT, Int.reduceEq, Int.reduceNeg, c1, h2, h4, c5, h6, h8, c9, h10, h12, c13, h14]
              · simp only [D, DT, reduceIte, reduceCtorEq, Nat.reduceEqDiff, Nat.reduceAdd, Nat.reduceLT, Nat.reduceLeDiff, Nat.reduceBEq, Int.reduceLE, Int.reduceLT, Int.reduceEq, Int.reduceNeg, c1, h2, h4, c5, h6, h8, c9, h10, h12, c13, h14]
                by_cases h16 : (x11 ++ [45]).length + x15.length < 2 ^ 63
                · simp only [D, DT, reduceIte, reduceCtorEq, Nat.reduceEqDiff, Nat.reduceAdd, Nat.reduceLT, Nat.reduceLeDiff, Nat.reduceBEq, Int.reduceLE, Int.reduceLT, Int.reduceEq, Int.reduceNeg, c1, h2, h4, c5, h6, h8, c9, h10, h12, c13, h14, h16]
                  try rfl
                · simp only [D, DT, reduceIte, reduceCtorEq, Nat.reduceEqDiff, Nat.reduceAdd, Nat.reduceLT, Nat.reduceLeDiff, Nat.reduceBEq, Int.reduceLE, Int.reduceLT, Int.reduceEq, Int.reduceNeg, c1, h2, h4, c5, h6, h8, c9, h10, h12, c13, h14, h16]
            · simp only [D, DT, reduceIte, reduceCtorEq, Nat.reduceEqDiff, Nat.reduceAdd, Nat.reduceLT, Nat.reduceLeDiff, Nat.reduceBEq, Int.reduceLE, Int.reduceLT, Int.reduceEq, Int.reduceNeg, c1, h2, h4, c5, h6, h8, c9, h10, h12]
        · simp only [D, DT, reduceIte, reduceCtorEq, Nat.reduceEqDiff, Nat.reduceAdd, Nat.reduceLT, Nat.reduceLeDiff, Nat.reduceBEq, Int.reduceLE, Int.reduceLT, Int.reduceEq, Int.reduceNeg, c1, h2, h4, c5, h6, h8]
          have c17 : ansL X 65 [(.int .i64 a0.From), (.int .i64 10)] = Option.map AV.str (strconv_FormatInt.f a0.From 10) := strconv_FormatInt.ok a0.From 10
          rcases h18 : strconv_FormatInt.f a0.From 10 with _ | x19
          · simp only [D, DT, reduceIte, reduceCtorEq, Nat.reduceEqDiff, Nat.reduceAdd, Nat.reduceLT, Nat.reduceLeDiff, Nat.reduceBEq, Int.reduceLE, Int.reduceLT, Int.reduceEq, Int.reduceNeg, c1, h2, h4, c5, h6, h8, c17, h18]
          · simp only [D, DT, reduceIte, reduceCtorEq, Nat.reduceEqDiff, Nat.reduceAdd, Nat.reduceLT, Nat.reduceLeDiff, Nat.reduceBEq, Int.reduceLE, Int.reduceLT, Int.reduceEq, Int.reduceNeg, c1, h2, h4, c5, h6, h8, c17, h18]
            by_cases h20 : x19.length + 1 < 2 ^ 63
            · simp only [D, DT, reduceIte, reduceCtorEq, Nat.reduceEqDiff, Nat.reduceAdd, Nat.reduceLT, Nat.reduceLeDiff, Nat.reduceBEq, Int.reduceLE, Int.reduceLT, Int.reduceEq, Int.reduceNeg, c1, h2, h4, c5, h6, h8, c17, h18, h20]
              try rfl
            · simp only [D, DT, reduceIte, reduceCtorEq, Nat.reduceEqDiff, Nat.reduceAdd, Nat.reduceLT, Nat.reduceLeDiff, Nat.reduceBEq, Int.reduceLE, Int.reduceLT, Int.reduceEq, Int.reduceNeg, c1, h2, h4, c5, h6, h8, c17, h18, h20]
inductive ranges_Set_Text.l0X where
  | x0 (o20_3 : List (List UInt8))
noncomputable def ranges_Set_Text.l0B (a0 : ranges_Set) (o11_3 : List (List UInt8)) (v11_13 : Int) : Option (Step ((List (List UInt8)) × Int) ranges_Set_Text.l0X) :=
  bif (decide (v11_13 < (a0.l_.length : Int))) then
    (idx a0.l_ v11_13).bind fun x23 =>
    (span_Text.f x23).bind fun x26 =>
    if (o11_3.length + 1) * 16 ≤ room then
      some (.next ((o11_3 ++ ([x26] : List (List UInt8))), (IntKind.i64.wrap (v11_13 + 1))))
    else none
  else
    some (.done (.x0 o11_3))
set_option maxHeartbeats 4000000 in
theorem ranges_Set_Text.l0_ok {α : Type} {F : Env → Heap → Option α} {K : List Fr} (fin : ranges_Set_Text.l0X → Option α) (a0 : ranges_Set)
    (hx0 : ∀ (o20_3 : List (List UInt8)) (y20_3 : AV) (e : Env) (H : Heap), e 3 = y20_3 → Buf [[21]] 1 y20_3 H (encL AV.str o20_3) → outL X [] F K e H 0 = fin (.x0 o20_3)) (o11_3 : List (List UInt8)) (v11_13 : Int) (y11_3 : AV) (e : Env) (H : Heap) (g3_11 : e 3 = y11_3) (g11_11 : e 11 = (.sl (encL api_Span.enc a0.l_))) (g12_11 : e 12 = (.int .i64 (a0.l_.length : Int))) (g13_11 : e 13 = (.int .i64 v11_13)) (by11_3 : Buf [[21]] 1 y11_3 H (encL AV.str o11_3)) :
    runL X [] F (.c (.loop c38_l0) :: K) e H = (loopL (fun (s : (List (List UInt8)) × Int) => ranges_Set_Text.l0B a0 s.1 s.2) (o11_3, v11_13)).bind fin := by
  refine loop_of (R := fun (s : (List (List UInt8)) × Int) (e : Env) (H : Heap) => (fun (o11_3 : List (List UInt8)) (v11_13 : Int) => ∃ y11_3 : AV, e 3 = y11_3 ∧ e 11 = (.sl (encL api_Span.enc a0.l_)) ∧ e 12 = (.int .i64 (a0.l_.length : Int)) ∧ e 13 = (.int .i64 v11_13) ∧ Buf [[21]] 1 y11_3 H (encL AV.str o11_3)) s.1 s.2) fin ?_ ⟨y11_3, g3_11, g11_11, g12_11, g13_11, by11_3⟩
  clear by11_3 g13_11 g12_11 g11_11 g3_11 e H y11_3 v11_13 o11_3
  intro n G hn hd s e H hR
  obtain ⟨o11_3, v11_13⟩ := s
  obtain ⟨y11_3, g3_11, g11_11, g12_11, g13_11, by11_3⟩ := hR
  have s11_3 : ∀ HH : Heap, HH [21] = H [21] → snap HH y11_3 = some (.sl (encL AV.str o11_3)) := fun HH q0 => (by11_3.frame (H' := HH) (by intro k hk; simp only [List.mem_cons, List.not_mem_nil, or_false] at hk; rcases hk with rfl <;> assumption)).snap
  have t11_3 : ∀ HH : Heap, HH [21] = H [21] → elems HH 1 y11_3 = some (encL AV.str o11_3) := fun HH q0 => (by11_3.frame (H' := HH) (by intro k hk; simp only [List.mem_cons, List.not_mem_nil, or_false] at hk; rcases hk with rfl <;> assumption)).elems
  simp only [D, DT, reduceIte, reduceCtorEq, Nat.reduceEqDiff, Nat.reduceAdd, Nat.reduceLT, Nat.reduceLeDiff, Nat.reduceBEq, Int.reduceLE, Int.reduceLT, Int.reduceEq, Int.reduceNeg, ranges_Set_Text.l0B, g3_11, g11_11, g12_11, g13_11, s11_3, t11_3, by11_3.len, by11_3.cells, by11_3.solid, c38_l0]
  cases h21 : (decide (v11_13 < (a0.l_.length : Int)))
  · simp only [D, DT, reduceIte, reduceCtorEq, Nat.reduceEqDiff, Nat.reduceAdd, Nat.reduceLT, Nat.reduceLeDiff, Nat.reduceBEq, Int.reduceLE, Int.reduceLT, Int.reduceEq, Int.reduceNeg, g3_11, g11_11, g12_11, g13_11, s11_3, t11_3, by11_3.len, by11_3.cells, by11_3.solid, c38_l0, h21]
    exact (hx0 o11_3 _ _ _ rfl (by first | exact ((by11_3.frame (by first | (intro k _; rfl) | (intro k hk; simp only [List.mem_cons, List.not_mem_nil, or_false] at hk; rcases hk with rfl <;> simp only [D, DT, reduceIte, reduceCtorEq, Nat.reduceEqDiff, Nat.reduceAdd, Nat.reduceLT, Nat.reduceLeDiff, Nat.reduceBEq, Int.reduceLE, Int.reduceLT, Int.reduceEq, Int.reduceNeg, g3_11, g11_11, g12_11, g13_11, s11_3, t11_3, by11_3.len, by11_3.cells, by11_3.solid, c38_l0, h21]))).more (by simp)) | (simp only [D, DT, reduceIte, reduceCtorEq, Nat.reduceEqDiff, Nat.reduceAdd, Nat.reduceLT, Nat.reduceLeDiff, Nat.reduceBEq, Int.reduceLE, Int.reduceLT, Int.reduceEq, Int.reduceNeg, g3_11, g11_11, g12_11, g13_11, s11_3, t11_3, by11_3.len, by11_3.cells, by11_3.solid, c38_l0, h21]; exact ((by11_3.frame (by first | (intro k _; rfl) | (intro k hk; simp only [List.mem_cons, List.not_mem_nil, or_false] at hk; rcases hk with rfl <;> simp only [D, DT, reduceIte, reduceCtorEq, Nat.reduceEqDiff, Nat.reduceAdd, Nat.reduceLT, Nat.reduceLeDiff, Nat.reduceBEq, Int.reduceLE, Int.reduceLT, Int.reduceEq, Int.reduceNeg, g3_11, g11_11, g12_11, g13_11, s11_3, t11_3, by11_3.len, by11_3.cells, by11_3.solid, c38_l0, h21]))).more (by simp))))).trans (hd _).symm
  · simp only [D, DT, reduceIte, reduceCtorEq, Nat.reduceEqDiff, Nat.reduceAdd, Nat.reduceLT, Nat.reduceLeDiff, Nat.reduceBEq, Int.reduceLE, Int.reduceLT, Int.reduceEq, Int.reduceNeg, g3_11, g11_11, g12_11, g13_11, s11_3, t11_3, by11_3.len, by11_3.cells, by11_3.solid, c38_l0, h21]
    rcases h22 : idx a0.l_ v11_13 with _ | x23
    · simp only [D, DT, reduceIte, reduceCtorEq, Nat.reduceEqDiff, Nat.reduceAdd, Nat.reduceLT, Nat.reduceLeDiff, Nat.reduceBEq, Int.reduceLE, Int.reduceLT, Int.reduceEq, Int.reduceNeg, g3_11, g11_11, g12_11, g13_11, s11_3, t11_3, by11_3.len, by11_3.cells, by11_3.solid, c38_l0, h21, h22]
    · simp only [D, DT, reduceIte, reduceCtorEq, Nat.reduceEqDiff, Nat.reduceAdd, Nat.reduceLT, Nat.reduceLeDiff, Nat.reduceBEq, Int.reduceLE, Int.reduceLT, Int.reduceEq, Int.reduceNeg, g3_11, g11_11, g12_11, g13_11, s11_3, t11_3, by11_3.len, by11_3.cells, by11_3.solid, c38_l0, h21, h22]
      have c24 : ansL X 53 [(.agg [(.int .i64 x23.From), (.int .i64 x23.To)])] = Option.map AV.str (span_Text.f x23) := span_Text.ok x23
      rcases h25 : span_Text.f x23 with _ | x26
      · simp only [D, DT, reduceIte, reduceCtorEq, Nat.reduceEqDiff, Nat.reduceAdd, Nat.reduceLT, Nat.reduceLeDiff, Nat.reduceBEq, Int.reduceLE, Int.reduceLT, Int.reduceEq, Int.reduceNeg, g3_11, g11_11, g12_11, g13_11, s11_3, t11_3, by11_3.len, by11_3.cells, by11_3.solid, c38_l0, h21, h22, c24, h25]
      · simp only [D, DT, reduceIte, reduceCtorEq, Nat.reduceEqDiff, Nat.reduceAdd, Nat.reduceLT, Nat.reduceLeDiff, Nat.reduceBEq, Int.reduceLE, Int.reduceLT, Int.reduceEq, Int.reduceNeg, g3_11, g11_11, g12_11, g13_11, s11_3, t11_3, by11_3.len, by11_3.cells, by11_3.solid, c38_l0, h21, h22, c24, h25]
        by_cases h27 : (o11_3.length + 1) * 16 ≤ room
        · refine step_push (f := AV.str) (out := o11_3) (ys := ([x26] : List (List UInt8))) by11_3 (by first | (intro k _; rfl) | (intro k hk; simp only [List.mem_cons, List.not_mem_nil, or_false] at hk; rcases hk with rfl <;> simp only [D, DT, reduceIte, reduceCtorEq, Nat.reduceEqDiff, Nat.reduceAdd, Nat.reduceLT, Nat.reduceLeDiff, Nat.reduceBEq, Int.reduceLE, Int.reduceLT, Int.reduceEq, Int.reduceNeg, g3_11, g11_11, g12_11, g13_11, s11_3, t11_3, by11_3.len, by11_3.cells, by11_3.solid, c38_l0, h21, h22, c24, h25])) (by first | (simp only [D, DT, reduceIte, reduceCtorEq, Nat.reduceEqDiff, Nat.reduceAdd, Nat.reduceLT, Nat.reduceLeDiff, Nat.reduceBEq, Int.reduceLE, Int.reduceLT, Int.reduceEq, Int.reduceNeg, g3_11, g11_11, g12_11, g13_11, s11_3, t11_3, by11_3.len, by11_3.cells, by11_3.solid, c38_l0, h21, h22, c24, h25] <;> rfl) | rfl) h27 (by simp) ?_
          intro y28 H28 b28 fr28
          have k5_28 : H28 [5] = ((H [5]).1 + 1, some ⟨false, false, 2, [(.agg [(.int .i64 x23.From), (.int .i64 x23.To)])]⟩) := (fr28 [5] (by simp)).trans (by first | (simp only [D, DT, reduceIte, reduceCtorEq, Nat.reduceEqDiff, Nat.reduceAdd, Nat.reduceLT, Nat.reduceLeDiff, Nat.reduceBEq, Int.reduceLE, Int.reduceLT, Int.reduceEq, Int.reduceNeg, g3_11, g11_11, g12_11, g13_11, s11_3, t11_3, by11_3.len, by11_3.cells, by11_3.solid, c38_l0, h21, h22, c24, h25, h27] <;> rfl) | rfl)
          have k20_28 : H28 [20] = ((H [20]).1 + 1, some ⟨false, true, 1, [(.str x26)]⟩) := (fr28 [20] (by simp)).trans (by first | (simp only [D, DT, reduceIte, reduceCtorEq, Nat.reduceEqDiff, Nat.reduceAdd, Nat.reduceLT, Nat.reduceLeDiff, Nat.reduceBEq, Int.reduceLE, Int.reduceLT, Int.reduceEq, Int.reduceNeg, g3_11, g11_11, g12_11, g13_11, s11_3, t11_3, by11_3.len, by11_3.cells, by11_3.solid, c38_l0, h21, h22, c24, h25, h27] <;> rfl) | rfl)
          have s28 : ∀ HH : Heap, HH [21] = H28 [21] → snap HH y28 = some (.sl (encL AV.str (o11_3 ++ ([x26] : List (List UInt8))))) := fun HH q0 => (b28.frame (H' := HH) (by intro k hk; simp only [List.mem_cons, List.not_mem_nil, or_false] at hk; rcases hk with rfl <;> assumption)).snap
          have t28 : ∀ HH : Heap, HH [21] = H28 [21] → elems HH 1 y28 = some (encL AV.str (o11_3 ++ ([x26] : List (List UInt8)))) := fun HH q0 => (b28.frame (H' := HH) (by intro k hk; simp only [List.mem_cons, List.not_mem_nil, or_false] at hk; rcases hk with rfl <;> assumption)).elems
          simp only [D, DT, reduceIte, reduceCtorEq, Nat.reduceEqDiff, Nat.reduceAdd, Nat.reduceLT, Nat.reduceLeDiff, Nat.reduceBEq, Int.reduceLE, Int.reduceLT, Int.reduceEq, Int.reduceNeg, g3_11, g11_11, g12_11, g13_11, s11_3, t11_3, by11_3.len, by11_3.cells, by11_3.solid, c38_l0, h21, h22, c24, h25, h27, k5_28, k20_28, s28, t28, b28.len, b28.cells, b28.solid]
          exact hn _ _ _ ⟨_, rfl, (by first | (simp only [D, DT, reduceIte, reduceCtorEq, Nat.reduceEqDiff, Nat.reduceAdd, Nat.reduceLT, Nat.reduceLeDiff, Nat.reduceBEq, Int.reduceLE, Int.reduceLT, Int.reduceEq, Int.reduceNeg, g3_11, g11_11, g12_11, g13_11, s11_3, t11_3, by11_3.len, by11_3.cells, by11_3.solid, c38_l0, h21, h22, c24, h25, h27, k5_28, k20_28, s28, t28, b28.len, b28.cells, b28.solid] <;> rfl) | rfl), (by first | (simp only [D, DT, reduceIte, reduceCtorEq, Nat.reduceEqDiff, Nat.reduceAdd, Nat.reduceLT, Nat.reduceLeDiff, Nat.reduceBEq, Int.reduceLE, Int.reduceLT, Int.reduceEq, Int.reduceNeg, g3_11, g11_11, g12_11, g13_11, s11_3, t11_3, by11_3.len, by11_3.cells, by11_3.solid, c38_l0, h21, h22, c24, h25, h27, k5_28, k20_28, s28, t28, b28.len, b28.cells, b28.solid] <;> rfl) | rfl), (by first | (simp only [D, DT, reduceIte, reduceCtorEq, Nat.reduceEqDiff, Nat.reduceAdd, Nat.reduceLT, Nat.reduceLeDiff, Nat.reduceBEq, Int.reduceLE, Int.reduceLT, Int.reduceEq, Int.reduceNeg, g3_11, g11_11, g12_11, g13_11, s11_3, t11_3, by11_3.len, by11_3.cells, by11_3.solid, c38_l0, h21, h22, c24, h25, h27, k5_28, k20_28, s28, t28, b28.len, b28.cells, b28.solid] <;> rfl) | rfl), (by first | exact ((b28.frame (by first | (intro k _; rfl) | (intro k hk; simp only [List.mem_cons, List.not_mem_nil, or_false] at hk; rcases hk with rfl <;> simp only [D, DT, reduceIte, reduceCtorEq, Nat.reduceEqDiff, Nat.reduceAdd, Nat.reduceLT, Nat.reduceLeDiff, Nat.reduceBEq, Int.reduceLE, Int.reduceLT, Int.reduceEq, Int.reduceNeg, g3_11, g11_11, g12_11, g13_11, s11_3, t11_3, by11_3.len, by11_3.cells, by11_3.solid, c38_l0, h21, h22, c24, h25, h27, k5_28, k20_28, s28, t28, b28.len, b28.cells, b28.solid]))).more (by simp)) | (simp only [D, DT, reduceIte, reduceCtorEq, Nat.reduceEqDiff, Nat.reduceAdd, Nat.reduceLT, Nat.reduceLeDiff, Nat.reduceBEq, Int.reduceLE, Int.reduceLT, Int.reduceEq, Int.reduceNeg, g3_11, g11_11, g12_11, g13_11, s11_3, t11_3, by11_3.len, by11_3.cells, by11_3.solid, c38_l0, h21, h22, c24, h25, h27, k5_28, k20_28, s28, t28, b28.len, b28.cells, b28.solid]; exact ((b28.frame (by first | (intro k _; rfl) | (intro k hk; simp only [List.mem_cons, List.not_mem_nil, or_false] at hk; rcases hk with rfl <;> simp only [D, DT, reduceIte, reduceCtorEq, Nat.reduceEqDiff, Nat.reduceAdd, Nat.reduceLT, Nat.reduceLeDiff, Nat.reduceBEq, Int.reduceLE, Int.reduceLT, Int.reduceEq, Int.reduceNeg, g3_11, g11_11, g12_11, g13_11, s11_3, t11_3, by11_3.len, by11_3.cells, by11_3.solid, c38_l0, h21, h22, c24, h25, h27, k5_28, k20_28, s28, t28, b28.len, b28.cells, b28.solid]))).more (by simp))))⟩
        · refine (step_push_no (f := AV.str) (out := o11_3) (ys := ([x26] : List (List UInt8))) by11_3 (by first | (intro k _; rfl) | (intro k hk; simp only [List.mem_cons, List.not_mem_nil, or_false] at hk; rcases hk with rfl <;> simp only [D, DT, reduceIte, reduceCtorEq, Nat.reduceEqDiff, Nat.reduceAdd, Nat.reduceLT, Nat.reduceLeDiff, Nat.reduceBEq, Int.reduceLE, Int.reduceLT, Int.reduceEq, Int.reduceNeg, g3_11, g11_11, g12_11, g13_11, s11_3, t11_3, by11_3.len, by11_3.cells, by11_3.solid, c38_l0, h21, h22, c24, h25])) (by first | (simp only [D, DT, reduceIte, reduceCtorEq, Nat.reduceEqDiff, Nat.reduceAdd, Nat.reduceLT, Nat.reduceLeDiff, Nat.reduceBEq, Int.reduceLE, Int.reduceLT, Int.reduceEq, Int.reduceNeg, g3_11, g11_11, g12_11, g13_11, s11_3, t11_3, by11_3.len, by11_3.cells, by11_3.solid, c38_l0, h21, h22, c24, h25] <;> rfl) | rfl) h27).trans ?_
          simp only [D, DT, reduceIte, reduceCtorEq, Nat.reduceEqDiff, Nat.reduceAdd, Nat.reduceLT, Nat.reduceLeDiff, Nat.reduceBEq, Int.reduceLE, Int.reduceLT, Int.reduceEq, Int.reduceNeg, h27, g3_11, g11_11, g12_11, g13_11, s11_3, t11_3, by11_3.len, by11_3.cells, by11_3.solid, c38_l0, h21, h22, c24, h25]
noncomputable def ranges_Set_Text.a0 : ranges_Set_Text.l0X → Option (List UInt8)
  | .x0 o20_3 =>
    (strings_Join.f o20_3 [44]).bind fun x32 =>
    some x32
noncomputable def ranges_Set_Text.f (a0 : ranges_Set) : Option (List UInt8) :=
  bif (decide ((a0.l_.length : Int) = 0)) then
    some [110, 111, 110, 101]
  else
    (loopL (fun (s : (List (List UInt8)) × Int) => ranges_Set_Text.l0B a0 s.1 s.2) (([] : List (List UInt8)), 0)).bind (ranges_Set_Text.a0)
set_option maxHeartbeats 4000000 in
theorem ranges_Set_Text.ok (a0 : ranges_Set) : ansL X 38 [(.agg [(.sl (encL api_Span.enc a0.l_))])] = Option.map AV.str (ranges_Set_Text.f a0) := by
  rw [ansL_run (fd := c38) rfl rfl]
  simp only [D, DT, reduceIte, reduceCtorEq, Nat.reduceEqDiff, Nat.reduceAdd, Nat.reduceLT, Nat.reduceLeDiff, Nat.reduceBEq, Int.reduceLE, Int.reduceLT, Int.reduceEq, Int.reduceNeg, c38, ranges_Set_Text.f]
  cases h1 : (decide ((a0.l_.length : Int) = 0))
  · simp only [D, DT, reduceIte, reduceCtorEq, Nat.reduceEqDiff, Nat.reduceAdd, Nat.reduceLT, Nat.reduceLeDiff, Nat.reduceBEq, Int.reduceLE, Int.reduceLT, Int.reduceEq, Int.reduceNeg, h1]
    refine Eq.trans (ranges_Set_Text.l0_ok (fun x => Option.map AV.str (ranges_Set_Text.a0 x)) a0 ?_ ([] : List (List UInt8)) 0 _ _ _ rfl (by first | (simp only [D, DT, reduceIte, reduceCtorEq, Nat.reduceEqDiff, Nat.reduceAdd, Nat.reduceLT, Nat.reduceLeDiff, Nat.reduceBEq, Int.reduceLE, Int.reduceLT, Int.reduceEq, Int.reduceNeg, h1] <;> rfl) | rfl) (by first | (simp only [D, DT, reduceIte, reduceCtorEq, Nat.reduceEqDiff, Nat.reduceAdd, Nat.reduceLT, Nat.reduceLeDiff, Nat.reduceBEq, Int.reduceLE, Int.reduceLT, Int.reduceEq, Int.reduceNeg, h1] <;> rfl) | rfl) (by first | (simp only [D, DT, reduceIte, reduceCtorEq, Nat.reduceEqDiff, Nat.reduceAdd, Nat.reduceLT, Nat.reduceLeDiff, Nat.reduceBEq, Int.reduceLE, Int.reduceLT, Int.reduceEq, Int.reduceNeg, h1] <;> rfl) | rfl) (by first | exact (Buf.zs _) | (simp only [D, DT, reduceIte, reduceCtorEq, Nat.reduceEqDiff, Nat.reduceAdd, Nat.reduceLT, Nat.reduceLeDiff, Nat.reduceBEq, Int.reduceLE, Int.reduceLT, Int.reduceEq, Int.reduceNeg, h1]; exact (Buf.zs _)))) ?_
    · intro o20_3 y20_3 e_29 H_29 g3_20_29 by20_3_29
      have s20_3 : ∀ HH : Heap, HH [21] = H_29 [21] → snap HH y20_3 = some (.sl (encL AV.str o20_3)) := fun HH q0 => (by20_3_29.frame (H' := HH) (by intro k hk; simp only [List.mem_cons, List.not_mem_nil, or_false] at hk; rcases hk with rfl <;> assumption)).snap
      have t20_3 : ∀ HH : Heap, HH [21] = H_29 [21] → elems HH 1 y20_3 = some (encL AV.str o20_3) := fun HH q0 => (by20_3_29.frame (H' := HH) (by intro k hk; simp only [List.mem_cons, List.not_mem_nil, or_false] at hk; rcases hk with rfl <;> assumption)).elems
      simp only [D, DT, reduceIte, reduceCtorEq, Nat.reduceEqDiff, Nat.reduceAdd, Nat.reduceLT, Nat.reduceLeDiff, Nat.reduceBEq, Int.reduceLE, Int.reduceLT, Int.reduceEq, Int.reduceNeg, ranges_Set_Text.a0, h1, g3_20_29, s20_3, t20_3, by20_3_29.len, by20_3_29.cells, by20_3_29.solid]
      have c30 : ansL X 54 [(.sl (encL AV.str o20_3)), (.str [44])] = Option.map AV.str (strings_Join.f o20_3 [44]) := strings_Join.ok o20_3 [44]
      rcases h31 : strings_Join.f o20_3 [44] with _ | x32
      · simp only [D, DT, reduceIte, reduceCtorEq, Nat.reduceEqDiff, Nat.reduceAdd, Nat.reduceLT, Nat.reduceLeDiff, Nat.reduceBEq, Int.reduceLE, Int.reduceLT, Int.reduceEq, Int.reduceNeg, h1, g3_20_29, s20_3, t20_3, by20_3_29.len, by20_3_29.cells, by20_3_29.solid, c30, h31]
      · simp only [D, DT, reduceIte, reduceCtorEq, Nat.reduceEqDiff, Nat.reduceAdd, Nat.reduceLT, Nat.reduceLeDiff, Nat.reduceBEq, Int.reduceLE, Int.reduceLT, Int.reduceEq, Int.reduceNeg, h1, g3_20_29, s20_3, t20_3, by20_3_29.len, by20_3_29.cells, by20_3_29.solid, c30, h31]
        try rfl
    exact mb _ _ _
  · simp only [D, DT, reduceIte, reduceCtorEq, Nat.reduceEqDiff, Nat.reduceAdd, Nat.reduceLT, Nat.reduceLeDiff, Nat.reduceBEq, Int.reduceLE, Int.reduceLT, Int.reduceEq, Int.reduceNeg, h1]
    try rfl
noncomputable def mandolinelaw02_wakes.f : Option Bool := some true
set_option maxHeartbeats 4000000 in
theorem mandolinelaw02_wakes.ok : ansL X 11 [] = Option.map AV.bool (mandolinelaw02_wakes.f) := ansL_of (k := 60) (by kernel_rfl)
noncomputable def mandolinelaw02_RangesAt.f (a0 : (List api_Span)) (a1 : Int) : Option Bool :=
  (mandolinelaw02_wakes.f).bind fun x3 =>
  bif x3 then
    (mandolinelaw02_great.f [a0]).bind fun x7 =>
    bif x7 then
      some true
    else
      (ranges_Of.f a0).bind fun x11 =>
      (ranges_Set_First.f x11 a1).bind fun x14 =>
      (mandolineref02_Of.f a0).bind fun x17 =>
      (mandolineref02_First.f x17 a1).bind fun x20 =>
      (ranges_Set_Has.f x11 a1).bind fun x23 =>
      (mandolineref02_In.f a0 a1).bind fun x26 =>
      bif (x23 == x26) then
        bif ((decide (x14.1.From = x20.1.From)) && (decide (x14.1.To = x20.1.To))) then
          some (x14.2 == x20.2)
        else
          some false
      else
        some false
  else
    some false
set_option maxHeartbeats 4000000 in
theorem mandolinelaw02_RangesAt.ok (a0 : (List api_Span)) (a1 : Int) : ansL X 3 [(.sl (encL api_Span.enc a0)), (.int .i64 a1)] = Option.map AV.bool (mandolinelaw02_RangesAt.f a0 a1) := by
  rw [ansL_run (fd := c3) rfl rfl]
  simp only [D, DT, reduceIte, reduceCtorEq, Nat.reduceEqDiff, Nat.reduceAdd, Nat.reduceLT, Nat.reduceLeDiff, Nat.reduceBEq, Int.reduceLE, Int.reduceLT, Int.reduceEq, Int.reduceNeg, c3, mandolinelaw02_RangesAt.f]
  have c1 : ansL X 11 [] = Option.map AV.bool (mandolinelaw02_wakes.f) := mandolinelaw02_wakes.ok
  rcases h2 : mandolinelaw02_wakes.f with _ | x3
  · simp only [D, DT, reduceIte, reduceCtorEq, Nat.reduceEqDiff, Nat.reduceAdd, Nat.reduceLT, Nat.reduceLeDiff, Nat.reduceBEq, Int.reduceLE, Int.reduceLT, Int.reduceEq, Int.reduceNeg, c1, h2]
  · simp only [D, DT, reduceIte, reduceCtorEq, Nat.reduceEqDiff, Nat.reduceAdd, Nat.reduceLT, Nat.reduceLeDiff, Nat.reduceBEq, Int.reduceLE, Int.reduceLT, Int.reduceEq, Int.reduceNeg, c1, h2]
    cases h4 : x3
    · simp only [D, DT, reduceIte, reduceCtorEq, Nat.reduceEqDiff, Nat.reduceAdd, Nat.reduceLT, Nat.reduceLeDiff, Nat.reduceBEq, Int.reduceLE, Int.reduceLT, Int.reduceEq, Int.reduceNeg, c1, h2, h4]
      try rfl
    · simp only [D, DT, reduceIte, reduceCtorEq, Nat.reduceEqDiff, Nat.reduceAdd, Nat.reduceLT, Nat.reduceLeDiff, Nat.reduceBEq, Int.reduceLE, Int.reduceLT, Int.reduceEq, Int.reduceNeg, c1, h2, h4]
      have c5 : ansL X 12 [(.sl [(.sl (encL api_Span.enc a0))])] = Option.map AV.bool (mandolinelaw02_great.f [a0]) := mandolinelaw02_great.ok [a0]
      rcases h6 : mandolinelaw02_great.f [a0] with _ | x7
      · simp only [D, DT, reduceIte, reduceCtorEq, Nat.reduceEqDiff, Nat.reduceAdd, Nat.reduceLT, Nat.reduceLeDiff, Nat.reduceBEq, Int.reduceLE, Int.reduceLT, Int.reduceEq, Int.reduceNeg, c1, h2, h4, c5, h6]
      · simp only [D, DT, reduceIte, reduceCtorEq, Nat.reduceEqDiff, Nat.reduceAdd, Nat.reduceLT, Nat.reduceLeDiff, Nat.reduceBEq, Int.reduceLE, Int.reduceLT, Int.reduceEq, Int.reduceNeg, c1, h2, h4, c5, h6]
        cases h8 : x7
        · simp only [D, DT, reduceIte, reduceCtorEq, Nat.reduceEqDiff, Nat.reduceAdd, Nat.reduceLT, Nat.reduceLeDiff, Nat.reduceBEq, Int.reduceLE, Int.reduceLT, Int.reduceEq, Int.reduceNeg, c1, h2, h4, c5, h6, h8]
          have c9 : ansL X 13 [(.sl (encL api_Span.enc a0))] = Option.map ranges_Set.enc (ranges_Of.f a0) := ranges_Of.ok a0
          rcases h10 : ranges_Of.f a0 with _ | x11
          · simp only [D, DT, reduceIte, reduceCtorEq, Nat.reduceEqDiff, Nat.reduceAdd, Nat.reduceLT, Nat.reduceLeDiff, Nat.reduceBEq, Int.reduceLE, Int.reduceLT, Int.reduceEq, Int.reduceNeg, c1, h2, h4, c5, h6, h8, c9, h10]
          · simp only [D, DT, reduceIte, reduceCtorEq, Nat.reduceEqDiff, Nat.reduceAdd, Nat.reduceLT, Nat.reduceLeDiff, Nat.reduceBEq, Int.reduceLE, Int.reduceLT, Int.reduceEq, Int.reduceNeg, c1, h2, h4, c5, h6, h8, c9, h10]
            have c12 : ansL X 14 [(.agg [(.sl (encL api_Span.enc x11.l_))]), (.int .i64 a1)] = Option.map (fun r : (api_Span × Bool) => AV.tup [(.agg [(.int .i64 r.1.From), (.int .i64 r.1.To)]), (.bool r.2)]) (ranges_Set_First.f x11 a1) := ranges_Set_First.ok x11 a1
            rcases h13 : ranges_Set_First.f x11 a1 with _ | x14
            · simp only [D, DT, reduceIte, reduceCtorEq, Nat.reduceEqDiff, Nat.reduceAdd, Nat.reduceLT, Nat.reduceLeDiff, Nat.reduceBEq, Int.reduceLE, Int.reduceLT, Int.reduceEq, Int.reduceNeg, c1, h2, h4, c5, h6, h8, c9, h10, c12, h13]
            · simp only [D, DT, reduceIte, reduceCtorEq, Nat.reduceEqDiff, Nat.reduceAdd, Nat.reduceLT, Nat.reduceLeDiff, Nat.reduceBEq, Int.reduceLE, Int.reduceLT, Int.reduceEq, Int.reduceNeg, c1, h2, h4, c5, h6, h8, c9, h10, c12, h13]
              have c15 : ansL X 16 [(.sl (encL api_Span.enc a0))] = Option.map encS_api_Span (mandolineref02_Of.f a0) := mandolineref02_Of.ok a0
              rcases h16 : mandolineref02_Of.f a0 with _ | x17
              · simp only [D, DT, reduceIte, reduceCtorEq, Nat.reduceEqDiff, Nat.reduceAdd, Nat.reduceLT, Nat.reduceLeDiff, Nat.reduceBEq, Int.reduceLE, Int.reduceLT, Int.reduceEq, Int.reduceNeg, c1, h2, h4, c5, h6, h8, c9, h10, c12, h13, c15, h16]
              · simp only [D, DT, reduceIte, reduceCtorEq, Nat.reduceEqDiff, Nat.reduceAdd, Nat.reduceLT, Nat.reduceLeDiff, Nat.reduceBEq, Int.reduceLE, Int.reduceLT, Int.reduceEq, Int.reduceNeg, c1, h2, h4, c5, h6, h8, c9, h10, c12, h13, c15, h16]
                have c18 : ansL X 15 [(.sl (encL api_Span.enc x17)), (.int .i64 a1)] = Option.map (fun r : (api_Span × Bool) => AV.tup [(.agg [(.int .i64 r.1.From), (.int .i64 r.1.To)]), (.bool r.2)]) (mandolineref02_First.f x17 a1) := mandolineref02_First.ok x17 a1
                rcases h19 : mandolineref02_First.f x17 a1 with _ | x20
                · simp only [D, DT, reduceIte, reduceCtorEq, Nat.reduceEqDiff, Nat.reduceAdd, Nat.reduceLT, Nat.reduceLeDiff, Nat.reduceBEq, Int.reduceLE, Int.reduceLT, Int.reduceEq, Int.reduceNeg, c1, h2, h4, c5, h6, h8, c9, h10, c12, h13, c15, h16, c18, h19]
                · simp only [D, DT, reduceIte, reduceCtorEq, Nat.reduceEqDiff, Nat.reduceAdd, Nat.reduceLT, Nat.reduceLeDiff, Nat.reduceBEq, Int.reduceLE, Int.reduceLT, Int.reduceEq, Int.reduceNeg, c1, h2, h4, c5, h6, h8, c9, h10, c12, h13, c15, h16, c18, h19]
                  have c21 : ansL X 17 [(.agg [(.sl (encL api_Span.enc x11.l_))]), (.int .i64 a1)] = Option.map AV.bool (ranges_Set_Has.f x11 a1) := ranges_Set_Has.ok x11 a1
                  rcases h22 : ranges_Set_Has.f x11 a1 with _ | x23
                  · simp only [D, DT, reduceIte, reduceCtorEq, Nat.reduceEqDiff, Nat.reduceAdd, Nat.reduceLT, Nat.reduceLeDiff, Nat.reduceBEq, Int.reduceLE, Int.reduceLT, Int.reduceEq, Int.reduceNeg, c1, h2, h4, c5, h6, h8, c9, h10, c12, h13, c15, h16, c18, h19, c21, h22]
                  · simp only [D, DT, reduceIte, reduceCtorEq, Nat.reduceEqDiff, Nat.reduceAdd, Nat.reduceLT, Nat.reduceLeDiff, Nat.reduceBEq, Int.reduceLE, Int.reduceLT, Int.reduceEq, Int.reduceNeg, c1, h2, h4, c5, h6, h8, c9, h10, c12, h13, c15, h16, c18, h19, c21, h22]
                    have c24 : ansL X 18 [(.sl (encL api_Span.enc a0)), (.int .i64 a1)] = Option.map AV.bool (mandolineref02_In.f a0 a1) := mandolineref02_In.ok a0 a1
                    rcases h25 : mandolineref02_In.f a0 a1 with _ | x26
                    · simp only [D, DT, reduceIte, reduceCtorEq, Nat.reduceEqDiff, Nat.reduceAdd, Nat.reduceLT, Nat.reduceLeDiff, Nat.reduceBEq, Int.reduceLE, Int.reduceLT, Int.reduceEq, Int.reduceNeg, c1, h2, h4, c5, h6, h8, c9, h10, c12, h13, c15, h16, c18, h19, c21, h22, c24, h25]
                    · simp only [D, DT, reduceIte, reduceCtorEq, Nat.reduceEqDiff, Nat.reduceAdd, Nat.reduceLT, Nat.reduceLeDiff, Nat.reduceBEq, Int.reduceLE, Int.reduceLT, Int.reduceEq, Int.reduceNeg, c1, h2, h4, c5, h6, h8, c9, h10, c12, h13, c15, h16, c18, h19, c21, h22, c24, h25]
                      cases h27 : (x23 == x26)
                      · simp only [D, DT, reduceIte, reduceCtorEq, Nat.reduceEqDiff, Nat.reduceAdd, Nat.reduceLT, Nat.reduceLeDiff, Nat.reduceBEq, Int.reduceLE, Int.reduceLT, Int.reduceEq, Int.reduceNeg, c1, h2, h4, c5, h6, h8, c9, h10, c12, h13, c15, h16, c18, h19, c21, h22, c24, h25, h27]
                        try rfl
                      · simp only [D, DT, reduceIte, reduceCtorEq, Nat.reduceEqDiff, Nat.reduceAdd, Nat.reduceLT, Nat.reduceLeDiff, Nat.reduceBEq, Int.reduceLE, Int.reduceLT, Int.reduceEq, Int.reduceNeg, c1, h2, h4, c5, h6, h8, c9, h10, c12, h13, c15, h16, c18, h19, c21, h22, c24, h25, h27]
                        cases h28 : ((decide (x14.1.From = x20.1.From)) && (decide (x14.1.To = x20.1.To)))
                        · simp only [D, DT, reduceIte, reduceCtorEq, Nat.reduceEqDiff, Nat.reduceAdd, Nat.reduceLT, Nat.reduceLeDiff, Nat.reduceBEq, Int.reduceLE, Int.reduceLT, Int.reduceEq, Int.reduceNeg, c1, h2, h4, c5, h6, h8, c9, h10, c12, h13, c15, h16, c18, h19, c21, h22, c24, h25, h27, h28]
                          try rfl
                        · simp only [D, DT, reduceIte, reduceCtorEq, Nat.reduceEqDiff, Nat.reduceAdd, Nat.reduceLT, Nat.reduceLeDiff, Nat.reduceBEq, Int.reduceLE, Int.reduceLT, Int.reduceEq, Int.reduceNeg, c1, h2, h4, c5, h6, h8, c9, h10, c12, h13, c15, h16, c18, h19, c21, h22, c24, h25, h27, h28]
                          try rfl
        · simp only [D, DT, reduceIte, reduceCtorEq, Nat.reduceEqDiff, Nat.reduceAdd, Nat.reduceLT, Nat.reduceLeDiff, Nat.reduceBEq, Int.reduceLE, Int.reduceLT, Int.reduceEq, Int.reduceNeg, c1, h2, h4, c5, h6, h8]
          try rfl
inductive mandolinelaw02_RangesStops.l0X where
  | x0 (v25_h7_0 : Int)
  | ret (v26_h7_0 : Int)
noncomputable def mandolinelaw02_RangesStops.l0B (x14 : ranges_Set) (a1 : Int) (v20_7 : Int) (v20_h7_0 : Int) : Option (Step (Int × Int) mandolinelaw02_RangesStops.l0X) :=
  bif (decide (v20_7 < (x14.l_.length : Int))) then
    (idx x14.l_ v20_7).bind fun x29 =>
    bif (decide ((IntKind.i64.wrap (v20_h7_0 + 1)) < (IntKind.i64.wrap (1 + (Int.tmod (IntKind.i64.wrap (a1)) 22))))) then
      some (.next ((IntKind.i64.wrap (v20_7 + 1)), (IntKind.i64.wrap (v20_h7_0 + 1))))
    else
      some (.done (.ret (IntKind.i64.wrap (v20_h7_0 + 1))))
  else
    some (.done (.x0 v20_h7_0))
set_option maxHeartbeats 4000000 in
theorem mandolinelaw02_RangesStops.l0_ok {α : Type} {F : Env → Heap → Option α} {K : List Fr} (fin : mandolinelaw02_RangesStops.l0X → Option α) (x14 : ranges_Set) (a1 : Int) (a0 : (List api_Span))
    (hx0 : ∀ (v25_h7_0 : Int) (e : Env) (H : Heap), H [1, 5, 22] = (1, some ⟨false, false, 1, [(.sl (encL api_Span.enc x14.l_))]⟩) → H [6] = (1, some ⟨false, false, 1, [(.int .i64 (IntKind.i64.wrap (1 + (Int.tmod (IntKind.i64.wrap (a1)) 22))))]⟩) → H [7] = (1, some ⟨false, false, 1, [(.int .i64 v25_h7_0)]⟩) → H [11] = (1, some ⟨false, true, 1, [(.sl (encL api_Span.enc a0))]⟩) → outL X [24] F K e H 0 = fin (.x0 v25_h7_0))
    (hret : ∀ (v26_h7_0 : Int) (e : Env) (H : Heap), H [1, 5, 22] = (1, some ⟨false, false, 1, [(.sl (encL api_Span.enc x14.l_))]⟩) → H [6] = (1, some ⟨false, false, 1, [(.int .i64 (IntKind.i64.wrap (1 + (Int.tmod (IntKind.i64.wrap (a1)) 22))))]⟩) → H [7] = (1, some ⟨false, false, 1, [(.int .i64 v26_h7_0)]⟩) → H [11] = (1, some ⟨false, true, 1, [(.sl (encL api_Span.enc a0))]⟩) → F e H = fin (.ret v26_h7_0)) (v20_7 : Int) (v20_h7_0 : Int) (e : Env) (H : Heap) (g0_20 : e 0 = (.fn 20 [(.ptr [7] 1 0 0), (.ptr [6] 1 0 0)])) (g5_20 : e 5 = (.sl (encL api_Span.enc x14.l_))) (g6_20 : e 6 = (.int .i64 (x14.l_.length : Int))) (g7_20 : e 7 = (.int .i64 v20_7)) (k1_5_22_20 : H [1, 5, 22] = (1, some ⟨false, false, 1, [(.sl (encL api_Span.enc x14.l_))]⟩)) (k6_20 : H [6] = (1, some ⟨false, false, 1, [(.int .i64 (IntKind.i64.wrap (1 + (Int.tmod (IntKind.i64.wrap (a1)) 22))))]⟩)) (k7_20 : H [7] = (1, some ⟨false, false, 1, [(.int .i64 v20_h7_0)]⟩)) (k11_20 : H [11] = (1, some ⟨false, true, 1, [(.sl (encL api_Span.enc a0))]⟩)) :
    runL X [24] F (.c (.loop c62_l0) :: K) e H = (loopL (fun (s : Int × Int) => mandolinelaw02_RangesStops.l0B x14 a1 s.1 s.2) (v20_7, v20_h7_0)).bind fin := by
  refine loop_of (R := fun (s : Int × Int) (e : Env) (H : Heap) => (fun (v20_7 : Int) (v20_h7_0 : Int) => e 0 = (.fn 20 [(.ptr [7] 1 0 0), (.ptr [6] 1 0 0)]) ∧ e 5 = (.sl (encL api_Span.enc x14.l_)) ∧ e 6 = (.int .i64 (x14.l_.length : Int)) ∧ e 7 = (.int .i64 v20_7) ∧ H [1, 5, 22] = (1, some ⟨false, false, 1, [(.sl (encL api_Span.enc x14.l_))]⟩) ∧ H [6] = (1, some ⟨false, false, 1, [(.int .i64 (IntKind.i64.wrap (1 + (Int.tmod (IntKind.i64.wrap (a1)) 22))))]⟩) ∧ H [7] = (1, some ⟨false, false, 1, [(.int .i64 v20_h7_0)]⟩) ∧ H [11] = (1, some ⟨false, true, 1, [(.sl (encL api_Span.enc a0))]⟩)) s.1 s.2) fin ?_ ⟨g0_20, g5_20, g6_20, g7_20, k1_5_22_20, k6_20, k7_20, k11_20⟩
  clear k11_20 k7_20 k6_20 k1_5_22_20 g7_20 g6_20 g5_20 g0_20 e H v20_h7_0 v20_7
  intro n G hn hd s e H hR
  obtain ⟨v20_7, v20_h7_0⟩ := s
  obtain ⟨g0_20, g5_20, g6_20, g7_20, k1_5_22_20, k6_20, k7_20, k11_20⟩ := hR
  simp only [D, DT, reduceIte, reduceCtorEq, Nat.reduceEqDiff, Nat.reduceAdd, Nat.reduceLT, Nat.reduceLeDiff, Nat.reduceBEq, Int.reduceLE, Int.reduceLT, Int.reduceEq, Int.reduceNeg, mandolinelaw02_RangesStops.l0B, g0_20, g5_20, g6_20, g7_20, k1_5_22_20, k6_20, k7_20, k11_20, c62_l0]
  cases h27 : (decide (v20_7 < (x14.l_.length : Int)))
  · simp only [D, DT, reduceIte, reduceCtorEq, Nat.reduceEqDiff, Nat.reduceAdd, Nat.reduceLT, Nat.reduceLeDiff, Nat.reduceBEq, Int.reduceLE, Int.reduceLT, Int.reduceEq, Int.reduceNeg, g0_20, g5_20, g6_20, g7_20, k1_5_22_20, k6_20, k7_20, k11_20, c62_l0, h27]
    exact (hx0 v20_h7_0 _ _ (by first | (simp only [D, DT, reduceIte, reduceCtorEq, Nat.reduceEqDiff, Nat.reduceAdd, Nat.reduceLT, Nat.reduceLeDiff, Nat.reduceBEq, Int.reduceLE, Int.reduceLT, Int.reduceEq, Int.reduceNeg, g0_20, g5_20, g6_20, g7_20, k1_5_22_20, k6_20, k7_20, k11_20, c62_l0, h27] <;> rfl) | rfl) (by first | (simp only [D, DT, reduceIte, reduceCtorEq, Nat.reduceEqDiff, Nat.reduceAdd, Nat.reduceLT, Nat.reduceLeDiff, Nat.reduceBEq, Int.reduceLE, Int.reduceLT, Int.reduceEq, Int.reduceNeg, g0_20, g5_20, g6_20, g7_20, k1_5_22_20, k6_20, k7_20, k11_20, c62_l0, h27] <;> rfl) | rfl) (by first | (simp only [D, DT, reduceIte, reduceCtorEq, Nat.reduceEqDiff, Nat.reduceAdd, Nat.reduceLT, Nat.reduceLeDiff, Nat.reduceBEq, Int.reduceLE, Int.reduceLT, Int.reduceEq, Int.reduceNeg, g0_20, g5_20, g6_20, g7_20, k1_5_22_20, k6_20, k7_20, k11_20, c62_l0, h27] <;> rfl) | rfl) (by first | (simp only [D, DT, reduceIte, reduceCtorEq, Nat.reduceEqDiff, Nat.reduceAdd, Nat.reduceLT, Nat.reduceLeDiff, Nat.reduceBEq, Int.reduceLE, Int.reduceLT, Int.reduceEq, Int.reduceNeg, g0_20, g5_20, g6_20, g7_20, k1_5_22_20, k6_20, k7_20, k11_20, c62_l0, h27] <;> rfl) | rfl)).trans (hd _).symm
  · simp only [D, DT, reduceIte, reduceCtorEq, Nat.reduceEqDiff, Nat.reduceAdd, Nat.reduceLT, Nat.reduceLeDiff, Nat.reduceBEq, Int.reduceLE, Int.reduceLT, Int.reduceEq, Int.reduceNeg, g0_20, g5_20, g6_20, g7_20, k1_5_22_20, k6_20, k7_20, k11_20, c62_l0, h27]
    rcases h28 : idx x14.l_ v20_7 with _ | x29
    · simp only [D, DT, reduceIte, reduceCtorEq, Nat.reduceEqDiff, Nat.reduceAdd, Nat.reduceLT, Nat.reduceLeDiff, Nat.reduceBEq, Int.reduceLE, Int.reduceLT, Int.reduceEq, Int.reduceNeg, g0_20, g5_20, g6_20, g7_20, k1_5_22_20, k6_20, k7_20, k11_20, c62_l0, h27, h28]
    · simp only [D, DT, reduceIte, reduceCtorEq, Nat.reduceEqDiff, Nat.reduceAdd, Nat.reduceLT, Nat.reduceLeDiff, Nat.reduceBEq, Int.reduceLE, Int.reduceLT, Int.reduceEq, Int.reduceNeg, g0_20, g5_20, g6_20, g7_20, k1_5_22_20, k6_20, k7_20, k11_20, c62_l0, h27, h28]
      rw [call_in (fd := c20) rfl]
      simp only [D, DT, reduceIte, reduceCtorEq, Nat.reduceEqDiff, Nat.reduceAdd, Nat.reduceLT, Nat.reduceLeDiff, Nat.reduceBEq, Int.reduceLE, Int.reduceLT, Int.reduceEq, Int.reduceNeg, c20, g0_20, g5_20, g6_20, g7_20, k1_5_22_20, k6_20, k7_20, k11_20, c62_l0, h27, h28]
      cases h30 : (decide ((IntKind.i64.wrap (v20_h7_0 + 1)) < (IntKind.i64.wrap (1 + (Int.tmod (IntKind.i64.wrap (a1)) 22)))))
      · simp only [D, DT, reduceIte, reduceCtorEq, Nat.reduceEqDiff, Nat.reduceAdd, Nat.reduceLT, Nat.reduceLeDiff, Nat.reduceBEq, Int.reduceLE, Int.reduceLT, Int.reduceEq, Int.reduceNeg, g0_20, g5_20, g6_20, g7_20, k1_5_22_20, k6_20, k7_20, k11_20, c62_l0, h27, h28, h30]
        exact (hret (IntKind.i64.wrap (v20_h7_0 + 1)) _ _ (by first | (simp only [D, DT, reduceIte, reduceCtorEq, Nat.reduceEqDiff, Nat.reduceAdd, Nat.reduceLT, Nat.reduceLeDiff, Nat.reduceBEq, Int.reduceLE, Int.reduceLT, Int.reduceEq, Int.reduceNeg, g0_20, g5_20, g6_20, g7_20, k1_5_22_20, k6_20, k7_20, k11_20, c62_l0, h27, h28, h30] <;> rfl) | rfl) (by first | (simp only [D, DT, reduceIte, reduceCtorEq, Nat.reduceEqDiff, Nat.reduceAdd, Nat.reduceLT, Nat.reduceLeDiff, Nat.reduceBEq, Int.reduceLE, Int.reduceLT, Int.reduceEq, Int.reduceNeg, g0_20, g5_20, g6_20, g7_20, k1_5_22_20, k6_20, k7_20, k11_20, c62_l0, h27, h28, h30] <;> rfl) | rfl) (by first | (simp only [D, DT, reduceIte, reduceCtorEq, Nat.reduceEqDiff, Nat.reduceAdd, Nat.reduceLT, Nat.reduceLeDiff, Nat.reduceBEq, Int.reduceLE, Int.reduceLT, Int.reduceEq, Int.reduceNeg, g0_20, g5_20, g6_20, g7_20, k1_5_22_20, k6_20, k7_20, k11_20, c62_l0, h27, h28, h30] <;> rfl) | rfl) (by first | (simp only [D, DT, reduceIte, reduceCtorEq, Nat.reduceEqDiff, Nat.reduceAdd, Nat.reduceLT, Nat.reduceLeDiff, Nat.reduceBEq, Int.reduceLE, Int.reduceLT, Int.reduceEq, Int.reduceNeg, g0_20, g5_20, g6_20, g7_20, k1_5_22_20, k6_20, k7_20, k11_20, c62_l0, h27, h28, h30] <;> rfl) | rfl)).trans (hd _).symm
      · simp only [D, DT, reduceIte, reduceCtorEq, Nat.reduceEqDiff, Nat.reduceAdd, Nat.reduceLT, Nat.reduceLeDiff, Nat.reduceBEq, Int.reduceLE, Int.reduceLT, Int.reduceEq, Int.reduceNeg, g0_20, g5_20, g6_20, g7_20, k1_5_22_20, k6_20, k7_20, k11_20, c62_l0, h27, h28, h30]
        exact hn _ _ _ ⟨(by first | (simp only [D, DT, reduceIte, reduceCtorEq, Nat.reduceEqDiff, Nat.reduceAdd, Nat.reduceLT, Nat.reduceLeDiff, Nat.reduceBEq, Int.reduceLE, Int.reduceLT, Int.reduceEq, Int.reduceNeg, g0_20, g5_20, g6_20, g7_20, k1_5_22_20, k6_20, k7_20, k11_20, c62_l0, h27, h28, h30] <;> rfl) | rfl), (by first | (simp only [D, DT, reduceIte, reduceCtorEq, Nat.reduceEqDiff, Nat.reduceAdd, Nat.reduceLT, Nat.reduceLeDiff, Nat.reduceBEq, Int.reduceLE, Int.reduceLT, Int.reduceEq, Int.reduceNeg, g0_20, g5_20, g6_20, g7_20, k1_5_22_20, k6_20, k7_20, k11_20, c62_l0, h27, h28, h30] <;> rfl) | rfl), (by first | (simp only [D, DT, reduceIte, reduceCtorEq, Nat.reduceEqDiff, Nat.reduceAdd, Nat.reduceLT, Nat.reduceLeDiff, Nat.reduceBEq, Int.reduceLE, Int.reduceLT, Int.reduceEq, Int.reduceNeg, g0_20, g5_20, g6_20, g7_20, k1_5_22_20, k6_20, k7_20, k11_20, c62_l0, h27, h28, h30] <;> rfl) | rfl), (by first | (simp only [D, DT, reduceIte, reduceCtorEq, Nat.reduceEqDiff, Nat.reduceAdd, Nat.reduceLT, Nat.reduceLeDiff, Nat.reduceBEq, Int.reduceLE, Int.reduceLT, Int.reduceEq, Int.reduceNeg, g0_20, g5_20, g6_20, g7_20, k1_5_22_20, k6_20, k7_20, k11_20, c62_l0, h27, h28, h30] <;> rfl) | rfl), (by first | (simp only [D, DT, reduceIte, reduceCtorEq, Nat.reduceEqDiff, Nat.reduceAdd, Nat.reduceLT, Nat.reduceLeDiff, Nat.reduceBEq, Int.reduceLE, Int.reduceLT, Int.reduceEq, Int.reduceNeg, g0_20, g5_20, g6_20, g7_20, k1_5_22_20, k6_20, k7_20, k11_20, c62_l0, h27, h28, h30] <;> rfl) | rfl), (by first | (simp only [D, DT, reduceIte, reduceCtorEq, Nat.reduceEqDiff, Nat.reduceAdd, Nat.reduceLT, Nat.reduceLeDiff, Nat.reduceBEq, Int.reduceLE, Int.reduceLT, Int.reduceEq, Int.reduceNeg, g0_20, g5_20, g6_20, g7_20, k1_5_22_20, k6_20, k7_20, k11_20, c62_l0, h27, h28, h30] <;> rfl) | rfl), (by first | (simp only [D, DT, reduceIte, reduceCtorEq, Nat.reduceEqDiff, Nat.reduceAdd, Nat.reduceLT, Nat.reduceLeDiff, Nat.reduceBEq, Int.reduceLE, Int.reduceLT, Int.reduceEq, Int.reduceNeg, g0_20, g5_20, g6_20, g7_20, k1_5_22_20, k6_20, k7_20, k11_20, c62_l0, h27, h28, h30] <;> rfl) | rfl), (by first | (simp only [D, DT, reduceIte, reduceCtorEq, Nat.reduceEqDiff, Nat.reduceAdd, Nat.reduceLT, Nat.reduceLeDiff, Nat.reduceBEq, Int.reduceLE, Int.reduceLT, Int.reduceEq, Int.reduceNeg, g0_20, g5_20, g6_20, g7_20, k1_5_22_20, k6_20, k7_20, k11_20, c62_l0, h27, h28, h30] <;> rfl) | rfl)⟩
noncomputable def mandolinelaw02_RangesStops.a0 (x11 : (List api_Span)) (a1 : Int) : mandolinelaw02_RangesStops.l0X → Option Bool
  | .x0 v25_h7_0 =>
    some (decide (v25_h7_0 = (if (x11.length : Int) < (IntKind.i64.wrap (1 + (Int.tmod (IntKind.i64.wrap (a1)) 22))) then (x11.length : Int) else (IntKind.i64.wrap (1 + (Int.tmod (IntKind.i64.wrap (a1)) 22))))))
  | .ret v26_h7_0 =>
    some (decide (v26_h7_0 = (if (x11.length : Int) < (IntKind.i64.wrap (1 + (Int.tmod (IntKind.i64.wrap (a1)) 22))) then (x11.length : Int) else (IntKind.i64.wrap (1 + (Int.tmod (IntKind.i64.wrap (a1)) 22))))))
noncomputable def mandolinelaw02_RangesStops.f (a0 : (List api_Span)) (a1 : Int) : Option Bool :=
  (mandolinelaw02_wakes.f).bind fun x3 =>
  bif x3 then
    (mandolinelaw02_great.f [a0]).bind fun x7 =>
    bif x7 then
      some true
    else
      (mandolineref02_Of.f a0).bind fun x11 =>
      (ranges_Of.f a0).bind fun x14 =>
      (loopL (fun (s : Int × Int) => mandolinelaw02_RangesStops.l0B x14 a1 s.1 s.2) (0, 0)).bind (mandolinelaw02_RangesStops.a0 x11 a1)
  else
    some false
set_option maxHeartbeats 4000000 in
theorem mandolinelaw02_RangesStops.ok (a0 : (List api_Span)) (a1 : Int) : ansL X 4 [(.sl (encL api_Span.enc a0)), (.int .u8 a1)] = Option.map AV.bool (mandolinelaw02_RangesStops.f a0 a1) := by
  rw [ansL_run (fd := c4) rfl rfl]
  simp only [D, DT, reduceIte, reduceCtorEq, Nat.reduceEqDiff, Nat.reduceAdd, Nat.reduceLT, Nat.reduceLeDiff, Nat.reduceBEq, Int.reduceLE, Int.reduceLT, Int.reduceEq, Int.reduceNeg, c4, mandolinelaw02_RangesStops.f]
  have c1 : ansL X 11 [] = Option.map AV.bool (mandolinelaw02_wakes.f) := mandolinelaw02_wakes.ok
  rcases h2 : mandolinelaw02_wakes.f with _ | x3
  · simp only [D, DT, reduceIte, reduceCtorEq, Nat.reduceEqDiff, Nat.reduceAdd, Nat.reduceLT, Nat.reduceLeDiff, Nat.reduceBEq, Int.reduceLE, Int.reduceLT, Int.reduceEq, Int.reduceNeg, c1, h2]
  · simp only [D, DT, reduceIte, reduceCtorEq, Nat.reduceEqDiff, Nat.reduceAdd, Nat.reduceLT, Nat.reduceLeDiff, Nat.reduceBEq, Int.reduceLE, Int.reduceLT, Int.reduceEq, Int.reduceNeg, c1, h2]
    cases h4 : x3
    · simp only [D, DT, reduceIte, reduceCtorEq, Nat.reduceEqDiff, Nat.reduceAdd, Nat.reduceLT, Nat.reduceLeDiff, Nat.reduceBEq, Int.reduceLE, Int.reduceLT, Int.reduceEq, Int.reduceNeg, c1, h2, h4]
      try rfl
    · simp only [D, DT, reduceIte, reduceCtorEq, Nat.reduceEqDiff, Nat.reduceAdd, Nat.reduceLT, Nat.reduceLeDiff, Nat.reduceBEq, Int.reduceLE, Int.reduceLT, Int.reduceEq, Int.reduceNeg, c1, h2, h4]
      have c5 : ansL X 12 [(.sl [(.sl (encL api_Span.enc a0))])] = Option.map AV.bool (mandolinelaw02_great.f [a0]) := mandolinelaw02_great.ok [a0]
      rcases h6 : mandolinelaw02_great.f [a0] with _ | x7
      · simp only [D, DT, reduceIte, reduceCtorEq, Nat.reduceEqDiff, Nat.reduceAdd, Nat.reduceLT, Nat.reduceLeDiff, Nat.reduceBEq, Int.reduceLE, Int.reduceLT, Int.reduceEq, Int.reduceNeg, c1, h2, h4, c5, h6]
      · simp only [D, DT, reduceIte, reduceCtorEq, Nat.reduceEqDiff, Nat.reduceAdd, Nat.reduceLT, Nat.reduceLeDiff, Nat.reduceBEq, Int.reduceLE, Int.reduceLT, Int.reduceEq, Int.reduceNeg, c1, h2, h4, c5, h6]
        cases h8 : x7
        · simp only [D, DT, reduceIte, reduceCtorEq, Nat.reduceEqDiff, Nat.reduceAdd, Nat.reduceLT, Nat.reduceLeDiff, Nat.reduceBEq, Int.reduceLE, Int.reduceLT, Int.reduceEq, Int.reduceNeg, c1, h2, h4, c5, h6, h8]
          have c9 : ansL X 16 [(.sl (encL api_Span.enc a0))] = Option.map encS_api_Span (mandolineref02_Of.f a0) := mandolineref02_Of.ok a0
          rcases h10 : mandolineref02_Of.f a0 with _ | x11
          · simp only [D, DT, reduceIte, reduceCtorEq, Nat.reduceEqDiff, Nat.reduceAdd, Nat.reduceLT, Nat.reduceLeDiff, Nat.reduceBEq, Int.reduceLE, Int.reduceLT, Int.reduceEq, Int.reduceNeg, c1, h2, h4, c5, h6, h8, c9, h10]
          · simp only [D, DT, reduceIte, reduceCtorEq, Nat.reduceEqDiff, Nat.reduceAdd, Nat.reduceLT, Nat.reduceLeDiff, Nat.reduceBEq, Int.reduceLE, Int.reduceLT, Int.reduceEq, Int.reduceNeg, c1, h2, h4, c5, h6, h8, c9, h10]
            have c12 : ansL X 13 [(.sl (encL api_Span.enc a0))] = Option.map ranges_Set.enc (ranges_Of.f a0) := ranges_Of.ok a0
            rcases h13 : ranges_Of.f a0 with _ | x14
            · simp only [D, DT, reduceIte, reduceCtorEq, Nat.reduceEqDiff, Nat.reduceAdd, Nat.reduceLT, Nat.reduceLeDiff, Nat.reduceBEq, Int.reduceLE, Int.reduceLT, Int.reduceEq, Int.reduceNeg, c1, h2, h4, c5, h6, h8, c9, h10, c12, h13]
            · simp only [D, DT, reduceIte, reduceCtorEq, Nat.reduceEqDiff, Nat.reduceAdd, Nat.reduceLT, Nat.reduceLeDiff, Nat.reduceBEq, Int.reduceLE, Int.reduceLT, Int.reduceEq, Int.reduceNeg, c1, h2, h4, c5, h6, h8, c9, h10, c12, h13]
              rw [call_in (fd := c19) rfl]
              simp only [D, DT, reduceIte, reduceCtorEq, Nat.reduceEqDiff, Nat.reduceAdd, Nat.reduceLT, Nat.reduceLeDiff, Nat.reduceBEq, Int.reduceLE, Int.reduceLT, Int.reduceEq, Int.reduceNeg, c19, c1, h2, h4, c5, h6, h8, c9, h10, c12, h13]
              rw [call_in (fd := c47) rfl]
              simp only [D, DT, reduceIte, reduceCtorEq, Nat.reduceEqDiff, Nat.reduceAdd, Nat.reduceLT, Nat.reduceLeDiff, Nat.reduceBEq, Int.reduceLE, Int.reduceLT, Int.reduceEq, Int.reduceNeg, c47, c1, h2, h4, c5, h6, h8, c9, h10, c12, h13]
              rw [call_in (fd := c62) rfl]
              simp only [D, DT, reduceIte, reduceCtorEq, Nat.reduceEqDiff, Nat.reduceAdd, Nat.reduceLT, Nat.reduceLeDiff, Nat.reduceBEq, Int.reduceLE, Int.reduceLT, Int.reduceEq, Int.reduceNeg, c62, c1, h2, h4, c5, h6, h8, c9, h10, c12, h13]
              refine Eq.trans (mandolinelaw02_RangesStops.l0_ok (fun x => Option.map AV.bool (mandolinelaw02_RangesStops.a0 x11 a1 x)) x14 a1 a0 ?_ ?_ 0 0 _ _ (by first | (simp only [D, DT, reduceIte, reduceCtorEq, Nat.reduceEqDiff, Nat.reduceAdd, Nat.reduceLT, Nat.reduceLeDiff, Nat.reduceBEq, Int.reduceLE, Int.reduceLT, Int.reduceEq, Int.reduceNeg, c1, h2, h4, c5, h6, h8, c9, h10, c12, h13] <;> rfl) | rfl) (by first | (simp only [D, DT, reduceIte, reduceCtorEq, Nat.reduceEqDiff, Nat.reduceAdd, Nat.reduceLT, Nat.reduceLeDiff, Nat.reduceBEq, Int.reduceLE, Int.reduceLT, Int.reduceEq, Int.reduceNeg, c1, h2, h4, c5, h6, h8, c9, h10, c12, h13] <;> rfl) | rfl) (by first | (simp only [D, DT, reduceIte, reduceCtorEq, Nat.reduceEqDiff, Nat.reduceAdd, Nat.reduceLT, Nat.reduceLeDiff, Nat.reduceBEq, Int.reduceLE, Int.reduceLT, Int.reduceEq, Int.reduceNeg, c1, h2, h4, c5, h6, h8, c9, h10, c12, h13] <;> rfl) | rfl) (by first | (simp only [D, DT, reduceIte, reduceCtorEq, Nat.reduceEqDiff, Nat.reduceAdd, Nat.reduceLT, Nat.reduceLeDiff, Nat.reduceBEq, Int.reduceLE, Int.reduceLT, Int.reduceEq, Int.reduceNeg, c1, h2, h4, c5, h6, h8, c9, h10, c12, h13] <;> rfl) | rfl) (by first | (simp only [D, DT, reduceIte, reduceCtorEq, Nat.reduceEqDiff, Nat.reduceAdd, Nat.reduceLT, Nat.reduceLeDiff, Nat.reduceBEq, Int.reduceLE, Int.reduceLT, Int.reduceEq, Int.reduceNeg, c1, h2, h4, c5, h6, h8, c9, h10, c12, h13] <;> rfl) | rfl) (by first | (simp only [D, DT, reduceIte, reduceCtorEq, Nat.reduceEqDiff, Nat.reduceAdd, Nat.reduceLT, Nat.reduceLeDiff, Nat.reduceBEq, Int.reduceLE, Int.reduceLT, Int.reduceEq, Int.reduceNeg, c1, h2, h4, c5, h6, h8, c9, h10, c12, h13] <;> rfl) | rfl) (by first | (simp only [D, DT, reduceIte, reduceCtorEq, Nat.reduceEqDiff, Nat.reduceAdd, Nat.reduceLT, Nat.reduceLeDiff, Nat.reduceBEq, Int.reduceLE, Int.reduceLT, Int.reduceEq, Int.reduceNeg, c1, h2, h4, c5, h6, h8, c9, h10, c12, h13] <;> rfl) | rfl) (by first | (simp only [D, DT, reduceIte, reduceCtorEq, Nat.reduceEqDiff, Nat.reduceAdd, Nat.reduceLT, Nat.reduceLeDiff, Nat.reduceBEq, Int.reduceLE, Int.reduceLT, Int.reduceEq, Int.reduceNeg, c1, h2, h4, c5, h6, h8, c9, h10, c12, h13] <;> rfl) | rfl)) ?_
              · intro v25_h7_0 e_31 H_31 k1_5_22_25_31 k6_25_31 k7_25_31 k11_25_31
                simp only [D, DT, reduceIte, reduceCtorEq, Nat.reduceEqDiff, Nat.reduceAdd, Nat.reduceLT, Nat.reduceLeDiff, Nat.reduceBEq, Int.reduceLE, Int.reduceLT, Int.reduceEq, Int.reduceNeg, mandolinelaw02_RangesStops.a0, c1, h2, h4, c5, h6, h8, c9, h10, c12, h13, k1_5_22_25_31, k6_25_31, k7_25_31, k11_25_31]
                try rfl
              · intro v26_h7_0 e_32 H_32 k1_5_22_26_32 k6_26_32 k7_26_32 k11_26_32
                simp only [D, DT, reduceIte, reduceCtorEq, Nat.reduceEqDiff, Nat.reduceAdd, Nat.reduceLT, Nat.reduceLeDiff, Nat.reduceBEq, Int.reduceLE, Int.reduceLT, Int.reduceEq, Int.reduceNeg, mandolinelaw02_RangesStops.a0, c1, h2, h4, c5, h6, h8, c9, h10, c12, h13, k1_5_22_26_32, k6_26_32, k7_26_32, k11_26_32]
                try rfl
              exact mb _ _ _
        · simp only [D, DT, reduceIte, reduceCtorEq, Nat.reduceEqDiff, Nat.reduceAdd, Nat.reduceLT, Nat.reduceLeDiff, Nat.reduceBEq, Int.reduceLE, Int.reduceLT, Int.reduceEq, Int.reduceNeg, c1, h2, h4, c5, h6, h8]
          try rfl
noncomputable def span_Within.f (a0 : api_Span) (a1 : api_Span) : Option Bool :=
  (span_Right.f a0).bind fun x3 =>
  bif x3 then
    (span_Right.f a1).bind fun x7 =>
    bif x7 then
      bif (decide (a0.From = a0.To)) then
        some true
      else
        bif (decide (a1.From ≤ a0.From)) then
          some (decide (a0.To ≤ a1.To))
        else
          some false
    else
      some false
  else
    some false
set_option maxHeartbeats 4000000 in
theorem span_Within.ok (a0 : api_Span) (a1 : api_Span) : ansL X 48 [(.agg [(.int .i64 a0.From), (.int .i64 a0.To)]), (.agg [(.int .i64 a1.From), (.int .i64 a1.To)])] = Option.map AV.bool (span_Within.f a0 a1) := by
  rw [ansL_run (fd := c48) rfl rfl]
  simp only [D, DT, reduceIte, reduceCtorEq, Nat.reduceEqDiff, Nat.reduceAdd, Nat.reduceLT, Nat.reduceLeDiff, Nat.reduceBEq, Int.reduceLE, Int.reduceLT, Int.reduceEq, Int.reduceNeg, c48, span_Within.f]
  have c1 : ansL X 39 [(.agg [(.int .i64 a0.From), (.int .i64 a0.To)])] = Option.map AV.bool (span_Right.f a0) := span_Right.ok a0
  rcases h2 : span_Right.f a0 with _ | x3
  · simp only [D, DT, reduceIte, reduceCtorEq, Nat.reduceEqDiff, Nat.reduceAdd, Nat.reduceLT, Nat.reduceLeDiff, Nat.reduceBEq, Int.reduceLE, Int.reduceLT, Int.reduceEq, Int.reduceNeg, c1, h2]
  · simp only [D, DT, reduceIte, reduceCtorEq, Nat.reduceEqDiff, Nat.reduceAdd, Nat.reduceLT, Nat.reduceLeDiff, Nat.reduceBEq, Int.reduceLE, Int.reduceLT, Int.reduceEq, Int.reduceNeg, c1, h2]
    cases h4 : x3
    · simp only [D, DT, reduceIte, reduceCtorEq, Nat.reduceEqDiff, Nat.reduceAdd, Nat.reduceLT, Nat.reduceLeDiff, Nat.reduceBEq, Int.reduceLE, Int.reduceLT, Int.reduceEq, Int.reduceNeg, c1, h2, h4]
      try rfl
    · simp only [D, DT, reduceIte, reduceCtorEq, Nat.reduceEqDiff, Nat.reduceAdd, Nat.reduceLT, Nat.reduceLeDiff, Nat.reduceBEq, Int.reduceLE, Int.reduceLT, Int.reduceEq, Int.reduceNeg, c1, h2, h4]
      have c5 : ansL X 39 [(.agg [(.int .i64 a1.From), (.int .i64 a1.To)])] = Option.map AV.bool (span_Right.f a1) := span_Right.ok a1
      rcases h6 : span_Right.f a1 with _ | x7
      · simp only [D, DT, reduceIte, reduceCtorEq, Nat.reduceEqDiff, Nat.reduceAdd, Nat.reduceLT, Nat.reduceLeDiff, Nat.reduceBEq, Int.reduceLE, Int.reduceLT, Int.reduceEq, Int.reduceNeg, c1, h2, h4, c5, h6]
      · simp only [D, DT, reduceIte, reduceCtorEq, Nat.reduceEqDiff, Nat.reduceAdd, Nat.reduceLT, Nat.reduceLeDiff, Nat.reduceBEq, Int.reduceLE, Int.reduceLT, Int.reduceEq, Int.reduceNeg, c1, h2, h4, c5, h6]
        cases h8 : x7
        · simp only [D, DT, reduceIte, reduceCtorEq, Nat.reduceEqDiff, Nat.reduceAdd, Nat.reduceLT, Nat.reduceLeDiff, Nat.reduceBEq, Int.reduceLE, Int.reduceLT, Int.reduceEq, Int.reduceNeg, c1, h2, h4, c5, h6, h8]
          try rfl
        · simp only [D, DT, reduceIte, reduceCtorEq, Nat.reduceEqDiff, Nat.reduceAdd, Nat.reduceLT, Nat.reduceLeDiff, Nat.reduceBEq, Int.reduceLE, Int.reduceLT, Int.reduceEq, Int.reduceNeg, c1, h2, h4, c5, h6, h8]
          cases h9 : (decide (a0.From = a0.To))
          · simp only [D, DT, reduceIte, reduceCtorEq, Nat.reduceEqDiff, Nat.reduceAdd, Nat.reduceLT, Nat.reduceLeDiff, Nat.reduceBEq, Int.reduceLE, Int.reduceLT, Int.reduceEq, Int.reduceNeg, c1, h2, h4, c5, h6, h8, h9]
            cases h10 : (decide (a1.From ≤ a0.From))
            · simp only [D, DT, reduceIte, reduceCtorEq, Nat.reduceEqDiff, Nat.reduceAdd, Nat.reduceLT, Nat.reduceLeDiff, Nat.reduceBEq, Int.reduceLE, Int.reduceLT, Int.reduceEq, Int.reduceNeg, c1, h2, h4, c5, h6, h8, h9, h10]
              try rfl
            · simp only [D, DT, reduceIte, reduceCtorEq, Nat.reduceEqDiff, Nat.reduceAdd, Nat.reduceLT, Nat.reduceLeDiff, Nat.reduceBEq, Int.reduceLE, Int.reduceLT, Int.reduceEq, Int.reduceNeg, c1, h2, h4, c5, h6, h8, h9, h10]
              try rfl
          · simp only [D, DT, reduceIte, reduceCtorEq, Nat.reduceEqDiff, Nat.reduceAdd, Nat.reduceLT, Nat.reduceLeDiff, Nat.reduceBEq, Int.reduceLE, Int.reduceLT, Int.reduceEq, Int.reduceNeg, c1, h2, h4, c5, h6, h8, h9]
            try rfl
inductive ranges_Set_Holds.l0X where
  | x0 (v16_9 : Int)
noncomputable def ranges_Set_Holds.l0B (a0 : ranges_Set) (a1 : api_Span) (v11_9 : Int) (v11_10 : Int) : Option (Step (Int × Int) ranges_Set_Holds.l0X) :=
  bif (decide (v11_9 < v11_10)) then
    (idx a0.l_ (IntKind.i64.wrap ((Int.fdiv (IntKind.u64.wrap ((IntKind.i64.wrap (v11_9 + v11_10)))) (2 ^ (min (1 : Int).toNat IntKind.u64.bits)))))).bind fun x19 =>
    bif (decide (x19.To ≤ a1.From)) then
      some (.next ((IntKind.i64.wrap ((IntKind.i64.wrap ((Int.fdiv (IntKind.u64.wrap ((IntKind.i64.wrap (v11_9 + v11_10)))) (2 ^ (min (1 : Int).toNat IntKind.u64.bits))))) + 1)), v11_10))
    else
      some (.next (v11_9, (IntKind.i64.wrap ((Int.fdiv (IntKind.u64.wrap ((IntKind.i64.wrap (v11_9 + v11_10)))) (2 ^ (min (1 : Int).toNat IntKind.u64.bits)))))))
  else
    some (.done (.x0 v11_9))
set_option maxHeartbeats 4000000 in
theorem ranges_Set_Holds.l0_ok {α : Type} {F : Env → Heap → Option α} {K : List Fr} (fin : ranges_Set_Holds.l0X → Option α) (a0 : ranges_Set) (a1 : api_Span)
    (hx0 : ∀ (v16_9 : Int) (e : Env) (H : Heap), e 0 = (.sl (encL api_Span.enc a0.l_)) → e 1 = (.int .i64 a1.From) → e 2 = (.fn 59 []) → e 8 = (.int .i64 (a0.l_.length : Int)) → e 9 = (.int .i64 v16_9) → outL X [] F K e H 0 = fin (.x0 v16_9)) (v11_9 : Int) (v11_10 : Int) (e : Env) (H : Heap) (g0_11 : e 0 = (.sl (encL api_Span.enc a0.l_))) (g1_11 : e 1 = (.int .i64 a1.From)) (g2_11 : e 2 = (.fn 59 [])) (g8_11 : e 8 = (.int .i64 (a0.l_.length : Int))) (g9_11 : e 9 = (.int .i64 v11_9)) (g10_11 : e 10 = (.int .i64 v11_10)) :
    runL X [] F (.c (.loop c58_l0) :: K) e H = (loopL (fun (s : Int × Int) => ranges_Set_Holds.l0B a0 a1 s.1 s.2) (v11_9, v11_10)).bind fin := by
  refine loop_of (R := fun (s : Int × Int) (e : Env) (H : Heap) => (fun (v11_9 : Int) (v11_10 : Int) => e 0 = (.sl (encL api_Span.enc a0.l_)) ∧ e 1 = (.int .i64 a1.From) ∧ e 2 = (.fn 59 []) ∧ e 8 = (.int .i64 (a0.l_.length : Int)) ∧ e 9 = (.int .i64 v11_9) ∧ e 10 = (.int .i64 v11_10)) s.1 s.2) fin ?_ ⟨g0_11, g1_11, g2_11, g8_11, g9_11, g10_11⟩
  clear g10_11 g9_11 g8_11 g2_11 g1_11 g0_11 e H v11_10 v11_9
  intro n G hn hd s e H hR
  obtain ⟨v11_9, v11_10⟩ := s
  obtain ⟨g0_11, g1_11, g2_11, g8_11, g9_11, g10_11⟩ := hR
  simp only [D, DT, reduceIte, reduceCtorEq, Nat.reduceEqDiff, Nat.reduceAdd, Nat.reduceLT, Nat.reduceLeDiff, Nat.reduceBEq, Int.reduceLE, Int.reduceLT, Int.reduceEq, Int.reduceNeg, ranges_Set_Holds.l0B, g0_11, g1_11, g2_11, g8_11, g9_11, g10_11, c58_l0]
  cases h17 : (decide (v11_9 < v11_10))
  · simp only [D, DT, reduceIte, reduceCtorEq, Nat.reduceEqDiff, Nat.reduceAdd, Nat.reduceLT, Nat.reduceLeDiff, Nat.reduceBEq, Int.reduceLE, Int.reduceLT, Int.reduceEq, Int.reduceNeg, g0_11, g1_11, g2_11, g8_11, g9_11, g10_11, c58_l0, h17]
    exact (hx0 v11_9 _ _ (by first | (simp only [D, DT, reduceIte, reduceCtorEq, Nat.reduceEqDiff, Nat.reduceAdd, Nat.reduceLT, Nat.reduceLeDiff, Nat.reduceBEq, Int.reduceLE, Int.reduceLT, Int.reduceEq, Int.reduceNeg, g0_11, g1_11, g2_11, g8_11, g9_11, g10_11, c58_l0, h17] <;> rfl) | rfl) (by first | (simp only [D, DT, reduceIte, reduceCtorEq, Nat.reduceEqDiff, Nat.reduceAdd, Nat.reduceLT, Nat.reduceLeDiff, Nat.reduceBEq, Int.reduceLE, Int.reduceLT, Int.reduceEq, Int.reduceNeg, g0_11, g1_11, g2_11, g8_11, g9_11, g10_11, c58_l0, h17] <;> rfl) | rfl) (by first | (simp only [D, DT, reduceIte, reduceCtorEq, Nat.reduceEqDiff, Nat.reduceAdd, Nat.reduceLT, Nat.reduceLeDiff, Nat.reduceBEq, Int.reduceLE, Int.reduceLT, Int.reduceEq, Int.reduceNeg, g0_11, g1_11, g2_11, g8_11, g9_11, g10_11, c58_l0, h17] <;> rfl) | rfl) (by first | (simp only [D, DT, reduceIte, reduceCtorEq, Nat.reduceEqDiff, Nat.reduceAdd, Nat.reduceLT, Nat.reduceLeDiff, Nat.reduceBEq, Int.reduceLE, Int.reduceLT, Int.reduceEq, Int.reduceNeg, g0_11, g1_11, g2_11, g8_11, g9_11, g10_11, c58_l0, h17] <;> rfl) | rfl) (by first | (simp only [D, DT, reduceIte, reduceCtorEq, Nat.reduceEqDiff, Nat.reduceAdd, Nat.reduceLT, Nat.reduceLeDiff, Nat.reduceBEq, Int.reduceLE, Int.reduceLT, Int.reduceEq, Int.reduceNeg, g0_11, g1_11, g2_11, g8_11, g9_11, g10_11, c58_l0, h17] <;> rfl) | rfl)).trans (hd _).symm
  · simp only [D, DT, reduceIte, reduceCtorEq, Nat.reduceEqDiff, Nat.reduceAdd, Nat.reduceLT, Nat.reduceLeDiff, Nat.reduceBEq, Int.reduceLE, Int.reduceLT, Int.reduceEq, Int.reduceNeg, g0_11, g1_11, g2_11, g8_11, g9_11, g10_11, c58_l0, h17]
    rcases h18 : idx a0.l_ (IntKind.i64.wrap ((Int.fdiv (IntKind.u64.wrap ((IntKind.i64.wrap (v11_9 + v11_10)))) (2 ^ (min (1 : Int).toNat IntKind.u64.bits))))) with _ | x19
    · simp only [D, DT, reduceIte, reduceCtorEq, Nat.reduceEqDiff, Nat.reduceAdd, Nat.reduceLT, Nat.reduceLeDiff, Nat.reduceBEq, Int.reduceLE, Int.reduceLT, Int.reduceEq, Int.reduceNeg, g0_11, g1_11, g2_11, g8_11, g9_11, g10_11, c58_l0, h17, h18]
    · simp only [D, DT, reduceIte, reduceCtorEq, Nat.reduceEqDiff, Nat.reduceAdd, Nat.reduceLT, Nat.reduceLeDiff, Nat.reduceBEq, Int.reduceLE, Int.reduceLT, Int.reduceEq, Int.reduceNeg, g0_11, g1_11, g2_11, g8_11, g9_11, g10_11, c58_l0, h17, h18]
      rw [ans_in (fd := c59) rfl rfl]
      simp only [D, DT, reduceIte, reduceCtorEq, Nat.reduceEqDiff, Nat.reduceAdd, Nat.reduceLT, Nat.reduceLeDiff, Nat.reduceBEq, Int.reduceLE, Int.reduceLT, Int.reduceEq, Int.reduceNeg, c59, g0_11, g1_11, g2_11, g8_11, g9_11, g10_11, c58_l0, h17, h18]
      cases h20 : (decide (x19.To ≤ a1.From))
      · simp only [D, DT, reduceIte, reduceCtorEq, Nat.reduceEqDiff, Nat.reduceAdd, Nat.reduceLT, Nat.reduceLeDiff, Nat.reduceBEq, Int.reduceLE, Int.reduceLT, Int.reduceEq, Int.reduceNeg, g0_11, g1_11, g2_11, g8_11, g9_11, g10_11, c58_l0, h17, h18, h20]
        exact hn _ _ _ ⟨(by first | (simp only [D, DT, reduceIte, reduceCtorEq, Nat.reduceEqDiff, Nat.reduceAdd, Nat.reduceLT, Nat.reduceLeDiff, Nat.reduceBEq, Int.reduceLE, Int.reduceLT, Int.reduceEq, Int.reduceNeg, g0_11, g1_11, g2_11, g8_11, g9_11, g10_11, c58_l0, h17, h18, h20] <;> rfl) | rfl), (by first | (simp only [D, DT, reduceIte, reduceCtorEq, Nat.reduceEqDiff, Nat.reduceAdd, Nat.reduceLT, Nat.reduceLeDiff, Nat.reduceBEq, Int.reduceLE, Int.reduceLT, Int.reduceEq, Int.reduceNeg, g0_11, g1_11, g2_11, g8_11, g9_11, g10_11, c58_l0, h17, h18, h20] <;> rfl) | rfl), (by first | (simp only [D, DT, reduceIte, reduceCtorEq, Nat.reduceEqDiff, Nat.reduceAdd, Nat.reduceLT, Nat.reduceLeDiff, Nat.reduceBEq, Int.reduceLE, Int.reduceLT, Int.reduceEq, Int.reduceNeg, g0_11, g1_11, g2_11, g8_11, g9_11, g10_11, c58_l0, h17, h18, h20] <;> rfl) | rfl), (by first | (simp only [D, DT, reduceIte, reduceCtorEq, Nat.reduceEqDiff, Nat.reduceAdd, Nat.reduceLT, Nat.reduceLeDiff, Nat.reduceBEq, Int.reduceLE, Int.reduceLT, Int.reduceEq, Int.reduceNeg, g0_11, g1_11, g2_11, g8_11, g9_11, g10_11, c58_l0, h17, h18, h20] <;> rfl) | rfl), (by first | (simp only [D, DT, reduceIte, reduceCtorEq, Nat.reduceEqDiff, Nat.reduceAdd, Nat.reduceLT, Nat.reduceLeDiff, Nat.reduceBEq, Int.reduceLE, Int.reduceLT, Int.reduceEq, Int.reduceNeg, g0_11, g1_11, g2_11, g8_11, g9_11, g10_11, c58_l0, h17, h18, h20] <;> rfl) | rfl), (by first | (simp only [D, DT, reduceIte, reduceCtorEq, Nat.reduceEqDiff, Nat.reduceAdd, Nat.reduceLT, Nat.reduceLeDiff, Nat.reduceBEq, Int.reduceLE, Int.reduceLT, Int.reduceEq, Int.reduceNeg, g0_11, g1_11, g2_11, g8_11, g9_11, g10_11, c58_l0, h17, h18, h20] <;> rfl) | rfl)⟩
      · simp only [D, DT, reduceIte, reduceCtorEq, Nat.reduceEqDiff, Nat.reduceAdd, Nat.reduceLT, Nat.reduceLeDiff, Nat.reduceBEq, Int.reduceLE, Int.reduceLT, Int.reduceEq, Int.reduceNeg, g0_11, g1_11, g2_11, g8_11, g9_11, g10_11, c58_l0, h17, h18, h20]
        exact hn _ _ _ ⟨(by first | (simp only [D, DT, reduceIte, reduceCtorEq, Nat.reduceEqDiff, Nat.reduceAdd, Nat.reduceLT, Nat.reduceLeDiff, Nat.reduceBEq, Int.reduceLE, Int.reduceLT, Int.reduceEq, Int.reduceNeg, g0_11, g1_11, g2_11, g8_11, g9_11, g10_11, c58_l0, h17, h18, h20] <;> rfl) | rfl), (by first | (simp only [D, DT, reduceIte, reduceCtorEq, Nat.reduceEqDiff, Nat.reduceAdd, Nat.reduceLT, Nat.reduceLeDiff, Nat.reduceBEq, Int.reduceLE, Int.reduceLT, Int.reduceEq, Int.reduceNeg, g0_11, g1_11, g2_11, g8_11, g9_11, g10_11, c58_l0, h17, h18, h20] <;> rfl) | rfl), (by first | (simp only [D, DT, reduceIte, reduceCtorEq, Nat.reduceEqDiff, Nat.reduceAdd, Nat.reduceLT, Nat.reduceLeDiff, Nat.reduceBEq, Int.reduceLE, Int.reduceLT, Int.reduceEq, Int.reduceNeg, g0_11, g1_11, g2_11, g8_11, g9_11, g10_11, c58_l0, h17, h18, h20] <;> rfl) | rfl), (by first | (simp only [D, DT, reduceIte, reduceCtorEq, Nat.reduceEqDiff, Nat.reduceAdd, Nat.reduceLT, Nat.reduceLeDiff, Nat.reduceBEq, Int.reduceLE, Int.reduceLT, Int.reduceEq, Int.reduceNeg, g0_11, g1_11, g2_11, g8_11, g9_11, g10_11, c58_l0, h17, h18, h20] <;> rfl) | rfl), (by first | (simp only [D, DT, reduceIte, reduceCtorEq, Nat.reduceEqDiff, Nat.reduceAdd, Nat.reduceLT, Nat.reduceLeDiff, Nat.reduceBEq, Int.reduceLE, Int.reduceLT, Int.reduceEq, Int.reduceNeg, g0_11, g1_11, g2_11, g8_11, g9_11, g10_11, c58_l0, h17, h18, h20] <;> rfl) | rfl), (by first | (simp only [D, DT, reduceIte, reduceCtorEq, Nat.reduceEqDiff, Nat.reduceAdd, Nat.reduceLT, Nat.reduceLeDiff, Nat.reduceBEq, Int.reduceLE, Int.reduceLT, Int.reduceEq, Int.reduceNeg, g0_11, g1_11, g2_11, g8_11, g9_11, g10_11, c58_l0, h17, h18, h20] <;> rfl) | rfl)⟩
noncomputable def ranges_Set_Holds.a0 (a0 : ranges_Set) (a1 : api_Span) : ranges_Set_Holds.l0X → Option Bool
  | .x0 v16_9 =>
    bif (decide (v16_9 < (a0.l_.length : Int))) then
      (idx a0.l_ v16_9).bind fun x24 =>
      bif (decide (x24.To ≤ a1.From)) then
        (span_Within.f a1 x24).bind fun x31 =>
        some x31
      else
        (span_Within.f a1 x24).bind fun x28 =>
        some x28
    else
      some false
noncomputable def ranges_Set_Holds.f (a0 : ranges_Set) (a1 : api_Span) : Option Bool :=
  (span_Right.f a1).bind fun x3 =>
  bif x3 then
    bif (decide (a1.From = a1.To)) then
      some true
    else
      (loopL (fun (s : Int × Int) => ranges_Set_Holds.l0B a0 a1 s.1 s.2) (0, (a0.l_.length : Int))).bind (ranges_Set_Holds.a0 a0 a1)
  else
    some false
set_option maxHeartbeats 4000000 in
theorem ranges_Set_Holds.ok (a0 : ranges_Set) (a1 : api_Span) : ansL X 21 [(.agg [(.sl (encL api_Span.enc a0.l_))]), (.agg [(.int .i64 a1.From), (.int .i64 a1.To)])] = Option.map AV.bool (ranges_Set_Holds.f a0 a1) := by
  rw [ansL_run (fd := c21) rfl rfl]
  simp only [D, DT, reduceIte, reduceCtorEq, Nat.reduceEqDiff, Nat.reduceAdd, Nat.reduceLT, Nat.reduceLeDiff, Nat.reduceBEq, Int.reduceLE, Int.reduceLT, Int.reduceEq, Int.reduceNeg, c21, ranges_Set_Holds.f]
  have c1 : ansL X 39 [(.agg [(.int .i64 a1.From), (.int .i64 a1.To)])] = Option.map AV.bool (span_Right.f a1) := span_Right.ok a1
  rcases h2 : span_Right.f a1 with _ | x3
  · simp only [D, DT, reduceIte, reduceCtorEq, Nat.reduceEqDiff, Nat.reduceAdd, Nat.reduceLT, Nat.reduceLeDiff, Nat.reduceBEq, Int.reduceLE, Int.reduceLT, Int.reduceEq, Int.reduceNeg, c1, h2]
  · simp only [D, DT, reduceIte, reduceCtorEq, Nat.reduceEqDiff, Nat.reduceAdd, Nat.reduceLT, Nat.reduceLeDiff, Nat.reduceBEq, Int.reduceLE, Int.reduceLT, Int.reduceEq, Int.reduceNeg, c1, h2]
    cases h4 : x3
    · simp only [D, DT, reduceIte, reduceCtorEq, Nat.reduceEqDiff, Nat.reduceAdd, Nat.reduceLT, Nat.reduceLeDiff, Nat.reduceBEq, Int.reduceLE, Int.reduceLT, Int.reduceEq, Int.reduceNeg, c1, h2, h4]
      try rfl
    · simp only [D, DT, reduceIte, reduceCtorEq, Nat.reduceEqDiff, Nat.reduceAdd, Nat.reduceLT, Nat.reduceLeDiff, Nat.reduceBEq, Int.reduceLE, Int.reduceLT, Int.reduceEq, Int.reduceNeg, c1, h2, h4]
      cases h5 : (decide (a1.From = a1.To))
      · simp only [D, DT, reduceIte, reduceCtorEq, Nat.reduceEqDiff, Nat.reduceAdd, Nat.reduceLT, Nat.reduceLeDiff, Nat.reduceBEq, Int.reduceLE, Int.reduceLT, Int.reduceEq, Int.reduceNeg, c1, h2, h4, h5]
        rw [ans_in (fd := c43) rfl rfl]
        simp only [D, DT, reduceIte, reduceCtorEq, Nat.reduceEqDiff, Nat.reduceAdd, Nat.reduceLT, Nat.reduceLeDiff, Nat.reduceBEq, Int.reduceLE, Int.reduceLT, Int.reduceEq, Int.reduceNeg, c43, c1, h2, h4, h5]
        rw [ans_in (fd := c58) rfl rfl]
        simp only [D, DT, reduceIte, reduceCtorEq, Nat.reduceEqDiff, Nat.reduceAdd, Nat.reduceLT, Nat.reduceLeDiff, Nat.reduceBEq, Int.reduceLE, Int.reduceLT, Int.reduceEq, Int.reduceNeg, c58, c1, h2, h4, h5]
        refine Eq.trans (ranges_Set_Holds.l0_ok (fun x => Option.map AV.bool (ranges_Set_Holds.a0 a0 a1 x)) a0 a1 ?_ 0 (a0.l_.length : Int) _ _ (by first | (simp only [D, DT, reduceIte, reduceCtorEq, Nat.reduceEqDiff, Nat.reduceAdd, Nat.reduceLT, Nat.reduceLeDiff, Nat.reduceBEq, Int.reduceLE, Int.reduceLT, Int.reduceEq, Int.reduceNeg, c1, h2, h4, h5] <;> rfl) | rfl) (by first | (simp only [D, DT, reduceIte, reduceCtorEq, Nat.reduceEqDiff, Nat.reduceAdd, Nat.reduceLT, Nat.reduceLeDiff, Nat.reduceBEq, Int.reduceLE, Int.reduceLT, Int.reduceEq, Int.reduceNeg, c1, h2, h4, h5] <;> rfl) | rfl) (by first | (simp only [D, DT, reduceIte, reduceCtorEq, Nat.reduceEqDiff, Nat.reduceAdd, Nat.reduceLT, Nat.reduceLeDiff, Nat.reduceBEq, Int.reduceLE, Int.reduceLT, Int.reduceEq, Int.reduceNeg, c1, h2, h4, h5] <;> rfl) | rfl) (by first | (simp only [D, DT, reduceIte, reduceCtorEq, Nat.reduceEqDiff, Nat.reduceAdd, Nat.reduceLT, Nat.reduceLeDiff, Nat.reduceBEq, Int.reduceLE, Int.reduceLT, Int.reduceEq, Int.reduceNeg, c1, h2, h4, h5] <;> rfl) | rfl) (by first | (simp only [D, DT, reduceIte, reduceCtorEq, Nat.reduceEqDiff, Nat.reduceAdd, Nat.reduceLT, Nat.reduceLeDiff, Nat.reduceBEq, Int.reduceLE, Int.reduceLT, Int.reduceEq, Int.reduceNeg, c1, h2, h4, h5] <;> rfl) | rfl) (by first | (simp only [D, DT, reduceIte, reduceCtorEq, Nat.reduceEqDiff, Nat.reduceAdd, Nat.reduceLT, Nat.reduceLeDiff, Nat.reduceBEq, Int.reduceLE, Int.reduceLT, Int.reduceEq, Int.reduceNeg, c1, h2, h4, h5] <;> rfl) | rfl)) ?_
        · intro v16_9 e_21 H_21 g0_16_21 g1_16_21 g2_16_21 g8_16_21 g9_16_21
          simp only [D, DT, reduceIte, reduceCtorEq, Nat.reduceEqDiff, Nat.reduceAdd, Nat.reduceLT, Nat.reduceLeDiff, Nat.reduceBEq, Int.reduceLE, Int.reduceLT, Int.reduceEq, Int.reduceNeg, ranges_Set_Holds.a0, c1, h2, h4, h5, g0_16_21, g1_16_21, g2_16_21, g8_16_21, g9_16_21]
          cases h22 : (decide (v16_9 < (a0.l_.length : Int)))
          · simp only [D, DT, reduceIte, reduceCtorEq, Nat.reduceEqDiff, Nat.reduceAdd, Nat.reduceLT, Nat.reduceLeDiff, Nat.reduceBEq, Int.reduceLE, Int.reduceLT, Int.reduceEq, Int.reduceNeg, c1, h2, h4, h5, g0_16_21, g1_16_21, g2_16_21, g8_16_21, g9_16_21, h22]
            try rfl
          · simp only [D, DT, reduceIte, reduceCtorEq, Nat.reduceEqDiff, Nat.reduceAdd, Nat.reduceLT, Nat.reduceLeDiff, Nat.reduceBEq, Int.reduceLE, Int.reduceLT, Int.reduceEq, Int.reduceNeg, c1, h2, h4, h5, g0_16_21, g1_16_21, g2_16_21, g8_16_21, g9_16_21, h22]
            rcases h23 : idx a0.l_ v16_9 with _ | x24
            · simp only [D, DT, reduceIte, reduceCtorEq, Nat.reduceEqDiff, Nat.reduceAdd, Nat.reduceLT, Nat.reduceLeDiff, Nat.reduceBEq, Int.reduceLE, Int.reduceLT, Int.reduceEq, Int.reduceNeg, c1, h2, h4, h5, g0_16_21, g1_16_21, g2_16_21, g8_16_21, g9_16_21, h22, h23]
            · simp only [D, DT, reduceIte, reduceCtorEq, Nat.reduceEqDiff, Nat.reduceAdd, Nat.reduceLT, Nat.reduceLeDiff, Nat.reduceBEq, Int.reduceLE, Int.reduceLT, Int.reduceEq, Int.reduceNeg, c1, h2, h4, h5, g0_16_21, g1_16_21, g2_16_21, g8_16_21, g9_16_21, h22, h23]
              rw [ans_in (fd := c59) rfl rfl]
              simp only [D, DT, reduceIte, reduceCtorEq, Nat.reduceEqDiff, Nat.reduceAdd, Nat.reduceLT, Nat.reduceLeDiff, Nat.reduceBEq, Int.reduceLE, Int.reduceLT, Int.reduceEq, Int.reduceNeg, c59, c1, h2, h4, h5, g0_16_21, g1_16_21, g2_16_21, g8_16_21, g9_16_21, h22, h23]
              cases h25 : (decide (x24.To ≤ a1.From))
              · simp only [D, DT, reduceIte, reduceCtorEq, Nat.reduceEqDiff, Nat.reduceAdd, Nat.reduceLT, Nat.reduceLeDiff, Nat.reduceBEq, Int.reduceLE, Int.reduceLT, Int.reduceEq, Int.reduceNeg, c1, h2, h4, h5, g0_16_21, g1_16_21, g2_16_21, g8_16_21, g9_16_21, h22, h23, h25]
                have c26 : ansL X 48 [(.agg [(.int .i64 a1.From), (.int .i64 a1.To)]), (.agg [(.int .i64 x24.From), (.int .i64 x24.To)])] = Option.map AV.bool (span_Within.f a1 x24) := span_Within.ok a1 x24
                rcases h27 : span_Within.f a1 x24 with _ | x28
                · simp only [D, DT, reduceIte, reduceCtorEq, Nat.reduceEqDiff, Nat.reduceAdd, Nat.reduceLT, Nat.reduceLeDiff, Nat.reduceBEq, Int.reduceLE, Int.reduceLT, Int.reduceEq, Int.reduceNeg, c1, h2, h4, h5, g0_16_21, g1_16_21, g2_16_21, g8_16_21, g9_16_21, h22, h23, h25, c26, h27]
                · simp only [D, DT, reduceIte, reduceCtorEq, Nat.reduceEqDiff, Nat.reduceAdd, Nat.reduceLT, Nat.reduceLeDiff, Nat.reduceBEq, Int.reduceLE, Int.reduceLT, Int.reduceEq, Int.reduceNeg, c1, h2, h4, h5, g0_16_21, g1_16_21, g2_16_21, g8_16_21, g9_16_21, h22, h23, h25, c26, h27]
                  try rfl
              · simp only [D, DT, reduceIte, reduceCtorEq, Nat.reduceEqDiff, Nat.reduceAdd, Nat.reduceLT, Nat.reduceLeDiff, Nat.reduceBEq, Int.reduceLE, Int.reduceLT, Int.reduceEq, Int.reduceNeg, c1, h2, h4, h5, g0_16_21, g1_16_21, g2_16_21, g8_16_21, g9_16_21, h22, h23, h25]
                have c29 : ansL X 48 [(.agg [(.int .i64 a1.From), (.int .i64 a1.To)]), (.agg [(.int .i64 x24.From), (.int .i64 x24.To)])] = Option.map AV.bool (span_Within.f a1 x24) := span_Within.ok a1 x24
                rcases h30 : span_Within.f a1 x24 with _ | x31
                · simp only [D, DT, reduceIte, reduceCtorEq, Nat.reduceEqDiff, Nat.reduceAdd, Nat.reduceLT, Nat.reduceLeDiff, Nat.reduceBEq, Int.reduceLE, Int.reduceLT, Int.reduceEq, Int.reduceNeg, c1, h2, h4, h5, g0_16_21, g1_16_21, g2_16_21, g8_16_21, g9_16_21, h22, h23, h25, c29, h30]
                · simp only [D, DT, reduceIte, reduceCtorEq, Nat.reduceEqDiff, Nat.reduceAdd, Nat.reduceLT, Nat.reduceLeDiff, Nat.reduceBEq, Int.reduceLE, Int.reduceLT, Int.reduceEq, Int.reduceNeg, c1, h2, h4, h5, g0_16_21, g1_16_21, g2_16_21, g8_16_21, g9_16_21, h22, h23, h25, c29, h30]
                  try rfl
        exact mb _ _ _
      · simp only [D, DT, reduceIte, reduceCtorEq, Nat.reduceEqDiff, Nat.reduceAdd, Nat.reduceLT, Nat.reduceLeDiff, Nat.reduceBEq, Int.reduceLE, Int.reduceLT, Int.reduceEq, Int.reduceNeg, c1, h2, h4, h5]
        try rfl
noncomputable def mandolineref02_Less.f (a0 : (List api_Span)) (a1 : (List api_Span)) : Option (List api_Span) :=
  (mandolineref02_of.f a0 a1 3).bind fun x3 =>
  some x3
set_option maxHeartbeats 4000000 in
theorem mandolineref02_Less.ok (a0 : (List api_Span)) (a1 : (List api_Span)) : ansL X 36 [(.sl (encL api_Span.enc a0)), (.sl (encL api_Span.enc a1))] = Option.map encS_api_Span (mandolineref02_Less.f a0 a1) := by
  rw [ansL_run (fd := c36) rfl rfl]
  simp only [D, DT, reduceIte, reduceCtorEq, Nat.reduceEqDiff, Nat.reduceAdd, Nat.reduceLT, Nat.reduceLeDiff, Nat.reduceBEq, Int.reduceLE, Int.reduceLT, Int.reduceEq, Int.reduceNeg, c36, mandolineref02_Less.f]
  have c1 : ansL X 44 [(.sl (encL api_Span.enc a0)), (.sl (encL api_Span.enc a1)), (.int .i64 3)] = Option.map encS_api_Span (mandolineref02_of.f a0 a1 3) := mandolineref02_of.ok a0 a1 3
  rcases h2 : mandolineref02_of.f a0 a1 3 with _ | x3
  · simp only [D, DT, reduceIte, reduceCtorEq, Nat.reduceEqDiff, Nat.reduceAdd, Nat.reduceLT, Nat.reduceLeDiff, Nat.reduceBEq, Int.reduceLE, Int.reduceLT, Int.reduceEq, Int.reduceNeg, c1, h2]
  · simp only [D, DT, reduceIte, reduceCtorEq, Nat.reduceEqDiff, Nat.reduceAdd, Nat.reduceLT, Nat.reduceLeDiff, Nat.reduceBEq, Int.reduceLE, Int.reduceLT, Int.reduceEq, Int.reduceNeg, c1, h2]
    try rfl
noncomputable def mandolineref02_Holds.f (a0 : (List api_Span)) (a1 : api_Span) : Option Bool :=
  (mandolineref01_Right.f a1).bind fun x3 =>
  bif x3 then
    (mandolineref02_Less.f [a1] a0).bind fun x7 =>
    some (decide ((x7.length : Int) = 0))
  else
    some false
set_option maxHeartbeats 4000000 in
theorem mandolineref02_Holds.ok (a0 : (List api_Span)) (a1 : api_Span) : ansL X 22 [(.sl (encL api_Span.enc a0)), (.agg [(.int .i64 a1.From), (.int .i64 a1.To)])] = Option.map AV.bool (mandolineref02_Holds.f a0 a1) := by
  rw [ansL_run (fd := c22) rfl rfl]
  simp only [D, DT, reduceIte, reduceCtorEq, Nat.reduceEqDiff, Nat.reduceAdd, Nat.reduceLT, Nat.reduceLeDiff, Nat.reduceBEq, Int.reduceLE, Int.reduceLT, Int.reduceEq, Int.reduceNeg, c22, mandolineref02_Holds.f]
  have c1 : ansL X 46 [(.agg [(.int .i64 a1.From), (.int .i64 a1.To)])] = Option.map AV.bool (mandolineref01_Right.f a1) := mandolineref01_Right.ok a1
  rcases h2 : mandolineref01_Right.f a1 with _ | x3
  · simp only [D, DT, reduceIte, reduceCtorEq, Nat.reduceEqDiff, Nat.reduceAdd, Nat.reduceLT, Nat.reduceLeDiff, Nat.reduceBEq, Int.reduceLE, Int.reduceLT, Int.reduceEq, Int.reduceNeg, c1, h2]
  · simp only [D, DT, reduceIte, reduceCtorEq, Nat.reduceEqDiff, Nat.reduceAdd, Nat.reduceLT, Nat.reduceLeDiff, Nat.reduceBEq, Int.reduceLE, Int.reduceLT, Int.reduceEq, Int.reduceNeg, c1, h2]
    cases h4 : x3
    · simp only [D, DT, reduceIte, reduceCtorEq, Nat.reduceEqDiff, Nat.reduceAdd, Nat.reduceLT, Nat.reduceLeDiff, Nat.reduceBEq, Int.reduceLE, Int.reduceLT, Int.reduceEq, Int.reduceNeg, c1, h2, h4]
      try rfl
    · simp only [D, DT, reduceIte, reduceCtorEq, Nat.reduceEqDiff, Nat.reduceAdd, Nat.reduceLT, Nat.reduceLeDiff, Nat.reduceBEq, Int.reduceLE, Int.reduceLT, Int.reduceEq, Int.reduceNeg, c1, h2, h4]
      have c5 : ansL X 36 [(.sl [(.agg [(.int .i64 a1.From), (.int .i64 a1.To)])]), (.sl (encL api_Span.enc a0))] = Option.map encS_api_Span (mandolineref02_Less.f [a1] a0) := mandolineref02_Less.ok [a1] a0
      rcases h6 : mandolineref02_Less.f [a1] a0 with _ | x7
      · simp only [D, DT, reduceIte, reduceCtorEq, Nat.reduceEqDiff, Nat.reduceAdd, Nat.reduceLT, Nat.reduceLeDiff, Nat.reduceBEq, Int.reduceLE, Int.reduceLT, Int.reduceEq, Int.reduceNeg, c1, h2, h4, c5, h6]
      · simp only [D, DT, reduceIte, reduceCtorEq, Nat.reduceEqDiff, Nat.reduceAdd, Nat.reduceLT, Nat.reduceLeDiff, Nat.reduceBEq, Int.reduceLE, Int.reduceLT, Int.reduceEq, Int.reduceNeg, c1, h2, h4, c5, h6]
        try rfl
noncomputable def mandolinelaw02_RangesHolds.f (a0 : (List api_Span)) (a1 : api_Span) : Option Bool :=
  (mandolinelaw02_wakes.f).bind fun x3 =>
  bif x3 then
    (mandolinelaw02_great.f [a0]).bind fun x7 =>
    bif x7 then
      some true
    else
      (ranges_Of.f a0).bind fun x11 =>
      (ranges_Set_Holds.f x11 a1).bind fun x14 =>
      (mandolineref02_Of.f a0).bind fun x17 =>
      (mandolineref02_Holds.f x17 a1).bind fun x20 =>
      some (x14 == x20)
  else
    some false
set_option maxHeartbeats 4000000 in
theorem mandolinelaw02_RangesHolds.ok (a0 : (List api_Span)) (a1 : api_Span) : ansL X 5 [(.sl (encL api_Span.enc a0)), (.agg [(.int .i64 a1.From), (.int .i64 a1.To)])] = Option.map AV.bool (mandolinelaw02_RangesHolds.f a0 a1) := by
  rw [ansL_run (fd := c5) rfl rfl]
  simp only [D, DT, reduceIte, reduceCtorEq, Nat.reduceEqDiff, Nat.reduceAdd, Nat.reduceLT, Nat.reduceLeDiff, Nat.reduceBEq, Int.reduceLE, Int.reduceLT, Int.reduceEq, Int.reduceNeg, c5, mandolinelaw02_RangesHolds.f]
  have c1 : ansL X 11 [] = Option.map AV.bool (mandolinelaw02_wakes.f) := mandolinelaw02_wakes.ok
  rcases h2 : mandolinelaw02_wakes.f with _ | x3
  · simp only [D, DT, reduceIte, reduceCtorEq, Nat.reduceEqDiff, Nat.reduceAdd, Nat.reduceLT, Nat.reduceLeDiff, Nat.reduceBEq, Int.reduceLE, Int.reduceLT, Int.reduceEq, Int.reduceNeg, c1, h2]
  · simp only [D, DT, reduceIte, reduceCtorEq, Nat.reduceEqDiff, Nat.reduceAdd, Nat.reduceLT, Nat.reduceLeDiff, Nat.reduceBEq, Int.reduceLE, Int.reduceLT, Int.reduceEq, Int.reduceNeg, c1, h2]
    cases h4 : x3
    · simp only [D, DT, reduceIte, reduceCtorEq, Nat.reduceEqDiff, Nat.reduceAdd, Nat.reduceLT, Nat.reduceLeDiff, Nat.reduceBEq, Int.reduceLE, Int.reduceLT, Int.reduceEq, Int.reduceNeg, c1, h2, h4]
      try rfl
    · simp only [D, DT, reduceIte, reduceCtorEq, Nat.reduceEqDiff, Nat.reduceAdd, Nat.reduceLT, Nat.reduceLeDiff, Nat.reduceBEq, Int.reduceLE, Int.reduceLT, Int.reduceEq, Int.reduceNeg, c1, h2, h4]
      have c5 : ansL X 12 [(.sl [(.sl (encL api_Span.enc a0))])] = Option.map AV.bool (mandolinelaw02_great.f [a0]) := mandolinelaw02_great.ok [a0]
      rcases h6 : mandolinelaw02_great.f [a0] with _ | x7
      · simp only [D, DT, reduceIte, reduceCtorEq, Nat.reduceEqDiff, Nat.reduceAdd, Nat.reduceLT, Nat.reduceLeDiff, Nat.reduceBEq, Int.reduceLE, Int.reduceLT, Int.reduceEq, Int.reduceNeg, c1, h2, h4, c5, h6]
      · simp only [D, DT, reduceIte, reduceCtorEq, Nat.reduceEqDiff, Nat.reduceAdd, Nat.reduceLT, Nat.reduceLeDiff, Nat.reduceBEq, Int.reduceLE, Int.reduceLT, Int.reduceEq, Int.reduceNeg, c1, h2, h4, c5, h6]
        cases h8 : x7
        · simp only [D, DT, reduceIte, reduceCtorEq, Nat.reduceEqDiff, Nat.reduceAdd, Nat.reduceLT, Nat.reduceLeDiff, Nat.reduceBEq, Int.reduceLE, Int.reduceLT, Int.reduceEq, Int.reduceNeg, c1, h2, h4, c5, h6, h8]
          have c9 : ansL X 13 [(.sl (encL api_Span.enc a0))] = Option.map ranges_Set.enc (ranges_Of.f a0) := ranges_Of.ok a0
          rcases h10 : ranges_Of.f a0 with _ | x11
          · simp only [D, DT, reduceIte, reduceCtorEq, Nat.reduceEqDiff, Nat.reduceAdd, Nat.reduceLT, Nat.reduceLeDiff, Nat.reduceBEq, Int.reduceLE, Int.reduceLT, Int.reduceEq, Int.reduceNeg, c1, h2, h4, c5, h6, h8, c9, h10]
          · simp only [D, DT, reduceIte, reduceCtorEq, Nat.reduceEqDiff, Nat.reduceAdd, Nat.reduceLT, Nat.reduceLeDiff, Nat.reduceBEq, Int.reduceLE, Int.reduceLT, Int.reduceEq, Int.reduceNeg, c1, h2, h4, c5, h6, h8, c9, h10]
            have c12 : ansL X 21 [(.agg [(.sl (encL api_Span.enc x11.l_))]), (.agg [(.int .i64 a1.From), (.int .i64 a1.To)])] = Option.map AV.bool (ranges_Set_Holds.f x11 a1) := ranges_Set_Holds.ok x11 a1
            rcases h13 : ranges_Set_Holds.f x11 a1 with _ | x14
            · simp only [D, DT, reduceIte, reduceCtorEq, Nat.reduceEqDiff, Nat.reduceAdd, Nat.reduceLT, Nat.reduceLeDiff, Nat.reduceBEq, Int.reduceLE, Int.reduceLT, Int.reduceEq, Int.reduceNeg, c1, h2, h4, c5, h6, h8, c9, h10, c12, h13]
            · simp only [D, DT, reduceIte, reduceCtorEq, Nat.reduceEqDiff, Nat.reduceAdd, Nat.reduceLT, Nat.reduceLeDiff, Nat.reduceBEq, Int.reduceLE, Int.reduceLT, Int.reduceEq, Int.reduceNeg, c1, h2, h4, c5, h6, h8, c9, h10, c12, h13]
              have c15 : ansL X 16 [(.sl (encL api_Span.enc a0))] = Option.map encS_api_Span (mandolineref02_Of.f a0) := mandolineref02_Of.ok a0
              rcases h16 : mandolineref02_Of.f a0 with _ | x17
              · simp only [D, DT, reduceIte, reduceCtorEq, Nat.reduceEqDiff, Nat.reduceAdd, Nat.reduceLT, Nat.reduceLeDiff, Nat.reduceBEq, Int.reduceLE, Int.reduceLT, Int.reduceEq, Int.reduceNeg, c1, h2, h4, c5, h6, h8, c9, h10, c12, h13, c15, h16]
              · simp only [D, DT, reduceIte, reduceCtorEq, Nat.reduceEqDiff, Nat.reduceAdd, Nat.reduceLT, Nat.reduceLeDiff, Nat.reduceBEq, Int.reduceLE, Int.reduceLT, Int.reduceEq, Int.reduceNeg, c1, h2, h4, c5, h6, h8, c9, h10, c12, h13, c15, h16]
                have c18 : ansL X 22 [(.sl (encL api_Span.enc x17)), (.agg [(.int .i64 a1.From), (.int .i64 a1.To)])] = Option.map AV.bool (mandolineref02_Holds.f x17 a1) := mandolineref02_Holds.ok x17 a1
                rcases h19 : mandolineref02_Holds.f x17 a1 with _ | x20
                · simp only [D, DT, reduceIte, reduceCtorEq, Nat.reduceEqDiff, Nat.reduceAdd, Nat.reduceLT, Nat.reduceLeDiff, Nat.reduceBEq, Int.reduceLE, Int.reduceLT, Int.reduceEq, Int.reduceNeg, c1, h2, h4, c5, h6, h8, c9, h10, c12, h13, c15, h16, c18, h19]
                · simp only [D, DT, reduceIte, reduceCtorEq, Nat.reduceEqDiff, Nat.reduceAdd, Nat.reduceLT, Nat.reduceLeDiff, Nat.reduceBEq, Int.reduceLE, Int.reduceLT, Int.reduceEq, Int.reduceNeg, c1, h2, h4, c5, h6, h8, c9, h10, c12, h13, c15, h16, c18, h19]
                  try rfl
        · simp only [D, DT, reduceIte, reduceCtorEq, Nat.reduceEqDiff, Nat.reduceAdd, Nat.reduceLT, Nat.reduceLeDiff, Nat.reduceBEq, Int.reduceLE, Int.reduceLT, Int.reduceEq, Int.reduceNeg, c1, h2, h4, c5, h6, h8]
          try rfl
end Go.Proofs.YtcahamgecejmnaaDoor
