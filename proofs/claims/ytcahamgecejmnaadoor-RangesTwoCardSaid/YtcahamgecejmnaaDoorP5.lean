/-
  Plain functions: mandolineref02_Or, mandolineref02_And, mandolineref02_Less, mandolineref02_Same, ranges_Set_Same, ranges_Set_Len, mandolinelaw02_RangesTwo. Its conditions: none.
-/
import Derived.Test.YtcahamgecejmnaaDoorP4
namespace Go.Proofs.YtcahamgecejmnaaDoor
open Go Go.Den
set_option maxRecDepth 100000
set_option linter.unusedSimpArgs false
set_option linter.unusedVariables false
noncomputable def mandolineref02_Or.f (a0 : (List api_Span)) (a1 : (List api_Span)) : Option (List api_Span) :=
  (mandolineref02_of.f a0 a1 1).bind fun x3 =>
  some x3
set_option maxHeartbeats 4000000 in
theorem mandolineref02_Or.ok (a0 : (List api_Span)) (a1 : (List api_Span)) : ansL X 32 [(.sl (encL api_Span.enc a0)), (.sl (encL api_Span.enc a1))] = Option.map encS_api_Span (mandolineref02_Or.f a0 a1) := by
  rw [ansL_run (fd := c32) rfl rfl]
  simp only [D, DT, reduceIte, reduceCtorEq, Nat.reduceEqDiff, Nat.reduceAdd, Nat.reduceLT, Nat.reduceLeDiff, Nat.reduceBEq, Int.reduceLE, Int.reduceLT, Int.reduceEq, Int.reduceNeg, c32, mandolineref02_Or.f]
  have c1 : ansL X 44 [(.sl (encL api_Span.enc a0)), (.sl (encL api_Span.enc a1)), (.int .i64 1)] = Option.map encS_api_Span (mandolineref02_of.f a0 a1 1) := mandolineref02_of.ok a0 a1 1
  rcases h2 : mandolineref02_of.f a0 a1 1 with _ | x3
  · simp only [D, DT, reduceIte, reduceCtorEq, Nat.reduceEqDiff, Nat.reduceAdd, Nat.reduceLT, Nat.reduceLeDiff, Nat.reduceBEq, Int.reduceLE, Int.reduceLT, Int.reduceEq, Int.reduceNeg, c1, h2]
  · simp only [D, DT, reduceIte, reduceCtorEq, Nat.reduceEqDiff, Nat.reduceAdd, Nat.reduceLT, Nat.reduceLeDiff, Nat.reduceBEq, Int.reduceLE, Int.reduceLT, Int.reduceEq, Int.reduceNeg, c1, h2]
    try rfl
noncomputable def mandolineref02_And.f (a0 : (List api_Span)) (a1 : (List api_Span)) : Option (List api_Span) :=
  (mandolineref02_of.f a0 a1 2).bind fun x3 =>
  some x3
set_option maxHeartbeats 4000000 in
theorem mandolineref02_And.ok (a0 : (List api_Span)) (a1 : (List api_Span)) : ansL X 34 [(.sl (encL api_Span.enc a0)), (.sl (encL api_Span.enc a1))] = Option.map encS_api_Span (mandolineref02_And.f a0 a1) := by
  rw [ansL_run (fd := c34) rfl rfl]
  simp only [D, DT, reduceIte, reduceCtorEq, Nat.reduceEqDiff, Nat.reduceAdd, Nat.reduceLT, Nat.reduceLeDiff, Nat.reduceBEq, Int.reduceLE, Int.reduceLT, Int.reduceEq, Int.reduceNeg, c34, mandolineref02_And.f]
  have c1 : ansL X 44 [(.sl (encL api_Span.enc a0)), (.sl (encL api_Span.enc a1)), (.int .i64 2)] = Option.map encS_api_Span (mandolineref02_of.f a0 a1 2) := mandolineref02_of.ok a0 a1 2
  rcases h2 : mandolineref02_of.f a0 a1 2 with _ | x3
  · simp only [D, DT, reduceIte, reduceCtorEq, Nat.reduceEqDiff, Nat.reduceAdd, Nat.reduceLT, Nat.reduceLeDiff, Nat.reduceBEq, Int.reduceLE, Int.reduceLT, Int.reduceEq, Int.reduceNeg, c1, h2]
  · simp only [D, DT, reduceIte, reduceCtorEq, Nat.reduceEqDiff, Nat.reduceAdd, Nat.reduceLT, Nat.reduceLeDiff, Nat.reduceBEq, Int.reduceLE, Int.reduceLT, Int.reduceEq, Int.reduceNeg, c1, h2]
    try rfl
noncomputable def mandolineref02_Less.f (a0 : (List api_Span)) (a1 : (List api_Span)) : Option (List api_Span) :=
  (mandolineref02_of.f a0 a1 3).bind fun x3 =>
  some x3
set_option maxHeartbeats 4000000 in
theorem mandolineref02_Less.ok (a0 : (List api_Span)) (a1 : (List api_Span)) : ansL X 36 [(.sl (encL api_Span.enc a0)), (.sl (encL api_Span.enc a1))] = Option.map encS_api_Span (mandolineref02_Less.f a0 a1) := by
  rw [ansL_run (fd := c36) rfl rfl]
  simp only [D, DT, reduceIte, reduceCtorEq, Nat.reduceEqDiff, Nat.reduceAdd, Nat.reduceLT, Nat.reduceLeDiff, Nat.reduceBEq, Int.reduceLE, Int.reduceLT, Int.reduceEq, Int.reduceNeg, c36, mandolineref02_Less.f]
  have c1 : ansL X 44 [(.sl (encL api_Span.enc a0)), (.sl (encL api_Span.enc a1)), (.int .i64 3)] = Option.map encS_api_Span (mandolineref02_of.f a0 a1 3) := mandolineref02_of.ok a0 a1 3
  rcases h2 : mandolineref02_of.f a0 a1 3 with _ | x3
  · simp only [D, DT, reduceIte, reduceCtorEq, Nat.reduceEqDiff, Nat.reduceAdd, Nat.reduceLT, Nat.reduceLeDiff, Nat.reduceBEq, Int.reduceLE, Int.reduceLT, Int.reduceEq, Int.reduceNeg, c1, h2]
  · simp only [D, DT, reduceIte, reduceCtorEq, Nat.reduceEqDiff, Nat.reduceAdd, Nat.reduceLT, Nat.reduceLeDiff, Nat.reduceBEq, Int.reduceLE, Int.reduceLT, Int.reduceEq, Int.reduceNeg, c1, h2]
    try rfl
inductive mandolineref02_Same.l0X where
  | x0
  | ret
noncomputable def mandolineref02_Same.l0B (x3 : (List api_Span)) (x6 : (List api_Span)) (v15_7 : Int) : Option (Step (Int) mandolineref02_Same.l0X) :=
  bif (decide (v15_7 < (x3.length : Int))) then
    (idx x3 v15_7).bind fun x26 =>
    (idx x6 v15_7).bind fun x28 =>
    bif ((decide (x26.From = x28.From)) && (decide (x26.To = x28.To))) then
      some (.next (IntKind.i64.wrap (v15_7 + 1)))
    else
      some (.done (.ret))
  else
    some (.done (.x0))
set_option maxHeartbeats 4000000 in
theorem mandolineref02_Same.l0_ok {α : Type} {F : Env → Heap → Option α} {K : List Fr} (fin : mandolineref02_Same.l0X → Option α) (x3 : (List api_Span)) (x6 : (List api_Span))
    (hx0 : ∀ (e : Env) (H : Heap), outL X [] F K e H 0 = fin (.x0))
    (hret : ∀ (e : Env) (H : Heap), e 4 = (.bool false) → F e H = fin (.ret)) (v15_7 : Int) (e : Env) (H : Heap) (g5_15 : e 5 = (.sl (encL api_Span.enc x3))) (g6_15 : e 6 = (.sl (encL api_Span.enc x6))) (g7_15 : e 7 = (.int .i64 v15_7)) :
    runL X [] F (.c (.loop c37_l0) :: K) e H = (loopL (mandolineref02_Same.l0B x3 x6) v15_7).bind fin := by
  refine loop_of (R := fun (v15_7 : Int) (e : Env) (H : Heap) => e 5 = (.sl (encL api_Span.enc x3)) ∧ e 6 = (.sl (encL api_Span.enc x6)) ∧ e 7 = (.int .i64 v15_7)) fin ?_ ⟨g5_15, g6_15, g7_15⟩
  clear g7_15 g6_15 g5_15 e H v15_7
  intro n G hn hd s e H hR
  revert hR; revert s; intro v15_7 hR
  obtain ⟨g5_15, g6_15, g7_15⟩ := hR
  simp only [D, DT, reduceIte, reduceCtorEq, Nat.reduceEqDiff, Nat.reduceAdd, Nat.reduceLT, Nat.reduceLeDiff, Nat.reduceBEq, Int.reduceLE, Int.reduceLT, Int.reduceEq, Int.reduceNeg, mandolineref02_Same.l0B, g5_15, g6_15, g7_15, c37_l0]
  cases h24 : (decide (v15_7 < (x3.length : Int)))
  · simp only [D, DT, reduceIte, reduceCtorEq, Nat.reduceEqDiff, Nat.reduceAdd, Nat.reduceLT, Nat.reduceLeDiff, Nat.reduceBEq, Int.reduceLE, Int.reduceLT, Int.reduceEq, Int.reduceNeg, g5_15, g6_15, g7_15, c37_l0, h24]
    exact (hx0 _ _).trans (hd _).symm
  · simp only [D, DT, reduceIte, reduceCtorEq, Nat.reduceEqDiff, Nat.reduceAdd, Nat.reduceLT, Nat.reduceLeDiff, Nat.reduceBEq, Int.reduceLE, Int.reduceLT, Int.reduceEq, Int.reduceNeg, g5_15, g6_15, g7_15, c37_l0, h24]
    rcases h25 : idx x3 v15_7 with _ | x26
    · simp only [D, DT, reduceIte, reduceCtorEq, Nat.reduceEqDiff, Nat.reduceAdd, Nat.reduceLT, Nat.reduceLeDiff, Nat.reduceBEq, Int.reduceLE, Int.reduceLT, Int.reduceEq, Int.reduceNeg, g5_15, g6_15, g7_15, c37_l0, h24, h25]
    · simp only [D, DT, reduceIte, reduceCtorEq, Nat.reduceEqDiff, Nat.reduceAdd, Nat.reduceLT, Nat.reduceLeDiff, Nat.reduceBEq, Int.reduceLE, Int.reduceLT, Int.reduceEq, Int.reduceNeg, g5_15, g6_15, g7_15, c37_l0, h24, h25]
      rcases h27 : idx x6 v15_7 with _ | x28
      · simp only [D, DT, reduceIte, reduceCtorEq, Nat.reduceEqDiff, Nat.reduceAdd, Nat.reduceLT, Nat.reduceLeDiff, Nat.reduceBEq, Int.reduceLE, Int.reduceLT, Int.reduceEq, Int.reduceNeg, g5_15, g6_15, g7_15, c37_l0, h24, h25, h27]
      · simp only [D, DT, reduceIte, reduceCtorEq, Nat.reduceEqDiff, Nat.reduceAdd, Nat.reduceLT, Nat.reduceLeDiff, Nat.reduceBEq, Int.reduceLE, Int.reduceLT, Int.reduceEq, Int.reduceNeg, g5_15, g6_15, g7_15, c37_l0, h24, h25, h27]
        cases h29 : ((decide (x26.From = x28.From)) && (decide (x26.To = x28.To)))
        · simp only [D, DT, reduceIte, reduceCtorEq, Nat.reduceEqDiff, Nat.reduceAdd, Nat.reduceLT, Nat.reduceLeDiff, Nat.reduceBEq, Int.reduceLE, Int.reduceLT, Int.reduceEq, Int.reduceNeg, g5_15, g6_15, g7_15, c37_l0, h24, h25, h27, h29]
          exact (hret _ _ (by first | (simp only [D, DT, reduceIte, reduceCtorEq, Nat.reduceEqDiff, Nat.reduceAdd, Nat.reduceLT, Nat.reduceLeDiff, Nat.reduceBEq, Int.reduceLE, Int.reduceLT, Int.reduceEq, Int.reduceNeg, g5_15, g6_15, g7_15, c37_l0, h24, h25, h27, h29] <;> rfl) | rfl)).trans (hd _).symm
        · simp only [D, DT, reduceIte, reduceCtorEq, Nat.reduceEqDiff, Nat.reduceAdd, Nat.reduceLT, Nat.reduceLeDiff, Nat.reduceBEq, Int.reduceLE, Int.reduceLT, Int.reduceEq, Int.reduceNeg, g5_15, g6_15, g7_15, c37_l0, h24, h25, h27, h29]
          exact hn _ _ _ ⟨(by first | (simp only [D, DT, reduceIte, reduceCtorEq, Nat.reduceEqDiff, Nat.reduceAdd, Nat.reduceLT, Nat.reduceLeDiff, Nat.reduceBEq, Int.reduceLE, Int.reduceLT, Int.reduceEq, Int.reduceNeg, g5_15, g6_15, g7_15, c37_l0, h24, h25, h27, h29] <;> rfl) | rfl), (by first | (simp only [D, DT, reduceIte, reduceCtorEq, Nat.reduceEqDiff, Nat.reduceAdd, Nat.reduceLT, Nat.reduceLeDiff, Nat.reduceBEq, Int.reduceLE, Int.reduceLT, Int.reduceEq, Int.reduceNeg, g5_15, g6_15, g7_15, c37_l0, h24, h25, h27, h29] <;> rfl) | rfl), (by first | (simp only [D, DT, reduceIte, reduceCtorEq, Nat.reduceEqDiff, Nat.reduceAdd, Nat.reduceLT, Nat.reduceLeDiff, Nat.reduceBEq, Int.reduceLE, Int.reduceLT, Int.reduceEq, Int.reduceNeg, g5_15, g6_15, g7_15, c37_l0, h24, h25, h27, h29] <;> rfl) | rfl)⟩
noncomputable def mandolineref02_Same.a0 : mandolineref02_Same.l0X → Option Bool
  | .x0 =>
    some true
  | .ret =>
    some false
noncomputable def mandolineref02_Same.f (a0 : (List api_Span)) (a1 : (List api_Span)) : Option Bool :=
  (mandolineref02_Of.f a0).bind fun x3 =>
  (mandolineref02_Of.f a1).bind fun x6 =>
  bif (decide ((x3.length : Int) = (x6.length : Int))) then
    (loopL (mandolineref02_Same.l0B x3 x6) 0).bind (mandolineref02_Same.a0)
  else
    some false
set_option maxHeartbeats 4000000 in
theorem mandolineref02_Same.ok (a0 : (List api_Span)) (a1 : (List api_Span)) : ansL X 37 [(.sl (encL api_Span.enc a0)), (.sl (encL api_Span.enc a1))] = Option.map AV.bool (mandolineref02_Same.f a0 a1) := by
  rw [ansL_run (fd := c37) rfl rfl]
  simp only [D, DT, reduceIte, reduceCtorEq, Nat.reduceEqDiff, Nat.reduceAdd, Nat.reduceLT, Nat.reduceLeDiff, Nat.reduceBEq, Int.reduceLE, Int.reduceLT, Int.reduceEq, Int.reduceNeg, c37, mandolineref02_Same.f]
  have c1 : ansL X 16 [(.sl (encL api_Span.enc a0))] = Option.map encS_api_Span (mandolineref02_Of.f a0) := mandolineref02_Of.ok a0
  rcases h2 : mandolineref02_Of.f a0 with _ | x3
  · simp only [D, DT, reduceIte, reduceCtorEq, Nat.reduceEqDiff, Nat.reduceAdd, Nat.reduceLT, Nat.reduceLeDiff, Nat.reduceBEq, Int.reduceLE, Int.reduceLT, Int.reduceEq, Int.reduceNeg, c1, h2]
  · simp only [D, DT, reduceIte, reduceCtorEq, Nat.reduceEqDiff, Nat.reduceAdd, Nat.reduceLT, Nat.reduceLeDiff, Nat.reduceBEq, Int.reduceLE, Int.reduceLT, Int.reduceEq, Int.reduceNeg, c1, h2]
    have c4 : ansL X 16 [(.sl (encL api_Span.enc a1))] = Option.map encS_api_Span (mandolineref02_Of.f a1) := mandolineref02_Of.ok a1
    rcases h5 : mandolineref02_Of.f a1 with _ | x6
    · simp only [D, DT, reduceIte, reduceCtorEq, Nat.reduceEqDiff, Nat.reduceAdd, Nat.reduceLT, Nat.reduceLeDiff, Nat.reduceBEq, Int.reduceLE, Int.reduceLT, Int.reduceEq, Int.reduceNeg, c1, h2, c4, h5]
    · simp only [D, DT, reduceIte, reduceCtorEq, Nat.reduceEqDiff, Nat.reduceAdd, Nat.reduceLT, Nat.reduceLeDiff, Nat.reduceBEq, Int.reduceLE, Int.reduceLT, Int.reduceEq, Int.reduceNeg, c1, h2, c4, h5]
      cases h7 : (decide ((x3.length : Int) = (x6.length : Int)))
      · simp only [D, DT, reduceIte, reduceCtorEq, Nat.reduceEqDiff, Nat.reduceAdd, Nat.reduceLT, Nat.reduceLeDiff, Nat.reduceBEq, Int.reduceLE, Int.reduceLT, Int.reduceEq, Int.reduceNeg, c1, h2, c4, h5, h7]
        try rfl
      · simp only [D, DT, reduceIte, reduceCtorEq, Nat.reduceEqDiff, Nat.reduceAdd, Nat.reduceLT, Nat.reduceLeDiff, Nat.reduceBEq, Int.reduceLE, Int.reduceLT, Int.reduceEq, Int.reduceNeg, c1, h2, c4, h5, h7]
        refine Eq.trans (mandolineref02_Same.l0_ok (fun x => Option.map AV.bool (mandolineref02_Same.a0 x)) x3 x6 ?_ ?_ 0 _ _ (by first | (simp only [D, DT, reduceIte, reduceCtorEq, Nat.reduceEqDiff, Nat.reduceAdd, Nat.reduceLT, Nat.reduceLeDiff, Nat.reduceBEq, Int.reduceLE, Int.reduceLT, Int.reduceEq, Int.reduceNeg, c1, h2, c4, h5, h7] <;> rfl) | rfl) (by first | (simp only [D, DT, reduceIte, reduceCtorEq, Nat.reduceEqDiff, Nat.reduceAdd, Nat.reduceLT, Nat.reduceLeDiff, Nat.reduceBEq, Int.reduceLE, Int.reduceLT, Int.reduceEq, Int.reduceNeg, c1, h2, c4, h5, h7] <;> rfl) | rfl) (by first | (simp only [D, DT, reduceIte, reduceCtorEq, Nat.reduceEqDiff, Nat.reduceAdd, Nat.reduceLT, Nat.reduceLeDiff, Nat.reduceBEq, Int.reduceLE, Int.reduceLT, Int.reduceEq, Int.reduceNeg, c1, h2, c4, h5, h7] <;> rfl) | rfl)) ?_
        · intro e_30 H_30
          simp only [D, DT, reduceIte, reduceCtorEq, Nat.reduceEqDiff, Nat.reduceAdd, Nat.reduceLT, Nat.reduceLeDiff, Nat.reduceBEq, Int.reduceLE, Int.reduceLT, Int.reduceEq, Int.reduceNeg, mandolineref02_Same.a0, c1, h2, c4, h5, h7]
          try rfl
        · intro e_31 H_31 g4_23_31
          simp only [D, DT, reduceIte, reduceCtorEq, Nat.reduceEqDiff, Nat.reduceAdd, Nat.reduceLT, Nat.reduceLeDiff, Nat.reduceBEq, Int.reduceLE, Int.reduceLT, Int.reduceEq, Int.reduceNeg, mandolineref02_Same.a0, c1, h2, c4, h5, h7, g4_23_31]
          try rfl
        exact mb _ _ _
inductive ranges_Set_Same.l0X where
  | x0
  | ret
noncomputable def ranges_Set_Same.l0B (a0 : ranges_Set) (a1 : ranges_Set) (v9_13 : Int) : Option (Step (Int) ranges_Set_Same.l0X) :=
  bif (decide (v9_13 < (a0.l_.length : Int))) then
    (idx a0.l_ v9_13).bind fun x20 =>
    (idx a1.l_ v9_13).bind fun x22 =>
    bif ((decide (x20.From = x22.From)) && (decide (x20.To = x22.To))) then
      some (.next (IntKind.i64.wrap (v9_13 + 1)))
    else
      some (.done (.ret))
  else
    some (.done (.x0))
set_option maxHeartbeats 4000000 in
theorem ranges_Set_Same.l0_ok {α : Type} {F : Env → Heap → Option α} {K : List Fr} (fin : ranges_Set_Same.l0X → Option α) (a0 : ranges_Set) (a1 : ranges_Set)
    (hx0 : ∀ (e : Env) (H : Heap), outL X [] F K e H 0 = fin (.x0))
    (hret : ∀ (e : Env) (H : Heap), e 4 = (.bool false) → F e H = fin (.ret)) (v9_13 : Int) (e : Env) (H : Heap) (g0_9 : e 0 = (.sl (encL api_Span.enc a0.l_))) (g1_9 : e 1 = (.sl (encL api_Span.enc a1.l_))) (g12_9 : e 12 = (.int .i64 (a0.l_.length : Int))) (g13_9 : e 13 = (.int .i64 v9_13)) :
    runL X [] F (.c (.loop c50_l0) :: K) e H = (loopL (ranges_Set_Same.l0B a0 a1) v9_13).bind fin := by
  refine loop_of (R := fun (v9_13 : Int) (e : Env) (H : Heap) => e 0 = (.sl (encL api_Span.enc a0.l_)) ∧ e 1 = (.sl (encL api_Span.enc a1.l_)) ∧ e 12 = (.int .i64 (a0.l_.length : Int)) ∧ e 13 = (.int .i64 v9_13)) fin ?_ ⟨g0_9, g1_9, g12_9, g13_9⟩
  clear g13_9 g12_9 g1_9 g0_9 e H v9_13
  intro n G hn hd s e H hR
  revert hR; revert s; intro v9_13 hR
  obtain ⟨g0_9, g1_9, g12_9, g13_9⟩ := hR
  simp only [D, DT, reduceIte, reduceCtorEq, Nat.reduceEqDiff, Nat.reduceAdd, Nat.reduceLT, Nat.reduceLeDiff, Nat.reduceBEq, Int.reduceLE, Int.reduceLT, Int.reduceEq, Int.reduceNeg, ranges_Set_Same.l0B, g0_9, g1_9, g12_9, g13_9, c50_l0]
  cases h18 : (decide (v9_13 < (a0.l_.length : Int)))
  · simp only [D, DT, reduceIte, reduceCtorEq, Nat.reduceEqDiff, Nat.reduceAdd, Nat.reduceLT, Nat.reduceLeDiff, Nat.reduceBEq, Int.reduceLE, Int.reduceLT, Int.reduceEq, Int.reduceNeg, g0_9, g1_9, g12_9, g13_9, c50_l0, h18]
    exact (hx0 _ _).trans (hd _).symm
  · simp only [D, DT, reduceIte, reduceCtorEq, Nat.reduceEqDiff, Nat.reduceAdd, Nat.reduceLT, Nat.reduceLeDiff, Nat.reduceBEq, Int.reduceLE, Int.reduceLT, Int.reduceEq, Int.reduceNeg, g0_9, g1_9, g12_9, g13_9, c50_l0, h18]
    rcases h19 : idx a0.l_ v9_13 with _ | x20
    · simp only [D, DT, reduceIte, reduceCtorEq, Nat.reduceEqDiff, Nat.reduceAdd, Nat.reduceLT, Nat.reduceLeDiff, Nat.reduceBEq, Int.reduceLE, Int.reduceLT, Int.reduceEq, Int.reduceNeg, g0_9, g1_9, g12_9, g13_9, c50_l0, h18, h19]
    · simp only [D, DT, reduceIte, reduceCtorEq, Nat.reduceEqDiff, Nat.reduceAdd, Nat.reduceLT, Nat.reduceLeDiff, Nat.reduceBEq, Int.reduceLE, Int.reduceLT, Int.reduceEq, Int.reduceNeg, g0_9, g1_9, g12_9, g13_9, c50_l0, h18, h19]
      rcases h21 : idx a1.l_ v9_13 with _ | x22
      · simp only [D, DT, reduceIte, reduceCtorEq, Nat.reduceEqDiff, Nat.reduceAdd, Nat.reduceLT, Nat.reduceLeDiff, Nat.reduceBEq, Int.reduceLE, Int.reduceLT, Int.reduceEq, Int.reduceNeg, g0_9, g1_9, g12_9, g13_9, c50_l0, h18, h19, h21]
      · simp only [D, DT, reduceIte, reduceCtorEq, Nat.reduceEqDiff, Nat.reduceAdd, Nat.reduceLT, Nat.reduceLeDiff, Nat.reduceBEq, Int.reduceLE, Int.reduceLT, Int.reduceEq, Int.reduceNeg, g0_9, g1_9, g12_9, g13_9, c50_l0, h18, h19, h21]
        cases h23 : ((decide (x20.From = x22.From)) && (decide (x20.To = x22.To)))
        · simp only [D, DT, reduceIte, reduceCtorEq, Nat.reduceEqDiff, Nat.reduceAdd, Nat.reduceLT, Nat.reduceLeDiff, Nat.reduceBEq, Int.reduceLE, Int.reduceLT, Int.reduceEq, Int.reduceNeg, g0_9, g1_9, g12_9, g13_9, c50_l0, h18, h19, h21, h23]
          exact (hret _ _ (by first | (simp only [D, DT, reduceIte, reduceCtorEq, Nat.reduceEqDiff, Nat.reduceAdd, Nat.reduceLT, Nat.reduceLeDiff, Nat.reduceBEq, Int.reduceLE, Int.reduceLT, Int.reduceEq, Int.reduceNeg, g0_9, g1_9, g12_9, g13_9, c50_l0, h18, h19, h21, h23] <;> rfl) | rfl)).trans (hd _).symm
        · simp only [D, DT, reduceIte, reduceCtorEq, Nat.reduceEqDiff, Nat.reduceAdd, Nat.reduceLT, Nat.reduceLeDiff, Nat.reduceBEq, Int.reduceLE, Int.reduceLT, Int.reduceEq, Int.reduceNeg, g0_9, g1_9, g12_9, g13_9, c50_l0, h18, h19, h21, h23]
          exact hn _ _ _ ⟨(by first | (simp only [D, DT, reduceIte, reduceCtorEq, Nat.reduceEqDiff, Nat.reduceAdd, Nat.reduceLT, Nat.reduceLeDiff, Nat.reduceBEq, Int.reduceLE, Int.reduceLT, Int.reduceEq, Int.reduceNeg, g0_9, g1_9, g12_9, g13_9, c50_l0, h18, h19, h21, h23] <;> rfl) | rfl), (by first | (simp only [D, DT, reduceIte, reduceCtorEq, Nat.reduceEqDiff, Nat.reduceAdd, Nat.reduceLT, Nat.reduceLeDiff, Nat.reduceBEq, Int.reduceLE, Int.reduceLT, Int.reduceEq, Int.reduceNeg, g0_9, g1_9, g12_9, g13_9, c50_l0, h18, h19, h21, h23] <;> rfl) | rfl), (by first | (simp only [D, DT, reduceIte, reduceCtorEq, Nat.reduceEqDiff, Nat.reduceAdd, Nat.reduceLT, Nat.reduceLeDiff, Nat.reduceBEq, Int.reduceLE, Int.reduceLT, Int.reduceEq, Int.reduceNeg, g0_9, g1_9, g12_9, g13_9, c50_l0, h18, h19, h21, h23] <;> rfl) | rfl), (by first | (simp only [D, DT, reduceIte, reduceCtorEq, Nat.reduceEqDiff, Nat.reduceAdd, Nat.reduceLT, Nat.reduceLeDiff, Nat.reduceBEq, Int.reduceLE, Int.reduceLT, Int.reduceEq, Int.reduceNeg, g0_9, g1_9, g12_9, g13_9, c50_l0, h18, h19, h21, h23] <;> rfl) | rfl)⟩
noncomputable def ranges_Set_Same.a0 : ranges_Set_Same.l0X → Option Bool
  | .x0 =>
    some true
  | .ret =>
    some false
noncomputable def ranges_Set_Same.f (a0 : ranges_Set) (a1 : ranges_Set) : Option Bool :=
  bif (decide ((a0.l_.length : Int) = (a1.l_.length : Int))) then
    (loopL (ranges_Set_Same.l0B a0 a1) 0).bind (ranges_Set_Same.a0)
  else
    some false
set_option maxHeartbeats 4000000 in
theorem ranges_Set_Same.ok (a0 : ranges_Set) (a1 : ranges_Set) : ansL X 30 [(.agg [(.sl (encL api_Span.enc a0.l_))]), (.agg [(.sl (encL api_Span.enc a1.l_))])] = Option.map AV.bool (ranges_Set_Same.f a0 a1) := by
  rw [ansL_run (fd := c30) rfl rfl]
  simp only [D, DT, reduceIte, reduceCtorEq, Nat.reduceEqDiff, Nat.reduceAdd, Nat.reduceLT, Nat.reduceLeDiff, Nat.reduceBEq, Int.reduceLE, Int.reduceLT, Int.reduceEq, Int.reduceNeg, c30, ranges_Set_Same.f]
  rw [ans_in (fd := c50) rfl rfl]
  simp only [D, DT, reduceIte, reduceCtorEq, Nat.reduceEqDiff, Nat.reduceAdd, Nat.reduceLT, Nat.reduceLeDiff, Nat.reduceBEq, Int.reduceLE, Int.reduceLT, Int.reduceEq, Int.reduceNeg, c50]
  cases h1 : (decide ((a0.l_.length : Int) = (a1.l_.length : Int)))
  · simp only [D, DT, reduceIte, reduceCtorEq, Nat.reduceEqDiff, Nat.reduceAdd, Nat.reduceLT, Nat.reduceLeDiff, Nat.reduceBEq, Int.reduceLE, Int.reduceLT, Int.reduceEq, Int.reduceNeg, h1]
    try rfl
  · simp only [D, DT, reduceIte, reduceCtorEq, Nat.reduceEqDiff, Nat.reduceAdd, Nat.reduceLT, Nat.reduceLeDiff, Nat.reduceBEq, Int.reduceLE, Int.reduceLT, Int.reduceEq, Int.reduceNeg, h1]
    refine Eq.trans (ranges_Set_Same.l0_ok (fun x => Option.map AV.bool (ranges_Set_Same.a0 x)) a0 a1 ?_ ?_ 0 _ _ (by first | (simp only [D, DT, reduceIte, reduceCtorEq, Nat.reduceEqDiff, Nat.reduceAdd, Nat.reduceLT, Nat.reduceLeDiff, Nat.reduceBEq, Int.reduceLE, Int.reduceLT, Int.reduceEq, Int.reduceNeg, h1] <;> rfl) | rfl) (by first | (simp only [D, DT, reduceIte, reduceCtorEq, Nat.reduceEqDiff, Nat.reduceAdd, Nat.reduceLT, Nat.reduceLeDiff, Nat.reduceBEq, Int.reduceLE, Int.reduceLT, Int.reduceEq, Int.reduceNeg, h1] <;> rfl) | rfl) (by first | (simp only [D, DT, reduceIte, reduceCtorEq, Nat.reduceEqDiff, Nat.reduceAdd, Nat.reduceLT, Nat.reduceLeDiff, Nat.reduceBEq, Int.reduceLE, Int.reduceLT, Int.reduceEq, Int.reduceNeg, h1] <;> rfl) | rfl) (by first | (simp only [D, DT, reduceIte, reduceCtorEq, Nat.reduceEqDiff, Nat.reduceAdd, Nat.reduceLT, Nat.reduceLeDiff, Nat.reduceBEq, Int.reduceLE, Int.reduceLT, Int.reduceEq, Int.reduceNeg, h1] <;> rfl) | rfl)) ?_
    · intro e_24 H_24
      simp only [D, DT, reduceIte, reduceCtorEq, Nat.reduceEqDiff, Nat.reduceAdd, Nat.reduceLT, Nat.reduceLeDiff, Nat.reduceBEq, Int.reduceLE, Int.reduceLT, Int.reduceEq, Int.reduceNeg, ranges_Set_Same.a0, h1]
      try rfl
    · intro e_25 H_25 g4_17_25
      simp only [D, DT, reduceIte, reduceCtorEq, Nat.reduceEqDiff, Nat.reduceAdd, Nat.reduceLT, Nat.reduceLeDiff, Nat.reduceBEq, Int.reduceLE, Int.reduceLT, Int.reduceEq, Int.reduceNeg, ranges_Set_Same.a0, h1, g4_17_25]
      try rfl
    exact mb _ _ _
inductive ranges_Set_Len.l0X where
  | x0 (v11_3 : Int)
  | ret
noncomputable def ranges_Set_Len.l0B (a0 : ranges_Set) (v6_3 : Int) (v6_9 : Int) : Option (Step (Int × Int) ranges_Set_Len.l0X) :=
  bif (decide (v6_9 < (a0.l_.length : Int))) then
    (idx a0.l_ v6_9).bind fun x15 =>
    bif (decide (x15.To = 4611686018427387904)) then
      some (.done (.ret))
    else
      some (.next ((IntKind.i64.wrap (v6_3 + (IntKind.i64.wrap (x15.To - x15.From)))), (IntKind.i64.wrap (v6_9 + 1))))
  else
    some (.done (.x0 v6_3))
set_option maxHeartbeats 4000000 in
theorem ranges_Set_Len.l0_ok {α : Type} {F : Env → Heap → Option α} {K : List Fr} (fin : ranges_Set_Len.l0X → Option α) (a0 : ranges_Set)
    (hx0 : ∀ (v11_3 : Int) (e : Env) (H : Heap), e 3 = (.int .i64 v11_3) → outL X [] F K e H 0 = fin (.x0 v11_3))
    (hret : ∀ (e : Env) (H : Heap), e 2 = (.int .i64 4611686018427387904) → F e H = fin (.ret)) (v6_3 : Int) (v6_9 : Int) (e : Env) (H : Heap) (g3_6 : e 3 = (.int .i64 v6_3)) (g7_6 : e 7 = (.sl (encL api_Span.enc a0.l_))) (g8_6 : e 8 = (.int .i64 (a0.l_.length : Int))) (g9_6 : e 9 = (.int .i64 v6_9)) :
    runL X [] F (.c (.loop c26_l0) :: K) e H = (loopL (fun (s : Int × Int) => ranges_Set_Len.l0B a0 s.1 s.2) (v6_3, v6_9)).bind fin := by
  refine loop_of (R := fun (s : Int × Int) (e : Env) (H : Heap) => (fun (v6_3 : Int) (v6_9 : Int) => e 3 = (.int .i64 v6_3) ∧ e 7 = (.sl (encL api_Span.enc a0.l_)) ∧ e 8 = (.int .i64 (a0.l_.length : Int)) ∧ e 9 = (.int .i64 v6_9)) s.1 s.2) fin ?_ ⟨g3_6, g7_6, g8_6, g9_6⟩
  clear g9_6 g8_6 g7_6 g3_6 e H v6_9 v6_3
  intro n G hn hd s e H hR
  obtain ⟨v6_3, v6_9⟩ := s
  obtain ⟨g3_6, g7_6, g8_6, g9_6⟩ := hR
  simp only [D, DT, reduceIte, reduceCtorEq, Nat.reduceEqDiff, Nat.reduceAdd, Nat.reduceLT, Nat.reduceLeDiff, Nat.reduceBEq, Int.reduceLE, Int.reduceLT, Int.reduceEq, Int.reduceNeg, ranges_Set_Len.l0B, g3_6, g7_6, g8_6, g9_6, c26_l0]
  cases h13 : (decide (v6_9 < (a0.l_.length : Int)))
  · simp only [D, DT, reduceIte, reduceCtorEq, Nat.reduceEqDiff, Nat.reduceAdd, Nat.reduceLT, Nat.reduceLeDiff, Nat.reduceBEq, Int.reduceLE, Int.reduceLT, Int.reduceEq, Int.reduceNeg, g3_6, g7_6, g8_6, g9_6, c26_l0, h13]
    exact (hx0 v6_3 _ _ (by first | (simp only [D, DT, reduceIte, reduceCtorEq, Nat.reduceEqDiff, Nat.reduceAdd, Nat.reduceLT, Nat.reduceLeDiff, Nat.reduceBEq, Int.reduceLE, Int.reduceLT, Int.reduceEq, Int.reduceNeg, g3_6, g7_6, g8_6, g9_6, c26_l0, h13] <;> rfl) | rfl)).trans (hd _).symm
  · simp only [D, DT, reduceIte, reduceCtorEq, Nat.reduceEqDiff, Nat.reduceAdd, Nat.reduceLT, Nat.reduceLeDiff, Nat.reduceBEq, Int.reduceLE, Int.reduceLT, Int.reduceEq, Int.reduceNeg, g3_6, g7_6, g8_6, g9_6, c26_l0, h13]
    rcases h14 : idx a0.l_ v6_9 with _ | x15
    · simp only [D, DT, reduceIte, reduceCtorEq, Nat.reduceEqDiff, Nat.reduceAdd, Nat.reduceLT, Nat.reduceLeDiff, Nat.reduceBEq, Int.reduceLE, Int.reduceLT, Int.reduceEq, Int.reduceNeg, g3_6, g7_6, g8_6, g9_6, c26_l0, h13, h14]
    · simp only [D, DT, reduceIte, reduceCtorEq, Nat.reduceEqDiff, Nat.reduceAdd, Nat.reduceLT, Nat.reduceLeDiff, Nat.reduceBEq, Int.reduceLE, Int.reduceLT, Int.reduceEq, Int.reduceNeg, g3_6, g7_6, g8_6, g9_6, c26_l0, h13, h14]
      cases h16 : (decide (x15.To = 4611686018427387904))
      · simp only [D, DT, reduceIte, reduceCtorEq, Nat.reduceEqDiff, Nat.reduceAdd, Nat.reduceLT, Nat.reduceLeDiff, Nat.reduceBEq, Int.reduceLE, Int.reduceLT, Int.reduceEq, Int.reduceNeg, g3_6, g7_6, g8_6, g9_6, c26_l0, h13, h14, h16]
        exact hn _ _ _ ⟨(by first | (simp only [D, DT, reduceIte, reduceCtorEq, Nat.reduceEqDiff, Nat.reduceAdd, Nat.reduceLT, Nat.reduceLeDiff, Nat.reduceBEq, Int.reduceLE, Int.reduceLT, Int.reduceEq, Int.reduceNeg, g3_6, g7_6, g8_6, g9_6, c26_l0, h13, h14, h16] <;> rfl) | rfl), (by first | (simp only [D, DT, reduceIte, reduceCtorEq, Nat.reduceEqDiff, Nat.reduceAdd, Nat.reduceLT, Nat.reduceLeDiff, Nat.reduceBEq, Int.reduceLE, Int.reduceLT, Int.reduceEq, Int.reduceNeg, g3_6, g7_6, g8_6, g9_6, c26_l0, h13, h14, h16] <;> rfl) | rfl), (by first | (simp only [D, DT, reduceIte, reduceCtorEq, Nat.reduceEqDiff, Nat.reduceAdd, Nat.reduceLT, Nat.reduceLeDiff, Nat.reduceBEq, Int.reduceLE, Int.reduceLT, Int.reduceEq, Int.reduceNeg, g3_6, g7_6, g8_6, g9_6, c26_l0, h13, h14, h16] <;> rfl) | rfl), (by first | (simp only [D, DT, reduceIte, reduceCtorEq, Nat.reduceEqDiff, Nat.reduceAdd, Nat.reduceLT, Nat.reduceLeDiff, Nat.reduceBEq, Int.reduceLE, Int.reduceLT, Int.reduceEq, Int.reduceNeg, g3_6, g7_6, g8_6, g9_6, c26_l0, h13, h14, h16] <;> rfl) | rfl)⟩
      · simp only [D, DT, reduceIte, reduceCtorEq, Nat.reduceEqDiff, Nat.reduceAdd, Nat.reduceLT, Nat.reduceLeDiff, Nat.reduceBEq, Int.reduceLE, Int.reduceLT, Int.reduceEq, Int.reduceNeg, g3_6, g7_6, g8_6, g9_6, c26_l0, h13, h14, h16]
        exact (hret _ _ (by first | (simp only [D, DT, reduceIte, reduceCtorEq, Nat.reduceEqDiff, Nat.reduceAdd, Nat.reduceLT, Nat.reduceLeDiff, Nat.reduceBEq, Int.reduceLE, Int.reduceLT, Int.reduceEq, Int.reduceNeg, g3_6, g7_6, g8_6, g9_6, c26_l0, h13, h14, h16] <;> rfl) | rfl)).trans (hd _).symm
noncomputable def ranges_Set_Len.a0 : ranges_Set_Len.l0X → Option Int
  | .x0 v11_3 =>
    some v11_3
  | .ret =>
    some 4611686018427387904
noncomputable def ranges_Set_Len.f (a0 : ranges_Set) : Option Int :=
  (loopL (fun (s : Int × Int) => ranges_Set_Len.l0B a0 s.1 s.2) (0, 0)).bind (ranges_Set_Len.a0)
set_option maxHeartbeats 4000000 in
theorem ranges_Set_Len.ok (a0 : ranges_Set) : ansL X 26 [(.agg [(.sl (encL api_Span.enc a0.l_))])] = Option.map (AV.int .i64) (ranges_Set_Len.f a0) := by
  rw [ansL_run (fd := c26) rfl rfl]
  simp only [D, DT, reduceIte, reduceCtorEq, Nat.reduceEqDiff, Nat.reduceAdd, Nat.reduceLT, Nat.reduceLeDiff, Nat.reduceBEq, Int.reduceLE, Int.reduceLT, Int.reduceEq, Int.reduceNeg, c26, ranges_Set_Len.f]
  refine Eq.trans (ranges_Set_Len.l0_ok (fun x => Option.map (AV.int .i64) (ranges_Set_Len.a0 x)) a0 ?_ ?_ 0 0 _ _ (by first | (simp only [D, DT, reduceIte, reduceCtorEq, Nat.reduceEqDiff, Nat.reduceAdd, Nat.reduceLT, Nat.reduceLeDiff, Nat.reduceBEq, Int.reduceLE, Int.reduceLT, Int.reduceEq, Int.reduceNeg] <;> rfl) | rfl) (by first | (simp only [D, DT, reduceIte, reduceCtorEq, Nat.reduceEqDiff, Nat.reduceAdd, Nat.reduceLT, Nat.reduceLeDiff, Nat.reduceBEq, Int.reduceLE, Int.reduceLT, Int.reduceEq, Int.reduceNeg] <;> rfl) | rfl) (by first | (simp only [D, DT, reduceIte, reduceCtorEq, Nat.reduceEqDiff, Nat.reduceAdd, Nat.reduceLT, Nat.reduceLeDiff, Nat.reduceBEq, Int.reduceLE, Int.reduceLT, Int.reduceEq, Int.reduceNeg] <;> rfl) | rfl) (by first | (simp only [D, DT, reduceIte, reduceCtorEq, Nat.reduceEqDiff, Nat.reduceAdd, Nat.reduceLT, Nat.reduceLeDiff, Nat.reduceBEq, Int.reduceLE, Int.reduceLT, Int.reduceEq, Int.reduceNeg] <;> rfl) | rfl)) ?_
  · intro v11_3 e_17 H_17 g3_11_17
    simp only [D, DT, reduceIte, reduceCtorEq, Nat.reduceEqDiff, Nat.reduceAdd, Nat.reduceLT, Nat.reduceLeDiff, Nat.reduceBEq, Int.reduceLE, Int.reduceLT, Int.reduceEq, Int.reduceNeg, ranges_Set_Len.a0, g3_11_17]
    try rfl
  · intro e_18 H_18 g2_12_18
    simp only [D, DT, reduceIte, reduceCtorEq, Nat.reduceEqDiff, Nat.reduceAdd, Nat.reduceLT, Nat.reduceLeDiff, Nat.reduceBEq, Int.reduceLE, Int.reduceLT, Int.reduceEq, Int.reduceNeg, ranges_Set_Len.a0, g2_12_18]
    try rfl
  exact mb _ _ _
noncomputable def mandolinelaw02_RangesTwo.f (a0 : (List api_Span)) (a1 : (List api_Span)) : Option Bool :=
  (mandolinelaw02_wakes.f).bind fun x3 =>
  bif x3 then
    (mandolinelaw02_great.f [a0, a1]).bind fun x7 =>
    bif x7 then
      some true
    else
      (ranges_Of.f a0).bind fun x11 =>
      (ranges_Of.f a1).bind fun x14 =>
      (mandolineref02_Of.f a0).bind fun x17 =>
      (mandolineref02_Of.f a1).bind fun x20 =>
      (ranges_Set_Or.f x11 x14).bind fun x23 =>
      (ranges_Set_Spans.f x23).bind fun x26 =>
      (mandolineref02_Or.f x17 x20).bind fun x29 =>
      (mandolineref02_List.f x26 x29).bind fun x32 =>
      bif x32 then
        (ranges_Set_And.f x11 x14).bind fun x36 =>
        (ranges_Set_Spans.f x36).bind fun x39 =>
        (mandolineref02_And.f x17 x20).bind fun x42 =>
        (mandolineref02_List.f x39 x42).bind fun x45 =>
        bif x45 then
          (ranges_Set_Less.f x11 x14).bind fun x49 =>
          (ranges_Set_Spans.f x49).bind fun x52 =>
          (mandolineref02_Less.f x17 x20).bind fun x55 =>
          (mandolineref02_List.f x52 x55).bind fun x58 =>
          bif x58 then
            (ranges_Set_Same.f x11 x14).bind fun x62 =>
            (mandolineref02_Same.f x17 x20).bind fun x65 =>
            some (x62 == x65)
          else
            some false
        else
          some false
      else
        some false
  else
    some false
set_option maxHeartbeats 4000000 in
theorem mandolinelaw02_RangesTwo.ok (a0 : (List api_Span)) (a1 : (List api_Span)) : ansL X 9 [(.sl (encL api_Span.enc a0)), (.sl (encL api_Span.enc a1))] = Option.map AV.bool (mandolinelaw02_RangesTwo.f a0 a1) := by
  rw [ansL_run (fd := c9) rfl rfl]
  simp only [D, DT, reduceIte, reduceCtorEq, Nat.reduceEqDiff, Nat.reduceAdd, Nat.reduceLT, Nat.reduceLeDiff, Nat.reduceBEq, Int.reduceLE, Int.reduceLT, Int.reduceEq, Int.reduceNeg, c9, mandolinelaw02_RangesTwo.f]
  have c1 : ansL X 11 [] = Option.map AV.bool (mandolinelaw02_wakes.f) := mandolinelaw02_wakes.ok
  rcases h2 : mandolinelaw02_wakes.f with _ | x3
  · simp only [D, DT, reduceIte, reduceCtorEq, Nat.reduceEqDiff, Nat.reduceAdd, Nat.reduceLT, Nat.reduceLeDiff, Nat.reduceBEq, Int.reduceLE, Int.reduceLT, Int.reduceEq, Int.reduceNeg, c1, h2]
  · simp only [D, DT, reduceIte, reduceCtorEq, Nat.reduceEqDiff, Nat.reduceAdd, Nat.reduceLT, Nat.reduceLeDiff, Nat.reduceBEq, Int.reduceLE, Int.reduceLT, Int.reduceEq, Int.reduceNeg, c1, h2]
    cases h4 : x3
    · simp only [D, DT, reduceIte, reduceCtorEq, Nat.reduceEqDiff, Nat.reduceAdd, Nat.reduceLT, Nat.reduceLeDiff, Nat.reduceBEq, Int.reduceLE, Int.reduceLT, Int.reduceEq, Int.reduceNeg, c1, h2, h4]
      try rfl
    · simp only [D, DT, reduceIte, reduceCtorEq, Nat.reduceEqDiff, Nat.reduceAdd, Nat.reduceLT, Nat.reduceLeDiff, Nat.reduceBEq, Int.reduceLE, Int.reduceLT, Int.reduceEq, Int.reduceNeg, c1, h2, h4]
      have c5 : ansL X 12 [(.sl [(.sl (encL api_Span.enc a0)), (.sl (encL api_Span.enc a1))])] = Option.map AV.bool (mandolinelaw02_great.f [a0, a1]) := mandolinelaw02_great.ok [a0, a1]
      rcases h6 : mandolinelaw02_great.f [a0, a1] with _ | x7
      · simp only [D, DT, reduceIte, reduceCtorEq, Nat.reduceEqDiff, Nat.reduceAdd, Nat.reduceLT, Nat.reduceLeDiff, Nat.reduceBEq, Int.reduceLE, Int.reduceLT, Int.reduceEq, Int.reduceNeg, c1, h2, h4, c5, h6]
      · simp only [D, DT, reduceIte, reduceCtorEq, Nat.reduceEqDiff, Nat.reduceAdd, Nat.reduceLT, Nat.reduceLeDiff, Nat.reduceBEq, Int.reduceLE, Int.reduceLT, Int.reduceEq, Int.reduceNeg, c1, h2, h4, c5, h6]
        cases h8 : x7
        · simp only [D, DT, reduceIte, reduceCtorEq, Nat.reduceEqDiff, Nat.reduceAdd, Nat.reduceLT, Nat.reduceLeDiff, Nat.reduceBEq, Int.reduceLE, Int.reduceLT, Int.reduceEq, Int.reduceNeg, c1, h2, h4, c5, h6, h8]
          have c9 : ansL X 13 [(.sl (encL api_Span.enc a0))] = Option.map ranges_Set.enc (ranges_Of.f a0) := ranges_Of.ok a0
          rcases h10 : ranges_Of.f a0 with _ | x11
          · simp only [D, DT, reduceIte, reduceCtorEq, Nat.reduceEqDiff, Nat.reduceAdd, Nat.reduceLT, Nat.reduceLeDiff, Nat.reduceBEq, Int.reduceLE, Int.reduceLT, Int.reduceEq, Int.reduceNeg, c1, h2, h4, c5, h6, h8, c9, h10]
          · simp only [D, DT, reduceIte, reduceCtorEq, Nat.reduceEqDiff, Nat.reduceAdd, Nat.reduceLT, Nat.reduceLeDiff, Nat.reduceBEq, Int.reduceLE, Int.reduceLT, Int.reduceEq, Int.reduceNeg, c1, h2, h4, c5, h6, h8, c9, h10]
            have c12 : ansL X 13 [(.sl (encL api_Span.enc a1))] = Option.map ranges_Set.enc (ranges_Of.f a1) := ranges_Of.ok a1
            rcases h13 : ranges_Of.f a1 with _ | x14
            · simp only [D, DT, reduceIte, reduceCtorEq, Nat.reduceEqDiff, Nat.reduceAdd, Nat.reduceLT, Nat.reduceLeDiff, Nat.reduceBEq, Int.reduceLE, Int.reduceLT, Int.reduceEq, Int.reduceNeg, c1, h2, h4, c5, h6, h8, c9, h10, c12, h13]
            · simp only [D, DT, reduceIte, reduceCtorEq, Nat.reduceEqDiff, Nat.reduceAdd, Nat.reduceLT, Nat.reduceLeDiff, Nat.reduceBEq, Int.reduceLE, Int.reduceLT, Int.reduceEq, Int.reduceNeg, c1, h2, h4, c5, h6, h8, c9, h10, c12, h13]
              have c15 : ansL X 16 [(.sl (encL api_Span.enc a0))] = Option.map encS_api_Span (mandolineref02_Of.f a0) := mandolineref02_Of.ok a0
              rcases h16 : mandolineref02_Of.f a0 with _ | x17
              · simp only [D, DT, reduceIte, reduceCtorEq, Nat.reduceEqDiff, Nat.reduceAdd, Nat.reduceLT, Nat.reduceLeDiff, Nat.reduceBEq, Int.reduceLE, Int.reduceLT, Int.reduceEq, Int.reduceNeg, c1, h2, h4, c5, h6, h8, c9, h10, c12, h13, c15, h16]
              · simp only [D, DT, reduceIte, reduceCtorEq, Nat.reduceEqDiff, Nat.reduceAdd, Nat.reduceLT, Nat.reduceLeDiff, Nat.reduceBEq, Int.reduceLE, Int.reduceLT, Int.reduceEq, Int.reduceNeg, c1, h2, h4, c5, h6, h8, c9, h10, c12, h13, c15, h16]
                have c18 : ansL X 16 [(.sl (encL api_Span.enc a1))] = Option.map encS_api_Span (mandolineref02_Of.f a1) := mandolineref02_Of.ok a1
                rcases h19 : mandolineref02_Of.f a1 with _ | x20
                · simp only [D, DT, reduceIte, reduceCtorEq, Nat.reduceEqDiff, Nat.reduceAdd, Nat.reduceLT, Nat.reduceLeDiff, Nat.reduceBEq, Int.reduceLE, Int.reduceLT, Int.reduceEq, Int.reduceNeg, c1, h2, h4, c5, h6, h8, c9, h10, c12, h13, c15, h16, c18, h19]
                · simp only [D, DT, reduceIte, reduceCtorEq, Nat.reduceEqDiff, Nat.reduceAdd, Nat.reduceLT, Nat.reduceLeDiff, Nat.reduceBEq, Int.reduceLE, Int.reduceLT, Int.reduceEq, Int.reduceNeg, c1, h2, h4, c5, h6, h8, c9, h10, c12, h13, c15, h16, c18, h19]
                  have c21 : ansL X 31 [(.agg [(.sl (encL api_Span.enc x11.l_))]), (.agg [(.sl (encL api_Span.enc x14.l_))])] = Option.map ranges_Set.enc (ranges_Set_Or.f x11 x14) := ranges_Set_Or.ok x11 x14
                  rcases h22 : ranges_Set_Or.f x11 x14 with _ | x23
                  · simp only [D, DT, reduceIte, reduceCtorEq, Nat.reduceEqDiff, Nat.reduceAdd, Nat.reduceLT, Nat.reduceLeDiff, Nat.reduceBEq, Int.reduceLE, Int.reduceLT, Int.reduceEq, Int.reduceNeg, c1, h2, h4, c5, h6, h8, c9, h10, c12, h13, c15, h16, c18, h19, c21, h22]
                  · simp only [D, DT, reduceIte, reduceCtorEq, Nat.reduceEqDiff, Nat.reduceAdd, Nat.reduceLT, Nat.reduceLeDiff, Nat.reduceBEq, Int.reduceLE, Int.reduceLT, Int.reduceEq, Int.reduceNeg, c1, h2, h4, c5, h6, h8, c9, h10, c12, h13, c15, h16, c18, h19, c21, h22]
                    have c24 : ansL X 25 [(.agg [(.sl (encL api_Span.enc x23.l_))])] = Option.map encS_api_Span (ranges_Set_Spans.f x23) := ranges_Set_Spans.ok x23
                    rcases h25 : ranges_Set_Spans.f x23 with _ | x26
                    · simp only [D, DT, reduceIte, reduceCtorEq, Nat.reduceEqDiff, Nat.reduceAdd, Nat.reduceLT, Nat.reduceLeDiff, Nat.reduceBEq, Int.reduceLE, Int.reduceLT, Int.reduceEq, Int.reduceNeg, c1, h2, h4, c5, h6, h8, c9, h10, c12, h13, c15, h16, c18, h19, c21, h22, c24, h25]
                    · simp only [D, DT, reduceIte, reduceCtorEq, Nat.reduceEqDiff, Nat.reduceAdd, Nat.reduceLT, Nat.reduceLeDiff, Nat.reduceBEq, Int.reduceLE, Int.reduceLT, Int.reduceEq, Int.reduceNeg, c1, h2, h4, c5, h6, h8, c9, h10, c12, h13, c15, h16, c18, h19, c21, h22, c24, h25]
                      have c27 : ansL X 32 [(.sl (encL api_Span.enc x17)), (.sl (encL api_Span.enc x20))] = Option.map encS_api_Span (mandolineref02_Or.f x17 x20) := mandolineref02_Or.ok x17 x20
                      rcases h28 : mandolineref02_Or.f x17 x20 with _ | x29
                      · simp only [D, DT, reduceIte, reduceCtorEq, Nat.reduceEqDiff, Nat.reduceAdd, Nat.reduceLT, Nat.reduceLeDiff, Nat.reduceBEq, Int.reduceLE, Int.reduceLT, Int.reduceEq, Int.reduceNeg, c1, h2, h4, c5, h6, h8, c9, h10, c12, h13, c15, h16, c18, h19, c21, h22, c24, h25, c27, h28]
                      · simp only [D, DT, reduceIte, reduceCtorEq, Nat.reduceEqDiff, Nat.reduceAdd, Nat.reduceLT, Nat.reduceLeDiff, Nat.reduceBEq, Int.reduceLE, Int.reduceLT, Int.reduceEq, Int.reduceNeg, c1, h2, h4, c5, h6, h8, c9, h10, c12, h13, c15, h16, c18, h19, c21, h22, c24, h25, c27, h28]
                        have c30 : ansL X 24 [(.sl (encL api_Span.enc x26)), (.sl (encL api_Span.enc x29))] = Option.map AV.bool (mandolineref02_List.f x26 x29) := mandolineref02_List.ok x26 x29
                        rcases h31 : mandolineref02_List.f x26 x29 with _ | x32
                        · simp only [D, DT, reduceIte, reduceCtorEq, Nat.reduceEqDiff, Nat.reduceAdd, Nat.reduceLT, Nat.reduceLeDiff, Nat.reduceBEq, Int.reduceLE, Int.reduceLT, Int.reduceEq, Int.reduceNeg, c1, h2, h4, c5, h6, h8, c9, h10, c12, h13, c15, h16, c18, h19, c21, h22, c24, h25, c27, h28, c30, h31]
                        · simp only [D, DT, reduceIte, reduceCtorEq, Nat.reduceEqDiff, Nat.reduceAdd, Nat.reduceLT, Nat.reduceLeDiff, Nat.reduceBEq, Int.reduceLE, Int.reduceLT, Int.reduceEq, Int.reduceNeg, c1, h2, h4, c5, h6, h8, c9, h10, c12, h13, c15, h16, c18, h19, c21, h22, c24, h25, c27, h28, c30, h31]
                          cases h33 : x32
                          · simp only [D, DT, reduceIte, reduceCtorEq, Nat.reduceEqDiff, Nat.reduceAdd, Nat.reduceLT, Nat.reduceLeDiff, Nat.reduceBEq, Int.reduceLE, Int.reduceLT, Int.reduceEq, Int.reduceNeg, c1, h2, h4, c5, h6, h8, c9, h10, c12, h13, c15, h16, c18, h19, c21, h22, c24, h25, c27, h28, c30, h31, h33]
                            try rfl
                          · simp only [D, DT, reduceIte, reduceCtorEq, Nat.reduceEqDiff, Nat.reduceAdd, Nat.reduceLT, Nat.reduceLeDiff, Nat.reduceBEq, Int.reduceLE, Int.reduceLT, Int.reduceEq, Int.reduceNeg, c1, h2, h4, c5, h6, h8, c9, h10, c12, h13, c15, h16, c18, h19, c21, h22, c24, h25, c27, h28, c30, h31, h33]
                            have c34 : ansL X 33 [(.agg [(.sl (encL api_Span.enc x11.l_))]), (.agg [(.sl (encL api_Span.enc x14.l_))])] = Option.map ranges_Set.enc (ranges_Set_And.f x11 x14) := ranges_Set_And.ok x11 x14
                            rcases h35 : ranges_Set_And.f x11 x14 with _ | x36
                            · simp only [D, DT, reduceIte, reduceCtorEq, Nat.reduceEqDiff, Nat.reduceAdd, Nat.reduceLT, Nat.reduceLeDiff, Nat.reduceBEq, Int.reduceLE, Int.reduceLT, Int.reduceEq, Int.reduceNeg, c1, h2, h4, c5, h6, h8, c9, h10, c12, h13, c15, h16, c18, h19, c21, h22, c24, h25, c27, h28, c30, h31, h33, c34, h35]
                            · simp only [D, DT, reduceIte, reduceCtorEq, Nat.reduceEqDiff, Nat.reduceAdd, Nat.reduceLT, Nat.reduceLeDiff, Nat.reduceBEq, Int.reduceLE, Int.reduceLT, Int.reduceEq, Int.reduceNeg, c1, h2, h4, c5, h6, h8, c9, h10, c12, h13, c15, h16, c18, h19, c21, h22, c24, h25, c27, h28, c30, h31, h33, c34, h35]
                              have c37 : ansL X 25 [(.agg [(.sl (encL api_Span.enc x36.l_))])] = Option.map encS_api_Span (ranges_Set_Spans.f x36) := ranges_Set_Spans.ok x36
                              rcases h38 : ranges_Set_Spans.f x36 with _ | x39
                              · simp only [D, DT, reduceIte, reduceCtorEq, Nat.reduceEqDiff, Nat.reduceAdd, Nat.reduceLT, Nat.reduceLeDiff, Nat.reduceBEq, Int.reduceLE, Int.reduceLT, Int.reduceEq, Int.reduceNeg, c1, h2, h4, c5, h6, h8, c9, h10, c12, h13, c15, h16, c18, h19, c21, h22, c24, h25, c27, h28, c30, h31, h33, c34, h35, c37, h38]
                              · simp only [D, DT, reduceIte, reduceCtorEq, Nat.reduceEqDiff, Nat.reduceAdd, Nat.reduceLT, Nat.reduceLeDiff, Nat.reduceBEq, Int.reduceLE, Int.reduceLT, Int.reduceEq, Int.reduceNeg, c1, h2, h4, c5, h6, h8, c9, h10, c12, h13, c15, h16, c18, h19, c21, h22, c24, h25, c27, h28, c30, h31, h33, c34, h35, c37, h38]
                                have c40 : ansL X 34 [(.sl (encL api_Span.enc x17)), (.sl (encL api_Span.enc x20))] = Option.map encS_api_Span (mandolineref02_And.f x17 x20) := mandolineref02_And.ok x17 x20
                                rcases h41 : mandolineref02_And.f x17 x20 with _ | x42
                                · simp only [D, DT, reduceIte, reduceCtorEq, Nat.reduceEqDiff, Nat.reduceAdd, Nat.reduceLT, Nat.reduceLeDiff, Nat.reduceBEq, Int.reduceLE, Int.reduceLT, Int.reduceEq, Int.reduceNeg, c1, h2, h4, c5, h6, h8, c9, h10, c12, h13, c15, h16, c18, h19, c21, h22, c24, h25, c27, h28, c30, h31, h33, c34, h35, c37, h38, c40, h41]
                                · simp only [D, DT, reduceIte, reduceCtorEq, Nat.reduceEqDiff, Nat.reduceAdd, Nat.reduceLT, Nat.reduceLeDiff, Nat.reduceBEq, Int.reduceLE, Int.reduceLT, Int.reduceEq, Int.reduceNeg, c1, h2, h4, c5, h6, h8, c9, h10, c12, h13, c15, h16, c18, h19, c21, h22, c24, h25, c27, h28, c30, h31, h33, c34, h35, c37, h38, c40, h41]
                                  have c43 : ansL X 24 [(.sl (encL api_Span.enc x39)), (.sl (encL api_Span.enc x42))] = Option.map AV.bool (mandolineref02_List.f x39 x42) := mandolineref02_List.ok x39 x42
                                  rcases h44 : mandolineref02_List.f x39 x42 with _ | x45
                                  · simp only [D, DT, reduceIte, reduceCtorEq, Nat.reduceEqDiff, Nat.reduceAdd, Nat.reduceLT, Nat.reduceLeDiff, Nat.reduceBEq, Int.reduceLE, Int.reduceLT, Int.reduceEq, Int.reduceNeg, c1, h2, h4, c5, h6, h8, c9, h10, c12, h13, c15, h16, c18, h19, c21, h22, c24, h25, c27, h28, c30, h31, h33, c34, h35, c37, h38, c40, h41, c43, h44]
                                  · simp only [D, DT, reduceIte, reduceCtorEq, Nat.reduceEqDiff, Nat.reduceAdd, Nat.reduceLT, Nat.reduceLeDiff, Nat.reduceBEq, Int.reduceLE, Int.reduceLT, Int.reduceEq, Int.reduceNeg, c1, h2, h4, c5, h6, h8, c9, h10, c12, h13, c15, h16, c18, h19, c21, h22, c24, h25, c27, h28, c30, h31, h33, c34, h35, c37, h38, c40, h41, c43, h44]
                                    cases h46 : x45
                                    · simp only [D, DT, reduceIte, reduceCtorEq, Nat.reduceEqDiff, Nat.reduceAdd, Nat.reduceLT, Nat.reduceLeDiff, Nat.reduceBEq, Int.reduceLE, Int.reduceLT, Int.reduceEq, Int.reduceNeg, c1, h2, h4, c5, h6, h8, c9, h10, c12, h13, c15, h16, c18, h19, c21, h22, c24, h25, c27, h28, c30, h31, h33, c34, h35, c37, h38, c40, h41, c43, h44, h46]
                                      try rfl
                                    · simp only [D, DT, reduceIte, reduceCtorEq, Nat.reduceEqDiff, Nat.reduceAdd, Nat.reduceLT, Nat.reduceLeDiff, Nat.reduceBEq, Int.reduceLE, Int.reduceLT, Int.reduceEq, Int.reduceNeg, c1, h2, h4, c5, h6, h8, c9, h10, c12, h13, c15, h16, c18, h19, c21, h22, c24, h25, c27, h28, c30, h31, h33, c34, h35, c37, h38, c40, h41, c43, h44, h46]
                                      have c47 : ansL X 35 [(.agg [(.sl (encL api_Span.enc x11.l_))]), (.agg [(.sl (encL api_Span.enc x14.l_))])] = Option.map ranges_Set.enc (ranges_Set_Less.f x11 x14) := ranges_Set_Less.ok x11 x14
                                      rcases h48 : ranges_Set_Less.f x11 x14 with _ | x49
                                      · simp only [D, DT, reduceIte, reduceCtorEq, Nat.reduceEqDiff, Nat.reduceAdd, Nat.reduceLT, Nat.reduceLeDiff, Nat.reduceBEq, Int.reduceLE, Int.reduceLT, Int.reduceEq, Int.reduceNeg, c1, h2, h4, c5, h6, h8, c9, h10, c12, h13, c15, h16, c18, h19, c21, h22, c24, h25, c27, h28, c30, h31, h33, c34, h35, c37, h38, c40, h41, c43, h44, h46, c47, h48]
                                      · simp only [D, DT, reduceIte, reduceCtorEq, Nat.reduceEqDiff, Nat.reduceAdd, Nat.reduceLT, Nat.reduceLeDiff, Nat.reduceBEq, Int.reduceLE, Int.reduceLT, Int.reduceEq, Int.reduceNeg, c1, h2, h4, c5, h6, h8, c9, h10, c12, h13, c15, h16, c18, h19, c21, h22, c24, h25, c27, h28, c30, h31, h33, c34, h35, c37, h38, c40, h41, c43, h44, h46, c47, h48]
                                        have c50 : ansL X 25 [(.agg [(.sl (encL api_Span.enc x49.l_))])] = Option.map encS_api_Span (ranges_Set_Spans.f x49) := ranges_Set_Spans.ok x49
                                        rcases h51 : ranges_Set_Spans.f x49 with _ | x52
                                        · simp only [D, DT, reduceIte, reduceCtorEq, Nat.reduceEqDiff, Nat.reduceAdd, Nat.reduceLT, Nat.reduceLeDiff, Nat.reduceBEq, Int.reduceLE, Int.reduceLT, Int.reduceEq, Int.reduceNeg, c1, h2, h4, c5, h6, h8, c9, h10, c12, h13, c15, h16, c18, h19, c21, h22, c24, h25, c27, h28, c30, h31, h33, c34, h35, c37, h38, c40, h41, c43, h44, h46, c47, h48, c50, h51]
                                        · simp only [D, DT, reduceIte, reduceCtorEq, Nat.reduceEqDiff, Nat.reduceAdd, Nat.reduceLT, Nat.reduceLeDiff, Nat.reduceBEq, Int.reduceLE, Int.reduceLT, Int.reduceEq, Int.reduceNeg, c1, h2, h4, c5, h6, h8, c9, h10, c12, h13, c15, h16, c18, h19, c21, h22, c24, h25, c27, h28, c30, h31, h33, c34, h35, c37, h38, c40, h41, c43, h44, h46, c47, h48, c50, h51]
                                          have c53 : ansL X 36 [(.sl (encL api_Span.enc x17)), (.sl (encL api_Span.enc x20))] = Option.map encS_api_Span (mandolineref02_Less.f x17 x20) := mandolineref02_Less.ok x17 x20
                                          rcases h54 : mandolineref02_Less.f x17 x20 with _ | x55
                                          · simp only [D, DT, reduceIte, reduceCtorEq, Nat.reduceEqDiff, Nat.reduceAdd, Nat.reduceLT, Nat.reduceLeDiff, Nat.reduceBEq, Int.reduceLE, Int.reduceLT, Int.reduceEq, Int.reduceNeg, c1, h2, h4, c5, h6, h8, c9, h10, c12, h13, c15, h16, c18, h19, c21, h22, c24, h25, c27, h28, c30, h31, h33, c34, h35, c37, h38, c40, h41, c43, h44, h46, c47, h48, c50, h51, c53, h54]
                                          · simp only [D, DT, reduceIte, reduceCtorEq, Nat.reduceEqDiff, Nat.reduceAdd, Nat.reduceLT, Nat.reduceLeDiff, Nat.reduceBEq, Int.reduceLE, Int.reduceLT, Int.reduceEq, Int.reduceNeg, c1, h2, h4, c5, h6, h8, c9, h10, c12, h13, c15, h16, c18, h19, c21, h22, c24, h25, c27, h28, c30, h31, h33, c34, h35, c37, h38, c40, h41, c43, h44, h46, c47, h48, c50, h51, c53, h54]
                                            have c56 : ansL X 24 [(.sl (encL api_Span.enc x52)), (.sl (encL api_Span.enc x55))] = Option.map AV.bool (mandolineref02_List.f x52 x55) := mandolineref02_List.ok x52 x55
                                            rcases h57 : mandolineref02_List.f x52 x55 with _ | x58
                                            · simp only [D, DT, reduceIte, reduceCtorEq, Nat.reduceEqDiff, Nat.reduceAdd, Nat.reduceLT, Nat.reduceLeDiff, Nat.reduceBEq, Int.reduceLE, Int.reduceLT, Int.reduceEq, Int.reduceNeg, c1, h2, h4, c5, h6, h8, c9, h10, c12, h13, c15, h16, c18, h19, c21, h22, c24, h25, c27, h28, c30, h31, h33, c34, h35, c37, h38, c40, h41, c43, h44, h46, c47, h48, c50, h51, c53, h54, c56, h57]
                                            · simp only [D, DT, reduceIte, reduceCtorEq, Nat.reduceEqDiff, Nat.reduceAdd, Nat.reduceLT, Nat.reduceLeDiff, Nat.reduceBEq, Int.reduceLE, Int.reduceLT, Int.reduceEq, Int.reduceNeg, c1, h2, h4, c5, h6, h8, c9, h10, c12, h13, c15, h16, c18, h19, c21, h22, c24, h25, c27, h28, c30, h31, h33, c34, h35, c37, h38, c40, h41, c43, h44, h46, c47, h48, c50, h51, c53, h54, c56, h57]
                                              cases h59 : x58
                                              · simp only [D, DT, reduceIte, reduceCtorEq, Nat.reduceEqDiff, Nat.reduceAdd, Nat.reduceLT, Nat.reduceLeDiff, Nat.reduceBEq, Int.reduceLE, Int.reduceLT, Int.reduceEq, Int.reduceNeg, c1, h2, h4, c5, h6, h8, c9, h10, c12, h13, c15, h16, c18, h19, c21, h22, c24, h25, c27, h28, c30, h31, h33, c34, h35, c37, h38, c40, h41, c43, h44, h46, c47, h48, c50, h51, c53, h54, c56, h57, h59]
                                                try rfl
                                              · simp only [D, DT, reduceIte, reduceCtorEq, Nat.reduceEqDiff, Nat.reduceAdd, Nat.reduceLT, Nat.reduceLeDiff, Nat.reduceBEq, Int.reduceLE, Int.reduceLT, Int.reduceEq, Int.reduceNeg, c1, h2, h4, c5, h6, h8, c9, h10, c12, h13, c15, h16, c18, h19, c21, h22, c24, h25, c27, h28, c30, h31, h33, c34, h35, c37, h38, c40, h41, c43, h44, h46, c47, h48, c50, h51, c53, h54, c56, h57, h59]
                                                have c60 : ansL X 30 [(.agg [(.sl (encL api_Span.enc x11.l_))]), (.agg [(.sl (encL api_Span.enc x14.l_))])] = Option.map AV.bool (ranges_Set_Same.f x11 x14) := ranges_Set_Same.ok x11 x14
                                                rcases h61 : ranges_Set_Same.f x11 x14 with _ | x62
                                                · simp only [D, DT, reduceIte, reduceCtorEq, Nat.reduceEqDiff, Nat.reduceAdd, Nat.reduceLT, Nat.reduceLeDiff, Nat.reduceBEq, Int.reduceLE, Int.reduceLT, Int.reduceEq, Int.reduceNeg, c1, h2, h4, c5, h6, h8, c9, h10, c12, h13, c15, h16, c18, h19, c21, h22, c24, h25, c27, h28, c30, h31, h33, c34, h35, c37, h38, c40, h41, c43, h44, h46, c47, h48, c50, h51, c53, h54, c56, h57, h59, c60, h61]
                                                · simp only [D, DT, reduceIte, reduceCtorEq, Nat.reduceEqDiff, Nat.reduceAdd, Nat.reduceLT, Nat.reduceLeDiff, Nat.reduceBEq, Int.reduceLE, Int.reduceLT, Int.reduceEq, Int.reduceNeg, c1, h2, h4, c5, h6, h8, c9, h10, c12, h13, c15, h16, c18, h19, c21, h22, c24, h25, c27, h28, c30, h31, h33, c34, h35, c37, h38, c40, h41, c43, h44, h46, c47, h48, c50, h51, c53, h54, c56, h57, h59, c60, h61]
                                                  have c63 : ansL X 37 [(.sl (encL api_Span.enc x17)), (.sl (encL api_Span.enc x20))] = Option.map AV.bool (mandolineref02_Same.f x17 x20) := mandolineref02_Same.ok x17 x20
                                                  rcases h64 : mandolineref02_Same.f x17 x20 with _ | x65
                                                  · simp only [D, DT, reduceIte, reduceCtorEq, Nat.reduceEqDiff, Nat.reduceAdd, Nat.reduceLT, Nat.reduceLeDiff, Nat.reduceBEq, Int.reduceLE, Int.reduceLT, Int.reduceEq, Int.reduceNeg, c1, h2, h4, c5, h6, h8, c9, h10, c12, h13, c15, h16, c18, h19, c21, h22, c24, h25, c27, h28, c30, h31, h33, c34, h35, c37, h38, c40, h41, c43, h44, h46, c47, h48, c50, h51, c53, h54, c56, h57, h59, c60, h61, c63, h64]
                                                  · simp only [D, DT, reduceIte, reduceCtorEq, Nat.reduceEqDiff, Nat.reduceAdd, Nat.reduceLT, Nat.reduceLeDiff, Nat.reduceBEq, Int.reduceLE, Int.reduceLT, Int.reduceEq, Int.reduceNeg, c1, h2, h4, c5, h6, h8, c9, h10, c12, h13, c15, h16, c18, h19, c21, h22, c24, h25, c27, h28, c30, h31, h33, c34, h35, c37, h38, c40, h41, c43, h44, h46, c47, h48, c50, h51, c53, h54, c56, h57, h59, c60, h61, c63, h64]
                                                    try rfl
        · simp only [D, DT, reduceIte, reduceCtorEq, Nat.reduceEqDiff, Nat.reduceAdd, Nat.reduceLT, Nat.reduceLeDiff, Nat.reduceBEq, Int.reduceLE, Int.reduceLT, Int.reduceEq, Int.reduceNeg, c1, h2, h4, c5, h6, h8]
          try rfl
end Go.Proofs.YtcahamgecejmnaaDoor
